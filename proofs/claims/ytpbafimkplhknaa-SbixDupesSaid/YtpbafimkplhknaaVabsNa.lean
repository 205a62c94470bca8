/-
  Chapter 15: the numbers of a font, where its glyphs stand.
-/
import Derived.Test.YtpbafimkplhknaaVabsSp
namespace Go.Vabs.Na
set_option linter.unusedVariables false
set_option linter.unusedSimpArgs false
set_option maxRecDepth 10000
def Read_c (n_Table : Nat) (n_U16 : Nat) (n_I16 : Nat) : AFunc := AFunc.mk 84 (.seq (.reg [AOper.mk (some (.i .h)) (.alloc [.int .i64 (.ofNat 0), .int .i64 (.ofNat 0), .bool false]) none, AOper.mk (some (.o (.o .h))) (.mv (.c (.int .i64 (.ofNat 0)))) none]) (.seq (.seq (.reg [AOper.mk (some (.i (.i (.i .h)))) (.bin .eql (.nils .ptr) (.t .h) (.c (.ptr none))) none]) (.cond (.t (.i (.i (.i .h)))) (.seq (.reg [AOper.mk (some (.o (.o (.o (.o .h))))) (.build [.int .i64 (.ofNat 0), .int .i64 (.ofNat 0), .bool false] []) none, AOper.mk none (.store 3 (.t (.i .h)) (.t (.o (.o (.o (.o .h)))))) none, AOper.mk (some (.o (.o .h))) (.mv (.c (.int .i64 (.ofNat 1)))) none]) .ret) .skip)) (.seq (.reg [AOper.mk (some (.i (.i (.o (.o .h))))) (.call n_Table [.t .h, .c (.str [104, 101, 97, 100])]) none, AOper.mk (some (.o (.o (.i (.o .h))))) (.extract (.t (.i (.i (.o (.o .h))))) 0) none, AOper.mk (some (.i (.o (.i (.o .h))))) (.extract (.t (.i (.i (.o (.o .h))))) 1) none, AOper.mk (some (.i (.o .h))) (.mv (.t (.o (.o (.i (.o .h)))))) none, AOper.mk (some (.o (.i .h))) (.mv (.t (.i (.o (.i (.o .h)))))) none]) (.seq (.reg [AOper.mk (some (.o (.o (.o (.i .h))))) (.call n_U16 [.t (.i (.o .h)), .c (.int .i64 (.ofNat 18))]) none, AOper.mk (some (.i (.o (.o (.i .h))))) (.extract (.t (.o (.o (.o (.i .h))))) 0) none, AOper.mk (some (.o (.i (.o (.i .h))))) (.extract (.t (.o (.o (.o (.i .h))))) 1) none, AOper.mk (some (.i (.i .h))) (.mv (.t (.i (.o (.o (.i .h)))))) none, AOper.mk (some (.o (.o (.o .h)))) (.mv (.t (.o (.i (.o (.i .h)))))) none]) (.seq (.reg [AOper.mk (some (.i (.o (.i (.i .h))))) (.call n_I16 [.t (.i (.o .h)), .c (.int .i64 (.ofNat 50))]) none, AOper.mk (some (.o (.i (.i (.i .h))))) (.extract (.t (.i (.o (.i (.i .h))))) 0) none, AOper.mk (some (.i (.i (.i (.i .h))))) (.extract (.t (.i (.o (.i (.i .h))))) 1) none, AOper.mk (some (.i (.o (.o .h)))) (.mv (.t (.o (.i (.i (.i .h)))))) none, AOper.mk (some (.o (.i (.o .h)))) (.mv (.t (.i (.i (.i (.i .h)))))) none]) (.seq (.block 0 (.seq (.reg [AOper.mk (some (.o (.i (.o (.o (.o .h)))))) (.un .not (.t (.o (.i .h)))) none, AOper.mk (some (.o (.o (.o (.o (.o .h)))))) (.mv (.t (.o (.i (.o (.o (.o .h))))))) none]) (.cond (.t (.o (.o (.o (.o (.o .h)))))) (.seq (.reg [AOper.mk (some (.i (.i (.o (.o (.o .h)))))) (.build [.int .i64 (.ofNat 0), .int .i64 (.ofNat 0), .bool false] []) none, AOper.mk none (.store 3 (.t (.i .h)) (.t (.i (.i (.o (.o (.o .h))))))) none, AOper.mk (some (.o (.o .h))) (.mv (.c (.int .i64 (.ofNat 6)))) none]) .ret) (.seq (.reg [AOper.mk (some (.o (.i (.i (.o (.o .h)))))) (.len .slice (.t (.i (.o .h)))) none, AOper.mk (some (.i (.i (.i (.o (.o .h)))))) (.bin .lss (.val .int) (.t (.o (.i (.i (.o (.o .h)))))) (.c (.int .i64 (.ofNat 54)))) none, AOper.mk (some (.o (.o (.i (.o (.o .h)))))) (.mv (.t (.i (.i (.i (.o (.o .h))))))) none]) (.cond (.t (.o (.o (.i (.o (.o .h)))))) (.seq (.reg [AOper.mk (some (.o (.o (.o (.i (.o .h)))))) (.build [.int .i64 (.ofNat 0), .int .i64 (.ofNat 0), .bool false] []) none, AOper.mk none (.store 3 (.t (.i .h)) (.t (.o (.o (.o (.i (.o .h))))))) none, AOper.mk (some (.o (.o .h))) (.mv (.c (.int .i64 (.ofNat 3)))) none]) .ret) (.seq (.reg [AOper.mk (some (.i (.i (.o (.i (.o .h)))))) (.bin .lss (.val .int) (.t (.i (.i .h))) (.c (.int .i64 (.ofNat 16)))) none, AOper.mk (some (.o (.o (.i (.i (.o .h)))))) (.mv (.t (.i (.i (.o (.i (.o .h))))))) none, AOper.mk (some (.o (.i (.i (.i (.o .h)))))) (.bin .gtr (.val .int) (.t (.i (.i .h))) (.c (.int .i64 (.ofNat 16384)))) (some (.o (.o (.i (.i (.o .h)))), false)), AOper.mk (some (.i (.i (.i (.i (.o .h)))))) (.pick (.t (.o (.o (.i (.i (.o .h)))))) (.c (.bool true)) (.t (.o (.i (.i (.i (.o .h))))))) none, AOper.mk (some (.o (.o (.o (.o (.i .h)))))) (.mv (.t (.i (.i (.i (.i (.o .h))))))) none, AOper.mk (some (.o (.i (.o (.o (.i .h)))))) (.bin .lss (.val .int) (.t (.i (.o (.o .h)))) (.c (.int .i64 (.ofNat 0)))) (some (.o (.o (.o (.o (.i .h)))), false)), AOper.mk (some (.i (.i (.o (.o (.i .h)))))) (.pick (.t (.o (.o (.o (.o (.i .h)))))) (.c (.bool true)) (.t (.o (.i (.o (.o (.i .h))))))) none, AOper.mk (some (.o (.o (.i (.o (.i .h)))))) (.mv (.t (.i (.i (.o (.o (.i .h))))))) none, AOper.mk (some (.o (.i (.i (.o (.i .h)))))) (.bin .gtr (.val .int) (.t (.i (.o (.o .h)))) (.c (.int .i64 (.ofNat 1)))) (some (.o (.o (.i (.o (.i .h)))), false)), AOper.mk (some (.i (.i (.i (.o (.i .h)))))) (.pick (.t (.o (.o (.i (.o (.i .h)))))) (.c (.bool true)) (.t (.o (.i (.i (.o (.i .h))))))) none, AOper.mk (some (.i (.o (.o (.i (.o .h)))))) (.mv (.t (.i (.i (.i (.o (.i .h))))))) none]) (.cond (.t (.i (.o (.o (.i (.o .h)))))) (.seq (.reg [AOper.mk (some (.o (.o (.o (.i (.i .h)))))) (.build [.int .i64 (.ofNat 0), .int .i64 (.ofNat 0), .bool false] []) none, AOper.mk none (.store 3 (.t (.i .h)) (.t (.o (.o (.o (.i (.i .h))))))) none, AOper.mk (some (.o (.o .h))) (.mv (.c (.int .i64 (.ofNat 2)))) none]) .ret) .skip))))))) (.seq (.reg [AOper.mk (some (.i (.i (.o (.i (.i .h)))))) (.call n_Table [.t .h, .c (.str [109, 97, 120, 112])]) none, AOper.mk (some (.o (.o (.i (.i (.i .h)))))) (.extract (.t (.i (.i (.o (.i (.i .h)))))) 0) none, AOper.mk (some (.i (.o (.i (.i (.i .h)))))) (.extract (.t (.i (.i (.o (.i (.i .h)))))) 1) none, AOper.mk (some (.i (.i (.o .h)))) (.mv (.t (.o (.o (.i (.i (.i .h))))))) none, AOper.mk (some (.o (.i .h))) (.mv (.t (.i (.o (.i (.i (.i .h))))))) none]) (.seq (.reg [AOper.mk (some (.o (.o (.o (.o (.o (.o .h))))))) (.call n_U16 [.t (.i (.i (.o .h))), .c (.int .i64 (.ofNat 4))]) none, AOper.mk (some (.i (.o (.o (.o (.o (.o .h))))))) (.extract (.t (.o (.o (.o (.o (.o (.o .h))))))) 0) none, AOper.mk (some (.o (.i (.o (.o (.o (.o .h))))))) (.extract (.t (.o (.o (.o (.o (.o (.o .h))))))) 1) none, AOper.mk (some (.o (.o (.i .h)))) (.mv (.t (.i (.o (.o (.o (.o (.o .h)))))))) none, AOper.mk (some (.i (.o (.i .h)))) (.mv (.t (.o (.i (.o (.o (.o (.o .h)))))))) none]) (.seq (.block 1 (.seq (.reg [AOper.mk (some (.i (.o (.i (.o (.o (.o .h))))))) (.un .not (.t (.o (.i .h)))) none, AOper.mk (some (.i (.i (.o (.o (.o (.o .h))))))) (.mv (.t (.i (.o (.i (.o (.o (.o .h)))))))) none]) (.cond (.t (.i (.i (.o (.o (.o (.o .h))))))) (.seq (.reg [AOper.mk (some (.o (.i (.i (.o (.o (.o .h))))))) (.build [.int .i64 (.ofNat 0), .int .i64 (.ofNat 0), .bool false] []) none, AOper.mk none (.store 3 (.t (.i .h)) (.t (.o (.i (.i (.o (.o (.o .h)))))))) none, AOper.mk (some (.o (.o .h))) (.mv (.c (.int .i64 (.ofNat 6)))) none]) .ret) (.seq (.reg [AOper.mk (some (.i (.o (.o (.i (.o (.o .h))))))) (.len .slice (.t (.i (.i (.o .h))))) none, AOper.mk (some (.o (.i (.o (.i (.o (.o .h))))))) (.bin .lss (.val .int) (.t (.i (.o (.o (.i (.o (.o .h))))))) (.c (.int .i64 (.ofNat 6)))) none, AOper.mk (some (.i (.i (.i (.o (.o (.o .h))))))) (.mv (.t (.o (.i (.o (.i (.o (.o .h)))))))) none]) (.cond (.t (.i (.i (.i (.o (.o (.o .h))))))) (.seq (.reg [AOper.mk (some (.i (.i (.o (.i (.o (.o .h))))))) (.build [.int .i64 (.ofNat 0), .int .i64 (.ofNat 0), .bool false] []) none, AOper.mk none (.store 3 (.t (.i .h)) (.t (.i (.i (.o (.i (.o (.o .h)))))))) none, AOper.mk (some (.o (.o .h))) (.mv (.c (.int .i64 (.ofNat 3)))) none]) .ret) (.seq (.reg [AOper.mk (some (.o (.i (.i (.i (.o (.o .h))))))) (.bin .eql (.val .int) (.t (.o (.o (.i .h)))) (.c (.int .i64 (.ofNat 0)))) none, AOper.mk (some (.o (.o (.i (.i (.o (.o .h))))))) (.mv (.t (.o (.i (.i (.i (.o (.o .h)))))))) none]) (.cond (.t (.o (.o (.i (.i (.o (.o .h))))))) (.seq (.reg [AOper.mk (some (.i (.i (.i (.i (.o (.o .h))))))) (.build [.int .i64 (.ofNat 0), .int .i64 (.ofNat 0), .bool false] []) none, AOper.mk none (.store 3 (.t (.i .h)) (.t (.i (.i (.i (.i (.o (.o .h)))))))) none, AOper.mk (some (.o (.o .h))) (.mv (.c (.int .i64 (.ofNat 2)))) none]) .ret) .skip))))))) (.seq (.reg [AOper.mk (some (.i (.i (.o (.o (.i (.o .h))))))) (.bin .eql (.val .int) (.t (.i (.o (.o .h)))) (.c (.int .i64 (.ofNat 1)))) none, AOper.mk (some (.o (.o (.i (.o (.i (.o .h))))))) (.build [.int .i64 (.ofNat 0), .int .i64 (.ofNat 0), .bool false] [(0, (1, .t (.i (.i .h)))), (1, (1, .t (.o (.o (.i .h))))), (2, (1, .t (.i (.i (.o (.o (.i (.o .h))))))))]) none, AOper.mk none (.store 3 (.t (.i .h)) (.t (.o (.o (.i (.o (.i (.o .h)))))))) none, AOper.mk (some (.o (.o .h))) (.mv (.c (.int .i64 (.ofNat 0)))) none]) .ret)))))))))) [.cell (.i .h) true 3, .tmp (.o (.o .h))]
def Range_c (n_Table : Nat) (n_entry : Nat) : AFunc := AFunc.mk 83 (.seq (.reg [AOper.mk (some (.i (.o .h))) (.box (.t (.o .h))) none, AOper.mk (some (.i (.i .h))) (.mv (.c (.int .i64 (.ofNat 0)))) none, AOper.mk (some (.o (.o (.o .h)))) (.mv (.c (.int .i64 (.ofNat 0)))) none, AOper.mk (some (.i (.o (.o .h)))) (.mv (.c (.int .i64 (.ofNat 0)))) none]) (.seq (.seq (.reg [AOper.mk (some (.i (.o (.o (.o .h))))) (.bin .eql (.nils .ptr) (.t .h) (.c (.ptr none))) none, AOper.mk (some (.o (.i (.o (.o .h))))) (.mv (.t (.i (.o (.o (.o .h)))))) none, AOper.mk (some (.o (.o (.i (.o .h))))) (.bin .lss (.val .int) (.t (.i .h)) (.c (.int .i64 (.ofNat 0)))) (some (.o (.i (.o (.o .h))), false)), AOper.mk (some (.i (.o (.i (.o .h))))) (.pick (.t (.o (.i (.o (.o .h))))) (.c (.bool true)) (.t (.o (.o (.i (.o .h)))))) none, AOper.mk (some (.o (.i (.i (.o .h))))) (.mv (.t (.i (.o (.i (.o .h)))))) none, AOper.mk (some (.o (.o (.o (.i .h))))) (.fieldAddr 1 (.t (.i (.o .h)))) (some (.o (.i (.i (.o .h))), false)), AOper.mk (some (.i (.o (.o (.i .h))))) (.load false 1 (.t (.o (.o (.o (.i .h)))))) (some (.o (.i (.i (.o .h))), false)), AOper.mk (some (.o (.i (.o (.i .h))))) (.bin .geq (.val .int) (.t (.i .h)) (.t (.i (.o (.o (.i .h)))))) (some (.o (.i (.i (.o .h))), false)), AOper.mk (some (.i (.i (.o (.i .h))))) (.pick (.t (.o (.i (.i (.o .h))))) (.c (.bool true)) (.t (.o (.i (.o (.i .h)))))) none]) (.cond (.t (.i (.i (.o (.i .h))))) (.seq (.reg [AOper.mk (some (.i (.i .h))) (.mv (.c (.int .i64 (.ofNat 0)))) none, AOper.mk (some (.o (.o (.o .h)))) (.mv (.c (.int .i64 (.ofNat 0)))) none, AOper.mk (some (.i (.o (.o .h)))) (.mv (.c (.int .i64 (.ofNat 1)))) none]) .ret) .skip)) (.seq (.reg [AOper.mk (some (.o (.i (.i (.i .h))))) (.call n_Table [.t .h, .c (.str [108, 111, 99, 97])]) none, AOper.mk (some (.i (.i (.i (.i .h))))) (.extract (.t (.o (.i (.i (.i .h))))) 0) none, AOper.mk (some (.o (.o (.o (.o (.o .h)))))) (.extract (.t (.o (.i (.i (.i .h))))) 1) none, AOper.mk (some (.o (.i (.o .h)))) (.mv (.t (.i (.i (.i (.i .h)))))) none, AOper.mk (some (.i (.i (.o .h)))) (.mv (.t (.o (.o (.o (.o (.o .h))))))) none]) (.seq (.reg [AOper.mk (some (.i (.i (.o (.o (.o .h)))))) (.call n_Table [.t .h, .c (.str [103, 108, 121, 102])]) none, AOper.mk (some (.o (.o (.i (.o (.o .h)))))) (.extract (.t (.i (.i (.o (.o (.o .h)))))) 0) none, AOper.mk (some (.i (.o (.i (.o (.o .h)))))) (.extract (.t (.i (.i (.o (.o (.o .h)))))) 1) none, AOper.mk (some (.o (.o (.i .h)))) (.mv (.t (.o (.o (.i (.o (.o .h))))))) none, AOper.mk (some (.i (.o (.i .h)))) (.mv (.t (.i (.o (.i (.o (.o .h))))))) none]) (.seq (.seq (.reg [AOper.mk (some (.i (.i (.i (.o (.o .h)))))) (.un .not (.t (.i (.i (.o .h))))) none, AOper.mk (some (.o (.o (.o (.i (.o .h)))))) (.mv (.t (.i (.i (.i (.o (.o .h))))))) none, AOper.mk (some (.o (.i (.o (.i (.o .h)))))) (.un .not (.t (.i (.o (.i .h))))) (some (.o (.o (.o (.i (.o .h)))), false)), AOper.mk (some (.i (.i (.o (.i (.o .h)))))) (.pick (.t (.o (.o (.o (.i (.o .h)))))) (.c (.bool true)) (.t (.o (.i (.o (.i (.o .h))))))) none]) (.cond (.t (.i (.i (.o (.i (.o .h)))))) (.seq (.reg [AOper.mk (some (.i (.i .h))) (.mv (.c (.int .i64 (.ofNat 0)))) none, AOper.mk (some (.o (.o (.o .h)))) (.mv (.c (.int .i64 (.ofNat 0)))) none, AOper.mk (some (.i (.o (.o .h)))) (.mv (.c (.int .i64 (.ofNat 6)))) none]) .ret) .skip)) (.seq (.seq (.reg [AOper.mk (some (.o (.i (.i (.i (.o .h)))))) (.len .slice (.t (.o (.i (.o .h))))) none, AOper.mk (some (.i (.i (.i (.i (.o .h)))))) (.bin .gtr (.val .int) (.t (.i .h)) (.t (.o (.i (.i (.i (.o .h))))))) none]) (.cond (.t (.i (.i (.i (.i (.o .h)))))) (.seq (.reg [AOper.mk (some (.i (.i .h))) (.mv (.c (.int .i64 (.ofNat 0)))) none, AOper.mk (some (.o (.o (.o .h)))) (.mv (.c (.int .i64 (.ofNat 0)))) none, AOper.mk (some (.i (.o (.o .h)))) (.mv (.c (.int .i64 (.ofNat 3)))) none]) .ret) .skip)) (.seq (.reg [AOper.mk (some (.o (.i (.o (.o (.i .h)))))) (.fieldAddr 2 (.t (.i (.o .h)))) none, AOper.mk (some (.i (.i (.o (.o (.i .h)))))) (.load false 1 (.t (.o (.i (.o (.o (.i .h))))))) none, AOper.mk (some (.i (.o (.i (.o (.i .h)))))) (.call n_entry [.t (.o (.i (.o .h))), .t (.i (.i (.o (.o (.i .h))))), .t (.i .h)]) none, AOper.mk (some (.o (.i (.i (.o (.i .h)))))) (.extract (.t (.i (.o (.i (.o (.i .h)))))) 0) none, AOper.mk (some (.i (.i (.i (.o (.i .h)))))) (.extract (.t (.i (.o (.i (.o (.i .h)))))) 1) none, AOper.mk (some (.i (.i .h))) (.mv (.t (.o (.i (.i (.o (.i .h))))))) none, AOper.mk (some (.o (.i (.i .h)))) (.mv (.t (.i (.i (.i (.o (.i .h))))))) none]) (.seq (.reg [AOper.mk (some (.o (.i (.o (.i (.i .h)))))) (.fieldAddr 2 (.t (.i (.o .h)))) none, AOper.mk (some (.i (.i (.o (.i (.i .h)))))) (.load false 1 (.t (.o (.i (.o (.i (.i .h))))))) none, AOper.mk (some (.i (.o (.i (.i (.i .h)))))) (.bin .add (.val .int) (.t (.i .h)) (.c (.int .i64 (.ofNat 1)))) none, AOper.mk (some (.o (.i (.i (.i (.i .h)))))) (.call n_entry [.t (.o (.i (.o .h))), .t (.i (.i (.o (.i (.i .h))))), .t (.i (.o (.i (.i (.i .h)))))]) none, AOper.mk (some (.i (.i (.i (.i (.i .h)))))) (.extract (.t (.o (.i (.i (.i (.i .h)))))) 0) none, AOper.mk (some (.o (.o (.o (.o (.o (.o .h))))))) (.extract (.t (.o (.i (.i (.i (.i .h)))))) 1) none, AOper.mk (some (.o (.o (.o .h)))) (.mv (.t (.i (.i (.i (.i (.i .h))))))) none, AOper.mk (some (.i (.i (.i .h)))) (.mv (.t (.o (.o (.o (.o (.o (.o .h)))))))) none]) (.seq (.block 0 (.seq (.reg [AOper.mk (some (.i (.i (.o (.o (.o (.o .h))))))) (.un .not (.t (.o (.i (.i .h))))) none, AOper.mk (some (.o (.o (.i (.o (.o (.o .h))))))) (.mv (.t (.i (.i (.o (.o (.o (.o .h)))))))) none, AOper.mk (some (.o (.i (.i (.o (.o (.o .h))))))) (.un .not (.t (.i (.i (.i .h))))) (some (.o (.o (.i (.o (.o (.o .h))))), false)), AOper.mk (some (.i (.i (.i (.o (.o (.o .h))))))) (.pick (.t (.o (.o (.i (.o (.o (.o .h))))))) (.c (.bool true)) (.t (.o (.i (.i (.o (.o (.o .h)))))))) none, AOper.mk (some (.i (.o (.o (.o (.o (.o .h))))))) (.mv (.t (.i (.i (.i (.o (.o (.o .h)))))))) none]) (.cond (.t (.i (.o (.o (.o (.o (.o .h))))))) (.seq (.reg [AOper.mk (some (.i (.i .h))) (.mv (.c (.int .i64 (.ofNat 0)))) none, AOper.mk (some (.o (.o (.o .h)))) (.mv (.c (.int .i64 (.ofNat 0)))) none, AOper.mk (some (.i (.o (.o .h)))) (.mv (.c (.int .i64 (.ofNat 3)))) none]) .ret) (.seq (.reg [AOper.mk (some (.i (.i (.o (.i (.o (.o .h))))))) (.bin .gtr (.val .int) (.t (.i (.i .h))) (.t (.o (.o (.o .h))))) none, AOper.mk (some (.o (.o (.i (.i (.o (.o .h))))))) (.mv (.t (.i (.i (.o (.i (.o (.o .h)))))))) none, AOper.mk (some (.i (.i (.i (.i (.o (.o .h))))))) (.len .slice (.t (.o (.o (.i .h))))) (some (.o (.o (.i (.i (.o (.o .h))))), false)), AOper.mk (some (.o (.o (.o (.o (.i (.o .h))))))) (.bin .gtr (.val .int) (.t (.o (.o (.o .h)))) (.t (.i (.i (.i (.i (.o (.o .h)))))))) (some (.o (.o (.i (.i (.o (.o .h))))), false)), AOper.mk (some (.i (.o (.o (.o (.i (.o .h))))))) (.pick (.t (.o (.o (.i (.i (.o (.o .h))))))) (.c (.bool true)) (.t (.o (.o (.o (.o (.i (.o .h)))))))) none, AOper.mk (some (.o (.o (.o (.i (.o (.o .h))))))) (.mv (.t (.i (.o (.o (.o (.i (.o .h)))))))) none]) (.cond (.t (.o (.o (.o (.i (.o (.o .h))))))) (.seq (.reg [AOper.mk (some (.i (.i .h))) (.mv (.c (.int .i64 (.ofNat 0)))) none, AOper.mk (some (.o (.o (.o .h)))) (.mv (.c (.int .i64 (.ofNat 0)))) none, AOper.mk (some (.i (.o (.o .h)))) (.mv (.c (.int .i64 (.ofNat 2)))) none]) .ret) .skip))))) (.seq (.reg [AOper.mk (some (.i (.i .h))) (.mv (.t (.i (.i .h)))) none, AOper.mk (some (.o (.o (.o .h)))) (.mv (.t (.o (.o (.o .h))))) none, AOper.mk (some (.i (.o (.o .h)))) (.mv (.c (.int .i64 (.ofNat 0)))) none]) .ret)))))))))) [.tmp (.i (.i .h)), .tmp (.o (.o (.o .h))), .tmp (.i (.o (.o .h)))]
def entry_c (n_U32 : Nat) (n_U16 : Nat) : AFunc := AFunc.mk 27 (.seq (.reg [AOper.mk (some (.i (.i .h))) (.mv (.c (.int .i64 (.ofNat 0)))) none, AOper.mk (some (.o (.o (.o .h)))) (.mv (.c (.bool false))) none]) (.seq (.seq (.reg [AOper.mk (some (.i (.i (.o .h)))) (.mv (.t (.o .h))) none]) (.cond (.t (.i (.i (.o .h)))) (.seq (.reg [AOper.mk (some (.o (.i (.i .h)))) (.bin .mul (.val .int) (.c (.int .i64 (.ofNat 4))) (.t (.i .h))) none, AOper.mk (some (.i (.i (.i .h)))) (.call n_U32 [.t .h, .t (.o (.i (.i .h)))]) none, AOper.mk (some (.o (.o (.o (.o .h))))) (.extract (.t (.i (.i (.i .h)))) 0) none, AOper.mk (some (.i (.o (.o (.o .h))))) (.extract (.t (.i (.i (.i .h)))) 1) none, AOper.mk (some (.i (.i .h))) (.mv (.t (.o (.o (.o (.o .h)))))) none, AOper.mk (some (.o (.o (.o .h)))) (.mv (.t (.i (.o (.o (.o .h)))))) none]) .ret) .skip)) (.seq (.reg [AOper.mk (some (.i (.o (.i (.o .h))))) (.bin .mul (.val .int) (.c (.int .i64 (.ofNat 2))) (.t (.i .h))) none, AOper.mk (some (.o (.i (.i (.o .h))))) (.call n_U16 [.t .h, .t (.i (.o (.i (.o .h))))]) none, AOper.mk (some (.i (.i (.i (.o .h))))) (.extract (.t (.o (.i (.i (.o .h))))) 0) none, AOper.mk (some (.o (.o (.o (.i .h))))) (.extract (.t (.o (.i (.i (.o .h))))) 1) none, AOper.mk (some (.i (.o (.o .h)))) (.mv (.t (.i (.i (.i (.o .h)))))) none, AOper.mk (some (.o (.i (.o .h)))) (.mv (.t (.o (.o (.o (.i .h)))))) none]) (.seq (.reg [AOper.mk (some (.o (.i (.o (.i .h))))) (.bin .mul (.val .int) (.c (.int .i64 (.ofNat 2))) (.t (.i (.o (.o .h))))) none, AOper.mk (some (.i (.i .h))) (.mv (.t (.o (.i (.o (.i .h)))))) none, AOper.mk (some (.o (.o (.o .h)))) (.mv (.t (.o (.i (.o .h))))) none]) .ret)))) [.tmp (.i (.i .h)), .tmp (.o (.o (.o .h)))]
def big_c (n_Big : Nat) : AFunc := AFunc.mk 8 (.seq (.reg [AOper.mk (some (.i (.o .h))) (.mv (.c (.slice none 0 0 0 true))) none]) (.seq (.reg [AOper.mk (some (.o (.o (.o .h)))) (.call n_Big [.t .h, .t (.o .h)]) none, AOper.mk (some (.i (.o .h))) (.mv (.t (.o (.o (.o .h))))) none]) .ret)) [.tmp (.i (.o .h))]
def Font_c (n_RLay : Nat) : AFunc := AFunc.mk 14 (.seq (.reg [AOper.mk (some (.i (.o .h))) (.mv (.c (.slice none 0 0 0 true))) none]) (.seq (.reg [AOper.mk (some (.i (.i (.o .h)))) (.call n_RLay [.t .h, .t (.o .h)]) none, AOper.mk (some (.o (.o (.i .h)))) (.extract (.t (.i (.i (.o .h)))) 0) none, AOper.mk (some (.i (.o (.i .h)))) (.extract (.t (.i (.i (.o .h)))) 1) none, AOper.mk (some (.o (.i .h))) (.mv (.t (.o (.o (.i .h))))) none, AOper.mk (some (.i (.i .h))) (.mv (.t (.i (.o (.i .h))))) none]) (.seq (.reg [AOper.mk (some (.i (.o .h))) (.mv (.t (.o (.i .h)))) none]) .ret))) [.tmp (.i (.o .h))]
def open_c (n_Open : Nat) (n_ROpen : Nat) : AFunc := AFunc.mk 20 (.seq (.reg [AOper.mk (some (.i .h)) (.mv (.c (.ptr none))) none, AOper.mk (some (.o (.o .h))) (.mv (.c (.ptr none))) none]) (.seq (.reg [AOper.mk (some (.i (.i (.o .h)))) (.call n_Open [.t .h]) none, AOper.mk (some (.o (.o (.i .h)))) (.extract (.t (.i (.i (.o .h)))) 0) none, AOper.mk (some (.i (.o (.i .h)))) (.extract (.t (.i (.i (.o .h)))) 1) none, AOper.mk (some (.i (.o .h))) (.mv (.t (.o (.o (.i .h))))) none, AOper.mk (some (.o (.i .h))) (.mv (.t (.i (.o (.i .h))))) none]) (.seq (.reg [AOper.mk (some (.o (.o (.o (.o .h))))) (.call n_ROpen [.t .h]) none, AOper.mk (some (.i (.o (.o (.o .h))))) (.extract (.t (.o (.o (.o (.o .h))))) 0) none, AOper.mk (some (.o (.i (.o (.o .h))))) (.extract (.t (.o (.o (.o (.o .h))))) 1) none, AOper.mk (some (.i (.i .h))) (.mv (.t (.i (.o (.o (.o .h)))))) none, AOper.mk (some (.o (.o (.o .h)))) (.mv (.t (.o (.i (.o (.o .h)))))) none]) (.seq (.reg [AOper.mk (some (.i .h)) (.mv (.t (.i (.o .h)))) none, AOper.mk (some (.o (.o .h))) (.mv (.t (.i (.i .h)))) none]) .ret)))) [.tmp (.i .h), .tmp (.o (.o .h))]
attribute [local simp] wp_skip wp_ret wp_exit wp_reg wp_seq wp_cond wp_block thenQ_normal thenQ_ret thenQ_exit blockQ_normal blockQ_ret blockQ_exit wpCond_true wpCond_false wpOps_nil wpVal_some wpGuard_true wpGuard_false wpOps_guard wpOps_cons
  put_at put_no ev_c ev_slot posEq_h posEq_o posEq_i posEq_ho posEq_hi posEq_oh posEq_ih posEq_oi posEq_io sel_true sel_false
  okv_some step_mv step_call step_pick pickV_bool step_bin bin_add bin_sub bin_mul bin_eql bin_neq bin_lss bin_leq bin_gtr bin_geq bin_eqb bin_neb bin_eqs bin_nes step_un un_not un_neg step_len len_slice len_str len_const step_extract extractV nth step_convInt conv_int step_convStr step_slice step_idxAddr natOf_nat step_load step_index step_field step_fieldAddr step_build step_minmax
  step_alloc step_bslice bsliceV_some newV_some step_store step_append boolIs_b boolIs_t finQ_ret finQ_normal ressE_nil ressE_cons resE_tmp consO_some initE_nil initE_cons pos_0 pos_1 pos_2 pos_3 pos_4 pos_5 pos_6 pos_7 pos_8 plain_bool plain_int plain_str plain_ptr plain_slice plain_map plain_agg plain_func plain_nilFunc V.undef oneOf_one oneOf_two ble_self
open Go.Vabs.Pk Go.Vabs.Ph Go.Vabs.Sa Go.Vabs.Sb Go.Vabs.Sc Go.Vabs.Sd Go.Vabs.Se Go.Vabs.Sg Go.Vabs.Sh Go.Vabs.Sm Go.Vabs.Sn Go.Vabs.Sp Go.Vabs.Sr Go.Vabs.St Go.Vabs.Su Go.Vabs.L2
attribute [local simp] step_nilchk nilchk_ptr step_box cells_int cells_bool cells_str cells_slice cells_ptr cells_agg fieldAddrV natOf_zero fill repN splice over newV step_appendZ
/- WHAT TABLES TELL -/
def askL (L : List Itm) (t : List Nat) : Option (List Nat) := (L.find? fun x => decide (x.1 = t)).map (·.2)
theorem ask_some {L : List Itm} {t b : List Nat} (h : askL L t = some b) : ∃ j : Nat, L[j]? = some (t, b) := by
  unfold askL at h
  obtain ⟨x, hx, rfl⟩ := Option.map_eq_some_iff.1 h
  have h1 := List.mem_of_find?_eq_some hx
  have h2 := List.find?_some hx
  simp only [decide_eq_true_eq] at h2
  obtain ⟨j, hj, he⟩ := List.mem_iff_getElem.1 h1
  exact ⟨j, by rw [List.getElem?_eq_getElem hj, he, ← h2]⟩
theorem ask_none {L : List Itm} {t : List Nat} (h : askL L t = none) : ¬ t ∈ L.map (·.1) := by
  unfold askL at h
  rw [Option.map_eq_none_iff, List.find?_eq_none] at h
  intro hm
  obtain ⟨x, hx, rfl⟩ := List.mem_map.1 hm
  exact h x hx (by simp)
/-- A font's tables are few bytes. -/
structure Tame (L : List Itm) : Prop where
  nd : (L.map (·.1)).Nodup
  few : L.length ≤ 64
  tabs : ∀ x ∈ L, x.2.length ≤ 140737488354000 ∧ ∀ b ∈ x.2, b < 256
theorem Tame.ask {L : List Itm} (h : Tame L) {t b : List Nat} (ha : askL L t = some b) : b.length ≤ 140737488354000 ∧ ∀ x ∈ b, x < 256 := by
  obtain ⟨j, hj⟩ := ask_some ha
  exact h.tabs _ (List.mem_of_getElem? hj)
theorem held_bytes {os : List (Option AObj)} {p : Nat} {b : List Nat} (h : (os[p]?).join = some (newBytes b)) (hb : ∀ x ∈ b, x < 256) : bytesAt (few os) (heldV p b) = some b := lookB_at (lookB_own h hb).2
/-- A table that is asked of the program's font. -/
theorem ask_font {call : CallT} {g : Nat} (hT : TableF call g) (hN : TableNF call g) {os : List (Option AObj)} {F : Nat} {L : List Itm} (h : FontMem os F L) (hL : Tame L) (t : List Nat) :
    ∃ v l, call g [.ptr (some (F, 0)), .str t] (few os) = some (.tuple [v, .bool (askL L t).isSome], few (os ++ l)) ∧ v.plain = true ∧ bytesAt (few (os ++ l)) v = some ((askL L t).getD []) ∧ ∀ b, askL L t = some b → ∃ p, v = heldV p b ∧ ((os ++ l)[p]?).join = some (newBytes b) := by
  cases ha : askL L t with
  | none => exact ⟨_, [], by rw [List.append_nil]; exact h.no hN (ask_none ha), rfl, rfl, fun b hb => by cases hb⟩
  | some b =>
    obtain ⟨j, hj⟩ := ask_some ha
    obtain ⟨hb1, hb2⟩ := hL.ask ha
    have h1 := h.table hT hL.nd hj (show b.length ≤ _ by omega)
    obtain ⟨p, l, hcl, _, hp⟩ := clone_held (os := os) (b := b)
    rw [hcl] at h1
    exact ⟨_, l, h1, rfl, held_bytes hp hb2, fun b' hb' => by cases hb'; exact ⟨p, rfl, hp⟩⟩
/- THE NUMBERS OF A FONT -/
abbrev Met := Int × Int × Bool
def mV (m : Met) : V := .agg [.int .i64 m.1, .int .i64 m.2.1, .bool m.2.2]
def z3 : Met := (0, 0, false)
def tHead : List Nat := [104, 101, 97, 100]
def tMaxp : List Nat := [109, 97, 120, 112]
def tLoca : List Nat := [108, 111, 99, 97]
def tGlyf : List Nat := [103, 108, 121, 102]
def nm (b : List Nat) (x : Int) (z : Nat) : Nat := (num b x z).getD 0
def readS (L : List Itm) : Met × Int :=
  match askL L tHead with
  | none => (z3, 6)
  | some h => if h.length < 54 then (z3, 3) else if nm h 18 2 < 16 ∨ 16384 < nm h 18 2 ∨ 1 < nm h 50 2 then (z3, 2) else
    match askL L tMaxp with
    | none => (z3, 6)
    | some p => if p.length < 6 then (z3, 3) else if nm p 4 2 = 0 then (z3, 2) else ((nm h 18 2, nm p 4 2, decide (nm h 50 2 = 1)), 0)
def ReadF (call : CallT) (g : Nat) : Prop := ∀ os F L, FontMem os F L → Tame L → ∃ l, call g [.ptr (some (F, 0))] (few os) = some (.tuple [mV (readS L).1, .int .i64 (readS L).2], few (os ++ l))
theorem nm2_lt {b : List Nat} (hb : ∀ x ∈ b, x < 256) {x : Int} : nm b x 2 < 65536 := by
  have := num_lt (bs := b) (x := x) (z := 2) hb
  exact this
set_option maxHeartbeats 4000000 in
theorem Read_run {call : CallT} {lf nT nU nI : Nat} (hT : TableF call nT) (hN : TableNF call nT) (hU : UF 2 call nU) (hI : IF 2 call nI) {os : List (Option AObj)} {F : Nat} {L : List Itm} (h : FontMem os F L) (hL : Tame L) :
    ∃ l, enterF call lf [.ptr (some (F, 0))] (few os) (Read_c nT nU nI) = some (.tuple [mV (readS L).1, .int .i64 (readS L).2], few (os ++ l)) := by
  have main := enter_wp (call := call) (lf := lf) (n := 84) (args := [.ptr (some (F, 0))]) (st := few os) (K := fun u st => (∃ l, st = few (os ++ l)) ∧ u = .tuple [mV (readS L).1, .int .i64 (readS L).2]) (c := (Read_c nT nU nI).code) (rs := (Read_c nT nU nI).results) ?_
  · obtain ⟨u, st', h1, ⟨l, rfl⟩, rfl⟩ := main
    exact ⟨l, h1⟩
  · unfold Read_c
    dsimp only
    obtain ⟨N, hNe⟩ : ∃ N, N = os.length := ⟨_, rfl⟩
    obtain ⟨A, hA⟩ : ∃ A, A = os ++ [some (AObj.cells true [.int .i64 0, .int .i64 0, .bool false])] := ⟨_, rfl⟩
    have alA : (few os).alloc (.cells true [.int .i64 0, .int .i64 0, .bool false]) = some (N, few A) := by rw [hA, hNe]; exact few_alloc os _
    have hfA := h.keep (os' := A) (fun i hi => by rw [hA]; exact join_app hi)
    obtain ⟨v1, l1, t1, p1, b1, _⟩ := ask_font hT hN hfA hL tHead
    -- a store into the answer's cell, then its load
    have fin : ∀ (l : List (Option AObj)) (u n : Int) (y : Bool), ∃ l', storeV (few (A ++ l)) 3 (.ptr (some (N, 0))) (some [.int .i64 u, .int .i64 n, .bool y]) = some (V.undef, few (os ++ l')) ∧ loadV (few (os ++ l')) true 3 (.ptr (some (N, 0))) = some (.agg [.int .i64 u, .int .i64 n, .bool y]) := by
      intro l u n y
      refine ⟨[some (AObj.cells true [.int .i64 u, .int .i64 n, .bool y])] ++ l, ?_, ?_⟩
      · rw [storeAll (k := 3) (zs := [.int .i64 0, .int .i64 0, .bool false]) (os := A ++ l) (i := N) (by rw [join_app (by rw [hA]; simp [hNe]), hA, hNe]; simp) rfl rfl]
        congr 3
        rw [hA, List.append_assoc, List.set_append_right _ _ (by omega), hNe, Nat.sub_self]
        rfl
      · rw [loadAll (k := 3) (cs := [.int .i64 u, .int .i64 n, .bool y]) (own := true) ?_ rfl]
        rw [List.getElem?_append_right (by omega), hNe, Nat.sub_self]
        rfl
    have n1 : ∀ x, call nU [v1, .int .i64 x] (few (A ++ l1)) = some (numV (num ((askL L tHead).getD []) x 2), few (A ++ l1)) := fun x => hU _ _ _ _ b1 (by
      cases ha : askL L tHead with
      | none => simp
      | some b => have := (hL.ask ha).1; simp only [Option.getD_some]; omega)
    have n2 : ∀ x, call nI [v1, .int .i64 x] (few (A ++ l1)) = some (sgnV 2 (num ((askL L tHead).getD []) x 2), few (A ++ l1)) := fun x => hI _ _ _ _ b1 (by
      cases ha : askL L tHead with
      | none => simp
      | some b => have := (hL.ask ha).1; simp only [Option.getD_some]; omega)
    have ln1 := fun st' => len_bytes (st' := st') b1
    unfold readS
    cases ha : askL L tHead with
    | none =>
      rw [ha] at t1 n1 n2
      unfold tHead at t1
      obtain ⟨l', f1, f2⟩ := fin l1 0 0 false
      simp (disch := omega) [alA, t1, p1, n1, n2, numV, sgnV, bin_eqptr, resE_cell, f1, f2]
      exact ⟨⟨l', rfl⟩, rfl⟩
    | some hd =>
      obtain ⟨hdl, hdb⟩ := hL.ask ha
      rw [ha] at t1 n1 n2 ln1
      unfold tHead at t1
      simp only [Option.getD_some] at n1 n2 ln1
      obtain ⟨z, hz⟩ : ∃ z, z = hd.length := ⟨_, rfl⟩
      rw [← hz] at ln1
      obtain ⟨u, hu⟩ : ∃ u, u = nm hd 18 2 := ⟨_, rfl⟩
      obtain ⟨w, hw⟩ : ∃ w, w = nm hd 50 2 := ⟨_, rfl⟩
      have hu2 : u < 65536 := by rw [hu]; exact nm2_lt hdb
      have hw2 : w < 65536 := by rw [hw]; exact nm2_lt hdb
      have n1' : call nU [v1, .int .i64 18] (few (A ++ l1)) = some (.tuple [.int .i64 (u : Int), .bool (num hd 18 2).isSome], few (A ++ l1)) := by rw [n1, hu]; rfl
      obtain ⟨sw, hsw⟩ : ∃ s, s = sgn 2 w := ⟨_, rfl⟩
      have hsw2 : (w ≤ 32767 ∧ sw = w) ∨ (32768 ≤ w ∧ sw = (w : Int) - 65536) := by
        rw [hsw]
        unfold sgn
        by_cases hc : 2 ^ (8 * 2 - 1) ≤ w
        · rw [if_pos hc]
          exact .inr ⟨hc, rfl⟩
        · rw [if_neg hc]
          exact .inl ⟨by have : ¬ 32768 ≤ w := hc; omega, rfl⟩
      have n2' : call nI [v1, .int .i64 50] (few (A ++ l1)) = some (.tuple [.int .i64 sw, .bool (num hd 50 2).isSome], few (A ++ l1)) := by rw [n2, hsw, hw]; rfl
      dsimp only
      rw [← hz, ← hu, ← hw]
      by_cases c1 : z < 54
      · obtain ⟨l', f1, f2⟩ := fin l1 0 0 false
        rw [if_pos c1]
        simp (disch := omega) [alA, t1, p1, n1', n2', ln1, bin_eqptr, resE_cell, f1, f2, dlt_t, dlt_f, dle_t, dle_f, dltn_t, dltn_f, dlen_t, dlen_f, deq_t, deq_f, deqn_t, deqn_f]
        exact ⟨⟨l', rfl⟩, rfl⟩
      rw [if_neg c1]
      by_cases c2 : u < 16 ∨ 16384 < u ∨ 1 < w
      · obtain ⟨l', f1, f2⟩ := fin l1 0 0 false
        rw [if_pos c2]
        by_cases d1 : u < 16
        · simp (disch := omega) [alA, t1, p1, n1', n2', ln1, bin_eqptr, resE_cell, f1, f2, dlt_t, dlt_f, dle_t, dle_f, dltn_t, dltn_f, dlen_t, dlen_f, deq_t, deq_f, deqn_t, deqn_f]
          exact ⟨⟨l', rfl⟩, rfl⟩
        by_cases d2 : 16384 < u
        · simp (disch := omega) [alA, t1, p1, n1', n2', ln1, bin_eqptr, resE_cell, f1, f2, dlt_t, dlt_f, dle_t, dle_f, dltn_t, dltn_f, dlen_t, dlen_f, deq_t, deq_f, deqn_t, deqn_f]
          exact ⟨⟨l', rfl⟩, rfl⟩
        by_cases d3 : sw < 0
        · simp (disch := omega) [alA, t1, p1, n1', n2', ln1, bin_eqptr, resE_cell, f1, f2, dlt_t, dlt_f, dle_t, dle_f, dltn_t, dltn_f, dlen_t, dlen_f, deq_t, deq_f, deqn_t, deqn_f]
          exact ⟨⟨l', rfl⟩, rfl⟩
        · simp (disch := omega) [alA, t1, p1, n1', n2', ln1, bin_eqptr, resE_cell, f1, f2, dlt_t, dlt_f, dle_t, dle_f, dltn_t, dltn_f, dlen_t, dlen_f, deq_t, deq_f, deqn_t, deqn_f]
          exact ⟨⟨l', rfl⟩, rfl⟩
      rw [if_neg c2]
      have hfB := hfA.keep (os' := A ++ l1) (fun i hi => join_app hi)
      obtain ⟨v2, l2, t2, p2, b2, _⟩ := ask_font hT hN hfB hL tMaxp
      rw [List.append_assoc] at t2 b2
      have hsw0 : ¬ sw < 0 := by omega
      have hsw1 : sw = w := by omega
      cases hb : askL L tMaxp with
      | none =>
        rw [hb] at t2 b2
        unfold tMaxp at t2
        have n3 := hU _ _ _ 4 b2 (by simp)
        obtain ⟨l', f1, f2⟩ := fin (l1 ++ l2) 0 0 false
        simp (disch := omega) [alA, t1, p1, n1', n2', ln1, bin_eqptr, resE_cell, f1, f2, dlt_t, dlt_f, dle_t, dle_f, dltn_t, dltn_f, dlen_t, dlen_f, deq_t, deq_f, deqn_t, deqn_f, t2, p2, n3, numV]
        exact ⟨⟨l', rfl⟩, rfl⟩
      | some mp =>
        obtain ⟨mpl, mpb⟩ := hL.ask hb
        rw [hb] at t2 b2
        unfold tMaxp at t2
        simp only [Option.getD_some] at b2
        have ln2 := fun st' => len_bytes (st' := st') b2
        obtain ⟨y, hy⟩ : ∃ y, y = mp.length := ⟨_, rfl⟩
        rw [← hy] at ln2
        obtain ⟨n, hn⟩ : ∃ n, n = nm mp 4 2 := ⟨_, rfl⟩
        have n3 : call nU [v2, .int .i64 4] (few (A ++ (l1 ++ l2))) = some (.tuple [.int .i64 (n : Int), .bool (num mp 4 2).isSome], few (A ++ (l1 ++ l2))) := by rw [hU _ _ _ 4 b2 (by omega), hn]; rfl
        dsimp only
        rw [← hy, ← hn]
        by_cases c3 : y < 6
        · obtain ⟨l', f1, f2⟩ := fin (l1 ++ l2) 0 0 false
          rw [if_pos c3]
          simp (disch := omega) [alA, t1, p1, n1', n2', ln1, bin_eqptr, resE_cell, f1, f2, dlt_t, dlt_f, dle_t, dle_f, dltn_t, dltn_f, dlen_t, dlen_f, deq_t, deq_f, deqn_t, deqn_f, t2, p2, n3, ln2]
          exact ⟨⟨l', rfl⟩, rfl⟩
        rw [if_neg c3]
        by_cases c4 : n = 0
        · obtain ⟨l', f1, f2⟩ := fin (l1 ++ l2) 0 0 false
          rw [if_pos c4]
          simp (disch := omega) [alA, t1, p1, n1', n2', ln1, bin_eqptr, resE_cell, f1, f2, dlt_t, dlt_f, dle_t, dle_f, dltn_t, dltn_f, dlen_t, dlen_f, deq_t, deq_f, deqn_t, deqn_f, t2, p2, n3, ln2]
          exact ⟨⟨l', rfl⟩, rfl⟩
        rw [if_neg c4]
        obtain ⟨l', f1, f2⟩ := fin (l1 ++ l2) u n (decide (sw = 1))
        simp (disch := omega) [alA, t1, p1, n1', n2', ln1, bin_eqptr, resE_cell, f1, f2, dlt_t, dlt_f, dle_t, dle_f, dltn_t, dltn_f, dlen_t, dlen_f, deq_t, deq_f, deqn_t, deqn_f, t2, p2, n3, ln2]
        refine ⟨⟨l', rfl⟩, ?_⟩
        have : decide (sw = 1) = decide (w = 1) := by
          rw [hsw1]
          by_cases e : w = 1
          · subst e; rfl
          · rw [decide_eq_false e, decide_eq_false (by omega)]
        rw [this]
        rfl
theorem ReadF.code {base : CallT} {g lf nT nU nI : Nat} (hT : TableF base nT) (hN : TableNF base nT) (hU : UF 2 base nU) (hI : IF 2 base nI) : ReadF (Vabs.withF base g lf (Read_c nT nU nI)) g := fun os F L h1 h2 => by
  rw [withF_same]; exact Read_run hT hN hU hI h1 h2
theorem ReadF.withF {call : CallT} {n g lf : Nat} {fn : AFunc} (h : ReadF call n) (hne : n ≠ g) : ReadF (Vabs.withF call g lf fn) n := fun os F L a b => by rw [withF_other hne]; exact h os F L a b
theorem ReadF.other {call : CallT} {n g : Nat} {l : List V → St → Option (V × St)} (h : ReadF call n) (hne : n ≠ g) : ReadF (withL call g l) n := fun os F L a b => by rw [withL_other hne]; exact h os F L a b
/- WHERE A GLYPH STANDS -/
def rangeS (L : List Itm) (m : Met) (k : Int) : Int × Int × Int :=
  if k < 0 ∨ m.2.1 ≤ k then (0, 0, 1) else
  match askL L tLoca, askL L tGlyf with
  | some l, some g => if (l.length : Int) < k then (0, 0, 3) else
    match num l ((if m.2.2 then 4 else 2) * (k + 1)) (if m.2.2 then 4 else 2) with
    | none => (0, 0, 3)
    | some b => if (b : Nat) * (if m.2.2 then 1 else 2) < nm l ((if m.2.2 then 4 else 2) * k) (if m.2.2 then 4 else 2) * (if m.2.2 then 1 else 2) ∨ g.length < b * (if m.2.2 then 1 else 2) then (0, 0, 2)
      else ((nm l ((if m.2.2 then 4 else 2) * k) (if m.2.2 then 4 else 2) * (if m.2.2 then 1 else 2) : Nat), (b * (if m.2.2 then 1 else 2) : Nat), 0)
  | _, _ => (0, 0, 6)
def triV (x : Int × Int × Int) : V := .tuple [.int .i64 x.1, .int .i64 x.2.1, .int .i64 x.2.2]
def EntryF (call : CallT) (g : Nat) : Prop := ∀ st v bs (y : Bool) (k : Int), bytesAt st v = some bs → (∀ b ∈ bs, b < 256) → bs.length ≤ 140737488354000 → 0 ≤ k → k ≤ 140737488354001 →
  call g [v, .bool y, .int .i64 k] st = some (.tuple [.int .i64 (((num bs ((if y then 4 else 2) * k) (if y then 4 else 2)).getD 0 * (if y then 1 else 2) : Nat) : Int), .bool (num bs ((if y then 4 else 2) * k) (if y then 4 else 2)).isSome], st)
theorem EntryF.code {base : CallT} {g lf n4 n2 : Nat} (h4 : UF 4 base n4) (h2 : UF 2 base n2) : EntryF (Vabs.withF base g lf (entry_c n4 n2)) g := fun st v bs y k hv hb hl h0 h1 => by
  rw [withF_same]
  refine enter_eq ?_
  cases y with
  | true =>
    have e := h4 st v bs (4 * k) hv (by omega)
    obtain ⟨o, ho⟩ : ∃ o, o = num bs (4 * k) 4 := ⟨_, rfl⟩
    simp only [if_true] at *
    rw [← ho] at e ⊢
    simp (disch := omega) [e, numV, wrap_i]
  | false =>
    have e := h2 st v bs (2 * k) hv (by omega)
    have hlt := num_lt (bs := bs) (x := 2 * k) (z := 2) hb
    simp only [Bool.false_eq_true, if_false] at *
    obtain ⟨o, ho⟩ : ∃ o, o = num bs (2 * k) 2 := ⟨_, rfl⟩
    rw [← ho] at e hlt ⊢
    obtain ⟨d, hd⟩ : ∃ d, d = o.getD 0 := ⟨_, rfl⟩
    have e : base n2 [v, .int .i64 (2 * k)] st = some (.tuple [.int .i64 (d : Int), .bool o.isSome], st) := by rw [e, hd]; rfl
    rw [← hd] at hlt ⊢
    have hlt : d < 65536 := hlt
    simp (disch := omega) [e, wrap_i]
    omega
theorem EntryF.withF {call : CallT} {n g lf : Nat} {fn : AFunc} (h : EntryF call n) (hne : n ≠ g) : EntryF (Vabs.withF call g lf fn) n := fun st v bs y k a b c d e => by rw [withF_other hne]; exact h st v bs y k a b c d e
theorem EntryF.other {call : CallT} {n g : Nat} {l : List V → St → Option (V × St)} (h : EntryF call n) (hne : n ≠ g) : EntryF (withL call g l) n := fun st v bs y k a b c d e => by rw [withL_other hne]; exact h st v bs y k a b c d e
theorem num_some {bs : List Nat} {x : Int} {z b : Nat} (h : num bs x z = some b) : thereB bs.length x z = true := by
  unfold num at h
  split at h
  · assumption
  · cases h
theorem num_there {bs : List Nat} {x : Int} {z : Nat} (h : thereB bs.length x z = true) : ∃ b, num bs x z = some b := ⟨_, by unfold num; rw [if_pos h]⟩
def RangeF (call : CallT) (g : Nat) : Prop := ∀ os F L (m : Met) (k : Int), FontMem os F L → Tame L → ∃ l, call g [.ptr (some (F, 0)), mV m, .int .i64 k] (few os) = some (triV (rangeS L m k), few (os ++ l))
set_option maxHeartbeats 4000000 in
theorem Range_run {call : CallT} {lf nT nE : Nat} (hT : TableF call nT) (hN : TableNF call nT) (hE : EntryF call nE) {os : List (Option AObj)} {F : Nat} {L : List Itm} {m : Met} {k : Int} (h : FontMem os F L) (hL : Tame L) :
    ∃ l, enterF call lf [.ptr (some (F, 0)), mV m, .int .i64 k] (few os) (Range_c nT nE) = some (triV (rangeS L m k), few (os ++ l)) := by
  obtain ⟨mu, mg, my⟩ := m
  have main := enter_wp (call := call) (lf := lf) (n := 83) (args := [.ptr (some (F, 0)), mV (mu, mg, my), .int .i64 k]) (st := few os) (K := fun u st => (∃ l, st = few (os ++ l)) ∧ u = triV (rangeS L (mu, mg, my) k)) (c := (Range_c nT nE).code) (rs := (Range_c nT nE).results) ?_
  · obtain ⟨u, st', h1, ⟨l, rfl⟩, rfl⟩ := main
    exact ⟨l, h1⟩
  · unfold Range_c mV rangeS triV
    dsimp only
    obtain ⟨N, hNe⟩ : ∃ N, N = os.length := ⟨_, rfl⟩
    obtain ⟨A, hA⟩ : ∃ A, A = os ++ [some (AObj.cells true [.int .i64 mu, .int .i64 mg, .bool my])] := ⟨_, rfl⟩
    have alA : (few os).alloc (.cells true [.int .i64 mu, .int .i64 mg, .bool my]) = some (N, few A) := by rw [hA, hNe]; exact few_alloc os _
    have hAN : (A[N]?).join = some (AObj.cells true [.int .i64 mu, .int .i64 mg, .bool my]) := by rw [hA, hNe]; simp
    have hAl : ∀ l, ∃ l', few (A ++ l) = few (os ++ l') := fun l => ⟨_, by rw [hA, List.append_assoc]⟩
    have m1 : ∀ l, loadV (few (A ++ l)) false 1 (.ptr (some (N, 1))) = some (.int .i64 mg) := fun l => (load_few (by rw [join_app (join_lt hAN)]; exact hAN)).trans rfl
    have m2 : ∀ l, loadV (few (A ++ l)) false 1 (.ptr (some (N, 2))) = some (.bool my) := fun l => (load_few (by rw [join_app (join_lt hAN)]; exact hAN)).trans rfl
    have m10 := m1 []
    rw [List.append_nil] at m10
    have hA0 : ∃ l', few A = few (os ++ l') := ⟨_, by rw [hA]⟩
    have hfA := h.keep (os' := A) (fun i hi => by rw [hA]; exact join_app hi)
    by_cases c0 : k < 0
    · rw [if_pos (.inl c0)]
      simp (disch := omega) [alA, m10, bin_eqptr, c0, dlt_t, dlt_f, dle_t, dle_f, dltn_t, dltn_f, dlen_t, dlen_f, deq_t, deq_f, deqn_t, deqn_f]
      exact hA0
    by_cases c1 : mg ≤ k
    · rw [if_pos (.inr c1)]
      simp (disch := omega) [alA, m10, bin_eqptr, c0, c1, dlt_t, dlt_f, dle_t, dle_f, dltn_t, dltn_f, dlen_t, dlen_f, deq_t, deq_f, deqn_t, deqn_f]
      exact hA0
    rw [if_neg (by omega)]
    obtain ⟨v1, l1, t1, p1, b1, _⟩ := ask_font hT hN hfA hL tLoca
    obtain ⟨v2, l2, t2, p2, b2, _⟩ := ask_font hT hN (hfA.keep (os' := A ++ l1) (fun i hi => join_app hi)) hL tGlyf
    rw [List.append_assoc] at t2 b2
    have b1' : bytesAt (few (A ++ (l1 ++ l2))) v1 = some ((askL L tLoca).getD []) := bytesAt_grow b1 fun i hi => by rw [← List.append_assoc]; exact join_app hi
    cases ha : askL L tLoca with
    | none =>
      rw [ha] at t1
      unfold tLoca at t1
      unfold tGlyf at t2
      dsimp only
      simp (disch := omega) [alA, m10, bin_eqptr, c0, c1, dlt_t, dlt_f, dle_t, dle_f, dltn_t, dltn_f, dlen_t, dlen_f, deq_t, deq_f, deqn_t, deqn_f, t1, p1, t2, p2]
      exact hAl _
    | some lo =>
      obtain ⟨lol, lob⟩ := hL.ask ha
      rw [ha] at t1 b1 b1'
      unfold tLoca at t1
      simp only [Option.getD_some] at b1 b1'
      cases hb : askL L tGlyf with
      | none =>
        rw [hb] at t2
        unfold tGlyf at t2
        dsimp only
        simp (disch := omega) [alA, m10, bin_eqptr, c0, c1, dlt_t, dlt_f, dle_t, dle_f, dltn_t, dltn_f, dlen_t, dlen_f, deq_t, deq_f, deqn_t, deqn_f, t1, p1, t2, p2]
        exact hAl _
      | some gl =>
        obtain ⟨gll, glb⟩ := hL.ask hb
        rw [hb] at t2 b2
        unfold tGlyf at t2
        simp only [Option.getD_some] at b2
        have ln1 := fun st' => len_bytes (st' := st') b1
        have ln2 := fun st' => len_bytes (st' := st') b2
        obtain ⟨z, hz⟩ : ∃ z, z = lo.length := ⟨_, rfl⟩
        obtain ⟨w, hw⟩ : ∃ w, w = gl.length := ⟨_, rfl⟩
        rw [← hz] at ln1
        rw [← hw] at ln2
        dsimp only
        rw [← hz, ← hw]
        by_cases c2 : (z : Int) < k
        · rw [if_pos c2]
          simp (disch := omega) [alA, m10, bin_eqptr, c0, c1, dlt_t, dlt_f, dle_t, dle_f, dltn_t, dltn_f, dlen_t, dlen_f, deq_t, deq_f, deqn_t, deqn_f, t1, p1, t2, p2, ln1, c2]
          exact hAl _
        rw [if_neg c2]
        have ea := hE _ v1 lo my k b1' lob lol (by omega) (by omega)
        have eb := hE _ v1 lo my (k + 1) b1' lob lol (by omega) (by omega)
        have hab : ∀ b, num lo ((if my = true then 4 else 2) * (k + 1)) (if my = true then 4 else 2) = some b → ∃ a, num lo ((if my = true then 4 else 2) * k) (if my = true then 4 else 2) = some a := fun b hb => by
          have h1 := thereB_true.1 (num_some hb)
          refine num_there (thereB_true.2 ?_)
          cases my <;> simp only [Bool.false_eq_true, if_false, if_true] at h1 ⊢ <;> omega
        obtain ⟨A1, hA1⟩ : ∃ o, o = num lo ((if my = true then 4 else 2) * k) (if my = true then 4 else 2) := ⟨_, rfl⟩
        obtain ⟨B1, hB1⟩ : ∃ o, o = num lo ((if my = true then 4 else 2) * (k + 1)) (if my = true then 4 else 2) := ⟨_, rfl⟩
        unfold nm
        rw [← hA1] at ea hab ⊢
        rw [← hB1] at eb hab ⊢
        obtain ⟨tm, htm⟩ : ∃ t, t = if my = true then 1 else 2 := ⟨_, rfl⟩
        have : (if my = true then (1 : Nat) else 2) = tm := htm.symm
        rw [this] at ea eb ⊢
        cases B1 with
        | none =>
          obtain ⟨a, ha'⟩ : ∃ a, a = A1.getD 0 * tm := ⟨_, rfl⟩
          obtain ⟨b, hb'⟩ : ∃ b, b = (none : Option Nat).getD 0 * tm := ⟨_, rfl⟩
          rw [← ha'] at ea
          rw [← hb'] at eb
          dsimp only
          have eb : call nE [v1, .bool my, .int .i64 (k + 1)] (few (A ++ (l1 ++ l2))) = some (.tuple [.int .i64 (b : Int), .bool false], few (A ++ (l1 ++ l2))) := eb
          cases hi : A1.isSome with
          | true =>
            rw [hi] at ea
            simp (disch := omega) [alA, m10, m2, bin_eqptr, c0, c1, dlt_t, dlt_f, dle_t, dle_f, dltn_t, dltn_f, dlen_t, dlen_f, deq_t, deq_f, deqn_t, deqn_f, t1, p1, t2, p2, ln1, c2, ea, eb, wrap_i]
            exact hAl _
          | false =>
            rw [hi] at ea
            simp (disch := omega) [alA, m10, m2, bin_eqptr, c0, c1, dlt_t, dlt_f, dle_t, dle_f, dltn_t, dltn_f, dlen_t, dlen_f, deq_t, deq_f, deqn_t, deqn_f, t1, p1, t2, p2, ln1, c2, ea, eb, wrap_i]
            exact hAl _
        | some b0 =>
          obtain ⟨a0, rfl⟩ := hab b0 rfl
          simp only [Option.getD_some, Option.isSome_some] at ea eb ⊢
          obtain ⟨a, ha'⟩ : ∃ a, a = a0 * tm := ⟨_, rfl⟩
          obtain ⟨b, hb'⟩ : ∃ b, b = b0 * tm := ⟨_, rfl⟩
          rw [← ha'] at ea ⊢
          rw [← hb'] at eb ⊢
          by_cases c3 : b < a
          · rw [if_pos (.inl c3)]
            simp (disch := omega) [alA, m10, m2, bin_eqptr, c0, c1, dlt_t, dlt_f, dle_t, dle_f, dltn_t, dltn_f, dlen_t, dlen_f, deq_t, deq_f, deqn_t, deqn_f, t1, p1, t2, p2, ln1, c2, ea, eb, wrap_i]
            exact hAl _
          by_cases c4 : w < b
          · rw [if_pos (.inr c4)]
            simp (disch := omega) [alA, m10, m2, bin_eqptr, c0, c1, dlt_t, dlt_f, dle_t, dle_f, dltn_t, dltn_f, dlen_t, dlen_f, deq_t, deq_f, deqn_t, deqn_f, t1, p1, t2, p2, ln1, ln2, c2, ea, eb, wrap_i]
            exact hAl _
          rw [if_neg (by omega)]
          simp (disch := omega) [alA, m10, m2, bin_eqptr, c0, c1, dlt_t, dlt_f, dle_t, dle_f, dltn_t, dltn_f, dlen_t, dlen_f, deq_t, deq_f, deqn_t, deqn_f, t1, p1, t2, p2, ln1, ln2, c2, ea, eb, wrap_i]
          exact hAl _
theorem RangeF.code {base : CallT} {g lf nT nE : Nat} (hT : TableF base nT) (hN : TableNF base nT) (hE : EntryF base nE) : RangeF (Vabs.withF base g lf (Range_c nT nE)) g := fun os F L m k h1 h2 => by
  rw [withF_same]; exact Range_run hT hN hE h1 h2
theorem RangeF.withF {call : CallT} {n g lf : Nat} {fn : AFunc} (h : RangeF call n) (hne : n ≠ g) : RangeF (Vabs.withF call g lf fn) n := fun os F L m k a b => by rw [withF_other hne]; exact h os F L m k a b
theorem RangeF.other {call : CallT} {n g : Nat} {l : List V → St → Option (V × St)} (h : RangeF call n) (hne : n ≠ g) : RangeF (withL call g l) n := fun os F L m k a b => by rw [withL_other hne]; exact h os F L m k a b

end Go.Vabs.Na

namespace Go.Vabs.Nb
set_option linter.unusedVariables false
set_option linter.unusedSimpArgs false
set_option maxRecDepth 10000
attribute [local simp] wp_skip wp_ret wp_exit wp_reg wp_seq wp_cond wp_block thenQ_normal thenQ_ret thenQ_exit blockQ_normal blockQ_ret blockQ_exit wpCond_true wpCond_false wpOps_nil wpVal_some wpGuard_true wpGuard_false wpOps_guard wpOps_cons
  put_at put_no ev_c ev_slot posEq_h posEq_o posEq_i posEq_ho posEq_hi posEq_oh posEq_ih posEq_oi posEq_io sel_true sel_false
  okv_some step_mv step_call step_pick pickV_bool step_bin bin_add bin_sub bin_mul bin_eql bin_neq bin_lss bin_leq bin_gtr bin_geq bin_eqb bin_neb bin_eqs bin_nes step_un un_not un_neg step_len len_slice len_str len_const step_extract extractV nth step_convInt conv_int step_convStr step_slice step_idxAddr natOf_nat step_load step_index step_field step_fieldAddr step_build step_minmax
  step_alloc step_bslice bsliceV_some newV_some step_store step_append boolIs_b boolIs_t finQ_ret finQ_normal ressE_nil ressE_cons resE_tmp consO_some initE_nil initE_cons pos_0 pos_1 pos_2 pos_3 pos_4 pos_5 pos_6 pos_7 pos_8 plain_bool plain_int plain_str plain_ptr plain_slice plain_map plain_agg plain_func plain_nilFunc V.undef oneOf_one oneOf_two ble_self
open Go.Vabs.Pk Go.Vabs.Ph Go.Vabs.Sa Go.Vabs.Sb Go.Vabs.Sc Go.Vabs.Sd Go.Vabs.Se Go.Vabs.Sg Go.Vabs.Sh Go.Vabs.Sm Go.Vabs.Sn Go.Vabs.Sp Go.Vabs.Sr Go.Vabs.St Go.Vabs.Su Go.Vabs.L2 Go.Vabs.Na
attribute [local simp] step_nilchk nilchk_ptr step_box cells_int cells_bool cells_str cells_slice cells_ptr cells_agg fieldAddrV natOf_zero fill repN splice over newV step_appendZ
  wp_dreg wpDs_nil wpDs_cons wantedE_none wantedE_some wpDGuard_true wpDGuard_lim wpDGuard_false wpDLim_true wpDVal_free wpDVal_lim back_limited next_limited limF_dir foot_load foot_convStr okAll_nil okAll_cons pastsOf nthP ahead few_next load_limited convStr_limited blt_dec okPair_dd okPair_dc okPair_cd okPair_cc anyIn_nil anyIn_same anyIn_cons meets_nil meets_nil'
/- WRAPS -/
theorem BigF.wrap {base : CallT} {g lf nB : Nat} (hB : BigF base nB) : BigF (Vabs.withF base g lf (big_c nB)) g := fun os n z h1 h2 => by
  rw [withF_same]
  have e := hB os n z h1 h2
  refine enter_eq ?_
  simp [e]
def FontF (call : CallT) (g : Nat) : Prop := ∀ os q r f1 f2 tags ts, (tags ≠ [] → ∃ own, (os[q]?).join = some (.cells own (strsV tags))) → RowsB os r ts → (∀ t ∈ tags, ∀ b ∈ t, b < 256) → (∀ t ∈ ts, ∀ b ∈ t, b < 256) → tags.length ≤ 1048576 → ts.length ≤ 4096 → ts.flatten.length ≤ 140737488352800 →
  ∃ u os', call g [slT f1 q tags.length, slT f2 r ts.length] (few os) = some (u, few os') ∧ (∀ i, i < os.length → (os'[i]?).join = (os[i]?).join) ∧ os.length ≤ os'.length ∧
    match layS tags ts with
    | some l => ∃ p, u = .slice (some (p, 0)) 1 l.length l.length false ∧ os.length ≤ p ∧ (os'[p]?).join = some (newBytes l)
    | none => u = .slice none 0 0 0 true
theorem FontF.code {base : CallT} {g lf nL : Nat} (hL : RLayF base nL) : FontF (Vabs.withF base g lf (Font_c nL)) g := fun os q r f1 f2 tags ts h1 h2 h3 h4 h5 h6 h7 => by
  rw [withF_same]
  obtain ⟨u, os', e, k1, k2, k3⟩ := hL os q r f1 f2 tags ts h1 h2 h3 h4 h5 h6 h7
  cases hl : layS tags ts with
  | none =>
    rw [hl] at k3
    dsimp only at k3
    subst k3
    refine ⟨.slice none 0 0 0 true, os', ?_, k1, k2, rfl⟩
    refine enter_eq ?_
    simp [e]
  | some l =>
    rw [hl] at k3
    obtain ⟨p, rfl, hp, hpb⟩ := k3
    refine ⟨.slice (some (p, 0)) 1 l.length l.length false, os', ?_, k1, k2, p, rfl, hp, hpb⟩
    refine enter_eq ?_
    simp [e]
theorem FontF.withF {call : CallT} {n g lf : Nat} {fn : AFunc} (h : FontF call n) (hne : n ≠ g) : FontF (Vabs.withF call g lf fn) n := fun os q r f1 f2 tags ts h1 h2 h3 h4 h5 h6 h7 => by rw [withF_other hne]; exact h os q r f1 f2 tags ts h1 h2 h3 h4 h5 h6 h7
theorem FontF.other {call : CallT} {n g : Nat} {l : List V → St → Option (V × St)} (h : FontF call n) (hne : n ≠ g) : FontF (withL call g l) n := fun os q r f1 f2 tags ts h1 h2 h3 h4 h5 h6 h7 => by rw [withL_other hne]; exact h os q r f1 f2 tags ts h1 h2 h3 h4 h5 h6 h7
/-- Both fonts of some bytes. -/
def BothF (call : CallT) (g : Nat) : Prop := ∀ os v bs, v.good os.length = true → lookB (few os).look v = some bs → bs.length ≤ 140737488354000 →
  match fontS bs with
  | .inl _ => call g [v] (few os) = some (.tuple [.ptr none, .ptr none], few os)
  | .inr L => ∃ F G l, call g [v] (few os) = some (.tuple [.ptr (some (F, 0)), .ptr (some (G, 0))], few (os ++ l)) ∧ FontMem (os ++ l) F L ∧ RFontMem (os ++ l) G L
theorem BothF.code {base : CallT} {g lf nO nR : Nat} (hO : OpenF base nO) (hR : ROpenF base nR) : BothF (Vabs.withF base g lf (open_c nO nR)) g := fun S vz zb hg hl hzl => by
  rw [withF_same]
  cases hf : fontS zb with
  | inl e =>
    have ho := hO S vz zb hg hl hzl
    rw [show openA S.length zb = ([], fun _ => errV e) from by unfold openA; rw [hf]] at ho
    have ho : base nO [vz] (few S) = some (.tuple [.ptr none, .int .i64 e], few S) := by rw [ho]; simp [errV]
    have hr := hR S vz zb hg hl hzl
    rw [show ropenA S.length zb = ([], fun _ => errV e) from by unfold ropenA; rw [hf]] at hr
    have hr : base nR [vz] (few S) = some (.tuple [.ptr none, .int .i64 e], few S) := by rw [hr]; simp [errV]
    dsimp only
    refine enter_eq ?_
    simp [ho, hr]
  | inr L =>
    obtain ⟨l1, ho, hfm⟩ := open_mem hO hg hl hzl hf
    obtain ⟨F, hF⟩ : ∃ F, F = S.length := ⟨_, rfl⟩
    rw [← hF] at ho hfm
    obtain ⟨Y, hY⟩ : ∃ Y, Y = S ++ l1 := ⟨_, rfl⟩
    rw [← hY] at ho hfm
    have hYl : S.length ≤ Y.length := by rw [hY, List.length_append]; omega
    have hYk : ∀ i, i < S.length → (Y[i]?).join = (S[i]?).join := fun i hi => by rw [hY]; exact join_app hi
    have hr := hR Y vz zb (V.good_le hYl hg) (lookB_mono (sight_keep hYk hYl) hl) hzl
    rw [show ropenA Y.length zb = (rfontObjs Y.length L, fun k => .tuple [.ptr (some (k, 0)), .int .i64 0]) from by unfold ropenA; rw [hf]] at hr
    have hrm := rfont_mem (os := Y) (L := L)
    obtain ⟨G, hG⟩ : ∃ G, G = Y.length := ⟨_, rfl⟩
    rw [← hG] at hr hrm
    have hr : base nR [vz] (few Y) = some (.tuple [.ptr (some (G, 0)), .int .i64 0], few (Y ++ (rfontObjs G L).map some)) := hr
    refine ⟨F, G, l1 ++ (rfontObjs G L).map some, ?_, ?_, ?_⟩
    · rw [← List.append_assoc, ← hY]
      refine enter_eq ?_
      simp [ho, hr]
    · rw [← List.append_assoc, ← hY]; exact hfm.keep fun i hi => join_app hi
    · rw [← List.append_assoc, ← hY]; exact hrm
theorem BothF.withF {call : CallT} {n g lf : Nat} {fn : AFunc} (h : BothF call n) (hne : n ≠ g) : BothF (Vabs.withF call g lf fn) n := fun os v bs a b c => by
  have := h os v bs a b c
  cases hf : fontS bs with
  | inl e => rw [hf] at this; dsimp only at this ⊢; rw [withF_other hne]; exact this
  | inr L => rw [hf] at this; dsimp only at this ⊢; rw [withF_other hne]; exact this
theorem BothF.other {call : CallT} {n g : Nat} {l : List V → St → Option (V × St)} (h : BothF call n) (hne : n ≠ g) : BothF (withL call g l) n := fun os v bs a b c => by
  have := h os v bs a b c
  cases hf : fontS bs with
  | inl e => rw [hf] at this; dsimp only at this ⊢; rw [withL_other hne]; exact this
  | inr L => rw [hf] at this; dsimp only at this ⊢; rw [withL_other hne]; exact this
/- A FILE THAT GROWS, FROM NOTHING ON -/
def fV (o : Option Nat) (n : Nat) : V := match o with | none => .slice none 0 0 0 true | some p => .slice (some (p, 0)) 1 n n false
def FA (os : List (Option AObj)) (N : Nat) (o : Option Nat) (bs : List Nat) : Prop := match o with | none => bs = [] | some p => N ≤ p ∧ (os[p]?).join = some (newBytes bs)
theorem FA.len {os : List (Option AObj)} {N : Nat} {o : Option Nat} {bs : List Nat} (h : FA os N o bs) {st : St} : lenV st .slice (fV o bs.length) = some (.int .i64 (bs.length : Int)) := by
  cases o with
  | none => have h : bs = [] := h; subst h; rfl
  | some p => rfl
theorem FA.shows {os : List (Option AObj)} {N : Nat} {o : Option Nat} {bs : List Nat} (h : FA os N o bs) (hb : ∀ b ∈ bs, b < 256) : (fV o bs.length).good os.length = true ∧ lookB (few os).look (fV o bs.length) = some bs := by
  cases o with
  | none => have h : bs = [] := h; subst h; exact ⟨rfl, rfl⟩
  | some p => exact lookB_own h.2 hb
theorem FA.keep {os os' : List (Option AObj)} {N : Nat} {o : Option Nat} {bs : List Nat} (h : FA os N o bs) (he : ∀ i, i < os.length → o = some i → (os'[i]?).join = (os[i]?).join) : FA os' N o bs := by
  cases o with
  | none => exact h
  | some p => exact ⟨h.1, by rw [he p (join_lt h.2) rfl]; exact h.2⟩
theorem FA.grow {os : List (Option AObj)} {N : Nat} {o : Option Nat} {bs : List Nat} (h : FA os N o bs) (hN : N ≤ os.length) (nb : List Nat) (hs : bs.length + nb.length < 140737488354000) :
    ∃ o' os', appendV (few os) 1 1 (fV o bs.length) (some nb.length) (some (bytesV nb)) = some (fV o' (bs.length + nb.length), few os') ∧ FA os' N o' (bs ++ nb) ∧ (∀ i, i < os.length → o ≠ some i → (os'[i]?).join = (os[i]?).join) ∧ os.length ≤ os'.length ∧ (∀ i, i < os.length → o' = some i → o = some i) := by
  cases o with
  | none =>
    have h : bs = [] := h
    subst h
    cases nb with
    | nil => exact ⟨none, os, rfl, rfl, fun _ _ _ => rfl, Nat.le_refl _, fun i _ h => h⟩
    | cons b nb =>
      refine ⟨some os.length, os ++ [some (newBytes (b :: nb))], ?_, ⟨hN, by simp⟩, fun i hi _ => join_app hi, by simp, fun i hi he => by cases he; omega⟩
      show appendV (few os) 1 1 (.slice none 0 0 0 true) (some (nb.length + 1)) (some (bytesV (b :: nb))) = _
      rw [grow_none, if_pos (by simp only [bytesV_len, List.length_cons, List.length_nil] at hs ⊢; omega)]
      simp [fV, newBytes]
  | some p =>
    obtain ⟨p', os', g, G⟩ := growB (nb := nb) h.2 hs
    have hn := G.new
    have hl := G.len
    have hp := h.1
    refine ⟨some p', os', g, ⟨by omega, G.at'⟩, fun i hi he => G.old i hi (fun e => he (by rw [e])), hl, fun i hi he => ?_⟩
    cases he
    rcases hn with h | h
    · rw [h]
    · omega
/- COPY -/
/- make([]byte, n) -/
theorem lenOfS {a : Option (Nat × Nat)} {e n c : Nat} {f : Bool} : lenOf (.slice a e n c f) = some n := rfl
/- THE TABLES THAT EVERY FONT HAS -/
/-- Two files that grow beside a head. -/
structure Two (N : Nat) (os0 os : List (Option AObj)) (hd : List Nat) (o1 : Option Nat) (b1 : List Nat) (o2 : Option Nat) (b2 : List Nat) : Prop where
  old : ∀ i, i < N → (os[i]?).join = (os0[i]?).join
  le : N ≤ os.length
  head : (os[N]?).join = some (newBytes hd)
  f1 : FA os (N + 1) o1 b1
  f2 : FA os (N + 1) o2 b2
  ne : ∀ p, o1 = some p → o2 ≠ some p
theorem Two.add {N : Nat} {os0 os : List (Option AObj)} {hd : List Nat} {o1 o2 : Option Nat} {b1 b2 : List Nat} (h : Two N os0 os hd o1 b1 o2 b2) (o : Option AObj) : Two N os0 (os ++ [o]) hd o1 b1 o2 b2 :=
  ⟨fun i hi => by rw [join_app (by have := h.le; omega), h.old i hi], by have := h.le; simp; omega, by rw [join_app (join_lt h.head)]; exact h.head, h.f1.keep fun i hi _ => join_app hi, h.f2.keep fun i hi _ => join_app hi, h.ne⟩
theorem FA.lo {os : List (Option AObj)} {N : Nat} {o : Option Nat} {bs : List Nat} (h : FA os N o bs) : ∀ p, o = some p → N ≤ p ∧ p < os.length := fun p hp => by subst hp; exact ⟨h.1, join_lt h.2⟩
end Go.Vabs.Nb
