/-
  Chapter 15: the numbers of a font, where its glyphs stand.
-/
import Derived.Test.YtghejdmnmfbacaaVabsSp
namespace Go.Vabs.Na
set_option linter.unusedVariables false
set_option linter.unusedSimpArgs false
set_option maxRecDepth 10000
def Read_c (n_Table : Nat) (n_U16 : Nat) (n_I16 : Nat) : AFunc := AFunc.mk 84 (.seq (.reg [AOper.mk (some (.i .h)) (.alloc [.int .i64 (.ofNat 0), .int .i64 (.ofNat 0), .bool false]) none, AOper.mk (some (.o (.o .h))) (.mv (.c (.int .i64 (.ofNat 0)))) none]) (.seq (.seq (.reg [AOper.mk (some (.i (.i (.i .h)))) (.bin .eql (.nils .ptr) (.t .h) (.c (.ptr none))) none]) (.cond (.t (.i (.i (.i .h)))) (.seq (.reg [AOper.mk (some (.o (.o (.o (.o .h))))) (.build [.int .i64 (.ofNat 0), .int .i64 (.ofNat 0), .bool false] []) none, AOper.mk none (.store 3 (.t (.i .h)) (.t (.o (.o (.o (.o .h)))))) none, AOper.mk (some (.o (.o .h))) (.mv (.c (.int .i64 (.ofNat 1)))) none]) .ret) .skip)) (.seq (.reg [AOper.mk (some (.i (.i (.o (.o .h))))) (.call n_Table [.t .h, .c (.str [104, 101, 97, 100])]) none, AOper.mk (some (.o (.o (.i (.o .h))))) (.extract (.t (.i (.i (.o (.o .h))))) 0) none, AOper.mk (some (.i (.o (.i (.o .h))))) (.extract (.t (.i (.i (.o (.o .h))))) 1) none, AOper.mk (some (.i (.o .h))) (.mv (.t (.o (.o (.i (.o .h)))))) none, AOper.mk (some (.o (.i .h))) (.mv (.t (.i (.o (.i (.o .h)))))) none]) (.seq (.reg [AOper.mk (some (.o (.o (.o (.i .h))))) (.call n_U16 [.t (.i (.o .h)), .c (.int .i64 (.ofNat 18))]) none, AOper.mk (some (.i (.o (.o (.i .h))))) (.extract (.t (.o (.o (.o (.i .h))))) 0) none, AOper.mk (some (.o (.i (.o (.i .h))))) (.extract (.t (.o (.o (.o (.i .h))))) 1) none, AOper.mk (some (.i (.i .h))) (.mv (.t (.i (.o (.o (.i .h)))))) none, AOper.mk (some (.o (.o (.o .h)))) (.mv (.t (.o (.i (.o (.i .h)))))) none]) (.seq (.reg [AOper.mk (some (.i (.o (.i (.i .h))))) (.call n_I16 [.t (.i (.o .h)), .c (.int .i64 (.ofNat 50))]) none, AOper.mk (some (.o (.i (.i (.i .h))))) (.extract (.t (.i (.o (.i (.i .h))))) 0) none, AOper.mk (some (.i (.i (.i (.i .h))))) (.extract (.t (.i (.o (.i (.i .h))))) 1) none, AOper.mk (some (.i (.o (.o .h)))) (.mv (.t (.o (.i (.i (.i .h)))))) none, AOper.mk (some (.o (.i (.o .h)))) (.mv (.t (.i (.i (.i (.i .h)))))) none]) (.seq (.block 0 (.seq (.reg [AOper.mk (some (.o (.i (.o (.o (.o .h)))))) (.un .not (.t (.o (.i .h)))) none, AOper.mk (some (.o (.o (.o (.o (.o .h)))))) (.mv (.t (.o (.i (.o (.o (.o .h))))))) none]) (.cond (.t (.o (.o (.o (.o (.o .h)))))) (.seq (.reg [AOper.mk (some (.i (.i (.o (.o (.o .h)))))) (.build [.int .i64 (.ofNat 0), .int .i64 (.ofNat 0), .bool false] []) none, AOper.mk none (.store 3 (.t (.i .h)) (.t (.i (.i (.o (.o (.o .h))))))) none, AOper.mk (some (.o (.o .h))) (.mv (.c (.int .i64 (.ofNat 6)))) none]) .ret) (.seq (.reg [AOper.mk (some (.o (.i (.i (.o (.o .h)))))) (.len .slice (.t (.i (.o .h)))) none, AOper.mk (some (.i (.i (.i (.o (.o .h)))))) (.bin .lss (.val .int) (.t (.o (.i (.i (.o (.o .h)))))) (.c (.int .i64 (.ofNat 54)))) none, AOper.mk (some (.o (.o (.i (.o (.o .h)))))) (.mv (.t (.i (.i (.i (.o (.o .h))))))) none]) (.cond (.t (.o (.o (.i (.o (.o .h)))))) (.seq (.reg [AOper.mk (some (.o (.o (.o (.i (.o .h)))))) (.build [.int .i64 (.ofNat 0), .int .i64 (.ofNat 0), .bool false] []) none, AOper.mk none (.store 3 (.t (.i .h)) (.t (.o (.o (.o (.i (.o .h))))))) none, AOper.mk (some (.o (.o .h))) (.mv (.c (.int .i64 (.ofNat 3)))) none]) .ret) (.seq (.reg [AOper.mk (some (.i (.i (.o (.i (.o .h)))))) (.bin .lss (.val .int) (.t (.i (.i .h))) (.c (.int .i64 (.ofNat 16)))) none, AOper.mk (some (.o (.o (.i (.i (.o .h)))))) (.mv (.t (.i (.i (.o (.i (.o .h))))))) none, AOper.mk (some (.o (.i (.i (.i (.o .h)))))) (.bin .gtr (.val .int) (.t (.i (.i .h))) (.c (.int .i64 (.ofNat 16384)))) (some (.o (.o (.i (.i (.o .h)))), false)), AOper.mk (some (.i (.i (.i (.i (.o .h)))))) (.pick (.t (.o (.o (.i (.i (.o .h)))))) (.c (.bool true)) (.t (.o (.i (.i (.i (.o .h))))))) none, AOper.mk (some (.o (.o (.o (.o (.i .h)))))) (.mv (.t (.i (.i (.i (.i (.o .h))))))) none, AOper.mk (some (.o (.i (.o (.o (.i .h)))))) (.bin .lss (.val .int) (.t (.i (.o (.o .h)))) (.c (.int .i64 (.ofNat 0)))) (some (.o (.o (.o (.o (.i .h)))), false)), AOper.mk (some (.i (.i (.o (.o (.i .h)))))) (.pick (.t (.o (.o (.o (.o (.i .h)))))) (.c (.bool true)) (.t (.o (.i (.o (.o (.i .h))))))) none, AOper.mk (some (.o (.o (.i (.o (.i .h)))))) (.mv (.t (.i (.i (.o (.o (.i .h))))))) none, AOper.mk (some (.o (.i (.i (.o (.i .h)))))) (.bin .gtr (.val .int) (.t (.i (.o (.o .h)))) (.c (.int .i64 (.ofNat 1)))) (some (.o (.o (.i (.o (.i .h)))), false)), AOper.mk (some (.i (.i (.i (.o (.i .h)))))) (.pick (.t (.o (.o (.i (.o (.i .h)))))) (.c (.bool true)) (.t (.o (.i (.i (.o (.i .h))))))) none, AOper.mk (some (.i (.o (.o (.i (.o .h)))))) (.mv (.t (.i (.i (.i (.o (.i .h))))))) none]) (.cond (.t (.i (.o (.o (.i (.o .h)))))) (.seq (.reg [AOper.mk (some (.o (.o (.o (.i (.i .h)))))) (.build [.int .i64 (.ofNat 0), .int .i64 (.ofNat 0), .bool false] []) none, AOper.mk none (.store 3 (.t (.i .h)) (.t (.o (.o (.o (.i (.i .h))))))) none, AOper.mk (some (.o (.o .h))) (.mv (.c (.int .i64 (.ofNat 2)))) none]) .ret) .skip))))))) (.seq (.reg [AOper.mk (some (.i (.i (.o (.i (.i .h)))))) (.call n_Table [.t .h, .c (.str [109, 97, 120, 112])]) none, AOper.mk (some (.o (.o (.i (.i (.i .h)))))) (.extract (.t (.i (.i (.o (.i (.i .h)))))) 0) none, AOper.mk (some (.i (.o (.i (.i (.i .h)))))) (.extract (.t (.i (.i (.o (.i (.i .h)))))) 1) none, AOper.mk (some (.i (.i (.o .h)))) (.mv (.t (.o (.o (.i (.i (.i .h))))))) none, AOper.mk (some (.o (.i .h))) (.mv (.t (.i (.o (.i (.i (.i .h))))))) none]) (.seq (.reg [AOper.mk (some (.o (.o (.o (.o (.o (.o .h))))))) (.call n_U16 [.t (.i (.i (.o .h))), .c (.int .i64 (.ofNat 4))]) none, AOper.mk (some (.i (.o (.o (.o (.o (.o .h))))))) (.extract (.t (.o (.o (.o (.o (.o (.o .h))))))) 0) none, AOper.mk (some (.o (.i (.o (.o (.o (.o .h))))))) (.extract (.t (.o (.o (.o (.o (.o (.o .h))))))) 1) none, AOper.mk (some (.o (.o (.i .h)))) (.mv (.t (.i (.o (.o (.o (.o (.o .h)))))))) none, AOper.mk (some (.i (.o (.i .h)))) (.mv (.t (.o (.i (.o (.o (.o (.o .h)))))))) none]) (.seq (.block 1 (.seq (.reg [AOper.mk (some (.i (.o (.i (.o (.o (.o .h))))))) (.un .not (.t (.o (.i .h)))) none, AOper.mk (some (.i (.i (.o (.o (.o (.o .h))))))) (.mv (.t (.i (.o (.i (.o (.o (.o .h)))))))) none]) (.cond (.t (.i (.i (.o (.o (.o (.o .h))))))) (.seq (.reg [AOper.mk (some (.o (.i (.i (.o (.o (.o .h))))))) (.build [.int .i64 (.ofNat 0), .int .i64 (.ofNat 0), .bool false] []) none, AOper.mk none (.store 3 (.t (.i .h)) (.t (.o (.i (.i (.o (.o (.o .h)))))))) none, AOper.mk (some (.o (.o .h))) (.mv (.c (.int .i64 (.ofNat 6)))) none]) .ret) (.seq (.reg [AOper.mk (some (.i (.o (.o (.i (.o (.o .h))))))) (.len .slice (.t (.i (.i (.o .h))))) none, AOper.mk (some (.o (.i (.o (.i (.o (.o .h))))))) (.bin .lss (.val .int) (.t (.i (.o (.o (.i (.o (.o .h))))))) (.c (.int .i64 (.ofNat 6)))) none, AOper.mk (some (.i (.i (.i (.o (.o (.o .h))))))) (.mv (.t (.o (.i (.o (.i (.o (.o .h)))))))) none]) (.cond (.t (.i (.i (.i (.o (.o (.o .h))))))) (.seq (.reg [AOper.mk (some (.i (.i (.o (.i (.o (.o .h))))))) (.build [.int .i64 (.ofNat 0), .int .i64 (.ofNat 0), .bool false] []) none, AOper.mk none (.store 3 (.t (.i .h)) (.t (.i (.i (.o (.i (.o (.o .h)))))))) none, AOper.mk (some (.o (.o .h))) (.mv (.c (.int .i64 (.ofNat 3)))) none]) .ret) (.seq (.reg [AOper.mk (some (.o (.i (.i (.i (.o (.o .h))))))) (.bin .eql (.val .int) (.t (.o (.o (.i .h)))) (.c (.int .i64 (.ofNat 0)))) none, AOper.mk (some (.o (.o (.i (.i (.o (.o .h))))))) (.mv (.t (.o (.i (.i (.i (.o (.o .h)))))))) none]) (.cond (.t (.o (.o (.i (.i (.o (.o .h))))))) (.seq (.reg [AOper.mk (some (.i (.i (.i (.i (.o (.o .h))))))) (.build [.int .i64 (.ofNat 0), .int .i64 (.ofNat 0), .bool false] []) none, AOper.mk none (.store 3 (.t (.i .h)) (.t (.i (.i (.i (.i (.o (.o .h)))))))) none, AOper.mk (some (.o (.o .h))) (.mv (.c (.int .i64 (.ofNat 2)))) none]) .ret) .skip))))))) (.seq (.reg [AOper.mk (some (.i (.i (.o (.o (.i (.o .h))))))) (.bin .eql (.val .int) (.t (.i (.o (.o .h)))) (.c (.int .i64 (.ofNat 1)))) none, AOper.mk (some (.o (.o (.i (.o (.i (.o .h))))))) (.build [.int .i64 (.ofNat 0), .int .i64 (.ofNat 0), .bool false] [(0, (1, .t (.i (.i .h)))), (1, (1, .t (.o (.o (.i .h))))), (2, (1, .t (.i (.i (.o (.o (.i (.o .h))))))))]) none, AOper.mk none (.store 3 (.t (.i .h)) (.t (.o (.o (.i (.o (.i (.o .h)))))))) none, AOper.mk (some (.o (.o .h))) (.mv (.c (.int .i64 (.ofNat 0)))) none]) .ret)))))))))) [.cell (.i .h) true 3, .tmp (.o (.o .h))]
def Range_c (n_Table : Nat) (n_entry : Nat) : AFunc := AFunc.mk 83 (.seq (.reg [AOper.mk (some (.i (.o .h))) (.box (.t (.o .h))) none, AOper.mk (some (.i (.i .h))) (.mv (.c (.int .i64 (.ofNat 0)))) none, AOper.mk (some (.o (.o (.o .h)))) (.mv (.c (.int .i64 (.ofNat 0)))) none, AOper.mk (some (.i (.o (.o .h)))) (.mv (.c (.int .i64 (.ofNat 0)))) none]) (.seq (.seq (.reg [AOper.mk (some (.i (.o (.o (.o .h))))) (.bin .eql (.nils .ptr) (.t .h) (.c (.ptr none))) none, AOper.mk (some (.o (.i (.o (.o .h))))) (.mv (.t (.i (.o (.o (.o .h)))))) none, AOper.mk (some (.o (.o (.i (.o .h))))) (.bin .lss (.val .int) (.t (.i .h)) (.c (.int .i64 (.ofNat 0)))) (some (.o (.i (.o (.o .h))), false)), AOper.mk (some (.i (.o (.i (.o .h))))) (.pick (.t (.o (.i (.o (.o .h))))) (.c (.bool true)) (.t (.o (.o (.i (.o .h)))))) none, AOper.mk (some (.o (.i (.i (.o .h))))) (.mv (.t (.i (.o (.i (.o .h)))))) none, AOper.mk (some (.o (.o (.o (.i .h))))) (.fieldAddr 1 (.t (.i (.o .h)))) (some (.o (.i (.i (.o .h))), false)), AOper.mk (some (.i (.o (.o (.i .h))))) (.load false 1 (.t (.o (.o (.o (.i .h)))))) (some (.o (.i (.i (.o .h))), false)), AOper.mk (some (.o (.i (.o (.i .h))))) (.bin .geq (.val .int) (.t (.i .h)) (.t (.i (.o (.o (.i .h)))))) (some (.o (.i (.i (.o .h))), false)), AOper.mk (some (.i (.i (.o (.i .h))))) (.pick (.t (.o (.i (.i (.o .h))))) (.c (.bool true)) (.t (.o (.i (.o (.i .h)))))) none]) (.cond (.t (.i (.i (.o (.i .h))))) (.seq (.reg [AOper.mk (some (.i (.i .h))) (.mv (.c (.int .i64 (.ofNat 0)))) none, AOper.mk (some (.o (.o (.o .h)))) (.mv (.c (.int .i64 (.ofNat 0)))) none, AOper.mk (some (.i (.o (.o .h)))) (.mv (.c (.int .i64 (.ofNat 1)))) none]) .ret) .skip)) (.seq (.reg [AOper.mk (some (.o (.i (.i (.i .h))))) (.call n_Table [.t .h, .c (.str [108, 111, 99, 97])]) none, AOper.mk (some (.i (.i (.i (.i .h))))) (.extract (.t (.o (.i (.i (.i .h))))) 0) none, AOper.mk (some (.o (.o (.o (.o (.o .h)))))) (.extract (.t (.o (.i (.i (.i .h))))) 1) none, AOper.mk (some (.o (.i (.o .h)))) (.mv (.t (.i (.i (.i (.i .h)))))) none, AOper.mk (some (.i (.i (.o .h)))) (.mv (.t (.o (.o (.o (.o (.o .h))))))) none]) (.seq (.reg [AOper.mk (some (.i (.i (.o (.o (.o .h)))))) (.call n_Table [.t .h, .c (.str [103, 108, 121, 102])]) none, AOper.mk (some (.o (.o (.i (.o (.o .h)))))) (.extract (.t (.i (.i (.o (.o (.o .h)))))) 0) none, AOper.mk (some (.i (.o (.i (.o (.o .h)))))) (.extract (.t (.i (.i (.o (.o (.o .h)))))) 1) none, AOper.mk (some (.o (.o (.i .h)))) (.mv (.t (.o (.o (.i (.o (.o .h))))))) none, AOper.mk (some (.i (.o (.i .h)))) (.mv (.t (.i (.o (.i (.o (.o .h))))))) none]) (.seq (.seq (.reg [AOper.mk (some (.i (.i (.i (.o (.o .h)))))) (.un .not (.t (.i (.i (.o .h))))) none, AOper.mk (some (.o (.o (.o (.i (.o .h)))))) (.mv (.t (.i (.i (.i (.o (.o .h))))))) none, AOper.mk (some (.o (.i (.o (.i (.o .h)))))) (.un .not (.t (.i (.o (.i .h))))) (some (.o (.o (.o (.i (.o .h)))), false)), AOper.mk (some (.i (.i (.o (.i (.o .h)))))) (.pick (.t (.o (.o (.o (.i (.o .h)))))) (.c (.bool true)) (.t (.o (.i (.o (.i (.o .h))))))) none]) (.cond (.t (.i (.i (.o (.i (.o .h)))))) (.seq (.reg [AOper.mk (some (.i (.i .h))) (.mv (.c (.int .i64 (.ofNat 0)))) none, AOper.mk (some (.o (.o (.o .h)))) (.mv (.c (.int .i64 (.ofNat 0)))) none, AOper.mk (some (.i (.o (.o .h)))) (.mv (.c (.int .i64 (.ofNat 6)))) none]) .ret) .skip)) (.seq (.seq (.reg [AOper.mk (some (.o (.i (.i (.i (.o .h)))))) (.len .slice (.t (.o (.i (.o .h))))) none, AOper.mk (some (.i (.i (.i (.i (.o .h)))))) (.bin .gtr (.val .int) (.t (.i .h)) (.t (.o (.i (.i (.i (.o .h))))))) none]) (.cond (.t (.i (.i (.i (.i (.o .h)))))) (.seq (.reg [AOper.mk (some (.i (.i .h))) (.mv (.c (.int .i64 (.ofNat 0)))) none, AOper.mk (some (.o (.o (.o .h)))) (.mv (.c (.int .i64 (.ofNat 0)))) none, AOper.mk (some (.i (.o (.o .h)))) (.mv (.c (.int .i64 (.ofNat 3)))) none]) .ret) .skip)) (.seq (.reg [AOper.mk (some (.o (.i (.o (.o (.i .h)))))) (.fieldAddr 2 (.t (.i (.o .h)))) none, AOper.mk (some (.i (.i (.o (.o (.i .h)))))) (.load false 1 (.t (.o (.i (.o (.o (.i .h))))))) none, AOper.mk (some (.i (.o (.i (.o (.i .h)))))) (.call n_entry [.t (.o (.i (.o .h))), .t (.i (.i (.o (.o (.i .h))))), .t (.i .h)]) none, AOper.mk (some (.o (.i (.i (.o (.i .h)))))) (.extract (.t (.i (.o (.i (.o (.i .h)))))) 0) none, AOper.mk (some (.i (.i (.i (.o (.i .h)))))) (.extract (.t (.i (.o (.i (.o (.i .h)))))) 1) none, AOper.mk (some (.i (.i .h))) (.mv (.t (.o (.i (.i (.o (.i .h))))))) none, AOper.mk (some (.o (.i (.i .h)))) (.mv (.t (.i (.i (.i (.o (.i .h))))))) none]) (.seq (.reg [AOper.mk (some (.o (.i (.o (.i (.i .h)))))) (.fieldAddr 2 (.t (.i (.o .h)))) none, AOper.mk (some (.i (.i (.o (.i (.i .h)))))) (.load false 1 (.t (.o (.i (.o (.i (.i .h))))))) none, AOper.mk (some (.i (.o (.i (.i (.i .h)))))) (.bin .add (.val .int) (.t (.i .h)) (.c (.int .i64 (.ofNat 1)))) none, AOper.mk (some (.o (.i (.i (.i (.i .h)))))) (.call n_entry [.t (.o (.i (.o .h))), .t (.i (.i (.o (.i (.i .h))))), .t (.i (.o (.i (.i (.i .h)))))]) none, AOper.mk (some (.i (.i (.i (.i (.i .h)))))) (.extract (.t (.o (.i (.i (.i (.i .h)))))) 0) none, AOper.mk (some (.o (.o (.o (.o (.o (.o .h))))))) (.extract (.t (.o (.i (.i (.i (.i .h)))))) 1) none, AOper.mk (some (.o (.o (.o .h)))) (.mv (.t (.i (.i (.i (.i (.i .h))))))) none, AOper.mk (some (.i (.i (.i .h)))) (.mv (.t (.o (.o (.o (.o (.o (.o .h)))))))) none]) (.seq (.block 0 (.seq (.reg [AOper.mk (some (.i (.i (.o (.o (.o (.o .h))))))) (.un .not (.t (.o (.i (.i .h))))) none, AOper.mk (some (.o (.o (.i (.o (.o (.o .h))))))) (.mv (.t (.i (.i (.o (.o (.o (.o .h)))))))) none, AOper.mk (some (.o (.i (.i (.o (.o (.o .h))))))) (.un .not (.t (.i (.i (.i .h))))) (some (.o (.o (.i (.o (.o (.o .h))))), false)), AOper.mk (some (.i (.i (.i (.o (.o (.o .h))))))) (.pick (.t (.o (.o (.i (.o (.o (.o .h))))))) (.c (.bool true)) (.t (.o (.i (.i (.o (.o (.o .h)))))))) none, AOper.mk (some (.i (.o (.o (.o (.o (.o .h))))))) (.mv (.t (.i (.i (.i (.o (.o (.o .h)))))))) none]) (.cond (.t (.i (.o (.o (.o (.o (.o .h))))))) (.seq (.reg [AOper.mk (some (.i (.i .h))) (.mv (.c (.int .i64 (.ofNat 0)))) none, AOper.mk (some (.o (.o (.o .h)))) (.mv (.c (.int .i64 (.ofNat 0)))) none, AOper.mk (some (.i (.o (.o .h)))) (.mv (.c (.int .i64 (.ofNat 3)))) none]) .ret) (.seq (.reg [AOper.mk (some (.i (.i (.o (.i (.o (.o .h))))))) (.bin .gtr (.val .int) (.t (.i (.i .h))) (.t (.o (.o (.o .h))))) none, AOper.mk (some (.o (.o (.i (.i (.o (.o .h))))))) (.mv (.t (.i (.i (.o (.i (.o (.o .h)))))))) none, AOper.mk (some (.i (.i (.i (.i (.o (.o .h))))))) (.len .slice (.t (.o (.o (.i .h))))) (some (.o (.o (.i (.i (.o (.o .h))))), false)), AOper.mk (some (.o (.o (.o (.o (.i (.o .h))))))) (.bin .gtr (.val .int) (.t (.o (.o (.o .h)))) (.t (.i (.i (.i (.i (.o (.o .h)))))))) (some (.o (.o (.i (.i (.o (.o .h))))), false)), AOper.mk (some (.i (.o (.o (.o (.i (.o .h))))))) (.pick (.t (.o (.o (.i (.i (.o (.o .h))))))) (.c (.bool true)) (.t (.o (.o (.o (.o (.i (.o .h)))))))) none, AOper.mk (some (.o (.o (.o (.i (.o (.o .h))))))) (.mv (.t (.i (.o (.o (.o (.i (.o .h)))))))) none]) (.cond (.t (.o (.o (.o (.i (.o (.o .h))))))) (.seq (.reg [AOper.mk (some (.i (.i .h))) (.mv (.c (.int .i64 (.ofNat 0)))) none, AOper.mk (some (.o (.o (.o .h)))) (.mv (.c (.int .i64 (.ofNat 0)))) none, AOper.mk (some (.i (.o (.o .h)))) (.mv (.c (.int .i64 (.ofNat 2)))) none]) .ret) .skip))))) (.seq (.reg [AOper.mk (some (.i (.i .h))) (.mv (.t (.i (.i .h)))) none, AOper.mk (some (.o (.o (.o .h)))) (.mv (.t (.o (.o (.o .h))))) none, AOper.mk (some (.i (.o (.o .h)))) (.mv (.c (.int .i64 (.ofNat 0)))) none]) .ret)))))))))) [.tmp (.i (.i .h)), .tmp (.o (.o (.o .h))), .tmp (.i (.o (.o .h)))]
def entry_c (n_U32 : Nat) (n_U16 : Nat) : AFunc := AFunc.mk 27 (.seq (.reg [AOper.mk (some (.i (.i .h))) (.mv (.c (.int .i64 (.ofNat 0)))) none, AOper.mk (some (.o (.o (.o .h)))) (.mv (.c (.bool false))) none]) (.seq (.seq (.reg [AOper.mk (some (.i (.i (.o .h)))) (.mv (.t (.o .h))) none]) (.cond (.t (.i (.i (.o .h)))) (.seq (.reg [AOper.mk (some (.o (.i (.i .h)))) (.bin .mul (.val .int) (.c (.int .i64 (.ofNat 4))) (.t (.i .h))) none, AOper.mk (some (.i (.i (.i .h)))) (.call n_U32 [.t .h, .t (.o (.i (.i .h)))]) none, AOper.mk (some (.o (.o (.o (.o .h))))) (.extract (.t (.i (.i (.i .h)))) 0) none, AOper.mk (some (.i (.o (.o (.o .h))))) (.extract (.t (.i (.i (.i .h)))) 1) none, AOper.mk (some (.i (.i .h))) (.mv (.t (.o (.o (.o (.o .h)))))) none, AOper.mk (some (.o (.o (.o .h)))) (.mv (.t (.i (.o (.o (.o .h)))))) none]) .ret) .skip)) (.seq (.reg [AOper.mk (some (.i (.o (.i (.o .h))))) (.bin .mul (.val .int) (.c (.int .i64 (.ofNat 2))) (.t (.i .h))) none, AOper.mk (some (.o (.i (.i (.o .h))))) (.call n_U16 [.t .h, .t (.i (.o (.i (.o .h))))]) none, AOper.mk (some (.i (.i (.i (.o .h))))) (.extract (.t (.o (.i (.i (.o .h))))) 0) none, AOper.mk (some (.o (.o (.o (.i .h))))) (.extract (.t (.o (.i (.i (.o .h))))) 1) none, AOper.mk (some (.i (.o (.o .h)))) (.mv (.t (.i (.i (.i (.o .h)))))) none, AOper.mk (some (.o (.i (.o .h)))) (.mv (.t (.o (.o (.o (.i .h)))))) none]) (.seq (.reg [AOper.mk (some (.o (.i (.o (.i .h))))) (.bin .mul (.val .int) (.c (.int .i64 (.ofNat 2))) (.t (.i (.o (.o .h))))) none, AOper.mk (some (.i (.i .h))) (.mv (.t (.o (.i (.o (.i .h)))))) none, AOper.mk (some (.o (.o (.o .h)))) (.mv (.t (.o (.i (.o .h))))) none]) .ret)))) [.tmp (.i (.i .h)), .tmp (.o (.o (.o .h)))]
def RRead_c (n_RTable : Nat) (n_Num : Nat) : AFunc := AFunc.mk 75 (.seq (.reg [AOper.mk (some (.i .h)) (.alloc [.int .i64 (.ofNat 0), .int .i64 (.ofNat 0), .bool false]) none, AOper.mk (some (.o (.o .h))) (.mv (.c (.int .i64 (.ofNat 0)))) none]) (.seq (.reg [AOper.mk (some (.o (.o (.o (.o .h))))) (.call n_RTable [.t .h, .c (.str [104, 101, 97, 100])]) none, AOper.mk (some (.i (.o (.o (.o .h))))) (.extract (.t (.o (.o (.o (.o .h))))) 0) none, AOper.mk (some (.o (.i (.o (.o .h))))) (.extract (.t (.o (.o (.o (.o .h))))) 1) none, AOper.mk (some (.i (.o .h))) (.mv (.t (.i (.o (.o (.o .h)))))) none, AOper.mk (some (.o (.i .h))) (.mv (.t (.o (.i (.o (.o .h)))))) none]) (.seq (.block 0 (.seq (.reg [AOper.mk (some (.i (.o (.i (.o .h))))) (.un .not (.t (.o (.i .h)))) none, AOper.mk (some (.i (.i (.o (.o .h))))) (.mv (.t (.i (.o (.i (.o .h)))))) none]) (.cond (.t (.i (.i (.o (.o .h))))) (.seq (.reg [AOper.mk (some (.o (.i (.i (.o .h))))) (.build [.int .i64 (.ofNat 0), .int .i64 (.ofNat 0), .bool false] []) none, AOper.mk none (.store 3 (.t (.i .h)) (.t (.o (.i (.i (.o .h)))))) none, AOper.mk (some (.o (.o .h))) (.mv (.c (.int .i64 (.ofNat 6)))) none]) .ret) (.seq (.reg [AOper.mk (some (.i (.o (.o (.i .h))))) (.len .slice (.t (.i (.o .h)))) none, AOper.mk (some (.o (.i (.o (.i .h))))) (.bin .lss (.val .int) (.t (.i (.o (.o (.i .h))))) (.c (.int .i64 (.ofNat 54)))) none, AOper.mk (some (.i (.i (.i (.o .h))))) (.mv (.t (.o (.i (.o (.i .h)))))) none]) (.cond (.t (.i (.i (.i (.o .h))))) (.seq (.reg [AOper.mk (some (.i (.i (.o (.i .h))))) (.build [.int .i64 (.ofNat 0), .int .i64 (.ofNat 0), .bool false] []) none, AOper.mk none (.store 3 (.t (.i .h)) (.t (.i (.i (.o (.i .h)))))) none, AOper.mk (some (.o (.o .h))) (.mv (.c (.int .i64 (.ofNat 3)))) none]) .ret) .skip))))) (.seq (.reg [AOper.mk (some (.o (.i (.i (.i .h))))) (.call n_Num [.t (.i (.o .h)), .c (.int .i64 (.ofNat 18)), .c (.int .i64 (.ofNat 2))]) none, AOper.mk (some (.i (.i (.i (.i .h))))) (.extract (.t (.o (.i (.i (.i .h))))) 0) none, AOper.mk (some (.o (.o (.o (.o (.o .h)))))) (.extract (.t (.o (.i (.i (.i .h))))) 1) none, AOper.mk (some (.i (.i .h))) (.mv (.t (.i (.i (.i (.i .h)))))) none, AOper.mk (some (.o (.o (.o .h)))) (.mv (.t (.o (.o (.o (.o (.o .h))))))) none]) (.seq (.reg [AOper.mk (some (.i (.i (.o (.o (.o .h)))))) (.call n_Num [.t (.i (.o .h)), .c (.int .i64 (.ofNat 50)), .c (.int .i64 (.ofNat 2))]) none, AOper.mk (some (.o (.o (.i (.o (.o .h)))))) (.extract (.t (.i (.i (.o (.o (.o .h)))))) 0) none, AOper.mk (some (.i (.o (.i (.o (.o .h)))))) (.extract (.t (.i (.i (.o (.o (.o .h)))))) 1) none, AOper.mk (some (.i (.o (.o .h)))) (.mv (.t (.o (.o (.i (.o (.o .h))))))) none, AOper.mk (some (.o (.i (.o .h)))) (.mv (.t (.i (.o (.i (.o (.o .h))))))) none]) (.seq (.seq (.reg [AOper.mk (some (.i (.i (.i (.o (.o .h)))))) (.bin .lss (.val .int) (.t (.i (.i .h))) (.c (.int .i64 (.ofNat 16)))) none, AOper.mk (some (.o (.o (.o (.i (.o .h)))))) (.mv (.t (.i (.i (.i (.o (.o .h))))))) none, AOper.mk (some (.o (.i (.o (.i (.o .h)))))) (.bin .gtr (.val .int) (.t (.i (.i .h))) (.c (.int .i64 (.ofNat 16384)))) (some (.o (.o (.o (.i (.o .h)))), false)), AOper.mk (some (.i (.i (.o (.i (.o .h)))))) (.pick (.t (.o (.o (.o (.i (.o .h)))))) (.c (.bool true)) (.t (.o (.i (.o (.i (.o .h))))))) none, AOper.mk (some (.o (.o (.i (.i (.o .h)))))) (.mv (.t (.i (.i (.o (.i (.o .h))))))) none, AOper.mk (some (.o (.i (.i (.i (.o .h)))))) (.bin .gtr (.val .int) (.t (.i (.o (.o .h)))) (.c (.int .i64 (.ofNat 1)))) (some (.o (.o (.i (.i (.o .h)))), false)), AOper.mk (some (.i (.i (.i (.i (.o .h)))))) (.pick (.t (.o (.o (.i (.i (.o .h)))))) (.c (.bool true)) (.t (.o (.i (.i (.i (.o .h))))))) none]) (.cond (.t (.i (.i (.i (.i (.o .h)))))) (.seq (.reg [AOper.mk (some (.o (.o (.o (.o (.i .h)))))) (.build [.int .i64 (.ofNat 0), .int .i64 (.ofNat 0), .bool false] []) none, AOper.mk none (.store 3 (.t (.i .h)) (.t (.o (.o (.o (.o (.i .h))))))) none, AOper.mk (some (.o (.o .h))) (.mv (.c (.int .i64 (.ofNat 2)))) none]) .ret) .skip)) (.seq (.reg [AOper.mk (some (.i (.i (.o (.o (.i .h)))))) (.call n_RTable [.t .h, .c (.str [109, 97, 120, 112])]) none, AOper.mk (some (.o (.o (.i (.o (.i .h)))))) (.extract (.t (.i (.i (.o (.o (.i .h)))))) 0) none, AOper.mk (some (.i (.o (.i (.o (.i .h)))))) (.extract (.t (.i (.i (.o (.o (.i .h)))))) 1) none, AOper.mk (some (.i (.i (.o .h)))) (.mv (.t (.o (.o (.i (.o (.i .h))))))) none, AOper.mk (some (.o (.i .h))) (.mv (.t (.i (.o (.i (.o (.i .h))))))) none]) (.seq (.block 1 (.seq (.reg [AOper.mk (some (.o (.o (.o (.i (.i .h)))))) (.un .not (.t (.o (.i .h)))) none, AOper.mk (some (.o (.i (.i (.o (.i .h)))))) (.mv (.t (.o (.o (.o (.i (.i .h))))))) none]) (.cond (.t (.o (.i (.i (.o (.i .h)))))) (.seq (.reg [AOper.mk (some (.i (.o (.o (.i (.i .h)))))) (.build [.int .i64 (.ofNat 0), .int .i64 (.ofNat 0), .bool false] []) none, AOper.mk none (.store 3 (.t (.i .h)) (.t (.i (.o (.o (.i (.i .h))))))) none, AOper.mk (some (.o (.o .h))) (.mv (.c (.int .i64 (.ofNat 6)))) none]) .ret) (.seq (.reg [AOper.mk (some (.o (.o (.i (.i (.i .h)))))) (.len .slice (.t (.i (.i (.o .h))))) none, AOper.mk (some (.i (.o (.i (.i (.i .h)))))) (.bin .lss (.val .int) (.t (.o (.o (.i (.i (.i .h)))))) (.c (.int .i64 (.ofNat 6)))) none, AOper.mk (some (.o (.i (.o (.i (.i .h)))))) (.mv (.t (.i (.o (.i (.i (.i .h))))))) none]) (.cond (.t (.o (.i (.o (.i (.i .h)))))) (.seq (.reg [AOper.mk (some (.o (.i (.i (.i (.i .h)))))) (.build [.int .i64 (.ofNat 0), .int .i64 (.ofNat 0), .bool false] []) none, AOper.mk none (.store 3 (.t (.i .h)) (.t (.o (.i (.i (.i (.i .h))))))) none, AOper.mk (some (.o (.o .h))) (.mv (.c (.int .i64 (.ofNat 3)))) none]) .ret) .skip))))) (.seq (.reg [AOper.mk (some (.i (.o (.o (.o (.o (.o .h))))))) (.call n_Num [.t (.i (.i (.o .h))), .c (.int .i64 (.ofNat 4)), .c (.int .i64 (.ofNat 2))]) none, AOper.mk (some (.o (.i (.o (.o (.o (.o .h))))))) (.extract (.t (.i (.o (.o (.o (.o (.o .h))))))) 0) none, AOper.mk (some (.i (.i (.o (.o (.o (.o .h))))))) (.extract (.t (.i (.o (.o (.o (.o (.o .h))))))) 1) none, AOper.mk (some (.o (.o (.i .h)))) (.mv (.t (.o (.i (.o (.o (.o (.o .h)))))))) none, AOper.mk (some (.i (.o (.i .h)))) (.mv (.t (.i (.i (.o (.o (.o (.o .h)))))))) none]) (.seq (.seq (.reg [AOper.mk (some (.i (.o (.i (.o (.o (.o .h))))))) (.bin .eql (.val .int) (.t (.o (.o (.i .h)))) (.c (.int .i64 (.ofNat 0)))) none]) (.cond (.t (.i (.o (.i (.o (.o (.o .h))))))) (.seq (.reg [AOper.mk (some (.o (.i (.i (.o (.o (.o .h))))))) (.build [.int .i64 (.ofNat 0), .int .i64 (.ofNat 0), .bool false] []) none, AOper.mk none (.store 3 (.t (.i .h)) (.t (.o (.i (.i (.o (.o (.o .h)))))))) none, AOper.mk (some (.o (.o .h))) (.mv (.c (.int .i64 (.ofNat 2)))) none]) .ret) .skip)) (.seq (.reg [AOper.mk (some (.o (.i (.o (.i (.o (.o .h))))))) (.bin .eql (.val .int) (.t (.i (.o (.o .h)))) (.c (.int .i64 (.ofNat 1)))) none, AOper.mk (some (.i (.i (.o (.i (.o (.o .h))))))) (.build [.int .i64 (.ofNat 0), .int .i64 (.ofNat 0), .bool false] [(0, (1, .t (.i (.i .h)))), (1, (1, .t (.o (.o (.i .h))))), (2, (1, .t (.o (.i (.o (.i (.o (.o .h))))))))]) none, AOper.mk none (.store 3 (.t (.i .h)) (.t (.i (.i (.o (.i (.o (.o .h)))))))) none, AOper.mk (some (.o (.o .h))) (.mv (.c (.int .i64 (.ofNat 0)))) none]) .ret))))))))))) [.cell (.i .h) true 3, .tmp (.o (.o .h))]
def RRange_c (n_RTable : Nat) (n_Num : Nat) : AFunc := AFunc.mk 87 (.seq (.reg [AOper.mk (some (.i (.o .h))) (.box (.t (.o .h))) none, AOper.mk (some (.i (.i .h))) (.mv (.c (.int .i64 (.ofNat 0)))) none, AOper.mk (some (.o (.o (.o .h)))) (.mv (.c (.int .i64 (.ofNat 0)))) none, AOper.mk (some (.i (.o (.o .h)))) (.mv (.c (.int .i64 (.ofNat 0)))) none]) (.seq (.seq (.reg [AOper.mk (some (.i (.o (.i (.o .h))))) (.bin .lss (.val .int) (.t (.i .h)) (.c (.int .i64 (.ofNat 0)))) none, AOper.mk (some (.o (.i (.i (.o .h))))) (.mv (.t (.i (.o (.i (.o .h)))))) none, AOper.mk (some (.o (.o (.o (.i .h))))) (.fieldAddr 1 (.t (.i (.o .h)))) (some (.o (.i (.i (.o .h))), false)), AOper.mk (some (.i (.o (.o (.i .h))))) (.load false 1 (.t (.o (.o (.o (.i .h)))))) (some (.o (.i (.i (.o .h))), false)), AOper.mk (some (.o (.i (.o (.i .h))))) (.bin .geq (.val .int) (.t (.i .h)) (.t (.i (.o (.o (.i .h)))))) (some (.o (.i (.i (.o .h))), false)), AOper.mk (some (.i (.i (.o (.i .h))))) (.pick (.t (.o (.i (.i (.o .h))))) (.c (.bool true)) (.t (.o (.i (.o (.i .h)))))) none]) (.cond (.t (.i (.i (.o (.i .h))))) (.seq (.reg [AOper.mk (some (.i (.i .h))) (.mv (.c (.int .i64 (.ofNat 0)))) none, AOper.mk (some (.o (.o (.o .h)))) (.mv (.c (.int .i64 (.ofNat 0)))) none, AOper.mk (some (.i (.o (.o .h)))) (.mv (.c (.int .i64 (.ofNat 1)))) none]) .ret) .skip)) (.seq (.reg [AOper.mk (some (.o (.i (.i (.i .h))))) (.call n_RTable [.t .h, .c (.str [108, 111, 99, 97])]) none, AOper.mk (some (.i (.i (.i (.i .h))))) (.extract (.t (.o (.i (.i (.i .h))))) 0) none, AOper.mk (some (.o (.o (.o (.o (.o .h)))))) (.extract (.t (.o (.i (.i (.i .h))))) 1) none, AOper.mk (some (.o (.i (.o .h)))) (.mv (.t (.i (.i (.i (.i .h)))))) none, AOper.mk (some (.i (.i (.o .h)))) (.mv (.t (.o (.o (.o (.o (.o .h))))))) none]) (.seq (.reg [AOper.mk (some (.i (.i (.o (.o (.o .h)))))) (.call n_RTable [.t .h, .c (.str [103, 108, 121, 102])]) none, AOper.mk (some (.o (.o (.i (.o (.o .h)))))) (.extract (.t (.i (.i (.o (.o (.o .h)))))) 0) none, AOper.mk (some (.i (.o (.i (.o (.o .h)))))) (.extract (.t (.i (.i (.o (.o (.o .h)))))) 1) none, AOper.mk (some (.o (.o (.i .h)))) (.mv (.t (.o (.o (.i (.o (.o .h))))))) none, AOper.mk (some (.i (.o (.i .h)))) (.mv (.t (.i (.o (.i (.o (.o .h))))))) none]) (.seq (.seq (.reg [AOper.mk (some (.i (.i (.i (.o (.o .h)))))) (.un .not (.t (.i (.i (.o .h))))) none, AOper.mk (some (.o (.o (.o (.i (.o .h)))))) (.mv (.t (.i (.i (.i (.o (.o .h))))))) none, AOper.mk (some (.o (.i (.o (.i (.o .h)))))) (.un .not (.t (.i (.o (.i .h))))) (some (.o (.o (.o (.i (.o .h)))), false)), AOper.mk (some (.i (.i (.o (.i (.o .h)))))) (.pick (.t (.o (.o (.o (.i (.o .h)))))) (.c (.bool true)) (.t (.o (.i (.o (.i (.o .h))))))) none]) (.cond (.t (.i (.i (.o (.i (.o .h)))))) (.seq (.reg [AOper.mk (some (.i (.i .h))) (.mv (.c (.int .i64 (.ofNat 0)))) none, AOper.mk (some (.o (.o (.o .h)))) (.mv (.c (.int .i64 (.ofNat 0)))) none, AOper.mk (some (.i (.o (.o .h)))) (.mv (.c (.int .i64 (.ofNat 6)))) none]) .ret) .skip)) (.seq (.seq (.reg [AOper.mk (some (.o (.i (.i (.i (.o .h)))))) (.len .slice (.t (.o (.i (.o .h))))) none, AOper.mk (some (.i (.i (.i (.i (.o .h)))))) (.bin .gtr (.val .int) (.t (.i .h)) (.t (.o (.i (.i (.i (.o .h))))))) none]) (.cond (.t (.i (.i (.i (.i (.o .h)))))) (.seq (.reg [AOper.mk (some (.i (.i .h))) (.mv (.c (.int .i64 (.ofNat 0)))) none, AOper.mk (some (.o (.o (.o .h)))) (.mv (.c (.int .i64 (.ofNat 0)))) none, AOper.mk (some (.i (.o (.o .h)))) (.mv (.c (.int .i64 (.ofNat 3)))) none]) .ret) .skip)) (.seq (.reg [AOper.mk (some (.o (.i (.i .h)))) (.mv (.c (.int .i64 (.ofNat 2)))) none]) (.seq (.reg [AOper.mk (some (.i (.i (.i .h)))) (.mv (.c (.int .i64 (.ofNat 2)))) none]) (.seq (.seq (.reg [AOper.mk (some (.o (.o (.o (.o (.i .h)))))) (.fieldAddr 2 (.t (.i (.o .h)))) none, AOper.mk (some (.i (.o (.o (.o (.i .h)))))) (.load false 1 (.t (.o (.o (.o (.o (.i .h))))))) none]) (.cond (.t (.i (.o (.o (.o (.i .h)))))) (.seq (.reg [AOper.mk (some (.o (.i (.i .h)))) (.mv (.c (.int .i64 (.ofNat 4)))) none]) (.reg [AOper.mk (some (.i (.i (.i .h)))) (.mv (.c (.int .i64 (.ofNat 1)))) none])) .skip)) (.seq (.reg [AOper.mk (some (.o (.i (.i (.o (.i .h)))))) (.bin .mul (.val .int) (.t (.o (.i (.i .h)))) (.t (.i .h))) none, AOper.mk (some (.o (.o (.o (.i (.i .h)))))) (.call n_Num [.t (.o (.i (.o .h))), .t (.o (.i (.i (.o (.i .h))))), .t (.o (.i (.i .h)))]) none, AOper.mk (some (.i (.o (.o (.i (.i .h)))))) (.extract (.t (.o (.o (.o (.i (.i .h)))))) 0) none, AOper.mk (some (.o (.i (.o (.i (.i .h)))))) (.extract (.t (.o (.o (.o (.i (.i .h)))))) 1) none, AOper.mk (some (.o (.o (.o (.o .h))))) (.mv (.t (.i (.o (.o (.i (.i .h))))))) none, AOper.mk (some (.i (.o (.o (.o .h))))) (.mv (.t (.o (.i (.o (.i (.i .h))))))) none]) (.seq (.reg [AOper.mk (some (.i (.i (.i (.i (.i .h)))))) (.bin .add (.val .int) (.t (.i .h)) (.c (.int .i64 (.ofNat 1)))) none, AOper.mk (some (.o (.o (.o (.o (.o (.o .h))))))) (.bin .mul (.val .int) (.t (.o (.i (.i .h)))) (.t (.i (.i (.i (.i (.i .h))))))) none, AOper.mk (some (.o (.i (.o (.o (.o (.o .h))))))) (.call n_Num [.t (.o (.i (.o .h))), .t (.o (.o (.o (.o (.o (.o .h)))))), .t (.o (.i (.i .h)))]) none, AOper.mk (some (.i (.i (.o (.o (.o (.o .h))))))) (.extract (.t (.o (.i (.o (.o (.o (.o .h))))))) 0) none, AOper.mk (some (.o (.o (.i (.o (.o (.o .h))))))) (.extract (.t (.o (.i (.o (.o (.o (.o .h))))))) 1) none, AOper.mk (some (.o (.i (.o (.o .h))))) (.mv (.t (.i (.i (.o (.o (.o (.o .h)))))))) none, AOper.mk (some (.i (.i (.o (.o .h))))) (.mv (.t (.o (.o (.i (.o (.o (.o .h)))))))) none]) (.seq (.seq (.reg [AOper.mk (some (.o (.i (.i (.o (.o (.o .h))))))) (.un .not (.t (.i (.i (.o (.o .h)))))) none]) (.cond (.t (.o (.i (.i (.o (.o (.o .h))))))) (.seq (.reg [AOper.mk (some (.i (.i .h))) (.mv (.c (.int .i64 (.ofNat 0)))) none, AOper.mk (some (.o (.o (.o .h)))) (.mv (.c (.int .i64 (.ofNat 0)))) none, AOper.mk (some (.i (.o (.o .h)))) (.mv (.c (.int .i64 (.ofNat 3)))) none]) .ret) .skip)) (.seq (.reg [AOper.mk (some (.i (.o (.o (.i (.o (.o .h))))))) (.bin .mul (.val .int) (.t (.o (.o (.o (.o .h))))) (.t (.i (.i (.i .h))))) none, AOper.mk (some (.o (.o (.o (.o .h))))) (.mv (.t (.i (.o (.o (.i (.o (.o .h)))))))) none]) (.seq (.reg [AOper.mk (some (.o (.o (.i (.i (.o (.o .h))))))) (.bin .mul (.val .int) (.t (.o (.i (.o (.o .h))))) (.t (.i (.i (.i .h))))) none, AOper.mk (some (.o (.i (.o (.o .h))))) (.mv (.t (.o (.o (.i (.i (.o (.o .h)))))))) none]) (.seq (.seq (.reg [AOper.mk (some (.i (.i (.i (.i (.o (.o .h))))))) (.bin .gtr (.val .int) (.t (.o (.o (.o (.o .h))))) (.t (.o (.i (.o (.o .h)))))) none, AOper.mk (some (.o (.o (.o (.o (.i (.o .h))))))) (.mv (.t (.i (.i (.i (.i (.o (.o .h)))))))) none, AOper.mk (some (.i (.i (.o (.o (.i (.o .h))))))) (.len .slice (.t (.o (.o (.i .h))))) (some (.o (.o (.o (.o (.i (.o .h))))), false)), AOper.mk (some (.o (.o (.i (.o (.i (.o .h))))))) (.bin .gtr (.val .int) (.t (.o (.i (.o (.o .h))))) (.t (.i (.i (.o (.o (.i (.o .h)))))))) (some (.o (.o (.o (.o (.i (.o .h))))), false)), AOper.mk (some (.i (.o (.i (.o (.i (.o .h))))))) (.pick (.t (.o (.o (.o (.o (.i (.o .h))))))) (.c (.bool true)) (.t (.o (.o (.i (.o (.i (.o .h)))))))) none]) (.cond (.t (.i (.o (.i (.o (.i (.o .h))))))) (.seq (.reg [AOper.mk (some (.i (.i .h))) (.mv (.c (.int .i64 (.ofNat 0)))) none, AOper.mk (some (.o (.o (.o .h)))) (.mv (.c (.int .i64 (.ofNat 0)))) none, AOper.mk (some (.i (.o (.o .h)))) (.mv (.c (.int .i64 (.ofNat 2)))) none]) .ret) .skip)) (.seq (.reg [AOper.mk (some (.i (.i .h))) (.mv (.t (.o (.o (.o (.o .h)))))) none, AOper.mk (some (.o (.o (.o .h)))) (.mv (.t (.o (.i (.o (.o .h)))))) none, AOper.mk (some (.i (.o (.o .h)))) (.mv (.c (.int .i64 (.ofNat 0)))) none]) .ret)))))))))))))))) [.tmp (.i (.i .h)), .tmp (.o (.o (.o .h))), .tmp (.i (.o (.o .h)))]
def big_c (n_Big : Nat) : AFunc := AFunc.mk 8 (.seq (.reg [AOper.mk (some (.i (.o .h))) (.mv (.c (.slice none 0 0 0 true))) none]) (.seq (.reg [AOper.mk (some (.o (.o (.o .h)))) (.call n_Big [.t .h, .t (.o .h)]) none, AOper.mk (some (.i (.o .h))) (.mv (.t (.o (.o (.o .h))))) none]) .ret)) [.tmp (.i (.o .h))]
def Font_c (n_RLay : Nat) : AFunc := AFunc.mk 14 (.seq (.reg [AOper.mk (some (.i (.o .h))) (.mv (.c (.slice none 0 0 0 true))) none]) (.seq (.reg [AOper.mk (some (.i (.i (.o .h)))) (.call n_RLay [.t .h, .t (.o .h)]) none, AOper.mk (some (.o (.o (.i .h)))) (.extract (.t (.i (.i (.o .h)))) 0) none, AOper.mk (some (.i (.o (.i .h)))) (.extract (.t (.i (.i (.o .h)))) 1) none, AOper.mk (some (.o (.i .h))) (.mv (.t (.o (.o (.i .h))))) none, AOper.mk (some (.i (.i .h))) (.mv (.t (.i (.o (.i .h))))) none]) (.seq (.reg [AOper.mk (some (.i (.o .h))) (.mv (.t (.o (.i .h)))) none]) .ret))) [.tmp (.i (.o .h))]
def open_c (n_Open : Nat) (n_ROpen : Nat) : AFunc := AFunc.mk 20 (.seq (.reg [AOper.mk (some (.i .h)) (.mv (.c (.ptr none))) none, AOper.mk (some (.o (.o .h))) (.mv (.c (.ptr none))) none]) (.seq (.reg [AOper.mk (some (.i (.i (.o .h)))) (.call n_Open [.t .h]) none, AOper.mk (some (.o (.o (.i .h)))) (.extract (.t (.i (.i (.o .h)))) 0) none, AOper.mk (some (.i (.o (.i .h)))) (.extract (.t (.i (.i (.o .h)))) 1) none, AOper.mk (some (.i (.o .h))) (.mv (.t (.o (.o (.i .h))))) none, AOper.mk (some (.o (.i .h))) (.mv (.t (.i (.o (.i .h))))) none]) (.seq (.reg [AOper.mk (some (.o (.o (.o (.o .h))))) (.call n_ROpen [.t .h]) none, AOper.mk (some (.i (.o (.o (.o .h))))) (.extract (.t (.o (.o (.o (.o .h))))) 0) none, AOper.mk (some (.o (.i (.o (.o .h))))) (.extract (.t (.o (.o (.o (.o .h))))) 1) none, AOper.mk (some (.i (.i .h))) (.mv (.t (.i (.o (.o (.o .h)))))) none, AOper.mk (some (.o (.o (.o .h)))) (.mv (.t (.o (.i (.o (.o .h)))))) none]) (.seq (.reg [AOper.mk (some (.i .h)) (.mv (.t (.i (.o .h)))) none, AOper.mk (some (.o (.o .h))) (.mv (.t (.i (.i .h)))) none]) .ret)))) [.tmp (.i .h), .tmp (.o (.o .h))]
def plain_c (n_Base : Nat) (n_Font : Nat) : AFunc := AFunc.mk 19 (.seq (.reg [AOper.mk (some (.i (.i .h))) (.mv (.c (.slice none 0 0 0 true))) none]) (.seq (.reg [AOper.mk (some (.o (.i (.i .h)))) (.call n_Base [.t .h, .t (.i .h), .t (.o .h)]) none, AOper.mk (some (.i (.i (.i .h)))) (.extract (.t (.o (.i (.i .h)))) 0) none, AOper.mk (some (.o (.o (.o (.o .h))))) (.extract (.t (.o (.i (.i .h)))) 1) none, AOper.mk (some (.o (.o (.o .h)))) (.mv (.t (.i (.i (.i .h))))) none, AOper.mk (some (.i (.o (.o .h)))) (.mv (.t (.o (.o (.o (.o .h)))))) none]) (.seq (.reg [AOper.mk (some (.i (.i (.o (.o .h))))) (.call n_Font [.t (.o (.o (.o .h))), .t (.i (.o (.o .h)))]) none, AOper.mk (some (.i (.i .h))) (.mv (.t (.i (.i (.o (.o .h)))))) none]) .ret))) [.tmp (.i (.i .h))]
attribute [local simp] wp_skip wp_ret wp_exit wp_reg wp_seq wp_cond wp_block thenQ_normal thenQ_ret thenQ_exit blockQ_normal blockQ_ret blockQ_exit wpCond_true wpCond_false wpOps_nil wpVal_some wpGuard_true wpGuard_false wpOps_guard wpOps_cons
  put_at put_no ev_c ev_slot posEq_h posEq_o posEq_i posEq_ho posEq_hi posEq_oh posEq_ih posEq_oi posEq_io sel_true sel_false
  okv_some step_mv step_call step_pick pickV_bool step_bin bin_add bin_sub bin_mul bin_eql bin_neq bin_lss bin_leq bin_gtr bin_geq bin_eqb bin_neb bin_eqs bin_nes step_un un_not un_neg step_len len_slice len_str len_const step_extract extractV nth step_convInt conv_int step_convStr step_slice step_idxAddr natOf_nat step_load step_index step_field step_fieldAddr step_build step_minmax
  step_alloc step_bslice bsliceV_some newV_some step_store step_append boolIs_b boolIs_t finQ_ret finQ_normal ressE_nil ressE_cons resE_tmp consO_some initE_nil initE_cons pos_0 pos_1 pos_2 pos_3 pos_4 pos_5 pos_6 pos_7 pos_8 plain_bool plain_int plain_str plain_ptr plain_slice plain_map plain_agg plain_func plain_nilFunc V.undef oneOf_one oneOf_two ble_self
open Go.Vabs.Pk Go.Vabs.Ph Go.Vabs.Sa Go.Vabs.Sb Go.Vabs.Sc Go.Vabs.Sd Go.Vabs.Se Go.Vabs.Sg Go.Vabs.Sh Go.Vabs.Sm Go.Vabs.Sn Go.Vabs.Sp Go.Vabs.Sr Go.Vabs.St Go.Vabs.Su Go.Vabs.L2
attribute [local simp] step_nilchk nilchk_ptr step_box cells_int cells_bool cells_str cells_slice cells_ptr cells_agg fieldAddrV natOf_zero fill repN splice over newV step_appendZ
/- WHAT TABLES TELL -/
def askL (L : List Itm) (t : List Nat) : Option (List Nat) := (L.find? fun x => decide (x.1 = t)).map (·.2)
theorem ask_some {L : List Itm} {t b : List Nat} (h : askL L t = some b) : ∃ j : Nat, L[j]? = some (t, b) := by
  unfold askL at h
  obtain ⟨x, hx, rfl⟩ := Option.map_eq_some_iff.1 h
  have h1 := List.mem_of_find?_eq_some hx
  have h2 := List.find?_some hx
  simp only [decide_eq_true_eq] at h2
  obtain ⟨j, hj, he⟩ := List.mem_iff_getElem.1 h1
  exact ⟨j, by rw [List.getElem?_eq_getElem hj, he, ← h2]⟩
theorem ask_none {L : List Itm} {t : List Nat} (h : askL L t = none) : ¬ t ∈ L.map (·.1) := by
  unfold askL at h
  rw [Option.map_eq_none_iff, List.find?_eq_none] at h
  intro hm
  obtain ⟨x, hx, rfl⟩ := List.mem_map.1 hm
  exact h x hx (by simp)
/-- A font's tables are few bytes. -/
structure Tame (L : List Itm) : Prop where
  nd : (L.map (·.1)).Nodup
  few : L.length ≤ 64
  tabs : ∀ x ∈ L, x.2.length ≤ 140737488354000 ∧ ∀ b ∈ x.2, b < 256
theorem Tame.ask {L : List Itm} (h : Tame L) {t b : List Nat} (ha : askL L t = some b) : b.length ≤ 140737488354000 ∧ ∀ x ∈ b, x < 256 := by
  obtain ⟨j, hj⟩ := ask_some ha
  exact h.tabs _ (List.mem_of_getElem? hj)
theorem held_bytes {os : List (Option AObj)} {p : Nat} {b : List Nat} (h : (os[p]?).join = some (newBytes b)) (hb : ∀ x ∈ b, x < 256) : bytesAt (few os) (heldV p b) = some b := lookB_at (lookB_own h hb).2
/-- A table that is asked of the program's font. -/
theorem ask_font {call : CallT} {g : Nat} (hT : TableF call g) (hN : TableNF call g) {os : List (Option AObj)} {F : Nat} {L : List Itm} (h : FontMem os F L) (hL : Tame L) (t : List Nat) :
    ∃ v l, call g [.ptr (some (F, 0)), .str t] (few os) = some (.tuple [v, .bool (askL L t).isSome], few (os ++ l)) ∧ v.plain = true ∧ bytesAt (few (os ++ l)) v = some ((askL L t).getD []) ∧ ∀ b, askL L t = some b → ∃ p, v = heldV p b ∧ ((os ++ l)[p]?).join = some (newBytes b) := by
  cases ha : askL L t with
  | none => exact ⟨_, [], by rw [List.append_nil]; exact h.no hN (ask_none ha), rfl, rfl, fun b hb => by cases hb⟩
  | some b =>
    obtain ⟨j, hj⟩ := ask_some ha
    obtain ⟨hb1, hb2⟩ := hL.ask ha
    have h1 := h.table hT hL.nd hj (show b.length ≤ _ by omega)
    obtain ⟨p, l, hcl, _, hp⟩ := clone_held (os := os) (b := b)
    rw [hcl] at h1
    exact ⟨_, l, h1, rfl, held_bytes hp hb2, fun b' hb' => by cases hb'; exact ⟨p, rfl, hp⟩⟩
/-- A table that is asked of the reference's font. -/
theorem ask_rfont {call : CallT} {g : Nat} (hT : RTableF call g) {os : List (Option AObj)} {F : Nat} {L : List Itm} (h : RFontMem os F L) (hL : Tame L) (t : List Nat) :
    ∃ v, call g [.ptr (some (F, 0)), .str t] (few os) = some (.tuple [v, .bool (askL L t).isSome], few os) ∧ v.plain = true ∧ bytesAt (few os) v = some ((askL L t).getD []) := by
  have h1 := hT os F _ _ _ _ t h.at_ (by rw [List.length_map]; exact hL.few)
  cases ha : askL L t with
  | none =>
    rw [lookT_no (ask_none ha)] at h1
    exact ⟨_, h1, rfl, rfl⟩
  | some b =>
    obtain ⟨j, hj⟩ := ask_some ha
    have hlt := (List.getElem?_eq_some_iff.1 hj).1
    have key : ∀ (k : Nat), k ≤ j → lookT t ((L.map (·.1)).drop k) ((slsV L (idsOf' (F + 1) L.length)).drop k) = .tuple [.slice (some (F + 1 + j, 0)) 1 b.length b.length false, .bool true] := by
      intro k hk
      obtain ⟨d, hd⟩ : ∃ d, d = j - k := ⟨_, rfl⟩
      induction d generalizing k with
      | zero =>
        have : k = j := by omega
        subst this
        rw [lookT_drop (x := t) (v := .slice (some (F + 1 + k, 0)) 1 b.length b.length false) (by rw [List.getElem?_map, hj]; rfl) (sls_at hj), if_pos rfl]
      | succ d ih =>
        have hkj : k < j := by omega
        obtain ⟨y, hy⟩ : ∃ y, L[k]? = some y := ⟨_, List.getElem?_eq_getElem (by omega)⟩
        rw [lookT_drop (x := y.1) (by rw [List.getElem?_map, hy]; rfl) (sls_at hy), if_neg, ih (k + 1) (by omega) (by omega)]
        intro e
        have h1 : (L.map (·.1))[k]? = some t := by rw [List.getElem?_map, hy, ← e]; rfl
        have h2 : (L.map (·.1))[j]? = some t := by rw [List.getElem?_map, hj]; rfl
        have := nodup_at' hL.nd h1 h2
        omega
    have h0 := key 0 (by omega)
    rw [List.drop_zero, List.drop_zero] at h0
    rw [h0] at h1
    obtain ⟨hb1, hb2⟩ := hL.ask ha
    exact ⟨_, h1, rfl, lookB_at (lookB_own (h.ft j _ hj) hb2).2⟩
/- THE NUMBERS OF A FONT -/
abbrev Met := Int × Int × Bool
def mV (m : Met) : V := .agg [.int .i64 m.1, .int .i64 m.2.1, .bool m.2.2]
def z3 : Met := (0, 0, false)
def tHead : List Nat := [104, 101, 97, 100]
def tMaxp : List Nat := [109, 97, 120, 112]
def tLoca : List Nat := [108, 111, 99, 97]
def tGlyf : List Nat := [103, 108, 121, 102]
def nm (b : List Nat) (x : Int) (z : Nat) : Nat := (num b x z).getD 0
def readS (L : List Itm) : Met × Int :=
  match askL L tHead with
  | none => (z3, 6)
  | some h => if h.length < 54 then (z3, 3) else if nm h 18 2 < 16 ∨ 16384 < nm h 18 2 ∨ 1 < nm h 50 2 then (z3, 2) else
    match askL L tMaxp with
    | none => (z3, 6)
    | some p => if p.length < 6 then (z3, 3) else if nm p 4 2 = 0 then (z3, 2) else ((nm h 18 2, nm p 4 2, decide (nm h 50 2 = 1)), 0)
def ReadF (call : CallT) (g : Nat) : Prop := ∀ os F L, FontMem os F L → Tame L → ∃ l, call g [.ptr (some (F, 0))] (few os) = some (.tuple [mV (readS L).1, .int .i64 (readS L).2], few (os ++ l))
theorem nm2_lt {b : List Nat} (hb : ∀ x ∈ b, x < 256) {x : Int} : nm b x 2 < 65536 := by
  have := num_lt (bs := b) (x := x) (z := 2) hb
  exact this
set_option maxHeartbeats 4000000 in
theorem Read_run {call : CallT} {lf nT nU nI : Nat} (hT : TableF call nT) (hN : TableNF call nT) (hU : UF 2 call nU) (hI : IF 2 call nI) {os : List (Option AObj)} {F : Nat} {L : List Itm} (h : FontMem os F L) (hL : Tame L) :
    ∃ l, enterF call lf [.ptr (some (F, 0))] (few os) (Read_c nT nU nI) = some (.tuple [mV (readS L).1, .int .i64 (readS L).2], few (os ++ l)) := by
  have main := enter_wp (call := call) (lf := lf) (n := 84) (args := [.ptr (some (F, 0))]) (st := few os) (K := fun u st => (∃ l, st = few (os ++ l)) ∧ u = .tuple [mV (readS L).1, .int .i64 (readS L).2]) (c := (Read_c nT nU nI).code) (rs := (Read_c nT nU nI).results) ?_
  · obtain ⟨u, st', h1, ⟨l, rfl⟩, rfl⟩ := main
    exact ⟨l, h1⟩
  · unfold Read_c
    dsimp only
    obtain ⟨N, hNe⟩ : ∃ N, N = os.length := ⟨_, rfl⟩
    obtain ⟨A, hA⟩ : ∃ A, A = os ++ [some (AObj.cells true [.int .i64 0, .int .i64 0, .bool false])] := ⟨_, rfl⟩
    have alA : (few os).alloc (.cells true [.int .i64 0, .int .i64 0, .bool false]) = some (N, few A) := by rw [hA, hNe]; exact few_alloc os _
    have hfA := h.keep (os' := A) (fun i hi => by rw [hA]; exact join_app hi)
    obtain ⟨v1, l1, t1, p1, b1, _⟩ := ask_font hT hN hfA hL tHead
    -- a store into the answer's cell, then its load
    have fin : ∀ (l : List (Option AObj)) (u n : Int) (y : Bool), ∃ l', storeV (few (A ++ l)) 3 (.ptr (some (N, 0))) (some [.int .i64 u, .int .i64 n, .bool y]) = some (V.undef, few (os ++ l')) ∧ loadV (few (os ++ l')) true 3 (.ptr (some (N, 0))) = some (.agg [.int .i64 u, .int .i64 n, .bool y]) := by
      intro l u n y
      refine ⟨[some (AObj.cells true [.int .i64 u, .int .i64 n, .bool y])] ++ l, ?_, ?_⟩
      · rw [storeAll (k := 3) (zs := [.int .i64 0, .int .i64 0, .bool false]) (os := A ++ l) (i := N) (by rw [join_app (by rw [hA]; simp [hNe]), hA, hNe]; simp) rfl rfl]
        congr 3
        rw [hA, List.append_assoc, List.set_append_right _ _ (by omega), hNe, Nat.sub_self]
        rfl
      · rw [loadAll (k := 3) (cs := [.int .i64 u, .int .i64 n, .bool y]) (own := true) ?_ rfl]
        rw [List.getElem?_append_right (by omega), hNe, Nat.sub_self]
        rfl
    have n1 : ∀ x, call nU [v1, .int .i64 x] (few (A ++ l1)) = some (numV (num ((askL L tHead).getD []) x 2), few (A ++ l1)) := fun x => hU _ _ _ _ b1 (by
      cases ha : askL L tHead with
      | none => simp
      | some b => have := (hL.ask ha).1; simp only [Option.getD_some]; omega)
    have n2 : ∀ x, call nI [v1, .int .i64 x] (few (A ++ l1)) = some (sgnV 2 (num ((askL L tHead).getD []) x 2), few (A ++ l1)) := fun x => hI _ _ _ _ b1 (by
      cases ha : askL L tHead with
      | none => simp
      | some b => have := (hL.ask ha).1; simp only [Option.getD_some]; omega)
    have ln1 := fun st' => len_bytes (st' := st') b1
    unfold readS
    cases ha : askL L tHead with
    | none =>
      rw [ha] at t1 n1 n2
      unfold tHead at t1
      obtain ⟨l', f1, f2⟩ := fin l1 0 0 false
      simp (disch := omega) [alA, t1, p1, n1, n2, numV, sgnV, bin_eqptr, resE_cell, f1, f2]
      exact ⟨⟨l', rfl⟩, rfl⟩
    | some hd =>
      obtain ⟨hdl, hdb⟩ := hL.ask ha
      rw [ha] at t1 n1 n2 ln1
      unfold tHead at t1
      simp only [Option.getD_some] at n1 n2 ln1
      obtain ⟨z, hz⟩ : ∃ z, z = hd.length := ⟨_, rfl⟩
      rw [← hz] at ln1
      obtain ⟨u, hu⟩ : ∃ u, u = nm hd 18 2 := ⟨_, rfl⟩
      obtain ⟨w, hw⟩ : ∃ w, w = nm hd 50 2 := ⟨_, rfl⟩
      have hu2 : u < 65536 := by rw [hu]; exact nm2_lt hdb
      have hw2 : w < 65536 := by rw [hw]; exact nm2_lt hdb
      have n1' : call nU [v1, .int .i64 18] (few (A ++ l1)) = some (.tuple [.int .i64 (u : Int), .bool (num hd 18 2).isSome], few (A ++ l1)) := by rw [n1, hu]; rfl
      obtain ⟨sw, hsw⟩ : ∃ s, s = sgn 2 w := ⟨_, rfl⟩
      have hsw2 : (w ≤ 32767 ∧ sw = w) ∨ (32768 ≤ w ∧ sw = (w : Int) - 65536) := by
        rw [hsw]
        unfold sgn
        by_cases hc : 2 ^ (8 * 2 - 1) ≤ w
        · rw [if_pos hc]
          exact .inr ⟨hc, rfl⟩
        · rw [if_neg hc]
          exact .inl ⟨by have : ¬ 32768 ≤ w := hc; omega, rfl⟩
      have n2' : call nI [v1, .int .i64 50] (few (A ++ l1)) = some (.tuple [.int .i64 sw, .bool (num hd 50 2).isSome], few (A ++ l1)) := by rw [n2, hsw, hw]; rfl
      dsimp only
      rw [← hz, ← hu, ← hw]
      by_cases c1 : z < 54
      · obtain ⟨l', f1, f2⟩ := fin l1 0 0 false
        rw [if_pos c1]
        simp (disch := omega) [alA, t1, p1, n1', n2', ln1, bin_eqptr, resE_cell, f1, f2, dlt_t, dlt_f, dle_t, dle_f, dltn_t, dltn_f, dlen_t, dlen_f, deq_t, deq_f, deqn_t, deqn_f]
        exact ⟨⟨l', rfl⟩, rfl⟩
      rw [if_neg c1]
      by_cases c2 : u < 16 ∨ 16384 < u ∨ 1 < w
      · obtain ⟨l', f1, f2⟩ := fin l1 0 0 false
        rw [if_pos c2]
        by_cases d1 : u < 16
        · simp (disch := omega) [alA, t1, p1, n1', n2', ln1, bin_eqptr, resE_cell, f1, f2, dlt_t, dlt_f, dle_t, dle_f, dltn_t, dltn_f, dlen_t, dlen_f, deq_t, deq_f, deqn_t, deqn_f]
          exact ⟨⟨l', rfl⟩, rfl⟩
        by_cases d2 : 16384 < u
        · simp (disch := omega) [alA, t1, p1, n1', n2', ln1, bin_eqptr, resE_cell, f1, f2, dlt_t, dlt_f, dle_t, dle_f, dltn_t, dltn_f, dlen_t, dlen_f, deq_t, deq_f, deqn_t, deqn_f]
          exact ⟨⟨l', rfl⟩, rfl⟩
        by_cases d3 : sw < 0
        · simp (disch := omega) [alA, t1, p1, n1', n2', ln1, bin_eqptr, resE_cell, f1, f2, dlt_t, dlt_f, dle_t, dle_f, dltn_t, dltn_f, dlen_t, dlen_f, deq_t, deq_f, deqn_t, deqn_f]
          exact ⟨⟨l', rfl⟩, rfl⟩
        · simp (disch := omega) [alA, t1, p1, n1', n2', ln1, bin_eqptr, resE_cell, f1, f2, dlt_t, dlt_f, dle_t, dle_f, dltn_t, dltn_f, dlen_t, dlen_f, deq_t, deq_f, deqn_t, deqn_f]
          exact ⟨⟨l', rfl⟩, rfl⟩
      rw [if_neg c2]
      have hfB := hfA.keep (os' := A ++ l1) (fun i hi => join_app hi)
      obtain ⟨v2, l2, t2, p2, b2, _⟩ := ask_font hT hN hfB hL tMaxp
      rw [List.append_assoc] at t2 b2
      have hsw0 : ¬ sw < 0 := by omega
      have hsw1 : sw = w := by omega
      cases hb : askL L tMaxp with
      | none =>
        rw [hb] at t2 b2
        unfold tMaxp at t2
        have n3 := hU _ _ _ 4 b2 (by simp)
        obtain ⟨l', f1, f2⟩ := fin (l1 ++ l2) 0 0 false
        simp (disch := omega) [alA, t1, p1, n1', n2', ln1, bin_eqptr, resE_cell, f1, f2, dlt_t, dlt_f, dle_t, dle_f, dltn_t, dltn_f, dlen_t, dlen_f, deq_t, deq_f, deqn_t, deqn_f, t2, p2, n3, numV]
        exact ⟨⟨l', rfl⟩, rfl⟩
      | some mp =>
        obtain ⟨mpl, mpb⟩ := hL.ask hb
        rw [hb] at t2 b2
        unfold tMaxp at t2
        simp only [Option.getD_some] at b2
        have ln2 := fun st' => len_bytes (st' := st') b2
        obtain ⟨y, hy⟩ : ∃ y, y = mp.length := ⟨_, rfl⟩
        rw [← hy] at ln2
        obtain ⟨n, hn⟩ : ∃ n, n = nm mp 4 2 := ⟨_, rfl⟩
        have n3 : call nU [v2, .int .i64 4] (few (A ++ (l1 ++ l2))) = some (.tuple [.int .i64 (n : Int), .bool (num mp 4 2).isSome], few (A ++ (l1 ++ l2))) := by rw [hU _ _ _ 4 b2 (by omega), hn]; rfl
        dsimp only
        rw [← hy, ← hn]
        by_cases c3 : y < 6
        · obtain ⟨l', f1, f2⟩ := fin (l1 ++ l2) 0 0 false
          rw [if_pos c3]
          simp (disch := omega) [alA, t1, p1, n1', n2', ln1, bin_eqptr, resE_cell, f1, f2, dlt_t, dlt_f, dle_t, dle_f, dltn_t, dltn_f, dlen_t, dlen_f, deq_t, deq_f, deqn_t, deqn_f, t2, p2, n3, ln2]
          exact ⟨⟨l', rfl⟩, rfl⟩
        rw [if_neg c3]
        by_cases c4 : n = 0
        · obtain ⟨l', f1, f2⟩ := fin (l1 ++ l2) 0 0 false
          rw [if_pos c4]
          simp (disch := omega) [alA, t1, p1, n1', n2', ln1, bin_eqptr, resE_cell, f1, f2, dlt_t, dlt_f, dle_t, dle_f, dltn_t, dltn_f, dlen_t, dlen_f, deq_t, deq_f, deqn_t, deqn_f, t2, p2, n3, ln2]
          exact ⟨⟨l', rfl⟩, rfl⟩
        rw [if_neg c4]
        obtain ⟨l', f1, f2⟩ := fin (l1 ++ l2) u n (decide (sw = 1))
        simp (disch := omega) [alA, t1, p1, n1', n2', ln1, bin_eqptr, resE_cell, f1, f2, dlt_t, dlt_f, dle_t, dle_f, dltn_t, dltn_f, dlen_t, dlen_f, deq_t, deq_f, deqn_t, deqn_f, t2, p2, n3, ln2]
        refine ⟨⟨l', rfl⟩, ?_⟩
        have : decide (sw = 1) = decide (w = 1) := by
          rw [hsw1]
          by_cases e : w = 1
          · subst e; rfl
          · rw [decide_eq_false e, decide_eq_false (by omega)]
        rw [this]
        rfl
theorem ReadF.code {base : CallT} {g lf nT nU nI : Nat} (hT : TableF base nT) (hN : TableNF base nT) (hU : UF 2 base nU) (hI : IF 2 base nI) : ReadF (Vabs.withF base g lf (Read_c nT nU nI)) g := fun os F L h1 h2 => by
  rw [withF_same]; exact Read_run hT hN hU hI h1 h2
theorem ReadF.withF {call : CallT} {n g lf : Nat} {fn : AFunc} (h : ReadF call n) (hne : n ≠ g) : ReadF (Vabs.withF call g lf fn) n := fun os F L a b => by rw [withF_other hne]; exact h os F L a b
theorem ReadF.other {call : CallT} {n g : Nat} {l : List V → St → Option (V × St)} (h : ReadF call n) (hne : n ≠ g) : ReadF (withL call g l) n := fun os F L a b => by rw [withL_other hne]; exact h os F L a b
/- WHERE A GLYPH STANDS -/
def rangeS (L : List Itm) (m : Met) (k : Int) : Int × Int × Int :=
  if k < 0 ∨ m.2.1 ≤ k then (0, 0, 1) else
  match askL L tLoca, askL L tGlyf with
  | some l, some g => if (l.length : Int) < k then (0, 0, 3) else
    match num l ((if m.2.2 then 4 else 2) * (k + 1)) (if m.2.2 then 4 else 2) with
    | none => (0, 0, 3)
    | some b => if (b : Nat) * (if m.2.2 then 1 else 2) < nm l ((if m.2.2 then 4 else 2) * k) (if m.2.2 then 4 else 2) * (if m.2.2 then 1 else 2) ∨ g.length < b * (if m.2.2 then 1 else 2) then (0, 0, 2)
      else ((nm l ((if m.2.2 then 4 else 2) * k) (if m.2.2 then 4 else 2) * (if m.2.2 then 1 else 2) : Nat), (b * (if m.2.2 then 1 else 2) : Nat), 0)
  | _, _ => (0, 0, 6)
def triV (x : Int × Int × Int) : V := .tuple [.int .i64 x.1, .int .i64 x.2.1, .int .i64 x.2.2]
def EntryF (call : CallT) (g : Nat) : Prop := ∀ st v bs (y : Bool) (k : Int), bytesAt st v = some bs → (∀ b ∈ bs, b < 256) → bs.length ≤ 140737488354000 → 0 ≤ k → k ≤ 140737488354001 →
  call g [v, .bool y, .int .i64 k] st = some (.tuple [.int .i64 (((num bs ((if y then 4 else 2) * k) (if y then 4 else 2)).getD 0 * (if y then 1 else 2) : Nat) : Int), .bool (num bs ((if y then 4 else 2) * k) (if y then 4 else 2)).isSome], st)
theorem EntryF.code {base : CallT} {g lf n4 n2 : Nat} (h4 : UF 4 base n4) (h2 : UF 2 base n2) : EntryF (Vabs.withF base g lf (entry_c n4 n2)) g := fun st v bs y k hv hb hl h0 h1 => by
  rw [withF_same]
  refine enter_eq ?_
  cases y with
  | true =>
    have e := h4 st v bs (4 * k) hv (by omega)
    obtain ⟨o, ho⟩ : ∃ o, o = num bs (4 * k) 4 := ⟨_, rfl⟩
    simp only [if_true] at *
    rw [← ho] at e ⊢
    simp (disch := omega) [e, numV, wrap_i]
  | false =>
    have e := h2 st v bs (2 * k) hv (by omega)
    have hlt := num_lt (bs := bs) (x := 2 * k) (z := 2) hb
    simp only [Bool.false_eq_true, if_false] at *
    obtain ⟨o, ho⟩ : ∃ o, o = num bs (2 * k) 2 := ⟨_, rfl⟩
    rw [← ho] at e hlt ⊢
    obtain ⟨d, hd⟩ : ∃ d, d = o.getD 0 := ⟨_, rfl⟩
    have e : base n2 [v, .int .i64 (2 * k)] st = some (.tuple [.int .i64 (d : Int), .bool o.isSome], st) := by rw [e, hd]; rfl
    rw [← hd] at hlt ⊢
    have hlt : d < 65536 := hlt
    simp (disch := omega) [e, wrap_i]
    omega
theorem EntryF.withF {call : CallT} {n g lf : Nat} {fn : AFunc} (h : EntryF call n) (hne : n ≠ g) : EntryF (Vabs.withF call g lf fn) n := fun st v bs y k a b c d e => by rw [withF_other hne]; exact h st v bs y k a b c d e
theorem EntryF.other {call : CallT} {n g : Nat} {l : List V → St → Option (V × St)} (h : EntryF call n) (hne : n ≠ g) : EntryF (withL call g l) n := fun st v bs y k a b c d e => by rw [withL_other hne]; exact h st v bs y k a b c d e
theorem num_some {bs : List Nat} {x : Int} {z b : Nat} (h : num bs x z = some b) : thereB bs.length x z = true := by
  unfold num at h
  split at h
  · assumption
  · cases h
theorem num_there {bs : List Nat} {x : Int} {z : Nat} (h : thereB bs.length x z = true) : ∃ b, num bs x z = some b := ⟨_, by unfold num; rw [if_pos h]⟩
def RangeF (call : CallT) (g : Nat) : Prop := ∀ os F L (m : Met) (k : Int), FontMem os F L → Tame L → ∃ l, call g [.ptr (some (F, 0)), mV m, .int .i64 k] (few os) = some (triV (rangeS L m k), few (os ++ l))
set_option maxHeartbeats 4000000 in
theorem Range_run {call : CallT} {lf nT nE : Nat} (hT : TableF call nT) (hN : TableNF call nT) (hE : EntryF call nE) {os : List (Option AObj)} {F : Nat} {L : List Itm} {m : Met} {k : Int} (h : FontMem os F L) (hL : Tame L) :
    ∃ l, enterF call lf [.ptr (some (F, 0)), mV m, .int .i64 k] (few os) (Range_c nT nE) = some (triV (rangeS L m k), few (os ++ l)) := by
  obtain ⟨mu, mg, my⟩ := m
  have main := enter_wp (call := call) (lf := lf) (n := 83) (args := [.ptr (some (F, 0)), mV (mu, mg, my), .int .i64 k]) (st := few os) (K := fun u st => (∃ l, st = few (os ++ l)) ∧ u = triV (rangeS L (mu, mg, my) k)) (c := (Range_c nT nE).code) (rs := (Range_c nT nE).results) ?_
  · obtain ⟨u, st', h1, ⟨l, rfl⟩, rfl⟩ := main
    exact ⟨l, h1⟩
  · unfold Range_c mV rangeS triV
    dsimp only
    obtain ⟨N, hNe⟩ : ∃ N, N = os.length := ⟨_, rfl⟩
    obtain ⟨A, hA⟩ : ∃ A, A = os ++ [some (AObj.cells true [.int .i64 mu, .int .i64 mg, .bool my])] := ⟨_, rfl⟩
    have alA : (few os).alloc (.cells true [.int .i64 mu, .int .i64 mg, .bool my]) = some (N, few A) := by rw [hA, hNe]; exact few_alloc os _
    have hAN : (A[N]?).join = some (AObj.cells true [.int .i64 mu, .int .i64 mg, .bool my]) := by rw [hA, hNe]; simp
    have hAl : ∀ l, ∃ l', few (A ++ l) = few (os ++ l') := fun l => ⟨_, by rw [hA, List.append_assoc]⟩
    have m1 : ∀ l, loadV (few (A ++ l)) false 1 (.ptr (some (N, 1))) = some (.int .i64 mg) := fun l => (load_few (by rw [join_app (join_lt hAN)]; exact hAN)).trans rfl
    have m2 : ∀ l, loadV (few (A ++ l)) false 1 (.ptr (some (N, 2))) = some (.bool my) := fun l => (load_few (by rw [join_app (join_lt hAN)]; exact hAN)).trans rfl
    have m10 := m1 []
    rw [List.append_nil] at m10
    have hA0 : ∃ l', few A = few (os ++ l') := ⟨_, by rw [hA]⟩
    have hfA := h.keep (os' := A) (fun i hi => by rw [hA]; exact join_app hi)
    by_cases c0 : k < 0
    · rw [if_pos (.inl c0)]
      simp (disch := omega) [alA, m10, bin_eqptr, c0, dlt_t, dlt_f, dle_t, dle_f, dltn_t, dltn_f, dlen_t, dlen_f, deq_t, deq_f, deqn_t, deqn_f]
      exact hA0
    by_cases c1 : mg ≤ k
    · rw [if_pos (.inr c1)]
      simp (disch := omega) [alA, m10, bin_eqptr, c0, c1, dlt_t, dlt_f, dle_t, dle_f, dltn_t, dltn_f, dlen_t, dlen_f, deq_t, deq_f, deqn_t, deqn_f]
      exact hA0
    rw [if_neg (by omega)]
    obtain ⟨v1, l1, t1, p1, b1, _⟩ := ask_font hT hN hfA hL tLoca
    obtain ⟨v2, l2, t2, p2, b2, _⟩ := ask_font hT hN (hfA.keep (os' := A ++ l1) (fun i hi => join_app hi)) hL tGlyf
    rw [List.append_assoc] at t2 b2
    have b1' : bytesAt (few (A ++ (l1 ++ l2))) v1 = some ((askL L tLoca).getD []) := bytesAt_grow b1 fun i hi => by rw [← List.append_assoc]; exact join_app hi
    cases ha : askL L tLoca with
    | none =>
      rw [ha] at t1
      unfold tLoca at t1
      unfold tGlyf at t2
      dsimp only
      simp (disch := omega) [alA, m10, bin_eqptr, c0, c1, dlt_t, dlt_f, dle_t, dle_f, dltn_t, dltn_f, dlen_t, dlen_f, deq_t, deq_f, deqn_t, deqn_f, t1, p1, t2, p2]
      exact hAl _
    | some lo =>
      obtain ⟨lol, lob⟩ := hL.ask ha
      rw [ha] at t1 b1 b1'
      unfold tLoca at t1
      simp only [Option.getD_some] at b1 b1'
      cases hb : askL L tGlyf with
      | none =>
        rw [hb] at t2
        unfold tGlyf at t2
        dsimp only
        simp (disch := omega) [alA, m10, bin_eqptr, c0, c1, dlt_t, dlt_f, dle_t, dle_f, dltn_t, dltn_f, dlen_t, dlen_f, deq_t, deq_f, deqn_t, deqn_f, t1, p1, t2, p2]
        exact hAl _
      | some gl =>
        obtain ⟨gll, glb⟩ := hL.ask hb
        rw [hb] at t2 b2
        unfold tGlyf at t2
        simp only [Option.getD_some] at b2
        have ln1 := fun st' => len_bytes (st' := st') b1
        have ln2 := fun st' => len_bytes (st' := st') b2
        obtain ⟨z, hz⟩ : ∃ z, z = lo.length := ⟨_, rfl⟩
        obtain ⟨w, hw⟩ : ∃ w, w = gl.length := ⟨_, rfl⟩
        rw [← hz] at ln1
        rw [← hw] at ln2
        dsimp only
        rw [← hz, ← hw]
        by_cases c2 : (z : Int) < k
        · rw [if_pos c2]
          simp (disch := omega) [alA, m10, bin_eqptr, c0, c1, dlt_t, dlt_f, dle_t, dle_f, dltn_t, dltn_f, dlen_t, dlen_f, deq_t, deq_f, deqn_t, deqn_f, t1, p1, t2, p2, ln1, c2]
          exact hAl _
        rw [if_neg c2]
        have ea := hE _ v1 lo my k b1' lob lol (by omega) (by omega)
        have eb := hE _ v1 lo my (k + 1) b1' lob lol (by omega) (by omega)
        have hab : ∀ b, num lo ((if my = true then 4 else 2) * (k + 1)) (if my = true then 4 else 2) = some b → ∃ a, num lo ((if my = true then 4 else 2) * k) (if my = true then 4 else 2) = some a := fun b hb => by
          have h1 := thereB_true.1 (num_some hb)
          refine num_there (thereB_true.2 ?_)
          cases my <;> simp only [Bool.false_eq_true, if_false, if_true] at h1 ⊢ <;> omega
        obtain ⟨A1, hA1⟩ : ∃ o, o = num lo ((if my = true then 4 else 2) * k) (if my = true then 4 else 2) := ⟨_, rfl⟩
        obtain ⟨B1, hB1⟩ : ∃ o, o = num lo ((if my = true then 4 else 2) * (k + 1)) (if my = true then 4 else 2) := ⟨_, rfl⟩
        unfold nm
        rw [← hA1] at ea hab ⊢
        rw [← hB1] at eb hab ⊢
        obtain ⟨tm, htm⟩ : ∃ t, t = if my = true then 1 else 2 := ⟨_, rfl⟩
        have : (if my = true then (1 : Nat) else 2) = tm := htm.symm
        rw [this] at ea eb ⊢
        cases B1 with
        | none =>
          obtain ⟨a, ha'⟩ : ∃ a, a = A1.getD 0 * tm := ⟨_, rfl⟩
          obtain ⟨b, hb'⟩ : ∃ b, b = (none : Option Nat).getD 0 * tm := ⟨_, rfl⟩
          rw [← ha'] at ea
          rw [← hb'] at eb
          dsimp only
          have eb : call nE [v1, .bool my, .int .i64 (k + 1)] (few (A ++ (l1 ++ l2))) = some (.tuple [.int .i64 (b : Int), .bool false], few (A ++ (l1 ++ l2))) := eb
          cases hi : A1.isSome with
          | true =>
            rw [hi] at ea
            simp (disch := omega) [alA, m10, m2, bin_eqptr, c0, c1, dlt_t, dlt_f, dle_t, dle_f, dltn_t, dltn_f, dlen_t, dlen_f, deq_t, deq_f, deqn_t, deqn_f, t1, p1, t2, p2, ln1, c2, ea, eb, wrap_i]
            exact hAl _
          | false =>
            rw [hi] at ea
            simp (disch := omega) [alA, m10, m2, bin_eqptr, c0, c1, dlt_t, dlt_f, dle_t, dle_f, dltn_t, dltn_f, dlen_t, dlen_f, deq_t, deq_f, deqn_t, deqn_f, t1, p1, t2, p2, ln1, c2, ea, eb, wrap_i]
            exact hAl _
        | some b0 =>
          obtain ⟨a0, rfl⟩ := hab b0 rfl
          simp only [Option.getD_some, Option.isSome_some] at ea eb ⊢
          obtain ⟨a, ha'⟩ : ∃ a, a = a0 * tm := ⟨_, rfl⟩
          obtain ⟨b, hb'⟩ : ∃ b, b = b0 * tm := ⟨_, rfl⟩
          rw [← ha'] at ea ⊢
          rw [← hb'] at eb ⊢
          by_cases c3 : b < a
          · rw [if_pos (.inl c3)]
            simp (disch := omega) [alA, m10, m2, bin_eqptr, c0, c1, dlt_t, dlt_f, dle_t, dle_f, dltn_t, dltn_f, dlen_t, dlen_f, deq_t, deq_f, deqn_t, deqn_f, t1, p1, t2, p2, ln1, c2, ea, eb, wrap_i]
            exact hAl _
          by_cases c4 : w < b
          · rw [if_pos (.inr c4)]
            simp (disch := omega) [alA, m10, m2, bin_eqptr, c0, c1, dlt_t, dlt_f, dle_t, dle_f, dltn_t, dltn_f, dlen_t, dlen_f, deq_t, deq_f, deqn_t, deqn_f, t1, p1, t2, p2, ln1, ln2, c2, ea, eb, wrap_i]
            exact hAl _
          rw [if_neg (by omega)]
          simp (disch := omega) [alA, m10, m2, bin_eqptr, c0, c1, dlt_t, dlt_f, dle_t, dle_f, dltn_t, dltn_f, dlen_t, dlen_f, deq_t, deq_f, deqn_t, deqn_f, t1, p1, t2, p2, ln1, ln2, c2, ea, eb, wrap_i]
          exact hAl _
theorem RangeF.code {base : CallT} {g lf nT nE : Nat} (hT : TableF base nT) (hN : TableNF base nT) (hE : EntryF base nE) : RangeF (Vabs.withF base g lf (Range_c nT nE)) g := fun os F L m k h1 h2 => by
  rw [withF_same]; exact Range_run hT hN hE h1 h2
theorem RangeF.withF {call : CallT} {n g lf : Nat} {fn : AFunc} (h : RangeF call n) (hne : n ≠ g) : RangeF (Vabs.withF call g lf fn) n := fun os F L m k a b => by rw [withF_other hne]; exact h os F L m k a b
theorem RangeF.other {call : CallT} {n g : Nat} {l : List V → St → Option (V × St)} (h : RangeF call n) (hne : n ≠ g) : RangeF (withL call g l) n := fun os F L m k a b => by rw [withL_other hne]; exact h os F L m k a b

end Go.Vabs.Na

namespace Go.Vabs.Nb
set_option linter.unusedVariables false
set_option linter.unusedSimpArgs false
set_option maxRecDepth 10000
def Base_c (n_big : Nat) : AFunc := AFunc.mk 67 (.seq (.reg [AOper.mk (some (.i (.i .h))) (.mv (.c (.slice none 0 0 0 true))) none, AOper.mk (some (.o (.o (.o .h)))) (.mv (.c (.slice none 0 0 0 true))) none]) (.seq (.reg [AOper.mk (some (.i (.i (.i .h)))) (.mkslice 1 1 [.int .u8 (.ofNat 0)] (.c (.int .i64 (.ofNat 54))) (.c (.int .i64 (.ofNat 54)))) none, AOper.mk (some (.i (.o (.o .h)))) (.mv (.t (.i (.i (.i .h))))) none]) (.seq (.dreg [(AOper.mk (some (.o (.o (.o (.o .h))))) (.mv (.t (.i (.o (.o .h))))) none, []), (AOper.mk (some (.i (.o (.o (.o .h))))) (.slice (.slice 1) (.t (.o (.o (.o (.o .h))))) (some (.c (.int .i64 (.ofNat 18)))) none none) none, []), (AOper.mk (some (.o (.i (.o (.o .h))))) (.mv (.t .h)) none, []), (AOper.mk (some (.i (.i (.o (.o .h))))) (.call n_big [.t (.o (.i (.o (.o .h)))), .c (.int .i64 (.ofNat 2))]) none, []), (AOper.mk (some (.o (.o (.i (.o .h))))) (.copy 1 (.t (.i (.o (.o (.o .h))))) (.t (.i (.i (.o (.o .h)))))) none, [])]) (.seq (.reg [AOper.mk (some (.o (.i (.o .h)))) (.mv (.c (.slice none 0 0 0 true))) none, AOper.mk (some (.i (.i (.o .h)))) (.mv (.c (.slice none 0 0 0 true))) none]) (.seq (.reg [AOper.mk (some (.o (.o (.i .h)))) (.mv (.c (.int .i64 (.ofNat 2)))) none]) (.seq (.seq (.reg [AOper.mk (some (.i (.o (.i (.o .h))))) (.mv (.t (.i .h))) none]) (.cond (.t (.i (.o (.i (.o .h))))) (.seq (.reg [AOper.mk (some (.o (.o (.i .h)))) (.mv (.c (.int .i64 (.ofNat 4)))) none]) (.reg [AOper.mk (some (.i (.i (.i (.o .h))))) (.idxAddr (.slice 1) (.t (.i (.o (.o .h)))) (.c (.int .i64 (.ofNat 51)))) none, AOper.mk none (.store 1 (.t (.i (.i (.i (.o .h))))) (.c (.int .u8 (.ofNat 1)))) none])) .skip)) (.seq (.seq (.reg [AOper.mk (some (.i (.o (.i .h)))) (.mv (.c (.int .i64 (.ofNat 0)))) none]) (.block 0 (.loop (.seq (.seq (.reg [AOper.mk (some (.o (.i (.o (.i .h))))) (.len .slice (.t (.o .h))) none, AOper.mk (some (.i (.i (.o (.i .h))))) (.bin .leq (.val .int) (.t (.i (.o (.i .h)))) (.t (.o (.i (.o (.i .h)))))) none]) (.cond (.t (.i (.i (.o (.i .h))))) .skip (.exit 0))) (.seq (.block 1 (.seq (.reg [AOper.mk (some (.i (.i (.i (.i .h))))) (.len .slice (.t (.i (.i (.o .h))))) none, AOper.mk (some (.o (.i (.i .h)))) (.mv (.t (.i (.i (.i (.i .h)))))) none]) (.seq (.seq (.reg [AOper.mk (some (.i (.o (.o (.o (.o .h)))))) (.un .not (.t (.i .h))) none]) (.cond (.t (.i (.o (.o (.o (.o .h)))))) (.reg [AOper.mk (some (.i (.i (.o (.o (.o .h)))))) (.bin .quo (.val .int) (.t (.o (.i (.i .h)))) (.c (.int .i64 (.ofNat 2)))) none, AOper.mk (some (.o (.i (.i .h)))) (.mv (.t (.i (.i (.o (.o (.o .h))))))) none]) .skip)) (.seq (.reg [AOper.mk (some (.i (.i (.i (.o (.o .h)))))) (.call n_big [.t (.o (.i (.i .h))), .t (.o (.o (.i .h)))]) none, AOper.mk (some (.o (.o (.o (.i (.o .h)))))) (.append 1 1 (.t (.o (.i (.o .h)))) (.t (.i (.i (.i (.o (.o .h))))))) none, AOper.mk (some (.o (.i (.o .h)))) (.mv (.t (.o (.o (.o (.i (.o .h))))))) none]) (.seq (.reg [AOper.mk (some (.i (.i (.o (.i (.o .h)))))) (.len .slice (.t (.o .h))) none, AOper.mk (some (.o (.o (.i (.i (.o .h)))))) (.bin .lss (.val .int) (.t (.i (.o (.i .h)))) (.t (.i (.i (.o (.i (.o .h))))))) none]) (.cond (.t (.o (.o (.i (.i (.o .h)))))) (.seq (.reg [AOper.mk (some (.o (.o (.o (.o (.i .h)))))) (.idxAddr (.slice 1) (.t (.o .h)) (.t (.i (.o (.i .h))))) none, AOper.mk (some (.i (.o (.o (.o (.i .h)))))) (.load false 1 (.t (.o (.o (.o (.o (.i .h))))))) none, AOper.mk (some (.o (.i (.o (.o (.i .h)))))) (.append 1 1 (.t (.i (.i (.o .h)))) (.t (.i (.o (.o (.o (.i .h))))))) none, AOper.mk (some (.i (.i (.o .h)))) (.mv (.t (.o (.i (.o (.o (.i .h))))))) none]) (.seq (.reg [AOper.mk (some (.o (.o (.i (.o (.i .h)))))) (.len .slice (.t (.i (.i (.o .h))))) none, AOper.mk (some (.i (.o (.i (.o (.i .h)))))) (.bin .rem (.val .int) (.t (.o (.o (.i (.o (.i .h)))))) (.c (.int .i64 (.ofNat 2)))) none, AOper.mk (some (.o (.i (.i (.o (.i .h)))))) (.bin .eql (.val .int) (.t (.i (.o (.i (.o (.i .h)))))) (.c (.int .i64 (.ofNat 1)))) none]) (.cond (.t (.o (.i (.i (.o (.i .h)))))) (.reg [AOper.mk (some (.o (.o (.o (.i (.i .h)))))) (.bslice 1 1 [.int .u8 (.ofNat 0)] [(0, (1, .c (.int .u8 (.ofNat 0))))]) none, AOper.mk (some (.i (.o (.o (.i (.i .h)))))) (.append 1 1 (.t (.i (.i (.o .h)))) (.t (.o (.o (.o (.i (.i .h))))))) none, AOper.mk (some (.i (.i (.o .h)))) (.mv (.t (.i (.o (.o (.i (.i .h))))))) none]) .skip))) .skip)))))) (.reg [AOper.mk (some (.i (.o (.i (.i .h))))) (.bin .add (.val .int) (.t (.i (.o (.i .h)))) (.c (.int .i64 (.ofNat 1)))) none, AOper.mk (some (.i (.o (.i .h)))) (.mv (.t (.i (.o (.i (.i .h)))))) none])))))) (.seq (.reg [AOper.mk (some (.o (.i (.o (.i (.i .h)))))) (.bslice 1 4 [.str []] [(0, (1, .c (.str [104, 101, 97, 100]))), (1, (1, .c (.str [109, 97, 120, 112]))), (2, (1, .c (.str [108, 111, 99, 97]))), (3, (1, .c (.str [103, 108, 121, 102])))]) none, AOper.mk (some (.o (.o (.i (.i (.i .h)))))) (.bslice 1 4 [.int .u8 (.ofNat 0)] [(0, (1, .c (.int .u8 (.ofNat 0)))), (1, (1, .c (.int .u8 (.ofNat 1)))), (2, (1, .c (.int .u8 (.ofNat 0)))), (3, (1, .c (.int .u8 (.ofNat 0))))]) none, AOper.mk (some (.o (.i (.i (.i (.i .h)))))) (.len .slice (.t (.o .h))) none, AOper.mk (some (.i (.i (.i (.i (.i .h)))))) (.call n_big [.t (.o (.i (.i (.i (.i .h))))), .c (.int .i64 (.ofNat 2))]) none, AOper.mk (some (.o (.o (.o (.o (.o (.o .h))))))) (.append 1 1 (.t (.o (.o (.i (.i (.i .h)))))) (.t (.i (.i (.i (.i (.i .h))))))) none, AOper.mk (some (.i (.i (.o (.o (.o (.o .h))))))) (.bslice 1 4 [.slice none 0 0 0 true] [(0, (1, .t (.i (.o (.o .h))))), (1, (1, .t (.o (.o (.o (.o (.o (.o .h)))))))), (2, (1, .t (.o (.i (.o .h))))), (3, (1, .t (.i (.i (.o .h)))))]) none, AOper.mk (some (.i (.i .h))) (.mv (.t (.o (.i (.o (.i (.i .h))))))) none, AOper.mk (some (.o (.o (.o .h)))) (.mv (.t (.i (.i (.o (.o (.o (.o .h)))))))) none]) .ret)))))))) [.tmp (.i (.i .h)), .tmp (.o (.o (.o .h)))]
attribute [local simp] wp_skip wp_ret wp_exit wp_reg wp_seq wp_cond wp_block thenQ_normal thenQ_ret thenQ_exit blockQ_normal blockQ_ret blockQ_exit wpCond_true wpCond_false wpOps_nil wpVal_some wpGuard_true wpGuard_false wpOps_guard wpOps_cons
  put_at put_no ev_c ev_slot posEq_h posEq_o posEq_i posEq_ho posEq_hi posEq_oh posEq_ih posEq_oi posEq_io sel_true sel_false
  okv_some step_mv step_call step_pick pickV_bool step_bin bin_add bin_sub bin_mul bin_eql bin_neq bin_lss bin_leq bin_gtr bin_geq bin_eqb bin_neb bin_eqs bin_nes step_un un_not un_neg step_len len_slice len_str len_const step_extract extractV nth step_convInt conv_int step_convStr step_slice step_idxAddr natOf_nat step_load step_index step_field step_fieldAddr step_build step_minmax
  step_alloc step_bslice bsliceV_some newV_some step_store step_append boolIs_b boolIs_t finQ_ret finQ_normal ressE_nil ressE_cons resE_tmp consO_some initE_nil initE_cons pos_0 pos_1 pos_2 pos_3 pos_4 pos_5 pos_6 pos_7 pos_8 plain_bool plain_int plain_str plain_ptr plain_slice plain_map plain_agg plain_func plain_nilFunc V.undef oneOf_one oneOf_two ble_self
open Go.Vabs.Pk Go.Vabs.Ph Go.Vabs.Sa Go.Vabs.Sb Go.Vabs.Sc Go.Vabs.Sd Go.Vabs.Se Go.Vabs.Sg Go.Vabs.Sh Go.Vabs.Sm Go.Vabs.Sn Go.Vabs.Sp Go.Vabs.Sr Go.Vabs.St Go.Vabs.Su Go.Vabs.L2 Go.Vabs.Na
attribute [local simp] step_nilchk nilchk_ptr step_box cells_int cells_bool cells_str cells_slice cells_ptr cells_agg fieldAddrV natOf_zero fill repN splice over newV step_appendZ
  wp_dreg wpDs_nil wpDs_cons wantedE_none wantedE_some wpDGuard_true wpDGuard_lim wpDGuard_false wpDLim_true wpDVal_free wpDVal_lim back_limited next_limited limF_dir foot_load foot_convStr okAll_nil okAll_cons pastsOf nthP ahead few_next load_limited convStr_limited blt_dec okPair_dd okPair_dc okPair_cd okPair_cc anyIn_nil anyIn_same anyIn_cons meets_nil meets_nil'
/- WRAPS -/
theorem BigF.wrap {base : CallT} {g lf nB : Nat} (hB : BigF base nB) : BigF (Vabs.withF base g lf (big_c nB)) g := fun os n z h1 h2 => by
  rw [withF_same]
  have e := hB os n z h1 h2
  refine enter_eq ?_
  simp [e]
def FontF (call : CallT) (g : Nat) : Prop := ∀ os q r f1 f2 tags ts, (tags ≠ [] → ∃ own, (os[q]?).join = some (.cells own (strsV tags))) → RowsB os r ts → (∀ t ∈ tags, ∀ b ∈ t, b < 256) → (∀ t ∈ ts, ∀ b ∈ t, b < 256) → tags.length ≤ 1048576 → ts.length ≤ 4096 → ts.flatten.length ≤ 140737488352800 →
  ∃ u os', call g [slT f1 q tags.length, slT f2 r ts.length] (few os) = some (u, few os') ∧ (∀ i, i < os.length → (os'[i]?).join = (os[i]?).join) ∧ os.length ≤ os'.length ∧
    match layS tags ts with
    | some l => ∃ p, u = .slice (some (p, 0)) 1 l.length l.length false ∧ os.length ≤ p ∧ (os'[p]?).join = some (newBytes l)
    | none => u = .slice none 0 0 0 true
theorem FontF.code {base : CallT} {g lf nL : Nat} (hL : RLayF base nL) : FontF (Vabs.withF base g lf (Font_c nL)) g := fun os q r f1 f2 tags ts h1 h2 h3 h4 h5 h6 h7 => by
  rw [withF_same]
  obtain ⟨u, os', e, k1, k2, k3⟩ := hL os q r f1 f2 tags ts h1 h2 h3 h4 h5 h6 h7
  cases hl : layS tags ts with
  | none =>
    rw [hl] at k3
    dsimp only at k3
    subst k3
    refine ⟨.slice none 0 0 0 true, os', ?_, k1, k2, rfl⟩
    refine enter_eq ?_
    simp [e]
  | some l =>
    rw [hl] at k3
    obtain ⟨p, rfl, hp, hpb⟩ := k3
    refine ⟨.slice (some (p, 0)) 1 l.length l.length false, os', ?_, k1, k2, p, rfl, hp, hpb⟩
    refine enter_eq ?_
    simp [e]
theorem FontF.withF {call : CallT} {n g lf : Nat} {fn : AFunc} (h : FontF call n) (hne : n ≠ g) : FontF (Vabs.withF call g lf fn) n := fun os q r f1 f2 tags ts h1 h2 h3 h4 h5 h6 h7 => by rw [withF_other hne]; exact h os q r f1 f2 tags ts h1 h2 h3 h4 h5 h6 h7
theorem FontF.other {call : CallT} {n g : Nat} {l : List V → St → Option (V × St)} (h : FontF call n) (hne : n ≠ g) : FontF (withL call g l) n := fun os q r f1 f2 tags ts h1 h2 h3 h4 h5 h6 h7 => by rw [withL_other hne]; exact h os q r f1 f2 tags ts h1 h2 h3 h4 h5 h6 h7
/-- Both fonts of some bytes. -/
def BothF (call : CallT) (g : Nat) : Prop := ∀ os v bs, v.good os.length = true → lookB (few os).look v = some bs → bs.length ≤ 140737488354000 →
  match fontS bs with
  | .inl _ => call g [v] (few os) = some (.tuple [.ptr none, .ptr none], few os)
  | .inr L => ∃ F G l, call g [v] (few os) = some (.tuple [.ptr (some (F, 0)), .ptr (some (G, 0))], few (os ++ l)) ∧ FontMem (os ++ l) F L ∧ RFontMem (os ++ l) G L
theorem BothF.code {base : CallT} {g lf nO nR : Nat} (hO : OpenF base nO) (hR : ROpenF base nR) : BothF (Vabs.withF base g lf (open_c nO nR)) g := fun S vz zb hg hl hzl => by
  rw [withF_same]
  cases hf : fontS zb with
  | inl e =>
    have ho := hO S vz zb hg hl hzl
    rw [show openA S.length zb = ([], fun _ => errV e) from by unfold openA; rw [hf]] at ho
    have ho : base nO [vz] (few S) = some (.tuple [.ptr none, .int .i64 e], few S) := by rw [ho]; simp [errV]
    have hr := hR S vz zb hg hl hzl
    rw [show ropenA S.length zb = ([], fun _ => errV e) from by unfold ropenA; rw [hf]] at hr
    have hr : base nR [vz] (few S) = some (.tuple [.ptr none, .int .i64 e], few S) := by rw [hr]; simp [errV]
    dsimp only
    refine enter_eq ?_
    simp [ho, hr]
  | inr L =>
    obtain ⟨l1, ho, hfm⟩ := open_mem hO hg hl hzl hf
    obtain ⟨F, hF⟩ : ∃ F, F = S.length := ⟨_, rfl⟩
    rw [← hF] at ho hfm
    obtain ⟨Y, hY⟩ : ∃ Y, Y = S ++ l1 := ⟨_, rfl⟩
    rw [← hY] at ho hfm
    have hYl : S.length ≤ Y.length := by rw [hY, List.length_append]; omega
    have hYk : ∀ i, i < S.length → (Y[i]?).join = (S[i]?).join := fun i hi => by rw [hY]; exact join_app hi
    have hr := hR Y vz zb (V.good_le hYl hg) (lookB_mono (sight_keep hYk hYl) hl) hzl
    rw [show ropenA Y.length zb = (rfontObjs Y.length L, fun k => .tuple [.ptr (some (k, 0)), .int .i64 0]) from by unfold ropenA; rw [hf]] at hr
    have hrm := rfont_mem (os := Y) (L := L)
    obtain ⟨G, hG⟩ : ∃ G, G = Y.length := ⟨_, rfl⟩
    rw [← hG] at hr hrm
    have hr : base nR [vz] (few Y) = some (.tuple [.ptr (some (G, 0)), .int .i64 0], few (Y ++ (rfontObjs G L).map some)) := hr
    refine ⟨F, G, l1 ++ (rfontObjs G L).map some, ?_, ?_, ?_⟩
    · rw [← List.append_assoc, ← hY]
      refine enter_eq ?_
      simp [ho, hr]
    · rw [← List.append_assoc, ← hY]; exact hfm.keep fun i hi => join_app hi
    · rw [← List.append_assoc, ← hY]; exact hrm
theorem BothF.withF {call : CallT} {n g lf : Nat} {fn : AFunc} (h : BothF call n) (hne : n ≠ g) : BothF (Vabs.withF call g lf fn) n := fun os v bs a b c => by
  have := h os v bs a b c
  cases hf : fontS bs with
  | inl e => rw [hf] at this; dsimp only at this ⊢; rw [withF_other hne]; exact this
  | inr L => rw [hf] at this; dsimp only at this ⊢; rw [withF_other hne]; exact this
theorem BothF.other {call : CallT} {n g : Nat} {l : List V → St → Option (V × St)} (h : BothF call n) (hne : n ≠ g) : BothF (withL call g l) n := fun os v bs a b c => by
  have := h os v bs a b c
  cases hf : fontS bs with
  | inl e => rw [hf] at this; dsimp only at this ⊢; rw [withL_other hne]; exact this
  | inr L => rw [hf] at this; dsimp only at this ⊢; rw [withL_other hne]; exact this
/- A FILE THAT GROWS, FROM NOTHING ON -/
def fV (o : Option Nat) (n : Nat) : V := match o with | none => .slice none 0 0 0 true | some p => .slice (some (p, 0)) 1 n n false
def FA (os : List (Option AObj)) (N : Nat) (o : Option Nat) (bs : List Nat) : Prop := match o with | none => bs = [] | some p => N ≤ p ∧ (os[p]?).join = some (newBytes bs)
theorem FA.len {os : List (Option AObj)} {N : Nat} {o : Option Nat} {bs : List Nat} (h : FA os N o bs) {st : St} : lenV st .slice (fV o bs.length) = some (.int .i64 (bs.length : Int)) := by
  cases o with
  | none => have h : bs = [] := h; subst h; rfl
  | some p => rfl
theorem fV_plain {o : Option Nat} {n : Nat} : (fV o n).plain = true := by cases o <;> rfl
theorem fV_cells {o : Option Nat} {n : Nat} : (fV o n).cells = some [fV o n] := by cases o <;> rfl
theorem FA.shows {os : List (Option AObj)} {N : Nat} {o : Option Nat} {bs : List Nat} (h : FA os N o bs) (hb : ∀ b ∈ bs, b < 256) : (fV o bs.length).good os.length = true ∧ lookB (few os).look (fV o bs.length) = some bs := by
  cases o with
  | none => have h : bs = [] := h; subst h; exact ⟨rfl, rfl⟩
  | some p => exact lookB_own h.2 hb
theorem FA.keep {os os' : List (Option AObj)} {N : Nat} {o : Option Nat} {bs : List Nat} (h : FA os N o bs) (he : ∀ i, i < os.length → o = some i → (os'[i]?).join = (os[i]?).join) : FA os' N o bs := by
  cases o with
  | none => exact h
  | some p => exact ⟨h.1, by rw [he p (join_lt h.2) rfl]; exact h.2⟩
theorem FA.grow {os : List (Option AObj)} {N : Nat} {o : Option Nat} {bs : List Nat} (h : FA os N o bs) (hN : N ≤ os.length) (nb : List Nat) (hs : bs.length + nb.length < 140737488354000) :
    ∃ o' os', appendV (few os) 1 1 (fV o bs.length) (some nb.length) (some (bytesV nb)) = some (fV o' (bs.length + nb.length), few os') ∧ FA os' N o' (bs ++ nb) ∧ (∀ i, i < os.length → o ≠ some i → (os'[i]?).join = (os[i]?).join) ∧ os.length ≤ os'.length ∧ (∀ i, i < os.length → o' = some i → o = some i) := by
  cases o with
  | none =>
    have h : bs = [] := h
    subst h
    cases nb with
    | nil => exact ⟨none, os, rfl, rfl, fun _ _ _ => rfl, Nat.le_refl _, fun i _ h => h⟩
    | cons b nb =>
      refine ⟨some os.length, os ++ [some (newBytes (b :: nb))], ?_, ⟨hN, by simp⟩, fun i hi _ => join_app hi, by simp, fun i hi he => by cases he; omega⟩
      show appendV (few os) 1 1 (.slice none 0 0 0 true) (some (nb.length + 1)) (some (bytesV (b :: nb))) = _
      rw [grow_none, if_pos (by simp only [bytesV_len, List.length_cons, List.length_nil] at hs ⊢; omega)]
      simp [fV, newBytes]
  | some p =>
    obtain ⟨p', os', g, G⟩ := growB (nb := nb) h.2 hs
    have hn := G.new
    have hl := G.len
    have hp := h.1
    refine ⟨some p', os', g, ⟨by omega, G.at'⟩, fun i hi he => G.old i hi (fun e => he (by rw [e])), hl, fun i hi he => ?_⟩
    cases he
    rcases hn with h | h
    · rw [h]
    · omega
theorem storeN_few {os : List (Option AObj)} {i o : Nat} {bs nb : List Nat} (h : (os[i]?).join = some (newBytes bs)) (hl : o + nb.length ≤ bs.length) : (few os).storeN i o (bytesV nb) = some (few (os.set i (some (newBytes (bs.take o ++ nb ++ bs.drop (o + nb.length)))))) := by
  have ho : ownAt os i = some (bytesV bs) := by rw [ownAt_eq, h]; rfl
  have h1 := store_fewC (os := os) (n := (bytesV nb).length) (i := i) (o := o) (vs := bytesV nb)
  rw [ho, storeC_some, if_pos rfl, splice_of (by rw [bytesV_len, bytesV_len]; exact hl)] at h1
  unfold storeV at h1
  dsimp only at h1
  rw [Nat.beq_refl, sel_true] at h1
  cases hs : (few os).storeN i o (bytesV nb) with
  | none => rw [hs] at h1; cases h1
  | some st' =>
    rw [hs] at h1
    have h2 := congrArg Prod.snd (Option.some.inj h1)
    dsimp only at h2
    rw [h2]
    congr 4
    rw [bytesV_len, bytesV_take, bytesV_drop]
    simp [newBytes, bytesV]
/- COPY -/
noncomputable def copyV (st : St) (e : Nat) (d s : V) : Option (V × St) :=
  match d, lenOf s with
  | .slice a e' dl c _, some sl =>
    match firstN st e (sel (Nat.ble sl dl) sl dl) s with
    | some cs => match a with
      | none => some (.int .i64 (.ofNat (sel (Nat.ble sl dl) sl dl)), st)
      | some (i, o) => sel (Nat.beq e e' && Nat.ble dl c) (match st.storeN i o cs with | some st' => some (.int .i64 (.ofNat (sel (Nat.ble sl dl) sl dl)), st') | none => none) none
    | none => none
  | _, _ => none
theorem step_copy {call : CallT} {s : Env} {st : St} {e : Nat} {d x : Src} : stepE call (.copy e d x) s st = copyV st e (s.ev d) (s.ev x) := by
  show (match ex_copy e d x s.ev st with | some (.val v, st') => _ | some (.enter g args, st') => _ | none => _) = _
  unfold ex_copy copyV
  generalize s.ev d = u
  generalize s.ev x = w
  cases u <;> try rfl
  rename_i a e' dl c f
  cases lenOf w with
  | none => rfl
  | some sl =>
    dsimp only
    cases firstN st e (sel (Nat.ble sl dl) sl dl) w with
    | none => rfl
    | some cs =>
      dsimp only
      cases a with
      | none => rfl
      | some p =>
        obtain ⟨i, o⟩ := p
        dsimp only
        cases Nat.beq e e' && Nat.ble dl c with
        | false => rfl
        | true =>
          rw [sel_true, sel_true]
          cases st.storeN i o cs <;> rfl
theorem copy_few {os : List (Option AObj)} {i o dl c : Nat} {f : Bool} {w : V} {bs nb : List Nat} (h : (os[i]?).join = some (newBytes bs)) (hl : lenOf w = some nb.length) (hf : firstN (few os) 1 nb.length w = some (bytesV nb)) (hd : nb.length ≤ dl) (hdc : dl ≤ c) (ho : o + nb.length ≤ bs.length) :
    copyV (few os) 1 (.slice (some (i, o)) 1 dl c f) w = some (.int .i64 (nb.length : Int), few (os.set i (some (newBytes (bs.take o ++ nb ++ bs.drop (o + nb.length)))))) := by
  unfold copyV
  rw [hl]
  dsimp only
  rw [ble_t hd, sel_true, hf]
  dsimp only
  rw [ble_t hdc, storeN_few h ho]
  rfl
/- make([]byte, n) -/
noncomputable def mksV (st : St) (e bytes : Nat) (zs : List V) : Option Nat → Option Nat → Option (V × St)
  | some l, some c => sel (Nat.ble l c && Nat.ble (bytes * c) 281474976710656 && Nat.blt c w63) (match st.alloc (.cells true (repN c zs)) with | some (j, st') => some (.slice (some (j, 0)) e l c true, st') | none => none) none
  | _, _ => none
theorem step_mkslice {call : CallT} {s : Env} {st : St} {e bytes : Nat} {zs : List V} {l c : Src} : stepE call (.mkslice e bytes zs l c) s st = mksV st e bytes zs (natOf (s.ev l)) (natOf (s.ev c)) := by
  show (match ex_mkslice e bytes zs l c s.ev st with | some (.val v, st') => _ | some (.enter g args, st') => _ | none => _) = _
  unfold ex_mkslice mksV
  cases natOf (s.ev l) with
  | none => rfl
  | some l =>
    cases natOf (s.ev c) with
    | none => rfl
    | some c =>
      dsimp only
      cases Nat.ble l c && Nat.ble (bytes * c) 281474976710656 && Nat.blt c w63 with
      | false => rfl
      | true =>
        rw [sel_true, sel_true]
        cases st.alloc (.cells true (repN c zs)) <;> rfl
theorem mks_few {os : List (Option AObj)} {m : Nat} (h : m < 281474976710656) : mksV (few os) 1 1 [.int .u8 0] (some m) (some m) = some (.slice (some (os.length, 0)) 1 m m true, few (os ++ [some (newBytes (List.replicate m 0))])) := by
  show sel (Nat.ble m m && Nat.ble (1 * m) 281474976710656 && Nat.blt m w63) (match (few os).alloc (.cells true (repN m [.int .u8 (.ofNat 0)])) with | some (j, st') => some (V.slice (some (j, 0)) 1 m m true, st') | none => none) none = _
  rw [ble_t (Nat.le_refl _), ble_t (by omega), blt_t (show m < w63 from by unfold w63; omega), few_alloc, repN_zero]
  rfl
theorem lenOfS {a : Option (Nat × Nat)} {e n c : Nat} {f : Bool} : lenOf (.slice a e n c f) = some n := rfl
/- THE TABLES THAT EVERY FONT HAS -/
def padG (g : List Nat) : List Nat := if g.length % 2 = 1 then g ++ [0] else g
def glyfT (gs : List (List Nat)) : List Nat := (gs.map padG).flatten
def offT (gs : List (List Nat)) (k : Nat) : Nat := (glyfT (gs.take k)).length
def entT (y : Bool) (x : Nat) : List Nat := bigB (if y then x else x / 2) (if y then 4 else 2)
def locaT (y : Bool) (gs : List (List Nat)) (k : Nat) : List Nat := ((List.range k).map fun i => entT y (offT gs i)).flatten
def headT (u : Nat) (y : Bool) : List Nat := List.replicate 18 0 ++ bigB u 2 ++ List.replicate 31 0 ++ [if y then 1 else 0] ++ [0, 0]
def maxpT (n : Nat) : List Nat := [0, 1, 0, 0] ++ bigB n 2
theorem glyfT_succ {gs : List (List Nat)} {k : Nat} {g : List Nat} (h : gs[k]? = some g) : glyfT (gs.take (k + 1)) = glyfT (gs.take k) ++ padG g := by unfold glyfT; rw [List.take_add_one, h]; simp
theorem locaT_succ {y : Bool} {gs : List (List Nat)} {k : Nat} : locaT y gs (k + 1) = locaT y gs k ++ entT y (offT gs k) := by unfold locaT; rw [List.range_succ]; simp
theorem entT_len {y : Bool} {x : Nat} : (entT y x).length = if y then 4 else 2 := by unfold entT; rw [bigB_len]
theorem locaT_len {y : Bool} {gs : List (List Nat)} : ∀ k, (locaT y gs k).length = (if y then 4 else 2) * k
  | 0 => rfl
  | k + 1 => by rw [locaT_succ, List.length_append, locaT_len k, entT_len, Nat.mul_succ]
theorem padG_len {g : List Nat} : (padG g).length ≤ g.length + 1 ∧ g.length ≤ (padG g).length ∧ (padG g).length % 2 = 0 := by
  unfold padG
  split
  · rw [List.length_append]; simp; omega
  · omega
theorem glyfT_even : ∀ gs : List (List Nat), (glyfT gs).length % 2 = 0
  | [] => rfl
  | g :: gs => by
    have h1 := (padG_len (g := g)).2.2
    have h2 := glyfT_even gs
    show (padG g ++ glyfT gs).length % 2 = 0
    rw [List.length_append]; omega
theorem glyfT_le {gs : List (List Nat)} {m : Nat} (h : ∀ g ∈ gs, g.length ≤ m) : (glyfT gs).length ≤ (m + 1) * gs.length := by
  unfold glyfT
  have := flatten_le (l := gs.map padG) (m := m + 1) fun t ht => by
    obtain ⟨g, hg, rfl⟩ := List.mem_map.1 ht
    have := (padG_len (g := g)).1
    have := h g hg
    omega
  rw [List.length_map] at this
  exact this
theorem offT_le {gs : List (List Nat)} {m k : Nat} (h : ∀ g ∈ gs, g.length ≤ m) : offT gs k ≤ (m + 1) * gs.length := by
  have h1 := glyfT_le (gs := gs.take k) (m := m) fun g hg => h g (List.mem_of_mem_take hg)
  have h2 : (gs.take k).length ≤ gs.length := by rw [List.length_take]; omega
  have h3 := Nat.mul_le_mul_left (m + 1) h2
  unfold offT
  omega
theorem padG_lt {g : List Nat} (h : ∀ b ∈ g, b < 256) : ∀ b ∈ padG g, b < 256 := by
  intro b hb
  unfold padG at hb
  split at hb
  · rcases List.mem_append.1 hb with hb | hb
    · exact h b hb
    · simp at hb; omega
  · exact h b hb
theorem glyfT_lt {gs : List (List Nat)} (h : ∀ g ∈ gs, ∀ b ∈ g, b < 256) : ∀ b ∈ glyfT gs, b < 256 := by
  intro b hb
  unfold glyfT at hb
  obtain ⟨t, h1, h2⟩ := List.mem_flatten.1 hb
  obtain ⟨g, hg, rfl⟩ := List.mem_map.1 h1
  exact padG_lt (h g hg) b h2
theorem locaT_lt {y : Bool} {gs : List (List Nat)} {k : Nat} : ∀ b ∈ locaT y gs k, b < 256 := by
  intro b hb
  unfold locaT at hb
  obtain ⟨t, h1, h2⟩ := List.mem_flatten.1 hb
  obtain ⟨i, _, rfl⟩ := List.mem_map.1 h1
  exact bigB_lt _ _ b h2
theorem headT_len {u : Nat} {y : Bool} : (headT u y).length = 54 := by simp [headT, bigB_len]
theorem headT_lt {u : Nat} {y : Bool} : ∀ b ∈ headT u y, b < 256 := by
  intro b hb
  unfold headT at hb
  simp only [List.mem_append, List.mem_replicate, List.mem_singleton, List.mem_cons] at hb
  rcases hb with (((hb | hb) | hb) | hb) | hb
  · omega
  · exact bigB_lt u 2 b hb
  · omega
  · rcases hb with hb | hb
    · rw [hb]; split <;> omega
    · cases hb
  · rcases hb with hb | hb | hb
    · omega
    · omega
    · cases hb
theorem maxpT_lt {n : Nat} : ∀ b ∈ maxpT n, b < 256 := by
  intro b hb
  unfold maxpT at hb
  rcases List.mem_append.1 hb with hb | hb
  · simp at hb; omega
  · exact bigB_lt n 2 b hb
def baseTags : List (List Nat) := [tHead, tMaxp, tLoca, tGlyf]
def baseTabs (u : Nat) (y : Bool) (gs : List (List Nat)) : List (List Nat) := [headT u y, maxpT gs.length, locaT y gs (gs.length + 1), glyfT gs]
def BasePost (os : List (Option AObj)) (u : Nat) (y : Bool) (gs : List (List Nat)) (v : V) (os' : List (Option AObj)) : Prop :=
  (∀ i, i < os.length → (os'[i]?).join = (os[i]?).join) ∧ os.length ≤ os'.length ∧ ∃ q r, v = .tuple [.slice (some (q, 0)) 1 4 4 true, .slice (some (r, 0)) 1 4 4 true] ∧ os.length ≤ q ∧ os.length ≤ r ∧ q ≠ r ∧ (os'[q]?).join = some (.cells true (strsV baseTags)) ∧
    ∃ vs, (os'[r]?).join = some (.cells true vs) ∧ vs.length = 4 ∧ ∀ (j : Nat) (v : V) (b : List Nat), vs[j]? = some v → (baseTabs u y gs)[j]? = some b → v.good os'.length = true ∧ lookB (few os').look v = some b ∧ v.plain = true ∧ ∀ i, idOf v = [i] → i ≠ r ∧ i ≠ q ∧ os.length ≤ i
/-- Two files that grow beside a head. -/
structure Two (N : Nat) (os0 os : List (Option AObj)) (hd : List Nat) (o1 : Option Nat) (b1 : List Nat) (o2 : Option Nat) (b2 : List Nat) : Prop where
  old : ∀ i, i < N → (os[i]?).join = (os0[i]?).join
  le : N ≤ os.length
  head : (os[N]?).join = some (newBytes hd)
  f1 : FA os (N + 1) o1 b1
  f2 : FA os (N + 1) o2 b2
  ne : ∀ p, o1 = some p → o2 ≠ some p
theorem Two.add {N : Nat} {os0 os : List (Option AObj)} {hd : List Nat} {o1 o2 : Option Nat} {b1 b2 : List Nat} (h : Two N os0 os hd o1 b1 o2 b2) (o : Option AObj) : Two N os0 (os ++ [o]) hd o1 b1 o2 b2 :=
  ⟨fun i hi => by rw [join_app (by have := h.le; omega), h.old i hi], by have := h.le; simp; omega, by rw [join_app (join_lt h.head)]; exact h.head, h.f1.keep fun i hi _ => join_app hi, h.f2.keep fun i hi _ => join_app hi, h.ne⟩
theorem FA.lo {os : List (Option AObj)} {N : Nat} {o : Option Nat} {bs : List Nat} (h : FA os N o bs) : ∀ p, o = some p → N ≤ p ∧ p < os.length := fun p hp => by subst hp; exact ⟨h.1, join_lt h.2⟩
theorem Two.grow1 {N : Nat} {os0 os : List (Option AObj)} {hd : List Nat} {o1 o2 : Option Nat} {b1 b2 : List Nat} (h : Two N os0 os hd o1 b1 o2 b2) (nb : List Nat) (hs : b1.length + nb.length < 140737488354000) :
    ∃ o1' os', appendV (few os) 1 1 (fV o1 b1.length) (some nb.length) (some (bytesV nb)) = some (fV o1' (b1.length + nb.length), few os') ∧ Two N os0 os' hd o1' (b1 ++ nb) o2 b2 ∧ os.length ≤ os'.length := by
  have hh := join_lt h.head
  obtain ⟨o', os', g1, g2, g3, g4, g5⟩ := h.f1.grow (by omega) nb hs
  refine ⟨o', os', g1, ⟨fun i hi => ?_, by omega, ?_, g2, h.f2.keep fun i hi he => g3 i hi (fun e => h.ne i e he), fun p hp hp2 => ?_⟩, g4⟩
  · rw [g3 i (by omega) (fun e => by have := (h.f1.lo i e).1; omega), h.old i hi]
  · rw [g3 N hh (fun e => by have := (h.f1.lo N e).1; omega)]; exact h.head
  · exact h.ne p (g5 p (h.f2.lo p hp2).2 hp) hp2
theorem Two.grow2 {N : Nat} {os0 os : List (Option AObj)} {hd : List Nat} {o1 o2 : Option Nat} {b1 b2 : List Nat} (h : Two N os0 os hd o1 b1 o2 b2) (nb : List Nat) (hs : b2.length + nb.length < 140737488354000) :
    ∃ o2' os', appendV (few os) 1 1 (fV o2 b2.length) (some nb.length) (some (bytesV nb)) = some (fV o2' (b2.length + nb.length), few os') ∧ Two N os0 os' hd o1 b1 o2' (b2 ++ nb) ∧ os.length ≤ os'.length := by
  have hh := join_lt h.head
  obtain ⟨o', os', g1, g2, g3, g4, g5⟩ := h.f2.grow (by omega) nb hs
  refine ⟨o', os', g1, ⟨fun i hi => ?_, by omega, ?_, h.f1.keep fun i hi he => g3 i hi (h.ne i he), g2, fun p hp hp2 => ?_⟩, g4⟩
  · rw [g3 i (by omega) (fun e => by have := (h.f2.lo i e).1; omega), h.old i hi]
  · rw [g3 N hh (fun e => by have := (h.f2.lo N e).1; omega)]; exact h.head
  · exact h.ne p hp (g5 p (h.f1.lo p hp).2 hp2)
set_option maxHeartbeats 4000000 in
theorem Base_run {call : CallT} {lf nB : Nat} (hB : BigF call nB) {os : List (Option AObj)} {u r : Nat} {f : Bool} {y : Bool} {gs : List (List Nat)} (hr : RowsB os r gs) (hu : u < 65536) (hn : gs.length ≤ 4096) (hlf : gs.length + 1 < lf) (hg : ∀ g ∈ gs, g.length ≤ 4096 ∧ ∀ b ∈ g, b < 256) :
    ∃ v os', enterF call lf [.int .i64 (u : Int), slT f r gs.length, .bool y] (few os) (Base_c nB) = some (v, few os') ∧ BasePost os u y gs v os' := by
  have main := enter_wp (call := call) (lf := lf) (n := 67) (args := [.int .i64 (u : Int), slT f r gs.length, .bool y]) (st := few os) (K := fun v st => ∃ os', st = few os' ∧ BasePost os u y gs v os') (c := (Base_c nB).code) (rs := (Base_c nB).results) ?_
  · obtain ⟨v, st', h1, os', rfl, h2⟩ := main
    exact ⟨v, os', h1, h2⟩
  · unfold Base_c
    dsimp only
    obtain ⟨n, hne⟩ : ∃ n, n = gs.length := ⟨_, rfl⟩
    rw [← hne]
    have len1 : ∀ st, lenV st .slice (slT f r n) = some (.int .i64 (n : Int)) := fun st => slT_len
    have hoff : ∀ k, offT gs k ≤ 16781313 * 4096 := fun k => by
      have h1 := offT_le (k := k) (fun g hg' => (hg g hg').1)
      have h2 : (4096 + 1) * gs.length ≤ 4097 * 4096 := Nat.mul_le_mul_left _ hn
      omega
    obtain ⟨N, hN⟩ : ∃ N, N = os.length := ⟨_, rfl⟩
    -- the head
    have h54 : natOf (V.int .i64 54) = some 54 := rfl
    obtain ⟨A0, hA0⟩ : ∃ A, A = os ++ [some (newBytes (List.replicate 54 0))] := ⟨_, rfl⟩
    have mk : mksV (few os) 1 1 [.int .u8 0] (some 54) (some 54) = some (.slice (some (N, 0)) 1 54 54 true, few A0) := by rw [hA0, hN]; exact mks_few (by omega)
    have e0 : A0.length = N + 1 := by rw [hA0]; simp [hN]
    have sl18 : sliceOp (.slice 1) (.slice (some (N, 0)) 1 54 54 true) (some (.int .i64 18)) none none = some (.slice (some (N, 18)) 1 36 36 true) := by
      show some (V.slice (some (N, 0 + 18 * 1)) 1 (54 - 18) (54 - 18) true) = _
      rw [Nat.zero_add]
    obtain ⟨A1, hA1⟩ : ∃ A, A = A0 ++ [some (newBytes (bigB u 2))] := ⟨_, rfl⟩
    have e1 : A1.length = N + 2 := by rw [hA1]; simp [e0]
    have b1 : call nB [.int .i64 (u : Int), .int .i64 2] (few A0) = some (.slice (some (N + 1, 0)) 1 2 2 false, few A1) := by rw [hA1, ← e0]; exact hB A0 u 2 (by omega) (by omega)
    have at1 : (A1[N]?).join = some (newBytes (List.replicate 54 0)) := by rw [hA1, join_app (by omega), hA0, hN]; simp
    have fb : firstN (few A1) 1 2 (.slice (some (N + 1, 0)) 1 2 2 false) = some (bytesV (bigB u 2)) := first_own (bs := bigB u 2) (by rw [hA1, ← e0]; simp)
    have cp := copy_few (dl := 36) (c := 36) (f := true) (o := 18) (nb := bigB u 2) (w := .slice (some (N + 1, 0)) 1 2 2 false) at1 (by rw [bigB_len]; rfl) (by rw [bigB_len]; exact fb) (by rw [bigB_len]; omega) (Nat.le_refl _) (by rw [bigB_len]; simp)
    have hhd0 : (List.replicate 54 0).take 18 ++ bigB u 2 ++ (List.replicate 54 0).drop (18 + (bigB u 2).length) = headT u false := by
      rw [bigB_len, List.take_replicate, List.drop_replicate]
      unfold headT
      have : List.replicate (54 - (18 + 2)) 0 = List.replicate 31 0 ++ [0] ++ [0, 0] := rfl
      rw [this]
      simp
    rw [hhd0] at cp
    obtain ⟨A2, hA2⟩ : ∃ A, A = A1.set N (some (newBytes (headT u false))) := ⟨_, rfl⟩
    rw [← hA2, bigB_len] at cp
    have cp : copyV (few A1) 1 (.slice (some (N, 18)) 1 36 36 true) (.slice (some (N + 1, 0)) 1 2 2 false) = some (.int .i64 2, few A2) := cp
    have e2 : A2.length = N + 2 := by rw [hA2, List.length_set, e1]
    have at2 : (A2[N]?).join = some (newBytes (headT u false)) := by rw [hA2, join_set_same (by omega)]
    have k2 : ∀ i, i < N → (A2[i]?).join = (os[i]?).join := fun i hi => by rw [hA2, join_set (by omega), hA1, join_app (by omega), hA0, join_app (by omega)]
    obtain ⟨sz, hsz⟩ : ∃ sz, sz = if y = true then 4 else 2 := ⟨_, rfl⟩
    -- the whole, from the loop on
    obtain ⟨A, hAt, e3, hstart⟩ : ∃ A, (A[N]?).join = some (newBytes (headT u y)) ∧ A.length = N + 2 ∧ (∀ i, i < N → (A[i]?).join = (os[i]?).join) ∧ (y = true → storeV (few A2) 1 (.ptr (some (N, 51))) (some [.int .u8 1]) = some (V.undef, few A)) ∧ (y = false → A = A2) := by
      cases y with
      | false => exact ⟨A2, at2, e2, k2, (fun h => by cases h), fun _ => rfl⟩
      | true =>
        have st := storeByte (r := 1) (c := 51) at2 (by rw [headT_len]; omega)
        have hset : (headT u false).set 51 1 = headT u true := by
          have h2 : bigB u 2 = [u / 256 % 256, u % 256] := by simp [bigB]
          unfold headT
          rw [h2]
          simp [List.replicate]
        rw [hset] at st
        exact ⟨_, by rw [join_set_same (by omega)], by rw [List.length_set, e2], fun i hi => by rw [join_set (by omega), k2 i hi], fun _ => st, (fun h => by cases h)⟩
    obtain ⟨kA, sA1, sA2⟩ := hstart
    have two0 : Two N os A (headT u y) none (locaT y gs 0) none (glyfT (gs.take 0)) := ⟨kA, by omega, hAt, rfl, rfl, fun p hp => by cases hp⟩
    cases y with
    | true =>
      have st51 := sA1 rfl
      simp (disch := omega) [step_mkslice, h54, mk, sl18, b1, step_copy, cp, natOf_int, idxAddr_slice, st51]
      refine wp_loop (fun k s st => ∃ i X o1 o2, i + k = n + 1 ∧ st = few X ∧ Two N os X (headT u true) o1 (locaT true gs i) o2 (glyfT (gs.take i)) ∧
        s (.i .h) = .bool true ∧ s (.o .h) = slT f r n ∧ s (.i (.o (.o .h))) = .slice (some (N, 0)) 1 54 54 true ∧ s (.o (.i (.o .h))) = fV o1 (4 * i) ∧ s (.i (.i (.o .h))) = fV o2 (offT gs i) ∧ s (.o (.o (.i .h))) = .int .i64 4 ∧ s (.i (.o (.i .h))) = .int .i64 (i : Int)) (n + 1) ?_ (by omega) ?_
      · refine ⟨0, A, none, none, by omega, rfl, two0, ?_, ?_, ?_, ?_, ?_, ?_, ?_⟩ <;> simp [fV]
      · rintro k s st ⟨i, X, o1, o2, hk, rfl, hT, s1, s2, s3, s4, s5, s6, s7⟩
        have hle := hT.le
        have hl1 := locaT_len (y := true) (gs := gs) i
        have hl1 : (locaT true gs i).length = 4 * i := hl1
        cases k with
        | zero =>
          have hin : i = n + 1 := by omega
          subst hin
          have hgl : offT gs (n + 1) = (glyfT gs).length := by unfold offT; rw [List.take_of_length_le (by omega)]
          rw [List.take_of_length_le (by omega)] at hT
          rw [hgl] at s5
          rw [← hl1] at s4
          obtain ⟨x0, hx0⟩ : ∃ x0, X.length = x0 := ⟨_, rfl⟩
          obtain ⟨X1, hX1⟩ : ∃ X1, X1 = X ++ [some (AObj.cells true (strsV baseTags))] := ⟨_, rfl⟩
          have e1 : X1.length = x0 + 1 := by rw [hX1]; simp [hx0]
          have al1 : (few X).alloc (.cells true [.str [104, 101, 97, 100], .str [109, 97, 120, 112], .str [108, 111, 99, 97], .str [103, 108, 121, 102]]) = some (x0, few X1) := by rw [hX1, ← hx0]; exact few_alloc X _
          obtain ⟨X2, hX2⟩ : ∃ X2, X2 = X1 ++ [some (newBytes [0, 1, 0, 0])] := ⟨_, rfl⟩
          have e2 : X2.length = x0 + 2 := by rw [hX2]; simp [e1]
          have al2 : (few X1).alloc (.cells true [.int .u8 0, .int .u8 1, .int .u8 0, .int .u8 0]) = some (x0 + 1, few X2) := by rw [hX2, ← e1]; exact few_alloc X1 _
          obtain ⟨X3, hX3⟩ : ∃ X3, X3 = X2 ++ [some (newBytes (bigB n 2))] := ⟨_, rfl⟩
          have e3 : X3.length = x0 + 3 := by rw [hX3]; simp [e2]
          have big3 : call nB [.int .i64 (n : Int), .int .i64 2] (few X2) = some (.slice (some (x0 + 2, 0)) 1 2 2 false, few X3) := by rw [hX3, ← e2]; exact hB X2 n 2 (by omega) (by omega)
          have fi3 : firstN (few X3) 1 2 (.slice (some (x0 + 2, 0)) 1 2 2 false) = some (bytesV (bigB n 2)) := first_own (bs := bigB n 2) (by rw [hX3, ← e2]; simp)
          have at3 : (X3[x0 + 1]?).join = some (newBytes [0, 1, 0, 0]) := by rw [hX3, join_app (by omega), hX2, ← e1]; simp
          obtain ⟨X4, hX4⟩ : ∃ X4, X4 = X3 ++ [some (newBytes (maxpT n))] := ⟨_, rfl⟩
          have e4 : X4.length = x0 + 4 := by rw [hX4]; simp [e3]
          have gr4 : appendV (few X3) 1 1 (.slice (some (x0 + 1, 0)) 1 4 4 true) (some 2) (some (bytesV (bigB n 2))) = some (.slice (some (x0 + 3, 0)) 1 6 6 false, few X4) := by
            have := grow_fix (n := 4) (c := 4) (m := 1) (new := bytesV (bigB n 2)) at3 rfl (by rw [bytesV_len, bigB_len]) (by omega)
            rw [e3] at this
            rw [hX4]
            exact this.trans (by simp [newBytes, bytesV, maxpT])
          obtain ⟨vl, hvl⟩ : ∃ v, v = fV o1 (locaT true gs (n + 1)).length := ⟨_, rfl⟩
          obtain ⟨vg, hvg⟩ : ∃ v, v = fV o2 (glyfT gs).length := ⟨_, rfl⟩
          rw [← hvl] at s4
          rw [← hvg] at s5
          have cl : vl.cells = some [vl] := by rw [hvl]; exact fV_cells
          have cg : vg.cells = some [vg] := by rw [hvg]; exact fV_cells
          obtain ⟨X5, hX5⟩ : ∃ X5, X5 = X4 ++ [some (AObj.cells true [.slice (some (N, 0)) 1 54 54 true, .slice (some (x0 + 3, 0)) 1 6 6 false, vl, vg])] := ⟨_, rfl⟩
          have e5 : X5.length = x0 + 5 := by rw [hX5]; simp [e4]
          have al5 : (few X4).alloc (.cells true [.slice (some (N, 0)) 1 54 54 true, .slice (some (x0 + 3, 0)) 1 6 6 false, vl, vg]) = some (x0 + 4, few X5) := by rw [hX5, ← e4]; exact few_alloc X4 _
          simp (disch := omega) [s1, s2, s3, s4, s5, s6, s7, len1, dlt_t, dlt_f, dle_t, dle_f, dltn_t, dltn_f, dlen_t, dlen_f, deq_t, deq_f, deqn_t, deqn_f, al1, al2, big3, lenOfS, firstNo, fi3, gr4, cl, cg, al5]
          have k5 : ∀ i, i < X.length → (X5[i]?).join = (X[i]?).join := fun i hi => by rw [hX5, join_app (by omega), hX4, join_app (by omega), hX3, join_app (by omega), hX2, join_app (by omega), hX1, join_app hi]
          refine ⟨X5, rfl, fun i hi => by rw [k5 i (by omega), hT.old i (by omega)], by omega, x0, x0 + 4, rfl, by omega, by omega, by omega, ?_, _, by rw [hX5, ← e4]; simp; rfl, rfl, fun j v b hv hb => ?_⟩
          · rw [hX5, join_app (by omega), hX4, join_app (by omega), hX3, join_app (by omega), hX2, join_app (by omega), hX1, ← hx0]; simp
          · match j, hv, hb with
            | 0, hv, hb =>
              cases hv; cases hb
              obtain ⟨g1, g2⟩ := lookB_own (f := true) (show (X5[N]?).join = some (newBytes (headT u true)) by rw [k5 N (join_lt hT.head)]; exact hT.head) headT_lt
              rw [headT_len] at g1 g2
              have := join_lt hT.head
              exact ⟨g1, g2, rfl, fun i hi => by cases hi; omega⟩
            | 1, hv, hb =>
              cases hv; cases hb
              obtain ⟨g1, g2⟩ := lookB_own (f := false) (show (X5[x0 + 3]?).join = some (newBytes (maxpT n)) by rw [hX5, join_app (by omega), hX4, ← e3]; simp) maxpT_lt
              rw [show (maxpT n).length = 6 from by simp [maxpT, bigB_len]] at g1 g2
              rw [← hne]
              exact ⟨g1, g2, rfl, fun i hi => by cases hi; omega⟩
            | 2, hv, hb =>
              cases hv; cases hb
              have f5 := hT.f1.keep (os' := X5) fun i hi _ => k5 i hi
              obtain ⟨g1, g2⟩ := f5.shows locaT_lt
              rw [← hne, hvl]
              refine ⟨g1, g2, fV_plain, fun i hi => ?_⟩
              cases o1 with
              | none => cases hi
              | some p => cases hi; have := hT.f1.lo _ rfl; omega
            | 3, hv, hb =>
              cases hv; cases hb
              have f5 := hT.f2.keep (os' := X5) fun i hi _ => k5 i hi
              obtain ⟨g1, g2⟩ := f5.shows (glyfT_lt fun g hg' => (hg g hg').2)
              rw [hvg]
              refine ⟨g1, g2, fV_plain, fun i hi => ?_⟩
              cases o2 with
              | none => cases hi
              | some p => cases hi; have := hT.f2.lo _ rfl; omega
            | j + 4, hv, hb => simp at hv
        | succ k =>
          have hil : i ≤ n := by omega
          obtain ⟨G, hG⟩ : ∃ G, G = offT gs i := ⟨_, rfl⟩
          have hGl : (glyfT (gs.take i)).length = G := by rw [hG]; rfl
          have hGs := hoff i
          rw [← hG] at s5 hGs
          have hev : G % 2 = 0 := by rw [← hGl]; exact glyfT_even _
          have lnG : ∀ st, lenV st .slice (fV o2 G) = some (.int .i64 (G : Int)) := fun st => by rw [← hGl]; exact hT.f2.len
          have hquo : binV .quo (.val .int) (.int .i64 (G : Int)) (.int .i64 2) = some (.int .i64 ((G / 2 : Nat) : Int)) := by
            rw [bin_quo (by decide)]
            have : Int.tdiv (G : Int) 2 = ((G / 2 : Nat) : Int) := by
              rw [show (2 : Int) = ((2 : Nat) : Int) from rfl, Int.ofNat_tdiv]
            rw [this, wrap_i (by omega) (by omega)]
          obtain ⟨G2, hG2⟩ : ∃ G2, G2 = G / 2 := ⟨_, rfl⟩
          rw [← hG2] at hquo
          obtain ⟨x0, hx0⟩ : ∃ x0, X.length = x0 := ⟨_, rfl⟩
          obtain ⟨X1, hX1⟩ : ∃ X1, X1 = X ++ [some (newBytes (bigB G 4))] := ⟨_, rfl⟩
          have e1 : X1.length = x0 + 1 := by rw [hX1]; simp [hx0]
          have big1 : call nB [.int .i64 (G : Int), .int .i64 4] (few X) = some (.slice (some (x0, 0)) 1 4 4 false, few X1) := by rw [hX1, ← hx0]; exact hB X G 4 (by omega) (by omega)
          have fi1 : firstN (few X1) 1 4 (.slice (some (x0, 0)) 1 4 4 false) = some (bytesV (bigB G 4)) := by
            have := first_own (os := X1) (p := x0) (f := false) (bs := bigB G 4) (c := 4) (by rw [hX1, ← hx0]; simp)
            rw [bigB_len] at this
            exact this
          have hT1 := hT.add (some (newBytes (bigB G 4)))
          rw [← hX1] at hT1
          obtain ⟨o1', X2, g2, hT2, hl2⟩ := hT1.grow1 (bigB G 4) (by rw [bigB_len]; omega)
          rw [hl1, bigB_len] at g2
          have hent : locaT true gs i ++ bigB G 4 = locaT true gs (i + 1) := by rw [locaT_succ, ← hG]; rfl
          rw [hent] at hT2
          have hsz1 : 4 * i + 4 = 4 * (i + 1) := by omega
          rw [hsz1] at g2
          by_cases hi : i < n
          · obtain ⟨g, hgi⟩ : ∃ g, gs[i]? = some g := ⟨_, List.getElem?_eq_getElem (by omega)⟩
            obtain ⟨hg1, hg2⟩ := hg g (List.mem_of_getElem? hgi)
            have hTr : slT f r n = .slice (some (r, 0)) 1 n n f := if_neg (by omega)
            obtain ⟨w, ldw, _, hwl, _⟩ := (hr.keep (fun i hi => hT2.old i (by omega)) (by have := hT2.le; omega)).at_ hgi
            obtain ⟨w1, w2⟩ := first_bytes (lookB_at hwl)
            obtain ⟨o2', X3, g3, hT3, hl3⟩ := hT2.grow2 g (by omega)
            rw [hGl] at g3
            obtain ⟨gl, hgl⟩ : ∃ gl, gl = g.length := ⟨_, rfl⟩
            rw [← hgl] at g3 w1 w2
            have lnG3 : ∀ st, lenV st .slice (fV o2' (G + gl)) = some (.int .i64 ((G + gl : Nat) : Int)) := fun st => by
              have := hT3.f2.len (st := st)
              rw [List.length_append, hGl, ← hgl] at this
              exact this
            have hrem : binV .rem (.val .int) (.int .i64 ((G + gl : Nat) : Int)) (.int .i64 2) = some (.int .i64 ((gl % 2 : Nat) : Int)) := by
              rw [bin_rem (by decide)]
              have : Int.tmod ((G + gl : Nat) : Int) 2 = ((gl % 2 : Nat) : Int) := by
                rw [show gl % 2 = (G + gl) % 2 from by omega]
                exact (Int.ofNat_tmod (G + gl) 2).symm
              rw [this]
            obtain ⟨GG, hGG⟩ : ∃ x, x = G + gl := ⟨_, rfl⟩
            rw [← hGG] at lnG3 hrem g3
            obtain ⟨gm, hgm⟩ : ∃ x, x = gl % 2 := ⟨_, rfl⟩
            rw [← hgm] at hrem
            by_cases hodd : gm = 1
            · obtain ⟨x3, hx3⟩ : ∃ x3, X3.length = x3 := ⟨_, rfl⟩
              obtain ⟨X4, hX4⟩ : ∃ X4, X4 = X3 ++ [some (newBytes [0])] := ⟨_, rfl⟩
              have al4 : (few X3).alloc (.cells true [.int .u8 0]) = some (x3, few X4) := by rw [hX4, ← hx3]; exact few_alloc X3 _
              have fi4 : firstN (few X4) 1 1 (.slice (some (x3, 0)) 1 1 1 true) = some (bytesV [0]) := first_own (bs := [0]) (by rw [hX4, ← hx3]; simp)
              have hT4 := hT3.add (some (newBytes [0]))
              rw [← hX4] at hT4
              obtain ⟨o2'', X5, g5, hT5, hl5⟩ := hT4.grow2 [0] (by rw [List.length_append, hGl]; simp; omega)
              rw [List.length_append, hGl, ← hgl, ← hGG] at g5
              have g5 : appendV (few X4) 1 1 (fV o2' GG) (some 1) (some (bytesV [0])) = some (fV o2'' (GG + 1), few X5) := g5
              have hgn : glyfT (gs.take i) ++ g ++ [0] = glyfT (gs.take (i + 1)) := by
                rw [glyfT_succ hgi, List.append_assoc]
                unfold padG
                rw [if_pos (by rw [← hgl, ← hgm]; exact hodd)]
              rw [hgn] at hT5
              have hon : GG + 1 = offT gs (i + 1) := by unfold offT; rw [← hgn, List.length_append, List.length_append, hGl, hGG, hgl]; rfl
              rw [hon] at g5
              rw [hodd] at hrem
              simp (disch := omega) [s1, s2, s3, s4, s5, s6, s7, len1, dlt_t, dlt_f, dle_t, dle_f, dltn_t, dltn_f, dlen_t, dlen_f, deq_t, deq_f, deqn_t, deqn_f, lnG, hquo, big1, lenOfS, firstNo, fi1, g2, hTr, natOf_int, idxAddr_slice, ldw, w1, w2, g3, lnG3, hrem, al4, fi4, g5, wrap_i]
              exact ⟨k, by omega, i + 1, by omega, X5, rfl, o1', o2'', hT5, rfl, rfl, by omega⟩
            · have hgn : glyfT (gs.take i) ++ g = glyfT (gs.take (i + 1)) := by
                rw [glyfT_succ hgi]
                unfold padG
                rw [if_neg (by rw [← hgl, ← hgm]; exact hodd)]
              rw [hgn] at hT3
              have hon : GG = offT gs (i + 1) := by unfold offT; rw [← hgn, List.length_append, hGl, hGG, hgl]
              have hgm0 : gm = 0 := by omega
              rw [hgm0] at hrem
              rw [hon] at g3 lnG3 hrem
              simp (disch := omega) [s1, s2, s3, s4, s5, s6, s7, len1, dlt_t, dlt_f, dle_t, dle_f, dltn_t, dltn_f, dlen_t, dlen_f, deq_t, deq_f, deqn_t, deqn_f, lnG, hquo, big1, lenOfS, firstNo, fi1, g2, hTr, natOf_int, idxAddr_slice, ldw, w1, w2, g3, lnG3, hrem, wrap_i]
              exact ⟨k, by omega, i + 1, by omega, X3, rfl, o1', o2', hT3, rfl, rfl, by omega⟩
          · have hin : i = n := by omega
            have hgn : glyfT (gs.take i) = glyfT (gs.take (i + 1)) := by rw [List.take_of_length_le (by omega), List.take_of_length_le (by omega)]
            have hon : G = offT gs (i + 1) := by rw [hG]; unfold offT; rw [hgn]
            rw [hgn] at hT2
            simp (disch := omega) [s1, s2, s3, s4, s5, s6, s7, len1, dlt_t, dlt_f, dle_t, dle_f, dltn_t, dltn_f, dlen_t, dlen_f, deq_t, deq_f, deqn_t, deqn_f, lnG, hquo, big1, lenOfS, firstNo, fi1, g2, wrap_i]
            exact ⟨k, by omega, i + 1, by omega, X2, rfl, o1', o2, hT2, rfl, by rw [hon], by omega⟩
    | false =>
      have hAA := sA2 rfl
      subst hAA
      simp (disch := omega) [step_mkslice, h54, mk, sl18, b1, step_copy, cp, natOf_int, idxAddr_slice]
      refine wp_loop (fun k s st => ∃ i X o1 o2, i + k = n + 1 ∧ st = few X ∧ Two N os X (headT u false) o1 (locaT false gs i) o2 (glyfT (gs.take i)) ∧
        s (.i .h) = .bool false ∧ s (.o .h) = slT f r n ∧ s (.i (.o (.o .h))) = .slice (some (N, 0)) 1 54 54 true ∧ s (.o (.i (.o .h))) = fV o1 (2 * i) ∧ s (.i (.i (.o .h))) = fV o2 (offT gs i) ∧ s (.o (.o (.i .h))) = .int .i64 2 ∧ s (.i (.o (.i .h))) = .int .i64 (i : Int)) (n + 1) ?_ (by omega) ?_
      · refine ⟨0, A, none, none, by omega, rfl, two0, ?_, ?_, ?_, ?_, ?_, ?_, ?_⟩ <;> simp [fV]
      · rintro k s st ⟨i, X, o1, o2, hk, rfl, hT, s1, s2, s3, s4, s5, s6, s7⟩
        have hle := hT.le
        have hl1 := locaT_len (y := false) (gs := gs) i
        have hl1 : (locaT false gs i).length = 2 * i := hl1
        cases k with
        | zero =>
          have hin : i = n + 1 := by omega
          subst hin
          have hgl : offT gs (n + 1) = (glyfT gs).length := by unfold offT; rw [List.take_of_length_le (by omega)]
          rw [List.take_of_length_le (by omega)] at hT
          rw [hgl] at s5
          rw [← hl1] at s4
          obtain ⟨x0, hx0⟩ : ∃ x0, X.length = x0 := ⟨_, rfl⟩
          obtain ⟨X1, hX1⟩ : ∃ X1, X1 = X ++ [some (AObj.cells true (strsV baseTags))] := ⟨_, rfl⟩
          have e1 : X1.length = x0 + 1 := by rw [hX1]; simp [hx0]
          have al1 : (few X).alloc (.cells true [.str [104, 101, 97, 100], .str [109, 97, 120, 112], .str [108, 111, 99, 97], .str [103, 108, 121, 102]]) = some (x0, few X1) := by rw [hX1, ← hx0]; exact few_alloc X _
          obtain ⟨X2, hX2⟩ : ∃ X2, X2 = X1 ++ [some (newBytes [0, 1, 0, 0])] := ⟨_, rfl⟩
          have e2 : X2.length = x0 + 2 := by rw [hX2]; simp [e1]
          have al2 : (few X1).alloc (.cells true [.int .u8 0, .int .u8 1, .int .u8 0, .int .u8 0]) = some (x0 + 1, few X2) := by rw [hX2, ← e1]; exact few_alloc X1 _
          obtain ⟨X3, hX3⟩ : ∃ X3, X3 = X2 ++ [some (newBytes (bigB n 2))] := ⟨_, rfl⟩
          have e3 : X3.length = x0 + 3 := by rw [hX3]; simp [e2]
          have big3 : call nB [.int .i64 (n : Int), .int .i64 2] (few X2) = some (.slice (some (x0 + 2, 0)) 1 2 2 false, few X3) := by rw [hX3, ← e2]; exact hB X2 n 2 (by omega) (by omega)
          have fi3 : firstN (few X3) 1 2 (.slice (some (x0 + 2, 0)) 1 2 2 false) = some (bytesV (bigB n 2)) := first_own (bs := bigB n 2) (by rw [hX3, ← e2]; simp)
          have at3 : (X3[x0 + 1]?).join = some (newBytes [0, 1, 0, 0]) := by rw [hX3, join_app (by omega), hX2, ← e1]; simp
          obtain ⟨X4, hX4⟩ : ∃ X4, X4 = X3 ++ [some (newBytes (maxpT n))] := ⟨_, rfl⟩
          have e4 : X4.length = x0 + 4 := by rw [hX4]; simp [e3]
          have gr4 : appendV (few X3) 1 1 (.slice (some (x0 + 1, 0)) 1 4 4 true) (some 2) (some (bytesV (bigB n 2))) = some (.slice (some (x0 + 3, 0)) 1 6 6 false, few X4) := by
            have := grow_fix (n := 4) (c := 4) (m := 1) (new := bytesV (bigB n 2)) at3 rfl (by rw [bytesV_len, bigB_len]) (by omega)
            rw [e3] at this
            rw [hX4]
            exact this.trans (by simp [newBytes, bytesV, maxpT])
          obtain ⟨vl, hvl⟩ : ∃ v, v = fV o1 (locaT false gs (n + 1)).length := ⟨_, rfl⟩
          obtain ⟨vg, hvg⟩ : ∃ v, v = fV o2 (glyfT gs).length := ⟨_, rfl⟩
          rw [← hvl] at s4
          rw [← hvg] at s5
          have cl : vl.cells = some [vl] := by rw [hvl]; exact fV_cells
          have cg : vg.cells = some [vg] := by rw [hvg]; exact fV_cells
          obtain ⟨X5, hX5⟩ : ∃ X5, X5 = X4 ++ [some (AObj.cells true [.slice (some (N, 0)) 1 54 54 true, .slice (some (x0 + 3, 0)) 1 6 6 false, vl, vg])] := ⟨_, rfl⟩
          have e5 : X5.length = x0 + 5 := by rw [hX5]; simp [e4]
          have al5 : (few X4).alloc (.cells true [.slice (some (N, 0)) 1 54 54 true, .slice (some (x0 + 3, 0)) 1 6 6 false, vl, vg]) = some (x0 + 4, few X5) := by rw [hX5, ← e4]; exact few_alloc X4 _
          simp (disch := omega) [s1, s2, s3, s4, s5, s6, s7, len1, dlt_t, dlt_f, dle_t, dle_f, dltn_t, dltn_f, dlen_t, dlen_f, deq_t, deq_f, deqn_t, deqn_f, al1, al2, big3, lenOfS, firstNo, fi3, gr4, cl, cg, al5]
          have k5 : ∀ i, i < X.length → (X5[i]?).join = (X[i]?).join := fun i hi => by rw [hX5, join_app (by omega), hX4, join_app (by omega), hX3, join_app (by omega), hX2, join_app (by omega), hX1, join_app hi]
          refine ⟨X5, rfl, fun i hi => by rw [k5 i (by omega), hT.old i (by omega)], by omega, x0, x0 + 4, rfl, by omega, by omega, by omega, ?_, _, by rw [hX5, ← e4]; simp; rfl, rfl, fun j v b hv hb => ?_⟩
          · rw [hX5, join_app (by omega), hX4, join_app (by omega), hX3, join_app (by omega), hX2, join_app (by omega), hX1, ← hx0]; simp
          · match j, hv, hb with
            | 0, hv, hb =>
              cases hv; cases hb
              obtain ⟨g1, g2⟩ := lookB_own (f := true) (show (X5[N]?).join = some (newBytes (headT u false)) by rw [k5 N (join_lt hT.head)]; exact hT.head) headT_lt
              rw [headT_len] at g1 g2
              have := join_lt hT.head
              exact ⟨g1, g2, rfl, fun i hi => by cases hi; omega⟩
            | 1, hv, hb =>
              cases hv; cases hb
              obtain ⟨g1, g2⟩ := lookB_own (f := false) (show (X5[x0 + 3]?).join = some (newBytes (maxpT n)) by rw [hX5, join_app (by omega), hX4, ← e3]; simp) maxpT_lt
              rw [show (maxpT n).length = 6 from by simp [maxpT, bigB_len]] at g1 g2
              rw [← hne]
              exact ⟨g1, g2, rfl, fun i hi => by cases hi; omega⟩
            | 2, hv, hb =>
              cases hv; cases hb
              have f5 := hT.f1.keep (os' := X5) fun i hi _ => k5 i hi
              obtain ⟨g1, g2⟩ := f5.shows locaT_lt
              rw [← hne, hvl]
              refine ⟨g1, g2, fV_plain, fun i hi => ?_⟩
              cases o1 with
              | none => cases hi
              | some p => cases hi; have := hT.f1.lo _ rfl; omega
            | 3, hv, hb =>
              cases hv; cases hb
              have f5 := hT.f2.keep (os' := X5) fun i hi _ => k5 i hi
              obtain ⟨g1, g2⟩ := f5.shows (glyfT_lt fun g hg' => (hg g hg').2)
              rw [hvg]
              refine ⟨g1, g2, fV_plain, fun i hi => ?_⟩
              cases o2 with
              | none => cases hi
              | some p => cases hi; have := hT.f2.lo _ rfl; omega
            | j + 4, hv, hb => simp at hv
        | succ k =>
          have hil : i ≤ n := by omega
          obtain ⟨G, hG⟩ : ∃ G, G = offT gs i := ⟨_, rfl⟩
          have hGl : (glyfT (gs.take i)).length = G := by rw [hG]; rfl
          have hGs := hoff i
          rw [← hG] at s5 hGs
          have hev : G % 2 = 0 := by rw [← hGl]; exact glyfT_even _
          have lnG : ∀ st, lenV st .slice (fV o2 G) = some (.int .i64 (G : Int)) := fun st => by rw [← hGl]; exact hT.f2.len
          have hquo : binV .quo (.val .int) (.int .i64 (G : Int)) (.int .i64 2) = some (.int .i64 ((G / 2 : Nat) : Int)) := by
            rw [bin_quo (by decide)]
            have : Int.tdiv (G : Int) 2 = ((G / 2 : Nat) : Int) := by
              rw [show (2 : Int) = ((2 : Nat) : Int) from rfl, Int.ofNat_tdiv]
            rw [this, wrap_i (by omega) (by omega)]
          obtain ⟨G2, hG2⟩ : ∃ G2, G2 = G / 2 := ⟨_, rfl⟩
          rw [← hG2] at hquo
          obtain ⟨x0, hx0⟩ : ∃ x0, X.length = x0 := ⟨_, rfl⟩
          obtain ⟨X1, hX1⟩ : ∃ X1, X1 = X ++ [some (newBytes (bigB G2 2))] := ⟨_, rfl⟩
          have e1 : X1.length = x0 + 1 := by rw [hX1]; simp [hx0]
          have big1 : call nB [.int .i64 (G2 : Int), .int .i64 2] (few X) = some (.slice (some (x0, 0)) 1 2 2 false, few X1) := by rw [hX1, ← hx0]; exact hB X G2 2 (by omega) (by omega)
          have fi1 : firstN (few X1) 1 2 (.slice (some (x0, 0)) 1 2 2 false) = some (bytesV (bigB G2 2)) := by
            have := first_own (os := X1) (p := x0) (f := false) (bs := bigB G2 2) (c := 2) (by rw [hX1, ← hx0]; simp)
            rw [bigB_len] at this
            exact this
          have hT1 := hT.add (some (newBytes (bigB G2 2)))
          rw [← hX1] at hT1
          obtain ⟨o1', X2, g2, hT2, hl2⟩ := hT1.grow1 (bigB G2 2) (by rw [bigB_len]; omega)
          rw [hl1, bigB_len] at g2
          have hent : locaT false gs i ++ bigB G2 2 = locaT false gs (i + 1) := by rw [locaT_succ, ← hG]; rw [hG2]; rfl
          rw [hent] at hT2
          have hsz1 : 2 * i + 2 = 2 * (i + 1) := by omega
          rw [hsz1] at g2
          by_cases hi : i < n
          · obtain ⟨g, hgi⟩ : ∃ g, gs[i]? = some g := ⟨_, List.getElem?_eq_getElem (by omega)⟩
            obtain ⟨hg1, hg2⟩ := hg g (List.mem_of_getElem? hgi)
            have hTr : slT f r n = .slice (some (r, 0)) 1 n n f := if_neg (by omega)
            obtain ⟨w, ldw, _, hwl, _⟩ := (hr.keep (fun i hi => hT2.old i (by omega)) (by have := hT2.le; omega)).at_ hgi
            obtain ⟨w1, w2⟩ := first_bytes (lookB_at hwl)
            obtain ⟨o2', X3, g3, hT3, hl3⟩ := hT2.grow2 g (by omega)
            rw [hGl] at g3
            obtain ⟨gl, hgl⟩ : ∃ gl, gl = g.length := ⟨_, rfl⟩
            rw [← hgl] at g3 w1 w2
            have lnG3 : ∀ st, lenV st .slice (fV o2' (G + gl)) = some (.int .i64 ((G + gl : Nat) : Int)) := fun st => by
              have := hT3.f2.len (st := st)
              rw [List.length_append, hGl, ← hgl] at this
              exact this
            have hrem : binV .rem (.val .int) (.int .i64 ((G + gl : Nat) : Int)) (.int .i64 2) = some (.int .i64 ((gl % 2 : Nat) : Int)) := by
              rw [bin_rem (by decide)]
              have : Int.tmod ((G + gl : Nat) : Int) 2 = ((gl % 2 : Nat) : Int) := by
                rw [show gl % 2 = (G + gl) % 2 from by omega]
                exact (Int.ofNat_tmod (G + gl) 2).symm
              rw [this]
            obtain ⟨GG, hGG⟩ : ∃ x, x = G + gl := ⟨_, rfl⟩
            rw [← hGG] at lnG3 hrem g3
            obtain ⟨gm, hgm⟩ : ∃ x, x = gl % 2 := ⟨_, rfl⟩
            rw [← hgm] at hrem
            by_cases hodd : gm = 1
            · obtain ⟨x3, hx3⟩ : ∃ x3, X3.length = x3 := ⟨_, rfl⟩
              obtain ⟨X4, hX4⟩ : ∃ X4, X4 = X3 ++ [some (newBytes [0])] := ⟨_, rfl⟩
              have al4 : (few X3).alloc (.cells true [.int .u8 0]) = some (x3, few X4) := by rw [hX4, ← hx3]; exact few_alloc X3 _
              have fi4 : firstN (few X4) 1 1 (.slice (some (x3, 0)) 1 1 1 true) = some (bytesV [0]) := first_own (bs := [0]) (by rw [hX4, ← hx3]; simp)
              have hT4 := hT3.add (some (newBytes [0]))
              rw [← hX4] at hT4
              obtain ⟨o2'', X5, g5, hT5, hl5⟩ := hT4.grow2 [0] (by rw [List.length_append, hGl]; simp; omega)
              rw [List.length_append, hGl, ← hgl, ← hGG] at g5
              have g5 : appendV (few X4) 1 1 (fV o2' GG) (some 1) (some (bytesV [0])) = some (fV o2'' (GG + 1), few X5) := g5
              have hgn : glyfT (gs.take i) ++ g ++ [0] = glyfT (gs.take (i + 1)) := by
                rw [glyfT_succ hgi, List.append_assoc]
                unfold padG
                rw [if_pos (by rw [← hgl, ← hgm]; exact hodd)]
              rw [hgn] at hT5
              have hon : GG + 1 = offT gs (i + 1) := by unfold offT; rw [← hgn, List.length_append, List.length_append, hGl, hGG, hgl]; rfl
              rw [hon] at g5
              rw [hodd] at hrem
              simp (disch := omega) [s1, s2, s3, s4, s5, s6, s7, len1, dlt_t, dlt_f, dle_t, dle_f, dltn_t, dltn_f, dlen_t, dlen_f, deq_t, deq_f, deqn_t, deqn_f, lnG, hquo, big1, lenOfS, firstNo, fi1, g2, hTr, natOf_int, idxAddr_slice, ldw, w1, w2, g3, lnG3, hrem, al4, fi4, g5, wrap_i]
              exact ⟨k, by omega, i + 1, by omega, X5, rfl, o1', o2'', hT5, rfl, rfl, by omega⟩
            · have hgn : glyfT (gs.take i) ++ g = glyfT (gs.take (i + 1)) := by
                rw [glyfT_succ hgi]
                unfold padG
                rw [if_neg (by rw [← hgl, ← hgm]; exact hodd)]
              rw [hgn] at hT3
              have hon : GG = offT gs (i + 1) := by unfold offT; rw [← hgn, List.length_append, hGl, hGG, hgl]
              have hgm0 : gm = 0 := by omega
              rw [hgm0] at hrem
              rw [hon] at g3 lnG3 hrem
              simp (disch := omega) [s1, s2, s3, s4, s5, s6, s7, len1, dlt_t, dlt_f, dle_t, dle_f, dltn_t, dltn_f, dlen_t, dlen_f, deq_t, deq_f, deqn_t, deqn_f, lnG, hquo, big1, lenOfS, firstNo, fi1, g2, hTr, natOf_int, idxAddr_slice, ldw, w1, w2, g3, lnG3, hrem, wrap_i]
              exact ⟨k, by omega, i + 1, by omega, X3, rfl, o1', o2', hT3, rfl, rfl, by omega⟩
          · have hin : i = n := by omega
            have hgn : glyfT (gs.take i) = glyfT (gs.take (i + 1)) := by rw [List.take_of_length_le (by omega), List.take_of_length_le (by omega)]
            have hon : G = offT gs (i + 1) := by rw [hG]; unfold offT; rw [hgn]
            rw [hgn] at hT2
            simp (disch := omega) [s1, s2, s3, s4, s5, s6, s7, len1, dlt_t, dlt_f, dle_t, dle_f, dltn_t, dltn_f, dlen_t, dlen_f, deq_t, deq_f, deqn_t, deqn_f, lnG, hquo, big1, lenOfS, firstNo, fi1, g2, wrap_i]
            exact ⟨k, by omega, i + 1, by omega, X2, rfl, o1', o2, hT2, rfl, by rw [hon], by omega⟩

end Go.Vabs.Nb

namespace Go.Vabs.Nc
set_option linter.unusedVariables false
set_option linter.unusedSimpArgs false
set_option maxRecDepth 10000
attribute [local simp] wp_skip wp_ret wp_exit wp_reg wp_seq wp_cond wp_block thenQ_normal thenQ_ret thenQ_exit blockQ_normal blockQ_ret blockQ_exit wpCond_true wpCond_false wpOps_nil wpVal_some wpGuard_true wpGuard_false wpOps_guard wpOps_cons
  put_at put_no ev_c ev_slot posEq_h posEq_o posEq_i posEq_ho posEq_hi posEq_oh posEq_ih posEq_oi posEq_io sel_true sel_false
  okv_some step_mv step_call step_pick pickV_bool step_bin bin_add bin_sub bin_mul bin_eql bin_neq bin_lss bin_leq bin_gtr bin_geq bin_eqb bin_neb bin_eqs bin_nes step_un un_not un_neg step_len len_slice len_str len_const step_extract extractV nth step_convInt conv_int step_convStr step_slice step_idxAddr natOf_nat step_load step_index step_field step_fieldAddr step_build step_minmax
  step_alloc step_bslice bsliceV_some newV_some step_store step_append boolIs_b boolIs_t finQ_ret finQ_normal ressE_nil ressE_cons resE_tmp consO_some initE_nil initE_cons pos_0 pos_1 pos_2 pos_3 pos_4 pos_5 pos_6 pos_7 pos_8 plain_bool plain_int plain_str plain_ptr plain_slice plain_map plain_agg plain_func plain_nilFunc V.undef oneOf_one oneOf_two ble_self
open Go.Vabs.Pk Go.Vabs.Ph Go.Vabs.Sa Go.Vabs.Sb Go.Vabs.Sc Go.Vabs.Sd Go.Vabs.Se Go.Vabs.Sg Go.Vabs.Sh Go.Vabs.Sm Go.Vabs.Sn Go.Vabs.Sp Go.Vabs.Sr Go.Vabs.St Go.Vabs.Su Go.Vabs.L2 Go.Vabs.Na Go.Vabs.Nb
attribute [local simp] step_nilchk nilchk_ptr step_box cells_int cells_bool cells_str cells_slice cells_ptr cells_agg fieldAddrV natOf_zero fill repN splice over newV step_appendZ
  wp_dreg wpDs_nil wpDs_cons wantedE_none wantedE_some wpDGuard_true wpDGuard_lim wpDGuard_false wpDLim_true wpDVal_free wpDVal_lim back_limited next_limited limF_dir foot_load foot_convStr okAll_nil okAll_cons pastsOf nthP ahead few_next load_limited convStr_limited blt_dec okPair_dd okPair_dc okPair_cd okPair_cc anyIn_nil anyIn_same anyIn_cons meets_nil meets_nil'
def BaseF (call : CallT) (g : Nat) : Prop := ∀ os (u r : Nat) (f y : Bool) gs, RowsB os r gs → u < 65536 → gs.length ≤ 64 → (∀ g ∈ gs, g.length ≤ 4096 ∧ ∀ b ∈ g, b < 256) → ∃ v os', call g [.int .i64 (u : Int), slT f r gs.length, .bool y] (few os) = some (v, few os') ∧ BasePost os u y gs v os'
theorem BaseF.code {base : CallT} {g lf nB : Nat} (hlf : 70 ≤ lf) (hB : BigF base nB) : BaseF (Vabs.withF base g lf (Base_c nB)) g := fun os u r f y gs h1 h2 h3 h4 => by
  rw [withF_same]; exact Base_run hB h1 h2 (by omega) (by omega) h4
theorem BaseF.withF {call : CallT} {n g lf : Nat} {fn : AFunc} (h : BaseF call n) (hne : n ≠ g) : BaseF (Vabs.withF call g lf fn) n := fun os u r f y gs a b c d => by rw [withF_other hne]; exact h os u r f y gs a b c d
theorem BaseF.other {call : CallT} {n g : Nat} {l : List V → St → Option (V × St)} (h : BaseF call n) (hne : n ≠ g) : BaseF (withL call g l) n := fun os u r f y gs a b c d => by rw [withL_other hne]; exact h os u r f y gs a b c d
def baseL (u : Nat) (y : Bool) (gs : List (List Nat)) : List Itm := baseTags.zip (baseTabs u y gs)
theorem baseTags_lt : ∀ t ∈ baseTags, ∀ b ∈ t, b < 256 := by decide
theorem baseTabs_lt {u : Nat} {y : Bool} {gs : List (List Nat)} (hg : ∀ g ∈ gs, ∀ b ∈ g, b < 256) : ∀ t ∈ baseTabs u y gs, ∀ b ∈ t, b < 256 := by
  intro t ht
  simp only [baseTabs, List.mem_cons, List.not_mem_nil, or_false] at ht
  rcases ht with rfl | rfl | rfl | rfl
  · exact headT_lt
  · exact maxpT_lt
  · exact locaT_lt
  · exact glyfT_lt hg
theorem base_flat {u : Nat} {y : Bool} {gs : List (List Nat)} (hn : gs.length ≤ 64) (hg : ∀ g ∈ gs, g.length ≤ 4096) : (baseTabs u y gs).flatten.length ≤ 400000 := by
  have h1 := glyfT_le (gs := gs) (m := 4096) hg
  have h2 := locaT_len (y := y) (gs := gs) (gs.length + 1)
  have h3 : (4096 + 1) * gs.length ≤ (4096 + 1) * 64 := Nat.mul_le_mul_left _ hn
  have h4 : (if y = true then 4 else 2) * (gs.length + 1) ≤ 4 * 65 := Nat.mul_le_mul (by split <;> omega) (by omega)
  simp only [baseTabs, List.flatten_cons, List.flatten_nil, List.length_append, List.length_nil, headT_len, show (maxpT gs.length).length = 6 from by simp [maxpT, bigB_len]]
  omega
theorem base_lay {u : Nat} {y : Bool} {gs : List (List Nat)} : layS baseTags (baseTabs u y gs) = some (layL (baseL u y gs)) := by
  unfold layS
  rw [if_pos ⟨rfl, by decide, by decide, by decide⟩]
  rfl
def PlainF (call : CallT) (g : Nat) : Prop := ∀ os (u r : Nat) (f y : Bool) gs, RowsB os r gs → u < 65536 → gs.length ≤ 64 → (∀ g ∈ gs, g.length ≤ 4096 ∧ ∀ b ∈ g, b < 256) → ∃ p os', call g [.int .i64 (u : Int), .bool y, slT f r gs.length] (few os) = some (.slice (some (p, 0)) 1 (layL (baseL u y gs)).length (layL (baseL u y gs)).length false, few os') ∧
  (∀ i, i < os.length → (os'[i]?).join = (os[i]?).join) ∧ os.length ≤ os'.length ∧ (os'[p]?).join = some (newBytes (layL (baseL u y gs)))
theorem PlainF.code {base : CallT} {g lf nB nF : Nat} (hB : BaseF base nB) (hF : FontF base nF) : PlainF (Vabs.withF base g lf (plain_c nB nF)) g := fun os u r f y gs h1 h2 h3 h4 => by
  rw [withF_same]
  obtain ⟨v, X, e1, k1, k2, q, r', rfl, _, _, _, hq, vs, hr, hvl, hv⟩ := hB os u r f y gs h1 h2 h3 h4
  have hrow : RowsB X r' (baseTabs u y gs) := rows_own hr hvl fun j v b a c => ⟨(hv j v b a c).1, (hv j v b a c).2.1⟩
  obtain ⟨w, Y, e2, k3, k4, k5⟩ := hF X q r' true true baseTags (baseTabs u y gs) (fun _ => ⟨true, hq⟩) hrow baseTags_lt (baseTabs_lt fun g h => (h4 g h).2) (by decide) (by show 4 ≤ 4096; omega) (by have := base_flat (u := u) (y := y) h3 fun g h => (h4 g h).1; omega)
  rw [base_lay] at k5
  obtain ⟨p, rfl, hp, hpb⟩ := k5
  have e2 : base nF [.slice (some (q, 0)) 1 4 4 true, .slice (some (r', 0)) 1 4 4 true] (few X) = some (.slice (some (p, 0)) 1 (layL (baseL u y gs)).length (layL (baseL u y gs)).length false, few Y) := e2
  refine ⟨p, Y, ?_, fun i hi => by rw [k3 i (by omega), k1 i hi], by omega, hpb⟩
  obtain ⟨B, hB'⟩ : ∃ B, B = (layL (baseL u y gs)).length := ⟨_, rfl⟩
  rw [← hB'] at e2 ⊢
  refine enter_eq ?_
  simp [e1, e2]
theorem PlainF.withF {call : CallT} {n g lf : Nat} {fn : AFunc} (h : PlainF call n) (hne : n ≠ g) : PlainF (Vabs.withF call g lf fn) n := fun os u r f y gs a b c d => by rw [withF_other hne]; exact h os u r f y gs a b c d
theorem PlainF.other {call : CallT} {n g : Nat} {l : List V → St → Option (V × St)} (h : PlainF call n) (hne : n ≠ g) : PlainF (withL call g l) n := fun os u r f y gs a b c d => by rw [withL_other hne]; exact h os u r f y gs a b c d
/- WHAT IS TOLD OF THEM -/
/- THE RUN -/
/-- Tables, held. -/
structure Rack (N : Nat) (os0 os : List (Option AObj)) (r : Nat) (ts : List (List Nat)) : Prop where
  old : ∀ i, i < N → (os[i]?).join = (os0[i]?).join
  le : N ≤ os.length
  tb : ts ≠ [] → N ≤ r ∧ ∃ vs, (os[r]?).join = some (.cells true vs) ∧ vs.length = ts.length ∧ ∀ (j : Nat) (v : V) (b : List Nat), vs[j]? = some v → ts[j]? = some b → ∃ p, v = heldV p b ∧ N ≤ p ∧ p ≠ r ∧ (os[p]?).join = some (newBytes b)
theorem Rack.rows {N : Nat} {os0 os : List (Option AObj)} {r : Nat} {ts : List (List Nat)} (h : Rack N os0 os r ts) (hb : ∀ t ∈ ts, ∀ b ∈ t, b < 256) : RowsB os r ts := by
  refine ⟨fun hne => ?_⟩
  obtain ⟨_, vs, h1, h2, h3⟩ := h.tb hne
  refine ⟨true, vs, h1, h2, fun j v b hv hb' => ?_⟩
  obtain ⟨p, rfl, _, _, h4⟩ := h3 j v b hv hb'
  exact lookB_own h4 (hb b (List.mem_of_getElem? hb'))
theorem Rack.next {N k : Nat} {os0 os : List (Option AObj)} {r : Nat} {ts : List (List Nat)} (h : Rack N os0 os r ts) (hk2 : ts.length = k) {l2 l3 : List (Option AObj)} {b : List Nat} {vs : List V} {p : Nat}
    (hvs : ts ≠ [] → (os[r]?).join = some (.cells true vs)) (hvl : vs.length = k) {X4 X5 X6 : List (Option AObj)} (e4 : X4 = os ++ l2) (hp : os.length ≤ p) (hpb : (X4[p]?).join = some (newBytes b)) (e5 : X5 = X4 ++ l3) (e6 : X6 = Sp.setK k X5 r ++ [some (.cells true (vs ++ [heldV p b]))]) :
    Rack N os0 X6 X5.length (ts ++ [b]) := by
  have n4 : X4.length = os.length + l2.length := by rw [e4, List.length_append]
  have n5 : X5.length = X4.length + l3.length := by rw [e5, List.length_append]
  have n6 : X6.length = X5.length + 1 := by rw [e6]; simp [Sp.setK_len]
  have hle := h.le
  have hpX := join_lt hpb
  have sne : k ≠ 0 → ts ≠ [] := fun h0 e => h0 (by rw [← hk2, e]; rfl)
  have hrl : k ≠ 0 → r < os.length := fun h0 => join_lt (hvs (sne h0))
  have keep6 : ∀ i, i < X5.length → (k ≠ 0 → i ≠ r) → (X6[i]?).join = (X5[i]?).join := fun i hi hr => by
    rw [e6, join_app (by rw [Sp.setK_len]; omega), Sp.setK_at hr]
  have k5 : ∀ i, i < os.length → (X5[i]?).join = (os[i]?).join := fun i hi => by rw [e5, join_app (by omega), e4, join_app hi]
  have keep : ∀ i, i < os.length → (k ≠ 0 → i ≠ r) → (X6[i]?).join = (os[i]?).join := fun i hi hr => by rw [keep6 i (by omega) hr, k5 i hi]
  have p6 : (X6[p]?).join = some (newBytes b) := by
    rw [keep6 p (by omega) (fun h0 => by have := hrl h0; omega), e5, join_app hpX, hpb]
  refine ⟨fun i hi => ?_, by omega, fun _ => ⟨by omega, vs ++ [heldV p b], ?_, by simp [hvl, hk2], fun j v c hv hc => ?_⟩⟩
  · rw [keep i (by omega) (fun h0 => by have := (h.tb (sne h0)).1; omega), h.old i hi]
  · rw [e6, List.getElem?_append_right (by rw [Sp.setK_len]; exact Nat.le_refl _), Sp.setK_len, Nat.sub_self]
    rfl
  · by_cases hj : j < k
    · rw [List.getElem?_append_left (by omega)] at hv hc
      have h0 : k ≠ 0 := by omega
      obtain ⟨_, vs', g1, g2, g3⟩ := h.tb (sne h0)
      have : vs' = vs := by
        rw [hvs (sne h0)] at g1
        injection g1 with g1
        injection g1 with _ g1
        exact g1.symm
      subst this
      obtain ⟨p', g4, g5, g7, g8⟩ := g3 j v c hv hc
      have hpl := join_lt g8
      exact ⟨p', g4, g5, by omega, by rw [keep p' hpl (fun _ => g7)]; exact g8⟩
    · have hjk : j = k := by
        have := (List.getElem?_eq_some_iff.1 hc).1
        simp at this
        omega
      subst hjk
      rw [List.getElem?_append_right (by omega), hvl, Nat.sub_self] at hv
      rw [List.getElem?_append_right (by omega), hk2, Nat.sub_self] at hc
      cases hv
      cases hc
      exact ⟨p, rfl, by omega, by omega, p6⟩
def cutsZ (z : Nat) (bss : List (List Nat)) (k : Nat) : List (List Nat) := (bss.take k).map fun b => b.take z
theorem cutsZ_succ {z : Nat} {bss : List (List Nat)} {k : Nat} {b : List Nat} (h : bss[k]? = some b) : cutsZ z bss (k + 1) = cutsZ z bss k ++ [b.take z] := by unfold cutsZ; rw [List.take_add_one, h, List.map_append]; rfl
theorem cutsZ_len {z : Nat} {bss : List (List Nat)} {k : Nat} (h : k ≤ bss.length) : (cutsZ z bss k).length = k := by simp [cutsZ]; omega
/-- One round: a table is put by. -/
theorem rack_step {call : CallT} {nF : Nat} (hF : FewF call nF) {N z i : Nat} (hz : z < 1048576) {os0 X0 : List (Option AObj)} {r r0 : Nat} {bss : List (List Nat)} {b : List Nat} (hN : N = os0.length) (hrow : RowsB os0 r0 bss) (hH : Rack N os0 X0 r (cutsZ z bss i)) (hb : bss[i]? = some b) (hbl : b.length ≤ 140737488354000) (hi : i ≤ 63) :
    ∃ w X4 X5 X6 x4 p bl fb r', loadV (few X0) false 1 (.ptr (some (r0, i))) = some w ∧ call nF [w, .int .i64 (z : Int)] (few X0) = some (.slice (some (p, 0)) 1 bl bl fb, few X4) ∧ (few X4).alloc (.cells true [.slice (some (p, 0)) 1 bl bl fb]) = some (x4, few X5) ∧
      firstN (few X5) 1 1 (.slice (some (x4, 0)) 1 1 1 true) = some [V.slice (some (p, 0)) 1 bl bl fb] ∧ appendV (few X5) 1 24 (tagsV r i) (some 1) (some [V.slice (some (p, 0)) 1 bl bl fb]) = some (.slice (some (r', 0)) 1 (i + 1) (i + 1) false, few X6) ∧ Rack N os0 X6 r' (cutsZ z bss (i + 1)) := by
  have hiM := (List.getElem?_eq_some_iff.1 hb).1
  have hle := hH.le
  obtain ⟨w, ldw, hwg, hwl, _⟩ := (hrow.keep (fun j hj => hH.old j (by omega)) (by omega)).at_ hb
  obtain ⟨p, l4, hcl, hpl, hpb⟩ := clone_held (os := X0) (b := b.take z)
  have fw := hF X0 w b z (lookB_at hwl) (by omega) (by omega)
  rw [hcl] at fw
  obtain ⟨X4, hX4⟩ : ∃ X4, X4 = X0 ++ l4 := ⟨_, rfl⟩
  rw [← hX4] at fw hpb
  obtain ⟨bl, hbl'⟩ : ∃ bl, bl = (b.take z).length := ⟨_, rfl⟩
  obtain ⟨fb, hfb⟩ : ∃ fb, fb = decide (b.take z = []) := ⟨_, rfl⟩
  have hheld : heldV p (b.take z) = .slice (some (p, 0)) 1 bl bl fb := by unfold heldV; rw [← hbl', ← hfb]
  rw [hheld] at fw
  obtain ⟨x4, hx4⟩ : ∃ x4, X4.length = x4 := ⟨_, rfl⟩
  obtain ⟨X5, hX5⟩ : ∃ X5, X5 = X4 ++ [some (AObj.cells true [V.slice (some (p, 0)) 1 bl bl fb])] := ⟨_, rfl⟩
  have e5 : X5.length = x4 + 1 := by rw [hX5]; simp [hx4]
  have l4e : X4.length = X0.length + l4.length := by rw [hX4, List.length_append]
  have cl := cutsZ_len (z := z) (bss := bss) (k := i) (by omega)
  have sne : i ≠ 0 → cutsZ z bss i ≠ [] := fun h0 e => h0 (by have := congrArg List.length e; rw [cl] at this; exact this)
  obtain ⟨vs, hvs, hvl⟩ : ∃ vs, (cutsZ z bss i ≠ [] → (X0[r]?).join = some (.cells true vs)) ∧ vs.length = i := by
    by_cases h0 : i = 0
    · exact ⟨[], fun h => absurd (by rw [h0]; simp [cutsZ]) h, by rw [h0]; rfl⟩
    · obtain ⟨_, vs, h1, h2, _⟩ := hH.tb (sne h0)
      exact ⟨vs, fun _ => h1, by rw [h2, cl]⟩
  have hrl : i ≠ 0 → r < X0.length := fun h0 => join_lt (hvs (sne h0))
  have g5 := growVs (os := X5) (q := r) (n := i) (vs := vs) (v := V.slice (some (p, 0)) 1 bl bl fb) hvl.symm (by omega) (fun h0 => by
    have := hrl h0
    rw [hX5, join_app (by omega), hX4, join_app this]; exact hvs (sne h0))
  have hH6 := hH.next cl hvs hvl hX4 hpl hpb hX5 (X6 := Sp.setK i X5 r ++ [some (AObj.cells true (vs ++ [heldV p (b.take z)]))]) rfl
  rw [← cutsZ_succ hb] at hH6
  refine ⟨w, X4, X5, _, x4, p, bl, fb, X5.length, ldw, fw, by rw [hX5, ← hx4]; exact few_alloc X4 _, ?_, by rw [hheld]; exact g5, hH6⟩
  show sel (Nat.beq 1 1 && Nat.ble 1 1) ((few X5).loadN x4 0 (1 * 1)) none = _
  rw [loadN_few (own := true) (cs := [V.slice (some (p, 0)) 1 bl bl fb]) (by rw [hX5, ← hx4]; simp) (by simp)]
  rfl
theorem IF_withF {z : Nat} {call : CallT} {n g lf : Nat} {fn : AFunc} (h : IF z call n) (hne : n ≠ g) : IF z (Vabs.withF call g lf fn) n := fun st v bs x a b => by rw [withF_other hne]; exact h st v bs x a b

end Go.Vabs.Nc

namespace Go.Vabs.Nd
set_option linter.unusedVariables false
set_option linter.unusedSimpArgs false
set_option maxRecDepth 10000
attribute [local simp] wp_skip wp_ret wp_exit wp_reg wp_seq wp_cond wp_block thenQ_normal thenQ_ret thenQ_exit blockQ_normal blockQ_ret blockQ_exit wpCond_true wpCond_false wpOps_nil wpVal_some wpGuard_true wpGuard_false wpOps_guard wpOps_cons
  put_at put_no ev_c ev_slot posEq_h posEq_o posEq_i posEq_ho posEq_hi posEq_oh posEq_ih posEq_oi posEq_io sel_true sel_false
  okv_some step_mv step_call step_pick pickV_bool step_bin bin_add bin_sub bin_mul bin_eql bin_neq bin_lss bin_leq bin_gtr bin_geq bin_eqb bin_neb bin_eqs bin_nes step_un un_not un_neg step_len len_slice len_str len_const step_extract extractV nth step_convInt conv_int step_convStr step_slice step_idxAddr natOf_nat step_load step_index step_field step_fieldAddr step_build step_minmax
  step_alloc step_bslice bsliceV_some newV_some step_store step_append boolIs_b boolIs_t finQ_ret finQ_normal ressE_nil ressE_cons resE_tmp consO_some initE_nil initE_cons pos_0 pos_1 pos_2 pos_3 pos_4 pos_5 pos_6 pos_7 pos_8 plain_bool plain_int plain_str plain_ptr plain_slice plain_map plain_agg plain_func plain_nilFunc V.undef oneOf_one oneOf_two ble_self
open Go.Vabs.Pk Go.Vabs.Ph Go.Vabs.Sa Go.Vabs.Sb Go.Vabs.Sc Go.Vabs.Sd Go.Vabs.Se Go.Vabs.Sg Go.Vabs.Sh Go.Vabs.Sm Go.Vabs.Sn Go.Vabs.Sp Go.Vabs.Sr Go.Vabs.St Go.Vabs.Su Go.Vabs.L2 Go.Vabs.Na
attribute [local simp] step_nilchk nilchk_ptr step_box cells_int cells_bool cells_str cells_slice cells_ptr cells_agg fieldAddrV natOf_zero fill repN splice over newV step_appendZ
def RReadF (call : CallT) (g : Nat) : Prop := ∀ os F L, RFontMem os F L → Tame L → ∃ l, call g [.ptr (some (F, 0))] (few os) = some (.tuple [mV (readS L).1, .int .i64 (readS L).2], few (os ++ l))
def RRangeF (call : CallT) (g : Nat) : Prop := ∀ os F L (m : Met) (k : Int), RFontMem os F L → Tame L → ∃ l, call g [.ptr (some (F, 0)), mV m, .int .i64 k] (few os) = some (triV (rangeS L m k), few (os ++ l))
set_option maxHeartbeats 4000000 in
theorem RRead_run {call : CallT} {lf nT nN : Nat} (hT : RTableF call nT) (hN : NumF call nN) {os : List (Option AObj)} {F : Nat} {L : List Itm} (h : RFontMem os F L) (hL : Tame L) :
    ∃ l, enterF call lf [.ptr (some (F, 0))] (few os) (RRead_c nT nN) = some (.tuple [mV (readS L).1, .int .i64 (readS L).2], few (os ++ l)) := by
  have main := enter_wp (call := call) (lf := lf) (n := 75) (args := [.ptr (some (F, 0))]) (st := few os) (K := fun u st => (∃ l, st = few (os ++ l)) ∧ u = .tuple [mV (readS L).1, .int .i64 (readS L).2]) (c := (RRead_c nT nN).code) (rs := (RRead_c nT nN).results) ?_
  · obtain ⟨u, st', h1, ⟨l, rfl⟩, rfl⟩ := main
    exact ⟨l, h1⟩
  · unfold RRead_c
    dsimp only
    obtain ⟨N, hNe⟩ : ∃ N, N = os.length := ⟨_, rfl⟩
    obtain ⟨A, hA⟩ : ∃ A, A = os ++ [some (AObj.cells true [.int .i64 0, .int .i64 0, .bool false])] := ⟨_, rfl⟩
    have alA : (few os).alloc (.cells true [.int .i64 0, .int .i64 0, .bool false]) = some (N, few A) := by rw [hA, hNe]; exact few_alloc os _
    have hfA := h.keep (os' := A) (fun i hi => by rw [hA]; exact join_app hi)
    obtain ⟨v1, t1, p1, b1⟩ := ask_rfont hT hfA hL tHead
    have fin : ∀ (u n : Int) (y : Bool), ∃ l', storeV (few A) 3 (.ptr (some (N, 0))) (some [.int .i64 u, .int .i64 n, .bool y]) = some (V.undef, few (os ++ l')) ∧ loadV (few (os ++ l')) true 3 (.ptr (some (N, 0))) = some (.agg [.int .i64 u, .int .i64 n, .bool y]) := by
      intro u n y
      refine ⟨[some (AObj.cells true [.int .i64 u, .int .i64 n, .bool y])], ?_, ?_⟩
      · rw [hA, hNe]; exact storeNew rfl rfl
      · rw [loadAll (k := 3) (cs := [.int .i64 u, .int .i64 n, .bool y]) (own := true) ?_ rfl]
        rw [hNe]; simp
    have hnum : ∀ {v : V} {b : List Nat} (x : Int), bytesAt (few A) v = some b → b.length ≤ 140737488354000 → call nN [v, .int .i64 x, .int .i64 2] (few A) = some (.tuple [.int .i64 (nm b x 2 : Int), .bool (num b x 2).isSome], few A) := fun {v b} x hb hl => hN _ _ _ x 2 hb (by omega) (by omega)
    have ln1 := fun st' => len_bytes (st' := st') b1
    unfold readS
    cases ha : askL L tHead with
    | none =>
      rw [ha] at t1
      unfold tHead at t1
      obtain ⟨l', f1, f2⟩ := fin 0 0 false
      simp (disch := omega) [alA, t1, p1, resE_cell, f1, f2]
      exact ⟨⟨l', rfl⟩, rfl⟩
    | some hd =>
      obtain ⟨hdl, hdb⟩ := hL.ask ha
      rw [ha] at t1 ln1 b1
      unfold tHead at t1
      simp only [Option.getD_some] at ln1 b1
      have n1 := hnum 18 b1 hdl
      have n2 := hnum 50 b1 hdl
      obtain ⟨z, hz⟩ : ∃ z, z = hd.length := ⟨_, rfl⟩
      rw [← hz] at ln1
      obtain ⟨u, hu⟩ : ∃ u, u = nm hd 18 2 := ⟨_, rfl⟩
      obtain ⟨w, hw⟩ : ∃ w, w = nm hd 50 2 := ⟨_, rfl⟩
      rw [← hu] at n1
      rw [← hw] at n2
      dsimp only
      rw [← hz, ← hu, ← hw]
      by_cases c1 : z < 54
      · obtain ⟨l', f1, f2⟩ := fin 0 0 false
        rw [if_pos c1]
        simp (disch := omega) [alA, t1, p1, ln1, resE_cell, f1, f2, dlt_t, dlt_f, dle_t, dle_f, dltn_t, dltn_f, dlen_t, dlen_f, deq_t, deq_f, deqn_t, deqn_f]
        exact ⟨⟨l', rfl⟩, rfl⟩
      rw [if_neg c1]
      by_cases c2 : u < 16 ∨ 16384 < u ∨ 1 < w
      · obtain ⟨l', f1, f2⟩ := fin 0 0 false
        rw [if_pos c2]
        by_cases d1 : u < 16
        · simp (disch := omega) [alA, t1, p1, n1, n2, ln1, resE_cell, f1, f2, dlt_t, dlt_f, dle_t, dle_f, dltn_t, dltn_f, dlen_t, dlen_f, deq_t, deq_f, deqn_t, deqn_f]
          exact ⟨⟨l', rfl⟩, rfl⟩
        by_cases d2 : 16384 < u
        · simp (disch := omega) [alA, t1, p1, n1, n2, ln1, resE_cell, f1, f2, dlt_t, dlt_f, dle_t, dle_f, dltn_t, dltn_f, dlen_t, dlen_f, deq_t, deq_f, deqn_t, deqn_f]
          exact ⟨⟨l', rfl⟩, rfl⟩
        · simp (disch := omega) [alA, t1, p1, n1, n2, ln1, resE_cell, f1, f2, dlt_t, dlt_f, dle_t, dle_f, dltn_t, dltn_f, dlen_t, dlen_f, deq_t, deq_f, deqn_t, deqn_f]
          exact ⟨⟨l', rfl⟩, rfl⟩
      rw [if_neg c2]
      obtain ⟨v2, t2, p2, b2⟩ := ask_rfont hT hfA hL tMaxp
      cases hb : askL L tMaxp with
      | none =>
        rw [hb] at t2
        unfold tMaxp at t2
        obtain ⟨l', f1, f2⟩ := fin 0 0 false
        simp (disch := omega) [alA, t1, p1, n1, n2, ln1, resE_cell, f1, f2, dlt_t, dlt_f, dle_t, dle_f, dltn_t, dltn_f, dlen_t, dlen_f, deq_t, deq_f, deqn_t, deqn_f, t2, p2]
        exact ⟨⟨l', rfl⟩, rfl⟩
      | some mp =>
        obtain ⟨mpl, mpb⟩ := hL.ask hb
        rw [hb] at t2 b2
        unfold tMaxp at t2
        simp only [Option.getD_some] at b2
        have ln2 := fun st' => len_bytes (st' := st') b2
        obtain ⟨y, hy⟩ : ∃ y, y = mp.length := ⟨_, rfl⟩
        rw [← hy] at ln2
        have n3 := hnum 4 b2 mpl
        obtain ⟨n, hn⟩ : ∃ n, n = nm mp 4 2 := ⟨_, rfl⟩
        rw [← hn] at n3
        dsimp only
        rw [← hy, ← hn]
        by_cases c3 : y < 6
        · obtain ⟨l', f1, f2⟩ := fin 0 0 false
          rw [if_pos c3]
          simp (disch := omega) [alA, t1, p1, n1, n2, ln1, resE_cell, f1, f2, dlt_t, dlt_f, dle_t, dle_f, dltn_t, dltn_f, dlen_t, dlen_f, deq_t, deq_f, deqn_t, deqn_f, t2, p2, ln2]
          exact ⟨⟨l', rfl⟩, rfl⟩
        rw [if_neg c3]
        by_cases c4 : n = 0
        · obtain ⟨l', f1, f2⟩ := fin 0 0 false
          rw [if_pos c4]
          simp (disch := omega) [alA, t1, p1, n1, n2, ln1, resE_cell, f1, f2, dlt_t, dlt_f, dle_t, dle_f, dltn_t, dltn_f, dlen_t, dlen_f, deq_t, deq_f, deqn_t, deqn_f, t2, p2, n3, ln2]
          exact ⟨⟨l', rfl⟩, rfl⟩
        rw [if_neg c4]
        by_cases cw : w = 1
        · obtain ⟨l', f1, f2⟩ := fin u n true
          simp (disch := omega) [alA, t1, p1, n1, n2, ln1, resE_cell, f1, f2, dlt_t, dlt_f, dle_t, dle_f, dltn_t, dltn_f, dlen_t, dlen_f, deq_t, deq_f, deqn_t, deqn_f, t2, p2, n3, ln2]
          exact ⟨⟨l', rfl⟩, rfl⟩
        · obtain ⟨l', f1, f2⟩ := fin u n false
          simp (disch := omega) [alA, t1, p1, n1, n2, ln1, resE_cell, f1, f2, dlt_t, dlt_f, dle_t, dle_f, dltn_t, dltn_f, dlen_t, dlen_f, deq_t, deq_f, deqn_t, deqn_f, t2, p2, n3, ln2]
          exact ⟨⟨l', rfl⟩, rfl⟩
theorem RReadF.code {base : CallT} {g lf nT nN : Nat} (hT : RTableF base nT) (hN : NumF base nN) : RReadF (Vabs.withF base g lf (RRead_c nT nN)) g := fun os F L h1 h2 => by
  rw [withF_same]; exact RRead_run hT hN h1 h2
theorem RReadF.withF {call : CallT} {n g lf : Nat} {fn : AFunc} (h : RReadF call n) (hne : n ≠ g) : RReadF (Vabs.withF call g lf fn) n := fun os F L a b => by rw [withF_other hne]; exact h os F L a b
theorem RReadF.other {call : CallT} {n g : Nat} {l : List V → St → Option (V × St)} (h : RReadF call n) (hne : n ≠ g) : RReadF (withL call g l) n := fun os F L a b => by rw [withL_other hne]; exact h os F L a b
set_option maxHeartbeats 4000000 in
theorem RRange_run {call : CallT} {lf nT nN : Nat} (hT : RTableF call nT) (hN : NumF call nN) {os : List (Option AObj)} {F : Nat} {L : List Itm} {m : Met} {k : Int} (h : RFontMem os F L) (hL : Tame L) :
    ∃ l, enterF call lf [.ptr (some (F, 0)), mV m, .int .i64 k] (few os) (RRange_c nT nN) = some (triV (rangeS L m k), few (os ++ l)) := by
  obtain ⟨mu, mg, my⟩ := m
  have main := enter_wp (call := call) (lf := lf) (n := 87) (args := [.ptr (some (F, 0)), mV (mu, mg, my), .int .i64 k]) (st := few os) (K := fun u st => (∃ l, st = few (os ++ l)) ∧ u = triV (rangeS L (mu, mg, my) k)) (c := (RRange_c nT nN).code) (rs := (RRange_c nT nN).results) ?_
  · obtain ⟨u, st', h1, ⟨l, rfl⟩, rfl⟩ := main
    exact ⟨l, h1⟩
  · unfold RRange_c mV rangeS triV
    dsimp only
    obtain ⟨N, hNe⟩ : ∃ N, N = os.length := ⟨_, rfl⟩
    obtain ⟨A, hA⟩ : ∃ A, A = os ++ [some (AObj.cells true [.int .i64 mu, .int .i64 mg, .bool my])] := ⟨_, rfl⟩
    have alA : (few os).alloc (.cells true [.int .i64 mu, .int .i64 mg, .bool my]) = some (N, few A) := by rw [hA, hNe]; exact few_alloc os _
    have hAN : (A[N]?).join = some (AObj.cells true [.int .i64 mu, .int .i64 mg, .bool my]) := by rw [hA, hNe]; simp
    have m1 : loadV (few A) false 1 (.ptr (some (N, 1))) = some (.int .i64 mg) := (load_few hAN).trans rfl
    have m2 : loadV (few A) false 1 (.ptr (some (N, 2))) = some (.bool my) := (load_few hAN).trans rfl
    have hA0 : ∃ l', few A = few (os ++ l') := ⟨_, by rw [hA]⟩
    have hfA := h.keep (os' := A) (fun i hi => by rw [hA]; exact join_app hi)
    by_cases c0 : k < 0
    · rw [if_pos (.inl c0)]
      simp (disch := omega) [alA, m1, c0, dlt_t, dlt_f, dle_t, dle_f, dltn_t, dltn_f, dlen_t, dlen_f, deq_t, deq_f, deqn_t, deqn_f]
      exact hA0
    by_cases c1 : mg ≤ k
    · rw [if_pos (.inr c1)]
      simp (disch := omega) [alA, m1, c0, c1, dlt_t, dlt_f, dle_t, dle_f, dltn_t, dltn_f, dlen_t, dlen_f, deq_t, deq_f, deqn_t, deqn_f]
      exact hA0
    rw [if_neg (by omega)]
    obtain ⟨v1, t1, p1, b1⟩ := ask_rfont hT hfA hL tLoca
    obtain ⟨v2, t2, p2, b2⟩ := ask_rfont hT hfA hL tGlyf
    cases ha : askL L tLoca with
    | none =>
      rw [ha] at t1
      unfold tLoca at t1
      unfold tGlyf at t2
      dsimp only
      simp (disch := omega) [alA, m1, c0, c1, dlt_t, dlt_f, dle_t, dle_f, dltn_t, dltn_f, dlen_t, dlen_f, deq_t, deq_f, deqn_t, deqn_f, t1, p1, t2, p2]
      exact hA0
    | some lo =>
      obtain ⟨lol, lob⟩ := hL.ask ha
      rw [ha] at t1 b1
      unfold tLoca at t1
      simp only [Option.getD_some] at b1
      cases hb : askL L tGlyf with
      | none =>
        rw [hb] at t2
        unfold tGlyf at t2
        dsimp only
        simp (disch := omega) [alA, m1, c0, c1, dlt_t, dlt_f, dle_t, dle_f, dltn_t, dltn_f, dlen_t, dlen_f, deq_t, deq_f, deqn_t, deqn_f, t1, p1, t2, p2]
        exact hA0
      | some gl =>
        obtain ⟨gll, glb⟩ := hL.ask hb
        rw [hb] at t2 b2
        unfold tGlyf at t2
        simp only [Option.getD_some] at b2
        have ln1 := fun st' => len_bytes (st' := st') b1
        have ln2 := fun st' => len_bytes (st' := st') b2
        obtain ⟨z, hz⟩ : ∃ z, z = lo.length := ⟨_, rfl⟩
        obtain ⟨w, hw⟩ : ∃ w, w = gl.length := ⟨_, rfl⟩
        rw [← hz] at ln1
        rw [← hw] at ln2
        dsimp only
        rw [← hz, ← hw]
        by_cases c2 : (z : Int) < k
        · rw [if_pos c2]
          simp (disch := omega) [alA, m1, c0, c1, dlt_t, dlt_f, dle_t, dle_f, dltn_t, dltn_f, dlen_t, dlen_f, deq_t, deq_f, deqn_t, deqn_f, t1, p1, t2, p2, ln1, c2]
          exact hA0
        rw [if_neg c2]
        have hnum : ∀ (x : Int) (q : Nat), q ≤ 4 → call nN [v1, .int .i64 x, .int .i64 (q : Int)] (few A) = some (.tuple [.int .i64 (nm lo x q : Int), .bool (num lo x q).isSome], few A) := fun x q hq => hN _ _ _ x q b1 (by omega) hq
        have hlt : ∀ (x : Int) (q : Nat), q ≤ 4 → nm lo x q < 4294967296 := fun x q hq => num_le lob hq
        cases my with
        | true =>
          have ea := hnum (4 * k) 4 (by omega)
          have eb := hnum (4 * (k + 1)) 4 (by omega)
          have la := hlt (4 * k) 4 (by omega)
          have lb := hlt (4 * (k + 1)) 4 (by omega)
          simp only [if_true]
          obtain ⟨a0, ha0⟩ : ∃ a, a = nm lo (4 * k) 4 := ⟨_, rfl⟩
          obtain ⟨ya, hya⟩ : ∃ a, a = (num lo (4 * k) 4).isSome := ⟨_, rfl⟩
          rw [← ha0] at ea la ⊢
          rw [← hya] at ea
          have ea : call nN [v1, .int .i64 (4 * k), .int .i64 4] (few A) = some (.tuple [.int .i64 (a0 : Int), .bool ya], few A) := ea
          cases hB : num lo (4 * (k + 1)) 4 with
          | none =>
            obtain ⟨b0, hb0⟩ : ∃ a, a = nm lo (4 * (k + 1)) 4 := ⟨_, rfl⟩
            rw [← hb0, hB] at eb
            have eb : call nN [v1, .int .i64 (4 * (k + 1)), .int .i64 4] (few A) = some (.tuple [.int .i64 (b0 : Int), .bool false], few A) := eb
            simp (disch := omega) [alA, m1, m2, c0, c1, dlt_t, dlt_f, dle_t, dle_f, dltn_t, dltn_f, dlen_t, dlen_f, deq_t, deq_f, deqn_t, deqn_f, t1, p1, t2, p2, ln1, c2, ea, eb, wrap_i]
            exact hA0
          | some b0 =>
            have hb0 : nm lo (4 * (k + 1)) 4 = b0 := by unfold nm; rw [hB]; rfl
            rw [hb0] at lb
            rw [hb0, hB] at eb
            have eb : call nN [v1, .int .i64 (4 * (k + 1)), .int .i64 4] (few A) = some (.tuple [.int .i64 (b0 : Int), .bool true], few A) := eb
            dsimp only
            by_cases c3 : b0 * 1 < a0 * 1
            · rw [if_pos (.inl c3)]
              simp (disch := omega) [alA, m1, m2, c0, c1, dlt_t, dlt_f, dle_t, dle_f, dltn_t, dltn_f, dlen_t, dlen_f, deq_t, deq_f, deqn_t, deqn_f, t1, p1, t2, p2, ln1, c2, ea, eb, wrap_i]
              exact hA0
            by_cases c4 : w < b0 * 1
            · rw [if_pos (.inr c4)]
              simp (disch := omega) [alA, m1, m2, c0, c1, dlt_t, dlt_f, dle_t, dle_f, dltn_t, dltn_f, dlen_t, dlen_f, deq_t, deq_f, deqn_t, deqn_f, t1, p1, t2, p2, ln1, ln2, c2, ea, eb, wrap_i]
              exact hA0
            rw [if_neg (by omega)]
            simp (disch := omega) [alA, m1, m2, c0, c1, dlt_t, dlt_f, dle_t, dle_f, dltn_t, dltn_f, dlen_t, dlen_f, deq_t, deq_f, deqn_t, deqn_f, t1, p1, t2, p2, ln1, ln2, c2, ea, eb, wrap_i]
            exact hA0
        | false =>
          have ea := hnum (2 * k) 2 (by omega)
          have eb := hnum (2 * (k + 1)) 2 (by omega)
          have la := hlt (2 * k) 2 (by omega)
          have lb := hlt (2 * (k + 1)) 2 (by omega)
          simp only [Bool.false_eq_true, if_false]
          obtain ⟨a0, ha0⟩ : ∃ a, a = nm lo (2 * k) 2 := ⟨_, rfl⟩
          obtain ⟨ya, hya⟩ : ∃ a, a = (num lo (2 * k) 2).isSome := ⟨_, rfl⟩
          rw [← ha0] at ea la ⊢
          rw [← hya] at ea
          have ea : call nN [v1, .int .i64 (2 * k), .int .i64 2] (few A) = some (.tuple [.int .i64 (a0 : Int), .bool ya], few A) := ea
          cases hB : num lo (2 * (k + 1)) 2 with
          | none =>
            obtain ⟨b0, hb0⟩ : ∃ a, a = nm lo (2 * (k + 1)) 2 := ⟨_, rfl⟩
            rw [← hb0, hB] at eb
            have eb : call nN [v1, .int .i64 (2 * (k + 1)), .int .i64 2] (few A) = some (.tuple [.int .i64 (b0 : Int), .bool false], few A) := eb
            simp (disch := omega) [alA, m1, m2, c0, c1, dlt_t, dlt_f, dle_t, dle_f, dltn_t, dltn_f, dlen_t, dlen_f, deq_t, deq_f, deqn_t, deqn_f, t1, p1, t2, p2, ln1, c2, ea, eb, wrap_i]
            exact hA0
          | some b0 =>
            have hb0 : nm lo (2 * (k + 1)) 2 = b0 := by unfold nm; rw [hB]; rfl
            rw [hb0] at lb
            rw [hb0, hB] at eb
            have eb : call nN [v1, .int .i64 (2 * (k + 1)), .int .i64 2] (few A) = some (.tuple [.int .i64 (b0 : Int), .bool true], few A) := eb
            dsimp only
            by_cases c3 : b0 * 2 < a0 * 2
            · rw [if_pos (.inl c3)]
              simp (disch := omega) [alA, m1, m2, c0, c1, dlt_t, dlt_f, dle_t, dle_f, dltn_t, dltn_f, dlen_t, dlen_f, deq_t, deq_f, deqn_t, deqn_f, t1, p1, t2, p2, ln1, c2, ea, eb, wrap_i]
              exact hA0
            by_cases c4 : w < b0 * 2
            · rw [if_pos (.inr c4)]
              simp (disch := omega) [alA, m1, m2, c0, c1, dlt_t, dlt_f, dle_t, dle_f, dltn_t, dltn_f, dlen_t, dlen_f, deq_t, deq_f, deqn_t, deqn_f, t1, p1, t2, p2, ln1, ln2, c2, ea, eb, wrap_i]
              exact hA0
            rw [if_neg (by omega)]
            simp (disch := omega) [alA, m1, m2, c0, c1, dlt_t, dlt_f, dle_t, dle_f, dltn_t, dltn_f, dlen_t, dlen_f, deq_t, deq_f, deqn_t, deqn_f, t1, p1, t2, p2, ln1, ln2, c2, ea, eb, wrap_i]
            exact hA0
theorem RRangeF.code {base : CallT} {g lf nT nN : Nat} (hT : RTableF base nT) (hN : NumF base nN) : RRangeF (Vabs.withF base g lf (RRange_c nT nN)) g := fun os F L m k h1 h2 => by
  rw [withF_same]; exact RRange_run hT hN h1 h2
theorem RRangeF.withF {call : CallT} {n g lf : Nat} {fn : AFunc} (h : RRangeF call n) (hne : n ≠ g) : RRangeF (Vabs.withF call g lf fn) n := fun os F L m k a b => by rw [withF_other hne]; exact h os F L m k a b
theorem RRangeF.other {call : CallT} {n g : Nat} {l : List V → St → Option (V × St)} (h : RRangeF call n) (hne : n ≠ g) : RRangeF (withL call g l) n := fun os F L m k a b => by rw [withL_other hne]; exact h os F L m k a b

end Go.Vabs.Nd

namespace Go.Vabs.Ne
set_option linter.unusedVariables false
set_option linter.unusedSimpArgs false
set_option maxRecDepth 10000
def MetTellsRest (n_Pick : Nat) (n_Font : Nat) (n_open : Nat) (n_known : Nat) (n_Read : Nat) (n_RRead : Nat) (n_Range : Nat) (n_RRange : Nat) : ACode := (.seq (.reg [AOper.mk (some (.i (.i (.o (.o (.i (.i (.o .h)))))))) (.call n_Font [.t (.i (.i (.o (.i .h)))), .t (.o (.o (.i (.i .h))))]) none, AOper.mk (some (.o (.o (.i (.o (.i (.i (.o .h)))))))) (.call n_open [.t (.i (.i (.o (.o (.i (.i (.o .h)))))))]) none, AOper.mk (some (.i (.o (.i (.o (.i (.i (.o .h)))))))) (.extract (.t (.o (.o (.i (.o (.i (.i (.o .h)))))))) 0) none, AOper.mk (some (.o (.i (.i (.o (.i (.i (.o .h)))))))) (.extract (.t (.o (.o (.i (.o (.i (.i (.o .h)))))))) 1) none, AOper.mk (some (.i (.o (.o (.o (.o .h)))))) (.mv (.t (.i (.o (.i (.o (.i (.i (.o .h))))))))) none, AOper.mk (some (.o (.i (.o (.o (.o .h)))))) (.mv (.t (.o (.i (.i (.o (.i (.i (.o .h))))))))) none]) (.seq (.seq (.reg [AOper.mk (some (.o (.o (.o (.i (.i (.i (.o .h)))))))) (.bin .eql (.nils .ptr) (.t (.i (.o (.o (.o (.o .h)))))) (.c (.ptr none))) none, AOper.mk (some (.i (.o (.o (.i (.i (.i (.o .h)))))))) (.mv (.t (.o (.o (.o (.i (.i (.i (.o .h))))))))) none, AOper.mk (some (.i (.i (.o (.i (.i (.i (.o .h)))))))) (.bin .eql (.nils .ptr) (.t (.o (.i (.o (.o (.o .h)))))) (.c (.ptr none))) (some (.i (.o (.o (.i (.i (.i (.o .h)))))), false)), AOper.mk (some (.o (.o (.i (.i (.i (.i (.o .h)))))))) (.pick (.t (.i (.o (.o (.i (.i (.i (.o .h)))))))) (.c (.bool true)) (.t (.i (.i (.o (.i (.i (.i (.o .h))))))))) none]) (.cond (.t (.o (.o (.i (.i (.i (.i (.o .h)))))))) (.seq (.reg [AOper.mk (some (.i (.o (.i (.i (.i (.i (.o .h)))))))) (.call n_known []) none, AOper.mk (some (.o (.i (.i (.i (.i (.i (.o .h)))))))) (.mv (.t (.i (.o (.i (.i (.i (.i (.o .h))))))))) none, AOper.mk (some (.o (.o (.o (.o (.o (.o (.i .h)))))))) (.bin .eql (.nils .ptr) (.t (.i (.o (.o (.o (.o .h)))))) (.c (.ptr none))) (some (.o (.i (.i (.i (.i (.i (.o .h)))))), true)), AOper.mk (some (.i (.o (.o (.o (.o (.o (.i .h)))))))) (.pick (.t (.o (.i (.i (.i (.i (.i (.o .h)))))))) (.t (.o (.o (.o (.o (.o (.o (.i .h)))))))) (.c (.bool false))) none, AOper.mk (some (.o (.i (.o (.o (.o (.o (.i .h)))))))) (.mv (.t (.i (.o (.o (.o (.o (.o (.i .h))))))))) none, AOper.mk (some (.o (.o (.i (.o (.o (.o (.i .h)))))))) (.bin .eql (.nils .ptr) (.t (.o (.i (.o (.o (.o .h)))))) (.c (.ptr none))) (some (.o (.i (.o (.o (.o (.o (.i .h)))))), true)), AOper.mk (some (.i (.o (.i (.o (.o (.o (.i .h)))))))) (.pick (.t (.o (.i (.o (.o (.o (.o (.i .h)))))))) (.t (.o (.o (.i (.o (.o (.o (.i .h)))))))) (.c (.bool false))) none, AOper.mk (some (.i (.i (.i (.o .h))))) (.mv (.t (.i (.o (.i (.o (.o (.o (.i .h))))))))) none]) .ret) .skip)) (.seq (.reg [AOper.mk (some (.o (.o (.o (.i (.o (.o (.i .h)))))))) (.call n_Read [.t (.i (.o (.o (.o (.o .h)))))]) none, AOper.mk (some (.i (.o (.o (.i (.o (.o (.i .h)))))))) (.extract (.t (.o (.o (.o (.i (.o (.o (.i .h)))))))) 0) none, AOper.mk (some (.o (.i (.o (.i (.o (.o (.i .h)))))))) (.extract (.t (.o (.o (.o (.i (.o (.o (.i .h)))))))) 1) none, AOper.mk (some (.i (.i (.o (.o (.o .h)))))) (.alloc [.int .i64 (.ofNat 0), .int .i64 (.ofNat 0), .bool false]) none, AOper.mk none (.store 3 (.t (.i (.i (.o (.o (.o .h)))))) (.t (.i (.o (.o (.i (.o (.o (.i .h))))))))) none, AOper.mk (some (.o (.o (.i (.o (.o .h)))))) (.mv (.t (.o (.i (.o (.i (.o (.o (.i .h))))))))) none]) (.seq (.reg [AOper.mk (some (.i (.o (.i (.i (.o (.o (.i .h)))))))) (.call n_RRead [.t (.o (.i (.o (.o (.o .h)))))]) none, AOper.mk (some (.o (.i (.i (.i (.o (.o (.i .h)))))))) (.extract (.t (.i (.o (.i (.i (.o (.o (.i .h)))))))) 0) none, AOper.mk (some (.i (.i (.i (.i (.o (.o (.i .h)))))))) (.extract (.t (.i (.o (.i (.i (.o (.o (.i .h)))))))) 1) none, AOper.mk (some (.i (.o (.i (.o (.o .h)))))) (.alloc [.int .i64 (.ofNat 0), .int .i64 (.ofNat 0), .bool false]) none, AOper.mk none (.store 3 (.t (.i (.o (.i (.o (.o .h)))))) (.t (.o (.i (.i (.i (.o (.o (.i .h))))))))) none, AOper.mk (some (.o (.i (.i (.o (.o .h)))))) (.mv (.t (.i (.i (.i (.i (.o (.o (.i .h))))))))) none]) (.seq (.seq (.reg [AOper.mk (some (.o (.o (.o (.o (.i (.o (.i .h)))))))) (.call n_known []) none, AOper.mk (some (.i (.o (.o (.o (.i (.o (.i .h)))))))) (.un .not (.t (.o (.o (.o (.o (.i (.o (.i .h))))))))) none, AOper.mk (some (.o (.i (.o (.o (.i (.o (.i .h)))))))) (.mv (.t (.i (.o (.o (.o (.i (.o (.i .h))))))))) none, AOper.mk (some (.i (.o (.i (.o (.i (.o (.i .h)))))))) (.bin .neq (.val .int) (.t (.o (.o (.i (.o (.o .h)))))) (.t (.o (.i (.i (.o (.o .h))))))) (some (.o (.i (.o (.o (.i (.o (.i .h)))))), false)), AOper.mk (some (.o (.i (.i (.o (.i (.o (.i .h)))))))) (.pick (.t (.o (.i (.o (.o (.i (.o (.i .h)))))))) (.c (.bool true)) (.t (.i (.o (.i (.o (.i (.o (.i .h))))))))) none, AOper.mk (some (.i (.i (.i (.o (.i (.o (.i .h)))))))) (.mv (.t (.o (.i (.i (.o (.i (.o (.i .h))))))))) none, AOper.mk (some (.o (.o (.o (.i (.i (.o (.i .h)))))))) (.fieldAddr 0 (.t (.i (.i (.o (.o (.o .h))))))) (some (.i (.i (.i (.o (.i (.o (.i .h)))))), false)), AOper.mk (some (.i (.o (.o (.i (.i (.o (.i .h)))))))) (.load false 1 (.t (.o (.o (.o (.i (.i (.o (.i .h))))))))) (some (.i (.i (.i (.o (.i (.o (.i .h)))))), false)), AOper.mk (some (.o (.i (.o (.i (.i (.o (.i .h)))))))) (.fieldAddr 0 (.t (.i (.o (.i (.o (.o .h))))))) (some (.i (.i (.i (.o (.i (.o (.i .h)))))), false)), AOper.mk (some (.i (.i (.o (.i (.i (.o (.i .h)))))))) (.load false 1 (.t (.o (.i (.o (.i (.i (.o (.i .h))))))))) (some (.i (.i (.i (.o (.i (.o (.i .h)))))), false)), AOper.mk (some (.o (.o (.i (.i (.i (.o (.i .h)))))))) (.bin .neq (.val .int) (.t (.i (.o (.o (.i (.i (.o (.i .h)))))))) (.t (.i (.i (.o (.i (.i (.o (.i .h))))))))) (some (.i (.i (.i (.o (.i (.o (.i .h)))))), false)), AOper.mk (some (.i (.o (.i (.i (.i (.o (.i .h)))))))) (.pick (.t (.i (.i (.i (.o (.i (.o (.i .h)))))))) (.c (.bool true)) (.t (.o (.o (.i (.i (.i (.o (.i .h))))))))) none, AOper.mk (some (.o (.i (.i (.i (.i (.o (.i .h)))))))) (.mv (.t (.i (.o (.i (.i (.i (.o (.i .h))))))))) none, AOper.mk (some (.i (.i (.i (.i (.i (.o (.i .h)))))))) (.fieldAddr 1 (.t (.i (.i (.o (.o (.o .h))))))) (some (.o (.i (.i (.i (.i (.o (.i .h)))))), false)), AOper.mk (some (.o (.o (.o (.o (.o (.i (.i .h)))))))) (.load false 1 (.t (.i (.i (.i (.i (.i (.o (.i .h))))))))) (some (.o (.i (.i (.i (.i (.o (.i .h)))))), false)), AOper.mk (some (.i (.o (.o (.o (.o (.i (.i .h)))))))) (.fieldAddr 1 (.t (.i (.o (.i (.o (.o .h))))))) (some (.o (.i (.i (.i (.i (.o (.i .h)))))), false)), AOper.mk (some (.o (.i (.o (.o (.o (.i (.i .h)))))))) (.load false 1 (.t (.i (.o (.o (.o (.o (.i (.i .h))))))))) (some (.o (.i (.i (.i (.i (.o (.i .h)))))), false)), AOper.mk (some (.i (.i (.o (.o (.o (.i (.i .h)))))))) (.bin .neq (.val .int) (.t (.o (.o (.o (.o (.o (.i (.i .h)))))))) (.t (.o (.i (.o (.o (.o (.i (.i .h))))))))) (some (.o (.i (.i (.i (.i (.o (.i .h)))))), false)), AOper.mk (some (.o (.o (.i (.o (.o (.i (.i .h)))))))) (.pick (.t (.o (.i (.i (.i (.i (.o (.i .h)))))))) (.c (.bool true)) (.t (.i (.i (.o (.o (.o (.i (.i .h))))))))) none, AOper.mk (some (.i (.o (.i (.o (.o (.i (.i .h)))))))) (.mv (.t (.o (.o (.i (.o (.o (.i (.i .h))))))))) none, AOper.mk (some (.o (.i (.i (.o (.o (.i (.i .h)))))))) (.fieldAddr 2 (.t (.i (.i (.o (.o (.o .h))))))) (some (.i (.o (.i (.o (.o (.i (.i .h)))))), false)), AOper.mk (some (.i (.i (.i (.o (.o (.i (.i .h)))))))) (.load false 1 (.t (.o (.i (.i (.o (.o (.i (.i .h))))))))) (some (.i (.o (.i (.o (.o (.i (.i .h)))))), false)), AOper.mk (some (.o (.o (.o (.i (.o (.i (.i .h)))))))) (.fieldAddr 2 (.t (.i (.o (.i (.o (.o .h))))))) (some (.i (.o (.i (.o (.o (.i (.i .h)))))), false)), AOper.mk (some (.i (.o (.o (.i (.o (.i (.i .h)))))))) (.load false 1 (.t (.o (.o (.o (.i (.o (.i (.i .h))))))))) (some (.i (.o (.i (.o (.o (.i (.i .h)))))), false)), AOper.mk (some (.o (.i (.o (.i (.o (.i (.i .h)))))))) (.bin .neq (.val .bool) (.t (.i (.i (.i (.o (.o (.i (.i .h)))))))) (.t (.i (.o (.o (.i (.o (.i (.i .h))))))))) (some (.i (.o (.i (.o (.o (.i (.i .h)))))), false)), AOper.mk (some (.i (.i (.o (.i (.o (.i (.i .h)))))))) (.pick (.t (.i (.o (.i (.o (.o (.i (.i .h)))))))) (.c (.bool true)) (.t (.o (.i (.o (.i (.o (.i (.i .h))))))))) none]) (.cond (.t (.i (.i (.o (.i (.o (.i (.i .h)))))))) (.seq (.reg [AOper.mk (some (.i (.i (.i (.o .h))))) (.mv (.c (.bool false))) none]) .ret) .skip)) (.seq (.seq (.reg [AOper.mk (some (.o (.o (.i (.i (.o (.i (.i .h)))))))) (.mv (.t (.i (.i (.o .h))))) none]) (.cond (.t (.o (.o (.i (.i (.o (.i (.i .h)))))))) (.seq (.reg [AOper.mk (some (.i (.i (.i (.i (.o (.i (.i .h)))))))) (.call n_Pick [.t (.o (.i (.o .h))), .c (.int .i64 (.ofNat 20))]) none, AOper.mk (some (.i (.o (.o (.o (.i (.i (.i .h)))))))) (.build [.int .i64 (.ofNat 0), .int .i64 (.ofNat 0), .bool false] [(0, (1, .t .h)), (1, (1, .t (.i (.i (.i (.i (.o (.i (.i .h))))))))), (2, (1, .t (.o .h)))]) none, AOper.mk none (.store 3 (.t (.i (.o (.i (.o (.o .h)))))) (.t (.i (.o (.o (.o (.i (.i (.i .h))))))))) none]) (.reg [AOper.mk (some (.o (.o (.i (.o (.i (.i (.i .h)))))))) (.call n_Pick [.t (.o (.i (.o .h))), .c (.int .i64 (.ofNat 20))]) none, AOper.mk (some (.o (.i (.i (.o (.i (.i (.i .h)))))))) (.build [.int .i64 (.ofNat 0), .int .i64 (.ofNat 0), .bool false] [(0, (1, .t .h)), (1, (1, .t (.o (.o (.i (.o (.i (.i (.i .h))))))))), (2, (1, .t (.o .h)))]) none, AOper.mk none (.store 3 (.t (.i (.i (.o (.o (.o .h)))))) (.t (.o (.i (.i (.o (.i (.i (.i .h))))))))) none])) .skip)) (.seq (.seq (.reg [AOper.mk (some (.i (.i (.i (.o (.o .h)))))) (.mv (.c (.int .i64 (.negSucc 0)))) none]) (.block 5 (.loop (.seq (.seq (.reg [AOper.mk (some (.o (.o (.o (.i (.i (.i (.i .h)))))))) (.bin .lss (.val .int) (.t (.i (.i (.i (.o (.o .h)))))) (.c (.int .i64 (.ofNat 9)))) none]) (.cond (.t (.o (.o (.o (.i (.i (.i (.i .h)))))))) .skip (.exit 5))) (.seq (.block 6 (.seq (.reg [AOper.mk (some (.i (.o (.i (.i (.i (.i (.i .h)))))))) (.load true 3 (.t (.i (.i (.o (.o (.o .h))))))) none, AOper.mk (some (.i (.i (.i (.i (.i (.i (.i .h)))))))) (.call n_Range [.t (.i (.o (.o (.o (.o .h))))), .t (.i (.o (.i (.i (.i (.i (.i .h))))))), .t (.i (.i (.i (.o (.o .h)))))]) none, AOper.mk (some (.o (.o (.o (.o (.o (.o (.o (.o .h))))))))) (.extract (.t (.i (.i (.i (.i (.i (.i (.i .h)))))))) 0) none, AOper.mk (some (.i (.o (.o (.o (.o (.o (.o (.o .h))))))))) (.extract (.t (.i (.i (.i (.i (.i (.i (.i .h)))))))) 1) none, AOper.mk (some (.o (.i (.o (.o (.o (.o (.o (.o .h))))))))) (.extract (.t (.i (.i (.i (.i (.i (.i (.i .h)))))))) 2) none, AOper.mk (some (.o (.o (.o (.i (.o .h)))))) (.mv (.t (.o (.o (.o (.o (.o (.o (.o (.o .h)))))))))) none, AOper.mk (some (.i (.o (.o (.i (.o .h)))))) (.mv (.t (.i (.o (.o (.o (.o (.o (.o (.o .h)))))))))) none, AOper.mk (some (.o (.i (.o (.i (.o .h)))))) (.mv (.t (.o (.i (.o (.o (.o (.o (.o (.o .h)))))))))) none]) (.seq (.reg [AOper.mk (some (.i (.o (.i (.o (.o (.o (.o (.o .h))))))))) (.load true 3 (.t (.i (.o (.i (.o (.o .h))))))) none, AOper.mk (some (.i (.i (.i (.o (.o (.o (.o (.o .h))))))))) (.call n_RRange [.t (.o (.i (.o (.o (.o .h))))), .t (.i (.o (.i (.o (.o (.o (.o (.o .h)))))))), .t (.i (.i (.i (.o (.o .h)))))]) none, AOper.mk (some (.o (.o (.o (.i (.o (.o (.o (.o .h))))))))) (.extract (.t (.i (.i (.i (.o (.o (.o (.o (.o .h))))))))) 0) none, AOper.mk (some (.i (.o (.o (.i (.o (.o (.o (.o .h))))))))) (.extract (.t (.i (.i (.i (.o (.o (.o (.o (.o .h))))))))) 1) none, AOper.mk (some (.o (.i (.o (.i (.o (.o (.o (.o .h))))))))) (.extract (.t (.i (.i (.i (.o (.o (.o (.o (.o .h))))))))) 2) none, AOper.mk (some (.i (.i (.o (.i (.o .h)))))) (.mv (.t (.o (.o (.o (.i (.o (.o (.o (.o .h)))))))))) none, AOper.mk (some (.o (.o (.i (.i (.o .h)))))) (.mv (.t (.i (.o (.o (.i (.o (.o (.o (.o .h)))))))))) none, AOper.mk (some (.i (.o (.i (.i (.o .h)))))) (.mv (.t (.o (.i (.o (.i (.o (.o (.o (.o .h)))))))))) none]) (.seq (.reg [AOper.mk (some (.i (.o (.i (.i (.o (.o (.o (.o .h))))))))) (.bin .neq (.val .int) (.t (.o (.o (.o (.i (.o .h)))))) (.t (.i (.i (.o (.i (.o .h))))))) none, AOper.mk (some (.o (.i (.i (.i (.o (.o (.o (.o .h))))))))) (.mv (.t (.i (.o (.i (.i (.o (.o (.o (.o .h)))))))))) none, AOper.mk (some (.i (.o (.o (.o (.i (.o (.o (.o .h))))))))) (.bin .neq (.val .int) (.t (.i (.o (.o (.i (.o .h)))))) (.t (.o (.o (.i (.i (.o .h))))))) (some (.o (.i (.i (.i (.o (.o (.o (.o .h))))))), false)), AOper.mk (some (.o (.i (.o (.o (.i (.o (.o (.o .h))))))))) (.pick (.t (.o (.i (.i (.i (.o (.o (.o (.o .h))))))))) (.c (.bool true)) (.t (.i (.o (.o (.o (.i (.o (.o (.o .h)))))))))) none, AOper.mk (some (.i (.i (.o (.o (.i (.o (.o (.o .h))))))))) (.mv (.t (.o (.i (.o (.o (.i (.o (.o (.o .h)))))))))) none, AOper.mk (some (.o (.i (.i (.o (.i (.o (.o (.o .h))))))))) (.bin .neq (.val .int) (.t (.o (.i (.o (.i (.o .h)))))) (.t (.i (.o (.i (.i (.o .h))))))) (some (.i (.i (.o (.o (.i (.o (.o (.o .h))))))), false)), AOper.mk (some (.i (.i (.i (.o (.i (.o (.o (.o .h))))))))) (.pick (.t (.i (.i (.o (.o (.i (.o (.o (.o .h))))))))) (.c (.bool true)) (.t (.o (.i (.i (.o (.i (.o (.o (.o .h)))))))))) none]) (.cond (.t (.i (.i (.i (.o (.i (.o (.o (.o .h))))))))) (.seq (.reg [AOper.mk (some (.i (.i (.i (.o .h))))) (.mv (.c (.bool false))) none]) .ret) .skip))))) (.reg [AOper.mk (some (.o (.i (.o (.i (.i (.i (.i .h)))))))) (.bin .add (.val .int) (.t (.i (.i (.i (.o (.o .h)))))) (.c (.int .i64 (.ofNat 1)))) none, AOper.mk (some (.i (.i (.i (.o (.o .h)))))) (.mv (.t (.o (.i (.o (.i (.i (.i (.i .h))))))))) none])))))) (.seq (.reg [AOper.mk (some (.o (.i (.o (.i (.i (.o (.o (.o .h))))))))) (.load true 3 (.t (.i (.i (.o (.o (.o .h))))))) none, AOper.mk (some (.o (.o (.i (.i (.i (.o (.o (.o .h))))))))) (.call n_Range [.t (.i (.o (.o (.o (.o .h))))), .t (.o (.i (.o (.i (.i (.o (.o (.o .h)))))))), .t (.o (.i (.o .h)))]) none, AOper.mk (some (.i (.o (.i (.i (.i (.o (.o (.o .h))))))))) (.extract (.t (.o (.o (.i (.i (.i (.o (.o (.o .h))))))))) 0) none, AOper.mk (some (.o (.i (.i (.i (.i (.o (.o (.o .h))))))))) (.extract (.t (.o (.o (.i (.i (.i (.o (.o (.o .h))))))))) 1) none, AOper.mk (some (.i (.i (.i (.i (.i (.o (.o (.o .h))))))))) (.extract (.t (.o (.o (.i (.i (.i (.o (.o (.o .h))))))))) 2) none, AOper.mk (some (.o (.i (.i (.i (.o .h)))))) (.mv (.t (.i (.o (.i (.i (.i (.o (.o (.o .h)))))))))) none, AOper.mk (some (.i (.i (.i (.i (.o .h)))))) (.mv (.t (.o (.i (.i (.i (.i (.o (.o (.o .h)))))))))) none, AOper.mk (some (.o (.o (.o (.o (.i .h)))))) (.mv (.t (.i (.i (.i (.i (.i (.o (.o (.o .h)))))))))) none]) (.seq (.reg [AOper.mk (some (.o (.i (.o (.o (.o (.i (.o (.o .h))))))))) (.load true 3 (.t (.i (.o (.i (.o (.o .h))))))) none, AOper.mk (some (.o (.o (.i (.o (.o (.i (.o (.o .h))))))))) (.call n_RRange [.t (.o (.i (.o (.o (.o .h))))), .t (.o (.i (.o (.o (.o (.i (.o (.o .h)))))))), .t (.o (.i (.o .h)))]) none, AOper.mk (some (.i (.o (.i (.o (.o (.i (.o (.o .h))))))))) (.extract (.t (.o (.o (.i (.o (.o (.i (.o (.o .h))))))))) 0) none, AOper.mk (some (.o (.i (.i (.o (.o (.i (.o (.o .h))))))))) (.extract (.t (.o (.o (.i (.o (.o (.i (.o (.o .h))))))))) 1) none, AOper.mk (some (.i (.i (.i (.o (.o (.i (.o (.o .h))))))))) (.extract (.t (.o (.o (.i (.o (.o (.i (.o (.o .h))))))))) 2) none, AOper.mk (some (.i (.o (.o (.o (.i .h)))))) (.mv (.t (.i (.o (.i (.o (.o (.i (.o (.o .h)))))))))) none, AOper.mk (some (.o (.i (.o (.o (.i .h)))))) (.mv (.t (.o (.i (.i (.o (.o (.i (.o (.o .h)))))))))) none, AOper.mk (some (.i (.i (.o (.o (.i .h)))))) (.mv (.t (.i (.i (.i (.o (.o (.i (.o (.o .h)))))))))) none]) (.seq (.reg [AOper.mk (some (.o (.i (.o (.i (.o (.i (.o (.o .h))))))))) (.bin .eql (.val .int) (.t (.o (.i (.i (.i (.o .h)))))) (.t (.i (.o (.o (.o (.i .h))))))) none, AOper.mk (some (.i (.i (.o (.i (.o (.i (.o (.o .h))))))))) (.mv (.t (.o (.i (.o (.i (.o (.i (.o (.o .h)))))))))) none, AOper.mk (some (.o (.i (.i (.i (.o (.i (.o (.o .h))))))))) (.bin .eql (.val .int) (.t (.i (.i (.i (.i (.o .h)))))) (.t (.o (.i (.o (.o (.i .h))))))) (some (.i (.i (.o (.i (.o (.i (.o (.o .h))))))), true)), AOper.mk (some (.i (.i (.i (.i (.o (.i (.o (.o .h))))))))) (.pick (.t (.i (.i (.o (.i (.o (.i (.o (.o .h))))))))) (.t (.o (.i (.i (.i (.o (.i (.o (.o .h))))))))) (.c (.bool false))) none, AOper.mk (some (.o (.o (.o (.o (.i (.i (.o (.o .h))))))))) (.mv (.t (.i (.i (.i (.i (.o (.i (.o (.o .h)))))))))) none, AOper.mk (some (.i (.i (.o (.o (.i (.i (.o (.o .h))))))))) (.bin .eql (.val .int) (.t (.o (.o (.o (.o (.i .h)))))) (.t (.i (.i (.o (.o (.i .h))))))) (some (.o (.o (.o (.o (.i (.i (.o (.o .h))))))), true)), AOper.mk (some (.o (.o (.i (.o (.i (.i (.o (.o .h))))))))) (.pick (.t (.o (.o (.o (.o (.i (.i (.o (.o .h))))))))) (.t (.i (.i (.o (.o (.i (.i (.o (.o .h))))))))) (.c (.bool false))) none, AOper.mk (some (.i (.i (.i (.o .h))))) (.mv (.t (.o (.o (.i (.o (.i (.i (.o (.o .h)))))))))) none]) .ret))))))))))
def MetTellsSwitch (n_Few : Nat) (n_Pick : Nat) (n_Font : Nat) (n_open : Nat) (n_known : Nat) (n_Read : Nat) (n_RRead : Nat) (n_Range : Nat) (n_RRange : Nat) : ACode := (.seq (.seq (.reg [AOper.mk (some (.o (.i (.i (.o (.i (.o .h))))))) (.call n_Pick [.t (.o (.o .h)), .c (.int .i64 (.ofNat 12))]) none]) (.block 2 (.seq (.reg [AOper.mk (some (.o (.o (.o (.i (.i (.o .h))))))) (.bin .eql (.val .int) (.t (.o (.i (.i (.o (.i (.o .h))))))) (.c (.int .i64 (.ofNat 6)))) none, AOper.mk (some (.i (.i (.i (.o (.i (.o .h))))))) (.mv (.t (.o (.o (.o (.i (.i (.o .h)))))))) none]) (.cond (.t (.i (.i (.i (.o (.i (.o .h))))))) (.reg [AOper.mk (some (.i (.i (.o (.i (.i (.o .h))))))) (.idxAddr (.slice 1) (.t (.o (.o (.i (.i .h))))) (.c (.int .i64 (.ofNat 0)))) none, AOper.mk none (.store 1 (.t (.i (.i (.o (.i (.i (.o .h))))))) (.t (.i (.o .h)))) none]) (.seq (.reg [AOper.mk (some (.i (.o (.i (.i (.i (.o .h))))))) (.bin .eql (.val .int) (.t (.o (.i (.i (.o (.i (.o .h))))))) (.c (.int .i64 (.ofNat 7)))) none, AOper.mk (some (.o (.o (.i (.i (.i (.o .h))))))) (.mv (.t (.i (.o (.i (.i (.i (.o .h)))))))) none]) (.cond (.t (.o (.o (.i (.i (.i (.o .h))))))) (.reg [AOper.mk (some (.o (.o (.o (.o (.o (.i .h))))))) (.idxAddr (.slice 1) (.t (.o (.o (.i (.i .h))))) (.c (.int .i64 (.ofNat 1)))) none, AOper.mk none (.store 1 (.t (.o (.o (.o (.o (.o (.i .h))))))) (.t (.o (.i .h)))) none]) (.seq (.reg [AOper.mk (some (.o (.i (.o (.o (.o (.i .h))))))) (.bin .eql (.val .int) (.t (.o (.i (.i (.o (.i (.o .h))))))) (.c (.int .i64 (.ofNat 8)))) none, AOper.mk (some (.i (.o (.o (.o (.o (.i .h))))))) (.mv (.t (.o (.i (.o (.o (.o (.i .h)))))))) none]) (.cond (.t (.i (.o (.o (.o (.o (.i .h))))))) (.reg [AOper.mk (some (.i (.o (.i (.o (.o (.i .h))))))) (.idxAddr (.slice 1) (.t (.o (.o (.i (.i .h))))) (.c (.int .i64 (.ofNat 2)))) none, AOper.mk none (.store 1 (.t (.i (.o (.i (.o (.o (.i .h))))))) (.t (.i (.i .h)))) none]) (.seq (.reg [AOper.mk (some (.i (.i (.i (.o (.o (.i .h))))))) (.bin .eql (.val .int) (.t (.o (.i (.i (.o (.i (.o .h))))))) (.c (.int .i64 (.ofNat 9)))) none, AOper.mk (some (.o (.i (.i (.o (.o (.i .h))))))) (.mv (.t (.i (.i (.i (.o (.o (.i .h)))))))) none]) (.cond (.t (.o (.i (.i (.o (.o (.i .h))))))) (.seq (.reg [AOper.mk (some (.i (.o (.o (.i (.o (.i .h))))))) (.bin .quo (.val .int) (.t (.o (.o .h))) (.c (.int .i64 (.ofNat 12)))) none, AOper.mk (some (.o (.i (.o (.i (.o (.i .h))))))) (.call n_Pick [.t (.i (.o (.o (.i (.o (.i .h)))))), .c (.int .i64 (.ofNat 4))]) none, AOper.mk (some (.i (.o (.i (.i .h))))) (.mv (.t (.o (.i (.o (.i (.o (.i .h)))))))) none]) (.seq (.dreg [(AOper.mk (some (.i (.i (.o (.i (.o (.i .h))))))) (.bslice 1 0 [.str []] []) none, []), (AOper.mk (some (.o (.o (.i (.i (.o (.i .h))))))) (.mv (.t (.i (.i (.o (.i .h)))))) none, []), (AOper.mk (some (.i (.o (.i (.i (.o (.i .h))))))) (.mv (.t (.i (.o (.i (.i .h)))))) none, []), (AOper.mk (some (.o (.i (.i (.i (.o (.i .h))))))) (.slice (.slice 1) (.t (.o (.o (.i (.i (.o (.i .h))))))) none (some (.t (.i (.o (.i (.i (.o (.i .h)))))))) none) none, []), (AOper.mk (some (.i (.i (.i (.i (.o (.i .h))))))) (.append 1 16 (.t (.i (.i (.o (.i (.o (.i .h))))))) (.t (.o (.i (.i (.i (.o (.i .h)))))))) none, []), (AOper.mk (some (.o (.o (.o (.o (.i (.i .h))))))) (.mv (.t (.i (.i (.o (.i .h)))))) none, []), (AOper.mk (some (.i (.o (.o (.o (.i (.i .h))))))) (.mv (.t (.i (.o (.i (.i .h)))))) none, []), (AOper.mk (some (.o (.i (.o (.o (.i (.i .h))))))) (.bin .add (.val .int) (.t (.i (.o (.o (.o (.i (.i .h))))))) (.c (.int .i64 (.ofNat 1)))) none, []), (AOper.mk (some (.i (.i (.o (.o (.i (.i .h))))))) (.slice (.slice 1) (.t (.o (.o (.o (.o (.i (.i .h))))))) (some (.t (.o (.i (.o (.o (.i (.i .h)))))))) none none) none, []), (AOper.mk (some (.o (.o (.i (.o (.i (.i .h))))))) (.append 1 16 (.t (.i (.i (.i (.i (.o (.i .h))))))) (.t (.i (.i (.o (.o (.i (.i .h)))))))) none, []), (AOper.mk (some (.i (.i (.o (.i .h))))) (.mv (.t (.o (.o (.i (.o (.i (.i .h)))))))) none, [])]) (.dreg [(AOper.mk (some (.i (.o (.i (.o (.i (.i .h))))))) (.bslice 1 0 [.slice none 0 0 0 true] []) none, []), (AOper.mk (some (.o (.i (.i (.o (.i (.i .h))))))) (.mv (.t (.o (.o (.i (.i .h)))))) none, []), (AOper.mk (some (.i (.i (.i (.o (.i (.i .h))))))) (.mv (.t (.i (.o (.i (.i .h)))))) none, []), (AOper.mk (some (.o (.o (.o (.i (.i (.i .h))))))) (.slice (.slice 1) (.t (.o (.i (.i (.o (.i (.i .h))))))) none (some (.t (.i (.i (.i (.o (.i (.i .h)))))))) none) none, []), (AOper.mk (some (.i (.o (.o (.i (.i (.i .h))))))) (.append 1 24 (.t (.i (.o (.i (.o (.i (.i .h))))))) (.t (.o (.o (.o (.i (.i (.i .h)))))))) none, []), (AOper.mk (some (.o (.i (.o (.i (.i (.i .h))))))) (.mv (.t (.o (.o (.i (.i .h)))))) none, []), (AOper.mk (some (.i (.i (.o (.i (.i (.i .h))))))) (.mv (.t (.i (.o (.i (.i .h)))))) none, []), (AOper.mk (some (.o (.o (.i (.i (.i (.i .h))))))) (.bin .add (.val .int) (.t (.i (.i (.o (.i (.i (.i .h))))))) (.c (.int .i64 (.ofNat 1)))) none, []), (AOper.mk (some (.i (.o (.i (.i (.i (.i .h))))))) (.slice (.slice 1) (.t (.o (.i (.o (.i (.i (.i .h))))))) (some (.t (.o (.o (.i (.i (.i (.i .h)))))))) none none) none, []), (AOper.mk (some (.o (.i (.i (.i (.i (.i .h))))))) (.append 1 24 (.t (.i (.o (.o (.i (.i (.i .h))))))) (.t (.i (.o (.i (.i (.i (.i .h)))))))) none, []), (AOper.mk (some (.o (.o (.i (.i .h))))) (.mv (.t (.o (.i (.i (.i (.i (.i .h)))))))) none, [])]))) (.seq (.seq (.reg [AOper.mk (some (.o (.o (.o (.o (.o (.o (.o .h)))))))) (.bin .eql (.val .int) (.t (.o (.i (.i (.o (.i (.o .h))))))) (.c (.int .i64 (.ofNat 10)))) none, AOper.mk (some (.i (.i (.i (.i (.i (.i .h))))))) (.mv (.t (.o (.o (.o (.o (.o (.o (.o .h))))))))) none]) (.cond (.t (.i (.i (.i (.i (.i (.i .h))))))) .skip (.reg [AOper.mk (some (.i (.o (.o (.o (.o (.o (.o .h)))))))) (.bin .eql (.val .int) (.t (.o (.i (.i (.o (.i (.o .h))))))) (.c (.int .i64 (.ofNat 11)))) none, AOper.mk (some (.i (.i (.i (.i (.i (.i .h))))))) (.mv (.t (.i (.o (.o (.o (.o (.o (.o .h))))))))) none]))) (.cond (.t (.i (.i (.i (.i (.i (.i .h))))))) (.seq (.reg [AOper.mk (some (.o (.i (.i (.i .h))))) (.mv (.c (.int .i64 (.ofNat 0)))) none]) (.block 3 (.loop (.seq (.seq (.reg [AOper.mk (some (.o (.o (.i (.o (.o (.o (.o .h)))))))) (.len .slice (.t (.o (.o (.o .h))))) none, AOper.mk (some (.i (.o (.i (.o (.o (.o (.o .h)))))))) (.bin .lss (.val .int) (.t (.o (.i (.i (.i .h))))) (.t (.o (.o (.i (.o (.o (.o (.o .h))))))))) none, AOper.mk (some (.o (.i (.i (.o (.o (.o (.o .h)))))))) (.mv (.t (.i (.o (.i (.o (.o (.o (.o .h))))))))) none, AOper.mk (some (.o (.o (.o (.i (.o (.o (.o .h)))))))) (.bin .lss (.val .int) (.t (.o (.i (.i (.i .h))))) (.c (.int .i64 (.ofNat 3)))) (some (.o (.i (.i (.o (.o (.o (.o .h)))))), true)), AOper.mk (some (.i (.o (.o (.i (.o (.o (.o .h)))))))) (.pick (.t (.o (.i (.i (.o (.o (.o (.o .h)))))))) (.t (.o (.o (.o (.i (.o (.o (.o .h)))))))) (.c (.bool false))) none]) (.cond (.t (.i (.o (.o (.i (.o (.o (.o .h)))))))) .skip (.exit 3))) (.seq (.block 4 (.seq (.reg [AOper.mk (some (.o (.i (.i (.i (.o (.o (.o .h)))))))) (.idxAddr (.slice 1) (.t (.o (.o (.o .h)))) (.t (.o (.i (.i (.i .h)))))) none, AOper.mk (some (.i (.i (.i (.i (.o (.o (.o .h)))))))) (.load false 1 (.t (.o (.i (.i (.i (.o (.o (.o .h))))))))) none, AOper.mk (some (.o (.o (.o (.o (.i (.o (.o .h)))))))) (.call n_Pick [.t (.i (.i (.i (.i (.o (.o (.o .h))))))), .c (.int .i64 (.ofNat 3))]) none, AOper.mk (some (.i (.i (.i (.i .h))))) (.mv (.t (.o (.o (.o (.o (.i (.o (.o .h))))))))) none]) (.seq (.dreg [(AOper.mk (some (.i (.o (.o (.o (.i (.o (.o .h)))))))) (.mv (.t (.o (.o (.i (.i .h)))))) none, []), (AOper.mk (some (.o (.i (.o (.o (.i (.o (.o .h)))))))) (.mv (.t (.i (.i (.i (.i .h)))))) none, []), (AOper.mk (some (.i (.i (.o (.o (.i (.o (.o .h)))))))) (.idxAddr (.slice 1) (.t (.i (.o (.o (.o (.i (.o (.o .h)))))))) (.t (.o (.i (.o (.o (.i (.o (.o .h))))))))) none, []), (AOper.mk (some (.o (.o (.i (.o (.i (.o (.o .h)))))))) (.load false 1 (.t (.i (.i (.o (.o (.i (.o (.o .h))))))))) none, [7]), (AOper.mk (some (.i (.o (.i (.o (.i (.o (.o .h)))))))) (.mv (.t (.o (.o (.i (.i .h)))))) none, []), (AOper.mk (some (.o (.i (.i (.o (.i (.o (.o .h)))))))) (.mv (.t (.i (.i (.i (.i .h)))))) none, []), (AOper.mk (some (.i (.i (.i (.o (.i (.o (.o .h)))))))) (.idxAddr (.slice 1) (.t (.i (.o (.i (.o (.i (.o (.o .h)))))))) (.t (.o (.i (.i (.o (.i (.o (.o .h))))))))) none, []), (AOper.mk (some (.o (.o (.o (.i (.i (.o (.o .h)))))))) (.load false 1 (.t (.i (.i (.i (.o (.i (.o (.o .h))))))))) none, [3]), (AOper.mk (some (.i (.o (.o (.i (.i (.o (.o .h)))))))) (.len .slice (.t (.o (.o (.o (.i (.i (.o (.o .h))))))))) none, []), (AOper.mk (some (.o (.i (.o (.i (.i (.o (.o .h)))))))) (.call n_Few [.t (.o (.o (.i (.o (.i (.o (.o .h))))))), .t (.i (.o (.o (.i (.i (.o (.o .h)))))))]) none, []), (AOper.mk (some (.o (.o (.o (.o (.o .h)))))) (.mv (.t (.o (.i (.o (.i (.i (.o (.o .h))))))))) none, [])]) (.seq (.reg [AOper.mk (some (.o (.o (.i (.i (.i (.o (.o .h)))))))) (.len .slice (.t (.o (.o (.o (.o (.o .h))))))) none, AOper.mk (some (.i (.o (.i (.i (.i (.o (.o .h)))))))) (.bin .gtr (.val .int) (.t (.o (.o (.i (.i (.i (.o (.o .h)))))))) (.c (.int .i64 (.ofNat 0)))) none]) (.cond (.t (.i (.o (.i (.i (.i (.o (.o .h)))))))) (.seq (.reg [AOper.mk (some (.i (.o (.o (.o (.o (.i (.o .h)))))))) (.idxAddr (.slice 1) (.t (.o (.o (.o .h)))) (.t (.o (.i (.i (.i .h)))))) none, AOper.mk (some (.o (.i (.o (.o (.o (.i (.o .h)))))))) (.load false 1 (.t (.i (.o (.o (.o (.o (.i (.o .h))))))))) none, AOper.mk (some (.i (.i (.o (.o (.o (.i (.o .h)))))))) (.bin .quo (.val .int) (.t (.o (.i (.o (.o (.o (.i (.o .h)))))))) (.c (.int .i64 (.ofNat 3)))) none, AOper.mk (some (.i (.o (.i (.o (.o (.i (.o .h)))))))) (.len .slice (.t (.o (.o (.o (.o (.o .h))))))) none, AOper.mk (some (.o (.i (.i (.o (.o (.i (.o .h)))))))) (.call n_Pick [.t (.i (.i (.o (.o (.o (.i (.o .h))))))), .t (.i (.o (.i (.o (.o (.i (.o .h)))))))]) none, AOper.mk (some (.i (.i (.i (.o (.o (.i (.o .h)))))))) (.idxAddr (.slice 1) (.t (.o (.o (.o (.o (.o .h)))))) (.t (.o (.i (.i (.o (.o (.i (.o .h))))))))) none, AOper.mk (some (.o (.o (.o (.i (.o (.i (.o .h)))))))) (.load false 1 (.t (.i (.i (.i (.o (.o (.i (.o .h))))))))) none, AOper.mk (some (.o (.i (.o (.i (.o (.i (.o .h)))))))) (.bin .xor (.val .int) (.t (.o (.o (.o (.i (.o (.i (.o .h)))))))) (.t (.i (.o (.o .h))))) none, AOper.mk (some (.i (.i (.o (.i (.o (.i (.o .h)))))))) (.idxAddr (.slice 1) (.t (.o (.o (.o (.o (.o .h)))))) (.t (.o (.i (.i (.o (.o (.i (.o .h))))))))) none, AOper.mk none (.store 1 (.t (.i (.i (.o (.i (.o (.i (.o .h)))))))) (.t (.o (.i (.o (.i (.o (.i (.o .h))))))))) none]) (.reg [AOper.mk (some (.i (.i (.i (.i (.o (.i (.o .h)))))))) (.idxAddr (.slice 1) (.t (.o (.o (.i (.i .h))))) (.t (.i (.i (.i (.i .h)))))) none, AOper.mk none (.store 1 (.t (.i (.i (.i (.i (.o (.i (.o .h)))))))) (.t (.o (.o (.o (.o (.o .h))))))) none])) .skip))))) (.reg [AOper.mk (some (.i (.i (.o (.i (.o (.o (.o .h)))))))) (.bin .add (.val .int) (.t (.o (.i (.i (.i .h))))) (.c (.int .i64 (.ofNat 1)))) none, AOper.mk (some (.o (.i (.i (.i .h))))) (.mv (.t (.i (.i (.o (.i (.o (.o (.o .h))))))))) none])))))) .skip)))))))))))) (MetTellsRest n_Pick n_Font n_open n_known n_Read n_RRead n_Range n_RRange))
def MetricTells_c (n_Few : Nat) (n_Pick : Nat) (n_Base : Nat) (n_Font : Nat) (n_open : Nat) (n_known : Nat) (n_Read : Nat) (n_RRead : Nat) (n_Range : Nat) (n_RRange : Nat) : AFunc := AFunc.mk 308 (.seq (.reg [AOper.mk (some (.i (.i (.i (.o .h))))) (.mv (.c (.bool false))) none]) (.seq (.reg [AOper.mk (some (.o (.o (.o (.i .h))))) (.mv (.c (.slice none 0 0 0 true))) none]) (.seq (.seq (.reg [AOper.mk (some (.i (.o (.o (.i .h))))) (.mv (.c (.int .i64 (.ofNat 0)))) none]) (.block 0 (.loop (.seq (.seq (.reg [AOper.mk (some (.o (.i (.i (.o (.i .h)))))) (.len .slice (.t (.i .h))) none, AOper.mk (some (.i (.i (.i (.o (.i .h)))))) (.bin .lss (.val .int) (.t (.i (.o (.o (.i .h))))) (.t (.o (.i (.i (.o (.i .h))))))) none, AOper.mk (some (.o (.o (.o (.i (.i .h)))))) (.mv (.t (.i (.i (.i (.o (.i .h))))))) none, AOper.mk (some (.o (.i (.o (.i (.i .h)))))) (.bin .lss (.val .int) (.t (.i (.o (.o (.i .h))))) (.c (.int .i64 (.ofNat 6)))) (some (.o (.o (.o (.i (.i .h)))), true)), AOper.mk (some (.i (.i (.o (.i (.i .h)))))) (.pick (.t (.o (.o (.o (.i (.i .h)))))) (.t (.o (.i (.o (.i (.i .h)))))) (.c (.bool false))) none]) (.cond (.t (.i (.i (.o (.i (.i .h)))))) .skip (.exit 0))) (.seq (.block 1 (.reg [AOper.mk (some (.i (.o (.o (.o (.o (.o .h))))))) (.idxAddr (.slice 1) (.t (.i .h)) (.t (.i (.o (.o (.i .h)))))) none, AOper.mk (some (.o (.i (.o (.o (.o (.o .h))))))) (.load false 1 (.t (.i (.o (.o (.o (.o (.o .h)))))))) none, AOper.mk (some (.i (.i (.o (.o (.o (.o .h))))))) (.call n_Few [.t (.o (.i (.o (.o (.o (.o .h)))))), .c (.int .i64 (.ofNat 40))]) none, AOper.mk (some (.o (.o (.i (.o (.o (.o .h))))))) (.bslice 1 1 [.slice none 0 0 0 true] [(0, (1, .t (.i (.i (.o (.o (.o (.o .h))))))))]) none, AOper.mk (some (.i (.o (.i (.o (.o (.o .h))))))) (.append 1 24 (.t (.o (.o (.o (.i .h))))) (.t (.o (.o (.i (.o (.o (.o .h)))))))) none, AOper.mk (some (.o (.o (.o (.i .h))))) (.mv (.t (.i (.o (.i (.o (.o (.o .h)))))))) none])) (.reg [AOper.mk (some (.i (.o (.i (.i (.i .h)))))) (.bin .add (.val .int) (.t (.i (.o (.o (.i .h))))) (.c (.int .i64 (.ofNat 1)))) none, AOper.mk (some (.i (.o (.o (.i .h))))) (.mv (.t (.i (.o (.i (.i (.i .h))))))) none])))))) (.seq (.reg [AOper.mk (some (.i (.i (.i (.o (.o (.o .h))))))) (.call n_Pick [.t .h, .c (.int .i64 (.ofNat 3000))]) none, AOper.mk (some (.o (.o (.o (.i (.o (.o .h))))))) (.bin .add (.val .int) (.c (.int .i64 (.ofNat 16))) (.t (.i (.i (.i (.o (.o (.o .h)))))))) none, AOper.mk (some (.o (.i (.o (.i .h))))) (.mv (.t (.o (.o (.o (.i (.o (.o .h)))))))) none]) (.seq (.seq (.reg [AOper.mk (some (.o (.i (.o (.i (.o (.o .h))))))) (.bin .rem (.val .int) (.t .h) (.c (.int .i64 (.ofNat 9)))) none, AOper.mk (some (.i (.i (.o (.i (.o (.o .h))))))) (.bin .eql (.val .int) (.t (.o (.i (.o (.i (.o (.o .h))))))) (.c (.int .i64 (.ofNat 8)))) none]) (.cond (.t (.i (.i (.o (.i (.o (.o .h))))))) (.reg [AOper.mk (some (.i (.o (.i (.i (.o (.o .h))))))) (.call n_Pick [.t .h, .c (.int .i64 (.ofNat 65536))]) none, AOper.mk (some (.o (.i (.o (.i .h))))) (.mv (.t (.i (.o (.i (.i (.o (.o .h)))))))) none]) .skip)) (.seq (.reg [AOper.mk (some (.o (.i (.o (.o (.i (.o .h))))))) (.call n_Base [.t (.o (.i (.o (.i .h)))), .t (.o (.o (.o (.i .h)))), .t (.o .h)]) none, AOper.mk (some (.i (.i (.o (.o (.i (.o .h))))))) (.extract (.t (.o (.i (.o (.o (.i (.o .h))))))) 0) none, AOper.mk (some (.o (.o (.i (.o (.i (.o .h))))))) (.extract (.t (.o (.i (.o (.o (.i (.o .h))))))) 1) none, AOper.mk (some (.i (.i (.o (.i .h))))) (.mv (.t (.i (.i (.o (.o (.i (.o .h)))))))) none, AOper.mk (some (.o (.o (.i (.i .h))))) (.mv (.t (.o (.o (.i (.o (.i (.o .h)))))))) none]) (MetTellsSwitch n_Few n_Pick n_Font n_open n_known n_Read n_RRead n_Range n_RRange))))))) [.tmp (.i (.i (.i (.o .h))))]

attribute [local simp] wp_skip wp_ret wp_exit wp_reg wp_seq wp_cond wp_block thenQ_normal thenQ_ret thenQ_exit blockQ_normal blockQ_ret blockQ_exit wpCond_true wpCond_false wpOps_nil wpVal_some wpGuard_true wpGuard_false wpOps_guard wpOps_cons
  put_at put_no ev_c ev_slot posEq_h posEq_o posEq_i posEq_ho posEq_hi posEq_oh posEq_ih posEq_oi posEq_io sel_true sel_false
  okv_some step_mv step_call step_pick pickV_bool step_bin bin_add bin_sub bin_mul bin_eql bin_neq bin_lss bin_leq bin_gtr bin_geq bin_eqb bin_neb bin_eqs bin_nes step_un un_not un_neg step_len len_slice len_str len_const step_extract extractV nth step_convInt conv_int step_convStr step_slice step_idxAddr natOf_nat step_load step_index step_field step_fieldAddr step_build step_minmax
  step_alloc step_bslice bsliceV_some newV_some step_store step_append boolIs_b boolIs_t finQ_ret finQ_normal ressE_nil ressE_cons resE_tmp consO_some initE_nil initE_cons pos_0 pos_1 pos_2 pos_3 pos_4 pos_5 pos_6 pos_7 pos_8 plain_bool plain_int plain_str plain_ptr plain_slice plain_map plain_agg plain_func plain_nilFunc V.undef oneOf_one oneOf_two ble_self
open Go.Vabs.Pk Go.Vabs.Ph Go.Vabs.Sa Go.Vabs.Sb Go.Vabs.Sc Go.Vabs.Sd Go.Vabs.Se Go.Vabs.Sg Go.Vabs.Sh Go.Vabs.Sm Go.Vabs.Sn Go.Vabs.Sp Go.Vabs.Sr Go.Vabs.St Go.Vabs.Su Go.Vabs.L2 Go.Vabs.Na Go.Vabs.Nb Go.Vabs.Nc Go.Vabs.Nd
attribute [local simp] step_nilchk nilchk_ptr step_box cells_int cells_bool cells_str cells_slice cells_ptr cells_agg fieldAddrV natOf_zero fill repN splice over newV step_appendZ
  wp_dreg wpDs_nil wpDs_cons wantedE_none wantedE_some wpDGuard_true wpDGuard_lim wpDGuard_false wpDLim_true wpDVal_free wpDVal_lim back_limited next_limited limF_dir foot_load foot_convStr okAll_nil okAll_cons pastsOf nthP ahead few_next load_limited convStr_limited blt_dec okPair_dd okPair_dc okPair_cd okPair_cc anyIn_nil anyIn_same anyIn_cons meets_nil meets_nil'
theorem storeCell3 {os : List (Option AObj)} {C : Nat} {zs : List V} (h : (os[C]?).join = some (.cells true zs)) (hz : zs.length = 3) {a b : Int} {y : Bool} : storeV (few os) 3 (.ptr (some (C, 0))) (some [.int .i64 a, .int .i64 b, .bool y]) = some (V.undef, few (os.set C (some (.cells true [.int .i64 a, .int .i64 b, .bool y])))) := storeAll (k := 3) h hz rfl
set_option maxHeartbeats 8000000 in
theorem MetRest_run {call : CallT} {lf nP nF nO nR nS nK nG nH : Nat} (hlf : 20 ≤ lf) (hP : PickF call nP) (hF : FontF call nF) (hO : BothF call nO) (hR : ReadF call nR) (hS : RReadF call nS) (hK : ∀ st, call nK [] st = some (.bool true, st)) (hG : RangeF call nG) (hH : RRangeF call nH)
    {X : List (Option AObj)} {q r : Nat} {f1 f2 : Bool} {tags ts : List (List Nat)} {units ask : Int} {y raw : Bool} (hq : tags ≠ [] → ∃ own, (X[q]?).join = some (.cells own (strsV tags))) (hrow : RowsB X r ts) (hb1 : ∀ t ∈ tags, ∀ b ∈ t, b < 256) (hb2 : ∀ t ∈ ts, ∀ b ∈ t, b < 256) (hl1 : tags.length ≤ 64) (hl2 : ts.length ≤ 64) (hfl : ts.flatten.length ≤ 140737488352800)
    {s : Env} (s1 : s .h = .int .i64 units) (s2 : s (.o .h) = .bool y) (s3 : s (.o (.i (.o .h))) = .int .i64 ask) (s4 : s (.i (.i (.o .h))) = .bool raw) (s5 : s (.i (.i (.o (.i .h)))) = slT f1 q tags.length) (s6 : s (.o (.o (.i (.i .h)))) = slT f2 r ts.length) :
    wp call lf (MetTellsRest nP nF nO nK nR nS nG nH) s (few X) (finQ [ARes.tmp (.i (.i (.i (.o .h))))] fun u _ => u = .bool true) := by
  unfold MetTellsRest
  obtain ⟨u, Y, e1, k1, k2, k3⟩ := hF X q r f1 f2 tags ts hq hrow hb1 hb2 (by omega) (by omega) hfl
  obtain ⟨tq, htq⟩ : ∃ v, v = slT f1 q tags.length := ⟨_, rfl⟩
  obtain ⟨tr, htr⟩ : ∃ v, v = slT f2 r ts.length := ⟨_, rfl⟩
  rw [← htq, ← htr] at e1
  rw [← htq] at s5
  rw [← htr] at s6
  obtain ⟨zb, hg, hk, hzl⟩ : ∃ zb, u.good Y.length = true ∧ lookB (few Y).look u = some zb ∧ zb.length ≤ 140737488354000 := by
    cases hl : layS tags ts with
    | none =>
      rw [hl] at k3
      dsimp only at k3
      subst k3
      exact ⟨[], rfl, rfl, by simp⟩
    | some l =>
      rw [hl] at k3
      obtain ⟨p, rfl, hp, hpb⟩ := k3
      obtain ⟨h1, h2, h3⟩ := layS_lt hl hb1 hb2
      obtain ⟨g1, g2⟩ := lookB_own (f := false) hpb h3
      exact ⟨l, g1, g2, by omega⟩
  have hzb := bytesAt_lt (lookB_at hk)
  have hop := hO Y u zb hg hk hzl
  cases hf : fontS zb with
  | inl e =>
    rw [hf] at hop
    dsimp only at hop
    simp (disch := omega) [s1, s2, s3, s4, s5, s6, e1, hop, bin_eqptr2, hK]
  | inr L =>
    rw [hf] at hop
    obtain ⟨F, G, l1, hop, hfm, hrm⟩ := hop
    obtain ⟨hL64, hnd, hLx⟩ := fontS_ok hzb hf
    have ht : Tame L := ⟨hnd, hL64, fun x hx => ⟨by have := (hLx x hx).1; omega, (hLx x hx).2⟩⟩
    obtain ⟨Z, hZ⟩ : ∃ Z, Z = Y ++ l1 := ⟨_, rfl⟩
    rw [← hZ] at hop hfm hrm
    obtain ⟨l2, hrd⟩ := hR Z F L hfm ht
    obtain ⟨W, hW⟩ : ∃ W, W = Z ++ l2 := ⟨_, rfl⟩
    rw [← hW] at hrd
    have hWk : ∀ i, i < Z.length → (W[i]?).join = (Z[i]?).join := fun i hi => by rw [hW]; exact join_app hi
    obtain ⟨⟨⟨mu, mg, my⟩, me⟩, hme⟩ : ∃ m, m = readS L := ⟨_, rfl⟩
    rw [← hme] at hrd
    unfold mV at hrd
    dsimp only at hrd
    obtain ⟨C, hC⟩ : ∃ C, C = W.length := ⟨_, rfl⟩
    obtain ⟨W0, hW0⟩ : ∃ W0, W0 = W ++ [some (AObj.cells true [.int .i64 0, .int .i64 0, .bool false])] := ⟨_, rfl⟩
    have alW : (few W).alloc (.cells true [.int .i64 0, .int .i64 0, .bool false]) = some (C, few W0) := by rw [hW0, hC]; exact few_alloc W _
    obtain ⟨U, hU⟩ : ∃ U, U = W ++ [some (AObj.cells true [.int .i64 mu, .int .i64 mg, .bool my])] := ⟨_, rfl⟩
    have stW : storeV (few W0) 3 (.ptr (some (C, 0))) (some [.int .i64 mu, .int .i64 mg, .bool my]) = some (V.undef, few U) := by rw [hW0, hC, hU]; exact storeNew rfl rfl
    have hUk : ∀ i, i < W.length → (U[i]?).join = (W[i]?).join := fun i hi => by rw [hU]; exact join_app hi
    have hUl : U.length = C + 1 := by rw [hU, hC]; simp
    have hUC : (U[C]?).join = some (AObj.cells true [.int .i64 mu, .int .i64 mg, .bool my]) := by rw [hU, hC]; simp
    have hWl : Z.length ≤ W.length := by rw [hW, List.length_append]; omega
    obtain ⟨l3, hrs⟩ := hS U G L ((hrm.keep hWk).keep hUk) ht
    rw [← hme] at hrs
    unfold mV at hrs
    dsimp only at hrs
    obtain ⟨V1, hV1⟩ : ∃ V1, V1 = U ++ l3 := ⟨_, rfl⟩
    rw [← hV1] at hrs
    obtain ⟨E, hE⟩ : ∃ E, E = V1.length := ⟨_, rfl⟩
    obtain ⟨V2, hV2⟩ : ∃ V2, V2 = V1 ++ [some (AObj.cells true [.int .i64 0, .int .i64 0, .bool false])] := ⟨_, rfl⟩
    have alV : (few V1).alloc (.cells true [.int .i64 0, .int .i64 0, .bool false]) = some (E, few V2) := by rw [hV2, hE]; exact few_alloc V1 _
    obtain ⟨Q, hQ⟩ : ∃ Q, Q = V1 ++ [some (AObj.cells true [.int .i64 mu, .int .i64 mg, .bool my])] := ⟨_, rfl⟩
    have stV : storeV (few V2) 3 (.ptr (some (E, 0))) (some [.int .i64 mu, .int .i64 mg, .bool my]) = some (V.undef, few Q) := by rw [hV2, hE, hQ]; exact storeNew rfl rfl
    have hV1l : U.length ≤ V1.length := by rw [hV1, List.length_append]; omega
    have hQk : ∀ i, i < V1.length → (Q[i]?).join = (V1[i]?).join := fun i hi => by rw [hQ]; exact join_app hi
    have hVk : ∀ i, i < U.length → (V1[i]?).join = (U[i]?).join := fun i hi => by rw [hV1]; exact join_app hi
    have hQl : Q.length = E + 1 := by rw [hQ, hE]; simp
    have hQE : (Q[E]?).join = some (AObj.cells true [.int .i64 mu, .int .i64 mg, .bool my]) := by rw [hQ, hE]; simp
    have hQC : (Q[C]?).join = some (AObj.cells true [.int .i64 mu, .int .i64 mg, .bool my]) := by rw [hQk C (by omega), hVk C (by omega)]; exact hUC
    have hCE : C < E := by omega
    have a0 : loadV (few Q) false 1 (.ptr (some (C, 0))) = some (.int .i64 mu) := (load_few hQC).trans rfl
    have a1 : loadV (few Q) false 1 (.ptr (some (C, 1))) = some (.int .i64 mg) := (load_few hQC).trans rfl
    have a2 : loadV (few Q) false 1 (.ptr (some (C, 2))) = some (.bool my) := (load_few hQC).trans rfl
    have b0 : loadV (few Q) false 1 (.ptr (some (E, 0))) = some (.int .i64 mu) := (load_few hQE).trans rfl
    have b1 : loadV (few Q) false 1 (.ptr (some (E, 1))) = some (.int .i64 mg) := (load_few hQE).trans rfl
    have b2 : loadV (few Q) false 1 (.ptr (some (E, 2))) = some (.bool my) := (load_few hQE).trans rfl
    have hQZ : ∀ i, i < Z.length → (Q[i]?).join = (Z[i]?).join := fun i hi => by rw [hQk i (by omega), hVk i (by omega), hUk i (by omega), hWk i hi]
    -- the numbers that are asked with
    obtain ⟨c, hc⟩ : ∃ c, c = pickI ask 20 := ⟨_, rfl⟩
    have pk : ∀ st, call nP [.int .i64 ask, .int .i64 20] st = some (.int .i64 c, st) := fun st => by rw [hP _ _ _ (by omega) (by omega), hc]
    obtain ⟨Q1, hQ1⟩ : ∃ Q1, Q1 = Q.set E (some (AObj.cells true [.int .i64 units, .int .i64 c, .bool y])) := ⟨_, rfl⟩
    have st1 : storeV (few Q) 3 (.ptr (some (E, 0))) (some [.int .i64 units, .int .i64 c, .bool y]) = some (V.undef, few Q1) := by rw [hQ1]; exact storeCell3 hQE rfl
    obtain ⟨Q2, hQ2⟩ : ∃ Q2, Q2 = Q1.set C (some (AObj.cells true [.int .i64 units, .int .i64 c, .bool y])) := ⟨_, rfl⟩
    have st2 : storeV (few Q1) 3 (.ptr (some (C, 0))) (some [.int .i64 units, .int .i64 c, .bool y]) = some (V.undef, few Q2) := by rw [hQ2]; exact storeCell3 (zs := [.int .i64 mu, .int .i64 mg, .bool my]) (by rw [hQ1, join_set (by omega)]; exact hQC) rfl
    cases raw with
    | true =>
      have hC' : (Q2[C]?).join = some (AObj.cells true [.int .i64 units, .int .i64 c, .bool y]) := by rw [hQ2, join_set_same (by rw [hQ1, List.length_set]; omega)]
      have hE' : (Q2[E]?).join = some (AObj.cells true [.int .i64 units, .int .i64 c, .bool y]) := by rw [hQ2, join_set (by omega), hQ1, join_set_same (by omega)]
      have hK' : ∀ i, i < Z.length → (Q2[i]?).join = (Z[i]?).join := fun i hi => by rw [hQ2, join_set (by omega), hQ1, join_set (by omega), hQZ i hi]
      simp (disch := omega) [s1, s2, s3, s4, s5, s6, e1, hop, bin_eqptr, hK, hrd, alW, stW, hrs, alV, stV, a0, a1, a2, b0, b1, b2, bin_neb, pk, st1, st2]
      have loads : ∀ l, loadV (few (Q2 ++ l)) true 3 (.ptr (some (C, 0))) = some (.agg [.int .i64 units, .int .i64 c, .bool y]) ∧ loadV (few (Q2 ++ l)) true 3 (.ptr (some (E, 0))) = some (.agg [.int .i64 units, .int .i64 c, .bool y]) := fun l =>
        ⟨loadAll (by rw [join_app (join_lt hC')]; exact hC') rfl, loadAll (by rw [join_app (join_lt hE')]; exact hE') rfl⟩
      have ranges : ∀ (l : List (Option AObj)) (k : Int), ∃ l', call nG [.ptr (some (F, 0)), .agg [.int .i64 units, .int .i64 c, .bool y], .int .i64 k] (few (Q2 ++ l)) = some (triV (rangeS L (units, c, y) k), few (Q2 ++ l')) := fun l k => by
        obtain ⟨l', h⟩ := hG (Q2 ++ l) F L (units, c, y) k ((hfm.keep hK').keep fun i hi => join_app hi) ht
        exact ⟨l ++ l', by rw [← List.append_assoc]; exact h⟩
      have rranges : ∀ (l : List (Option AObj)) (k : Int), ∃ l', call nH [.ptr (some (G, 0)), .agg [.int .i64 units, .int .i64 c, .bool y], .int .i64 k] (few (Q2 ++ l)) = some (triV (rangeS L (units, c, y) k), few (Q2 ++ l')) := fun l k => by
        obtain ⟨l', h⟩ := hH (Q2 ++ l) G L (units, c, y) k ((hrm.keep hK').keep fun i hi => join_app hi) ht
        exact ⟨l ++ l', by rw [← List.append_assoc]; exact h⟩
      refine wp_loop (fun k s st => ∃ (j : Nat) (l' : List (Option AObj)), j + k = 10 ∧ st = few (Q2 ++ l') ∧ s (.i (.o (.o (.o (.o .h))))) = .ptr (some (F, 0)) ∧ s (.o (.i (.o (.o (.o .h))))) = .ptr (some (G, 0)) ∧ s (.i (.i (.o (.o (.o .h))))) = .ptr (some (C, 0)) ∧ s (.i (.o (.i (.o (.o .h))))) = .ptr (some (E, 0)) ∧ s (.o (.i (.o .h))) = .int .i64 ask ∧ s (.i (.i (.i (.o (.o .h))))) = .int .i64 ((j : Int) - 1)) 10 ?_ (by omega) ?_
      · refine ⟨0, [], by omega, by rw [List.append_nil], ?_, ?_, ?_, ?_, ?_, ?_⟩ <;> simp [s3]
      · rintro k s st ⟨j, l', hk, rfl, z1, z2, z3, z4, z5, z6⟩
        cases k with
        | zero =>
          have hj : ¬ ((j : Int) - 1 < 9) := by omega
          obtain ⟨n1, n2⟩ := loads l'
          obtain ⟨l2', g1⟩ := ranges l' ask
          obtain ⟨n3, n4⟩ := loads l2'
          obtain ⟨l3', g2⟩ := rranges l2' ask
          obtain ⟨⟨x1, x2, x3⟩, hx⟩ : ∃ x, x = rangeS L (units, c, y) ask := ⟨_, rfl⟩
          rw [← hx] at g1 g2
          unfold triV at g1 g2
          dsimp only at g1 g2
          simp (disch := omega) [z1, z2, z3, z4, z5, z6, hj, n1, g1, n4, g2]
        | succ k =>
          have hj : (j : Int) - 1 < 9 := by omega
          obtain ⟨n1, n2⟩ := loads l'
          obtain ⟨l2', g1⟩ := ranges l' ((j : Int) - 1)
          obtain ⟨n3, n4⟩ := loads l2'
          obtain ⟨l3', g2⟩ := rranges l2' ((j : Int) - 1)
          obtain ⟨⟨x1, x2, x3⟩, hx⟩ : ∃ x, x = rangeS L (units, c, y) ((j : Int) - 1) := ⟨_, rfl⟩
          rw [← hx] at g1 g2
          unfold triV at g1 g2
          dsimp only at g1 g2
          simp (disch := omega) [z1, z2, z3, z4, z5, z6, hj, n1, g1, n4, g2, wrap_i]
          exact ⟨k, by omega, j + 1, by omega, ⟨l3', rfl⟩, by omega⟩
    | false =>
      have hC' := hQC
      have hE' := hQE
      have hK' := hQZ
      simp (disch := omega) [s1, s2, s3, s4, s5, s6, e1, hop, bin_eqptr, hK, hrd, alW, stW, hrs, alV, stV, a0, a1, a2, b0, b1, b2, bin_neb, pk, st1, st2]
      have loads : ∀ l, loadV (few (Q ++ l)) true 3 (.ptr (some (C, 0))) = some (.agg [.int .i64 mu, .int .i64 mg, .bool my]) ∧ loadV (few (Q ++ l)) true 3 (.ptr (some (E, 0))) = some (.agg [.int .i64 mu, .int .i64 mg, .bool my]) := fun l =>
        ⟨loadAll (by rw [join_app (join_lt hC')]; exact hC') rfl, loadAll (by rw [join_app (join_lt hE')]; exact hE') rfl⟩
      have ranges : ∀ (l : List (Option AObj)) (k : Int), ∃ l', call nG [.ptr (some (F, 0)), .agg [.int .i64 mu, .int .i64 mg, .bool my], .int .i64 k] (few (Q ++ l)) = some (triV (rangeS L (mu, mg, my) k), few (Q ++ l')) := fun l k => by
        obtain ⟨l', h⟩ := hG (Q ++ l) F L (mu, mg, my) k ((hfm.keep hK').keep fun i hi => join_app hi) ht
        exact ⟨l ++ l', by rw [← List.append_assoc]; exact h⟩
      have rranges : ∀ (l : List (Option AObj)) (k : Int), ∃ l', call nH [.ptr (some (G, 0)), .agg [.int .i64 mu, .int .i64 mg, .bool my], .int .i64 k] (few (Q ++ l)) = some (triV (rangeS L (mu, mg, my) k), few (Q ++ l')) := fun l k => by
        obtain ⟨l', h⟩ := hH (Q ++ l) G L (mu, mg, my) k ((hrm.keep hK').keep fun i hi => join_app hi) ht
        exact ⟨l ++ l', by rw [← List.append_assoc]; exact h⟩
      refine wp_loop (fun k s st => ∃ (j : Nat) (l' : List (Option AObj)), j + k = 10 ∧ st = few (Q ++ l') ∧ s (.i (.o (.o (.o (.o .h))))) = .ptr (some (F, 0)) ∧ s (.o (.i (.o (.o (.o .h))))) = .ptr (some (G, 0)) ∧ s (.i (.i (.o (.o (.o .h))))) = .ptr (some (C, 0)) ∧ s (.i (.o (.i (.o (.o .h))))) = .ptr (some (E, 0)) ∧ s (.o (.i (.o .h))) = .int .i64 ask ∧ s (.i (.i (.i (.o (.o .h))))) = .int .i64 ((j : Int) - 1)) 10 ?_ (by omega) ?_
      · refine ⟨0, [], by omega, by rw [List.append_nil], ?_, ?_, ?_, ?_, ?_, ?_⟩ <;> simp [s3]
      · rintro k s st ⟨j, l', hk, rfl, z1, z2, z3, z4, z5, z6⟩
        cases k with
        | zero =>
          have hj : ¬ ((j : Int) - 1 < 9) := by omega
          obtain ⟨n1, n2⟩ := loads l'
          obtain ⟨l2', g1⟩ := ranges l' ask
          obtain ⟨n3, n4⟩ := loads l2'
          obtain ⟨l3', g2⟩ := rranges l2' ask
          obtain ⟨⟨x1, x2, x3⟩, hx⟩ : ∃ x, x = rangeS L (mu, mg, my) ask := ⟨_, rfl⟩
          rw [← hx] at g1 g2
          unfold triV at g1 g2
          dsimp only at g1 g2
          simp (disch := omega) [z1, z2, z3, z4, z5, z6, hj, n1, g1, n4, g2]
        | succ k =>
          have hj : (j : Int) - 1 < 9 := by omega
          obtain ⟨n1, n2⟩ := loads l'
          obtain ⟨l2', g1⟩ := ranges l' ((j : Int) - 1)
          obtain ⟨n3, n4⟩ := loads l2'
          obtain ⟨l3', g2⟩ := rranges l2' ((j : Int) - 1)
          obtain ⟨⟨x1, x2, x3⟩, hx⟩ : ∃ x, x = rangeS L (mu, mg, my) ((j : Int) - 1) := ⟨_, rfl⟩
          rw [← hx] at g1 g2
          unfold triV at g1 g2
          dsimp only at g1 g2
          simp (disch := omega) [z1, z2, z3, z4, z5, z6, hj, n1, g1, n4, g2, wrap_i]
          exact ⟨k, by omega, j + 1, by omega, ⟨l3', rfl⟩, by omega⟩
theorem lookB_id {l l' : Sight} {v : V} (h : ∀ i ∈ idOf v, l' i = l i) {b : List Nat} (hb : lookB l v = some b) : lookB l' v = some b := by
  unfold lookB at hb ⊢
  split at hb
  · exact hb
  · rename_i i o n c f
    rw [h i (List.mem_singleton.2 rfl)]
    exact hb
  · cases hb
theorem look_set {X : List (Option AObj)} {r : Nat} {o : Option AObj} {i : Nat} (h : i ≠ r) : (few (X.set r o)).look i = (few X).look i := by
  unfold St.look
  rw [few_next, few_next, List.length_set, few_get, few_get, join_set (fun e => h e.symm)]
theorem lookB_set {X : List (Option AObj)} {r : Nat} {o : Option AObj} {v : V} {b : List Nat} (h : lookB (few X).look v = some b) (hid : ∀ i ∈ idOf v, i ≠ r) : lookB (few (X.set r o)).look v = some b := by
  exact lookB_id (fun i hi => look_set (hid i hi)) h
/-- Four tables, one's own list of them; what was there before stays. -/
structure Four (N : Nat) (os X : List (Option AObj)) (q r : Nat) (vs : List V) (ts : List (List Nat)) : Prop where
  old : ∀ i, i < N → (X[i]?).join = (os[i]?).join
  le : N ≤ X.length
  tg : (X[q]?).join = some (.cells true (strsV baseTags))
  tb : (X[r]?).join = some (.cells true vs)
  vl : vs.length = 4
  tl : ts.length = 4
  sh : ∀ (j : Nat) (v : V) (b : List Nat), vs[j]? = some v → ts[j]? = some b → v.good X.length = true ∧ lookB (few X).look v = some b ∧ v.plain = true ∧ ∀ i ∈ idOf v, i ≠ r
  lt : ∀ t ∈ ts, ∀ b ∈ t, b < 256
  lo : N ≤ r ∧ q ≠ r
theorem Four.rows {N : Nat} {os X : List (Option AObj)} {q r : Nat} {vs : List V} {ts : List (List Nat)} (h : Four N os X q r vs ts) : RowsB X r ts := rows_own h.tb (by rw [h.vl, h.tl]) fun j v b a c => ⟨(h.sh j v b a c).1, (h.sh j v b a c).2.1⟩
theorem Four.keep {N : Nat} {os X Y : List (Option AObj)} {q r : Nat} {vs : List V} {ts : List (List Nat)} (h : Four N os X q r vs ts) (he : ∀ i, i < X.length → (Y[i]?).join = (X[i]?).join) (hl : X.length ≤ Y.length) : Four N os Y q r vs ts :=
  ⟨fun i hi => by rw [he i (by have := h.le; omega), h.old i hi], by have := h.le; omega, by rw [he q (join_lt h.tg)]; exact h.tg, by rw [he r (join_lt h.tb)]; exact h.tb, h.vl, h.tl, fun j v b a c => by
    obtain ⟨g1, g2, g3, g4⟩ := h.sh j v b a c
    exact ⟨V.good_le hl g1, lookB_mono (sight_keep he hl) g2, g3, g4⟩, h.lt, h.lo⟩
/-- A table is put in another one's place. -/
theorem Four.put {N : Nat} {os X : List (Option AObj)} {q r : Nat} {vs : List V} {ts : List (List Nat)} (h : Four N os X q r vs ts) {k : Nat} (hk : k < 4) {v : V} {b : List Nat} (hv : v.good X.length = true ∧ lookB (few X).look v = some b ∧ v.plain = true ∧ ∀ i ∈ idOf v, i ≠ r) (hb : ∀ x ∈ b, x < 256) (hc : v.cells = some [v]) :
    storeV (few X) 1 (.ptr (some (r, k))) (some [v]) = some (V.undef, few (X.set r (some (.cells true (vs.set k v))))) ∧ Four N os (X.set r (some (.cells true (vs.set k v)))) q r (vs.set k v) (ts.set k b) := by
  have hlo := h.lo
  constructor
  · have ho : ownAt X r = some vs := by rw [ownAt_eq, h.tb]
    rw [store_fewC, ho, storeC_some, if_pos (show [v].length = 1 from rfl), splice_one (by rw [h.vl]; exact hk)]
  · refine ⟨fun i hi => by rw [join_set (by omega), h.old i hi], by rw [List.length_set]; exact h.le, by rw [join_set (fun e => hlo.2 e.symm)]; exact h.tg, by rw [join_set_same (join_lt h.tb)], by rw [List.length_set]; exact h.vl, by rw [List.length_set]; exact h.tl, fun j w c hw hc' => ?_, fun t ht => ?_, hlo⟩
    · rw [List.length_set]
      by_cases hj : k = j
      · subst hj
        rw [List.getElem?_set_self (by rw [h.vl]; exact hk)] at hw
        rw [List.getElem?_set_self (by rw [h.tl]; exact hk)] at hc'
        cases hw
        cases hc'
        exact ⟨hv.1, lookB_set hv.2.1 hv.2.2.2, hv.2.2.1, hv.2.2.2⟩
      · rw [List.getElem?_set_ne hj] at hw hc'
        obtain ⟨g1, g2, g3, g4⟩ := h.sh j w c hw hc'
        exact ⟨g1, lookB_set g2 g4, g3, g4⟩
    · rcases List.mem_or_eq_of_mem_set ht with ht | rfl
      · exact h.lt t ht
      · exact hb
theorem idOf_one {v : V} {i : Nat} (h : i ∈ idOf v) : idOf v = [i] := by
  cases v with
  | slice a e n c f =>
    cases a with
    | none => cases h
    | some p => rw [List.mem_singleton.1 h]; rfl
  | ptr a =>
    cases a with
    | none => cases h
    | some p => rw [List.mem_singleton.1 h]; rfl
  | map a =>
    cases a with
    | none => cases h
    | some p => rw [List.mem_singleton.1 h]; rfl
  | _ => cases h
theorem four_base {os X : List (Option AObj)} {u : Nat} {y : Bool} {gs : List (List Nat)} {v : V} (h : BasePost os u y gs v X) (hg : ∀ g ∈ gs, ∀ b ∈ g, b < 256) : ∃ q r vs, v = .tuple [.slice (some (q, 0)) 1 4 4 true, .slice (some (r, 0)) 1 4 4 true] ∧ Four os.length os X q r vs (baseTabs u y gs) := by
  obtain ⟨h1, h2, q, r, rfl, h3, h4, h5, h6, vs, h7, h8, h9⟩ := h
  refine ⟨q, r, vs, rfl, h1, h2, h6, h7, h8, rfl, fun j v b a c => ?_, baseTabs_lt hg, h4, h5⟩
  obtain ⟨g1, g2, g3, g4⟩ := h9 j v b a c
  refine ⟨g1, g2, g3, fun i hi => ?_⟩
  have : idOf v = [i] := idOf_one hi
  exact (g4 i this).1
/-- One of four is left out. -/
theorem cut_out {X : List (Option AObj)} {q k bytes : Nat} {own : Bool} {cs : List V} (h : (X[q]?).join = some (.cells own cs)) (hl : cs.length = 4) (hk : k < 4) (hb : bytes ≤ 4096) :
    ∃ w1 v1 X2 w2 p X3, sliceOp (.slice 1) (.slice (some (q, 0)) 1 4 4 true) none (some (.int .i64 (k : Int))) none = some w1 ∧ lenOf w1 = some k ∧ firstN (few (X ++ [some (AObj.cells true [])])) 1 k w1 = some (cs.take k) ∧
      appendV (few (X ++ [some (AObj.cells true [])])) 1 bytes (.slice (some (X.length, 0)) 1 0 0 true) (some k) (some (cs.take k)) = some (v1, few X2) ∧
      sliceOp (.slice 1) (.slice (some (q, 0)) 1 4 4 true) (some (.int .i64 ((k : Int) + 1))) none none = some w2 ∧ lenOf w2 = some (3 - k) ∧ firstN (few X2) 1 (3 - k) w2 = some (cs.drop (k + 1)) ∧
      appendV (few X2) 1 bytes v1 (some (3 - k)) (some (cs.drop (k + 1))) = some (.slice (some (p, 0)) 1 3 3 false, few X3) ∧ (X3[p]?).join = some (.cells true (cs.eraseIdx k)) ∧ (∀ i, i < X.length → (X3[i]?).join = (X[i]?).join) ∧ X.length ≤ X3.length ∧ X.length ≤ p := by
  obtain ⟨a, b, c, d, rfl⟩ : ∃ a b c d, cs = [a, b, c, d] := by
    match cs, hl with
    | [a, b, c, d], _ => exact ⟨a, b, c, d, rfl⟩
  have hq := join_lt h
  obtain ⟨X1, hX1⟩ : ∃ X1, X1 = X ++ [some (AObj.cells true [])] := ⟨_, rfl⟩
  have e1 : X1.length = X.length + 1 := by rw [hX1]; simp
  have a1 : (X1[X.length]?).join = some (.cells true []) := by rw [hX1]; simp
  have hq1 : (X1[q]?).join = some (.cells own [a, b, c, d]) := by rw [hX1, join_app hq]; exact h
  rw [← hX1]
  have fst : ∀ (Y : List (Option AObj)) (n o c' : Nat) (f : Bool), (Y[q]?).join = some (.cells own [a, b, c, d]) → o + n ≤ 4 → firstN (few Y) 1 n (.slice (some (q, o)) 1 n c' f) = some (([a, b, c, d].drop o).take n) := by
    intro Y n o c' f hY hon
    show sel (Nat.beq 1 1 && Nat.ble n n) ((few Y).loadN q o (n * 1)) none = _
    rw [loadN_few hY (by simp; omega), ble_t (Nat.le_refl _), Nat.mul_one]
    rfl
  have news : ∀ (n : Nat) (new : List V), 0 < n → n ≤ 3 → new.length = n → appendV (few X1) 1 bytes (.slice (some (X.length, 0)) 1 0 0 true) (some n) (some new) = some (.slice (some (X1.length, 0)) 1 n n false, few (X1 ++ [some (AObj.cells true new)])) := fun n new h0 h3 hn => append_newE (os := X1) (j := X.length) (n := n) (e := 1) (bytes := bytes) (new := new) a1 h0 (by omega) (by
    have : (2 * n + 1024) * bytes ≤ (2 * 3 + 1024) * 4096 := Nat.mul_le_mul (by omega) hb
    omega) (by omega)
  have keep1 : ∀ i, i < X.length → (X1[i]?).join = (X[i]?).join := fun i hi => by rw [hX1]; exact join_app hi
  match k, hk with
  | 0, _ =>
    refine ⟨.slice (some (q, 0)) 1 0 4 true, .slice (some (X.length, 0)) 1 0 0 true, X1, .slice (some (q, 1)) 1 3 3 true, X1.length, X1 ++ [some (AObj.cells true [b, c, d])], rfl, rfl, fst X1 0 0 4 true hq1 (by omega), rfl, rfl, rfl, fst X1 3 1 3 true hq1 (by omega), news 3 [b, c, d] (by omega) (by omega) rfl, by simp, fun i hi => by rw [join_app (by omega), keep1 i hi], by simp; omega, by omega⟩
  | 1, _ =>
    refine ⟨.slice (some (q, 0)) 1 1 4 true, .slice (some (X1.length, 0)) 1 1 1 false, X1 ++ [some (AObj.cells true [a])], .slice (some (q, 2)) 1 2 2 true, X1.length + 1, (X1 ++ [some (AObj.cells true [a])]).set X1.length none ++ [some (AObj.cells true [a, c, d])], rfl, rfl, fst X1 1 0 4 true hq1 (by omega), news 1 [a] (by omega) (by omega) rfl, rfl, rfl, fst _ 2 2 2 true (by rw [join_app (by omega)]; exact hq1) (by omega), ?_, ?_, fun i hi => ?_, by simp; omega, by omega⟩
    · have ho : ownAt (X1 ++ [some (AObj.cells true [a])]) X1.length = some [a] := by rw [ownAt_eq]; simp
      show appendV _ 1 bytes (.slice (some (X1.length, 0)) 1 1 1 false) (some (1 + 1)) (some [c, d]) = _
      rw [grow_some, ho, growC_some, if_pos ⟨by
        have : (2 * (1 + (1 + 1)) + 1024) * bytes ≤ 1030 * 4096 := Nat.mul_le_mul (by omega) hb
        omega, rfl, rfl⟩]
      simp
    · rw [List.getElem?_append_right (by simp)]; simp
    · rw [join_app (by simp; omega), join_set (by omega), join_app (by omega), keep1 i hi]
  | 2, _ =>
    refine ⟨.slice (some (q, 0)) 1 2 4 true, .slice (some (X1.length, 0)) 1 2 2 false, X1 ++ [some (AObj.cells true [a, b])], .slice (some (q, 3)) 1 1 1 true, X1.length + 1, (X1 ++ [some (AObj.cells true [a, b])]).set X1.length none ++ [some (AObj.cells true [a, b, d])], rfl, rfl, fst X1 2 0 4 true hq1 (by omega), news 2 [a, b] (by omega) (by omega) rfl, rfl, rfl, fst _ 1 3 1 true (by rw [join_app (by omega)]; exact hq1) (by omega), ?_, ?_, fun i hi => ?_, by simp; omega, by omega⟩
    · have ho : ownAt (X1 ++ [some (AObj.cells true [a, b])]) X1.length = some [a, b] := by rw [ownAt_eq]; simp
      show appendV _ 1 bytes (.slice (some (X1.length, 0)) 1 2 2 false) (some (0 + 1)) (some [d]) = _
      rw [grow_some, ho, growC_some, if_pos ⟨by
        have : (2 * (2 + (0 + 1)) + 1024) * bytes ≤ 1030 * 4096 := Nat.mul_le_mul (by omega) hb
        omega, rfl, rfl⟩]
      simp
    · rw [List.getElem?_append_right (by simp)]; simp
    · rw [join_app (by simp; omega), join_set (by omega), join_app (by omega), keep1 i hi]
  | 3, _ =>
    refine ⟨.slice (some (q, 0)) 1 3 4 true, .slice (some (X1.length, 0)) 1 3 3 false, X1 ++ [some (AObj.cells true [a, b, c])], .slice (some (q, 0)) 1 0 0 true, X1.length, X1 ++ [some (AObj.cells true [a, b, c])], rfl, rfl, fst X1 3 0 4 true hq1 (by omega), news 3 [a, b, c] (by omega) (by omega) rfl, rfl, rfl, ?_, rfl, by simp, fun i hi => by rw [join_app (by omega), keep1 i hi], by simp; omega, by omega⟩
    exact (fst _ 0 0 0 true (by rw [join_app (by omega)]; exact hq1) (by omega)).trans rfl
theorem lookB_cells {l : Sight} {v : V} {b : List Nat} (h : lookB l v = some b) : v.cells = some [v] ∧ v.plain = true := by
  unfold lookB at h
  split at h
  · exact ⟨rfl, rfl⟩
  · exact ⟨rfl, rfl⟩
  · cases h
theorem set_flat {b : List Nat} : ∀ {ts : List (List Nat)} {k : Nat}, (ts.set k b).flatten.length ≤ ts.flatten.length + b.length
  | [], k => by simp
  | t :: ts, 0 => by
    show (b ++ ts.flatten).length ≤ (t ++ ts.flatten).length + b.length
    rw [List.length_append, List.length_append]; omega
  | t :: ts, k + 1 => by
    show (t ++ (ts.set k b).flatten).length ≤ (t ++ ts.flatten).length + b.length
    have := set_flat (b := b) (ts := ts) (k := k)
    rw [List.length_append, List.length_append]; omega
def flN (ts : List (List Nat)) : Nat := ts.flatten.length
theorem set_flat_eq {b t : List Nat} : ∀ {ts : List (List Nat)} {k : Nat}, ts[k]? = some t → (ts.set k b).flatten.length + t.length = ts.flatten.length + b.length
  | [], k, h => by simp at h
  | a :: ts, 0, h => by
    have h : some a = some t := h
    cases h
    show (b ++ ts.flatten).length + t.length = (t ++ ts.flatten).length + b.length
    rw [List.length_append, List.length_append]; omega
  | a :: ts, k + 1, h => by
    have h : ts[k]? = some t := h
    have := set_flat_eq (b := b) h
    show (a ++ (ts.set k b).flatten).length + t.length = (a ++ ts.flatten).length + b.length
    rw [List.length_append, List.length_append]; omega
theorem base_flat' {u : Nat} {y : Bool} {gs : List (List Nat)} (hn : gs.length ≤ 6) (hg : ∀ g ∈ gs, g.length ≤ 40) : (baseTabs u y gs).flatten.length ≤ 400 := by
  have h1 := glyfT_le (gs := gs) (m := 40) hg
  have h2 := locaT_len (y := y) (gs := gs) (gs.length + 1)
  have h3 : (40 + 1) * gs.length ≤ (40 + 1) * 6 := Nat.mul_le_mul_left _ hn
  have h4 : (if y = true then 4 else 2) * (gs.length + 1) ≤ 4 * 7 := Nat.mul_le_mul (by split <;> omega) (by omega)
  simp only [baseTabs, List.flatten_cons, List.flatten_nil, List.length_append, List.length_nil, headT_len, show (maxpT gs.length).length = 6 from by simp [maxpT, bigB_len]]
  omega
theorem mem_flat {ts : List (List Nat)} {t : List Nat} (h : t ∈ ts) : t.length ≤ ts.flatten.length := by
  induction ts with
  | nil => cases h
  | cons a l ih =>
    rw [List.flatten_cons, List.length_append]
    rcases List.mem_cons.1 h with rfl | h
    · omega
    · have := ih h; omega
set_option maxHeartbeats 8000000 in
theorem Switch_run {call : CallT} {lf nW nP nF nO nR nS nK nG nH : Nat} (hlf : 20 ≤ lf) (hW : FewF call nW) (hP : PickF call nP) (hF : FontF call nF) (hO : BothF call nO) (hR : ReadF call nR) (hS : RReadF call nS) (hK : ∀ st, call nK [] st = some (.bool true, st)) (hG : RangeF call nG) (hH : RRangeF call nH)
    {os X : List (Option AObj)} {q r : Nat} {vs : List V} {u : Nat} {y raw : Bool} {gs : List (List Nat)} {units which ask : Int} {by_ : Nat} {vh vm vl va : V} {hb mb lb : List Nat} {as : List Int}
    (h4 : Four os.length os X q r vs (baseTabs u y gs)) (hn : gs.length ≤ 6) (hg : ∀ g ∈ gs, g.length ≤ 40) (hvh : ParB os vh hb) (hvm : ParB os vm mb) (hvl : ParB os vl lb) (hhl : hb.length ≤ 140737488351232) (hml : mb.length ≤ 140737488351232) (hll : lb.length ≤ 140737488351232) (hva : ParI os va as) (hal : as.length ≤ 140737488351232) (hby : by_ < 256)
    {s : Env} (s1 : s .h = .int .i64 units) (s2 : s (.o .h) = .bool y) (s3 : s (.o (.i (.o .h))) = .int .i64 ask) (s4 : s (.i (.i (.o .h))) = .bool raw) (s5 : s (.i (.i (.o (.i .h)))) = .slice (some (q, 0)) 1 4 4 true) (s6 : s (.o (.o (.i (.i .h)))) = .slice (some (r, 0)) 1 4 4 true) (s7 : s (.o (.o .h)) = .int .i64 which) (s8 : s (.i (.o .h)) = vh) (s9 : s (.o (.i .h)) = vm) (s10 : s (.i (.i .h)) = vl) (s11 : s (.o (.o (.o .h))) = va) (s12 : s (.i (.o (.o .h))) = .int .u8 (by_ : Int)) :
    wp call lf (MetTellsSwitch nW nP nF nO nK nR nS nG nH) s (few X) (finQ [ARes.tmp (.i (.i (.i (.o .h))))] fun u _ => u = .bool true) := by
  unfold MetTellsSwitch
  have hbf := base_flat' (u := u) (y := y) hn hg
  obtain ⟨c, hc⟩ : ∃ c, c = (pickI which 12).toNat := ⟨_, rfl⟩
  have hpk := pickI_lt (n := which) (m := 12) (by omega)
  have pk : ∀ st, call nP [.int .i64 which, .int .i64 12] st = some (.int .i64 (c : Int), st) := fun st => by
    rw [hP _ _ _ (by omega) (by omega), show pickI which 12 = (c : Int) from by omega]
  have hc12 : c < 12 := by omega
  -- a parameter in a table's place
  have param : ∀ {v : V} {b : List Nat}, ParB os v b → v.good X.length = true ∧ lookB (few X).look v = some b ∧ v.plain = true ∧ ∀ i ∈ idOf v, i ≠ r := fun {v b} hv => by
    refine ⟨V.good_le h4.le hv.good, lookB_mono (sight_keep h4.old h4.le) hv.look, (lookB_cells hv.look).2, fun i hi => ?_⟩
    have hg := hv.good
    have hlo := h4.lo.1
    have hl := hv.look
    unfold lookB at hl
    split at hl
    · cases hi
    · rw [List.mem_singleton.1 hi]
      have : Nat.blt _ os.length = true := hg
      simp [Nat.blt_eq] at this
      omega
    · cases hl
  have done : ∀ {s : Env} {Y : List (Option AObj)} {r' : Nat} {vs' : List V} {ts : List (List Nat)}, Four os.length os Y q r' vs' ts → ts.flatten.length ≤ 140737488352800 → s .h = .int .i64 units → s (.o .h) = .bool y → s (.o (.i (.o .h))) = .int .i64 ask → s (.i (.i (.o .h))) = .bool raw → s (.i (.i (.o (.i .h)))) = .slice (some (q, 0)) 1 4 4 true → s (.o (.o (.i (.i .h)))) = .slice (some (r', 0)) 1 4 4 true →
      wp call lf (MetTellsRest nP nF nO nK nR nS nG nH) s (few Y) (finQ [ARes.tmp (.i (.i (.i (.o .h))))] fun u _ => u = .bool true) := fun {s Y r' vs' ts} h hfl a1 a2 a3 a4 a5 a6 =>
    MetRest_run (f1 := true) (f2 := true) (q := q) (r := r') (tags := baseTags) (ts := ts) hlf hP hF hO hR hS hK hG hH (fun _ => ⟨true, h.tg⟩) h.rows baseTags_lt h.lt (by decide) (by rw [h.tl]; omega) hfl a1 a2 a3 a4 a5 (by rw [h.tl]; exact a6)
  by_cases d6 : c = 6
  · obtain ⟨st, h4'⟩ := h4.put (k := 0) (by omega) (param hvh) (bytesAt_lt (lookB_at hvh.look)) (lookB_cells hvh.look).1
    have hcl := (lookB_cells hvh.look).1
    simp (disch := omega) [s1, s2, s3, s4, s5, s6, s7, s8, s9, s10, s11, s12, pk, d6, dlt_t, dlt_f, dle_t, dle_f, dltn_t, dltn_f, dlen_t, dlen_f, deq_t, deq_f, deqn_t, deqn_f, natOf_int, idxAddr_slice, hcl, st]
    have := set_flat (b := hb) (ts := baseTabs u y gs) (k := 0)
    refine done h4' (by omega) ?_ ?_ ?_ ?_ ?_ ?_ <;> simp [s1, s2, s3, s4, s5, s6]
  by_cases d7 : c = 7
  · obtain ⟨st, h4'⟩ := h4.put (k := 1) (by omega) (param hvm) (bytesAt_lt (lookB_at hvm.look)) (lookB_cells hvm.look).1
    have hcl := (lookB_cells hvm.look).1
    simp (disch := omega) [s1, s2, s3, s4, s5, s6, s7, s8, s9, s10, s11, s12, pk, d7, dlt_t, dlt_f, dle_t, dle_f, dltn_t, dltn_f, dlen_t, dlen_f, deq_t, deq_f, deqn_t, deqn_f, natOf_int, idxAddr_slice, hcl, st]
    have := set_flat (b := mb) (ts := baseTabs u y gs) (k := 1)
    refine done h4' (by omega) ?_ ?_ ?_ ?_ ?_ ?_ <;> simp [s1, s2, s3, s4, s5, s6]
  by_cases d8 : c = 8
  · obtain ⟨st, h4'⟩ := h4.put (k := 2) (by omega) (param hvl) (bytesAt_lt (lookB_at hvl.look)) (lookB_cells hvl.look).1
    have hcl := (lookB_cells hvl.look).1
    simp (disch := omega) [s1, s2, s3, s4, s5, s6, s7, s8, s9, s10, s11, s12, pk, d8, dlt_t, dlt_f, dle_t, dle_f, dltn_t, dltn_f, dlen_t, dlen_f, deq_t, deq_f, deqn_t, deqn_f, natOf_int, idxAddr_slice, hcl, st]
    have := set_flat (b := lb) (ts := baseTabs u y gs) (k := 2)
    refine done h4' (by omega) ?_ ?_ ?_ ?_ ?_ ?_ <;> simp [s1, s2, s3, s4, s5, s6]
  by_cases d9 : c = 9
  · obtain ⟨wq, hwq⟩ : ∃ wq, binV .quo (.val .int) (.int .i64 which) (.int .i64 12) = some (.int .i64 wq) := ⟨_, bin_quo (by decide)⟩
    obtain ⟨kc, hkc⟩ : ∃ c, c = (pickI wq 4).toNat := ⟨_, rfl⟩
    have hpk4 := pickI_lt (n := wq) (m := 4) (by omega)
    have pk4 : ∀ st, call nP [.int .i64 wq, .int .i64 4] st = some (.int .i64 (kc : Int), st) := fun st => by
      rw [hP _ _ _ (by omega) (by omega), show pickI wq 4 = (kc : Int) from by omega]
    have hk4 : kc < 4 := by omega
    obtain ⟨w1, v1, X2, w2, p, X3, c1, c2, c3, c4, c5, c6, c7, c8, c9, c10, c11, c12⟩ := cut_out (bytes := 16) h4.tg (by rfl) hk4 (by omega)
    have h43 := h4.keep c10 c11
    obtain ⟨w1', v1', X5, w2', p', X6, e1, e2, e3, e4, e5, e6, e7, e8, e9, e10, e11, e12⟩ := cut_out (bytes := 24) h43.tb h43.vl hk4 (by omega)
    have h46 := h43.keep e10 e11
    have al1 : (few X).alloc (.cells true []) = some (X.length, few (X ++ [some (AObj.cells true [])])) := few_alloc X _
    have al2 : (few X3).alloc (.cells true []) = some (X3.length, few (X3 ++ [some (AObj.cells true [])])) := few_alloc X3 _
    obtain ⟨n1, hn1⟩ : ∃ n, n = 3 - kc := ⟨_, rfl⟩
    rw [← hn1] at c6 c7 c8 e6 e7 e8
    obtain ⟨x0, hx0⟩ : ∃ x, x = X.length := ⟨_, rfl⟩
    obtain ⟨x3, hx3⟩ : ∃ x, x = X3.length := ⟨_, rfl⟩
    rw [← hx0] at al1 c4
    rw [← hx3] at al2 e4
    obtain ⟨XA, hXA⟩ : ∃ x, x = X ++ [some (AObj.cells true [])] := ⟨_, rfl⟩
    obtain ⟨XB, hXB⟩ : ∃ x, x = X3 ++ [some (AObj.cells true [])] := ⟨_, rfl⟩
    rw [← hXA] at al1 c3 c4
    rw [← hXB] at al2 e3 e4
    simp (disch := omega) [s1, s2, s3, s4, s5, s6, s7, s8, s9, s10, s11, s12, pk, d9, dlt_t, dlt_f, dle_t, dle_f, dltn_t, dltn_f, dlen_t, dlen_f, deq_t, deq_f, deqn_t, deqn_f, hwq, pk4, al1, c1, c2, firstNo, c3, c4, c5, c6, c7, c8, al2, e1, e2, e3, e4, e5, e6, e7, e8, lenOfS, wrap_i]
    have p3 : (X6[p]?).join = some (.cells true ((strsV baseTags).eraseIdx kc)) := by rw [e10 p (join_lt c9)]; exact c9
    have htags : (strsV baseTags).eraseIdx kc = strsV (baseTags.eraseIdx kc) := by
      have : ∀ k, k < 4 → (strsV baseTags).eraseIdx k = strsV (baseTags.eraseIdx k) := by
        intro k hk
        match k, hk with
        | 0, _ => rfl
        | 1, _ => rfl
        | 2, _ => rfl
        | 3, _ => rfl
      exact this kc hk4
    rw [htags] at p3
    have hmem : ∀ {α : Type} {l : List α} {a : α}, a ∈ l.eraseIdx kc → a ∈ l := fun h => List.mem_of_mem_eraseIdx h
    have hts4 := h4.tl
    have hl3 : ((baseTabs u y gs).eraseIdx kc).length = 3 := by rw [List.length_eraseIdx_of_lt (by omega)]; omega
    have hrows : RowsB X6 p' ((baseTabs u y gs).eraseIdx kc) := by
      refine rows_own e9 (by rw [hl3, List.length_eraseIdx_of_lt (by have := h4.vl; omega)]; have := h4.vl; omega) fun j v b hv hb => ?_
      rw [List.getElem?_eraseIdx] at hv hb
      split at hv
      · rename_i hj
        rw [if_pos hj] at hb
        obtain ⟨g1, g2, _, _⟩ := h46.sh j v b hv hb
        exact ⟨g1, g2⟩
      · rename_i hj
        rw [if_neg hj] at hb
        obtain ⟨g1, g2, _, _⟩ := h46.sh (j + 1) v b hv hb
        exact ⟨g1, g2⟩
    have hfl : ((baseTabs u y gs).eraseIdx kc).flatten.length ≤ 140737488352800 := by
      have := flatten_le (l := (baseTabs u y gs).eraseIdx kc) (m := 400) fun t ht => by have := mem_flat (hmem ht); omega
      rw [hl3] at this
      omega
    have hl3' : (baseTags.eraseIdx kc).length = 3 := by rw [List.length_eraseIdx_of_lt (by show kc < 4; omega)]; rfl
    refine MetRest_run (f1 := false) (f2 := false) (q := p) (r := p') (tags := baseTags.eraseIdx kc) (ts := (baseTabs u y gs).eraseIdx kc) (units := units) (y := y) (raw := raw) (ask := ask) hlf hP hF hO hR hS hK hG hH (fun _ => ⟨true, p3⟩) hrows (fun t ht => baseTags_lt t (hmem ht)) (fun t ht => h4.lt t (hmem ht)) (by omega) (by omega) hfl ?_ ?_ ?_ ?_ ?_ ?_
    · simp [s1]
    · simp [s2]
    · simp [s3]
    · simp [s4]
    · rw [hl3']; simp [slT]
    · rw [hl3]; simp [slT]
  by_cases d10 : c = 10 ∨ c = 11
  · obtain ⟨A, hA⟩ : ∃ A, A = as.length := ⟨_, rfl⟩
    obtain ⟨aa, ra, hvaa, haa⟩ := hva.ex
    rw [← hA] at hvaa
    rw [hvaa] at s11
    have lena : ∀ st, lenV st .slice (.slice aa 1 A A false) = some (.int .i64 (A : Int)) := fun _ => rfl
    obtain ⟨n3, hn3⟩ : ∃ n, n = min A 3 := ⟨_, rfl⟩
    rcases d10 with d10 | d10
    · simp (disch := omega) [s1, s2, s3, s4, s5, s6, s7, s8, s9, s10, s11, s12, pk, dlt_t, dlt_f, dle_t, dle_f, dltn_t, dltn_f, dlen_t, dlen_f, deq_t, deq_f, deqn_t, deqn_f, d10]
      refine wp_loop (fun k s st => ∃ j Y vs ts, j + k = n3 ∧ st = few Y ∧ (Four os.length os Y q r vs ts ∧ flN ts ≤ 400) ∧ s .h = .int .i64 units ∧ s (.o .h) = .bool y ∧ s (.o (.i (.o .h))) = .int .i64 ask ∧ s (.i (.i (.o .h))) = .bool raw ∧ s (.i (.i (.o (.i .h)))) = .slice (some (q, 0)) 1 4 4 true ∧ s (.o (.o (.i (.i .h)))) = .slice (some (r, 0)) 1 4 4 true ∧
        s (.o (.o (.o .h))) = .slice aa 1 A A false ∧ s (.i (.o (.o .h))) = .int .u8 (by_ : Int) ∧ s (.o (.i (.i (.i .h)))) = .int .i64 (j : Int)) n3 ?_ (by omega) ?_
      · refine ⟨0, X, vs, baseTabs u y gs, by omega, rfl, ⟨h4, hbf⟩, ?_, ?_, ?_, ?_, ?_, ?_, ?_, ?_, ?_⟩ <;> simp [s1, s2, s3, s4, s5, s6, s11, s12]
      · rintro k s st ⟨j, Y, vs, ts, hk, rfl, ⟨hY, hfl⟩, z1, z2, z3, z4, z5, z6, z7, z8, z9⟩
        have hfl : ts.flatten.length ≤ 400 := hfl
        cases k with
        | zero =>
          by_cases hjA : j < A
          · have : j = 3 := by omega
            simp (disch := omega) [z1, z2, z3, z4, z5, z6, z7, z8, z9, lena, dlt_t, dlt_f, dle_t, dle_f, dltn_t, dltn_f, dlen_t, dlen_f, deq_t, deq_f, deqn_t, deqn_f]
            refine done hY (by omega) ?_ ?_ ?_ ?_ ?_ ?_ <;> simp [z1, z2, z3, z4, z5, z6]
          · simp (disch := omega) [z1, z2, z3, z4, z5, z6, z7, z8, z9, lena, dlt_t, dlt_f, dle_t, dle_f, dltn_t, dltn_f, dlen_t, dlen_f, deq_t, deq_f, deqn_t, deqn_f]
            refine done hY (by omega) ?_ ?_ ?_ ?_ ?_ ?_ <;> simp [z1, z2, z3, z4, z5, z6]
        | succ k =>
          have hjA : j < A := by omega
          have hj3 : j < 3 := by omega
          obtain ⟨z, hz⟩ : ∃ z, as[j]? = some z := ⟨_, List.getElem?_eq_getElem (by omega)⟩
          obtain ⟨rfl, own, hra⟩ := haa (fun e => by rw [e] at hz; simp at hz)
          have ldz : ∀ Z : List (Option AObj), (∀ i, i < os.length → (Z[i]?).join = (os[i]?).join) → loadV (few Z) false 1 (.ptr (some (ra, j))) = some (.int .i64 z) := fun Z hZ => by
            rw [load_few (show (Z[ra]?).join = some (.cells own (as.map fun n => V.int .i64 n)) by rw [hZ ra (join_lt hra)]; exact hra), List.getElem?_map, hz]; rfl
          have ld1 := ldz Y hY.old
          obtain ⟨kk, hkk⟩ : ∃ c, c = (pickI z 3).toNat := ⟨_, rfl⟩
          have hpk3 := pickI_lt (n := z) (m := 3) (by omega)
          have pk3 : ∀ st, call nP [.int .i64 z, .int .i64 3] st = some (.int .i64 (kk : Int), st) := fun st => by
            rw [hP _ _ _ (by omega) (by omega), show pickI z 3 = (kk : Int) from by omega]
          have hkk3 : kk < 3 := by omega
          have hvl4 := hY.vl
          have htl4 := hY.tl
          obtain ⟨w, hw⟩ : ∃ v, vs[kk]? = some v := ⟨_, List.getElem?_eq_getElem (by omega)⟩
          obtain ⟨b, hb⟩ : ∃ b, ts[kk]? = some b := ⟨_, List.getElem?_eq_getElem (by omega)⟩
          obtain ⟨g1, g2, g3, g4⟩ := hY.sh kk w b hw hb
          have hbl := mem_flat (List.mem_of_getElem? hb)
          have hb256 := hY.lt b (List.mem_of_getElem? hb)
          have ldw : loadV (few Y) false 1 (.ptr (some (r, kk))) = some w := by rw [load_few hY.tb, hw]
          obtain ⟨bl, hbl'⟩ : ∃ bl, bl = b.length := ⟨_, rfl⟩
          have lnw : ∀ st', lenV st' .slice w = some (.int .i64 (bl : Int)) := fun st' => by rw [hbl']; exact len_bytes (st' := st') (lookB_at g2)
          obtain ⟨p, l, hcl, hp, hpb⟩ := clone_held (os := Y) (b := b)
          have fw := hW Y w b bl (lookB_at g2) (by omega) (by omega)
          rw [hbl', List.take_length, hcl, ← hbl'] at fw
          obtain ⟨Y1, hY1⟩ : ∃ Y1, Y1 = Y ++ l := ⟨_, rfl⟩
          rw [← hY1] at fw hpb
          obtain ⟨fb, hfb⟩ : ∃ fb, fb = decide (b = []) := ⟨_, rfl⟩
          have fw : call nW [w, .int .i64 (bl : Int)] (few Y) = some (.slice (some (p, 0)) 1 bl bl fb, few Y1) := by rw [fw]; unfold heldV; rw [← hbl', ← hfb]
          have hY1l : Y.length ≤ Y1.length := by rw [hY1, List.length_append]; omega
          have hY1k : ∀ i, i < Y.length → (Y1[i]?).join = (Y[i]?).join := fun i hi => by rw [hY1]; exact join_app hi
          have hF1 := hY.keep hY1k hY1l
          have hrY := join_lt hY.tb
          by_cases hb0 : 0 < bl
          · obtain ⟨z3', hz3⟩ : ∃ wq, binV .quo (.val .int) (.int .i64 z) (.int .i64 3) = some (.int .i64 wq) := ⟨_, bin_quo (by decide)⟩
            obtain ⟨cc, hcc⟩ : ∃ c, c = (pickI z3' (bl : Int)).toNat := ⟨_, rfl⟩
            have hpkc := pickI_lt (n := z3') (m := (bl : Int)) (by omega)
            have pkc : ∀ st, call nP [.int .i64 z3', .int .i64 (bl : Int)] st = some (.int .i64 (cc : Int), st) := fun st => by
              rw [hP _ _ _ (by omega) (by omega), show pickI z3' (bl : Int) = (cc : Int) from by omega]
            have hccb : cc < bl := by omega
            obtain ⟨x, hx⟩ : ∃ x, b[cc]? = some x := ⟨_, List.getElem?_eq_getElem (by omega)⟩
            have hx256 := hb256 x (List.mem_of_getElem? hx)
            have ldx : loadV (few Y1) false 1 (.ptr (some (p, cc))) = some (.int .u8 (x : Int)) := by
              rw [load_few hpb, bytesV_at, hx]; rfl
            have xo := xor_byte (eq := .val .int) hx256 hby
            obtain ⟨yy, hyy⟩ : ∃ y, y = x ^^^ by_ := ⟨_, rfl⟩
            rw [← hyy] at xo
            have hy256 : yy < 256 := by rw [hyy]; exact Nat.xor_lt_two_pow (n := 8) hx256 hby
            have sto := storeByte (r := yy) hpb (show cc < b.length by omega)
            obtain ⟨Y2, hY2⟩ : ∃ Y2, Y2 = Y1.set p (some (newBytes (b.set cc yy))) := ⟨_, rfl⟩
            rw [← hY2] at sto
            have hpl := join_lt hpb
            have hF2 := hY.keep (Y := Y2) (fun i hi => by rw [hY2, join_set (by omega), hY1k i hi]) (by rw [hY2, List.length_set]; exact hY1l)
            have hfalse : fb = false := by rw [hfb]; exact decide_eq_false fun e => by rw [e] at hbl'; simp at hbl'; omega
            subst hfalse
            have hnb : ∀ x ∈ b.set cc yy, x < 256 := fun x hx => by
              rcases List.mem_or_eq_of_mem_set hx with h | h
              · exact hb256 x h
              · rw [h]; exact hy256
            obtain ⟨o1, o2⟩ := lookB_own (f := false) (show (Y2[p]?).join = some (newBytes (b.set cc yy)) by rw [hY2, join_set_same hpl]) hnb
            rw [List.length_set, ← hbl'] at o1 o2
            obtain ⟨stp, hF3⟩ := hF2.put (k := kk) (v := .slice (some (p, 0)) 1 bl bl false) (b := b.set cc yy) (by omega) ⟨o1, o2, rfl, fun i hi => by rw [List.mem_singleton.1 hi]; omega⟩ hnb rfl
            have hfl3 := set_flat_eq (b := b.set cc yy) hb
            rw [List.length_set] at hfl3
            have ld2 := ldz Y1 hF1.old
            simp (disch := omega) [z1, z2, z3, z4, z5, z6, z7, z8, z9, lena, dlt_t, dlt_f, dle_t, dle_f, dltn_t, dltn_f, dlen_t, dlen_f, deq_t, deq_f, deqn_t, deqn_f, natOf_int, idxAddr_slice, ld1, pk3, ldw, lnw, fw, load_d, idOf, foot_load, ld2, hz3, pkc, ldx, xo, sto, stp, next_back, back_back, back_few, back_limF, next_limF, ble_dec, nbeq_dec, meets_cons, mem_cons, mem_nil, wrap_i]
            exact ⟨k, by omega, j + 1, by omega, _, rfl, ⟨_, _, hF3, by unfold flN; omega⟩, by omega⟩
          · have hbz : bl = 0 := by omega
            simp (disch := omega) [z1, z2, z3, z4, z5, z6, z7, z8, z9, lena, dlt_t, dlt_f, dle_t, dle_f, dltn_t, dltn_f, dlen_t, dlen_f, deq_t, deq_f, deqn_t, deqn_f, natOf_int, idxAddr_slice, ld1, pk3, ldw, lnw, fw, load_d, idOf, foot_load, next_back, back_back, back_few, back_limF, next_limF, ble_dec, nbeq_dec, meets_cons, mem_cons, mem_nil, wrap_i]
            exact ⟨k, by omega, j + 1, by omega, Y1, rfl, ⟨vs, ts, hF1, hfl⟩, by omega⟩
    · simp (disch := omega) [s1, s2, s3, s4, s5, s6, s7, s8, s9, s10, s11, s12, pk, dlt_t, dlt_f, dle_t, dle_f, dltn_t, dltn_f, dlen_t, dlen_f, deq_t, deq_f, deqn_t, deqn_f, d10]
      refine wp_loop (fun k s st => ∃ j Y vs ts, j + k = n3 ∧ st = few Y ∧ (Four os.length os Y q r vs ts ∧ flN ts ≤ 400) ∧ s .h = .int .i64 units ∧ s (.o .h) = .bool y ∧ s (.o (.i (.o .h))) = .int .i64 ask ∧ s (.i (.i (.o .h))) = .bool raw ∧ s (.i (.i (.o (.i .h)))) = .slice (some (q, 0)) 1 4 4 true ∧ s (.o (.o (.i (.i .h)))) = .slice (some (r, 0)) 1 4 4 true ∧
        s (.o (.o (.o .h))) = .slice aa 1 A A false ∧ s (.i (.o (.o .h))) = .int .u8 (by_ : Int) ∧ s (.o (.i (.i (.i .h)))) = .int .i64 (j : Int)) n3 ?_ (by omega) ?_
      · refine ⟨0, X, vs, baseTabs u y gs, by omega, rfl, ⟨h4, hbf⟩, ?_, ?_, ?_, ?_, ?_, ?_, ?_, ?_, ?_⟩ <;> simp [s1, s2, s3, s4, s5, s6, s11, s12]
      · rintro k s st ⟨j, Y, vs, ts, hk, rfl, ⟨hY, hfl⟩, z1, z2, z3, z4, z5, z6, z7, z8, z9⟩
        have hfl : ts.flatten.length ≤ 400 := hfl
        cases k with
        | zero =>
          by_cases hjA : j < A
          · have : j = 3 := by omega
            simp (disch := omega) [z1, z2, z3, z4, z5, z6, z7, z8, z9, lena, dlt_t, dlt_f, dle_t, dle_f, dltn_t, dltn_f, dlen_t, dlen_f, deq_t, deq_f, deqn_t, deqn_f]
            refine done hY (by omega) ?_ ?_ ?_ ?_ ?_ ?_ <;> simp [z1, z2, z3, z4, z5, z6]
          · simp (disch := omega) [z1, z2, z3, z4, z5, z6, z7, z8, z9, lena, dlt_t, dlt_f, dle_t, dle_f, dltn_t, dltn_f, dlen_t, dlen_f, deq_t, deq_f, deqn_t, deqn_f]
            refine done hY (by omega) ?_ ?_ ?_ ?_ ?_ ?_ <;> simp [z1, z2, z3, z4, z5, z6]
        | succ k =>
          have hjA : j < A := by omega
          have hj3 : j < 3 := by omega
          obtain ⟨z, hz⟩ : ∃ z, as[j]? = some z := ⟨_, List.getElem?_eq_getElem (by omega)⟩
          obtain ⟨rfl, own, hra⟩ := haa (fun e => by rw [e] at hz; simp at hz)
          have ldz : ∀ Z : List (Option AObj), (∀ i, i < os.length → (Z[i]?).join = (os[i]?).join) → loadV (few Z) false 1 (.ptr (some (ra, j))) = some (.int .i64 z) := fun Z hZ => by
            rw [load_few (show (Z[ra]?).join = some (.cells own (as.map fun n => V.int .i64 n)) by rw [hZ ra (join_lt hra)]; exact hra), List.getElem?_map, hz]; rfl
          have ld1 := ldz Y hY.old
          obtain ⟨kk, hkk⟩ : ∃ c, c = (pickI z 3).toNat := ⟨_, rfl⟩
          have hpk3 := pickI_lt (n := z) (m := 3) (by omega)
          have pk3 : ∀ st, call nP [.int .i64 z, .int .i64 3] st = some (.int .i64 (kk : Int), st) := fun st => by
            rw [hP _ _ _ (by omega) (by omega), show pickI z 3 = (kk : Int) from by omega]
          have hkk3 : kk < 3 := by omega
          have hvl4 := hY.vl
          have htl4 := hY.tl
          obtain ⟨w, hw⟩ : ∃ v, vs[kk]? = some v := ⟨_, List.getElem?_eq_getElem (by omega)⟩
          obtain ⟨b, hb⟩ : ∃ b, ts[kk]? = some b := ⟨_, List.getElem?_eq_getElem (by omega)⟩
          obtain ⟨g1, g2, g3, g4⟩ := hY.sh kk w b hw hb
          have hbl := mem_flat (List.mem_of_getElem? hb)
          have hb256 := hY.lt b (List.mem_of_getElem? hb)
          have ldw : loadV (few Y) false 1 (.ptr (some (r, kk))) = some w := by rw [load_few hY.tb, hw]
          obtain ⟨bl, hbl'⟩ : ∃ bl, bl = b.length := ⟨_, rfl⟩
          have lnw : ∀ st', lenV st' .slice w = some (.int .i64 (bl : Int)) := fun st' => by rw [hbl']; exact len_bytes (st' := st') (lookB_at g2)
          obtain ⟨p, l, hcl, hp, hpb⟩ := clone_held (os := Y) (b := b)
          have fw := hW Y w b bl (lookB_at g2) (by omega) (by omega)
          rw [hbl', List.take_length, hcl, ← hbl'] at fw
          obtain ⟨Y1, hY1⟩ : ∃ Y1, Y1 = Y ++ l := ⟨_, rfl⟩
          rw [← hY1] at fw hpb
          obtain ⟨fb, hfb⟩ : ∃ fb, fb = decide (b = []) := ⟨_, rfl⟩
          have fw : call nW [w, .int .i64 (bl : Int)] (few Y) = some (.slice (some (p, 0)) 1 bl bl fb, few Y1) := by rw [fw]; unfold heldV; rw [← hbl', ← hfb]
          have hY1l : Y.length ≤ Y1.length := by rw [hY1, List.length_append]; omega
          have hY1k : ∀ i, i < Y.length → (Y1[i]?).join = (Y[i]?).join := fun i hi => by rw [hY1]; exact join_app hi
          have hF1 := hY.keep hY1k hY1l
          have hrY := join_lt hY.tb
          by_cases hb0 : 0 < bl
          · obtain ⟨z3', hz3⟩ : ∃ wq, binV .quo (.val .int) (.int .i64 z) (.int .i64 3) = some (.int .i64 wq) := ⟨_, bin_quo (by decide)⟩
            obtain ⟨cc, hcc⟩ : ∃ c, c = (pickI z3' (bl : Int)).toNat := ⟨_, rfl⟩
            have hpkc := pickI_lt (n := z3') (m := (bl : Int)) (by omega)
            have pkc : ∀ st, call nP [.int .i64 z3', .int .i64 (bl : Int)] st = some (.int .i64 (cc : Int), st) := fun st => by
              rw [hP _ _ _ (by omega) (by omega), show pickI z3' (bl : Int) = (cc : Int) from by omega]
            have hccb : cc < bl := by omega
            obtain ⟨x, hx⟩ : ∃ x, b[cc]? = some x := ⟨_, List.getElem?_eq_getElem (by omega)⟩
            have hx256 := hb256 x (List.mem_of_getElem? hx)
            have ldx : loadV (few Y1) false 1 (.ptr (some (p, cc))) = some (.int .u8 (x : Int)) := by
              rw [load_few hpb, bytesV_at, hx]; rfl
            have xo := xor_byte (eq := .val .int) hx256 hby
            obtain ⟨yy, hyy⟩ : ∃ y, y = x ^^^ by_ := ⟨_, rfl⟩
            rw [← hyy] at xo
            have hy256 : yy < 256 := by rw [hyy]; exact Nat.xor_lt_two_pow (n := 8) hx256 hby
            have sto := storeByte (r := yy) hpb (show cc < b.length by omega)
            obtain ⟨Y2, hY2⟩ : ∃ Y2, Y2 = Y1.set p (some (newBytes (b.set cc yy))) := ⟨_, rfl⟩
            rw [← hY2] at sto
            have hpl := join_lt hpb
            have hF2 := hY.keep (Y := Y2) (fun i hi => by rw [hY2, join_set (by omega), hY1k i hi]) (by rw [hY2, List.length_set]; exact hY1l)
            have hfalse : fb = false := by rw [hfb]; exact decide_eq_false fun e => by rw [e] at hbl'; simp at hbl'; omega
            subst hfalse
            have hnb : ∀ x ∈ b.set cc yy, x < 256 := fun x hx => by
              rcases List.mem_or_eq_of_mem_set hx with h | h
              · exact hb256 x h
              · rw [h]; exact hy256
            obtain ⟨o1, o2⟩ := lookB_own (f := false) (show (Y2[p]?).join = some (newBytes (b.set cc yy)) by rw [hY2, join_set_same hpl]) hnb
            rw [List.length_set, ← hbl'] at o1 o2
            obtain ⟨stp, hF3⟩ := hF2.put (k := kk) (v := .slice (some (p, 0)) 1 bl bl false) (b := b.set cc yy) (by omega) ⟨o1, o2, rfl, fun i hi => by rw [List.mem_singleton.1 hi]; omega⟩ hnb rfl
            have hfl3 := set_flat_eq (b := b.set cc yy) hb
            rw [List.length_set] at hfl3
            have ld2 := ldz Y1 hF1.old
            simp (disch := omega) [z1, z2, z3, z4, z5, z6, z7, z8, z9, lena, dlt_t, dlt_f, dle_t, dle_f, dltn_t, dltn_f, dlen_t, dlen_f, deq_t, deq_f, deqn_t, deqn_f, natOf_int, idxAddr_slice, ld1, pk3, ldw, lnw, fw, load_d, idOf, foot_load, ld2, hz3, pkc, ldx, xo, sto, stp, next_back, back_back, back_few, back_limF, next_limF, ble_dec, nbeq_dec, meets_cons, mem_cons, mem_nil, wrap_i]
            exact ⟨k, by omega, j + 1, by omega, _, rfl, ⟨_, _, hF3, by unfold flN; omega⟩, by omega⟩
          · have hbz : bl = 0 := by omega
            simp (disch := omega) [z1, z2, z3, z4, z5, z6, z7, z8, z9, lena, dlt_t, dlt_f, dle_t, dle_f, dltn_t, dltn_f, dlen_t, dlen_f, deq_t, deq_f, deqn_t, deqn_f, natOf_int, idxAddr_slice, ld1, pk3, ldw, lnw, fw, load_d, idOf, foot_load, next_back, back_back, back_few, back_limF, next_limF, ble_dec, nbeq_dec, meets_cons, mem_cons, mem_nil, wrap_i]
            exact ⟨k, by omega, j + 1, by omega, Y1, rfl, ⟨vs, ts, hF1, hfl⟩, by omega⟩
  · have e10 : ¬ c = 10 := by omega
    have e11 : ¬ c = 11 := by omega
    simp (disch := omega) [s1, s2, s3, s4, s5, s6, s7, s8, s9, s10, s11, s12, pk, dlt_t, dlt_f, dle_t, dle_f, dltn_t, dltn_f, dlen_t, dlen_f, deq_t, deq_f, deqn_t, deqn_f, d6, d7, d8, d9, e10, e11]
    refine done h4 (by omega) ?_ ?_ ?_ ?_ ?_ ?_ <;> simp [s1, s2, s3, s4, s5, s6]
theorem pos_9 : pos 9 = (.o (.i (.o .h))) := rfl
theorem pos_10 : pos 10 = (.i (.i (.o .h))) := rfl
attribute [local simp] pos_9 pos_10
theorem Four.down {os X0 X : List (Option AObj)} {q r : Nat} {vs : List V} {ts : List (List Nat)} (h : Four X0.length X0 X q r vs ts) (he : ∀ i, i < os.length → (X0[i]?).join = (os[i]?).join) (hl : os.length ≤ X0.length) : Four os.length os X q r vs ts :=
  ⟨fun i hi => by rw [h.old i (by omega), he i hi], by have := h.le; omega, h.tg, h.tb, h.vl, h.tl, h.sh, h.lt, by have := h.lo; omega⟩
set_option maxHeartbeats 8000000 in
theorem MetTells_run {call : CallT} {lf nW nP nB nF nO nR nS nK nG nH : Nat} (hlf : 20 ≤ lf) (hW : FewF call nW) (hP : PickF call nP) (hB : BaseF call nB) (hF : FontF call nF) (hO : BothF call nO) (hR : ReadF call nR) (hS : RReadF call nS) (hK : ∀ st, call nK [] st = some (.bool true, st)) (hG : RangeF call nG) (hH : RRangeF call nH)
    {os : List (Option AObj)} {units which ask : Int} {y raw : Bool} {v vh vm vl va : V} {bss : List (List Nat)} {hb mb lb : List Nat} {as : List Int} {by_ : Nat} (hv : Par os v bss) (hbl : bss.length ≤ 140737488351232) (hvh : ParB os vh hb) (hvm : ParB os vm mb) (hvl : ParB os vl lb) (hhl : hb.length ≤ 140737488351232) (hml : mb.length ≤ 140737488351232) (hll : lb.length ≤ 140737488351232) (hva : ParI os va as) (hal : as.length ≤ 140737488351232) (hby : by_ < 256) :
    ∃ s1, enterF call lf [.int .i64 units, .bool y, v, .int .i64 which, vh, vm, vl, va, .int .u8 (by_ : Int), .int .i64 ask, .bool raw] (few os) (MetricTells_c nW nP nB nF nO nK nR nS nG nH) = some (.bool true, s1) := by
  refine enter_ex ?_
  obtain ⟨a, r0, rfl, har, hrow⟩ := hv.ex
  obtain ⟨n, hn⟩ : ∃ n, n = min bss.length 6 := ⟨_, rfl⟩
  obtain ⟨M, hM⟩ : ∃ M, M = bss.length := ⟨_, rfl⟩
  rw [← hM] at hn
  obtain ⟨N, hNe⟩ : ∃ N, N = os.length := ⟨_, rfl⟩
  rw [← hM]
  simp
  refine wp_loop (fun k s st => ∃ i X r, i + k = n ∧ st = few X ∧ Rack N os X r (cutsZ 40 bss i) ∧
    (s .h = .int .i64 units ∧ s (.o .h) = .bool y ∧ s (.o (.o .h)) = .int .i64 which ∧ s (.i (.o .h)) = vh ∧ s (.o (.i .h)) = vm ∧ s (.i (.i .h)) = vl ∧ s (.o (.o (.o .h))) = va ∧ s (.i (.o (.o .h))) = .int .u8 (by_ : Int) ∧ s (.o (.i (.o .h))) = .int .i64 ask ∧ s (.i (.i (.o .h))) = .bool raw) ∧ s (.i .h) = .slice a 1 M M false ∧ s (.o (.o (.o (.i .h)))) = tagsV r i ∧ s (.i (.o (.o (.i .h)))) = .int .i64 (i : Int)) n ?_ (by omega) ?_
  · refine ⟨0, os, 0, by omega, rfl, ⟨fun i hi => rfl, by omega, fun h => absurd (by simp [cutsZ]) h⟩, ⟨?_, ?_, ?_, ?_, ?_, ?_, ?_, ?_, ?_, ?_⟩, ?_, ?_, ?_⟩ <;> simp [tagsV]
  · rintro k s st ⟨i, X0, r, hk, rfl, hHk, ⟨p1, p2, p3, p4, p5, p6, p7, p8, p9, p10⟩, s3, s4, s5⟩
    cases k with
    | succ k =>
      have hin : i < n := by omega
      have hiM : i < M := by omega
      have hi6 : i < 6 := by omega
      obtain ⟨b, hb⟩ : ∃ b, bss[i]? = some b := ⟨_, List.getElem?_eq_getElem (by omega)⟩
      have har := har (fun e => by rw [e] at hb; simp at hb)
      subst har
      obtain ⟨w, X4, X5, X6, x4, p, bl, fb, r', c1, c2, c3, c4, c5, c6⟩ := rack_step hW (z := 40) (by omega) hNe hrow hHk hb (by have := hv.len b (List.mem_of_getElem? hb); omega) (by omega)
      have c2 : call nW [w, .int .i64 40] (few X0) = some (.slice (some (p, 0)) 1 bl bl fb, few X4) := c2
      simp (disch := omega) [p1, p2, p3, p4, p5, p6, p7, p8, p9, p10, s3, s4, s5, dlt_t, dlt_f, dle_t, dle_f, dltn_t, dltn_f, dlen_t, dlen_f, deq_t, deq_f, deqn_t, deqn_f, wrap_i, natOf_int, idxAddr_slice, c1, c2, c3, c4, lenOfS, firstNo, c5]
      exact ⟨k, by omega, i + 1, by omega, X6, rfl, r', c6, tagsV_succ.symm, by omega⟩
    | zero =>
      have hin : i = n := by omega
      subst hin
      have hcl := cutsZ_len (z := 40) (bss := bss) (k := i) (by omega)
      obtain ⟨gs, hgs⟩ : ∃ gs, gs = cutsZ 40 bss i := ⟨_, rfl⟩
      rw [← hgs] at hHk hcl
      have hg : ∀ g ∈ gs, g.length ≤ 40 ∧ ∀ b ∈ g, b < 256 := fun g hg => by
        rw [hgs] at hg
        unfold cutsZ at hg
        obtain ⟨b, hb, rfl⟩ := List.mem_map.1 hg
        exact ⟨by rw [List.length_take]; omega, fun x hx => hv.lt b (List.mem_of_mem_take hb) x (List.mem_of_mem_take hx)⟩
      have hrows := hHk.rows fun t ht => (hg t ht).2
      obtain ⟨c1, hc1⟩ : ∃ c, c = (pickI units 3000).toNat := ⟨_, rfl⟩
      have hp1 := pickI_lt (n := units) (m := 3000) (by omega)
      have pk1 : ∀ st, call nP [.int .i64 units, .int .i64 3000] st = some (.int .i64 (c1 : Int), st) := fun st => by
        rw [hP _ _ _ (by omega) (by omega), show pickI units 3000 = (c1 : Int) from by omega]
      obtain ⟨c2, hc2⟩ : ∃ c, c = (pickI units 65536).toNat := ⟨_, rfl⟩
      have hp2 := pickI_lt (n := units) (m := 65536) (by omega)
      have pk2 : ∀ st, call nP [.int .i64 units, .int .i64 65536] st = some (.int .i64 (c2 : Int), st) := fun st => by
        rw [hP _ _ _ (by omega) (by omega), show pickI units 65536 = (c2 : Int) from by omega]
      obtain ⟨u1, hu1⟩ : ∃ u, u = 16 + c1 := ⟨_, rfl⟩
      have hu16 : (16 : Int) + (c1 : Int) = (u1 : Int) := by omega
      obtain ⟨t9, ht9⟩ : ∃ t, t = Int.tmod units 9 := ⟨_, rfl⟩
      have base : ∀ u : Nat, u < 65536 → ∃ q r' vs X, call nB [.int .i64 (u : Int), tagsV r i, .bool y] (few X0) = some (.tuple [.slice (some (q, 0)) 1 4 4 true, .slice (some (r', 0)) 1 4 4 true], few X) ∧ Four os.length os X q r' vs (baseTabs u y gs) := fun u hu => by
        obtain ⟨v, X, e1, hp⟩ := hB X0 u r false y gs hrows hu (by omega) fun g h => ⟨by have := (hg g h).1; omega, (hg g h).2⟩
        obtain ⟨q, r', vs, rfl, h4⟩ := four_base hp fun g h => (hg g h).2
        refine ⟨q, r', vs, X, ?_, h4.down (fun j hj => hHk.old j (by omega)) (by have := hHk.le; omega)⟩
        rw [hcl] at e1
        exact e1
      by_cases h9 : t9 = 8
      · obtain ⟨q, r', vs, X, e1, h4⟩ := base c2 (by omega)
        by_cases hiM : i < M
        · simp (disch := omega) [p1, p2, p3, p4, p5, p6, p7, p8, p9, p10, s3, s4, s5, dlt_t, dlt_f, dle_t, dle_f, dltn_t, dltn_f, dlen_t, dlen_f, deq_t, deq_f, deqn_t, deqn_f, pk1, hu16, wrap_i, bin_rem, ← ht9, h9, pk2, e1]
          refine Switch_run (units := units) (which := which) (ask := ask) (raw := raw) (y := y) hlf hW hP hF hO hR hS hK hG hH h4 (by omega) (fun g h => (hg g h).1) hvh hvm hvl hhl hml hll hva hal hby ?_ ?_ ?_ ?_ ?_ ?_ ?_ ?_ ?_ ?_ ?_ ?_ <;> simp [p1, p2, p3, p4, p5, p6, p7, p8, p9, p10]
        · simp (disch := omega) [p1, p2, p3, p4, p5, p6, p7, p8, p9, p10, s3, s4, s5, dlt_t, dlt_f, dle_t, dle_f, dltn_t, dltn_f, dlen_t, dlen_f, deq_t, deq_f, deqn_t, deqn_f, pk1, hu16, wrap_i, bin_rem, ← ht9, h9, pk2, e1]
          refine Switch_run (units := units) (which := which) (ask := ask) (raw := raw) (y := y) hlf hW hP hF hO hR hS hK hG hH h4 (by omega) (fun g h => (hg g h).1) hvh hvm hvl hhl hml hll hva hal hby ?_ ?_ ?_ ?_ ?_ ?_ ?_ ?_ ?_ ?_ ?_ ?_ <;> simp [p1, p2, p3, p4, p5, p6, p7, p8, p9, p10]
      · obtain ⟨q, r', vs, X, e1, h4⟩ := base u1 (by omega)
        by_cases hiM : i < M
        · simp (disch := omega) [p1, p2, p3, p4, p5, p6, p7, p8, p9, p10, s3, s4, s5, dlt_t, dlt_f, dle_t, dle_f, dltn_t, dltn_f, dlen_t, dlen_f, deq_t, deq_f, deqn_t, deqn_f, pk1, hu16, wrap_i, bin_rem, ← ht9, h9, pk2, e1]
          refine Switch_run (units := units) (which := which) (ask := ask) (raw := raw) (y := y) hlf hW hP hF hO hR hS hK hG hH h4 (by omega) (fun g h => (hg g h).1) hvh hvm hvl hhl hml hll hva hal hby ?_ ?_ ?_ ?_ ?_ ?_ ?_ ?_ ?_ ?_ ?_ ?_ <;> simp [p1, p2, p3, p4, p5, p6, p7, p8, p9, p10]
        · simp (disch := omega) [p1, p2, p3, p4, p5, p6, p7, p8, p9, p10, s3, s4, s5, dlt_t, dlt_f, dle_t, dle_f, dltn_t, dltn_f, dlen_t, dlen_f, deq_t, deq_f, deqn_t, deqn_f, pk1, hu16, wrap_i, bin_rem, ← ht9, h9, pk2, e1]
          refine Switch_run (units := units) (which := which) (ask := ask) (raw := raw) (y := y) hlf hW hP hF hO hR hS hK hG hH h4 (by omega) (fun g h => (hg g h).1) hvh hvm hvl hhl hml hll hva hal hby ?_ ?_ ?_ ?_ ?_ ?_ ?_ ?_ ?_ ?_ ?_ ?_ <;> simp [p1, p2, p3, p4, p5, p6, p7, p8, p9, p10]

end Go.Vabs.Ne
