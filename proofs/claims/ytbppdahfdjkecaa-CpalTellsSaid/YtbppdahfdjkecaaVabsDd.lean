/- Lemmas for this claim, text Dd. No condition. -/
import Derived.Test.YtbppdahfdjkecaaVabsDa
namespace Go.Vabs.Dd
set_option linter.unusedVariables false
set_option linter.unusedSimpArgs false
set_option maxRecDepth 10000
def pixels_c (n_it : Nat) (n_Chunk : Nat) : AFunc := AFunc.mk 29 (.seq (.reg [AOper.mk (some (.i .h)) (.mv (.c (.slice none 0 0 0 true))) none]) (.seq (.reg [AOper.mk (some (.o (.o .h))) (.alloc [.slice none 0 0 0 true]) none]) (.seq (.seq (.reg [AOper.mk (some (.i (.i .h))) (.call n_Chunk [.t .h, .c (.int .i64 (.ofNat 4))]) none]) (.block 0 (.range (.t (.i (.i .h))) [.o (.o (.o .h))] (.reg [AOper.mk (some (.i (.o .h))) (.mv (.t (.o (.o (.o .h))))) none]) (.block 1 (.dreg [(AOper.mk (some (.i (.o (.o .h)))) (.load false 1 (.t (.o (.o .h)))) none, [3, 7, 11, 15, 18]), (AOper.mk (some (.o (.i (.o .h)))) (.mv (.t (.i (.o .h)))) none, []), (AOper.mk (some (.i (.i (.o .h)))) (.idxAddr (.slice 1) (.t (.o (.i (.o .h)))) (.c (.int .i64 (.ofNat 2)))) none, []), (AOper.mk (some (.o (.o (.i .h)))) (.load false 1 (.t (.i (.i (.o .h))))) none, [0, 7, 11, 15]), (AOper.mk (some (.i (.o (.i .h)))) (.conv (.int .i64) (.t (.o (.o (.i .h))))) none, []), (AOper.mk (some (.o (.i (.i .h)))) (.mv (.t (.i (.o .h)))) none, []), (AOper.mk (some (.i (.i (.i .h)))) (.idxAddr (.slice 1) (.t (.o (.i (.i .h)))) (.c (.int .i64 (.ofNat 1)))) none, []), (AOper.mk (some (.o (.o (.o (.o .h))))) (.load false 1 (.t (.i (.i (.i .h))))) none, [0, 3, 11, 15]), (AOper.mk (some (.i (.o (.o (.o .h))))) (.conv (.int .i64) (.t (.o (.o (.o (.o .h)))))) none, []), (AOper.mk (some (.o (.i (.o (.o .h))))) (.mv (.t (.i (.o .h)))) none, []), (AOper.mk (some (.i (.i (.o (.o .h))))) (.idxAddr (.slice 1) (.t (.o (.i (.o (.o .h))))) (.c (.int .i64 (.ofNat 0)))) none, []), (AOper.mk (some (.o (.o (.i (.o .h))))) (.load false 1 (.t (.i (.i (.o (.o .h)))))) none, [0, 3, 7, 15]), (AOper.mk (some (.i (.o (.i (.o .h))))) (.conv (.int .i64) (.t (.o (.o (.i (.o .h)))))) none, []), (AOper.mk (some (.o (.i (.i (.o .h))))) (.mv (.t (.i (.o .h)))) none, []), (AOper.mk (some (.i (.i (.i (.o .h))))) (.idxAddr (.slice 1) (.t (.o (.i (.i (.o .h))))) (.c (.int .i64 (.ofNat 3)))) none, []), (AOper.mk (some (.o (.o (.o (.i .h))))) (.load false 1 (.t (.i (.i (.i (.o .h)))))) none, [0, 3, 7, 11]), (AOper.mk (some (.i (.o (.o (.i .h))))) (.conv (.int .i64) (.t (.o (.o (.o (.i .h)))))) none, []), (AOper.mk (some (.o (.i (.o (.i .h))))) (.build [.int .i64 (.ofNat 0), .int .i64 (.ofNat 0), .int .i64 (.ofNat 0), .int .i64 (.ofNat 0)] [(0, (1, .t (.i (.o (.i .h))))), (1, (1, .t (.i (.o (.o (.o .h)))))), (2, (1, .t (.i (.o (.i (.o .h)))))), (3, (1, .t (.i (.o (.o (.i .h))))))]) none, []), (AOper.mk (some (.i (.i (.o (.i .h))))) (.bslice 4 1 [.int .i64 (.ofNat 0), .int .i64 (.ofNat 0), .int .i64 (.ofNat 0), .int .i64 (.ofNat 0)] [(0, (4, .t (.o (.i (.o (.i .h))))))]) none, [0]), (AOper.mk (some (.o (.o (.i (.i .h))))) (.append 4 32 (.t (.i (.o (.o .h)))) (.t (.i (.i (.o (.i .h)))))) none, []), (AOper.mk none (.store 1 (.t (.o (.o .h))) (.t (.o (.o (.i (.i .h)))))) none, [])])) n_it Ca.chunkIt))) (.seq (.reg [AOper.mk (some (.i (.o (.i (.i .h))))) (.load false 1 (.t (.o (.o .h)))) none, AOper.mk (some (.i .h)) (.mv (.t (.i (.o (.i (.i .h)))))) none]) .ret)))) [.tmp (.i .h)]
def ReadLoop (n_U16 : Nat) (n_pixels : Nat) : ACode := (.seq (.reg [AOper.mk (some (.o (.o (.o (.o (.o (.i .h))))))) (.build [.int .i64 (.ofNat 0), .slice none 0 0 0 true] [(0, (1, .t (.i (.o (.o .h)))))]) none, AOper.mk (some (.i (.o (.o (.o (.o (.i .h))))))) (.box (.t (.o (.o (.o (.o (.o (.i .h)))))))) none, AOper.mk (some (.i (.o (.i (.o .h))))) (.mv (.t (.i (.o (.o (.o (.o (.i .h)))))))) none]) (.seq (.seq (.reg [AOper.mk (some (.o (.i (.o (.o (.o (.i .h))))))) (.mv (.t (.i (.i (.o .h))))) none, AOper.mk (some (.i (.i (.o (.o (.o (.i .h))))))) (.mv (.c (.int .i64 (.ofNat 0)))) none]) (.block 2 (.loop (.seq (.reg [AOper.mk (some (.o (.o (.i (.o (.o (.i .h))))))) (.bin .lss (.val .int) (.t (.i (.i (.o (.o (.o (.i .h))))))) (.t (.o (.i (.o (.o (.o (.i .h)))))))) none]) (.seq (.cond (.t (.o (.o (.i (.o (.o (.i .h))))))) .skip (.exit 2)) (.seq (.block 3 (.seq (.reg [AOper.mk (some (.o (.i (.i (.o .h))))) (.mv (.t (.i (.i (.o (.o (.o (.i .h)))))))) none]) (.seq (.reg [AOper.mk (some (.i (.o (.o (.i (.o (.i .h))))))) (.bin .mul (.val .int) (.c (.int .i64 (.ofNat 2))) (.t (.o (.i (.i (.o .h)))))) none, AOper.mk (some (.o (.i (.o (.i (.o (.i .h))))))) (.call n_U16 [.t (.i (.o (.o (.o .h)))), .t (.i (.o (.o (.i (.o (.i .h))))))]) none, AOper.mk (some (.i (.i (.o (.i (.o (.i .h))))))) (.extract (.t (.o (.i (.o (.i (.o (.i .h))))))) 0) none, AOper.mk (some (.o (.o (.i (.i (.o (.i .h))))))) (.extract (.t (.o (.i (.o (.i (.o (.i .h))))))) 1) none, AOper.mk (some (.i (.i (.i (.o .h))))) (.mv (.t (.i (.i (.o (.i (.o (.i .h)))))))) none, AOper.mk (some (.o (.o (.o (.i .h))))) (.mv (.t (.o (.o (.i (.i (.o (.i .h)))))))) none]) (.seq (.seq (.reg [AOper.mk (some (.i (.i (.i (.i (.o (.i .h))))))) (.bin .add (.val .int) (.t (.i (.i (.i (.o .h))))) (.t (.i (.o (.o .h))))) none, AOper.mk (some (.i (.o (.o (.o (.i (.i .h))))))) (.bin .gtr (.val .int) (.t (.i (.i (.i (.i (.o (.i .h))))))) (.t (.i (.o (.i .h))))) none]) (.cond (.t (.i (.o (.o (.o (.i (.i .h))))))) (.seq (.reg [AOper.mk (some (.i .h)) (.mv (.c (.ptr none))) none, AOper.mk (some (.o (.o .h))) (.mv (.c (.int .i64 (.ofNat 2)))) none]) .ret) .skip)) (.dreg [(AOper.mk (some (.o (.i (.o (.o (.i (.i .h))))))) (.mv (.t (.i (.o (.i (.o .h)))))) none, []), (AOper.mk (some (.i (.i (.o (.o (.i (.i .h))))))) (.mv (.t (.i (.o (.i (.o .h)))))) none, []), (AOper.mk (some (.o (.o (.i (.o (.i (.i .h))))))) (.nilchk (.t (.i (.i (.o (.o (.i (.i .h)))))))) none, []), (AOper.mk (some (.i (.o (.i (.o (.i (.i .h))))))) (.fieldAddr 1 (.t (.o (.o (.i (.o (.i (.i .h)))))))) none, []), (AOper.mk (some (.o (.i (.i (.o (.i (.i .h))))))) (.load false 1 (.t (.i (.o (.i (.o (.i (.i .h)))))))) none, [13, 14]), (AOper.mk (some (.i (.i (.i (.o (.i (.i .h))))))) (.mv (.t (.i (.i (.o (.o .h)))))) none, []), (AOper.mk (some (.o (.o (.o (.i (.i (.i .h))))))) (.mv (.t (.i (.i (.i (.o .h)))))) none, []), (AOper.mk (some (.i (.o (.o (.i (.i (.i .h))))))) (.bin .mul (.val .int) (.c (.int .i64 (.ofNat 4))) (.t (.o (.o (.o (.i (.i (.i .h)))))))) none, []), (AOper.mk (some (.o (.i (.o (.i (.i (.i .h))))))) (.mv (.t (.i (.i (.i (.o .h)))))) none, []), (AOper.mk (some (.i (.i (.o (.i (.i (.i .h))))))) (.mv (.t (.i (.o (.o .h))))) none, []), (AOper.mk (some (.o (.o (.i (.i (.i (.i .h))))))) (.bin .add (.val .int) (.t (.o (.i (.o (.i (.i (.i .h))))))) (.t (.i (.i (.o (.i (.i (.i .h)))))))) none, []), (AOper.mk (some (.i (.o (.i (.i (.i (.i .h))))))) (.bin .mul (.val .int) (.c (.int .i64 (.ofNat 4))) (.t (.o (.o (.i (.i (.i (.i .h)))))))) none, []), (AOper.mk (some (.o (.i (.i (.i (.i (.i .h))))))) (.slice (.slice 1) (.t (.i (.i (.i (.o (.i (.i .h))))))) (some (.t (.i (.o (.o (.i (.i (.i .h)))))))) (some (.t (.i (.o (.i (.i (.i (.i .h)))))))) none) none, []), (AOper.mk (some (.i (.i (.i (.i (.i (.i .h))))))) (.call n_pixels [.t (.o (.i (.i (.i (.i (.i .h))))))]) none, [4]), (AOper.mk (some (.o (.o (.o (.o (.o (.o (.o .h)))))))) (.bslice 1 1 [.slice none 0 0 0 true] [(0, (1, .t (.i (.i (.i (.i (.i (.i .h))))))))]) none, [4]), (AOper.mk (some (.i (.o (.o (.o (.o (.o (.o .h)))))))) (.append 1 24 (.t (.o (.i (.i (.o (.i (.i .h))))))) (.t (.o (.o (.o (.o (.o (.o (.o .h))))))))) none, []), (AOper.mk (some (.o (.i (.o (.o (.o (.o (.o .h)))))))) (.nilchk (.t (.o (.i (.o (.o (.i (.i .h)))))))) none, []), (AOper.mk (some (.i (.i (.o (.o (.o (.o (.o .h)))))))) (.fieldAddr 1 (.t (.o (.i (.o (.o (.o (.o (.o .h))))))))) none, []), (AOper.mk none (.store 1 (.t (.i (.i (.o (.o (.o (.o (.o .h)))))))) (.t (.i (.o (.o (.o (.o (.o (.o .h))))))))) none, [])]))))) (.reg [AOper.mk (some (.o (.o (.i (.o (.o (.o (.o .h)))))))) (.bin .add (.val .int) (.t (.i (.i (.o (.o (.o (.i .h))))))) (.c (.int .i64 (.ofNat 1)))) none, AOper.mk (some (.i (.i (.o (.o (.o (.i .h))))))) (.mv (.t (.o (.o (.i (.o (.o (.o (.o .h))))))))) none]))))))) (.seq (.reg [AOper.mk (some (.i .h)) (.mv (.t (.i (.o (.i (.o .h)))))) none, AOper.mk (some (.o (.o .h))) (.mv (.c (.int .i64 (.ofNat 0)))) none]) .ret)))
def ReadP_c (n_Table : Nat) (n_U16 : Nat) (n_U32 : Nat) (n_Part : Nat) (n_pixels : Nat) : AFunc := AFunc.mk 133 (.seq (.reg [AOper.mk (some (.i .h)) (.mv (.c (.ptr none))) none, AOper.mk (some (.o (.o .h))) (.mv (.c (.int .i64 (.ofNat 0)))) none]) (.seq (.seq (.reg [AOper.mk (some (.o (.i (.o (.i .h))))) (.bin .eql (.nils .ptr) (.t .h) (.c (.ptr none))) none]) (.cond (.t (.o (.i (.o (.i .h))))) (.seq (.reg [AOper.mk (some (.i .h)) (.mv (.c (.ptr none))) none, AOper.mk (some (.o (.o .h))) (.mv (.c (.int .i64 (.ofNat 1)))) none]) .ret) .skip)) (.seq (.reg [AOper.mk (some (.i (.o (.i (.i .h))))) (.call n_Table [.t .h, .c (.str [67, 80, 65, 76])]) none, AOper.mk (some (.o (.i (.i (.i .h))))) (.extract (.t (.i (.o (.i (.i .h))))) 0) none, AOper.mk (some (.i (.i (.i (.i .h))))) (.extract (.t (.i (.o (.i (.i .h))))) 1) none, AOper.mk (some (.i (.o .h))) (.mv (.t (.o (.i (.i (.i .h)))))) none, AOper.mk (some (.o (.i .h))) (.mv (.t (.i (.i (.i (.i .h)))))) none]) (.seq (.block 0 (.seq (.reg [AOper.mk (some (.o (.i (.o (.o (.o .h)))))) (.un .not (.t (.o (.i .h)))) none, AOper.mk (some (.o (.o (.o (.o (.o .h)))))) (.mv (.t (.o (.i (.o (.o (.o .h))))))) none]) (.cond (.t (.o (.o (.o (.o (.o .h)))))) (.seq (.reg [AOper.mk (some (.i .h)) (.mv (.c (.ptr none))) none, AOper.mk (some (.o (.o .h))) (.mv (.c (.int .i64 (.ofNat 6)))) none]) .ret) (.seq (.reg [AOper.mk (some (.i (.o (.i (.o (.o .h)))))) (.len .slice (.t (.i (.o .h)))) none, AOper.mk (some (.o (.i (.i (.o (.o .h)))))) (.bin .lss (.val .int) (.t (.i (.o (.i (.o (.o .h)))))) (.c (.int .i64 (.ofNat 12)))) none, AOper.mk (some (.i (.i (.o (.o (.o .h)))))) (.mv (.t (.o (.i (.i (.o (.o .h))))))) none]) (.cond (.t (.i (.i (.o (.o (.o .h)))))) (.seq (.reg [AOper.mk (some (.i .h)) (.mv (.c (.ptr none))) none, AOper.mk (some (.o (.o .h))) (.mv (.c (.int .i64 (.ofNat 3)))) none]) .ret) .skip))))) (.seq (.reg [AOper.mk (some (.i (.o (.o (.i (.o .h)))))) (.call n_U16 [.t (.i (.o .h)), .c (.int .i64 (.ofNat 0))]) none, AOper.mk (some (.o (.i (.o (.i (.o .h)))))) (.extract (.t (.i (.o (.o (.i (.o .h)))))) 0) none, AOper.mk (some (.i (.i (.o (.i (.o .h)))))) (.extract (.t (.i (.o (.o (.i (.o .h)))))) 1) none, AOper.mk (some (.i (.i .h))) (.mv (.t (.o (.i (.o (.i (.o .h))))))) none, AOper.mk (some (.o (.o (.o .h)))) (.mv (.t (.i (.i (.o (.i (.o .h))))))) none]) (.seq (.reg [AOper.mk (some (.o (.i (.i (.i (.o .h)))))) (.call n_U16 [.t (.i (.o .h)), .c (.int .i64 (.ofNat 2))]) none, AOper.mk (some (.i (.i (.i (.i (.o .h)))))) (.extract (.t (.o (.i (.i (.i (.o .h)))))) 0) none, AOper.mk (some (.o (.o (.o (.o (.i .h)))))) (.extract (.t (.o (.i (.i (.i (.o .h)))))) 1) none, AOper.mk (some (.i (.o (.o .h)))) (.mv (.t (.i (.i (.i (.i (.o .h))))))) none, AOper.mk (some (.o (.i (.o .h)))) (.mv (.t (.o (.o (.o (.o (.i .h))))))) none]) (.seq (.reg [AOper.mk (some (.i (.i (.o (.o (.i .h)))))) (.call n_U16 [.t (.i (.o .h)), .c (.int .i64 (.ofNat 4))]) none, AOper.mk (some (.o (.o (.i (.o (.i .h)))))) (.extract (.t (.i (.i (.o (.o (.i .h)))))) 0) none, AOper.mk (some (.i (.o (.i (.o (.i .h)))))) (.extract (.t (.i (.i (.o (.o (.i .h)))))) 1) none, AOper.mk (some (.i (.i (.o .h)))) (.mv (.t (.o (.o (.i (.o (.i .h))))))) none, AOper.mk (some (.o (.o (.i .h)))) (.mv (.t (.i (.o (.i (.o (.i .h))))))) none]) (.seq (.reg [AOper.mk (some (.o (.o (.o (.i (.i .h)))))) (.call n_U16 [.t (.i (.o .h)), .c (.int .i64 (.ofNat 6))]) none, AOper.mk (some (.i (.o (.o (.i (.i .h)))))) (.extract (.t (.o (.o (.o (.i (.i .h)))))) 0) none, AOper.mk (some (.o (.i (.o (.i (.i .h)))))) (.extract (.t (.o (.o (.o (.i (.i .h)))))) 1) none, AOper.mk (some (.i (.o (.i .h)))) (.mv (.t (.i (.o (.o (.i (.i .h))))))) none, AOper.mk (some (.o (.i (.i .h)))) (.mv (.t (.o (.i (.o (.i (.i .h))))))) none]) (.seq (.reg [AOper.mk (some (.i (.o (.i (.i (.i .h)))))) (.call n_U32 [.t (.i (.o .h)), .c (.int .i64 (.ofNat 8))]) none, AOper.mk (some (.o (.i (.i (.i (.i .h)))))) (.extract (.t (.i (.o (.i (.i (.i .h)))))) 0) none, AOper.mk (some (.i (.i (.i (.i (.i .h)))))) (.extract (.t (.i (.o (.i (.i (.i .h)))))) 1) none, AOper.mk (some (.i (.i (.i .h)))) (.mv (.t (.o (.i (.i (.i (.i .h))))))) none, AOper.mk (some (.o (.o (.o (.o .h))))) (.mv (.t (.i (.i (.i (.i (.i .h))))))) none]) (.seq (.block 1 (.seq (.reg [AOper.mk (some (.o (.i (.o (.o (.o (.o .h))))))) (.bin .gtr (.val .int) (.t (.i (.i .h))) (.c (.int .i64 (.ofNat 1)))) none, AOper.mk (some (.o (.o (.o (.o (.o (.o .h))))))) (.mv (.t (.o (.i (.o (.o (.o (.o .h)))))))) none]) (.cond (.t (.o (.o (.o (.o (.o (.o .h))))))) (.seq (.reg [AOper.mk (some (.i .h)) (.mv (.c (.ptr none))) none, AOper.mk (some (.o (.o .h))) (.mv (.c (.int .i64 (.ofNat 2)))) none]) .ret) (.seq (.reg [AOper.mk (some (.i (.o (.i (.o (.o (.o .h))))))) (.bin .gtr (.val .int) (.t (.i (.i (.o .h)))) (.c (.int .i64 (.ofNat 64)))) none, AOper.mk (some (.o (.i (.i (.o (.o (.o .h))))))) (.mv (.t (.i (.o (.i (.o (.o (.o .h)))))))) none, AOper.mk (some (.o (.o (.o (.i (.o (.o .h))))))) (.bin .gtr (.val .int) (.t (.i (.o (.o .h)))) (.c (.int .i64 (.ofNat 256)))) (some (.o (.i (.i (.o (.o (.o .h))))), false)), AOper.mk (some (.i (.o (.o (.i (.o (.o .h))))))) (.pick (.t (.o (.i (.i (.o (.o (.o .h))))))) (.c (.bool true)) (.t (.o (.o (.o (.i (.o (.o .h)))))))) none, AOper.mk (some (.i (.i (.o (.o (.o (.o .h))))))) (.mv (.t (.i (.o (.o (.i (.o (.o .h)))))))) none]) (.cond (.t (.i (.i (.o (.o (.o (.o .h))))))) (.seq (.reg [AOper.mk (some (.i .h)) (.mv (.c (.ptr none))) none, AOper.mk (some (.o (.o .h))) (.mv (.c (.int .i64 (.ofNat 4)))) none]) .ret) .skip))))) (.seq (.reg [AOper.mk (some (.i (.o (.i (.i (.o (.o .h))))))) (.bin .mul (.val .int) (.c (.int .i64 (.ofNat 2))) (.t (.i (.i (.o .h))))) none, AOper.mk (some (.o (.i (.i (.i (.o (.o .h))))))) (.call n_Part [.t (.i (.o .h)), .c (.int .i64 (.ofNat 12)), .t (.i (.o (.i (.i (.o (.o .h))))))]) none, AOper.mk (some (.i (.i (.i (.i (.o (.o .h))))))) (.extract (.t (.o (.i (.i (.i (.o (.o .h))))))) 0) none, AOper.mk (some (.o (.o (.o (.o (.i (.o .h))))))) (.extract (.t (.o (.i (.i (.i (.o (.o .h))))))) 1) none, AOper.mk (some (.i (.o (.o (.o .h))))) (.mv (.t (.i (.i (.i (.i (.o (.o .h)))))))) none, AOper.mk (some (.o (.i (.o (.o .h))))) (.mv (.t (.o (.o (.o (.o (.i (.o .h)))))))) none]) (.seq (.reg [AOper.mk (some (.i (.o (.i (.o (.i (.o .h))))))) (.bin .mul (.val .int) (.c (.int .i64 (.ofNat 4))) (.t (.i (.o (.i .h))))) none, AOper.mk (some (.o (.i (.i (.o (.i (.o .h))))))) (.call n_Part [.t (.i (.o .h)), .t (.i (.i (.i .h))), .t (.i (.o (.i (.o (.i (.o .h))))))]) none, AOper.mk (some (.i (.i (.i (.o (.i (.o .h))))))) (.extract (.t (.o (.i (.i (.o (.i (.o .h))))))) 0) none, AOper.mk (some (.o (.o (.o (.i (.i (.o .h))))))) (.extract (.t (.o (.i (.i (.o (.i (.o .h))))))) 1) none, AOper.mk (some (.i (.i (.o (.o .h))))) (.mv (.t (.i (.i (.i (.o (.i (.o .h)))))))) none, AOper.mk (some (.o (.o (.i (.o .h))))) (.mv (.t (.o (.o (.o (.i (.i (.o .h)))))))) none]) (.seq (.seq (.reg [AOper.mk (some (.o (.i (.o (.i (.i (.o .h))))))) (.un .not (.t (.o (.i (.o (.o .h)))))) none, AOper.mk (some (.i (.i (.o (.i (.i (.o .h))))))) (.mv (.t (.o (.i (.o (.i (.i (.o .h)))))))) none, AOper.mk (some (.i (.o (.i (.i (.i (.o .h))))))) (.un .not (.t (.o (.o (.i (.o .h)))))) (some (.i (.i (.o (.i (.i (.o .h))))), false)), AOper.mk (some (.o (.i (.i (.i (.i (.o .h))))))) (.pick (.t (.i (.i (.o (.i (.i (.o .h))))))) (.c (.bool true)) (.t (.i (.o (.i (.i (.i (.o .h)))))))) none]) (.cond (.t (.o (.i (.i (.i (.i (.o .h))))))) (.seq (.reg [AOper.mk (some (.i .h)) (.mv (.c (.ptr none))) none, AOper.mk (some (.o (.o .h))) (.mv (.c (.int .i64 (.ofNat 3)))) none]) .ret) .skip)) (ReadLoop n_U16 n_pixels)))))))))))))) [.tmp (.i .h), .tmp (.o (.o .h))]
def ColorP_c : AFunc := AFunc.mk 42 (.seq (.reg [AOper.mk (some (.i (.i .h))) (.alloc [.int .i64 (.ofNat 0), .int .i64 (.ofNat 0), .int .i64 (.ofNat 0), .int .i64 (.ofNat 0)]) none, AOper.mk (some (.o (.o (.o .h)))) (.mv (.c (.bool false))) none]) (.seq (.seq (.reg [AOper.mk (some (.o (.i (.o .h)))) (.bin .lss (.val .int) (.t (.o .h)) (.c (.int .i64 (.ofNat 0)))) none, AOper.mk (some (.i (.i (.o .h)))) (.mv (.t (.o (.i (.o .h))))) none, AOper.mk (some (.o (.i (.i .h)))) (.nilchk (.t .h)) (some (.i (.i (.o .h)), false)), AOper.mk (some (.i (.i (.i .h)))) (.fieldAddr 1 (.t (.o (.i (.i .h))))) (some (.i (.i (.o .h)), false)), AOper.mk (some (.o (.o (.o (.o .h))))) (.load false 1 (.t (.i (.i (.i .h))))) (some (.i (.i (.o .h)), false)), AOper.mk (some (.i (.o (.o (.o .h))))) (.len .slice (.t (.o (.o (.o (.o .h)))))) (some (.i (.i (.o .h)), false)), AOper.mk (some (.o (.i (.o (.o .h))))) (.bin .geq (.val .int) (.t (.o .h)) (.t (.i (.o (.o (.o .h)))))) (some (.i (.i (.o .h)), false)), AOper.mk (some (.i (.i (.o (.o .h))))) (.pick (.t (.i (.i (.o .h)))) (.c (.bool true)) (.t (.o (.i (.o (.o .h)))))) none, AOper.mk (some (.o (.o (.i (.o .h))))) (.mv (.t (.i (.i (.o (.o .h)))))) none, AOper.mk (some (.o (.i (.i (.o .h))))) (.bin .lss (.val .int) (.t (.i .h)) (.c (.int .i64 (.ofNat 0)))) (some (.o (.o (.i (.o .h))), false)), AOper.mk (some (.i (.i (.i (.o .h))))) (.pick (.t (.o (.o (.i (.o .h))))) (.c (.bool true)) (.t (.o (.i (.i (.o .h)))))) none, AOper.mk (some (.o (.o (.o (.i .h))))) (.mv (.t (.i (.i (.i (.o .h)))))) none, AOper.mk (some (.i (.i (.o (.i .h))))) (.nilchk (.t .h)) (some (.o (.o (.o (.i .h))), false)), AOper.mk (some (.o (.o (.i (.i .h))))) (.fieldAddr 0 (.t (.i (.i (.o (.i .h)))))) (some (.o (.o (.o (.i .h))), false)), AOper.mk (some (.i (.o (.i (.i .h))))) (.load false 1 (.t (.o (.o (.i (.i .h)))))) (some (.o (.o (.o (.i .h))), false)), AOper.mk (some (.o (.i (.i (.i .h))))) (.bin .geq (.val .int) (.t (.i .h)) (.t (.i (.o (.i (.i .h)))))) (some (.o (.o (.o (.i .h))), false)), AOper.mk (some (.i (.i (.i (.i .h))))) (.pick (.t (.o (.o (.o (.i .h))))) (.c (.bool true)) (.t (.o (.i (.i (.i .h)))))) none]) (.cond (.t (.i (.i (.i (.i .h))))) (.seq (.reg [AOper.mk (some (.o (.o (.o (.o (.o .h)))))) (.build [.int .i64 (.ofNat 0), .int .i64 (.ofNat 0), .int .i64 (.ofNat 0), .int .i64 (.ofNat 0)] []) none, AOper.mk none (.store 4 (.t (.i (.i .h))) (.t (.o (.o (.o (.o (.o .h))))))) none, AOper.mk (some (.o (.o (.o .h)))) (.mv (.c (.bool false))) none]) .ret) .skip)) (.seq (.reg [AOper.mk (some (.o (.i (.o (.o (.o .h)))))) (.nilchk (.t .h)) none, AOper.mk (some (.i (.i (.o (.o (.o .h)))))) (.fieldAddr 1 (.t (.o (.i (.o (.o (.o .h))))))) none, AOper.mk (some (.o (.o (.i (.o (.o .h)))))) (.load false 1 (.t (.i (.i (.o (.o (.o .h))))))) none, AOper.mk (some (.o (.i (.i (.o (.o .h)))))) (.idxAddr (.slice 1) (.t (.o (.o (.i (.o (.o .h)))))) (.t (.o .h))) none, AOper.mk (some (.i (.i (.i (.o (.o .h)))))) (.load false 1 (.t (.o (.i (.i (.o (.o .h))))))) none, AOper.mk (some (.i (.o (.o (.i (.o .h)))))) (.idxAddr (.slice 4) (.t (.i (.i (.i (.o (.o .h)))))) (.t (.i .h))) none, AOper.mk (some (.o (.i (.o (.i (.o .h)))))) (.load true 4 (.t (.i (.o (.o (.i (.o .h))))))) none, AOper.mk none (.store 4 (.t (.i (.i .h))) (.t (.o (.i (.o (.i (.o .h))))))) none, AOper.mk (some (.o (.o (.o .h)))) (.mv (.c (.bool true))) none]) .ret))) [.cell (.i (.i .h)) true 4, .tmp (.o (.o (.o .h)))]
def CountP_c : AFunc := AFunc.mk 8 (.seq (.reg [AOper.mk (some (.i .h)) (.mv (.c (.int .i64 (.ofNat 0)))) none]) (.seq (.reg [AOper.mk (some (.i (.o .h))) (.nilchk (.t .h)) none, AOper.mk (some (.o (.i .h))) (.fieldAddr 1 (.t (.i (.o .h)))) none, AOper.mk (some (.i (.i .h))) (.load false 1 (.t (.o (.i .h)))) none, AOper.mk (some (.o (.o (.o .h)))) (.len .slice (.t (.i (.i .h)))) none, AOper.mk (some (.i .h)) (.mv (.t (.o (.o (.o .h))))) none]) .ret)) [.tmp (.i .h)]
def EntriesP_c : AFunc := AFunc.mk 7 (.seq (.reg [AOper.mk (some (.i .h)) (.mv (.c (.int .i64 (.ofNat 0)))) none]) (.seq (.reg [AOper.mk (some (.i (.o .h))) (.nilchk (.t .h)) none, AOper.mk (some (.o (.i .h))) (.fieldAddr 0 (.t (.i (.o .h)))) none, AOper.mk (some (.i (.i .h))) (.load false 1 (.t (.o (.i .h)))) none, AOper.mk (some (.i .h)) (.mv (.t (.i (.i .h)))) none]) .ret)) [.tmp (.i .h)]
attribute [local simp] wp_skip wp_ret wp_exit wp_reg wp_seq wp_cond wp_block thenQ_normal thenQ_ret thenQ_exit blockQ_normal blockQ_ret blockQ_exit wpCond_true wpCond_false wpOps_nil wpVal_some wpGuard_true wpGuard_false wpOps_guard wpOps_cons
  put_at put_no ev_c ev_slot posEq_h posEq_o posEq_i posEq_ho posEq_hi posEq_oh posEq_ih posEq_oi posEq_io sel_true sel_false
  okv_some step_mv step_call step_pick pickV_bool step_bin bin_add bin_sub bin_mul bin_eql bin_neq bin_lss bin_leq bin_gtr bin_geq bin_eqb bin_neb bin_eqs bin_nes step_un un_not un_neg step_len len_slice len_str len_const step_extract extractV nth step_convInt conv_int step_convStr step_slice step_idxAddr natOf_nat step_load step_index step_field step_fieldAddr step_build step_minmax
  step_alloc step_bslice bsliceV_some newV_some step_store step_append boolIs_b boolIs_t finQ_ret finQ_normal ressE_nil ressE_cons resE_tmp consO_some initE_nil initE_cons pos_0 pos_1 pos_2 pos_3 pos_4 pos_5 pos_6 pos_7 pos_8 plain_bool plain_int plain_str plain_ptr plain_slice plain_map plain_agg plain_func plain_nilFunc V.undef oneOf_one oneOf_two ble_self
open Go.Vabs.Pk Go.Vabs.Ph Go.Vabs.Sa Go.Vabs.Sb Go.Vabs.Sc Go.Vabs.Sd Go.Vabs.Se Go.Vabs.Sg Go.Vabs.Sh Go.Vabs.Sm Go.Vabs.Sn Go.Vabs.Sp Go.Vabs.Sr Go.Vabs.St Go.Vabs.Su Go.Vabs.L2 Go.Vabs.Na Go.Vabs.Nb Go.Vabs.Ra Go.Vabs.Rb Go.Vabs.Rc Go.Vabs.Rd Go.Vabs.Re Go.Vabs.Ca Go.Vabs.Cb Go.Vabs.Vc Go.Vabs.Da Go.Vabs.Db
attribute [local simp] step_nilchk nilchk_ptr step_box cells_int cells_bool cells_str cells_slice cells_ptr cells_agg fieldAddrV natOf_zero fill repN splice over newV step_appendZ
  wp_dreg wpDs_nil wpDs_cons wantedE_none wantedE_some wpDGuard_true wpDGuard_lim wpDGuard_false wpDLim_true wpDVal_free wpDVal_lim back_limited next_limited limF_dir limF_false foot_load foot_store foot_convStr okAll_nil okAll_cons pastsOf nthP ahead few_next load_limited convStr_limited blt_dec okPair_dd okPair_dc okPair_cd okPair_cc anyIn_nil anyIn_same anyIn_cons meets_nil meets_nil'
  tn_alloc tn_load tn_load0 tn_store tn_store0 storeT_some loadC_some cellsAt_zero cellsAt_succ ownAt_zero ownAt_succ tn_first tn_first0 firstC_some tn_grow_none tn_grow tn_grow0 growN_some tn_fix tn_fix0 fixN_some bn_load bn_first bn_grow bn_store tn_next tn_alloc_dir tl_store_d tl_back tl_back_few few_back_tl backv_some back_back cut takeN nbeq_dec ble_dec meets_cons mem_nil mem_cons idOf load_d convStr_d lenOfS firstNo natOf_int if_leN bn_fix foot_bslice foot_alloc foot_box foot_append foot_call
def pxR (d : List Nat) (x : Nat) : Px := ⟨d.getD (x + 2) 0, d.getD (x + 1) 0, d.getD x 0, d.getD (x + 3) 0⟩
def rowR (d : List Nat) (o m : Nat) : List Px := (List.range m).map fun j => pxR d (o + 4 * j)
theorem rowR_len {d : List Nat} {o m : Nat} : (rowR d o m).length = m := by simp [rowR]
theorem rowR_succ {d : List Nat} {o m : Nat} : rowR d o (m + 1) = rowR d o m ++ [pxR d (o + 4 * m)] := by unfold rowR; rw [List.range_succ, List.map_append]; rfl
def rowO (row : List Px) : List (Option AObj) := if row = [] then [] else [some (.cells true (elV pxV row))]
def PixL (f : FnT) : Prop := ∀ os p o c fx own d m, (os[p]?).join = some (.cells own (bytesV d)) → (∀ b ∈ d, b < 256) → o + 4 * m ≤ d.length → 4 * m ≤ c → c < 1000000 → m ≤ 256 → f [.slice (some (p, o)) 1 (4 * m) c fx] (few os) = some (elS 4 os.length m, few (os ++ rowO (rowR d o m)))
set_option maxHeartbeats 4000000 in
theorem Pix_run {base : CallT} {lf nC it : Nat} (hlf : 300 ≤ lf) (hC : ChunkF it base nC) {os : List (Option AObj)} {p o c m : Nat} {fx own : Bool} {d : List Nat} (hp : (os[p]?).join = some (.cells own (bytesV d))) (hd : ∀ b ∈ d, b < 256) (hom : o + 4 * m ≤ d.length) (hc : 4 * m ≤ c) (hcl : c < 1000000) (hm : m ≤ 256) :
    ∃ q os', enterF base lf [.slice (some (p, o)) 1 (4 * m) c fx] (few os) (pixels_c it nC) = some (elS 4 q m, few os') ∧ (m ≠ 0 → os.length ≤ q ∧ (os'[q]?).join = some (.cells true (elV pxV (rowR d o m)))) := by
  have main := enter_wp (call := base) (lf := lf) (n := 29) (args := [.slice (some (p, o)) 1 (4 * m) c fx]) (st := few os) (K := fun u st => ∃ q os', st = few os' ∧ u = elS 4 q m ∧ (m ≠ 0 → os.length ≤ q ∧ (os'[q]?).join = some (.cells true (elV pxV (rowR d o m))))) (c := (pixels_c it nC).code) (rs := (pixels_c it nC).results) ?_
  · obtain ⟨u, st', h1, q, os', rfl, rfl, h2⟩ := main
    exact ⟨q, os', h1, h2⟩
  · unfold pixels_c
    dsimp only
    have hpl := join_lt hp
    have ec : ∀ l, base nC [.slice (some (p, o)) 1 (4 * m) c fx, .int .i64 4] (tl os l) = some (.func it [] [.ptr (some (os.length + l.length, 0)), .ptr (some (os.length + (l.length + 1), 0))], tl os (l ++ [some (.cells true [.slice (some (p, o)) 1 (4 * m) c fx]), some (.cells true [.int .i64 4])])) := fun l => by
      have := hC (os ++ l) (.slice (some (p, o)) 1 (4 * m) c fx) 4 rfl rfl (by omega) (by omega)
      rw [List.length_append, List.append_assoc, Nat.add_assoc] at this
      exact this
    obtain ⟨N, hN⟩ : ∃ N, N = os.length := ⟨_, rfl⟩
    rw [tl_of (X := os)]
    simp (disch := omega) [ec]
    rw [tl_eq]
    obtain ⟨L, hL⟩ : ∃ L : List (Option AObj), L = [some (.cells true [.slice none 0 0 0 true]), some (.cells true [.slice (some (p, o)) 1 (4 * m) c fx]), some (.cells true [.int .i64 4])] := ⟨_, rfl⟩
    rw [← hL, ← hN]
    refine wp_chunk (fun j W => j ≤ m ∧ ∃ q, InBox 4 pxV (N + 3) N (os ++ L ++ [none]) W q (rowR d o j)) (b1 := N + 1) (b2 := N + 2) (q := p) (o := o) (len := 4 * m) (cap := c) (n := 4) (m := m) (f := fx) ?_ (by omega) (by omega) (by omega) (by omega) (by omega) ?_ ?_ ?_ ?_
    · simp
    · rintro j W ⟨_, q, hI⟩
      rw [hN] at hI ⊢
      refine ⟨by rw [hI.old _ (by omega) (by omega), List.append_assoc, tl_at, hL]; rfl, by rw [hI.old _ (by omega) (by omega), List.append_assoc, tl_at, hL]; rfl⟩
    · refine ⟨by omega, 0, ⟨fun i _ _ => rfl, by simp [hL, hN], by omega, ?_, fun h => absurd rfl h⟩⟩
      rw [hN, List.append_assoc, hL]; exact tl_at (k := 0)
    · rintro j W hj ⟨hjm, q, hI⟩
      have hjm : j < m := by omega
      have hle := hI.le
      have ldW : (W[p]?).join = some (.cells own (bytesV d)) := by rw [hI.old p (by omega) (by omega), List.append_assoc, join_app hpl]; exact hp
      haveI : At W p (.cells own (bytesV d)) := ⟨ldW⟩
      have hhd := hI.hd
      rw [rowR_len] at hhd
      haveI : At W N (.cells true [elS 4 q j]) := ⟨hhd⟩
      have nb : ∀ x, x < 4 → nth (o + j * 4 + x) (bytesV d) = some (.int .u8 ((d.getD (o + 4 * j + x) 0 : Nat) : Int)) := fun x hx => by
        rw [nth_eq, bytesV_at, List.getElem?_eq_getElem (show o + j * 4 + x < d.length by omega), List.getD_eq_getElem?_getD, show o + 4 * j + x = o + j * 4 + x from by omega, List.getElem?_eq_getElem (show o + j * 4 + x < d.length by omega)]; rfl
      have bd : ∀ x, d.getD x 0 < 256 := fun x => by
        rw [List.getD_eq_getElem?_getD]
        cases h : d[x]? with
        | none => simp
        | some b => exact hd b (List.mem_of_getElem? h)
      obtain ⟨P, hP⟩ : ∃ P, P = pxR d (o + 4 * j) := ⟨_, rfl⟩
      have n0 := nb 0 (by omega)
      have n1 := nb 1 (by omega)
      have n2 := nb 2 (by omega)
      have n3 := nb 3 (by omega)
      have n0 : nth (o + j * 4) (bytesV d) = some (.int .u8 (P.b : Int)) := by rw [hP]; exact n0
      have n1 : nth (o + j * 4 + 1) (bytesV d) = some (.int .u8 (P.g : Int)) := by rw [hP]; exact n1
      have n2 : nth (o + j * 4 + 2) (bytesV d) = some (.int .u8 (P.r : Int)) := by rw [hP]; exact n2
      have n3 : nth (o + j * 4 + 3) (bytesV d) = some (.int .u8 (P.a : Int)) := by rw [hP]; exact n3
      have b0 : P.b < 256 := by rw [hP]; exact bd _
      have b1 : P.g < 256 := by rw [hP]; exact bd _
      have b2 : P.r < 256 := by rw [hP]; exact bd _
      have b3 : P.a < 256 := by rw [hP]; exact bd _
      rw [show min 4 (4 * m - j * 4) = 4 from by omega]
      obtain ⟨V6, hV6⟩ : ∃ V6, V6 = W ++ [some (AObj.cells true [.int .i64 (P.r : Int), .int .i64 (P.g : Int), .int .i64 (P.b : Int), .int .i64 (P.a : Int)])] := ⟨_, rfl⟩
      have hI6 : InBox 4 pxV (N + 3) N (os ++ L ++ [none]) V6 q (rowR d o j) := hI.keep (fun i hi => by rw [hV6, join_app hi]) (by rw [hV6]; simp)
      obtain ⟨V7, V8, k7, k8, hI8⟩ := hI6.next (w := 32) pxV_len (by omega) P (n := j) rowR_len (by omega)
      have k7 : appendV (tl W [some (AObj.cells true [.int .i64 (P.r : Int), .int .i64 (P.g : Int), .int .i64 (P.b : Int), .int .i64 (P.a : Int)])]) 4 32 (elS 4 q j) (some 1) (some [.int .i64 (P.r : Int), .int .i64 (P.g : Int), .int .i64 (P.b : Int), .int .i64 (P.a : Int)]) = some (elS 4 V6.length (j + 1), few V7) := by rw [tl_eq, ← hV6]; exact k7
      rw [hP, ← rowR_succ] at hI8
      have hpl1 := elS_plain (e := 4) (q := q) (n := j)
      have hpl2 := elS_plain (e := 4) (q := V6.length) (n := j + 1)
      have hcl2 := elS_cells (e := 4) (q := V6.length) (n := j + 1)
      rw [tl_of (X := W)]
      simp (disch := omega) [idxAddr_slice, n0, n1, n2, n3, k7, k8, hpl1, hpl2, hcl2, wrap_i]
      rw [List.append_assoc] at hI8
      exact ⟨V8, rfl, by omega, _, hI8⟩
    · rintro j W hj ⟨hjm, q, hI⟩
      have hjm : j = m := by omega
      subst hjm
      have hhd := hI.hd
      rw [rowR_len] at hhd
      haveI : At W N (.cells true [elS 4 q j]) := ⟨hhd⟩
      have hpl := elS_plain (e := 4) (q := q) (n := j)
      rw [tl_of (X := W)]
      simp (disch := omega) [hpl]
      exact ⟨q, W, tl_of.symm, rfl, fun h0 => by
        have := hI.tb (fun e => h0 (by have := congrArg List.length e; rw [rowR_len] at this; exact this))
        exact ⟨by omega, this.2⟩⟩
theorem PixL.auto {base : CallT} {g lf nC it : Nat} (hlf : 300 ≤ lf) (hC : ChunkF it base nC) : PixL (withL base g (lawOf (autoRd base lf (pixels_c it nC))) g) := fun os p o c fx own d m hp hd hom hc hcl hm => by
  have hpl := join_lt hp
  have hg : goods os.length [.slice (some (p, o)) 1 (4 * m) c fx] = true := by simp [goods, V.good]; exact hpl
  have run : ∀ Y, covers (few os) Y → ∃ q os', enterF base lf [.slice (some (p, o)) 1 (4 * m) c fx] (few Y) (pixels_c it nC) = some (elS 4 q m, few os') ∧ (m ≠ 0 → Y.length ≤ q ∧ (os'[q]?).join = some (.cells true (elV pxV (rowR d o m)))) := fun Y hY => by
    obtain ⟨o2, h2⟩ := cov_cells hY hp (flats_good (List.all_eq_true.2 bytesV_flat))
    exact Pix_run (base := base) (lf := lf) hlf hC (fx := fx) h2 hd hom hc hcl hm
  by_cases h0 : m = 0
  · subst h0
    have : few (os ++ rowO (rowR d o 0)) = few os := by show few (os ++ []) = _; rw [List.append_nil]
    rw [this]
    refine auto_flat hg rfl rfl fun Y hY => ?_
    obtain ⟨q, os', e, _⟩ := run Y hY
    exact ⟨_, e⟩
  · have hne : rowR d o m ≠ [] := fun e => h0 (by have := congrArg List.length e; rw [rowR_len] at this; exact this)
    unfold rowO
    rw [if_neg hne]
    refine auto_one (cs := elV pxV (rowR d o m)) (F := fun p => elS 4 p m) hg (elV_flat fun a => rfl) (fun p => ⟨?_, ?_, fun n hn => ?_⟩) fun Y hY => ?_
    · simp [ids2, ids1, elS, h0, idOf]
    · simp [ok2, ok1, elS, h0, V.leads, V.flat]
    · simp [rn2, rn1, elS, h0, rn0, rn, Nat.not_lt.2 hn]
    · obtain ⟨q, os', e, k⟩ := run Y hY
      obtain ⟨k1, k2⟩ := k h0
      exact ⟨q, os', e, by rw [cov_len hY] at k1; exact k1, k2⟩
def fromR (bs : List Nat) (k : Nat) : Nat := nm bs ((12 + 2 * k : Nat) : Int) 2
def rowsR (bs : List Nat) (n : Nat) : List (List Px) := (List.range n).map fun k => rowR bs (nm bs 8 4 + 4 * fromR bs k) (nm bs 2 2)
theorem rowsR_succ {bs : List Nat} {n : Nat} : rowsR bs (n + 1) = rowsR bs n ++ [rowR bs (nm bs 8 4 + 4 * fromR bs n) (nm bs 2 2)] := by unfold rowsR; rw [List.range_succ, List.map_append]; rfl
theorem rowsR_len {bs : List Nat} {n : Nat} : (rowsR bs n).length = n := by simp [rowsR]
def allIn (bs : List Nat) (n : Nat) : Prop := ∀ k, k < n → fromR bs k + nm bs 2 2 ≤ nm bs 6 2
instance {bs : List Nat} {n : Nat} : Decidable (allIn bs n) := Nat.decidableBallLT _ _
def cpalR (bs : List Nat) : Sum Int (List (List Px)) :=
  if bs.length < 12 then .inl 3 else if 1 < nm bs 0 2 then .inl 2 else if 64 < nm bs 4 2 ∨ 256 < nm bs 2 2 then .inl 4
  else if bs.length < 12 + 2 * nm bs 4 2 ∨ bs.length < nm bs 8 4 + 4 * nm bs 6 2 then .inl 3 else if allIn bs (nm bs 4 2) then .inr (rowsR bs (nm bs 4 2)) else .inl 2
def ReadPost (os : List (Option AObj)) (bs : List Nat) (u : V) (st : St) : Prop := ∃ os', st = few os' ∧ (∀ i, i < os.length → (os'[i]?).join = (os[i]?).join) ∧ os.length ≤ os'.length ∧
  match cpalR bs with
  | .inl e => u = .tuple [.ptr none, .int .i64 e]
  | .inr X => ∃ P w, u = .tuple [.ptr (some (P, 0)), .int .i64 0] ∧ (os'[P]?).join = some (.cells true [.int .i64 (nm bs 2 2 : Int), w]) ∧ XSee os' w X
theorem nm_lt {bs : List Nat} (h : ∀ b ∈ bs, b < 256) (x : Int) (z : Nat) : nm bs x z < 256 ^ z := num_lt h
theorem nm_num {bs : List Nat} {x z : Nat} (h : x + z ≤ bs.length) : num bs (x : Int) z = some (nm bs (x : Int) z) := by
  have : thereB bs.length (x : Int) (z : Int) = true := thereB_true.2 (by omega)
  unfold nm num
  rw [if_pos this]; rfl
theorem RowsAt.add {W Z : List (Option AObj)} {N r r' : Nat} {X : List (List Px)} {row : List Px} {v : V} {vs : List V} (h1 : vs.length = X.length) (h3 : ∀ (j : Nat) (v : V) (row : List Px), vs[j]? = some v → X[j]? = some row → ∃ q, v = elS 4 q row.length ∧ (row ≠ [] → N ≤ q ∧ (X ≠ [] → q ≠ r) ∧ (W[q]?).join = some (.cells true (elV pxV row))))
    (hN : N ≤ W.length) (hZ : ∀ j, N ≤ j → j < W.length → (X ≠ [] → j ≠ r) → (Z[j]?).join = (W[j]?).join) (hr : W.length ≤ r' ∧ (Z[r']?).join = some (.cells true (elV oneS (vs ++ [v])))) (hv : ∃ q, v = elS 4 q row.length ∧ (row ≠ [] → W.length ≤ q ∧ q ≠ r' ∧ (Z[q]?).join = some (.cells true (elV pxV row)))) : RowsAt Z N r' (X ++ [row]) := by
  refine ⟨vs ++ [v], by simp [h1], fun _ => ⟨by omega, hr.2⟩, fun j w ro hw hro => ?_⟩
  by_cases hj : j < X.length
  · rw [List.getElem?_append_left (by omega)] at hw
    rw [List.getElem?_append_left hj] at hro
    obtain ⟨q, z1, z2⟩ := h3 j w ro hw hro
    refine ⟨q, z1, fun hne => ?_⟩
    obtain ⟨z3, z4, z5⟩ := z2 hne
    have hq := join_lt z5
    exact ⟨z3, fun _ => by omega, by rw [hZ q z3 hq z4]; exact z5⟩
  · have hjl := (List.getElem?_eq_some_iff.1 hw).1
    rw [List.length_append, h1] at hjl
    have hjl : j < X.length + 1 := hjl
    have hjx : j = X.length := by omega
    subst hjx
    rw [List.getElem?_append_right (by omega), h1, Nat.sub_self] at hw
    rw [List.getElem?_append_right (by omega), Nat.sub_self] at hro
    cases hw
    cases hro
    obtain ⟨q, rfl, z⟩ := hv
    refine ⟨q, rfl, fun hne => ?_⟩
    obtain ⟨z1, z2, z3⟩ := z hne
    exact ⟨by omega, fun _ => z2, z3⟩
set_option maxHeartbeats 4000000 in
theorem ReadLoop_run {base : CallT} {lf n2 nX : Nat} (hlf : 100 ≤ lf) (h2 : UF 2 base n2) (hX : PixL (base nX)) (hXr : InReg (base nX)) {os W0 : List (Option AObj)} {bs ib cb : List Nat} {a b : Nat} {N n each recs : Nat} (hN : N = os.length) (hold : ∀ i, i < N → (W0[i]?).join = (os[i]?).join) (hW0 : N ≤ a ∧ N ≤ b ∧ a < W0.length ∧ b < W0.length)
    (h256 : ∀ x ∈ bs, x < 256) (hib : ib = (bs.drop 12).take (2 * n)) (hcb : cb = (bs.drop (nm bs 8 4)).take (4 * recs)) (hil : 12 + 2 * n ≤ bs.length) (hcl : nm bs 8 4 + 4 * recs ≤ bs.length) (hn : n ≤ 64) (he : each = nm bs 2 2) (hre : recs = nm bs 6 2) (hne : n = nm bs 4 2) (he256 : each ≤ 256)
    (hbig : 12 ≤ bs.length) (hv : nm bs 0 2 ≤ 1) (ia : (W0[a]?).join = some (newBytes ib)) (ic : (W0[b]?).join = some (newBytes cb)) {s : Env}
    (s1 : s (.i (.o (.o .h))) = .int .i64 (each : Int)) (s2 : s (.i (.i (.o .h))) = .int .i64 (n : Int)) (s3 : s (.i (.o (.i .h))) = .int .i64 (recs : Int)) (s4 : s (.i (.o (.o (.o .h)))) = .slice (some (a, 0)) 1 (2 * n) (2 * n) false) (s5 : s (.i (.i (.o (.o .h)))) = .slice (some (b, 0)) 1 (4 * recs) (4 * recs) false) :
    wp base lf (ReadLoop n2 nX) s (few W0) (finQ [.tmp (.i .h), .tmp (.o (.o .h))] (ReadPost os bs)) := by
  unfold ReadLoop
  have hrl : recs < 65536 := by rw [hre]; exact nm_lt h256 _ _
  have hibl : ib.length = 2 * n := by rw [hib, List.length_take, List.length_drop]; omega
  have hcbl : cb.length = 4 * recs := by rw [hcb, List.length_take, List.length_drop]; omega
  have hib256 : ∀ x ∈ ib, x < 256 := fun x hx => by rw [hib] at hx; exact h256 x (List.mem_of_mem_drop (List.mem_of_mem_take hx))
  have hcb256 : ∀ x ∈ cb, x < 256 := fun x hx => by rw [hcb] at hx; exact h256 x (List.mem_of_mem_drop (List.mem_of_mem_take hx))
  obtain ⟨M, hM⟩ : ∃ M, M = W0.length := ⟨_, rfl⟩
  rw [tl_of (X := W0)]
  simp (disch := omega) [s1, s2]
  rw [tl_eq, ← hM]
  refine wp_loop (fun k s st => ∃ i W r, i + k = n ∧ st = few W ∧ (∀ j, j < M → (W[j]?).join = (W0[j]?).join) ∧ M < W.length ∧ (W[M]?).join = some (.cells true [.int .i64 (each : Int), elS 1 r i]) ∧ RowsAt W (M + 1) r (rowsR bs i) ∧ allIn bs i ∧
    s (.i (.o (.o .h))) = .int .i64 (each : Int) ∧ s (.i (.o (.i .h))) = .int .i64 (recs : Int) ∧ s (.i (.o (.o (.o .h)))) = .slice (some (a, 0)) 1 (2 * n) (2 * n) false ∧ s (.i (.i (.o (.o .h)))) = .slice (some (b, 0)) 1 (4 * recs) (4 * recs) false ∧ s (.i (.o (.i (.o .h)))) = .ptr (some (M, 0)) ∧ s (.o (.i (.o (.o (.o (.i .h)))))) = .int .i64 (n : Int) ∧ s (.i (.i (.o (.o (.o (.i .h)))))) = .int .i64 (i : Int)) n ?_ (by omega) ?_
  · refine ⟨0, _, 0, by omega, rfl, fun j hj => join_app (by omega), by simp [hM], by rw [hM]; exact tl_at (k := 0), RowsAt.start, fun k hk => by omega, ?_, ?_, ?_, ?_, ?_, ?_, ?_⟩ <;> simp [s1, s2, s3, s4, s5, hM]
  · rintro k s st ⟨i, W, r, hk, rfl, hWo, hWl, hWM, hR, hall, t1, t2, t3, t4, t5, t6, t7⟩
    cases k with
    | zero =>
      have hin : i = n := by omega
      subst hin
      simp (disch := omega) [t1, t2, t3, t4, t5, t6, t7, dlt_t, dlt_f, dle_t, dle_f, dltn_t, dltn_f, dlen_t, dlen_f, deq_t, deq_f, deqn_t, deqn_f]
      refine ⟨W, rfl, fun j hj => by rw [hWo j (by omega), hold j (by omega)], by omega, ?_⟩
      have : cpalR bs = .inr (rowsR bs i) := by
        unfold cpalR
        rw [if_neg (by omega), if_neg (by omega), if_neg (by omega), if_neg (by omega), ← hne, if_pos hall]
      rw [this]
      refine ⟨M, elS 1 r i, rfl, by rw [← he]; exact hWM, ?_⟩
      have := RowsAt.see hR
      rw [rowsR_len] at this
      exact this
    | succ k =>
      obtain ⟨fr, hfr⟩ : ∃ fr, fr = fromR bs i := ⟨_, rfl⟩
      have hfrl : fr < 65536 := by rw [hfr]; exact nm_lt h256 _ _
      have iaW : (W[a]?).join = some (newBytes ib) := by rw [hWo a (by omega)]; exact ia
      have icW : (W[b]?).join = some (newBytes cb) := by rw [hWo b (by omega)]; exact ic
      have sa := See.own (f := false) iaW hib256 (Nat.le_refl _)
      rw [hibl] at sa
      have hnum : num ib ((2 * i : Nat) : Int) 2 = some fr := by
        rw [hib, num_cut (by omega) (by omega), nm_num (by omega), hfr]; rfl
      have u1 : ∀ l, base n2 [.slice (some (a, 0)) 1 (2 * n) (2 * n) false, .int .i64 (2 * (i : Int))] (tl W l) = some (.tuple [.int .i64 (fr : Int), .bool true], tl W l) := fun l => by
        rw [show 2 * (i : Int) = ((2 * i : Nat) : Int) from by omega, h2 _ _ _ _ sa.tl (by omega), hnum]; rfl
      haveI : At W M (.cells true [.int .i64 (each : Int), elS 1 r i]) := ⟨hWM⟩
      by_cases hbad : recs < fr + each
      · rw [tl_of (X := W)]
        simp (disch := omega) [t1, t2, t3, t4, t5, t6, t7, dlt_t, dlt_f, dle_t, dle_f, dltn_t, dltn_f, dlen_t, dlen_f, deq_t, deq_f, deqn_t, deqn_f, u1, wrap_i]
        refine ⟨W, tl_of.symm, fun j hj => by rw [hWo j (by omega), hold j (by omega)], by omega, ?_⟩
        have : cpalR bs = .inl 2 := by
          unfold cpalR
          rw [if_neg (by omega), if_neg (by omega), if_neg (by omega), if_neg (by omega), ← hne, if_neg]
          intro h
          have := h i (by omega)
          rw [← hfr, ← he, ← hre] at this
          omega
        rw [this]
      · have sl : sliceOp (.slice 1) (.slice (some (b, 0)) 1 (4 * recs) (4 * recs) false) (some (.int .i64 (4 * (fr : Int)))) (some (.int .i64 (4 * ((fr : Int) + (each : Int))))) none = some (.slice (some (b, 4 * fr)) 1 (4 * each) (4 * recs - 4 * fr) false) := by
          have e1 : (4 * (fr : Int)).toNat = 4 * fr := by omega
          have e2 : (4 * ((fr : Int) + (each : Int))).toNat = 4 * fr + 4 * each := by omega
          rw [slice_lohiI (by omega) (by omega) (by omega), shiftA_some, e1, e2, Nat.mul_one, Nat.zero_add, Nat.add_sub_cancel_left]
        have px : ∀ l, base nX [.slice (some (b, 4 * fr)) 1 (4 * each) (4 * recs - 4 * fr) false] (tl W l) = some (elS 4 (W.length + l.length) each, tl W (l ++ rowO (rowR cb (4 * fr) each))) := fun l => by
          have := hX (W ++ l) b (4 * fr) (4 * recs - 4 * fr) false true cb each (by rw [join_app (join_lt icW)]; exact icW) hcb256 (by omega) (by omega) (by omega) (by omega)
          rw [List.length_append, List.append_assoc] at this
          exact this
        obtain ⟨vs, w1, w2, w3⟩ := hR.ex
        have w1i : vs.length = i := by rw [w1, rowsR_len]
        have hne0 : i ≠ 0 → rowsR bs i ≠ [] := fun h e => h (by have := congrArg List.length e; rw [rowsR_len] at this; exact this)
        have pxr := fun l fr x ft => inReg_tl hXr (px l) (fr := fr) (a := x) (ft := ft)
        have g1 : ∀ (v : V) l, appendV (tl W l) 1 24 (elS 1 r i) (some 1) (some [v]) = some (.slice (some (W.length + l.length, 0)) 1 (i + 1) (i + 1) false, tl (Sp.setK i W r) (l ++ [some (.cells true (elV oneS (vs ++ [v])))])) := fun v l =>
          growEl_tn (X := W) (f := oneS) (e := 1) (w := 24) (q := r) (n := i) (L := vs) (fun _ => rfl) (by omega) v w1i (by omega) (fun h => (w2 (hne0 h)).2) l
        haveI : Df i r M := ⟨fun h => by have := (w2 (hne0 h)).1; omega⟩
        have hrow : rowR cb (4 * fr) each = rowR bs (nm bs 8 4 + 4 * fromR bs i) (nm bs 2 2) := by
          rw [← he, ← hfr]
          unfold rowR
          refine List.map_congr_left fun j hj => ?_
          have hj := List.mem_range.1 hj
          have at_ : ∀ x, x < 4 * recs → cb.getD x 0 = bs.getD (nm bs 8 4 + x) 0 := fun x hx => by
            rw [hcb, List.getD_eq_getElem?_getD, List.getD_eq_getElem?_getD, List.getElem?_take, if_pos hx, List.getElem?_drop]
          unfold pxR
          rw [at_ _ (by omega), at_ _ (by omega), at_ _ (by omega), at_ _ (by omega)]
          congr 1 <;> congr 1 <;> omega
        have hcl2 : ∀ q, (elS 4 q each).cells = some [elS 4 q each] := fun q => elS_cells
        have hpl2 : ∀ q, (elS 4 q each).plain = true := fun q => elS_plain
        have hpl1 := elS_plain (e := 1) (q := r) (n := i)
        obtain ⟨O, hO⟩ : ∃ O, O = rowO (rowR cb (4 * fr) each) := ⟨_, rfl⟩
        rw [← hO] at px pxr
        have hOl : each = 0 ∧ O = [] ∨ each ≠ 0 ∧ O = [some (.cells true (elV pxV (rowR cb (4 * fr) each)))] := by
          rw [hO]; unfold rowO
          by_cases h0 : each = 0
          · exact .inl ⟨h0, by rw [if_pos (by rw [h0]; rfl)]⟩
          · exact .inr ⟨h0, by rw [if_neg (fun e => h0 (by have := congrArg List.length e; rw [rowR_len] at this; exact this))]⟩
        have close : ∀ Z, (∀ j, j < W.length → j ≠ M → (i ≠ 0 → j ≠ r) → (Z[j]?).join = (W[j]?).join) → W.length ≤ Z.length → (Z[W.length + O.length + 1]?).join = some (.cells true (elV oneS (vs ++ [elS 4 W.length each]))) → (each ≠ 0 → (Z[W.length]?).join = some (.cells true (elV pxV (rowR cb (4 * fr) each)))) → (Z[M]?).join = some (.cells true [.int .i64 (each : Int), elS 1 (W.length + O.length + 1) (i + 1)]) →
            (∀ j, j < M → (Z[j]?).join = (W0[j]?).join) ∧ M < Z.length ∧ (Z[M]?).join = some (.cells true [.int .i64 (each : Int), elS 1 (W.length + O.length + 1) (i + 1)]) ∧ RowsAt Z (M + 1) (W.length + O.length + 1) (rowsR bs (i + 1)) ∧ allIn bs (i + 1) := fun Z z1 z2 z3 z4 z5 => by
          refine ⟨fun j hj => by rw [z1 j (by omega) (by omega) (fun h => by have := (w2 (hne0 h)).1; omega), hWo j hj], by omega, z5, ?_, fun k hk => ?_⟩
          · rw [rowsR_succ, ← hrow]
            refine RowsAt.add (W := W) w1 w3 (by omega) (fun j h1 h2 h3 => z1 j h2 (by omega) (fun h => h3 (hne0 h))) ⟨by omega, z3⟩ ⟨W.length, by rw [rowR_len], fun hne => ⟨Nat.le_refl _, by omega, z4 (fun h => hne (by rw [h]; rfl))⟩⟩
          · by_cases hki : k < i
            · exact hall k hki
            · have : k = i := by omega
              subst this
              rw [← hfr, ← he, ← hre]; omega
        rcases hOl with ⟨h0, rfl⟩ | ⟨h0, rfl⟩
        · rw [tl_of (X := W)]
          simp (disch := omega) [t1, t2, t3, t4, t5, t6, t7, dlt_t, dlt_f, dle_t, dle_f, dltn_t, dltn_f, dlen_t, dlen_f, deq_t, deq_f, deqn_t, deqn_f, u1, wrap_i, sl, px, pxr, hcl2, hpl2, hpl1, g1]
          obtain ⟨c1, c2, c3, c4, c5⟩ := close ((Sp.setK i W r).set M (some (AObj.cells true [V.int .i64 (each : Int), V.slice (some (W.length + 1, 0)) 1 (i + 1) (i + 1) false])) ++ [some (AObj.cells true [elS 4 W.length each]), some (.cells true (elV oneS (vs ++ [elS 4 W.length each])))]) (fun j h1 h2 h3 => by
            rw [join_app (by simp [setK_len]; omega), join_set (fun e => h2 e.symm), setK_at h3]) (by simp [setK_len]) (tn_at (k := 1)) (fun h => absurd h0 h) (by
            rw [join_app (by simp [setK_len]; omega), join_set_same (by rw [setK_len]; omega)]
            exact congrArg (fun v => some (AObj.cells true [V.int .i64 (each : Int), v])) (if_neg (by omega)).symm)
          exact ⟨k, by omega, i + 1, by omega, _, rfl, c1, c2, _, c3, c4, c5, by omega⟩
        · rw [tl_of (X := W)]
          simp (disch := omega) [t1, t2, t3, t4, t5, t6, t7, dlt_t, dlt_f, dle_t, dle_f, dltn_t, dltn_f, dlen_t, dlen_f, deq_t, deq_f, deqn_t, deqn_f, u1, wrap_i, sl, px, pxr, hcl2, hpl2, hpl1, g1]
          obtain ⟨c1, c2, c3, c4, c5⟩ := close ((Sp.setK i W r).set M (some (AObj.cells true [V.int .i64 (each : Int), V.slice (some (W.length + 2, 0)) 1 (i + 1) (i + 1) false])) ++ [some (AObj.cells true (elV pxV (rowR cb (4 * fr) each))), some (.cells true [elS 4 W.length each]), some (.cells true (elV oneS (vs ++ [elS 4 W.length each])))]) (fun j h1 h2 h3 => by
            rw [join_app (by simp [setK_len]; omega), join_set (fun e => h2 e.symm), setK_at h3]) (by simp [setK_len]) (tn_at (k := 2)) (fun h => tn_at (k := 0)) (by
            rw [join_app (by simp [setK_len]; omega), join_set_same (by rw [setK_len]; omega)]
            exact congrArg (fun v => some (AObj.cells true [V.int .i64 (each : Int), v])) (if_neg (by omega)).symm)
          exact ⟨k, by omega, i + 1, by omega, _, rfl, c1, c2, _, c3, c4, c5, by omega⟩
end Go.Vabs.Dd

namespace Go.Vabs.De
set_option linter.unusedVariables false
set_option linter.unusedSimpArgs false
set_option maxRecDepth 10000
attribute [local simp] wp_skip wp_ret wp_exit wp_reg wp_seq wp_cond wp_block thenQ_normal thenQ_ret thenQ_exit blockQ_normal blockQ_ret blockQ_exit wpCond_true wpCond_false wpOps_nil wpVal_some wpGuard_true wpGuard_false wpOps_guard wpOps_cons
  put_at put_no ev_c ev_slot posEq_h posEq_o posEq_i posEq_ho posEq_hi posEq_oh posEq_ih posEq_oi posEq_io sel_true sel_false
  okv_some step_mv step_call step_pick pickV_bool step_bin bin_add bin_sub bin_mul bin_eql bin_neq bin_lss bin_leq bin_gtr bin_geq bin_eqb bin_neb bin_eqs bin_nes step_un un_not un_neg step_len len_slice len_str len_const step_extract extractV nth step_convInt conv_int step_convStr step_slice step_idxAddr natOf_nat step_load step_index step_field step_fieldAddr step_build step_minmax
  step_alloc step_bslice bsliceV_some newV_some step_store step_append boolIs_b boolIs_t finQ_ret finQ_normal ressE_nil ressE_cons resE_tmp consO_some initE_nil initE_cons pos_0 pos_1 pos_2 pos_3 pos_4 pos_5 pos_6 pos_7 pos_8 plain_bool plain_int plain_str plain_ptr plain_slice plain_map plain_agg plain_func plain_nilFunc V.undef oneOf_one oneOf_two ble_self
open Go.Vabs.Pk Go.Vabs.Ph Go.Vabs.Sa Go.Vabs.Sb Go.Vabs.Sc Go.Vabs.Sd Go.Vabs.Se Go.Vabs.Sg Go.Vabs.Sh Go.Vabs.Sm Go.Vabs.Sn Go.Vabs.Sp Go.Vabs.Sr Go.Vabs.St Go.Vabs.Su Go.Vabs.L2 Go.Vabs.Na Go.Vabs.Nb Go.Vabs.Ra Go.Vabs.Rb Go.Vabs.Rc Go.Vabs.Rd Go.Vabs.Re Go.Vabs.Ca Go.Vabs.Cb Go.Vabs.Vc Go.Vabs.Da Go.Vabs.Db Go.Vabs.Dd
attribute [local simp] step_nilchk nilchk_ptr step_box cells_int cells_bool cells_str cells_slice cells_ptr cells_agg fieldAddrV natOf_zero fill repN splice over newV step_appendZ
  wp_dreg wpDs_nil wpDs_cons wantedE_none wantedE_some wpDGuard_true wpDGuard_lim wpDGuard_false wpDLim_true wpDVal_free wpDVal_lim back_limited next_limited limF_dir limF_false foot_load foot_store foot_convStr okAll_nil okAll_cons pastsOf nthP ahead few_next load_limited convStr_limited blt_dec okPair_dd okPair_dc okPair_cd okPair_cc anyIn_nil anyIn_same anyIn_cons meets_nil meets_nil'
  tn_alloc tn_load tn_load0 tn_store tn_store0 storeT_some loadC_some cellsAt_zero cellsAt_succ ownAt_zero ownAt_succ tn_first tn_first0 firstC_some tn_grow_none tn_grow tn_grow0 growN_some tn_fix tn_fix0 fixN_some bn_load bn_first bn_grow bn_store tn_next tn_alloc_dir tl_store_d tl_back tl_back_few few_back_tl backv_some back_back cut takeN nbeq_dec ble_dec meets_cons mem_nil mem_cons idOf load_d convStr_d lenOfS firstNo natOf_int if_leN bn_fix foot_bslice foot_alloc foot_box foot_append foot_call
def tCpal : List Nat := [67, 80, 65, 76]
theorem tab_tl {f : CallT} {n : Nat} (h : TabLF f n) {X : List (Option AObj)} {F : Nat} {L : List Itm} {t b : List Nat} (hF : FontSee X F L) (hL : Tame L) (ha : askL L t = some b) (l : List (Option AObj)) :
    f n [.ptr (some (F, 0)), .str t] (tl X l) = some (.tuple [heldV (X.length + l.length) b, .bool true], tl X (l ++ [some (newBytes b)])) := by
  have := h (X ++ l) F L t hF.grow hL
  rw [ha] at this
  dsimp only at this
  rw [List.length_append, List.append_assoc] at this
  exact this
theorem part_yes {call : CallT} {nP : Nat} (hP : PartF call nP) {X l : List (Option AObj)} {v : V} {bs : List Nat} {x n : Int} (hv : bytesAt (tl X l) v = some bs) (hnil : isNil v = false) (hl : bs.length ≤ 140737488354000) (ht : thereB bs.length x n = true) :
    call nP [v, .int .i64 x, .int .i64 n] (tl X l) = some (.tuple [.slice (some (X.length + l.length, 0)) 1 n.toNat n.toNat false, .bool true], tl X (l ++ [some (newBytes (cutB bs x n))])) := by
  have := part_few hP (os := X ++ l) hv hnil hl ht
  rw [List.length_append, List.append_assoc] at this
  exact this
theorem part_no {call : CallT} {nP : Nat} (hP : PartF call nP) {st : St} {v : V} {bs : List Nat} {x n : Int} (hv : bytesAt st v = some bs) (hl : bs.length ≤ 140737488354000) (ht : thereB bs.length x n = false) :
    call nP [v, .int .i64 x, .int .i64 n] st = some (.tuple [.slice none 0 0 0 true, .bool false], st) := by
  rw [hP _ _ _ _ _ hv hl, ht]
  rfl
def ReadF (call : CallT) (g : Nat) : Prop := ∀ os F bs, FontSee os F [(tCpal, bs)] → Tame [(tCpal, bs)] → ∃ u st', call g [.ptr (some (F, 0))] (few os) = some (u, st') ∧ ReadPost os bs u st'
set_option maxHeartbeats 4000000 in
theorem ReadF.code {base : CallT} {g lf nT n2 n4 nP nX : Nat} (hlf : 100 ≤ lf) (hT : TabLF base nT) (h2 : UF 2 base n2) (h4 : UF 4 base n4) (hP : PartF base nP) (hX : PixL (base nX)) (hXr : InReg (base nX)) : ReadF (Vabs.withF base g lf (ReadP_c nT n2 n4 nP nX)) g := fun os F bs hF hTm => by
  rw [withF_same]
  have main := enter_wp (call := base) (lf := lf) (n := 133) (args := [.ptr (some (F, 0))]) (st := few os) (K := ReadPost os bs) (c := (ReadP_c nT n2 n4 nP nX).code) (rs := (ReadP_c nT n2 n4 nP nX).results) ?_
  · exact main
  · unfold ReadP_c
    dsimp only
    have h256 : ∀ z ∈ bs, z < 256 := (hTm.tabs (tCpal, bs) (by simp)).2
    have hlen : bs.length ≤ 140737488354000 := (hTm.tabs (tCpal, bs) (by simp)).1
    have t1 := tab_tl hT hF hTm (t := tCpal) (b := bs) (by simp [askL])
    unfold tCpal at t1
    obtain ⟨z, hz⟩ : ∃ z, z = bs.length := ⟨_, rfl⟩
    have hh1 : (heldV os.length bs).plain = true := rfl
    have hln : ∀ st, lenV st .slice (heldV os.length bs) = some (.int .i64 (z : Int)) := fun st => by rw [hz]; rfl
    have keep : ∀ l : List (Option AObj), (∀ i, i < os.length → ((os ++ l)[i]?).join = (os[i]?).join) ∧ os.length ≤ (os ++ l).length := fun l => ⟨fun i hi => join_app hi, by simp⟩
    rw [tl_of (X := os)]
    by_cases c1 : z < 12
    · simp (disch := omega) [t1, hh1, hln, dlt_t, dlt_f, dle_t, dle_f, dltn_t, dltn_f, dlen_t, dlen_f, deq_t, deq_f, deqn_t, deqn_f, bin_eqptr]
      refine ⟨_, rfl, (keep _).1, (keep _).2, ?_⟩
      rw [show cpalR bs = .inl 3 from by unfold cpalR; rw [if_pos (by omega)]]
    · have v1 : ∀ l, See (os ++ (some (newBytes bs) :: l)) (heldV os.length bs) bs := fun l => See.own (by have := tl_at (X := os) (l := some (newBytes bs) :: l) (k := 0); exact this) h256 (Nat.le_refl _)
      have u : ∀ (x : Int) l, base n2 [heldV os.length bs, .int .i64 x] (tl os (some (newBytes bs) :: l)) = some (.tuple [.int .i64 (nm bs x 2 : Int), .bool (num bs x 2).isSome], tl os (some (newBytes bs) :: l)) := fun x l => by rw [tl_eq, h2 _ _ _ _ (v1 l).at (by omega)]; rfl
      have u4 : ∀ (x : Int) l, base n4 [heldV os.length bs, .int .i64 x] (tl os (some (newBytes bs) :: l)) = some (.tuple [.int .i64 (nm bs x 4 : Int), .bool (num bs x 4).isSome], tl os (some (newBytes bs) :: l)) := fun x l => by rw [tl_eq, h4 _ _ _ _ (v1 l).at (by omega)]; rfl
      have l0 := nm_lt h256 0 2
      have l2 := nm_lt h256 2 2
      have l4 := nm_lt h256 4 2
      have l6 := nm_lt h256 6 2
      have l8 := nm_lt h256 8 4
      have u0 := u 0
      have u2 := u 2
      have u4' := u 4
      have u6 := u 6
      have u8 := u4 8
      obtain ⟨ver, hver⟩ : ∃ x, x = nm bs 0 2 := ⟨_, rfl⟩
      obtain ⟨each, heach⟩ : ∃ x, x = nm bs 2 2 := ⟨_, rfl⟩
      obtain ⟨cnt, hcnt⟩ : ∃ x, x = nm bs 4 2 := ⟨_, rfl⟩
      obtain ⟨recs, hrecs⟩ : ∃ x, x = nm bs 6 2 := ⟨_, rfl⟩
      obtain ⟨at_, hat⟩ : ∃ x, x = nm bs 8 4 := ⟨_, rfl⟩
      rw [← hver] at u0 l0
      rw [← heach] at u2 l2
      rw [← hcnt] at u4' l4
      rw [← hrecs] at u6 l6
      rw [← hat] at u8 l8
      by_cases c2 : 1 < ver
      · simp (disch := omega) [t1, hh1, hln, dlt_t, dlt_f, dle_t, dle_f, dltn_t, dltn_f, dlen_t, dlen_f, deq_t, deq_f, deqn_t, deqn_f, bin_eqptr, u0, u2, u4', u6, u8]
        refine ⟨_, rfl, (keep _).1, (keep _).2, ?_⟩
        rw [show cpalR bs = .inl 2 from by unfold cpalR; rw [if_neg (by omega), if_pos (by omega)]]
      · by_cases c3 : 64 < cnt
        · simp (disch := omega) [t1, hh1, hln, dlt_t, dlt_f, dle_t, dle_f, dltn_t, dltn_f, dlen_t, dlen_f, deq_t, deq_f, deqn_t, deqn_f, bin_eqptr, u0, u2, u4', u6, u8]
          refine ⟨_, rfl, (keep _).1, (keep _).2, ?_⟩
          rw [show cpalR bs = .inl 4 from by unfold cpalR; rw [if_neg (by omega), if_neg (by omega), if_pos (by omega)]]
        · by_cases c4 : 256 < each
          · simp (disch := omega) [t1, hh1, hln, dlt_t, dlt_f, dle_t, dle_f, dltn_t, dltn_f, dlen_t, dlen_f, deq_t, deq_f, deqn_t, deqn_f, bin_eqptr, u0, u2, u4', u6, u8]
            refine ⟨_, rfl, (keep _).1, (keep _).2, ?_⟩
            rw [show cpalR bs = .inl 4 from by unfold cpalR; rw [if_neg (by omega), if_neg (by omega), if_pos (by omega)]]
          · have short : bs.length < 12 + 2 * cnt ∨ bs.length < at_ + 4 * recs → cpalR bs = .inl 3 := fun h => by unfold cpalR; rw [if_neg (by omega), if_neg (by omega), if_neg (by omega), if_pos (by omega)]
            have hcut1 : cutB bs 12 (2 * (cnt : Int)) = (bs.drop 12).take (2 * cnt) := by unfold cutB; rw [show (2 * (cnt : Int)).toNat = 2 * cnt from by omega]; rfl
            have hcut2 : cutB bs (at_ : Int) (4 * (recs : Int)) = (bs.drop at_).take (4 * recs) := by unfold cutB; rw [show (4 * (recs : Int)).toNat = 4 * recs from by omega, Int.toNat_natCast]
            have y1 : 12 + 2 * cnt ≤ z → ∀ l, base nP [heldV os.length bs, .int .i64 12, .int .i64 (2 * (cnt : Int))] (tl os (some (newBytes bs) :: l)) = some (.tuple [.slice (some (os.length + (l.length + 1), 0)) 1 (2 * cnt) (2 * cnt) false, .bool true], tl os (some (newBytes bs) :: (l ++ [some (newBytes ((bs.drop 12).take (2 * cnt)))]))) := fun h l => by
              have := part_yes hP (X := os) (l := some (newBytes bs) :: l) (x := 12) (n := 2 * (cnt : Int)) (v1 l).at rfl hlen (thereB_true.2 (by omega))
              rw [hcut1, show (2 * (cnt : Int)).toNat = 2 * cnt from by omega] at this
              exact this
            have y2 : at_ + 4 * recs ≤ z → ∀ l, base nP [heldV os.length bs, .int .i64 (at_ : Int), .int .i64 (4 * (recs : Int))] (tl os (some (newBytes bs) :: l)) = some (.tuple [.slice (some (os.length + (l.length + 1), 0)) 1 (4 * recs) (4 * recs) false, .bool true], tl os (some (newBytes bs) :: (l ++ [some (newBytes ((bs.drop at_).take (4 * recs)))]))) := fun h l => by
              have := part_yes hP (X := os) (l := some (newBytes bs) :: l) (x := (at_ : Int)) (n := 4 * (recs : Int)) (v1 l).at rfl hlen (thereB_true.2 (by omega))
              rw [hcut2, show (4 * (recs : Int)).toNat = 4 * recs from by omega] at this
              exact this
            have n1 : ¬ 12 + 2 * cnt ≤ z → ∀ l, base nP [heldV os.length bs, .int .i64 12, .int .i64 (2 * (cnt : Int))] (tl os (some (newBytes bs) :: l)) = some (.tuple [.slice none 0 0 0 true, .bool false], tl os (some (newBytes bs) :: l)) := fun h l =>
              part_no hP (v1 l).at hlen (by rw [Bool.eq_false_iff, ne_eq, thereB_true]; omega)
            have n2' : ¬ at_ + 4 * recs ≤ z → ∀ l, base nP [heldV os.length bs, .int .i64 (at_ : Int), .int .i64 (4 * (recs : Int))] (tl os (some (newBytes bs) :: l)) = some (.tuple [.slice none 0 0 0 true, .bool false], tl os (some (newBytes bs) :: l)) := fun h l =>
              part_no hP (v1 l).at hlen (by rw [Bool.eq_false_iff, ne_eq, thereB_true]; omega)
            by_cases d1 : 12 + 2 * cnt ≤ z
            · have y1 := y1 d1
              by_cases d2 : at_ + 4 * recs ≤ z
              · have y2 := y2 d2
                simp (disch := omega) [t1, hh1, hln, dlt_t, dlt_f, dle_t, dle_f, dltn_t, dltn_f, dlen_t, dlen_f, deq_t, deq_f, deqn_t, deqn_f, bin_eqptr, u0, u2, u4', u6, u8, y1, y2, wrap_i]
                rw [tl_eq]
                refine ReadLoop_run hlf h2 hX hXr (N := os.length) (a := os.length + 1) (b := os.length + 2) (n := cnt) (each := each) (recs := recs) rfl (fun i hi => join_app hi) (by simp) h256 rfl (by rw [← hat]) (by omega) (by omega) (by omega) heach hrecs hcnt (by omega) (by omega) (by omega) (by rw [tl_at]; rfl) (by rw [tl_at]; rfl) ?_ ?_ ?_ ?_ ?_ <;> simp
              · have n2' := n2' d2
                simp (disch := omega) [t1, hh1, hln, dlt_t, dlt_f, dle_t, dle_f, dltn_t, dltn_f, dlen_t, dlen_f, deq_t, deq_f, deqn_t, deqn_f, bin_eqptr, u0, u2, u4', u6, u8, y1, n2', wrap_i]
                refine ⟨_, rfl, (keep _).1, (keep _).2, ?_⟩
                rw [short (by omega)]
            · have n1 := n1 d1
              by_cases d2 : at_ + 4 * recs ≤ z
              · have y2 := y2 d2
                simp (disch := omega) [t1, hh1, hln, dlt_t, dlt_f, dle_t, dle_f, dltn_t, dltn_f, dlen_t, dlen_f, deq_t, deq_f, deqn_t, deqn_f, bin_eqptr, u0, u2, u4', u6, u8, n1, y2, wrap_i]
                refine ⟨_, rfl, (keep _).1, (keep _).2, ?_⟩
                rw [short (by omega)]
              · have n2' := n2' d2
                simp (disch := omega) [t1, hh1, hln, dlt_t, dlt_f, dle_t, dle_f, dltn_t, dltn_f, dlen_t, dlen_f, deq_t, deq_f, deqn_t, deqn_f, bin_eqptr, u0, u2, u4', u6, u8, n1, n2', wrap_i]
                refine ⟨_, rfl, (keep _).1, (keep _).2, ?_⟩
                rw [short (by omega)]
structure PalAt (os : List (Option AObj)) (P each : Nat) (X : List (List Px)) : Prop where
  ex : ∃ w own, (os[P]?).join = some (.cells own [.int .i64 (each : Int), w]) ∧ XSee os w X
  len : ∀ row ∈ X, row.length = each
  few : X.length ≤ 64 ∧ each ≤ 256
def CountL (f : FnT) : Prop := ∀ os P each X, PalAt os P each X → f [.ptr (some (P, 0))] (few os) = some (.int .i64 (X.length : Int), few os)
theorem CountL.auto {base : CallT} {g lf : Nat} : CountL (withL base g (lawOf (autoRd base lf CountP_c)) g) := fun os P each X h => by
  obtain ⟨w, own, h1, h2⟩ := h.ex
  have hl := join_lt h1
  refine auto_flat (by simp [goods, V.good]; exact hl) rfl rfl fun Y hY => ?_
  obtain ⟨o2, h1'⟩ := cov_cells hY h1 (by simp [goods, V.good, h2.good])
  haveI : At Y P (.cells o2 [.int .i64 (each : Int), w]) := ⟨h1'⟩
  have e1 := fun st => h2.len st
  refine enter_ex ?_
  rw [tl_of (X := Y)]
  simp (disch := omega) [e1, h2.plain]
def EntriesL (f : FnT) : Prop := ∀ os P each X, PalAt os P each X → f [.ptr (some (P, 0))] (few os) = some (.int .i64 (each : Int), few os)
theorem EntriesL.auto {base : CallT} {g lf : Nat} : EntriesL (withL base g (lawOf (autoRd base lf EntriesP_c)) g) := fun os P each X h => by
  obtain ⟨w, own, h1, h2⟩ := h.ex
  have hl := join_lt h1
  refine auto_flat (by simp [goods, V.good]; exact hl) rfl rfl fun Y hY => ?_
  obtain ⟨o2, h1'⟩ := cov_cells hY h1 (by simp [goods, V.good, h2.good])
  haveI : At Y P (.cells o2 [.int .i64 (each : Int), w]) := ⟨h1'⟩
  refine enter_ex ?_
  rw [tl_of (X := Y)]
  simp (disch := omega)
def px0 : Px := ⟨0, 0, 0, 0⟩
def colorAt (X : List (List Px)) (i k : Int) : Option Px := if 0 ≤ i ∧ 0 ≤ k then (X[i.toNat]?).bind fun row => row[k.toNat]? else none
def ColorAtL (f : FnT) : Prop := ∀ os P each X (i k : Int), PalAt os P each X → f [.ptr (some (P, 0)), .int .i64 i, .int .i64 k] (few os) = some (.tuple [.agg (pxV ((colorAt X i k).getD px0)), .bool (colorAt X i k).isSome], few os)
theorem ColorAtL.auto {base : CallT} {g lf : Nat} : ColorAtL (withL base g (lawOf (autoRd base lf ColorP_c)) g) := fun os P each X i k h => by
  obtain ⟨w, own, h1, h2⟩ := h.ex
  have hl := join_lt h1
  obtain ⟨hf1, hf2⟩ := h.few
  refine auto_flat (by simp [goods, V.good]; exact hl) rfl rfl fun Y hY => ?_
  obtain ⟨o2, h1'⟩ := cov_cells hY h1 (by simp [goods, V.good, h2.good])
  haveI : At Y P (.cells o2 [.int .i64 (each : Int), w]) := ⟨h1'⟩
  have h2 := h2.cov hY
  obtain ⟨n, hn⟩ : ∃ n, n = X.length := ⟨_, rfl⟩
  have e1 := fun st => h2.len st
  rw [← hn] at e1
  refine enter_ex ?_
  by_cases c1 : i < 0
  · rw [show colorAt X i k = none from if_neg (by omega)]
    rw [tl_of (X := Y)]
    simp (disch := omega) [e1, h2.plain, dlt_t, dlt_f, dle_t, dle_f, dltn_t, dltn_f, dlen_t, dlen_f, deq_t, deq_f, deqn_t, deqn_f, resE_cell, pxV, px0]
  · by_cases c2 : (n : Int) ≤ i
    · rw [show colorAt X i k = none from by
        unfold colorAt
        split
        · rw [List.getElem?_eq_none (by omega)]; rfl
        · rfl]
      rw [tl_of (X := Y)]
      simp (disch := omega) [e1, h2.plain, dlt_t, dlt_f, dle_t, dle_f, dltn_t, dltn_f, dlen_t, dlen_f, deq_t, deq_f, deqn_t, deqn_f, resE_cell, pxV, px0]
    · obtain ⟨a, rfl⟩ : ∃ a : Nat, i = (a : Int) := ⟨i.toNat, by omega⟩
      obtain ⟨row, hrow⟩ : ∃ row, X[a]? = some row := ⟨_, List.getElem?_eq_getElem (by omega)⟩
      have hrl := h.len row (List.mem_of_getElem? hrow)
      by_cases c3 : k < 0
      · rw [show colorAt X a k = none from if_neg (by omega)]
        rw [tl_of (X := Y)]
        simp (disch := omega) [e1, h2.plain, dlt_t, dlt_f, dle_t, dle_f, dltn_t, dltn_f, dlen_t, dlen_f, deq_t, deq_f, deqn_t, deqn_f, resE_cell, pxV, px0]
      · by_cases c4 : (each : Int) ≤ k
        · rw [show colorAt X a k = none from by
            unfold colorAt
            split
            · rw [Int.toNat_natCast, hrow]
              show row[k.toNat]? = none
              rw [List.getElem?_eq_none (by omega)]
            · rfl]
          rw [tl_of (X := Y)]
          simp (disch := omega) [e1, h2.plain, dlt_t, dlt_f, dle_t, dle_f, dltn_t, dltn_f, dlen_t, dlen_f, deq_t, deq_f, deqn_t, deqn_f, resE_cell, pxV, px0]
        · obtain ⟨b, rfl⟩ : ∃ b : Nat, k = (b : Int) := ⟨k.toNat, by omega⟩
          obtain ⟨Q, hQ⟩ : ∃ Q, row[b]? = some Q := ⟨_, List.getElem?_eq_getElem (by omega)⟩
          rw [show colorAt X a b = some Q from by
            unfold colorAt
            rw [if_pos (by omega), Int.toNat_natCast, Int.toNat_natCast, hrow]
            exact hQ]
          obtain ⟨p, v, d1, d3, d2⟩ := h2.ldK hrow
          have d1 : idxAddrV (.slice 1) w (some a) = some (.ptr (some p)) := d1 (.int .i64 (a : Int)) rfl
          have d2 := fun l => d2 Y l (fun _ _ => rfl)
          obtain ⟨pp, x1, x2⟩ := d3.ld hQ
          have x1 : idxAddrV (.slice 4) v (some b) = some (.ptr (some pp)) := x1 (.int .i64 (b : Int)) rfl
          unfold pxV at x2
          rw [tl_of (X := Y)]
          simp (disch := omega) [e1, h2.plain, d3.plain, dlt_t, dlt_f, dle_t, dle_f, dltn_t, dltn_f, dlen_t, dlen_f, deq_t, deq_f, deqn_t, deqn_f, resE_cell, d1, d2, x1, x2, pxV]
end Go.Vabs.De

namespace Go.Vabs.Df
set_option linter.unusedVariables false
set_option linter.unusedSimpArgs false
set_option maxRecDepth 10000
attribute [local simp] wp_skip wp_ret wp_exit wp_reg wp_seq wp_cond wp_block thenQ_normal thenQ_ret thenQ_exit blockQ_normal blockQ_ret blockQ_exit wpCond_true wpCond_false wpOps_nil wpVal_some wpGuard_true wpGuard_false wpOps_guard wpOps_cons
  put_at put_no ev_c ev_slot posEq_h posEq_o posEq_i posEq_ho posEq_hi posEq_oh posEq_ih posEq_oi posEq_io sel_true sel_false
  okv_some step_mv step_call step_pick pickV_bool step_bin bin_add bin_sub bin_mul bin_eql bin_neq bin_lss bin_leq bin_gtr bin_geq bin_eqb bin_neb bin_eqs bin_nes step_un un_not un_neg step_len len_slice len_str len_const step_extract extractV nth step_convInt conv_int step_convStr step_slice step_idxAddr natOf_nat step_load step_index step_field step_fieldAddr step_build step_minmax
  step_alloc step_bslice bsliceV_some newV_some step_store step_append boolIs_b boolIs_t finQ_ret finQ_normal ressE_nil ressE_cons resE_tmp consO_some initE_nil initE_cons pos_0 pos_1 pos_2 pos_3 pos_4 pos_5 pos_6 pos_7 pos_8 plain_bool plain_int plain_str plain_ptr plain_slice plain_map plain_agg plain_func plain_nilFunc V.undef oneOf_one oneOf_two ble_self
open Go.Vabs.Pk Go.Vabs.Ph Go.Vabs.Sa Go.Vabs.Sb Go.Vabs.Sc Go.Vabs.Sd Go.Vabs.Se Go.Vabs.Sg Go.Vabs.Sh Go.Vabs.Sm Go.Vabs.Sn Go.Vabs.Sp Go.Vabs.Sr Go.Vabs.St Go.Vabs.Su Go.Vabs.L2 Go.Vabs.Na Go.Vabs.Nb Go.Vabs.Ra Go.Vabs.Rb Go.Vabs.Rc Go.Vabs.Rd Go.Vabs.Re Go.Vabs.Ca Go.Vabs.Cb Go.Vabs.Vc Go.Vabs.Da Go.Vabs.Db Go.Vabs.Dc Go.Vabs.Dd Go.Vabs.De
def hdr (n e : Nat) : List Nat := bigB 0 2 ++ (bigB e 2 ++ (bigB n 2 ++ (bigB (n * e) 2 ++ bigB (12 + 2 * n) 4)))
def ixs (f : Nat → Nat) (n : Nat) : List Nat := ((List.range n).map fun k => bigB (f k) 2).flatten
def layQ (n e : Nat) (f : Nat → Nat) (F : List Px) : List Nat := hdr n e ++ ixs f n ++ rowB F
theorem hdr_len {n e : Nat} : (hdr n e).length = 12 := by unfold hdr; simp [bigB_len]
theorem ixs_succ {f : Nat → Nat} {n : Nat} : ixs f (n + 1) = ixs f n ++ bigB (f n) 2 := by unfold ixs; rw [List.range_succ]; simp
theorem ixs_len {f : Nat → Nat} : ∀ n, (ixs f n).length = 2 * n
  | 0 => rfl
  | n + 1 => by rw [ixs_succ, List.length_append, ixs_len n, bigB_len]; omega
theorem layQ_len {n e : Nat} {f : Nat → Nat} {F : List Px} : (layQ n e f F).length = 12 + 2 * n + 4 * F.length := by unfold layQ; rw [List.length_append, List.length_append, hdr_len, ixs_len, rowB_len]
theorem flat_len {X : List (List Px)} {e : Nat} (h : ∀ row ∈ X, row.length = e) : X.flatten.length = X.length * e := by
  induction X with
  | nil => simp
  | cons row X ih => rw [List.flatten_cons, List.length_append, h row (List.mem_cons_self ..), ih fun r hr => h r (List.mem_cons_of_mem _ hr), List.length_cons, Nat.add_mul, Nat.one_mul, Nat.add_comm]
theorem colB_flat {X : List (List Px)} : colB X = rowB X.flatten := by
  induction X with
  | nil => rfl
  | cons row X ih => show rowB row ++ colB X = _; rw [ih, List.flatten_cons]; unfold rowB; simp
theorem big_split {v : Nat} (h : v < 65536) : bigB v 4 = bigB 0 2 ++ bigB v 2 := by
  have h1 : v / 256 ^ 3 = 0 := Nat.div_eq_of_lt (by omega)
  have h2 : v / 256 ^ 2 = 0 := Nat.div_eq_of_lt (by omega)
  simp [bigB]
  omega
theorem layP_Q {X : List (List Px)} (hn : X.length ≤ 64) : layP X = layQ X.length (eachX X) (fun k => k * eachX X) X.flatten := by
  unfold layP layQ hdr ixs idxB
  rw [big_split (by omega), colB_flat]
  simp
end Go.Vabs.Df
