/- Lemmas for this claim, text Ed. No condition. -/
import Derived.Test.YtcgiiomghmffbaaVabsDe
namespace Go.Vabs.Ed
set_option linter.unusedVariables false
set_option linter.unusedSimpArgs false
set_option maxRecDepth 10000
def OldLoop (n_Layers : Nat) : ACode := (.seq (.seq (.reg [AOper.mk (some (.i (.o (.o (.i .h))))) (.mv (.c (.int .i64 (.ofNat 0)))) none]) (.block 6 (.loop (.seq (.seq (.reg [AOper.mk (some (.i (.i (.i (.o (.i (.i (.o .h)))))))) (.bin .lss (.val .int) (.t (.i (.o (.o (.i .h))))) (.c (.int .i64 (.ofNat 7)))) none]) (.cond (.t (.i (.i (.i (.o (.i (.i (.o .h)))))))) .skip (.exit 6))) (.seq (.block 7 (.seq (.reg [AOper.mk (some (.i (.o (.i (.i (.i (.i (.o .h)))))))) (.call n_Layers [.t (.i (.i (.i (.o .h)))), .t (.i (.o (.o (.i .h))))]) none, AOper.mk (some (.o (.i (.i (.i (.i (.i (.o .h)))))))) (.extract (.t (.i (.o (.i (.i (.i (.i (.o .h)))))))) 0) none, AOper.mk (some (.i (.i (.i (.i (.i (.i (.o .h)))))))) (.extract (.t (.i (.o (.i (.i (.i (.i (.o .h)))))))) 1) none, AOper.mk (some (.o (.i (.o (.i .h))))) (.mv (.t (.o (.i (.i (.i (.i (.i (.o .h))))))))) none, AOper.mk (some (.i (.i (.o (.i .h))))) (.mv (.t (.i (.i (.i (.i (.i (.i (.o .h))))))))) none]) (.seq (.reg [AOper.mk (some (.o (.o (.i (.i .h))))) (.mv (.c (.int .i64 (.negSucc 0)))) none]) (.seq (.seq (.reg [AOper.mk (some (.i (.o (.o (.o (.o (.o (.i .h)))))))) (.len .slice (.t (.o (.o (.i .h))))) none, AOper.mk (some (.o (.i (.o (.o (.o (.o (.i .h)))))))) (.bin .sub (.val .int) (.t (.i (.o (.o (.o (.o (.o (.i .h)))))))) (.c (.int .i64 (.ofNat 1)))) none, AOper.mk (some (.i (.o (.i (.i .h))))) (.mv (.t (.o (.i (.o (.o (.o (.o (.i .h))))))))) none]) (.block 8 (.loop (.seq (.seq (.reg [AOper.mk (some (.o (.o (.i (.o (.o (.o (.i .h)))))))) (.bin .geq (.val .int) (.t (.i (.o (.i (.i .h))))) (.c (.int .i64 (.ofNat 0)))) none]) (.cond (.t (.o (.o (.i (.o (.o (.o (.i .h)))))))) .skip (.exit 8))) (.seq (.block 9 (.seq (.reg [AOper.mk (some (.i (.o (.o (.i (.o (.o (.i .h)))))))) (.idxAddr (.slice 1) (.t (.o (.o (.i .h)))) (.t (.i (.o (.i (.i .h)))))) none, AOper.mk (some (.o (.i (.o (.i (.o (.o (.i .h)))))))) (.load false 1 (.t (.i (.o (.o (.i (.o (.o (.i .h))))))))) none, AOper.mk (some (.o (.o (.i (.i (.o (.o (.i .h)))))))) (.bin .eql (.val .int) (.t (.o (.i (.o (.i (.o (.o (.i .h)))))))) (.t (.i (.o (.o (.i .h)))))) none]) (.cond (.t (.o (.o (.i (.i (.o (.o (.i .h)))))))) (.reg [AOper.mk (some (.o (.o (.i (.i .h))))) (.mv (.t (.i (.o (.i (.i .h)))))) none]) .skip))) (.reg [AOper.mk (some (.o (.i (.i (.o (.o (.o (.i .h)))))))) (.bin .sub (.val .int) (.t (.i (.o (.i (.i .h))))) (.c (.int .i64 (.ofNat 1)))) none, AOper.mk (some (.i (.o (.i (.i .h))))) (.mv (.t (.o (.i (.i (.o (.o (.o (.i .h))))))))) none])))))) (.seq (.seq (.reg [AOper.mk (some (.o (.o (.o (.o (.i (.o (.i .h)))))))) (.bin .geq (.val .int) (.t (.o (.o (.i (.i .h))))) (.c (.int .i64 (.ofNat 0)))) none, AOper.mk (some (.i (.o (.o (.o (.i (.o (.i .h)))))))) (.bin .neq (.val .bool) (.t (.i (.i (.o (.i .h))))) (.t (.o (.o (.o (.o (.i (.o (.i .h))))))))) none]) (.cond (.t (.i (.o (.o (.o (.i (.o (.i .h)))))))) (.seq (.reg [AOper.mk (some (.i (.i .h))) (.mv (.c (.bool false))) none]) .ret) .skip)) (.seq (.seq (.reg [AOper.mk (some (.i (.i (.o (.o (.i (.o (.i .h)))))))) (.un .not (.t (.i (.i (.o (.i .h)))))) none]) (.cond (.t (.i (.i (.o (.o (.i (.o (.i .h)))))))) (.exit 7) .skip)) (.seq (.seq (.reg [AOper.mk (some (.i (.o (.i (.o (.i (.o (.i .h)))))))) (.len .slice (.t (.o (.i (.o (.i .h)))))) none, AOper.mk (some (.o (.o (.o (.i (.i (.o (.i .h)))))))) (.idxAddr (.slice 1) (.t (.i (.i (.o .h)))) (.t (.o (.o (.i (.i .h)))))) none, AOper.mk (some (.i (.o (.o (.i (.i (.o (.i .h)))))))) (.load false 1 (.t (.o (.o (.o (.i (.i (.o (.i .h))))))))) none, AOper.mk (some (.o (.i (.o (.i (.i (.o (.i .h)))))))) (.len .slice (.t (.i (.o (.o (.i (.i (.o (.i .h))))))))) none, AOper.mk (some (.i (.i (.o (.i (.i (.o (.i .h)))))))) (.bin .neq (.val .int) (.t (.i (.o (.i (.o (.i (.o (.i .h)))))))) (.t (.o (.i (.o (.i (.i (.o (.i .h))))))))) none]) (.cond (.t (.i (.i (.o (.i (.i (.o (.i .h)))))))) (.seq (.reg [AOper.mk (some (.i (.i .h))) (.mv (.c (.bool false))) none]) .ret) .skip)) (.seq (.reg [AOper.mk (some (.i (.o (.i (.i (.i (.o (.i .h)))))))) (.len .slice (.t (.o (.i (.o (.i .h)))))) none, AOper.mk (some (.o (.i (.i (.i (.i (.o (.i .h)))))))) (.mv (.c (.int .i64 (.ofNat 0)))) none]) (.block 10 (.loop (.seq (.reg [AOper.mk (some (.i (.i (.i (.i (.i (.o (.i .h)))))))) (.bin .lss (.val .int) (.t (.o (.i (.i (.i (.i (.o (.i .h)))))))) (.t (.i (.o (.i (.i (.i (.o (.i .h))))))))) none]) (.seq (.cond (.t (.i (.i (.i (.i (.i (.o (.i .h)))))))) .skip (.exit 10)) (.seq (.block 11 (.seq (.reg [AOper.mk (some (.o (.i (.i (.i .h))))) (.mv (.t (.o (.i (.i (.i (.i (.o (.i .h))))))))) none]) (.seq (.dreg [(AOper.mk (some (.i (.o (.o (.o (.o (.i (.i .h)))))))) (.mv (.t (.o (.i (.o (.i .h)))))) none, []), (AOper.mk (some (.o (.i (.o (.o (.o (.i (.i .h)))))))) (.mv (.t (.o (.i (.i (.i .h)))))) none, []), (AOper.mk (some (.i (.i (.o (.o (.o (.i (.i .h)))))))) (.idxAddr (.slice 2) (.t (.i (.o (.o (.o (.o (.i (.i .h)))))))) (.t (.o (.i (.o (.o (.o (.i (.i .h))))))))) none, []), (AOper.mk (some (.o (.o (.i (.o (.o (.i (.i .h)))))))) (.load true 2 (.t (.i (.i (.o (.o (.o (.i (.i .h))))))))) none, [7, 10]), (AOper.mk (some (.i (.o (.i (.o (.o (.i (.i .h)))))))) (.mv (.t (.i (.i (.o .h))))) none, []), (AOper.mk (some (.o (.i (.i (.o (.o (.i (.i .h)))))))) (.mv (.t (.o (.o (.i (.i .h)))))) none, []), (AOper.mk (some (.i (.i (.i (.o (.o (.i (.i .h)))))))) (.idxAddr (.slice 1) (.t (.i (.o (.i (.o (.o (.i (.i .h)))))))) (.t (.o (.i (.i (.o (.o (.i (.i .h))))))))) none, []), (AOper.mk (some (.o (.o (.o (.i (.o (.i (.i .h)))))))) (.load false 1 (.t (.i (.i (.i (.o (.o (.i (.i .h))))))))) none, [3]), (AOper.mk (some (.i (.o (.o (.i (.o (.i (.i .h)))))))) (.mv (.t (.o (.i (.i (.i .h)))))) none, []), (AOper.mk (some (.o (.i (.o (.i (.o (.i (.i .h)))))))) (.idxAddr (.slice 2) (.t (.o (.o (.o (.i (.o (.i (.i .h)))))))) (.t (.i (.o (.o (.i (.o (.i (.i .h))))))))) none, []), (AOper.mk (some (.i (.i (.o (.i (.o (.i (.i .h)))))))) (.load true 2 (.t (.o (.i (.o (.i (.o (.i (.i .h))))))))) none, [3]), (AOper.mk (some (.o (.o (.i (.i (.o (.i (.i .h)))))))) (.bin .neq (.val (.parts [(0, (1, (false, .int))), (1, (1, (false, .int)))])) (.t (.o (.o (.i (.o (.o (.i (.i .h)))))))) (.t (.i (.i (.o (.i (.o (.i (.i .h))))))))) none, [])]) (.cond (.t (.o (.o (.i (.i (.o (.i (.i .h)))))))) (.seq (.reg [AOper.mk (some (.i (.i .h))) (.mv (.c (.bool false))) none]) .ret) .skip)))) (.reg [AOper.mk (some (.i (.o (.i (.i (.o (.i (.i .h)))))))) (.bin .add (.val .int) (.t (.o (.i (.i (.i (.i (.o (.i .h)))))))) (.c (.int .i64 (.ofNat 1)))) none, AOper.mk (some (.o (.i (.i (.i (.i (.o (.i .h)))))))) (.mv (.t (.i (.o (.i (.i (.o (.i (.i .h))))))))) none])))))))))))))) (.reg [AOper.mk (some (.i (.o (.o (.i (.i (.i (.o .h)))))))) (.bin .add (.val .int) (.t (.i (.o (.o (.i .h))))) (.c (.int .i64 (.ofNat 1)))) none, AOper.mk (some (.i (.o (.o (.i .h))))) (.mv (.t (.i (.o (.o (.i (.i (.i (.o .h))))))))) none])))))) (.seq (.reg [AOper.mk (some (.i (.i .h))) (.mv (.c (.bool true))) none]) .ret))
def OldRest (n_open : Nat) (n_Read : Nat) (n_known : Nat) (n_Layers : Nat) : ACode := (.seq (.reg [AOper.mk (some (.o (.o (.i (.o (.o (.i (.o .h)))))))) (.call n_open [.c (.str [67, 79, 76, 82]), .t (.o (.i (.o .h)))]) none, AOper.mk (some (.i (.o (.i (.o (.o (.i (.o .h)))))))) (.extract (.t (.o (.o (.i (.o (.o (.i (.o .h)))))))) 0) none, AOper.mk (some (.o (.i (.i (.o (.o (.i (.o .h)))))))) (.extract (.t (.o (.o (.i (.o (.o (.i (.o .h)))))))) 1) none, AOper.mk (some (.i (.o (.i (.o .h))))) (.mv (.t (.i (.o (.i (.o (.o (.i (.o .h))))))))) none, AOper.mk (some (.o (.i (.i (.o .h))))) (.mv (.t (.o (.i (.i (.o (.o (.i (.o .h))))))))) none]) (.seq (.reg [AOper.mk (some (.i (.o (.o (.i (.o (.i (.o .h)))))))) (.call n_Read [.t (.i (.o (.i (.o .h))))]) none, AOper.mk (some (.o (.i (.o (.i (.o (.i (.o .h)))))))) (.extract (.t (.i (.o (.o (.i (.o (.i (.o .h)))))))) 0) none, AOper.mk (some (.i (.i (.o (.i (.o (.i (.o .h)))))))) (.extract (.t (.i (.o (.o (.i (.o (.i (.o .h)))))))) 1) none, AOper.mk (some (.i (.i (.i (.o .h))))) (.mv (.t (.o (.i (.o (.i (.o (.i (.o .h))))))))) none, AOper.mk (some (.o (.o (.o (.i .h))))) (.mv (.t (.i (.i (.o (.i (.o (.i (.o .h))))))))) none]) (.seq (.seq (.reg [AOper.mk (some (.o (.o (.i (.i (.o (.i (.o .h)))))))) (.call n_known []) none, AOper.mk (some (.i (.o (.i (.i (.o (.i (.o .h)))))))) (.un .not (.t (.o (.o (.i (.i (.o (.i (.o .h))))))))) none, AOper.mk (some (.o (.i (.i (.i (.o (.i (.o .h)))))))) (.mv (.t (.i (.o (.i (.i (.o (.i (.o .h))))))))) none, AOper.mk (some (.o (.o (.o (.o (.i (.i (.o .h)))))))) (.bin .neq (.val .int) (.t (.o (.o (.o (.i .h))))) (.c (.int .i64 (.ofNat 0)))) (some (.o (.i (.i (.i (.o (.i (.o .h)))))), false)), AOper.mk (some (.i (.o (.o (.o (.i (.i (.o .h)))))))) (.pick (.t (.o (.i (.i (.i (.o (.i (.o .h)))))))) (.c (.bool true)) (.t (.o (.o (.o (.o (.i (.i (.o .h))))))))) none, AOper.mk (some (.o (.i (.o (.o (.i (.i (.o .h)))))))) (.mv (.t (.i (.o (.o (.o (.i (.i (.o .h))))))))) none, AOper.mk (some (.o (.o (.i (.o (.i (.i (.o .h)))))))) (.bin .eql (.nils .ptr) (.t (.i (.i (.i (.o .h))))) (.c (.ptr none))) (some (.o (.i (.o (.o (.i (.i (.o .h)))))), false)), AOper.mk (some (.i (.o (.i (.o (.i (.i (.o .h)))))))) (.pick (.t (.o (.i (.o (.o (.i (.i (.o .h)))))))) (.c (.bool true)) (.t (.o (.o (.i (.o (.i (.i (.o .h))))))))) none]) (.cond (.t (.i (.o (.i (.o (.i (.i (.o .h)))))))) (.seq (.reg [AOper.mk (some (.i (.i .h))) (.mv (.c (.bool false))) none]) .ret) .skip)) (OldLoop n_Layers))))
def OldLays (n_Big : Nat) (n_open : Nat) (n_Read : Nat) (n_known : Nat) (n_Layers : Nat) : ACode := (.seq (.seq (.reg [AOper.mk (some (.o (.i (.o (.o (.i (.o (.o .h)))))))) (.mv (.t (.i (.o (.i .h))))) none, AOper.mk (some (.i (.i (.o (.o (.i (.o (.o .h)))))))) (.len .slice (.t (.o (.i (.o (.o (.i (.o (.o .h))))))))) none, AOper.mk (some (.o (.o (.i (.o (.i (.o (.o .h)))))))) (.mv (.c (.int .i64 (.ofNat 0)))) none]) (.block 4 (.loop (.seq (.reg [AOper.mk (some (.i (.o (.i (.o (.i (.o (.o .h)))))))) (.bin .lss (.val .int) (.t (.o (.o (.i (.o (.i (.o (.o .h)))))))) (.t (.i (.i (.o (.o (.i (.o (.o .h))))))))) none]) (.seq (.cond (.t (.i (.o (.i (.o (.i (.o (.o .h)))))))) .skip (.exit 4)) (.seq (.block 5 (.seq (.reg [AOper.mk (some (.o (.i (.i (.o (.i (.o (.o .h)))))))) (.idxAddr (.slice 2) (.t (.o (.i (.o (.o (.i (.o (.o .h)))))))) (.t (.o (.o (.i (.o (.i (.o (.o .h))))))))) none, AOper.mk (some (.i (.i (.i (.o (.i (.o (.o .h)))))))) (.load true 2 (.t (.o (.i (.i (.o (.i (.o (.o .h))))))))) none, AOper.mk (some (.o (.o (.i (.o .h))))) (.alloc [.int .i64 (.ofNat 0), .int .i64 (.ofNat 0)]) none, AOper.mk none (.store 2 (.t (.o (.o (.i (.o .h))))) (.t (.i (.i (.i (.o (.i (.o (.o .h))))))))) none]) (.dreg [(AOper.mk (some (.o (.o (.o (.i (.i (.o (.o .h)))))))) (.mv (.t (.o (.i (.o .h))))) none, []), (AOper.mk (some (.i (.o (.o (.i (.i (.o (.o .h)))))))) (.fieldAddr 0 (.t (.o (.o (.i (.o .h)))))) none, []), (AOper.mk (some (.o (.i (.o (.i (.i (.o (.o .h)))))))) (.load false 1 (.t (.i (.o (.o (.i (.i (.o (.o .h))))))))) none, [6]), (AOper.mk (some (.i (.i (.o (.i (.i (.o (.o .h)))))))) (.call n_Big [.t (.o (.i (.o (.i (.i (.o (.o .h))))))), .c (.int .i64 (.ofNat 2))]) none, [6]), (AOper.mk (some (.o (.o (.i (.i (.i (.o (.o .h)))))))) (.append 1 1 (.t (.o (.o (.o (.i (.i (.o (.o .h)))))))) (.t (.i (.i (.o (.i (.i (.o (.o .h))))))))) none, [6]), (AOper.mk (some (.i (.o (.i (.i (.i (.o (.o .h)))))))) (.fieldAddr 1 (.t (.o (.o (.i (.o .h)))))) none, []), (AOper.mk (some (.o (.i (.i (.i (.i (.o (.o .h)))))))) (.load false 1 (.t (.i (.o (.i (.i (.i (.o (.o .h))))))))) none, [2, 3, 4]), (AOper.mk (some (.i (.i (.i (.i (.i (.o (.o .h)))))))) (.call n_Big [.t (.o (.i (.i (.i (.i (.o (.o .h))))))), .c (.int .i64 (.ofNat 2))]) none, []), (AOper.mk (some (.o (.o (.o (.o (.o (.i (.o .h)))))))) (.append 1 1 (.t (.o (.o (.i (.i (.i (.o (.o .h)))))))) (.t (.i (.i (.i (.i (.i (.o (.o .h))))))))) none, []), (AOper.mk (some (.o (.i (.o .h)))) (.mv (.t (.o (.o (.o (.o (.o (.i (.o .h))))))))) none, [])]))) (.reg [AOper.mk (some (.i (.o (.o (.o (.o (.i (.o .h)))))))) (.bin .add (.val .int) (.t (.o (.o (.i (.o (.i (.o (.o .h)))))))) (.c (.int .i64 (.ofNat 1)))) none, AOper.mk (some (.o (.o (.i (.o (.i (.o (.o .h)))))))) (.mv (.t (.i (.o (.o (.o (.o (.i (.o .h))))))))) none]))))))) (OldRest n_open n_Read n_known n_Layers))
def OldLays14 (n_Big : Nat) (n_open : Nat) (n_Read : Nat) (n_known : Nat) (n_Layers : Nat) : ACode := (.seq (.reg [AOper.mk (some (.i (.o (.o (.o (.i (.o (.o .h)))))))) (.appendZ 1 1 [.int .u8 (.ofNat 0)] (.t (.o (.i (.o .h)))) (.t (.i .h))) none, AOper.mk (some (.o (.i (.o .h)))) (.mv (.t (.i (.o (.o (.o (.i (.o (.o .h))))))))) none]) (OldLays n_Big n_open n_Read n_known n_Layers))
def OldBases (n_Pick : Nat) (n_Big : Nat) (n_open : Nat) (n_Read : Nat) (n_known : Nat) (n_Layers : Nat) : ACode := (.seq (.seq (.reg [AOper.mk (some (.i (.i (.i .h)))) (.mv (.c (.int .i64 (.ofNat 0)))) none]) (.block 2 (.loop (.seq (.seq (.reg [AOper.mk (some (.i (.i (.o (.i (.i (.o .h))))))) (.bin .lss (.val .int) (.t (.i (.i (.i .h)))) (.t (.o (.o (.o .h))))) none]) (.cond (.t (.i (.i (.o (.i (.i (.o .h))))))) .skip (.exit 2))) (.seq (.block 3 (.seq (.reg [AOper.mk (some (.o (.o (.o (.o (.o (.i .h))))))) (.bin .mul (.val .int) (.c (.int .i64 (.ofNat 3))) (.t (.i (.i (.i .h))))) none, AOper.mk (some (.i (.o (.o (.o (.o (.i .h))))))) (.bin .add (.val .int) (.t (.o (.o (.o (.o (.o (.i .h))))))) (.c (.int .i64 (.ofNat 1)))) none, AOper.mk (some (.o (.i (.o (.o (.o (.i .h))))))) (.idxAddr (.slice 1) (.t .h) (.t (.i (.o (.o (.o (.o (.i .h)))))))) none, AOper.mk (some (.i (.i (.o (.o (.o (.i .h))))))) (.load false 1 (.t (.o (.i (.o (.o (.o (.i .h)))))))) none, AOper.mk (some (.i (.o (.i (.o (.o (.i .h))))))) (.bin .add (.val .int) (.t (.i (.o (.o .h)))) (.c (.int .i64 (.ofNat 1)))) none, AOper.mk (some (.o (.i (.i (.o (.o (.i .h))))))) (.call n_Pick [.t (.i (.i (.o (.o (.o (.i .h)))))), .t (.i (.o (.i (.o (.o (.i .h))))))]) none, AOper.mk (some (.o (.o (.o (.o .h))))) (.mv (.t (.o (.i (.i (.o (.o (.i .h)))))))) none]) (.seq (.reg [AOper.mk (some (.i (.o (.o (.i (.o (.i .h))))))) (.bin .mul (.val .int) (.c (.int .i64 (.ofNat 3))) (.t (.i (.i (.i .h))))) none, AOper.mk (some (.o (.i (.o (.i (.o (.i .h))))))) (.bin .add (.val .int) (.t (.i (.o (.o (.i (.o (.i .h))))))) (.c (.int .i64 (.ofNat 2)))) none, AOper.mk (some (.i (.i (.o (.i (.o (.i .h))))))) (.idxAddr (.slice 1) (.t .h) (.t (.o (.i (.o (.i (.o (.i .h)))))))) none, AOper.mk (some (.o (.o (.i (.i (.o (.i .h))))))) (.load false 1 (.t (.i (.i (.o (.i (.o (.i .h)))))))) none, AOper.mk (some (.i (.i (.i (.i (.o (.i .h))))))) (.bin .sub (.val .int) (.t (.i (.o (.o .h)))) (.t (.o (.o (.o (.o .h)))))) none, AOper.mk (some (.o (.o (.o (.o (.i (.i .h))))))) (.bin .add (.val .int) (.t (.i (.i (.i (.i (.o (.i .h))))))) (.c (.int .i64 (.ofNat 1)))) none, AOper.mk (some (.i (.o (.o (.o (.i (.i .h))))))) (.call n_Pick [.t (.o (.o (.i (.i (.o (.i .h)))))), .t (.o (.o (.o (.o (.i (.i .h))))))]) none, AOper.mk (some (.i (.o (.o (.o .h))))) (.mv (.t (.i (.o (.o (.o (.i (.i .h)))))))) none]) (.seq (.reg [AOper.mk (some (.o (.o (.i (.o (.i (.i .h))))))) (.bin .mul (.val .int) (.c (.int .i64 (.ofNat 3))) (.t (.i (.i (.i .h))))) none, AOper.mk (some (.i (.o (.i (.o (.i (.i .h))))))) (.idxAddr (.slice 1) (.t .h) (.t (.o (.o (.i (.o (.i (.i .h)))))))) none, AOper.mk (some (.o (.i (.i (.o (.i (.i .h))))))) (.load false 1 (.t (.i (.o (.i (.o (.i (.i .h)))))))) none, AOper.mk (some (.i (.i (.i (.o (.i (.i .h))))))) (.call n_Pick [.t (.o (.i (.i (.o (.i (.i .h)))))), .c (.int .i64 (.ofNat 6))]) none, AOper.mk (some (.o (.i (.o (.o .h))))) (.mv (.t (.i (.i (.i (.o (.i (.i .h)))))))) none]) (.seq (.reg [AOper.mk (some (.o (.i (.o (.i (.i (.i .h))))))) (.call n_Big [.t (.o (.i (.o (.o .h)))), .c (.int .i64 (.ofNat 2))]) none, AOper.mk (some (.i (.i (.o (.i (.i (.i .h))))))) (.append 1 1 (.t (.o (.i (.o .h)))) (.t (.o (.i (.o (.i (.i (.i .h)))))))) none, AOper.mk (some (.i (.o (.i (.i (.i (.i .h))))))) (.call n_Big [.t (.o (.o (.o (.o .h)))), .c (.int .i64 (.ofNat 2))]) none, AOper.mk (some (.o (.i (.i (.i (.i (.i .h))))))) (.append 1 1 (.t (.i (.i (.o (.i (.i (.i .h))))))) (.t (.i (.o (.i (.i (.i (.i .h)))))))) none, AOper.mk (some (.o (.o (.o (.o (.o (.o (.o .h)))))))) (.call n_Big [.t (.i (.o (.o (.o .h)))), .c (.int .i64 (.ofNat 2))]) none, AOper.mk (some (.i (.o (.o (.o (.o (.o (.o .h)))))))) (.append 1 1 (.t (.o (.i (.i (.i (.i (.i .h))))))) (.t (.o (.o (.o (.o (.o (.o (.o .h))))))))) none, AOper.mk (some (.o (.i (.o .h)))) (.mv (.t (.i (.o (.o (.o (.o (.o (.o .h))))))))) none]) (.seq (.reg [AOper.mk (some (.o (.o (.i (.o (.o (.o (.o .h)))))))) (.bslice 1 1 [.int .i64 (.ofNat 0)] [(0, (1, .t (.o (.i (.o (.o .h))))))]) none, AOper.mk (some (.i (.o (.i (.o (.o (.o (.o .h)))))))) (.append 1 8 (.t (.o (.o (.i .h)))) (.t (.o (.o (.i (.o (.o (.o (.o .h))))))))) none, AOper.mk (some (.o (.o (.i .h)))) (.mv (.t (.i (.o (.i (.o (.o (.o (.o .h))))))))) none]) (.reg [AOper.mk (some (.i (.i (.o (.i (.o (.o (.o .h)))))))) (.bin .add (.val .int) (.t (.o (.o (.o (.o .h))))) (.t (.i (.o (.o (.o .h)))))) none, AOper.mk (some (.o (.o (.i (.i (.o (.o (.o .h)))))))) (.slice (.slice 2) (.t (.i (.o (.i .h)))) (some (.t (.o (.o (.o (.o .h)))))) (some (.t (.i (.i (.o (.i (.o (.o (.o .h))))))))) none) none, AOper.mk (some (.i (.o (.i (.i (.o (.o (.o .h)))))))) (.bslice 1 1 [.slice none 0 0 0 true] [(0, (1, .t (.o (.o (.i (.i (.o (.o (.o .h)))))))))]) none, AOper.mk (some (.o (.i (.i (.i (.o (.o (.o .h)))))))) (.append 1 24 (.t (.i (.i (.o .h)))) (.t (.i (.o (.i (.i (.o (.o (.o .h))))))))) none, AOper.mk (some (.i (.i (.o .h)))) (.mv (.t (.o (.i (.i (.i (.o (.o (.o .h))))))))) none]))))))) (.reg [AOper.mk (some (.i (.o (.i (.i (.i (.o .h))))))) (.bin .add (.val .int) (.t (.i (.i (.i .h)))) (.c (.int .i64 (.ofNat 1)))) none, AOper.mk (some (.i (.i (.i .h)))) (.mv (.t (.i (.o (.i (.i (.i (.o .h)))))))) none])))))) (OldLays14 n_Big n_open n_Read n_known n_Layers))
def OldAll (n_Pick : Nat) (n_Big : Nat) (n_open : Nat) (n_Read : Nat) (n_known : Nat) (n_Layers : Nat) : ACode := (.seq (.seq (.reg [AOper.mk (some (.o (.i (.i .h)))) (.mv (.c (.int .i64 (.ofNat 0)))) none]) (.block 0 (.loop (.seq (.seq (.reg [AOper.mk (some (.i (.o (.i (.o (.o (.o .h))))))) (.bin .lss (.val .int) (.t (.o (.i (.i .h)))) (.t (.i (.o (.o .h))))) none]) (.cond (.t (.i (.o (.i (.o (.o (.o .h))))))) .skip (.exit 0))) (.seq (.block 1 (.dreg [(AOper.mk (some (.o (.o (.o (.i (.o (.o .h))))))) (.mv (.t (.i (.o (.i .h))))) none, []), (AOper.mk (some (.i (.o (.o (.i (.o (.o .h))))))) (.mv (.t (.o .h))) none, []), (AOper.mk (some (.o (.i (.o (.i (.o (.o .h))))))) (.mv (.t (.o (.i (.i .h))))) none, []), (AOper.mk (some (.i (.i (.o (.i (.o (.o .h))))))) (.bin .mul (.val .int) (.c (.int .i64 (.ofNat 2))) (.t (.o (.i (.o (.i (.o (.o .h)))))))) none, []), (AOper.mk (some (.o (.o (.i (.i (.o (.o .h))))))) (.idxAddr (.slice 1) (.t (.i (.o (.o (.i (.o (.o .h))))))) (.t (.i (.i (.o (.i (.o (.o .h)))))))) none, []), (AOper.mk (some (.i (.o (.i (.i (.o (.o .h))))))) (.load false 1 (.t (.o (.o (.i (.i (.o (.o .h)))))))) none, [12]), (AOper.mk (some (.o (.i (.i (.i (.o (.o .h))))))) (.call n_Pick [.t (.i (.o (.i (.i (.o (.o .h)))))), .c (.int .i64 (.ofNat 65536))]) none, [12]), (AOper.mk (some (.i (.i (.i (.i (.o (.o .h))))))) (.mv (.t (.o .h))) none, []), (AOper.mk (some (.o (.o (.o (.o (.i (.o .h))))))) (.mv (.t (.o (.i (.i .h))))) none, []), (AOper.mk (some (.i (.o (.o (.o (.i (.o .h))))))) (.bin .mul (.val .int) (.c (.int .i64 (.ofNat 2))) (.t (.o (.o (.o (.o (.i (.o .h)))))))) none, []), (AOper.mk (some (.o (.i (.o (.o (.i (.o .h))))))) (.bin .add (.val .int) (.t (.i (.o (.o (.o (.i (.o .h))))))) (.c (.int .i64 (.ofNat 1)))) none, []), (AOper.mk (some (.i (.i (.o (.o (.i (.o .h))))))) (.idxAddr (.slice 1) (.t (.i (.i (.i (.i (.o (.o .h))))))) (.t (.o (.i (.o (.o (.i (.o .h)))))))) none, []), (AOper.mk (some (.o (.o (.i (.o (.i (.o .h))))))) (.load false 1 (.t (.i (.i (.o (.o (.i (.o .h)))))))) none, [5, 6]), (AOper.mk (some (.i (.o (.i (.o (.i (.o .h))))))) (.call n_Pick [.t (.o (.o (.i (.o (.i (.o .h)))))), .c (.int .i64 (.ofNat 65536))]) none, []), (AOper.mk (some (.o (.i (.i (.o (.i (.o .h))))))) (.build [.int .i64 (.ofNat 0), .int .i64 (.ofNat 0)] [(0, (1, .t (.o (.i (.i (.i (.o (.o .h)))))))), (1, (1, .t (.i (.o (.i (.o (.i (.o .h))))))))]) none, []), (AOper.mk (some (.i (.i (.i (.o (.i (.o .h))))))) (.bslice 2 1 [.int .i64 (.ofNat 0), .int .i64 (.ofNat 0)] [(0, (2, .t (.o (.i (.i (.o (.i (.o .h))))))))]) none, []), (AOper.mk (some (.o (.o (.o (.i (.i (.o .h))))))) (.append 2 16 (.t (.o (.o (.o (.i (.o (.o .h))))))) (.t (.i (.i (.i (.o (.i (.o .h)))))))) none, []), (AOper.mk (some (.i (.o (.i .h)))) (.mv (.t (.o (.o (.o (.i (.i (.o .h)))))))) none, [])])) (.reg [AOper.mk (some (.i (.i (.i (.o (.o (.o .h))))))) (.bin .add (.val .int) (.t (.o (.i (.i .h)))) (.c (.int .i64 (.ofNat 1)))) none, AOper.mk (some (.o (.i (.i .h)))) (.mv (.t (.i (.i (.i (.o (.o (.o .h)))))))) none])))))) (OldBases n_Pick n_Big n_open n_Read n_known n_Layers))
def OldZ (n_Pick : Nat) (n_Big : Nat) (n_open : Nat) (n_Read : Nat) (n_known : Nat) (n_Layers : Nat) : ACode := (.seq (.reg [AOper.mk (some (.o (.i (.o (.o (.o (.o .h))))))) (.appendZ 1 1 [.int .u8 (.ofNat 0)] (.t (.o (.i (.o .h)))) (.t (.i .h))) none, AOper.mk (some (.o (.i (.o .h)))) (.mv (.t (.o (.i (.o (.o (.o (.o .h)))))))) none]) (.seq (.reg [AOper.mk (some (.i (.i (.o .h)))) (.mv (.c (.slice none 0 0 0 true))) none]) (.seq (.reg [AOper.mk (some (.o (.o (.i .h)))) (.mv (.c (.slice none 0 0 0 true))) none]) (.seq (.reg [AOper.mk (some (.i (.o (.i .h)))) (.mv (.c (.slice none 0 0 0 true))) none]) (OldAll n_Pick n_Big n_open n_Read n_known n_Layers)))))
def Old_c (n_Pick : Nat) (n_Big : Nat) (n_open : Nat) (n_Read : Nat) (n_known : Nat) (n_Layers : Nat) : AFunc := AFunc.mk 237 (.seq (.reg [AOper.mk (some (.i (.i .h))) (.mv (.c (.bool false))) none]) (.seq (.reg [AOper.mk (some (.o (.o (.o (.o (.o .h)))))) (.call n_Pick [.t (.i .h), .c (.int .i64 (.ofNat 20))]) none, AOper.mk (some (.i .h)) (.mv (.t (.o (.o (.o (.o (.o .h))))))) none]) (.seq (.reg [AOper.mk (some (.o (.i (.o (.o (.o .h)))))) (.len .slice (.t .h)) none, AOper.mk (some (.i (.i (.o (.o (.o .h)))))) (.bin .quo (.val .int) (.t (.o (.i (.o (.o (.o .h)))))) (.c (.int .i64 (.ofNat 3)))) none, AOper.mk (some (.o (.o (.i (.o (.o .h)))))) (.minmax false (.t (.i (.i (.o (.o (.o .h)))))) [.c (.int .i64 (.ofNat 8))]) none, AOper.mk (some (.o (.o (.o .h)))) (.mv (.t (.o (.o (.i (.o (.o .h))))))) none]) (.seq (.reg [AOper.mk (some (.o (.i (.i (.o (.o .h)))))) (.len .slice (.t (.o .h))) none, AOper.mk (some (.i (.i (.i (.o (.o .h)))))) (.bin .quo (.val .int) (.t (.o (.i (.i (.o (.o .h)))))) (.c (.int .i64 (.ofNat 2)))) none, AOper.mk (some (.o (.o (.o (.i (.o .h)))))) (.minmax false (.t (.i (.i (.i (.o (.o .h)))))) [.c (.int .i64 (.ofNat 12))]) none, AOper.mk (some (.i (.o (.o .h)))) (.mv (.t (.o (.o (.o (.i (.o .h))))))) none]) (.seq (.reg [AOper.mk (some (.i (.o (.o (.i (.o .h)))))) (.bslice 1 2 [.int .u8 (.ofNat 0)] [(0, (1, .c (.int .u8 (.ofNat 0)))), (1, (1, .c (.int .u8 (.ofNat 0))))]) none, AOper.mk (some (.i (.i (.o (.i (.o .h)))))) (.call n_Big [.t (.o (.o (.o .h))), .c (.int .i64 (.ofNat 2))]) none, AOper.mk (some (.o (.o (.i (.i (.o .h)))))) (.append 1 1 (.t (.i (.o (.o (.i (.o .h)))))) (.t (.i (.i (.o (.i (.o .h))))))) none, AOper.mk (some (.o (.i (.o .h)))) (.mv (.t (.o (.o (.i (.i (.o .h))))))) none]) (.seq (.reg [AOper.mk (some (.i (.i (.i (.i (.o .h)))))) (.bin .add (.val .int) (.c (.int .i64 (.ofNat 14))) (.t (.i .h))) none, AOper.mk (some (.o (.o (.o (.o (.i .h)))))) (.call n_Big [.t (.i (.i (.i (.i (.o .h))))), .c (.int .i64 (.ofNat 4))]) none, AOper.mk (some (.i (.o (.o (.o (.i .h)))))) (.append 1 1 (.t (.o (.i (.o .h)))) (.t (.o (.o (.o (.o (.i .h))))))) none, AOper.mk (some (.o (.i (.o .h)))) (.mv (.t (.i (.o (.o (.o (.i .h))))))) none]) (.seq (.reg [AOper.mk (some (.o (.o (.i (.o (.i .h)))))) (.bin .add (.val .int) (.c (.int .i64 (.ofNat 14))) (.t (.i .h))) none, AOper.mk (some (.o (.i (.i (.o (.i .h)))))) (.bin .mul (.val .int) (.c (.int .i64 (.ofNat 6))) (.t (.o (.o (.o .h))))) none, AOper.mk (some (.i (.i (.i (.o (.i .h)))))) (.bin .add (.val .int) (.t (.o (.o (.i (.o (.i .h)))))) (.t (.o (.i (.i (.o (.i .h))))))) none, AOper.mk (some (.i (.o (.o (.i (.i .h)))))) (.bin .add (.val .int) (.t (.i (.i (.i (.o (.i .h)))))) (.t (.i .h))) none, AOper.mk (some (.o (.i (.o (.i (.i .h)))))) (.call n_Big [.t (.i (.o (.o (.i (.i .h))))), .c (.int .i64 (.ofNat 4))]) none, AOper.mk (some (.i (.i (.o (.i (.i .h)))))) (.append 1 1 (.t (.o (.i (.o .h)))) (.t (.o (.i (.o (.i (.i .h))))))) none, AOper.mk (some (.o (.i (.o .h)))) (.mv (.t (.i (.i (.o (.i (.i .h))))))) none]) (.seq (.reg [AOper.mk (some (.o (.i (.i (.i (.i .h)))))) (.call n_Big [.t (.i (.o (.o .h))), .c (.int .i64 (.ofNat 2))]) none, AOper.mk (some (.i (.i (.i (.i (.i .h)))))) (.append 1 1 (.t (.o (.i (.o .h)))) (.t (.o (.i (.i (.i (.i .h))))))) none, AOper.mk (some (.o (.i (.o .h)))) (.mv (.t (.i (.i (.i (.i (.i .h))))))) none]) (OldZ n_Pick n_Big n_open n_Read n_known n_Layers))))))))) [.tmp (.i (.i .h))]
attribute [local simp] wp_skip wp_ret wp_exit wp_reg wp_seq wp_cond wp_block thenQ_normal thenQ_ret thenQ_exit blockQ_normal blockQ_ret blockQ_exit wpCond_true wpCond_false wpOps_nil wpVal_some wpGuard_true wpGuard_false wpOps_guard wpOps_cons
  put_at put_no ev_c ev_slot posEq_h posEq_o posEq_i posEq_ho posEq_hi posEq_oh posEq_ih posEq_oi posEq_io sel_true sel_false
  okv_some step_mv step_call step_pick pickV_bool step_bin bin_add bin_sub bin_mul bin_eql bin_neq bin_lss bin_leq bin_gtr bin_geq bin_eqb bin_neb bin_eqs bin_nes step_un un_not un_neg step_len len_slice len_str len_const step_extract extractV nth step_convInt conv_int step_convStr step_slice step_idxAddr natOf_nat step_load step_index step_field step_fieldAddr step_build step_minmax
  step_alloc step_bslice bsliceV_some newV_some step_store step_append boolIs_b boolIs_t finQ_ret finQ_normal ressE_nil ressE_cons resE_tmp consO_some initE_nil initE_cons pos_0 pos_1 pos_2 pos_3 pos_4 pos_5 pos_6 pos_7 pos_8 plain_bool plain_int plain_str plain_ptr plain_slice plain_map plain_agg plain_func plain_nilFunc V.undef oneOf_one oneOf_two ble_self
open Go.Vabs.Pk Go.Vabs.Ph Go.Vabs.Sa Go.Vabs.Sb Go.Vabs.Sc Go.Vabs.Sd Go.Vabs.Se Go.Vabs.Sg Go.Vabs.Sh Go.Vabs.Sm Go.Vabs.Sn Go.Vabs.Sp Go.Vabs.Sr Go.Vabs.St Go.Vabs.Su Go.Vabs.L2 Go.Vabs.Na Go.Vabs.Nb Go.Vabs.Ra Go.Vabs.Rb Go.Vabs.Rc Go.Vabs.Rd Go.Vabs.Re Go.Vabs.Ca Go.Vabs.Cb Go.Vabs.Vc Go.Vabs.Da Go.Vabs.Db Go.Vabs.Dd Go.Vabs.De Go.Vabs.Ea Go.Vabs.Eb Go.Vabs.Ec
attribute [local simp] step_nilchk nilchk_ptr step_box cells_int cells_bool cells_str cells_slice cells_ptr cells_agg fieldAddrV natOf_zero fill repN splice over newV step_appendZ
  wp_dreg wpDs_nil wpDs_cons wantedE_none wantedE_some wpDGuard_true wpDGuard_lim wpDGuard_false wpDLim_true wpDVal_free wpDVal_lim back_limited next_limited limF_dir limF_false foot_load foot_store foot_convStr okAll_nil okAll_cons pastsOf nthP ahead few_next load_limited convStr_limited blt_dec okPair_dd okPair_dc okPair_cd okPair_cc anyIn_nil anyIn_same anyIn_cons meets_nil meets_nil'
  tn_alloc tn_load tn_load0 tn_store tn_store0 storeT_some loadC_some cellsAt_zero cellsAt_succ ownAt_zero ownAt_succ tn_first tn_first0 firstC_some tn_grow_none tn_grow tn_grow0 growN_some tn_fix tn_fix0 fixN_some bn_load bn_first bn_grow bn_store tn_next tn_alloc_dir tl_store_d tl_back tl_back_few few_back_tl backv_some back_back cut takeN nbeq_dec ble_dec meets_cons mem_nil mem_cons idOf load_d convStr_d lenOfS firstNo natOf_int if_leN bn_fix foot_bslice foot_alloc foot_box foot_append foot_call
theorem law_lim {base : CallT} {g : Nat} {rd : List V → St → Option (List AObj × (Nat → V))} (hrd : ∀ args st st', rd args st = rd args st') : InReg (Vabs.withL base g (lawOf rd) g) := fun args os v s1 fr ps hp h => by
  rw [withL_same] at h ⊢
  have h : lawOut (rd args (few os)) (few os) = some (v, s1) := h
  show lawOut (rd args (limF fr .call ps (few os))) (limF fr .call ps (few os)) = _
  rw [hrd args _ (few os)]
  cases hr : rd args (few os) with
  | none => rw [hr] at h; cases h
  | some r =>
    obtain ⟨new, f⟩ := r
    rw [hr, lawOut_few] at h
    cases h
    show (match allocL new (limF fr .call ps (few os)) with | some st' => some (f (limF fr .call ps (few os)).next, st') | none => none) = _
    have hvw : ∀ j, os.length ≤ j → (limF fr .call ps (few os)).vis j = true ∧ (limF fr .call ps (few os)).wr j = true := fun j hj => by
      constructor
      · show (true && !hidden ps j) = true
        rw [hp]; rfl
      · show (true && (Nat.ble os.length j || (fr && unseen j ps))) = true
        rw [ble_t hj]; rfl
    have e := allocL_back (l := limF fr .call ps (few os)) new hvw
    rw [limF_back] at e
    rw [e, next_limF, few_next]
def pN (z : Int) (k : Nat) : Nat := (pickI z (k : Int)).toNat
theorem pN_lt {z : Int} {k : Nat} (h : 0 < k) : pN z k < k := by
  have := pickI_lt (n := z) (m := (k : Int)) (by omega)
  unfold pN; omega
theorem pN_eq {z : Int} {k : Nat} (h : 0 < k) : pickI z (k : Int) = (pN z k : Int) := by
  have := pickI_lt (n := z) (m := (k : Int)) (by omega)
  unfold pN; omega
def layK (l : List Int) (i : Nat) : LayK := ⟨pN (l.getD (2 * i) 0) 65536, pN (l.getD (2 * i + 1) 0) 65536⟩
def laysK (l : List Int) (m : Nat) : List LayK := (List.range m).map (layK l)
theorem laysK_succ {l : List Int} {m : Nat} : laysK l (m + 1) = laysK l m ++ [layK l m] := by unfold laysK; rw [List.range_succ, List.map_append]; rfl
theorem laysK_len {l : List Int} {m : Nat} : (laysK l m).length = m := by simp [laysK]
def baseK (l : List Int) (m i : Nat) : BaseR := ⟨pN (l.getD (3 * i) 0) 6, pN (l.getD (3 * i + 1) 0) (m + 1), pN (l.getD (3 * i + 2) 0) (m - pN (l.getD (3 * i + 1) 0) (m + 1) + 1)⟩
def basesK (l : List Int) (m n : Nat) : List BaseR := (List.range n).map (baseK l m)
theorem basesK_succ {l : List Int} {m n : Nat} : basesK l m (n + 1) = basesK l m n ++ [baseK l m n] := by unfold basesK; rw [List.range_succ, List.map_append]; rfl
theorem basesK_len {l : List Int} {m n : Nat} : (basesK l m n).length = n := by simp [basesK]
theorem baseK_in {l : List Int} {m i : Nat} : (baseK l m i).g < 6 ∧ (baseK l m i).f ≤ m ∧ (baseK l m i).f + (baseK l m i).c ≤ m := by
  unfold baseK
  dsimp only
  have h1 := pN_lt (z := l.getD (3 * i) 0) (k := 6) (by omega)
  have h2 := pN_lt (z := l.getD (3 * i + 1) 0) (k := m + 1) (by omega)
  have h3 := pN_lt (z := l.getD (3 * i + 2) 0) (k := m - pN (l.getD (3 * i + 1) 0) (m + 1) + 1) (by omega)
  omega
def baseB (b : BaseR) : List Nat := bigB b.g 2 ++ bigB b.f 2 ++ bigB b.c 2
def layB (b : LayK) : List Nat := bigB b.g 2 ++ bigB b.i 2
theorem ints_at {os : List (Option AObj)} {v : V} {l : List Int} (h : ParI os v l) (hne : l ≠ []) : ∃ r own, v = .slice (some (r, 0)) 1 l.length l.length false ∧ (os[r]?).join = some (.cells own (l.map fun n => V.int .i64 n)) := by
  obtain ⟨a, r, h1, h2⟩ := h.ex
  obtain ⟨h3, own, h4⟩ := h2 hne
  exact ⟨r, own, by rw [h1, h3], h4⟩
theorem nth_int {l : List Int} {i : Nat} (h : i < l.length) : nth i (l.map fun n => V.int .i64 n) = some (.int .i64 (l.getD i 0)) := by
  rw [nth_eq, List.getElem?_map, List.getD_eq_getElem?_getD, List.getElem?_eq_getElem h]; rfl
set_option maxHeartbeats 8000000 in
theorem OldAll_run {call : CallT} {lf nK nP nB nO nR nL : Nat} {os : List (Option AObj)} {Q : Goal} (hlf : 100 ≤ lf) (hP : PickF call nP) {lv : V} {l : List Int} {m : Nat} (hv : ParI os lv l) (hm : 2 * m ≤ l.length) (hm12 : m ≤ 12) {s0 : Env} (e1 : s0 (.o .h) = lv) (e2 : s0 (.i (.o (.o .h))) = .int .i64 (m : Int)) (e3 : s0 (.i (.o (.i .h))) = .slice none 0 0 0 true)
    (hQ : ∀ (s : Env) W qa, (∀ p, p = .h ∨ p = (.i .h) ∨ p = (.o (.o (.o .h))) ∨ p = (.i (.o (.o .h))) ∨ p = (.o (.i (.o .h))) ∨ p = (.i (.i (.o .h))) ∨ p = (.o (.o (.i .h))) → s p = s0 p) → s (.i (.o (.i .h))) = elS 2 qa m → (∀ i, i < os.length → (W[i]?).join = (os[i]?).join) → os.length ≤ W.length → (m ≠ 0 → os.length ≤ qa ∧ (W[qa]?).join = some (.cells true (elV layV (laysK l m)))) → wp call lf (OldBases nP nB nO nR nK nL) s (few W) Q) :
    wp call lf (OldAll nP nB nO nR nK nL) s0 (few os) Q := by
  unfold OldAll
  simp (disch := omega) []
  refine wp_loop (fun k s st => ∃ i W qa, i + k = m ∧ st = few W ∧ (∀ j, j < os.length → (W[j]?).join = (os[j]?).join) ∧ os.length ≤ W.length ∧ (i ≠ 0 → os.length ≤ qa ∧ (W[qa]?).join = some (.cells true (elV layV (laysK l i)))) ∧ (∀ p, p = .h ∨ p = (.i .h) ∨ p = (.o (.o (.o .h))) ∨ p = (.i (.o (.o .h))) ∨ p = (.o (.i (.o .h))) ∨ p = (.i (.i (.o .h))) ∨ p = (.o (.o (.i .h))) → s p = s0 p) ∧ s (.o .h) = lv ∧ s (.i (.o (.o .h))) = .int .i64 (m : Int) ∧ s (.i (.o (.i .h))) = elS 2 qa i ∧ s (.o (.i (.i .h))) = .int .i64 (i : Int)) m ?_ (by omega) ?_
  · refine ⟨0, os, 0, by omega, rfl, fun _ _ => rfl, Nat.le_refl _, fun h => absurd rfl h, ?_, ?_, ?_, ?_, ?_⟩
    · rintro p (rfl | rfl | rfl | rfl | rfl | rfl | rfl) <;> simp
    all_goals simp [e1, e2, e3, elS]
  · rintro k s st ⟨i, W, qa, hk, rfl, hW, hWl, hqa, hs, s1, s2, s3, s4⟩
    cases k with
    | zero =>
      have hi : i = m := by omega
      subst hi
      simp (disch := omega) [s1, s2, s3, s4, dlt_t, dlt_f, dle_t, dle_f, dltn_t, dltn_f, dlen_t, dlen_f, deq_t, deq_f, deqn_t, deqn_f]
      refine hQ _ W qa ?_ ?_ hW hWl hqa
      · rintro p (rfl | rfl | rfl | rfl | rfl | rfl | rfl) <;> simp [hs]
      · simp [s3]
    | succ k =>
      have hne : l ≠ [] := fun h => by rw [h] at hm; simp at hm; omega
      obtain ⟨r, own, hve, hvc⟩ := ints_at hv hne
      haveI : At W r (.cells own (l.map fun n => V.int .i64 n)) := ⟨by rw [hW r (join_lt hvc)]; exact hvc⟩
      have n1 := nth_int (l := l) (i := 2 * i) (by omega)
      have n2 := nth_int (l := l) (i := 2 * i + 1) (by omega)
      obtain ⟨z1, hz1⟩ : ∃ z, z = l.getD (2 * i) 0 := ⟨_, rfl⟩
      obtain ⟨z2, hz2⟩ : ∃ z, z = l.getD (2 * i + 1) 0 := ⟨_, rfl⟩
      rw [← hz1] at n1
      rw [← hz2] at n2
      obtain ⟨x, hx⟩ : ∃ x, x = layK l i := ⟨_, rfl⟩
      have p1 : ∀ st, call nP [.int .i64 z1, .int .i64 65536] st = some (.int .i64 (x.g : Int), st) := fun st => by
        rw [hP _ _ _ (by omega) (by omega)]
        have := pN_eq (z := z1) (k := 65536) (by omega)
        rw [show ((65536 : Nat) : Int) = 65536 from rfl] at this
        rw [this, hx, hz1]; rfl
      have p2 : ∀ st, call nP [.int .i64 z2, .int .i64 65536] st = some (.int .i64 (x.i : Int), st) := fun st => by
        rw [hP _ _ _ (by omega) (by omega)]
        have := pN_eq (z := z2) (k := 65536) (by omega)
        rw [show ((65536 : Nat) : Int) = 65536 from rfl] at this
        rw [this, hx, hz2]; rfl
      have t1 : (2 * (i : Int)).toNat = 2 * i := by omega
      have t2 : (2 * (i : Int) + 1).toNat = 2 * i + 1 := by omega
      have g1 : ∀ L, appendV (tl W L) 2 16 (elS 2 qa i) (some 1) (some [.int .i64 (x.g : Int), .int .i64 (x.i : Int)]) = some (.slice (some (W.length + L.length, 0)) 2 (i + 1) (i + 1) false, tl (Sp.setK i W qa) (L ++ [some (.cells true (elV layV (laysK l i ++ [x])))])) := fun L =>
        growEl_tn (X := W) (f := layV) (e := 2) (w := 16) (q := qa) (n := i) (L := laysK l i) layV_len (by omega) x laysK_len (by omega) (fun h => (hqa h).2) L
      have hpl1 := elS_plain (e := 2) (q := qa) (n := i)
      obtain ⟨len, hlen⟩ : ∃ z, z = l.length := ⟨_, rfl⟩
      rw [← hlen] at hve hm
      rw [hve] at s1
      rw [tl_of (X := W)]
      simp (disch := omega) [s1, s2, s3, s4, dlt_t, dlt_f, dle_t, dle_f, dltn_t, dltn_f, dlen_t, dlen_f, deq_t, deq_f, deqn_t, deqn_f, idxAddr_slice, n1, n2, p1, p2, t1, t2, g1, hpl1, wrap_i, limF_dir, next_back]
      exact ⟨k, by omega, i + 1, by omega, _, rfl, fun j hj => by rw [join_app (by rw [setK_len]; omega), setK_at (fun h => by have := (hqa h).1; omega), hW j hj], by simp [setK_len]; omega, W.length + 1, fun _ => ⟨by omega, by rw [laysK_succ, ← hx]; exact tn_at (k := 1)⟩, ⟨hs _ (by simp), hs _ (by simp), hs _ (by simp), e2.symm, hs _ (by simp), hs _ (by simp), hs _ (by simp)⟩, hve.symm, (if_neg (by omega)).symm, by omega⟩
theorem take_big2E {n : Nat} : takeN 2 (bytesV (bigB n 2)) = some (bytesV (bigB n 2)) := by rw [takeN_of (by rw [bytesV_len, bigB_len]; omega), List.take_of_length_le (by rw [bytesV_len, bigB_len]; omega)]
def basesB (l : List Int) (m n : Nat) : List Nat := ((basesK l m n).map baseB).flatten
theorem basesB_succ {l : List Int} {m n : Nat} : basesB l m (n + 1) = basesB l m n ++ baseB (baseK l m n) := by unfold basesB; rw [basesK_succ]; simp
theorem baseB_len {b : BaseR} : (baseB b).length = 6 := by unfold baseB; simp [bigB_len]
theorem basesB_len {l : List Int} {m n : Nat} : (basesB l m n).length = 6 * n := by
  induction n with
  | zero => rfl
  | succ n ih => rw [basesB_succ, List.length_append, ih, baseB_len]; omega
def wantV (qa m : Nat) (b : BaseR) : V := if m = 0 then .slice none 2 0 0 true else .slice (some (qa, b.f * 2)) 2 b.c (m - b.f) false
def glyphsK (l : List Int) (m n : Nat) : List Nat := (basesK l m n).map BaseR.g
theorem glyphsK_succ {l : List Int} {m n : Nat} : glyphsK l m (n + 1) = glyphsK l m n ++ [(baseK l m n).g] := by unfold glyphsK; rw [basesK_succ, List.map_append]; rfl
theorem glyphsK_len {l : List Int} {m n : Nat} : (glyphsK l m n).length = n := by simp [glyphsK, basesK_len]
def wantsK (qa : Nat) (l : List Int) (m n : Nat) : List V := (basesK l m n).map (wantV qa m)
theorem wantsK_succ {qa : Nat} {l : List Int} {m n : Nat} : wantsK qa l m (n + 1) = wantsK qa l m n ++ [wantV qa m (baseK l m n)] := by unfold wantsK; rw [basesK_succ, List.map_append]; rfl
theorem wantsK_len {qa : Nat} {l : List Int} {m n : Nat} : (wantsK qa l m n).length = n := by simp [wantsK, basesK_len]
structure BInv (os W : List (Option AObj)) (B : List Nat) (LS : List LayK) (G : List Nat) (Wn : List V) (qb qa qg qw : Nat) : Prop where
  old : ∀ i, i < os.length → (W[i]?).join = (os[i]?).join
  le : os.length ≤ W.length
  b : os.length ≤ qb ∧ (W[qb]?).join = some (newBytes B)
  a : LS ≠ [] → os.length ≤ qa ∧ qa ≠ qb ∧ (W[qa]?).join = some (.cells true (elV layV LS))
  g : G ≠ [] → os.length ≤ qg ∧ qg ≠ qb ∧ (LS ≠ [] → qg ≠ qa) ∧ (W[qg]?).join = some (.cells true (elV intV G))
  w : Wn ≠ [] → os.length ≤ qw ∧ qw ≠ qb ∧ qw ≠ qg ∧ (LS ≠ [] → qw ≠ qa) ∧ (W[qw]?).join = some (.cells true (elV oneS Wn))
set_option maxHeartbeats 8000000 in
theorem OldBases_run {call : CallT} {lf nK nP nB nO nR nL : Nat} {os W0 : List (Option AObj)} {Q : Goal} (hlf : 100 ≤ lf) (hP : PickF call nP) (hB : BigF call nB) {hv_ : V} {l : List Int} {LS : List LayK} {m n qb0 qa gap : Nat} {B0 : List Nat} (hv : ParI os hv_ l) (hn : 3 * n ≤ l.length) (hn8 : n ≤ 8) (hm12 : m ≤ 12) (hgap : gap < 20) (hBl : B0.length = 14 + gap) (hLS : LS.length = m) (h0 : BInv os W0 B0 LS [] [] qb0 qa 0 0) {s0 : Env} (e1 : s0 .h = hv_) (e2 : s0 (.o (.o (.o .h))) = .int .i64 (n : Int)) (e3 : s0 (.i (.o (.o .h))) = .int .i64 (m : Int)) (e4 : s0 (.o (.i (.o .h))) = .slice (some (qb0, 0)) 1 (14 + gap) (14 + gap) false) (e5 : s0 (.i (.i (.o .h))) = .slice none 0 0 0 true) (e6 : s0 (.o (.o (.i .h))) = .slice none 0 0 0 true) (e7 : s0 (.i (.o (.i .h))) = elS 2 qa m) (e8 : s0 (.i .h) = .int .i64 (gap : Int))
    (hQ : ∀ (s : Env) W qb qg qw, s (.i .h) = .int .i64 (gap : Int) → s (.o (.i (.o .h))) = .slice (some (qb, 0)) 1 (14 + gap + 6 * n) (14 + gap + 6 * n) false → s (.i (.i (.o .h))) = elS 1 qw n → s (.o (.o (.i .h))) = elS 1 qg n → s (.i (.o (.i .h))) = elS 2 qa m → BInv os W (B0 ++ basesB l m n) LS (glyphsK l m n) (wantsK qa l m n) qb qa qg qw → wp call lf (OldLays14 nB nO nR nK nL) s (few W) Q) :
    wp call lf (OldBases nP nB nO nR nK nL) s0 (few W0) Q := by
  unfold OldBases
  simp (disch := omega) []
  refine wp_loop (fun k s st => ∃ i W qb qg qw, i + k = n ∧ st = few W ∧ BInv os W (B0 ++ basesB l m i) LS (glyphsK l m i) (wantsK qa l m i) qb qa qg qw ∧ s .h = hv_ ∧ s (.o (.o (.o .h))) = .int .i64 (n : Int) ∧ s (.i (.o (.o .h))) = .int .i64 (m : Int) ∧ s (.o (.i (.o .h))) = .slice (some (qb, 0)) 1 (14 + gap + 6 * i) (14 + gap + 6 * i) false ∧ s (.i (.i (.o .h))) = elS 1 qw i ∧ s (.o (.o (.i .h))) = elS 1 qg i ∧ s (.i (.o (.i .h))) = elS 2 qa m ∧ s (.i .h) = .int .i64 (gap : Int) ∧ s (.i (.i (.i .h))) = .int .i64 (i : Int)) n ?_ (by omega) ?_
  · refine ⟨0, W0, qb0, 0, 0, by omega, rfl, by rw [show basesB l m 0 = [] from rfl, List.append_nil]; exact h0, ?_, ?_, ?_, ?_, ?_, ?_, ?_, ?_, ?_⟩ <;> simp [e1, e2, e3, e4, e5, e6, e7, e8, elS]
  · rintro k s st ⟨i, W, qb, qg, qw, hk, rfl, hI, s1, s2, s3, s4, s5, s6, s7, s8, s9⟩
    cases k with
    | zero =>
      have hi : i = n := by omega
      subst hi
      simp (disch := omega) [s1, s2, s3, s4, s5, s6, s7, s8, s9, dlt_t, dlt_f, dle_t, dle_f, dltn_t, dltn_f, dlen_t, dlen_f, deq_t, deq_f, deqn_t, deqn_f]
      refine hQ _ W qb qg qw ?_ ?_ ?_ ?_ ?_ hI <;> simp [s4, s5, s6, s7, s8]
    | succ k =>
      have hne : l ≠ [] := fun h => by rw [h] at hn; simp at hn; omega
      obtain ⟨r, own, hve, hvc⟩ := ints_at hv hne
      have hrl := join_lt hvc
      have hbN := hI.b.1
      have hgN : i ≠ 0 → os.length ≤ qg ∧ qg ≠ qb ∧ (W[qg]?).join = some (.cells true (elV intV (glyphsK l m i))) := fun h => by
        obtain ⟨y1, y2, _, y3⟩ := hI.g (fun e => h (by have := congrArg List.length e; rw [glyphsK_len] at this; exact this))
        exact ⟨y1, y2, y3⟩
      have hwN : i ≠ 0 → os.length ≤ qw ∧ qw ≠ qb ∧ qw ≠ qg ∧ (W[qw]?).join = some (.cells true (elV oneS (wantsK qa l m i))) := fun h => by
        obtain ⟨y1, y2, y3, _, y4⟩ := hI.w (fun e => h (by have := congrArg List.length e; rw [wantsK_len] at this; exact this))
        exact ⟨y1, y2, y3, y4⟩
      haveI : At W r (.cells own (l.map fun n => V.int .i64 n)) := ⟨by rw [hI.old r hrl]; exact hvc⟩
      have n1 := nth_int (l := l) (i := 3 * i) (by omega)
      have n2 := nth_int (l := l) (i := 3 * i + 1) (by omega)
      have n3 := nth_int (l := l) (i := 3 * i + 2) (by omega)
      obtain ⟨z1, hz1⟩ : ∃ z, z = l.getD (3 * i) 0 := ⟨_, rfl⟩
      obtain ⟨z2, hz2⟩ : ∃ z, z = l.getD (3 * i + 1) 0 := ⟨_, rfl⟩
      obtain ⟨z3, hz3⟩ : ∃ z, z = l.getD (3 * i + 2) 0 := ⟨_, rfl⟩
      rw [← hz1] at n1
      rw [← hz2] at n2
      rw [← hz3] at n3
      obtain ⟨x, hx⟩ : ∃ x, x = baseK l m i := ⟨_, rfl⟩
      obtain ⟨i1, i2, i3⟩ := baseK_in (l := l) (m := m) (i := i)
      rw [← hx] at i1 i2 i3
      have p1 : ∀ st, call nP [.int .i64 z1, .int .i64 6] st = some (.int .i64 (x.g : Int), st) := fun st => by
        rw [hP _ _ _ (by omega) (by omega)]
        have := pN_eq (z := z1) (k := 6) (by omega)
        rw [show ((6 : Nat) : Int) = 6 from rfl] at this
        rw [this, hx, hz1]; rfl
      have p2 : ∀ st, call nP [.int .i64 z2, .int .i64 ((m : Int) + 1)] st = some (.int .i64 (x.f : Int), st) := fun st => by
        rw [hP _ _ _ (by omega) (by omega)]
        have := pN_eq (z := z2) (k := m + 1) (by omega)
        rw [show ((m + 1 : Nat) : Int) = (m : Int) + 1 from by omega] at this
        rw [this, hx, hz2]; rfl
      have p3 : ∀ st, call nP [.int .i64 z3, .int .i64 ((m : Int) - (x.f : Int) + 1)] st = some (.int .i64 (x.c : Int), st) := fun st => by
        rw [hP _ _ _ (by omega) (by omega)]
        have := pN_eq (z := z3) (k := m - x.f + 1) (by omega)
        rw [show ((m - x.f + 1 : Nat) : Int) = (m : Int) - (x.f : Int) + 1 from by omega] at this
        rw [this, hx, hz3]; rfl
      have t1 : (3 * (i : Int)).toNat = 3 * i := by omega
      have t2 : (3 * (i : Int) + 1).toNat = 3 * i + 1 := by omega
      have t3 : (3 * (i : Int) + 2).toNat = 3 * i + 2 := by omega
      have b2 : ∀ (k : Nat) (Y l : List (Option AObj)), call nB [.int .i64 (k : Int), .int .i64 2] (tl Y l) = some (.slice (some (Y.length + l.length, 0)) 1 2 2 false, tl Y (l ++ [some (.cells true (bytesV (bigB k 2)))])) := fun k Y l => by
        have := hB (Y ++ l) k 2 (by omega) (by omega)
        rw [List.length_append, List.append_assoc] at this
        exact this
      obtain ⟨B, hBe⟩ : ∃ B, B = B0 ++ basesB l m i := ⟨_, rfl⟩
      obtain ⟨L, hL⟩ : ∃ L, L = 14 + gap + 6 * i := ⟨_, rfl⟩
      have hBL : B.length = L := by rw [hBe, List.length_append, basesB_len, hBl, hL]
      have hbW := hI.b.2
      rw [← hBe] at hbW
      rw [← hL] at s4
      have hLe : elS 1 qb L = .slice (some (qb, 0)) 1 L L false := if_neg (by omega)
      have g1 : ∀ l, appendV (tl W l) 1 1 (.slice (some (qb, 0)) 1 L L false) (some 2) (some (bytesV (bigB x.g 2))) = some (.slice (some (W.length + l.length, 0)) 1 (L + 2) (L + 2) false, tl (Sp.setK L W qb) (l ++ [some (.cells true (bytesV (B ++ bigB x.g 2)))])) := fun l => by
        rw [← hLe]
        exact growB_tn (X := W) (m := 1) hBL (bigB_len _ _) (by omega) (fun _ => hbW) l
      obtain ⟨X1, hX1⟩ : ∃ X1, X1 = Sp.setK L W qb := ⟨_, rfl⟩
      have hX1l : X1.length = W.length := by rw [hX1, setK_len]
      have hX1n : ∀ j, j ≠ qb → (X1[j]?).join = (W[j]?).join := fun j hj => by rw [hX1]; exact setK_at (fun _ => hj)
      rw [← hX1] at g1
      haveI : LenIs X1 W.length := ⟨hX1l⟩
      have g2 : ∀ l2, appendV (tl X1 l2) 1 8 (elS 1 qg i) (some 1) (some [.int .i64 (x.g : Int)]) = some (.slice (some (W.length + l2.length, 0)) 1 (i + 1) (i + 1) false, tl (Sp.setK i X1 qg) (l2 ++ [some (.cells true (elV intV (glyphsK l m i ++ [x.g])))])) := fun l2 =>
        growEl_tn (X := X1) (N := W.length) (f := intV) (e := 1) (w := 8) (q := qg) (n := i) (L := glyphsK l m i) (fun _ => rfl) (by omega) x.g glyphsK_len (by omega) (fun h => by obtain ⟨y1, y2, y3⟩ := hgN h; rw [hX1n qg y2]; exact y3) l2
      obtain ⟨X2, hX2⟩ : ∃ X2, X2 = Sp.setK i X1 qg := ⟨_, rfl⟩
      have hX2l : X2.length = W.length := by rw [hX2, setK_len, hX1l]
      have hX2n : ∀ j, (i ≠ 0 → j ≠ qg) → (X2[j]?).join = (X1[j]?).join := fun j hj => by rw [hX2]; exact setK_at hj
      rw [← hX2] at g2
      haveI : LenIs X2 W.length := ⟨hX2l⟩
      have g3 : ∀ v l2, appendV (tl X2 l2) 1 24 (elS 1 qw i) (some 1) (some [v]) = some (.slice (some (W.length + l2.length, 0)) 1 (i + 1) (i + 1) false, tl (Sp.setK i X2 qw) (l2 ++ [some (.cells true (elV oneS (wantsK qa l m i ++ [v])))])) := fun v l2 =>
        growEl_tn (X := X2) (N := W.length) (f := oneS) (e := 1) (w := 24) (q := qw) (n := i) (L := wantsK qa l m i) (fun _ => rfl) (by omega) v wantsK_len (by omega) (fun h => by obtain ⟨y1, y2, y3, y4⟩ := hwN h; rw [hX2n qw (fun _ => y3), hX1n qw y2]; exact y4) l2
      have slw : sliceOp (.slice 2) (elS 2 qa m) (some (.int .i64 (x.f : Int))) (some (.int .i64 ((x.f : Int) + (x.c : Int)))) none = some (wantV qa m x) := by
        unfold wantV
        by_cases h0 : m = 0
        · rw [if_pos h0, show x.f = 0 from by omega, show x.c = 0 from by omega, h0]; rfl
        · rw [if_neg h0, show elS 2 qa m = .slice (some (qa, 0)) 2 m m false from if_neg h0, show (x.f : Int) + (x.c : Int) = ((x.f + x.c : Nat) : Int) from by omega, slice_lohi (by omega) (by omega), shiftA_some, Nat.add_sub_cancel_left, Nat.zero_add]
      have hwc : (wantV qa m x).cells = some [wantV qa m x] := by unfold wantV; split <;> rfl
      have hwp : (wantV qa m x).plain = true := by unfold wantV; split <;> rfl
      have hpg := elS_plain (e := 1) (q := qg) (n := i)
      have hpw := elS_plain (e := 1) (q := qw) (n := i)
      have hpa := elS_plain (e := 2) (q := qa) (n := m)
      obtain ⟨len, hlen⟩ : ∃ z, z = l.length := ⟨_, rfl⟩
      rw [← hlen] at hve hn
      rw [hve] at s1
      rw [tl_of (X := W)]
      simp (disch := omega) [s1, s2, s3, s4, s5, s6, s7, s8, s9, dlt_t, dlt_f, dle_t, dle_f, dltn_t, dltn_f, dlen_t, dlen_f, deq_t, deq_f, deqn_t, deqn_f, idxAddr_slice, n1, n2, n3, p1, p2, p3, t1, t2, t3, b2, take_big2E, bytesV_len, bigB_len, hBL, hX1l, hX2l, -bn_grow, g1, g2, g3, slw, hwc, hwp, hpg, hpw, hpa, wrap_i, limF_dir, next_back]
      have hX3n : ∀ j T, j < W.length → j ≠ qb → (i ≠ 0 → j ≠ qg) → (i ≠ 0 → j ≠ qw) → ((Sp.setK i X2 qw ++ T)[j]?).join = (W[j]?).join := fun j T h1 h2 h3 h4 => by
        rw [join_app (by rw [setK_len, hX2l]; exact h1), setK_at h4, hX2n j h3, hX1n j h2]
      haveI : LenIs (Sp.setK i X2 qw) W.length := ⟨by rw [setK_len, hX2l]⟩
      have hle := hI.le
      refine ⟨k, by omega, i + 1, by omega, _, rfl, W.length + 5, W.length + 7, W.length + 9, ⟨fun j hj => ?_, ?_, ⟨by omega, ?_⟩, fun hl => ?_, fun _ => ⟨by omega, by omega, fun hl => ?_, ?_⟩, fun _ => ⟨by omega, by omega, by omega, fun hl => ?_, ?_⟩⟩, hve.symm, ⟨rfl, by omega⟩, (if_neg (by omega)).symm, (if_neg (by omega)).symm, by omega⟩
      · rw [hX3n j _ (by omega) (by omega) (fun h => by have := (hgN h).1; omega) (fun h => by have := (hwN h).1; omega)]
        exact hI.old j hj
      · rw [List.length_append, setK_len, hX2l]; omega
      · have h5 := tl_at (X := Sp.setK i X2 qw) (l := [some (AObj.cells true (bytesV (bigB x.g 2))), none, some (AObj.cells true (bytesV (bigB x.f 2))), none, some (AObj.cells true (bytesV (bigB x.c 2))), some (AObj.cells true (bytesV (B ++ bigB x.g 2) ++ (bytesV (bigB x.f 2) ++ bytesV (bigB x.c 2)))), some (AObj.cells true [V.int IntKind.i64 (x.g : Int)]), some (AObj.cells true (elV intV (glyphsK l m i ++ [x.g]))), some (AObj.cells true [wantV qa m x]), some (AObj.cells true (elV oneS (wantsK qa l m i ++ [wantV qa m x])))]) (k := 5)
        rw [setK_len, hX2l] at h5
        rw [h5, show B0 ++ basesB l m (i + 1) = B ++ baseB x from by rw [basesB_succ, ← hx, hBe, List.append_assoc]]
        unfold newBytes baseB
        simp [bytesV]
      · obtain ⟨y1, y2, y3⟩ := hI.a hl
        have hqa := join_lt y3
        exact ⟨y1, by omega, by rw [hX3n qa _ hqa y2 (fun h e => by have := (hI.g (fun e => h (by have := congrArg List.length e; rw [glyphsK_len] at this; exact this))).2.2.1 hl; omega) (fun h e => by have := (hI.w (fun e => h (by have := congrArg List.length e; rw [wantsK_len] at this; exact this))).2.2.2.1 hl; omega)]; exact y3⟩
      · have := join_lt (hI.a hl).2.2; omega
      · rw [glyphsK_succ, ← hx]; exact tn_at (k := 7)
      · have := join_lt (hI.a hl).2.2; omega
      · rw [wantsK_succ, ← hx]; exact tn_at (k := 9)
end Go.Vabs.Ed

namespace Go.Vabs.Ee
set_option linter.unusedVariables false
set_option linter.unusedSimpArgs false
set_option maxRecDepth 10000
attribute [local simp] wp_skip wp_ret wp_exit wp_reg wp_seq wp_cond wp_block thenQ_normal thenQ_ret thenQ_exit blockQ_normal blockQ_ret blockQ_exit wpCond_true wpCond_false wpOps_nil wpVal_some wpGuard_true wpGuard_false wpOps_guard wpOps_cons
  put_at put_no ev_c ev_slot posEq_h posEq_o posEq_i posEq_ho posEq_hi posEq_oh posEq_ih posEq_oi posEq_io sel_true sel_false
  okv_some step_mv step_call step_pick pickV_bool step_bin bin_add bin_sub bin_mul bin_eql bin_neq bin_lss bin_leq bin_gtr bin_geq bin_eqb bin_neb bin_eqs bin_nes step_un un_not un_neg step_len len_slice len_str len_const step_extract extractV nth step_convInt conv_int step_convStr step_slice step_idxAddr natOf_nat step_load step_index step_field step_fieldAddr step_build step_minmax
  step_alloc step_bslice bsliceV_some newV_some step_store step_append boolIs_b boolIs_t finQ_ret finQ_normal ressE_nil ressE_cons resE_tmp consO_some initE_nil initE_cons pos_0 pos_1 pos_2 pos_3 pos_4 pos_5 pos_6 pos_7 pos_8 plain_bool plain_int plain_str plain_ptr plain_slice plain_map plain_agg plain_func plain_nilFunc V.undef oneOf_one oneOf_two ble_self
open Go.Vabs.Pk Go.Vabs.Ph Go.Vabs.Sa Go.Vabs.Sb Go.Vabs.Sc Go.Vabs.Sd Go.Vabs.Se Go.Vabs.Sg Go.Vabs.Sh Go.Vabs.Sm Go.Vabs.Sn Go.Vabs.Sp Go.Vabs.Sr Go.Vabs.St Go.Vabs.Su Go.Vabs.L2 Go.Vabs.Na Go.Vabs.Nb Go.Vabs.Ra Go.Vabs.Rb Go.Vabs.Rc Go.Vabs.Rd Go.Vabs.Re Go.Vabs.Ca Go.Vabs.Cb Go.Vabs.Vc Go.Vabs.Da Go.Vabs.Db Go.Vabs.Dd Go.Vabs.De Go.Vabs.Ea Go.Vabs.Eb Go.Vabs.Ec Go.Vabs.Ed
attribute [local simp] step_nilchk nilchk_ptr step_box cells_int cells_bool cells_str cells_slice cells_ptr cells_agg fieldAddrV natOf_zero fill repN splice over newV step_appendZ
  wp_dreg wpDs_nil wpDs_cons wantedE_none wantedE_some wpDGuard_true wpDGuard_lim wpDGuard_false wpDLim_true wpDVal_free wpDVal_lim back_limited next_limited limF_dir limF_false foot_load foot_store foot_convStr okAll_nil okAll_cons pastsOf nthP ahead few_next load_limited convStr_limited blt_dec okPair_dd okPair_dc okPair_cd okPair_cc anyIn_nil anyIn_same anyIn_cons meets_nil meets_nil'
  tn_alloc tn_load tn_load0 tn_store tn_store0 storeT_some loadC_some cellsAt_zero cellsAt_succ ownAt_zero ownAt_succ tn_first tn_first0 firstC_some tn_grow_none tn_grow tn_grow0 growN_some tn_fix tn_fix0 fixN_some bn_load bn_first bn_grow bn_store tn_next tn_alloc_dir tl_store_d tl_back tl_back_few few_back_tl backv_some back_back cut takeN nbeq_dec ble_dec meets_cons mem_nil mem_cons idOf load_d convStr_d lenOfS firstNo natOf_int if_leN bn_fix foot_bslice foot_alloc foot_box foot_append foot_call
def zeros (n : Nat) : List Nat := List.replicate n 0
def laysB (LS : List LayK) : List Nat := (LS.map layB).flatten
set_option maxHeartbeats 8000000 in
theorem Zeros_run {call : CallT} {lf nB nO nR nK nL : Nat} {os W : List (Option AObj)} {Q : Goal} {LS : List LayK} {G : List Nat} {Wn : List V} {qb qa qg qw L gap : Nat} {B : List Nat} (hgap : gap < 20) (hB : B.length = L) (hL0 : 0 < L) (hL : L < 1000) (hI : BInv os W B LS G Wn qb qa qg qw) {s0 : Env} (e1 : s0 (.o (.i (.o .h))) = .slice (some (qb, 0)) 1 L L false) (e2 : s0 (.i .h) = .int .i64 (gap : Int))
    (hQ : ∀ (s : Env) W qb, (∀ p, p = (.i (.i (.o .h))) ∨ p = (.o (.o (.i .h))) ∨ p = (.i (.o (.i .h))) → s p = s0 p) → s (.o (.i (.o .h))) = .slice (some (qb, 0)) 1 (L + gap) (L + gap) false → BInv os W (B ++ zeros gap) LS G Wn qb qa qg qw → wp call lf (OldLays nB nO nR nK nL) s (few W) Q) :
    wp call lf (OldLays14 nB nO nR nK nL) s0 (few W) Q := by
  unfold OldLays14
  obtain ⟨b1, b2⟩ := hI.b
  haveI : At W qb (.cells true (bytesV B)) := ⟨b2⟩
  rw [tl_of (X := W)]
  simp (disch := omega) [e1, e2, hB, bytesV_len]
  have hz : ∀ k, repN k [.int .u8 0] = bytesV (zeros k) := fun k => by
    induction k with
    | zero => rfl
    | succ k ih =>
      show [.int .u8 0] ++ repN k [.int .u8 0] = _
      rw [ih]
      rfl
  rw [hz]
  by_cases h0 : gap = 0
  · subst h0
    rw [append_zeroE]
    simp (disch := omega) []
    rw [← tl_of]
    refine hQ _ W qb ?_ ?_ (by rw [show zeros 0 = [] from rfl, List.append_nil]; exact hI)
    · rintro p (rfl | rfl | rfl) <;> simp
    · simp
  · obtain ⟨k, rfl⟩ : ∃ k, gap = k + 1 := ⟨gap - 1, by omega⟩
    have g1 := growB_tn (X := W) (q := qb) (n := L) (m := k) (B := B) (nb := zeros (k + 1)) hB (by simp [zeros]) (by omega) (fun _ => b2) []
    rw [show elS 1 qb L = .slice (some (qb, 0)) 1 L L false from if_neg (by omega)] at g1
    rw [g1]
    simp (disch := omega) []
    rw [tl_eq]
    have hle := hI.le
    have hX : ∀ j T, j < W.length → j ≠ qb → ((Sp.setK L W qb ++ T)[j]?).join = (W[j]?).join := fun j T h1 h2 => by rw [join_app (by rw [setK_len]; exact h1), setK_at (fun _ => h2)]
    refine hQ _ _ W.length ?_ ?_ ⟨fun j hj => by rw [hX j _ (by omega) (by omega)]; exact hI.old j hj, by rw [List.length_append, setK_len]; omega, ⟨by omega, ?_⟩, fun h => ?_, fun h => ?_, fun h => ?_⟩
    · rintro p (rfl | rfl | rfl) <;> simp
    · simp
    · exact (by have := tl_at (X := Sp.setK L W qb) (l := [some (AObj.cells true (bytesV (B ++ zeros (k + 1))))]) (k := 0); rw [setK_len] at this; exact this)
    · obtain ⟨y1, y2, y3⟩ := hI.a h
      have := join_lt y3
      exact ⟨y1, by omega, by rw [hX qa _ this y2]; exact y3⟩
    · obtain ⟨y1, y2, y3, y4⟩ := hI.g h
      have := join_lt y4
      exact ⟨y1, by omega, y3, by rw [hX qg _ this y2]; exact y4⟩
    · obtain ⟨y1, y2, y3, y4, y5⟩ := hI.w h
      have := join_lt y5
      exact ⟨y1, by omega, y3, y4, by rw [hX qw _ this y2]; exact y5⟩
theorem layB_len {b : LayK} : (layB b).length = 4 := by unfold layB; simp [bigB_len]
theorem laysB_len {LS : List LayK} : (laysB LS).length = 4 * LS.length := by
  induction LS with
  | nil => rfl
  | cons x LS ih =>
    show (layB x ++ laysB LS).length = _
    rw [List.length_append, ih, layB_len, List.length_cons]; omega
theorem laysB_succ {LS : List LayK} {i : Nat} {x : LayK} (h : LS[i]? = some x) : laysB (LS.take (i + 1)) = laysB (LS.take i) ++ layB x := by
  unfold laysB
  rw [List.take_add_one, h]
  simp
theorem BInv.move {os W Z : List (Option AObj)} {B B' : List Nat} {LS : List LayK} {G : List Nat} {Wn : List V} {qb qa qg qw p : Nat} (hI : BInv os W B LS G Wn qb qa qg qw) (hZ : ∀ j, j < W.length → j ≠ qb → (Z[j]?).join = (W[j]?).join) (hp : W.length ≤ p) (hb : (Z[p]?).join = some (newBytes B')) : BInv os Z B' LS G Wn p qa qg qw := by
  have hle := hI.le
  obtain ⟨b1, b2⟩ := hI.b
  have hpZ := join_lt hb
  refine ⟨fun j hj => by rw [hZ j (by omega) (by omega)]; exact hI.old j hj, by omega, ⟨by omega, hb⟩, fun h => ?_, fun h => ?_, fun h => ?_⟩
  · obtain ⟨y1, y2, y3⟩ := hI.a h
    have := join_lt y3
    exact ⟨y1, by omega, by rw [hZ qa this y2]; exact y3⟩
  · obtain ⟨y1, y2, y3, y4⟩ := hI.g h
    have := join_lt y4
    exact ⟨y1, by omega, y3, by rw [hZ qg this y2]; exact y4⟩
  · obtain ⟨y1, y2, y3, y4, y5⟩ := hI.w h
    have := join_lt y5
    exact ⟨y1, by omega, y3, y4, by rw [hZ qw this y2]; exact y5⟩
set_option maxHeartbeats 8000000 in
theorem OldLays_run {call : CallT} {lf nB nO nR nK nL : Nat} {os W0 : List (Option AObj)} {Q : Goal} {LS : List LayK} {G : List Nat} {Wn : List V} {qb0 qa qg qw L m : Nat} {B0 : List Nat} (hlf : 100 ≤ lf) (hB : BigF call nB) (hBr : InReg (call nB)) (hm12 : m ≤ 12) (hLS : LS.length = m) (hBl : B0.length = L) (hL0 : 0 < L) (hL : L < 1000) (h0 : BInv os W0 B0 LS G Wn qb0 qa qg qw) {s0 : Env} (e1 : s0 (.o (.i (.o .h))) = .slice (some (qb0, 0)) 1 L L false) (e2 : s0 (.i (.o (.i .h))) = elS 2 qa m)
    (hQ : ∀ (s : Env) W qb, (∀ p, p = (.i (.i (.o .h))) ∨ p = (.o (.o (.i .h))) → s p = s0 p) → s (.o (.i (.o .h))) = .slice (some (qb, 0)) 1 (L + 4 * m) (L + 4 * m) false → BInv os W (B0 ++ laysB LS) LS G Wn qb qa qg qw → wp call lf (OldRest nO nR nK nL) s (few W) Q) :
    wp call lf (OldLays nB nO nR nK nL) s0 (few W0) Q := by
  unfold OldLays
  have hlen2 : ∀ st, lenV st .slice (elS 2 qa m) = some (.int .i64 (m : Int)) := fun st => elS_len
  have hpa := elS_plain (e := 2) (q := qa) (n := m)
  simp (disch := omega) [e1, e2, hlen2, hpa]
  refine wp_loop (fun k s st => ∃ i W qb, i + k = m ∧ st = few W ∧ BInv os W (B0 ++ laysB (LS.take i)) LS G Wn qb qa qg qw ∧ (∀ p, p = (.i (.i (.o .h))) ∨ p = (.o (.o (.i .h))) → s p = s0 p) ∧ s (.o (.i (.o .h))) = .slice (some (qb, 0)) 1 (L + 4 * i) (L + 4 * i) false ∧ s (.o (.i (.o (.o (.i (.o (.o .h))))))) = elS 2 qa m ∧ s (.i (.i (.o (.o (.i (.o (.o .h))))))) = .int .i64 (m : Int) ∧ s (.o (.o (.i (.o (.i (.o (.o .h))))))) = .int .i64 (i : Int)) m ?_ (by omega) ?_
  · refine ⟨0, W0, qb0, by omega, rfl, by rw [List.take_zero, show laysB [] = [] from rfl, List.append_nil]; exact h0, ?_, ?_, ?_, ?_, ?_⟩
    · rintro p (rfl | rfl) <;> simp
    all_goals simp [e1]
  · rintro k s st ⟨i, W, qb, hk, rfl, hI, hs, s1, s2, s3, s4⟩
    cases k with
    | zero =>
      have hi : i = m := by omega
      subst hi
      rw [List.take_of_length_le (by omega)] at hI
      simp (disch := omega) [s1, s2, s3, s4, dlt_t, dlt_f, dle_t, dle_f, dltn_t, dltn_f, dlen_t, dlen_f, deq_t, deq_f, deqn_t, deqn_f]
      refine hQ _ W qb ?_ ?_ hI
      · rintro p (rfl | rfl) <;> simp [hs]
      · simp [s1]
    | succ k =>
      obtain ⟨x, hx⟩ : ∃ x, LS[i]? = some x := ⟨_, List.getElem?_eq_getElem (by omega)⟩
      have hne : LS ≠ [] := fun h => by rw [h] at hx; simp at hx
      obtain ⟨a1, a2, a3⟩ := hI.a hne
      obtain ⟨b1, b2'⟩ := hI.b
      obtain ⟨B, hBe⟩ : ∃ B, B = B0 ++ laysB (LS.take i) := ⟨_, rfl⟩
      obtain ⟨M, hM⟩ : ∃ M, M = L + 4 * i := ⟨_, rfl⟩
      have hBL : B.length = M := by rw [hBe, List.length_append, laysB_len, hBl, List.length_take, hM]; omega
      rw [← hBe] at b2'
      have hqbl := join_lt b2'
      have hqal := join_lt a3
      rw [← hM] at s1
      have hel : elS 2 qa m = .slice (some (qa, 0)) 2 m m false := if_neg (by omega)
      rw [hel] at s2
      haveI : At W qa (.cells true (elV layV LS)) := ⟨a3⟩
      have ct : cut (i * 2) 2 (elV layV LS) = some [.int .i64 (x.g : Int), .int .i64 (x.i : Int)] := cut_elV hx
      have b2 : ∀ (k : Nat) (Y l : List (Option AObj)), call nB [.int .i64 (k : Int), .int .i64 2] (tl Y l) = some (.slice (some (Y.length + l.length, 0)) 1 2 2 false, tl Y (l ++ [some (.cells true (bytesV (bigB k 2)))])) := fun k Y l => by
        have := hB (Y ++ l) k 2 (by omega) (by omega)
        rw [List.length_append, List.append_assoc] at this
        exact this
      have b2r : ∀ (k : Nat) (Y l : List (Option AObj)), call nB [.int .i64 (k : Int), .int .i64 2] (limited .call [] (tl Y l)) = some (.slice (some (Y.length + l.length, 0)) 1 2 2 false, back (limited .call [] (tl Y l)) (tl Y (l ++ [some (.cells true (bytesV (bigB k 2)))]))) := fun k Y l => by
        have := hBr [.int .i64 (k : Int), .int .i64 2] (Y ++ l) _ _ false [] (fun _ => rfl) (b2 k Y l)
        rw [limF_false] at this
        exact this
      have hMe : elS 1 qb M = .slice (some (qb, 0)) 1 M M false := if_neg (by omega)
      have g1 : ∀ l, appendV (tl W l) 1 1 (.slice (some (qb, 0)) 1 M M false) (some 2) (some (bytesV (bigB x.g 2))) = some (.slice (some (W.length + l.length, 0)) 1 (M + 2) (M + 2) false, tl (Sp.setK M W qb) (l ++ [some (.cells true (bytesV (B ++ bigB x.g 2)))])) := fun l => by
        rw [← hMe]
        exact growB_tn (X := W) (m := 1) hBL (bigB_len _ _) (by omega) (fun _ => b2') l
      obtain ⟨X1, hX1⟩ : ∃ X1, X1 = Sp.setK M W qb := ⟨_, rfl⟩
      have hX1l : X1.length = W.length := by rw [hX1, setK_len]
      have hX1n : ∀ j, j ≠ qb → (X1[j]?).join = (W[j]?).join := fun j hj => by rw [hX1]; exact setK_at (fun _ => hj)
      rw [← hX1] at g1
      haveI : LenIs X1 W.length := ⟨hX1l⟩
      rw [tl_of (X := W)]
      simp (disch := omega) [s1, s2, s3, s4, dlt_t, dlt_f, dle_t, dle_f, dltn_t, dltn_f, dlen_t, dlen_f, deq_t, deq_f, deqn_t, deqn_f, idxAddr_slice, ct, b2, b2r, take_big2E, bytesV_len, bigB_len, hBL, hX1l, -bn_grow, g1, wrap_i, limF_dir, next_back, tl_append_d1, tl_append_d2, tl_first_d1, tl_first_d2]
      refine ⟨k, by omega, i + 1, by omega, _, rfl, W.length + 4, BInv.move hI (fun j h1 h2 => by rw [join_app (by rw [hX1l]; exact h1), hX1n j h2]) (by omega) ?_, ⟨hs _ (by simp), hs _ (by simp)⟩, ⟨rfl, by omega⟩, hel.symm, by omega⟩
      have h5 := tl_at (X := X1) (l := [some (AObj.cells true [.int .i64 (x.g : Int), .int .i64 (x.i : Int)]), some (AObj.cells true (bytesV (bigB x.g 2))), none, some (AObj.cells true (bytesV (bigB x.i 2))), some (AObj.cells true (bytesV (B ++ bigB x.g 2) ++ bytesV (bigB x.i 2)))]) (k := 4)
      rw [hX1l] at h5
      rw [h5, show B0 ++ laysB (LS.take (i + 1)) = B ++ layB x from by rw [laysB_succ hx, hBe, List.append_assoc]]
      unfold newBytes layB
      simp [bytesV]
theorem nm_mid {A C : List Nat} {k z : Nat} (hk : k < 256 ^ z) : nm (A ++ (bigB k z ++ C)) (A.length : Int) z = k := by
  unfold nm
  rw [num_drop (by simp [bigB_len]), List.drop_left, List.take_append_of_le_length (by rw [bigB_len]; omega), List.take_of_length_le (by rw [bigB_len]; omega), be_bigB, Nat.mod_eq_of_lt hk]
  rfl
theorem baseAt_of {A C : List Nat} {b : BaseR} {j : Nat} (hA : A.length = j * 6) (h1 : b.g < 65536) (h2 : b.f < 65536) (h3 : b.c < 65536) : baseAt (A ++ (baseB b ++ C)) j = b := by
  have e : ((A ++ (baseB b ++ C)).drop (j * 6)).take 6 = baseB b := by rw [← hA, List.drop_left, List.take_append_of_le_length (by rw [baseB_len]; omega), List.take_of_length_le (by rw [baseB_len]; omega)]
  unfold baseAt
  rw [e]
  have f1 : nm (baseB b) 0 2 = b.g := by
    have := nm_mid (A := []) (C := bigB b.f 2 ++ bigB b.c 2) (k := b.g) (z := 2) (by omega)
    rw [List.nil_append, ← List.append_assoc] at this
    exact this
  have f2 : nm (baseB b) 2 2 = b.f := by
    have := nm_mid (A := bigB b.g 2) (C := bigB b.c 2) (k := b.f) (z := 2) (by omega)
    rw [bigB_len, ← List.append_assoc] at this
    exact this
  have f3 : nm (baseB b) 4 2 = b.c := by
    have := nm_mid (A := bigB b.g 2 ++ bigB b.f 2) (C := []) (k := b.c) (z := 2) (by omega)
    rw [List.length_append, bigB_len, bigB_len, List.append_nil] at this
    exact this
  rw [f1, f2, f3]
theorem layAt_of {A C : List Nat} {b : LayK} {j : Nat} (hA : A.length = j * 4) (h1 : b.g < 65536) (h2 : b.i < 65536) : layAt (A ++ (layB b ++ C)) j = b := by
  have e : ((A ++ (layB b ++ C)).drop (j * 4)).take 4 = layB b := by rw [← hA, List.drop_left, List.take_append_of_le_length (by rw [layB_len]; omega), List.take_of_length_le (by rw [layB_len]; omega)]
  unfold layAt
  rw [e]
  have f1 : nm (layB b) 0 2 = b.g := by
    have := nm_mid (A := []) (C := bigB b.i 2) (k := b.g) (z := 2) (by omega)
    rw [List.nil_append] at this
    exact this
  have f2 : nm (layB b) 2 2 = b.i := by
    have := nm_mid (A := bigB b.g 2) (C := []) (k := b.i) (z := 2) (by omega)
    rw [bigB_len, List.append_nil] at this
    exact this
  rw [f1, f2]
theorem flat_part {α : Type} {f : α → List Nat} {w : Nat} (hf : ∀ a, (f a).length = w) : ∀ {L : List α} {j : Nat} {x : α}, L[j]? = some x → ∃ A C, (L.map f).flatten = A ++ (f x ++ C) ∧ A.length = j * w
  | [], j, x, h => by simp at h
  | y :: L, 0, x, h => by
    cases h
    exact ⟨[], (L.map f).flatten, by simp, by simp⟩
  | y :: L, j + 1, x, h => by
    obtain ⟨A, C, e, hl⟩ := flat_part hf (L := L) (j := j) (x := x) (by simpa using h)
    exact ⟨f y ++ A, C, by simp [e], by rw [List.length_append, hf, hl, Nat.succ_mul]; omega⟩
theorem basesR_eq {l : List Int} {m n : Nat} (hm : m ≤ 12) : basesR (basesB l m n) n = basesK l m n ∧ ∀ j, j < n → baseAt (basesB l m n) j = baseK l m j := by
  have key : ∀ j, j < n → baseAt (basesB l m n) j = baseK l m j := fun j hj => by
    obtain ⟨A, C, e, hl⟩ := flat_part (f := baseB) (w := 6) (fun _ => baseB_len) (L := basesK l m n) (j := j) (x := baseK l m j) (by unfold basesK; rw [List.getElem?_map, List.getElem?_range hj]; rfl)
    unfold basesB
    rw [e]
    obtain ⟨i1, i2, i3⟩ := baseK_in (l := l) (m := m) (i := j)
    exact baseAt_of hl (by omega) (by omega) (by omega)
  exact ⟨List.map_congr_left fun j hj => key j (List.mem_range.1 hj), key⟩
theorem laysR_eq {LS : List LayK} (h : ∀ x ∈ LS, x.g < 65536 ∧ x.i < 65536) : laysR (laysB LS) LS.length = LS := by
  refine List.ext_getElem? fun j => ?_
  by_cases hj : j < LS.length
  · obtain ⟨x, hx⟩ : ∃ x, LS[j]? = some x := ⟨_, List.getElem?_eq_getElem hj⟩
    obtain ⟨A, C, e, hl⟩ := flat_part (f := layB) (w := 4) (fun _ => layB_len) hx
    unfold laysR
    rw [List.getElem?_map, List.getElem?_range hj, hx]
    show some (layAt (laysB LS) j) = some x
    unfold laysB
    rw [e, layAt_of hl (h x (List.mem_of_getElem? hx)).1 (h x (List.mem_of_getElem? hx)).2]
  · rw [List.getElem?_eq_none (by rw [laysR_len]; omega), List.getElem?_eq_none (by omega)]
def headC (n m gap : Nat) : List Nat := [0, 0] ++ bigB n 2 ++ bigB (14 + gap) 4 ++ bigB (14 + gap + 6 * n + gap) 4 ++ bigB m 2
theorem headC_len {n m gap : Nat} : (headC n m gap).length = 14 := by unfold headC; simp [bigB_len]
def tabC (l : List Int) (LS : List LayK) (n m gap : Nat) : List Nat := headC n m gap ++ zeros gap ++ basesB l m n ++ zeros gap ++ laysB LS
end Go.Vabs.Ee

namespace Go.Vabs.Ef
set_option linter.unusedVariables false
set_option linter.unusedSimpArgs false
set_option maxRecDepth 10000
attribute [local simp] wp_skip wp_ret wp_exit wp_reg wp_seq wp_cond wp_block thenQ_normal thenQ_ret thenQ_exit blockQ_normal blockQ_ret blockQ_exit wpCond_true wpCond_false wpOps_nil wpVal_some wpGuard_true wpGuard_false wpOps_guard wpOps_cons
  put_at put_no ev_c ev_slot posEq_h posEq_o posEq_i posEq_ho posEq_hi posEq_oh posEq_ih posEq_oi posEq_io sel_true sel_false
  okv_some step_mv step_call step_pick pickV_bool step_bin bin_add bin_sub bin_mul bin_eql bin_neq bin_lss bin_leq bin_gtr bin_geq bin_eqb bin_neb bin_eqs bin_nes step_un un_not un_neg step_len len_slice len_str len_const step_extract extractV nth step_convInt conv_int step_convStr step_slice step_idxAddr natOf_nat step_load step_index step_field step_fieldAddr step_build step_minmax
  step_alloc step_bslice bsliceV_some newV_some step_store step_append boolIs_b boolIs_t finQ_ret finQ_normal ressE_nil ressE_cons resE_tmp consO_some initE_nil initE_cons pos_0 pos_1 pos_2 pos_3 pos_4 pos_5 pos_6 pos_7 pos_8 plain_bool plain_int plain_str plain_ptr plain_slice plain_map plain_agg plain_func plain_nilFunc V.undef oneOf_one oneOf_two ble_self
open Go.Vabs.Pk Go.Vabs.Ph Go.Vabs.Sa Go.Vabs.Sb Go.Vabs.Sc Go.Vabs.Sd Go.Vabs.Se Go.Vabs.Sg Go.Vabs.Sh Go.Vabs.Sm Go.Vabs.Sn Go.Vabs.Sp Go.Vabs.Sr Go.Vabs.St Go.Vabs.Su Go.Vabs.L2 Go.Vabs.Na Go.Vabs.Nb Go.Vabs.Ra Go.Vabs.Rb Go.Vabs.Rc Go.Vabs.Rd Go.Vabs.Re Go.Vabs.Ca Go.Vabs.Cb Go.Vabs.Vc Go.Vabs.Da Go.Vabs.Db Go.Vabs.Dd Go.Vabs.De Go.Vabs.Ea Go.Vabs.Eb Go.Vabs.Ec Go.Vabs.Ed Go.Vabs.Ee
attribute [local simp] step_nilchk nilchk_ptr step_box cells_int cells_bool cells_str cells_slice cells_ptr cells_agg fieldAddrV natOf_zero fill repN splice over newV step_appendZ
  wp_dreg wpDs_nil wpDs_cons wantedE_none wantedE_some wpDGuard_true wpDGuard_lim wpDGuard_false wpDLim_true wpDVal_free wpDVal_lim back_limited next_limited limF_dir limF_false foot_load foot_store foot_convStr okAll_nil okAll_cons pastsOf nthP ahead few_next load_limited convStr_limited blt_dec okPair_dd okPair_dc okPair_cd okPair_cc anyIn_nil anyIn_same anyIn_cons meets_nil meets_nil'
  tn_alloc tn_load tn_load0 tn_store tn_store0 storeT_some loadC_some cellsAt_zero cellsAt_succ ownAt_zero ownAt_succ tn_first tn_first0 firstC_some tn_grow_none tn_grow tn_grow0 growN_some tn_fix tn_fix0 fixN_some bn_load bn_first bn_grow bn_store tn_next tn_alloc_dir tl_store_d tl_back tl_back_few few_back_tl backv_some back_back cut takeN nbeq_dec ble_dec meets_cons mem_nil mem_cons idOf load_d convStr_d lenOfS firstNo natOf_int if_leN bn_fix foot_bslice foot_alloc foot_box foot_append foot_call
theorem elV_int {G : List Nat} : elV intV G = G.map fun (n : Nat) => V.int .i64 (n : Int) := by
  unfold elV
  induction G with
  | nil => rfl
  | cons x G ih => rw [List.map_cons, List.flatten_cons, ih]; rfl
theorem fnd_none {gl i : Nat} {BS : List BaseR} (h : ∀ (j : Nat) (b : BaseR), j < i → BS[j]? = some b → ¬ b.g = gl) : fnd gl (BS.take i) = none := by
  unfold fnd
  rw [List.find?_eq_none]
  intro b hb
  obtain ⟨j, hj⟩ := List.mem_iff_getElem?.1 hb
  rw [List.getElem?_take] at hj
  split at hj
  · rename_i hji
    simpa using h j b hji hj
  · cases hj
theorem neq_layV {x : LayK} : binV .neq (.val (.parts [(0, (1, (false, .int))), (1, (1, (false, .int)))])) (.agg [.int .i64 (x.g : Int), .int .i64 (x.i : Int)]) (.agg [.int .i64 (x.g : Int), .int .i64 (x.i : Int)]) = some (.bool false) := by
  rw [bin_agg, eqV_parts]
  simp [eqParts_cons, eqParts_nil, part, eqO_some, eqV_int, eqC_true, eqR_neq]
set_option maxHeartbeats 8000000 in
theorem OldLoop_run {call : CallT} {lf nL : Nat} (hlf : 100 ≤ lf) (hL : LayersF call nL) {W : List (Option AObj)} {P q r qa qg qw m n : Nat} {bv : V} {BS : List BaseR} {LS : List LayK} (hBS : BS.length = n) (hLS : LS.length = m) (hn8 : n ≤ 8) (hm12 : m ≤ 12) (hall : ∀ b ∈ BS, b.f + b.c ≤ m) (hP : (W[P]?).join = some (.cells true [bv, elS 3 q n, elS 2 r m, .slice none 0 0 0 true, .slice none 0 0 0 true, .slice none 0 0 0 true])) (hq : n ≠ 0 → (W[q]?).join = some (.cells true (elV baseV BS))) (hr : m ≠ 0 → (W[r]?).join = some (.cells true (elV layV LS))) (hqa : m ≠ 0 → (W[qa]?).join = some (.cells true (elV layV LS))) (hqg : n ≠ 0 → (W[qg]?).join = some (.cells true (elV intV (BS.map BaseR.g)))) (hqw : n ≠ 0 → (W[qw]?).join = some (.cells true (elV oneS (BS.map (wantV qa m)))))
    {s0 : Env} (e1 : s0 (.i (.i (.i (.o .h)))) = .ptr (some (P, 0))) (e2 : s0 (.o (.o (.i .h))) = elS 1 qg n) (e3 : s0 (.i (.i (.o .h))) = elS 1 qw n) : wp call lf (OldLoop nL) s0 (few W) (finQ [ARes.tmp (.i (.i .h))] fun u _ => u = .bool true) := by
  unfold OldLoop
  have hgl : ∀ st, lenV st .slice (elS 1 qg n) = some (.int .i64 (n : Int)) := fun st => elS_len
  simp (disch := omega) []
  refine wp_loop (fun k s st => ∃ gl l, gl + k = 7 ∧ st = few (W ++ l) ∧ s (.i (.i (.i (.o .h)))) = .ptr (some (P, 0)) ∧ s (.o (.o (.i .h))) = elS 1 qg n ∧ s (.i (.i (.o .h))) = elS 1 qw n ∧ s (.i (.o (.o (.i .h)))) = .int .i64 (gl : Int)) 7 ?_ (by omega) ?_
  · refine ⟨0, [], by omega, by rw [List.append_nil], ?_, ?_, ?_, ?_⟩ <;> simp [e1, e2, e3]
  · rintro k s st ⟨gl, l, hk, rfl, s1, s2, s3, s4⟩
    cases k with
    | zero => simp (disch := omega) [s1, s2, s3, s4, dlt_t, dlt_f, dle_t, dle_f, dltn_t, dltn_f, dlen_t, dlen_f, deq_t, deq_f, deqn_t, deqn_f]
    | succ k =>
      obtain ⟨Z, hZ⟩ : ∃ Z, Z = W ++ l := ⟨_, rfl⟩
      have oZ : ∀ {j o}, (W[j]?).join = some o → (Z[j]?).join = some o := fun h => by rw [hZ, join_app (join_lt h)]; exact h
      obtain ⟨v, l2, c1, hv⟩ := hL Z P bv q r n m BS LS gl (oZ hP) hBS hLS (fun h => oZ (hq h)) (fun h => oZ (hr h)) (by omega) (by omega) hall (by omega)
      obtain ⟨X, hX⟩ : ∃ X, X = Z ++ l2 := ⟨_, rfl⟩
      have oX : ∀ {j o}, (W[j]?).join = some o → (X[j]?).join = some o := fun h => by rw [hX, join_app (join_lt (oZ h))]; exact oZ h
      rw [← hX] at c1 hv
      have hvp := hv.plain
      have hvl := fun st => hv.len st
      have hXl : X = W ++ (l ++ l2) := by rw [hX, hZ, List.append_assoc]
      rw [← hZ]
      simp (disch := omega) [s1, s2, s3, s4, dlt_t, dlt_f, dle_t, dle_f, dltn_t, dltn_f, dlen_t, dlen_f, deq_t, deq_f, deqn_t, deqn_f, c1, hvp, hgl, wrap_i]
      refine wp_loop (fun k' s st => ∃ (t : Nat) (kk : Int), t = k' ∧ t ≤ n ∧ st = few X ∧ ((kk = -1 ∧ ∀ (j : Nat) (b : BaseR), t ≤ j → BS[j]? = some b → ¬ b.g = gl) ∨ ∃ (i : Nat) (b : BaseR), t ≤ i ∧ kk = (i : Int) ∧ BS[i]? = some b ∧ b.g = gl ∧ ∀ (j : Nat) (b : BaseR), t ≤ j → j < i → BS[j]? = some b → ¬ b.g = gl) ∧ s (.i (.i (.i (.o .h)))) = .ptr (some (P, 0)) ∧ s (.o (.o (.i .h))) = elS 1 qg n ∧ s (.i (.i (.o .h))) = elS 1 qw n ∧ s (.i (.o (.o (.i .h)))) = .int .i64 (gl : Int) ∧ s (.o (.i (.o (.i .h)))) = v ∧ s (.i (.i (.o (.i .h)))) = .bool (fnd gl BS).isSome ∧ s (.o (.o (.i (.i .h)))) = .int .i64 kk ∧ s (.i (.o (.i (.i .h)))) = .int .i64 ((t : Int) - 1)) n ?_ (by omega) ?_
      · refine ⟨n, -1, rfl, Nat.le_refl _, rfl, .inl ⟨rfl, fun j b h1 h2 => by have := (List.getElem?_eq_some_iff.1 h2).1; omega⟩, ?_, ?_, ?_, ?_, ?_, ?_, ?_, ?_⟩ <;> simp [s1, s2, s3, s4]
      · rintro k' s' st ⟨t, kk, rfl, htn, rfl, hkk, t1, t2, t3, t4, t5, t6, t7, t8⟩
        cases t with
        | zero =>
          rcases hkk with ⟨rfl, hno⟩ | ⟨i, b, _, rfl, hb, hbg, hno⟩
          · have hf : fnd gl BS = none := by
              have := fnd_none (BS := BS) (i := BS.length) (gl := gl) fun j b h1 h2 => hno j b (by omega) h2
              rw [List.take_length] at this
              exact this
            rw [hf] at t6
            simp (disch := omega) [t1, t2, t3, t4, t5, t6, t7, t8, dlt_t, dlt_f, dle_t, dle_f, dltn_t, dltn_f, dlen_t, dlen_f, deq_t, deq_f, deqn_t, deqn_f, wrap_i]
            exact ⟨k, by omega, gl + 1, by omega, ⟨_, by rw [hXl]⟩, by omega⟩
          · have hf : fnd gl BS = some b := fnd_yes (fnd_none fun j b h1 h2 => hno j b (by omega) h1 h2) hb hbg
            rw [hf] at t6 hv hvl
            have hin := (List.getElem?_eq_some_iff.1 hb).1
            have hbm := hall b (List.mem_of_getElem? hb)
            have hll : (layersOf LS (some b)).length = b.c := by show ((LS.drop b.f).take b.c).length = _; rw [List.length_take, List.length_drop]; omega
            rw [hll] at hvl
            have hqw1 := oX (hqw (by omega))
            rw [elV_oneS] at hqw1
            haveI : At X qw (.cells true (BS.map (wantV qa m))) := ⟨hqw1⟩
            have hel : elS 1 qw n = .slice (some (qw, 0)) 1 n n false := if_neg (by omega)
            rw [hel] at t3
            have nw : nth i (BS.map (wantV qa m)) = some (wantV qa m b) := by rw [nth_eq, List.getElem?_map, hb]; rfl
            have hwp : (wantV qa m b).plain = true := by unfold wantV; split <;> rfl
            have hwl : ∀ st, lenV st .slice (wantV qa m b) = some (.int .i64 (b.c : Int)) := fun st => by
              unfold wantV
              split
              · rw [show b.c = 0 from by omega]; rfl
              · rfl
            rw [tl_of (X := X)]
            simp (disch := omega) [t1, t2, t3, t4, t5, t6, t7, t8, dlt_t, dlt_f, dle_t, dle_f, dltn_t, dltn_f, dlen_t, dlen_f, deq_t, deq_f, deqn_t, deqn_f, wrap_i, idxAddr_slice, nw, hwp, hwl, hvl]
            rw [← tl_of]
            refine wp_loop (fun k2 s st => ∃ j, j + k2 = b.c ∧ st = few X ∧ s (.i (.i (.i (.o .h)))) = .ptr (some (P, 0)) ∧ s (.o (.o (.i .h))) = elS 1 qg n ∧ s (.i (.i (.o .h))) = .slice (some (qw, 0)) 1 n n false ∧ s (.i (.o (.o (.i .h)))) = .int .i64 (gl : Int) ∧ s (.o (.i (.o (.i .h)))) = v ∧ s (.o (.o (.i (.i .h)))) = .int .i64 (i : Int) ∧ s (.i (.o (.i (.i (.i (.o (.i .h))))))) = .int .i64 (b.c : Int) ∧ s (.o (.i (.i (.i (.i (.o (.i .h))))))) = .int .i64 (j : Int)) b.c ?_ (by omega) ?_
            · refine ⟨0, by omega, rfl, ?_, ?_, ?_, ?_, ?_, ?_, ?_, ?_⟩ <;> simp [t1, t2, t3, t4, t5, t6, t7, t8]
            · rintro k2 s2 st ⟨j, hk2, rfl, w1, w2, w3, w4, w5, w6, w7, w8⟩
              cases k2 with
              | zero =>
                simp (disch := omega) [w1, w2, w3, w4, w5, w6, w7, w8, dlt_t, dlt_f, dle_t, dle_f, dltn_t, dltn_f, dlen_t, dlen_f, deq_t, deq_f, deqn_t, deqn_f, wrap_i]
                exact ⟨k, by omega, gl + 1, by omega, ⟨_, by rw [hXl]⟩, hel.symm, by omega⟩
              | succ k2 =>
                obtain ⟨x, hx⟩ : ∃ x, (layersOf LS (some b))[j]? = some x := ⟨_, List.getElem?_eq_getElem (by omega)⟩
                have hxl : LS[b.f + j]? = some x := by
                  have h : ((LS.drop b.f).take b.c)[j]? = some x := hx
                  rw [List.getElem?_take, if_pos (by omega), List.getElem?_drop] at h
                  exact h
                obtain ⟨⟨xp, xo⟩, x1, x2⟩ := hv.ld hx
                have x1 : idxAddrV (.slice 2) v (some j) = some (.ptr (some (xp, xo))) := x1 (.int .i64 (j : Int)) rfl
                have x2 : ∀ l, loadV (tl X l) true 2 (.ptr (some (xp, xo))) = some (.agg [.int .i64 (x.g : Int), .int .i64 (x.i : Int)]) := fun l => x2 X l fun _ _ => rfl
                have hwe : wantV qa m b = .slice (some (qa, b.f * 2)) 2 b.c (m - b.f) false := if_neg (by omega)
                haveI : At X qa (.cells true (elV layV LS)) := ⟨oX (hqa (by omega))⟩
                have ct : cut (b.f * 2 + j * 2) 2 (elV layV LS) = some [.int .i64 (x.g : Int), .int .i64 (x.i : Int)] := by
                  have := cut_elV hxl
                  rw [Nat.add_mul] at this
                  exact this
                rw [hwe] at nw
                rw [tl_of (X := X)]
                simp (disch := omega) [w1, w2, w3, w4, w5, w6, w7, w8, dlt_t, dlt_f, dle_t, dle_f, dltn_t, dltn_f, dlen_t, dlen_f, deq_t, deq_f, deqn_t, deqn_f, wrap_i, idxAddr_slice, nw, x1, x2, ct, neq_layV, limF_dir]
                exact ⟨k2, by omega, j + 1, by omega, by omega⟩
        | succ t =>
          obtain ⟨b, hb⟩ : ∃ b, BS[t]? = some b := ⟨_, List.getElem?_eq_getElem (by omega)⟩
          have hqg1 := oX (hqg (by omega))
          rw [elV_int] at hqg1
          obtain ⟨GL, hGL⟩ : ∃ GL, GL = (BS.map BaseR.g).map fun (n : Nat) => V.int .i64 (n : Int) := ⟨_, rfl⟩
          rw [← hGL] at hqg1
          haveI : At X qg (.cells true GL) := ⟨hqg1⟩
          have hel : elS 1 qg n = .slice (some (qg, 0)) 1 n n false := if_neg (by omega)
          rw [hel] at t2
          have et : ((t + 1 : Nat) : Int) - 1 = (t : Int) := by omega
          rw [et] at t8
          have ng : nth t GL = some (.int .i64 (b.g : Int)) := by rw [hGL, nth_eq, List.getElem?_map, List.getElem?_map, hb]; rfl
          rw [tl_of (X := X)]
          by_cases hg : b.g = gl
          · simp (disch := omega) [t1, t2, t3, t4, t5, t6, t7, t8, dlt_t, dlt_f, dle_t, dle_f, dltn_t, dltn_f, dlen_t, dlen_f, deq_t, deq_f, deqn_t, deqn_f, wrap_i, idxAddr_slice, ng, hg]
            exact ⟨t, by omega, by omega, (t : Int), .inr ⟨t, Nat.le_refl _, rfl, b, hb, hg, fun j b' h1 h2 => by omega⟩, hel.symm, rfl, rfl⟩
          · simp (disch := omega) [t1, t2, t3, t4, t5, t6, t7, t8, dlt_t, dlt_f, dle_t, dle_f, dltn_t, dltn_f, dlen_t, dlen_f, deq_t, deq_f, deqn_t, deqn_f, wrap_i, idxAddr_slice, ng]
            refine ⟨t, by omega, by omega, kk, ?_, hel.symm, rfl, rfl⟩
            have step : ∀ (j : Nat) (b' : BaseR), t ≤ j → (t + 1 ≤ j → BS[j]? = some b' → ¬ b'.g = gl) → BS[j]? = some b' → ¬ b'.g = gl := fun j b' h1 h2 h3 => by
              by_cases e : j = t
              · subst e
                rw [hb] at h3; cases h3; exact hg
              · exact h2 (by omega) h3
            rcases hkk with ⟨h1, hno⟩ | ⟨i, b', h1, h2, h3, h4, hno⟩
            · exact .inl ⟨h1, fun j b' g1 g2 => step j b' g1 (fun g3 => hno j b' g3) g2⟩
            · exact .inr ⟨i, by omega, h2, b', h3, h4, fun j b'' g1 g2 g3 => step j b'' g1 (fun g4 => hno j b'' g4 g2) g3⟩
end Go.Vabs.Ef

namespace Go.Vabs.Eg
set_option linter.unusedVariables false
set_option linter.unusedSimpArgs false
set_option maxRecDepth 10000
attribute [local simp] wp_skip wp_ret wp_exit wp_reg wp_seq wp_cond wp_block thenQ_normal thenQ_ret thenQ_exit blockQ_normal blockQ_ret blockQ_exit wpCond_true wpCond_false wpOps_nil wpVal_some wpGuard_true wpGuard_false wpOps_guard wpOps_cons
  put_at put_no ev_c ev_slot posEq_h posEq_o posEq_i posEq_ho posEq_hi posEq_oh posEq_ih posEq_oi posEq_io sel_true sel_false
  okv_some step_mv step_call step_pick pickV_bool step_bin bin_add bin_sub bin_mul bin_eql bin_neq bin_lss bin_leq bin_gtr bin_geq bin_eqb bin_neb bin_eqs bin_nes step_un un_not un_neg step_len len_slice len_str len_const step_extract extractV nth step_convInt conv_int step_convStr step_slice step_idxAddr natOf_nat step_load step_index step_field step_fieldAddr step_build step_minmax
  step_alloc step_bslice bsliceV_some newV_some step_store step_append boolIs_b boolIs_t finQ_ret finQ_normal ressE_nil ressE_cons resE_tmp consO_some initE_nil initE_cons pos_0 pos_1 pos_2 pos_3 pos_4 pos_5 pos_6 pos_7 pos_8 plain_bool plain_int plain_str plain_ptr plain_slice plain_map plain_agg plain_func plain_nilFunc V.undef oneOf_one oneOf_two ble_self
open Go.Vabs.Pk Go.Vabs.Ph Go.Vabs.Sa Go.Vabs.Sb Go.Vabs.Sc Go.Vabs.Sd Go.Vabs.Se Go.Vabs.Sg Go.Vabs.Sh Go.Vabs.Sm Go.Vabs.Sn Go.Vabs.Sp Go.Vabs.Sr Go.Vabs.St Go.Vabs.Su Go.Vabs.L2 Go.Vabs.Na Go.Vabs.Nb Go.Vabs.Ra Go.Vabs.Rb Go.Vabs.Rc Go.Vabs.Rd Go.Vabs.Re Go.Vabs.Ca Go.Vabs.Cb Go.Vabs.Vc Go.Vabs.Da Go.Vabs.Db Go.Vabs.Dd Go.Vabs.De Go.Vabs.Ea Go.Vabs.Eb Go.Vabs.Ec Go.Vabs.Ed Go.Vabs.Ee Go.Vabs.Ef
attribute [local simp] step_nilchk nilchk_ptr step_box cells_int cells_bool cells_str cells_slice cells_ptr cells_agg fieldAddrV natOf_zero fill repN splice over newV step_appendZ
  wp_dreg wpDs_nil wpDs_cons wantedE_none wantedE_some wpDGuard_true wpDGuard_lim wpDGuard_false wpDLim_true wpDVal_free wpDVal_lim back_limited next_limited limF_dir limF_false foot_load foot_store foot_convStr okAll_nil okAll_cons pastsOf nthP ahead few_next load_limited convStr_limited blt_dec okPair_dd okPair_dc okPair_cd okPair_cc anyIn_nil anyIn_same anyIn_cons meets_nil meets_nil'
  tn_alloc tn_load tn_load0 tn_store tn_store0 storeT_some loadC_some cellsAt_zero cellsAt_succ ownAt_zero ownAt_succ tn_first tn_first0 firstC_some tn_grow_none tn_grow tn_grow0 growN_some tn_fix tn_fix0 fixN_some bn_load bn_first bn_grow bn_store tn_next tn_alloc_dir tl_store_d tl_back tl_back_few few_back_tl backv_some back_back cut takeN nbeq_dec ble_dec meets_cons mem_nil mem_cons idOf load_d convStr_d lenOfS firstNo natOf_int if_leN bn_fix foot_bslice foot_alloc foot_box foot_append foot_call
theorem zeros_len {n : Nat} : (zeros n).length = n := by simp [zeros]
structure TabC (bs : List Nat) (l : List Int) (LS : List LayK) (n m gap : Nat) : Prop where
  len : bs.length = 14 + gap + 6 * n + gap + 4 * m
  v : nm bs 0 2 = 0
  cn : nm bs 2 2 = n
  fr : nm bs 4 4 = 14 + gap
  ap : nm bs 8 4 = 14 + gap + 6 * n + gap
  cm : nm bs 12 2 = m
  recs : (bs.drop (14 + gap)).take (6 * n) = basesB l m n
  lays : (bs.drop (14 + gap + 6 * n + gap)).take (4 * m) = laysB LS
theorem tabC_facts {l : List Int} {LS : List LayK} {n m gap : Nat} (hn : n ≤ 8) (hm : m ≤ 12) (hg : gap < 20) (hLS : LS.length = m) : TabC (tabC l LS n m gap) l LS n m gap := by
  obtain ⟨R, hR⟩ : ∃ R, R = zeros gap ++ (basesB l m n ++ (zeros gap ++ laysB LS)) := ⟨_, rfl⟩
  have e : tabC l LS n m gap = [0, 0] ++ (bigB n 2 ++ (bigB (14 + gap) 4 ++ (bigB (14 + gap + 6 * n + gap) 4 ++ (bigB m 2 ++ R)))) := by
    unfold tabC headC
    rw [hR]
    simp only [List.append_assoc]
  have hl : (tabC l LS n m gap).length = 14 + gap + 6 * n + gap + 4 * m := by
    rw [e, hR]
    simp only [List.length_append, bigB_len, zeros_len, basesB_len, laysB_len, hLS, List.length_cons, List.length_nil]
    omega
  refine ⟨hl, ?_, ?_, ?_, ?_, ?_, ?_, ?_⟩
  · rw [e]
    exact nm_mid (A := []) (k := 0) (z := 2) (by omega)
  · rw [e]
    exact nm_mid (A := [0, 0]) (k := n) (z := 2) (by omega)
  · rw [e, ← List.append_assoc]
    have := nm_mid (A := [0, 0] ++ bigB n 2) (k := 14 + gap) (z := 4) (C := bigB (14 + gap + 6 * n + gap) 4 ++ (bigB m 2 ++ R)) (by omega)
    rw [List.length_append, bigB_len] at this
    exact this
  · rw [e, ← List.append_assoc, ← List.append_assoc]
    have := nm_mid (A := [0, 0] ++ bigB n 2 ++ bigB (14 + gap) 4) (k := 14 + gap + 6 * n + gap) (z := 4) (C := bigB m 2 ++ R) (by omega)
    rw [List.length_append, List.length_append, bigB_len, bigB_len] at this
    exact this
  · rw [e, ← List.append_assoc, ← List.append_assoc, ← List.append_assoc]
    have := nm_mid (A := [0, 0] ++ bigB n 2 ++ bigB (14 + gap) 4 ++ bigB (14 + gap + 6 * n + gap) 4) (k := m) (z := 2) (C := R) (by omega)
    rw [List.length_append, List.length_append, List.length_append, bigB_len, bigB_len, bigB_len] at this
    exact this
  · have e2 : tabC l LS n m gap = (headC n m gap ++ zeros gap) ++ (basesB l m n ++ (zeros gap ++ laysB LS)) := by unfold tabC; simp only [List.append_assoc]
    have h1 : (headC n m gap ++ zeros gap).length = 14 + gap := by rw [List.length_append, headC_len, zeros_len]
    rw [e2, ← h1, List.drop_left, List.take_append_of_le_length (by rw [basesB_len]; omega), List.take_of_length_le (by rw [basesB_len]; omega)]
  · have e2 : tabC l LS n m gap = (headC n m gap ++ zeros gap ++ basesB l m n ++ zeros gap) ++ laysB LS := rfl
    have h1 : (headC n m gap ++ zeros gap ++ basesB l m n ++ zeros gap).length = 14 + gap + 6 * n + gap := by rw [List.length_append, List.length_append, List.length_append, headC_len, zeros_len, basesB_len]
    rw [e2, ← h1, List.drop_left, List.take_of_length_le (by rw [laysB_len]; omega)]
theorem bigs_lt {n z b : Nat} (h : b ∈ bigB n z) : b < 256 := bigB_lt _ _ b h
theorem tabC_lt {l : List Int} {LS : List LayK} {n m gap : Nat} : ∀ b ∈ tabC l LS n m gap, b < 256 := by
  intro b hb
  unfold tabC headC zeros basesB laysB at hb
  simp only [List.mem_append, List.mem_flatten, List.mem_map, List.mem_replicate] at hb
  rcases hb with ((((((((hb | hb) | hb) | hb) | hb) | hb) | ⟨t, ⟨x, _, rfl⟩, h2⟩) | hb) | ⟨t, ⟨x, _, rfl⟩, h2⟩)
  · simp at hb; omega
  · exact bigs_lt hb
  · exact bigs_lt hb
  · exact bigs_lt hb
  · exact bigs_lt hb
  · omega
  · unfold baseB at h2
    simp only [List.mem_append] at h2
    rcases h2 with (h2 | h2) | h2 <;> exact bigs_lt h2
  · omega
  · unfold layB at h2
    simp only [List.mem_append] at h2
    rcases h2 with h2 | h2 <;> exact bigs_lt h2
set_option maxHeartbeats 4000000 in
theorem OldRest_run {call : CallT} {lf nO nR nK nL : Nat} (hlf : 100 ≤ lf) (hO : OneTF call nO) (hR : ReadCF call nR) (hK : ∀ st, call nK [] st = some (.bool true, st)) (hL : LayersF call nL) {os W : List (Option AObj)} {l ly : List Int} {n m gap qb qa qg qw L : Nat} (hn8 : n ≤ 8) (hm12 : m ≤ 12) (hg : gap < 20) (hI : BInv os W (tabC l (laysK ly m) n m gap) (laysK ly m) (glyphsK l m n) (wantsK qa l m n) qb qa qg qw) (hLe : L = (tabC l (laysK ly m) n m gap).length) {s0 : Env} (e1 : s0 (.o (.i (.o .h))) = .slice (some (qb, 0)) 1 L L false) (e2 : s0 (.o (.o (.i .h))) = elS 1 qg n) (e3 : s0 (.i (.i (.o .h))) = elS 1 qw n) :
    wp call lf (OldRest nO nR nK nL) s0 (few W) (finQ [ARes.tmp (.i (.i .h))] fun u _ => u = .bool true) := by
  unfold OldRest
  have hLSl : (laysK ly m).length = m := laysK_len
  have T := tabC_facts (l := l) hn8 hm12 hg hLSl
  have h256 := tabC_lt (l := l) (LS := laysK ly m) (n := n) (m := m) (gap := gap)
  obtain ⟨bs, hbs⟩ : ∃ bs, bs = tabC l (laysK ly m) n m gap := ⟨_, rfl⟩
  rw [← hbs] at T h256 hI hLe
  have bsee := See.own (os := W) (p := qb) (c := L) (bs := bs) (f := false) hI.b.2 h256 (by omega)
  rw [← hLe] at bsee
  have hbl : bs.length ≤ 5000000 := by have := T.len; omega
  obtain ⟨F, G, Y, c1, hfm, _, k1, k2⟩ := hO W _ tColr bs rfl (by decide) bsee.1 bsee.2 hbl
  have hT : Tame [(tColr, bs)] := ⟨by simp, by simp, fun x hx => by rw [List.mem_singleton.1 hx]; exact ⟨by show bs.length ≤ _; omega, h256⟩⟩
  obtain ⟨b1, b2⟩ := basesR_eq (l := l) (m := m) (n := n) hm12
  have hok : ∀ x ∈ laysK ly m, x.g < 65536 ∧ x.i < 65536 := fun x hx => by
    unfold laysK at hx
    obtain ⟨i, _, rfl⟩ := List.mem_map.1 hx
    exact ⟨pN_lt (by omega), pN_lt (by omega)⟩
  have b3 := laysR_eq hok
  rw [hLSl] at b3
  obtain ⟨P, Z, c2, k3, k4, bv, q, r, z1, z2, z3⟩ := hR Y F bs (basesB l m n) (laysB (laysK ly m)) n m (FontMem.see hfm) hT (by have := T.len; omega) T.v T.cn.symm T.cm.symm (by omega) (by omega) (by rw [T.fr]; have := T.len; omega) (by rw [T.ap]; have := T.len; omega) (by rw [T.fr]; exact T.recs.symm) (by rw [T.ap]; exact T.lays.symm) (fun j hj => by rw [b2 j hj]; exact baseK_in.2.2)
  rw [b1] at z2
  rw [b3] at z3
  have oZ : ∀ j, j < W.length → (Z[j]?).join = (W[j]?).join := fun j hj => by rw [k3 j (by omega), k1 j hj]
  unfold tColr at c1
  have hbp := bsee.plain
  simp (disch := omega) [e1, e2, e3, c1, c2, hK, dlt_t, dlt_f, dle_t, dle_f, dltn_t, dltn_f, dlen_t, dlen_f, deq_t, deq_f, deqn_t, deqn_f, bin_eqptr]
  have hgl : glyphsK l m n ≠ [] ∨ n = 0 := by
    by_cases h : n = 0
    · exact .inr h
    · exact .inl fun e => h (by have := congrArg List.length e; rw [glyphsK_len] at this; exact this)
  refine OldLoop_run (qa := qa) (qg := qg) (qw := qw) (BS := basesK l m n) (LS := laysK ly m) hlf hL basesK_len hLSl hn8 hm12 (fun b hb => ?_) z1 z2 z3 (fun h => ?_) (fun h => ?_) (fun h => ?_) ?_ ?_ ?_
  · unfold basesK at hb
    obtain ⟨i, _, rfl⟩ := List.mem_map.1 hb
    exact baseK_in.2.2
  · have := (hI.a (fun e => h (by have := congrArg List.length e; rw [hLSl] at this; exact this))).2.2
    rw [oZ qa (join_lt this)]; exact this
  · have := (hI.g (fun e => h (by have := congrArg List.length e; rw [glyphsK_len] at this; exact this))).2.2.2
    rw [oZ qg (join_lt this)]; exact this
  · have := (hI.w (fun e => h (by have := congrArg List.length e; rw [wantsK_len] at this; exact this))).2.2.2.2
    rw [oZ qw (join_lt this)]; exact this
  all_goals simp [e1, e2, e3]
set_option maxHeartbeats 8000000 in
theorem OldZ_run {call : CallT} {lf nP nB nO nR nK nL : Nat} (hlf : 100 ≤ lf) (hPk : PickF call nP) (hB : BigF call nB) (hBr : InReg (call nB)) (hO : OneTF call nO) (hR : ReadCF call nR) (hK : ∀ st, call nK [] st = some (.bool true, st)) (hL : LayersF call nL) {os W : List (Option AObj)} {hv_ lv : V} {l ly : List Int} {n m gap qb : Nat} (hv : ParI os hv_ l) (hw : ParI os lv ly) (hn3 : 3 * n ≤ l.length) (hm2 : 2 * m ≤ ly.length) (hn8 : n ≤ 8) (hm12 : m ≤ 12) (hg : gap < 20) (hW : ∀ j, j < os.length → (W[j]?).join = (os[j]?).join) (hWl : os.length ≤ W.length) (hb : os.length ≤ qb ∧ (W[qb]?).join = some (newBytes (headC n m gap))) {s0 : Env} (e1 : s0 .h = hv_) (e2 : s0 (.o .h) = lv) (e3 : s0 (.i .h) = .int .i64 (gap : Int)) (e4 : s0 (.o (.o (.o .h))) = .int .i64 (n : Int)) (e5 : s0 (.i (.o (.o .h))) = .int .i64 (m : Int)) (e6 : s0 (.o (.i (.o .h))) = .slice (some (qb, 0)) 1 14 14 false) :
    wp call lf (OldZ nP nB nO nR nK nL) s0 (few W) (finQ [ARes.tmp (.i (.i .h))] fun u _ => u = .bool true) := by
  unfold OldZ
  have hLSl : (laysK ly m).length = m := laysK_len
  have rest : ∀ (t : Env) (W2 : List (Option AObj)) qb2, t .h = hv_ → t (.o .h) = lv → t (.i .h) = .int .i64 (gap : Int) → t (.o (.o (.o .h))) = .int .i64 (n : Int) → t (.i (.o (.o .h))) = .int .i64 (m : Int) → t (.o (.i (.o .h))) = .slice (some (qb2, 0)) 1 (14 + gap) (14 + gap) false → t (.i (.i (.o .h))) = .slice none 0 0 0 true → t (.o (.o (.i .h))) = .slice none 0 0 0 true → t (.i (.o (.i .h))) = .slice none 0 0 0 true → (∀ j, j < os.length → (W2[j]?).join = (os[j]?).join) → os.length ≤ W2.length → os.length ≤ qb2 → (W2[qb2]?).join = some (newBytes (headC n m gap ++ zeros gap)) → wp call lf (OldAll nP nB nO nR nK nL) t (few W2) (finQ [ARes.tmp (.i (.i .h))] fun u _ => u = .bool true) := fun t W2 qb2 a1 a2 a3 a4 a5 a6 a7 a8 a9 o1 o2 o3 o4 => by
    have lqb := join_lt o4
    refine OldAll_run hlf hPk (hw.keep o1) hm2 hm12 a2 a5 a9 fun s W3 qa g1 g2 g3 g4 g5 => ?_
    refine OldBases_run (os := os) (LS := laysK ly m) (B0 := headC n m gap ++ zeros gap) (qb0 := qb2) (qa := qa) hlf hPk hB hv hn3 hn8 hm12 hg (by rw [List.length_append, headC_len, zeros_len]) hLSl ⟨fun j hj => by rw [g3 j (by omega), o1 j hj], by omega, ⟨o3, by rw [g3 qb2 lqb]; exact o4⟩, fun h => ?_, fun h => absurd rfl h, fun h => absurd rfl h⟩ (by rw [g1 _ (by simp), a1]) (by rw [g1 _ (by simp), a4]) (by rw [g1 _ (by simp), a5]) (by rw [g1 _ (by simp), a6]) (by rw [g1 _ (by simp), a7]) (by rw [g1 _ (by simp), a8]) g2 (by rw [g1 _ (by simp), a3]) fun s W4 qb3 qg qw d1 d2 d3 d4 d5 d6 => ?_
    · obtain ⟨y1, y2⟩ := g5 (fun e => h (List.length_eq_zero_iff.1 (by rw [hLSl]; exact e)))
      exact ⟨by omega, by omega, y2⟩
    · refine Zeros_run (L := 14 + gap + 6 * n) hg (by rw [List.length_append, List.length_append, headC_len, zeros_len, basesB_len]) (by omega) (by omega) d6 d2 d1 fun s W5 qb4 p1 p2 p3 => ?_
      refine OldLays_run (L := 14 + gap + 6 * n + gap) (m := m) hlf hB hBr hm12 hLSl (by rw [List.length_append, List.length_append, List.length_append, headC_len, zeros_len, basesB_len]) (by omega) (by omega) p3 p2 (by rw [p1 _ (by simp), d5]) fun s W6 qb5 r1 r2 r3 => ?_
      exact OldRest_run hlf hO hR hK hL hn8 hm12 hg r3 (by rw [(tabC_facts (l := l) hn8 hm12 hg hLSl).len]) r2 (by rw [r1 _ (by simp), p1 _ (by simp), d4]) (by rw [r1 _ (by simp), p1 _ (by simp), d3])
  obtain ⟨b1, b2⟩ := hb
  have lqb := join_lt b2
  haveI : At W qb (.cells true (bytesV (headC n m gap))) := ⟨b2⟩
  have hz : ∀ k, repN k [.int .u8 0] = bytesV (zeros k) := fun k => by
    induction k with
    | zero => rfl
    | succ k ih =>
      show [.int .u8 0] ++ repN k [.int .u8 0] = _
      rw [ih]
      rfl
  rw [tl_of (X := W)]
  simp (disch := omega) [e3, e6, bytesV_len, headC_len]
  rw [hz]
  by_cases h0 : gap = 0
  · subst h0
    rw [append_zeroE]
    simp (disch := omega) []
    rw [← tl_of]
    refine rest _ W qb ?_ ?_ ?_ ?_ ?_ ?_ ?_ ?_ ?_ hW hWl b1 (by rw [show zeros 0 = [] from rfl, List.append_nil]; exact b2) <;> simp [e1, e2, e3, e4, e5, e6]
  · obtain ⟨k, rfl⟩ : ∃ k, gap = k + 1 := ⟨gap - 1, by omega⟩
    have g1 := growB_tn (X := W) (q := qb) (n := 14) (m := k) (B := headC n m (k + 1)) (nb := zeros (k + 1)) headC_len (by simp [zeros]) (by omega) (fun _ => b2) []
    rw [show elS 1 qb 14 = .slice (some (qb, 0)) 1 14 14 false from rfl] at g1
    rw [g1]
    simp (disch := omega) []
    rw [tl_eq]
    refine rest _ _ W.length ?_ ?_ ?_ ?_ ?_ ?_ ?_ ?_ ?_ (fun j hj => by rw [join_app (by rw [setK_len]; omega), setK_at (fun _ => by omega)]; exact hW j hj) (by rw [List.length_append, setK_len]; omega) (by omega) ?_
    · simp [e1]
    · simp [e2]
    · simp [e3]
    · simp [e4]
    · simp [e5]
    · simp
    · simp
    · simp
    · simp
    · have := tl_at (X := Sp.setK 14 W qb) (l := [some (AObj.cells true (bytesV (headC n m (k + 1) ++ zeros (k + 1))))]) (k := 0)
      rw [setK_len] at this
      exact this
set_option maxHeartbeats 8000000 in
theorem Old_run {call : CallT} {lf nP nB nO nR nK nL : Nat} (hlf : 100 ≤ lf) (hPk : PickF call nP) (hB : BigF call nB) (hBr : InReg (call nB)) (hO : OneTF call nO) (hR : ReadCF call nR) (hK : ∀ st, call nK [] st = some (.bool true, st)) (hL : LayersF call nL) {os : List (Option AObj)} {hv_ lv : V} {l ly : List Int} {gp : Int} (hv : ParI os hv_ l) (hw : ParI os lv ly) (hll : l.length < 9223372036854775808) (hyl : ly.length < 9223372036854775808) :
    ∃ s1, enterF call lf [hv_, lv, .int .i64 gp] (few os) (Old_c nP nB nO nR nK nL) = some (.bool true, s1) := by
  refine enter_ex ?_
  obtain ⟨gap, hgap⟩ : ∃ g, g = pN gp 20 := ⟨_, rfl⟩
  have hg := pN_lt (z := gp) (k := 20) (by omega)
  rw [← hgap] at hg
  have pg : ∀ st, call nP [.int .i64 gp, .int .i64 20] st = some (.int .i64 (gap : Int), st) := fun st => by
    rw [hPk _ _ _ (by omega) (by omega)]
    have := pN_eq (z := gp) (k := 20) (by omega)
    rw [show ((20 : Nat) : Int) = 20 from rfl] at this
    rw [this, hgap]
  obtain ⟨a1, r1, hve, _⟩ := hv.ex
  obtain ⟨a2, r2, hwe, _⟩ := hw.ex
  obtain ⟨la, hla⟩ : ∃ z, z = l.length := ⟨_, rfl⟩
  obtain ⟨lb, hlb⟩ : ∃ z, z = ly.length := ⟨_, rfl⟩
  rw [← hla] at hve hll
  rw [← hlb] at hwe hyl
  have hvp : hv_.plain = true := by rw [hve]; rfl
  have hwp : lv.plain = true := by rw [hwe]; rfl
  have hvl : ∀ st, lenV st .slice hv_ = some (.int .i64 (la : Int)) := fun st => by rw [hve]; rfl
  have hwl : ∀ st, lenV st .slice lv = some (.int .i64 (lb : Int)) := fun st => by rw [hwe]; rfl
  obtain ⟨n, hn⟩ : ∃ n, n = min (la / 3) 8 := ⟨_, rfl⟩
  obtain ⟨m, hm⟩ : ∃ m, m = min (lb / 2) 12 := ⟨_, rfl⟩
  obtain ⟨q3, hq3⟩ : ∃ q, q = la / 3 := ⟨_, rfl⟩
  obtain ⟨q2, hq2⟩ : ∃ q, q = lb / 2 := ⟨_, rfl⟩
  have d3 : ∀ eq, binV .quo eq (.int .i64 (la : Int)) (.int .i64 3) = some (.int .i64 (q3 : Int)) := fun eq => by
    rw [bin_quo (by omega), show Int.tdiv (la : Int) 3 = (q3 : Int) from by rw [hq3]; exact (Int.ofNat_tdiv la 3).symm]
    simp (disch := omega) [wrap_i]
  have d2 : ∀ eq, binV .quo eq (.int .i64 (lb : Int)) (.int .i64 2) = some (.int .i64 (q2 : Int)) := fun eq => by
    rw [bin_quo (by omega), show Int.tdiv (lb : Int) 2 = (q2 : Int) from by rw [hq2]; exact (Int.ofNat_tdiv lb 2).symm]
    simp (disch := omega) [wrap_i]
  have m3 : mmAll false (.int .i64 (q3 : Int)) [.int .i64 8] = some (.int .i64 (n : Int)) := by
    rw [mm_min, mm_nil, show min (q3 : Int) 8 = (n : Int) from by omega]
  have m2 : mmAll false (.int .i64 (q2 : Int)) [.int .i64 12] = some (.int .i64 (m : Int)) := by
    rw [mm_min, mm_nil, show min (q2 : Int) 12 = (m : Int) from by omega]
  have b2 : ∀ (k : Nat) (Y l : List (Option AObj)), call nB [.int .i64 (k : Int), .int .i64 2] (tl Y l) = some (.slice (some (Y.length + l.length, 0)) 1 2 2 false, tl Y (l ++ [some (.cells true (bytesV (bigB k 2)))])) := fun k Y l => by
    have := hB (Y ++ l) k 2 (by omega) (by omega)
    rw [List.length_append, List.append_assoc] at this
    exact this
  have b4 : ∀ (k : Nat) (Y l : List (Option AObj)), call nB [.int .i64 (k : Int), .int .i64 4] (tl Y l) = some (.slice (some (Y.length + l.length, 0)) 1 4 4 false, tl Y (l ++ [some (.cells true (bytesV (bigB k 4)))])) := fun k Y l => by
    have := hB (Y ++ l) k 4 (by omega) (by omega)
    rw [List.length_append, List.append_assoc] at this
    exact this
  have c1 : ∀ (Y l : List (Option AObj)), call nB [.int .i64 (14 + (gap : Int)), .int .i64 4] (tl Y l) = some (.slice (some (Y.length + l.length, 0)) 1 4 4 false, tl Y (l ++ [some (.cells true (bytesV (bigB (14 + gap) 4)))])) := fun Y l => by
    rw [show 14 + (gap : Int) = ((14 + gap : Nat) : Int) from by omega]; exact b4 (14 + gap) Y l
  have c2 : ∀ (Y l : List (Option AObj)), call nB [.int .i64 (14 + (gap : Int) + 6 * (n : Int) + (gap : Int)), .int .i64 4] (tl Y l) = some (.slice (some (Y.length + l.length, 0)) 1 4 4 false, tl Y (l ++ [some (.cells true (bytesV (bigB (14 + gap + 6 * n + gap) 4)))])) := fun Y l => by
    rw [show 14 + (gap : Int) + 6 * (n : Int) + (gap : Int) = ((14 + gap + 6 * n + gap : Nat) : Int) from by omega]; exact b4 (14 + gap + 6 * n + gap) Y l
  have tk4 : ∀ k, takeN 4 (bytesV (bigB k 4)) = some (bytesV (bigB k 4)) := fun k => by rw [takeN_of (by rw [bytesV_len, bigB_len]; omega), List.take_of_length_le (by rw [bytesV_len, bigB_len]; omega)]
  rw [tl_of (X := os)]
  simp (disch := omega) [pg, hvp, hwp, hvl, hwl, d3, d2, m3, m2, b2, c1, c2, take_big2E, tk4, bytesV_len, bigB_len, wrap_i, dlt_t, dlt_f, dle_t, dle_f, dltn_t, dltn_f, dlen_t, dlen_f, deq_t, deq_f, deqn_t, deqn_f]
  rw [tl_eq]
  refine OldZ_run (qb := os.length + 8) (n := n) (m := m) (gap := gap) hlf hPk hB hBr hO hR hK hL hv hw (by omega) (by omega) (by omega) (by omega) hg (fun j hj => join_app hj) (by rw [List.length_append]; omega) ⟨by omega, ?_⟩ ?_ ?_ ?_ ?_ ?_ ?_
  · rw [tl_at (k := 8)]
    unfold newBytes headC
    simp [bytesV]
  all_goals simp
end Go.Vabs.Eg
