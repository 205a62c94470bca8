/-
  The document's contours.
-/
import Derived.Test.YtpjinhofjaapaaaVabsKj
import Derived.Test.YtpjinhofjaapaaaVabsKg
namespace Go.Vabs.Kk
set_option linter.unusedVariables false
set_option linter.unusedSimpArgs false
set_option maxRecDepth 10000
def contour_c (n_RWhole : Nat) (n_RApply : Nat) (n_middle : Nat) (n_RCurve : Nat) : AFunc := AFunc.mk 186 (.seq (.reg [AOper.mk (some (.o (.o .h))) (.box (.t (.o .h))) none, AOper.mk (some (.i (.o .h))) (.mv (.c (.slice none 0 0 0 true))) none]) (.seq (.reg [AOper.mk (some (.o (.o (.i (.o .h))))) (.len .slice (.t .h)) none, AOper.mk (some (.o (.i .h))) (.mv (.t (.o (.o (.i (.o .h)))))) none]) (.seq (.seq (.reg [AOper.mk (some (.o (.i (.i (.o .h))))) (.bin .lss (.val .int) (.t (.o (.i .h))) (.c (.int .i64 (.ofNat 2)))) none]) (.cond (.t (.o (.i (.i (.o .h))))) (.seq (.reg [AOper.mk (some (.i (.o .h))) (.mv (.c (.slice none 0 0 0 true))) none]) .ret) .skip)) (.seq (.reg [AOper.mk (some (.i (.i .h))) (.mv (.c (.slice none 0 0 0 true))) none]) (.seq (.seq (.reg [AOper.mk (some (.o (.o (.o .h)))) (.mv (.c (.int .i64 (.ofNat 0)))) none]) (.block 0 (.loop (.seq (.seq (.reg [AOper.mk (some (.i (.o (.o (.i .h))))) (.bin .lss (.val .int) (.t (.o (.o (.o .h)))) (.t (.o (.i .h)))) none]) (.cond (.t (.i (.o (.o (.i .h))))) .skip (.exit 0))) (.seq (.block 1 (.seq (.reg [AOper.mk (some (.o (.i (.i (.i .h))))) (.idxAddr (.slice 3) (.t .h) (.t (.o (.o (.o .h))))) none, AOper.mk (some (.i (.i (.i (.i .h))))) (.fieldAddr 2 (.t (.o (.i (.i (.i .h)))))) none, AOper.mk (some (.o (.o (.o (.o (.o .h)))))) (.load false 1 (.t (.i (.i (.i (.i .h)))))) none, AOper.mk (some (.i (.o (.o (.o (.o .h)))))) (.build [.int .i64 (.ofNat 0), .int .i64 (.ofNat 0), .bool false, .bool false] [(2, (1, .t (.o (.o (.o (.o (.o .h))))))), (3, (1, .c (.bool true)))]) none, AOper.mk (some (.i (.o (.o .h)))) (.alloc [.int .i64 (.ofNat 0), .int .i64 (.ofNat 0), .bool false, .bool false]) none, AOper.mk none (.store 4 (.t (.i (.o (.o .h)))) (.t (.i (.o (.o (.o (.o .h))))))) none]) (.seq (.dreg [(AOper.mk (some (.i (.i (.o (.o (.o .h)))))) (.load true 6 (.t (.o (.o .h)))) none, [5, 6, 11, 12]), (AOper.mk (some (.o (.o (.i (.o (.o .h)))))) (.mv (.t .h)) none, []), (AOper.mk (some (.i (.o (.i (.o (.o .h)))))) (.mv (.t (.o (.o (.o .h))))) none, []), (AOper.mk (some (.o (.i (.i (.o (.o .h)))))) (.idxAddr (.slice 3) (.t (.o (.o (.i (.o (.o .h)))))) (.t (.i (.o (.i (.o (.o .h))))))) none, []), (AOper.mk (some (.i (.i (.i (.o (.o .h)))))) (.fieldAddr 0 (.t (.o (.i (.i (.o (.o .h))))))) none, []), (AOper.mk (some (.o (.o (.o (.i (.o .h)))))) (.load false 1 (.t (.i (.i (.i (.o (.o .h))))))) none, [0, 11]), (AOper.mk (some (.i (.o (.o (.i (.o .h)))))) (.call n_RWhole [.t (.o (.o (.o (.i (.o .h)))))]) none, [0, 11]), (AOper.mk (some (.o (.i (.o (.i (.o .h)))))) (.mv (.t .h)) none, []), (AOper.mk (some (.i (.i (.o (.i (.o .h)))))) (.mv (.t (.o (.o (.o .h))))) none, []), (AOper.mk (some (.o (.o (.i (.i (.o .h)))))) (.idxAddr (.slice 3) (.t (.o (.i (.o (.i (.o .h)))))) (.t (.i (.i (.o (.i (.o .h))))))) none, []), (AOper.mk (some (.i (.o (.i (.i (.o .h)))))) (.fieldAddr 1 (.t (.o (.o (.i (.i (.o .h))))))) none, []), (AOper.mk (some (.o (.i (.i (.i (.o .h)))))) (.load false 1 (.t (.i (.o (.i (.i (.o .h))))))) none, [0, 5, 6]), (AOper.mk (some (.i (.i (.i (.i (.o .h)))))) (.call n_RWhole [.t (.o (.i (.i (.i (.o .h)))))]) none, [0]), (AOper.mk (some (.o (.o (.o (.o (.i .h)))))) (.call n_RApply [.t (.i (.i (.o (.o (.o .h))))), .t (.i (.o (.o (.i (.o .h))))), .t (.i (.i (.i (.i (.o .h)))))]) none, []), (AOper.mk (some (.o (.i (.o (.o (.o .h)))))) (.mv (.t (.o (.o (.o (.o (.i .h))))))) none, []), (AOper.mk (some (.i (.o (.o (.o (.i .h)))))) (.extract (.t (.o (.i (.o (.o (.o .h)))))) 0) none, []), (AOper.mk (some (.o (.i (.o (.o (.i .h)))))) (.extract (.t (.o (.i (.o (.o (.o .h)))))) 1) none, []), (AOper.mk (some (.i (.i (.o (.o (.i .h)))))) (.fieldAddr 0 (.t (.i (.o (.o .h))))) none, []), (AOper.mk (some (.o (.o (.i (.o (.i .h)))))) (.idxAddr (.arr 2 false 1) (.t (.i (.i (.o (.o (.i .h)))))) (.c (.int .i64 (.ofNat 0)))) none, []), (AOper.mk none (.store 1 (.t (.o (.o (.i (.o (.i .h)))))) (.t (.i (.o (.o (.o (.i .h))))))) none, []), (AOper.mk (some (.i (.o (.i (.o (.i .h)))))) (.fieldAddr 0 (.t (.i (.o (.o .h))))) none, []), (AOper.mk (some (.o (.i (.i (.o (.i .h)))))) (.idxAddr (.arr 2 false 1) (.t (.i (.o (.i (.o (.i .h)))))) (.c (.int .i64 (.ofNat 1)))) none, []), (AOper.mk none (.store 1 (.t (.o (.i (.i (.o (.i .h)))))) (.t (.o (.i (.o (.o (.i .h))))))) none, [])]) (.reg [AOper.mk (some (.o (.o (.o (.i (.i .h)))))) (.load true 4 (.t (.i (.o (.o .h))))) none, AOper.mk (some (.i (.o (.o (.i (.i .h)))))) (.bslice 4 1 [.int .i64 (.ofNat 0), .int .i64 (.ofNat 0), .bool false, .bool false] [(0, (4, .t (.o (.o (.o (.i (.i .h)))))))]) none, AOper.mk (some (.o (.i (.o (.i (.i .h)))))) (.append 4 24 (.t (.i (.i .h))) (.t (.i (.o (.o (.i (.i .h))))))) none, AOper.mk (some (.i (.i .h))) (.mv (.t (.o (.i (.o (.i (.i .h))))))) none])))) (.reg [AOper.mk (some (.i (.i (.o (.i .h))))) (.bin .add (.val .int) (.t (.o (.o (.o .h)))) (.c (.int .i64 (.ofNat 1)))) none, AOper.mk (some (.o (.o (.o .h)))) (.mv (.t (.i (.i (.o (.i .h)))))) none])))))) (.seq (.reg [AOper.mk (some (.o (.i (.o .h)))) (.mv (.c (.slice none 0 0 0 true))) none]) (.seq (.seq (.reg [AOper.mk (some (.i (.i (.o .h)))) (.mv (.c (.int .i64 (.ofNat 0)))) none]) (.block 2 (.loop (.seq (.seq (.reg [AOper.mk (some (.i (.o (.i (.i (.i .h)))))) (.bin .lss (.val .int) (.t (.i (.i (.o .h)))) (.t (.o (.i .h)))) none]) (.cond (.t (.i (.o (.i (.i (.i .h)))))) .skip (.exit 2))) (.seq (.block 3 (.seq (.reg [AOper.mk (some (.i (.i (.o (.o (.o (.o .h))))))) (.bin .add (.val .int) (.t (.i (.i (.o .h)))) (.t (.o (.i .h)))) none, AOper.mk (some (.o (.o (.i (.o (.o (.o .h))))))) (.bin .sub (.val .int) (.t (.i (.i (.o (.o (.o (.o .h))))))) (.c (.int .i64 (.ofNat 1)))) none, AOper.mk (some (.o (.i (.i (.o (.o (.o .h))))))) (.bin .rem (.val .int) (.t (.o (.o (.i (.o (.o (.o .h))))))) (.t (.o (.i .h)))) none, AOper.mk (some (.i (.i (.i (.o (.o (.o .h))))))) (.idxAddr (.slice 4) (.t (.i (.i .h))) (.t (.o (.i (.i (.o (.o (.o .h)))))))) none, AOper.mk (some (.o (.o (.o (.i (.o (.o .h))))))) (.load true 4 (.t (.i (.i (.i (.o (.o (.o .h)))))))) none, AOper.mk (some (.o (.o (.i .h)))) (.alloc [.int .i64 (.ofNat 0), .int .i64 (.ofNat 0), .bool false, .bool false]) none, AOper.mk none (.store 4 (.t (.o (.o (.i .h)))) (.t (.o (.o (.o (.i (.o (.o .h)))))))) none]) (.seq (.seq (.reg [AOper.mk (some (.i (.o (.o (.i (.o (.o .h))))))) (.fieldAddr 2 (.t (.o (.o (.i .h))))) none, AOper.mk (some (.o (.i (.o (.i (.o (.o .h))))))) (.load false 1 (.t (.i (.o (.o (.i (.o (.o .h)))))))) none, AOper.mk (some (.i (.i (.o (.i (.o (.o .h))))))) (.un .not (.t (.o (.i (.o (.i (.o (.o .h)))))))) none, AOper.mk (some (.o (.o (.i (.i (.o (.o .h))))))) (.mv (.t (.i (.i (.o (.i (.o (.o .h)))))))) none, AOper.mk (some (.i (.i (.i (.i (.o (.o .h))))))) (.idxAddr (.slice 4) (.t (.i (.i .h))) (.t (.i (.i (.o .h))))) (some (.o (.o (.i (.i (.o (.o .h))))), true)), AOper.mk (some (.o (.o (.o (.o (.i (.o .h))))))) (.fieldAddr 2 (.t (.i (.i (.i (.i (.o (.o .h)))))))) (some (.o (.o (.i (.i (.o (.o .h))))), true)), AOper.mk (some (.i (.o (.o (.o (.i (.o .h))))))) (.load false 1 (.t (.o (.o (.o (.o (.i (.o .h)))))))) (some (.o (.o (.i (.i (.o (.o .h))))), true)), AOper.mk (some (.o (.i (.o (.o (.i (.o .h))))))) (.un .not (.t (.i (.o (.o (.o (.i (.o .h)))))))) (some (.o (.o (.i (.i (.o (.o .h))))), true)), AOper.mk (some (.i (.i (.o (.o (.i (.o .h))))))) (.pick (.t (.o (.o (.i (.i (.o (.o .h))))))) (.t (.o (.i (.o (.o (.i (.o .h))))))) (.c (.bool false))) none]) (.cond (.t (.i (.i (.o (.o (.i (.o .h))))))) (.dreg [(AOper.mk (some (.o (.o (.i (.o (.i (.o .h))))))) (.mv (.t (.o (.i (.o .h))))) none, []), (AOper.mk (some (.i (.o (.i (.o (.i (.o .h))))))) (.fieldAddr 0 (.t (.o (.o (.i .h))))) none, []), (AOper.mk (some (.o (.i (.i (.o (.i (.o .h))))))) (.load true 2 (.t (.i (.o (.i (.o (.i (.o .h)))))))) none, [7]), (AOper.mk (some (.i (.i (.i (.o (.i (.o .h))))))) (.mv (.t (.i (.i .h)))) none, []), (AOper.mk (some (.o (.o (.o (.i (.i (.o .h))))))) (.mv (.t (.i (.i (.o .h))))) none, []), (AOper.mk (some (.i (.o (.o (.i (.i (.o .h))))))) (.idxAddr (.slice 4) (.t (.i (.i (.i (.o (.i (.o .h))))))) (.t (.o (.o (.o (.i (.i (.o .h)))))))) none, []), (AOper.mk (some (.o (.i (.o (.i (.i (.o .h))))))) (.fieldAddr 0 (.t (.i (.o (.o (.i (.i (.o .h)))))))) none, []), (AOper.mk (some (.i (.i (.o (.i (.i (.o .h))))))) (.load true 2 (.t (.o (.i (.o (.i (.i (.o .h)))))))) none, [2]), (AOper.mk (some (.o (.o (.i (.i (.i (.o .h))))))) (.call n_middle [.t (.o (.i (.i (.o (.i (.o .h)))))), .t (.i (.i (.o (.i (.i (.o .h))))))]) none, []), (AOper.mk (some (.i (.o (.i (.i (.i (.o .h))))))) (.build [.int .i64 (.ofNat 0), .int .i64 (.ofNat 0), .bool false, .bool false] [(0, (2, .t (.o (.o (.i (.i (.i (.o .h)))))))), (2, (1, .c (.bool true)))]) none, []), (AOper.mk (some (.o (.i (.i (.i (.i (.o .h))))))) (.bslice 4 1 [.int .i64 (.ofNat 0), .int .i64 (.ofNat 0), .bool false, .bool false] [(0, (4, .t (.i (.o (.i (.i (.i (.o .h))))))))]) none, []), (AOper.mk (some (.i (.i (.i (.i (.i (.o .h))))))) (.append 4 24 (.t (.o (.o (.i (.o (.i (.o .h))))))) (.t (.o (.i (.i (.i (.i (.o .h)))))))) none, []), (AOper.mk (some (.o (.i (.o .h)))) (.mv (.t (.i (.i (.i (.i (.i (.o .h)))))))) none, [])]) .skip)) (.reg [AOper.mk (some (.i (.i (.o (.o (.o (.i .h))))))) (.idxAddr (.slice 4) (.t (.i (.i .h))) (.t (.i (.i (.o .h))))) none, AOper.mk (some (.o (.o (.i (.o (.o (.i .h))))))) (.load true 4 (.t (.i (.i (.o (.o (.o (.i .h)))))))) none, AOper.mk (some (.i (.o (.i (.o (.o (.i .h))))))) (.bslice 4 1 [.int .i64 (.ofNat 0), .int .i64 (.ofNat 0), .bool false, .bool false] [(0, (4, .t (.o (.o (.i (.o (.o (.i .h))))))))]) none, AOper.mk (some (.o (.i (.i (.o (.o (.i .h))))))) (.append 4 24 (.t (.o (.i (.o .h)))) (.t (.i (.o (.i (.o (.o (.i .h)))))))) none, AOper.mk (some (.o (.i (.o .h)))) (.mv (.t (.o (.i (.i (.o (.o (.i .h)))))))) none])))) (.reg [AOper.mk (some (.i (.i (.i (.i (.i .h)))))) (.bin .add (.val .int) (.t (.i (.i (.o .h)))) (.c (.int .i64 (.ofNat 1)))) none, AOper.mk (some (.i (.i (.o .h)))) (.mv (.t (.i (.i (.i (.i (.i .h))))))) none])))))) (.seq (.reg [AOper.mk (some (.i (.o (.i .h)))) (.mv (.c (.int .i64 (.ofNat 0)))) none]) (.seq (.seq (.reg [AOper.mk (some (.o (.o (.o (.i (.o (.i .h))))))) (.len .slice (.t (.o (.i (.o .h))))) none, AOper.mk (some (.i (.o (.o (.i (.o (.i .h))))))) (.bin .sub (.val .int) (.t (.o (.o (.o (.i (.o (.i .h))))))) (.c (.int .i64 (.ofNat 1)))) none, AOper.mk (some (.o (.i (.i .h)))) (.mv (.t (.i (.o (.o (.i (.o (.i .h)))))))) none]) (.block 4 (.loop (.seq (.seq (.reg [AOper.mk (some (.i (.i (.o (.i (.o (.i .h))))))) (.bin .geq (.val .int) (.t (.o (.i (.i .h)))) (.c (.int .i64 (.ofNat 0)))) none]) (.cond (.t (.i (.i (.o (.i (.o (.i .h))))))) .skip (.exit 4))) (.seq (.block 5 (.seq (.reg [AOper.mk (some (.o (.o (.o (.o (.i (.i .h))))))) (.idxAddr (.slice 4) (.t (.o (.i (.o .h)))) (.t (.o (.i (.i .h))))) none, AOper.mk (some (.i (.o (.o (.o (.i (.i .h))))))) (.fieldAddr 2 (.t (.o (.o (.o (.o (.i (.i .h)))))))) none, AOper.mk (some (.o (.i (.o (.o (.i (.i .h))))))) (.load false 1 (.t (.i (.o (.o (.o (.i (.i .h)))))))) none, AOper.mk (some (.i (.i (.o (.o (.i (.i .h))))))) (.mv (.t (.o (.i (.o (.o (.i (.i .h)))))))) none, AOper.mk (some (.o (.i (.i (.o (.i (.i .h))))))) (.idxAddr (.slice 4) (.t (.o (.i (.o .h)))) (.t (.o (.i (.i .h))))) (some (.i (.i (.o (.o (.i (.i .h))))), true)), AOper.mk (some (.i (.i (.i (.o (.i (.i .h))))))) (.fieldAddr 3 (.t (.o (.i (.i (.o (.i (.i .h)))))))) (some (.i (.i (.o (.o (.i (.i .h))))), true)), AOper.mk (some (.o (.o (.o (.i (.i (.i .h))))))) (.load false 1 (.t (.i (.i (.i (.o (.i (.i .h)))))))) (some (.i (.i (.o (.o (.i (.i .h))))), true)), AOper.mk (some (.i (.o (.o (.i (.i (.i .h))))))) (.pick (.t (.i (.i (.o (.o (.i (.i .h))))))) (.t (.o (.o (.o (.i (.i (.i .h))))))) (.c (.bool false))) none]) (.cond (.t (.i (.o (.o (.i (.i (.i .h))))))) (.reg [AOper.mk (some (.i (.o (.i .h)))) (.mv (.t (.o (.i (.i .h))))) none]) .skip))) (.reg [AOper.mk (some (.i (.o (.i (.i (.o (.i .h))))))) (.bin .sub (.val .int) (.t (.o (.i (.i .h)))) (.c (.int .i64 (.ofNat 1)))) none, AOper.mk (some (.o (.i (.i .h)))) (.mv (.t (.i (.o (.i (.i (.o (.i .h)))))))) none])))))) (.seq (.reg [AOper.mk (some (.i (.i (.i .h)))) (.mv (.c (.slice none 0 0 0 true))) none]) (.seq (.seq (.reg [AOper.mk (some (.o (.o (.o (.o .h))))) (.mv (.c (.int .i64 (.ofNat 0)))) none]) (.block 6 (.loop (.seq (.seq (.reg [AOper.mk (some (.i (.o (.i (.i (.i (.i .h))))))) (.len .slice (.t (.o (.i (.o .h))))) none, AOper.mk (some (.o (.i (.i (.i (.i (.i .h))))))) (.bin .lss (.val .int) (.t (.o (.o (.o (.o .h))))) (.t (.i (.o (.i (.i (.i (.i .h)))))))) none]) (.cond (.t (.o (.i (.i (.i (.i (.i .h))))))) .skip (.exit 6))) (.block 7 (.seq (.reg [AOper.mk (some (.o (.i (.o (.o (.o (.o (.o .h)))))))) (.bin .add (.val .int) (.t (.i (.o (.i .h)))) (.t (.o (.o (.o (.o .h)))))) none, AOper.mk (some (.o (.o (.i (.o (.o (.o (.o .h)))))))) (.len .slice (.t (.o (.i (.o .h))))) none, AOper.mk (some (.i (.o (.i (.o (.o (.o (.o .h)))))))) (.bin .rem (.val .int) (.t (.o (.i (.o (.o (.o (.o (.o .h)))))))) (.t (.o (.o (.i (.o (.o (.o (.o .h))))))))) none, AOper.mk (some (.o (.i (.i (.o (.o (.o (.o .h)))))))) (.idxAddr (.slice 4) (.t (.o (.i (.o .h)))) (.t (.i (.o (.i (.o (.o (.o (.o .h))))))))) none, AOper.mk (some (.i (.i (.i (.o (.o (.o (.o .h)))))))) (.load true 4 (.t (.o (.i (.i (.o (.o (.o (.o .h))))))))) none, AOper.mk (some (.i (.o (.o (.o .h))))) (.alloc [.int .i64 (.ofNat 0), .int .i64 (.ofNat 0), .bool false, .bool false]) none, AOper.mk none (.store 4 (.t (.i (.o (.o (.o .h))))) (.t (.i (.i (.i (.o (.o (.o (.o .h))))))))) none]) (.seq (.reg [AOper.mk (some (.i (.i (.o (.i (.o (.o (.o .h)))))))) (.bin .add (.val .int) (.t (.i (.o (.i .h)))) (.t (.o (.o (.o (.o .h)))))) none, AOper.mk (some (.o (.o (.i (.i (.o (.o (.o .h)))))))) (.bin .add (.val .int) (.t (.i (.i (.o (.i (.o (.o (.o .h)))))))) (.c (.int .i64 (.ofNat 1)))) none, AOper.mk (some (.o (.i (.i (.i (.o (.o (.o .h)))))))) (.len .slice (.t (.o (.i (.o .h))))) none, AOper.mk (some (.i (.i (.i (.i (.o (.o (.o .h)))))))) (.bin .rem (.val .int) (.t (.o (.o (.i (.i (.o (.o (.o .h)))))))) (.t (.o (.i (.i (.i (.o (.o (.o .h))))))))) none, AOper.mk (some (.o (.o (.o (.o (.i (.o (.o .h)))))))) (.idxAddr (.slice 4) (.t (.o (.i (.o .h)))) (.t (.i (.i (.i (.i (.o (.o (.o .h))))))))) none, AOper.mk (some (.i (.o (.o (.o (.i (.o (.o .h)))))))) (.load true 4 (.t (.o (.o (.o (.o (.i (.o (.o .h))))))))) none, AOper.mk (some (.o (.i (.o (.o .h))))) (.alloc [.int .i64 (.ofNat 0), .int .i64 (.ofNat 0), .bool false, .bool false]) none, AOper.mk none (.store 4 (.t (.o (.i (.o (.o .h))))) (.t (.i (.o (.o (.o (.i (.o (.o .h))))))))) none]) (.seq (.reg [AOper.mk (some (.o (.i (.o (.o (.i (.o (.o .h)))))))) (.fieldAddr 2 (.t (.o (.i (.o (.o .h)))))) none, AOper.mk (some (.i (.i (.o (.o (.i (.o (.o .h)))))))) (.load false 1 (.t (.o (.i (.o (.o (.i (.o (.o .h))))))))) none]) (.cond (.t (.i (.i (.o (.o (.i (.o (.o .h)))))))) (.seq (.reg [AOper.mk (some (.i (.o (.i (.o (.i (.o (.o .h)))))))) (.fieldAddr 0 (.t (.i (.o (.o (.o .h)))))) none, AOper.mk (some (.o (.i (.i (.o (.i (.o (.o .h)))))))) (.idxAddr (.arr 2 false 1) (.t (.i (.o (.i (.o (.i (.o (.o .h)))))))) (.c (.int .i64 (.ofNat 0)))) none, AOper.mk (some (.i (.i (.i (.o (.i (.o (.o .h)))))))) (.load false 1 (.t (.o (.i (.i (.o (.i (.o (.o .h))))))))) none, AOper.mk (some (.o (.o (.o (.i (.i (.o (.o .h)))))))) (.fieldAddr 0 (.t (.i (.o (.o (.o .h)))))) none, AOper.mk (some (.i (.o (.o (.i (.i (.o (.o .h)))))))) (.idxAddr (.arr 2 false 1) (.t (.o (.o (.o (.i (.i (.o (.o .h)))))))) (.c (.int .i64 (.ofNat 1)))) none, AOper.mk (some (.o (.i (.o (.i (.i (.o (.o .h)))))))) (.load false 1 (.t (.i (.o (.o (.i (.i (.o (.o .h))))))))) none, AOper.mk (some (.i (.i (.o (.i (.i (.o (.o .h)))))))) (.fieldAddr 0 (.t (.o (.i (.o (.o .h)))))) none, AOper.mk (some (.o (.o (.i (.i (.i (.o (.o .h)))))))) (.idxAddr (.arr 2 false 1) (.t (.i (.i (.o (.i (.i (.o (.o .h)))))))) (.c (.int .i64 (.ofNat 0)))) none, AOper.mk (some (.i (.o (.i (.i (.i (.o (.o .h)))))))) (.load false 1 (.t (.o (.o (.i (.i (.i (.o (.o .h))))))))) none, AOper.mk (some (.o (.i (.i (.i (.i (.o (.o .h)))))))) (.fieldAddr 0 (.t (.o (.i (.o (.o .h)))))) none, AOper.mk (some (.i (.i (.i (.i (.i (.o (.o .h)))))))) (.idxAddr (.arr 2 false 1) (.t (.o (.i (.i (.i (.i (.o (.o .h)))))))) (.c (.int .i64 (.ofNat 1)))) none, AOper.mk (some (.o (.o (.o (.o (.o (.i (.o .h)))))))) (.load false 1 (.t (.i (.i (.i (.i (.i (.o (.o .h))))))))) none, AOper.mk (some (.i (.o (.o (.o (.o (.i (.o .h)))))))) (.build [.int .i64 (.ofNat 0), .int .i64 (.ofNat 0), .int .i64 (.ofNat 0), .int .i64 (.ofNat 0)] [(0, (1, .t (.i (.i (.i (.o (.i (.o (.o .h))))))))), (1, (1, .t (.o (.i (.o (.i (.i (.o (.o .h))))))))), (2, (1, .t (.i (.o (.i (.i (.i (.o (.o .h))))))))), (3, (1, .t (.o (.o (.o (.o (.o (.i (.o .h)))))))))]) none, AOper.mk (some (.o (.i (.o (.o (.o (.i (.o .h)))))))) (.bslice 4 1 [.int .i64 (.ofNat 0), .int .i64 (.ofNat 0), .int .i64 (.ofNat 0), .int .i64 (.ofNat 0)] [(0, (4, .t (.i (.o (.o (.o (.o (.i (.o .h)))))))))]) none, AOper.mk (some (.i (.i (.o (.o (.o (.i (.o .h)))))))) (.append 4 32 (.t (.i (.i (.i .h)))) (.t (.o (.i (.o (.o (.o (.i (.o .h))))))))) none, AOper.mk (some (.i (.i (.i .h)))) (.mv (.t (.i (.i (.o (.o (.o (.i (.o .h))))))))) none]) (.reg [AOper.mk (some (.i (.o (.i (.o (.o (.i (.o .h)))))))) (.bin .add (.val .int) (.t (.o (.o (.o (.o .h))))) (.c (.int .i64 (.ofNat 1)))) none, AOper.mk (some (.o (.o (.o (.o .h))))) (.mv (.t (.i (.o (.i (.o (.o (.i (.o .h))))))))) none])) (.seq (.dreg [(AOper.mk (some (.o (.i (.i (.o (.o (.i (.o .h)))))))) (.mv (.t (.i (.i (.i .h))))) none, []), (AOper.mk (some (.i (.i (.i (.o (.o (.i (.o .h)))))))) (.fieldAddr 0 (.t (.i (.o (.o (.o .h)))))) none, []), (AOper.mk (some (.o (.o (.o (.i (.o (.i (.o .h)))))))) (.load true 2 (.t (.i (.i (.i (.o (.o (.i (.o .h))))))))) none, [4, 15]), (AOper.mk (some (.i (.o (.o (.i (.o (.i (.o .h)))))))) (.fieldAddr 0 (.t (.o (.i (.o (.o .h)))))) none, []), (AOper.mk (some (.o (.i (.o (.i (.o (.i (.o .h)))))))) (.load true 2 (.t (.i (.o (.o (.i (.o (.i (.o .h))))))))) none, [2, 15]), (AOper.mk (some (.i (.i (.o (.i (.o (.i (.o .h)))))))) (.mv (.t (.o (.i (.o .h))))) none, []), (AOper.mk (some (.o (.o (.i (.i (.o (.i (.o .h)))))))) (.mv (.t (.i (.o (.i .h))))) none, []), (AOper.mk (some (.i (.o (.i (.i (.o (.i (.o .h)))))))) (.mv (.t (.o (.o (.o (.o .h)))))) none, []), (AOper.mk (some (.o (.i (.i (.i (.o (.i (.o .h)))))))) (.bin .add (.val .int) (.t (.o (.o (.i (.i (.o (.i (.o .h)))))))) (.t (.i (.o (.i (.i (.o (.i (.o .h))))))))) none, []), (AOper.mk (some (.i (.i (.i (.i (.o (.i (.o .h)))))))) (.bin .add (.val .int) (.t (.o (.i (.i (.i (.o (.i (.o .h)))))))) (.c (.int .i64 (.ofNat 2)))) none, []), (AOper.mk (some (.o (.o (.o (.o (.i (.i (.o .h)))))))) (.mv (.t (.o (.i (.o .h))))) none, []), (AOper.mk (some (.i (.o (.o (.o (.i (.i (.o .h)))))))) (.len .slice (.t (.o (.o (.o (.o (.i (.i (.o .h))))))))) none, []), (AOper.mk (some (.o (.i (.o (.o (.i (.i (.o .h)))))))) (.bin .rem (.val .int) (.t (.i (.i (.i (.i (.o (.i (.o .h)))))))) (.t (.i (.o (.o (.o (.i (.i (.o .h))))))))) none, []), (AOper.mk (some (.i (.i (.o (.o (.i (.i (.o .h)))))))) (.idxAddr (.slice 4) (.t (.i (.i (.o (.i (.o (.i (.o .h)))))))) (.t (.o (.i (.o (.o (.i (.i (.o .h))))))))) none, []), (AOper.mk (some (.o (.o (.i (.o (.i (.i (.o .h)))))))) (.fieldAddr 0 (.t (.i (.i (.o (.o (.i (.i (.o .h))))))))) none, []), (AOper.mk (some (.i (.o (.i (.o (.i (.i (.o .h)))))))) (.load true 2 (.t (.o (.o (.i (.o (.i (.i (.o .h))))))))) none, [2, 4]), (AOper.mk (some (.o (.i (.i (.o (.i (.i (.o .h)))))))) (.call n_RCurve [.t (.o (.o (.o (.i (.o (.i (.o .h))))))), .t (.o (.i (.o (.i (.o (.i (.o .h))))))), .t (.i (.o (.i (.o (.i (.i (.o .h)))))))]) none, []), (AOper.mk (some (.i (.i (.i (.o (.i (.i (.o .h)))))))) (.append 4 32 (.t (.o (.i (.i (.o (.o (.i (.o .h)))))))) (.t (.o (.i (.i (.o (.i (.i (.o .h))))))))) none, []), (AOper.mk (some (.i (.i (.i .h)))) (.mv (.t (.i (.i (.i (.o (.i (.i (.o .h))))))))) none, [])]) (.reg [AOper.mk (some (.i (.o (.o (.i (.i (.i (.o .h)))))))) (.bin .add (.val .int) (.t (.o (.o (.o (.o .h))))) (.c (.int .i64 (.ofNat 2)))) none, AOper.mk (some (.o (.o (.o (.o .h))))) (.mv (.t (.i (.o (.o (.i (.i (.i (.o .h))))))))) none]))))))))))) (.seq (.reg [AOper.mk (some (.i (.o .h))) (.mv (.t (.i (.i (.i .h))))) none]) .ret)))))))))))) [.tmp (.i (.o .h))]
def RSegs_c (n_contour : Nat) : AFunc := AFunc.mk 22 (.seq (.reg [AOper.mk (some (.o (.o .h))) (.box (.t (.o .h))) none, AOper.mk (some (.i (.o .h))) (.mv (.c (.slice none 0 0 0 true))) none]) (.seq (.reg [AOper.mk (some (.o (.i .h))) (.mv (.c (.slice none 0 0 0 true))) none]) (.seq (.seq (.reg [AOper.mk (some (.i (.i .h))) (.mv (.c (.int .i64 (.ofNat 0)))) none]) (.block 0 (.loop (.seq (.seq (.reg [AOper.mk (some (.o (.i (.o .h)))) (.len .slice (.t .h)) none, AOper.mk (some (.i (.i (.o .h)))) (.bin .lss (.val .int) (.t (.i (.i .h))) (.t (.o (.i (.o .h))))) none]) (.cond (.t (.i (.i (.o .h)))) .skip (.exit 0))) (.seq (.block 1 (.dreg [(AOper.mk (some (.o (.i (.i .h)))) (.mv (.t (.o (.i .h)))) none, []), (AOper.mk (some (.i (.i (.i .h)))) (.mv (.t .h)) none, []), (AOper.mk (some (.o (.o (.o (.o .h))))) (.mv (.t (.i (.i .h)))) none, []), (AOper.mk (some (.i (.o (.o (.o .h))))) (.idxAddr (.slice 1) (.t (.i (.i (.i .h)))) (.t (.o (.o (.o (.o .h)))))) none, []), (AOper.mk (some (.o (.i (.o (.o .h))))) (.load false 1 (.t (.i (.o (.o (.o .h)))))) none, [5]), (AOper.mk (some (.i (.i (.o (.o .h))))) (.load true 6 (.t (.o (.o .h)))) none, [4]), (AOper.mk (some (.o (.o (.i (.o .h))))) (.call n_contour [.t (.o (.i (.o (.o .h)))), .t (.i (.i (.o (.o .h))))]) none, []), (AOper.mk (some (.i (.o (.i (.o .h))))) (.append 4 32 (.t (.o (.i (.i .h)))) (.t (.o (.o (.i (.o .h)))))) none, []), (AOper.mk (some (.o (.i .h))) (.mv (.t (.i (.o (.i (.o .h)))))) none, [])])) (.reg [AOper.mk (some (.i (.o (.i .h)))) (.bin .add (.val .int) (.t (.i (.i .h))) (.c (.int .i64 (.ofNat 1)))) none, AOper.mk (some (.i (.i .h))) (.mv (.t (.i (.o (.i .h))))) none])))))) (.seq (.reg [AOper.mk (some (.i (.o .h))) (.mv (.t (.o (.i .h)))) none]) .ret)))) [.tmp (.i (.o .h))]
attribute [local simp] wp_skip wp_ret wp_exit wp_reg wp_seq wp_cond wp_block thenQ_normal thenQ_ret thenQ_exit blockQ_normal blockQ_ret blockQ_exit wpCond_true wpCond_false wpOps_nil wpVal_some wpGuard_true wpGuard_false wpOps_guard wpOps_cons
  put_at put_no ev_c ev_slot posEq_h posEq_o posEq_i posEq_ho posEq_hi posEq_oh posEq_ih posEq_oi posEq_io sel_true sel_false
  okv_some step_mv step_call step_pick pickV_bool step_bin bin_add bin_sub bin_mul bin_eql bin_neq bin_lss bin_leq bin_gtr bin_geq bin_eqb bin_neb bin_eqs bin_nes step_un un_not un_neg step_len len_slice len_str len_const step_extract extractV nth step_convInt conv_int step_convStr step_slice step_idxAddr natOf_nat step_load step_index step_field step_fieldAddr step_build step_minmax
  step_alloc step_bslice bsliceV_some newV_some step_store step_append boolIs_b boolIs_t finQ_ret finQ_normal ressE_nil ressE_cons resE_tmp consO_some initE_nil initE_cons pos_0 pos_1 pos_2 pos_3 pos_4 pos_5 pos_6 pos_7 pos_8 plain_bool plain_int plain_str plain_ptr plain_slice plain_map plain_agg plain_func plain_nilFunc V.undef oneOf_one oneOf_two ble_self
open Go.Vabs.Ph Go.Vabs.Fl Go.Vabs.Ka Go.Vabs.Kb Go.Vabs.Kc Go.Vabs.Kf Go.Vabs.Kg Go.Vabs.Kj
attribute [local simp] step_nilchk nilchk_ptr step_box cells_int cells_bool cells_str cells_slice cells_ptr cells_agg fieldAddrV natOf_zero fill repN splice over newV
  wp_dreg wpDs_nil wpDs_cons wantedE_none wantedE_some wpDGuard_true wpDGuard_lim wpDGuard_false wpDLim_true wpDVal_free wpDVal_lim back_limited next_limited limF_dir limF_false foot_load foot_convStr okAll_nil okAll_cons pastsOf nthP ahead few_next load_limited okPair_dd okPair_dc okPair_cd okPair_cc anyIn_nil anyIn_same anyIn_cons meets_nil meets_nil' blt_dec
/- SEGMENTS ALIKE -/
theorem Same_run {call : CallT} {lf : Nat} (hlf : 100001 < lf) {os : List (Option AObj)} {N M : Nat} {u v : V} {l : List Sg} (hu : OutG Sg.cells 4 os N u l) (hv : OutG Sg.cells 4 os M v l) (hl : l.length ≤ 100000) :
    enterF call lf [u, v] (few os) SameSegs_c = some (.bool true, few os) := by
  have main := enter_wp (call := call) (lf := lf) (n := 26) (args := [u, v]) (st := few os) (K := fun w st => st = few os ∧ w = .bool true) (c := SameSegs_c.code) (rs := SameSegs_c.results) ?_
  · obtain ⟨w, st', h1, rfl, rfl⟩ := main
    exact h1
  · have hlu := hu.lenV
    have hlv := hv.lenV
    obtain ⟨n, hn⟩ : ∃ n, n = l.length := ⟨_, rfl⟩
    rw [← hn] at hlu hlv hl
    unfold SameSegs_c
    dsimp only
    simp [hlu, hlv]
    refine wp_loop (fun k s st => ∃ j : Nat, j + k = n ∧ st = few os ∧ s .h = u ∧ s (.o .h) = v ∧ s (.o (.i .h)) = .int .i64 (j : Int)) n ?_ (by omega) ?_
    · refine ⟨0, by omega, rfl, ?_, ?_, ?_⟩ <;> simp
    · rintro k s st ⟨j, hk, rfl, s1, s2, s3⟩
      cases k with
      | zero =>
        have hj : j = n := by omega
        subst hj
        simp (disch := omega) [s1, s2, s3, hlu, dltn_f]
      | succ k =>
        obtain ⟨p, hp⟩ : ∃ p, l[j]? = some p := ⟨_, List.getElem?_eq_getElem (by omega)⟩
        obtain ⟨q, _, _, _, q3, q4, _⟩ := hu.row (fun a => Sg.len a) hp
        obtain ⟨r, _, _, _, r3, r4, _⟩ := hv.row (fun a => Sg.len a) hp
        have q4 : loadV (few os) true 4 (.ptr (some (q, j * 4))) = some (.agg [.int .i64 p.a, .int .i64 p.b, .int .i64 p.c, .int .i64 p.d]) := q4
        have r4 : loadV (few os) true 4 (.ptr (some (r, j * 4))) = some (.agg [.int .i64 p.a, .int .i64 p.b, .int .i64 p.c, .int .i64 p.d]) := r4
        have hne : binV .neq (.val (.parts [(0, (1, (false, .int))), (1, (1, (false, .int))), (2, (1, (false, .int))), (3, (1, (false, .int)))])) (.agg [.int .i64 p.a, .int .i64 p.b, .int .i64 p.c, .int .i64 p.d]) (.agg [.int .i64 p.a, .int .i64 p.b, .int .i64 p.c, .int .i64 p.d]) = some (.bool false) := by
          rw [bin_agg, eqV_parts]
          simp [eqParts_cons, part, eqO_some, eqV_int, eqC_true, eqParts_nil, eqR_neq, nth]
        simp (disch := omega) [s1, s2, s3, hlu, dltn_t, natOf_j, q3, q4, r3, r4, load_d, idOf, hne, wrap_i]
        exact ⟨k, by omega, j + 1, by omega, by omega⟩
theorem SameF.code {base : CallT} {g lf : Nat} (hlf : 100001 < lf) : SameF (Vabs.withF base g lf SameSegs_c) g := fun os N M u v l h1 h2 h3 => by rw [withF_same]; exact Same_run hlf h1 h2 h3
theorem SameF.other {call : CallT} {n g : Nat} {l : List V → St → Option (V × St)} (h : SameF call n) (hne : n ≠ g) : SameF (withL call g l) n := fun os N M u v l h1 h2 h3 => by rw [withL_other hne]; exact h os N M u v l h1 h2 h3
theorem SameF.withF {call : CallT} {n g lf : Nat} {fn : AFunc} (h : SameF call n) (hne : n ≠ g) : SameF (Vabs.withF call g lf fn) n := fun os N M u v l h1 h2 h3 => by rw [withF_other hne]; exact h os N M u v l h1 h2 h3

/- THE DOCUMENT'S CONTOUR -/
/-- A place of the document's: a point of the contour, or one between. -/
structure Rp where
  p : Pl
  real : Bool
def Rp.cells (r : Rp) : List V := [.int .i64 r.p.x, .int .i64 r.p.y, .bool r.p.on, .bool r.real]
theorem Rp.len (r : Rp) : r.cells.length = 4 := rfl
def refL (m : Aff) (l : List Pl) : List Rp := l.map fun p => ⟨turn1 m p, true⟩
/-- With those between. -/
def expandR : Rp → List Rp → List Rp
  | _, [] => []
  | o, p :: l => (if o.p.on = false ∧ p.p.on = false then [⟨midP o.p p.p, false⟩] else []) ++ p :: expandR p l
def firstR : List Rp → Option Nat
  | [] => none
  | r :: l => if r.p.on && r.real then some 0 else (firstR l).map (· + 1)
def startR (l : List Rp) : Nat := match firstR l with | some i => i | none => 0
/-- Along the places, from one on the curve on. -/
def goE : Pl → List Rp → List Sg
  | _, [] => []
  | a, [b] => if b.p.on then [segP a b.p] else []
  | a, b :: c :: l => if b.p.on then segP a b.p :: goE b.p (c :: l) else curveP a b.p c.p ++ goE c.p l
def rotR (l : List Rp) : List Rp := l.drop (startR l) ++ l.take (startR l)
def refP (m : Aff) (c : List Pl) : List Sg :=
  if c.length < 2 then [] else
  match (refL m c).getLast? with
  | none => []
  | some z => match rotR (expandR z (refL m c)) with
    | [] => []
    | a :: l => goE a.p (l ++ [a])
theorem storeCell {os : List (Option AObj)} {cs : List V} {o : Nat} {x : V} (ho : o < cs.length) : storeV (few (os ++ [some (.cells true cs)])) 1 (.ptr (some (os.length, o))) (some [x]) = some (V.undef, few (os ++ [some (.cells true (cs.set o x))])) := by
  rw [store_fewC, ownAt_eq, joinEnd]
  show storeC _ 1 os.length o [x] (some cs) = _
  rw [storeC_some, if_pos (show [x].length = 1 from rfl), splice_of (by simp; omega)]
  dsimp only
  rw [set_end]
  congr 5
  rw [List.set_eq_take_append_cons_drop, if_pos ho]
  simp
theorem OutG.row2 {α : Type} {w : α → List V} {k N : Nat} {os : List (Option AObj)} {v : V} {l : List α} (hk : ∀ a, (w a).length = k) (h2 : 2 ≤ k) (h : OutG w k os N v l) {j q : Nat} {a : α} (hj : l[j]? = some a) (hv : v = .slice (some (q, 0)) k l.length l.length false) : loadV (few os) true 2 (.ptr (some (q, j * k))) = some (.agg ((w a).take 2)) := by
  have hlt := (List.getElem?_eq_some_iff.1 hj).1
  obtain ⟨q', _, e, hs⟩ := h.made (by intro e; rw [e] at hlt; simp at hlt)
  rw [hv] at e
  injection e with e; injection e with e; injection e with e _
  subst e
  have hc := encG_cut hk hj
  have hle : j * k + k ≤ (encG w l).length := by
    rw [encG_len hk, ← Nat.succ_mul]
    exact Nat.mul_le_mul_right _ hlt
  rw [cut_of hle] at hc
  rw [load_fewC, cellsAt_eq, hs]
  show (cut (j * k) 2 (encG w l)).map V.agg = _
  rw [cut_of (by omega), ← Option.some.inj hc, List.take_take, Nat.min_eq_left h2]
  rfl
theorem load2 {os : List (Option AObj)} {i : Nat} {own : Bool} {r : Rp} (h : (os[i]?).join = some (.cells own r.cells)) : loadV (few os) true 2 (.ptr (some (i, 0))) = some (pairV r.p.x r.p.y) := by
  rw [load_fewC, cellsAt_eq, h]
  rfl
theorem expand_app : ∀ (l l' : List Rp) (o : Rp), expandR o (l ++ l') = expandR o l ++ expandR ((o :: l).getLast (by simp)) l'
  | [], l', o => rfl
  | p :: l, l', o => by
    show (if _ then _ else _) ++ p :: expandR p (l ++ l') = ((if _ then _ else _) ++ p :: expandR p l) ++ _
    rw [expand_app l l' p]
    simp

theorem goE_on {a : Pl} {b : Rp} {l : List Rp} (h : b.p.on = true) : goE a (b :: l) = segP a b.p :: goE b.p l := by
  cases l with
  | nil => simp [goE, h]
  | cons c l => simp [goE, h]
theorem goE_off {a : Pl} {b c : Rp} {l : List Rp} (h : b.p.on = false) : goE a (b :: c :: l) = curveP a b.p c.p ++ goE c.p l := by simp [goE, h]
theorem expand_mem : ∀ {l : List Rp} {o r : Rp}, r ∈ l → r ∈ expandR o l
  | p :: l, o, r, h => by
    show r ∈ (if _ then _ else _) ++ p :: expandR p l
    rcases List.mem_cons.1 h with rfl | h
    · exact List.mem_append_right _ (List.mem_cons_self ..)
    · exact List.mem_append_right _ (List.mem_cons_of_mem _ (expand_mem h))
theorem expand_in : ∀ {l : List Rp} {o : Rp}, inP o.p → (∀ r ∈ l, inP r.p) → ∀ r ∈ expandR o l, inP r.p
  | [], o, _, _, r, h => by cases h
  | p :: l, o, ho, hl, r, h => by
    have hp := hl p (List.mem_cons_self ..)
    have h : r ∈ (if o.p.on = false ∧ p.p.on = false then [(⟨midP o.p p.p, false⟩ : Rp)] else []) ++ p :: expandR p l := h
    rcases List.mem_append.1 h with h | h
    · split at h
      · rw [List.mem_singleton] at h
        subst h
        exact mid_in ho hp
      · cases h
    · rcases List.mem_cons.1 h with rfl | h
      · exact hp
      · exact expand_in hp (fun r hr => hl r (List.mem_cons_of_mem _ hr)) r h
theorem expand_len : ∀ (l : List Rp) (o : Rp), l.length ≤ (expandR o l).length ∧ (expandR o l).length ≤ 2 * l.length
  | [], o => ⟨Nat.le_refl _, Nat.le_refl _⟩
  | p :: l, o => by
    have := expand_len l p
    have e : expandR o (p :: l) = (if o.p.on = false ∧ p.p.on = false then [(⟨midP o.p p.p, false⟩ : Rp)] else []) ++ p :: expandR p l := rfl
    rw [e, List.length_append, List.length_cons, List.length_cons]
    split <;> simp <;> omega
theorem firstR_no : ∀ {l : List Rp}, firstR l = none → ∀ r ∈ l, (r.p.on && r.real) = false
  | a :: l, h, r, hr => by
    unfold firstR at h
    split at h
    · cases h
    · rename_i ha
      cases hl : firstR l with
      | some k => rw [hl] at h; cases h
      | none =>
        rcases List.mem_cons.1 hr with rfl | hr
        · simpa using ha
        · exact firstR_no hl r hr
theorem firstR_at : ∀ {l : List Rp} {i : Nat}, firstR l = some i → ∃ r, l[i]? = some r ∧ (r.p.on && r.real) = true
  | a :: l, i, h => by
    unfold firstR at h
    split at h
    · rename_i ha
      cases h
      exact ⟨a, rfl, ha⟩
    · cases hl : firstR l with
      | none => rw [hl] at h; cases h
      | some k =>
        rw [hl] at h
        cases h
        obtain ⟨r, h1, h2⟩ := firstR_at hl
        exact ⟨r, by simpa using h1, h2⟩
/-- The start, as the loop finds it, going down. -/
def sIdx (l : List Rp) (j : Nat) : Nat := match firstR (l.drop j) with | some i => j + i | none => 0
theorem sIdx_step {l : List Rp} {k : Nat} {r : Rp} (h : l[k]? = some r) : sIdx l k = if r.p.on && r.real then k else sIdx l (k + 1) := by
  have hlt := (List.getElem?_eq_some_iff.1 h).1
  have e : l.drop k = r :: l.drop (k + 1) := by
    rw [List.drop_eq_getElem_cons hlt]
    congr 1
    exact (List.getElem?_eq_some_iff.1 h).2
  unfold sIdx
  rw [e]
  by_cases hb : (r.p.on && r.real) = true
  · have h1 : firstR (r :: l.drop (k + 1)) = some 0 := by unfold firstR; rw [if_pos hb]
    rw [h1, if_pos hb]
    rfl
  · have h1 : firstR (r :: l.drop (k + 1)) = (firstR (l.drop (k + 1))).map (· + 1) := by
      conv => lhs; unfold firstR
      rw [if_neg hb]
    rw [h1, if_neg hb]
    cases firstR (l.drop (k + 1)) with
    | none => rfl
    | some i =>
      show k + (i + 1) = k + 1 + i
      omega
theorem start_lt {l : List Rp} (h : l ≠ []) : startR l < l.length := by
  unfold startR
  split
  · rename_i i hi
    obtain ⟨r, h1, _⟩ := firstR_at hi
    exact (List.getElem?_eq_some_iff.1 h1).1
  · exact List.length_pos_iff.2 h
theorem rot_len (l : List Rp) : (rotR l).length = l.length := by
  unfold rotR
  rw [List.length_append, List.length_drop, List.length_take]
  omega
theorem rot_at {l : List Rp} (h : l ≠ []) {a : Rp} (ha : (rotR l)[0]? = some a) {k : Nat} (hk : k ≤ l.length) : l[(startR l + k) % l.length]? = (rotR l ++ [a])[k]? := by
  have hs := start_lt h
  have hl := rot_len l
  rcases Nat.lt_or_ge k l.length with hlt | hge
  · rw [List.getElem?_append_left (by omega)]
    unfold rotR
    rcases Nat.lt_or_ge (startR l + k) l.length with h1 | h1
    · rw [Nat.mod_eq_of_lt h1, List.getElem?_append_left (by rw [List.length_drop]; omega), List.getElem?_drop]
    · rw [List.getElem?_append_right (by rw [List.length_drop]; omega), List.length_drop, List.getElem?_take_of_lt (by omega)]
      congr 1
      rw [show startR l + k = (startR l + k - l.length) + l.length from by omega, Nat.add_mod_right, Nat.mod_eq_of_lt (by omega)]
      omega
  · have hk' : k = l.length := by omega
    rw [List.getElem?_append_right (by omega), hl, hk', Nat.sub_self, Nat.add_mod_right, Nat.mod_eq_of_lt hs]
    have e : (rotR l)[0]? = l[startR l]? := by
      unfold rotR
      rw [List.getElem?_append_left (by rw [List.length_drop]; omega), List.getElem?_drop, Nat.add_zero]
    rw [← e, ha]
    rfl
theorem rot_head {T : List Rp} {z a : Rp} (hne : T ≠ []) (hz : T[T.length - 1]? = some z) (hreal : ∀ r ∈ T, r.real = true) (ha : (rotR (expandR z T))[0]? = some a) : a.p.on = true := by
  have hEne : expandR z T ≠ [] := by
    intro e
    have h1 := (expand_len T z).1
    rw [e] at h1
    have h2 := List.length_pos_iff.2 hne
    have h3 : ([] : List Rp).length = 0 := rfl
    omega
  have hs := start_lt hEne
  have e : (rotR (expandR z T))[0]? = (expandR z T)[startR (expandR z T)]? := by
    unfold rotR
    rw [List.getElem?_append_left (by rw [List.length_drop]; omega), List.getElem?_drop, Nat.add_zero]
  rw [e] at ha
  cases hf : firstR (expandR z T) with
  | some i =>
    obtain ⟨r, h1, h2⟩ := firstR_at hf
    have : startR (expandR z T) = i := by unfold startR; rw [hf]
    rw [this, h1] at ha
    cases ha
    rw [Bool.and_eq_true] at h2
    exact h2.1
  | none =>
    have h0 : startR (expandR z T) = 0 := by unfold startR; rw [hf]
    rw [h0] at ha
    have hoff : ∀ r ∈ T, r.p.on = false := fun r hr => by
      have := firstR_no hf r (expand_mem hr)
      rw [hreal r hr, Bool.and_true] at this
      exact this
    cases T with
    | nil => exact absurd rfl hne
    | cons t T =>
      have hzo := hoff z (List.mem_of_getElem? hz)
      have hto := hoff t (List.mem_cons_self ..)
      have e2 : expandR z (t :: T) = ⟨midP z.p t.p, false⟩ :: t :: expandR t T := by simp [expandR, hzo, hto]
      rw [e2] at ha
      cases ha
      rfl
theorem arr0 {i : Nat} : idxAddrV (.arr 2 false 1) (.ptr (some (i, 0))) (some 0) = some (.ptr (some (i, 0))) := rfl
theorem arr1 {i : Nat} : idxAddrV (.arr 2 false 1) (.ptr (some (i, 0))) (some 1) = some (.ptr (some (i, 1))) := rfl
def ContourF (call : CallT) (g : Nat) : Prop := ∀ os v (m : Aff) (c : List Pl), RowIn Pl.cells 3 os v c → c.length ≤ 31 → ∃ w os', call g [v, m.V] (few os) = some (w, few os') ∧ OutG Sg.cells 4 os' os.length w (refP m c) ∧ (∀ i, i < os.length → (os'[i]?).join = (os[i]?).join) ∧ os.length ≤ os'.length
set_option maxHeartbeats 8000000 in
theorem Contour_run {call : CallT} {lf nW nA nM nC : Nat} (hlf : 1000 < lf) (hW : WholeF call nW) (hA : ApplyF call nA) (hM : MiddleF call nM) (hC : Curve2F call nC) {os : List (Option AObj)} {v : V} {m : Aff} {c : List Pl} (h : RowIn Pl.cells 3 os v c) (hl : c.length ≤ 31) :
    ∃ w os', enterF call lf [v, m.V] (few os) (contour_c nW nA nM nC) = some (w, few os') ∧ OutG Sg.cells 4 os' os.length w (refP m c) ∧ (∀ i, i < os.length → (os'[i]?).join = (os[i]?).join) ∧ os.length ≤ os'.length := by
  obtain ⟨L, hL⟩ : ∃ L, L = os.length := ⟨_, rfl⟩
  rw [← hL]
  have main := enter_wp (call := call) (lf := lf) (n := 186) (args := [v, m.V]) (st := few os) (K := fun w st => ∃ os', st = few os' ∧ OutG Sg.cells 4 os' L w (refP m c) ∧ (∀ i, i < L → (os'[i]?).join = (os[i]?).join) ∧ L ≤ os'.length) (c := (contour_c nW nA nM nC).code) (rs := (contour_c nW nA nM nC).results) ?_
  · obtain ⟨w, st', h1, os', rfl, h2⟩ := main
    exact ⟨w, os', h1, h2⟩
  · obtain ⟨O, hO⟩ : ∃ O, O = os ++ [some (.cells true m.cells)] := ⟨_, rfl⟩
    have alO : (few os).alloc (.cells true m.cells) = some (L, few O) := by rw [few_alloc, hO, hL]
    have hOl : O.length = L + 1 := by rw [hO, hL]; simp
    have hOo : ∀ i, i < L → (O[i]?).join = (os[i]?).join := fun i hi => by rw [hO, joinApp (by omega)]
    have hOe : (O[L]?).join = some (.cells true m.cells) := by rw [hO, hL, joinEnd]
    have cM := cellsM m
    have hlen := h.lenV
    obtain ⟨n, hn⟩ : ∃ n, n = c.length := ⟨_, rfl⟩
    rw [← hn] at hlen hl
    unfold contour_c
    dsimp only
    by_cases h2 : n < 2
    · have hr : refP m c = [] := by unfold refP; rw [if_pos (by omega)]
      have fin : ∃ os', few O = few os' ∧ OutG Sg.cells 4 os' L (.slice none 0 0 0 true) (refP m c) ∧ (∀ i, i < L → (os'[i]?).join = (os[i]?).join) ∧ L ≤ os'.length := ⟨O, rfl, .inl ⟨hr, rfl⟩, hOo, by omega⟩
      simp (disch := omega) [cM, alO, hlen, dlt_t, dltn_t, h2]
      exact fin
    · obtain ⟨T, hT⟩ : ∃ T, T = refL m c := ⟨_, rfl⟩
      have hTl : T.length = n := by rw [hT, hn]; simp [refL]
      simp (disch := omega) [cM, alO, hlen, dlt_f, dltn_f]
      -- the points
      refine wp_loop (fun k s st => ∃ (os' : List (Option AObj)) (j : Nat), st = few os' ∧ j + k = n ∧ s (.o (.o .h)) = .ptr (some (L, 0)) ∧ s .h = v ∧ s (.o (.i .h)) = .int .i64 (n : Int) ∧ s (.o (.o (.o .h))) = .int .i64 (j : Int) ∧ OutG Rp.cells 4 os' (L + 1) (s (.i (.i .h))) (T.take j) ∧ (∀ i, i < L + 1 → (os'[i]?).join = (O[i]?).join) ∧ L + 1 ≤ os'.length) n ?_ (by omega) ?_
      · refine ⟨O, 0, rfl, by omega, ?_, ?_, ?_, ?_, .inl ⟨rfl, ?_⟩, fun _ _ => rfl, by omega⟩ <;> simp
      · rintro k s st ⟨os', j, rfl, hk, s1, s2, s3, s4, ho, hold, hle⟩
        obtain ⟨ov, hov⟩ : ∃ ov, s (.i (.i .h)) = ov := ⟨_, rfl⟩
        rw [hov] at ho
        cases k with
        | zero =>
          have hj : j = n := by omega
          rw [hj] at s4
          rw [hj, ← hTl, List.take_length] at ho
          simp (disch := omega) [s1, s2, s3, s4, hov, dltn_f]
          obtain ⟨z, hz⟩ : ∃ z, T[n - 1]? = some z := ⟨_, List.getElem?_eq_getElem (by omega)⟩
          obtain ⟨M2, hM2⟩ : ∃ M2, M2 = os'.length := ⟨_, rfl⟩
          have hTin : ∀ r ∈ T, inP r.p := fun r hr => by
            rw [hT] at hr
            obtain ⟨p, _, rfl⟩ := List.mem_map.1 hr
            exact turn_in m p
          refine wp_loop (fun k2 s st => ∃ (os2 : List (Option AObj)) (i : Nat), st = few os2 ∧ i + k2 = n ∧ s (.i (.i .h)) = ov ∧ s (.o (.i .h)) = .int .i64 (n : Int) ∧ s (.i (.i (.o .h))) = .int .i64 (i : Int) ∧ OutG Rp.cells 4 os2 M2 (s (.o (.i (.o .h)))) (expandR z (T.take i)) ∧ (∀ x, x < M2 → (os2[x]?).join = (os'[x]?).join) ∧ M2 ≤ os2.length ∧ (expandR z (T.take i)).length ≤ 2 * i) n ?_ (by omega) ?_
          · refine ⟨os', 0, rfl, by omega, ?_, ?_, ?_, .inl ⟨rfl, ?_⟩, fun _ _ => rfl, by omega, by simp [expandR]⟩ <;> simp [s1, s2, s3, s4, hov]
          · rintro k2 sa st ⟨os2, i, rfl, hk2, t1, t2, t3, ho2, hold2, hle2, hel⟩
            obtain ⟨av, hav⟩ : ∃ av, sa (.o (.i (.o .h))) = av := ⟨_, rfl⟩
            rw [hav] at ho2
            have hoT : OutG Rp.cells 4 os2 0 ov T := (ho.lower (Nat.zero_le _)).keepAll fun x hx => hold2 x (by omega)
            cases k2 with
            | zero =>
              have hi : i = n := by omega
              rw [hi, ← hTl, List.take_length] at ho2
              rw [hi] at t3
              have hlav := ho2.lenV
              obtain ⟨Al, hAl⟩ : ∃ Al, Al = expandR z T := ⟨_, rfl⟩
              rw [← hAl] at ho2 hlav
              obtain ⟨AL, hALe⟩ : ∃ AL, AL = Al.length := ⟨_, rfl⟩
              rw [← hALe] at hlav
              have hAb := expand_len T z
              rw [← hAl, ← hALe, hTl] at hAb
              have hAin : ∀ r ∈ Al, inP r.p := fun r hr => by
                rw [hAl] at hr
                exact expand_in (hTin z (List.mem_of_getElem? hz)) hTin r hr
              have hAne : Al ≠ [] := fun e => by rw [e] at hALe; simp at hALe; omega
              simp (disch := omega) [t1, t2, t3, hav, dltn_f, hlav, wrap_i]
              -- the start
              refine wp_loop (fun k3 s st => k3 ≤ AL ∧ st = few os2 ∧ s (.o (.i (.o .h))) = av ∧ s (.o (.i (.i .h))) = .int .i64 ((k3 : Int) - 1) ∧ s (.i (.o (.i .h))) = .int .i64 (sIdx Al k3 : Int)) AL ?_ (by omega) ?_
              · refine ⟨Nat.le_refl _, rfl, ?_, ?_, ?_⟩
                · simp [hav]
                · simp
                · have : sIdx Al AL = 0 := by unfold sIdx; rw [hALe, List.drop_length]; rfl
                  simp [this]
              · rintro k3 sb st ⟨hk3, rfl, v1, v2, v3⟩
                cases k3 with
                | zero =>
                  have hst : sIdx Al 0 = startR Al := by
                    unfold sIdx startR
                    rw [List.drop_zero]
                    cases firstR Al <;> simp
                  obtain ⟨S, hS⟩ : ∃ S, S = startR Al := ⟨_, rfl⟩
                  rw [hst, ← hS] at v3
                  have hSl : S < AL := by rw [hS, hALe]; exact start_lt hAne
                  have v2 : sb (.o (.i (.i .h))) = .int .i64 (-1) := v2
                  simp (disch := omega) [v1, v2, v3]
                  obtain ⟨a0, ha0⟩ : ∃ a0, (rotR Al)[0]? = some a0 := ⟨_, List.getElem?_eq_getElem (by rw [rot_len]; omega)⟩
                  have hreal : ∀ r ∈ T, r.real = true := fun r hr => by
                    rw [hT] at hr
                    obtain ⟨p, _, rfl⟩ := List.mem_map.1 hr
                    rfl
                  have hTne : T ≠ [] := fun e => by rw [e] at hTl; simp at hTl; omega
                  have hon0 : a0.p.on = true := rot_head hTne (by rw [hTl]; exact hz) hreal (by rw [← hAl]; exact ha0)
                  obtain ⟨R, hR⟩ : ∃ R, R = rotR Al ++ [a0] := ⟨_, rfl⟩
                  have hRl : R.length = AL + 1 := by rw [hR, List.length_append, rot_len, hALe]; rfl
                  have hRat : ∀ k, k ≤ AL → Al[(S + k) % AL]? = R[k]? := fun k hk => by
                    rw [hR, hS, hALe]
                    exact rot_at hAne ha0 (by omega)
                  have hRend : R[AL]? = some a0 := by rw [hR, List.getElem?_append_right (by rw [rot_len]; omega), rot_len, hALe, Nat.sub_self]; rfl
                  have hR0 : R[0]? = some a0 := by rw [hR, List.getElem?_append_left (by rw [rot_len]; omega)]; exact ha0
                  have hRP : refP m c = goE a0.p (R.drop 1) := by
                    unfold refP
                    rw [if_neg (by omega), ← hT]
                    have hzl : T.getLast? = some z := by rw [List.getLast?_eq_getElem?, hTl]; exact hz
                    rw [hzl]
                    dsimp only
                    rw [← hAl]
                    cases hrot : rotR Al with
                    | nil => rw [hrot] at ha0; simp at ha0
                    | cons b l =>
                      rw [hrot] at ha0 hR
                      simp at ha0
                      subst ha0
                      rw [hR]
                      rfl
                  have hdropR : ∀ (k : Nat) (r : Rp), R[k]? = some r → R.drop k = r :: R.drop (k + 1) := fun k r hr => by
                    rw [List.drop_eq_getElem_cons (List.getElem?_eq_some_iff.1 hr).1]
                    congr 1
                    exact (List.getElem?_eq_some_iff.1 hr).2
                  obtain ⟨M4, hM4⟩ : ∃ M4, M4 = os2.length := ⟨_, rfl⟩
                  refine wp_loop (fun k4 s st => ∃ (os4 : List (Option AObj)) (k : Nat) (a : Rp) (out : List Sg), st = few os4 ∧ k + k4 = AL ∧ s (.o (.i (.o .h))) = av ∧ s (.i (.o (.i .h))) = .int .i64 (S : Int) ∧ s (.o (.o (.o (.o .h)))) = .int .i64 (k : Int) ∧ R[k]? = some a ∧ OutG Sg.cells 4 os4 M4 (s (.i (.i (.i .h)))) out ∧ (∀ x, x < M4 → (os4[x]?).join = (os2[x]?).join) ∧ M4 ≤ os4.length ∧ out.length ≤ 8 * k ∧ refP m c = out ++ goE a.p (R.drop (k + 1))) AL ?_ (by omega) ?_
                  · refine ⟨os2, 0, a0, [], rfl, by omega, ?_, ?_, ?_, hR0, .inl ⟨rfl, ?_⟩, fun _ _ => rfl, by omega, by simp, by rw [hRP]; rfl⟩ <;> simp [v1, v3]
                  · rintro k4 sc st ⟨os4, k, a, out, rfl, hk4, e1, e2, e3, hRa, ho4, hold4, hle4, hol4, htot⟩
                    obtain ⟨wv, hwv⟩ : ∃ wv, sc (.i (.i (.i .h))) = wv := ⟨_, rfl⟩
                    rw [hwv] at ho4
                    cases k4 with
                    | zero =>
                      have hk : k = AL := by omega
                      rw [hk] at e3 htot
                      rw [List.drop_eq_nil_of_le (by omega)] at htot
                      have htot : refP m c = out := by rw [htot]; simp [goE]
                      have hp := ho4.plain
                      have fin : ∃ os', few os4 = few os' ∧ OutG Sg.cells 4 os' L wv (refP m c) ∧ (∀ i, i < L → (os'[i]?).join = (os[i]?).join) ∧ L ≤ os'.length :=
                        ⟨os4, rfl, by rw [htot]; exact ho4.lower (by omega), fun i hi => by rw [hold4 i (by omega), hold2 i (by omega), hold i (by omega), hOo i hi], by omega⟩
                      simp (disch := omega) [e1, e2, e3, hwv, hlav, dltn_f, hp]
                      exact fin
                    | succ k4 =>
                      have hkl : k < AL := by omega
                      obtain ⟨b, hRb⟩ : ∃ b, R[k + 1]? = some b := ⟨_, List.getElem?_eq_getElem (by omega)⟩
                      have hAa : Al[(S + k) % AL]? = some a := by rw [hRat k (by omega)]; exact hRa
                      have hAb' : Al[(S + (k + 1)) % AL]? = some b := by rw [hRat (k + 1) (by omega)]; exact hRb
                      obtain ⟨ia, hia⟩ : ∃ ia, ia = (S + k) % AL := ⟨_, rfl⟩
                      obtain ⟨ib, hib⟩ : ∃ ib, ib = (S + (k + 1)) % AL := ⟨_, rfl⟩
                      rw [← hia] at hAa
                      rw [← hib] at hAb'
                      have hai := hAin a (List.mem_of_getElem? hAa)
                      have hbi := hAin b (List.mem_of_getElem? hAb')
                      have tm1 : Int.tmod ((S : Int) + (k : Int)) (AL : Int) = (ia : Int) := by
                        rw [show (S : Int) + (k : Int) = ((S + k : Nat) : Int) from by omega, ← Int.ofNat_tmod, hia]
                      have tm2 : Int.tmod ((S : Int) + (k : Int) + 1) (AL : Int) = (ib : Int) := by
                        rw [show (S : Int) + (k : Int) + 1 = ((S + (k + 1) : Nat) : Int) from by omega, ← Int.ofNat_tmod, hib]
                      have hAL0 : (AL : Int) ≠ 0 := by omega
                      have hoA : OutG Rp.cells 4 os4 0 av Al := (ho2.lower (Nat.zero_le _)).keepAll fun x hx => hold4 x (by omega)
                      obtain ⟨ya, _, ya2, yav, ya3, ya4, _⟩ := hoA.row (fun a => Rp.len a) hAa
                      have ya4 : loadV (few os4) true 4 (.ptr (some (ya, ia * 4))) = some (.agg a.cells) := ya4
                      have ca : (V.agg a.cells).cells = some a.cells := rfl
                      have cb : (V.agg b.cells).cells = some b.cells := rfl
                      have al1 : (few os4).alloc (.cells true [.int .i64 0, .int .i64 0, .bool false, .bool false]) = some (os4.length, few (os4 ++ [some (.cells true [.int .i64 0, .int .i64 0, .bool false, .bool false])])) := few_alloc _ _
                      have st1 : storeV (few (os4 ++ [some (.cells true [.int .i64 0, .int .i64 0, .bool false, .bool false])])) 4 (.ptr (some (os4.length, 0))) (some a.cells) = some (V.undef, few (os4 ++ [some (.cells true a.cells)])) := storeNew rfl rfl
                      obtain ⟨F, hF⟩ : ∃ F, F = os4 ++ [some (AObj.cells true a.cells)] := ⟨_, rfl⟩
                      obtain ⟨F0, hF0⟩ : ∃ F0, F0 = os4 ++ [some (AObj.cells true [.int .i64 0, .int .i64 0, .bool false, .bool false])] := ⟨_, rfl⟩
                      rw [← hF, ← hF0] at st1
                      rw [← hF0] at al1
                      have hFl : F.length = os4.length + 1 := by rw [hF]; simp
                      have hFo : ∀ i, i < os4.length → (F[i]?).join = (os4[i]?).join := fun i hi => by rw [hF, joinApp hi]
                      have hFe : (F[os4.length]?).join = some (.cells true a.cells) := by rw [hF, joinEnd]
                      have hoF : OutG Rp.cells 4 F 0 av Al := hoA.keepAll hFo
                      obtain ⟨yb, _, yb2, ybv, yb3, yb4, _⟩ := hoF.row (fun a => Rp.len a) hAb'
                      have yb4 : loadV (few F) true 4 (.ptr (some (yb, ib * 4))) = some (.agg b.cells) := yb4
                      have al2 : (few F).alloc (.cells true [.int .i64 0, .int .i64 0, .bool false, .bool false]) = some (F.length, few (F ++ [some (.cells true [.int .i64 0, .int .i64 0, .bool false, .bool false])])) := few_alloc _ _
                      have st2 : storeV (few (F ++ [some (.cells true [.int .i64 0, .int .i64 0, .bool false, .bool false])])) 4 (.ptr (some (F.length, 0))) (some b.cells) = some (V.undef, few (F ++ [some (.cells true b.cells)])) := storeNew rfl rfl
                      obtain ⟨G, hG⟩ : ∃ G, G = F ++ [some (AObj.cells true b.cells)] := ⟨_, rfl⟩
                      obtain ⟨G0, hG0⟩ : ∃ G0, G0 = F ++ [some (AObj.cells true [.int .i64 0, .int .i64 0, .bool false, .bool false])] := ⟨_, rfl⟩
                      rw [← hG, ← hG0] at st2
                      rw [← hG0] at al2
                      have hGl : G.length = F.length + 1 := by rw [hG]; simp
                      have hGo : ∀ i, i < F.length → (G[i]?).join = (F[i]?).join := fun i hi => by rw [hG, joinApp hi]
                      have hGe : (G[F.length]?).join = some (.cells true b.cells) := by rw [hG, joinEnd]
                      have hGa : (G[os4.length]?).join = some (.cells true a.cells) := by rw [hGo _ (by omega)]; exact hFe
                      have lon : loadV (few G) false 1 (.ptr (some (F.length, 2))) = some (.bool b.p.on) := (load_few hGe).trans rfl
                      have lax : loadV (few G) false 1 (.ptr (some (os4.length, 0))) = some (.int .i64 a.p.x) := (load_few hGa).trans rfl
                      have lay : loadV (few G) false 1 (.ptr (some (os4.length, 1))) = some (.int .i64 a.p.y) := (load_few hGa).trans rfl
                      have lbx : loadV (few G) false 1 (.ptr (some (F.length, 0))) = some (.int .i64 b.p.x) := (load_few hGe).trans rfl
                      have lby : loadV (few G) false 1 (.ptr (some (F.length, 1))) = some (.int .i64 b.p.y) := (load_few hGe).trans rfl
                      have hGos : ∀ x, x < os4.length → (G[x]?).join = (os4[x]?).join := fun x hx => by rw [hGo x (by omega), hFo x hx]
                      have hoG : OutG Sg.cells 4 G M4 wv out := ho4.keepAll hGos
                      have hdk := hdropR (k + 1) b hRb
                      cases hbo : b.p.on with
                      | true =>
                        rw [hbo] at lon
                        rw [hdk, goE_on hbo] at htot
                        obtain ⟨D, hD⟩ : ∃ D, D = G ++ [some (AObj.cells true (segP a.p b.p).cells)] := ⟨_, rfl⟩
                        have alD : (few G).alloc (.cells true [.int .i64 a.p.x, .int .i64 a.p.y, .int .i64 b.p.x, .int .i64 b.p.y]) = some (G.length, few D) := by rw [few_alloc, hD]; rfl
                        have hDl : D.length = G.length + 1 := by rw [hD]; simp
                        have hDo : ∀ i, i < G.length → (D[i]?).join = (G[i]?).join := fun i hi => by rw [hD, joinApp hi]
                        have hDe : (D[G.length]?).join = some (.cells true (segP a.p b.p).cells) := by rw [hD, joinEnd]
                        have fr := firstRow (f := true) (fun a => Sg.len a) hDe
                        obtain ⟨wv', E, g1, g2, g3, g4⟩ := (hoG.keepAll hDo).grow1 (fun a => Sg.len a) (nb := [segP a.p b.p]) (bytes := 32) (by simp) (by simp; omega)
                        have g1 : appendV (few D) 4 32 wv (some 1) (some (encG Sg.cells [segP a.p b.p])) = some (wv', few E) := g1
                        simp (disch := omega) [e1, e2, e3, hwv, hlav, dltn_t, hkl, wrap_i, bin_rem, hAL0, tm1, tm2, natOf_j, natOf_zero, natOf_one, ya3, ya4, ca, al1, st1, yb3, yb4, cb, al2, st2, lon, lax, lay, lbx, lby, arr0, arr1, alD, lenOf_sl, firstNo_some, fr, g1]
                        refine ⟨k4, by omega, E, rfl, k + 1, by omega, by omega, b, hRb, out ++ [segP a.p b.p], ?_⟩
                        refine ⟨g2.lower (by omega), fun x hx => ?_, by omega, by simp; omega, ?_⟩
                        · rw [g3 x (by omega) (fun q o e n c f hq => by have := ho4.above hq; omega), hDo x (by omega), hGos x (by omega), hold4 x hx]
                        · rw [htot]; simp
                      | false =>
                        rw [hbo] at lon
                        have hk2 : k + 1 ≠ AL := fun e => by
                          rw [e, hRend] at hRb
                          cases hRb
                          rw [hon0] at hbo
                          cases hbo
                        obtain ⟨d, hRd⟩ : ∃ d, R[k + 2]? = some d := ⟨_, List.getElem?_eq_getElem (by omega)⟩
                        have hdk2 := hdropR (k + 2) d hRd
                        rw [hdk, hdk2, goE_off hbo] at htot
                        have hAd : Al[(S + (k + 2)) % AL]? = some d := by rw [hRat (k + 2) (by omega)]; exact hRd
                        obtain ⟨id, hid⟩ : ∃ id, id = (S + (k + 2)) % AL := ⟨_, rfl⟩
                        rw [← hid] at hAd
                        have hdi := hAin d (List.mem_of_getElem? hAd)
                        have tm3 : Int.tmod ((S : Int) + (k : Int) + 2) (AL : Int) = (id : Int) := by
                          rw [show (S : Int) + (k : Int) + 2 = ((S + (k + 2) : Nat) : Int) from by omega, ← Int.ofNat_tmod, hid]
                        have hoGA : OutG Rp.cells 4 G 0 av Al := hoF.keepAll hGo
                        obtain ⟨yd, _, yd2, ydv, yd3, _, _⟩ := hoGA.row (fun a => Rp.len a) hAd
                        have yd4 := OutG.row2 (fun a => Rp.len a) (by omega) hoGA hAd ydv
                        have yd4 : loadV (few G) true 2 (.ptr (some (yd, id * 4))) = some (pairV d.p.x d.p.y) := yd4
                        have pa := load2 hGa
                        have pb := load2 hGe
                        have hcl : (curveP a.p b.p d.p).length = 8 := rfl
                        have hcv : ∀ st, call nC [pairV a.p.x a.p.y, pairV b.p.x b.p.y, pairV d.p.x d.p.y] st = lawOut (some ([.cells true (encG Sg.cells (curveP a.p b.p d.p))], fun k => .slice (some (k, 0)) 4 8 8 false)) st := fun st => by
                          have := hC a.p.x a.p.y b.p.x b.p.y d.p.x d.p.y st
                          rw [clip_id hai.1.1 hai.1.2, clip_id hai.2.1 hai.2.2, clip_id hbi.1.1 hbi.1.2, clip_id hbi.2.1 hbi.2.2, clip_id hdi.1.1 hdi.1.2, clip_id hdi.2.1 hdi.2.2] at this
                          exact this
                        obtain ⟨cu, hcu⟩ : ∃ cu, cu = curveP a.p b.p d.p := ⟨_, rfl⟩
                        rw [← hcu] at hcl htot
                        simp only [← hcu] at hcv
                        obtain ⟨D, hD⟩ : ∃ D, D = G ++ [some (AObj.cells true (encG Sg.cells cu))] := ⟨_, rfl⟩
                        have hDl : D.length = G.length + 1 := by rw [hD]; simp
                        have hDo : ∀ i, i < G.length → (D[i]?).join = (G[i]?).join := fun i hi => by rw [hD, joinApp hi]
                        have hDe : (D[G.length]?).join = some (.cells true (encG Sg.cells cu)) := by rw [hD, joinEnd]
                        have fr : firstN (few D) 4 8 (.slice (some (G.length, 0)) 4 8 8 false) = some (encG Sg.cells cu) := by
                          have := OutG.first (w := Sg.cells) (k := 4) (os := D) (N := 0) (v := .slice (some (G.length, 0)) 4 cu.length cu.length false) (l := cu) (fun a => Sg.len a) (.inr ⟨G.length, ⟨Nat.zero_le _, by intro e; rw [e] at hcl; simp at hcl⟩, rfl, hDe⟩)
                          rw [hcl] at this
                          exact this
                        obtain ⟨wv', E, g1, g2, g3, g4⟩ := (hoG.keepAll hDo).grow1 (fun a => Sg.len a) (nb := cu) (bytes := 32) (by intro e; rw [e] at hcl; simp at hcl) (by omega)
                        rw [hcl] at g1
                        simp (disch := omega) [e1, e2, e3, hwv, hlav, dltn_t, hkl, wrap_i, bin_rem, hAL0, tm1, tm2, tm3, natOf_j, natOf_zero, natOf_one, ya3, ya4, ca, al1, st1, yb3, yb4, cb, al2, st2, lon, pa, pb, yd3, yd4, hcv, lawOut_one, ← hD, lenOf_sl, firstNo_some, fr, g1, load_d, idOf]
                        refine ⟨k4 - 1, by omega, E, rfl, k + 2, by omega, by omega, d, hRd, out ++ cu, ?_⟩
                        refine ⟨g2.lower (by omega), fun x hx => ?_, by omega, by simp; omega, ?_⟩
                        · rw [g3 x (by omega) (fun q o e n c f hq => by have := ho4.above hq; omega), hDo x (by omega), hGos x (by omega), hold4 x hx]
                        · rw [htot]; simp
                | succ k3 =>
                  obtain ⟨r, hr⟩ : ∃ r, Al[k3]? = some r := ⟨_, List.getElem?_eq_getElem (by omega)⟩
                  obtain ⟨y, _, _, yv, y3, _, y5⟩ := ho2.row (fun a => Rp.len a) hr
                  have l2 : loadV (few os2) false 1 (.ptr (some (y, k3 * 4 + 2))) = some (.bool r.p.on) := y5 2 (by omega)
                  have l3 : loadV (few os2) false 1 (.ptr (some (y, k3 * 4 + 3))) = some (.bool r.real) := y5 3 (by omega)
                  have hstep := sIdx_step hr
                  have v2 : sb (.o (.i (.i .h))) = .int .i64 (k3 : Int) := by rw [v2]; congr 1; omega
                  have d0 : decide ((0 : Int) ≤ (k3 : Int)) = true := decide_eq_true (by omega)
                  cases hb1 : r.p.on with
                  | false =>
                    rw [hb1] at l2 hstep
                    simp only [Bool.false_and, Bool.false_eq_true, if_false] at hstep
                    simp (disch := omega) [v1, v2, v3, d0, natOf_j, y3, l2, l3, wrap_i]
                    exact ⟨k3, by omega, by omega, by omega, by rw [hstep]⟩
                  | true =>
                    rw [hb1] at l2 hstep
                    cases hb2 : r.real with
                    | false =>
                      rw [hb2] at l3 hstep
                      simp only [Bool.and_false, Bool.false_eq_true, if_false] at hstep
                      simp (disch := omega) [v1, v2, v3, d0, natOf_j, y3, l2, l3, wrap_i]
                      exact ⟨k3, by omega, by omega, by omega, by rw [hstep]⟩
                    | true =>
                      rw [hb2] at l3 hstep
                      simp only [Bool.and_true, if_true] at hstep
                      simp (disch := omega) [v1, v2, v3, d0, natOf_j, y3, l2, l3, wrap_i]
                      exact ⟨k3, by omega, by omega, by omega, by rw [hstep]⟩
            | succ k2 =>
              obtain ⟨cur, hcur⟩ : ∃ r, T[i]? = some r := ⟨_, List.getElem?_eq_getElem (by omega)⟩
              obtain ⟨pi, hpi⟩ : ∃ pi, pi = (i + n - 1) % n := ⟨_, rfl⟩
              have hpil : pi < n := by rw [hpi]; exact Nat.mod_lt _ (by omega)
              obtain ⟨pr, hpr⟩ : ∃ r, T[pi]? = some r := ⟨_, List.getElem?_eq_getElem (by omega)⟩
              have htm : Int.tmod ((i : Int) + (n : Int) - 1) (n : Int) = (pi : Int) := by
                rw [show (i : Int) + (n : Int) - 1 = ((i + n - 1 : Nat) : Int) from by omega, ← Int.ofNat_tmod, hpi]
              have hlast : (z :: T.take i).getLast (by simp) = pr := by
                cases i with
                | zero =>
                  rw [Nat.zero_add, Nat.mod_eq_of_lt (by omega)] at hpi
                  rw [hpi, hz] at hpr
                  cases hpr
                  rfl
                | succ i =>
                  rw [show i + 1 + n - 1 = i + n from by omega, Nat.add_mod_right, Nat.mod_eq_of_lt (by omega)] at hpi
                  have e : T.take (i + 1) = T.take i ++ [pr] := by rw [List.take_add_one, ← hpi, hpr]; rfl
                  simp only [e]
                  rw [List.getLast_cons (by simp)]
                  simp
              have hex : expandR z (T.take (i + 1)) = expandR z (T.take i) ++ expandR pr [cur] := by
                rw [List.take_add_one, hcur]
                show expandR z (T.take i ++ [cur]) = _
                rw [expand_app, hlast]
              obtain ⟨y, _, y2, yv, y3, _, y5⟩ := hoT.row (fun a => Rp.len a) hcur
              obtain ⟨y', _, y2', yv', y3', y4', _⟩ := hoT.row (fun a => Rp.len a) hpr
              have hyM : y < M2 := by
                obtain ⟨q, _, e1, e2⟩ := ho.made (by intro e; rw [e] at hTl; simp at hTl; omega)
                rw [yv] at e1
                injection e1 with e; injection e with e; injection e with e _
                rw [e, hM2]
                exact joinLt e2
              have y4' : loadV (few os2) true 4 (.ptr (some (y', pi * 4))) = some (.agg pr.cells) := y4'
              have cpr : (V.agg pr.cells).cells = some pr.cells := rfl
              have al1 : (few os2).alloc (.cells true [.int .i64 0, .int .i64 0, .bool false, .bool false]) = some (os2.length, few (os2 ++ [some (.cells true [.int .i64 0, .int .i64 0, .bool false, .bool false])])) := few_alloc _ _
              have st1 : storeV (few (os2 ++ [some (.cells true [.int .i64 0, .int .i64 0, .bool false, .bool false])])) 4 (.ptr (some (os2.length, 0))) (some pr.cells) = some (V.undef, few (os2 ++ [some (.cells true pr.cells)])) := storeNew rfl rfl
              obtain ⟨F, hF⟩ : ∃ F, F = os2 ++ [some (AObj.cells true pr.cells)] := ⟨_, rfl⟩
              obtain ⟨F0, hF0⟩ : ∃ F0, F0 = os2 ++ [some (AObj.cells true [.int .i64 0, .int .i64 0, .bool false, .bool false])] := ⟨_, rfl⟩
              rw [← hF, ← hF0] at st1
              rw [← hF0] at al1
              have hFl : F.length = os2.length + 1 := by rw [hF]; simp
              have hFo : ∀ i, i < os2.length → (F[i]?).join = (os2[i]?).join := fun i hi => by rw [hF, joinApp hi]
              have hFe : (F[os2.length]?).join = some (.cells true pr.cells) := by rw [hF, joinEnd]
              have f2 : loadV (few F) false 1 (.ptr (some (os2.length, 2))) = some (.bool pr.p.on) := (load_few hFe).trans rfl
              have fpair := load2 hFe
              have rows : ∀ (X : List (Option AObj)), (∀ x, x < M2 → (X[x]?).join = (os2[x]?).join) → loadV (few X) false 1 (.ptr (some (y, i * 4 + 2))) = some (.bool cur.p.on) ∧ loadV (few X) true 2 (.ptr (some (y, i * 4))) = some (pairV cur.p.x cur.p.y) ∧ loadV (few X) true 4 (.ptr (some (y, i * 4))) = some (.agg cur.cells) := fun X hX => by
                have hoX : OutG Rp.cells 4 X 0 ov T := (ho.lower (Nat.zero_le _)).keepAll fun x hx => by rw [hX x (by omega), hold2 x (by omega)]
                obtain ⟨x, _, _, xv, _, x4, x5⟩ := hoX.row (fun a => Rp.len a) hcur
                have hxy : x = y := by rw [yv] at xv; injection xv with e; injection e with e; injection e with e1 e2; exact e1.symm
                subst hxy
                exact ⟨x5 2 (by omega), OutG.row2 (fun a => Rp.len a) (by omega) hoX hcur xv, x4⟩
              obtain ⟨rF1, rF2, rF3⟩ := rows F (fun x hx => hFo x (by omega))
              have hn0 : (n : Int) ≠ 0 := by omega
              have hin : i < n := by omega
              have hoF : OutG Rp.cells 4 F M2 av (expandR z (T.take i)) := ho2.keepAll hFo
              have ccur : (V.agg cur.cells).cells = some cur.cells := rfl
              by_cases hoff : pr.p.on = false ∧ cur.p.on = false
              · have hpo := hoff.1
                have hco := hoff.2
                rw [hpo] at f2
                rw [hco] at rF1
                have he1 : expandR pr [cur] = [⟨midP pr.p cur.p, false⟩, cur] := by simp [expandR, hoff]
                rw [he1] at hex
                obtain ⟨mr, hmr⟩ : ∃ mr : Rp, mr = ⟨midP pr.p cur.p, false⟩ := ⟨_, rfl⟩
                rw [← hmr] at hex
                have hpin := hTin pr (List.mem_of_getElem? hpr)
                have hcin := hTin cur (List.mem_of_getElem? hcur)
                have mid : ∀ st, call nM [pairV pr.p.x pr.p.y, pairV cur.p.x cur.p.y] st = some (.agg [.int .i64 mr.p.x, .int .i64 mr.p.y], st) := fun st => by
                  rw [hM pr.p.x pr.p.y cur.p.x cur.p.y st hpin.1 hpin.2 hcin.1 hcin.2, hmr]
                  rfl
                have hmc : mr.cells = [.int .i64 mr.p.x, .int .i64 mr.p.y, .bool true, .bool false] := by rw [hmr]; rfl
                obtain ⟨D, hD⟩ : ∃ D, D = F ++ [some (.cells true mr.cells)] := ⟨_, rfl⟩
                have alD : (few F).alloc (.cells true [.int .i64 mr.p.x, .int .i64 mr.p.y, .bool true, .bool false]) = some (F.length, few D) := by rw [few_alloc, hD, hmc]
                have hDl : D.length = F.length + 1 := by rw [hD]; simp
                have hDo : ∀ i, i < F.length → (D[i]?).join = (F[i]?).join := fun i hi => by rw [hD, joinApp hi]
                have hDe : (D[F.length]?).join = some (.cells true mr.cells) := by rw [hD, joinEnd]
                have fr := firstRow (f := true) (fun a => Rp.len a) hDe
                have hoD : OutG Rp.cells 4 D M2 av (expandR z (T.take i)) := hoF.keepAll hDo
                obtain ⟨av1, E, g1, g2, g3, g4⟩ := hoD.grow1 (fun a => Rp.len a) (nb := [mr]) (bytes := 24) (by simp) (by simp; omega)
                have g1 : appendV (few D) 4 24 av (some 1) (some (encG Rp.cells [mr])) = some (av1, few E) := g1
                have hEo : ∀ x, x < M2 → (E[x]?).join = (os2[x]?).join := fun x hx => by
                  rw [g3 x (by omega) (fun q o e n c f hq => by have := ho2.above hq; omega), hDo x (by omega), hFo x (by omega)]
                obtain ⟨_, _, rE3⟩ := rows E hEo
                have rE3 : loadV (few E) true 4 (.ptr (some (y, i * 4))) = some (.agg [.int .i64 cur.p.x, .int .i64 cur.p.y, .bool cur.p.on, .bool cur.real]) := rE3
                obtain ⟨G, hG⟩ : ∃ G, G = E ++ [some (.cells true cur.cells)] := ⟨_, rfl⟩
                have alG : (few E).alloc (.cells true [.int .i64 cur.p.x, .int .i64 cur.p.y, .bool cur.p.on, .bool cur.real]) = some (E.length, few G) := by rw [few_alloc, hG]; rfl
                have hGl : G.length = E.length + 1 := by rw [hG]; simp
                have hGo : ∀ i, i < E.length → (G[i]?).join = (E[i]?).join := fun i hi => by rw [hG, joinApp hi]
                have hGe : (G[E.length]?).join = some (.cells true cur.cells) := by rw [hG, joinEnd]
                have fr2 := firstRow (f := true) (fun a => Rp.len a) hGe
                obtain ⟨av2, H, k1, k2', k3, k4⟩ := (g2.keepAll hGo).grow1 (fun a => Rp.len a) (nb := [cur]) (bytes := 24) (by simp) (by simp; omega)
                have k1 : appendV (few G) 4 24 av1 (some 1) (some (encG Rp.cells [cur])) = some (av2, few H) := k1
                have fin : ∃ m, m < k2 + 1 ∧ ∃ os2' : List (Option AObj), few H = few os2' ∧ ∃ x : Nat, x + m = n ∧ (i : Int) + 1 = (x : Int) ∧ OutG Rp.cells 4 os2' M2 av2 (expandR z (T.take x)) ∧ (∀ x, x < M2 → (os2'[x]?).join = (os'[x]?).join) ∧ M2 ≤ os2'.length ∧ (expandR z (T.take x)).length ≤ 2 * x := by
                  refine ⟨k2, by omega, H, rfl, i + 1, by omega, by omega, ?_, fun x hx => ?_, by omega, by rw [hex, List.length_append]; simp; omega⟩
                  · rw [hex, show [mr, cur] = [mr] ++ [cur] from rfl, ← List.append_assoc]
                    exact k2'.lower (by omega)
                  · rw [k3 x (by omega) (fun q o e n c f hq => by have := g2.above hq; omega), hGo x (by omega), hEo x hx, hold2 x hx]
                simp (disch := omega) [t1, t2, t3, hav, dltn_t, hin, wrap_i, bin_rem, hn0, htm, natOf_j, y3, y3', y4', cpr, al1, st1, f2, rF1, fpair, rF2, mid, alD, rE3, alG, lenOf_sl, firstNo_some, fr, fr2, g1, k1, load_d, foot_call, idOf]
                exact fin
              · have he1 : expandR pr [cur] = [cur] := by simp [expandR, hoff]
                rw [he1] at hex
                obtain ⟨D, hD⟩ : ∃ D, D = F ++ [some (.cells true cur.cells)] := ⟨_, rfl⟩
                have alD : (few F).alloc (.cells true [.int .i64 cur.p.x, .int .i64 cur.p.y, .bool cur.p.on, .bool cur.real]) = some (F.length, few D) := by rw [few_alloc, hD]; rfl
                have hDl : D.length = F.length + 1 := by rw [hD]; simp
                have hDo : ∀ i, i < F.length → (D[i]?).join = (F[i]?).join := fun i hi => by rw [hD, joinApp hi]
                have hDe : (D[F.length]?).join = some (.cells true cur.cells) := by rw [hD, joinEnd]
                have fr := firstRow (f := true) (fun a => Rp.len a) hDe
                have hoD : OutG Rp.cells 4 D M2 av (expandR z (T.take i)) := hoF.keepAll hDo
                obtain ⟨av', E, g1, g2, g3, g4⟩ := hoD.grow1 (fun a => Rp.len a) (nb := [cur]) (bytes := 24) (by simp) (by simp; omega)
                have g1 : appendV (few D) 4 24 av (some 1) (some (encG Rp.cells [cur])) = some (av', few E) := g1
                have rF3 : loadV (few F) true 4 (.ptr (some (y, i * 4))) = some (.agg [.int .i64 cur.p.x, .int .i64 cur.p.y, .bool cur.p.on, .bool cur.real]) := rF3
                have fin : ∃ m, m < k2 + 1 ∧ ∃ os2' : List (Option AObj), few E = few os2' ∧ ∃ x : Nat, x + m = n ∧ (i : Int) + 1 = (x : Int) ∧ OutG Rp.cells 4 os2' M2 av' (expandR z (T.take x)) ∧ (∀ x, x < M2 → (os2'[x]?).join = (os'[x]?).join) ∧ M2 ≤ os2'.length ∧ (expandR z (T.take x)).length ≤ 2 * x := by
                  refine ⟨k2, by omega, E, rfl, i + 1, by omega, by omega, by rw [hex]; exact g2.lower (by omega), fun x hx => ?_, by omega, by rw [hex, List.length_append]; simp; omega⟩
                  rw [g3 x (by omega) (fun q o e n c f hq => by have := ho2.above hq; omega), hDo x (by omega), hFo x (by omega), hold2 x hx]
                cases hpo : pr.p.on with
                | true =>
                  rw [hpo] at f2
                  simp (disch := omega) [t1, t2, t3, hav, dltn_t, hin, wrap_i, bin_rem, hn0, htm, natOf_j, y3, y3', y4', cpr, al1, st1, f2, rF3, alD, lenOf_sl, firstNo_some, fr, g1]
                  exact fin
                | false =>
                  have hco : cur.p.on = true := by
                    cases h : cur.p.on with
                    | true => rfl
                    | false => exact absurd ⟨hpo, h⟩ hoff
                  rw [hpo] at f2
                  rw [hco] at rF1
                  simp (disch := omega) [t1, t2, t3, hav, dltn_t, hin, wrap_i, bin_rem, hn0, htm, natOf_j, y3, y3', y4', cpr, al1, st1, f2, rF1, rF3, alD, lenOf_sl, firstNo_some, fr, g1]
                  exact fin
        | succ k =>
          obtain ⟨p, hp⟩ : ∃ p, c[j]? = some p := ⟨_, List.getElem?_eq_getElem (by omega)⟩
          obtain ⟨q', qo, q3, q2, qq⟩ := h.row j p hp
          have hq' : (os'[q']?).join = (os[q']?).join := by rw [hold q' (by omega), hOo q' (by omega)]
          have lon : loadV (few os') false 1 (.ptr (some (q', qo + 2))) = some (.bool p.on) := (qq os' hq').2 2 (by omega)
          have al1 : (few os').alloc (.cells true [.int .i64 0, .int .i64 0, .bool false, .bool false]) = some (os'.length, few (os' ++ [some (.cells true [.int .i64 0, .int .i64 0, .bool false, .bool false])])) := few_alloc _ _
          have st1 : storeV (few (os' ++ [some (.cells true [.int .i64 0, .int .i64 0, .bool false, .bool false])])) 4 (.ptr (some (os'.length, 0))) (some [.int .i64 0, .int .i64 0, .bool p.on, .bool true]) = some (V.undef, few (os' ++ [some (.cells true [.int .i64 0, .int .i64 0, .bool p.on, .bool true])])) := storeNew rfl rfl
          obtain ⟨X, hX⟩ : ∃ X, X = appX m (wholeI p.x) (wholeI p.y) := ⟨_, rfl⟩
          obtain ⟨Y, hY⟩ : ∃ Y, Y = appY m (wholeI p.x) (wholeI p.y) := ⟨_, rfl⟩
          have st2 : storeV (few (os' ++ [some (.cells true [.int .i64 0, .int .i64 0, .bool p.on, .bool true])])) 1 (.ptr (some (os'.length, 0))) (some [.int .i64 X]) = some (V.undef, few (os' ++ [some (.cells true [.int .i64 X, .int .i64 0, .bool p.on, .bool true])])) := storeCell (by simp)
          have st3 : storeV (few (os' ++ [some (.cells true [.int .i64 X, .int .i64 0, .bool p.on, .bool true])])) 1 (.ptr (some (os'.length, 1))) (some [.int .i64 Y]) = some (V.undef, few (os' ++ [some (.cells true [.int .i64 X, .int .i64 Y, .bool p.on, .bool true])])) := storeCell (by simp)
          obtain ⟨A0, hA0⟩ : ∃ A0, A0 = os' ++ [some (AObj.cells true [.int .i64 0, .int .i64 0, .bool false, .bool false])] := ⟨_, rfl⟩
          obtain ⟨A1, hA1⟩ : ∃ A1, A1 = os' ++ [some (AObj.cells true [.int .i64 0, .int .i64 0, .bool p.on, .bool true])] := ⟨_, rfl⟩
          obtain ⟨A2, hA2⟩ : ∃ A2, A2 = os' ++ [some (AObj.cells true [.int .i64 X, .int .i64 0, .bool p.on, .bool true])] := ⟨_, rfl⟩
          obtain ⟨A, hA'⟩ : ∃ A, A = os' ++ [some (AObj.cells true [.int .i64 X, .int .i64 Y, .bool p.on, .bool true])] := ⟨_, rfl⟩
          rw [← hA0] at al1 st1
          rw [← hA1] at st1 st2
          rw [← hA2] at st2 st3
          rw [← hA'] at st3
          have hA1o : ∀ i, i < os'.length → (A1[i]?).join = (os'[i]?).join := fun i hi => by rw [hA1, joinApp hi]
          have hA1l : A1.length = os'.length + 1 := by rw [hA1]; simp
          have hAo : ∀ i, i < os'.length → (A[i]?).join = (os'[i]?).join := fun i hi => by rw [hA', joinApp hi]
          have hAl : A.length = os'.length + 1 := by rw [hA']; simp
          have hAe : (A[os'.length]?).join = some (.cells true [.int .i64 X, .int .i64 Y, .bool p.on, .bool true]) := by rw [hA', joinEnd]
          have lA : loadV (few A) true 4 (.ptr (some (os'.length, 0))) = some (.agg [.int .i64 X, .int .i64 Y, .bool p.on, .bool true]) := loadAll hAe rfl
          have hMl : loadV (few A1) true 6 (.ptr (some (L, 0))) = some m.V := loadAll (by rw [hA1o _ (by omega), hold _ (by omega), hOe]) (Aff.len m)
          have q5' := (qq A1 (by rw [hA1o q' (by omega)]; exact hq')).2
          have l0 : loadV (few A1) false 1 (.ptr (some (q', qo))) = some (.int .i64 p.x) := q5' 0 (by omega)
          have l1 : loadV (few A1) false 1 (.ptr (some (q', qo + 1))) = some (.int .i64 p.y) := q5' 1 (by omega)
          have w0 := hW p.x
          have w1 := hW p.y
          have ap := hA m (wholeI p.x) (wholeI p.y)
          simp only [← hX, ← hY] at ap
          obtain ⟨rp, hrp⟩ : ∃ rp : Rp, rp = ⟨turn1 m p, true⟩ := ⟨_, rfl⟩
          have hrc : [V.int .i64 X, .int .i64 Y, .bool p.on, .bool true] = rp.cells := by rw [hrp, hX, hY]; rfl
          obtain ⟨D, hD⟩ : ∃ D, D = A ++ [some (.cells true rp.cells)] := ⟨_, rfl⟩
          have alD : (few A).alloc (.cells true [.int .i64 X, .int .i64 Y, .bool p.on, .bool true]) = some (A.length, few D) := by rw [few_alloc, hD, hrc]
          have hDl : D.length = A.length + 1 := by rw [hD]; simp
          have hDo : ∀ i, i < A.length → (D[i]?).join = (A[i]?).join := fun i hi => by rw [hD, joinApp hi]
          have hDe : (D[A.length]?).join = some (.cells true rp.cells) := by rw [hD, joinEnd]
          have fr := firstRow (f := true) (fun a => Rp.len a) hDe
          have hoD : OutG Rp.cells 4 D (L + 1) ov (T.take j) := ho.keepAll fun i hi => by rw [hDo i (by omega), hAo i hi]
          obtain ⟨ov', E, g1, g2, g3, g4⟩ := hoD.grow1 (fun a => Rp.len a) (nb := [rp]) (bytes := 24) (by simp) (by rw [List.length_take]; simp; omega)
          have g1 : appendV (few D) 4 24 ov (some 1) (some (encG Rp.cells [rp])) = some (ov', few E) := g1
          have hTj : T[j]? = some rp := by rw [hT, hrp]; simp [refL, hp]
          have hjn : j < n := by omega
          simp (disch := omega) [s1, s2, s3, s4, hov, dltn_t, hjn, natOf_j, natOf_zero, q3, lon, al1, st1, hMl, l0, l1, w0, w1, ap, st2, st3, lA, alD, lenOf_sl, firstNo_some, fr, g1, wrap_i, load_d, foot_call, idOf, back_limF, next_limF, arr0, arr1, natOf_one]
          refine ⟨k, by omega, E, rfl, j + 1, by omega, by omega, ?_, fun i hi => ?_, by omega⟩
          · rw [List.take_add_one, hTj]
            exact g2.lower (by omega)
          · rw [g3 i (by omega) (fun q o e n c f hq => by have := ho.above hq; omega), hDo i (by omega), hAo i (by omega), hold i hi]
theorem ContourF.code {base : CallT} {g lf nW nA nM nC : Nat} (hlf : 1000 < lf) (hW : WholeF base nW) (hA : ApplyF base nA) (hM : MiddleF base nM) (hC : Curve2F base nC) : ContourF (Vabs.withF base g lf (contour_c nW nA nM nC)) g := fun os v m c h hl => by
  rw [withF_same]; exact Contour_run hlf hW hA hM hC h hl
theorem ContourF.withF {call : CallT} {n g lf : Nat} {fn : AFunc} (h : ContourF call n) (hne : n ≠ g) : ContourF (Vabs.withF call g lf fn) n := fun os v m c a b => by rw [withF_other hne]; exact h os v m c a b

end Go.Vabs.Kk
