/-
  A reader of bits.
-/
import Derived.Test.YtkcjhakjelidgaaVabsZg
import Derived.Test.YtkcjhakjelidgaaVabsPk
namespace Go.Vabs.Fb
set_option linter.unusedVariables false
set_option linter.unusedSimpArgs false
set_option maxRecDepth 10000
def bit_c : AFunc := AFunc.mk 18 (.seq (.reg [AOper.mk (some (.i (.o .h))) (.mv (.c (.int .i64 (.ofNat 0)))) none]) (.seq (.reg [AOper.mk (some (.i (.i .h))) (.nilchk (.t .h)) none, AOper.mk (some (.o (.o (.o .h)))) (.fieldAddr 0 (.t (.i (.i .h)))) none, AOper.mk (some (.i (.o (.o .h)))) (.load false 1 (.t (.o (.o (.o .h))))) none, AOper.mk (some (.i (.i (.o .h)))) (.bin .quo (.val .int) (.t (.o .h)) (.c (.int .i64 (.ofNat 8)))) none, AOper.mk (some (.o (.o (.i .h)))) (.idxAddr (.slice 1) (.t (.i (.o (.o .h)))) (.t (.i (.i (.o .h))))) none, AOper.mk (some (.i (.o (.i .h)))) (.load false 1 (.t (.o (.o (.i .h))))) none, AOper.mk (some (.i (.i (.i .h)))) (.bin .rem (.val .int) (.t (.o .h)) (.c (.int .i64 (.ofNat 8)))) none, AOper.mk (some (.o (.o (.o (.o .h))))) (.bin .shr (.val .int) (.t (.i (.o (.i .h)))) (.t (.i (.i (.i .h))))) none, AOper.mk (some (.i (.o (.o (.o .h))))) (.conv (.int .i64) (.t (.o (.o (.o (.o .h)))))) none, AOper.mk (some (.o (.i (.o (.o .h))))) (.bin .and (.val .int) (.t (.i (.o (.o (.o .h))))) (.c (.int .i64 (.ofNat 1)))) none, AOper.mk (some (.i (.o .h))) (.mv (.t (.o (.i (.o (.o .h)))))) none]) .ret)) [.tmp (.i (.o .h))]
def Take_c (n_bit : Nat) : AFunc := AFunc.mk 50 (.seq (.reg [AOper.mk (some (.i (.o .h))) (.mv (.c (.int .i64 (.ofNat 0)))) none, AOper.mk (some (.o (.i .h))) (.mv (.c (.bool false))) none]) (.seq (.reg [AOper.mk (some (.o (.i (.o .h)))) (.minmax false (.t (.o .h)) [.c (.int .i64 (.ofNat 24))]) none, AOper.mk (some (.i (.i (.o .h)))) (.minmax true (.c (.int .i64 (.ofNat 0))) [.t (.o (.i (.o .h)))]) none, AOper.mk (some (.o .h)) (.mv (.t (.i (.i (.o .h))))) none]) (.seq (.seq (.dreg [(AOper.mk (some (.o (.o (.i .h)))) (.mv (.t (.o .h))) none, []), (AOper.mk (some (.i (.o (.i .h)))) (.mv (.t .h)) none, []), (AOper.mk (some (.o (.i (.i .h)))) (.nilchk (.t (.i (.o (.i .h))))) none, []), (AOper.mk (some (.i (.i (.i .h)))) (.fieldAddr 0 (.t (.o (.i (.i .h))))) none, []), (AOper.mk (some (.o (.o (.o (.o .h))))) (.load false 1 (.t (.i (.i (.i .h))))) none, [10]), (AOper.mk (some (.i (.o (.o (.o .h))))) (.len .slice (.t (.o (.o (.o (.o .h)))))) none, []), (AOper.mk (some (.o (.i (.o (.o .h))))) (.bin .mul (.val .int) (.c (.int .i64 (.ofNat 8))) (.t (.i (.o (.o (.o .h)))))) none, []), (AOper.mk (some (.i (.i (.o (.o .h))))) (.mv (.t .h)) none, []), (AOper.mk (some (.o (.o (.i (.o .h))))) (.nilchk (.t (.i (.i (.o (.o .h)))))) none, []), (AOper.mk (some (.i (.o (.i (.o .h))))) (.fieldAddr 1 (.t (.o (.o (.i (.o .h)))))) none, []), (AOper.mk (some (.o (.i (.i (.o .h))))) (.load false 1 (.t (.i (.o (.i (.o .h)))))) none, [4]), (AOper.mk (some (.i (.i (.i (.o .h))))) (.bin .sub (.val .int) (.t (.o (.i (.o (.o .h))))) (.t (.o (.i (.i (.o .h)))))) none, []), (AOper.mk (some (.o (.o (.o (.i .h))))) (.bin .gtr (.val .int) (.t (.o (.o (.i .h)))) (.t (.i (.i (.i (.o .h)))))) none, [])]) (.cond (.t (.o (.o (.o (.i .h))))) (.seq (.reg [AOper.mk (some (.i (.o .h))) (.mv (.c (.int .i64 (.ofNat 0)))) none, AOper.mk (some (.o (.i .h))) (.mv (.c (.bool false))) none]) .ret) .skip)) (.seq (.reg [AOper.mk (some (.i (.i .h))) (.mv (.c (.int .i64 (.ofNat 0)))) none]) (.seq (.seq (.reg [AOper.mk (some (.i (.o (.o (.i .h))))) (.mv (.t (.o .h))) none, AOper.mk (some (.o (.i (.o (.i .h))))) (.mv (.c (.int .i64 (.ofNat 0)))) none]) (.block 0 (.loop (.seq (.reg [AOper.mk (some (.i (.i (.o (.i .h))))) (.bin .lss (.val .int) (.t (.o (.i (.o (.i .h))))) (.t (.i (.o (.o (.i .h)))))) none]) (.seq (.cond (.t (.i (.i (.o (.i .h))))) .skip (.exit 0)) (.seq (.block 1 (.seq (.reg [AOper.mk (some (.o (.o (.o .h)))) (.mv (.t (.o (.i (.o (.i .h)))))) none]) (.reg [AOper.mk (some (.o (.o (.o (.o (.o .h)))))) (.nilchk (.t .h)) none, AOper.mk (some (.i (.o (.o (.o (.o .h)))))) (.fieldAddr 1 (.t (.o (.o (.o (.o (.o .h))))))) none, AOper.mk (some (.o (.i (.o (.o (.o .h)))))) (.load false 1 (.t (.i (.o (.o (.o (.o .h))))))) none, AOper.mk (some (.o (.o (.i (.o (.o .h)))))) (.bin .add (.val .int) (.t (.o (.i (.o (.o (.o .h)))))) (.t (.o (.o (.o .h))))) none, AOper.mk (some (.i (.o (.i (.o (.o .h)))))) (.call n_bit [.t .h, .t (.o (.o (.i (.o (.o .h)))))]) none, AOper.mk (some (.i (.i (.i (.o (.o .h)))))) (.bin .shl (.val .int) (.t (.i (.o (.i (.o (.o .h)))))) (.t (.o (.o (.o .h))))) none, AOper.mk (some (.o (.o (.o (.i (.o .h)))))) (.bin .or (.val .int) (.t (.i (.i .h))) (.t (.i (.i (.i (.o (.o .h))))))) none, AOper.mk (some (.i (.i .h))) (.mv (.t (.o (.o (.o (.i (.o .h))))))) none]))) (.reg [AOper.mk (some (.i (.o (.o (.i (.o .h)))))) (.bin .add (.val .int) (.t (.o (.i (.o (.i .h))))) (.c (.int .i64 (.ofNat 1)))) none, AOper.mk (some (.o (.i (.o (.i .h))))) (.mv (.t (.i (.o (.o (.i (.o .h))))))) none]))))))) (.seq (.reg [AOper.mk (some (.i (.i (.o (.i (.o .h)))))) (.nilchk (.t .h)) none, AOper.mk (some (.o (.o (.i (.i (.o .h)))))) (.fieldAddr 1 (.t (.i (.i (.o (.i (.o .h))))))) none, AOper.mk (some (.i (.o (.i (.i (.o .h)))))) (.load false 1 (.t (.o (.o (.i (.i (.o .h))))))) none, AOper.mk (some (.i (.i (.i (.i (.o .h)))))) (.bin .add (.val .int) (.t (.i (.o (.i (.i (.o .h)))))) (.t (.o .h))) none, AOper.mk (some (.o (.o (.o (.o (.i .h)))))) (.nilchk (.t .h)) none, AOper.mk (some (.i (.o (.o (.o (.i .h)))))) (.fieldAddr 1 (.t (.o (.o (.o (.o (.i .h))))))) none, AOper.mk none (.store 1 (.t (.i (.o (.o (.o (.i .h)))))) (.t (.i (.i (.i (.i (.o .h))))))) none]) (.seq (.reg [AOper.mk (some (.i (.o .h))) (.mv (.t (.i (.i .h)))) none, AOper.mk (some (.o (.i .h))) (.mv (.c (.bool true))) none]) .ret))))))) [.tmp (.i (.o .h)), .tmp (.o (.i .h))]
def Align_c : AFunc := AFunc.mk 12 (.reg [AOper.mk (some (.i (.o .h))) (.nilchk (.t .h)) none, AOper.mk (some (.o (.i .h))) (.fieldAddr 1 (.t (.i (.o .h)))) none, AOper.mk (some (.i (.i .h))) (.load false 1 (.t (.o (.i .h)))) none, AOper.mk (some (.o (.o (.o .h)))) (.bin .add (.val .int) (.t (.i (.i .h))) (.c (.int .i64 (.ofNat 7)))) none, AOper.mk (some (.i (.o (.o .h)))) (.bin .quo (.val .int) (.t (.o (.o (.o .h)))) (.c (.int .i64 (.ofNat 8)))) none, AOper.mk (some (.o (.i (.o .h)))) (.bin .mul (.val .int) (.t (.i (.o (.o .h)))) (.c (.int .i64 (.ofNat 8)))) none, AOper.mk (some (.i (.i (.o .h)))) (.nilchk (.t .h)) none, AOper.mk (some (.o (.o (.i .h)))) (.fieldAddr 1 (.t (.i (.i (.o .h))))) none, AOper.mk none (.store 1 (.t (.o (.o (.i .h)))) (.t (.o (.i (.o .h))))) none]) []
def Used_c : AFunc := AFunc.mk 9 (.seq (.reg [AOper.mk (some (.i .h)) (.mv (.c (.int .i64 (.ofNat 0)))) none]) (.seq (.reg [AOper.mk (some (.i (.o .h))) (.nilchk (.t .h)) none, AOper.mk (some (.o (.i .h))) (.fieldAddr 1 (.t (.i (.o .h)))) none, AOper.mk (some (.i (.i .h))) (.load false 1 (.t (.o (.i .h)))) none, AOper.mk (some (.o (.o (.o .h)))) (.bin .add (.val .int) (.t (.i (.i .h))) (.c (.int .i64 (.ofNat 7)))) none, AOper.mk (some (.i (.o (.o .h)))) (.bin .quo (.val .int) (.t (.o (.o (.o .h)))) (.c (.int .i64 (.ofNat 8)))) none, AOper.mk (some (.i .h)) (.mv (.t (.i (.o (.o .h))))) none]) .ret)) [.tmp (.i .h)]
def NewBits_c (n_Clone : Nat) : AFunc := AFunc.mk 7 (.seq (.reg [AOper.mk (some (.i .h)) (.mv (.c (.ptr none))) none]) (.seq (.reg [AOper.mk (some (.i (.o .h))) (.call n_Clone [.t .h]) none, AOper.mk (some (.o (.i .h))) (.build [.slice none 0 0 0 true, .int .i64 (.ofNat 0)] [(0, (1, .t (.i (.o .h))))]) none, AOper.mk (some (.i (.i .h))) (.box (.t (.o (.i .h)))) none, AOper.mk (some (.i .h)) (.mv (.t (.i (.i .h)))) none]) .ret)) [.tmp (.i .h)]
def BitsLaw_c (n_NewBits : Nat) (n_known : Nat) (n_Pick : Nat) (n_Align : Nat) (n_Take : Nat) (n_Used : Nat) : AFunc := AFunc.mk 117 (.seq (.reg [AOper.mk (some (.i (.o .h))) (.mv (.c (.bool false))) none]) (.seq (.reg [AOper.mk (some (.i (.i (.i .h)))) (.call n_NewBits [.t .h]) none, AOper.mk (some (.o (.i .h))) (.mv (.t (.i (.i (.i .h))))) none]) (.seq (.seq (.reg [AOper.mk (some (.o (.o (.o (.o .h))))) (.call n_known []) none, AOper.mk (some (.i (.o (.o (.o .h))))) (.un .not (.t (.o (.o (.o (.o .h)))))) none, AOper.mk (some (.o (.i (.o (.o .h))))) (.mv (.t (.i (.o (.o (.o .h)))))) none, AOper.mk (some (.o (.o (.i (.o .h))))) (.bin .eql (.nils .ptr) (.t (.o (.i .h))) (.c (.ptr none))) (some (.o (.i (.o (.o .h))), false)), AOper.mk (some (.i (.o (.i (.o .h))))) (.pick (.t (.o (.i (.o (.o .h))))) (.c (.bool true)) (.t (.o (.o (.i (.o .h)))))) none]) (.cond (.t (.i (.o (.i (.o .h))))) (.seq (.reg [AOper.mk (some (.i (.o .h))) (.mv (.c (.bool false))) none]) .ret) .skip)) (.seq (.reg [AOper.mk (some (.i (.i .h))) (.mv (.c (.int .i64 (.ofNat 0)))) none]) (.seq (.seq (.reg [AOper.mk (some (.o (.o (.o .h)))) (.mv (.c (.int .i64 (.ofNat 0)))) none]) (.block 0 (.loop (.seq (.seq (.reg [AOper.mk (some (.o (.o (.o (.i .h))))) (.len .slice (.t (.o .h))) none, AOper.mk (some (.i (.o (.o (.i .h))))) (.bin .lss (.val .int) (.t (.o (.o (.o .h)))) (.t (.o (.o (.o (.i .h)))))) none, AOper.mk (some (.o (.i (.o (.i .h))))) (.mv (.t (.i (.o (.o (.i .h)))))) none, AOper.mk (some (.o (.o (.i (.i .h))))) (.bin .lss (.val .int) (.t (.o (.o (.o .h)))) (.c (.int .i64 (.ofNat 60)))) (some (.o (.i (.o (.i .h))), true)), AOper.mk (some (.i (.o (.i (.i .h))))) (.pick (.t (.o (.i (.o (.i .h))))) (.t (.o (.o (.i (.i .h))))) (.c (.bool false))) none]) (.cond (.t (.i (.o (.i (.i .h))))) .skip (.exit 0))) (.seq (.block 1 (.seq (.seq (.reg [AOper.mk (some (.o (.i (.o (.o (.o .h)))))) (.idxAddr (.slice 1) (.t (.o .h)) (.t (.o (.o (.o .h))))) none, AOper.mk (some (.i (.i (.o (.o (.o .h)))))) (.load false 1 (.t (.o (.i (.o (.o (.o .h))))))) none, AOper.mk (some (.o (.o (.i (.o (.o .h)))))) (.call n_Pick [.t (.i (.i (.o (.o (.o .h))))), .c (.int .i64 (.ofNat 9))]) none, AOper.mk (some (.i (.o (.i (.o (.o .h)))))) (.bin .eql (.val .int) (.t (.o (.o (.i (.o (.o .h)))))) (.c (.int .i64 (.ofNat 8)))) none]) (.cond (.t (.i (.o (.i (.o (.o .h)))))) (.seq (.reg [AOper.mk (some (.i (.i (.i (.o (.o .h)))))) (.call n_Align [.t (.o (.i .h))]) none]) (.reg [AOper.mk (some (.i (.o (.o (.i (.o .h)))))) (.bin .add (.val .int) (.t (.i (.i .h))) (.c (.int .i64 (.ofNat 7)))) none, AOper.mk (some (.o (.i (.o (.i (.o .h)))))) (.bin .quo (.val .int) (.t (.i (.o (.o (.i (.o .h)))))) (.c (.int .i64 (.ofNat 8)))) none, AOper.mk (some (.i (.i (.o (.i (.o .h)))))) (.bin .mul (.val .int) (.t (.o (.i (.o (.i (.o .h)))))) (.c (.int .i64 (.ofNat 8)))) none, AOper.mk (some (.i (.i .h))) (.mv (.t (.i (.i (.o (.i (.o .h))))))) none])) (.seq (.reg [AOper.mk (some (.o (.i (.i (.i (.o .h)))))) (.idxAddr (.slice 1) (.t (.o .h)) (.t (.o (.o (.o .h))))) none, AOper.mk (some (.i (.i (.i (.i (.o .h)))))) (.load false 1 (.t (.o (.i (.i (.i (.o .h))))))) none, AOper.mk (some (.o (.o (.o (.o (.i .h)))))) (.bin .quo (.val .int) (.t (.i (.i (.i (.i (.o .h)))))) (.c (.int .i64 (.ofNat 9)))) none, AOper.mk (some (.i (.o (.o (.o (.i .h)))))) (.call n_Pick [.t (.o (.o (.o (.o (.i .h))))), .c (.int .i64 (.ofNat 27))]) none, AOper.mk (some (.o (.i (.o (.o (.i .h)))))) (.bin .sub (.val .int) (.t (.i (.o (.o (.o (.i .h)))))) (.c (.int .i64 (.ofNat 1)))) none, AOper.mk (some (.i (.o (.o .h)))) (.mv (.t (.o (.i (.o (.o (.i .h))))))) none]) (.seq (.reg [AOper.mk (some (.o (.o (.i (.o (.i .h)))))) (.minmax false (.c (.int .i64 (.ofNat 24))) [.t (.i (.o (.o .h)))]) none, AOper.mk (some (.i (.o (.i (.o (.i .h)))))) (.minmax true (.c (.int .i64 (.ofNat 0))) [.t (.o (.o (.i (.o (.i .h)))))]) none, AOper.mk (some (.o (.i (.o .h)))) (.mv (.t (.i (.o (.i (.o (.i .h))))))) none]) (.seq (.reg [AOper.mk (some (.i (.o (.o (.i (.i .h)))))) (.call n_Take [.t (.o (.i .h)), .t (.i (.o (.o .h)))]) none, AOper.mk (some (.o (.i (.o (.i (.i .h)))))) (.extract (.t (.i (.o (.o (.i (.i .h)))))) 0) none, AOper.mk (some (.i (.i (.o (.i (.i .h)))))) (.extract (.t (.i (.o (.o (.i (.i .h)))))) 1) none, AOper.mk (some (.i (.i (.o .h)))) (.mv (.t (.o (.i (.o (.i (.i .h))))))) none, AOper.mk (some (.o (.o (.i .h)))) (.mv (.t (.i (.i (.o (.i (.i .h))))))) none]) (.seq (.seq (.reg [AOper.mk (some (.o (.i (.i (.i (.i .h)))))) (.len .slice (.t .h)) none, AOper.mk (some (.i (.i (.i (.i (.i .h)))))) (.bin .mul (.val .int) (.c (.int .i64 (.ofNat 8))) (.t (.o (.i (.i (.i (.i .h))))))) none, AOper.mk (some (.i (.o (.o (.o (.o (.o .h))))))) (.bin .sub (.val .int) (.t (.i (.i (.i (.i (.i .h)))))) (.t (.i (.i .h)))) none, AOper.mk (some (.i (.i (.o (.o (.o (.o .h))))))) (.bin .geq (.val .int) (.t (.i (.o (.o (.o (.o (.o .h))))))) (.t (.o (.i (.o .h))))) none, AOper.mk (some (.o (.o (.i (.o (.o (.o .h))))))) (.bin .neq (.val .bool) (.t (.o (.o (.i .h)))) (.t (.i (.i (.o (.o (.o (.o .h)))))))) none, AOper.mk (some (.i (.o (.i (.o (.o (.o .h))))))) (.mv (.t (.o (.o (.i (.o (.o (.o .h)))))))) none, AOper.mk (some (.i (.i (.i (.o (.o (.o .h))))))) (.un .not (.t (.o (.o (.i .h))))) (some (.i (.o (.i (.o (.o (.o .h))))), false)), AOper.mk (some (.o (.o (.o (.i (.o (.o .h))))))) (.mv (.t (.i (.i (.i (.o (.o (.o .h)))))))) (some (.i (.o (.i (.o (.o (.o .h))))), false)), AOper.mk (some (.o (.i (.o (.i (.o (.o .h))))))) (.bin .neq (.val .int) (.t (.i (.i (.o .h)))) (.c (.int .i64 (.ofNat 0)))) (some (.o (.o (.o (.i (.o (.o .h))))), true)), AOper.mk (some (.i (.i (.o (.i (.o (.o .h))))))) (.pick (.t (.o (.o (.o (.i (.o (.o .h))))))) (.t (.o (.i (.o (.i (.o (.o .h))))))) (.c (.bool false))) (some (.i (.o (.i (.o (.o (.o .h))))), false)), AOper.mk (some (.o (.o (.i (.i (.o (.o .h))))))) (.pick (.t (.i (.o (.i (.o (.o (.o .h))))))) (.c (.bool true)) (.t (.i (.i (.o (.i (.o (.o .h)))))))) none]) (.cond (.t (.o (.o (.i (.i (.o (.o .h))))))) (.seq (.reg [AOper.mk (some (.i (.o .h))) (.mv (.c (.bool false))) none]) .ret) .skip)) (.seq (.reg [AOper.mk (some (.i (.o (.i (.i (.o (.o .h))))))) (.mv (.t (.o (.o (.i .h))))) none]) (.cond (.t (.i (.o (.i (.i (.o (.o .h))))))) (.seq (.seq (.reg [AOper.mk (some (.i (.o (.i .h)))) (.mv (.c (.int .i64 (.ofNat 0)))) none]) (.block 2 (.loop (.seq (.seq (.reg [AOper.mk (some (.o (.o (.o (.o (.i (.o .h))))))) (.bin .lss (.val .int) (.t (.i (.o (.i .h)))) (.t (.o (.i (.o .h))))) none]) (.cond (.t (.o (.o (.o (.o (.i (.o .h))))))) .skip (.exit 2))) (.seq (.block 3 (.seq (.reg [AOper.mk (some (.i (.o (.i (.o (.i (.o .h))))))) (.conv (.int .u64) (.t (.i (.o (.i .h))))) none, AOper.mk (some (.o (.i (.i (.o (.i (.o .h))))))) (.bin .shr (.val .int) (.t (.i (.i (.o .h)))) (.t (.i (.o (.i (.o (.i (.o .h)))))))) none, AOper.mk (some (.i (.i (.i (.o (.i (.o .h))))))) (.bin .and (.val .int) (.t (.o (.i (.i (.o (.i (.o .h))))))) (.c (.int .i64 (.ofNat 1)))) none, AOper.mk (some (.i (.i (.o (.i (.i (.o .h))))))) (.bin .add (.val .int) (.t (.i (.i .h))) (.t (.i (.o (.i .h))))) none, AOper.mk (some (.o (.o (.i (.i (.i (.o .h))))))) (.bin .quo (.val .int) (.t (.i (.i (.o (.i (.i (.o .h))))))) (.c (.int .i64 (.ofNat 8)))) none, AOper.mk (some (.i (.o (.i (.i (.i (.o .h))))))) (.idxAddr (.slice 1) (.t .h) (.t (.o (.o (.i (.i (.i (.o .h)))))))) none, AOper.mk (some (.o (.i (.i (.i (.i (.o .h))))))) (.load false 1 (.t (.i (.o (.i (.i (.i (.o .h)))))))) none, AOper.mk (some (.i (.i (.i (.i (.i (.o .h))))))) (.conv (.int .i64) (.t (.o (.i (.i (.i (.i (.o .h)))))))) none, AOper.mk (some (.o (.i (.o (.o (.o (.i .h))))))) (.bin .add (.val .int) (.t (.i (.i .h))) (.t (.i (.o (.i .h))))) none, AOper.mk (some (.i (.i (.o (.o (.o (.i .h))))))) (.bin .rem (.val .int) (.t (.o (.i (.o (.o (.o (.i .h))))))) (.c (.int .i64 (.ofNat 8)))) none, AOper.mk (some (.o (.o (.i (.o (.o (.i .h))))))) (.conv (.int .u64) (.t (.i (.i (.o (.o (.o (.i .h)))))))) none, AOper.mk (some (.i (.o (.i (.o (.o (.i .h))))))) (.bin .shr (.val .int) (.t (.i (.i (.i (.i (.i (.o .h))))))) (.t (.o (.o (.i (.o (.o (.i .h)))))))) none, AOper.mk (some (.o (.i (.i (.o (.o (.i .h))))))) (.bin .and (.val .int) (.t (.i (.o (.i (.o (.o (.i .h))))))) (.c (.int .i64 (.ofNat 1)))) none, AOper.mk (some (.i (.i (.i (.o (.o (.i .h))))))) (.bin .neq (.val .int) (.t (.i (.i (.i (.o (.i (.o .h))))))) (.t (.o (.i (.i (.o (.o (.i .h)))))))) none]) (.cond (.t (.i (.i (.i (.o (.o (.i .h))))))) (.seq (.reg [AOper.mk (some (.i (.o .h))) (.mv (.c (.bool false))) none]) .ret) .skip))) (.reg [AOper.mk (some (.o (.i (.o (.o (.i (.o .h))))))) (.bin .add (.val .int) (.t (.i (.o (.i .h)))) (.c (.int .i64 (.ofNat 1)))) none, AOper.mk (some (.i (.o (.i .h)))) (.mv (.t (.o (.i (.o (.o (.i (.o .h)))))))) none])))))) (.seq (.seq (.reg [AOper.mk (some (.o (.i (.o (.i (.o (.i .h))))))) (.conv (.int .u64) (.t (.o (.i (.o .h))))) none, AOper.mk (some (.i (.i (.o (.i (.o (.i .h))))))) (.bin .shr (.val .int) (.t (.i (.i (.o .h)))) (.t (.o (.i (.o (.i (.o (.i .h)))))))) none, AOper.mk (some (.o (.o (.i (.i (.o (.i .h))))))) (.bin .neq (.val .int) (.t (.i (.i (.o (.i (.o (.i .h))))))) (.c (.int .i64 (.ofNat 0)))) none]) (.cond (.t (.o (.o (.i (.i (.o (.i .h))))))) (.seq (.reg [AOper.mk (some (.i (.o .h))) (.mv (.c (.bool false))) none]) .ret) .skip)) (.reg [AOper.mk (some (.i (.i (.i (.i (.o (.i .h))))))) (.bin .add (.val .int) (.t (.i (.i .h))) (.t (.o (.i (.o .h))))) none, AOper.mk (some (.i (.i .h))) (.mv (.t (.i (.i (.i (.i (.o (.i .h)))))))) none]))) .skip)))))))) (.seq (.reg [AOper.mk (some (.i (.o (.o (.o (.i (.i .h))))))) (.call n_Used [.t (.o (.i .h))]) none, AOper.mk (some (.i (.i (.o (.o (.i (.i .h))))))) (.bin .add (.val .int) (.t (.i (.i .h))) (.c (.int .i64 (.ofNat 7)))) none, AOper.mk (some (.o (.o (.i (.o (.i (.i .h))))))) (.bin .quo (.val .int) (.t (.i (.i (.o (.o (.i (.i .h))))))) (.c (.int .i64 (.ofNat 8)))) none, AOper.mk (some (.i (.o (.i (.o (.i (.i .h))))))) (.bin .neq (.val .int) (.t (.i (.o (.o (.o (.i (.i .h))))))) (.t (.o (.o (.i (.o (.i (.i .h)))))))) none]) (.cond (.t (.i (.o (.i (.o (.i (.i .h))))))) (.seq (.reg [AOper.mk (some (.i (.o .h))) (.mv (.c (.bool false))) none]) .ret) .skip)))) (.reg [AOper.mk (some (.i (.i (.i (.i .h))))) (.bin .add (.val .int) (.t (.o (.o (.o .h)))) (.c (.int .i64 (.ofNat 1)))) none, AOper.mk (some (.o (.o (.o .h)))) (.mv (.t (.i (.i (.i (.i .h)))))) none])))))) (.seq (.reg [AOper.mk (some (.i (.o .h))) (.mv (.c (.bool true))) none]) .ret)))))) [.tmp (.i (.o .h))]
attribute [local simp] wp_skip wp_ret wp_exit wp_reg wp_seq wp_cond wp_block thenQ_normal thenQ_ret thenQ_exit blockQ_normal blockQ_ret blockQ_exit wpCond_true wpCond_false wpOps_nil wpVal_some wpGuard_true wpGuard_false wpOps_guard wpOps_cons
  put_at put_no ev_c ev_slot posEq_h posEq_o posEq_i posEq_ho posEq_hi posEq_oh posEq_ih posEq_oi posEq_io sel_true sel_false
  okv_some step_mv step_call step_pick pickV_bool step_bin bin_add bin_sub bin_mul bin_eql bin_neq bin_lss bin_leq bin_gtr bin_geq bin_eqb bin_neb bin_eqs bin_nes step_un un_not un_neg step_len len_slice len_str len_const step_extract extractV nth step_convInt conv_int step_convStr step_slice step_idxAddr natOf_nat step_load step_index step_field step_fieldAddr step_build step_minmax
  step_alloc step_bslice bsliceV_some newV_some step_store step_append boolIs_b boolIs_t finQ_ret finQ_normal ressE_nil ressE_cons resE_tmp consO_some initE_nil initE_cons pos_0 pos_1 pos_2 pos_3 pos_4 pos_5 pos_6 pos_7 pos_8 plain_bool plain_int plain_str plain_ptr plain_slice plain_map plain_agg plain_func plain_nilFunc V.undef oneOf_one oneOf_two ble_self
attribute [local simp] wp_dreg wpDs_nil wpDs_cons wantedE_none wantedE_some wpDGuard_true wpDGuard_lim wpDGuard_false wpDLim_true wpDVal_free wpDVal_lim back_limited next_limited limF_dir limF_false ahead blt_dec foot_convStr foot_load foot_store foot_alloc foot_box foot_bslice foot_append foot_call okAll_nil okAll_cons pastsOf nthP
  wpRounds_succ roundQ_normal roundQ_ret roundQ_exit cells_int cells_bool cells_str cells_agg cells_slice few_alloc lawOut_nil lawOut_one step_box newV alloc_dir backv back_back back_few next_back few_next resE_cell load_fewC store_fewC first_fewC grow_none grow_some cellsAt_zero cellsAt_succ ownAt_zero ownAt_succ loadC_some storeC_some firstC_some growC_some load_d convStr_d convStr_d0 store_d append_d2 append_d1 first_d2 first_d1 cut takeN nth splice over idOf okPair_dd okPair_dc okPair_cd okPair_cc anyIn_nil anyIn_cons meets_nil meets_nil' meets_cons mem_nil mem_cons nbeq_dec blt_dec ble_dec fill repN firstNo lenOf fieldAddrV fieldV part natOf_zero natOf_one
open Go.Vabs.Ph
theorem mm_min {k : IntKind} {x y : Int} : mmAll false (.int k x) [.int k y] = some (.int k (min x y)) := by
  show (match mm2 false (.int k x) (.int k y) with | some z => mmAll false z [] | none => none) = _
  simp only [mm2, if_true, ltI_eq]
  show some (V.int k (sel (decide (y < x)) y x)) = _
  by_cases h : y < x
  · rw [decide_eq_true h, sel_true, Int.min_eq_right (by omega)]
  · rw [decide_eq_false h, sel_false, Int.min_eq_left (by omega)]
theorem mm_max {k : IntKind} {x y : Int} : mmAll true (.int k x) [.int k y] = some (.int k (max x y)) := by
  show (match mm2 true (.int k x) (.int k y) with | some z => mmAll true z [] | none => none) = _
  simp only [mm2, if_true, ltI_eq]
  show some (V.int k (sel (decide (x < y)) y x)) = _
  by_cases h : x < y
  · rw [decide_eq_true h, sel_true, Int.max_eq_right (by omega)]
  · rw [decide_eq_false h, sel_false, Int.max_eq_left (by omega)]
/- WHAT THE BITS ARE -/
/-- A byte, 0 beyond the end. -/
def byteN (bs : List Nat) (q : Nat) : Nat := bs.getD q 0
/-- A bit: from a byte's lowest one on. -/
def bitN (bs : List Nat) (p : Nat) : Nat := byteN bs (p / 8) / 2 ^ (p % 8) % 2
/-- So many bits from a place on. -/
def takeB (bs : List Nat) (p : Nat) : Nat → Nat
  | 0 => 0
  | n + 1 => takeB bs p n + bitN bs (p + n) * 2 ^ n
theorem bitN_lt (bs : List Nat) (p : Nat) : bitN bs p < 2 := Nat.mod_lt _ (by omega)
theorem takeB_lt (bs : List Nat) (p : Nat) : ∀ n, takeB bs p n < 2 ^ n
  | 0 => by simp [takeB]
  | n + 1 => by
    have h1 := takeB_lt bs p n
    have h2 := bitN_lt bs (p + n)
    have h3 : bitN bs (p + n) * 2 ^ n ≤ 1 * 2 ^ n := Nat.mul_le_mul_right _ (by omega)
    simp only [takeB, Nat.pow_succ]
    omega
/-- The bits are told. -/
theorem takeB_bit (bs : List Nat) (p : Nat) : ∀ (n k : Nat), k < n → takeB bs p n / 2 ^ k % 2 = bitN bs (p + k)
  | 0, k, h => by omega
  | n + 1, k, h => by
    have h1 := takeB_lt bs p n
    have hp : 0 < 2 ^ k := Nat.two_pow_pos k
    simp only [takeB]
    by_cases e : k = n
    · subst e
      rw [Nat.add_mul_div_right _ _ hp, Nat.div_eq_of_lt h1, Nat.zero_add]
      exact Nat.mod_eq_of_lt (bitN_lt _ _)
    · obtain ⟨d, rfl⟩ : ∃ d, n = k + 1 + d := ⟨n - k - 1, by omega⟩
      have e2 : bitN bs (p + (k + 1 + d)) * 2 ^ (k + 1 + d) = (bitN bs (p + (k + 1 + d)) * 2 ^ d * 2) * 2 ^ k := by
        rw [Nat.pow_add, Nat.pow_add, Nat.pow_one]
        simp only [Nat.mul_assoc, Nat.mul_comm, Nat.mul_left_comm]
      rw [e2, Nat.add_mul_div_right _ _ hp, Nat.add_mul_mod_self_right]
      exact takeB_bit bs p _ k (by omega)
theorem or_bit {a b n : Nat} (ha : a < 2 ^ n) : a ||| (b * 2 ^ n) = a + b * 2 ^ n := by
  have := Nat.two_pow_add_eq_or_of_lt ha b
  rw [Nat.mul_comm] at this
  rw [Nat.or_comm, ← this, Nat.add_comm]

/- A READER OF BITS IN MEMORY -/
/-- M at: the memory in which 'at' bits were taken; R: the reader; c: its bytes. -/
structure Rd (M : Int → St) (R c : Nat) (sv : V) (bs : List Nat) : Prop where
  f0 : ∀ p, loadV (M p) false 1 (.ptr (some (R, 0))) = some sv
  f1 : ∀ p, loadV (M p) false 1 (.ptr (some (R, 1))) = some (.int .i64 p)
  put : ∀ p q, storeV (M p) 1 (.ptr (some (R, 1))) (some [.int .i64 q]) = some (V.undef, M q)
  len : ∀ st, lenV st .slice sv = some (.int .i64 (bs.length : Int))
  idx : ∀ q, q < bs.length → idxAddrV (.slice 1) sv (some q) = some (.ptr (some (c, q)))
  byte : ∀ p q, q < bs.length → loadV (M p) false 1 (.ptr (some (c, q))) = some (.int .u8 (byteN bs q : Int))
  small : ∀ q, byteN bs q < 256
section
variable {M : Int → St} {R c : Nat} {sv : V} {bs : List Nat}
theorem natDiv8 {p : Nat} : Int.tdiv (p : Int) 8 = ((p / 8 : Nat) : Int) := rfl
theorem natMod8 {p : Nat} : Int.tmod (p : Int) 8 = ((p % 8 : Nat) : Int) := rfl
theorem bit_run {call : CallT} {lf p : Nat} (h : Rd M R c sv bs) (hp : p < 8 * bs.length) (hl : bs.length ≤ 140737488351232) {m : Int} : enterF call lf [.ptr (some (R, 0)), .int .i64 (p : Int)] (M m) bit_c = some (.int .i64 (bitN bs p : Int), M m) := by
  have hq : p / 8 < bs.length := by omega
  have hs := h.small (p / 8)
  have hx : byteN bs (p / 8) / 2 ^ (p % 8) < 256 := Nat.lt_of_le_of_lt (Nat.div_le_self _ _) hs
  have hbit : bitN bs p = byteN bs (p / 8) / 2 ^ (p % 8) % 2 := rfl
  have e1 : binV .shr (.val .int) (.int .u8 (byteN bs (p / 8) : Int)) (.int .i64 ((p % 8 : Nat) : Int)) = some (.int .u8 ((byteN bs (p / 8) / 2 ^ (p % 8) : Nat) : Int)) := by
    rw [shrI (Int.natCast_nonneg _) (by show ((p % 8 : Nat) : Int) ≤ 8; omega), Int.toNat_natCast]
    rfl
  generalize byteN bs (p / 8) / 2 ^ (p % 8) = w at hx hbit e1
  have e2 : convV (M m) (.int .i64) (.int .u8 (w : Int)) = some (.int .i64 (w : Int)) := by
    rw [conv_int, wrap_i (by omega) (by omega)]
  have e3 : binV .and (.val .int) (.int .i64 (w : Int)) (.int .i64 1) = some (.int .i64 (bitN bs p : Int)) := by
    rw [and_1 (Int.natCast_nonneg _) (by omega), hbit]
    rfl
  have e4 : binV .quo (.val .int) (.int .i64 (p : Int)) (.int .i64 8) = some (.int .i64 ((p / 8 : Nat) : Int)) := by
    rw [bin_quo (by decide), natDiv8, wrap_i (by omega) (by omega)]
  have e5 : binV .rem (.val .int) (.int .i64 (p : Int)) (.int .i64 8) = some (.int .i64 ((p % 8 : Nat) : Int)) := by
    rw [bin_rem (by decide), natMod8]
  have e6 : natOf (.int .i64 ((p / 8 : Nat) : Int)) = some (p / 8) := rfl
  have e7 := h.idx (p / 8) hq
  have e8 := h.byte m (p / 8) hq
  refine enter_eq ?_
  generalize hd : ((p / 8 : Nat) : Int) = d at e4 e6
  generalize hr : ((p % 8 : Nat) : Int) = r at e1 e5
  generalize hb : (byteN bs (p / 8) : Int) = b at e1 e8
  generalize hw : (w : Int) = w' at e1 e2 e3
  simp [step_nilchk, nilchk_ptr, h.f0, e1, e2, e3, e4, e5, e6, e7, e8]
/-- How many bits are taken. -/
def most (n : Int) : Nat := (max 0 (min n 24)).toNat
theorem most_le (n : Int) : most n ≤ 24 := by unfold most; omega
def BitF (call : CallT) (g : Nat) : Prop := ∀ (M : Int → St) (R c : Nat) (sv : V) (bs : List Nat) (p : Nat) (m : Int), Rd M R c sv bs → p < 8 * bs.length → bs.length ≤ 140737488351232 → call g [.ptr (some (R, 0)), .int .i64 (p : Int)] (M m) = some (.int .i64 (bitN bs p : Int), M m)
theorem BitF.code {base : CallT} {g lf : Nat} : BitF (withF base g lf bit_c) g := fun M R c sv bs p m h h1 h2 => by rw [withF_same]; exact bit_run h h1 h2
end

section
variable {M : Int → St} {R c : Nat} {sv : V} {bs : List Nat}
def mmI (n : Int) : Int := max 0 (min n 24)
theorem Used_run {call : CallT} {lf p : Nat} (h : Rd M R c sv bs) (hp : p ≤ 8 * bs.length) (hl : bs.length ≤ 140737488351232) : enterF call lf [.ptr (some (R, 0))] (M p) Used_c = some (.int .i64 (((p + 7) / 8 : Nat) : Int), M p) := by
  have e4 : binV .quo (.val .int) (.int .i64 ((p : Int) + 7)) (.int .i64 8) = some (.int .i64 (((p + 7) / 8 : Nat) : Int)) := by
    rw [bin_quo (by decide), show (p : Int) + 7 = ((p + 7 : Nat) : Int) from by omega, natDiv8, wrap_i (by omega) (by omega)]
  refine enter_eq ?_
  generalize hd : (((p + 7) / 8 : Nat) : Int) = d at e4
  simp (disch := omega) [step_nilchk, nilchk_ptr, h.f1, wrap_i, e4]
theorem Align_run {call : CallT} {lf p : Nat} (h : Rd M R c sv bs) (hp : p ≤ 8 * bs.length) (hl : bs.length ≤ 140737488351232) : enterF call lf [.ptr (some (R, 0))] (M p) Align_c = some (.tuple [], M (((p + 7) / 8 * 8 : Nat) : Int)) := by
  have e4 : binV .quo (.val .int) (.int .i64 ((p : Int) + 7)) (.int .i64 8) = some (.int .i64 (((p + 7) / 8 : Nat) : Int)) := by
    rw [bin_quo (by decide), show (p : Int) + 7 = ((p + 7 : Nat) : Int) from by omega, natDiv8, wrap_i (by omega) (by omega)]
  have e5 : binV .mul (.val .int) (.int .i64 (((p + 7) / 8 : Nat) : Int)) (.int .i64 8) = some (.int .i64 (((p + 7) / 8 * 8 : Nat) : Int)) := by
    rw [bin_mul, wrap_i (by omega) (by omega)]
    congr 2
  refine enter_eq ?_
  generalize hd : (((p + 7) / 8 : Nat) : Int) = d at e4 e5
  generalize hd2 : (((p + 7) / 8 * 8 : Nat) : Int) = d2 at e5
  simp (disch := omega) [step_nilchk, nilchk_ptr, h.f1, h.put, wrap_i, e4, e5]
  rfl
theorem takeB_small (bs : List Nat) (p n : Nat) (h : n ≤ 24) : takeB bs p n < 16777216 := by
  have h1 := takeB_lt bs p n
  have h2 : 2 ^ n ≤ 2 ^ 24 := Nat.pow_le_pow_right (by omega) h
  omega
theorem Take_no {call : CallT} {lf p nb : Nat} (h : Rd M R c sv bs) (hp : p ≤ 8 * bs.length) (hl : bs.length ≤ 140737488351232) {n : Int} (hn : 8 * (bs.length : Int) - p < mmI n) : enterF call lf [.ptr (some (R, 0)), .int .i64 n] (M p) (Take_c nb) = some (.tuple [.int .i64 0, .bool false], M p) := by
  refine enter_eq ?_
  have hm : mmAll true (.int .i64 0) [.int .i64 (min n 24)] = some (.int .i64 (mmI n)) := mm_max
  have hc := h.len
  simp (disch := omega) [step_nilchk, nilchk_ptr, h.f0, h.f1, h.len, anyIn_same, mm_min, hm, wrap_i, dlt_t]
theorem Take_yes {call : CallT} {lf p nb m : Nat} (hlf : 26 ≤ lf) (hb : BitF call nb) (h : Rd M R c sv bs) (hp : p ≤ 8 * bs.length) (hl : bs.length ≤ 140737488351232) {n : Int} (hm : mmI n = (m : Int)) (hm24 : m ≤ 24) (hn : p + m ≤ 8 * bs.length) :
    enterF call lf [.ptr (some (R, 0)), .int .i64 n] (M p) (Take_c nb) = some (.tuple [.int .i64 (takeB bs p m : Int), .bool true], M ((p + m : Nat) : Int)) := by
  refine enter_eq ?_
  have hm' : mmAll true (.int .i64 0) [.int .i64 (min n 24)] = some (.int .i64 (m : Int)) := by rw [← hm]; exact mm_max
  simp (disch := omega) [step_nilchk, nilchk_ptr, h.f0, h.f1, h.len, anyIn_same, mm_min, hm', wrap_i, dlt_f]
  refine wp_loop (fun k s st => st = M p ∧ ∃ i : Nat, i + k = m ∧ s .h = .ptr (some (R, 0)) ∧ s (.o .h) = .int .i64 (m : Int) ∧ s (.i (.o (.o (.i .h)))) = .int .i64 (m : Int) ∧ s (.o (.i (.o (.i .h)))) = .int .i64 (i : Int) ∧
    s (.i (.i .h)) = .int .i64 (takeB bs p i : Int)) m ?_ (by omega) ?_
  · refine ⟨rfl, 0, by omega, ?_, ?_, ?_, ?_, ?_⟩ <;> simp [takeB]
  · rintro k s st ⟨rfl, i, hi, s1, s2, s3, s4, s5⟩
    cases k with
    | zero =>
      obtain rfl : i = m := by omega
      simp (disch := omega) [s1, s2, s3, s4, s5, step_nilchk, nilchk_ptr, h.f1, h.put, wrap_i]
    | succ k =>
      have hbit : call nb [.ptr (some (R, 0)), .int .i64 ((p : Int) + (i : Int))] (M p) = some (.int .i64 (bitN bs (p + i) : Int), M p) := by
        have := hb M R c sv bs (p + i) p h (by omega) hl
        rw [show ((p + i : Nat) : Int) = (p : Int) + (i : Int) from by omega] at this
        exact this
      have hb2 := bitN_lt bs (p + i)
      have ht := takeB_lt bs p i
      have ht2 := takeB_small bs p (i + 1) (by omega)
      have ht3 := takeB_small bs p i (by omega)
      have hnext : takeB bs p (i + 1) = takeB bs p i + bitN bs (p + i) * 2 ^ i := rfl
      have eshl : binV .shl (.val .int) (.int .i64 (bitN bs (p + i) : Int)) (.int .i64 (i : Int)) = some (.int .i64 ((bitN bs (p + i) * 2 ^ i : Nat) : Int)) := by
        have e : binV .shl (.val .int) (.int .i64 (bitN bs (p + i) : Int)) (.int .i64 (i : Int)) = _ := bin_shl (n := i)
        rw [e, show Nat.ble i (bitsOf .i64) = true from ble_t (by show i ≤ 64; omega), sel_true, ← Int.natCast_mul]
        generalize bitN bs (p + i) * 2 ^ i = w at hnext
        rw [wrap_i (by omega) (by omega)]
      have eor : binV .or (.val .int) (.int .i64 (takeB bs p i : Int)) (.int .i64 ((bitN bs (p + i) * 2 ^ i : Nat) : Int)) = some (.int .i64 (takeB bs p (i + 1) : Int)) := by
        rw [hnext, ← or_bit ht]
        refine Pk.bin_or (by omega) ?_
        generalize bitN bs (p + i) * 2 ^ i = w at hnext
        omega
      generalize hsh : ((bitN bs (p + i) * 2 ^ i : Nat) : Int) = w at eshl eor
      have hlt : i < m := by omega
      simp (disch := omega) [s1, s2, s3, s4, s5, step_nilchk, nilchk_ptr, h.f1, wrap_i, dlt_t, hlt, hbit, eshl, eor]
      exact ⟨k, by omega, i + 1, by omega, by simp, rfl⟩
def TakeF (call : CallT) (g : Nat) : Prop := ∀ (M : Int → St) (R c : Nat) (sv : V) (bs : List Nat) (p : Nat) (n : Int), Rd M R c sv bs → p ≤ 8 * bs.length → bs.length ≤ 140737488351232 →
  (8 * (bs.length : Int) - p < mmI n → call g [.ptr (some (R, 0)), .int .i64 n] (M p) = some (.tuple [.int .i64 0, .bool false], M p)) ∧
  ∀ m : Nat, mmI n = (m : Int) → m ≤ 24 → p + m ≤ 8 * bs.length → call g [.ptr (some (R, 0)), .int .i64 n] (M p) = some (.tuple [.int .i64 (takeB bs p m : Int), .bool true], M ((p + m : Nat) : Int))
theorem TakeF.code {base : CallT} {g nb : Nat} (hb : BitF base nb) : TakeF (withF base g 26 (Take_c nb)) g := fun M R c sv bs p n h hp hl =>
  ⟨fun hn => by rw [withF_same]; exact Take_no h hp hl hn, fun m hm hm24 hn => by rw [withF_same]; exact Take_yes (Nat.le_refl _) hb h hp hl hm hm24 hn⟩
theorem TakeF.withF {call : CallT} {n g lf : Nat} {fn : AFunc} (h : TakeF call n) (hne : n ≠ g) : TakeF (Vabs.withF call g lf fn) n := fun M R c sv bs p m hr hp hl =>
  ⟨fun hn => by rw [withF_other hne]; exact (h M R c sv bs p m hr hp hl).1 hn, fun k a b d => by rw [withF_other hne]; exact (h M R c sv bs p m hr hp hl).2 k a b d⟩
theorem TakeF.other {call : CallT} {n g : Nat} {l : List V → St → Option (V × St)} (h : TakeF call n) (hne : n ≠ g) : TakeF (withL call g l) n := fun M R c sv bs p m hr hp hl =>
  ⟨fun hn => by rw [withL_other hne]; exact (h M R c sv bs p m hr hp hl).1 hn, fun k a b d => by rw [withL_other hne]; exact (h M R c sv bs p m hr hp hl).2 k a b d⟩
def UsedF (call : CallT) (g : Nat) : Prop := ∀ (M : Int → St) (R c : Nat) (sv : V) (bs : List Nat) (p : Nat), Rd M R c sv bs → p ≤ 8 * bs.length → bs.length ≤ 140737488351232 → call g [.ptr (some (R, 0))] (M p) = some (.int .i64 (((p + 7) / 8 : Nat) : Int), M p)
def AlignF (call : CallT) (g : Nat) : Prop := ∀ (M : Int → St) (R c : Nat) (sv : V) (bs : List Nat) (p : Nat), Rd M R c sv bs → p ≤ 8 * bs.length → bs.length ≤ 140737488351232 → call g [.ptr (some (R, 0))] (M p) = some (.tuple [], M (((p + 7) / 8 * 8 : Nat) : Int))
theorem UsedF.code {base : CallT} {g lf : Nat} : UsedF (withF base g lf Used_c) g := fun M R c sv bs p h hp hl => by rw [withF_same]; exact Used_run h hp hl
theorem UsedF.withF {call : CallT} {n g lf : Nat} {fn : AFunc} (h : UsedF call n) (hne : n ≠ g) : UsedF (Vabs.withF call g lf fn) n := fun M R c sv bs p hr hp hl => by rw [withF_other hne]; exact h M R c sv bs p hr hp hl
theorem UsedF.other {call : CallT} {n g : Nat} {l : List V → St → Option (V × St)} (h : UsedF call n) (hne : n ≠ g) : UsedF (withL call g l) n := fun M R c sv bs p hr hp hl => by rw [withL_other hne]; exact h M R c sv bs p hr hp hl
theorem AlignF.code {base : CallT} {g lf : Nat} : AlignF (withF base g lf Align_c) g := fun M R c sv bs p h hp hl => by rw [withF_same]; exact Align_run h hp hl
theorem AlignF.withF {call : CallT} {n g lf : Nat} {fn : AFunc} (h : AlignF call n) (hne : n ≠ g) : AlignF (Vabs.withF call g lf fn) n := fun M R c sv bs p hr hp hl => by rw [withF_other hne]; exact h M R c sv bs p hr hp hl
theorem AlignF.other {call : CallT} {n g : Nat} {l : List V → St → Option (V × St)} (h : AlignF call n) (hne : n ≠ g) : AlignF (withL call g l) n := fun M R c sv bs p hr hp hl => by rw [withL_other hne]; exact h M R c sv bs p hr hp hl
end

end Go.Vabs.Fb
