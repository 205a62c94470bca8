/-
  Numbers of places.
-/
import Derived.Test.YtpjinhofjaapaaaVabsFl
import Derived.Test.YtpjinhofjaapaaaVabsGb
namespace Go.Vabs.Ka
set_option linter.unusedVariables false
set_option linter.unusedSimpArgs false
set_option maxRecDepth 10000
def RClip_c (n_Within : Nat) : AFunc := AFunc.mk 5 (.seq (.reg [AOper.mk (some (.i .h)) (.mv (.c (.int .i64 (.ofNat 0)))) none]) (.seq (.reg [AOper.mk (some (.i (.o .h))) (.call n_Within [.t .h, .c (.int .i64 (.negSucc 2147483646)), .c (.int .i64 (.ofNat 2147483647))]) none, AOper.mk (some (.i .h)) (.mv (.t (.i (.o .h)))) none]) .ret)) [.tmp (.i .h)]
def RMul_c (n_RClip : Nat) (n_Floor : Nat) : AFunc := AFunc.mk 13 (.seq (.reg [AOper.mk (some (.i (.o .h))) (.mv (.c (.int .i64 (.ofNat 0)))) none]) (.seq (.reg [AOper.mk (some (.i (.i .h))) (.call n_RClip [.t .h]) none, AOper.mk (some (.i (.o (.o .h)))) (.call n_RClip [.t (.o .h)]) none, AOper.mk (some (.o (.i (.o .h)))) (.bin .mul (.val .int) (.t (.i (.i .h))) (.t (.i (.o (.o .h))))) none, AOper.mk (some (.i (.i (.o .h)))) (.bin .add (.val .int) (.t (.o (.i (.o .h)))) (.c (.int .i64 (.ofNat 32768)))) none, AOper.mk (some (.o (.o (.i .h)))) (.call n_Floor [.t (.i (.i (.o .h))), .c (.int .i64 (.ofNat 65536))]) none, AOper.mk (some (.i (.o (.i .h)))) (.call n_RClip [.t (.o (.o (.i .h)))]) none, AOper.mk (some (.i (.o .h))) (.mv (.t (.i (.o (.i .h))))) none]) .ret)) [.tmp (.i (.o .h))]
def Within_c : AFunc := AFunc.mk 12 (.seq (.reg [AOper.mk (some (.i (.i .h))) (.mv (.c (.int .i64 (.ofNat 0)))) none]) (.seq (.reg [AOper.mk (some (.i (.i (.o .h)))) (.minmax false (.t (.i .h)) [.t .h]) none, AOper.mk (some (.o (.o (.i .h)))) (.minmax true (.t (.o .h)) [.t (.i (.i (.o .h)))]) none, AOper.mk (some (.i (.i .h))) (.mv (.t (.o (.o (.i .h))))) none]) .ret)) [.tmp (.i (.i .h))]
def Floor_c : AFunc := AFunc.mk 16 (.seq (.reg [AOper.mk (some (.i (.o .h))) (.mv (.c (.int .i64 (.ofNat 0)))) none]) (.seq (.reg [AOper.mk (some (.i (.o (.o .h)))) (.bin .quo (.val .int) (.t .h) (.t (.o .h))) none, AOper.mk (some (.o (.i .h))) (.mv (.t (.i (.o (.o .h))))) none]) (.seq (.seq (.reg [AOper.mk (some (.o (.o (.i .h)))) (.bin .rem (.val .int) (.t .h) (.t (.o .h))) none, AOper.mk (some (.i (.o (.i .h)))) (.bin .lss (.val .int) (.t (.o (.o (.i .h)))) (.c (.int .i64 (.ofNat 0)))) none]) (.cond (.t (.i (.o (.i .h)))) (.reg [AOper.mk (some (.i (.i (.i .h)))) (.bin .sub (.val .int) (.t (.o (.i .h))) (.c (.int .i64 (.ofNat 1)))) none, AOper.mk (some (.o (.i .h))) (.mv (.t (.i (.i (.i .h))))) none]) .skip)) (.seq (.reg [AOper.mk (some (.i (.o .h))) (.mv (.t (.o (.i .h)))) none]) .ret)))) [.tmp (.i (.o .h))]
def RApply_c (n_RMul : Nat) (n_RClip : Nat) : AFunc := AFunc.mk 36 (.seq (.reg [AOper.mk (some (.o (.o .h))) (.box (.t .h)) none, AOper.mk (some (.i (.i .h))) (.mv (.c (.int .i64 (.ofNat 0)))) none, AOper.mk (some (.o (.o (.o .h)))) (.mv (.c (.int .i64 (.ofNat 0)))) none]) (.seq (.dreg [(AOper.mk (some (.i (.o (.o .h)))) (.fieldAddr 0 (.t (.o (.o .h)))) none, []), (AOper.mk (some (.o (.i (.o .h)))) (.load false 1 (.t (.i (.o (.o .h))))) none, [5, 10, 15, 19, 24]), (AOper.mk (some (.i (.i (.o .h)))) (.mv (.t (.o .h))) none, []), (AOper.mk (some (.o (.o (.i .h)))) (.call n_RMul [.t (.o (.i (.o .h))), .t (.i (.i (.o .h)))]) none, [5, 10, 15, 19, 24]), (AOper.mk (some (.i (.o (.i .h)))) (.fieldAddr 2 (.t (.o (.o .h)))) none, []), (AOper.mk (some (.o (.i (.i .h)))) (.load false 1 (.t (.i (.o (.i .h))))) none, [1, 3, 10, 15, 19, 24]), (AOper.mk (some (.i (.i (.i .h)))) (.mv (.t (.i .h))) none, []), (AOper.mk (some (.o (.o (.o (.o .h))))) (.call n_RMul [.t (.o (.i (.i .h))), .t (.i (.i (.i .h)))]) none, [10, 15, 19, 24]), (AOper.mk (some (.i (.o (.o (.o .h))))) (.bin .add (.val .int) (.t (.o (.o (.i .h)))) (.t (.o (.o (.o (.o .h)))))) none, []), (AOper.mk (some (.o (.i (.o (.o .h))))) (.fieldAddr 4 (.t (.o (.o .h)))) none, []), (AOper.mk (some (.i (.i (.o (.o .h))))) (.load false 1 (.t (.o (.i (.o (.o .h)))))) none, [1, 3, 5, 7, 15, 19, 24]), (AOper.mk (some (.o (.o (.i (.o .h))))) (.call n_RClip [.t (.i (.i (.o (.o .h))))]) none, [15, 19, 24]), (AOper.mk (some (.i (.o (.i (.o .h))))) (.bin .add (.val .int) (.t (.i (.o (.o (.o .h))))) (.t (.o (.o (.i (.o .h)))))) none, []), (AOper.mk (some (.o (.i (.i (.o .h))))) (.call n_RClip [.t (.i (.o (.i (.o .h))))]) none, [15, 19, 24]), (AOper.mk (some (.i (.i (.i (.o .h))))) (.fieldAddr 1 (.t (.o (.o .h)))) none, []), (AOper.mk (some (.o (.o (.o (.i .h))))) (.load false 1 (.t (.i (.i (.i (.o .h)))))) none, [1, 3, 5, 7, 10, 11, 13, 19, 24]), (AOper.mk (some (.i (.o (.o (.i .h))))) (.mv (.t (.o .h))) none, []), (AOper.mk (some (.o (.i (.o (.i .h))))) (.call n_RMul [.t (.o (.o (.o (.i .h)))), .t (.i (.o (.o (.i .h))))]) none, [19, 24]), (AOper.mk (some (.i (.i (.o (.i .h))))) (.fieldAddr 3 (.t (.o (.o .h)))) none, []), (AOper.mk (some (.o (.o (.i (.i .h))))) (.load false 1 (.t (.i (.i (.o (.i .h)))))) none, [1, 3, 5, 7, 10, 11, 13, 15, 17, 24]), (AOper.mk (some (.i (.o (.i (.i .h))))) (.mv (.t (.i .h))) none, []), (AOper.mk (some (.o (.i (.i (.i .h))))) (.call n_RMul [.t (.o (.o (.i (.i .h)))), .t (.i (.o (.i (.i .h))))]) none, [24]), (AOper.mk (some (.i (.i (.i (.i .h))))) (.bin .add (.val .int) (.t (.o (.i (.o (.i .h))))) (.t (.o (.i (.i (.i .h)))))) none, []), (AOper.mk (some (.o (.o (.o (.o (.o .h)))))) (.fieldAddr 5 (.t (.o (.o .h)))) none, []), (AOper.mk (some (.i (.o (.o (.o (.o .h)))))) (.load false 1 (.t (.o (.o (.o (.o (.o .h))))))) none, [1, 3, 5, 7, 10, 11, 13, 15, 17, 19, 21]), (AOper.mk (some (.o (.i (.o (.o (.o .h)))))) (.call n_RClip [.t (.i (.o (.o (.o (.o .h)))))]) none, []), (AOper.mk (some (.i (.i (.o (.o (.o .h)))))) (.bin .add (.val .int) (.t (.i (.i (.i (.i .h))))) (.t (.o (.i (.o (.o (.o .h))))))) none, []), (AOper.mk (some (.o (.o (.i (.o (.o .h)))))) (.call n_RClip [.t (.i (.i (.o (.o (.o .h)))))]) none, []), (AOper.mk (some (.i (.i .h))) (.mv (.t (.o (.i (.i (.o .h)))))) none, []), (AOper.mk (some (.o (.o (.o .h)))) (.mv (.t (.o (.o (.i (.o (.o .h))))))) none, [])]) .ret)) [.tmp (.i (.i .h)), .tmp (.o (.o (.o .h)))]
def RWhole_c (n_RClip : Nat) : AFunc := AFunc.mk 7 (.seq (.reg [AOper.mk (some (.i .h)) (.mv (.c (.int .i64 (.ofNat 0)))) none]) (.seq (.reg [AOper.mk (some (.i (.o .h))) (.call n_RClip [.t .h]) none, AOper.mk (some (.o (.i .h))) (.bin .mul (.val .int) (.t (.i (.o .h))) (.c (.int .i64 (.ofNat 65536)))) none, AOper.mk (some (.i (.i .h))) (.call n_RClip [.t (.o (.i .h))]) none, AOper.mk (some (.i .h)) (.mv (.t (.i (.i .h)))) none]) .ret)) [.tmp (.i .h)]
def Apply_c (n_clipped : Nat) (n_Mul : Nat) (n_Clip : Nat) : AFunc := AFunc.mk 36 (.seq (.reg [AOper.mk (some (.o (.o .h))) (.box (.t .h)) none, AOper.mk (some (.i (.i .h))) (.mv (.c (.int .i64 (.ofNat 0)))) none, AOper.mk (some (.o (.o (.o .h)))) (.mv (.c (.int .i64 (.ofNat 0)))) none]) (.seq (.reg [AOper.mk (some (.i (.o (.o .h)))) (.load true 6 (.t (.o (.o .h)))) none, AOper.mk (some (.o (.i (.o .h)))) (.call n_clipped [.t (.i (.o (.o .h)))]) none, AOper.mk none (.store 6 (.t (.o (.o .h))) (.t (.o (.i (.o .h))))) none]) (.seq (.dreg [(AOper.mk (some (.i (.i (.o .h)))) (.fieldAddr 0 (.t (.o (.o .h)))) none, []), (AOper.mk (some (.o (.o (.i .h)))) (.load false 1 (.t (.i (.i (.o .h))))) none, [5, 10, 14, 18, 23]), (AOper.mk (some (.i (.o (.i .h)))) (.mv (.t (.o .h))) none, []), (AOper.mk (some (.o (.i (.i .h)))) (.call n_Mul [.t (.o (.o (.i .h))), .t (.i (.o (.i .h)))]) none, [5, 10, 14, 18, 23]), (AOper.mk (some (.i (.i (.i .h)))) (.fieldAddr 2 (.t (.o (.o .h)))) none, []), (AOper.mk (some (.o (.o (.o (.o .h))))) (.load false 1 (.t (.i (.i (.i .h))))) none, [1, 3, 10, 14, 18, 23]), (AOper.mk (some (.i (.o (.o (.o .h))))) (.mv (.t (.i .h))) none, []), (AOper.mk (some (.o (.i (.o (.o .h))))) (.call n_Mul [.t (.o (.o (.o (.o .h)))), .t (.i (.o (.o (.o .h))))]) none, [10, 14, 18, 23]), (AOper.mk (some (.i (.i (.o (.o .h))))) (.bin .add (.val .int) (.t (.o (.i (.i .h)))) (.t (.o (.i (.o (.o .h)))))) none, []), (AOper.mk (some (.o (.o (.i (.o .h))))) (.fieldAddr 4 (.t (.o (.o .h)))) none, []), (AOper.mk (some (.i (.o (.i (.o .h))))) (.load false 1 (.t (.o (.o (.i (.o .h)))))) none, [1, 3, 5, 7, 14, 18, 23]), (AOper.mk (some (.o (.i (.i (.o .h))))) (.bin .add (.val .int) (.t (.i (.i (.o (.o .h))))) (.t (.i (.o (.i (.o .h)))))) none, []), (AOper.mk (some (.i (.i (.i (.o .h))))) (.call n_Clip [.t (.o (.i (.i (.o .h))))]) none, [14, 18, 23]), (AOper.mk (some (.o (.o (.o (.i .h))))) (.fieldAddr 1 (.t (.o (.o .h)))) none, []), (AOper.mk (some (.i (.o (.o (.i .h))))) (.load false 1 (.t (.o (.o (.o (.i .h)))))) none, [1, 3, 5, 7, 10, 12, 18, 23]), (AOper.mk (some (.o (.i (.o (.i .h))))) (.mv (.t (.o .h))) none, []), (AOper.mk (some (.i (.i (.o (.i .h))))) (.call n_Mul [.t (.i (.o (.o (.i .h)))), .t (.o (.i (.o (.i .h))))]) none, [18, 23]), (AOper.mk (some (.o (.o (.i (.i .h))))) (.fieldAddr 3 (.t (.o (.o .h)))) none, []), (AOper.mk (some (.i (.o (.i (.i .h))))) (.load false 1 (.t (.o (.o (.i (.i .h)))))) none, [1, 3, 5, 7, 10, 12, 14, 16, 23]), (AOper.mk (some (.o (.i (.i (.i .h))))) (.mv (.t (.i .h))) none, []), (AOper.mk (some (.i (.i (.i (.i .h))))) (.call n_Mul [.t (.i (.o (.i (.i .h)))), .t (.o (.i (.i (.i .h))))]) none, [23]), (AOper.mk (some (.o (.o (.o (.o (.o .h)))))) (.bin .add (.val .int) (.t (.i (.i (.o (.i .h))))) (.t (.i (.i (.i (.i .h)))))) none, []), (AOper.mk (some (.i (.o (.o (.o (.o .h)))))) (.fieldAddr 5 (.t (.o (.o .h)))) none, []), (AOper.mk (some (.o (.i (.o (.o (.o .h)))))) (.load false 1 (.t (.i (.o (.o (.o (.o .h))))))) none, [1, 3, 5, 7, 10, 12, 14, 16, 18, 20]), (AOper.mk (some (.i (.i (.o (.o (.o .h)))))) (.bin .add (.val .int) (.t (.o (.o (.o (.o (.o .h)))))) (.t (.o (.i (.o (.o (.o .h))))))) none, []), (AOper.mk (some (.o (.o (.i (.o (.o .h)))))) (.call n_Clip [.t (.i (.i (.o (.o (.o .h)))))]) none, []), (AOper.mk (some (.i (.i .h))) (.mv (.t (.i (.i (.i (.o .h)))))) none, []), (AOper.mk (some (.o (.o (.o .h)))) (.mv (.t (.o (.o (.i (.o (.o .h))))))) none, [])]) .ret))) [.tmp (.i (.i .h)), .tmp (.o (.o (.o .h)))]
def Whole_c (n_Clip : Nat) : AFunc := AFunc.mk 7 (.seq (.reg [AOper.mk (some (.i .h)) (.mv (.c (.int .i64 (.ofNat 0)))) none]) (.seq (.reg [AOper.mk (some (.i (.o .h))) (.call n_Clip [.t .h]) none, AOper.mk (some (.o (.i .h))) (.bin .mul (.val .int) (.t (.i (.o .h))) (.c (.int .i64 (.ofNat 65536)))) none, AOper.mk (some (.i (.i .h))) (.call n_Clip [.t (.o (.i .h))]) none, AOper.mk (some (.i .h)) (.mv (.t (.i (.i .h)))) none]) .ret)) [.tmp (.i .h)]
def clipped_c (n_Clip : Nat) : AFunc := AFunc.mk 22 (.seq (.reg [AOper.mk (some (.o .h)) (.box (.t .h)) none, AOper.mk (some (.i .h)) (.alloc [.int .i64 (.ofNat 0), .int .i64 (.ofNat 0), .int .i64 (.ofNat 0), .int .i64 (.ofNat 0), .int .i64 (.ofNat 0), .int .i64 (.ofNat 0)]) none]) (.seq (.dreg [(AOper.mk (some (.o (.o .h))) (.fieldAddr 0 (.t (.o .h))) none, []), (AOper.mk (some (.i (.o .h))) (.load false 1 (.t (.o (.o .h)))) none, [4, 7, 10, 13, 16]), (AOper.mk (some (.o (.i .h))) (.call n_Clip [.t (.i (.o .h))]) none, [4, 7, 10, 13, 16]), (AOper.mk (some (.i (.i .h))) (.fieldAddr 1 (.t (.o .h))) none, []), (AOper.mk (some (.o (.o (.o .h)))) (.load false 1 (.t (.i (.i .h)))) none, [1, 2, 7, 10, 13, 16]), (AOper.mk (some (.i (.o (.o .h)))) (.call n_Clip [.t (.o (.o (.o .h)))]) none, [7, 10, 13, 16]), (AOper.mk (some (.o (.i (.o .h)))) (.fieldAddr 2 (.t (.o .h))) none, []), (AOper.mk (some (.i (.i (.o .h)))) (.load false 1 (.t (.o (.i (.o .h))))) none, [1, 2, 4, 5, 10, 13, 16]), (AOper.mk (some (.o (.o (.i .h)))) (.call n_Clip [.t (.i (.i (.o .h)))]) none, [10, 13, 16]), (AOper.mk (some (.i (.o (.i .h)))) (.fieldAddr 3 (.t (.o .h))) none, []), (AOper.mk (some (.o (.i (.i .h)))) (.load false 1 (.t (.i (.o (.i .h))))) none, [1, 2, 4, 5, 7, 8, 13, 16]), (AOper.mk (some (.i (.i (.i .h)))) (.call n_Clip [.t (.o (.i (.i .h)))]) none, [13, 16]), (AOper.mk (some (.o (.o (.o (.o .h))))) (.fieldAddr 4 (.t (.o .h))) none, []), (AOper.mk (some (.i (.o (.o (.o .h))))) (.load false 1 (.t (.o (.o (.o (.o .h)))))) none, [1, 2, 4, 5, 7, 8, 10, 11, 16]), (AOper.mk (some (.o (.i (.o (.o .h))))) (.call n_Clip [.t (.i (.o (.o (.o .h))))]) none, [16]), (AOper.mk (some (.i (.i (.o (.o .h))))) (.fieldAddr 5 (.t (.o .h))) none, []), (AOper.mk (some (.o (.o (.i (.o .h))))) (.load false 1 (.t (.i (.i (.o (.o .h)))))) none, [1, 2, 4, 5, 7, 8, 10, 11, 13, 14]), (AOper.mk (some (.i (.o (.i (.o .h))))) (.call n_Clip [.t (.o (.o (.i (.o .h))))]) none, []), (AOper.mk (some (.o (.i (.i (.o .h))))) (.build [.int .i64 (.ofNat 0), .int .i64 (.ofNat 0), .int .i64 (.ofNat 0), .int .i64 (.ofNat 0), .int .i64 (.ofNat 0), .int .i64 (.ofNat 0)] [(0, (1, .t (.o (.i .h)))), (1, (1, .t (.i (.o (.o .h))))), (2, (1, .t (.o (.o (.i .h))))), (3, (1, .t (.i (.i (.i .h))))), (4, (1, .t (.o (.i (.o (.o .h)))))), (5, (1, .t (.i (.o (.i (.o .h))))))]) none, []), (AOper.mk none (.store 6 (.t (.i .h)) (.t (.o (.i (.i (.o .h)))))) none, [])]) .ret)) [.cell (.i .h) true 6]
def Mul_c (n_Clip : Nat) : AFunc := AFunc.mk 13 (.seq (.reg [AOper.mk (some (.i (.o .h))) (.mv (.c (.int .i64 (.ofNat 0)))) none]) (.seq (.reg [AOper.mk (some (.i (.i .h))) (.call n_Clip [.t .h]) none, AOper.mk (some (.i (.o (.o .h)))) (.call n_Clip [.t (.o .h)]) none, AOper.mk (some (.o (.i (.o .h)))) (.bin .mul (.val .int) (.t (.i (.i .h))) (.t (.i (.o (.o .h))))) none, AOper.mk (some (.i (.i (.o .h)))) (.bin .add (.val .int) (.t (.o (.i (.o .h)))) (.c (.int .i64 (.ofNat 32768)))) none, AOper.mk (some (.o (.o (.i .h)))) (.bin .shr (.val .int) (.t (.i (.i (.o .h)))) (.c (.int .u64 (.ofNat 16)))) none, AOper.mk (some (.i (.o (.i .h)))) (.call n_Clip [.t (.o (.o (.i .h)))]) none, AOper.mk (some (.i (.o .h))) (.mv (.t (.i (.o (.i .h))))) none]) .ret)) [.tmp (.i (.o .h))]
def between_c : AFunc := AFunc.mk 18 (.seq (.reg [AOper.mk (some (.i .h)) (.box (.t .h)) none, AOper.mk (some (.o (.o .h))) (.box (.t (.o .h))) none, AOper.mk (some (.i (.o .h))) (.alloc [.int .i64 (.ofNat 0), .int .i64 (.ofNat 0), .bool false]) none]) (.seq (.reg [AOper.mk (some (.o (.i .h))) (.fieldAddr 0 (.t (.i .h))) none, AOper.mk (some (.i (.i .h))) (.load false 1 (.t (.o (.i .h)))) none, AOper.mk (some (.o (.o (.o .h)))) (.fieldAddr 0 (.t (.o (.o .h)))) none, AOper.mk (some (.i (.o (.o .h)))) (.load false 1 (.t (.o (.o (.o .h))))) none, AOper.mk (some (.o (.i (.o .h)))) (.bin .add (.val .int) (.t (.i (.i .h))) (.t (.i (.o (.o .h))))) none, AOper.mk (some (.i (.i (.o .h)))) (.bin .shr (.val .int) (.t (.o (.i (.o .h)))) (.c (.int .u64 (.ofNat 1)))) none, AOper.mk (some (.o (.o (.i .h)))) (.fieldAddr 1 (.t (.i .h))) none, AOper.mk (some (.i (.o (.i .h)))) (.load false 1 (.t (.o (.o (.i .h))))) none, AOper.mk (some (.o (.i (.i .h)))) (.fieldAddr 1 (.t (.o (.o .h)))) none, AOper.mk (some (.i (.i (.i .h)))) (.load false 1 (.t (.o (.i (.i .h))))) none, AOper.mk (some (.o (.o (.o (.o .h))))) (.bin .add (.val .int) (.t (.i (.o (.i .h)))) (.t (.i (.i (.i .h))))) none, AOper.mk (some (.i (.o (.o (.o .h))))) (.bin .shr (.val .int) (.t (.o (.o (.o (.o .h))))) (.c (.int .u64 (.ofNat 1)))) none, AOper.mk (some (.o (.i (.o (.o .h))))) (.build [.int .i64 (.ofNat 0), .int .i64 (.ofNat 0), .bool false] [(0, (1, .t (.i (.i (.o .h))))), (1, (1, .t (.i (.o (.o (.o .h)))))), (2, (1, .c (.bool true)))]) none, AOper.mk none (.store 3 (.t (.i (.o .h))) (.t (.o (.i (.o (.o .h)))))) none]) .ret)) [.cell (.i (.o .h)) true 3]
def affine_c (n_Num : Nat) : AFunc := AFunc.mk 24 (.seq (.reg [AOper.mk (some (.o .h)) (.box (.t .h)) none, AOper.mk (some (.i .h)) (.alloc [.int .i64 (.ofNat 0), .int .i64 (.ofNat 0), .int .i64 (.ofNat 0), .int .i64 (.ofNat 0), .int .i64 (.ofNat 0), .int .i64 (.ofNat 0)]) none]) (.seq (.dreg [(AOper.mk (some (.o (.o .h))) (.idxAddr (.arr 6 false 1) (.t (.o .h)) (.c (.int .i64 (.ofNat 0)))) none, []), (AOper.mk (some (.i (.o .h))) (.load false 1 (.t (.o (.o .h)))) none, [4, 8, 12, 15, 18]), (AOper.mk (some (.o (.i .h))) (.call n_Num [.t (.i (.o .h))]) none, [4, 8, 12, 15, 18]), (AOper.mk (some (.i (.i .h))) (.idxAddr (.arr 6 false 1) (.t (.o .h)) (.c (.int .i64 (.ofNat 1)))) none, []), (AOper.mk (some (.o (.o (.o .h)))) (.load false 1 (.t (.i (.i .h)))) none, [1, 2, 8, 12, 15, 18]), (AOper.mk (some (.i (.o (.o .h)))) (.call n_Num [.t (.o (.o (.o .h)))]) none, [8, 12, 15, 18]), (AOper.mk (some (.o (.i (.o .h)))) (.bin .quo (.val .int) (.t (.i (.o (.o .h)))) (.c (.int .i64 (.ofNat 16)))) none, []), (AOper.mk (some (.i (.i (.o .h)))) (.idxAddr (.arr 6 false 1) (.t (.o .h)) (.c (.int .i64 (.ofNat 2)))) none, []), (AOper.mk (some (.o (.o (.i .h)))) (.load false 1 (.t (.i (.i (.o .h))))) none, [1, 2, 4, 5, 12, 15, 18]), (AOper.mk (some (.i (.o (.i .h)))) (.call n_Num [.t (.o (.o (.i .h)))]) none, [12, 15, 18]), (AOper.mk (some (.o (.i (.i .h)))) (.bin .quo (.val .int) (.t (.i (.o (.i .h)))) (.c (.int .i64 (.ofNat 16)))) none, []), (AOper.mk (some (.i (.i (.i .h)))) (.idxAddr (.arr 6 false 1) (.t (.o .h)) (.c (.int .i64 (.ofNat 3)))) none, []), (AOper.mk (some (.o (.o (.o (.o .h))))) (.load false 1 (.t (.i (.i (.i .h))))) none, [1, 2, 4, 5, 8, 9, 15, 18]), (AOper.mk (some (.i (.o (.o (.o .h))))) (.call n_Num [.t (.o (.o (.o (.o .h))))]) none, [15, 18]), (AOper.mk (some (.o (.i (.o (.o .h))))) (.idxAddr (.arr 6 false 1) (.t (.o .h)) (.c (.int .i64 (.ofNat 4)))) none, []), (AOper.mk (some (.i (.i (.o (.o .h))))) (.load false 1 (.t (.o (.i (.o (.o .h)))))) none, [1, 2, 4, 5, 8, 9, 12, 13, 18]), (AOper.mk (some (.o (.o (.i (.o .h))))) (.call n_Num [.t (.i (.i (.o (.o .h))))]) none, [18]), (AOper.mk (some (.i (.o (.i (.o .h))))) (.idxAddr (.arr 6 false 1) (.t (.o .h)) (.c (.int .i64 (.ofNat 5)))) none, []), (AOper.mk (some (.o (.i (.i (.o .h))))) (.load false 1 (.t (.i (.o (.i (.o .h)))))) none, [1, 2, 4, 5, 8, 9, 12, 13, 15, 16]), (AOper.mk (some (.i (.i (.i (.o .h))))) (.call n_Num [.t (.o (.i (.i (.o .h))))]) none, []), (AOper.mk (some (.o (.o (.o (.i .h))))) (.build [.int .i64 (.ofNat 0), .int .i64 (.ofNat 0), .int .i64 (.ofNat 0), .int .i64 (.ofNat 0), .int .i64 (.ofNat 0), .int .i64 (.ofNat 0)] [(0, (1, .t (.o (.i .h)))), (1, (1, .t (.o (.i (.o .h))))), (2, (1, .t (.o (.i (.i .h))))), (3, (1, .t (.i (.o (.o (.o .h)))))), (4, (1, .t (.o (.o (.i (.o .h)))))), (5, (1, .t (.i (.i (.i (.o .h))))))]) none, []), (AOper.mk none (.store 6 (.t (.i .h)) (.t (.o (.o (.o (.i .h)))))) none, [])]) .ret)) [.cell (.i .h) true 6]
attribute [local simp] wp_skip wp_ret wp_exit wp_reg wp_seq wp_cond wp_block thenQ_normal thenQ_ret thenQ_exit blockQ_normal blockQ_ret blockQ_exit wpCond_true wpCond_false wpOps_nil wpVal_some wpGuard_true wpGuard_false wpOps_guard wpOps_cons
  put_at put_no ev_c ev_slot posEq_h posEq_o posEq_i posEq_ho posEq_hi posEq_oh posEq_ih posEq_oi posEq_io sel_true sel_false
  okv_some step_mv step_call step_pick pickV_bool step_bin bin_add bin_sub bin_mul bin_eql bin_neq bin_lss bin_leq bin_gtr bin_geq bin_eqb bin_neb bin_eqs bin_nes step_un un_not un_neg step_len len_slice len_str len_const step_extract extractV nth step_convInt conv_int step_convStr step_slice step_idxAddr natOf_nat step_load step_index step_field step_fieldAddr step_build step_minmax
  step_alloc step_bslice bsliceV_some newV_some step_store step_append boolIs_b boolIs_t finQ_ret finQ_normal ressE_nil ressE_cons resE_tmp consO_some initE_nil initE_cons pos_0 pos_1 pos_2 pos_3 pos_4 pos_5 pos_6 pos_7 pos_8 plain_bool plain_int plain_str plain_ptr plain_slice plain_map plain_agg plain_func plain_nilFunc V.undef oneOf_one oneOf_two ble_self bin_agg eqV_parts eqV_int eqV_bool eqV_str eqParts_nil eqParts_cons eqC_true eqC_false eqO_some eqR_eql eqR_neq
open Go.Vabs.Ph Go.Vabs.Fl
attribute [local simp] wp_dreg wpDs_nil wpDs_cons wantedE_none wantedE_some wpDGuard_true wpDGuard_lim wpDGuard_false wpDLim_true wpDVal_free wpDVal_lim back_limited next_limited limF_dir limF_false ahead blt_dec foot_convStr foot_load foot_store foot_alloc foot_box foot_bslice foot_append foot_call okAll_nil okAll_cons pastsOf nthP
  wp_rounds wpRounds_succ roundQ_normal roundQ_ret roundQ_exit cells_int cells_bool cells_str cells_agg cells_slice few_alloc lawOut_nil lawOut_one step_box newV alloc_dir backv back_back back_few next_back few_next resE_cell load_fewC store_fewC first_fewC grow_none grow_some cellsAt_zero cellsAt_succ ownAt_zero ownAt_succ loadC_some storeC_some firstC_some growC_some load_d convStr_d convStr_d0 store_d append_d2 append_d1 first_d2 first_d1 cut takeN nth splice over idOf okPair_dd okPair_dc okPair_cd okPair_cc anyIn_nil anyIn_cons meets_nil meets_nil' meets_cons mem_nil mem_cons nbeq_dec blt_dec ble_dec fill repN firstNo lenOf idxAddrV fieldAddrV fieldV part natOf_zero natOf_one
/- NUMBERS -/
def WithinF (call : CallT) (g : Nat) : Prop := ∀ n a b st, call g [.int .i64 n, .int .i64 a, .int .i64 b] st = some (.int .i64 (max a (min b n)), st)
theorem WithinF.code {base : CallT} {g lf : Nat} : WithinF (withF base g lf Within_c) g := fun n a b st => by
  rw [withF_same]
  refine enter_eq ?_
  simp [mm_min, mm_max]
theorem ClipF.codeR {base : CallT} {g m lf : Nat} (h : WithinF base m) : ClipF (withF base g lf (RClip_c m)) g := fun n st => by
  rw [withF_same]
  refine enter_eq ?_
  have e : (Int.negSucc 2147483646) = -2147483647 := rfl
  have e2 : clip n = max (-2147483647) (min 2147483647 n) := by unfold clip; omega
  simp [h _ _ _ _, e2, e]
theorem clip_clip (n : Int) : clip (clip n) = clip n := clip_id (clip_le n).1 (clip_le n).2
def wholeI (n : Int) : Int := clip (clip n * 65536)
def WholeF (call : CallT) (g : Nat) : Prop := ∀ n st, call g [.int .i64 n] st = some (.int .i64 (wholeI n), st)
theorem WholeF.code {base : CallT} {g m lf : Nat} (h : ClipF base m) : WholeF (withF base g lf (Whole_c m)) g := fun n st => by
  rw [withF_same]
  refine enter_eq ?_
  have hc := clip_le n
  obtain ⟨c, hce⟩ : ∃ c, c = clip n := ⟨_, rfl⟩
  rw [← hce] at hc
  simp (disch := omega) [h _ _, wholeI, ← hce, wrap_i]
theorem WholeF.codeR {base : CallT} {g m lf : Nat} (h : ClipF base m) : WholeF (withF base g lf (RWhole_c m)) g := fun n st => by
  rw [withF_same]
  refine enter_eq ?_
  have hc := clip_le n
  obtain ⟨c, hce⟩ : ∃ c, c = clip n := ⟨_, rfl⟩
  rw [← hce] at hc
  simp (disch := omega) [h _ _, wholeI, ← hce, wrap_i]
theorem WholeF.withF {call : CallT} {n g lf : Nat} {fn : AFunc} (h : WholeF call n) (hne : n ≠ g) : WholeF (Vabs.withF call g lf fn) n := fun a st => by rw [withF_other hne]; exact h a st
theorem WholeF.other {call : CallT} {n g : Nat} {l : List V → St → Option (V × St)} (h : WholeF call n) (hne : n ≠ g) : WholeF (withL call g l) n := fun a st => by rw [withL_other hne]; exact h a st
def mulI (a b : Int) : Int := clip ((clip a * clip b + 32768) / 65536)
theorem prod_le {a b : Int} (ha : -2147483647 ≤ a ∧ a ≤ 2147483647) (hb : -2147483647 ≤ b ∧ b ≤ 2147483647) : -4611686014132420609 ≤ a * b ∧ a * b ≤ 4611686014132420609 := by
  have h1 : (a * b).natAbs ≤ 2147483647 * 2147483647 := by
    rw [Int.natAbs_mul]
    exact Nat.mul_le_mul (by omega) (by omega)
  omega
def MulF (call : CallT) (g : Nat) : Prop := ∀ a b st, call g [.int .i64 a, .int .i64 b] st = some (.int .i64 (mulI a b), st)
theorem shr_16 {eq : EqKind} {x : Int} : binV .shr eq (.int .i64 x) (.int .u64 16) = some (.int .i64 (x / 65536)) := by
  have e : binV .shr eq (.int .i64 x) (.int .u64 16) = some (.int .i64 (Int.fdiv x 65536)) := bin_shr (n := 16)
  rw [e, Int.fdiv_eq_ediv_of_nonneg _ (by omega)]
theorem shr_1 {eq : EqKind} {x : Int} : binV .shr eq (.int .i64 x) (.int .u64 1) = some (.int .i64 (x / 2)) := by
  have e : binV .shr eq (.int .i64 x) (.int .u64 1) = some (.int .i64 (Int.fdiv x 2)) := bin_shr (n := 1)
  rw [e, Int.fdiv_eq_ediv_of_nonneg _ (by omega)]
theorem MulF.code {base : CallT} {g m lf : Nat} (h : ClipF base m) : MulF (withF base g lf (Mul_c m)) g := fun a b st => by
  rw [withF_same]
  refine enter_eq ?_
  have hp := prod_le (clip_le a) (clip_le b)
  obtain ⟨p, hpe⟩ : ∃ p, p = clip a * clip b := ⟨_, rfl⟩
  rw [← hpe] at hp
  have hmul : ∀ eq, binV .mul eq (.int .i64 (clip a)) (.int .i64 (clip b)) = some (.int .i64 p) := fun eq => by rw [bin_mul, hpe, wrap_i (by rw [← hpe]; omega) (by rw [← hpe]; omega)]
  simp (disch := omega) [h _ _, mulI, ← hpe, wrap_i, shr_16, hmul]
def FloorF (call : CallT) (g : Nat) : Prop := ∀ a st, -4611686014132420609 ≤ a → a ≤ 4611686014132453377 → call g [.int .i64 a, .int .i64 65536] st = some (.int .i64 (a / 65536), st)
theorem FloorF.code {base : CallT} {g lf : Nat} : FloorF (withF base g lf Floor_c) g := fun a st h1 h2 => by
  rw [withF_same]
  refine enter_eq ?_
  have hd : Int.tdiv a 65536 = if 0 ≤ a then a / 65536 else -((-a) / 65536) := tdiv_lit
  have hm : Int.tmod a 65536 = a - 65536 * Int.tdiv a 65536 := by have := Int.mul_tdiv_add_tmod a 65536; omega
  obtain ⟨q, hq⟩ : ∃ q, q = Int.tdiv a 65536 := ⟨_, rfl⟩
  obtain ⟨r, hr⟩ : ∃ r, r = Int.tmod a 65536 := ⟨_, rfl⟩
  rw [← hq] at hd
  rw [← hq, ← hr] at hm
  by_cases hlt : r < 0
  · have e : a / 65536 = q - 1 := by split at hd <;> omega
    simp (disch := omega) [bin_rem, bin_quo, ← hq, ← hr, wrap_i, dlt_t, hlt, e]
  · have e : a / 65536 = q := by split at hd <;> omega
    simp (disch := omega) [bin_rem, bin_quo, ← hq, ← hr, wrap_i, dlt_f, hlt, e]
theorem MulF.codeR {base : CallT} {g m nf lf : Nat} (h : ClipF base m) (hf : FloorF base nf) : MulF (withF base g lf (RMul_c m nf)) g := fun a b st => by
  rw [withF_same]
  refine enter_eq ?_
  have hp := prod_le (clip_le a) (clip_le b)
  obtain ⟨p, hpe⟩ : ∃ p, p = clip a * clip b := ⟨_, rfl⟩
  rw [← hpe] at hp
  have hmul : ∀ eq, binV .mul eq (.int .i64 (clip a)) (.int .i64 (clip b)) = some (.int .i64 p) := fun eq => by rw [bin_mul, hpe, wrap_i (by rw [← hpe]; omega) (by rw [← hpe]; omega)]
  have hf' := hf (p + 32768) st (by omega) (by omega)
  simp (disch := omega) [h _ _, mulI, ← hpe, wrap_i, hf', hmul]
theorem MulF.withF {call : CallT} {n g lf : Nat} {fn : AFunc} (h : MulF call n) (hne : n ≠ g) : MulF (Vabs.withF call g lf fn) n := fun a b st => by rw [withF_other hne]; exact h a b st
theorem MulF.other {call : CallT} {n g : Nat} {l : List V → St → Option (V × St)} (h : MulF call n) (hne : n ≠ g) : MulF (withL call g l) n := fun a b st => by rw [withL_other hne]; exact h a b st

/- AFFINES -/
structure Aff where
  (xx yx xy yy dx dy : Int)
def Aff.cells (m : Aff) : List V := [.int .i64 m.xx, .int .i64 m.yx, .int .i64 m.xy, .int .i64 m.yy, .int .i64 m.dx, .int .i64 m.dy]
def Aff.V (m : Aff) : Vabs.V := .agg m.cells
def clipA (m : Aff) : Aff := ⟨clip m.xx, clip m.yx, clip m.xy, clip m.yy, clip m.dx, clip m.dy⟩
def appX (m : Aff) (x y : Int) : Int := clip (mulI m.xx x + mulI m.xy y + clip m.dx)
def appY (m : Aff) (x y : Int) : Int := clip (mulI m.yx x + mulI m.yy y + clip m.dy)
noncomputable def clippedS : List V → Option Ans
  | [.agg [.int .i64 a, .int .i64 b, .int .i64 c, .int .i64 d, .int .i64 e, .int .i64 f]] => some ([], fun _ => (clipA ⟨a, b, c, d, e, f⟩).V)
  | _ => none
def ClippedF (call : CallT) (g : Nat) : Prop := ∀ m st, call g [Aff.V m] st = some ((clipA m).V, st)
theorem clipped_sound {P : Program} {call : CallT} (hmix : P.follows .mixedOrders = true) (h : Sound P call) {g m : Nat} (hcl : ClipF call m) (hc : compF P g = some (clipped_c m)) : Sound P (withL call g (lawOf (flatRd clippedS))) :=
  h.flat hmix 1 hc fun args os f h1 => by
    unfold clippedS at h1
    split at h1
    · rename_i a b c d e f
      cases h1
      have e : ∃ s1, enterF call 1 [.agg [.int .i64 a, .int .i64 b, .int .i64 c, .int .i64 d, .int .i64 e, .int .i64 f]] (few []) (clipped_c m) = some ((clipA ⟨a, b, c, d, e, f⟩).V, s1) := by
        refine enter_ex ?_
        simp [hcl _ _, clipA, Aff.V, Aff.cells]
      obtain ⟨s1, e⟩ := e
      exact ⟨_, s1, [], e, fun n => Left.flatA rfl⟩
    · cases h1
theorem clipped_fact {call : CallT} {g : Nat} : ClippedF (withL call g (lawOf (flatRd clippedS))) g := fun m st => (flat_call rfl).trans rfl
theorem ClippedF.other {call : CallT} {n g : Nat} {l : List V → St → Option (V × St)} (h : ClippedF call n) (hne : n ≠ g) : ClippedF (withL call g l) n := fun m st => by rw [withL_other hne]; exact h m st
theorem ClippedF.withF {call : CallT} {n g lf : Nat} {fn : AFunc} (h : ClippedF call n) (hne : n ≠ g) : ClippedF (Vabs.withF call g lf fn) n := fun m st => by rw [withF_other hne]; exact h m st
noncomputable def applyS : List V → Option Ans
  | [.agg [.int .i64 a, .int .i64 b, .int .i64 c, .int .i64 d, .int .i64 e, .int .i64 f], .int .i64 x, .int .i64 y] => some ([], fun _ => .tuple [.int .i64 (appX ⟨a, b, c, d, e, f⟩ x y), .int .i64 (appY ⟨a, b, c, d, e, f⟩ x y)])
  | _ => none
def ApplyF (call : CallT) (g : Nat) : Prop := ∀ (m : Aff) x y st, call g [m.V, .int .i64 x, .int .i64 y] st = some (.tuple [.int .i64 (appX m x y), .int .i64 (appY m x y)], st)
theorem mul_le (a b : Int) : -2147483647 ≤ mulI a b ∧ mulI a b ≤ 2147483647 := clip_le _
theorem mul_clip (a b : Int) : mulI (clip a) b = mulI a b := by unfold mulI; rw [clip_clip]
theorem apply_sound {P : Program} {call : CallT} (hmix : P.follows .mixedOrders = true) (h : Sound P call) {g nc nm ncl : Nat} (h1 : ClippedF call nc) (h2 : MulF call nm) (h3 : ClipF call ncl) (hc : compF P g = some (Apply_c nc nm ncl)) : Sound P (withL call g (lawOf (flatRd applyS))) :=
  h.flat hmix 1 hc fun args os f hx => by
    unfold applyS at hx
    split at hx
    · rename_i a b c d e f x y
      cases hx
      have k1 := h1 ⟨a, b, c, d, e, f⟩
      simp only [Aff.V, Aff.cells, clipA] at k1
      have hm := fun p q st => h2 p q st
      have q1 := mul_le a x
      have q2 := mul_le c y
      have q3 := mul_le b x
      have q4 := mul_le d y
      have q5 := clip_le e
      have q6 := clip_le f
      have e1 := mul_clip a x
      have e2 := mul_clip c y
      have e3 := mul_clip b x
      have e4 := mul_clip d y
      have e : ∃ s1, enterF call 1 [.agg [.int .i64 a, .int .i64 b, .int .i64 c, .int .i64 d, .int .i64 e, .int .i64 f], .int .i64 x, .int .i64 y] (few []) (Apply_c nc nm ncl) = some (.tuple [.int .i64 (appX ⟨a, b, c, d, e, f⟩ x y), .int .i64 (appY ⟨a, b, c, d, e, f⟩ x y)], s1) := by
        refine enter_ex ?_
        unfold appX appY
        dsimp only
        obtain ⟨m1, n1⟩ : ∃ m1, m1 = mulI a x := ⟨_, rfl⟩
        obtain ⟨m2, n2⟩ : ∃ m2, m2 = mulI c y := ⟨_, rfl⟩
        obtain ⟨m3, n3⟩ : ∃ m3, m3 = mulI b x := ⟨_, rfl⟩
        obtain ⟨m4, n4⟩ : ∃ m4, m4 = mulI d y := ⟨_, rfl⟩
        rw [← n1] at q1 e1
        rw [← n2] at q2 e2
        rw [← n3] at q3 e3
        rw [← n4] at q4 e4
        simp (disch := omega) [k1, hm, h3 _ _, e1, e2, e3, e4, ← n1, ← n2, ← n3, ← n4, wrap_i]
      obtain ⟨s1, e⟩ := e
      exact ⟨_, s1, [], e, fun n => Left.flat rfl⟩
    · cases hx
theorem apply_soundR {P : Program} {call : CallT} (hmix : P.follows .mixedOrders = true) (h : Sound P call) {g nm ncl : Nat} (h2 : MulF call nm) (h3 : ClipF call ncl) (hc : compF P g = some (RApply_c nm ncl)) : Sound P (withL call g (lawOf (flatRd applyS))) :=
  h.flat hmix 1 hc fun args os f hx => by
    unfold applyS at hx
    split at hx
    · rename_i a b c d e f x y
      cases hx
      have q1 := mul_le a x
      have q2 := mul_le c y
      have q3 := mul_le b x
      have q4 := mul_le d y
      have q5 := clip_le e
      have q6 := clip_le f
      have e : ∃ s1, enterF call 1 [.agg [.int .i64 a, .int .i64 b, .int .i64 c, .int .i64 d, .int .i64 e, .int .i64 f], .int .i64 x, .int .i64 y] (few []) (RApply_c nm ncl) = some (.tuple [.int .i64 (appX ⟨a, b, c, d, e, f⟩ x y), .int .i64 (appY ⟨a, b, c, d, e, f⟩ x y)], s1) := by
        refine enter_ex ?_
        unfold appX appY
        dsimp only
        simp (disch := omega) [h2 _ _ _, h3 _ _, wrap_i]
      obtain ⟨s1, e⟩ := e
      exact ⟨_, s1, [], e, fun n => Left.flat rfl⟩
    · cases hx
theorem apply_fact {call : CallT} {g : Nat} : ApplyF (withL call g (lawOf (flatRd applyS))) g := fun m x y st => (flat_call rfl).trans rfl
theorem ApplyF.other {call : CallT} {n g : Nat} {l : List V → St → Option (V × St)} (h : ApplyF call n) (hne : n ≠ g) : ApplyF (withL call g l) n := fun m x y st => by rw [withL_other hne]; exact h m x y st
theorem ApplyF.withF {call : CallT} {n g lf : Nat} {fn : AFunc} (h : ApplyF call n) (hne : n ≠ g) : ApplyF (Vabs.withF call g lf fn) n := fun m x y st => by rw [withF_other hne]; exact h m x y st
/-- A place: where, and whether it is on the curve. -/
structure Pl where
  (x y : Int)
  (on : Bool)
def Pl.cells (p : Pl) : List V := [.int .i64 p.x, .int .i64 p.y, .bool p.on]
def Pl.V (p : Pl) : Vabs.V := .agg p.cells
theorem Pl.len (p : Pl) : p.cells.length = 3 := rfl
def midP (p q : Pl) : Pl := ⟨(p.x + q.x) / 2, (p.y + q.y) / 2, true⟩
def inP (p : Pl) : Prop := inB p.x ∧ inB p.y
instance (p : Pl) : Decidable (inP p) := inferInstanceAs (Decidable (_ ∧ _))
noncomputable def betweenS : List V → Option Ans
  | [.agg [.int .i64 a, .int .i64 b, .bool c], .agg [.int .i64 d, .int .i64 e, .bool f]] => if inP ⟨a, b, c⟩ ∧ inP ⟨d, e, f⟩ then some ([], fun _ => (midP ⟨a, b, c⟩ ⟨d, e, f⟩).V) else none
  | _ => none
def BetweenF (call : CallT) (g : Nat) : Prop := ∀ (p q : Pl) st, inP p → inP q → call g [p.V, q.V] st = some ((midP p q).V, st)
theorem between_sound {P : Program} {call : CallT} (hmix : P.follows .mixedOrders = true) (h : Sound P call) {g : Nat} (hc : compF P g = some between_c) : Sound P (withL call g (lawOf (flatRd betweenS))) :=
  h.flat hmix 1 hc fun args os f hx => by
    unfold betweenS at hx
    split at hx
    · rename_i a b c d e f
      split at hx
      · rename_i hin
        cases hx
        obtain ⟨⟨⟨i1, i2⟩, i3, i4⟩, ⟨i5, i6⟩, i7, i8⟩ := hin
        dsimp only at i1 i2 i3 i4 i5 i6 i7 i8
        have e : ∃ s1, enterF call 1 [.agg [.int .i64 a, .int .i64 b, .bool c], .agg [.int .i64 d, .int .i64 e, .bool f]] (few []) between_c = some ((midP ⟨a, b, c⟩ ⟨d, e, f⟩).V, s1) := by
          refine enter_ex ?_
          simp (disch := omega) [midP, Pl.V, Pl.cells, shr_1, wrap_i]
        obtain ⟨s1, e⟩ := e
        exact ⟨_, s1, [], e, fun n => Left.flatA rfl⟩
      · cases hx
    · cases hx
theorem between_fact {call : CallT} {g : Nat} : BetweenF (withL call g (lawOf (flatRd betweenS))) g := fun p q st h1 h2 => (flat_call rfl).trans (by
  show lawOut (if inP p ∧ inP q then some ([], fun _ => (midP p q).V) else none) st = _
  rw [if_pos ⟨h1, h2⟩]
  rfl)
theorem BetweenF.other {call : CallT} {n g : Nat} {l : List V → St → Option (V × St)} (h : BetweenF call n) (hne : n ≠ g) : BetweenF (withL call g l) n := fun p q st h1 h2 => by rw [withL_other hne]; exact h p q st h1 h2
theorem BetweenF.withF {call : CallT} {n g lf : Nat} {fn : AFunc} (h : BetweenF call n) (hne : n ≠ g) : BetweenF (Vabs.withF call g lf fn) n := fun p q st h1 h2 => by rw [withF_other hne]; exact h p q st h1 h2
theorem natOf_2 : natOf (.int .i64 2) = some 2 := rfl
theorem natOf_3 : natOf (.int .i64 3) = some 3 := rfl
theorem natOf_4 : natOf (.int .i64 4) = some 4 := rfl
theorem natOf_5 : natOf (.int .i64 5) = some 5 := rfl
/-- The law's affine, of raw numbers. -/
def rawA (m : Aff) : Aff := ⟨numI m.xx, Int.tdiv (numI m.yx) 16, Int.tdiv (numI m.xy) 16, numI m.yy, numI m.dx, numI m.dy⟩
def in64 (n : Int) : Prop := -9223372036854775808 ≤ n ∧ n < 9223372036854775808
instance (n : Int) : Decidable (in64 n) := inferInstanceAs (Decidable (_ ∧ _))
noncomputable def rawS : List V → Option Ans
  | [.agg [.int .i64 a, .int .i64 b, .int .i64 c, .int .i64 d, .int .i64 e, .int .i64 f]] => if in64 a ∧ in64 b ∧ in64 c ∧ in64 d ∧ in64 e ∧ in64 f then some ([], fun _ => (rawA ⟨a, b, c, d, e, f⟩).V) else none
  | _ => none
def RawF (call : CallT) (g : Nat) : Prop := ∀ (m : Aff) st, in64 m.xx ∧ in64 m.yx ∧ in64 m.xy ∧ in64 m.yy ∧ in64 m.dx ∧ in64 m.dy → call g [m.V] st = some ((rawA m).V, st)
theorem raw_sound {P : Program} {call : CallT} (hmix : P.follows .mixedOrders = true) (h : Sound P call) {g n : Nat} (hn : NumHF call n) (hc : compF P g = some (affine_c n)) : Sound P (withL call g (lawOf (flatRd rawS))) :=
  h.flat hmix 1 hc fun args os f hx => by
    unfold rawS at hx
    split at hx
    · rename_i a b c d e f
      split at hx
      · rename_i hin
        cases hx
        obtain ⟨i1, i2, i3, i4, i5, i6⟩ := hin
        have e : ∃ s1, enterF call 1 [.agg [.int .i64 a, .int .i64 b, .int .i64 c, .int .i64 d, .int .i64 e, .int .i64 f]] (few []) (affine_c n) = some ((rawA ⟨a, b, c, d, e, f⟩).V, s1) := by
          refine enter_ex ?_
          have k1 := fun st => hn a st i1
          have k2 := fun st => hn b st i2
          have k3 := fun st => hn c st i3
          have k4 := fun st => hn d st i4
          have k5 := fun st => hn e st i5
          have k6 := fun st => hn f st i6
          have j2 := numI_in i2
          have j3 := numI_in i3
          have q2 : Int.tdiv (numI b) 16 = if 0 ≤ numI b then numI b / 16 else -((-(numI b)) / 16) := tdiv_lit
          have q3 : Int.tdiv (numI c) 16 = if 0 ≤ numI c then numI c / 16 else -((-(numI c)) / 16) := tdiv_lit
          simp (disch := omega) [k1 _, k2 _, k3 _, k4 _, k5 _, k6 _, rawA, Aff.V, Aff.cells, bin_quo, wrap_i, natOf_2, natOf_3, natOf_4, natOf_5]
        obtain ⟨s1, e⟩ := e
        exact ⟨_, s1, [], e, fun n => Left.flatA rfl⟩
      · cases hx
    · cases hx
theorem raw_fact {call : CallT} {g : Nat} : RawF (withL call g (lawOf (flatRd rawS))) g := fun m st h => (flat_call rfl).trans (by
  show lawOut (if _ then some ([], fun _ => (rawA m).V) else none) st = _
  rw [if_pos h]
  rfl)
theorem RawF.other {call : CallT} {n g : Nat} {l : List V → St → Option (V × St)} (h : RawF call n) (hne : n ≠ g) : RawF (withL call g l) n := fun m st h1 => by rw [withL_other hne]; exact h m st h1
theorem RawF.withF {call : CallT} {n g lf : Nat} {fn : AFunc} (h : RawF call n) (hne : n ≠ g) : RawF (Vabs.withF call g lf fn) n := fun m st h1 => by rw [withF_other hne]; exact h m st h1

end Go.Vabs.Ka
