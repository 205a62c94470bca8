/- The sentence CpalBack: its run in the abstract machine ends in true, whatever the arguments are; and the model's run is the abstract machine's. No condition. -/
import Derived.Test.YtbppdahfdjkecaaRows
import Derived.Test.YtbppdahfdjkecaaVabsZj
import Derived.Test.YtbppdahfdjkecaaVabsDg
import Derived.WalkKit
import Derived.ProofKit
import Derived.OpenShut
import Derived.ShutString
import Derived.ChangeOld
import Derived.Below
import Derived.SizedLaws
import Derived.Carry
namespace Go.Proofs.Ytbppdahfdjkecaa.cpalBack
open Go.ChangeShapes Go.WideShapes Go.ChangeAt Go.RowKit
open Go.ChangeMaps (open_string shut_string)
open Go.Vabs (param_slice opens_row opens_int opens_bool opens_struct opensF_one opensF_cons)
set_option linter.unusedVariables false
theorem own : ownKnob Try.prog.godebug = none := by kernel_rfl
theorem laidOut : laidOutB Try.prog = true := by kernel_rfl
section
open Go.Vabs Go.Vabs.Ph Go.Vabs.Pk Go.Vabs.L2 Go.Vabs.Sa Go.Vabs.Sb Go.Vabs.Sc Go.Vabs.Se Go.Vabs.Sg Go.Vabs.Sh Go.Vabs.Sn Go.Vabs.Sp Go.Vabs.Sr Go.Vabs.St Go.Vabs.Su Go.Vabs.Na Go.Vabs.Nb Go.Vabs.Ra Go.Vabs.Rb Go.Vabs.Rc Go.Vabs.Rd Go.Vabs.Re Go.Vabs.Ca Go.Vabs.Cb Go.Vabs.Vc Go.Vabs.Da Go.Vabs.Db Go.Vabs.Dc Go.Vabs.Dd Go.Vabs.De Go.Vabs.Df Go.Vabs.Dg
theorem mix : Try.prog.follows .mixedOrders = true := by kernel_rfl
theorem knownRuns : Go.Vabs.isTrue (Go.Vabs.callF (Go.Vabs.table Try.prog 49) 100000 60 7 [] Go.Vabs.st0) = true := by kernel_rfl
noncomputable section
abbrev E0 : CallT := fun _ _ _ => none
abbrev E1 : CallT := withF E0 45 1 there_c
abbrev E2 : CallT := withF E1 43 1 Clone_c
abbrev E3 : CallT := withF E2 15 1 Pick_c
abbrev E4 : CallT := withF E3 47 100 Index_c
abbrev E5 : CallT := withF E4 42 1 (Contains_c 47)
abbrev E6 : CallT := withF E5 35 65 RTable_c
abbrev E7 : CallT := withL E6 44 (lawOf (bytesRd Pk.numS))
abbrev E8 : CallT := withL E7 28 (lawOf (bytesRd (uS 2)))
abbrev E9 : CallT := withL E8 29 (lawOf (bytesRd (uS 4)))
abbrev E10 : CallT := withL E9 30 (lawOf (bytesRdA partS))
abbrev E11 : CallT := withF E10 41 1 (versioned_c 42)
abbrev E12 : CallT := withL E11 25 (lawOf (sightRdN openSpec))
abbrev E13 : CallT := withL E12 27 (lawOf (autoRd E12 1 (Table_c 43)))
abbrev E14 : CallT := withL E13 33 (lawOf (flatRd bigS))
abbrev E15 : CallT := withF E14 40 100 (RLay_c 33)
abbrev E16 : CallT := withF E15 24 1 (Font_c 40)
abbrev E17 : CallT := withL E16 36 (lawOf (bytesRd Pk.numS))
abbrev E18 : CallT := withL E17 37 (lawOf (bytesRdA rpartS))
abbrev E19 : CallT := withL E18 26 (lawOf (sightRdN ropenSpec))
abbrev E20 : CallT := withF E19 9 1 (openT_c 24 25 26)
abbrev E21 : CallT := withL E20 32 (lawOf (autoRd E20 1 (Color_c 15)))
abbrev E22 : CallT := withF E21 12 20 (palettes_c 15 32)
abbrev E23 : CallT := withL E22 21 (lawOf (autoRd E22 1 Right_c))
abbrev E24 : CallT := withL E23 20 (lawOf (autoRd E23 1 (notRight_c 21)))
abbrev E25 : CallT := withL E24 38 (lawOf (autoRd E24 1010 IdxPx_c))
abbrev E26 : CallT := withL E25 19 (lawOf (autoRd E25 1 (ContPx_c 38)))
abbrev E27 : CallT := withF E26 22 1 u16_c
abbrev E28 : CallT := withF E27 39 1 Grow_c
abbrev E29 : CallT := withL E28 23 (lawOf (sightRdN concatSpec))
abbrev E30 : CallT := withL E29 6 (lawOf (autoRd E29 100 (LayP_c 19 22 23 20)))
abbrev E31 : CallT := withF E30 46 1 (Chunk_c 48)
abbrev E32 : CallT := withL E31 31 (lawOf (autoRd E31 300 (pixels_c 48 46)))
abbrev E33 : CallT := withF E32 10 100 (ReadP_c 27 28 29 30 31)
abbrev E34 : CallT := withL E33 17 (lawOf (autoRd E33 1 CountP_c))
abbrev E35 : CallT := withL E34 11 (lawOf (autoRd E34 1 ColorP_c))
abbrev E36 : CallT := withL E35 7 (lawOf (closedRd (.bool true)))
end
theorem sE0 : Sound Try.prog E0 := Sound.nothing
theorem sE1 : Sound Try.prog E1 := sE0.withF mix 1 (by kernel_rfl)
theorem there_E1 : ThereF E1 45 := ThereF.code
theorem sE2 : Sound Try.prog E2 := sE1.withF mix 1 (by kernel_rfl)
theorem clone_E2 : CloneF E2 43 := CloneF.code
theorem cloneN_E2 : CloneN E2 43 := CloneN.code
theorem sE3 : Sound Try.prog E3 := sE2.withF mix 1 (by kernel_rfl)
theorem pick_E3 : PickF E3 15 := PickF.code
theorem sE4 : Sound Try.prog E4 := sE3.withF mix 100 (by kernel_rfl)
theorem index_E4 : IndexF 100 E4 47 := IndexF.code
theorem sE5 : Sound Try.prog E5 := sE4.withF mix 1 (by kernel_rfl)
theorem cont_E5 : ContF 100 E5 42 := ContF.code index_E4
theorem sE6 : Sound Try.prog E6 := sE5.withF mix 65 (by kernel_rfl)
theorem rtable_E6 : RTableF E6 35 := RTableF.code (by omega)
theorem there_E6 : ThereF E6 45 := (carryF (P := fun f => ThereF (fun _ => f) 45) (carryF (P := fun f => ThereF (fun _ => f) 45) (carryF (P := fun f => ThereF (fun _ => f) 45) (carryF (P := fun f => ThereF (fun _ => f) 45) (carryF (P := fun f => ThereF (fun _ => f) 45) there_E1 (by decide)) (by decide)) (by decide)) (by decide)) (by decide))
theorem sE7 : Sound Try.prog E7 := number_sound mix sE6 (by kernel_rfl) there_E6
theorem num_E7 : NumF E7 44 := number_fact
theorem sE8 : Sound Try.prog E8 := u_sound mix sE7 (n := 44) num_E7 (.inr (.inl ⟨rfl, rfl⟩)) (by kernel_rfl)
theorem u16_E8 : UF 2 E8 28 := uS_fact
theorem num_E8 : NumF E8 44 := (carryL (P := fun f => NumF (fun _ => f) 44) num_E7 (by decide))
theorem sE9 : Sound Try.prog E9 := u_sound mix sE8 (n := 44) num_E8 (.inr (.inr (.inr ⟨rfl, rfl⟩))) (by kernel_rfl)
theorem u32_E9 : UF 4 E9 29 := uS_fact
theorem there_E9 : ThereF E9 45 := (carryL (P := fun f => ThereF (fun _ => f) 45) (carryL (P := fun f => ThereF (fun _ => f) 45) (carryL (P := fun f => ThereF (fun _ => f) 45) there_E6 (by decide)) (by decide)) (by decide))
theorem clone_E9 : CloneF E9 43 := (carryL (P := fun f => CloneF (fun _ => f) 43) (carryL (P := fun f => CloneF (fun _ => f) 43) (carryL (P := fun f => CloneF (fun _ => f) 43) (carryF (P := fun f => CloneF (fun _ => f) 43) (carryF (P := fun f => CloneF (fun _ => f) 43) (carryF (P := fun f => CloneF (fun _ => f) 43) (carryF (P := fun f => CloneF (fun _ => f) 43) clone_E2 (by decide)) (by decide)) (by decide)) (by decide)) (by decide)) (by decide)) (by decide))
theorem sE10 : Sound Try.prog E10 := Part_sound mix sE9 there_E9 clone_E9 (by kernel_rfl)
theorem part_E10 : PartF E10 30 := Part_fact
theorem cont_E10 : ContF 100 E10 42 := (carryL (P := fun f => ContF 100 (fun _ => f) 42) (carryL (P := fun f => ContF 100 (fun _ => f) 42) (carryL (P := fun f => ContF 100 (fun _ => f) 42) (carryL (P := fun f => ContF 100 (fun _ => f) 42) (carryF (P := fun f => ContF 100 (fun _ => f) 42) cont_E5 (by decide)) (by decide)) (by decide)) (by decide)) (by decide))
theorem sE11 : Sound Try.prog E11 := sE10.withF mix 1 (by kernel_rfl)
theorem vers_E11 : VersF E11 41 := VersF_code (by omega) cont_E10
theorem u16_E11 : UF 2 E11 28 := (carryF (P := fun f => UF 2 (fun _ => f) 28) (carryL (P := fun f => UF 2 (fun _ => f) 28) (carryL (P := fun f => UF 2 (fun _ => f) 28) u16_E8 (by decide)) (by decide)) (by decide))
theorem u32_E11 : UF 4 E11 29 := (carryF (P := fun f => UF 4 (fun _ => f) 29) (carryL (P := fun f => UF 4 (fun _ => f) 29) u32_E9 (by decide)) (by decide))
theorem part_E11 : PartF E11 30 := (carryF (P := fun f => PartF (fun _ => f) 30) part_E10 (by decide))
theorem cont_E11 : ContF 100 E11 42 := (carryF (P := fun f => ContF 100 (fun _ => f) 42) cont_E10 (by decide))
theorem sE12 : Sound Try.prog E12 := Open_sound mix sE11 (lf' := 100) (by omega) u16_E11 u32_E11 part_E11 vers_E11 cont_E11 (by kernel_rfl)
theorem open_E12 : OpenF E12 25 := open_fact
theorem clone_E12 : CloneF E12 43 := (carryL (P := fun f => CloneF (fun _ => f) 43) (carryF (P := fun f => CloneF (fun _ => f) 43) (carryL (P := fun f => CloneF (fun _ => f) 43) clone_E9 (by decide)) (by decide)) (by decide))
theorem cloneN_E12 : CloneN E12 43 := (carryL (P := fun f => CloneN (fun _ => f) 43) (carryF (P := fun f => CloneN (fun _ => f) 43) (carryL (P := fun f => CloneN (fun _ => f) 43) (carryL (P := fun f => CloneN (fun _ => f) 43) (carryL (P := fun f => CloneN (fun _ => f) 43) (carryL (P := fun f => CloneN (fun _ => f) 43) (carryF (P := fun f => CloneN (fun _ => f) 43) (carryF (P := fun f => CloneN (fun _ => f) 43) (carryF (P := fun f => CloneN (fun _ => f) 43) (carryF (P := fun f => CloneN (fun _ => f) 43) cloneN_E2 (by decide)) (by decide)) (by decide)) (by decide)) (by decide)) (by decide)) (by decide)) (by decide)) (by decide)) (by decide))
theorem sE13 : Sound Try.prog E13 := Sound.auto mix sE12 1 (by kernel_rfl)
theorem tab_E13 : TabLF E13 27 := TabLF.auto clone_E12 cloneN_E12
theorem sE14 : Sound Try.prog E14 := Big_sound mix sE13 (by kernel_rfl)
theorem big_E14 : BigF E14 33 := big_fact
theorem sE15 : Sound Try.prog E15 := sE14.withF mix 100 (by kernel_rfl)
theorem rlay_E15 : RLayF E15 40 := RLayF.code (by omega) big_E14
theorem sE16 : Sound Try.prog E16 := sE15.withF mix 1 (by kernel_rfl)
theorem font_E16 : FontF E16 24 := FontF.code rlay_E15
theorem sE17 : Sound Try.prog E17 := Num_sound mix sE16 (by kernel_rfl)
theorem rnum_E17 : NumF E17 36 := number_fact
theorem sE18 : Sound Try.prog E18 := RPart_sound mix sE17 (by kernel_rfl)
theorem rpart_E18 : RPartF E18 37 := RPart_fact
theorem rnum_E18 : NumF E18 36 := (carryL (P := fun f => NumF (fun _ => f) 36) rnum_E17 (by decide))
theorem rtable_E18 : RTableF E18 35 := (carryL (P := fun f => RTableF (fun _ => f) 35) (carryL (P := fun f => RTableF (fun _ => f) 35) (carryF (P := fun f => RTableF (fun _ => f) 35) (carryF (P := fun f => RTableF (fun _ => f) 35) (carryL (P := fun f => RTableF (fun _ => f) 35) (carryL (P := fun f => RTableF (fun _ => f) 35) (carryL (P := fun f => RTableF (fun _ => f) 35) (carryF (P := fun f => RTableF (fun _ => f) 35) (carryL (P := fun f => RTableF (fun _ => f) 35) (carryL (P := fun f => RTableF (fun _ => f) 35) (carryL (P := fun f => RTableF (fun _ => f) 35) (carryL (P := fun f => RTableF (fun _ => f) 35) rtable_E6 (by decide)) (by decide)) (by decide)) (by decide)) (by decide)) (by decide)) (by decide)) (by decide)) (by decide)) (by decide)) (by decide)) (by decide))
theorem sE19 : Sound Try.prog E19 := ROpen_sound mix sE18 rnum_E18 rtable_E18 rpart_E18 (by kernel_rfl)
theorem ropen_E19 : ROpenF E19 26 := ropen_fact
theorem font_E19 : FontF E19 24 := (carryL (P := fun f => FontF (fun _ => f) 24) (carryL (P := fun f => FontF (fun _ => f) 24) (carryL (P := fun f => FontF (fun _ => f) 24) font_E16 (by decide)) (by decide)) (by decide))
theorem open_E19 : OpenF E19 25 := (carryL (P := fun f => OpenF (fun _ => f) 25) (carryL (P := fun f => OpenF (fun _ => f) 25) (carryL (P := fun f => OpenF (fun _ => f) 25) (carryF (P := fun f => OpenF (fun _ => f) 25) (carryF (P := fun f => OpenF (fun _ => f) 25) (carryL (P := fun f => OpenF (fun _ => f) 25) (carryL (P := fun f => OpenF (fun _ => f) 25) open_E12 (by decide)) (by decide)) (by decide)) (by decide)) (by decide)) (by decide)) (by decide))
theorem sE20 : Sound Try.prog E20 := sE19.withF mix 1 (by kernel_rfl)
theorem one_E20 : OneTF E20 9 := OneTF.code font_E19 open_E19 ropen_E19
theorem pick_E20 : PickF E20 15 := (carryF (P := fun f => PickF (fun _ => f) 15) (carryL (P := fun f => PickF (fun _ => f) 15) (carryL (P := fun f => PickF (fun _ => f) 15) (carryL (P := fun f => PickF (fun _ => f) 15) (carryF (P := fun f => PickF (fun _ => f) 15) (carryF (P := fun f => PickF (fun _ => f) 15) (carryL (P := fun f => PickF (fun _ => f) 15) (carryL (P := fun f => PickF (fun _ => f) 15) (carryL (P := fun f => PickF (fun _ => f) 15) (carryF (P := fun f => PickF (fun _ => f) 15) (carryL (P := fun f => PickF (fun _ => f) 15) (carryL (P := fun f => PickF (fun _ => f) 15) (carryL (P := fun f => PickF (fun _ => f) 15) (carryL (P := fun f => PickF (fun _ => f) 15) (carryF (P := fun f => PickF (fun _ => f) 15) (carryF (P := fun f => PickF (fun _ => f) 15) (carryF (P := fun f => PickF (fun _ => f) 15) pick_E3 (by decide)) (by decide)) (by decide)) (by decide)) (by decide)) (by decide)) (by decide)) (by decide)) (by decide)) (by decide)) (by decide)) (by decide)) (by decide)) (by decide)) (by decide)) (by decide)) (by decide))
theorem sE21 : Sound Try.prog E21 := Sound.auto mix sE20 1 (by kernel_rfl)
theorem hcolor_E21 : ColorL (E21 32) := ColorL.auto pick_E20
theorem pick_E21 : PickF E21 15 := (carryL (P := fun f => PickF (fun _ => f) 15) pick_E20 (by decide))
theorem sE22 : Sound Try.prog E22 := sE21.withF mix 20 (by kernel_rfl)
theorem pal_E22 : PalF E22 12 := PalF.code (by omega) pick_E21 hcolor_E21
theorem sE23 : Sound Try.prog E23 := Sound.auto mix sE22 1 (by kernel_rfl)
theorem right_E23 : RightL (E23 21) := RightL.auto
theorem sE24 : Sound Try.prog E24 := Sound.auto mix sE23 1 (by kernel_rfl)
theorem notright_E24 : NotRightL (E24 20) := NotRightL.auto right_E23
theorem sE25 : Sound Try.prog E25 := Sound.auto mix sE24 1010 (by kernel_rfl)
theorem idxpx_E25 : IdxPxL 20 (E25 38) := IdxPxL.auto (by omega) notright_E24
theorem sE26 : Sound Try.prog E26 := Sound.auto mix sE25 1 (by kernel_rfl)
theorem contpx_E26 : ContPxL 20 (E26 19) := ContPxL.auto idxpx_E25
theorem sE27 : Sound Try.prog E27 := sE26.withF mix 1 (by kernel_rfl)
theorem u2_E27 : U2F (E27 22) := U2F.code
theorem sE28 : Sound Try.prog E28 := sE27.withF mix 1 (by kernel_rfl)
theorem grow_E28 : GrowF E28 39 := GrowF.code
theorem sE29 : Sound Try.prog E29 := Concat_sound mix sE28 grow_E28 (by kernel_rfl)
theorem concat_E29 : ConcatF E29 23 := concat_fact
theorem contpx_E29 : ContPxL 20 (E29 19) := (carryL (P := fun f => ContPxL 20 f) (carryF (P := fun f => ContPxL 20 f) (carryF (P := fun f => ContPxL 20 f) contpx_E26 (by decide)) (by decide)) (by decide))
theorem u2_E29 : U2F (E29 22) := (carryL (P := fun f => U2F f) (carryF (P := fun f => U2F f) u2_E27 (by decide)) (by decide))
theorem sE30 : Sound Try.prog E30 := Sound.auto mix sE29 100 (by kernel_rfl)
theorem lay_E30 : LayPF (E30 6) := LayPF.auto (by omega) contpx_E29 u2_E29 concat_E29
theorem sE31 : Sound Try.prog E31 := sE30.withF mix 1 (by kernel_rfl)
theorem chunk_E31 : ChunkF 48 E31 46 := ChunkF.code
theorem sE32 : Sound Try.prog E32 := Sound.auto mix sE31 300 (by kernel_rfl)
theorem pix_E32 : PixL (E32 31) := PixL.auto (by omega) chunk_E31
theorem pixr_E32 : InReg (E32 31) := auto_inReg
theorem tab_E32 : TabLF E32 27 := (carryL (P := fun f => TabLF (fun _ => f) 27) (carryF (P := fun f => TabLF (fun _ => f) 27) (carryL (P := fun f => TabLF (fun _ => f) 27) (carryL (P := fun f => TabLF (fun _ => f) 27) (carryF (P := fun f => TabLF (fun _ => f) 27) (carryF (P := fun f => TabLF (fun _ => f) 27) (carryL (P := fun f => TabLF (fun _ => f) 27) (carryL (P := fun f => TabLF (fun _ => f) 27) (carryL (P := fun f => TabLF (fun _ => f) 27) (carryL (P := fun f => TabLF (fun _ => f) 27) (carryF (P := fun f => TabLF (fun _ => f) 27) (carryL (P := fun f => TabLF (fun _ => f) 27) (carryF (P := fun f => TabLF (fun _ => f) 27) (carryL (P := fun f => TabLF (fun _ => f) 27) (carryL (P := fun f => TabLF (fun _ => f) 27) (carryL (P := fun f => TabLF (fun _ => f) 27) (carryF (P := fun f => TabLF (fun _ => f) 27) (carryF (P := fun f => TabLF (fun _ => f) 27) (carryL (P := fun f => TabLF (fun _ => f) 27) tab_E13 (by decide)) (by decide)) (by decide)) (by decide)) (by decide)) (by decide)) (by decide)) (by decide)) (by decide)) (by decide)) (by decide)) (by decide)) (by decide)) (by decide)) (by decide)) (by decide)) (by decide)) (by decide)) (by decide))
theorem u16_E32 : UF 2 E32 28 := (carryL (P := fun f => UF 2 (fun _ => f) 28) (carryF (P := fun f => UF 2 (fun _ => f) 28) (carryL (P := fun f => UF 2 (fun _ => f) 28) (carryL (P := fun f => UF 2 (fun _ => f) 28) (carryF (P := fun f => UF 2 (fun _ => f) 28) (carryF (P := fun f => UF 2 (fun _ => f) 28) (carryL (P := fun f => UF 2 (fun _ => f) 28) (carryL (P := fun f => UF 2 (fun _ => f) 28) (carryL (P := fun f => UF 2 (fun _ => f) 28) (carryL (P := fun f => UF 2 (fun _ => f) 28) (carryF (P := fun f => UF 2 (fun _ => f) 28) (carryL (P := fun f => UF 2 (fun _ => f) 28) (carryF (P := fun f => UF 2 (fun _ => f) 28) (carryL (P := fun f => UF 2 (fun _ => f) 28) (carryL (P := fun f => UF 2 (fun _ => f) 28) (carryL (P := fun f => UF 2 (fun _ => f) 28) (carryF (P := fun f => UF 2 (fun _ => f) 28) (carryF (P := fun f => UF 2 (fun _ => f) 28) (carryL (P := fun f => UF 2 (fun _ => f) 28) (carryL (P := fun f => UF 2 (fun _ => f) 28) (carryL (P := fun f => UF 2 (fun _ => f) 28) u16_E11 (by decide)) (by decide)) (by decide)) (by decide)) (by decide)) (by decide)) (by decide)) (by decide)) (by decide)) (by decide)) (by decide)) (by decide)) (by decide)) (by decide)) (by decide)) (by decide)) (by decide)) (by decide)) (by decide)) (by decide)) (by decide))
theorem u32_E32 : UF 4 E32 29 := (carryL (P := fun f => UF 4 (fun _ => f) 29) (carryF (P := fun f => UF 4 (fun _ => f) 29) (carryL (P := fun f => UF 4 (fun _ => f) 29) (carryL (P := fun f => UF 4 (fun _ => f) 29) (carryF (P := fun f => UF 4 (fun _ => f) 29) (carryF (P := fun f => UF 4 (fun _ => f) 29) (carryL (P := fun f => UF 4 (fun _ => f) 29) (carryL (P := fun f => UF 4 (fun _ => f) 29) (carryL (P := fun f => UF 4 (fun _ => f) 29) (carryL (P := fun f => UF 4 (fun _ => f) 29) (carryF (P := fun f => UF 4 (fun _ => f) 29) (carryL (P := fun f => UF 4 (fun _ => f) 29) (carryF (P := fun f => UF 4 (fun _ => f) 29) (carryL (P := fun f => UF 4 (fun _ => f) 29) (carryL (P := fun f => UF 4 (fun _ => f) 29) (carryL (P := fun f => UF 4 (fun _ => f) 29) (carryF (P := fun f => UF 4 (fun _ => f) 29) (carryF (P := fun f => UF 4 (fun _ => f) 29) (carryL (P := fun f => UF 4 (fun _ => f) 29) (carryL (P := fun f => UF 4 (fun _ => f) 29) (carryL (P := fun f => UF 4 (fun _ => f) 29) u32_E11 (by decide)) (by decide)) (by decide)) (by decide)) (by decide)) (by decide)) (by decide)) (by decide)) (by decide)) (by decide)) (by decide)) (by decide)) (by decide)) (by decide)) (by decide)) (by decide)) (by decide)) (by decide)) (by decide)) (by decide)) (by decide))
theorem part_E32 : PartF E32 30 := (carryL (P := fun f => PartF (fun _ => f) 30) (carryF (P := fun f => PartF (fun _ => f) 30) (carryL (P := fun f => PartF (fun _ => f) 30) (carryL (P := fun f => PartF (fun _ => f) 30) (carryF (P := fun f => PartF (fun _ => f) 30) (carryF (P := fun f => PartF (fun _ => f) 30) (carryL (P := fun f => PartF (fun _ => f) 30) (carryL (P := fun f => PartF (fun _ => f) 30) (carryL (P := fun f => PartF (fun _ => f) 30) (carryL (P := fun f => PartF (fun _ => f) 30) (carryF (P := fun f => PartF (fun _ => f) 30) (carryL (P := fun f => PartF (fun _ => f) 30) (carryF (P := fun f => PartF (fun _ => f) 30) (carryL (P := fun f => PartF (fun _ => f) 30) (carryL (P := fun f => PartF (fun _ => f) 30) (carryL (P := fun f => PartF (fun _ => f) 30) (carryF (P := fun f => PartF (fun _ => f) 30) (carryF (P := fun f => PartF (fun _ => f) 30) (carryL (P := fun f => PartF (fun _ => f) 30) (carryL (P := fun f => PartF (fun _ => f) 30) (carryL (P := fun f => PartF (fun _ => f) 30) part_E11 (by decide)) (by decide)) (by decide)) (by decide)) (by decide)) (by decide)) (by decide)) (by decide)) (by decide)) (by decide)) (by decide)) (by decide)) (by decide)) (by decide)) (by decide)) (by decide)) (by decide)) (by decide)) (by decide)) (by decide)) (by decide))
theorem sE33 : Sound Try.prog E33 := sE32.withF mix 100 (by kernel_rfl)
theorem read_E33 : De.ReadF E33 10 := De.ReadF.code (by omega) tab_E32 u16_E32 u32_E32 part_E32 pix_E32 pixr_E32
theorem sE34 : Sound Try.prog E34 := Sound.auto mix sE33 1 (by kernel_rfl)
theorem count_E34 : CountL (E34 17) := CountL.auto
theorem sE35 : Sound Try.prog E35 := Sound.auto mix sE34 1 (by kernel_rfl)
theorem color_E35 : ColorAtL (E35 11) := ColorAtL.auto
theorem sE36 : Sound Try.prog E36 := by
  obtain ⟨s, h⟩ := isTrue_some knownRuns
  exact sE35.closed (Sound.table mix 49 100000 60) h rfl
theorem pal_E36 : PalF E36 12 := (carryL (P := fun f => PalF (fun _ => f) 12) (carryL (P := fun f => PalF (fun _ => f) 12) (carryL (P := fun f => PalF (fun _ => f) 12) (carryF (P := fun f => PalF (fun _ => f) 12) (carryL (P := fun f => PalF (fun _ => f) 12) (carryF (P := fun f => PalF (fun _ => f) 12) (carryL (P := fun f => PalF (fun _ => f) 12) (carryL (P := fun f => PalF (fun _ => f) 12) (carryF (P := fun f => PalF (fun _ => f) 12) (carryF (P := fun f => PalF (fun _ => f) 12) (carryL (P := fun f => PalF (fun _ => f) 12) (carryL (P := fun f => PalF (fun _ => f) 12) (carryL (P := fun f => PalF (fun _ => f) 12) (carryL (P := fun f => PalF (fun _ => f) 12) pal_E22 (by decide)) (by decide)) (by decide)) (by decide)) (by decide)) (by decide)) (by decide)) (by decide)) (by decide)) (by decide)) (by decide)) (by decide)) (by decide)) (by decide))
theorem lay_E36 : LayPF (E36 6) := (carryL (P := fun f => LayPF f) (carryL (P := fun f => LayPF f) (carryL (P := fun f => LayPF f) (carryF (P := fun f => LayPF f) (carryL (P := fun f => LayPF f) (carryF (P := fun f => LayPF f) lay_E30 (by decide)) (by decide)) (by decide)) (by decide)) (by decide)) (by decide))
theorem one_E36 : OneTF E36 9 := (carryL (P := fun f => OneTF (fun _ => f) 9) (carryL (P := fun f => OneTF (fun _ => f) 9) (carryL (P := fun f => OneTF (fun _ => f) 9) (carryF (P := fun f => OneTF (fun _ => f) 9) (carryL (P := fun f => OneTF (fun _ => f) 9) (carryF (P := fun f => OneTF (fun _ => f) 9) (carryL (P := fun f => OneTF (fun _ => f) 9) (carryL (P := fun f => OneTF (fun _ => f) 9) (carryF (P := fun f => OneTF (fun _ => f) 9) (carryF (P := fun f => OneTF (fun _ => f) 9) (carryL (P := fun f => OneTF (fun _ => f) 9) (carryL (P := fun f => OneTF (fun _ => f) 9) (carryL (P := fun f => OneTF (fun _ => f) 9) (carryL (P := fun f => OneTF (fun _ => f) 9) (carryF (P := fun f => OneTF (fun _ => f) 9) (carryL (P := fun f => OneTF (fun _ => f) 9) one_E20 (by decide)) (by decide)) (by decide)) (by decide)) (by decide)) (by decide)) (by decide)) (by decide)) (by decide)) (by decide)) (by decide)) (by decide)) (by decide)) (by decide)) (by decide)) (by decide))
theorem read_E36 : De.ReadF E36 10 := (carryL (P := fun f => De.ReadF (fun _ => f) 10) (carryL (P := fun f => De.ReadF (fun _ => f) 10) (carryL (P := fun f => De.ReadF (fun _ => f) 10) read_E33 (by decide)) (by decide)) (by decide))
theorem count_E36 : CountL (E36 17) := (carryL (P := fun f => CountL f) (carryL (P := fun f => CountL f) count_E34 (by decide)) (by decide))
theorem color_E36 : ColorAtL (E36 11) := (carryL (P := fun f => ColorAtL f) color_E35 (by decide))
theorem top : Sound Try.prog (withF E36 5 100 (Back_c 12 6 7 9 10 17 11)) := sE36.withF mix 100 (by kernel_rfl)
theorem calls (W : World) {os : List (Option AObj)} {ι : Map} (hm : Mem W os ι) {a0 : Int} (w0 : (Lit.int .i64 a0).wf = true) {a1 : Int} (w1 : (Lit.int .i64 a1).wf = true) {u2 : V} {x2 : Value} {z2 : List Int} (r2 : R ι u2 x2) (h2 : ShowsRow (cInt .i64) os u2 z2) (k2 : ∀ x ∈ z2, (cInt .i64).ok x) (y2 : z2.length * 8 ≤ 140737488351232) (a3 : Bool) :
    Calls Try.prog 5 #[.int .i64 a0, .int .i64 a1, x2, .bool a3] W fun e W' => e = .returned (.bool true) ∧ Go.RowKit.Below W.heap.size W W' := by
  refine top.law_mem hm (args := [.int .i64 a0, .int .i64 a1, u2, .bool a3]) (args' := [.int .i64 a0, .int .i64 a1, x2, .bool a3]) ⟨rfl, rfl, r2, rfl, trivial⟩ ?_
  rw [withF_same]
  exact Back_run (by omega) pal_E36 lay_E36 (fun st => closed_call) one_E36 read_E36 count_E36 color_E36 (ints_param h2 k2)
end

set_option maxRecDepth 100000 in
theorem lifted (os : Os) (started : os.Started) (H : Type) (enc : TypeId × Value → H) :
    ReturnsInHanded {} Try.checked os 5 .any (Rows.cpalBackSpec.pre6 enc Try.prog Try.f5 Rows.cpalBackRow.domain false) (Rows.cpalBackSpec.post enc Try.prog Try.f5 false true false false) := by
  refine returnsInHanded_of_change_sized (C := Try.checked) own started (by kernel_rfl) Try.func5
    (ChangeSpec.witness6 (enc := enc) (C := Try.checked) false ⟨#[], #[.int .i64 0, .int .i64 0, .slice none 0 0, .bool false], []⟩ 8 (by kernel_rfl) (by kernel_rfl) (by kernel_rfl) (by kernel_rfl)) ?_
  intro W base args ds gs before hval0 hW hcnd hsz0 _
  have hsz : (DataW.weightsEach Try.prog (Try.f5.params.toList ++ Rows.cpalBackSpec.plain.varTypes Try.prog) (ds ++ gs)).all (· ≤ reachBytes) = true := hsz0
  have hval : ∀ (j : Nat) t v, Try.f5.params[j]? = some t → args[j]? = some v → Value.okWide Try.prog W .any base t v := hval0
  have hW' := hW
  obtain ⟨p, q, hA0, hV, rfl, hfz, hnd⟩ := hW
  have hA : DataW.TrodAll enc Try.prog W 0 (fun _ => true) true Try.f5.params.toList args.toList ds p := hA0
  rw [Try.params5] at hA hval hsz
  obtain ⟨v0, vs0, d0, ds0, p0, q0, hargs, rfl, rfl, h0, r0⟩ := trodAll_cons hA
  obtain ⟨v1, vs1, d1, ds1, p1, q1, rfl, rfl, rfl, h1, r1⟩ := trodAll_cons r0
  obtain ⟨v2, vs2, d2, ds2, p2, q2, rfl, rfl, rfl, h2, r2⟩ := trodAll_cons r1
  obtain ⟨v3, vs3, d3, ds3, p3, q3, rfl, rfl, rfl, h3, r3⟩ := trodAll_cons r2
  obtain ⟨rfl, rfl, rfl⟩ := trodAll_nil r3
  obtain rfl : args = #[v0, v1, v2, v3] := by cases args; simp_all
  obtain ⟨rfl, rfl⟩ := trodVars_none hV
  obtain ⟨a0, rfl, rfl, rfl, w0⟩ := open_int Try.underlying3 (hval 0 3 v0 rfl rfl) h0
  obtain ⟨a1, rfl, rfl, rfl, w1⟩ := open_int Try.underlying3 (hval 1 3 v1 rfl rfl) h1
  have k2 := h2
  have lt2 : ∀ x ∈ p2, x.block < W.heap.size := by obtain ⟨m, hm⟩ := k2; exact DataW.trod_lt m _ _ _ hm
  obtain ⟨os2, ι2, u2, z2, m2, sub2, more2, rr2, ss2, kk2, yy2⟩ := param_slice (j := 2) (t := 41) (opens_row (B := 8) Try.underlying41 (by kernel_rfl) (by kernel_rfl) (by decide) (opens_int Try.underlying3)) Try.underlying41 (hval 2 41 v2 rfl rfl) h2 hsz rfl rfl (Go.Vabs.Mem.nil W)
  obtain ⟨a3, rfl, rfl, rfl⟩ := open_bool Try.underlying4 (hval 3 4 v3 rfl rfl) h3
  clear hA0 hval0 hsz0 hsz
  refine (calls W m2 w0 w1 rr2 ss2 kk2 yy2 a3).mono fun e W' ⟨he, bel⟩ => ?_
  subst he
  exact ⟨_, rfl, _, _, _, [], _, [], hW', trodAll_mk1 (shut_bool Try.underlying4 _), (trodAll_cons_mk (shut_int Try.underlying3 w0) (trodAll_cons_mk (shut_int Try.underlying3 w1) (trodAll_cons_mk (Below.trod laidOut (by kernel_rfl) (of_decide_eq_true (by kernel_rfl)) k2 bel lt2) (trodAll_cons_mk (shut_bool Try.underlying4 _) trodAll_mk0)))), rfl, bel.frame _, fun h => by cases h⟩
theorem over : Rows.cpalBackRow.holds Try.pinned (OpenSpec.ofChange Rows.cpalBackSpec) :=
  OpenClaim.holds_of_wide 5 Try.f5 rfl rfl rfl rfl rfl rfl rfl ⟨rfl, rfl, rfl, rfl, rfl⟩ rfl rfl rfl rfl rfl (by kernel_rfl) Try.func5 (by kernel_rfl)
    (of_decide_eq_true (by kernel_rfl)) (by unfold Func.isWrapper; first | (rw [if_pos (by decide +kernel)]; kernel_rfl) | (rw [if_neg (by decide +kernel)]; exact ⟨rfl, rfl⟩))
    (fun os started H enc _ => lifted os started H enc)
theorem proved : Rows.CpalBackSaid := over
#print axioms proved
end Go.Proofs.Ytbppdahfdjkecaa.cpalBack
namespace Go.Proofs.Ytbppdahfdjkecaa
/-- The row, under a short name, for the claim. -/
theorem cpalBack_holds : Rows.CpalBackSaid := cpalBack.proved
end Go.Proofs.Ytbppdahfdjkecaa
