/- The sentence CpalTells: its run in the abstract machine ends in true, whatever the arguments are; and the model's run is the abstract machine's. No condition. -/
import Derived.Test.YtbppdahfdjkecaaRows
import Derived.Test.YtbppdahfdjkecaaVabsZj
import Derived.Test.YtbppdahfdjkecaaVabsDi
import Derived.WalkKit
import Derived.ProofKit
import Derived.OpenShut
import Derived.ShutString
import Derived.ChangeOld
import Derived.Below
import Derived.SizedLaws
import Derived.Carry
namespace Go.Proofs.Ytbppdahfdjkecaa.cpalTells
open Go.ChangeShapes Go.WideShapes Go.ChangeAt Go.RowKit
open Go.ChangeMaps (open_string shut_string)
open Go.Vabs (param_slice opens_row opens_int opens_bool opens_struct opensF_one opensF_cons)
set_option linter.unusedVariables false
theorem own : ownKnob Try.prog.godebug = none := by kernel_rfl
theorem laidOut : laidOutB Try.prog = true := by kernel_rfl
section
open Go.Vabs Go.Vabs.Ph Go.Vabs.Pk Go.Vabs.L2 Go.Vabs.Sa Go.Vabs.Sb Go.Vabs.Sc Go.Vabs.Se Go.Vabs.Sg Go.Vabs.Sh Go.Vabs.Sn Go.Vabs.Sp Go.Vabs.Sr Go.Vabs.St Go.Vabs.Su Go.Vabs.Na Go.Vabs.Nb Go.Vabs.Ra Go.Vabs.Rb Go.Vabs.Rc Go.Vabs.Rd Go.Vabs.Re Go.Vabs.Ca Go.Vabs.Cb Go.Vabs.Vc Go.Vabs.Da Go.Vabs.Db Go.Vabs.Dc Go.Vabs.Dd Go.Vabs.De Go.Vabs.Df Go.Vabs.Dg Go.Vabs.Dh Go.Vabs.Di Go.Vabs.Dj Go.Vabs.Dk
theorem mix : Try.prog.follows .mixedOrders = true := by kernel_rfl
theorem knownRuns : Go.Vabs.isTrue (Go.Vabs.callF (Go.Vabs.table Try.prog 49) 100000 60 7 [] Go.Vabs.st0) = true := by kernel_rfl
noncomputable section
abbrev E0 : CallT := fun _ _ _ => none
abbrev E1 : CallT := withF E0 45 1 there_c
abbrev E2 : CallT := withF E1 43 1 Clone_c
abbrev E3 : CallT := withF E2 15 1 Pick_c
abbrev E4 : CallT := withF E3 47 100 Index_c
abbrev E5 : CallT := withF E4 42 1 (Contains_c 47)
abbrev E6 : CallT := withF E5 35 65 RTable_c
abbrev E7 : CallT := withF E6 14 1 Few_c
abbrev E8 : CallT := withL E7 44 (lawOf (bytesRd Pk.numS))
abbrev E9 : CallT := withL E8 28 (lawOf (bytesRd (uS 2)))
abbrev E10 : CallT := withL E9 29 (lawOf (bytesRd (uS 4)))
abbrev E11 : CallT := withL E10 30 (lawOf (bytesRdA partS))
abbrev E12 : CallT := withF E11 41 1 (versioned_c 42)
abbrev E13 : CallT := withL E12 25 (lawOf (sightRdN openSpec))
abbrev E14 : CallT := withL E13 27 (lawOf (autoRd E13 1 (Table_c 43)))
abbrev E15 : CallT := withL E14 33 (lawOf (flatRd bigS))
abbrev E16 : CallT := withF E15 40 100 (RLay_c 33)
abbrev E17 : CallT := withF E16 24 1 (Font_c 40)
abbrev E18 : CallT := withL E17 36 (lawOf (bytesRd Pk.numS))
abbrev E19 : CallT := withL E18 37 (lawOf (bytesRdA rpartS))
abbrev E20 : CallT := withL E19 26 (lawOf (sightRdN ropenSpec))
abbrev E21 : CallT := withF E20 9 1 (openT_c 24 25 26)
abbrev E22 : CallT := withL E21 32 (lawOf (autoRd E21 1 (Color_c 15)))
abbrev E23 : CallT := withF E22 12 20 (palettes_c 15 32)
abbrev E24 : CallT := withL E23 21 (lawOf (autoRd E23 1 Right_c))
abbrev E25 : CallT := withL E24 20 (lawOf (autoRd E24 1 (notRight_c 21)))
abbrev E26 : CallT := withL E25 38 (lawOf (autoRd E25 1010 IdxPx_c))
abbrev E27 : CallT := withL E26 19 (lawOf (autoRd E26 1 (ContPx_c 38)))
abbrev E28 : CallT := withF E27 22 1 u16_c
abbrev E29 : CallT := withF E28 39 1 Grow_c
abbrev E30 : CallT := withL E29 23 (lawOf (sightRdN concatSpec))
abbrev E31 : CallT := withL E30 6 (lawOf (autoRd E30 100 (LayP_c 19 22 23 20)))
abbrev E32 : CallT := withF E31 46 1 (Chunk_c 48)
abbrev E33 : CallT := withL E32 31 (lawOf (autoRd E32 300 (pixels_c 48 46)))
abbrev E34 : CallT := withF E33 10 100 (ReadP_c 27 28 29 30 31)
abbrev E35 : CallT := withL E34 17 (lawOf (autoRd E34 1 CountP_c))
abbrev E36 : CallT := withL E35 11 (lawOf (autoRd E35 1 ColorP_c))
abbrev E37 : CallT := withL E36 18 (lawOf (autoRd E36 1 EntriesP_c))
abbrev E38 : CallT := withL E37 34 (lawOf (autoRd E37 1 RightPx_c))
abbrev E39 : CallT := withL E38 13 (lawOf (autoRd E38 100 (LayR_c 33 34)))
abbrev E40 : CallT := withF E39 16 300 (ReadR_c 35 36 37)
abbrev E41 : CallT := withL E40 7 (lawOf (closedRd (.bool true)))
end
theorem sE0 : Sound Try.prog E0 := Sound.nothing
theorem sE1 : Sound Try.prog E1 := sE0.withF mix 1 (by kernel_rfl)
theorem there_E1 : ThereF E1 45 := ThereF.code
theorem sE2 : Sound Try.prog E2 := sE1.withF mix 1 (by kernel_rfl)
theorem clone_E2 : CloneF E2 43 := CloneF.code
theorem cloneN_E2 : CloneN E2 43 := CloneN.code
theorem sE3 : Sound Try.prog E3 := sE2.withF mix 1 (by kernel_rfl)
theorem pick_E3 : PickF E3 15 := PickF.code
theorem sE4 : Sound Try.prog E4 := sE3.withF mix 100 (by kernel_rfl)
theorem index_E4 : IndexF 100 E4 47 := IndexF.code
theorem sE5 : Sound Try.prog E5 := sE4.withF mix 1 (by kernel_rfl)
theorem cont_E5 : ContF 100 E5 42 := ContF.code index_E4
theorem sE6 : Sound Try.prog E6 := sE5.withF mix 65 (by kernel_rfl)
theorem rtable_E6 : RTableF E6 35 := RTableF.code (by omega)
theorem sE7 : Sound Try.prog E7 := sE6.withF mix 1 (by kernel_rfl)
theorem few_E7 : FewF E7 14 := FewF.code
theorem there_E7 : ThereF E7 45 := (carryF (P := fun f => ThereF (fun _ => f) 45) (carryF (P := fun f => ThereF (fun _ => f) 45) (carryF (P := fun f => ThereF (fun _ => f) 45) (carryF (P := fun f => ThereF (fun _ => f) 45) (carryF (P := fun f => ThereF (fun _ => f) 45) (carryF (P := fun f => ThereF (fun _ => f) 45) there_E1 (by decide)) (by decide)) (by decide)) (by decide)) (by decide)) (by decide))
theorem sE8 : Sound Try.prog E8 := number_sound mix sE7 (by kernel_rfl) there_E7
theorem num_E8 : NumF E8 44 := number_fact
theorem sE9 : Sound Try.prog E9 := u_sound mix sE8 (n := 44) num_E8 (.inr (.inl ⟨rfl, rfl⟩)) (by kernel_rfl)
theorem u16_E9 : UF 2 E9 28 := uS_fact
theorem num_E9 : NumF E9 44 := (carryL (P := fun f => NumF (fun _ => f) 44) num_E8 (by decide))
theorem sE10 : Sound Try.prog E10 := u_sound mix sE9 (n := 44) num_E9 (.inr (.inr (.inr ⟨rfl, rfl⟩))) (by kernel_rfl)
theorem u32_E10 : UF 4 E10 29 := uS_fact
theorem there_E10 : ThereF E10 45 := (carryL (P := fun f => ThereF (fun _ => f) 45) (carryL (P := fun f => ThereF (fun _ => f) 45) (carryL (P := fun f => ThereF (fun _ => f) 45) there_E7 (by decide)) (by decide)) (by decide))
theorem clone_E10 : CloneF E10 43 := (carryL (P := fun f => CloneF (fun _ => f) 43) (carryL (P := fun f => CloneF (fun _ => f) 43) (carryL (P := fun f => CloneF (fun _ => f) 43) (carryF (P := fun f => CloneF (fun _ => f) 43) (carryF (P := fun f => CloneF (fun _ => f) 43) (carryF (P := fun f => CloneF (fun _ => f) 43) (carryF (P := fun f => CloneF (fun _ => f) 43) (carryF (P := fun f => CloneF (fun _ => f) 43) clone_E2 (by decide)) (by decide)) (by decide)) (by decide)) (by decide)) (by decide)) (by decide)) (by decide))
theorem sE11 : Sound Try.prog E11 := Part_sound mix sE10 there_E10 clone_E10 (by kernel_rfl)
theorem part_E11 : PartF E11 30 := Part_fact
theorem cont_E11 : ContF 100 E11 42 := (carryL (P := fun f => ContF 100 (fun _ => f) 42) (carryL (P := fun f => ContF 100 (fun _ => f) 42) (carryL (P := fun f => ContF 100 (fun _ => f) 42) (carryL (P := fun f => ContF 100 (fun _ => f) 42) (carryF (P := fun f => ContF 100 (fun _ => f) 42) (carryF (P := fun f => ContF 100 (fun _ => f) 42) cont_E5 (by decide)) (by decide)) (by decide)) (by decide)) (by decide)) (by decide))
theorem sE12 : Sound Try.prog E12 := sE11.withF mix 1 (by kernel_rfl)
theorem vers_E12 : VersF E12 41 := VersF_code (by omega) cont_E11
theorem u16_E12 : UF 2 E12 28 := (carryF (P := fun f => UF 2 (fun _ => f) 28) (carryL (P := fun f => UF 2 (fun _ => f) 28) (carryL (P := fun f => UF 2 (fun _ => f) 28) u16_E9 (by decide)) (by decide)) (by decide))
theorem u32_E12 : UF 4 E12 29 := (carryF (P := fun f => UF 4 (fun _ => f) 29) (carryL (P := fun f => UF 4 (fun _ => f) 29) u32_E10 (by decide)) (by decide))
theorem part_E12 : PartF E12 30 := (carryF (P := fun f => PartF (fun _ => f) 30) part_E11 (by decide))
theorem cont_E12 : ContF 100 E12 42 := (carryF (P := fun f => ContF 100 (fun _ => f) 42) cont_E11 (by decide))
theorem sE13 : Sound Try.prog E13 := Open_sound mix sE12 (lf' := 100) (by omega) u16_E12 u32_E12 part_E12 vers_E12 cont_E12 (by kernel_rfl)
theorem open_E13 : OpenF E13 25 := open_fact
theorem clone_E13 : CloneF E13 43 := (carryL (P := fun f => CloneF (fun _ => f) 43) (carryF (P := fun f => CloneF (fun _ => f) 43) (carryL (P := fun f => CloneF (fun _ => f) 43) clone_E10 (by decide)) (by decide)) (by decide))
theorem cloneN_E13 : CloneN E13 43 := (carryL (P := fun f => CloneN (fun _ => f) 43) (carryF (P := fun f => CloneN (fun _ => f) 43) (carryL (P := fun f => CloneN (fun _ => f) 43) (carryL (P := fun f => CloneN (fun _ => f) 43) (carryL (P := fun f => CloneN (fun _ => f) 43) (carryL (P := fun f => CloneN (fun _ => f) 43) (carryF (P := fun f => CloneN (fun _ => f) 43) (carryF (P := fun f => CloneN (fun _ => f) 43) (carryF (P := fun f => CloneN (fun _ => f) 43) (carryF (P := fun f => CloneN (fun _ => f) 43) (carryF (P := fun f => CloneN (fun _ => f) 43) cloneN_E2 (by decide)) (by decide)) (by decide)) (by decide)) (by decide)) (by decide)) (by decide)) (by decide)) (by decide)) (by decide)) (by decide))
theorem sE14 : Sound Try.prog E14 := Sound.auto mix sE13 1 (by kernel_rfl)
theorem tab_E14 : TabLF E14 27 := TabLF.auto clone_E13 cloneN_E13
theorem sE15 : Sound Try.prog E15 := Big_sound mix sE14 (by kernel_rfl)
theorem big_E15 : BigF E15 33 := big_fact
theorem sE16 : Sound Try.prog E16 := sE15.withF mix 100 (by kernel_rfl)
theorem rlay_E16 : RLayF E16 40 := RLayF.code (by omega) big_E15
theorem sE17 : Sound Try.prog E17 := sE16.withF mix 1 (by kernel_rfl)
theorem font_E17 : FontF E17 24 := FontF.code rlay_E16
theorem sE18 : Sound Try.prog E18 := Num_sound mix sE17 (by kernel_rfl)
theorem rnum_E18 : NumF E18 36 := number_fact
theorem sE19 : Sound Try.prog E19 := RPart_sound mix sE18 (by kernel_rfl)
theorem rpart_E19 : RPartF E19 37 := RPart_fact
theorem rnum_E19 : NumF E19 36 := (carryL (P := fun f => NumF (fun _ => f) 36) rnum_E18 (by decide))
theorem rtable_E19 : RTableF E19 35 := (carryL (P := fun f => RTableF (fun _ => f) 35) (carryL (P := fun f => RTableF (fun _ => f) 35) (carryF (P := fun f => RTableF (fun _ => f) 35) (carryF (P := fun f => RTableF (fun _ => f) 35) (carryL (P := fun f => RTableF (fun _ => f) 35) (carryL (P := fun f => RTableF (fun _ => f) 35) (carryL (P := fun f => RTableF (fun _ => f) 35) (carryF (P := fun f => RTableF (fun _ => f) 35) (carryL (P := fun f => RTableF (fun _ => f) 35) (carryL (P := fun f => RTableF (fun _ => f) 35) (carryL (P := fun f => RTableF (fun _ => f) 35) (carryL (P := fun f => RTableF (fun _ => f) 35) (carryF (P := fun f => RTableF (fun _ => f) 35) rtable_E6 (by decide)) (by decide)) (by decide)) (by decide)) (by decide)) (by decide)) (by decide)) (by decide)) (by decide)) (by decide)) (by decide)) (by decide)) (by decide))
theorem sE20 : Sound Try.prog E20 := ROpen_sound mix sE19 rnum_E19 rtable_E19 rpart_E19 (by kernel_rfl)
theorem ropen_E20 : ROpenF E20 26 := ropen_fact
theorem font_E20 : FontF E20 24 := (carryL (P := fun f => FontF (fun _ => f) 24) (carryL (P := fun f => FontF (fun _ => f) 24) (carryL (P := fun f => FontF (fun _ => f) 24) font_E17 (by decide)) (by decide)) (by decide))
theorem open_E20 : OpenF E20 25 := (carryL (P := fun f => OpenF (fun _ => f) 25) (carryL (P := fun f => OpenF (fun _ => f) 25) (carryL (P := fun f => OpenF (fun _ => f) 25) (carryF (P := fun f => OpenF (fun _ => f) 25) (carryF (P := fun f => OpenF (fun _ => f) 25) (carryL (P := fun f => OpenF (fun _ => f) 25) (carryL (P := fun f => OpenF (fun _ => f) 25) open_E13 (by decide)) (by decide)) (by decide)) (by decide)) (by decide)) (by decide)) (by decide))
theorem sE21 : Sound Try.prog E21 := sE20.withF mix 1 (by kernel_rfl)
theorem one_E21 : WideTF E21 9 := WideTF.code font_E20 open_E20 ropen_E20
theorem pick_E21 : PickF E21 15 := (carryF (P := fun f => PickF (fun _ => f) 15) (carryL (P := fun f => PickF (fun _ => f) 15) (carryL (P := fun f => PickF (fun _ => f) 15) (carryL (P := fun f => PickF (fun _ => f) 15) (carryF (P := fun f => PickF (fun _ => f) 15) (carryF (P := fun f => PickF (fun _ => f) 15) (carryL (P := fun f => PickF (fun _ => f) 15) (carryL (P := fun f => PickF (fun _ => f) 15) (carryL (P := fun f => PickF (fun _ => f) 15) (carryF (P := fun f => PickF (fun _ => f) 15) (carryL (P := fun f => PickF (fun _ => f) 15) (carryL (P := fun f => PickF (fun _ => f) 15) (carryL (P := fun f => PickF (fun _ => f) 15) (carryL (P := fun f => PickF (fun _ => f) 15) (carryF (P := fun f => PickF (fun _ => f) 15) (carryF (P := fun f => PickF (fun _ => f) 15) (carryF (P := fun f => PickF (fun _ => f) 15) (carryF (P := fun f => PickF (fun _ => f) 15) pick_E3 (by decide)) (by decide)) (by decide)) (by decide)) (by decide)) (by decide)) (by decide)) (by decide)) (by decide)) (by decide)) (by decide)) (by decide)) (by decide)) (by decide)) (by decide)) (by decide)) (by decide)) (by decide))
theorem sE22 : Sound Try.prog E22 := Sound.auto mix sE21 1 (by kernel_rfl)
theorem hcolor_E22 : ColorL (E22 32) := ColorL.auto pick_E21
theorem pick_E22 : PickF E22 15 := (carryL (P := fun f => PickF (fun _ => f) 15) pick_E21 (by decide))
theorem sE23 : Sound Try.prog E23 := sE22.withF mix 20 (by kernel_rfl)
theorem pal_E23 : PalF E23 12 := PalF.code (by omega) pick_E22 hcolor_E22
theorem sE24 : Sound Try.prog E24 := Sound.auto mix sE23 1 (by kernel_rfl)
theorem right_E24 : RightL (E24 21) := RightL.auto
theorem sE25 : Sound Try.prog E25 := Sound.auto mix sE24 1 (by kernel_rfl)
theorem notright_E25 : NotRightL (E25 20) := NotRightL.auto right_E24
theorem sE26 : Sound Try.prog E26 := Sound.auto mix sE25 1010 (by kernel_rfl)
theorem idxpx_E26 : IdxPxL 20 (E26 38) := IdxPxL.auto (by omega) notright_E25
theorem sE27 : Sound Try.prog E27 := Sound.auto mix sE26 1 (by kernel_rfl)
theorem contpx_E27 : ContPxL 20 (E27 19) := ContPxL.auto idxpx_E26
theorem sE28 : Sound Try.prog E28 := sE27.withF mix 1 (by kernel_rfl)
theorem u2_E28 : U2F (E28 22) := U2F.code
theorem sE29 : Sound Try.prog E29 := sE28.withF mix 1 (by kernel_rfl)
theorem grow_E29 : GrowF E29 39 := GrowF.code
theorem sE30 : Sound Try.prog E30 := Concat_sound mix sE29 grow_E29 (by kernel_rfl)
theorem concat_E30 : ConcatF E30 23 := concat_fact
theorem contpx_E30 : ContPxL 20 (E30 19) := (carryL (P := fun f => ContPxL 20 f) (carryF (P := fun f => ContPxL 20 f) (carryF (P := fun f => ContPxL 20 f) contpx_E27 (by decide)) (by decide)) (by decide))
theorem u2_E30 : U2F (E30 22) := (carryL (P := fun f => U2F f) (carryF (P := fun f => U2F f) u2_E28 (by decide)) (by decide))
theorem sE31 : Sound Try.prog E31 := Sound.auto mix sE30 100 (by kernel_rfl)
theorem lay_E31 : LayPF (E31 6) := LayPF.auto (by omega) contpx_E30 u2_E30 concat_E30
theorem sE32 : Sound Try.prog E32 := sE31.withF mix 1 (by kernel_rfl)
theorem chunk_E32 : ChunkF 48 E32 46 := ChunkF.code
theorem sE33 : Sound Try.prog E33 := Sound.auto mix sE32 300 (by kernel_rfl)
theorem pix_E33 : PixL (E33 31) := PixL.auto (by omega) chunk_E32
theorem pixr_E33 : InReg (E33 31) := auto_inReg
theorem tab_E33 : TabLF E33 27 := (carryL (P := fun f => TabLF (fun _ => f) 27) (carryF (P := fun f => TabLF (fun _ => f) 27) (carryL (P := fun f => TabLF (fun _ => f) 27) (carryL (P := fun f => TabLF (fun _ => f) 27) (carryF (P := fun f => TabLF (fun _ => f) 27) (carryF (P := fun f => TabLF (fun _ => f) 27) (carryL (P := fun f => TabLF (fun _ => f) 27) (carryL (P := fun f => TabLF (fun _ => f) 27) (carryL (P := fun f => TabLF (fun _ => f) 27) (carryL (P := fun f => TabLF (fun _ => f) 27) (carryF (P := fun f => TabLF (fun _ => f) 27) (carryL (P := fun f => TabLF (fun _ => f) 27) (carryF (P := fun f => TabLF (fun _ => f) 27) (carryL (P := fun f => TabLF (fun _ => f) 27) (carryL (P := fun f => TabLF (fun _ => f) 27) (carryL (P := fun f => TabLF (fun _ => f) 27) (carryF (P := fun f => TabLF (fun _ => f) 27) (carryF (P := fun f => TabLF (fun _ => f) 27) (carryL (P := fun f => TabLF (fun _ => f) 27) tab_E14 (by decide)) (by decide)) (by decide)) (by decide)) (by decide)) (by decide)) (by decide)) (by decide)) (by decide)) (by decide)) (by decide)) (by decide)) (by decide)) (by decide)) (by decide)) (by decide)) (by decide)) (by decide)) (by decide))
theorem u16_E33 : UF 2 E33 28 := (carryL (P := fun f => UF 2 (fun _ => f) 28) (carryF (P := fun f => UF 2 (fun _ => f) 28) (carryL (P := fun f => UF 2 (fun _ => f) 28) (carryL (P := fun f => UF 2 (fun _ => f) 28) (carryF (P := fun f => UF 2 (fun _ => f) 28) (carryF (P := fun f => UF 2 (fun _ => f) 28) (carryL (P := fun f => UF 2 (fun _ => f) 28) (carryL (P := fun f => UF 2 (fun _ => f) 28) (carryL (P := fun f => UF 2 (fun _ => f) 28) (carryL (P := fun f => UF 2 (fun _ => f) 28) (carryF (P := fun f => UF 2 (fun _ => f) 28) (carryL (P := fun f => UF 2 (fun _ => f) 28) (carryF (P := fun f => UF 2 (fun _ => f) 28) (carryL (P := fun f => UF 2 (fun _ => f) 28) (carryL (P := fun f => UF 2 (fun _ => f) 28) (carryL (P := fun f => UF 2 (fun _ => f) 28) (carryF (P := fun f => UF 2 (fun _ => f) 28) (carryF (P := fun f => UF 2 (fun _ => f) 28) (carryL (P := fun f => UF 2 (fun _ => f) 28) (carryL (P := fun f => UF 2 (fun _ => f) 28) (carryL (P := fun f => UF 2 (fun _ => f) 28) u16_E12 (by decide)) (by decide)) (by decide)) (by decide)) (by decide)) (by decide)) (by decide)) (by decide)) (by decide)) (by decide)) (by decide)) (by decide)) (by decide)) (by decide)) (by decide)) (by decide)) (by decide)) (by decide)) (by decide)) (by decide)) (by decide))
theorem u32_E33 : UF 4 E33 29 := (carryL (P := fun f => UF 4 (fun _ => f) 29) (carryF (P := fun f => UF 4 (fun _ => f) 29) (carryL (P := fun f => UF 4 (fun _ => f) 29) (carryL (P := fun f => UF 4 (fun _ => f) 29) (carryF (P := fun f => UF 4 (fun _ => f) 29) (carryF (P := fun f => UF 4 (fun _ => f) 29) (carryL (P := fun f => UF 4 (fun _ => f) 29) (carryL (P := fun f => UF 4 (fun _ => f) 29) (carryL (P := fun f => UF 4 (fun _ => f) 29) (carryL (P := fun f => UF 4 (fun _ => f) 29) (carryF (P := fun f => UF 4 (fun _ => f) 29) (carryL (P := fun f => UF 4 (fun _ => f) 29) (carryF (P := fun f => UF 4 (fun _ => f) 29) (carryL (P := fun f => UF 4 (fun _ => f) 29) (carryL (P := fun f => UF 4 (fun _ => f) 29) (carryL (P := fun f => UF 4 (fun _ => f) 29) (carryF (P := fun f => UF 4 (fun _ => f) 29) (carryF (P := fun f => UF 4 (fun _ => f) 29) (carryL (P := fun f => UF 4 (fun _ => f) 29) (carryL (P := fun f => UF 4 (fun _ => f) 29) (carryL (P := fun f => UF 4 (fun _ => f) 29) u32_E12 (by decide)) (by decide)) (by decide)) (by decide)) (by decide)) (by decide)) (by decide)) (by decide)) (by decide)) (by decide)) (by decide)) (by decide)) (by decide)) (by decide)) (by decide)) (by decide)) (by decide)) (by decide)) (by decide)) (by decide)) (by decide))
theorem part_E33 : PartF E33 30 := (carryL (P := fun f => PartF (fun _ => f) 30) (carryF (P := fun f => PartF (fun _ => f) 30) (carryL (P := fun f => PartF (fun _ => f) 30) (carryL (P := fun f => PartF (fun _ => f) 30) (carryF (P := fun f => PartF (fun _ => f) 30) (carryF (P := fun f => PartF (fun _ => f) 30) (carryL (P := fun f => PartF (fun _ => f) 30) (carryL (P := fun f => PartF (fun _ => f) 30) (carryL (P := fun f => PartF (fun _ => f) 30) (carryL (P := fun f => PartF (fun _ => f) 30) (carryF (P := fun f => PartF (fun _ => f) 30) (carryL (P := fun f => PartF (fun _ => f) 30) (carryF (P := fun f => PartF (fun _ => f) 30) (carryL (P := fun f => PartF (fun _ => f) 30) (carryL (P := fun f => PartF (fun _ => f) 30) (carryL (P := fun f => PartF (fun _ => f) 30) (carryF (P := fun f => PartF (fun _ => f) 30) (carryF (P := fun f => PartF (fun _ => f) 30) (carryL (P := fun f => PartF (fun _ => f) 30) (carryL (P := fun f => PartF (fun _ => f) 30) (carryL (P := fun f => PartF (fun _ => f) 30) part_E12 (by decide)) (by decide)) (by decide)) (by decide)) (by decide)) (by decide)) (by decide)) (by decide)) (by decide)) (by decide)) (by decide)) (by decide)) (by decide)) (by decide)) (by decide)) (by decide)) (by decide)) (by decide)) (by decide)) (by decide)) (by decide))
theorem sE34 : Sound Try.prog E34 := sE33.withF mix 100 (by kernel_rfl)
theorem read_E34 : De.ReadF E34 10 := De.ReadF.code (by omega) tab_E33 u16_E33 u32_E33 part_E33 pix_E33 pixr_E33
theorem sE35 : Sound Try.prog E35 := Sound.auto mix sE34 1 (by kernel_rfl)
theorem count_E35 : CountL (E35 17) := CountL.auto
theorem sE36 : Sound Try.prog E36 := Sound.auto mix sE35 1 (by kernel_rfl)
theorem color_E36 : ColorAtL (E36 11) := ColorAtL.auto
theorem sE37 : Sound Try.prog E37 := Sound.auto mix sE36 1 (by kernel_rfl)
theorem entries_E37 : EntriesL (E37 18) := EntriesL.auto
theorem sE38 : Sound Try.prog E38 := Sound.auto mix sE37 1 (by kernel_rfl)
theorem rpx_E38 : RightL (E38 34) := RightPx.auto
theorem big_E38 : BigF E38 33 := (carryL (P := fun f => BigF (fun _ => f) 33) (carryL (P := fun f => BigF (fun _ => f) 33) (carryL (P := fun f => BigF (fun _ => f) 33) (carryL (P := fun f => BigF (fun _ => f) 33) (carryF (P := fun f => BigF (fun _ => f) 33) (carryL (P := fun f => BigF (fun _ => f) 33) (carryF (P := fun f => BigF (fun _ => f) 33) (carryL (P := fun f => BigF (fun _ => f) 33) (carryL (P := fun f => BigF (fun _ => f) 33) (carryF (P := fun f => BigF (fun _ => f) 33) (carryF (P := fun f => BigF (fun _ => f) 33) (carryL (P := fun f => BigF (fun _ => f) 33) (carryL (P := fun f => BigF (fun _ => f) 33) (carryL (P := fun f => BigF (fun _ => f) 33) (carryL (P := fun f => BigF (fun _ => f) 33) (carryF (P := fun f => BigF (fun _ => f) 33) (carryL (P := fun f => BigF (fun _ => f) 33) (carryF (P := fun f => BigF (fun _ => f) 33) (carryL (P := fun f => BigF (fun _ => f) 33) (carryL (P := fun f => BigF (fun _ => f) 33) (carryL (P := fun f => BigF (fun _ => f) 33) (carryF (P := fun f => BigF (fun _ => f) 33) (carryF (P := fun f => BigF (fun _ => f) 33) big_E15 (by decide)) (by decide)) (by decide)) (by decide)) (by decide)) (by decide)) (by decide)) (by decide)) (by decide)) (by decide)) (by decide)) (by decide)) (by decide)) (by decide)) (by decide)) (by decide)) (by decide)) (by decide)) (by decide)) (by decide)) (by decide)) (by decide)) (by decide))
theorem sE39 : Sound Try.prog E39 := Sound.auto mix sE38 100 (by kernel_rfl)
theorem rlayp_E39 : LayRF (E39 13) := LayRF.auto (by omega) big_E38 rpx_E38
theorem rtable_E39 : RTableF E39 35 := (carryL (P := fun f => RTableF (fun _ => f) 35) (carryL (P := fun f => RTableF (fun _ => f) 35) (carryL (P := fun f => RTableF (fun _ => f) 35) (carryL (P := fun f => RTableF (fun _ => f) 35) (carryL (P := fun f => RTableF (fun _ => f) 35) (carryF (P := fun f => RTableF (fun _ => f) 35) (carryL (P := fun f => RTableF (fun _ => f) 35) (carryF (P := fun f => RTableF (fun _ => f) 35) (carryL (P := fun f => RTableF (fun _ => f) 35) (carryL (P := fun f => RTableF (fun _ => f) 35) (carryF (P := fun f => RTableF (fun _ => f) 35) (carryF (P := fun f => RTableF (fun _ => f) 35) (carryL (P := fun f => RTableF (fun _ => f) 35) (carryL (P := fun f => RTableF (fun _ => f) 35) (carryL (P := fun f => RTableF (fun _ => f) 35) (carryL (P := fun f => RTableF (fun _ => f) 35) (carryF (P := fun f => RTableF (fun _ => f) 35) (carryL (P := fun f => RTableF (fun _ => f) 35) (carryF (P := fun f => RTableF (fun _ => f) 35) (carryL (P := fun f => RTableF (fun _ => f) 35) rtable_E19 (by decide)) (by decide)) (by decide)) (by decide)) (by decide)) (by decide)) (by decide)) (by decide)) (by decide)) (by decide)) (by decide)) (by decide)) (by decide)) (by decide)) (by decide)) (by decide)) (by decide)) (by decide)) (by decide)) (by decide))
theorem rnum_E39 : NumF E39 36 := (carryL (P := fun f => NumF (fun _ => f) 36) (carryL (P := fun f => NumF (fun _ => f) 36) (carryL (P := fun f => NumF (fun _ => f) 36) (carryL (P := fun f => NumF (fun _ => f) 36) (carryL (P := fun f => NumF (fun _ => f) 36) (carryF (P := fun f => NumF (fun _ => f) 36) (carryL (P := fun f => NumF (fun _ => f) 36) (carryF (P := fun f => NumF (fun _ => f) 36) (carryL (P := fun f => NumF (fun _ => f) 36) (carryL (P := fun f => NumF (fun _ => f) 36) (carryF (P := fun f => NumF (fun _ => f) 36) (carryF (P := fun f => NumF (fun _ => f) 36) (carryL (P := fun f => NumF (fun _ => f) 36) (carryL (P := fun f => NumF (fun _ => f) 36) (carryL (P := fun f => NumF (fun _ => f) 36) (carryL (P := fun f => NumF (fun _ => f) 36) (carryF (P := fun f => NumF (fun _ => f) 36) (carryL (P := fun f => NumF (fun _ => f) 36) (carryF (P := fun f => NumF (fun _ => f) 36) (carryL (P := fun f => NumF (fun _ => f) 36) rnum_E19 (by decide)) (by decide)) (by decide)) (by decide)) (by decide)) (by decide)) (by decide)) (by decide)) (by decide)) (by decide)) (by decide)) (by decide)) (by decide)) (by decide)) (by decide)) (by decide)) (by decide)) (by decide)) (by decide)) (by decide))
theorem rpart_E39 : RPartF E39 37 := (carryL (P := fun f => RPartF (fun _ => f) 37) (carryL (P := fun f => RPartF (fun _ => f) 37) (carryL (P := fun f => RPartF (fun _ => f) 37) (carryL (P := fun f => RPartF (fun _ => f) 37) (carryL (P := fun f => RPartF (fun _ => f) 37) (carryF (P := fun f => RPartF (fun _ => f) 37) (carryL (P := fun f => RPartF (fun _ => f) 37) (carryF (P := fun f => RPartF (fun _ => f) 37) (carryL (P := fun f => RPartF (fun _ => f) 37) (carryL (P := fun f => RPartF (fun _ => f) 37) (carryF (P := fun f => RPartF (fun _ => f) 37) (carryF (P := fun f => RPartF (fun _ => f) 37) (carryL (P := fun f => RPartF (fun _ => f) 37) (carryL (P := fun f => RPartF (fun _ => f) 37) (carryL (P := fun f => RPartF (fun _ => f) 37) (carryL (P := fun f => RPartF (fun _ => f) 37) (carryF (P := fun f => RPartF (fun _ => f) 37) (carryL (P := fun f => RPartF (fun _ => f) 37) (carryF (P := fun f => RPartF (fun _ => f) 37) (carryL (P := fun f => RPartF (fun _ => f) 37) rpart_E19 (by decide)) (by decide)) (by decide)) (by decide)) (by decide)) (by decide)) (by decide)) (by decide)) (by decide)) (by decide)) (by decide)) (by decide)) (by decide)) (by decide)) (by decide)) (by decide)) (by decide)) (by decide)) (by decide)) (by decide))
theorem sE40 : Sound Try.prog E40 := sE39.withF mix 300 (by kernel_rfl)
theorem rread_E40 : ReadRF E40 16 := ReadRF.code (by omega) rtable_E39 rnum_E39 rpart_E39
theorem sE41 : Sound Try.prog E41 := by
  obtain ⟨s, h⟩ := isTrue_some knownRuns
  exact sE40.closed (Sound.table mix 49 100000 60) h rfl
theorem pal_E41 : PalF E41 12 := (carryL (P := fun f => PalF (fun _ => f) 12) (carryF (P := fun f => PalF (fun _ => f) 12) (carryL (P := fun f => PalF (fun _ => f) 12) (carryL (P := fun f => PalF (fun _ => f) 12) (carryL (P := fun f => PalF (fun _ => f) 12) (carryL (P := fun f => PalF (fun _ => f) 12) (carryL (P := fun f => PalF (fun _ => f) 12) (carryF (P := fun f => PalF (fun _ => f) 12) (carryL (P := fun f => PalF (fun _ => f) 12) (carryF (P := fun f => PalF (fun _ => f) 12) (carryL (P := fun f => PalF (fun _ => f) 12) (carryL (P := fun f => PalF (fun _ => f) 12) (carryF (P := fun f => PalF (fun _ => f) 12) (carryF (P := fun f => PalF (fun _ => f) 12) (carryL (P := fun f => PalF (fun _ => f) 12) (carryL (P := fun f => PalF (fun _ => f) 12) (carryL (P := fun f => PalF (fun _ => f) 12) (carryL (P := fun f => PalF (fun _ => f) 12) pal_E23 (by decide)) (by decide)) (by decide)) (by decide)) (by decide)) (by decide)) (by decide)) (by decide)) (by decide)) (by decide)) (by decide)) (by decide)) (by decide)) (by decide)) (by decide)) (by decide)) (by decide)) (by decide))
theorem lay_E41 : LayPF (E41 6) := (carryL (P := fun f => LayPF f) (carryF (P := fun f => LayPF f) (carryL (P := fun f => LayPF f) (carryL (P := fun f => LayPF f) (carryL (P := fun f => LayPF f) (carryL (P := fun f => LayPF f) (carryL (P := fun f => LayPF f) (carryF (P := fun f => LayPF f) (carryL (P := fun f => LayPF f) (carryF (P := fun f => LayPF f) lay_E31 (by decide)) (by decide)) (by decide)) (by decide)) (by decide)) (by decide)) (by decide)) (by decide)) (by decide)) (by decide))
theorem rlayp_E41 : LayRF (E41 13) := (carryL (P := fun f => LayRF f) (carryF (P := fun f => LayRF f) rlayp_E39 (by decide)) (by decide))
theorem few_E41 : FewF E41 14 := (carryL (P := fun f => FewF (fun _ => f) 14) (carryF (P := fun f => FewF (fun _ => f) 14) (carryL (P := fun f => FewF (fun _ => f) 14) (carryL (P := fun f => FewF (fun _ => f) 14) (carryL (P := fun f => FewF (fun _ => f) 14) (carryL (P := fun f => FewF (fun _ => f) 14) (carryL (P := fun f => FewF (fun _ => f) 14) (carryF (P := fun f => FewF (fun _ => f) 14) (carryL (P := fun f => FewF (fun _ => f) 14) (carryF (P := fun f => FewF (fun _ => f) 14) (carryL (P := fun f => FewF (fun _ => f) 14) (carryL (P := fun f => FewF (fun _ => f) 14) (carryF (P := fun f => FewF (fun _ => f) 14) (carryF (P := fun f => FewF (fun _ => f) 14) (carryL (P := fun f => FewF (fun _ => f) 14) (carryL (P := fun f => FewF (fun _ => f) 14) (carryL (P := fun f => FewF (fun _ => f) 14) (carryL (P := fun f => FewF (fun _ => f) 14) (carryF (P := fun f => FewF (fun _ => f) 14) (carryL (P := fun f => FewF (fun _ => f) 14) (carryF (P := fun f => FewF (fun _ => f) 14) (carryL (P := fun f => FewF (fun _ => f) 14) (carryL (P := fun f => FewF (fun _ => f) 14) (carryL (P := fun f => FewF (fun _ => f) 14) (carryF (P := fun f => FewF (fun _ => f) 14) (carryF (P := fun f => FewF (fun _ => f) 14) (carryL (P := fun f => FewF (fun _ => f) 14) (carryL (P := fun f => FewF (fun _ => f) 14) (carryL (P := fun f => FewF (fun _ => f) 14) (carryF (P := fun f => FewF (fun _ => f) 14) (carryL (P := fun f => FewF (fun _ => f) 14) (carryL (P := fun f => FewF (fun _ => f) 14) (carryL (P := fun f => FewF (fun _ => f) 14) (carryL (P := fun f => FewF (fun _ => f) 14) few_E7 (by decide)) (by decide)) (by decide)) (by decide)) (by decide)) (by decide)) (by decide)) (by decide)) (by decide)) (by decide)) (by decide)) (by decide)) (by decide)) (by decide)) (by decide)) (by decide)) (by decide)) (by decide)) (by decide)) (by decide)) (by decide)) (by decide)) (by decide)) (by decide)) (by decide)) (by decide)) (by decide)) (by decide)) (by decide)) (by decide)) (by decide)) (by decide)) (by decide)) (by decide))
theorem pick_E41 : PickF E41 15 := (carryL (P := fun f => PickF (fun _ => f) 15) (carryF (P := fun f => PickF (fun _ => f) 15) (carryL (P := fun f => PickF (fun _ => f) 15) (carryL (P := fun f => PickF (fun _ => f) 15) (carryL (P := fun f => PickF (fun _ => f) 15) (carryL (P := fun f => PickF (fun _ => f) 15) (carryL (P := fun f => PickF (fun _ => f) 15) (carryF (P := fun f => PickF (fun _ => f) 15) (carryL (P := fun f => PickF (fun _ => f) 15) (carryF (P := fun f => PickF (fun _ => f) 15) (carryL (P := fun f => PickF (fun _ => f) 15) (carryL (P := fun f => PickF (fun _ => f) 15) (carryF (P := fun f => PickF (fun _ => f) 15) (carryF (P := fun f => PickF (fun _ => f) 15) (carryL (P := fun f => PickF (fun _ => f) 15) (carryL (P := fun f => PickF (fun _ => f) 15) (carryL (P := fun f => PickF (fun _ => f) 15) (carryL (P := fun f => PickF (fun _ => f) 15) (carryF (P := fun f => PickF (fun _ => f) 15) pick_E22 (by decide)) (by decide)) (by decide)) (by decide)) (by decide)) (by decide)) (by decide)) (by decide)) (by decide)) (by decide)) (by decide)) (by decide)) (by decide)) (by decide)) (by decide)) (by decide)) (by decide)) (by decide)) (by decide))
theorem one_E41 : WideTF E41 9 := (carryL (P := fun f => WideTF (fun _ => f) 9) (carryF (P := fun f => WideTF (fun _ => f) 9) (carryL (P := fun f => WideTF (fun _ => f) 9) (carryL (P := fun f => WideTF (fun _ => f) 9) (carryL (P := fun f => WideTF (fun _ => f) 9) (carryL (P := fun f => WideTF (fun _ => f) 9) (carryL (P := fun f => WideTF (fun _ => f) 9) (carryF (P := fun f => WideTF (fun _ => f) 9) (carryL (P := fun f => WideTF (fun _ => f) 9) (carryF (P := fun f => WideTF (fun _ => f) 9) (carryL (P := fun f => WideTF (fun _ => f) 9) (carryL (P := fun f => WideTF (fun _ => f) 9) (carryF (P := fun f => WideTF (fun _ => f) 9) (carryF (P := fun f => WideTF (fun _ => f) 9) (carryL (P := fun f => WideTF (fun _ => f) 9) (carryL (P := fun f => WideTF (fun _ => f) 9) (carryL (P := fun f => WideTF (fun _ => f) 9) (carryL (P := fun f => WideTF (fun _ => f) 9) (carryF (P := fun f => WideTF (fun _ => f) 9) (carryL (P := fun f => WideTF (fun _ => f) 9) one_E21 (by decide)) (by decide)) (by decide)) (by decide)) (by decide)) (by decide)) (by decide)) (by decide)) (by decide)) (by decide)) (by decide)) (by decide)) (by decide)) (by decide)) (by decide)) (by decide)) (by decide)) (by decide)) (by decide)) (by decide))
theorem read_E41 : De.ReadF E41 10 := (carryL (P := fun f => De.ReadF (fun _ => f) 10) (carryF (P := fun f => De.ReadF (fun _ => f) 10) (carryL (P := fun f => De.ReadF (fun _ => f) 10) (carryL (P := fun f => De.ReadF (fun _ => f) 10) (carryL (P := fun f => De.ReadF (fun _ => f) 10) (carryL (P := fun f => De.ReadF (fun _ => f) 10) (carryL (P := fun f => De.ReadF (fun _ => f) 10) read_E34 (by decide)) (by decide)) (by decide)) (by decide)) (by decide)) (by decide)) (by decide))
theorem rread_E41 : ReadRF E41 16 := (carryL (P := fun f => ReadRF (fun _ => f) 16) rread_E40 (by decide))
theorem count_E41 : CountL (E41 17) := (carryL (P := fun f => CountL f) (carryF (P := fun f => CountL f) (carryL (P := fun f => CountL f) (carryL (P := fun f => CountL f) (carryL (P := fun f => CountL f) (carryL (P := fun f => CountL f) count_E35 (by decide)) (by decide)) (by decide)) (by decide)) (by decide)) (by decide))
theorem entries_E41 : EntriesL (E41 18) := (carryL (P := fun f => EntriesL f) (carryF (P := fun f => EntriesL f) (carryL (P := fun f => EntriesL f) (carryL (P := fun f => EntriesL f) entries_E37 (by decide)) (by decide)) (by decide)) (by decide))
theorem color_E41 : ColorAtL (E41 11) := (carryL (P := fun f => ColorAtL f) (carryF (P := fun f => ColorAtL f) (carryL (P := fun f => ColorAtL f) (carryL (P := fun f => ColorAtL f) (carryL (P := fun f => ColorAtL f) color_E36 (by decide)) (by decide)) (by decide)) (by decide)) (by decide))
theorem top : Sound Try.prog (withF E41 4 300 (Tells_c 12 6 13 14 15 9 7 10 16 17 18 11)) := sE41.withF mix 300 (by kernel_rfl)
theorem calls (W : World) {os : List (Option AObj)} {ι : Map} (hm : Mem W os ι) {a0 : Int} (w0 : (Lit.int .i64 a0).wf = true) {a1 : Int} (w1 : (Lit.int .i64 a1).wf = true) {u2 : V} {x2 : Value} {z2 : List Int} (r2 : R ι u2 x2) (h2 : ShowsRow (cInt .i64) os u2 z2) (k2 : ∀ x ∈ z2, (cInt .i64).ok x) (y2 : z2.length * 8 ≤ 140737488351232) {u3 : V} {x3 : Value} {z3 : List Int} (r3 : R ι u3 x3) (h3 : ShowsRow (cInt .u8) os u3 z3) (k3 : ∀ x ∈ z3, (cInt .u8).ok x) (y3 : z3.length * 1 ≤ 140737488351232) {a4 : Int} (w4 : (Lit.int .i64 a4).wf = true) {u5 : V} {x5 : Value} {z5 : List Int} (r5 : R ι u5 x5) (h5 : ShowsRow (cInt .i64) os u5 z5) (k5 : ∀ x ∈ z5, (cInt .i64).ok x) (y5 : z5.length * 8 ≤ 140737488351232) {a6 : Int} (w6 : (Lit.int .u8 a6).wf = true) {a7 : Int} (w7 : (Lit.int .i64 a7).wf = true) :
    Calls Try.prog 4 #[.int .i64 a0, .int .i64 a1, x2, x3, .int .i64 a4, x5, .int .u8 a6, .int .i64 a7] W fun e W' => e = .returned (.bool true) ∧ Go.RowKit.Below W.heap.size W W' := by
  refine top.law_mem hm (args := [.int .i64 a0, .int .i64 a1, u2, u3, .int .i64 a4, u5, .int .u8 a6, .int .i64 a7]) (args' := [.int .i64 a0, .int .i64 a1, x2, x3, .int .i64 a4, x5, .int .u8 a6, .int .i64 a7]) ⟨rfl, rfl, r2, r3, rfl, r5, rfl, rfl, trivial⟩ ?_
  rw [withF_same]
  obtain ⟨b, rfl, hb⟩ : ∃ b : Nat, a6 = (b : Int) ∧ b < 256 := by
    have h : 0 ≤ a6 ∧ a6 < 256 := u8_of_wf w6
    exact ⟨a6.toNat, by omega, by omega⟩
  have hp := bytes_param h3 k3 (by omega)
  exact Tells_run (by omega) pal_E41 lay_E41 rlayp_E41 few_E41 pick_E41 one_E41 (fun st => closed_call) read_E41 rread_E41 count_E41 entries_E41 color_E41 (ints_param h2 k2) ⟨hp.good, hp.look⟩ (by rw [List.length_map]; omega) (ints_param h5 k5) hb
end

set_option maxRecDepth 100000 in
theorem lifted (os : Os) (started : os.Started) (H : Type) (enc : TypeId × Value → H) :
    ReturnsInHanded {} Try.checked os 4 .any (Rows.cpalTellsSpec.pre6 enc Try.prog Try.f4 Rows.cpalTellsRow.domain false) (Rows.cpalTellsSpec.post enc Try.prog Try.f4 false true false false) := by
  refine returnsInHanded_of_change_sized (C := Try.checked) own started (by kernel_rfl) Try.func4
    (ChangeSpec.witness6 (enc := enc) (C := Try.checked) false ⟨#[], #[.int .i64 0, .int .i64 0, .slice none 0 0, .slice none 0 0, .int .i64 0, .slice none 0 0, .int .u8 0, .int .i64 0], []⟩ 8 (by kernel_rfl) (by kernel_rfl) (by kernel_rfl) (by kernel_rfl)) ?_
  intro W base args ds gs before hval0 hW hcnd hsz0 _
  have hsz : (DataW.weightsEach Try.prog (Try.f4.params.toList ++ Rows.cpalTellsSpec.plain.varTypes Try.prog) (ds ++ gs)).all (· ≤ reachBytes) = true := hsz0
  have hval : ∀ (j : Nat) t v, Try.f4.params[j]? = some t → args[j]? = some v → Value.okWide Try.prog W .any base t v := hval0
  have hW' := hW
  obtain ⟨p, q, hA0, hV, rfl, hfz, hnd⟩ := hW
  have hA : DataW.TrodAll enc Try.prog W 0 (fun _ => true) true Try.f4.params.toList args.toList ds p := hA0
  rw [Try.params4] at hA hval hsz
  obtain ⟨v0, vs0, d0, ds0, p0, q0, hargs, rfl, rfl, h0, r0⟩ := trodAll_cons hA
  obtain ⟨v1, vs1, d1, ds1, p1, q1, rfl, rfl, rfl, h1, r1⟩ := trodAll_cons r0
  obtain ⟨v2, vs2, d2, ds2, p2, q2, rfl, rfl, rfl, h2, r2⟩ := trodAll_cons r1
  obtain ⟨v3, vs3, d3, ds3, p3, q3, rfl, rfl, rfl, h3, r3⟩ := trodAll_cons r2
  obtain ⟨v4, vs4, d4, ds4, p4, q4, rfl, rfl, rfl, h4, r4⟩ := trodAll_cons r3
  obtain ⟨v5, vs5, d5, ds5, p5, q5, rfl, rfl, rfl, h5, r5⟩ := trodAll_cons r4
  obtain ⟨v6, vs6, d6, ds6, p6, q6, rfl, rfl, rfl, h6, r6⟩ := trodAll_cons r5
  obtain ⟨v7, vs7, d7, ds7, p7, q7, rfl, rfl, rfl, h7, r7⟩ := trodAll_cons r6
  obtain ⟨rfl, rfl, rfl⟩ := trodAll_nil r7
  obtain rfl : args = #[v0, v1, v2, v3, v4, v5, v6, v7] := by cases args; simp_all
  obtain ⟨rfl, rfl⟩ := trodVars_none hV
  obtain ⟨a0, rfl, rfl, rfl, w0⟩ := open_int Try.underlying3 (hval 0 3 v0 rfl rfl) h0
  obtain ⟨a1, rfl, rfl, rfl, w1⟩ := open_int Try.underlying3 (hval 1 3 v1 rfl rfl) h1
  have k2 := h2
  have lt2 : ∀ x ∈ p2, x.block < W.heap.size := by obtain ⟨m, hm⟩ := k2; exact DataW.trod_lt m _ _ _ hm
  obtain ⟨os2, ι2, u2, z2, m2, sub2, more2, rr2, ss2, kk2, yy2⟩ := param_slice (j := 2) (t := 41) (opens_row (B := 8) Try.underlying41 (by kernel_rfl) (by kernel_rfl) (by decide) (opens_int Try.underlying3)) Try.underlying41 (hval 2 41 v2 rfl rfl) h2 hsz rfl rfl (Go.Vabs.Mem.nil W)
  have k3 := h3
  have lt3 : ∀ x ∈ p3, x.block < W.heap.size := by obtain ⟨m, hm⟩ := k3; exact DataW.trod_lt m _ _ _ hm
  obtain ⟨os3, ι3, u3, z3, m3, sub3, more3, rr3, ss3, kk3, yy3⟩ := param_slice (j := 3) (t := 22) (opens_row (B := 1) Try.underlying22 (by kernel_rfl) (by kernel_rfl) (by decide) (opens_int Try.underlying5)) Try.underlying22 (hval 3 22 v3 rfl rfl) h3 hsz rfl rfl m2
  obtain ⟨a4, rfl, rfl, rfl, w4⟩ := open_int Try.underlying3 (hval 4 3 v4 rfl rfl) h4
  have k5 := h5
  have lt5 : ∀ x ∈ p5, x.block < W.heap.size := by obtain ⟨m, hm⟩ := k5; exact DataW.trod_lt m _ _ _ hm
  obtain ⟨os5, ι5, u5, z5, m5, sub5, more5, rr5, ss5, kk5, yy5⟩ := param_slice (j := 5) (t := 41) (opens_row (B := 8) Try.underlying41 (by kernel_rfl) (by kernel_rfl) (by decide) (opens_int Try.underlying3)) Try.underlying41 (hval 5 41 v5 rfl rfl) h5 hsz rfl rfl m3
  obtain ⟨a6, rfl, rfl, rfl, w6⟩ := open_int Try.underlying5 (hval 6 5 v6 rfl rfl) h6
  obtain ⟨a7, rfl, rfl, rfl, w7⟩ := open_int Try.underlying3 (hval 7 3 v7 rfl rfl) h7
  have rr2 := rr2.mono ((sub3.trans sub5))
  have ss2 := ss2.mono ((more3.trans more5))
  have rr3 := rr3.mono (sub5)
  have ss3 := ss3.mono (more5)
  clear hA0 hval0 hsz0 hsz
  refine (calls W m5 w0 w1 rr2 ss2 kk2 yy2 rr3 ss3 kk3 yy3 w4 rr5 ss5 kk5 yy5 w6 w7).mono fun e W' ⟨he, bel⟩ => ?_
  subst he
  exact ⟨_, rfl, _, _, _, [], _, [], hW', trodAll_mk1 (shut_bool Try.underlying4 _), (trodAll_cons_mk (shut_int Try.underlying3 w0) (trodAll_cons_mk (shut_int Try.underlying3 w1) (trodAll_cons_mk (Below.trod laidOut (by kernel_rfl) (of_decide_eq_true (by kernel_rfl)) k2 bel lt2) (trodAll_cons_mk (Below.trod laidOut (by kernel_rfl) (of_decide_eq_true (by kernel_rfl)) k3 bel lt3) (trodAll_cons_mk (shut_int Try.underlying3 w4) (trodAll_cons_mk (Below.trod laidOut (by kernel_rfl) (of_decide_eq_true (by kernel_rfl)) k5 bel lt5) (trodAll_cons_mk (shut_int Try.underlying5 w6) (trodAll_cons_mk (shut_int Try.underlying3 w7) trodAll_mk0)))))))), rfl, bel.frame _, fun h => by cases h⟩
theorem over : Rows.cpalTellsRow.holds Try.pinned (OpenSpec.ofChange Rows.cpalTellsSpec) :=
  OpenClaim.holds_of_wide 4 Try.f4 rfl rfl rfl rfl rfl rfl rfl ⟨rfl, rfl, rfl, rfl, rfl⟩ rfl rfl rfl rfl rfl (by kernel_rfl) Try.func4 (by kernel_rfl)
    (of_decide_eq_true (by kernel_rfl)) (by unfold Func.isWrapper; first | (rw [if_pos (by decide +kernel)]; kernel_rfl) | (rw [if_neg (by decide +kernel)]; exact ⟨rfl, rfl⟩))
    (fun os started H enc _ => lifted os started H enc)
theorem proved : Rows.CpalTellsSaid := over
#print axioms proved
end Go.Proofs.Ytbppdahfdjkecaa.cpalTells
namespace Go.Proofs.Ytbppdahfdjkecaa
/-- The row, under a short name, for the claim. -/
theorem cpalTells_holds : Rows.CpalTellsSaid := cpalTells.proved
end Go.Proofs.Ytbppdahfdjkecaa
