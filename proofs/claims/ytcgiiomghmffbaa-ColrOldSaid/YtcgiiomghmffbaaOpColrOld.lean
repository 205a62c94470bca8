/- The sentence ColrOld: its run in the abstract machine ends in true, whatever the arguments are; and the model's run is the abstract machine's. No condition. -/
import Derived.Test.YtcgiiomghmffbaaRows
import Derived.Test.YtcgiiomghmffbaaVabsZj
import Derived.Test.YtcgiiomghmffbaaVabsEd
import Derived.WalkKit
import Derived.ProofKit
import Derived.OpenShut
import Derived.ShutString
import Derived.ChangeOld
import Derived.Below
import Derived.SizedLaws
import Derived.Carry
namespace Go.Proofs.Ytcgiiomghmffbaa.colrOld
open Go.ChangeShapes Go.WideShapes Go.ChangeAt Go.RowKit
open Go.ChangeMaps (open_string shut_string)
open Go.Vabs (param_slice opens_row opens_int opens_bool opens_struct opensF_one opensF_cons)
set_option linter.unusedVariables false
theorem own : ownKnob Try.prog.godebug = none := by kernel_rfl
theorem laidOut : laidOutB Try.prog = true := by kernel_rfl
section
open Go.Vabs Go.Vabs.Ph Go.Vabs.Pk Go.Vabs.L2 Go.Vabs.Sa Go.Vabs.Sb Go.Vabs.Sc Go.Vabs.Se Go.Vabs.Sg Go.Vabs.Sh Go.Vabs.Sn Go.Vabs.Sp Go.Vabs.Sr Go.Vabs.St Go.Vabs.Su Go.Vabs.Na Go.Vabs.Nb Go.Vabs.Ra Go.Vabs.Rb Go.Vabs.Rc Go.Vabs.Rd Go.Vabs.Re Go.Vabs.Ca Go.Vabs.Cb Go.Vabs.Vc Go.Vabs.Da Go.Vabs.Db Go.Vabs.Dd Go.Vabs.De Go.Vabs.Ea Go.Vabs.Eb Go.Vabs.Ec Go.Vabs.Ed Go.Vabs.Ee Go.Vabs.Ef Go.Vabs.Eg
theorem mix : Try.prog.follows .mixedOrders = true := by kernel_rfl
theorem knownRuns : Go.Vabs.isTrue (Go.Vabs.callF (Go.Vabs.table Try.prog 84) 100000 60 11 [] Go.Vabs.st0) = true := by kernel_rfl
noncomputable section
abbrev E0 : CallT := fun _ _ _ => none
abbrev E1 : CallT := withF E0 70 1 there_c
abbrev E2 : CallT := withF E1 58 1 Clone_c
abbrev E3 : CallT := withF E2 8 1 Pick_c
abbrev E4 : CallT := withF E3 71 100 Index_c
abbrev E5 : CallT := withF E4 55 1 (Contains_c 71)
abbrev E6 : CallT := withF E5 42 65 RTable_c
abbrev E7 : CallT := withL E6 59 (lawOf (bytesRd Pk.numS))
abbrev E8 : CallT := withL E7 29 (lawOf (bytesRd (uS 2)))
abbrev E9 : CallT := withL E8 53 (lawOf (bytesRd (uS 4)))
abbrev E10 : CallT := withL E9 54 (lawOf (bytesRdA partS))
abbrev E11 : CallT := withF E10 52 1 (versioned_c 55)
abbrev E12 : CallT := withL E11 26 (lawOf (sightRdN openSpec))
abbrev E13 : CallT := withL E12 28 (lawOf (autoRd E12 1 (Table_c 58)))
abbrev E14 : CallT := withL E13 7 (lawOf (flatRd bigS))
abbrev E15 : CallT := withF E14 51 100 (RLay_c 7)
abbrev E16 : CallT := withF E15 25 1 (Font_c 51)
abbrev E17 : CallT := withL E16 56 (lawOf (bytesRd Pk.numS))
abbrev E18 : CallT := withL E17 57 (lawOf (bytesRdA rpartS))
abbrev E19 : CallT := withL E18 27 (lawOf (sightRdN ropenSpec))
abbrev E20 : CallT := withF E19 9 1 (openT_c 25 26 27)
abbrev E21 : CallT := withF E20 60 1 (Chunk_c 72)
abbrev E22 : CallT := withL E21 61 (lawOf (autoRd E21 1010 (u16s_c 29)))
abbrev E23 : CallT := withF E22 30 100 (plain_c 72 29 53 54 60 61)
abbrev E24 : CallT := withF E23 10 100 (ReadC_c 28 29 30 31)
abbrev E25 : CallT := withF E24 33 1 CloneL_c
abbrev E26 : CallT := withF E25 13 100 (Layers_c 33)
abbrev E27 : CallT := withL E26 11 (lawOf (closedRd (.bool true)))
end
theorem sE0 : Sound Try.prog E0 := Sound.nothing
theorem sE1 : Sound Try.prog E1 := sE0.withF mix 1 (by kernel_rfl)
theorem there_E1 : ThereF E1 70 := ThereF.code
theorem sE2 : Sound Try.prog E2 := sE1.withF mix 1 (by kernel_rfl)
theorem clone_E2 : CloneF E2 58 := CloneF.code
theorem cloneN_E2 : CloneN E2 58 := CloneN.code
theorem sE3 : Sound Try.prog E3 := sE2.withF mix 1 (by kernel_rfl)
theorem pick_E3 : PickF E3 8 := PickF.code
theorem sE4 : Sound Try.prog E4 := sE3.withF mix 100 (by kernel_rfl)
theorem index_E4 : IndexF 100 E4 71 := IndexF.code
theorem sE5 : Sound Try.prog E5 := sE4.withF mix 1 (by kernel_rfl)
theorem cont_E5 : ContF 100 E5 55 := ContF.code index_E4
theorem sE6 : Sound Try.prog E6 := sE5.withF mix 65 (by kernel_rfl)
theorem rtable_E6 : RTableF E6 42 := RTableF.code (by omega)
theorem there_E6 : ThereF E6 70 := (carryF (P := fun f => ThereF (fun _ => f) 70) (carryF (P := fun f => ThereF (fun _ => f) 70) (carryF (P := fun f => ThereF (fun _ => f) 70) (carryF (P := fun f => ThereF (fun _ => f) 70) (carryF (P := fun f => ThereF (fun _ => f) 70) there_E1 (by decide)) (by decide)) (by decide)) (by decide)) (by decide))
theorem sE7 : Sound Try.prog E7 := number_sound mix sE6 (by kernel_rfl) there_E6
theorem num_E7 : NumF E7 59 := number_fact
theorem sE8 : Sound Try.prog E8 := u_sound mix sE7 (n := 59) num_E7 (.inr (.inl ⟨rfl, rfl⟩)) (by kernel_rfl)
theorem u16_E8 : UF 2 E8 29 := uS_fact
theorem num_E8 : NumF E8 59 := (carryL (P := fun f => NumF (fun _ => f) 59) num_E7 (by decide))
theorem sE9 : Sound Try.prog E9 := u_sound mix sE8 (n := 59) num_E8 (.inr (.inr (.inr ⟨rfl, rfl⟩))) (by kernel_rfl)
theorem u32_E9 : UF 4 E9 53 := uS_fact
theorem there_E9 : ThereF E9 70 := (carryL (P := fun f => ThereF (fun _ => f) 70) (carryL (P := fun f => ThereF (fun _ => f) 70) (carryL (P := fun f => ThereF (fun _ => f) 70) there_E6 (by decide)) (by decide)) (by decide))
theorem clone_E9 : CloneF E9 58 := (carryL (P := fun f => CloneF (fun _ => f) 58) (carryL (P := fun f => CloneF (fun _ => f) 58) (carryL (P := fun f => CloneF (fun _ => f) 58) (carryF (P := fun f => CloneF (fun _ => f) 58) (carryF (P := fun f => CloneF (fun _ => f) 58) (carryF (P := fun f => CloneF (fun _ => f) 58) (carryF (P := fun f => CloneF (fun _ => f) 58) clone_E2 (by decide)) (by decide)) (by decide)) (by decide)) (by decide)) (by decide)) (by decide))
theorem sE10 : Sound Try.prog E10 := Part_sound mix sE9 there_E9 clone_E9 (by kernel_rfl)
theorem part_E10 : PartF E10 54 := Part_fact
theorem cont_E10 : ContF 100 E10 55 := (carryL (P := fun f => ContF 100 (fun _ => f) 55) (carryL (P := fun f => ContF 100 (fun _ => f) 55) (carryL (P := fun f => ContF 100 (fun _ => f) 55) (carryL (P := fun f => ContF 100 (fun _ => f) 55) (carryF (P := fun f => ContF 100 (fun _ => f) 55) cont_E5 (by decide)) (by decide)) (by decide)) (by decide)) (by decide))
theorem sE11 : Sound Try.prog E11 := sE10.withF mix 1 (by kernel_rfl)
theorem vers_E11 : VersF E11 52 := VersF_code (by omega) cont_E10
theorem u16_E11 : UF 2 E11 29 := (carryF (P := fun f => UF 2 (fun _ => f) 29) (carryL (P := fun f => UF 2 (fun _ => f) 29) (carryL (P := fun f => UF 2 (fun _ => f) 29) u16_E8 (by decide)) (by decide)) (by decide))
theorem u32_E11 : UF 4 E11 53 := (carryF (P := fun f => UF 4 (fun _ => f) 53) (carryL (P := fun f => UF 4 (fun _ => f) 53) u32_E9 (by decide)) (by decide))
theorem part_E11 : PartF E11 54 := (carryF (P := fun f => PartF (fun _ => f) 54) part_E10 (by decide))
theorem cont_E11 : ContF 100 E11 55 := (carryF (P := fun f => ContF 100 (fun _ => f) 55) cont_E10 (by decide))
theorem sE12 : Sound Try.prog E12 := Open_sound mix sE11 (lf' := 100) (by omega) u16_E11 u32_E11 part_E11 vers_E11 cont_E11 (by kernel_rfl)
theorem open_E12 : OpenF E12 26 := open_fact
theorem clone_E12 : CloneF E12 58 := (carryL (P := fun f => CloneF (fun _ => f) 58) (carryF (P := fun f => CloneF (fun _ => f) 58) (carryL (P := fun f => CloneF (fun _ => f) 58) clone_E9 (by decide)) (by decide)) (by decide))
theorem cloneN_E12 : CloneN E12 58 := (carryL (P := fun f => CloneN (fun _ => f) 58) (carryF (P := fun f => CloneN (fun _ => f) 58) (carryL (P := fun f => CloneN (fun _ => f) 58) (carryL (P := fun f => CloneN (fun _ => f) 58) (carryL (P := fun f => CloneN (fun _ => f) 58) (carryL (P := fun f => CloneN (fun _ => f) 58) (carryF (P := fun f => CloneN (fun _ => f) 58) (carryF (P := fun f => CloneN (fun _ => f) 58) (carryF (P := fun f => CloneN (fun _ => f) 58) (carryF (P := fun f => CloneN (fun _ => f) 58) cloneN_E2 (by decide)) (by decide)) (by decide)) (by decide)) (by decide)) (by decide)) (by decide)) (by decide)) (by decide)) (by decide))
theorem sE13 : Sound Try.prog E13 := Sound.auto mix sE12 1 (by kernel_rfl)
theorem tab_E13 : TabLF E13 28 := TabLF.auto clone_E12 cloneN_E12
theorem sE14 : Sound Try.prog E14 := Big_sound mix sE13 (by kernel_rfl)
theorem big_E14 : BigF E14 7 := big_fact
theorem bigr_E14 : InReg (E14 7) := law_lim (fun _ _ _ => rfl)
theorem sE15 : Sound Try.prog E15 := sE14.withF mix 100 (by kernel_rfl)
theorem rlay_E15 : RLayF E15 51 := RLayF.code (by omega) big_E14
theorem sE16 : Sound Try.prog E16 := sE15.withF mix 1 (by kernel_rfl)
theorem font_E16 : FontF E16 25 := FontF.code rlay_E15
theorem sE17 : Sound Try.prog E17 := Num_sound mix sE16 (by kernel_rfl)
theorem rnum_E17 : NumF E17 56 := number_fact
theorem sE18 : Sound Try.prog E18 := RPart_sound mix sE17 (by kernel_rfl)
theorem rpart_E18 : RPartF E18 57 := RPart_fact
theorem rnum_E18 : NumF E18 56 := (carryL (P := fun f => NumF (fun _ => f) 56) rnum_E17 (by decide))
theorem rtable_E18 : RTableF E18 42 := (carryL (P := fun f => RTableF (fun _ => f) 42) (carryL (P := fun f => RTableF (fun _ => f) 42) (carryF (P := fun f => RTableF (fun _ => f) 42) (carryF (P := fun f => RTableF (fun _ => f) 42) (carryL (P := fun f => RTableF (fun _ => f) 42) (carryL (P := fun f => RTableF (fun _ => f) 42) (carryL (P := fun f => RTableF (fun _ => f) 42) (carryF (P := fun f => RTableF (fun _ => f) 42) (carryL (P := fun f => RTableF (fun _ => f) 42) (carryL (P := fun f => RTableF (fun _ => f) 42) (carryL (P := fun f => RTableF (fun _ => f) 42) (carryL (P := fun f => RTableF (fun _ => f) 42) rtable_E6 (by decide)) (by decide)) (by decide)) (by decide)) (by decide)) (by decide)) (by decide)) (by decide)) (by decide)) (by decide)) (by decide)) (by decide))
theorem sE19 : Sound Try.prog E19 := ROpen_sound mix sE18 rnum_E18 rtable_E18 rpart_E18 (by kernel_rfl)
theorem ropen_E19 : ROpenF E19 27 := ropen_fact
theorem font_E19 : FontF E19 25 := (carryL (P := fun f => FontF (fun _ => f) 25) (carryL (P := fun f => FontF (fun _ => f) 25) (carryL (P := fun f => FontF (fun _ => f) 25) font_E16 (by decide)) (by decide)) (by decide))
theorem open_E19 : OpenF E19 26 := (carryL (P := fun f => OpenF (fun _ => f) 26) (carryL (P := fun f => OpenF (fun _ => f) 26) (carryL (P := fun f => OpenF (fun _ => f) 26) (carryF (P := fun f => OpenF (fun _ => f) 26) (carryF (P := fun f => OpenF (fun _ => f) 26) (carryL (P := fun f => OpenF (fun _ => f) 26) (carryL (P := fun f => OpenF (fun _ => f) 26) open_E12 (by decide)) (by decide)) (by decide)) (by decide)) (by decide)) (by decide)) (by decide))
theorem sE20 : Sound Try.prog E20 := sE19.withF mix 1 (by kernel_rfl)
theorem one_E20 : OneTF E20 9 := OneTF.code font_E19 open_E19 ropen_E19
theorem sE21 : Sound Try.prog E21 := sE20.withF mix 1 (by kernel_rfl)
theorem chunk_E21 : ChunkF 72 E21 60 := ChunkF.code
theorem u16_E21 : UF 2 E21 29 := (carryF (P := fun f => UF 2 (fun _ => f) 29) (carryF (P := fun f => UF 2 (fun _ => f) 29) (carryL (P := fun f => UF 2 (fun _ => f) 29) (carryL (P := fun f => UF 2 (fun _ => f) 29) (carryL (P := fun f => UF 2 (fun _ => f) 29) (carryF (P := fun f => UF 2 (fun _ => f) 29) (carryF (P := fun f => UF 2 (fun _ => f) 29) (carryL (P := fun f => UF 2 (fun _ => f) 29) (carryL (P := fun f => UF 2 (fun _ => f) 29) (carryL (P := fun f => UF 2 (fun _ => f) 29) u16_E11 (by decide)) (by decide)) (by decide)) (by decide)) (by decide)) (by decide)) (by decide)) (by decide)) (by decide)) (by decide))
theorem sE22 : Sound Try.prog E22 := Sound.auto mix sE21 1010 (by kernel_rfl)
theorem u16s_E22 : U16sL (E22 61) := U16sL.auto (by omega) u16_E21
theorem u16sr_E22 : InReg (E22 61) := auto_inReg
theorem u16_E22 : UF 2 E22 29 := (carryL (P := fun f => UF 2 (fun _ => f) 29) u16_E21 (by decide))
theorem u32_E22 : UF 4 E22 53 := (carryL (P := fun f => UF 4 (fun _ => f) 53) (carryF (P := fun f => UF 4 (fun _ => f) 53) (carryF (P := fun f => UF 4 (fun _ => f) 53) (carryL (P := fun f => UF 4 (fun _ => f) 53) (carryL (P := fun f => UF 4 (fun _ => f) 53) (carryL (P := fun f => UF 4 (fun _ => f) 53) (carryF (P := fun f => UF 4 (fun _ => f) 53) (carryF (P := fun f => UF 4 (fun _ => f) 53) (carryL (P := fun f => UF 4 (fun _ => f) 53) (carryL (P := fun f => UF 4 (fun _ => f) 53) (carryL (P := fun f => UF 4 (fun _ => f) 53) u32_E11 (by decide)) (by decide)) (by decide)) (by decide)) (by decide)) (by decide)) (by decide)) (by decide)) (by decide)) (by decide)) (by decide))
theorem part_E22 : PartF E22 54 := (carryL (P := fun f => PartF (fun _ => f) 54) (carryF (P := fun f => PartF (fun _ => f) 54) (carryF (P := fun f => PartF (fun _ => f) 54) (carryL (P := fun f => PartF (fun _ => f) 54) (carryL (P := fun f => PartF (fun _ => f) 54) (carryL (P := fun f => PartF (fun _ => f) 54) (carryF (P := fun f => PartF (fun _ => f) 54) (carryF (P := fun f => PartF (fun _ => f) 54) (carryL (P := fun f => PartF (fun _ => f) 54) (carryL (P := fun f => PartF (fun _ => f) 54) (carryL (P := fun f => PartF (fun _ => f) 54) part_E11 (by decide)) (by decide)) (by decide)) (by decide)) (by decide)) (by decide)) (by decide)) (by decide)) (by decide)) (by decide)) (by decide))
theorem chunk_E22 : ChunkF 72 E22 60 := (carryL (P := fun f => ChunkF 72 (fun _ => f) 60) chunk_E21 (by decide))
theorem sE23 : Sound Try.prog E23 := sE22.withF mix 100 (by kernel_rfl)
theorem plain_E23 : PlainOk E23 30 := PlainOk.code (by omega) u16_E22 u32_E22 part_E22 chunk_E22 u16s_E22 u16sr_E22
theorem tab_E23 : TabLF E23 28 := (carryF (P := fun f => TabLF (fun _ => f) 28) (carryL (P := fun f => TabLF (fun _ => f) 28) (carryF (P := fun f => TabLF (fun _ => f) 28) (carryF (P := fun f => TabLF (fun _ => f) 28) (carryL (P := fun f => TabLF (fun _ => f) 28) (carryL (P := fun f => TabLF (fun _ => f) 28) (carryL (P := fun f => TabLF (fun _ => f) 28) (carryF (P := fun f => TabLF (fun _ => f) 28) (carryF (P := fun f => TabLF (fun _ => f) 28) (carryL (P := fun f => TabLF (fun _ => f) 28) tab_E13 (by decide)) (by decide)) (by decide)) (by decide)) (by decide)) (by decide)) (by decide)) (by decide)) (by decide)) (by decide))
theorem u16_E23 : UF 2 E23 29 := (carryF (P := fun f => UF 2 (fun _ => f) 29) u16_E22 (by decide))
theorem sE24 : Sound Try.prog E24 := sE23.withF mix 100 (by kernel_rfl)
theorem read_E24 : ReadCF E24 10 := ReadCF.code (by omega) tab_E23 u16_E23 plain_E23
theorem sE25 : Sound Try.prog E25 := sE24.withF mix 1 (by kernel_rfl)
theorem clonel_E25 : CloneLF E25 33 := CloneLF.code
theorem clonen_E25 : CloneNil E25 33 := CloneNil.code
theorem sE26 : Sound Try.prog E26 := sE25.withF mix 100 (by kernel_rfl)
theorem layers_E26 : LayersF E26 13 := LayersF.code (by omega) clonel_E25 clonen_E25
theorem sE27 : Sound Try.prog E27 := by
  obtain ⟨s, h⟩ := isTrue_some knownRuns
  exact sE26.closed (Sound.table mix 84 100000 60) h rfl
theorem pick_E27 : PickF E27 8 := (carryL (P := fun f => PickF (fun _ => f) 8) (carryF (P := fun f => PickF (fun _ => f) 8) (carryF (P := fun f => PickF (fun _ => f) 8) (carryF (P := fun f => PickF (fun _ => f) 8) (carryF (P := fun f => PickF (fun _ => f) 8) (carryL (P := fun f => PickF (fun _ => f) 8) (carryF (P := fun f => PickF (fun _ => f) 8) (carryF (P := fun f => PickF (fun _ => f) 8) (carryL (P := fun f => PickF (fun _ => f) 8) (carryL (P := fun f => PickF (fun _ => f) 8) (carryL (P := fun f => PickF (fun _ => f) 8) (carryF (P := fun f => PickF (fun _ => f) 8) (carryF (P := fun f => PickF (fun _ => f) 8) (carryL (P := fun f => PickF (fun _ => f) 8) (carryL (P := fun f => PickF (fun _ => f) 8) (carryL (P := fun f => PickF (fun _ => f) 8) (carryF (P := fun f => PickF (fun _ => f) 8) (carryL (P := fun f => PickF (fun _ => f) 8) (carryL (P := fun f => PickF (fun _ => f) 8) (carryL (P := fun f => PickF (fun _ => f) 8) (carryL (P := fun f => PickF (fun _ => f) 8) (carryF (P := fun f => PickF (fun _ => f) 8) (carryF (P := fun f => PickF (fun _ => f) 8) (carryF (P := fun f => PickF (fun _ => f) 8) pick_E3 (by decide)) (by decide)) (by decide)) (by decide)) (by decide)) (by decide)) (by decide)) (by decide)) (by decide)) (by decide)) (by decide)) (by decide)) (by decide)) (by decide)) (by decide)) (by decide)) (by decide)) (by decide)) (by decide)) (by decide)) (by decide)) (by decide)) (by decide)) (by decide))
theorem big_E27 : BigF E27 7 := (carryL (P := fun f => BigF (fun _ => f) 7) (carryF (P := fun f => BigF (fun _ => f) 7) (carryF (P := fun f => BigF (fun _ => f) 7) (carryF (P := fun f => BigF (fun _ => f) 7) (carryF (P := fun f => BigF (fun _ => f) 7) (carryL (P := fun f => BigF (fun _ => f) 7) (carryF (P := fun f => BigF (fun _ => f) 7) (carryF (P := fun f => BigF (fun _ => f) 7) (carryL (P := fun f => BigF (fun _ => f) 7) (carryL (P := fun f => BigF (fun _ => f) 7) (carryL (P := fun f => BigF (fun _ => f) 7) (carryF (P := fun f => BigF (fun _ => f) 7) (carryF (P := fun f => BigF (fun _ => f) 7) big_E14 (by decide)) (by decide)) (by decide)) (by decide)) (by decide)) (by decide)) (by decide)) (by decide)) (by decide)) (by decide)) (by decide)) (by decide)) (by decide))
theorem bigr_E27 : InReg (E27 7) := (carryL (P := fun f => InReg f) (carryF (P := fun f => InReg f) (carryF (P := fun f => InReg f) (carryF (P := fun f => InReg f) (carryF (P := fun f => InReg f) (carryL (P := fun f => InReg f) (carryF (P := fun f => InReg f) (carryF (P := fun f => InReg f) (carryL (P := fun f => InReg f) (carryL (P := fun f => InReg f) (carryL (P := fun f => InReg f) (carryF (P := fun f => InReg f) (carryF (P := fun f => InReg f) bigr_E14 (by decide)) (by decide)) (by decide)) (by decide)) (by decide)) (by decide)) (by decide)) (by decide)) (by decide)) (by decide)) (by decide)) (by decide)) (by decide))
theorem one_E27 : OneTF E27 9 := (carryL (P := fun f => OneTF (fun _ => f) 9) (carryF (P := fun f => OneTF (fun _ => f) 9) (carryF (P := fun f => OneTF (fun _ => f) 9) (carryF (P := fun f => OneTF (fun _ => f) 9) (carryF (P := fun f => OneTF (fun _ => f) 9) (carryL (P := fun f => OneTF (fun _ => f) 9) (carryF (P := fun f => OneTF (fun _ => f) 9) one_E20 (by decide)) (by decide)) (by decide)) (by decide)) (by decide)) (by decide)) (by decide))
theorem read_E27 : ReadCF E27 10 := (carryL (P := fun f => ReadCF (fun _ => f) 10) (carryF (P := fun f => ReadCF (fun _ => f) 10) (carryF (P := fun f => ReadCF (fun _ => f) 10) read_E24 (by decide)) (by decide)) (by decide))
theorem layers_E27 : LayersF E27 13 := (carryL (P := fun f => LayersF (fun _ => f) 13) layers_E26 (by decide))
theorem top : Sound Try.prog (withF E27 4 100 (Old_c 8 7 9 10 11 13)) := sE27.withF mix 100 (by kernel_rfl)
theorem calls (W : World) {os : List (Option AObj)} {ι : Map} (hm : Mem W os ι) {u0 : V} {x0 : Value} {z0 : List Int} (r0 : R ι u0 x0) (h0 : ShowsRow (cInt .i64) os u0 z0) (k0 : ∀ x ∈ z0, (cInt .i64).ok x) (y0 : z0.length * 8 ≤ 140737488351232) {u1 : V} {x1 : Value} {z1 : List Int} (r1 : R ι u1 x1) (h1 : ShowsRow (cInt .i64) os u1 z1) (k1 : ∀ x ∈ z1, (cInt .i64).ok x) (y1 : z1.length * 8 ≤ 140737488351232) {a2 : Int} (w2 : (Lit.int .i64 a2).wf = true) :
    Calls Try.prog 4 #[x0, x1, .int .i64 a2] W fun e W' => e = .returned (.bool true) ∧ Go.RowKit.Below W.heap.size W W' := by
  refine top.law_mem hm (args := [u0, u1, .int .i64 a2]) (args' := [x0, x1, .int .i64 a2]) ⟨r0, r1, rfl, trivial⟩ ?_
  rw [withF_same]
  exact Old_run (by omega) pick_E27 big_E27 bigr_E27 one_E27 read_E27 (fun st => closed_call) layers_E27 (ints_param h0 k0) (ints_param h1 k1) (by omega) (by omega)
end

set_option maxRecDepth 100000 in
theorem lifted (os : Os) (started : os.Started) (H : Type) (enc : TypeId × Value → H) :
    ReturnsInHanded {} Try.checked os 4 .any (Rows.colrOldSpec.pre6 enc Try.prog Try.f4 Rows.colrOldRow.domain false) (Rows.colrOldSpec.post enc Try.prog Try.f4 false true false false) := by
  refine returnsInHanded_of_change_sized (C := Try.checked) own started (by kernel_rfl) Try.func4
    (ChangeSpec.witness6 (enc := enc) (C := Try.checked) false ⟨#[], #[.slice none 0 0, .slice none 0 0, .int .i64 0], []⟩ 8 (by kernel_rfl) (by kernel_rfl) (by kernel_rfl) (by kernel_rfl)) ?_
  intro W base args ds gs before hval0 hW hcnd hsz0 _
  have hsz : (DataW.weightsEach Try.prog (Try.f4.params.toList ++ Rows.colrOldSpec.plain.varTypes Try.prog) (ds ++ gs)).all (· ≤ reachBytes) = true := hsz0
  have hval : ∀ (j : Nat) t v, Try.f4.params[j]? = some t → args[j]? = some v → Value.okWide Try.prog W .any base t v := hval0
  have hW' := hW
  obtain ⟨p, q, hA0, hV, rfl, hfz, hnd⟩ := hW
  have hA : DataW.TrodAll enc Try.prog W 0 (fun _ => true) true Try.f4.params.toList args.toList ds p := hA0
  rw [Try.params4] at hA hval hsz
  obtain ⟨v0, vs0, d0, ds0, p0, q0, hargs, rfl, rfl, h0, r0⟩ := trodAll_cons hA
  obtain ⟨v1, vs1, d1, ds1, p1, q1, rfl, rfl, rfl, h1, r1⟩ := trodAll_cons r0
  obtain ⟨v2, vs2, d2, ds2, p2, q2, rfl, rfl, rfl, h2, r2⟩ := trodAll_cons r1
  obtain ⟨rfl, rfl, rfl⟩ := trodAll_nil r2
  obtain rfl : args = #[v0, v1, v2] := by cases args; simp_all
  obtain ⟨rfl, rfl⟩ := trodVars_none hV
  have k0 := h0
  have lt0 : ∀ x ∈ p0, x.block < W.heap.size := by obtain ⟨m, hm⟩ := k0; exact DataW.trod_lt m _ _ _ hm
  obtain ⟨os0, ι0, u0, z0, m0, sub0, more0, rr0, ss0, kk0, yy0⟩ := param_slice (j := 0) (t := 22) (opens_row (B := 8) Try.underlying22 (by kernel_rfl) (by kernel_rfl) (by decide) (opens_int Try.underlying3)) Try.underlying22 (hval 0 22 v0 rfl rfl) h0 hsz rfl rfl (Go.Vabs.Mem.nil W)
  have k1 := h1
  have lt1 : ∀ x ∈ p1, x.block < W.heap.size := by obtain ⟨m, hm⟩ := k1; exact DataW.trod_lt m _ _ _ hm
  obtain ⟨os1, ι1, u1, z1, m1, sub1, more1, rr1, ss1, kk1, yy1⟩ := param_slice (j := 1) (t := 22) (opens_row (B := 8) Try.underlying22 (by kernel_rfl) (by kernel_rfl) (by decide) (opens_int Try.underlying3)) Try.underlying22 (hval 1 22 v1 rfl rfl) h1 hsz rfl rfl m0
  obtain ⟨a2, rfl, rfl, rfl, w2⟩ := open_int Try.underlying3 (hval 2 3 v2 rfl rfl) h2
  have rr0 := rr0.mono (sub1)
  have ss0 := ss0.mono (more1)
  clear hA0 hval0 hsz0 hsz
  refine (calls W m1 rr0 ss0 kk0 yy0 rr1 ss1 kk1 yy1 w2).mono fun e W' ⟨he, bel⟩ => ?_
  subst he
  exact ⟨_, rfl, _, _, _, [], _, [], hW', trodAll_mk1 (shut_bool Try.underlying4 _), (trodAll_cons_mk (Below.trod laidOut (by kernel_rfl) (of_decide_eq_true (by kernel_rfl)) k0 bel lt0) (trodAll_cons_mk (Below.trod laidOut (by kernel_rfl) (of_decide_eq_true (by kernel_rfl)) k1 bel lt1) (trodAll_cons_mk (shut_int Try.underlying3 w2) trodAll_mk0))), rfl, bel.frame _, fun h => by cases h⟩
theorem over : Rows.colrOldRow.holds Try.pinned (OpenSpec.ofChange Rows.colrOldSpec) :=
  OpenClaim.holds_of_wide 4 Try.f4 rfl rfl rfl rfl rfl rfl rfl ⟨rfl, rfl, rfl, rfl, rfl⟩ rfl rfl rfl rfl rfl (by kernel_rfl) Try.func4 (by kernel_rfl)
    (of_decide_eq_true (by kernel_rfl)) (by unfold Func.isWrapper; first | (rw [if_pos (by decide +kernel)]; kernel_rfl) | (rw [if_neg (by decide +kernel)]; exact ⟨rfl, rfl⟩))
    (fun os started H enc _ => lifted os started H enc)
theorem proved : Rows.ColrOldSaid := over
#print axioms proved
end Go.Proofs.Ytcgiiomghmffbaa.colrOld
namespace Go.Proofs.Ytcgiiomghmffbaa
/-- The row, under a short name, for the claim. -/
theorem colrOld_holds : Rows.ColrOldSaid := colrOld.proved
end Go.Proofs.Ytcgiiomghmffbaa
