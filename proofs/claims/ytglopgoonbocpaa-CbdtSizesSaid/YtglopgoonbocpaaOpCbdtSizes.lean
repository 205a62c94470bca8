/- The sentence CbdtSizes: its run in the abstract machine ends in true, whatever the arguments are; and the model's run is the abstract machine's. No condition. -/
import Derived.Test.YtglopgoonbocpaaRows
import Derived.Test.YtglopgoonbocpaaVabsZj
import Derived.Test.YtglopgoonbocpaaVabsCg
import Derived.WalkKit
import Derived.ProofKit
import Derived.OpenShut
import Derived.ShutString
import Derived.ChangeOld
import Derived.Below
import Derived.SizedLaws
import Derived.Carry
namespace Go.Proofs.Ytglopgoonbocpaa.cbdtSizes
open Go.ChangeShapes Go.WideShapes Go.ChangeAt Go.RowKit
open Go.ChangeMaps (open_string shut_string)
open Go.Vabs (param_slice opens_row opens_int opens_bool opens_struct opensF_one opensF_cons)
set_option linter.unusedVariables false
theorem own : ownKnob Try.prog.godebug = none := by kernel_rfl
theorem laidOut : laidOutB Try.prog = true := by kernel_rfl
section
open Go.Vabs Go.Vabs.Ph Go.Vabs.Pk Go.Vabs.L2 Go.Vabs.Sa Go.Vabs.Sb Go.Vabs.Sc Go.Vabs.Se Go.Vabs.Sg Go.Vabs.Sh Go.Vabs.Sn Go.Vabs.Sp Go.Vabs.Sr Go.Vabs.St Go.Vabs.Su Go.Vabs.Na Go.Vabs.Nb Go.Vabs.Ra Go.Vabs.Rb Go.Vabs.Rc Go.Vabs.Rd Go.Vabs.Re Go.Vabs.Ca Go.Vabs.Cb Go.Vabs.Cc Go.Vabs.Cd Go.Vabs.Ce Go.Vabs.Vc Go.Vabs.Cf Go.Vabs.Cg Go.Vabs.Ch Go.Vabs.Ci Go.Vabs.Cj Go.Vabs.Ck
theorem mix : Try.prog.follows .mixedOrders = true := by kernel_rfl
theorem knownRuns : Go.Vabs.isTrue (Go.Vabs.callF (Go.Vabs.table Try.prog 41) 100000 60 9 [] Go.Vabs.st0) = true := by kernel_rfl
noncomputable section
abbrev E0 : CallT := fun _ _ _ => none
abbrev E1 : CallT := withF E0 25 1 there_c
abbrev E2 : CallT := withF E1 26 1 Clone_c
abbrev E3 : CallT := withF E2 5 1 Pick_c
abbrev E4 : CallT := withF E3 27 100 Index_c
abbrev E5 : CallT := withF E4 15 1 (Contains_c 27)
abbrev E6 : CallT := withL E5 24 (lawOf (bytesRd Pk.numS))
abbrev E7 : CallT := withL E6 11 (lawOf (bytesRd (uS 2)))
abbrev E8 : CallT := withL E7 13 (lawOf (bytesRd (uS 4)))
abbrev E9 : CallT := withL E8 29 (lawOf (bytesRd (uS 1)))
abbrev E10 : CallT := withL E9 14 (lawOf (bytesRdA partS))
abbrev E11 : CallT := withF E10 12 1 (versioned_c 15)
abbrev E12 : CallT := withL E11 7 (lawOf (sightRdN openSpec))
abbrev E13 : CallT := withL E12 16 (lawOf (autoRd E12 1 (Table_c 26)))
abbrev E14 : CallT := withL E13 4 (lawOf (flatRd bigS))
abbrev E15 : CallT := withF E14 10 100 (RLay_c 4)
abbrev E16 : CallT := withF E15 6 1 (Font_c 10)
abbrev E17 : CallT := withF E16 28 1 (Chunk_c 36)
abbrev E18 : CallT := withL E17 17 (lawOf (autoRd E17 80 (sizesOf_c 36 11 13 14 28 29)))
abbrev E19 : CallT := withL E18 18 (lawOf (autoRd E18 80 chosen5_c))
abbrev E20 : CallT := withL E19 19 (lawOf (autoRd E19 80 (Cc.entry_c 36 14 28 11 13)))
abbrev E21 : CallT := withF E20 30 1 (Cc.pair_c 13 11)
abbrev E22 : CallT := withL E21 20 (lawOf (autoRd E21 1 (Cc.placed_c 30 31 32 33)))
abbrev E23 : CallT := withL E22 21 (lawOf (autoRd E22 1 (Cc.imageC_c 14 13)))
abbrev E24 : CallT := withL E23 8 (lawOf (autoRd E23 1 (FindC_c 16 17 18 19 11 13 20 14 21)))
abbrev E25 : CallT := withL E24 9 (lawOf (closedRd (.bool true)))
end
theorem sE0 : Sound Try.prog E0 := Sound.nothing
theorem sE1 : Sound Try.prog E1 := sE0.withF mix 1 (by kernel_rfl)
theorem there_E1 : ThereF E1 25 := ThereF.code
theorem sE2 : Sound Try.prog E2 := sE1.withF mix 1 (by kernel_rfl)
theorem clone_E2 : CloneF E2 26 := CloneF.code
theorem cloneN_E2 : CloneN E2 26 := CloneN.code
theorem sE3 : Sound Try.prog E3 := sE2.withF mix 1 (by kernel_rfl)
theorem pick_E3 : PickF E3 5 := PickF.code
theorem sE4 : Sound Try.prog E4 := sE3.withF mix 100 (by kernel_rfl)
theorem index_E4 : IndexF 100 E4 27 := IndexF.code
theorem sE5 : Sound Try.prog E5 := sE4.withF mix 1 (by kernel_rfl)
theorem cont_E5 : ContF 100 E5 15 := ContF.code index_E4
theorem there_E5 : ThereF E5 25 := (carryF (P := fun f => ThereF (fun _ => f) 25) (carryF (P := fun f => ThereF (fun _ => f) 25) (carryF (P := fun f => ThereF (fun _ => f) 25) (carryF (P := fun f => ThereF (fun _ => f) 25) there_E1 (by decide)) (by decide)) (by decide)) (by decide))
theorem sE6 : Sound Try.prog E6 := number_sound mix sE5 (by kernel_rfl) there_E5
theorem num_E6 : NumF E6 24 := number_fact
theorem sE7 : Sound Try.prog E7 := u_sound mix sE6 (n := 24) num_E6 (.inr (.inl ⟨rfl, rfl⟩)) (by kernel_rfl)
theorem u16_E7 : UF 2 E7 11 := uS_fact
theorem num_E7 : NumF E7 24 := (carryL (P := fun f => NumF (fun _ => f) 24) num_E6 (by decide))
theorem sE8 : Sound Try.prog E8 := u_sound mix sE7 (n := 24) num_E7 (.inr (.inr (.inr ⟨rfl, rfl⟩))) (by kernel_rfl)
theorem u32_E8 : UF 4 E8 13 := uS_fact
theorem num_E8 : NumF E8 24 := (carryL (P := fun f => NumF (fun _ => f) 24) num_E7 (by decide))
theorem sE9 : Sound Try.prog E9 := u_sound mix sE8 (n := 24) num_E8 (.inl ⟨rfl, rfl⟩) (by kernel_rfl)
theorem u8_E9 : UF 1 E9 29 := uS_fact
theorem there_E9 : ThereF E9 25 := (carryL (P := fun f => ThereF (fun _ => f) 25) (carryL (P := fun f => ThereF (fun _ => f) 25) (carryL (P := fun f => ThereF (fun _ => f) 25) (carryL (P := fun f => ThereF (fun _ => f) 25) there_E5 (by decide)) (by decide)) (by decide)) (by decide))
theorem clone_E9 : CloneF E9 26 := (carryL (P := fun f => CloneF (fun _ => f) 26) (carryL (P := fun f => CloneF (fun _ => f) 26) (carryL (P := fun f => CloneF (fun _ => f) 26) (carryL (P := fun f => CloneF (fun _ => f) 26) (carryF (P := fun f => CloneF (fun _ => f) 26) (carryF (P := fun f => CloneF (fun _ => f) 26) (carryF (P := fun f => CloneF (fun _ => f) 26) clone_E2 (by decide)) (by decide)) (by decide)) (by decide)) (by decide)) (by decide)) (by decide))
theorem sE10 : Sound Try.prog E10 := Part_sound mix sE9 there_E9 clone_E9 (by kernel_rfl)
theorem part_E10 : PartF E10 14 := Part_fact
theorem cont_E10 : ContF 100 E10 15 := (carryL (P := fun f => ContF 100 (fun _ => f) 15) (carryL (P := fun f => ContF 100 (fun _ => f) 15) (carryL (P := fun f => ContF 100 (fun _ => f) 15) (carryL (P := fun f => ContF 100 (fun _ => f) 15) (carryL (P := fun f => ContF 100 (fun _ => f) 15) cont_E5 (by decide)) (by decide)) (by decide)) (by decide)) (by decide))
theorem sE11 : Sound Try.prog E11 := sE10.withF mix 1 (by kernel_rfl)
theorem vers_E11 : VersF E11 12 := VersF_code (by omega) cont_E10
theorem u16_E11 : UF 2 E11 11 := (carryF (P := fun f => UF 2 (fun _ => f) 11) (carryL (P := fun f => UF 2 (fun _ => f) 11) (carryL (P := fun f => UF 2 (fun _ => f) 11) (carryL (P := fun f => UF 2 (fun _ => f) 11) u16_E7 (by decide)) (by decide)) (by decide)) (by decide))
theorem u32_E11 : UF 4 E11 13 := (carryF (P := fun f => UF 4 (fun _ => f) 13) (carryL (P := fun f => UF 4 (fun _ => f) 13) (carryL (P := fun f => UF 4 (fun _ => f) 13) u32_E8 (by decide)) (by decide)) (by decide))
theorem part_E11 : PartF E11 14 := (carryF (P := fun f => PartF (fun _ => f) 14) part_E10 (by decide))
theorem cont_E11 : ContF 100 E11 15 := (carryF (P := fun f => ContF 100 (fun _ => f) 15) cont_E10 (by decide))
theorem sE12 : Sound Try.prog E12 := Open_sound mix sE11 (lf' := 100) (by omega) u16_E11 u32_E11 part_E11 vers_E11 cont_E11 (by kernel_rfl)
theorem open_E12 : OpenF E12 7 := open_fact
theorem clone_E12 : CloneF E12 26 := (carryL (P := fun f => CloneF (fun _ => f) 26) (carryF (P := fun f => CloneF (fun _ => f) 26) (carryL (P := fun f => CloneF (fun _ => f) 26) clone_E9 (by decide)) (by decide)) (by decide))
theorem cloneN_E12 : CloneN E12 26 := (carryL (P := fun f => CloneN (fun _ => f) 26) (carryF (P := fun f => CloneN (fun _ => f) 26) (carryL (P := fun f => CloneN (fun _ => f) 26) (carryL (P := fun f => CloneN (fun _ => f) 26) (carryL (P := fun f => CloneN (fun _ => f) 26) (carryL (P := fun f => CloneN (fun _ => f) 26) (carryL (P := fun f => CloneN (fun _ => f) 26) (carryF (P := fun f => CloneN (fun _ => f) 26) (carryF (P := fun f => CloneN (fun _ => f) 26) (carryF (P := fun f => CloneN (fun _ => f) 26) cloneN_E2 (by decide)) (by decide)) (by decide)) (by decide)) (by decide)) (by decide)) (by decide)) (by decide)) (by decide)) (by decide))
theorem sE13 : Sound Try.prog E13 := Sound.auto mix sE12 1 (by kernel_rfl)
theorem tab_E13 : TabLF E13 16 := TabLF.auto clone_E12 cloneN_E12
theorem sE14 : Sound Try.prog E14 := Big_sound mix sE13 (by kernel_rfl)
theorem big_E14 : BigF E14 4 := big_fact
theorem sE15 : Sound Try.prog E15 := sE14.withF mix 100 (by kernel_rfl)
theorem rlay_E15 : RLayF E15 10 := RLayF.code (by omega) big_E14
theorem sE16 : Sound Try.prog E16 := sE15.withF mix 1 (by kernel_rfl)
theorem font_E16 : FontF E16 6 := FontF.code rlay_E15
theorem sE17 : Sound Try.prog E17 := sE16.withF mix 1 (by kernel_rfl)
theorem chunk_E17 : ChunkF 36 E17 28 := ChunkF.code
theorem u8_E17 : UF 1 E17 29 := (carryF (P := fun f => UF 1 (fun _ => f) 29) (carryF (P := fun f => UF 1 (fun _ => f) 29) (carryF (P := fun f => UF 1 (fun _ => f) 29) (carryL (P := fun f => UF 1 (fun _ => f) 29) (carryL (P := fun f => UF 1 (fun _ => f) 29) (carryL (P := fun f => UF 1 (fun _ => f) 29) (carryF (P := fun f => UF 1 (fun _ => f) 29) (carryL (P := fun f => UF 1 (fun _ => f) 29) u8_E9 (by decide)) (by decide)) (by decide)) (by decide)) (by decide)) (by decide)) (by decide)) (by decide))
theorem u16_E17 : UF 2 E17 11 := (carryF (P := fun f => UF 2 (fun _ => f) 11) (carryF (P := fun f => UF 2 (fun _ => f) 11) (carryF (P := fun f => UF 2 (fun _ => f) 11) (carryL (P := fun f => UF 2 (fun _ => f) 11) (carryL (P := fun f => UF 2 (fun _ => f) 11) (carryL (P := fun f => UF 2 (fun _ => f) 11) u16_E11 (by decide)) (by decide)) (by decide)) (by decide)) (by decide)) (by decide))
theorem u32_E17 : UF 4 E17 13 := (carryF (P := fun f => UF 4 (fun _ => f) 13) (carryF (P := fun f => UF 4 (fun _ => f) 13) (carryF (P := fun f => UF 4 (fun _ => f) 13) (carryL (P := fun f => UF 4 (fun _ => f) 13) (carryL (P := fun f => UF 4 (fun _ => f) 13) (carryL (P := fun f => UF 4 (fun _ => f) 13) u32_E11 (by decide)) (by decide)) (by decide)) (by decide)) (by decide)) (by decide))
theorem part_E17 : PartF E17 14 := (carryF (P := fun f => PartF (fun _ => f) 14) (carryF (P := fun f => PartF (fun _ => f) 14) (carryF (P := fun f => PartF (fun _ => f) 14) (carryL (P := fun f => PartF (fun _ => f) 14) (carryL (P := fun f => PartF (fun _ => f) 14) (carryL (P := fun f => PartF (fun _ => f) 14) part_E11 (by decide)) (by decide)) (by decide)) (by decide)) (by decide)) (by decide))
theorem sE18 : Sound Try.prog E18 := Sound.auto mix sE17 80 (by kernel_rfl)
theorem sizes_E18 : SizesL (E18 17) := SizesL.auto (by omega) u8_E17 u16_E17 u32_E17 part_E17 chunk_E17
theorem sE19 : Sound Try.prog E19 := Sound.auto mix sE18 80 (by kernel_rfl)
theorem chosen_E19 : ChosenL (E19 18) := ChosenL.auto (by omega)
theorem u16_E19 : UF 2 E19 11 := (carryL (P := fun f => UF 2 (fun _ => f) 11) (carryL (P := fun f => UF 2 (fun _ => f) 11) u16_E17 (by decide)) (by decide))
theorem u32_E19 : UF 4 E19 13 := (carryL (P := fun f => UF 4 (fun _ => f) 13) (carryL (P := fun f => UF 4 (fun _ => f) 13) u32_E17 (by decide)) (by decide))
theorem part_E19 : PartF E19 14 := (carryL (P := fun f => PartF (fun _ => f) 14) (carryL (P := fun f => PartF (fun _ => f) 14) part_E17 (by decide)) (by decide))
theorem chunk_E19 : ChunkF 36 E19 28 := (carryL (P := fun f => ChunkF 36 (fun _ => f) 28) (carryL (P := fun f => ChunkF 36 (fun _ => f) 28) chunk_E17 (by decide)) (by decide))
theorem sE20 : Sound Try.prog E20 := Sound.auto mix sE19 80 (by kernel_rfl)
theorem entry_E20 : EntryL (E20 19) := EntryL.auto (by omega) u16_E19 u32_E19 part_E19 chunk_E19
theorem entryno_E20 : EntryNoL (E20 19) := EntryNoL.auto
theorem u32_E20 : UF 4 E20 13 := (carryL (P := fun f => UF 4 (fun _ => f) 13) u32_E19 (by decide))
theorem sE21 : Sound Try.prog E21 := sE20.withF mix 1 (by kernel_rfl)
theorem pair_E21 : Pair5F E21 30 := Pair5F.code u32_E20
theorem sE22 : Sound Try.prog E22 := Sound.auto mix sE21 1 (by kernel_rfl)
theorem placed_E22 : PlacedL (E22 20) := PlacedL.auto pair_E21
theorem part_E22 : PartF E22 14 := (carryL (P := fun f => PartF (fun _ => f) 14) (carryF (P := fun f => PartF (fun _ => f) 14) (carryL (P := fun f => PartF (fun _ => f) 14) part_E19 (by decide)) (by decide)) (by decide))
theorem u32_E22 : UF 4 E22 13 := (carryL (P := fun f => UF 4 (fun _ => f) 13) (carryF (P := fun f => UF 4 (fun _ => f) 13) u32_E20 (by decide)) (by decide))
theorem sE23 : Sound Try.prog E23 := Sound.auto mix sE22 1 (by kernel_rfl)
theorem image_E23 : ImageL (E23 21) := ImageL.auto part_E22 u32_E22
theorem tab_E23 : TabLF E23 16 := (carryL (P := fun f => TabLF (fun _ => f) 16) (carryL (P := fun f => TabLF (fun _ => f) 16) (carryF (P := fun f => TabLF (fun _ => f) 16) (carryL (P := fun f => TabLF (fun _ => f) 16) (carryL (P := fun f => TabLF (fun _ => f) 16) (carryL (P := fun f => TabLF (fun _ => f) 16) (carryF (P := fun f => TabLF (fun _ => f) 16) (carryF (P := fun f => TabLF (fun _ => f) 16) (carryF (P := fun f => TabLF (fun _ => f) 16) (carryL (P := fun f => TabLF (fun _ => f) 16) tab_E13 (by decide)) (by decide)) (by decide)) (by decide)) (by decide)) (by decide)) (by decide)) (by decide)) (by decide)) (by decide))
theorem sizes_E23 : SizesL (E23 17) := (carryL (P := fun f => SizesL f) (carryL (P := fun f => SizesL f) (carryF (P := fun f => SizesL f) (carryL (P := fun f => SizesL f) (carryL (P := fun f => SizesL f) sizes_E18 (by decide)) (by decide)) (by decide)) (by decide)) (by decide))
theorem chosen_E23 : ChosenL (E23 18) := (carryL (P := fun f => ChosenL f) (carryL (P := fun f => ChosenL f) (carryF (P := fun f => ChosenL f) (carryL (P := fun f => ChosenL f) chosen_E19 (by decide)) (by decide)) (by decide)) (by decide))
theorem entry_E23 : EntryL (E23 19) := (carryL (P := fun f => EntryL f) (carryL (P := fun f => EntryL f) (carryF (P := fun f => EntryL f) entry_E20 (by decide)) (by decide)) (by decide))
theorem u16_E23 : UF 2 E23 11 := (carryL (P := fun f => UF 2 (fun _ => f) 11) (carryL (P := fun f => UF 2 (fun _ => f) 11) (carryF (P := fun f => UF 2 (fun _ => f) 11) (carryL (P := fun f => UF 2 (fun _ => f) 11) u16_E19 (by decide)) (by decide)) (by decide)) (by decide))
theorem u32_E23 : UF 4 E23 13 := (carryL (P := fun f => UF 4 (fun _ => f) 13) u32_E22 (by decide))
theorem placed_E23 : PlacedL (E23 20) := (carryL (P := fun f => PlacedL f) placed_E22 (by decide))
theorem part_E23 : PartF E23 14 := (carryL (P := fun f => PartF (fun _ => f) 14) part_E22 (by decide))
theorem entryno_E23 : EntryNoL (E23 19) := (carryL (P := fun f => EntryNoL f) (carryL (P := fun f => EntryNoL f) (carryF (P := fun f => EntryNoL f) entryno_E20 (by decide)) (by decide)) (by decide))
theorem sE24 : Sound Try.prog E24 := Sound.auto mix sE23 1 (by kernel_rfl)
theorem find_E24 : FindL (E24 8) := FindL.auto tab_E23 sizes_E23 chosen_E23 entry_E23 u16_E23 u32_E23 placed_E23 part_E23 image_E23
theorem findno_E24 : FindNoL (E24 8) := FindNoL.auto tab_E23 sizes_E23 chosen_E23 entryno_E23
theorem sE25 : Sound Try.prog E25 := by
  obtain ⟨s, h⟩ := isTrue_some knownRuns
  exact sE24.closed (Sound.table mix 41 100000 60) h rfl
theorem big_E25 : BigF E25 4 := (carryL (P := fun f => BigF (fun _ => f) 4) (carryL (P := fun f => BigF (fun _ => f) 4) (carryL (P := fun f => BigF (fun _ => f) 4) (carryL (P := fun f => BigF (fun _ => f) 4) (carryF (P := fun f => BigF (fun _ => f) 4) (carryL (P := fun f => BigF (fun _ => f) 4) (carryL (P := fun f => BigF (fun _ => f) 4) (carryL (P := fun f => BigF (fun _ => f) 4) (carryF (P := fun f => BigF (fun _ => f) 4) (carryF (P := fun f => BigF (fun _ => f) 4) (carryF (P := fun f => BigF (fun _ => f) 4) big_E14 (by decide)) (by decide)) (by decide)) (by decide)) (by decide)) (by decide)) (by decide)) (by decide)) (by decide)) (by decide)) (by decide))
theorem pick_E25 : PickF E25 5 := (carryL (P := fun f => PickF (fun _ => f) 5) (carryL (P := fun f => PickF (fun _ => f) 5) (carryL (P := fun f => PickF (fun _ => f) 5) (carryL (P := fun f => PickF (fun _ => f) 5) (carryF (P := fun f => PickF (fun _ => f) 5) (carryL (P := fun f => PickF (fun _ => f) 5) (carryL (P := fun f => PickF (fun _ => f) 5) (carryL (P := fun f => PickF (fun _ => f) 5) (carryF (P := fun f => PickF (fun _ => f) 5) (carryF (P := fun f => PickF (fun _ => f) 5) (carryF (P := fun f => PickF (fun _ => f) 5) (carryL (P := fun f => PickF (fun _ => f) 5) (carryL (P := fun f => PickF (fun _ => f) 5) (carryL (P := fun f => PickF (fun _ => f) 5) (carryF (P := fun f => PickF (fun _ => f) 5) (carryL (P := fun f => PickF (fun _ => f) 5) (carryL (P := fun f => PickF (fun _ => f) 5) (carryL (P := fun f => PickF (fun _ => f) 5) (carryL (P := fun f => PickF (fun _ => f) 5) (carryL (P := fun f => PickF (fun _ => f) 5) (carryF (P := fun f => PickF (fun _ => f) 5) (carryF (P := fun f => PickF (fun _ => f) 5) pick_E3 (by decide)) (by decide)) (by decide)) (by decide)) (by decide)) (by decide)) (by decide)) (by decide)) (by decide)) (by decide)) (by decide)) (by decide)) (by decide)) (by decide)) (by decide)) (by decide)) (by decide)) (by decide)) (by decide)) (by decide)) (by decide)) (by decide))
theorem font_E25 : FontF E25 6 := (carryL (P := fun f => FontF (fun _ => f) 6) (carryL (P := fun f => FontF (fun _ => f) 6) (carryL (P := fun f => FontF (fun _ => f) 6) (carryL (P := fun f => FontF (fun _ => f) 6) (carryF (P := fun f => FontF (fun _ => f) 6) (carryL (P := fun f => FontF (fun _ => f) 6) (carryL (P := fun f => FontF (fun _ => f) 6) (carryL (P := fun f => FontF (fun _ => f) 6) (carryF (P := fun f => FontF (fun _ => f) 6) font_E16 (by decide)) (by decide)) (by decide)) (by decide)) (by decide)) (by decide)) (by decide)) (by decide)) (by decide))
theorem open_E25 : OpenF E25 7 := (carryL (P := fun f => OpenF (fun _ => f) 7) (carryL (P := fun f => OpenF (fun _ => f) 7) (carryL (P := fun f => OpenF (fun _ => f) 7) (carryL (P := fun f => OpenF (fun _ => f) 7) (carryF (P := fun f => OpenF (fun _ => f) 7) (carryL (P := fun f => OpenF (fun _ => f) 7) (carryL (P := fun f => OpenF (fun _ => f) 7) (carryL (P := fun f => OpenF (fun _ => f) 7) (carryF (P := fun f => OpenF (fun _ => f) 7) (carryF (P := fun f => OpenF (fun _ => f) 7) (carryF (P := fun f => OpenF (fun _ => f) 7) (carryL (P := fun f => OpenF (fun _ => f) 7) (carryL (P := fun f => OpenF (fun _ => f) 7) open_E12 (by decide)) (by decide)) (by decide)) (by decide)) (by decide)) (by decide)) (by decide)) (by decide)) (by decide)) (by decide)) (by decide)) (by decide)) (by decide))
theorem find_E25 : FindL (E25 8) := (carryL (P := fun f => FindL f) find_E24 (by decide))
theorem findno_E25 : FindNoL (E25 8) := (carryL (P := fun f => FindNoL f) findno_E24 (by decide))
theorem top : Sound Try.prog (withF E25 3 200 (SzLaw_c 4 5 6 7 8 9)) := sE25.withF mix 200 (by kernel_rfl)
theorem calls (W : World) {os : List (Option AObj)} {ι : Map} (hm : Mem W os ι) {u0 : V} {x0 : Value} {z0 : List Int} (r0 : R ι u0 x0) (h0 : ShowsRow (cInt .i64) os u0 z0) (k0 : ∀ x ∈ z0, (cInt .i64).ok x) (y0 : z0.length * 8 ≤ 140737488351232) {a1 : Int} (w1 : (Lit.int .i64 a1).wf = true) {a2 : Int} (w2 : (Lit.int .i64 a2).wf = true) :
    Calls Try.prog 3 #[x0, .int .i64 a1, .int .i64 a2] W fun e W' => e = .returned (.bool true) ∧ Go.RowKit.Below W.heap.size W W' := by
  refine top.law_mem hm (args := [u0, .int .i64 a1, .int .i64 a2]) (args' := [x0, .int .i64 a1, .int .i64 a2]) ⟨r0, rfl, rfl, trivial⟩ ?_
  rw [withF_same]
  exact SizesLaw_run (by omega) big_E25 pick_E25 font_E25 open_E25 find_E25 findno_E25 (fun st => closed_call) (ints_param h0 k0) (by omega)
end

set_option maxRecDepth 100000 in
theorem lifted (os : Os) (started : os.Started) (H : Type) (enc : TypeId × Value → H) :
    ReturnsInHanded {} Try.checked os 3 .any (Rows.cbdtSizesSpec.pre6 enc Try.prog Try.f3 Rows.cbdtSizesRow.domain false) (Rows.cbdtSizesSpec.post enc Try.prog Try.f3 false true false false) := by
  refine returnsInHanded_of_change_sized (C := Try.checked) own started (by kernel_rfl) Try.func3
    (ChangeSpec.witness6 (enc := enc) (C := Try.checked) false ⟨#[], #[.slice none 0 0, .int .i64 0, .int .i64 0], []⟩ 8 (by kernel_rfl) (by kernel_rfl) (by kernel_rfl) (by kernel_rfl)) ?_
  intro W base args ds gs before hval0 hW hcnd hsz0 _
  have hsz : (DataW.weightsEach Try.prog (Try.f3.params.toList ++ Rows.cbdtSizesSpec.plain.varTypes Try.prog) (ds ++ gs)).all (· ≤ reachBytes) = true := hsz0
  have hval : ∀ (j : Nat) t v, Try.f3.params[j]? = some t → args[j]? = some v → Value.okWide Try.prog W .any base t v := hval0
  have hW' := hW
  obtain ⟨p, q, hA0, hV, rfl, hfz, hnd⟩ := hW
  have hA : DataW.TrodAll enc Try.prog W 0 (fun _ => true) true Try.f3.params.toList args.toList ds p := hA0
  rw [Try.params3] at hA hval hsz
  obtain ⟨v0, vs0, d0, ds0, p0, q0, hargs, rfl, rfl, h0, r0⟩ := trodAll_cons hA
  obtain ⟨v1, vs1, d1, ds1, p1, q1, rfl, rfl, rfl, h1, r1⟩ := trodAll_cons r0
  obtain ⟨v2, vs2, d2, ds2, p2, q2, rfl, rfl, rfl, h2, r2⟩ := trodAll_cons r1
  obtain ⟨rfl, rfl, rfl⟩ := trodAll_nil r2
  obtain rfl : args = #[v0, v1, v2] := by cases args; simp_all
  obtain ⟨rfl, rfl⟩ := trodVars_none hV
  have k0 := h0
  have lt0 : ∀ x ∈ p0, x.block < W.heap.size := by obtain ⟨m, hm⟩ := k0; exact DataW.trod_lt m _ _ _ hm
  obtain ⟨os0, ι0, u0, z0, m0, sub0, more0, rr0, ss0, kk0, yy0⟩ := param_slice (j := 0) (t := 22) (opens_row (B := 8) Try.underlying22 (by kernel_rfl) (by kernel_rfl) (by decide) (opens_int Try.underlying3)) Try.underlying22 (hval 0 22 v0 rfl rfl) h0 hsz rfl rfl (Go.Vabs.Mem.nil W)
  obtain ⟨a1, rfl, rfl, rfl, w1⟩ := open_int Try.underlying3 (hval 1 3 v1 rfl rfl) h1
  obtain ⟨a2, rfl, rfl, rfl, w2⟩ := open_int Try.underlying3 (hval 2 3 v2 rfl rfl) h2
  clear hA0 hval0 hsz0 hsz
  refine (calls W m0 rr0 ss0 kk0 yy0 w1 w2).mono fun e W' ⟨he, bel⟩ => ?_
  subst he
  exact ⟨_, rfl, _, _, _, [], _, [], hW', trodAll_mk1 (shut_bool Try.underlying4 _), (trodAll_cons_mk (Below.trod laidOut (by kernel_rfl) (of_decide_eq_true (by kernel_rfl)) k0 bel lt0) (trodAll_cons_mk (shut_int Try.underlying3 w1) (trodAll_cons_mk (shut_int Try.underlying3 w2) trodAll_mk0))), rfl, bel.frame _, fun h => by cases h⟩
theorem over : Rows.cbdtSizesRow.holds Try.pinned (OpenSpec.ofChange Rows.cbdtSizesSpec) :=
  OpenClaim.holds_of_wide 3 Try.f3 rfl rfl rfl rfl rfl rfl rfl ⟨rfl, rfl, rfl, rfl, rfl⟩ rfl rfl rfl rfl rfl (by kernel_rfl) Try.func3 (by kernel_rfl)
    (of_decide_eq_true (by kernel_rfl)) (by unfold Func.isWrapper; first | (rw [if_pos (by decide +kernel)]; kernel_rfl) | (rw [if_neg (by decide +kernel)]; exact ⟨rfl, rfl⟩))
    (fun os started H enc _ => lifted os started H enc)
theorem proved : Rows.CbdtSizesSaid := over
#print axioms proved
end Go.Proofs.Ytglopgoonbocpaa.cbdtSizes
namespace Go.Proofs.Ytglopgoonbocpaa
/-- The row, under a short name, for the claim. -/
theorem cbdtSizes_holds : Rows.CbdtSizesSaid := cbdtSizes.proved
end Go.Proofs.Ytglopgoonbocpaa
