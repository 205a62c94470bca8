/-
  Chapter 27: strikes that are laid.
-/
import Derived.Test.YtpbafimkplhknaaVabsNa
namespace Go.Vabs.Ra
set_option linter.unusedVariables false
set_option linter.unusedSimpArgs false
set_option maxRecDepth 10000
def Data_c (n_big : Nat) : AFunc := AFunc.mk 20 (.seq (.reg [AOper.mk (some (.i (.o (.o .h)))) (.mv (.c (.slice none 0 0 0 true))) none]) (.seq (.reg [AOper.mk (some (.o (.o (.i .h)))) (.call n_big [.t .h, .c (.int .i64 (.ofNat 2))]) none, AOper.mk (some (.o (.i (.i .h)))) (.call n_big [.t (.o .h), .c (.int .i64 (.ofNat 2))]) none, AOper.mk (some (.i (.i (.i .h)))) (.append 1 1 (.t (.o (.o (.i .h)))) (.t (.o (.i (.i .h))))) none, AOper.mk (some (.o (.i (.o .h)))) (.mv (.t (.i (.i (.i .h))))) none]) (.seq (.reg [AOper.mk (some (.o (.i (.o (.o .h))))) (.append 1 1 (.t (.o (.i (.o .h)))) (.t (.i .h))) none, AOper.mk (some (.o (.o (.i (.o .h))))) (.append 1 1 (.t (.o (.i (.o (.o .h))))) (.t (.o (.o .h)))) none, AOper.mk (some (.i (.o (.o .h)))) (.mv (.t (.o (.o (.i (.o .h)))))) none]) .ret))) [.tmp (.i (.o (.o .h)))]
def Sbix_c (n_big : Nat) : AFunc := AFunc.mk 93 (.seq (.reg [AOper.mk (some (.i .h)) (.mv (.c (.slice none 0 0 0 true))) none]) (.seq (.reg [AOper.mk (some (.o (.o (.i .h)))) (.bslice 1 4 [.int .u8 (.ofNat 0)] [(0, (1, .c (.int .u8 (.ofNat 0)))), (1, (1, .c (.int .u8 (.ofNat 1)))), (2, (1, .c (.int .u8 (.ofNat 0)))), (3, (1, .c (.int .u8 (.ofNat 0))))]) none, AOper.mk (some (.o (.i (.i .h)))) (.len .slice (.t .h)) none, AOper.mk (some (.i (.i (.i .h)))) (.call n_big [.t (.o (.i (.i .h))), .c (.int .i64 (.ofNat 4))]) none, AOper.mk (some (.o (.o (.o (.o .h))))) (.append 1 1 (.t (.o (.o (.i .h)))) (.t (.i (.i (.i .h))))) none, AOper.mk (some (.o (.o .h))) (.mv (.t (.o (.o (.o (.o .h)))))) none]) (.seq (.reg [AOper.mk (some (.o (.i (.o (.o .h))))) (.len .slice (.t .h)) none, AOper.mk (some (.i (.i (.o (.o .h))))) (.bin .mul (.val .int) (.c (.int .i64 (.ofNat 4))) (.t (.o (.i (.o (.o .h)))))) none, AOper.mk (some (.o (.o (.i (.o .h))))) (.bin .add (.val .int) (.c (.int .i64 (.ofNat 8))) (.t (.i (.i (.o (.o .h)))))) none, AOper.mk (some (.i (.o .h))) (.mv (.t (.o (.o (.i (.o .h)))))) none]) (.seq (.reg [AOper.mk (some (.o (.i .h))) (.mv (.c (.slice none 0 0 0 true))) none]) (.seq (.seq (.reg [AOper.mk (some (.i (.i .h))) (.mv (.c (.int .i64 (.ofNat 0)))) none]) (.block 0 (.loop (.seq (.seq (.reg [AOper.mk (some (.i (.i (.i (.o .h))))) (.len .slice (.t .h)) none, AOper.mk (some (.o (.o (.o (.i .h))))) (.bin .lss (.val .int) (.t (.i (.i .h))) (.t (.i (.i (.i (.o .h)))))) none]) (.cond (.t (.o (.o (.o (.i .h))))) .skip (.exit 0))) (.seq (.block 1 (.seq (.reg [AOper.mk (some (.o (.i (.i (.i .h))))) (.len .slice (.t (.o (.i .h)))) none, AOper.mk (some (.i (.i (.i (.i .h))))) (.bin .add (.val .int) (.t (.i (.o .h))) (.t (.o (.i (.i (.i .h)))))) none, AOper.mk (some (.o (.o (.o (.o (.o .h)))))) (.call n_big [.t (.i (.i (.i (.i .h)))), .c (.int .i64 (.ofNat 4))]) none, AOper.mk (some (.i (.o (.o (.o (.o .h)))))) (.append 1 1 (.t (.o (.o .h))) (.t (.o (.o (.o (.o (.o .h))))))) none, AOper.mk (some (.o (.o .h))) (.mv (.t (.i (.o (.o (.o (.o .h))))))) none]) (.seq (.reg [AOper.mk (some (.o (.o (.i (.o (.o .h)))))) (.idxAddr (.slice 2) (.t .h) (.t (.i (.i .h)))) none, AOper.mk (some (.i (.o (.i (.o (.o .h)))))) (.fieldAddr 0 (.t (.o (.o (.i (.o (.o .h))))))) none, AOper.mk (some (.o (.i (.i (.o (.o .h)))))) (.load false 1 (.t (.i (.o (.i (.o (.o .h))))))) none, AOper.mk (some (.i (.i (.i (.o (.o .h)))))) (.call n_big [.t (.o (.i (.i (.o (.o .h))))), .c (.int .i64 (.ofNat 2))]) none, AOper.mk (some (.o (.o (.o (.i (.o .h)))))) (.bslice 1 2 [.int .u8 (.ofNat 0)] [(0, (1, .c (.int .u8 (.ofNat 0)))), (1, (1, .c (.int .u8 (.ofNat 72))))]) none, AOper.mk (some (.i (.o (.o (.i (.o .h)))))) (.append 1 1 (.t (.i (.i (.i (.o (.o .h)))))) (.t (.o (.o (.o (.i (.o .h))))))) none, AOper.mk (some (.o (.o (.o .h)))) (.mv (.t (.i (.o (.o (.i (.o .h))))))) none]) (.seq (.reg [AOper.mk (some (.o (.o (.i (.i (.o .h)))))) (.idxAddr (.slice 2) (.t .h) (.t (.i (.i .h)))) none, AOper.mk (some (.i (.o (.i (.i (.o .h)))))) (.fieldAddr 1 (.t (.o (.o (.i (.i (.o .h))))))) none, AOper.mk (some (.o (.i (.i (.i (.o .h)))))) (.load false 1 (.t (.i (.o (.i (.i (.o .h))))))) none, AOper.mk (some (.i (.i (.i (.i (.o .h)))))) (.len .slice (.t (.o (.i (.i (.i (.o .h))))))) none, AOper.mk (some (.o (.o (.o (.o (.i .h)))))) (.bin .add (.val .int) (.t (.i (.i (.i (.i (.o .h)))))) (.c (.int .i64 (.ofNat 1)))) none, AOper.mk (some (.i (.o (.o (.o (.i .h)))))) (.bin .mul (.val .int) (.c (.int .i64 (.ofNat 4))) (.t (.o (.o (.o (.o (.i .h))))))) none, AOper.mk (some (.o (.i (.o (.o (.i .h)))))) (.bin .add (.val .int) (.c (.int .i64 (.ofNat 4))) (.t (.i (.o (.o (.o (.i .h))))))) none, AOper.mk (some (.i (.o (.o .h)))) (.mv (.t (.o (.i (.o (.o (.i .h))))))) none]) (.seq (.reg [AOper.mk (some (.o (.i (.o .h)))) (.mv (.c (.slice none 0 0 0 true))) none]) (.seq (.seq (.reg [AOper.mk (some (.i (.i (.o .h)))) (.mv (.c (.int .i64 (.ofNat 0)))) none]) (.block 2 (.loop (.seq (.seq (.reg [AOper.mk (some (.o (.i (.i (.o (.i .h)))))) (.idxAddr (.slice 2) (.t .h) (.t (.i (.i .h)))) none, AOper.mk (some (.i (.i (.i (.o (.i .h)))))) (.fieldAddr 1 (.t (.o (.i (.i (.o (.i .h))))))) none, AOper.mk (some (.o (.o (.o (.i (.i .h)))))) (.load false 1 (.t (.i (.i (.i (.o (.i .h))))))) none, AOper.mk (some (.i (.o (.o (.i (.i .h)))))) (.len .slice (.t (.o (.o (.o (.i (.i .h))))))) none, AOper.mk (some (.o (.i (.o (.i (.i .h)))))) (.bin .leq (.val .int) (.t (.i (.i (.o .h)))) (.t (.i (.o (.o (.i (.i .h))))))) none]) (.cond (.t (.o (.i (.o (.i (.i .h)))))) .skip (.exit 2))) (.seq (.block 3 (.seq (.reg [AOper.mk (some (.o (.o (.o (.o (.o (.o .h))))))) (.len .slice (.t (.o (.i (.o .h))))) none, AOper.mk (some (.i (.o (.o (.o (.o (.o .h))))))) (.bin .add (.val .int) (.t (.i (.o (.o .h)))) (.t (.o (.o (.o (.o (.o (.o .h)))))))) none, AOper.mk (some (.o (.i (.o (.o (.o (.o .h))))))) (.call n_big [.t (.i (.o (.o (.o (.o (.o .h)))))), .c (.int .i64 (.ofNat 4))]) none, AOper.mk (some (.i (.i (.o (.o (.o (.o .h))))))) (.append 1 1 (.t (.o (.o (.o .h)))) (.t (.o (.i (.o (.o (.o (.o .h)))))))) none, AOper.mk (some (.o (.o (.o .h)))) (.mv (.t (.i (.i (.o (.o (.o (.o .h)))))))) none]) (.seq (.reg [AOper.mk (some (.i (.i (.i (.o (.o (.o .h))))))) (.idxAddr (.slice 2) (.t .h) (.t (.i (.i .h)))) none, AOper.mk (some (.o (.o (.o (.i (.o (.o .h))))))) (.fieldAddr 1 (.t (.i (.i (.i (.o (.o (.o .h)))))))) none, AOper.mk (some (.i (.o (.o (.i (.o (.o .h))))))) (.load false 1 (.t (.o (.o (.o (.i (.o (.o .h)))))))) none, AOper.mk (some (.o (.i (.o (.i (.o (.o .h))))))) (.len .slice (.t (.i (.o (.o (.i (.o (.o .h)))))))) none, AOper.mk (some (.i (.i (.o (.i (.o (.o .h))))))) (.bin .lss (.val .int) (.t (.i (.i (.o .h)))) (.t (.o (.i (.o (.i (.o (.o .h)))))))) none]) (.cond (.t (.i (.i (.o (.i (.o (.o .h))))))) (.reg [AOper.mk (some (.i (.i (.i (.i (.o (.o .h))))))) (.idxAddr (.slice 2) (.t .h) (.t (.i (.i .h)))) none, AOper.mk (some (.o (.o (.o (.o (.i (.o .h))))))) (.fieldAddr 1 (.t (.i (.i (.i (.i (.o (.o .h)))))))) none, AOper.mk (some (.i (.o (.o (.o (.i (.o .h))))))) (.load false 1 (.t (.o (.o (.o (.o (.i (.o .h)))))))) none, AOper.mk (some (.i (.i (.o (.o (.i (.o .h))))))) (.idxAddr (.slice 1) (.t (.i (.o (.o (.o (.i (.o .h))))))) (.t (.i (.i (.o .h))))) none, AOper.mk (some (.o (.o (.i (.o (.i (.o .h))))))) (.load false 1 (.t (.i (.i (.o (.o (.i (.o .h)))))))) none, AOper.mk (some (.i (.o (.i (.o (.i (.o .h))))))) (.append 1 1 (.t (.o (.i (.o .h)))) (.t (.o (.o (.i (.o (.i (.o .h)))))))) none, AOper.mk (some (.o (.i (.o .h)))) (.mv (.t (.i (.o (.i (.o (.i (.o .h)))))))) none]) .skip)))) (.reg [AOper.mk (some (.o (.o (.i (.i (.i .h)))))) (.bin .add (.val .int) (.t (.i (.i (.o .h)))) (.c (.int .i64 (.ofNat 1)))) none, AOper.mk (some (.i (.i (.o .h)))) (.mv (.t (.o (.o (.i (.i (.i .h))))))) none])))))) (.reg [AOper.mk (some (.o (.o (.o (.i (.i (.o .h))))))) (.append 1 1 (.t (.o (.i .h))) (.t (.o (.o (.o .h))))) none, AOper.mk (some (.o (.i (.o (.i (.i (.o .h))))))) (.append 1 1 (.t (.o (.o (.o (.i (.i (.o .h))))))) (.t (.o (.i (.o .h))))) none, AOper.mk (some (.o (.i .h))) (.mv (.t (.o (.i (.o (.i (.i (.o .h)))))))) none]))))))) (.reg [AOper.mk (some (.o (.i (.o (.i .h))))) (.bin .add (.val .int) (.t (.i (.i .h))) (.c (.int .i64 (.ofNat 1)))) none, AOper.mk (some (.i (.i .h))) (.mv (.t (.o (.i (.o (.i .h)))))) none])))))) (.seq (.reg [AOper.mk (some (.i (.o (.i (.i (.i (.o .h))))))) (.append 1 1 (.t (.o (.o .h))) (.t (.o (.i .h)))) none, AOper.mk (some (.i .h)) (.mv (.t (.i (.o (.i (.i (.i (.o .h)))))))) none]) .ret)))))) [.tmp (.i .h)]
def openT_c (n_Font : Nat) (n_Open : Nat) (n_ROpen : Nat) : AFunc := AFunc.mk 28 (.seq (.reg [AOper.mk (some (.i (.o .h))) (.mv (.c (.ptr none))) none, AOper.mk (some (.o (.i .h))) (.mv (.c (.ptr none))) none]) (.seq (.reg [AOper.mk (some (.i (.o (.i .h)))) (.bslice 1 1 [.str []] [(0, (1, .t .h))]) none, AOper.mk (some (.i (.i (.i .h)))) (.bslice 1 1 [.slice none 0 0 0 true] [(0, (1, .t (.o .h)))]) none, AOper.mk (some (.o (.o (.o (.o .h))))) (.call n_Font [.t (.i (.o (.i .h))), .t (.i (.i (.i .h)))]) none, AOper.mk (some (.i (.i .h))) (.mv (.t (.o (.o (.o (.o .h)))))) none]) (.seq (.reg [AOper.mk (some (.i (.i (.o (.o .h))))) (.call n_Open [.t (.i (.i .h))]) none, AOper.mk (some (.o (.o (.i (.o .h))))) (.extract (.t (.i (.i (.o (.o .h))))) 0) none, AOper.mk (some (.i (.o (.i (.o .h))))) (.extract (.t (.i (.i (.o (.o .h))))) 1) none, AOper.mk (some (.o (.o (.o .h)))) (.mv (.t (.o (.o (.i (.o .h)))))) none, AOper.mk (some (.i (.o (.o .h)))) (.mv (.t (.i (.o (.i (.o .h)))))) none]) (.seq (.reg [AOper.mk (some (.o (.o (.o (.i .h))))) (.call n_ROpen [.t (.i (.i .h))]) none, AOper.mk (some (.i (.o (.o (.i .h))))) (.extract (.t (.o (.o (.o (.i .h))))) 0) none, AOper.mk (some (.o (.i (.o (.i .h))))) (.extract (.t (.o (.o (.o (.i .h))))) 1) none, AOper.mk (some (.o (.i (.o .h)))) (.mv (.t (.i (.o (.o (.i .h)))))) none, AOper.mk (some (.i (.i (.o .h)))) (.mv (.t (.o (.i (.o (.i .h)))))) none]) (.seq (.reg [AOper.mk (some (.i (.o .h))) (.mv (.t (.o (.o (.o .h))))) none, AOper.mk (some (.o (.i .h))) (.mv (.t (.o (.i (.o .h))))) none]) .ret))))) [.tmp (.i (.o .h)), .tmp (.o (.i .h))]
attribute [local simp] wp_skip wp_ret wp_exit wp_reg wp_seq wp_cond wp_block thenQ_normal thenQ_ret thenQ_exit blockQ_normal blockQ_ret blockQ_exit wpCond_true wpCond_false wpOps_nil wpVal_some wpGuard_true wpGuard_false wpOps_guard wpOps_cons
  put_at put_no ev_c ev_slot posEq_h posEq_o posEq_i posEq_ho posEq_hi posEq_oh posEq_ih posEq_oi posEq_io sel_true sel_false
  okv_some step_mv step_call step_pick pickV_bool step_bin bin_add bin_sub bin_mul bin_eql bin_neq bin_lss bin_leq bin_gtr bin_geq bin_eqb bin_neb bin_eqs bin_nes step_un un_not un_neg step_len len_slice len_str len_const step_extract extractV nth step_convInt conv_int step_convStr step_slice step_idxAddr natOf_nat step_load step_index step_field step_fieldAddr step_build step_minmax
  step_alloc step_bslice bsliceV_some newV_some step_store step_append boolIs_b boolIs_t finQ_ret finQ_normal ressE_nil ressE_cons resE_tmp consO_some initE_nil initE_cons pos_0 pos_1 pos_2 pos_3 pos_4 pos_5 pos_6 pos_7 pos_8 plain_bool plain_int plain_str plain_ptr plain_slice plain_map plain_agg plain_func plain_nilFunc V.undef oneOf_one oneOf_two ble_self
open Go.Vabs.Pk Go.Vabs.Ph Go.Vabs.Sa Go.Vabs.Sb Go.Vabs.Sc Go.Vabs.Sd Go.Vabs.Se Go.Vabs.Sg Go.Vabs.Sh Go.Vabs.Sm Go.Vabs.Sn Go.Vabs.Sp Go.Vabs.Sr Go.Vabs.St Go.Vabs.Su Go.Vabs.L2 Go.Vabs.Na Go.Vabs.Nb
attribute [local simp] step_nilchk nilchk_ptr step_box cells_int cells_bool cells_str cells_slice cells_ptr cells_agg fieldAddrV natOf_zero fill repN splice over newV step_appendZ
/- FILES THAT GROW BESIDE EACH OTHER -/
structure Files (N : Nat) (os0 os : List (Option AObj)) (fs : List (Option Nat × List Nat)) : Prop where
  old : ∀ i, i < N → (os[i]?).join = (os0[i]?).join
  le : N ≤ os.length
  at_ : ∀ f ∈ fs, FA os N f.1 f.2
  nd : (fs.filterMap (·.1)).Nodup
theorem Files.start {os : List (Option AObj)} : Files os.length os os [] := ⟨fun _ _ => rfl, Nat.le_refl _, fun f hf => (by cases hf), by simp⟩
theorem Files.lo {N : Nat} {os0 os : List (Option AObj)} {fs : List (Option Nat × List Nat)} (h : Files N os0 os fs) {p : Nat} (hp : p ∈ fs.filterMap (·.1)) : N ≤ p ∧ p < os.length := by
  obtain ⟨f, hf, he⟩ := List.mem_filterMap.1 hp
  exact (h.at_ f hf).lo p he
theorem Files.keep {N : Nat} {os0 os os' : List (Option AObj)} {fs : List (Option Nat × List Nat)} (h : Files N os0 os fs) (he : ∀ i, i < os.length → (os'[i]?).join = (os[i]?).join) (hl : os.length ≤ os'.length) : Files N os0 os' fs :=
  ⟨fun i hi => by rw [he i (by have := h.le; omega), h.old i hi], by have := h.le; omega, fun f hf => (h.at_ f hf).keep fun i hi _ => he i hi, h.nd⟩
theorem Files.add {N : Nat} {os0 os : List (Option AObj)} {fs : List (Option Nat × List Nat)} (h : Files N os0 os fs) (o : Option AObj) : Files N os0 (os ++ [o]) fs := h.keep (fun i hi => join_app hi) (by simp)
/-- A new file: an object that was just made. -/
theorem Files.new {N : Nat} {os0 os : List (Option AObj)} {fs : List (Option Nat × List Nat)} (h : Files N os0 os fs) (bs : List Nat) : Files N os0 (os ++ [some (newBytes bs)]) ((some os.length, bs) :: fs) := by
  have h1 := h.add (some (newBytes bs))
  refine ⟨h1.old, h1.le, fun f hf => ?_, ?_⟩
  · rcases List.mem_cons.1 hf with rfl | hf
    · exact ⟨h.le, by simp⟩
    · exact h1.at_ f hf
  · show (os.length :: fs.filterMap (·.1)).Nodup
    refine List.nodup_cons.2 ⟨fun hm => ?_, h.nd⟩
    have := (h.lo hm).2
    omega
theorem Files.none {N : Nat} {os0 os : List (Option AObj)} {fs : List (Option Nat × List Nat)} (h : Files N os0 os fs) : Files N os0 os ((Option.none, []) :: fs) :=
  ⟨h.old, h.le, fun f hf => by
    rcases List.mem_cons.1 hf with rfl | hf
    · rfl
    · exact h.at_ f hf, h.nd⟩
theorem Files.drop {N : Nat} {os0 os : List (Option AObj)} {fs : List (Option Nat × List Nat)} {f : Option Nat × List Nat} (h : Files N os0 os (f :: fs)) : Files N os0 os fs := by
  refine ⟨h.old, h.le, fun g hg => h.at_ g (List.mem_cons_of_mem _ hg), ?_⟩
  have := h.nd
  rw [List.filterMap_cons] at this
  split at this
  · exact this
  · exact (List.nodup_cons.1 this).2
theorem Files.grow {N : Nat} {os0 os : List (Option AObj)} {pre post : List (Option Nat × List Nat)} {o : Option Nat} {bs : List Nat} (h : Files N os0 os (pre ++ (o, bs) :: post)) (nb : List Nat) (hs : bs.length + nb.length < 140737488354000) :
    ∃ o' os', appendV (few os) 1 1 (fV o bs.length) (some nb.length) (some (bytesV nb)) = some (fV o' (bs.length + nb.length), few os') ∧ Files N os0 os' (pre ++ (o', bs ++ nb) :: post) ∧ os.length ≤ os'.length := by
  have hf := h.at_ (o, bs) (by simp)
  obtain ⟨o', os', g1, g2, g3, g4, g5⟩ := hf.grow h.le nb hs
  have hnd := h.nd
  rw [List.filterMap_append, List.filterMap_cons] at hnd
  have other : ∀ f, f ∈ pre ∨ f ∈ post → ∀ p, f.1 = some p → o ≠ some p := by
    intro f hf' p hp ho
    subst ho
    have hnd : (pre.filterMap (·.1) ++ p :: post.filterMap (·.1)).Nodup := hnd
    obtain ⟨_, n2, n3⟩ := List.nodup_append.1 hnd
    rcases hf' with hf' | hf'
    · exact n3 p (List.mem_filterMap.2 ⟨f, hf', hp⟩) p (List.mem_cons_self ..) rfl
    · exact (List.nodup_cons.1 n2).1 (List.mem_filterMap.2 ⟨f, hf', hp⟩)
  refine ⟨o', os', g1, ⟨fun i hi => ?_, by have := h.le; omega, fun f hf' => ?_, ?_⟩, g4⟩
  · rw [g3 i (by have := h.le; omega) (fun e => by have := (hf.lo i e).1; omega), h.old i hi]
  · rcases List.mem_append.1 hf' with hf' | hf'
    · exact (h.at_ f (by simp [hf'])).keep fun i hi he => g3 i hi (other f (.inl hf') i he)
    · rcases List.mem_cons.1 hf' with rfl | hf'
      · exact g2
      · exact (h.at_ f (by simp [hf'])).keep fun i hi he => g3 i hi (other f (.inr hf') i he)
  · rw [List.filterMap_append, List.filterMap_cons]
    have n1 : (pre.filterMap (·.1) ++ post.filterMap (·.1)).Nodup := by
      cases o with
      | none => exact hnd
      | some p =>
        have hnd : (pre.filterMap (·.1) ++ p :: post.filterMap (·.1)).Nodup := hnd
        exact hnd.sublist (List.Sublist.append_left (List.sublist_cons_self ..) _)
    cases o' with
    | none => exact n1
    | some p' =>
      show (pre.filterMap (·.1) ++ p' :: post.filterMap (·.1)).Nodup
      obtain ⟨m1, m2, m3⟩ := List.nodup_append.1 n1
      have fresh : ∀ f, f ∈ pre ∨ f ∈ post → f.1 ≠ some p' := fun f hf' hp => by
        have hin : f ∈ pre ++ (o, bs) :: post := by rcases hf' with h | h <;> simp [h]
        have hlt := ((h.at_ f hin).lo p' hp).2
        exact other f hf' p' hp (g5 p' hlt rfl)
      have fr1 : ¬ p' ∈ pre.filterMap (·.1) := fun hm => by obtain ⟨f, hf', hp⟩ := List.mem_filterMap.1 hm; exact fresh f (.inl hf') hp
      have fr2 : ¬ p' ∈ post.filterMap (·.1) := fun hm => by obtain ⟨f, hf', hp⟩ := List.mem_filterMap.1 hm; exact fresh f (.inr hf') hp
      refine List.nodup_append.2 ⟨m1, List.nodup_cons.2 ⟨fr2, m2⟩, fun a ha b hb e => ?_⟩
      subst e
      rcases List.mem_cons.1 hb with rfl | hb
      · exact fr1 ha
      · exact m3 a ha a hb rfl
/- A GLYPH'S DATA -/
def dataB (x y : Nat) (tag b : List Nat) : List Nat := bigB x 2 ++ bigB y 2 ++ tag ++ b
theorem first_str {st : St} {t : List Nat} (h : t.length = 4) : firstN st 1 4 (.str t) = some (bytesV t) ∧ lenOf (.str t) = some 4 := by
  match t, h with
  | [_, _, _, _], _ => exact ⟨rfl, rfl⟩
def DataF (call : CallT) (g : Nat) : Prop := ∀ os (x y : Nat) tag w b, tag.length = 4 → bytesAt (few os) w = some b → b.length ≤ 4096 →
  ∃ p os', call g [.int .i64 (x : Int), .int .i64 (y : Int), .str tag, w] (few os) = some (.slice (some (p, 0)) 1 (8 + b.length) (8 + b.length) false, few os') ∧ (∀ i, i < os.length → (os'[i]?).join = (os[i]?).join) ∧ os.length ≤ os'.length ∧ os.length ≤ p ∧ (os'[p]?).join = some (newBytes (dataB x y tag b))
theorem DataF.code {base : CallT} {g lf nB : Nat} (hB : BigF base nB) : DataF (Vabs.withF base g lf (Data_c nB)) g := fun os x y tag w b ht hw hb => by
  rw [withF_same]
  obtain ⟨N, hN⟩ : ∃ N, N = os.length := ⟨_, rfl⟩
  have F0 := Files.start (os := os)
  have b1 := hB os x 2 (by omega) (by omega)
  have F1 := F0.new (bigB x 2)
  obtain ⟨X1, hX1⟩ : ∃ X1, X1 = os ++ [some (newBytes (bigB x 2))] := ⟨_, rfl⟩
  rw [← hX1] at b1 F1
  have e1 : X1.length = N + 1 := by rw [hX1, hN]; simp
  have b2 := hB X1 y 2 (by omega) (by omega)
  have F2 := F1.add (some (newBytes (bigB y 2)))
  obtain ⟨X2, hX2⟩ : ∃ X2, X2 = X1 ++ [some (newBytes (bigB y 2))] := ⟨_, rfl⟩
  rw [← hX2] at b2 F2
  have fi2 : firstN (few X2) 1 2 (.slice (some (X1.length, 0)) 1 2 2 false) = some (bytesV (bigB y 2)) := first_own (bs := bigB y 2) (by rw [hX2]; simp)
  obtain ⟨o3, X3, g3, F3, l3⟩ := F2.grow (pre := []) (post := []) (bigB y 2) (by rw [bigB_len, bigB_len]; omega)
  rw [bigB_len, bigB_len] at g3
  obtain ⟨o4, X4, g4, F4, l4⟩ := F3.grow (pre := []) (post := []) tag (by rw [List.length_append, bigB_len, bigB_len, ht]; omega)
  rw [List.length_append, bigB_len, bigB_len, ht] at g4
  have hwX : ∀ (Y : List (Option AObj)), (∀ i, i < os.length → (Y[i]?).join = (os[i]?).join) → bytesAt (few Y) w = some b := fun Y hY => bytesAt_grow hw hY
  obtain ⟨w1, w2⟩ := first_bytes (hwX X4 F4.old)
  obtain ⟨o5, X5, g5, F5, l5⟩ := F4.grow (pre := []) (post := []) b (by rw [List.length_append, List.length_append, bigB_len, bigB_len, ht]; omega)
  rw [List.length_append, List.length_append, bigB_len, bigB_len, ht] at g5
  obtain ⟨t1, t2⟩ := first_str (st := few X3) ht
  obtain ⟨bl, hbl⟩ : ∃ bl, bl = b.length := ⟨_, rfl⟩
  rw [← hbl] at w1 w2 g5 ⊢
  have hA := F5.at_ _ (List.mem_cons_self ..)
  have e2 : X2.length = N + 2 := by rw [hX2]; simp [e1]
  have g3 : appendV (few X2) 1 1 (.slice (some (N, 0)) 1 2 2 false) (some 2) (some (bytesV (bigB y 2))) = some (fV o3 4, few X3) := by rw [hN]; exact g3
  have g4 : appendV (few X3) 1 1 (fV o3 4) (some 4) (some (bytesV tag)) = some (fV o4 8, few X4) := g4
  have g5 : appendV (few X4) 1 1 (fV o4 8) (some bl) (some (bytesV b)) = some (fV o5 (8 + bl), few X5) := g5
  have b1 : base nB [.int .i64 (x : Int), .int .i64 2] (few os) = some (.slice (some (N, 0)) 1 2 2 false, few X1) := by rw [hN]; exact b1
  have b2 : base nB [.int .i64 (y : Int), .int .i64 2] (few X1) = some (.slice (some (N + 1, 0)) 1 2 2 false, few X2) := by rw [← e1]; exact b2
  rw [e1] at fi2
  cases o5 with
  | none =>
    have h0 : bigB x 2 ++ bigB y 2 ++ tag ++ b = [] := hA
    have := congrArg List.length h0
    simp [bigB_len] at this
  | some p5 =>
    refine ⟨p5, X5, ?_, F5.old, F5.le, hA.1, hA.2⟩
    have g5 : appendV (few X4) 1 1 (fV o4 8) (some bl) (some (bytesV b)) = some (.slice (some (p5, 0)) 1 (8 + bl) (8 + bl) false, few X5) := g5
    refine enter_eq ?_
    simp (disch := omega) [b1, b2, lenOfS, firstNo, fi2, g3, t1, t2, g4, w1, w2, g5]
/- A TABLE OF STRIKES -/
abbrev Stk := Nat × List (List Nat)
def fromK (ds : List (List Nat)) (k : Nat) : Nat := 4 + 4 * (ds.length + 1) + (ds.take k).flatten.length
def offsB (ds : List (List Nat)) (k : Nat) : List Nat := ((List.range k).map fun i => bigB (fromK ds i) 4).flatten
def strH (s : Stk) (k : Nat) : List Nat := bigB s.1 2 ++ [0, 72] ++ offsB s.2 k
def strB (s : Stk) : List Nat := strH s (s.2.length + 1) ++ s.2.flatten
def allB (l : List Stk) : List Nat := (l.map strB).flatten
def headS (l : List Stk) (k : Nat) : List Nat := [0, 1, 0, 0] ++ bigB l.length 4 ++ ((List.range k).map fun i => bigB (8 + 4 * l.length + (allB (l.take i)).length) 4).flatten
def sbixB (l : List Stk) : List Nat := headS l l.length ++ allB l
theorem offsB_succ {ds : List (List Nat)} {k : Nat} : offsB ds (k + 1) = offsB ds k ++ bigB (fromK ds k) 4 := by unfold offsB; rw [List.range_succ]; simp
theorem strH_succ {s : Stk} {k : Nat} : strH s (k + 1) = strH s k ++ bigB (fromK s.2 k) 4 := by unfold strH; rw [offsB_succ]; simp
theorem headS_succ {l : List Stk} {k : Nat} : headS l (k + 1) = headS l k ++ bigB (8 + 4 * l.length + (allB (l.take k)).length) 4 := by unfold headS; rw [List.range_succ]; simp
theorem allB_succ {l : List Stk} {k : Nat} {s : Stk} (h : l[k]? = some s) : allB (l.take (k + 1)) = allB (l.take k) ++ strB s := by unfold allB; rw [List.take_add_one, h]; simp
theorem offsB_len {ds : List (List Nat)} : ∀ k, (offsB ds k).length = 4 * k
  | 0 => rfl
  | k + 1 => by rw [offsB_succ, List.length_append, offsB_len k, bigB_len]; omega
theorem strH_len {s : Stk} {k : Nat} : (strH s k).length = 4 + 4 * k := by unfold strH; rw [List.length_append, List.length_append, bigB_len, offsB_len]; rfl
theorem headS_len {l : List Stk} : ∀ k, (headS l k).length = 8 + 4 * k
  | 0 => by simp [headS, bigB_len]
  | k + 1 => by rw [headS_succ, List.length_append, headS_len k, bigB_len]; omega
structure StkOk (s : Stk) : Prop where
  ppem : s.1 < 65536
  few : s.2.length ≤ 16
  each : ∀ d ∈ s.2, d.length ≤ 4096 ∧ ∀ b ∈ d, b < 256
theorem StkOk.flat {s : Stk} (h : StkOk s) : s.2.flatten.length ≤ 65536 := by
  have h1 := flatten_le (l := s.2) (m := 4096) fun d hd => (h.each d hd).1
  have h2 : 4096 * s.2.length ≤ 4096 * 16 := Nat.mul_le_mul_left _ h.few
  omega
theorem StkOk.len {s : Stk} (h : StkOk s) : (strB s).length ≤ 66000 := by
  have h1 := h.flat
  have h2 := h.few
  unfold strB
  rw [List.length_append, strH_len]; omega
theorem allB_le {l : List Stk} (h : ∀ s ∈ l, StkOk s) : (allB l).length ≤ 66000 * l.length := by
  unfold allB
  have := flatten_le (l := l.map strB) (m := 66000) fun t ht => by
    obtain ⟨s, hs, rfl⟩ := List.mem_map.1 ht
    exact (h s hs).len
  rw [List.length_map] at this
  exact this
theorem take_flat_le {ds : List (List Nat)} (k : Nat) : (ds.take k).flatten.length ≤ ds.flatten.length := by
  conv => rhs; rw [← List.take_append_drop k ds, List.flatten_append, List.length_append]
  omega
theorem strB_lt {s : Stk} (h : StkOk s) : ∀ b ∈ strB s, b < 256 := by
  intro b hb
  unfold strB strH offsB at hb
  simp only [List.mem_append, List.mem_flatten, List.mem_map] at hb
  rcases hb with ((hb | hb) | ⟨t, ⟨i, _, rfl⟩, h2⟩) | ⟨t, h1, h2⟩
  · exact bigB_lt _ _ b hb
  · simp at hb; omega
  · exact bigB_lt _ _ b h2
  · exact (h.each t h1).2 b h2
theorem sbixB_lt {l : List Stk} (h : ∀ s ∈ l, StkOk s) : ∀ b ∈ sbixB l, b < 256 := by
  intro b hb
  unfold sbixB headS allB at hb
  simp only [List.mem_append, List.mem_flatten, List.mem_map] at hb
  rcases hb with ((hb | hb) | ⟨t, ⟨i, _, rfl⟩, h2⟩) | ⟨t, ⟨s, hs, rfl⟩, h2⟩
  · simp at hb; omega
  · exact bigB_lt _ _ b hb
  · exact bigB_lt _ _ b h2
  · exact strB_lt (h s hs) b h2
/-- Strikes in memory. -/
structure StkAt (os : List (Option AObj)) (v : V) (l : List Stk) : Prop where
  nil : l = [] → v = .slice none 0 0 0 true
  ex : l ≠ [] → ∃ r own cs, v = .slice (some (r, 0)) 2 l.length l.length false ∧ (os[r]?).join = some (.cells own cs) ∧ ∀ (j : Nat) (s : Stk), l[j]? = some s → cs[j * 2]? = some (.int .i64 (s.1 : Int)) ∧ ∃ q f, cs[j * 2 + 1]? = some (slT f q s.2.length) ∧ RowsB os q s.2
theorem StkAt.keep {os os' : List (Option AObj)} {v : V} {l : List Stk} (h : StkAt os v l) (he : ∀ i, i < os.length → (os'[i]?).join = (os[i]?).join) (hl : os.length ≤ os'.length) : StkAt os' v l :=
  ⟨h.nil, fun hne => by
    obtain ⟨r, own, cs, h1, h2, h3⟩ := h.ex hne
    refine ⟨r, own, cs, h1, by rw [he r (join_lt h2)]; exact h2, fun j s hs => ?_⟩
    obtain ⟨g1, q, f, g2, g3⟩ := h3 j s hs
    exact ⟨g1, q, f, g2, g3.keep he hl⟩⟩
theorem FA.first {os : List (Option AObj)} {N : Nat} {o : Option Nat} {bs : List Nat} (h : FA os N o bs) (hb : ∀ b ∈ bs, b < 256) : lenOf (fV o bs.length) = some bs.length ∧ firstN (few os) 1 bs.length (fV o bs.length) = some (bytesV bs) := first_bytes (lookB_at (h.shows hb).2)
set_option maxHeartbeats 4000000 in
theorem Sbix_run {call : CallT} {lf nB : Nat} (hlf : 70 ≤ lf) (hB : BigF call nB) {os : List (Option AObj)} {v : V} {l : List Stk} (hv : StkAt os v l) (hn : l.length ≤ 64) (hl : ∀ s ∈ l, StkOk s) :
    ∃ p os', enterF call lf [v] (few os) (Sbix_c nB) = some (.slice (some (p, 0)) 1 (sbixB l).length (sbixB l).length false, few os') ∧ (∀ i, i < os.length → (os'[i]?).join = (os[i]?).join) ∧ os.length ≤ os'.length ∧ (os'[p]?).join = some (newBytes (sbixB l)) := by
  have main := enter_wp (call := call) (lf := lf) (n := 93) (args := [v]) (st := few os) (K := fun u st => ∃ p os', st = few os' ∧ u = .slice (some (p, 0)) 1 (sbixB l).length (sbixB l).length false ∧ (∀ i, i < os.length → (os'[i]?).join = (os[i]?).join) ∧ os.length ≤ os'.length ∧ (os'[p]?).join = some (newBytes (sbixB l))) (c := (Sbix_c nB).code) (rs := (Sbix_c nB).results) ?_
  · obtain ⟨u, st', h1, p, os', rfl, rfl, h2⟩ := main
    exact ⟨p, os', h1, h2⟩
  · unfold Sbix_c
    dsimp only
    obtain ⟨n, hne⟩ : ∃ n, n = l.length := ⟨_, rfl⟩
    have lenv : ∀ st, lenV st .slice v = some (.int .i64 (n : Int)) := fun st => by
      by_cases h0 : l = []
      · rw [hv.nil h0, hne, h0]; rfl
      · obtain ⟨r, own, cs, rfl, _⟩ := hv.ex h0
        rw [hne]; rfl
    have hall : ∀ k, (allB (l.take k)).length ≤ 66000 * 64 := fun k => by
      have h1 := allB_le (l := l.take k) fun s hs => hl s (List.mem_of_mem_take hs)
      have h2 : 66000 * (l.take k).length ≤ 66000 * 64 := Nat.mul_le_mul_left _ (by rw [List.length_take]; omega)
      omega
    obtain ⟨N, hN⟩ : ∃ N, N = os.length := ⟨_, rfl⟩
    obtain ⟨A1, hA1⟩ : ∃ A, A = os ++ [some (newBytes [0, 1, 0, 0])] := ⟨_, rfl⟩
    have e1 : A1.length = N + 1 := by rw [hA1]; simp [hN]
    have al1 : (few os).alloc (.cells true [.int .u8 0, .int .u8 1, .int .u8 0, .int .u8 0]) = some (N, few A1) := by rw [hA1, hN]; exact few_alloc os _
    obtain ⟨A2, hA2⟩ : ∃ A, A = A1 ++ [some (newBytes (bigB n 4))] := ⟨_, rfl⟩
    have e2 : A2.length = N + 2 := by rw [hA2]; simp [e1]
    have b1 : call nB [.int .i64 (n : Int), .int .i64 4] (few A1) = some (.slice (some (N + 1, 0)) 1 4 4 false, few A2) := by rw [hA2, ← e1]; exact hB A1 n 4 (by omega) (by omega)
    have fi1 : firstN (few A2) 1 4 (.slice (some (N + 1, 0)) 1 4 4 false) = some (bytesV (bigB n 4)) := first_own (bs := bigB n 4) (by rw [hA2, ← e1]; simp)
    have at2 : (A2[N]?).join = some (newBytes [0, 1, 0, 0]) := by rw [hA2, join_app (by omega), hA1, hN]; simp
    have F2 : Files N os A2 [] := by
      have := ((Files.start (os := os)).add (some (newBytes [0, 1, 0, 0]))).add (some (newBytes (bigB n 4)))
      rw [← hA1, ← hA2, ← hN] at this
      exact this
    have F3 := F2.new ([0, 1, 0, 0] ++ bigB n 4)
    obtain ⟨A3, hA3⟩ : ∃ A, A = A2 ++ [some (newBytes ([0, 1, 0, 0] ++ bigB n 4))] := ⟨_, rfl⟩
    have gr : appendV (few A2) 1 1 (.slice (some (N, 0)) 1 4 4 true) (some 4) (some (bytesV (bigB n 4))) = some (.slice (some (N + 2, 0)) 1 8 8 false, few A3) := by
      have := grow_fix (n := 4) (c := 4) (m := 3) (new := bytesV (bigB n 4)) at2 rfl (by rw [bytesV_len, bigB_len]) (by omega)
      rw [e2] at this
      rw [hA3]
      exact this.trans (by simp [newBytes, bytesV])
    rw [← hA3, e2, show [0, 1, 0, 0] ++ bigB n 4 = headS l 0 from by rw [hne]; simp [headS]] at F3
    have F4 := F3.none
    simp (disch := omega) [lenv, al1, b1, lenOfS, firstNo, fi1, gr, wrap_i]
    refine wp_loop (fun k s st => ∃ i X ob oa, i + k = n ∧ st = few X ∧ Files N os X [(oa, allB (l.take i)), (ob, headS l i)] ∧ s .h = v ∧ s (.o (.o .h)) = fV ob (8 + 4 * i) ∧ s (.i (.o .h)) = .int .i64 (8 + 4 * (n : Int)) ∧ s (.o (.i .h)) = fV oa (allB (l.take i)).length ∧ s (.i (.i .h)) = .int .i64 (i : Int)) n ?_ (by omega) ?_
    · refine ⟨0, A3, some (N + 2), none, by omega, rfl, F4, ?_, ?_, ?_, ?_, ?_⟩ <;> simp [fV, allB]
    · rintro k s st ⟨i, X, ob, oa, hk, rfl, hF, s1, s2, s3, s4, s5⟩
      have hle := hF.le
      obtain ⟨A, hAe⟩ : ∃ A, A = (allB (l.take i)).length := ⟨_, rfl⟩
      have hAl := hall i
      rw [← hAe] at s4 hAl
      have hab : ∀ b ∈ allB (l.take i), b < 256 := fun b hb => by
        unfold allB at hb
        obtain ⟨t, h1, h2⟩ := List.mem_flatten.1 hb
        obtain ⟨s, hs, rfl⟩ := List.mem_map.1 h1
        exact strB_lt (hl s (List.mem_of_mem_take hs)) b h2
      cases k with
      | zero =>
        have hin : i = n := by omega
        subst hin
        have hfa := hF.at_ _ (List.mem_cons_self ..)
        have hfa : FA X N oa (allB (l.take i)) := hfa
        obtain ⟨w1, w2⟩ := FA.first hfa hab
        rw [← hAe] at w1 w2
        obtain ⟨o', Y, g, hG, _⟩ := hF.grow (pre := [(oa, allB (l.take i))]) (post := []) (allB (l.take i)) (by rw [headS_len]; omega)
        rw [headS_len, ← hAe] at g
        have hB' := hG.at_ (o', headS l i ++ allB (l.take i)) (by simp)
        have hfin : headS l i ++ allB (l.take i) = sbixB l := by
          unfold sbixB
          rw [List.take_of_length_le (by omega), hne]
        rw [hfin] at hB'
        have hlen : (sbixB l).length = 8 + 4 * i + A := by rw [← hfin, List.length_append, headS_len, hAe]
        cases o' with
        | none =>
          have h0 : sbixB l = [] := hB'
          rw [h0] at hlen
          simp at hlen
          omega
        | some p =>
          have g : appendV (few X) 1 1 (fV ob (8 + 4 * i)) (some A) (some (bytesV (allB (l.take i)))) = some (.slice (some (p, 0)) 1 (8 + 4 * i + A) (8 + 4 * i + A) false, few Y) := g
          simp (disch := omega) [s1, s2, s3, s4, s5, lenv, dlt_t, dlt_f, dle_t, dle_f, dltn_t, dltn_f, dlen_t, dlen_f, deq_t, deq_f, deqn_t, deqn_f, w1, firstNo, w2, g]
          exact ⟨p, Y, rfl, by rw [hlen]; exact ⟨rfl, rfl⟩, fun i hi => hG.old i (by omega), by have := hG.le; omega, hB'.2⟩
      | succ k =>
        have hin : i < n := by omega
        obtain ⟨sk, hsk⟩ : ∃ s, l[i]? = some s := ⟨_, List.getElem?_eq_getElem (by omega)⟩
        have hok := hl sk (List.mem_of_getElem? hsk)
        have hne' : l ≠ [] := fun e => by rw [e] at hsk; simp at hsk
        obtain ⟨r, own, cs, hvr, hrX, hcs⟩ := hv.ex hne'
        rw [← hne] at hvr
        have hrl := join_lt hrX
        obtain ⟨c0, q, f, c1, hq⟩ := hcs i sk hsk
        have hokf := hok.flat
        have hok2 := hok.few
        have hok1 := hok.ppem
        obtain ⟨m, hm⟩ : ∃ m, m = sk.2.length := ⟨_, rfl⟩
        rw [← hm] at c1
        -- where the strike stands
        obtain ⟨x0, hx0⟩ : ∃ x0, X.length = x0 := ⟨_, rfl⟩
        obtain ⟨a0, ha0⟩ : ∃ a, a = 8 + 4 * n + A := ⟨_, rfl⟩
        have ea0 : (8 : Int) + 4 * (n : Int) + (A : Int) = (a0 : Int) := by omega
        obtain ⟨X1, hX1⟩ : ∃ X1, X1 = X ++ [some (newBytes (bigB a0 4))] := ⟨_, rfl⟩
        have e1' : X1.length = x0 + 1 := by rw [hX1]; simp [hx0]
        have big1 : call nB [.int .i64 (a0 : Int), .int .i64 4] (few X) = some (.slice (some (x0, 0)) 1 4 4 false, few X1) := by rw [hX1, ← hx0]; exact hB X a0 4 (by omega) (by omega)
        have fi1' : firstN (few X1) 1 4 (.slice (some (x0, 0)) 1 4 4 false) = some (bytesV (bigB a0 4)) := first_own (bs := bigB a0 4) (by rw [hX1, ← hx0]; simp)
        have hF1 := hF.add (some (newBytes (bigB a0 4)))
        rw [← hX1] at hF1
        obtain ⟨ob', X2, g2, hF2, hl2⟩ := hF1.grow (pre := [(oa, allB (l.take i))]) (post := []) (bigB a0 4) (by rw [headS_len, bigB_len]; omega)
        rw [headS_len, bigB_len] at g2
        have hhead : headS l i ++ bigB a0 4 = headS l (i + 1) := by rw [headS_succ, ha0, hAe, hne]
        rw [hhead] at hF2
        -- its size
        have inX : ∀ (Y : List (Option AObj)), (∀ i, i < N → (Y[i]?).join = (os[i]?).join) → (Y[r]?).join = some (.cells own cs) := fun Y hY => by rw [hY r (by omega)]; exact hrX
        have ldp : ∀ (Y : List (Option AObj)), (∀ i, i < N → (Y[i]?).join = (os[i]?).join) → loadV (few Y) false 1 (.ptr (some (r, i * 2))) = some (.int .i64 (sk.1 : Int)) := fun Y hY => by rw [load_few (inX Y hY), c0]
        have lds : ∀ (Y : List (Option AObj)), (∀ i, i < N → (Y[i]?).join = (os[i]?).join) → loadV (few Y) false 1 (.ptr (some (r, i * 2 + 1))) = some (slT f q m) := fun Y hY => by rw [load_few (inX Y hY), c1]
        have ldp2 := ldp X2 hF2.old
        obtain ⟨x2, hx2⟩ : ∃ x2, X2.length = x2 := ⟨_, rfl⟩
        obtain ⟨X3, hX3⟩ : ∃ X3, X3 = X2 ++ [some (newBytes (bigB sk.1 2))] := ⟨_, rfl⟩
        have e3 : X3.length = x2 + 1 := by rw [hX3]; simp [hx2]
        have big3 : call nB [.int .i64 (sk.1 : Int), .int .i64 2] (few X2) = some (.slice (some (x2, 0)) 1 2 2 false, few X3) := by rw [hX3, ← hx2]; exact hB X2 sk.1 2 (by omega) (by omega)
        have hF3 := hF2.new (bigB sk.1 2)
        rw [← hX3, hx2] at hF3
        obtain ⟨X4, hX4⟩ : ∃ X4, X4 = X3 ++ [some (newBytes [0, 72])] := ⟨_, rfl⟩
        have al4 : (few X3).alloc (.cells true [.int .u8 0, .int .u8 72]) = some (x2 + 1, few X4) := by rw [hX4, ← e3]; exact few_alloc X3 _
        have fi4 : firstN (few X4) 1 2 (.slice (some (x2 + 1, 0)) 1 2 2 true) = some (bytesV [0, 72]) := first_own (bs := [0, 72]) (by rw [hX4, ← e3]; simp)
        have hF4 := hF3.add (some (newBytes [0, 72]))
        rw [← hX4] at hF4
        obtain ⟨os', X5, g5, hF5, hl5⟩ := hF4.grow (pre := []) (post := [(oa, allB (l.take i)), (ob', headS l (i + 1))]) [0, 72] (by rw [bigB_len]; simp)
        rw [bigB_len] at g5
        have g5 : appendV (few X4) 1 1 (.slice (some (x2, 0)) 1 2 2 false) (some 2) (some (bytesV [0, 72])) = some (fV os' 4, few X5) := g5
        have hF5 : Files N os X5 [(os', strH sk 0), (oa, allB (l.take i)), (ob', headS l (i + 1))] := by
          have : strH sk 0 = bigB sk.1 2 ++ [0, 72] := by simp [strH, offsB]
          rw [this]
          exact hF5
        have lds5 := lds X5 hF5.old
        have slen : ∀ st, lenV st .slice (slT f q m) = some (.int .i64 (m : Int)) := fun _ => slT_len
        have hF6 := hF5.none
        have s1' := s1
        rw [hvr] at s1'
        have hfa : FA X N oa (allB (l.take i)) := hF.at_ _ (List.mem_cons_self ..)
        have lnA : ∀ st, lenV st .slice (fV oa A) = some (.int .i64 (A : Int)) := fun st => by rw [hAe]; exact hfa.len
        have g2 : appendV (few X1) 1 1 (fV ob (8 + 4 * i)) (some 4) (some (bytesV (bigB a0 4))) = some (fV ob' (8 + 4 * i + 4), few X2) := g2
        simp (disch := omega) [s1', s2, s3, s4, s5, dlt_t, dlt_f, dle_t, dle_f, dltn_t, dltn_f, dlen_t, dlen_f, deq_t, deq_f, deqn_t, deqn_f, lnA, ea0, big1, lenOfS, firstNo, fi1', g2, natOf_int, idxAddr_slice, ldp2, big3, al4, fi4, g5, lds5, slen, wrap_i]
        refine wp_loop (fun k s st => ∃ j Y od os2, j + k = m + 1 ∧ st = few Y ∧ Files N os Y [(od, (sk.2.take j).flatten), (os2, strH sk j), (oa, allB (l.take i)), (ob', headS l (i + 1))] ∧ s .h = .slice (some (r, 0)) 2 n n false ∧ s (.o (.o .h)) = fV ob' (8 + 4 * i + 4) ∧ s (.i (.o .h)) = .int .i64 (8 + 4 * (n : Int)) ∧ s (.o (.i .h)) = fV oa A ∧ s (.i (.i .h)) = .int .i64 (i : Int) ∧
          s (.o (.o (.o .h))) = fV os2 (4 + 4 * j) ∧ s (.i (.o (.o .h))) = .int .i64 (4 + 4 * ((m : Int) + 1)) ∧ s (.o (.i (.o .h))) = fV od (sumT sk.2 j) ∧ s (.i (.i (.o .h))) = .int .i64 (j : Int)) (m + 1) ?_ (by omega) ?_
        · refine ⟨0, X5, none, os', by omega, rfl, hF6, ?_, ?_, ?_, ?_, ?_, ?_, ?_, ?_, ?_⟩ <;> simp [s1', s3, s4, s5, sumT, fV]
        · rintro kk s st ⟨j, Y, od, os2, hk2, rfl, hG, z1, z2, z3, z4, z5, z6, z7, z8, z9⟩
          obtain ⟨D, hDe⟩ : ∃ D, D = sumT sk.2 j := ⟨_, rfl⟩
          rw [← hDe] at z8
          have hDl : (sk.2.take j).flatten.length = D := hDe.symm
          have hDm := take_flat_le (ds := sk.2) j
          have hfd : FA Y N od (sk.2.take j).flatten := hG.at_ _ (List.mem_cons_self ..)
          have lnD : ∀ st, lenV st .slice (fV od D) = some (.int .i64 (D : Int)) := fun st => by rw [← hDl]; exact hfd.len
          cases kk with
          | zero =>
            have hjm : j = m + 1 := by omega
            subst hjm
            have ldY := lds Y hG.old
            have hdb : ∀ b ∈ (sk.2.take (m + 1)).flatten, b < 256 := fun b hb => by
              obtain ⟨t, h1, h2⟩ := List.mem_flatten.1 hb
              exact (hok.each t (List.mem_of_mem_take h1)).2 b h2
            have hfs : FA Y N os2 (strH sk (m + 1)) := hG.at_ (os2, strH sk (m + 1)) (by simp)
            have hsb : ∀ b ∈ strH sk (m + 1), b < 256 := fun b hb => strB_lt hok b (by
              unfold strB
              rw [← hm]
              exact List.mem_append_left _ hb)
            obtain ⟨w1, w2⟩ := FA.first hfs hsb
            rw [strH_len] at w1 w2
            obtain ⟨oa2, Y1, h1, hG1, hk1⟩ := hG.grow (pre := [(od, (sk.2.take (m + 1)).flatten), (os2, strH sk (m + 1))]) (post := [(ob', headS l (i + 1))]) (strH sk (m + 1)) (by rw [← hAe, strH_len]; omega)
            rw [← hAe, strH_len] at h1
            have hfd1 : FA Y1 N od (sk.2.take (m + 1)).flatten := hG1.at_ _ (List.mem_cons_self ..)
            obtain ⟨w3, w4⟩ := FA.first hfd1 hdb
            rw [hDl] at w3 w4
            obtain ⟨oa3, Y2, h2, hG2, hk2'⟩ := hG1.grow (pre := [(od, (sk.2.take (m + 1)).flatten), (os2, strH sk (m + 1))]) (post := [(ob', headS l (i + 1))]) (sk.2.take (m + 1)).flatten (by rw [List.length_append, ← hAe, strH_len, hDl]; omega)
            rw [List.length_append, ← hAe, strH_len, hDl] at h2
            have htk : sk.2.take (m + 1) = sk.2 := List.take_of_length_le (by omega)
            have hG3 : Files N os Y2 [(oa3, allB (l.take (i + 1))), (ob', headS l (i + 1))] := by
              have e : allB (l.take i) ++ strH sk (m + 1) ++ (sk.2.take (m + 1)).flatten = allB (l.take (i + 1)) := by
                rw [allB_succ hsk, List.append_assoc]
                unfold strB
                rw [htk, ← hm]
              rw [← e]
              exact hG2.drop.drop
            have hlenA : (allB (l.take (i + 1))).length = A + (4 + 4 * (m + 1)) + D := by
              rw [allB_succ hsk, List.length_append, ← hAe]
              unfold strB
              rw [List.length_append, strH_len, ← hm, ← hDl, htk]
              omega
            simp (disch := omega) [z1, z2, z3, z4, z5, z6, z7, z8, z9, dlt_t, dlt_f, dle_t, dle_f, dltn_t, dltn_f, dlen_t, dlen_f, deq_t, deq_f, deqn_t, deqn_f, natOf_int, idxAddr_slice, ldY, slen, w1, firstNo, w2, h1, w3, w4, h2, wrap_i]
            refine ⟨k, by omega, i + 1, by omega, Y2, rfl, ob', oa3, hG3, hvr.symm, by rw [show 8 + 4 * (i + 1) = 8 + 4 * i + 4 from by omega], by rw [hlenA], by omega⟩
          | succ kk =>
            have hjm : j ≤ m := by omega
            have ldY := lds Y hG.old
            obtain ⟨y0, hy0⟩ : ∃ y0, Y.length = y0 := ⟨_, rfl⟩
            obtain ⟨fk, hfk⟩ : ∃ a, a = fromK sk.2 j := ⟨_, rfl⟩
            have efk : 4 + 4 * ((m : Int) + 1) + (D : Int) = (fk : Int) := by
              rw [hfk]
              unfold fromK
              rw [hDl, ← hm]
              omega
            obtain ⟨Y1, hY1⟩ : ∃ Y1, Y1 = Y ++ [some (newBytes (bigB fk 4))] := ⟨_, rfl⟩
            have big5 : call nB [.int .i64 (fk : Int), .int .i64 4] (few Y) = some (.slice (some (y0, 0)) 1 4 4 false, few Y1) := by rw [hY1, ← hy0]; exact hB Y fk 4 (by omega) (by omega)
            have fi5 : firstN (few Y1) 1 4 (.slice (some (y0, 0)) 1 4 4 false) = some (bytesV (bigB fk 4)) := first_own (bs := bigB fk 4) (by rw [hY1, ← hy0]; simp)
            have hG1 := hG.add (some (newBytes (bigB fk 4)))
            rw [← hY1] at hG1
            obtain ⟨os3, Y2, h2, hG2, hk2'⟩ := hG1.grow (pre := [(od, (sk.2.take j).flatten)]) (post := [(oa, allB (l.take i)), (ob', headS l (i + 1))]) (bigB fk 4) (by rw [strH_len, bigB_len]; omega)
            rw [strH_len, bigB_len] at h2
            rw [hfk, ← strH_succ] at hG2
            have ldY2 := lds Y2 hG2.old
            by_cases hj : j < m
            · obtain ⟨d, hd⟩ : ∃ d, sk.2[j]? = some d := ⟨_, List.getElem?_eq_getElem (by omega)⟩
              obtain ⟨hd1, hd2⟩ := hok.each d (List.mem_of_getElem? hd)
              have hTr : slT f q m = .slice (some (q, 0)) 1 m m f := if_neg (by omega)
              obtain ⟨w, ldw, _, hwl, _⟩ := (hq.keep (fun i hi => hG2.old i (by omega)) (by have := hG2.le; omega)).at_ hd
              obtain ⟨w1, w2⟩ := first_bytes (lookB_at hwl)
              obtain ⟨od2, Y3, h3, hG3, hk3⟩ := hG2.grow (pre := []) (post := [(os3, strH sk (j + 1)), (oa, allB (l.take i)), (ob', headS l (i + 1))]) d (by rw [hDl]; omega)
              rw [hDl] at h3
              have hsum := sum_take hd
              obtain ⟨dl, hdl⟩ : ∃ dl, dl = d.length := ⟨_, rfl⟩
              rw [← hdl] at w1 w2 h3
              have hDn : sumT sk.2 (j + 1) = D + dl := by unfold sumT; rw [hsum, List.length_append, hDl, hdl]
              rw [hTr] at ldY ldY2 slen
              have hG3 : Files N os Y3 [(od2, (sk.2.take (j + 1)).flatten), (os3, strH sk (j + 1)), (oa, allB (l.take i)), (ob', headS l (i + 1))] := by rw [hsum]; exact hG3
              simp (disch := omega) [z1, z2, z3, z4, z5, z6, z7, z8, z9, dlt_t, dlt_f, dle_t, dle_f, dltn_t, dltn_f, dlen_t, dlen_f, deq_t, deq_f, deqn_t, deqn_f, natOf_int, idxAddr_slice, ldY, lnD, efk, big5, lenOfS, firstNo, fi5, h2, ldY2, ldw, w1, w2, h3, wrap_i]
              refine ⟨kk, by omega, j + 1, by omega, Y3, rfl, od2, os3, hG3, by rw [show 4 + 4 * (j + 1) = 4 + 4 * j + 4 from by omega], by rw [hDn], by omega⟩
            · have hjm' : j = m := by omega
              have hsame : (sk.2.take (j + 1)).flatten = (sk.2.take j).flatten := by rw [List.take_of_length_le (by omega), List.take_of_length_le (by omega)]
              have hDn : sumT sk.2 (j + 1) = D := by unfold sumT; rw [hsame, hDl]
              have hG3 : Files N os Y2 [(od, (sk.2.take (j + 1)).flatten), (os3, strH sk (j + 1)), (oa, allB (l.take i)), (ob', headS l (i + 1))] := by rw [hsame]; exact hG2
              simp (disch := omega) [z1, z2, z3, z4, z5, z6, z7, z8, z9, dlt_t, dlt_f, dle_t, dle_f, dltn_t, dltn_f, dlen_t, dlen_f, deq_t, deq_f, deqn_t, deqn_f, natOf_int, idxAddr_slice, ldY, lnD, efk, big5, lenOfS, firstNo, fi5, h2, ldY2, slen, wrap_i]
              refine ⟨kk, by omega, j + 1, by omega, Y2, rfl, od, os3, hG3, by rw [show 4 + 4 * (j + 1) = 4 + 4 * j + 4 from by omega], by rw [hDn], by omega⟩
def SbixF (call : CallT) (g : Nat) : Prop := ∀ os v l, StkAt os v l → l.length ≤ 64 → (∀ s ∈ l, StkOk s) →
  ∃ p os', call g [v] (few os) = some (.slice (some (p, 0)) 1 (sbixB l).length (sbixB l).length false, few os') ∧ (∀ i, i < os.length → (os'[i]?).join = (os[i]?).join) ∧ os.length ≤ os'.length ∧ (os'[p]?).join = some (newBytes (sbixB l))
theorem SbixF.code {base : CallT} {g lf nB : Nat} (hlf : 70 ≤ lf) (hB : BigF base nB) : SbixF (Vabs.withF base g lf (Sbix_c nB)) g := fun os v l h1 h2 h3 => by
  rw [withF_same]; exact Sbix_run hlf hB h1 h2 h3
theorem SbixF.withF {call : CallT} {n g lf : Nat} {fn : AFunc} (h : SbixF call n) (hne : n ≠ g) : SbixF (Vabs.withF call g lf fn) n := fun os v l a b c => by rw [withF_other hne]; exact h os v l a b c
theorem SbixF.other {call : CallT} {n g : Nat} {l : List V → St → Option (V × St)} (h : SbixF call n) (hne : n ≠ g) : SbixF (withL call g l) n := fun os v s a b c => by rw [withL_other hne]; exact h os v s a b c
theorem DataF.withF {call : CallT} {n g lf : Nat} {fn : AFunc} (h : DataF call n) (hne : n ≠ g) : DataF (Vabs.withF call g lf fn) n := fun os x y tag w b a c d => by rw [withF_other hne]; exact h os x y tag w b a c d
theorem DataF.other {call : CallT} {n g : Nat} {l : List V → St → Option (V × St)} (h : DataF call n) (hne : n ≠ g) : DataF (withL call g l) n := fun os x y tag w b a c d => by rw [withL_other hne]; exact h os x y tag w b a c d
/- A FONT OF ONE TABLE -/
/-- Both fonts of one table. -/
def OneTF (call : CallT) (g : Nat) : Prop := ∀ os w tag b, tag.length = 4 → (∀ x ∈ tag, x < 256) → w.good os.length = true → lookB (few os).look w = some b → b.length ≤ 5000000 →
  ∃ F G os', call g [.str tag, w] (few os) = some (.tuple [.ptr (some (F, 0)), .ptr (some (G, 0))], few os') ∧ FontMem os' F [(tag, b)] ∧ RFontMem os' G [(tag, b)] ∧ (∀ i, i < os.length → (os'[i]?).join = (os[i]?).join) ∧ os.length ≤ os'.length
theorem lookB_cells' {l : Sight} {v : V} {b : List Nat} (h : lookB l v = some b) : v.cells = some [v] ∧ v.plain = true := by
  unfold lookB at h
  split at h
  · exact ⟨rfl, rfl⟩
  · exact ⟨rfl, rfl⟩
  · cases h
theorem OneTF.code {base : CallT} {g lf nF nO nR : Nat} (hF : FontF base nF) (hO : OpenF base nO) (hR : ROpenF base nR) : OneTF (Vabs.withF base g lf (openT_c nF nO nR)) g := fun os w tag b h4 ht hg hl hb => by
  rw [withF_same]
  have hcl := (lookB_cells' hl).1
  obtain ⟨X1, hX1⟩ : ∃ X1, X1 = os ++ [some (AObj.cells true [V.str tag])] := ⟨_, rfl⟩
  have e1 : X1.length = os.length + 1 := by rw [hX1]; simp
  have al1 : (few os).alloc (.cells true [.str tag]) = some (os.length, few X1) := by rw [hX1]; exact few_alloc os _
  obtain ⟨X2, hX2⟩ : ∃ X2, X2 = X1 ++ [some (AObj.cells true [w])] := ⟨_, rfl⟩
  have e2 : X2.length = os.length + 2 := by rw [hX2]; simp [e1]
  have al2 : (few X1).alloc (.cells true [w]) = some (os.length + 1, few X2) := by rw [hX2, ← e1]; exact few_alloc X1 _
  have k2 : ∀ i, i < os.length → (X2[i]?).join = (os[i]?).join := fun i hi => by rw [hX2, join_app (by omega), hX1, join_app hi]
  have hrow : RowsB X2 (os.length + 1) [b] := rows_own (own := true) (vs := [w]) (by rw [hX2, ← e1]; simp) rfl fun j v c hv hc => by
    match j, hv, hc with
    | 0, hv, hc =>
      cases hv; cases hc
      exact ⟨V.good_le (by omega) hg, lookB_mono (sight_keep k2 (by omega)) hl⟩
    | j + 1, hv, hc => simp at hv
  have hb256 := bytesAt_lt (lookB_at hl)
  obtain ⟨u, Y, ef, k3, k4, k5⟩ := hF X2 os.length (os.length + 1) true true [tag] [b] (fun _ => ⟨true, by rw [hX2, join_app (by omega), hX1]; simp [strsV]⟩) hrow (fun t h => by rw [List.mem_singleton.1 h]; exact ht) (fun t h => by rw [List.mem_singleton.1 h]; exact hb256) (by simp) (by simp) (by simp; omega)
  have hls : layS [tag] [b] = some (layL [(tag, b)]) := by
    unfold layS
    rw [if_pos ⟨rfl, by simp, by simpa using h4, by simp⟩]
    rfl
  rw [hls] at k5
  obtain ⟨p, rfl, hp, hpb⟩ := k5
  have htag : Tagged [(tag, b)] := fun x hx => by rw [List.mem_singleton.1 hx]; exact h4
  have hflat : (flatT [(tag, b)]).length = b.length := by simp [flatT]
  have hf : fontS (layL [(tag, b)]) = .inr [(tag, b)] := font_lay htag (by simp) (by simp) (by rw [hflat]; simp; omega)
  have hlt : ∀ x ∈ layL [(tag, b)], x < 256 := lay_lt (by simp) (fun x hx => by rw [List.mem_singleton.1 hx]; exact ht) (fun x hx => by rw [List.mem_singleton.1 hx]; exact hb256)
  obtain ⟨B, hB⟩ : ∃ B, B = (layL [(tag, b)]).length := ⟨_, rfl⟩
  have hBl : B ≤ 5000028 := by rw [hB, layL_len htag, hflat]; simp; omega
  obtain ⟨og, ol⟩ := lookB_own (f := false) hpb hlt
  rw [← hB] at og ol ef
  obtain ⟨l1, ho, hfm⟩ := open_mem hO og ol (by omega) hf
  obtain ⟨Z, hZ⟩ : ∃ Z, Z = Y ++ l1 := ⟨_, rfl⟩
  rw [← hZ] at ho hfm
  have hZk : ∀ i, i < Y.length → (Z[i]?).join = (Y[i]?).join := fun i hi => by rw [hZ]; exact join_app hi
  have hZl : Y.length ≤ Z.length := by rw [hZ, List.length_append]; omega
  have hr := hR Z _ _ (V.good_le hZl og) (lookB_mono (sight_keep hZk hZl) ol) (by omega)
  rw [show ropenA Z.length (layL [(tag, b)]) = (rfontObjs Z.length [(tag, b)], fun k => .tuple [.ptr (some (k, 0)), .int .i64 0]) from by unfold ropenA; rw [hf]] at hr
  have hrm := rfont_mem (os := Z) (L := [(tag, b)])
  obtain ⟨F, hFe⟩ : ∃ F, F = Y.length := ⟨_, rfl⟩
  obtain ⟨G, hGe⟩ : ∃ G, G = Z.length := ⟨_, rfl⟩
  rw [← hFe] at ho hfm
  rw [← hGe] at hr hrm
  obtain ⟨W, hW⟩ : ∃ W, W = Z ++ (rfontObjs G [(tag, b)]).map some := ⟨_, rfl⟩
  have hr : base nR [.slice (some (p, 0)) 1 B B false] (few Z) = some (.tuple [.ptr (some (G, 0)), .int .i64 0], few W) := by rw [hr, hW]
  rw [← hW] at hrm
  have hWk : ∀ i, i < os.length → (W[i]?).join = (os[i]?).join := fun i hi => by rw [hW, join_app (by omega), hZk i (by omega), k3 i (by omega), k2 i hi]
  have hfW := hfm.keep (os' := W) (fun i hi => by rw [hW]; exact join_app hi)
  have hWl : Z.length ≤ W.length := by rw [hW, List.length_append]; omega
  refine ⟨F, G, W, ?_, hfW, hrm, hWk, by omega⟩
  have ef : base nF [.slice (some (os.length, 0)) 1 1 1 true, .slice (some (os.length + 1, 0)) 1 1 1 true] (few X2) = some (.slice (some (p, 0)) 1 B B false, few Y) := ef
  refine enter_eq ?_
  simp (disch := omega) [al1, hcl, al2, ef, ho, hr]
theorem OneTF.withF {call : CallT} {n g lf : Nat} {fn : AFunc} (h : OneTF call n) (hne : n ≠ g) : OneTF (Vabs.withF call g lf fn) n := fun os w tag b h1 h2 h3 h4 h5 => by rw [withF_other hne]; exact h os w tag b h1 h2 h3 h4 h5
theorem OneTF.other {call : CallT} {n g : Nat} {l : List V → St → Option (V × St)} (h : OneTF call n) (hne : n ≠ g) : OneTF (withL call g l) n := fun os w tag b h1 h2 h3 h4 h5 => by rw [withL_other hne]; exact h os w tag b h1 h2 h3 h4 h5

end Go.Vabs.Ra

namespace Go.Vabs.Rb
set_option linter.unusedVariables false
set_option linter.unusedSimpArgs false
set_option maxRecDepth 10000
def strikesOf_c (n_U16 : Nat) (n_U32 : Nat) (n_Part : Nat) : AFunc := AFunc.mk 73 (.seq (.reg [AOper.mk (some (.i .h)) (.mv (.c (.slice none 0 0 0 true))) none, AOper.mk (some (.o (.o .h))) (.mv (.c (.int .i64 (.ofNat 0)))) none]) (.seq (.reg [AOper.mk (some (.i (.i (.o (.o .h))))) (.call n_U16 [.t .h, .c (.int .i64 (.ofNat 0))]) none, AOper.mk (some (.o (.o (.i (.o .h))))) (.extract (.t (.i (.i (.o (.o .h))))) 0) none, AOper.mk (some (.i (.o (.i (.o .h))))) (.extract (.t (.i (.i (.o (.o .h))))) 1) none, AOper.mk (some (.i (.o .h))) (.mv (.t (.o (.o (.i (.o .h)))))) none, AOper.mk (some (.o (.i .h))) (.mv (.t (.i (.o (.i (.o .h)))))) none]) (.seq (.reg [AOper.mk (some (.o (.o (.o (.i .h))))) (.call n_U32 [.t .h, .c (.int .i64 (.ofNat 4))]) none, AOper.mk (some (.i (.o (.o (.i .h))))) (.extract (.t (.o (.o (.o (.i .h))))) 0) none, AOper.mk (some (.o (.i (.o (.i .h))))) (.extract (.t (.o (.o (.o (.i .h))))) 1) none, AOper.mk (some (.i (.i .h))) (.mv (.t (.i (.o (.o (.i .h)))))) none, AOper.mk (some (.o (.o (.o .h)))) (.mv (.t (.o (.i (.o (.i .h)))))) none]) (.seq (.block 0 (.seq (.reg [AOper.mk (some (.i (.o (.i (.i .h))))) (.len .slice (.t .h)) none, AOper.mk (some (.o (.i (.i (.i .h))))) (.bin .lss (.val .int) (.t (.i (.o (.i (.i .h))))) (.c (.int .i64 (.ofNat 8)))) none, AOper.mk (some (.i (.i (.o (.i .h))))) (.mv (.t (.o (.i (.i (.i .h)))))) none]) (.cond (.t (.i (.i (.o (.i .h))))) (.seq (.reg [AOper.mk (some (.i .h)) (.mv (.c (.slice none 0 0 0 true))) none, AOper.mk (some (.o (.o .h))) (.mv (.c (.int .i64 (.ofNat 3)))) none]) .ret) (.seq (.reg [AOper.mk (some (.i (.o (.o (.o (.o .h)))))) (.bin .neq (.val .int) (.t (.i (.o .h))) (.c (.int .i64 (.ofNat 1)))) none, AOper.mk (some (.i (.i (.i (.i .h))))) (.mv (.t (.i (.o (.o (.o (.o .h))))))) none]) (.cond (.t (.i (.i (.i (.i .h))))) (.seq (.reg [AOper.mk (some (.i .h)) (.mv (.c (.slice none 0 0 0 true))) none, AOper.mk (some (.o (.o .h))) (.mv (.c (.int .i64 (.ofNat 2)))) none]) .ret) (.seq (.reg [AOper.mk (some (.o (.o (.i (.o (.o .h)))))) (.bin .gtr (.val .int) (.t (.i (.i .h))) (.c (.int .i64 (.ofNat 64)))) none, AOper.mk (some (.o (.i (.o (.o (.o .h)))))) (.mv (.t (.o (.o (.i (.o (.o .h))))))) none]) (.cond (.t (.o (.i (.o (.o (.o .h)))))) (.seq (.reg [AOper.mk (some (.i .h)) (.mv (.c (.slice none 0 0 0 true))) none, AOper.mk (some (.o (.o .h))) (.mv (.c (.int .i64 (.ofNat 4)))) none]) .ret) .skip))))))) (.seq (.seq (.reg [AOper.mk (some (.o (.o (.o (.i (.o .h)))))) (.bin .mul (.val .int) (.c (.int .i64 (.ofNat 4))) (.t (.i (.i .h)))) none, AOper.mk (some (.i (.o (.o (.i (.o .h)))))) (.call n_Part [.t .h, .c (.int .i64 (.ofNat 8)), .t (.o (.o (.o (.i (.o .h)))))]) none, AOper.mk (some (.o (.i (.o (.i (.o .h)))))) (.extract (.t (.i (.o (.o (.i (.o .h)))))) 0) none, AOper.mk (some (.i (.i (.o (.i (.o .h)))))) (.extract (.t (.i (.o (.o (.i (.o .h)))))) 1) none, AOper.mk (some (.i (.o (.o .h)))) (.mv (.t (.o (.i (.o (.i (.o .h))))))) none, AOper.mk (some (.o (.i (.o .h)))) (.mv (.t (.i (.i (.o (.i (.o .h))))))) none]) (.seq (.reg [AOper.mk (some (.i (.o (.i (.i (.o .h)))))) (.un .not (.t (.o (.i (.o .h))))) none]) (.cond (.t (.i (.o (.i (.i (.o .h)))))) (.seq (.reg [AOper.mk (some (.i .h)) (.mv (.c (.slice none 0 0 0 true))) none, AOper.mk (some (.o (.o .h))) (.mv (.c (.int .i64 (.ofNat 3)))) none]) .ret) .skip))) (.seq (.reg [AOper.mk (some (.i (.i (.o .h)))) (.mv (.c (.slice none 0 0 0 true))) none]) (.seq (.seq (.reg [AOper.mk (some (.o (.i (.i (.i (.o .h)))))) (.mv (.t (.i (.i .h)))) none, AOper.mk (some (.i (.i (.i (.i (.o .h)))))) (.mv (.c (.int .i64 (.ofNat 0)))) none]) (.block 1 (.loop (.seq (.reg [AOper.mk (some (.o (.o (.o (.o (.i .h)))))) (.bin .lss (.val .int) (.t (.i (.i (.i (.i (.o .h)))))) (.t (.o (.i (.i (.i (.o .h))))))) none]) (.seq (.cond (.t (.o (.o (.o (.o (.i .h)))))) .skip (.exit 1)) (.seq (.block 2 (.seq (.reg [AOper.mk (some (.o (.o (.i .h)))) (.mv (.t (.i (.i (.i (.i (.o .h))))))) none]) (.seq (.reg [AOper.mk (some (.i (.o (.i (.o (.i .h)))))) (.bin .mul (.val .int) (.c (.int .i64 (.ofNat 4))) (.t (.o (.o (.i .h))))) none, AOper.mk (some (.o (.i (.i (.o (.i .h)))))) (.bin .add (.val .int) (.c (.int .i64 (.ofNat 8))) (.t (.i (.o (.i (.o (.i .h))))))) none, AOper.mk (some (.i (.i (.i (.o (.i .h)))))) (.call n_U32 [.t .h, .t (.o (.i (.i (.o (.i .h)))))]) none, AOper.mk (some (.o (.o (.o (.i (.i .h)))))) (.extract (.t (.i (.i (.i (.o (.i .h)))))) 0) none, AOper.mk (some (.i (.o (.o (.i (.i .h)))))) (.extract (.t (.i (.i (.i (.o (.i .h)))))) 1) none, AOper.mk (some (.i (.o (.i .h)))) (.mv (.t (.o (.o (.o (.i (.i .h))))))) none, AOper.mk (some (.o (.i (.i .h)))) (.mv (.t (.i (.o (.o (.i (.i .h))))))) none]) (.seq (.reg [AOper.mk (some (.i (.o (.i (.i (.i .h)))))) (.call n_U16 [.t .h, .t (.i (.o (.i .h)))]) none, AOper.mk (some (.o (.i (.i (.i (.i .h)))))) (.extract (.t (.i (.o (.i (.i (.i .h)))))) 0) none, AOper.mk (some (.i (.i (.i (.i (.i .h)))))) (.extract (.t (.i (.o (.i (.i (.i .h)))))) 1) none, AOper.mk (some (.i (.i (.i .h)))) (.mv (.t (.o (.i (.i (.i (.i .h))))))) none, AOper.mk (some (.o (.o (.o (.o .h))))) (.mv (.t (.i (.i (.i (.i (.i .h))))))) none]) (.seq (.seq (.reg [AOper.mk (some (.i (.o (.o (.o (.o (.o .h))))))) (.un .not (.t (.o (.o (.o (.o .h)))))) none]) (.cond (.t (.i (.o (.o (.o (.o (.o .h))))))) (.seq (.reg [AOper.mk (some (.i .h)) (.mv (.c (.slice none 0 0 0 true))) none, AOper.mk (some (.o (.o .h))) (.mv (.c (.int .i64 (.ofNat 3)))) none]) .ret) .skip)) (.reg [AOper.mk (some (.i (.o (.i (.o (.o (.o .h))))))) (.build [.int .i64 (.ofNat 0), .int .i64 (.ofNat 0)] [(0, (1, .t (.i (.o (.i .h))))), (1, (1, .t (.i (.i (.i .h)))))]) none, AOper.mk (some (.o (.i (.i (.o (.o (.o .h))))))) (.bslice 2 1 [.int .i64 (.ofNat 0), .int .i64 (.ofNat 0)] [(0, (2, .t (.i (.o (.i (.o (.o (.o .h))))))))]) none, AOper.mk (some (.i (.i (.i (.o (.o (.o .h))))))) (.append 2 16 (.t (.i (.i (.o .h)))) (.t (.o (.i (.i (.o (.o (.o .h)))))))) none, AOper.mk (some (.i (.i (.o .h)))) (.mv (.t (.i (.i (.i (.o (.o (.o .h)))))))) none])))))) (.reg [AOper.mk (some (.o (.o (.o (.i (.o (.o .h))))))) (.bin .add (.val .int) (.t (.i (.i (.i (.i (.o .h)))))) (.c (.int .i64 (.ofNat 1)))) none, AOper.mk (some (.i (.i (.i (.i (.o .h)))))) (.mv (.t (.o (.o (.o (.i (.o (.o .h)))))))) none]))))))) (.seq (.reg [AOper.mk (some (.i .h)) (.mv (.t (.i (.i (.o .h))))) none, AOper.mk (some (.o (.o .h))) (.mv (.c (.int .i64 (.ofNat 0)))) none]) .ret)))))))) [.tmp (.i .h), .tmp (.o (.o .h))]
def chosen_c : AFunc := AFunc.mk 58 (.seq (.reg [AOper.mk (some (.i (.o .h))) (.alloc [.int .i64 (.ofNat 0), .int .i64 (.ofNat 0)]) none, AOper.mk (some (.o (.i .h))) (.mv (.c (.bool false))) none]) (.seq (.seq (.reg [AOper.mk (some (.o (.o (.i .h)))) (.len .slice (.t .h)) none, AOper.mk (some (.i (.o (.i .h)))) (.bin .eql (.val .int) (.t (.o (.o (.i .h)))) (.c (.int .i64 (.ofNat 0)))) none]) (.cond (.t (.i (.o (.i .h)))) (.seq (.reg [AOper.mk (some (.o (.i (.i .h)))) (.build [.int .i64 (.ofNat 0), .int .i64 (.ofNat 0)] []) none, AOper.mk none (.store 2 (.t (.i (.o .h))) (.t (.o (.i (.i .h))))) none, AOper.mk (some (.o (.i .h))) (.mv (.c (.bool false))) none]) .ret) .skip)) (.seq (.reg [AOper.mk (some (.o (.o (.o (.o .h))))) (.idxAddr (.slice 2) (.t .h) (.c (.int .i64 (.ofNat 0)))) none, AOper.mk (some (.i (.o (.o (.o .h))))) (.load true 2 (.t (.o (.o (.o (.o .h)))))) none, AOper.mk (some (.i (.i .h))) (.alloc [.int .i64 (.ofNat 0), .int .i64 (.ofNat 0)]) none, AOper.mk none (.store 2 (.t (.i (.i .h))) (.t (.i (.o (.o (.o .h)))))) none]) (.seq (.seq (.reg [AOper.mk (some (.i (.i (.o (.o .h))))) (.slice (.slice 2) (.t .h) (some (.c (.int .i64 (.ofNat 1)))) none none) none, AOper.mk (some (.o (.o (.i (.o .h))))) (.len .slice (.t (.i (.i (.o (.o .h)))))) none, AOper.mk (some (.i (.o (.i (.o .h))))) (.mv (.c (.int .i64 (.ofNat 0)))) none]) (.block 0 (.loop (.seq (.reg [AOper.mk (some (.o (.i (.i (.o .h))))) (.bin .lss (.val .int) (.t (.i (.o (.i (.o .h))))) (.t (.o (.o (.i (.o .h)))))) none]) (.seq (.cond (.t (.o (.i (.i (.o .h))))) .skip (.exit 0)) (.seq (.block 1 (.seq (.reg [AOper.mk (some (.i (.i (.i (.o .h))))) (.idxAddr (.slice 2) (.t (.i (.i (.o (.o .h))))) (.t (.i (.o (.i (.o .h)))))) none, AOper.mk (some (.o (.o (.o (.i .h))))) (.load true 2 (.t (.i (.i (.i (.o .h)))))) none, AOper.mk (some (.i (.o (.o .h)))) (.alloc [.int .i64 (.ofNat 0), .int .i64 (.ofNat 0)]) none, AOper.mk none (.store 2 (.t (.i (.o (.o .h)))) (.t (.o (.o (.o (.i .h)))))) none]) (.seq (.reg [AOper.mk (some (.i (.o (.o (.i .h))))) (.fieldAddr 1 (.t (.i (.o (.o .h))))) none, AOper.mk (some (.o (.i (.o (.i .h))))) (.load false 1 (.t (.i (.o (.o (.i .h)))))) none, AOper.mk (some (.o (.o (.i (.i .h))))) (.bin .geq (.val .int) (.t (.o (.i (.o (.i .h))))) (.t (.o .h))) none, AOper.mk (some (.i (.o (.i (.i .h))))) (.mv (.t (.o (.o (.i (.i .h)))))) none, AOper.mk (some (.o (.i (.i (.i .h))))) (.fieldAddr 1 (.t (.i (.i .h)))) (some (.i (.o (.i (.i .h))), true)), AOper.mk (some (.i (.i (.i (.i .h))))) (.load false 1 (.t (.o (.i (.i (.i .h)))))) (some (.i (.o (.i (.i .h))), true)), AOper.mk (some (.i (.o (.o (.o (.o .h)))))) (.bin .lss (.val .int) (.t (.i (.i (.i (.i .h))))) (.t (.o .h))) (some (.i (.o (.i (.i .h))), true)), AOper.mk (some (.o (.i (.o (.o (.o .h)))))) (.mv (.t (.i (.o (.o (.o (.o .h))))))) (some (.i (.o (.i (.i .h))), true)), AOper.mk (some (.i (.i (.o (.o (.o .h)))))) (.fieldAddr 1 (.t (.i (.o (.o .h))))) (some (.o (.i (.o (.o (.o .h)))), false)), AOper.mk (some (.o (.o (.i (.o (.o .h)))))) (.load false 1 (.t (.i (.i (.o (.o (.o .h))))))) (some (.o (.i (.o (.o (.o .h)))), false)), AOper.mk (some (.i (.o (.i (.o (.o .h)))))) (.fieldAddr 1 (.t (.i (.i .h)))) (some (.o (.i (.o (.o (.o .h)))), false)), AOper.mk (some (.o (.i (.i (.o (.o .h)))))) (.load false 1 (.t (.i (.o (.i (.o (.o .h))))))) (some (.o (.i (.o (.o (.o .h)))), false)), AOper.mk (some (.i (.i (.i (.o (.o .h)))))) (.bin .lss (.val .int) (.t (.o (.o (.i (.o (.o .h)))))) (.t (.o (.i (.i (.o (.o .h))))))) (some (.o (.i (.o (.o (.o .h)))), false)), AOper.mk (some (.o (.o (.o (.i (.o .h)))))) (.pick (.t (.o (.i (.o (.o (.o .h)))))) (.c (.bool true)) (.t (.i (.i (.i (.o (.o .h))))))) (some (.i (.o (.i (.i .h))), true)), AOper.mk (some (.i (.o (.o (.i (.o .h)))))) (.pick (.t (.i (.o (.i (.i .h))))) (.t (.o (.o (.o (.i (.o .h)))))) (.c (.bool false))) none, AOper.mk (some (.o (.i (.o .h)))) (.mv (.t (.i (.o (.o (.i (.o .h))))))) none]) (.seq (.reg [AOper.mk (some (.i (.i (.o (.i (.o .h)))))) (.mv (.t (.o (.i (.o .h))))) none, AOper.mk (some (.o (.o (.i (.i (.o .h)))))) (.fieldAddr 1 (.t (.i (.i .h)))) (some (.i (.i (.o (.i (.o .h)))), false)), AOper.mk (some (.i (.o (.i (.i (.o .h)))))) (.load false 1 (.t (.o (.o (.i (.i (.o .h))))))) (some (.i (.i (.o (.i (.o .h)))), false)), AOper.mk (some (.i (.i (.i (.i (.o .h)))))) (.bin .lss (.val .int) (.t (.i (.o (.i (.i (.o .h)))))) (.t (.o .h))) (some (.i (.i (.o (.i (.o .h)))), false)), AOper.mk (some (.o (.o (.o (.o (.i .h)))))) (.mv (.t (.i (.i (.i (.i (.o .h))))))) (some (.i (.i (.o (.i (.o .h)))), false)), AOper.mk (some (.i (.o (.o (.o (.i .h)))))) (.fieldAddr 1 (.t (.i (.o (.o .h))))) (some (.o (.o (.o (.o (.i .h)))), true)), AOper.mk (some (.o (.i (.o (.o (.i .h)))))) (.load false 1 (.t (.i (.o (.o (.o (.i .h))))))) (some (.o (.o (.o (.o (.i .h)))), true)), AOper.mk (some (.i (.i (.o (.o (.i .h)))))) (.fieldAddr 1 (.t (.i (.i .h)))) (some (.o (.o (.o (.o (.i .h)))), true)), AOper.mk (some (.o (.o (.i (.o (.i .h)))))) (.load false 1 (.t (.i (.i (.o (.o (.i .h))))))) (some (.o (.o (.o (.o (.i .h)))), true)), AOper.mk (some (.i (.o (.i (.o (.i .h)))))) (.bin .gtr (.val .int) (.t (.o (.i (.o (.o (.i .h)))))) (.t (.o (.o (.i (.o (.i .h))))))) (some (.o (.o (.o (.o (.i .h)))), true)), AOper.mk (some (.o (.i (.i (.o (.i .h)))))) (.pick (.t (.o (.o (.o (.o (.i .h)))))) (.t (.i (.o (.i (.o (.i .h)))))) (.c (.bool false))) (some (.i (.i (.o (.i (.o .h)))), false)), AOper.mk (some (.i (.i (.i (.o (.i .h)))))) (.pick (.t (.i (.i (.o (.i (.o .h)))))) (.c (.bool true)) (.t (.o (.i (.i (.o (.i .h))))))) none]) (.cond (.t (.i (.i (.i (.o (.i .h)))))) (.reg [AOper.mk (some (.o (.o (.o (.i (.i .h)))))) (.load true 2 (.t (.i (.o (.o .h))))) none, AOper.mk none (.store 2 (.t (.i (.i .h))) (.t (.o (.o (.o (.i (.i .h))))))) none]) .skip))))) (.reg [AOper.mk (some (.i (.o (.o (.i (.i .h)))))) (.bin .add (.val .int) (.t (.i (.o (.i (.o .h))))) (.c (.int .i64 (.ofNat 1)))) none, AOper.mk (some (.i (.o (.i (.o .h))))) (.mv (.t (.i (.o (.o (.i (.i .h))))))) none]))))))) (.seq (.reg [AOper.mk (some (.o (.i (.o (.i (.i .h)))))) (.load true 2 (.t (.i (.i .h)))) none, AOper.mk none (.store 2 (.t (.i (.o .h))) (.t (.o (.i (.o (.i (.i .h))))))) none, AOper.mk (some (.o (.i .h))) (.mv (.c (.bool true))) none]) .ret))))) [.cell (.i (.o .h)) true 2, .tmp (.o (.i .h))]
def data_c (n_U32 : Nat) (n_Part : Nat) : AFunc := AFunc.mk 74 (.seq (.reg [AOper.mk (some (.i (.o .h))) (.box (.t (.o .h))) none, AOper.mk (some (.i (.i .h))) (.mv (.c (.slice none 0 0 0 true))) none, AOper.mk (some (.o (.o (.o .h)))) (.mv (.c (.int .i64 (.ofNat 0)))) none]) (.seq (.seq (.reg [AOper.mk (some (.o (.o (.o (.o .h))))) (.len .slice (.t .h)) none, AOper.mk (some (.i (.o (.o (.o .h))))) (.bin .gtr (.val .int) (.t (.i .h)) (.t (.o (.o (.o (.o .h)))))) none]) (.cond (.t (.i (.o (.o (.o .h))))) (.seq (.reg [AOper.mk (some (.i (.i .h))) (.mv (.c (.slice none 0 0 0 true))) none, AOper.mk (some (.o (.o (.o .h)))) (.mv (.c (.int .i64 (.ofNat 3)))) none]) .ret) .skip)) (.seq (.reg [AOper.mk (some (.o (.o (.i (.o .h))))) (.fieldAddr 0 (.t (.i (.o .h)))) none, AOper.mk (some (.i (.o (.i (.o .h))))) (.load false 1 (.t (.o (.o (.i (.o .h)))))) none, AOper.mk (some (.o (.i (.i (.o .h))))) (.bin .add (.val .int) (.t (.i (.o (.i (.o .h))))) (.c (.int .i64 (.ofNat 4)))) none, AOper.mk (some (.o (.o (.o (.i .h))))) (.bin .mul (.val .int) (.c (.int .i64 (.ofNat 4))) (.t (.i .h))) none, AOper.mk (some (.i (.o (.o (.i .h))))) (.bin .add (.val .int) (.t (.o (.i (.i (.o .h))))) (.t (.o (.o (.o (.i .h)))))) none, AOper.mk (some (.o (.i (.o (.i .h))))) (.call n_U32 [.t .h, .t (.i (.o (.o (.i .h))))]) none, AOper.mk (some (.i (.i (.o (.i .h))))) (.extract (.t (.o (.i (.o (.i .h))))) 0) none, AOper.mk (some (.o (.o (.i (.i .h))))) (.extract (.t (.o (.i (.o (.i .h))))) 1) none, AOper.mk (some (.i (.o (.o .h)))) (.mv (.t (.i (.i (.o (.i .h)))))) none, AOper.mk (some (.o (.i (.o .h)))) (.mv (.t (.o (.o (.i (.i .h)))))) none]) (.seq (.reg [AOper.mk (some (.i (.i (.i (.i .h))))) (.fieldAddr 0 (.t (.i (.o .h)))) none, AOper.mk (some (.o (.o (.o (.o (.o .h)))))) (.load false 1 (.t (.i (.i (.i (.i .h)))))) none, AOper.mk (some (.i (.o (.o (.o (.o .h)))))) (.bin .add (.val .int) (.t (.o (.o (.o (.o (.o .h)))))) (.c (.int .i64 (.ofNat 8)))) none, AOper.mk (some (.i (.i (.o (.o (.o .h)))))) (.bin .mul (.val .int) (.c (.int .i64 (.ofNat 4))) (.t (.i .h))) none, AOper.mk (some (.o (.o (.i (.o (.o .h)))))) (.bin .add (.val .int) (.t (.i (.o (.o (.o (.o .h)))))) (.t (.i (.i (.o (.o (.o .h))))))) none, AOper.mk (some (.i (.o (.i (.o (.o .h)))))) (.call n_U32 [.t .h, .t (.o (.o (.i (.o (.o .h)))))]) none, AOper.mk (some (.o (.i (.i (.o (.o .h)))))) (.extract (.t (.i (.o (.i (.o (.o .h)))))) 0) none, AOper.mk (some (.i (.i (.i (.o (.o .h)))))) (.extract (.t (.i (.o (.i (.o (.o .h)))))) 1) none, AOper.mk (some (.i (.i (.o .h)))) (.mv (.t (.o (.i (.i (.o (.o .h))))))) none, AOper.mk (some (.o (.o (.i .h)))) (.mv (.t (.i (.i (.i (.o (.o .h))))))) none]) (.seq (.block 0 (.seq (.reg [AOper.mk (some (.o (.i (.o (.i (.o .h)))))) (.un .not (.t (.o (.i (.o .h))))) none, AOper.mk (some (.i (.i (.o (.i (.o .h)))))) (.mv (.t (.o (.i (.o (.i (.o .h))))))) none, AOper.mk (some (.i (.o (.i (.i (.o .h)))))) (.un .not (.t (.o (.o (.i .h))))) (some (.i (.i (.o (.i (.o .h)))), false)), AOper.mk (some (.o (.i (.i (.i (.o .h)))))) (.pick (.t (.i (.i (.o (.i (.o .h)))))) (.c (.bool true)) (.t (.i (.o (.i (.i (.o .h))))))) none, AOper.mk (some (.o (.o (.o (.i (.o .h)))))) (.mv (.t (.o (.i (.i (.i (.o .h))))))) none]) (.cond (.t (.o (.o (.o (.i (.o .h)))))) (.seq (.reg [AOper.mk (some (.i (.i .h))) (.mv (.c (.slice none 0 0 0 true))) none, AOper.mk (some (.o (.o (.o .h)))) (.mv (.c (.int .i64 (.ofNat 3)))) none]) .ret) (.seq (.reg [AOper.mk (some (.o (.i (.o (.o (.i .h)))))) (.bin .gtr (.val .int) (.t (.i (.o (.o .h)))) (.t (.i (.i (.o .h))))) none, AOper.mk (some (.i (.i (.i (.i (.o .h)))))) (.mv (.t (.o (.i (.o (.o (.i .h))))))) none]) (.cond (.t (.i (.i (.i (.i (.o .h)))))) (.seq (.reg [AOper.mk (some (.i (.i .h))) (.mv (.c (.slice none 0 0 0 true))) none, AOper.mk (some (.o (.o (.o .h)))) (.mv (.c (.int .i64 (.ofNat 2)))) none]) .ret) .skip))))) (.seq (.reg [AOper.mk (some (.i (.o (.i (.o (.i .h)))))) (.fieldAddr 0 (.t (.i (.o .h)))) none, AOper.mk (some (.o (.i (.i (.o (.i .h)))))) (.load false 1 (.t (.i (.o (.i (.o (.i .h))))))) none, AOper.mk (some (.o (.o (.o (.i (.i .h)))))) (.bin .add (.val .int) (.t (.o (.i (.i (.o (.i .h)))))) (.t (.i (.o (.o .h))))) none, AOper.mk (some (.i (.i (.o (.i (.i .h)))))) (.bin .sub (.val .int) (.t (.i (.i (.o .h)))) (.t (.i (.o (.o .h))))) none, AOper.mk (some (.o (.o (.i (.i (.i .h)))))) (.call n_Part [.t .h, .t (.o (.o (.o (.i (.i .h))))), .t (.i (.i (.o (.i (.i .h)))))]) none, AOper.mk (some (.i (.o (.i (.i (.i .h)))))) (.extract (.t (.o (.o (.i (.i (.i .h)))))) 0) none, AOper.mk (some (.o (.i (.i (.i (.i .h)))))) (.extract (.t (.o (.o (.i (.i (.i .h)))))) 1) none, AOper.mk (some (.i (.o (.i .h)))) (.mv (.t (.i (.o (.i (.i (.i .h))))))) none, AOper.mk (some (.o (.i (.o .h)))) (.mv (.t (.o (.i (.i (.i (.i .h))))))) none]) (.seq (.block 1 (.seq (.reg [AOper.mk (some (.i (.o (.o (.o (.o (.o .h))))))) (.un .not (.t (.o (.i (.o .h))))) none, AOper.mk (some (.i (.i (.i (.i (.i .h)))))) (.mv (.t (.i (.o (.o (.o (.o (.o .h)))))))) none]) (.cond (.t (.i (.i (.i (.i (.i .h)))))) (.seq (.reg [AOper.mk (some (.i (.i .h))) (.mv (.c (.slice none 0 0 0 true))) none, AOper.mk (some (.o (.o (.o .h)))) (.mv (.c (.int .i64 (.ofNat 3)))) none]) .ret) (.seq (.reg [AOper.mk (some (.o (.o (.i (.o (.o (.o .h))))))) (.len .slice (.t (.i (.o (.i .h))))) none, AOper.mk (some (.i (.o (.i (.o (.o (.o .h))))))) (.bin .eql (.val .int) (.t (.o (.o (.i (.o (.o (.o .h))))))) (.c (.int .i64 (.ofNat 0)))) none, AOper.mk (some (.o (.i (.o (.o (.o (.o .h))))))) (.mv (.t (.i (.o (.i (.o (.o (.o .h)))))))) none]) (.cond (.t (.o (.i (.o (.o (.o (.o .h))))))) (.seq (.reg [AOper.mk (some (.i (.i .h))) (.mv (.c (.slice none 0 0 0 true))) none, AOper.mk (some (.o (.o (.o .h)))) (.mv (.c (.int .i64 (.ofNat 6)))) none]) .ret) (.seq (.reg [AOper.mk (some (.o (.o (.o (.i (.o (.o .h))))))) (.len .slice (.t (.i (.o (.i .h))))) none, AOper.mk (some (.i (.o (.o (.i (.o (.o .h))))))) (.bin .lss (.val .int) (.t (.o (.o (.o (.i (.o (.o .h))))))) (.c (.int .i64 (.ofNat 8)))) none, AOper.mk (some (.o (.i (.i (.o (.o (.o .h))))))) (.mv (.t (.i (.o (.o (.i (.o (.o .h)))))))) none]) (.cond (.t (.o (.i (.i (.o (.o (.o .h))))))) (.seq (.reg [AOper.mk (some (.i (.i .h))) (.mv (.c (.slice none 0 0 0 true))) none, AOper.mk (some (.o (.o (.o .h)))) (.mv (.c (.int .i64 (.ofNat 3)))) none]) .ret) .skip))))))) (.seq (.reg [AOper.mk (some (.i (.i .h))) (.mv (.t (.i (.o (.i .h))))) none, AOper.mk (some (.o (.o (.o .h)))) (.mv (.c (.int .i64 (.ofNat 0)))) none]) .ret)))))))) [.tmp (.i (.i .h)), .tmp (.o (.o (.o .h)))]
def image_c (n_I16 : Nat) : AFunc := AFunc.mk 32 (.seq (.reg [AOper.mk (some (.o (.o .h))) (.box (.t (.o .h))) none, AOper.mk (some (.i (.o .h))) (.alloc [.int .i64 (.ofNat 0), .int .i64 (.ofNat 0), .int .i64 (.ofNat 0), .slice none 0 0 0 true]) none, AOper.mk (some (.o (.i .h))) (.mv (.c (.int .i64 (.ofNat 0)))) none]) (.seq (.seq (.reg [AOper.mk (some (.o (.o (.i .h)))) (.slice (.slice 1) (.t .h) (some (.c (.int .i64 (.ofNat 4)))) (some (.c (.int .i64 (.ofNat 8)))) none) none, AOper.mk (some (.i (.o (.i .h)))) (.conv .toStr (.t (.o (.o (.i .h))))) none, AOper.mk (some (.o (.i (.i .h)))) (.bin .neq (.val .str) (.t (.i (.o (.i .h)))) (.c (.str [112, 110, 103, 32]))) none]) (.cond (.t (.o (.i (.i .h)))) (.seq (.reg [AOper.mk (some (.i (.i (.i .h)))) (.build [.int .i64 (.ofNat 0), .int .i64 (.ofNat 0), .int .i64 (.ofNat 0), .slice none 0 0 0 true] []) none, AOper.mk none (.store 4 (.t (.i (.o .h))) (.t (.i (.i (.i .h))))) none, AOper.mk (some (.o (.i .h))) (.mv (.c (.int .i64 (.ofNat 6)))) none]) .ret) .skip)) (.seq (.reg [AOper.mk (some (.o (.i (.o (.o .h))))) (.call n_I16 [.t .h, .c (.int .i64 (.ofNat 0))]) none, AOper.mk (some (.i (.i (.o (.o .h))))) (.extract (.t (.o (.i (.o (.o .h))))) 0) none, AOper.mk (some (.o (.o (.i (.o .h))))) (.extract (.t (.o (.i (.o (.o .h))))) 1) none, AOper.mk (some (.i (.i .h))) (.mv (.t (.i (.i (.o (.o .h)))))) none, AOper.mk (some (.o (.o (.o .h)))) (.mv (.t (.o (.o (.i (.o .h)))))) none]) (.seq (.reg [AOper.mk (some (.i (.i (.i (.o .h))))) (.call n_I16 [.t .h, .c (.int .i64 (.ofNat 2))]) none, AOper.mk (some (.o (.o (.o (.i .h))))) (.extract (.t (.i (.i (.i (.o .h))))) 0) none, AOper.mk (some (.i (.o (.o (.i .h))))) (.extract (.t (.i (.i (.i (.o .h))))) 1) none, AOper.mk (some (.i (.o (.o .h)))) (.mv (.t (.o (.o (.o (.i .h)))))) none, AOper.mk (some (.o (.i (.o .h)))) (.mv (.t (.i (.o (.o (.i .h)))))) none]) (.seq (.dreg [(AOper.mk (some (.o (.i (.o (.i .h))))) (.mv (.t (.i (.i .h)))) none, []), (AOper.mk (some (.i (.i (.o (.i .h))))) (.mv (.t (.i (.o (.o .h))))) none, []), (AOper.mk (some (.o (.o (.i (.i .h))))) (.fieldAddr 1 (.t (.o (.o .h)))) none, []), (AOper.mk (some (.i (.o (.i (.i .h))))) (.load false 1 (.t (.o (.o (.i (.i .h)))))) none, []), (AOper.mk (some (.o (.i (.i (.i .h))))) (.mv (.t .h)) none, []), (AOper.mk (some (.i (.i (.i (.i .h))))) (.slice (.slice 1) (.t (.o (.i (.i (.i .h))))) (some (.c (.int .i64 (.ofNat 8)))) none none) none, []), (AOper.mk (some (.o (.o (.o (.o (.o .h)))))) (.build [.int .i64 (.ofNat 0), .int .i64 (.ofNat 0), .int .i64 (.ofNat 0), .slice none 0 0 0 true] [(0, (1, .t (.o (.i (.o (.i .h)))))), (1, (1, .t (.i (.i (.o (.i .h)))))), (2, (1, .t (.i (.o (.i (.i .h)))))), (3, (1, .t (.i (.i (.i (.i .h))))))]) none, []), (AOper.mk none (.store 4 (.t (.i (.o .h))) (.t (.o (.o (.o (.o (.o .h))))))) none, []), (AOper.mk (some (.o (.i .h))) (.mv (.c (.int .i64 (.ofNat 0)))) none, [])]) .ret))))) [.cell (.i (.o .h)) true 4, .tmp (.o (.i .h))]
def Find_c (n_Table : Nat) (n_strikesOf : Nat) (n_chosen : Nat) (n_data : Nat) (n_image : Nat) (n_U16 : Nat) : AFunc := AFunc.mk 115 (.seq (.reg [AOper.mk (some (.o (.i .h))) (.box (.t (.o .h))) none, AOper.mk (some (.i (.o (.o .h)))) (.alloc [.int .i64 (.ofNat 0), .int .i64 (.ofNat 0), .int .i64 (.ofNat 0), .slice none 0 0 0 true]) none, AOper.mk (some (.o (.i (.o .h)))) (.mv (.c (.int .i64 (.ofNat 0)))) none]) (.seq (.seq (.reg [AOper.mk (some (.o (.o (.i (.o .h))))) (.bin .eql (.nils .ptr) (.t .h) (.c (.ptr none))) none, AOper.mk (some (.i (.o (.i (.o .h))))) (.mv (.t (.o (.o (.i (.o .h)))))) none, AOper.mk (some (.i (.i (.i (.o .h))))) (.bin .lss (.val .int) (.t (.o (.o .h))) (.c (.int .i64 (.ofNat 0)))) (some (.i (.o (.i (.o .h))), false)), AOper.mk (some (.o (.o (.o (.i .h))))) (.pick (.t (.i (.o (.i (.o .h))))) (.c (.bool true)) (.t (.i (.i (.i (.o .h)))))) none, AOper.mk (some (.i (.o (.o (.i .h))))) (.mv (.t (.o (.o (.o (.i .h)))))) none, AOper.mk (some (.i (.i (.o (.i .h))))) (.fieldAddr 1 (.t (.o (.i .h)))) (some (.i (.o (.o (.i .h))), false)), AOper.mk (some (.o (.o (.i (.i .h))))) (.load false 1 (.t (.i (.i (.o (.i .h)))))) (some (.i (.o (.o (.i .h))), false)), AOper.mk (some (.i (.o (.i (.i .h))))) (.bin .geq (.val .int) (.t (.o (.o .h))) (.t (.o (.o (.i (.i .h)))))) (some (.i (.o (.o (.i .h))), false)), AOper.mk (some (.o (.i (.i (.i .h))))) (.pick (.t (.i (.o (.o (.i .h))))) (.c (.bool true)) (.t (.i (.o (.i (.i .h)))))) none]) (.cond (.t (.o (.i (.i (.i .h))))) (.seq (.reg [AOper.mk (some (.i (.i (.i (.i .h))))) (.build [.int .i64 (.ofNat 0), .int .i64 (.ofNat 0), .int .i64 (.ofNat 0), .slice none 0 0 0 true] []) none, AOper.mk none (.store 4 (.t (.i (.o (.o .h)))) (.t (.i (.i (.i (.i .h)))))) none, AOper.mk (some (.o (.i (.o .h)))) (.mv (.c (.int .i64 (.ofNat 1)))) none]) .ret) .skip)) (.seq (.reg [AOper.mk (some (.o (.i (.o (.o (.o .h)))))) (.call n_Table [.t .h, .c (.str [115, 98, 105, 120])]) none, AOper.mk (some (.i (.i (.o (.o (.o .h)))))) (.extract (.t (.o (.i (.o (.o (.o .h)))))) 0) none, AOper.mk (some (.o (.o (.i (.o (.o .h)))))) (.extract (.t (.o (.i (.o (.o (.o .h)))))) 1) none, AOper.mk (some (.i (.i (.o .h)))) (.mv (.t (.i (.i (.o (.o (.o .h))))))) none, AOper.mk (some (.o (.o (.i .h)))) (.mv (.t (.o (.o (.i (.o (.o .h))))))) none]) (.seq (.seq (.reg [AOper.mk (some (.o (.i (.i (.o (.o .h)))))) (.un .not (.t (.o (.o (.i .h))))) none]) (.cond (.t (.o (.i (.i (.o (.o .h)))))) (.seq (.reg [AOper.mk (some (.i (.i (.i (.o (.o .h)))))) (.build [.int .i64 (.ofNat 0), .int .i64 (.ofNat 0), .int .i64 (.ofNat 0), .slice none 0 0 0 true] []) none, AOper.mk none (.store 4 (.t (.i (.o (.o .h)))) (.t (.i (.i (.i (.o (.o .h))))))) none, AOper.mk (some (.o (.i (.o .h)))) (.mv (.c (.int .i64 (.ofNat 6)))) none]) .ret) .skip)) (.seq (.reg [AOper.mk (some (.o (.i (.o (.i (.o .h)))))) (.call n_strikesOf [.t (.i (.i (.o .h)))]) none, AOper.mk (some (.i (.i (.o (.i (.o .h)))))) (.extract (.t (.o (.i (.o (.i (.o .h)))))) 0) none, AOper.mk (some (.o (.o (.i (.i (.o .h)))))) (.extract (.t (.o (.i (.o (.i (.o .h)))))) 1) none, AOper.mk (some (.i (.o (.i .h)))) (.mv (.t (.i (.i (.o (.i (.o .h))))))) none, AOper.mk (some (.o (.i (.i .h)))) (.mv (.t (.o (.o (.i (.i (.o .h))))))) none]) (.seq (.seq (.reg [AOper.mk (some (.o (.i (.i (.i (.o .h)))))) (.bin .neq (.val .int) (.t (.o (.i (.i .h)))) (.c (.int .i64 (.ofNat 0)))) none]) (.cond (.t (.o (.i (.i (.i (.o .h)))))) (.seq (.reg [AOper.mk (some (.i (.i (.i (.i (.o .h)))))) (.build [.int .i64 (.ofNat 0), .int .i64 (.ofNat 0), .int .i64 (.ofNat 0), .slice none 0 0 0 true] []) none, AOper.mk none (.store 4 (.t (.i (.o (.o .h)))) (.t (.i (.i (.i (.i (.o .h))))))) none, AOper.mk (some (.o (.i (.o .h)))) (.mv (.t (.o (.i (.i .h))))) none]) .ret) .skip)) (.seq (.reg [AOper.mk (some (.o (.o (.i (.o (.i .h)))))) (.call n_chosen [.t (.i (.o (.i .h))), .t (.i .h)]) none, AOper.mk (some (.i (.o (.i (.o (.i .h)))))) (.extract (.t (.o (.o (.i (.o (.i .h)))))) 0) none, AOper.mk (some (.o (.i (.i (.o (.i .h)))))) (.extract (.t (.o (.o (.i (.o (.i .h)))))) 1) none, AOper.mk (some (.i (.i (.i .h)))) (.alloc [.int .i64 (.ofNat 0), .int .i64 (.ofNat 0)]) none, AOper.mk none (.store 2 (.t (.i (.i (.i .h)))) (.t (.i (.o (.i (.o (.i .h))))))) none, AOper.mk (some (.o (.o (.o (.o .h))))) (.mv (.t (.o (.i (.i (.o (.i .h))))))) none]) (.seq (.seq (.reg [AOper.mk (some (.o (.o (.o (.i (.i .h)))))) (.un .not (.t (.o (.o (.o (.o .h)))))) none]) (.cond (.t (.o (.o (.o (.i (.i .h)))))) (.seq (.reg [AOper.mk (some (.i (.o (.o (.i (.i .h)))))) (.build [.int .i64 (.ofNat 0), .int .i64 (.ofNat 0), .int .i64 (.ofNat 0), .slice none 0 0 0 true] []) none, AOper.mk none (.store 4 (.t (.i (.o (.o .h)))) (.t (.i (.o (.o (.i (.i .h))))))) none, AOper.mk (some (.o (.i (.o .h)))) (.mv (.c (.int .i64 (.ofNat 6)))) none]) .ret) .skip)) (.seq (.reg [AOper.mk (some (.o (.o (.i (.i (.i .h)))))) (.load true 2 (.t (.i (.i (.i .h))))) none, AOper.mk (some (.o (.i (.i (.i (.i .h)))))) (.call n_data [.t (.i (.i (.o .h))), .t (.o (.o (.i (.i (.i .h))))), .t (.o (.o .h))]) none, AOper.mk (some (.i (.i (.i (.i (.i .h)))))) (.extract (.t (.o (.i (.i (.i (.i .h)))))) 0) none, AOper.mk (some (.o (.o (.o (.o (.o (.o .h))))))) (.extract (.t (.o (.i (.i (.i (.i .h)))))) 1) none, AOper.mk (some (.i (.o (.o (.o .h))))) (.mv (.t (.i (.i (.i (.i (.i .h))))))) none, AOper.mk (some (.o (.i (.i .h)))) (.mv (.t (.o (.o (.o (.o (.o (.o .h)))))))) none]) (.seq (.seq (.reg [AOper.mk (some (.o (.i (.o (.o (.o (.o .h))))))) (.bin .neq (.val .int) (.t (.o (.i (.i .h)))) (.c (.int .i64 (.ofNat 0)))) none]) (.cond (.t (.o (.i (.o (.o (.o (.o .h))))))) (.seq (.reg [AOper.mk (some (.i (.i (.o (.o (.o (.o .h))))))) (.build [.int .i64 (.ofNat 0), .int .i64 (.ofNat 0), .int .i64 (.ofNat 0), .slice none 0 0 0 true] []) none, AOper.mk none (.store 4 (.t (.i (.o (.o .h)))) (.t (.i (.i (.o (.o (.o (.o .h)))))))) none, AOper.mk (some (.o (.i (.o .h)))) (.mv (.t (.o (.i (.i .h))))) none]) .ret) .skip)) (.seq (.seq (.reg [AOper.mk (some (.o (.i (.i (.o (.o (.o .h))))))) (.slice (.slice 1) (.t (.i (.o (.o (.o .h))))) (some (.c (.int .i64 (.ofNat 4)))) (some (.c (.int .i64 (.ofNat 8)))) none) none, AOper.mk (some (.i (.i (.i (.o (.o (.o .h))))))) (.conv .toStr (.t (.o (.i (.i (.o (.o (.o .h)))))))) none, AOper.mk (some (.o (.o (.o (.i (.o (.o .h))))))) (.bin .neq (.val .str) (.t (.i (.i (.i (.o (.o (.o .h))))))) (.c (.str [100, 117, 112, 101]))) none]) (.cond (.t (.o (.o (.o (.i (.o (.o .h))))))) (.seq (.reg [AOper.mk (some (.o (.i (.o (.i (.o (.o .h))))))) (.load true 2 (.t (.i (.i (.i .h))))) none, AOper.mk (some (.i (.i (.o (.i (.o (.o .h))))))) (.call n_image [.t (.i (.o (.o (.o .h)))), .t (.o (.i (.o (.i (.o (.o .h))))))]) none, AOper.mk (some (.o (.o (.i (.i (.o (.o .h))))))) (.extract (.t (.i (.i (.o (.i (.o (.o .h))))))) 0) none, AOper.mk (some (.i (.o (.i (.i (.o (.o .h))))))) (.extract (.t (.i (.i (.o (.i (.o (.o .h))))))) 1) none, AOper.mk none (.store 4 (.t (.i (.o (.o .h)))) (.t (.o (.o (.i (.i (.o (.o .h)))))))) none, AOper.mk (some (.o (.i (.o .h)))) (.mv (.t (.i (.o (.i (.i (.o (.o .h)))))))) none]) .ret) .skip)) (.seq (.reg [AOper.mk (some (.o (.o (.o (.o (.i (.o .h))))))) (.call n_U16 [.t (.i (.o (.o (.o .h)))), .c (.int .i64 (.ofNat 8))]) none, AOper.mk (some (.i (.o (.o (.o (.i (.o .h))))))) (.extract (.t (.o (.o (.o (.o (.i (.o .h))))))) 0) none, AOper.mk (some (.o (.i (.o (.o (.i (.o .h))))))) (.extract (.t (.o (.o (.o (.o (.i (.o .h))))))) 1) none, AOper.mk (some (.o (.i (.o (.o .h))))) (.mv (.t (.i (.o (.o (.o (.i (.o .h)))))))) none, AOper.mk (some (.o (.o (.o (.o .h))))) (.mv (.t (.o (.i (.o (.o (.i (.o .h)))))))) none]) (.seq (.block 0 (.seq (.reg [AOper.mk (some (.i (.o (.i (.o (.i (.o .h))))))) (.un .not (.t (.o (.o (.o (.o .h)))))) none, AOper.mk (some (.i (.i (.o (.o (.i (.o .h))))))) (.mv (.t (.i (.o (.i (.o (.i (.o .h)))))))) none]) (.cond (.t (.i (.i (.o (.o (.i (.o .h))))))) (.seq (.reg [AOper.mk (some (.o (.i (.i (.o (.i (.o .h))))))) (.build [.int .i64 (.ofNat 0), .int .i64 (.ofNat 0), .int .i64 (.ofNat 0), .slice none 0 0 0 true] []) none, AOper.mk none (.store 4 (.t (.i (.o (.o .h)))) (.t (.o (.i (.i (.o (.i (.o .h)))))))) none, AOper.mk (some (.o (.i (.o .h)))) (.mv (.c (.int .i64 (.ofNat 3)))) none]) .ret) (.seq (.reg [AOper.mk (some (.i (.o (.o (.i (.i (.o .h))))))) (.fieldAddr 1 (.t (.o (.i .h)))) none, AOper.mk (some (.o (.i (.o (.i (.i (.o .h))))))) (.load false 1 (.t (.i (.o (.o (.i (.i (.o .h)))))))) none, AOper.mk (some (.i (.i (.o (.i (.i (.o .h))))))) (.bin .geq (.val .int) (.t (.o (.i (.o (.o .h))))) (.t (.o (.i (.o (.i (.i (.o .h)))))))) none, AOper.mk (some (.i (.i (.i (.o (.i (.o .h))))))) (.mv (.t (.i (.i (.o (.i (.i (.o .h)))))))) none]) (.cond (.t (.i (.i (.i (.o (.i (.o .h))))))) (.seq (.reg [AOper.mk (some (.o (.o (.i (.i (.i (.o .h))))))) (.build [.int .i64 (.ofNat 0), .int .i64 (.ofNat 0), .int .i64 (.ofNat 0), .slice none 0 0 0 true] []) none, AOper.mk none (.store 4 (.t (.i (.o (.o .h)))) (.t (.o (.o (.i (.i (.i (.o .h)))))))) none, AOper.mk (some (.o (.i (.o .h)))) (.mv (.c (.int .i64 (.ofNat 2)))) none]) .ret) .skip))))) (.seq (.reg [AOper.mk (some (.i (.i (.i (.i (.i (.o .h))))))) (.load true 2 (.t (.i (.i (.i .h))))) none, AOper.mk (some (.i (.o (.o (.o (.o (.i .h))))))) (.call n_data [.t (.i (.i (.o .h))), .t (.i (.i (.i (.i (.i (.o .h)))))), .t (.o (.i (.o (.o .h))))]) none, AOper.mk (some (.o (.i (.o (.o (.o (.i .h))))))) (.extract (.t (.i (.o (.o (.o (.o (.i .h))))))) 0) none, AOper.mk (some (.i (.i (.o (.o (.o (.i .h))))))) (.extract (.t (.i (.o (.o (.o (.o (.i .h))))))) 1) none, AOper.mk (some (.i (.o (.o (.o .h))))) (.mv (.t (.o (.i (.o (.o (.o (.i .h)))))))) none, AOper.mk (some (.o (.i (.i .h)))) (.mv (.t (.i (.i (.o (.o (.o (.i .h)))))))) none]) (.seq (.block 1 (.seq (.reg [AOper.mk (some (.o (.i (.i (.o (.o (.i .h))))))) (.bin .neq (.val .int) (.t (.o (.i (.i .h)))) (.c (.int .i64 (.ofNat 0)))) none, AOper.mk (some (.o (.o (.i (.o (.o (.i .h))))))) (.mv (.t (.o (.i (.i (.o (.o (.i .h)))))))) none]) (.cond (.t (.o (.o (.i (.o (.o (.i .h))))))) (.seq (.reg [AOper.mk (some (.i (.i (.i (.o (.o (.i .h))))))) (.build [.int .i64 (.ofNat 0), .int .i64 (.ofNat 0), .int .i64 (.ofNat 0), .slice none 0 0 0 true] []) none, AOper.mk none (.store 4 (.t (.i (.o (.o .h)))) (.t (.i (.i (.i (.o (.o (.i .h)))))))) none, AOper.mk (some (.o (.i (.o .h)))) (.mv (.t (.o (.i (.i .h))))) none]) .ret) (.seq (.reg [AOper.mk (some (.i (.i (.o (.i (.o (.i .h))))))) (.slice (.slice 1) (.t (.i (.o (.o (.o .h))))) (some (.c (.int .i64 (.ofNat 4)))) (some (.c (.int .i64 (.ofNat 8)))) none) none, AOper.mk (some (.o (.o (.i (.i (.o (.i .h))))))) (.conv .toStr (.t (.i (.i (.o (.i (.o (.i .h)))))))) none, AOper.mk (some (.i (.o (.i (.i (.o (.i .h))))))) (.bin .eql (.val .str) (.t (.o (.o (.i (.i (.o (.i .h))))))) (.c (.str [100, 117, 112, 101]))) none, AOper.mk (some (.i (.o (.o (.i (.o (.i .h))))))) (.mv (.t (.i (.o (.i (.i (.o (.i .h)))))))) none]) (.cond (.t (.i (.o (.o (.i (.o (.i .h))))))) (.seq (.reg [AOper.mk (some (.o (.i (.i (.i (.o (.i .h))))))) (.build [.int .i64 (.ofNat 0), .int .i64 (.ofNat 0), .int .i64 (.ofNat 0), .slice none 0 0 0 true] []) none, AOper.mk none (.store 4 (.t (.i (.o (.o .h)))) (.t (.o (.i (.i (.i (.o (.i .h)))))))) none, AOper.mk (some (.o (.i (.o .h)))) (.mv (.c (.int .i64 (.ofNat 2)))) none]) .ret) .skip))))) (.seq (.reg [AOper.mk (some (.o (.o (.o (.o (.i (.i .h))))))) (.load true 2 (.t (.i (.i (.i .h))))) none, AOper.mk (some (.i (.o (.o (.o (.i (.i .h))))))) (.call n_image [.t (.i (.o (.o (.o .h)))), .t (.o (.o (.o (.o (.i (.i .h))))))]) none, AOper.mk (some (.o (.i (.o (.o (.i (.i .h))))))) (.extract (.t (.i (.o (.o (.o (.i (.i .h))))))) 0) none, AOper.mk (some (.i (.i (.o (.o (.i (.i .h))))))) (.extract (.t (.i (.o (.o (.o (.i (.i .h))))))) 1) none, AOper.mk none (.store 4 (.t (.i (.o (.o .h)))) (.t (.o (.i (.o (.o (.i (.i .h)))))))) none, AOper.mk (some (.o (.i (.o .h)))) (.mv (.t (.i (.i (.o (.o (.i (.i .h)))))))) none]) .ret)))))))))))))))) [.cell (.i (.o (.o .h))) true 4, .tmp (.o (.i (.o .h)))]
attribute [local simp] wp_skip wp_ret wp_exit wp_reg wp_seq wp_cond wp_block thenQ_normal thenQ_ret thenQ_exit blockQ_normal blockQ_ret blockQ_exit wpCond_true wpCond_false wpOps_nil wpVal_some wpGuard_true wpGuard_false wpOps_guard wpOps_cons
  put_at put_no ev_c ev_slot posEq_h posEq_o posEq_i posEq_ho posEq_hi posEq_oh posEq_ih posEq_oi posEq_io sel_true sel_false
  okv_some step_mv step_call step_pick pickV_bool step_bin bin_add bin_sub bin_mul bin_eql bin_neq bin_lss bin_leq bin_gtr bin_geq bin_eqb bin_neb bin_eqs bin_nes step_un un_not un_neg step_len len_slice len_str len_const step_extract extractV nth step_convInt conv_int step_convStr step_slice step_idxAddr natOf_nat step_load step_index step_field step_fieldAddr step_build step_minmax
  step_alloc step_bslice bsliceV_some newV_some step_store step_append boolIs_b boolIs_t finQ_ret finQ_normal ressE_nil ressE_cons resE_tmp consO_some initE_nil initE_cons pos_0 pos_1 pos_2 pos_3 pos_4 pos_5 pos_6 pos_7 pos_8 plain_bool plain_int plain_str plain_ptr plain_slice plain_map plain_agg plain_func plain_nilFunc V.undef oneOf_one oneOf_two ble_self
open Go.Vabs.Pk Go.Vabs.Ph Go.Vabs.Sa Go.Vabs.Sb Go.Vabs.Sc Go.Vabs.Sd Go.Vabs.Se Go.Vabs.Sg Go.Vabs.Sh Go.Vabs.Sm Go.Vabs.Sn Go.Vabs.Sp Go.Vabs.Sr Go.Vabs.St Go.Vabs.Su Go.Vabs.L2 Go.Vabs.Na Go.Vabs.Nb Go.Vabs.Ra
attribute [local simp] step_nilchk nilchk_ptr step_box cells_int cells_bool cells_str cells_slice cells_ptr cells_agg fieldAddrV natOf_zero fill repN splice over newV step_appendZ
  wp_dreg wpDs_nil wpDs_cons wantedE_none wantedE_some wpDGuard_true wpDGuard_lim wpDGuard_false wpDLim_true wpDVal_free wpDVal_lim back_limited next_limited limF_dir foot_load foot_convStr okAll_nil okAll_cons pastsOf nthP ahead few_next load_limited convStr_limited blt_dec okPair_dd okPair_dc okPair_cd okPair_cc anyIn_nil anyIn_same anyIn_cons meets_nil meets_nil'
abbrev Pr := Nat × Nat
def pairsV (L : List Pr) : List V := (L.map fun a => [V.int .i64 (a.1 : Int), V.int .i64 (a.2 : Int)]).flatten
theorem pairsV_snoc {L : List Pr} {a : Pr} : pairsV (L ++ [a]) = pairsV L ++ [V.int .i64 (a.1 : Int), V.int .i64 (a.2 : Int)] := by simp [pairsV]
theorem pairsV_len : ∀ {L : List Pr}, (pairsV L).length = L.length * 2
  | [] => rfl
  | a :: L => by
    show ([V.int .i64 (a.1 : Int), V.int .i64 (a.2 : Int)] ++ pairsV L).length = _
    rw [List.length_append, pairsV_len, List.length_cons]; simp; omega
theorem pairsV_at : ∀ {L : List Pr} {k : Nat} {a : Pr}, L[k]? = some a → (pairsV L)[k * 2]? = some (.int .i64 (a.1 : Int)) ∧ (pairsV L)[k * 2 + 1]? = some (.int .i64 (a.2 : Int))
  | [], k, a, h => by simp at h
  | b :: L, 0, a, h => by
    have h : some b = some a := h
    cases h
    exact ⟨rfl, rfl⟩
  | b :: L, k + 1, a, h => by
    have h : L[k]? = some a := h
    have := pairsV_at h
    rw [show (k + 1) * 2 = k * 2 + 1 + 1 from by omega, show (k * 2 + 1 + 1 + 1) = (k * 2 + 1) + 1 + 1 from by omega]
    exact this
def pairS (q n : Nat) : V := if n = 0 then .slice none 0 0 0 true else .slice (some (q, 0)) 2 n n false
def PairsAt (os : List (Option AObj)) (q : Nat) (L : List Pr) : Prop := L ≠ [] → (os[q]?).join = some (.cells true (pairsV L))
theorem growPair {os : List (Option AObj)} {q n : Nat} {L : List Pr} {a : Pr} (hn : n = L.length) (hs : n ≤ 64) (h : PairsAt os q L) :
    ∃ os', appendV (few os) 2 16 (pairS q n) (some 1) (some [V.int .i64 (a.1 : Int), V.int .i64 (a.2 : Int)]) = some (.slice (some (os.length, 0)) 2 (n + 1) (n + 1) false, few os') ∧ PairsAt os' os.length (L ++ [a]) ∧ (∀ i, i < os.length → (L ≠ [] → i ≠ q) → (os'[i]?).join = (os[i]?).join) ∧ os'.length = os.length + 1 := by
  unfold pairS
  split
  · rename_i h0
    subst h0
    have : L = [] := by cases L with | nil => rfl | cons _ _ => simp at hn
    subst this
    refine ⟨os ++ [some (.cells true (pairsV [a]))], ?_, fun _ => by simp, fun i hi _ => join_app hi, by simp⟩
    rw [grow_none, if_pos (by simp)]
    rfl
  · rename_i h0
    have hne : L ≠ [] := fun e => h0 (by rw [hn, e]; rfl)
    have hg := h hne
    have ho : ownAt os q = some (pairsV L) := by rw [ownAt_eq, hg]
    refine ⟨os.set q none ++ [some (.cells true (pairsV (L ++ [a])))], ?_, fun _ => by rw [List.getElem?_append_right (by simp)]; simp, fun i hi hq => by rw [join_app (by simp; exact hi), join_set (fun e => hq hne e.symm)], by simp⟩
    rw [grow_some, ho, growC_some, if_pos ⟨by omega, rfl, by rw [pairsV_len, hn]⟩, pairsV_snoc]
/-- A table of strikes that may be read. -/
structure StrikesOk (bs : List Nat) (L : List Pr) : Prop where
  len : 8 ≤ bs.length ∧ bs.length ≤ 5000000
  ver : nm bs 0 2 = 1
  cnt : nm bs 4 4 = L.length
  few : L.length ≤ 64
  room : 8 + 4 * L.length ≤ bs.length
  at_ : ∀ (k : Nat) (a : Pr), L[k]? = some a → nm bs ((8 + 4 * k : Nat) : Int) 4 = a.1 ∧ num bs (a.1 : Int) 2 = some a.2
theorem part_few {call : CallT} {nP : Nat} (hP : PartF call nP) {os : List (Option AObj)} {v : V} {bs : List Nat} {x n : Int} (hv : bytesAt (few os) v = some bs) (hnil : isNil v = false) (hl : bs.length ≤ 140737488354000) (ht : thereB bs.length x n = true) :
    call nP [v, .int .i64 x, .int .i64 n] (few os) = some (.tuple [.slice (some (os.length, 0)) 1 n.toNat n.toNat false, .bool true], few (os ++ [some (newBytes (cutB bs x n))])) := by
  rw [hP _ _ _ _ _ hv hl]
  unfold partA
  rw [if_pos ht, if_neg (by rw [hnil]; simp), Pk.cut_len ht]
  exact lawOut_one
def StrikesF (call : CallT) (g : Nat) : Prop := ∀ os v bs L, bytesAt (few os) v = some bs → isNil v = false → StrikesOk bs L → ∃ q os', call g [v] (few os) = some (.tuple [pairS q L.length, .int .i64 0], few os') ∧ PairsAt os' q L ∧ (∀ i, i < os.length → (os'[i]?).join = (os[i]?).join) ∧ os.length ≤ os'.length
theorem pairS_plain {q n : Nat} : (pairS q n).plain = true := by unfold pairS; split <;> rfl
set_option maxHeartbeats 2000000 in
theorem Strikes_run {call : CallT} {lf n2 n4 nP : Nat} (hlf : 70 ≤ lf) (h2 : UF 2 call n2) (h4 : UF 4 call n4) (hP : PartF call nP) {os : List (Option AObj)} {v : V} {bs : List Nat} {L : List Pr} (hv : bytesAt (few os) v = some bs) (hnil : isNil v = false) (hS : StrikesOk bs L) :
    ∃ q os', enterF call lf [v] (few os) (strikesOf_c n2 n4 nP) = some (.tuple [pairS q L.length, .int .i64 0], few os') ∧ PairsAt os' q L ∧ (∀ i, i < os.length → (os'[i]?).join = (os[i]?).join) ∧ os.length ≤ os'.length := by
  have main := enter_wp (call := call) (lf := lf) (n := 73) (args := [v]) (st := few os) (K := fun u st => ∃ q os', st = few os' ∧ u = .tuple [pairS q L.length, .int .i64 0] ∧ PairsAt os' q L ∧ (∀ i, i < os.length → (os'[i]?).join = (os[i]?).join) ∧ os.length ≤ os'.length) (c := (strikesOf_c n2 n4 nP).code) (rs := (strikesOf_c n2 n4 nP).results) ?_
  · obtain ⟨u, st', h1, q, os', rfl, rfl, h2⟩ := main
    exact ⟨q, os', h1, h2⟩
  · unfold strikesOf_c
    dsimp only
    obtain ⟨n, hn⟩ : ∃ n, n = L.length := ⟨_, rfl⟩
    have hlen := hS.len
    have hfew := hS.few
    have hroom := hS.room
    have e1 : call n2 [v, .int .i64 0] (few os) = some (.tuple [.int .i64 1, .bool (num bs 0 2).isSome], few os) := by
      rw [h2 _ _ _ 0 hv (by omega)]
      show some (V.tuple [.int .i64 ((nm bs 0 2 : Nat) : Int), _], _) = _
      rw [hS.ver]; rfl
    have e2 : call n4 [v, .int .i64 4] (few os) = some (.tuple [.int .i64 (n : Int), .bool (num bs 4 4).isSome], few os) := by
      rw [h4 _ _ _ 4 hv (by omega)]
      show some (V.tuple [.int .i64 ((nm bs 4 4 : Nat) : Int), _], _) = _
      rw [hS.cnt, hn]
    have ln := fun st' => len_bytes (st' := st') hv
    obtain ⟨z, hz⟩ : ∃ z, z = bs.length := ⟨_, rfl⟩
    rw [← hz] at ln hlen
    have ep := part_few hP (x := 8) (n := ((4 * n : Nat) : Int)) hv hnil (by omega) (thereB_true.2 (by omega))
    obtain ⟨X, hX⟩ : ∃ X, X = os ++ [some (newBytes (cutB bs 8 ((4 * n : Nat) : Int)))] := ⟨_, rfl⟩
    rw [← hX, Int.toNat_natCast] at ep
    have ep : call nP [v, .int .i64 8, .int .i64 (4 * (n : Int))] (few os) = some (.tuple [.slice (some (os.length, 0)) 1 (4 * n) (4 * n) false, .bool true], few X) := by
      rw [show (4 * (n : Int)) = ((4 * n : Nat) : Int) from by omega]; exact ep
    have hXk : ∀ i, i < os.length → (X[i]?).join = (os[i]?).join := fun i hi => by rw [hX]; exact join_app hi
    have hXl : X.length = os.length + 1 := by rw [hX]; simp
    simp (disch := omega) [e1, e2, ln, dlt_t, dlt_f, dle_t, dle_f, dltn_t, dltn_f, dlen_t, dlen_f, deq_t, deq_f, deqn_t, deqn_f, ep, wrap_i]
    refine wp_loop (fun k s st => ∃ i Y q, i + k = n ∧ st = few Y ∧ (PairsAt Y q (L.take i) ∧ (∀ j, j < os.length → (Y[j]?).join = (os[j]?).join) ∧ os.length ≤ Y.length ∧ (L.take i ≠ [] → os.length ≤ q)) ∧ s .h = v ∧ s (.i (.i (.o .h))) = pairS q i ∧ s (.o (.i (.i (.i (.o .h))))) = .int .i64 (n : Int) ∧ s (.i (.i (.i (.i (.o .h))))) = .int .i64 (i : Int)) n ?_ (by omega) ?_
    · refine ⟨0, X, 0, by omega, rfl, ⟨fun h => absurd (by simp) h, hXk, by omega, fun h => absurd (by simp) h⟩, ?_, ?_, ?_, ?_⟩ <;> simp [pairS]
    · rintro k s st ⟨i, Y, q, hk, rfl, ⟨hq, hY, hYl, hqN⟩, s1, s2, s3, s4⟩
      cases k with
      | zero =>
        have hin : i = n := by omega
        subst hin
        rw [List.take_of_length_le (by omega)] at hq
        simp (disch := omega) [s1, s2, s3, s4, dlt_t, dlt_f, dle_t, dle_f, dltn_t, dltn_f, dlen_t, dlen_f, deq_t, deq_f, deqn_t, deqn_f, pairS_plain]
        exact ⟨q, Y, rfl, by rw [hn], hq, hY, hYl⟩
      | succ k =>
        have hin : i < n := by omega
        obtain ⟨a, ha⟩ : ∃ a, L[i]? = some a := ⟨_, List.getElem?_eq_getElem (by omega)⟩
        obtain ⟨g1, g2⟩ := hS.at_ i a ha
        have hvY : bytesAt (few Y) v = some bs := bytesAt_grow hv hY
        have u1 : call n4 [v, .int .i64 (8 + 4 * (i : Int))] (few Y) = some (.tuple [.int .i64 (a.1 : Int), .bool (num bs ((8 + 4 * i : Nat) : Int) 4).isSome], few Y) := by
          rw [show (8 + 4 * (i : Int)) = ((8 + 4 * i : Nat) : Int) from by omega, h4 _ _ _ _ hvY (by omega)]
          show some (V.tuple [.int .i64 ((nm bs ((8 + 4 * i : Nat) : Int) 4 : Nat) : Int), _], _) = _
          rw [g1]
        have u2 : call n2 [v, .int .i64 (a.1 : Int)] (few Y) = some (.tuple [.int .i64 (a.2 : Int), .bool true], few Y) := by
          rw [h2 _ _ _ _ hvY (by omega), g2]; rfl
        obtain ⟨y0, hy0⟩ : ∃ y, Y.length = y := ⟨_, rfl⟩
        obtain ⟨Y1, hY1⟩ : ∃ Y1, Y1 = Y ++ [some (AObj.cells true [.int .i64 (a.1 : Int), .int .i64 (a.2 : Int)])] := ⟨_, rfl⟩
        have e1' : Y1.length = y0 + 1 := by rw [hY1]; simp [hy0]
        have al : (few Y).alloc (.cells true [.int .i64 (a.1 : Int), .int .i64 (a.2 : Int)]) = some (y0, few Y1) := by rw [hY1, ← hy0]; exact few_alloc Y _
        have fi : firstN (few Y1) 2 1 (.slice (some (y0, 0)) 2 1 1 true) = some [V.int .i64 (a.1 : Int), V.int .i64 (a.2 : Int)] := by
          show sel (Nat.beq 2 2 && Nat.ble 1 1) ((few Y1).loadN y0 0 (1 * 2)) none = _
          rw [loadN_few (own := true) (cs := [V.int .i64 (a.1 : Int), V.int .i64 (a.2 : Int)]) (by rw [hY1, ← hy0]; simp) (by simp)]
          rfl
        have tl : (L.take i).length = i := by rw [List.length_take]; omega
        have hq1 : PairsAt Y1 q (L.take i) := fun hne => by rw [hY1, join_app (join_lt (hq hne))]; exact hq hne
        obtain ⟨Y2, gr, p1, p2, p3⟩ := growPair (os := Y1) (q := q) (n := i) (L := L.take i) (a := a) tl.symm (by omega) hq1
        rw [e1'] at gr p1
        have hLs : L.take (i + 1) = L.take i ++ [a] := by rw [List.take_add_one, ha]; rfl
        rw [← hLs] at p1
        simp (disch := omega) [s1, s2, s3, s4, dlt_t, dlt_f, dle_t, dle_f, dltn_t, dltn_f, dlen_t, dlen_f, deq_t, deq_f, deqn_t, deqn_f, u1, u2, al, lenOfS, firstNo, fi, gr, wrap_i]
        refine ⟨k, by omega, i + 1, by omega, Y2, rfl, y0 + 1, ⟨p1, fun j hj => ?_, by omega, fun _ => by omega⟩, by unfold pairS; rw [if_neg (by omega)], by omega⟩
        rw [p2 j (by omega) (fun hne => by have := hqN hne; omega), hY1, join_app (by omega), hY j hj]
theorem StrikesF.code {base : CallT} {g lf n2 n4 nP : Nat} (hlf : 70 ≤ lf) (h2 : UF 2 base n2) (h4 : UF 4 base n4) (hP : PartF base nP) : StrikesF (Vabs.withF base g lf (strikesOf_c n2 n4 nP)) g := fun os v bs L a b c => by
  rw [withF_same]; exact Strikes_run hlf h2 h4 hP a b c
theorem StrikesF.withF {call : CallT} {n g lf : Nat} {fn : AFunc} (h : StrikesF call n) (hne : n ≠ g) : StrikesF (Vabs.withF call g lf fn) n := fun os v bs L a b c => by rw [withF_other hne]; exact h os v bs L a b c
theorem StrikesF.other {call : CallT} {n g : Nat} {l : List V → St → Option (V × St)} (h : StrikesF call n) (hne : n ≠ g) : StrikesF (withL call g l) n := fun os v bs L a b c => by rw [withL_other hne]; exact h os v bs L a b c
/- THE NEAREST -/
def nearer (ppem : Int) (b s : Pr) : Bool := (decide (ppem ≤ (s.2 : Int)) && (decide ((b.2 : Int) < ppem) || decide (s.2 < b.2))) || (decide ((b.2 : Int) < ppem) && decide (b.2 < s.2))
def bestS (ppem : Int) (b s : Pr) : Pr := if nearer ppem b s then s else b
def chosenS (ppem : Int) : List Pr → Option Pr
  | [] => none
  | a :: l => some (l.foldl (bestS ppem) a)
theorem few_split {os Y : List (Option AObj)} {N : Nat} (hN : N = os.length) (h : ∀ j, j < N → (Y[j]?).join = (os[j]?).join) (hl : N ≤ Y.length) : Y = os ++ Y.drop N := by
  refine List.ext_getElem? fun i => ?_
  by_cases hi : i < N
  · have := h i hi
    rw [List.getElem?_append_left (by omega)]
    rw [List.getElem?_eq_getElem (by omega), List.getElem?_eq_getElem (by omega)] at this ⊢
    exact congrArg some this
  · rw [List.getElem?_append_right (by omega), List.getElem?_drop, show N + (i - os.length) = i from by omega]
def ChosenF (call : CallT) (g : Nat) : Prop := ∀ os q L (ppem : Int), PairsAt os q L → L.length ≤ 64 → ∃ l, call g [pairS q L.length, .int .i64 ppem] (few os) = some (.tuple [match chosenS ppem L with | some a => .agg [.int .i64 (a.1 : Int), .int .i64 (a.2 : Int)] | none => .agg [.int .i64 0, .int .i64 0], .bool (chosenS ppem L).isSome], few (os ++ l))
set_option maxHeartbeats 4000000 in
theorem Chosen_run {call : CallT} {lf : Nat} (hlf : 70 ≤ lf) {os : List (Option AObj)} {q : Nat} {L : List Pr} {ppem : Int} (h : PairsAt os q L) (hL : L.length ≤ 64) :
    ∃ l, enterF call lf [pairS q L.length, .int .i64 ppem] (few os) chosen_c = some (.tuple [match chosenS ppem L with | some a => .agg [.int .i64 (a.1 : Int), .int .i64 (a.2 : Int)] | none => .agg [.int .i64 0, .int .i64 0], .bool (chosenS ppem L).isSome], few (os ++ l)) := by
  have main := enter_wp (call := call) (lf := lf) (n := 58) (args := [pairS q L.length, .int .i64 ppem]) (st := few os) (K := fun u st => (∃ l, st = few (os ++ l)) ∧ u = .tuple [match chosenS ppem L with | some a => .agg [.int .i64 (a.1 : Int), .int .i64 (a.2 : Int)] | none => .agg [.int .i64 0, .int .i64 0], .bool (chosenS ppem L).isSome]) (c := chosen_c.code) (rs := chosen_c.results) ?_
  · obtain ⟨u, st', h1, ⟨l, rfl⟩, rfl⟩ := main
    exact ⟨l, h1⟩
  · unfold chosen_c
    dsimp only
    obtain ⟨N, hN⟩ : ∃ N, N = os.length := ⟨_, rfl⟩
    obtain ⟨A, hA⟩ : ∃ A, A = os ++ [some (AObj.cells true [.int .i64 0, .int .i64 0])] := ⟨_, rfl⟩
    have alA : (few os).alloc (.cells true [.int .i64 0, .int .i64 0]) = some (N, few A) := by rw [hA, hN]; exact few_alloc os _
    have eA : A.length = N + 1 := by rw [hA, hN]; simp
    have aA : (A[N]?).join = some (.cells true [.int .i64 0, .int .i64 0]) := by rw [hA, hN]; simp
    cases hLc : L with
    | nil =>
      have st0 : storeV (few A) 2 (.ptr (some (N, 0))) (some [.int .i64 0, .int .i64 0]) = some (V.undef, few A) := by rw [hA, hN]; exact storeNew rfl rfl
      have ld0 : loadV (few A) true 2 (.ptr (some (N, 0))) = some (.agg [.int .i64 0, .int .i64 0]) := loadAll aA rfl
      simp (disch := omega) [alA, pairS, st0, resE_cell, ld0]
      refine ⟨⟨_, by rw [hA]⟩, ?_⟩
      simp [chosenS]
    | cons a0 L' =>
      obtain ⟨n, hn⟩ : ∃ n, n = L.length := ⟨_, rfl⟩
      have hne : L ≠ [] := by rw [hLc]; simp
      have hq := h hne
      have hn0 : 0 < n := by rw [hn, hLc]; simp
      rw [show (a0 :: L').length = n from by rw [hn, hLc]]
      have hv : pairS q n = .slice (some (q, 0)) 2 n n false := if_neg (by omega)
      have hql := join_lt hq
      have keepA : ∀ i, i < N → (A[i]?).join = (os[i]?).join := fun i hi => by rw [hA]; exact join_app (by omega)
      have ldk : ∀ (Y : List (Option AObj)) (k : Nat) (a : Pr), (∀ i, i < N → (Y[i]?).join = (os[i]?).join) → L[k]? = some a → loadV (few Y) true 2 (.ptr (some (q, k * 2))) = some (.agg [.int .i64 (a.1 : Int), .int .i64 (a.2 : Int)]) := fun Y k a hY ha => by
        have hk := (List.getElem?_eq_some_iff.1 ha).1
        rw [load_fewC, cellsAt_eq, hY q (by omega), hq]
        show (cut (k * 2) 2 (pairsV L)).map V.agg = _
        rw [cut_of (by rw [pairsV_len]; omega)]
        obtain ⟨p1, p2⟩ := pairsV_at ha
        have : ((pairsV L).drop (k * 2)).take 2 = [.int .i64 (a.1 : Int), .int .i64 (a.2 : Int)] := by
          refine List.ext_getElem? fun i => ?_
          rw [List.getElem?_take, List.getElem?_drop]
          match i with
          | 0 => simpa using p1
          | 1 => simpa using p2
          | i + 2 => simp; intro h; omega
        rw [this]
        rfl
      have ld0 := ldk A 0 a0 keepA (by rw [hLc]; rfl)
      have ix0 : idxAddrV (.slice 2) (.slice (some (q, 0)) 2 n n false) (some 0) = some (.ptr (some (q, 0))) := by
        rw [idxAddr_slice (by omega)]
      obtain ⟨B0, hB0⟩ : ∃ B, B = A ++ [some (AObj.cells true [.int .i64 0, .int .i64 0])] := ⟨_, rfl⟩
      have alB : (few A).alloc (.cells true [.int .i64 0, .int .i64 0]) = some (N + 1, few B0) := by rw [hB0, ← eA]; exact few_alloc A _
      obtain ⟨B, hB⟩ : ∃ B, B = A ++ [some (AObj.cells true [.int .i64 (a0.1 : Int), .int .i64 (a0.2 : Int)])] := ⟨_, rfl⟩
      have stB : storeV (few B0) 2 (.ptr (some (N + 1, 0))) (some [.int .i64 (a0.1 : Int), .int .i64 (a0.2 : Int)]) = some (V.undef, few B) := by rw [hB0, hB, ← eA]; exact storeNew rfl rfl
      have sl1 : sliceOp (.slice 2) (.slice (some (q, 0)) 2 n n false) (some (.int .i64 1)) none none = some (.slice (some (q, 2)) 2 (n - 1) (n - 1) false) := by
        rw [slice_loI (by omega) (by omega), shiftA_some]
        rfl
      have eB : B.length = N + 2 := by rw [hB]; simp [eA]
      have aB : (B[N + 1]?).join = some (.cells true [.int .i64 (a0.1 : Int), .int .i64 (a0.2 : Int)]) := by rw [hB, ← eA]; simp
      have aBN : (B[N]?).join = some (.cells true [.int .i64 0, .int .i64 0]) := by rw [hB, join_app (by omega)]; exact aA
      have kB : ∀ i, i < N → (B[i]?).join = (os[i]?).join := fun i hi => by rw [hB, join_app (by omega), keepA i hi]
      obtain ⟨m, hm⟩ : ∃ m, m = n - 1 := ⟨_, rfl⟩
      rw [← hm] at sl1
      have hL'l : L'.length = m := by rw [hm, hn, hLc]; simp
      simp (disch := omega) [alA, hv, ix0, ld0, alB, stB, dlt_t, dlt_f, dle_t, dle_f, dltn_t, dltn_f, dlen_t, dlen_f, deq_t, deq_f, deqn_t, deqn_f, sl1]
      refine wp_loop (fun k s st => ∃ i Y b, i + k = m ∧ st = few Y ∧ ((∀ j, j < N → (Y[j]?).join = (os[j]?).join) ∧ N + 2 ≤ Y.length ∧ (Y[N]?).join = some (.cells true [.int .i64 0, .int .i64 0]) ∧ (Y[N + 1]?).join = some (.cells true [.int .i64 ((b : Pr).1 : Int), .int .i64 (b.2 : Int)]) ∧ b = (L'.take i).foldl (bestS ppem) a0) ∧
        s (.o .h) = .int .i64 ppem ∧ s (.i (.o .h)) = .ptr (some (N, 0)) ∧ s (.i (.i .h)) = .ptr (some (N + 1, 0)) ∧ s (.i (.i (.o (.o .h)))) = .slice (some (q, 2)) 2 m m false ∧ s (.o (.o (.i (.o .h)))) = .int .i64 (m : Int) ∧ s (.i (.o (.i (.o .h)))) = .int .i64 (i : Int)) m ?_ (by omega) ?_
      · refine ⟨0, B, a0, by omega, rfl, ⟨kB, by omega, aBN, aB, by simp⟩, ?_, ?_, ?_, ?_, ?_, ?_⟩ <;> simp
      · rintro k s st ⟨i, Y, b, hk, rfl, ⟨hY, hYl, hYN, hYb, hb⟩, z1, z2, z3, z4, z5, z6⟩
        cases k with
        | zero =>
          have him : i = m := by omega
          subst him
          rw [List.take_of_length_le (by omega)] at hb
          have ldb : loadV (few Y) true 2 (.ptr (some (N + 1, 0))) = some (.agg [.int .i64 (b.1 : Int), .int .i64 (b.2 : Int)]) := loadAll hYb rfl
          have stN : storeV (few Y) 2 (.ptr (some (N, 0))) (some [.int .i64 (b.1 : Int), .int .i64 (b.2 : Int)]) = some (V.undef, few (Y.set N (some (.cells true [.int .i64 (b.1 : Int), .int .i64 (b.2 : Int)])))) := storeAll (k := 2) hYN rfl rfl
          have ldN : loadV (few (Y.set N (some (.cells true [.int .i64 (b.1 : Int), .int .i64 (b.2 : Int)])))) true 2 (.ptr (some (N, 0))) = some (.agg [.int .i64 (b.1 : Int), .int .i64 (b.2 : Int)]) := loadAll (own := true) (by rw [join_set_same (by omega)]) rfl
          simp (disch := omega) [z1, z2, z3, z4, z5, z6, dlt_t, dlt_f, dle_t, dle_f, dltn_t, dltn_f, dlen_t, dlen_f, deq_t, deq_f, deqn_t, deqn_f, ldb, stN, resE_cell, ldN]
          refine ⟨⟨(Y.set N (some (.cells true [.int .i64 (b.1 : Int), .int .i64 (b.2 : Int)]))).drop N, ?_⟩, ?_⟩
          · congr 1
            refine few_split hN (fun j hj => ?_) (by rw [List.length_set]; omega)
            rw [join_set (by omega)]; exact hY j hj
          · rw [hb]
            simp [chosenS]
        | succ k =>
          have him : i < m := by omega
          obtain ⟨x, hx⟩ : ∃ x, L'[i]? = some x := ⟨_, List.getElem?_eq_getElem (by omega)⟩
          have hxL : L[i + 1]? = some x := by rw [hLc]; exact hx
          have lds := ldk Y (i + 1) x hY hxL
          rw [show (i + 1) * 2 = 2 + i * 2 from by omega] at lds
          obtain ⟨y0, hy0⟩ : ∃ y, y = Y.length := ⟨_, rfl⟩
          obtain ⟨Y0, hY0⟩ : ∃ Z, Z = Y ++ [some (AObj.cells true [.int .i64 0, .int .i64 0])] := ⟨_, rfl⟩
          have alY : (few Y).alloc (.cells true [.int .i64 0, .int .i64 0]) = some (y0, few Y0) := by rw [hY0, hy0]; exact few_alloc Y _
          obtain ⟨Y1, hY1⟩ : ∃ Z, Z = Y ++ [some (AObj.cells true [.int .i64 (x.1 : Int), .int .i64 (x.2 : Int)])] := ⟨_, rfl⟩
          have stY : storeV (few Y0) 2 (.ptr (some (y0, 0))) (some [.int .i64 (x.1 : Int), .int .i64 (x.2 : Int)]) = some (V.undef, few Y1) := by rw [hY0, hY1, hy0]; exact storeNew rfl rfl
          have a1 : (Y1[y0]?).join = some (.cells true [.int .i64 (x.1 : Int), .int .i64 (x.2 : Int)]) := by rw [hY1, hy0]; simp
          have a2 : (Y1[N + 1]?).join = some (.cells true [.int .i64 (b.1 : Int), .int .i64 (b.2 : Int)]) := by rw [hY1, join_app (by omega)]; exact hYb
          have a3 : (Y1[N]?).join = some (.cells true [.int .i64 0, .int .i64 0]) := by rw [hY1, join_app (by omega)]; exact hYN
          have k1 : ∀ j, j < N → (Y1[j]?).join = (os[j]?).join := fun j hj => by rw [hY1, join_app (by omega)]; exact hY j hj
          have e1 : Y1.length = y0 + 1 := by rw [hY1, hy0]; simp
          have l1 : loadV (few Y1) false 1 (.ptr (some (y0, 1))) = some (.int .i64 (x.2 : Int)) := (load_few a1).trans rfl
          have l2 : loadV (few Y1) false 1 (.ptr (some (N + 1, 1))) = some (.int .i64 (b.2 : Int)) := (load_few a2).trans rfl
          have lds2 : loadV (few Y1) true 2 (.ptr (some (y0, 0))) = some (.agg [.int .i64 (x.1 : Int), .int .i64 (x.2 : Int)]) := loadAll a1 rfl
          obtain ⟨Y2, hY2⟩ : ∃ Z, Z = Y1.set (N + 1) (some (.cells true [.int .i64 (x.1 : Int), .int .i64 (x.2 : Int)])) := ⟨_, rfl⟩
          have stb : storeV (few Y1) 2 (.ptr (some (N + 1, 0))) (some [.int .i64 (x.1 : Int), .int .i64 (x.2 : Int)]) = some (V.undef, few Y2) := by rw [hY2]; exact storeAll (k := 2) a2 rfl rfl
          have hst : (L'.take (i + 1)).foldl (bestS ppem) a0 = bestS ppem b x := by
            rw [List.take_add_one, hx, hb]
            simp
          have no : nearer ppem b x = false → b = (L'.take (i + 1)).foldl (bestS ppem) a0 := fun h => by rw [hst]; unfold bestS; rw [h]; rfl
          have yes : nearer ppem b x = true → x = (L'.take (i + 1)).foldl (bestS ppem) a0 := fun h => by rw [hst]; unfold bestS; rw [h]; rfl
          have fyes : nearer ppem b x = true → ((∀ j, j < N → (Y2[j]?).join = (os[j]?).join) ∧ N + 2 ≤ Y2.length ∧ (Y2[N]?).join = some (.cells true [.int .i64 0, .int .i64 0]) ∧ (Y2[N + 1]?).join = some (.cells true [.int .i64 (((L'.take (i + 1)).foldl (bestS ppem) a0).1 : Int), .int .i64 (((L'.take (i + 1)).foldl (bestS ppem) a0).2 : Int)])) := fun h =>
            ⟨fun j hj => by rw [hY2, join_set (by omega)]; exact k1 j hj, by rw [hY2, List.length_set]; omega, by rw [hY2, join_set (by omega)]; exact a3, by rw [hY2, join_set_same (by omega), ← yes h]⟩
          have fno : nearer ppem b x = false → ((∀ j, j < N → (Y1[j]?).join = (os[j]?).join) ∧ N + 2 ≤ Y1.length ∧ (Y1[N]?).join = some (.cells true [.int .i64 0, .int .i64 0]) ∧ (Y1[N + 1]?).join = some (.cells true [.int .i64 (((L'.take (i + 1)).foldl (bestS ppem) a0).1 : Int), .int .i64 (((L'.take (i + 1)).foldl (bestS ppem) a0).2 : Int)])) := fun h =>
            ⟨k1, by omega, a3, by rw [← no h]; exact a2⟩
          by_cases c1 : ppem ≤ (x.2 : Int)
          · by_cases c2 : (b.2 : Int) < ppem
            · simp (disch := omega) [z1, z2, z3, z4, z5, z6, him, dlt_t, dlt_f, dle_t, dle_f, dltn_t, dltn_f, dlen_t, dlen_f, deq_t, deq_f, deqn_t, deqn_f, natOf_int, idxAddr_slice, lds, alY, stY, l1, l2, lds2, stb, wrap_i]
              exact ⟨k, by omega, i + 1, by omega, Y2, rfl, fyes (by simp [nearer, c1, c2]), by omega⟩
            · by_cases c3 : x.2 < b.2
              · simp (disch := omega) [z1, z2, z3, z4, z5, z6, him, dlt_t, dlt_f, dle_t, dle_f, dltn_t, dltn_f, dlen_t, dlen_f, deq_t, deq_f, deqn_t, deqn_f, natOf_int, idxAddr_slice, lds, alY, stY, l1, l2, lds2, stb, wrap_i]
                exact ⟨k, by omega, i + 1, by omega, Y2, rfl, fyes (by simp [nearer, c1, c2, c3]), by omega⟩
              · simp (disch := omega) [z1, z2, z3, z4, z5, z6, him, dlt_t, dlt_f, dle_t, dle_f, dltn_t, dltn_f, dlen_t, dlen_f, deq_t, deq_f, deqn_t, deqn_f, natOf_int, idxAddr_slice, lds, alY, stY, l1, l2, lds2, stb, wrap_i]
                exact ⟨k, by omega, i + 1, by omega, Y1, rfl, fno (by simp [nearer, c1, c2, c3]), by omega⟩
          · by_cases c2 : (b.2 : Int) < ppem
            · by_cases c4 : b.2 < x.2
              · simp (disch := omega) [z1, z2, z3, z4, z5, z6, him, dlt_t, dlt_f, dle_t, dle_f, dltn_t, dltn_f, dlen_t, dlen_f, deq_t, deq_f, deqn_t, deqn_f, natOf_int, idxAddr_slice, lds, alY, stY, l1, l2, lds2, stb, wrap_i]
                exact ⟨k, by omega, i + 1, by omega, Y2, rfl, fyes (by simp [nearer, c1, c2, c4]), by omega⟩
              · simp (disch := omega) [z1, z2, z3, z4, z5, z6, him, dlt_t, dlt_f, dle_t, dle_f, dltn_t, dltn_f, dlen_t, dlen_f, deq_t, deq_f, deqn_t, deqn_f, natOf_int, idxAddr_slice, lds, alY, stY, l1, l2, lds2, stb, wrap_i]
                exact ⟨k, by omega, i + 1, by omega, Y1, rfl, fno (by simp [nearer, c1, c2, c4]), by omega⟩
            · simp (disch := omega) [z1, z2, z3, z4, z5, z6, him, dlt_t, dlt_f, dle_t, dle_f, dltn_t, dltn_f, dlen_t, dlen_f, deq_t, deq_f, deqn_t, deqn_f, natOf_int, idxAddr_slice, lds, alY, stY, l1, l2, lds2, stb, wrap_i]
              exact ⟨k, by omega, i + 1, by omega, Y1, rfl, fno (by simp [nearer, c1, c2]), by omega⟩
theorem ChosenF.code {base : CallT} {g lf : Nat} (hlf : 70 ≤ lf) : ChosenF (Vabs.withF base g lf chosen_c) g := fun os q L ppem a b => by
  rw [withF_same]; exact Chosen_run hlf a b
theorem ChosenF.withF {call : CallT} {n g lf : Nat} {fn : AFunc} (h : ChosenF call n) (hne : n ≠ g) : ChosenF (Vabs.withF call g lf fn) n := fun os q L ppem a b => by rw [withF_other hne]; exact h os q L ppem a b
theorem ChosenF.other {call : CallT} {n g : Nat} {l : List V → St → Option (V × St)} (h : ChosenF call n) (hne : n ≠ g) : ChosenF (withL call g l) n := fun os q L ppem a b => by rw [withL_other hne]; exact h os q L ppem a b

end Go.Vabs.Rb

namespace Go.Vabs.Rc
set_option linter.unusedVariables false
set_option linter.unusedSimpArgs false
set_option maxRecDepth 10000
attribute [local simp] wp_skip wp_ret wp_exit wp_reg wp_seq wp_cond wp_block thenQ_normal thenQ_ret thenQ_exit blockQ_normal blockQ_ret blockQ_exit wpCond_true wpCond_false wpOps_nil wpVal_some wpGuard_true wpGuard_false wpOps_guard wpOps_cons
  put_at put_no ev_c ev_slot posEq_h posEq_o posEq_i posEq_ho posEq_hi posEq_oh posEq_ih posEq_oi posEq_io sel_true sel_false
  okv_some step_mv step_call step_pick pickV_bool step_bin bin_add bin_sub bin_mul bin_eql bin_neq bin_lss bin_leq bin_gtr bin_geq bin_eqb bin_neb bin_eqs bin_nes step_un un_not un_neg step_len len_slice len_str len_const step_extract extractV nth step_convInt conv_int step_convStr step_slice step_idxAddr natOf_nat step_load step_index step_field step_fieldAddr step_build step_minmax
  step_alloc step_bslice bsliceV_some newV_some step_store step_append boolIs_b boolIs_t finQ_ret finQ_normal ressE_nil ressE_cons resE_tmp consO_some initE_nil initE_cons pos_0 pos_1 pos_2 pos_3 pos_4 pos_5 pos_6 pos_7 pos_8 plain_bool plain_int plain_str plain_ptr plain_slice plain_map plain_agg plain_func plain_nilFunc V.undef oneOf_one oneOf_two ble_self
open Go.Vabs.Pk Go.Vabs.Ph Go.Vabs.Sa Go.Vabs.Sb Go.Vabs.Sc Go.Vabs.Sd Go.Vabs.Se Go.Vabs.Sg Go.Vabs.Sh Go.Vabs.Sm Go.Vabs.Sn Go.Vabs.Sp Go.Vabs.Sr Go.Vabs.St Go.Vabs.Su Go.Vabs.L2 Go.Vabs.Na Go.Vabs.Nb Go.Vabs.Ra Go.Vabs.Rb
attribute [local simp] step_nilchk nilchk_ptr step_box cells_int cells_bool cells_str cells_slice cells_ptr cells_agg fieldAddrV natOf_zero fill repN splice over newV step_appendZ
  wp_dreg wpDs_nil wpDs_cons wantedE_none wantedE_some wpDGuard_true wpDGuard_lim wpDGuard_false wpDLim_true wpDVal_free wpDVal_lim back_limited next_limited limF_dir foot_load foot_convStr okAll_nil okAll_cons pastsOf nthP ahead few_next load_limited convStr_limited blt_dec okPair_dd okPair_dc okPair_cd okPair_cc anyIn_nil anyIn_same anyIn_cons meets_nil meets_nil'
/-- A glyph's data in a strike: where they stand. -/
structure DataAt (bs : List Nat) (a : Pr) (k f t : Nat) : Prop where
  len : bs.length ≤ 5000000
  kle : k ≤ bs.length
  from_ : num bs ((a.1 + 4 + 4 * k : Nat) : Int) 4 = some f
  to : num bs ((a.1 + 8 + 4 * k : Nat) : Int) 4 = some t
  le : f ≤ t
  in_ : a.1 + t ≤ bs.length
def DataOkF (call : CallT) (g : Nat) : Prop := ∀ os v bs (a : Pr) (k f t : Nat), bytesAt (few os) v = some bs → isNil v = false → DataAt bs a k f t → f + 8 ≤ t →
  ∃ p os', call g [v, .agg [.int .i64 (a.1 : Int), .int .i64 (a.2 : Int)], .int .i64 (k : Int)] (few os) = some (.tuple [.slice (some (p, 0)) 1 (t - f) (t - f) false, .int .i64 0], few os') ∧ (∀ i, i < os.length → (os'[i]?).join = (os[i]?).join) ∧ os.length ≤ os'.length ∧ (os'[p]?).join = some (newBytes ((bs.drop (a.1 + f)).take (t - f)))
def DataNoF (call : CallT) (g : Nat) : Prop := ∀ os v bs (a : Pr) (k f : Nat), bytesAt (few os) v = some bs → isNil v = false → DataAt bs a k f f →
  ∃ os', call g [v, .agg [.int .i64 (a.1 : Int), .int .i64 (a.2 : Int)], .int .i64 (k : Int)] (few os) = some (.tuple [.slice none 0 0 0 true, .int .i64 6], few os') ∧ (∀ i, i < os.length → (os'[i]?).join = (os[i]?).join) ∧ os.length ≤ os'.length
theorem Data_pre {base : CallT} {n4 nP : Nat} (h4 : UF 4 base n4) (hP : PartF base nP) {os : List (Option AObj)} {v : V} {bs : List Nat} {a : Pr} {k f t : Nat} (hv : bytesAt (few os) v = some bs) (hnil : isNil v = false) (hD : DataAt bs a k f t) :
    ∃ A B, (few os).alloc (.cells true [.int .i64 (a.1 : Int), .int .i64 (a.2 : Int)]) = some (os.length, few A) ∧ loadV (few A) false 1 (.ptr (some (os.length, 0))) = some (.int .i64 (a.1 : Int)) ∧
      base n4 [v, .int .i64 ((a.1 : Int) + 4 + 4 * (k : Int))] (few A) = some (.tuple [.int .i64 (f : Int), .bool true], few A) ∧ base n4 [v, .int .i64 ((a.1 : Int) + 8 + 4 * (k : Int))] (few A) = some (.tuple [.int .i64 (t : Int), .bool true], few A) ∧
      base nP [v, .int .i64 ((a.1 : Int) + (f : Int)), .int .i64 ((t : Int) - (f : Int))] (few A) = some (.tuple [.slice (some (os.length + 1, 0)) 1 (t - f) (t - f) false, .bool true], few B) ∧
      (∀ i, i < os.length → (B[i]?).join = (os[i]?).join) ∧ B.length = os.length + 2 ∧ (B[os.length + 1]?).join = some (newBytes ((bs.drop (a.1 + f)).take (t - f))) ∧ (∀ st, lenV st .slice v = some (.int .i64 (bs.length : Int))) := by
  have hlen := hD.len
  have hle := hD.le
  have hin := hD.in_
  obtain ⟨A, hA⟩ : ∃ A, A = os ++ [some (AObj.cells true [.int .i64 (a.1 : Int), .int .i64 (a.2 : Int)])] := ⟨_, rfl⟩
  have hvA : bytesAt (few A) v = some bs := bytesAt_grow hv fun i hi => by rw [hA]; exact join_app hi
  have eA : A.length = os.length + 1 := by rw [hA]; simp
  have aA : (A[os.length]?).join = some (.cells true [.int .i64 (a.1 : Int), .int .i64 (a.2 : Int)]) := by rw [hA]; simp
  have ep := part_few hP (x := ((a.1 + f : Nat) : Int)) (n := ((t - f : Nat) : Int)) hvA hnil (by omega) (thereB_true.2 (by omega))
  rw [Int.toNat_natCast, eA] at ep
  refine ⟨A, A ++ [some (newBytes ((bs.drop (a.1 + f)).take (t - f)))], by rw [hA]; exact few_alloc os _, (load_few aA).trans rfl, ?_, ?_, ?_, fun i hi => by rw [join_app (by omega), hA, join_app hi], by simp [eA], by rw [← eA]; simp, fun st => len_bytes (st' := st) hv⟩
  · rw [show (a.1 : Int) + 4 + 4 * (k : Int) = ((a.1 + 4 + 4 * k : Nat) : Int) from by omega, h4 _ _ _ _ hvA (by omega), hD.from_]; rfl
  · rw [show (a.1 : Int) + 8 + 4 * (k : Int) = ((a.1 + 8 + 4 * k : Nat) : Int) from by omega, h4 _ _ _ _ hvA (by omega), hD.to]; rfl
  · rw [show (a.1 : Int) + (f : Int) = ((a.1 + f : Nat) : Int) from by omega, show (t : Int) - (f : Int) = ((t - f : Nat) : Int) from by omega, ep]
    unfold cutB
    rw [Int.toNat_natCast, Int.toNat_natCast]
theorem DataOkF.code {base : CallT} {g lf n4 nP : Nat} (h4 : UF 4 base n4) (hP : PartF base nP) : DataOkF (Vabs.withF base g lf (data_c n4 nP)) g := fun os v bs a k f t hv hnil hD h8 => by
  rw [withF_same]
  obtain ⟨A, B, e1, e2, e3, e4, e5, e6, e7, e8, e9⟩ := Data_pre h4 hP hv hnil hD
  have hlen := hD.len
  have hk := hD.kle
  have hin := hD.in_
  obtain ⟨z, hz⟩ : ∃ z, z = bs.length := ⟨_, rfl⟩
  obtain ⟨w, hw⟩ : ∃ w, w = t - f := ⟨_, rfl⟩
  rw [← hz] at e9
  rw [← hw] at e5 e8 ⊢
  refine ⟨os.length + 1, B, ?_, e6, by omega, e8⟩
  refine enter_eq ?_
  simp (disch := omega) [e1, e2, e3, e4, e5, e9, dlt_t, dlt_f, dle_t, dle_f, dltn_t, dltn_f, dlen_t, dlen_f, deq_t, deq_f, deqn_t, deqn_f, wrap_i]
theorem DataNoF.code {base : CallT} {g lf n4 nP : Nat} (h4 : UF 4 base n4) (hP : PartF base nP) : DataNoF (Vabs.withF base g lf (data_c n4 nP)) g := fun os v bs a k f hv hnil hD => by
  rw [withF_same]
  obtain ⟨A, B, e1, e2, e3, e4, e5, e6, e7, e8, e9⟩ := Data_pre h4 hP hv hnil hD
  have hlen := hD.len
  have hk := hD.kle
  have hin := hD.in_
  obtain ⟨z, hz⟩ : ∃ z, z = bs.length := ⟨_, rfl⟩
  rw [← hz] at e9
  rw [Nat.sub_self] at e5
  have e5 : base nP [v, .int .i64 ((a.1 : Int) + (f : Int)), .int .i64 0] (few A) = some (.tuple [.slice (some (os.length + 1, 0)) 1 0 0 false, .bool true], few B) := by rw [Int.sub_self] at e5; exact e5
  refine ⟨B, ?_, e6, by omega⟩
  refine enter_eq ?_
  simp (disch := omega) [e1, e2, e3, e4, e5, e9, dlt_t, dlt_f, dle_t, dle_f, dltn_t, dltn_f, dlen_t, dlen_f, deq_t, deq_f, deqn_t, deqn_f, wrap_i]
/-- What is found: where it stands, its size, its bytes' slice. -/
def imgV (x y : Int) (pp p z : Nat) : V := .agg [.int .i64 x, .int .i64 y, .int .i64 (pp : Int), .slice (some (p, 8)) 1 (z - 8) (z - 8) false]
def tPng : List Nat := [112, 110, 103, 32]
def tDupe : List Nat := [100, 117, 112, 101]
theorem tag_at {os : List (Option AObj)} {p z : Nat} {d : List Nat} (hp : (os[p]?).join = some (newBytes d)) (hd : ∀ b ∈ d, b < 256) (hz : d.length = z) (h8 : 8 ≤ z) : sliceOp (.slice 1) (.slice (some (p, 0)) 1 z z false) (some (.int .i64 4)) (some (.int .i64 8)) none = some (.slice (some (p, 4)) 1 4 (z - 4) false) ∧ convV (few os) .toStr (.slice (some (p, 4)) 1 4 (z - 4) false) = some (.str ((d.drop 4).take 4)) := by
  constructor
  · rw [slice_lohiI (by omega) (by omega) (by omega), shiftA_some]; rfl
  · have := str_part (c := z - 4) (f := false) (m := 4) (n := z) (o := 0) hp (by rw [bytesV_len]; omega) (by rw [List.drop_zero, List.take_of_length_le (by rw [bytesV_len]; omega)]) hd 4 (by omega)
    exact this
def ImageF (call : CallT) (g : Nat) : Prop := ∀ os (p z : Nat) d (a : Pr), (os[p]?).join = some (newBytes d) → (∀ b ∈ d, b < 256) → d.length = z → 8 ≤ z → z ≤ 5000000 → (d.drop 4).take 4 = tPng →
  ∃ os', call g [.slice (some (p, 0)) 1 z z false, .agg [.int .i64 (a.1 : Int), .int .i64 (a.2 : Int)]] (few os) = some (.tuple [imgV (sgn 2 (nm d 0 2)) (sgn 2 (nm d 2 2)) a.2 p z, .int .i64 0], few os') ∧ (∀ i, i < os.length → (os'[i]?).join = (os[i]?).join) ∧ os.length ≤ os'.length
theorem ImageF.code {base : CallT} {g lf nI : Nat} (hI : IF 2 base nI) : ImageF (Vabs.withF base g lf (image_c nI)) g := fun os p z d a hp hd hz h8 hzl htag => by
  rw [withF_same]
  obtain ⟨N, hN⟩ : ∃ N, N = os.length := ⟨_, rfl⟩
  obtain ⟨A, hA⟩ : ∃ A, A = os ++ [some (AObj.cells true [.int .i64 (a.1 : Int), .int .i64 (a.2 : Int)])] := ⟨_, rfl⟩
  have eA : A.length = N + 1 := by rw [hA, hN]; simp
  have al1 : (few os).alloc (.cells true [.int .i64 (a.1 : Int), .int .i64 (a.2 : Int)]) = some (N, few A) := by rw [hA, hN]; exact few_alloc os _
  obtain ⟨B, hB⟩ : ∃ B, B = A ++ [some (AObj.cells true [.int .i64 0, .int .i64 0, .int .i64 0, .slice none 0 0 0 true])] := ⟨_, rfl⟩
  have al2 : (few A).alloc (.cells true [.int .i64 0, .int .i64 0, .int .i64 0, .slice none 0 0 0 true]) = some (N + 1, few B) := by rw [hB, ← eA]; exact few_alloc A _
  have kB : ∀ i, i < os.length → (B[i]?).join = (os[i]?).join := fun i hi => by rw [hB, join_app (by omega), hA, join_app hi]
  have hpB : (B[p]?).join = some (newBytes d) := by rw [kB p (join_lt hp)]; exact hp
  obtain ⟨t1, t2⟩ := tag_at hpB hd hz h8
  rw [htag] at t2
  unfold tPng at t2
  have hvB : bytesAt (few B) (.slice (some (p, 0)) 1 z z false) = some d := by rw [← hz]; exact lookB_at (lookB_own hpB hd).2
  obtain ⟨x, hx⟩ : ∃ x, x = sgn 2 (nm d 0 2) := ⟨_, rfl⟩
  obtain ⟨y, hy⟩ : ∃ y, y = sgn 2 (nm d 2 2) := ⟨_, rfl⟩
  have i1 : base nI [.slice (some (p, 0)) 1 z z false, .int .i64 0] (few B) = some (.tuple [.int .i64 x, .bool (num d 0 2).isSome], few B) := by rw [hI _ _ _ 0 hvB (by omega), hx]; rfl
  have i2 : base nI [.slice (some (p, 0)) 1 z z false, .int .i64 2] (few B) = some (.tuple [.int .i64 y, .bool (num d 2 2).isSome], few B) := by rw [hI _ _ _ 2 hvB (by omega), hy]; rfl
  have lN : loadV (few B) false 1 (.ptr (some (N, 1))) = some (.int .i64 (a.2 : Int)) := (load_few (show (B[N]?).join = some (.cells true [.int .i64 (a.1 : Int), .int .i64 (a.2 : Int)]) by rw [hB, join_app (by omega), hA, hN]; simp)).trans rfl
  have sl8 : sliceOp (.slice 1) (.slice (some (p, 0)) 1 z z false) (some (.int .i64 8)) none none = some (.slice (some (p, 8)) 1 (z - 8) (z - 8) false) := by
    rw [slice_loI (by omega) (by omega), shiftA_some]; rfl
  obtain ⟨z8, hz8⟩ : ∃ w, w = z - 8 := ⟨_, rfl⟩
  rw [← hz8] at sl8
  obtain ⟨C, hC⟩ : ∃ C, C = A ++ [some (AObj.cells true [.int .i64 x, .int .i64 y, .int .i64 (a.2 : Int), .slice (some (p, 8)) 1 z8 z8 false])] := ⟨_, rfl⟩
  have stC : storeV (few B) 4 (.ptr (some (N + 1, 0))) (some [.int .i64 x, .int .i64 y, .int .i64 (a.2 : Int), .slice (some (p, 8)) 1 z8 z8 false]) = some (V.undef, few C) := by rw [hB, hC, ← eA]; exact storeNew rfl rfl
  have ldC : loadV (few C) true 4 (.ptr (some (N + 1, 0))) = some (.agg [.int .i64 x, .int .i64 y, .int .i64 (a.2 : Int), .slice (some (p, 8)) 1 z8 z8 false]) := loadAll (own := true) (by rw [hC, ← eA]; simp) rfl
  refine ⟨C, ?_, fun i hi => by rw [hC, join_app (by omega), hA, join_app hi], by rw [hC]; simp [eA]; omega⟩
  unfold imgV
  rw [← hx, ← hy, ← hz8]
  refine enter_eq ?_
  simp (disch := omega) [al1, al2, t1, t2, i1, i2, lN, sl8, stC, resE_cell, ldC]

end Go.Vabs.Rc

namespace Go.Vabs.Rd
set_option linter.unusedVariables false
set_option linter.unusedSimpArgs false
set_option maxRecDepth 10000
attribute [local simp] wp_skip wp_ret wp_exit wp_reg wp_seq wp_cond wp_block thenQ_normal thenQ_ret thenQ_exit blockQ_normal blockQ_ret blockQ_exit wpCond_true wpCond_false wpOps_nil wpVal_some wpGuard_true wpGuard_false wpOps_guard wpOps_cons
  put_at put_no ev_c ev_slot posEq_h posEq_o posEq_i posEq_ho posEq_hi posEq_oh posEq_ih posEq_oi posEq_io sel_true sel_false
  okv_some step_mv step_call step_pick pickV_bool step_bin bin_add bin_sub bin_mul bin_eql bin_neq bin_lss bin_leq bin_gtr bin_geq bin_eqb bin_neb bin_eqs bin_nes step_un un_not un_neg step_len len_slice len_str len_const step_extract extractV nth step_convInt conv_int step_convStr step_slice step_idxAddr natOf_nat step_load step_index step_field step_fieldAddr step_build step_minmax
  step_alloc step_bslice bsliceV_some newV_some step_store step_append boolIs_b boolIs_t finQ_ret finQ_normal ressE_nil ressE_cons resE_tmp consO_some initE_nil initE_cons pos_0 pos_1 pos_2 pos_3 pos_4 pos_5 pos_6 pos_7 pos_8 plain_bool plain_int plain_str plain_ptr plain_slice plain_map plain_agg plain_func plain_nilFunc V.undef oneOf_one oneOf_two ble_self
open Go.Vabs.Pk Go.Vabs.Ph Go.Vabs.Sa Go.Vabs.Sb Go.Vabs.Sc Go.Vabs.Sd Go.Vabs.Se Go.Vabs.Sg Go.Vabs.Sh Go.Vabs.Sm Go.Vabs.Sn Go.Vabs.Sp Go.Vabs.Sr Go.Vabs.St Go.Vabs.Su Go.Vabs.L2 Go.Vabs.Na Go.Vabs.Nb Go.Vabs.Ra Go.Vabs.Rb Go.Vabs.Rc
attribute [local simp] step_nilchk nilchk_ptr step_box cells_int cells_bool cells_str cells_slice cells_ptr cells_agg fieldAddrV natOf_zero fill repN splice over newV step_appendZ
  wp_dreg wpDs_nil wpDs_cons wantedE_none wantedE_some wpDGuard_true wpDGuard_lim wpDGuard_false wpDLim_true wpDVal_free wpDVal_lim back_limited next_limited limF_dir foot_load foot_convStr okAll_nil okAll_cons pastsOf nthP ahead few_next load_limited convStr_limited blt_dec okPair_dd okPair_dc okPair_cd okPair_cc anyIn_nil anyIn_same anyIn_cons meets_nil meets_nil'
def tSbix : List Nat := [115, 98, 105, 120]
def zF : List V := [.int .i64 0, .int .i64 0, .int .i64 0, .slice none 0 0 0 true]
def cS (o : Option Pr) : Pr := o.getD (0, 0)
def mGl (G : Nat) : V := .agg [.int .i64 1000, .int .i64 (G : Int), .bool false]
structure Pre (os A7 : List (Option AObj)) (G P : Nat) (v : V) (bs : List Nat) (a : Pr) : Prop where
  old : ∀ i, i < os.length → (A7[i]?).join = (os[i]?).join
  len : os.length + 2 ≤ P ∧ P < A7.length
  n0 : (A7[os.length]?).join = some (.cells true [.int .i64 1000, .int .i64 (G : Int), .bool false])
  n1 : (A7[os.length + 1]?).join = some (.cells true zF)
  p : (A7[P]?).join = some (.cells true [.int .i64 (a.1 : Int), .int .i64 (a.2 : Int)])
  plain : v.plain = true
  b : bytesAt (few A7) v = some bs
  nil : isNil v = false
theorem Pre.keep {os A7 B : List (Option AObj)} {G P : Nat} {v : V} {bs : List Nat} {a : Pr} (h : Pre os A7 G P v bs a) (he : ∀ i, i < A7.length → (B[i]?).join = (A7[i]?).join) (hl : A7.length ≤ B.length) : Pre os B G P v bs a := by
  have h1 := h.len
  exact ⟨fun i hi => by rw [he i (by omega), h.old i hi], by omega, by rw [he _ (join_lt h.n0)]; exact h.n0, by rw [he _ (join_lt h.n1)]; exact h.n1, by rw [he _ (join_lt h.p)]; exact h.p, h.plain, bytesAt_grow h.b he, h.nil⟩
theorem Find_pre {call : CallT} {nT n21 n22 : Nat} (hT : TableF call nT) (hN : TableNF call nT) (h21 : StrikesF call n21) (h22 : ChosenF call n22) {os : List (Option AObj)} {F G : Nat} {bs : List Nat} {L : List Pr} {ppem : Int} (hF : FontMem os F [(tSbix, bs)]) (hb : ∀ x ∈ bs, x < 256) (hS : StrikesOk bs L) :
    ∃ v q A1 A2 A3 A4 A5 A6 A7 P, (few os).alloc (.cells true [.int .i64 1000, .int .i64 (G : Int), .bool false]) = some (os.length, few A1) ∧ (few A1).alloc (.cells true [.int .i64 0, .int .i64 0, .int .i64 0, .slice none 0 0 0 true]) = some (os.length + 1, few A2) ∧
      loadV (few A2) false 1 (.ptr (some (os.length, 1))) = some (.int .i64 (G : Int)) ∧
      call nT [.ptr (some (F, 0)), .str tSbix] (few A2) = some (.tuple [v, .bool true], few A3) ∧ call n21 [v] (few A3) = some (.tuple [pairS q L.length, .int .i64 0], few A4) ∧
      call n22 [pairS q L.length, .int .i64 ppem] (few A4) = some (.tuple [.agg [.int .i64 ((cS (chosenS ppem L)).1 : Int), .int .i64 ((cS (chosenS ppem L)).2 : Int)], .bool (chosenS ppem L).isSome], few A5) ∧
      (few A5).alloc (.cells true [.int .i64 0, .int .i64 0]) = some (P, few A6) ∧ storeV (few A6) 2 (.ptr (some (P, 0))) (some [.int .i64 ((cS (chosenS ppem L)).1 : Int), .int .i64 ((cS (chosenS ppem L)).2 : Int)]) = some (V.undef, few A7) ∧
      Pre os A7 G P v bs (cS (chosenS ppem L)) := by
  obtain ⟨A1, hA1⟩ : ∃ A, A = os ++ [some (AObj.cells true [.int .i64 1000, .int .i64 (G : Int), .bool false])] := ⟨_, rfl⟩
  have al1 : (few os).alloc (.cells true [.int .i64 1000, .int .i64 (G : Int), .bool false]) = some (os.length, few A1) := by rw [hA1]; exact few_alloc os _
  have e1 : A1.length = os.length + 1 := by rw [hA1]; simp
  obtain ⟨A2, hA2⟩ : ∃ A, A = A1 ++ [some (AObj.cells true zF)] := ⟨_, rfl⟩
  have al2 : (few A1).alloc (.cells true zF) = some (os.length + 1, few A2) := by rw [hA2, ← e1]; exact few_alloc A1 _
  have e2 : A2.length = os.length + 2 := by rw [hA2]; simp [e1]
  have k2 : ∀ i, i < os.length → (A2[i]?).join = (os[i]?).join := fun i hi => by rw [hA2, join_app (by omega), hA1, join_app hi]
  have a0 : (A2[os.length]?).join = some (.cells true [.int .i64 1000, .int .i64 (G : Int), .bool false]) := by rw [hA2, join_app (by omega), hA1]; simp
  have a1 : (A2[os.length + 1]?).join = some (.cells true zF) := by rw [hA2, ← e1]; simp
  have hlen := hS.len
  have tame : Tame [(tSbix, bs)] := ⟨by simp, by simp, fun x hx => by rw [List.mem_singleton.1 hx]; exact ⟨by show bs.length ≤ _; omega, hb⟩⟩
  obtain ⟨v, l, t1, t2, t3, t4⟩ := ask_font hT hN (hF.keep k2) tame tSbix
  have hask : askL [(tSbix, bs)] tSbix = some bs := by simp [askL]
  rw [hask] at t1 t3
  obtain ⟨p, hv, _⟩ := t4 bs hask
  have hnil : isNil v = false := by
    rw [hv]; rfl
  obtain ⟨q, A4, s1, s2, s3, s4⟩ := h21 _ _ _ _ t3 hnil hS
  obtain ⟨l5, c1⟩ := h22 A4 q L ppem s2 hS.few
  obtain ⟨A5, hA5⟩ : ∃ A, A = A4 ++ l5 := ⟨_, rfl⟩
  rw [← hA5] at c1
  obtain ⟨A3, hA3⟩ : ∃ A, A = A2 ++ l := ⟨_, rfl⟩
  rw [← hA3] at t1 t3 s1 s3 s4
  have l3 : A2.length ≤ A3.length := by rw [hA3]; simp
  have l5' : A4.length ≤ A5.length := by rw [hA5]; simp
  have k5 : ∀ i, i < A3.length → (A5[i]?).join = (A3[i]?).join := fun i hi => by rw [hA5, join_app (by omega), s3 i hi]
  have k3 : ∀ i, i < A2.length → (A3[i]?).join = (A2[i]?).join := fun i hi => by rw [hA3, join_app hi]
  obtain ⟨A6, hA6⟩ : ∃ A, A = A5 ++ [some (AObj.cells true [.int .i64 0, .int .i64 0])] := ⟨_, rfl⟩
  obtain ⟨A7, hA7⟩ : ∃ A, A = A5 ++ [some (AObj.cells true [.int .i64 ((cS (chosenS ppem L)).1 : Int), .int .i64 ((cS (chosenS ppem L)).2 : Int)])] := ⟨_, rfl⟩
  have e7 : A7.length = A5.length + 1 := by rw [hA7]; simp
  have k7 : ∀ i, i < A5.length → (A7[i]?).join = (A5[i]?).join := fun i hi => by rw [hA7, join_app hi]
  refine ⟨v, q, A1, A2, A3, A4, A5, A6, A7, A5.length, al1, al2, (load_few a0).trans rfl, t1, s1, ?_, by rw [hA6]; exact few_alloc A5 _, by rw [hA6, hA7]; exact storeNew rfl rfl, fun i hi => ?_, by omega, ?_, ?_, by rw [hA7]; simp, t2, ?_, hnil⟩
  · rw [c1]
    unfold cS
    cases chosenS ppem L <;> rfl
  · rw [k7 i (by omega), k5 i (by omega), k3 i (by omega), k2 i hi]
  · rw [k7 _ (by omega), k5 _ (by omega), k3 _ (by omega)]; exact a0
  · rw [k7 _ (by omega), k5 _ (by omega), k3 _ (by omega)]; exact a1
  · exact bytesAt_grow t3 fun i hi => by rw [k7 i (by omega), k5 i hi]
def fArgs (F G : Nat) (ppem k : Int) : List V := [.ptr (some (F, 0)), mGl G, .int .i64 ppem, .int .i64 k]
/-- No strike: none. -/
def FindNoF (call : CallT) (g : Nat) : Prop := ∀ os F G bs (ppem : Int) (k : Nat), FontMem os F [(tSbix, bs)] → (∀ x ∈ bs, x < 256) → StrikesOk bs [] → k < G →
  ∃ os', call g (fArgs F G ppem k) (few os) = some (.tuple [.agg zF, .int .i64 6], few os') ∧ (∀ i, i < os.length → (os'[i]?).join = (os[i]?).join) ∧ os.length ≤ os'.length
theorem FindNoF.code {base : CallT} {g lf nT n21 n22 n23 n24 n25 : Nat} (hT : TableF base nT) (hN : TableNF base nT) (h21 : StrikesF base n21) (h22 : ChosenF base n22) : FindNoF (Vabs.withF base g lf (Find_c nT n21 n22 n23 n24 n25)) g := fun os F G bs ppem k hF hb hS hk => by
  rw [withF_same]
  obtain ⟨v, q, A1, A2, A3, A4, A5, A6, A7, P, e1, e2, e3, e4, e5, e6, e7, e8, hp⟩ := Find_pre hT hN h21 h22 (G := G) (ppem := ppem) hF hb hS
  have ec : (chosenS ppem []).isSome = false := rfl
  rw [ec] at e6
  have ps : pairS q ([] : List Pr).length = .slice none 0 0 0 true := rfl
  rw [ps] at e5 e6
  unfold tSbix at e4
  have hlp := hp.len
  have ldr : storeV (few A7) 4 (.ptr (some (os.length + 1, 0))) (some [.int .i64 0, .int .i64 0, .int .i64 0, .slice none 0 0 0 true]) = some (V.undef, few (A7.set (os.length + 1) (some (.cells true zF)))) := storeAll (k := 4) hp.n1 rfl rfl
  have ldz : loadV (few (A7.set (os.length + 1) (some (.cells true zF)))) true 4 (.ptr (some (os.length + 1, 0))) = some (.agg zF) := loadAll (own := true) (by rw [join_set_same (by omega)]) rfl
  obtain ⟨c, hc⟩ : ∃ c, c = cS (chosenS ppem []) := ⟨_, rfl⟩
  rw [← hc] at e6 e8
  refine ⟨A7.set (os.length + 1) (some (.cells true zF)), ?_, fun i hi => by rw [join_set (by omega)]; exact hp.old i hi, by rw [List.length_set]; omega⟩
  unfold fArgs mGl
  refine enter_eq ?_
  simp (disch := omega) [e1, e2, e3, e4, e5, e6, e7, e8, ldr, resE_cell, ldz, bin_eqptr, dlt_t, dlt_f, dle_t, dle_f, dltn_t, dltn_f, dlen_t, dlen_f, deq_t, deq_f, deqn_t, deqn_f]
/-- The facts of a data lookup and an image, when what stands ahead of it is kept. -/
theorem Pre.strike {os A7 : List (Option AObj)} {G P : Nat} {v : V} {bs : List Nat} {a : Pr} (h : Pre os A7 G P v bs a) : loadV (few A7) true 2 (.ptr (some (P, 0))) = some (.agg [.int .i64 (a.1 : Int), .int .i64 (a.2 : Int)]) := loadAll h.p rfl
theorem Pre.glyphs {os A7 : List (Option AObj)} {G P : Nat} {v : V} {bs : List Nat} {a : Pr} (h : Pre os A7 G P v bs a) : loadV (few A7) false 1 (.ptr (some (os.length, 1))) = some (.int .i64 (G : Int)) := (load_few h.n0).trans rfl
theorem Pre.put {os A7 : List (Option AObj)} {G P : Nat} {v : V} {bs : List Nat} {a : Pr} (h : Pre os A7 G P v bs a) (w : List V) (hw : w.length = 4) : ∃ B, storeV (few A7) 4 (.ptr (some (os.length + 1, 0))) (some w) = some (V.undef, few B) ∧ loadV (few B) true 4 (.ptr (some (os.length + 1, 0))) = some (.agg w) ∧ (∀ i, i < os.length → (B[i]?).join = (os[i]?).join) ∧ B.length = A7.length ∧ ∀ i, i ≠ os.length + 1 → (B[i]?).join = (A7[i]?).join := by
  have hl := h.len
  refine ⟨A7.set (os.length + 1) (some (.cells true w)), ?_, loadAll (own := true) (by rw [join_set_same (by omega)]) hw, fun i hi => by rw [join_set (by omega)]; exact h.old i hi, by rw [List.length_set], fun i hi => by rw [join_set (by omega)]⟩
  exact storeAll (k := 4) h.n1 rfl hw
def dataOf (bs : List Nat) (a : Pr) (f t : Nat) : List Nat := (bs.drop (a.1 + f)).take (t - f)
theorem dataOf_len {bs : List Nat} {a : Pr} {k f t : Nat} (h : DataAt bs a k f t) : (dataOf bs a f t).length = t - f := by
  have := h.in_
  have := h.le
  unfold dataOf; rw [List.length_take, List.length_drop]; omega
/-- What Find tells: the image of data. -/
def foundV (d : List Nat) (a : Pr) (p : Nat) : V := imgV (sgn 2 (nm d 0 2)) (sgn 2 (nm d 2 2)) a.2 p d.length
def FindF (call : CallT) (g : Nat) : Prop := ∀ os F G bs L a (ppem : Int) (k f t : Nat), FontMem os F [(tSbix, bs)] → (∀ x ∈ bs, x < 256) → StrikesOk bs L → chosenS ppem L = some a → k < G → DataAt bs a k f t → f + 8 ≤ t → ((dataOf bs a f t).drop 4).take 4 = tPng →
  ∃ p os', call g (fArgs F G ppem k) (few os) = some (.tuple [foundV (dataOf bs a f t) a p, .int .i64 0], few os') ∧ (∀ i, i < os.length → (os'[i]?).join = (os[i]?).join) ∧ os.length ≤ os'.length ∧ (os'[p]?).join = some (newBytes (dataOf bs a f t))
theorem FindF.code {base : CallT} {g lf nT n21 n22 n23 n24 n25 : Nat} (hT : TableF base nT) (hN : TableNF base nT) (h21 : StrikesF base n21) (h22 : ChosenF base n22) (h23 : DataOkF base n23) (h24 : ImageF base n24) : FindF (Vabs.withF base g lf (Find_c nT n21 n22 n23 n24 n25)) g := fun os F G bs L a ppem k f t hF hb hS hc hk hD h8 hpng => by
  rw [withF_same]
  obtain ⟨v, q, A1, A2, A3, A4, A5, A6, A7, P, e1, e2, e3, e4, e5, e6, e7, e8, hp⟩ := Find_pre hT hN h21 h22 (G := G) (ppem := ppem) hF hb hS
  have hcS : cS (chosenS ppem L) = a := by rw [hc]; rfl
  rw [hcS] at e6 e8 hp
  have ec : (chosenS ppem L).isSome = true := by rw [hc]; rfl
  rw [ec] at e6
  have hdl := dataOf_len hD
  have hlen := hD.len
  have hin := hD.in_
  unfold tSbix at e4
  obtain ⟨pd, B, d1, d2, d3, d4⟩ := h23 _ _ _ a k f t hp.b hp.nil hD h8
  obtain ⟨D, hDe⟩ : ∃ D, D = dataOf bs a f t := ⟨_, rfl⟩
  rw [show (bs.drop (a.1 + f)).take (t - f) = D from by rw [hDe]; rfl] at d4
  rw [← hDe] at hpng hdl ⊢
  have hD256 : ∀ x ∈ D, x < 256 := fun x hx => by rw [hDe] at hx; exact hb x (List.mem_of_mem_drop (List.mem_of_mem_take hx))
  obtain ⟨z, hz⟩ : ∃ z, z = t - f := ⟨_, rfl⟩
  rw [← hz] at d1 hdl
  obtain ⟨g1, g2⟩ := tag_at d4 hD256 hdl (by omega)
  rw [hpng] at g2
  unfold tPng at g2
  have hpB := hp.keep d2 d3
  obtain ⟨C, c1, c2, c3⟩ := h24 B pd z D a d4 hD256 hdl (by omega) (by omega) hpng
  have hpC := hpB.keep c2 c3
  have ld1 := hp.strike
  have ld2 := hpB.strike
  obtain ⟨X, p1, p2, p3, p4, p5⟩ := hpC.put [.int .i64 (sgn 2 (nm D 0 2)), .int .i64 (sgn 2 (nm D 2 2)), .int .i64 (a.2 : Int), .slice (some (pd, 8)) 1 (z - 8) (z - 8) false] rfl
  obtain ⟨x, hx⟩ : ∃ x, x = sgn 2 (nm D 0 2) := ⟨_, rfl⟩
  obtain ⟨y, hy⟩ : ∃ y, y = sgn 2 (nm D 2 2) := ⟨_, rfl⟩
  have hlp := hp.len
  have dn : pd ≠ os.length + 1 := fun e => by
    have hn := hpB.n1
    rw [← e, d4] at hn
    unfold newBytes zF at hn
    injection hn with hn
    injection hn with _ hn
    match D, hdl, hn with
    | [], hdl, _ => simp at hdl; omega
    | x :: _, _, hn => simp [bytesV] at hn
  have hd5 : (X[pd]?).join = some (newBytes D) := by rw [p5 pd dn, c2 pd (join_lt d4)]; exact d4
  unfold foundV
  rw [hdl]
  unfold imgV at c1 ⊢
  rw [← hx, ← hy] at c1 p1 p2 ⊢
  refine ⟨pd, X, ?_, p3, by omega, hd5⟩
  obtain ⟨z8, hz8⟩ : ∃ w, w = z - 8 := ⟨_, rfl⟩
  rw [← hz8] at c1 p1 p2 ⊢
  have hpl := pairS_plain (q := q) (n := L.length)
  have hvp := hp.plain
  unfold fArgs mGl
  refine enter_eq ?_
  simp (disch := omega) [e1, e2, e3, e4, e5, e6, e7, e8, ld1, d1, g1, g2, ld2, c1, p1, resE_cell, p2, bin_eqptr, dlt_t, dlt_f, dle_t, dle_f, dltn_t, dltn_f, dlen_t, dlen_f, deq_t, deq_f, deqn_t, deqn_f, hpl, hvp]
theorem FindF.other {call : CallT} {n g : Nat} {l : List V → St → Option (V × St)} (h : FindF call n) (hne : n ≠ g) : FindF (withL call g l) n := fun os F G bs L a ppem k f t a1 a2 a3 a4 a5 a6 a7 a8 => by rw [withL_other hne]; exact h os F G bs L a ppem k f t a1 a2 a3 a4 a5 a6 a7 a8
theorem FindNoF.other {call : CallT} {n g : Nat} {l : List V → St → Option (V × St)} (h : FindNoF call n) (hne : n ≠ g) : FindNoF (withL call g l) n := fun os F G bs ppem k a1 a2 a3 a4 => by rw [withL_other hne]; exact h os F G bs ppem k a1 a2 a3 a4
theorem DataOkF.withF {call : CallT} {n g lf : Nat} {fn : AFunc} (h : DataOkF call n) (hne : n ≠ g) : DataOkF (Vabs.withF call g lf fn) n := fun os v bs a k f t a1 a2 a3 a4 => by rw [withF_other hne]; exact h os v bs a k f t a1 a2 a3 a4
theorem DataOkF.other {call : CallT} {n g : Nat} {l : List V → St → Option (V × St)} (h : DataOkF call n) (hne : n ≠ g) : DataOkF (withL call g l) n := fun os v bs a k f t a1 a2 a3 a4 => by rw [withL_other hne]; exact h os v bs a k f t a1 a2 a3 a4
theorem DataNoF.withF {call : CallT} {n g lf : Nat} {fn : AFunc} (h : DataNoF call n) (hne : n ≠ g) : DataNoF (Vabs.withF call g lf fn) n := fun os v bs a k f a1 a2 a3 => by rw [withF_other hne]; exact h os v bs a k f a1 a2 a3
theorem DataNoF.other {call : CallT} {n g : Nat} {l : List V → St → Option (V × St)} (h : DataNoF call n) (hne : n ≠ g) : DataNoF (withL call g l) n := fun os v bs a k f a1 a2 a3 => by rw [withL_other hne]; exact h os v bs a k f a1 a2 a3

end Go.Vabs.Rd

namespace Go.Vabs.Re
set_option linter.unusedVariables false
set_option linter.unusedSimpArgs false
set_option maxRecDepth 10000
attribute [local simp] wp_skip wp_ret wp_exit wp_reg wp_seq wp_cond wp_block thenQ_normal thenQ_ret thenQ_exit blockQ_normal blockQ_ret blockQ_exit wpCond_true wpCond_false wpOps_nil wpVal_some wpGuard_true wpGuard_false wpOps_guard wpOps_cons
  put_at put_no ev_c ev_slot posEq_h posEq_o posEq_i posEq_ho posEq_hi posEq_oh posEq_ih posEq_oi posEq_io sel_true sel_false
  okv_some step_mv step_call step_pick pickV_bool step_bin bin_add bin_sub bin_mul bin_eql bin_neq bin_lss bin_leq bin_gtr bin_geq bin_eqb bin_neb bin_eqs bin_nes step_un un_not un_neg step_len len_slice len_str len_const step_extract extractV nth step_convInt conv_int step_convStr step_slice step_idxAddr natOf_nat step_load step_index step_field step_fieldAddr step_build step_minmax
  step_alloc step_bslice bsliceV_some newV_some step_store step_append boolIs_b boolIs_t finQ_ret finQ_normal ressE_nil ressE_cons resE_tmp consO_some initE_nil initE_cons pos_0 pos_1 pos_2 pos_3 pos_4 pos_5 pos_6 pos_7 pos_8 plain_bool plain_int plain_str plain_ptr plain_slice plain_map plain_agg plain_func plain_nilFunc V.undef oneOf_one oneOf_two ble_self
open Go.Vabs.Pk Go.Vabs.Ph Go.Vabs.Sa Go.Vabs.Sb Go.Vabs.Sc Go.Vabs.Sd Go.Vabs.Se Go.Vabs.Sg Go.Vabs.Sh Go.Vabs.Sm Go.Vabs.Sn Go.Vabs.Sp Go.Vabs.Sr Go.Vabs.St Go.Vabs.Su Go.Vabs.L2 Go.Vabs.Na Go.Vabs.Nb Go.Vabs.Ra Go.Vabs.Rb Go.Vabs.Rc Go.Vabs.Rd
/- WHERE NUMBERS STAND IN A TABLE OF STRIKES -/
theorem num_mid {bs A W B : List Nat} {m z : Nat} (h : bs = A ++ W ++ B) (hA : A.length = m) (hW : W.length = z) : num bs (m : Int) z = some (be W) := by
  subst h
  rw [num_drop (by simp only [List.length_append]; omega), List.append_assoc, List.drop_left' hA, List.take_left' hW]
theorem be_big2 {v : Nat} (h : v < 65536) : be (bigB v 2) = v := by rw [be_bigB]; exact Nat.mod_eq_of_lt (by omega)
theorem prefixOf {f : Nat → List Nat} (hs : ∀ k, ∃ w, f (k + 1) = f k ++ w) {k : Nat} : ∀ d, ∃ R, f (k + d) = f k ++ R
  | 0 => ⟨[], by simp⟩
  | d + 1 => by
    obtain ⟨R, h⟩ := prefixOf hs (k := k) d
    obtain ⟨w, h2⟩ := hs (k + d)
    exact ⟨R ++ w, by rw [← Nat.add_assoc, h2, h, List.append_assoc]⟩
theorem headS_pre {l : List Stk} {k n : Nat} (h : k ≤ n) : ∃ R, headS l n = headS l k ++ R := by
  obtain ⟨d, rfl⟩ := Nat.exists_eq_add_of_le h
  exact prefixOf (fun k => ⟨_, headS_succ⟩) d
theorem strH_pre {s : Stk} {k n : Nat} (h : k ≤ n) : ∃ R, strH s n = strH s k ++ R := by
  obtain ⟨d, rfl⟩ := Nat.exists_eq_add_of_le h
  exact prefixOf (fun k => ⟨_, strH_succ⟩) d
theorem drop_one {α : Type} {l : List α} {k : Nat} {s : α} (h : l[k]? = some s) : l = l.take k ++ [s] ++ l.drop (k + 1) := by
  obtain ⟨hk, he⟩ := List.getElem?_eq_some_iff.1 h
  conv => lhs; rw [← List.take_append_drop (k + 1) l, List.take_add_one, h]
  rfl
def atK (l : List Stk) (k : Nat) : Nat := 8 + 4 * l.length + (Ra.allB (l.take k)).length
theorem sbix_cut {l : List Stk} {k : Nat} {s : Stk} (h : l[k]? = some s) : ∃ R, sbixB l = (headS l l.length ++ Ra.allB (l.take k)) ++ strB s ++ R ∧ (headS l l.length ++ Ra.allB (l.take k)).length = atK l k := by
  refine ⟨Ra.allB (l.drop (k + 1)), ?_, by unfold atK; rw [List.length_append, headS_len]⟩
  have : Ra.allB l = Ra.allB (l.take k) ++ strB s ++ Ra.allB (l.drop (k + 1)) := by
    conv => lhs; rw [drop_one h]
    unfold Ra.allB
    simp
  unfold sbixB
  rw [this]
  simp only [List.append_assoc]
theorem sbix_le {l : List Stk} (hn : l.length ≤ 64) (h : ∀ s ∈ l, StkOk s) : (sbixB l).length ≤ 4300000 := by
  have h1 := allB_le h
  have h2 : 66000 * l.length ≤ 66000 * 64 := Nat.mul_le_mul_left _ hn
  unfold sbixB
  rw [List.length_append, headS_len]; omega
def prs (l : List Stk) : List Pr := (List.range l.length).map fun k => (atK l k, ((l[k]?).map (·.1)).getD 0)
theorem prs_len {l : List Stk} : (prs l).length = l.length := by simp [prs]
theorem prs_at {l : List Stk} {k : Nat} {a : Pr} (h : (prs l)[k]? = some a) : ∃ s, l[k]? = some s ∧ a = (atK l k, s.1) := by
  have hk : k < l.length := by have := (List.getElem?_eq_some_iff.1 h).1; rw [prs_len] at this; exact this
  refine ⟨l[k], List.getElem?_eq_getElem hk, ?_⟩
  unfold prs at h
  rw [List.getElem?_map, List.getElem?_range hk] at h
  have h : some (atK l k, ((l[k]?).map (·.1)).getD 0) = some a := h
  rw [List.getElem?_eq_getElem hk] at h
  cases h
  rfl
theorem atK_le {l : List Stk} {k : Nat} {s : Stk} (h : l[k]? = some s) : atK l k + (strB s).length ≤ (sbixB l).length := by
  obtain ⟨R, h1, h2⟩ := sbix_cut h
  have := congrArg List.length h1
  rw [List.length_append, List.length_append, h2] at this
  omega
theorem strikes_ok {l : List Stk} (hn : l.length ≤ 64) (h : ∀ s ∈ l, StkOk s) : StrikesOk (sbixB l) (prs l) := by
  have hle := sbix_le hn h
  obtain ⟨R0, h0⟩ := headS_pre (l := l) (k := 0) (n := l.length) (by omega)
  have hs0 : sbixB l = [] ++ [0, 1] ++ ([0, 0] ++ bigB l.length 4 ++ R0 ++ Ra.allB l) := by unfold sbixB; rw [h0]; simp [headS]
  have hs4 : sbixB l = [0, 1, 0, 0] ++ bigB l.length 4 ++ (R0 ++ Ra.allB l) := by unfold sbixB; rw [h0]; simp [headS]
  have hlen : 8 + 4 * l.length ≤ (sbixB l).length := by unfold sbixB; rw [List.length_append, headS_len]; omega
  refine ⟨⟨by omega, by omega⟩, ?_, ?_, by rw [prs_len]; exact hn, by rw [prs_len]; exact hlen, fun k a ha => ?_⟩
  · have := num_mid (z := 2) (m := 0) hs0 rfl rfl
    unfold nm
    rw [show (0 : Int) = ((0 : Nat) : Int) from rfl, this]
    rfl
  · have := num_mid (z := 4) (m := 4) hs4 rfl (bigB_len _ _)
    unfold nm
    rw [show (4 : Int) = ((4 : Nat) : Int) from rfl, this, be_big4 (by omega), prs_len]
    rfl
  · obtain ⟨s, hs, rfl⟩ := prs_at ha
    have hk := (List.getElem?_eq_some_iff.1 hs).1
    obtain ⟨R1, h1⟩ := headS_pre (l := l) (k := k + 1) (n := l.length) (by omega)
    have hat := atK_le hs
    have hok := h s (List.mem_of_getElem? hs)
    constructor
    · have hsk : sbixB l = headS l k ++ bigB (atK l k) 4 ++ (R1 ++ Ra.allB l) := by unfold sbixB; rw [h1, headS_succ]; simp [atK]
      have := num_mid (z := 4) (m := 8 + 4 * k) hsk (headS_len k) (bigB_len _ _)
      unfold nm
      rw [this, be_big4 (by omega)]
      rfl
    · obtain ⟨R2, h2, h3⟩ := sbix_cut hs
      obtain ⟨R3, h4⟩ := strH_pre (s := s) (k := 0) (n := s.2.length + 1) (by omega)
      have : sbixB l = (headS l l.length ++ Ra.allB (l.take k)) ++ bigB s.1 2 ++ ([0, 72] ++ R3 ++ s.2.flatten ++ R2) := by
        rw [h2]
        unfold strB
        rw [h4]
        simp [strH, offsB]
      have := num_mid (z := 2) this h3 (bigB_len _ _)
      rw [this, be_big2 hok.ppem]
theorem data_at {l : List Stk} (hn : l.length ≤ 64) (h : ∀ s ∈ l, StkOk s) {i k : Nat} {s : Stk} {d : List Nat} (hs : l[i]? = some s) (hd : s.2[k]? = some d) :
    DataAt (sbixB l) (atK l i, s.1) k (fromK s.2 k) (fromK s.2 (k + 1)) ∧ fromK s.2 (k + 1) = fromK s.2 k + d.length ∧ dataOf (sbixB l) (atK l i, s.1) (fromK s.2 k) (fromK s.2 (k + 1)) = d := by
  have hle := sbix_le hn h
  have hat := atK_le hs
  have hok := h s (List.mem_of_getElem? hs)
  obtain ⟨R, h1, h2⟩ := sbix_cut hs
  have hk := (List.getElem?_eq_some_iff.1 hd).1
  have hsum : (s.2.take (k + 1)).flatten = (s.2.take k).flatten ++ d := by rw [List.take_add_one, hd]; simp
  have e1 : fromK s.2 (k + 1) = fromK s.2 k + d.length := by unfold fromK; rw [hsum, List.length_append]; omega
  have hflat : s.2.flatten = (s.2.take k).flatten ++ d ++ (s.2.drop (k + 1)).flatten := by
    conv => lhs; rw [drop_one hd]
    simp
  have hin : atK l i + fromK s.2 (k + 1) ≤ (sbixB l).length := by
    have hl : (strB s).length = 4 + 4 * (s.2.length + 1) + s.2.flatten.length := by unfold strB; rw [List.length_append, strH_len]
    have hl2 := congrArg List.length hflat
    rw [List.length_append, List.length_append] at hl2
    have : fromK s.2 (k + 1) = 4 + 4 * (s.2.length + 1) + ((s.2.take k).flatten.length + d.length) := by unfold fromK; rw [hsum, List.length_append]
    omega
  have key : ∀ j, j ≤ s.2.length → j ≤ k + 1 → num (sbixB l) ((atK l i + 4 + 4 * j : Nat) : Int) 4 = some (fromK s.2 j) := fun j hj hjk => by
    obtain ⟨R3, h4⟩ := strH_pre (s := s) (k := j + 1) (n := s.2.length + 1) (by omega)
    have hsp : sbixB l = (headS l l.length ++ Ra.allB (l.take i) ++ strH s j) ++ bigB (fromK s.2 j) 4 ++ (R3 ++ s.2.flatten ++ R) := by
      rw [h1]
      unfold strB
      rw [h4, strH_succ]
      simp only [List.append_assoc]
    have := num_mid (z := 4) (m := atK l i + 4 + 4 * j) hsp (by rw [List.length_append, h2, strH_len]; omega) (bigB_len _ _)
    have hj : fromK s.2 j ≤ fromK s.2 (k + 1) := by
      unfold fromK
      have : (s.2.take j) = (s.2.take (k + 1)).take j := by rw [List.take_take, Nat.min_eq_left hjk]
      have h2 := take_flat_le (ds := s.2.take (k + 1)) j
      rw [← this] at h2
      omega
    rw [this, be_big4 (by omega)]
  refine ⟨⟨by omega, ?_, key k (by omega) (by omega), ?_, by omega, hin⟩, e1, ?_⟩
  · have := hok.few
    have h3 : 4 + 4 * (s.2.length + 1) ≤ (strB s).length := by unfold strB; rw [List.length_append, strH_len]; omega
    omega
  · have := key (k + 1) (by omega) (by omega)
    rw [show atK l i + 4 + 4 * (k + 1) = atK l i + 8 + 4 * k from by omega] at this
    exact this
  · have hsp : sbixB l = (headS l l.length ++ Ra.allB (l.take i) ++ strH s (s.2.length + 1) ++ (s.2.take k).flatten) ++ (d ++ ((s.2.drop (k + 1)).flatten ++ R)) := by
      rw [h1]
      unfold strB
      conv => lhs; rw [hflat]
      simp only [List.append_assoc]
    unfold dataOf
    rw [e1, show fromK s.2 k + d.length - fromK s.2 k = d.length from by omega]
    conv => lhs; rw [hsp]
    rw [List.drop_left' (by rw [List.length_append, List.length_append, h2, strH_len]; unfold fromK; show _ = atK l i + _; omega), List.take_left' rfl]
/- A GLYPH'S DATA -/
theorem dataB_len {x y : Nat} {tag b : List Nat} (h : tag.length = 4) : (dataB x y tag b).length = 8 + b.length := by simp [dataB, bigB_len, h]; omega
theorem dataB_tag {x y : Nat} {tag b : List Nat} (h : tag.length = 4) : ((dataB x y tag b).drop 4).take 4 = tag := by
  unfold dataB
  rw [List.append_assoc, List.drop_left' (by simp [bigB_len]), List.take_left' h]
theorem dataB_x {x y : Nat} {tag b : List Nat} : nm (dataB x y tag b) 0 2 = x % 65536 := by
  have := num_mid (bs := dataB x y tag b) (z := 2) (m := 0) (A := []) (W := bigB x 2) (B := bigB y 2 ++ tag ++ b) (by simp [dataB]) rfl (bigB_len _ _)
  unfold nm
  rw [show (0 : Int) = ((0 : Nat) : Int) from rfl, this, be_bigB]
  rfl
theorem dataB_y {x y : Nat} {tag b : List Nat} : nm (dataB x y tag b) 2 2 = y % 65536 := by
  have := num_mid (bs := dataB x y tag b) (z := 2) (m := 2) (A := bigB x 2) (W := bigB y 2) (B := tag ++ b) (by simp [dataB]) (bigB_len _ _) (bigB_len _ _)
  unfold nm
  rw [show (2 : Int) = ((2 : Nat) : Int) from rfl, this, be_bigB]
  rfl
theorem dataB_lt {x y : Nat} {tag b : List Nat} (ht : ∀ c ∈ tag, c < 256) (hb : ∀ c ∈ b, c < 256) : ∀ c ∈ dataB x y tag b, c < 256 := by
  intro c hc
  unfold dataB at hc
  simp only [List.mem_append] at hc
  rcases hc with ((hc | hc) | hc) | hc
  · exact bigB_lt _ _ c hc
  · exact bigB_lt _ _ c hc
  · exact ht c hc
  · exact hb c hc
/- THE NEAREST: what it is -/
def worse (p : Int) (a b : Nat) (i j : Nat) : Prop := ((a : Int) < p ∧ (p ≤ b ∨ a < b)) ∨ (p ≤ a ∧ p ≤ b ∧ b < a) ∨ (b = a ∧ j < i)
theorem near_true {p : Int} {b s : Pr} (h : nearer p b s = true) : (p ≤ (s.2 : Int) ∧ ((b.2 : Int) < p ∨ s.2 < b.2)) ∨ ((b.2 : Int) < p ∧ b.2 < s.2) := by
  unfold nearer at h
  simpa using h
theorem near_false {p : Int} {b s : Pr} (h : nearer p b s = false) : ¬((p ≤ (s.2 : Int) ∧ ((b.2 : Int) < p ∨ s.2 < b.2)) ∨ ((b.2 : Int) < p ∧ b.2 < s.2)) := by
  intro h2
  have : nearer p b s = true := by unfold nearer; simpa using h2
  rw [h] at this
  cases this
theorem chosen_law {p : Int} {L : List Pr} (hne : L ≠ []) : ∃ i a, chosenS p L = some a ∧ L[i]? = some a ∧ ∀ j b, L[j]? = some b → ¬ worse p a.2 b.2 i j := by
  cases L with
  | nil => exact absurd rfl hne
  | cons a0 L' =>
    have key : ∀ n, n ≤ L'.length → ∃ i, i ≤ n ∧ (a0 :: L')[i]? = some ((L'.take n).foldl (bestS p) a0) ∧ ∀ j b, j ≤ n → (a0 :: L')[j]? = some b → ¬ worse p ((L'.take n).foldl (bestS p) a0).2 b.2 i j := by
      intro n
      induction n with
      | zero =>
        intro _
        refine ⟨0, by omega, rfl, fun j b hj hb => ?_⟩
        have : j = 0 := by omega
        subst this
        cases hb
        unfold worse
        show ¬(((a0.2 : Int) < p ∧ _) ∨ _)
        simp only [List.take_zero, List.foldl_nil]
        omega
      | succ n ih =>
        intro hn
        obtain ⟨i, h1, h2, h3⟩ := ih (by omega)
        obtain ⟨x, hx⟩ : ∃ x, L'[n]? = some x := ⟨_, List.getElem?_eq_getElem (by omega)⟩
        have hst : (L'.take (n + 1)).foldl (bestS p) a0 = bestS p ((L'.take n).foldl (bestS p) a0) x := by rw [List.take_add_one, hx]; simp
        rw [hst]
        obtain ⟨b, hb⟩ : ∃ b, b = (L'.take n).foldl (bestS p) a0 := ⟨_, rfl⟩
        rw [← hb] at h2 h3 ⊢
        unfold bestS
        split
        · rename_i hnr
          have hnr := near_true hnr
          refine ⟨n + 1, by omega, hx, fun j c hj hc => ?_⟩
          by_cases hjn : j ≤ n
          · have := h3 j c hjn hc
            unfold worse at this ⊢
            omega
          · have : j = n + 1 := by omega
            subst this
            have hc : L'[n]? = some c := hc
            rw [hx] at hc
            cases hc
            unfold worse
            omega
        · rename_i hnr
          have hnr := near_false (by simpa using hnr)
          refine ⟨i, by omega, h2, fun j c hj hc => ?_⟩
          by_cases hjn : j ≤ n
          · exact h3 j c hjn hc
          · have : j = n + 1 := by omega
            subst this
            have hc : L'[n]? = some c := hc
            rw [hx] at hc
            cases hc
            unfold worse
            omega
    obtain ⟨i, h1, h2, h3⟩ := key L'.length (by omega)
    rw [List.take_of_length_le (Nat.le_refl _)] at h2 h3
    refine ⟨i, _, rfl, h2, fun j b hb => h3 j b ?_ hb⟩
    have := (List.getElem?_eq_some_iff.1 hb).1
    simp at this
    omega

end Go.Vabs.Re

namespace Go.Vabs.Rf
set_option linter.unusedVariables false
set_option linter.unusedSimpArgs false
set_option maxRecDepth 10000
def Dupes_c (n_Pick : Nat) (n_Few : Nat) (n_Data : Nat) (n_Sbix : Nat) (n_open : Nat) (n_Find : Nat) (n_known : Nat) : AFunc := AFunc.mk 167 (.seq (.reg [AOper.mk (some (.i (.i (.o .h)))) (.mv (.c (.bool false))) none]) (.seq (.reg [AOper.mk (some (.i (.o (.o (.i .h))))) (.call n_Pick [.t .h, .c (.int .i64 (.ofNat 65536))]) none, AOper.mk (some (.o (.i (.o (.i .h))))) (.bin .sub (.val .int) (.t (.i (.o (.o (.i .h))))) (.c (.int .i64 (.ofNat 32768)))) none, AOper.mk (some .h) (.mv (.t (.o (.i (.o (.i .h)))))) none]) (.seq (.reg [AOper.mk (some (.o (.o (.i (.i .h))))) (.call n_Pick [.t (.o .h), .c (.int .i64 (.ofNat 65536))]) none, AOper.mk (some (.i (.o (.i (.i .h))))) (.bin .sub (.val .int) (.t (.o (.o (.i (.i .h))))) (.c (.int .i64 (.ofNat 32768)))) none, AOper.mk (some (.o .h)) (.mv (.t (.i (.o (.i (.i .h)))))) none]) (.seq (.reg [AOper.mk (some (.i (.i (.i (.i .h))))) (.call n_Pick [.t (.i .h), .c (.int .i64 (.ofNat 3))]) none, AOper.mk (some (.i .h)) (.mv (.t (.i (.i (.i (.i .h)))))) none]) (.seq (.reg [AOper.mk (some (.o (.o (.i .h)))) (.mv (.c (.slice none 0 0 0 true))) none]) (.seq (.seq (.reg [AOper.mk (some (.i (.o (.i .h)))) (.mv (.c (.int .i64 (.ofNat 0)))) none]) (.block 0 (.loop (.seq (.seq (.reg [AOper.mk (some (.i (.o (.o (.o (.o .h)))))) (.bin .lss (.val .int) (.t (.i (.o (.i .h)))) (.c (.int .i64 (.ofNat 2)))) none]) (.cond (.t (.i (.o (.o (.o (.o .h)))))) .skip (.exit 0))) (.seq (.block 1 (.seq (.reg [AOper.mk (some (.i (.o (.i (.o (.o .h)))))) (.bin .add (.val .int) (.t .h) (.c (.int .i64 (.ofNat 0)))) none, AOper.mk (some (.o (.o (.o (.i (.o .h)))))) (.call n_Few [.t (.o (.o .h)), .c (.int .i64 (.ofNat 30))]) none, AOper.mk (some (.o (.i (.o (.i (.o .h)))))) (.conv (.int .u8) (.t (.i (.o (.i .h))))) none, AOper.mk (some (.i (.i (.o (.i (.o .h)))))) (.bslice 1 1 [.int .u8 (.ofNat 0)] [(0, (1, .t (.o (.i (.o (.i (.o .h)))))))]) none, AOper.mk (some (.o (.o (.i (.i (.o .h)))))) (.append 1 1 (.t (.o (.o (.o (.i (.o .h)))))) (.t (.i (.i (.o (.i (.o .h))))))) none, AOper.mk (some (.i (.o (.i (.i (.o .h)))))) (.call n_Data [.t (.i (.o (.i (.o (.o .h))))), .t (.o .h), .c (.str [112, 110, 103, 32]), .t (.o (.o (.i (.i (.o .h)))))]) none, AOper.mk (some (.o (.i (.i (.i (.o .h)))))) (.bslice 1 2 [.int .u8 (.ofNat 0)] [(0, (1, .c (.int .u8 (.ofNat 0)))), (1, (1, .c (.int .u8 (.ofNat 0))))]) none, AOper.mk (some (.i (.i (.i (.i (.o .h)))))) (.call n_Data [.c (.int .i64 (.ofNat 9)), .c (.int .i64 (.ofNat 9)), .c (.str [100, 117, 112, 101]), .t (.o (.i (.i (.i (.o .h)))))]) none, AOper.mk (some (.i (.o (.o (.o (.i .h)))))) (.conv (.int .u8) (.t (.i .h))) none, AOper.mk (some (.o (.i (.o (.o (.i .h)))))) (.bslice 1 2 [.int .u8 (.ofNat 0)] [(0, (1, .c (.int .u8 (.ofNat 0)))), (1, (1, .t (.i (.o (.o (.o (.i .h)))))))]) none, AOper.mk (some (.i (.i (.o (.o (.i .h)))))) (.call n_Data [.c (.int .i64 (.ofNat 7)), .c (.int .i64 (.ofNat 7)), .c (.str [100, 117, 112, 101]), .t (.o (.i (.o (.o (.i .h)))))]) none, AOper.mk (some (.o (.o (.i (.o (.i .h)))))) (.bslice 1 4 [.slice none 0 0 0 true] [(0, (1, .t (.i (.o (.i (.i (.o .h))))))), (1, (1, .c (.slice none 0 0 0 true))), (2, (1, .t (.i (.i (.i (.i (.o .h))))))), (3, (1, .t (.i (.i (.o (.o (.i .h)))))))]) none, AOper.mk (some (.o (.i (.i .h)))) (.mv (.t (.o (.o (.i (.o (.i .h))))))) none]) (.reg [AOper.mk (some (.i (.i (.i (.o (.i .h)))))) (.bin .mul (.val .int) (.c (.int .i64 (.ofNat 20))) (.t (.i (.o (.i .h))))) none, AOper.mk (some (.o (.o (.o (.i (.i .h)))))) (.bin .add (.val .int) (.c (.int .i64 (.ofNat 20))) (.t (.i (.i (.i (.o (.i .h))))))) none, AOper.mk (some (.o (.i (.o (.i (.i .h)))))) (.build [.int .i64 (.ofNat 0), .slice none 0 0 0 true] [(0, (1, .t (.o (.o (.o (.i (.i .h))))))), (1, (1, .t (.o (.i (.i .h)))))]) none, AOper.mk (some (.i (.i (.o (.i (.i .h)))))) (.bslice 2 1 [.int .i64 (.ofNat 0), .slice none 0 0 0 true] [(0, (2, .t (.o (.i (.o (.i (.i .h)))))))]) none, AOper.mk (some (.o (.o (.i (.i (.i .h)))))) (.append 2 32 (.t (.o (.o (.i .h)))) (.t (.i (.i (.o (.i (.i .h))))))) none, AOper.mk (some (.o (.o (.i .h)))) (.mv (.t (.o (.o (.i (.i (.i .h))))))) none]))) (.reg [AOper.mk (some (.i (.i (.o (.o (.o .h)))))) (.bin .add (.val .int) (.t (.i (.o (.i .h)))) (.c (.int .i64 (.ofNat 1)))) none, AOper.mk (some (.i (.o (.i .h)))) (.mv (.t (.i (.i (.o (.o (.o .h))))))) none])))))) (.seq (.reg [AOper.mk (some (.i (.i (.i (.i (.i .h)))))) (.call n_Sbix [.t (.o (.o (.i .h)))]) none, AOper.mk (some (.o (.o (.o (.o (.o (.o .h))))))) (.call n_open [.c (.str [115, 98, 105, 120]), .t (.i (.i (.i (.i (.i .h)))))]) none, AOper.mk (some (.i (.o (.o (.o (.o (.o .h))))))) (.extract (.t (.o (.o (.o (.o (.o (.o .h))))))) 0) none, AOper.mk (some (.o (.i (.o (.o (.o (.o .h))))))) (.extract (.t (.o (.o (.o (.o (.o (.o .h))))))) 1) none, AOper.mk (some (.i (.i (.i .h)))) (.mv (.t (.i (.o (.o (.o (.o (.o .h)))))))) none, AOper.mk (some (.o (.o (.o (.o .h))))) (.mv (.t (.o (.i (.o (.o (.o (.o .h)))))))) none]) (.seq (.reg [AOper.mk (some (.i (.i (.o (.o (.o (.o .h))))))) (.build [.int .i64 (.ofNat 0), .int .i64 (.ofNat 0), .bool false] [(0, (1, .c (.int .i64 (.ofNat 1000)))), (1, (1, .c (.int .i64 (.ofNat 4))))]) none, AOper.mk (some (.i (.o (.o (.o .h))))) (.alloc [.int .i64 (.ofNat 0), .int .i64 (.ofNat 0), .bool false]) none, AOper.mk none (.store 3 (.t (.i (.o (.o (.o .h))))) (.t (.i (.i (.o (.o (.o (.o .h)))))))) none]) (.seq (.reg [AOper.mk (some (.i (.o (.i (.o (.o (.o .h))))))) (.call n_Pick [.t (.i (.o .h)), .c (.int .i64 (.ofNat 60))]) none, AOper.mk (some (.o (.i (.i (.o (.o (.o .h))))))) (.bin .add (.val .int) (.c (.int .i64 (.ofNat 1))) (.t (.i (.o (.i (.o (.o (.o .h)))))))) none, AOper.mk (some (.i (.o .h))) (.mv (.t (.o (.i (.i (.o (.o (.o .h)))))))) none]) (.seq (.reg [AOper.mk (some (.i (.o (.o (.i (.o (.o .h))))))) (.load true 3 (.t (.i (.o (.o (.o .h)))))) none, AOper.mk (some (.i (.i (.o (.i (.o (.o .h))))))) (.call n_Find [.t (.i (.i (.i .h))), .t (.i (.o (.o (.i (.o (.o .h)))))), .t (.i (.o .h)), .c (.int .i64 (.ofNat 0))]) none, AOper.mk (some (.o (.o (.i (.i (.o (.o .h))))))) (.extract (.t (.i (.i (.o (.i (.o (.o .h))))))) 0) none, AOper.mk (some (.i (.o (.i (.i (.o (.o .h))))))) (.extract (.t (.i (.i (.o (.i (.o (.o .h))))))) 1) none, AOper.mk (some (.o (.i (.o (.o .h))))) (.alloc [.int .i64 (.ofNat 0), .int .i64 (.ofNat 0), .int .i64 (.ofNat 0), .slice none 0 0 0 true]) none, AOper.mk none (.store 4 (.t (.o (.i (.o (.o .h))))) (.t (.o (.o (.i (.i (.o (.o .h)))))))) none, AOper.mk (some (.i (.i (.o (.o .h))))) (.mv (.t (.i (.o (.i (.i (.o (.o .h)))))))) none]) (.seq (.reg [AOper.mk (some (.o (.o (.o (.o (.i (.o .h))))))) (.load true 3 (.t (.i (.o (.o (.o .h)))))) none, AOper.mk (some (.o (.i (.o (.o (.i (.o .h))))))) (.call n_Find [.t (.i (.i (.i .h))), .t (.o (.o (.o (.o (.i (.o .h)))))), .t (.i (.o .h)), .c (.int .i64 (.ofNat 3))]) none, AOper.mk (some (.i (.i (.o (.o (.i (.o .h))))))) (.extract (.t (.o (.i (.o (.o (.i (.o .h))))))) 0) none, AOper.mk (some (.o (.o (.i (.o (.i (.o .h))))))) (.extract (.t (.o (.i (.o (.o (.i (.o .h))))))) 1) none, AOper.mk (some (.o (.o (.i (.o .h))))) (.alloc [.int .i64 (.ofNat 0), .int .i64 (.ofNat 0), .int .i64 (.ofNat 0), .slice none 0 0 0 true]) none, AOper.mk none (.store 4 (.t (.o (.o (.i (.o .h))))) (.t (.i (.i (.o (.o (.i (.o .h)))))))) none, AOper.mk (some (.i (.o (.i (.o .h))))) (.mv (.t (.o (.o (.i (.o (.i (.o .h)))))))) none]) (.seq (.reg [AOper.mk (some (.i (.i (.i (.o (.i (.o .h))))))) (.load true 3 (.t (.i (.o (.o (.o .h)))))) none, AOper.mk (some (.i (.o (.o (.i (.i (.o .h))))))) (.call n_Find [.t (.i (.i (.i .h))), .t (.i (.i (.i (.o (.i (.o .h)))))), .t (.i (.o .h)), .c (.int .i64 (.ofNat 2))]) none, AOper.mk (some (.o (.i (.o (.i (.i (.o .h))))))) (.extract (.t (.i (.o (.o (.i (.i (.o .h))))))) 0) none, AOper.mk (some (.i (.i (.o (.i (.i (.o .h))))))) (.extract (.t (.i (.o (.o (.i (.i (.o .h))))))) 1) none, AOper.mk (some (.o (.i (.i (.o .h))))) (.alloc [.int .i64 (.ofNat 0), .int .i64 (.ofNat 0), .int .i64 (.ofNat 0), .slice none 0 0 0 true]) none, AOper.mk none (.store 4 (.t (.o (.i (.i (.o .h))))) (.t (.o (.i (.o (.i (.i (.o .h)))))))) none, AOper.mk (some (.i (.i (.i (.o .h))))) (.mv (.t (.i (.i (.o (.i (.i (.o .h)))))))) none]) (.seq (.seq (.reg [AOper.mk (some (.o (.o (.i (.i (.i (.o .h))))))) (.call n_known []) none, AOper.mk (some (.i (.o (.i (.i (.i (.o .h))))))) (.un .not (.t (.o (.o (.i (.i (.i (.o .h)))))))) none, AOper.mk (some (.o (.i (.i (.i (.i (.o .h))))))) (.mv (.t (.i (.o (.i (.i (.i (.o .h)))))))) none, AOper.mk (some (.o (.o (.o (.o (.o (.i .h))))))) (.bin .neq (.val .int) (.t (.i (.i (.o (.o .h))))) (.c (.int .i64 (.ofNat 0)))) (some (.o (.i (.i (.i (.i (.o .h))))), false)), AOper.mk (some (.i (.o (.o (.o (.o (.i .h))))))) (.pick (.t (.o (.i (.i (.i (.i (.o .h))))))) (.c (.bool true)) (.t (.o (.o (.o (.o (.o (.i .h)))))))) none, AOper.mk (some (.o (.i (.o (.o (.o (.i .h))))))) (.mv (.t (.i (.o (.o (.o (.o (.i .h)))))))) none, AOper.mk (some (.o (.o (.i (.o (.o (.i .h))))))) (.bin .neq (.val .int) (.t (.i (.i (.i (.o .h))))) (.c (.int .i64 (.ofNat 0)))) (some (.o (.i (.o (.o (.o (.i .h))))), false)), AOper.mk (some (.i (.o (.i (.o (.o (.i .h))))))) (.pick (.t (.o (.i (.o (.o (.o (.i .h))))))) (.c (.bool true)) (.t (.o (.o (.i (.o (.o (.i .h)))))))) none, AOper.mk (some (.o (.i (.i (.o (.o (.i .h))))))) (.mv (.t (.i (.o (.i (.o (.o (.i .h)))))))) none, AOper.mk (some (.i (.i (.i (.o (.o (.i .h))))))) (.fieldAddr 0 (.t (.o (.i (.o (.o .h)))))) (some (.o (.i (.i (.o (.o (.i .h))))), false)), AOper.mk (some (.o (.o (.o (.i (.o (.i .h))))))) (.load false 1 (.t (.i (.i (.i (.o (.o (.i .h)))))))) (some (.o (.i (.i (.o (.o (.i .h))))), false)), AOper.mk (some (.o (.i (.o (.i (.o (.i .h))))))) (.bin .neq (.val .int) (.t (.o (.o (.o (.i (.o (.i .h))))))) (.t .h)) (some (.o (.i (.i (.o (.o (.i .h))))), false)), AOper.mk (some (.i (.i (.o (.i (.o (.i .h))))))) (.pick (.t (.o (.i (.i (.o (.o (.i .h))))))) (.c (.bool true)) (.t (.o (.i (.o (.i (.o (.i .h)))))))) none, AOper.mk (some (.o (.o (.i (.i (.o (.i .h))))))) (.mv (.t (.i (.i (.o (.i (.o (.i .h)))))))) none, AOper.mk (some (.i (.o (.i (.i (.o (.i .h))))))) (.fieldAddr 1 (.t (.o (.i (.o (.o .h)))))) (some (.o (.o (.i (.i (.o (.i .h))))), false)), AOper.mk (some (.o (.i (.i (.i (.o (.i .h))))))) (.load false 1 (.t (.i (.o (.i (.i (.o (.i .h)))))))) (some (.o (.o (.i (.i (.o (.i .h))))), false)), AOper.mk (some (.o (.o (.o (.o (.i (.i .h))))))) (.bin .neq (.val .int) (.t (.o (.i (.i (.i (.o (.i .h))))))) (.t (.o .h))) (some (.o (.o (.i (.i (.o (.i .h))))), false)), AOper.mk (some (.i (.o (.o (.o (.i (.i .h))))))) (.pick (.t (.o (.o (.i (.i (.o (.i .h))))))) (.c (.bool true)) (.t (.o (.o (.o (.o (.i (.i .h)))))))) none, AOper.mk (some (.o (.i (.o (.o (.i (.i .h))))))) (.mv (.t (.i (.o (.o (.o (.i (.i .h)))))))) none, AOper.mk (some (.i (.i (.o (.o (.i (.i .h))))))) (.fieldAddr 0 (.t (.o (.i (.i (.o .h)))))) (some (.o (.i (.o (.o (.i (.i .h))))), false)), AOper.mk (some (.o (.o (.i (.o (.i (.i .h))))))) (.load false 1 (.t (.i (.i (.o (.o (.i (.i .h)))))))) (some (.o (.i (.o (.o (.i (.i .h))))), false)), AOper.mk (some (.o (.i (.i (.o (.i (.i .h))))))) (.bin .neq (.val .int) (.t (.o (.o (.i (.o (.i (.i .h))))))) (.t .h)) (some (.o (.i (.o (.o (.i (.i .h))))), false)), AOper.mk (some (.i (.i (.i (.o (.i (.i .h))))))) (.pick (.t (.o (.i (.o (.o (.i (.i .h))))))) (.c (.bool true)) (.t (.o (.i (.i (.o (.i (.i .h)))))))) none, AOper.mk (some (.o (.o (.o (.i (.i (.i .h))))))) (.mv (.t (.i (.i (.i (.o (.i (.i .h)))))))) none, AOper.mk (some (.i (.o (.o (.i (.i (.i .h))))))) (.fieldAddr 1 (.t (.o (.i (.i (.o .h)))))) (some (.o (.o (.o (.i (.i (.i .h))))), false)), AOper.mk (some (.o (.i (.o (.i (.i (.i .h))))))) (.load false 1 (.t (.i (.o (.o (.i (.i (.i .h)))))))) (some (.o (.o (.o (.i (.i (.i .h))))), false)), AOper.mk (some (.o (.o (.i (.i (.i (.i .h))))))) (.bin .neq (.val .int) (.t (.o (.i (.o (.i (.i (.i .h))))))) (.t (.o .h))) (some (.o (.o (.o (.i (.i (.i .h))))), false)), AOper.mk (some (.i (.o (.i (.i (.i (.i .h))))))) (.pick (.t (.o (.o (.o (.i (.i (.i .h))))))) (.c (.bool true)) (.t (.o (.o (.i (.i (.i (.i .h)))))))) none, AOper.mk (some (.o (.i (.i (.i (.i (.i .h))))))) (.mv (.t (.i (.o (.i (.i (.i (.i .h)))))))) none, AOper.mk (some (.i (.i (.i (.i (.i (.i .h))))))) (.fieldAddr 3 (.t (.o (.i (.i (.o .h)))))) (some (.o (.i (.i (.i (.i (.i .h))))), false)), AOper.mk (some (.o (.o (.o (.o (.o (.o (.o .h)))))))) (.load false 1 (.t (.i (.i (.i (.i (.i (.i .h)))))))) (some (.o (.i (.i (.i (.i (.i .h))))), false)), AOper.mk (some (.i (.o (.o (.o (.o (.o (.o .h)))))))) (.conv .toStr (.t (.o (.o (.o (.o (.o (.o (.o .h))))))))) (some (.o (.i (.i (.i (.i (.i .h))))), false)), AOper.mk (some (.o (.i (.o (.o (.o (.o (.o .h)))))))) (.fieldAddr 3 (.t (.o (.i (.o (.o .h)))))) (some (.o (.i (.i (.i (.i (.i .h))))), false)), AOper.mk (some (.i (.i (.o (.o (.o (.o (.o .h)))))))) (.load false 1 (.t (.o (.i (.o (.o (.o (.o (.o .h))))))))) (some (.o (.i (.i (.i (.i (.i .h))))), false)), AOper.mk (some (.o (.o (.i (.o (.o (.o (.o .h)))))))) (.conv .toStr (.t (.i (.i (.o (.o (.o (.o (.o .h))))))))) (some (.o (.i (.i (.i (.i (.i .h))))), false)), AOper.mk (some (.i (.o (.i (.o (.o (.o (.o .h)))))))) (.bin .neq (.val .str) (.t (.i (.o (.o (.o (.o (.o (.o .h)))))))) (.t (.o (.o (.i (.o (.o (.o (.o .h))))))))) (some (.o (.i (.i (.i (.i (.i .h))))), false)), AOper.mk (some (.o (.i (.i (.o (.o (.o (.o .h)))))))) (.pick (.t (.o (.i (.i (.i (.i (.i .h))))))) (.c (.bool true)) (.t (.i (.o (.i (.o (.o (.o (.o .h))))))))) none, AOper.mk (some (.i (.i (.i (.o (.o (.o (.o .h)))))))) (.mv (.t (.o (.i (.i (.o (.o (.o (.o .h))))))))) none, AOper.mk (some (.o (.o (.o (.i (.o (.o (.o .h)))))))) (.fieldAddr 2 (.t (.o (.i (.i (.o .h)))))) (some (.i (.i (.i (.o (.o (.o (.o .h)))))), false)), AOper.mk (some (.i (.o (.o (.i (.o (.o (.o .h)))))))) (.load false 1 (.t (.o (.o (.o (.i (.o (.o (.o .h))))))))) (some (.i (.i (.i (.o (.o (.o (.o .h)))))), false)), AOper.mk (some (.o (.i (.o (.i (.o (.o (.o .h)))))))) (.fieldAddr 2 (.t (.o (.i (.o (.o .h)))))) (some (.i (.i (.i (.o (.o (.o (.o .h)))))), false)), AOper.mk (some (.i (.i (.o (.i (.o (.o (.o .h)))))))) (.load false 1 (.t (.o (.i (.o (.i (.o (.o (.o .h))))))))) (some (.i (.i (.i (.o (.o (.o (.o .h)))))), false)), AOper.mk (some (.o (.o (.i (.i (.o (.o (.o .h)))))))) (.bin .neq (.val .int) (.t (.i (.o (.o (.i (.o (.o (.o .h)))))))) (.t (.i (.i (.o (.i (.o (.o (.o .h))))))))) (some (.i (.i (.i (.o (.o (.o (.o .h)))))), false)), AOper.mk (some (.i (.o (.i (.i (.o (.o (.o .h)))))))) (.pick (.t (.i (.i (.i (.o (.o (.o (.o .h)))))))) (.c (.bool true)) (.t (.o (.o (.i (.i (.o (.o (.o .h))))))))) none]) (.cond (.t (.i (.o (.i (.i (.o (.o (.o .h)))))))) (.seq (.reg [AOper.mk (some (.i (.i (.o .h)))) (.mv (.c (.bool false))) none]) .ret) .skip)) (.seq (.seq (.reg [AOper.mk (some (.o (.i (.i (.i (.o (.o (.o .h)))))))) (.mv (.t (.i .h))) none]) (.block 2 (.seq (.reg [AOper.mk (some (.o (.o (.o (.o (.i (.o (.o .h)))))))) (.bin .eql (.val .int) (.t (.o (.i (.i (.i (.o (.o (.o .h)))))))) (.c (.int .i64 (.ofNat 0)))) none, AOper.mk (some (.i (.i (.i (.i (.o (.o (.o .h)))))))) (.mv (.t (.o (.o (.o (.o (.i (.o (.o .h))))))))) none]) (.cond (.t (.i (.i (.i (.i (.o (.o (.o .h)))))))) (.seq (.reg [AOper.mk (some (.o (.i (.o (.o (.i (.o (.o .h)))))))) (.bin .eql (.val .int) (.t (.i (.o (.i (.o .h))))) (.c (.int .i64 (.ofNat 0)))) none, AOper.mk (some (.i (.i (.o (.o (.i (.o (.o .h)))))))) (.mv (.t (.o (.i (.o (.o (.i (.o (.o .h))))))))) none, AOper.mk (some (.o (.o (.i (.o (.i (.o (.o .h)))))))) (.fieldAddr 0 (.t (.o (.o (.i (.o .h)))))) (some (.i (.i (.o (.o (.i (.o (.o .h)))))), true)), AOper.mk (some (.i (.o (.i (.o (.i (.o (.o .h)))))))) (.load false 1 (.t (.o (.o (.i (.o (.i (.o (.o .h))))))))) (some (.i (.i (.o (.o (.i (.o (.o .h)))))), true)), AOper.mk (some (.i (.i (.i (.o (.i (.o (.o .h)))))))) (.bin .eql (.val .int) (.t (.i (.o (.i (.o (.i (.o (.o .h)))))))) (.t .h)) (some (.i (.i (.o (.o (.i (.o (.o .h)))))), true)), AOper.mk (some (.o (.o (.o (.i (.i (.o (.o .h)))))))) (.pick (.t (.i (.i (.o (.o (.i (.o (.o .h)))))))) (.t (.i (.i (.i (.o (.i (.o (.o .h)))))))) (.c (.bool false))) none, AOper.mk (some (.i (.o (.o (.i (.i (.o (.o .h)))))))) (.mv (.t (.o (.o (.o (.i (.i (.o (.o .h))))))))) none, AOper.mk (some (.o (.i (.o (.i (.i (.o (.o .h)))))))) (.fieldAddr 3 (.t (.o (.o (.i (.o .h)))))) (some (.i (.o (.o (.i (.i (.o (.o .h)))))), true)), AOper.mk (some (.i (.i (.o (.i (.i (.o (.o .h)))))))) (.load false 1 (.t (.o (.i (.o (.i (.i (.o (.o .h))))))))) (some (.i (.o (.o (.i (.i (.o (.o .h)))))), true)), AOper.mk (some (.o (.o (.i (.i (.i (.o (.o .h)))))))) (.conv .toStr (.t (.i (.i (.o (.i (.i (.o (.o .h))))))))) (some (.i (.o (.o (.i (.i (.o (.o .h)))))), true)), AOper.mk (some (.i (.o (.i (.i (.i (.o (.o .h)))))))) (.fieldAddr 3 (.t (.o (.i (.o (.o .h)))))) (some (.i (.o (.o (.i (.i (.o (.o .h)))))), true)), AOper.mk (some (.o (.i (.i (.i (.i (.o (.o .h)))))))) (.load false 1 (.t (.i (.o (.i (.i (.i (.o (.o .h))))))))) (some (.i (.o (.o (.i (.i (.o (.o .h)))))), true)), AOper.mk (some (.i (.i (.i (.i (.i (.o (.o .h)))))))) (.conv .toStr (.t (.o (.i (.i (.i (.i (.o (.o .h))))))))) (some (.i (.o (.o (.i (.i (.o (.o .h)))))), true)), AOper.mk (some (.o (.o (.o (.o (.o (.i (.o .h)))))))) (.bin .eql (.val .str) (.t (.o (.o (.i (.i (.i (.o (.o .h)))))))) (.t (.i (.i (.i (.i (.i (.o (.o .h))))))))) (some (.i (.o (.o (.i (.i (.o (.o .h)))))), true)), AOper.mk (some (.i (.o (.o (.o (.o (.i (.o .h)))))))) (.pick (.t (.i (.o (.o (.i (.i (.o (.o .h)))))))) (.t (.o (.o (.o (.o (.o (.i (.o .h)))))))) (.c (.bool false))) none, AOper.mk (some (.i (.i (.o .h)))) (.mv (.t (.i (.o (.o (.o (.o (.i (.o .h))))))))) none]) .ret) (.seq (.reg [AOper.mk (some (.i (.i (.o (.o (.o (.i (.o .h)))))))) (.bin .eql (.val .int) (.t (.o (.i (.i (.i (.o (.o (.o .h)))))))) (.c (.int .i64 (.ofNat 1)))) none, AOper.mk (some (.o (.i (.o (.o (.o (.i (.o .h)))))))) (.mv (.t (.i (.i (.o (.o (.o (.i (.o .h))))))))) none]) (.cond (.t (.o (.i (.o (.o (.o (.i (.o .h)))))))) (.seq (.reg [AOper.mk (some (.i (.o (.i (.o (.o (.i (.o .h)))))))) (.bin .eql (.val .int) (.t (.i (.o (.i (.o .h))))) (.c (.int .i64 (.ofNat 6)))) none, AOper.mk (some (.i (.i (.o .h)))) (.mv (.t (.i (.o (.i (.o (.o (.i (.o .h))))))))) none]) .ret) .skip)))))) (.seq (.reg [AOper.mk (some (.i (.i (.i (.o (.o (.i (.o .h)))))))) (.bin .eql (.val .int) (.t (.i (.o (.i (.o .h))))) (.c (.int .i64 (.ofNat 2)))) none, AOper.mk (some (.i (.i (.o .h)))) (.mv (.t (.i (.i (.i (.o (.o (.i (.o .h))))))))) none]) .ret))))))))))))))) [.tmp (.i (.i (.o .h)))]

attribute [local simp] wp_skip wp_ret wp_exit wp_reg wp_seq wp_cond wp_block thenQ_normal thenQ_ret thenQ_exit blockQ_normal blockQ_ret blockQ_exit wpCond_true wpCond_false wpOps_nil wpVal_some wpGuard_true wpGuard_false wpOps_guard wpOps_cons
  put_at put_no ev_c ev_slot posEq_h posEq_o posEq_i posEq_ho posEq_hi posEq_oh posEq_ih posEq_oi posEq_io sel_true sel_false
  okv_some step_mv step_call step_pick pickV_bool step_bin bin_add bin_sub bin_mul bin_eql bin_neq bin_lss bin_leq bin_gtr bin_geq bin_eqb bin_neb bin_eqs bin_nes step_un un_not un_neg step_len len_slice len_str len_const step_extract extractV nth step_convInt conv_int step_convStr step_slice step_idxAddr natOf_nat step_load step_index step_field step_fieldAddr step_build step_minmax
  step_alloc step_bslice bsliceV_some newV_some step_store step_append boolIs_b boolIs_t finQ_ret finQ_normal ressE_nil ressE_cons resE_tmp consO_some initE_nil initE_cons pos_0 pos_1 pos_2 pos_3 pos_4 pos_5 pos_6 pos_7 pos_8 plain_bool plain_int plain_str plain_ptr plain_slice plain_map plain_agg plain_func plain_nilFunc V.undef oneOf_one oneOf_two ble_self
open Go.Vabs.Pk Go.Vabs.Ph Go.Vabs.Sa Go.Vabs.Sb Go.Vabs.Sc Go.Vabs.Sd Go.Vabs.Se Go.Vabs.Sg Go.Vabs.Sh Go.Vabs.Sm Go.Vabs.Sn Go.Vabs.Sp Go.Vabs.Sr Go.Vabs.St Go.Vabs.Su Go.Vabs.L2 Go.Vabs.Na Go.Vabs.Nb Go.Vabs.Ra Go.Vabs.Rb Go.Vabs.Rc Go.Vabs.Rd Go.Vabs.Re
attribute [local simp] step_nilchk nilchk_ptr step_box cells_int cells_bool cells_str cells_slice cells_ptr cells_agg fieldAddrV natOf_zero fill repN splice over newV step_appendZ
  wp_dreg wpDs_nil wpDs_cons wantedE_none wantedE_some wpDGuard_true wpDGuard_lim wpDGuard_false wpDLim_true wpDVal_free wpDVal_lim back_limited next_limited limF_dir foot_load foot_convStr okAll_nil okAll_cons pastsOf nthP ahead few_next load_limited convStr_limited blt_dec okPair_dd okPair_dc okPair_cd okPair_cc anyIn_nil anyIn_same anyIn_cons meets_nil meets_nil'
theorem growPairs {os : List (Option AObj)} {q n : Nat} {vs : List V} {a b : V} (hn : vs.length = n * 2) (hs : n ≤ 64) (h : n ≠ 0 → (os[q]?).join = some (.cells true vs)) :
    appendV (few os) 2 32 (pairS q n) (some 1) (some [a, b]) = some (.slice (some (os.length, 0)) 2 (n + 1) (n + 1) false, few (Sp.setK n os q ++ [some (AObj.cells true (vs ++ [a, b]))])) := by
  unfold pairS
  split
  · rename_i h0
    subst h0
    have : vs = [] := List.length_eq_zero_iff.1 (by simpa using hn)
    subst this
    rw [grow_none, if_pos (by simp)]
    rfl
  · rename_i h0
    have ho : ownAt os q = some vs := by rw [ownAt_eq, h h0]
    rw [grow_some, ho, growC_some, if_pos ⟨by omega, rfl, by omega⟩]
    unfold Sp.setK
    rw [if_neg h0]
/-- A slot of a strike's data. -/
def SlotAt (os : List (Option AObj)) (N r : Nat) (w : V) (b : List Nat) : Prop := (w = .slice none 0 0 0 true ∧ b = []) ∨ ∃ p, w = .slice (some (p, 0)) 1 b.length b.length false ∧ N ≤ p ∧ p ≠ r ∧ (os[p]?).join = some (newBytes b)
def RowX (os : List (Option AObj)) (N r q : Nat) (ts : List (List Nat)) : Prop := ts ≠ [] → N ≤ q ∧ q ≠ r ∧ ∃ ws, (os[q]?).join = some (.cells true ws) ∧ ws.length = ts.length ∧ ∀ (j : Nat) (w : V) (b : List Nat), ws[j]? = some w → ts[j]? = some b → SlotAt os N r w b
theorem RowX.rows {os : List (Option AObj)} {N r q : Nat} {ts : List (List Nat)} (h : RowX os N r q ts) (hb : ∀ t ∈ ts, ∀ b ∈ t, b < 256) : RowsB os q ts := by
  refine ⟨fun hne => ?_⟩
  obtain ⟨_, _, ws, h1, h2, h3⟩ := h hne
  refine ⟨true, ws, h1, h2, fun j w b hw hb' => ?_⟩
  rcases h3 j w b hw hb' with ⟨rfl, rfl⟩ | ⟨p, rfl, _, _, h4⟩
  · exact ⟨rfl, rfl⟩
  · exact lookB_own h4 (hb b (List.mem_of_getElem? hb'))
theorem RowX.move {os os' : List (Option AObj)} {N r r' q : Nat} {ts : List (List Nat)} (h : RowX os N r q ts) (hr : os.length ≤ r') (he : ∀ i, i < os.length → i ≠ r → (os'[i]?).join = (os[i]?).join) : RowX os' N r' q ts := fun hne => by
  obtain ⟨g1, g2, ws, h1, h2, h3⟩ := h hne
  have hq := join_lt h1
  refine ⟨g1, by omega, ws, by rw [he q hq g2]; exact h1, h2, fun j w b hw hb => ?_⟩
  rcases h3 j w b hw hb with h | ⟨p, rfl, p1, p2, p3⟩
  · exact .inl h
  · have hp := join_lt p3
    exact .inr ⟨p, rfl, p1, by omega, by rw [he p hp p2]; exact p3⟩
theorem RowX.keep {os os' : List (Option AObj)} {N r q : Nat} {ts : List (List Nat)} (h : RowX os N r q ts) (he : ∀ i, i < os.length → (os'[i]?).join = (os[i]?).join) : RowX os' N r q ts := fun hne => by
  obtain ⟨g1, g2, ws, h1, h2, h3⟩ := h hne
  have hq := join_lt h1
  refine ⟨g1, g2, ws, by rw [he q hq]; exact h1, h2, fun j w b hw hb => ?_⟩
  rcases h3 j w b hw hb with h | ⟨p, rfl, p1, p2, p3⟩
  · exact .inl h
  · exact .inr ⟨p, rfl, p1, p2, by rw [he p (join_lt p3)]; exact p3⟩
/-- Strikes that are being laid down. -/
structure StkRack (N : Nat) (os0 os : List (Option AObj)) (r : Nat) (l : List Stk) : Prop where
  old : ∀ i, i < N → (os[i]?).join = (os0[i]?).join
  le : N ≤ os.length
  tb : l ≠ [] → N ≤ r ∧ ∃ vs, (os[r]?).join = some (.cells true vs) ∧ vs.length = l.length * 2 ∧ ∀ (j : Nat) (s : Stk), l[j]? = some s → vs[j * 2]? = some (.int .i64 (s.1 : Int)) ∧ ∃ q f, vs[j * 2 + 1]? = some (slT f q s.2.length) ∧ RowX os N r q s.2
theorem StkRack.start {os : List (Option AObj)} : StkRack os.length os os 0 [] := ⟨fun _ _ => rfl, Nat.le_refl _, fun h => absurd rfl h⟩
theorem StkRack.keep {N : Nat} {os0 os os' : List (Option AObj)} {r : Nat} {l : List Stk} (h : StkRack N os0 os r l) (he : ∀ i, i < os.length → (os'[i]?).join = (os[i]?).join) (hl : os.length ≤ os'.length) : StkRack N os0 os' r l :=
  ⟨fun i hi => by rw [he i (by have := h.le; omega), h.old i hi], by have := h.le; omega, fun hne => by
    obtain ⟨g1, vs, g2, g3, g4⟩ := h.tb hne
    refine ⟨g1, vs, by rw [he r (join_lt g2)]; exact g2, g3, fun j s hs => ?_⟩
    obtain ⟨k1, q, f, k2, k3⟩ := g4 j s hs
    exact ⟨k1, q, f, k2, k3.keep he⟩⟩
theorem StkRack.at_ {N : Nat} {os0 os : List (Option AObj)} {r : Nat} {l : List Stk} (h : StkRack N os0 os r l) (hl : ∀ s ∈ l, StkOk s) : StkAt os (pairS r l.length) l := by
  refine ⟨fun h0 => by rw [h0]; rfl, fun hne => ?_⟩
  obtain ⟨_, vs, g2, g3, g4⟩ := h.tb hne
  have h0 : l.length ≠ 0 := fun h0 => hne (List.length_eq_zero_iff.1 h0)
  refine ⟨r, true, vs, if_neg h0, g2, fun j s hs => ?_⟩
  obtain ⟨k1, q, f, k2, k3⟩ := g4 j s hs
  exact ⟨k1, q, f, k2, k3.rows fun t ht => ((hl s (List.mem_of_getElem? hs)).each t ht).2⟩
/-- One strike more. -/
theorem StkRack.next {N : Nat} {os0 X X5 : List (Option AObj)} {r q : Nat} {f : Bool} {l : List Stk} {s : Stk} (h : StkRack N os0 X r l) (hk : l.length ≤ 64) (he : ∀ i, i < X.length → (X5[i]?).join = (X[i]?).join) (hl : X.length ≤ X5.length)
    (hq : RowX X5 X.length X5.length q s.2) :
    ∃ X6, appendV (few X5) 2 32 (pairS r l.length) (some 1) (some [V.int .i64 (s.1 : Int), slT f q s.2.length]) = some (.slice (some (X5.length, 0)) 2 (l.length + 1) (l.length + 1) false, few X6) ∧ StkRack N os0 X6 X5.length (l ++ [s]) ∧ X6.length = X5.length + 1 := by
  have h5 := h.keep he hl
  have hle := h.le
  obtain ⟨vs, hvs, hvl⟩ : ∃ vs, (l.length ≠ 0 → (X5[r]?).join = some (.cells true vs)) ∧ vs.length = l.length * 2 := by
    by_cases h0 : l = []
    · exact ⟨[], fun h => absurd (by rw [h0]; rfl) h, by rw [h0]; rfl⟩
    · obtain ⟨_, vs, g2, g3, _⟩ := h5.tb h0
      exact ⟨vs, fun _ => g2, g3⟩
  have hrX : l.length ≠ 0 → r < X.length := fun h0 => by
    obtain ⟨_, vs, g2, _⟩ := h.tb (fun e => h0 (by rw [e]; rfl))
    exact join_lt g2
  have hrN : l.length ≠ 0 → N ≤ r := fun h0 => (h.tb (fun e => h0 (by rw [e]; rfl))).1
  obtain ⟨X6, hX6⟩ : ∃ X6, X6 = Sp.setK l.length X5 r ++ [some (AObj.cells true (vs ++ [V.int .i64 (s.1 : Int), slT f q s.2.length]))] := ⟨_, rfl⟩
  have e6 : X6.length = X5.length + 1 := by rw [hX6]; simp [Sp.setK_len]
  have k6 : ∀ i, i < X5.length → (l.length ≠ 0 → i ≠ r) → (X6[i]?).join = (X5[i]?).join := fun i hi hr => by rw [hX6, join_app (by rw [Sp.setK_len]; omega), Sp.setK_at hr]
  refine ⟨X6, by rw [hX6]; exact growPairs hvl hk hvs, ⟨fun i hi => ?_, by omega, fun _ => ⟨by omega, vs ++ [V.int .i64 (s.1 : Int), slT f q s.2.length], ?_, by simp [hvl]; omega, fun j t ht => ?_⟩⟩, e6⟩
  · rw [k6 i (by omega) (fun h0 => by have := hrN h0; omega), h5.old i hi]
  · rw [hX6, List.getElem?_append_right (by rw [Sp.setK_len]; exact Nat.le_refl _), Sp.setK_len, Nat.sub_self]
    rfl
  · by_cases hj : j < l.length
    · rw [List.getElem?_append_left hj] at ht
      have h0 : l.length ≠ 0 := by omega
      obtain ⟨_, vs', g2, g3, g4⟩ := h5.tb (fun e => h0 (by rw [e]; rfl))
      have : vs' = vs := by
        rw [hvs h0] at g2
        injection g2 with g2
        injection g2 with _ g2
        exact g2.symm
      subst this
      obtain ⟨k1, q', f', k2, k3⟩ := g4 j t ht
      exact ⟨by rw [List.getElem?_append_left (by omega)]; exact k1, q', f', by rw [List.getElem?_append_left (by omega)]; exact k2, k3.move (Nat.le_refl _) fun i hi hr => k6 i hi fun _ => hr⟩
    · have hj' : j = l.length := by
        have := (List.getElem?_eq_some_iff.1 ht).1
        rw [List.length_append] at this
        simp at this
        omega
      subst hj'
      rw [List.getElem?_append_right (Nat.le_refl _), Nat.sub_self] at ht
      cases ht
      refine ⟨by rw [List.getElem?_append_right (by omega), hvl, Nat.sub_self]; rfl, q, f, by rw [List.getElem?_append_right (by omega), hvl, show l.length * 2 + 1 - l.length * 2 = 1 from by omega]; rfl, ?_⟩
      intro hne
      obtain ⟨g1, g2, ws, h1, h2, h3⟩ := hq hne
      have hqX := join_lt h1
      refine ⟨by omega, g2, ws, by rw [k6 q hqX (fun h0 => by have := hrX h0; omega)]; exact h1, h2, fun j w b hw hb => ?_⟩
      rcases h3 j w b hw hb with h | ⟨p, rfl, p1, p2, p3⟩
      · exact .inl h
      · exact .inr ⟨p, rfl, by omega, p2, by rw [k6 p (join_lt p3) (fun h0 => by have := hrX h0; omega)]; exact p3⟩
/- THE RUN -/
theorem tPng_lt : ∀ c ∈ tPng, c < 256 := by decide
end Go.Vabs.Rf

namespace Go.Vabs.Rg
set_option linter.unusedVariables false
set_option linter.unusedSimpArgs false
set_option maxRecDepth 10000
attribute [local simp] wp_skip wp_ret wp_exit wp_reg wp_seq wp_cond wp_block thenQ_normal thenQ_ret thenQ_exit blockQ_normal blockQ_ret blockQ_exit wpCond_true wpCond_false wpOps_nil wpVal_some wpGuard_true wpGuard_false wpOps_guard wpOps_cons
  put_at put_no ev_c ev_slot posEq_h posEq_o posEq_i posEq_ho posEq_hi posEq_oh posEq_ih posEq_oi posEq_io sel_true sel_false
  okv_some step_mv step_call step_pick pickV_bool step_bin bin_add bin_sub bin_mul bin_eql bin_neq bin_lss bin_leq bin_gtr bin_geq bin_eqb bin_neb bin_eqs bin_nes step_un un_not un_neg step_len len_slice len_str len_const step_extract extractV nth step_convInt conv_int step_convStr step_slice step_idxAddr natOf_nat step_load step_index step_field step_fieldAddr step_build step_minmax
  step_alloc step_bslice bsliceV_some newV_some step_store step_append boolIs_b boolIs_t finQ_ret finQ_normal ressE_nil ressE_cons resE_tmp consO_some initE_nil initE_cons pos_0 pos_1 pos_2 pos_3 pos_4 pos_5 pos_6 pos_7 pos_8 plain_bool plain_int plain_str plain_ptr plain_slice plain_map plain_agg plain_func plain_nilFunc V.undef oneOf_one oneOf_two ble_self
open Go.Vabs.Pk Go.Vabs.Ph Go.Vabs.Sa Go.Vabs.Sb Go.Vabs.Sc Go.Vabs.Sd Go.Vabs.Se Go.Vabs.Sg Go.Vabs.Sh Go.Vabs.Sm Go.Vabs.Sn Go.Vabs.Sp Go.Vabs.Sr Go.Vabs.St Go.Vabs.Su Go.Vabs.L2 Go.Vabs.Na Go.Vabs.Nb Go.Vabs.Ra Go.Vabs.Rb Go.Vabs.Rc Go.Vabs.Rd Go.Vabs.Re Go.Vabs.Rf
attribute [local simp] step_nilchk nilchk_ptr step_box cells_int cells_bool cells_str cells_slice cells_ptr cells_agg fieldAddrV natOf_zero fill repN splice over newV step_appendZ
  wp_dreg wpDs_nil wpDs_cons wantedE_none wantedE_some wpDGuard_true wpDGuard_lim wpDGuard_false wpDLim_true wpDVal_free wpDVal_lim back_limited next_limited limF_dir foot_load foot_convStr okAll_nil okAll_cons pastsOf nthP ahead few_next load_limited convStr_limited blt_dec okPair_dd okPair_dc okPair_cd okPair_cc anyIn_nil anyIn_same anyIn_cons meets_nil meets_nil'
/- BYTES OF ANY NUMBER -/
def mZ (a : Int) (z : Nat) : Nat := (a % ((256 ^ z : Nat) : Int)).toNat
def m16 (a : Int) : Nat := (a % 65536).toNat
theorem shr_z {eq : EqKind} {a : Int} {m : Nat} {x : Int} (hx : x = (m : Int)) (hm : m ≤ 63) : binV .shr eq (.int .i64 a) (.int .u64 x) = some (.int .i64 (Int.fdiv a ((2 ^ m : Nat) : Int))) := by
  subst hx
  refine (bin_shr (n := m)).trans ?_
  rw [show Nat.ble m (bitsOf .i64) = true from ble_t (show m ≤ 64 by omega)]
  rfl
theorem byte_z {a : Int} {j z : Nat} (h : j < z) : wrapV .u8 (Int.fdiv a ((2 ^ (8 * j) : Nat) : Int)) = ((mZ a z / 256 ^ j % 256 : Nat) : Int) := by
  have h1 : wrapV .u8 (Int.fdiv a ((2 ^ (8 * j) : Nat) : Int)) = Int.fdiv a ((2 ^ (8 * j) : Nat) : Int) % 256 := by rw [wrapV_eq]; rfl
  rw [h1, Nat.pow_mul, Int.fdiv_eq_ediv_of_nonneg _ (Int.natCast_nonneg _)]
  show a / ((256 ^ j : Nat) : Int) % 256 = _
  obtain ⟨d, rfl⟩ : ∃ d, z = j + 1 + d := ⟨z - j - 1, by omega⟩
  have hp : (0 : Int) < ((256 ^ j : Nat) : Int) := by have := Nat.pow_pos (n := j) (show 0 < 256 by omega); omega
  have hz : ((256 ^ (j + 1 + d) : Nat) : Int) = ((256 ^ j : Nat) : Int) * (256 * ((256 ^ d : Nat) : Int)) := by
    rw [Nat.pow_add, Nat.pow_add, Nat.pow_one]
    push_cast
    rw [Int.mul_assoc]
  have hpz : (0 : Int) < ((256 ^ (j + 1 + d) : Nat) : Int) := by have := Nat.pow_pos (n := j + 1 + d) (show 0 < 256 by omega); omega
  have hr : ((mZ a (j + 1 + d) : Nat) : Int) = a % ((256 ^ (j + 1 + d) : Nat) : Int) := by
    unfold mZ
    exact Int.toNat_of_nonneg (Int.emod_nonneg _ (by omega))
  have ha := Int.emod_add_mul_ediv a ((256 ^ (j + 1 + d) : Nat) : Int)
  rw [← hr, hz, Int.mul_assoc, Int.mul_assoc] at ha
  rw [show a / ((256 ^ j : Nat) : Int) = ((mZ a (j + 1 + d) : Nat) : Int) / ((256 ^ j : Nat) : Int) + 256 * (((256 ^ d : Nat) : Int) * (a / (((256 ^ j : Nat) : Int) * (256 * ((256 ^ d : Nat) : Int))))) from by
    conv => lhs; rw [← ha]
    rw [Int.add_mul_ediv_left _ _ (by omega)]]
  rw [Int.add_mul_emod_self_left]
  rfl
theorem BigZ_run {call : CallT} {lf z : Nat} {a : Int} (hlf : 10 ≤ lf) (hz : z ≤ 8) (hz0 : 0 < z) : ∃ os p, enterF call lf [.int .i64 a, .int .i64 (z : Int)] (few []) Big_c = some (.slice (some (p, 0)) 1 z z false, few os) ∧ (os[p]?).join = some (newBytes (bigB (mZ a z) z)) := by
  have main := enter_wp (call := call) (lf := lf) (n := 23) (args := [.int .i64 a, .int .i64 (z : Int)]) (st := few []) (K := fun v st => ∃ os p, v = .slice (some (p, 0)) 1 z z false ∧ st = few os ∧ (os[p]?).join = some (newBytes (bigB (mZ a z) z))) (c := Big_c.code) (rs := Big_c.results) ?_
  · obtain ⟨v, st', h1, os, p, rfl, rfl, h2⟩ := main
    exact ⟨os, p, h1, h2⟩
  · unfold Big_c
    dsimp only
    simp (disch := omega) [wrap_i]
    refine wp_loop (fun k s st => ∃ os p x, st = few os ∧ k ≤ z ∧ x = (k : Int) - 1 ∧ s .h = .int .i64 a ∧ s (.i (.i .h)) = .int .i64 x ∧ (k = z → s (.o (.i .h)) = .slice none 0 0 0 true) ∧ (k < z → s (.o (.i .h)) = .slice (some (p, 0)) 1 (z - k) (z - k) false ∧ (os[p]?).join = some (newBytes ((bigB (mZ a z) z).take (z - k))))) z ?_ (by omega) ?_
    · refine ⟨[], 0, (z : Int) - 1, rfl, Nat.le_refl _, rfl, ?_, ?_, ?_, ?_⟩ <;> simp
    · rintro k s st ⟨os, p, x, rfl, hk, hx, s1, s2, s3, s4⟩
      cases k with
      | zero =>
        obtain ⟨s4, s5⟩ := s4 hz0
        simp (disch := omega) [s1, s2, s4, dle_f]
        rw [Nat.sub_zero, List.take_of_length_le (by rw [bigB_len]; omega)] at s5
        exact ⟨os, rfl, s5⟩
      | succ j =>
        have hx' : x = (j : Int) := by omega
        obtain ⟨d, hd⟩ : ∃ d, d = Int.fdiv a ((2 ^ (8 * j) : Nat) : Int) := ⟨_, rfl⟩
        have hsh : binV .shr (.val .int) (.int .i64 a) (.int .u64 (8 * x)) = some (.int .i64 d) := by rw [hd]; exact shr_z (by omega) (by omega)
        have hat := bigB_at (mZ a z) z j (by omega)
        obtain ⟨b, hb⟩ : ∃ b, b = mZ a z / 256 ^ j % 256 := ⟨_, rfl⟩
        have hw8 : wrapV .u8 d = (b : Int) := by rw [hb, hd]; exact byte_z (by omega)
        rw [← hb] at hat
        obtain ⟨A, hA⟩ : ∃ A, A = os ++ [some (AObj.cells true [V.int .u8 (b : Int)])] := ⟨_, rfl⟩
        have hfi : firstN (few A) 1 1 (.slice (some (os.length, 0)) 1 1 1 true) = some (bytesV [b]) := first_own (bs := [b]) (by rw [hA]; simp [newBytes, bytesV])
        have hal : (few os).alloc (AObj.cells true [V.int .u8 (b : Int)]) = some (os.length, few A) := by rw [hA]; exact few_alloc _ _
        rcases Nat.lt_or_ge (j + 1) z with hlt | hge
        · obtain ⟨s5, s6⟩ := s4 hlt
          have hp := join_lt s6
          have hAp : (A[p]?).join = some (newBytes ((bigB (mZ a z) z).take (z - (j + 1)))) := by rw [hA, join_app hp]; exact s6
          obtain ⟨p', os', hgr, hG⟩ := growB (nb := [b]) hAp (by simp; omega)
          have htl : ((bigB (mZ a z) z).take (z - (j + 1))).length = z - (j + 1) := by rw [List.length_take, bigB_len]; omega
          rw [htl] at hgr
          have hne : ((bigB (mZ a z) z).take (z - (j + 1))) ++ [b] = (bigB (mZ a z) z).take (z - j) := by
            rw [show z - j = z - (j + 1) + 1 from by omega, List.take_add_one, hat]; rfl
          rw [hne] at hG
          have hgr : appendV (few A) 1 1 (.slice (some (p, 0)) 1 (z - (j + 1)) (z - (j + 1)) false) (some 1) (some (bytesV [b])) = some (.slice (some (p', 0)) 1 (z - j) (z - j) false, few os') := by
            rw [show z - j = z - (j + 1) + 1 from by omega]; exact hgr
          simp (disch := omega) [s1, s2, s5, dle_t, wrap_i, wrap_u64P, hsh, hw8, hal, lenOf, firstNo, hfi, hgr]
          exact ⟨j, by omega, os', rfl, by omega, hx', by omega, p', fun _ => ⟨⟨rfl, rfl⟩, hG.at'⟩⟩
        · have hz' : j + 1 = z := by omega
          have s5 := s3 hz'
          have hgr : appendV (few A) 1 1 (.slice none 0 0 0 true) (some 1) (some (bytesV [b])) = some (.slice (some (A.length, 0)) 1 1 1 false, few (A ++ [some (.cells true (bytesV [b]))])) := by
            rw [grow_none, if_pos (by simp [bytesV])]
          simp (disch := omega) [s1, s2, s5, dle_t, wrap_i, wrap_u64P, hsh, hw8, hal, lenOf, firstNo, hfi, hgr]
          refine ⟨j, by omega, _, rfl, by omega, hx', by omega, A.length, fun _ => ⟨⟨rfl, by omega⟩, ?_⟩⟩
          rw [show z - (j + 1) = 0 from by omega] at hat
          rw [show z - j = 0 + 1 from by omega, List.take_add_one, hat]
          simp [newBytes]


noncomputable def bigZS : List V → Option Ans
  | [.int .i64 n, .int .i64 z] => if 0 < z ∧ z ≤ 8 then some ([newBytes (bigB (mZ n z.toNat) z.toNat)], fun k => .slice (some (k, 0)) 1 z.toNat z.toNat false) else none
  | _ => none
theorem BigZ_sound {P : Program} {call : CallT} (hmix : P.follows .mixedOrders = true) (hs : Sound P call) {g : Nat} (hc : compF P g = some Big_c) : Sound P (withL call g (lawOf (flatRd bigZS))) := by
  refine hs.flat hmix 10 hc fun args new f hx => ?_
  unfold bigZS at hx
  split at hx
  · rename_i n z
    split at hx
    · rename_i hnz
      cases hx
      obtain ⟨os, p, h1, h2⟩ := BigZ_run (call := call) (lf := 10) (a := n) (z := z.toNat) (by omega) (by omega) (by omega)
      rw [show ((z.toNat : Nat) : Int) = z from by omega] at h1
      exact ⟨_, _, [p], h1, fun k => Left.cells bytesV_flat (Nat.le_refl _) (Nat.zero_le _) (by rw [few_heap]; exact h2)⟩
    · cases hx
  · cases hx
def BigZF (call : CallT) (g : Nat) : Prop := ∀ os (n : Int) (z : Nat), 0 < z → z ≤ 8 → call g [.int .i64 n, .int .i64 (z : Int)] (few os) = some (.slice (some (os.length, 0)) 1 z z false, few (os ++ [some (newBytes (bigB (n % ((256 ^ z : Nat) : Int)).toNat z))]))
theorem bigz_fact {call : CallT} {g : Nat} : BigZF (withL call g (lawOf (flatRd bigZS))) g := by
  intro os n z h1 h2
  rw [flat_call rfl]
  unfold bigZS
  dsimp only
  rw [if_pos (by omega), Int.toNat_natCast]
  exact lawOut_one
theorem bigB_mod {n w : Nat} : ∀ z, z ≤ w → bigB (n % 256 ^ w) z = bigB n z
  | 0, _ => rfl
  | z + 1, h => by
    show n % 256 ^ w / 256 ^ z % 256 :: bigB (n % 256 ^ w) z = n / 256 ^ z % 256 :: bigB n z
    rw [bigB_mod z (by omega)]
    congr 1
    obtain ⟨d, rfl⟩ : ∃ d, w = z + 1 + d := ⟨w - z - 1, by omega⟩
    rw [Nat.pow_add, Nat.pow_add, Nat.pow_one, Nat.mul_assoc, Nat.mod_mul_right_div_self, Nat.mod_mul_right_mod]
theorem BigZF.nat {call : CallT} {g : Nat} (h : BigZF call g) : BigF call g := fun os n z h1 h2 => by
  rw [h os n z h1 h2]
  have : ((n : Int) % ((256 ^ z : Nat) : Int)).toNat = n % 256 ^ z := by rw [← Int.natCast_emod, Int.toNat_natCast]
  rw [this, bigB_mod z (Nat.le_refl _)]
theorem BigZF.other {call : CallT} {n g : Nat} {l : List V → St → Option (V × St)} (h : BigZF call n) (hne : n ≠ g) : BigZF (withL call g l) n := fun os a z h1 h2 => by rw [withL_other hne]; exact h os a z h1 h2
theorem BigZF.withF {call : CallT} {n g lf : Nat} {fn : AFunc} (h : BigZF call n) (hne : n ≠ g) : BigZF (Vabs.withF call g lf fn) n := fun os a z h1 h2 => by rw [withF_other hne]; exact h os a z h1 h2
theorem BigZF.wrap {base : CallT} {g lf nB : Nat} (hB : BigZF base nB) : BigZF (Vabs.withF base g lf (big_c nB)) g := fun os n z h1 h2 => by
  rw [withF_same]
  have e := hB os n z h1 h2
  refine enter_eq ?_
  simp [e]
def DataZF (call : CallT) (g : Nat) : Prop := ∀ os (x y : Int) tag w b, tag.length = 4 → bytesAt (few os) w = some b → b.length ≤ 4096 →
  ∃ p os', call g [.int .i64 x, .int .i64 y, .str tag, w] (few os) = some (.slice (some (p, 0)) 1 (8 + b.length) (8 + b.length) false, few os') ∧ (∀ i, i < os.length → (os'[i]?).join = (os[i]?).join) ∧ os.length ≤ os'.length ∧ os.length ≤ p ∧ (os'[p]?).join = some (newBytes (dataB (m16 x) (m16 y) tag b))
theorem DataZF.code {base : CallT} {g lf nB : Nat} (hB : BigZF base nB) : DataZF (Vabs.withF base g lf (Data_c nB)) g := fun os X Y tag w b ht hw hb => by
  obtain ⟨x, hx⟩ : ∃ x, x = m16 X := ⟨_, rfl⟩
  obtain ⟨y, hy⟩ : ∃ y, y = m16 Y := ⟨_, rfl⟩
  rw [← hx, ← hy]
  rw [withF_same]
  obtain ⟨N, hN⟩ : ∃ N, N = os.length := ⟨_, rfl⟩
  have F0 := Files.start (os := os)
  have b1 := hB os X 2 (by omega) (by omega)
  rw [show (X % ((256 ^ 2 : Nat) : Int)).toNat = x from hx.symm] at b1
  have F1 := F0.new (bigB x 2)
  obtain ⟨X1, hX1⟩ : ∃ X1, X1 = os ++ [some (newBytes (bigB x 2))] := ⟨_, rfl⟩
  rw [← hX1] at b1 F1
  have e1 : X1.length = N + 1 := by rw [hX1, hN]; simp
  have b2 := hB X1 Y 2 (by omega) (by omega)
  rw [show (Y % ((256 ^ 2 : Nat) : Int)).toNat = y from hy.symm] at b2
  have F2 := F1.add (some (newBytes (bigB y 2)))
  obtain ⟨X2, hX2⟩ : ∃ X2, X2 = X1 ++ [some (newBytes (bigB y 2))] := ⟨_, rfl⟩
  rw [← hX2] at b2 F2
  have fi2 : firstN (few X2) 1 2 (.slice (some (X1.length, 0)) 1 2 2 false) = some (bytesV (bigB y 2)) := first_own (bs := bigB y 2) (by rw [hX2]; simp)
  obtain ⟨o3, X3, g3, F3, l3⟩ := F2.grow (pre := []) (post := []) (bigB y 2) (by rw [bigB_len, bigB_len]; omega)
  rw [bigB_len, bigB_len] at g3
  obtain ⟨o4, X4, g4, F4, l4⟩ := F3.grow (pre := []) (post := []) tag (by rw [List.length_append, bigB_len, bigB_len, ht]; omega)
  rw [List.length_append, bigB_len, bigB_len, ht] at g4
  have hwX : ∀ (Y : List (Option AObj)), (∀ i, i < os.length → (Y[i]?).join = (os[i]?).join) → bytesAt (few Y) w = some b := fun Y hY => bytesAt_grow hw hY
  obtain ⟨w1, w2⟩ := first_bytes (hwX X4 F4.old)
  obtain ⟨o5, X5, g5, F5, l5⟩ := F4.grow (pre := []) (post := []) b (by rw [List.length_append, List.length_append, bigB_len, bigB_len, ht]; omega)
  rw [List.length_append, List.length_append, bigB_len, bigB_len, ht] at g5
  obtain ⟨t1, t2⟩ := first_str (st := few X3) ht
  obtain ⟨bl, hbl⟩ : ∃ bl, bl = b.length := ⟨_, rfl⟩
  rw [← hbl] at w1 w2 g5 ⊢
  have hA := F5.at_ _ (List.mem_cons_self ..)
  have e2 : X2.length = N + 2 := by rw [hX2]; simp [e1]
  have g3 : appendV (few X2) 1 1 (.slice (some (N, 0)) 1 2 2 false) (some 2) (some (bytesV (bigB y 2))) = some (fV o3 4, few X3) := by rw [hN]; exact g3
  have g4 : appendV (few X3) 1 1 (fV o3 4) (some 4) (some (bytesV tag)) = some (fV o4 8, few X4) := g4
  have g5 : appendV (few X4) 1 1 (fV o4 8) (some bl) (some (bytesV b)) = some (fV o5 (8 + bl), few X5) := g5
  have b1 : base nB [.int .i64 X, .int .i64 2] (few os) = some (.slice (some (N, 0)) 1 2 2 false, few X1) := by rw [hN]; exact b1
  have b2 : base nB [.int .i64 Y, .int .i64 2] (few X1) = some (.slice (some (N + 1, 0)) 1 2 2 false, few X2) := by rw [← e1]; exact b2
  rw [e1] at fi2
  cases o5 with
  | none =>
    have h0 : bigB x 2 ++ bigB y 2 ++ tag ++ b = [] := hA
    have := congrArg List.length h0
    simp [bigB_len] at this
  | some p5 =>
    refine ⟨p5, X5, ?_, F5.old, F5.le, hA.1, hA.2⟩
    have g5 : appendV (few X4) 1 1 (fV o4 8) (some bl) (some (bytesV b)) = some (.slice (some (p5, 0)) 1 (8 + bl) (8 + bl) false, few X5) := g5
    refine enter_eq ?_
    simp (disch := omega) [b1, b2, lenOfS, firstNo, fi2, g3, t1, t2, g4, w1, w2, g5]
theorem DataZF.withF {call : CallT} {n g lf : Nat} {fn : AFunc} (h : DataZF call n) (hne : n ≠ g) : DataZF (Vabs.withF call g lf fn) n := fun os x y tag w b a c d => by rw [withF_other hne]; exact h os x y tag w b a c d
theorem DataZF.other {call : CallT} {n g : Nat} {l : List V → St → Option (V × St)} (h : DataZF call n) (hne : n ≠ g) : DataZF (withL call g l) n := fun os x y tag w b a c d => by rw [withL_other hne]; exact h os x y tag w b a c d
theorem sgn_m16 {x : Int} (h1 : -32768 ≤ x) (h2 : x < 32768) : sgn 2 (m16 x % 65536) = x := by
  unfold sgn m16
  split <;> omega
/- A GLYPH THAT IS ANOTHER ONE'S -/
def Gone (call : CallT) (g : Nat) (os : List (Option AObj)) (F G : Nat) (ppem : Int) (k : Nat) (e : Nat) : Prop := ∃ os', call g (fArgs F G ppem k) (few os) = some (.tuple [.agg zF, .int .i64 (e : Int)], few os') ∧ (∀ i, i < os.length → (os'[i]?).join = (os[i]?).join) ∧ os.length ≤ os'.length
def DupeF (call : CallT) (g : Nat) : Prop := ∀ os F G bs L a (ppem : Int) (k f t k2 f2 t2 : Nat), FontMem os F [(tSbix, bs)] → (∀ x ∈ bs, x < 256) → StrikesOk bs L → chosenS ppem L = some a → k < G → DataAt bs a k f t → f + 8 ≤ t → ((dataOf bs a f t).drop 4).take 4 = tDupe →
  num (dataOf bs a f t) 8 2 = some k2 → k2 < G → DataAt bs a k2 f2 t2 → f2 + 8 ≤ t2 → ((dataOf bs a f2 t2).drop 4).take 4 = tPng →
  ∃ p os', call g (fArgs F G ppem k) (few os) = some (.tuple [foundV (dataOf bs a f2 t2) a p, .int .i64 0], few os') ∧ (∀ i, i < os.length → (os'[i]?).join = (os[i]?).join) ∧ os.length ≤ os'.length ∧ (os'[p]?).join = some (newBytes (dataOf bs a f2 t2))
def DupeNoF (call : CallT) (g : Nat) : Prop := ∀ os F G bs L a (ppem : Int) (k f t k2 f2 : Nat), FontMem os F [(tSbix, bs)] → (∀ x ∈ bs, x < 256) → StrikesOk bs L → chosenS ppem L = some a → k < G → DataAt bs a k f t → f + 8 ≤ t → ((dataOf bs a f t).drop 4).take 4 = tDupe →
  num (dataOf bs a f t) 8 2 = some k2 → k2 < G → DataAt bs a k2 f2 f2 → Gone call g os F G ppem k 6
def DupeDupeF (call : CallT) (g : Nat) : Prop := ∀ os F G bs L a (ppem : Int) (k f t k2 f2 t2 : Nat), FontMem os F [(tSbix, bs)] → (∀ x ∈ bs, x < 256) → StrikesOk bs L → chosenS ppem L = some a → k < G → DataAt bs a k f t → f + 8 ≤ t → ((dataOf bs a f t).drop 4).take 4 = tDupe →
  num (dataOf bs a f t) 8 2 = some k2 → k2 < G → DataAt bs a k2 f2 t2 → f2 + 8 ≤ t2 → ((dataOf bs a f2 t2).drop 4).take 4 = tDupe → Gone call g os F G ppem k 2
structure Dup (call : CallT) (n23 n25 : Nat) (os A7 : List (Option AObj)) (G P : Nat) (v : V) (bs : List Nat) (a : Pr) (k z k2 pd : Nat) (B : List (Option AObj)) : Prop where
  d1 : call n23 [v, .agg [.int .i64 (a.1 : Int), .int .i64 (a.2 : Int)], .int .i64 (k : Int)] (few A7) = some (.tuple [.slice (some (pd, 0)) 1 z z false, .int .i64 0], few B)
  s1 : sliceOp (.slice 1) (.slice (some (pd, 0)) 1 z z false) (some (.int .i64 4)) (some (.int .i64 8)) none = some (.slice (some (pd, 4)) 1 4 (z - 4) false)
  s2 : convV (few B) .toStr (.slice (some (pd, 4)) 1 4 (z - 4) false) = some (.str [100, 117, 112, 101])
  u : call n25 [.slice (some (pd, 0)) 1 z z false, .int .i64 8] (few B) = some (.tuple [.int .i64 (k2 : Int), .bool true], few B)
  pre : Pre os B G P v bs a
theorem dup_pre {call : CallT} {n23 n25 : Nat} (h23 : DataOkF call n23) (hU : UF 2 call n25) {os A7 : List (Option AObj)} {G P : Nat} {v : V} {bs : List Nat} {a : Pr} {k f t k2 : Nat} (hp : Pre os A7 G P v bs a) (hb : ∀ x ∈ bs, x < 256) (hD : DataAt bs a k f t) (h8 : f + 8 ≤ t) (ht : ((dataOf bs a f t).drop 4).take 4 = tDupe) (hk2 : num (dataOf bs a f t) 8 2 = some k2) :
    ∃ pd B, Dup call n23 n25 os A7 G P v bs a k (t - f) k2 pd B := by
  have hdl := dataOf_len hD
  have hlen := hD.len
  have hin := hD.in_
  obtain ⟨pd, B, d1, d2, d3, d4⟩ := h23 _ _ _ a k f t hp.b hp.nil hD h8
  obtain ⟨D, hDe⟩ : ∃ D, D = dataOf bs a f t := ⟨_, rfl⟩
  rw [show (bs.drop (a.1 + f)).take (t - f) = D from by rw [hDe]; rfl] at d4
  rw [← hDe] at ht hdl hk2
  have hD256 : ∀ x ∈ D, x < 256 := fun x hx => by rw [hDe] at hx; exact hb x (List.mem_of_mem_drop (List.mem_of_mem_take hx))
  obtain ⟨g1, g2⟩ := tag_at d4 hD256 hdl (by omega)
  rw [ht] at g2
  have hvB : bytesAt (few B) (.slice (some (pd, 0)) 1 (t - f) (t - f) false) = some D := by rw [← hdl]; exact lookB_at (lookB_own d4 hD256).2
  refine ⟨pd, B, d1, g1, g2, ?_, hp.keep d2 d3⟩
  rw [hU _ _ _ 8 hvB (by omega), hk2]
  rfl
theorem DupeF.code {base : CallT} {g lf nT n21 n22 n23 n24 n25 : Nat} (hT : TableF base nT) (hN : TableNF base nT) (h21 : StrikesF base n21) (h22 : ChosenF base n22) (h23 : DataOkF base n23) (h24 : ImageF base n24) (hU : UF 2 base n25) : DupeF (Vabs.withF base g lf (Find_c nT n21 n22 n23 n24 n25)) g := fun os F G bs L a ppem k f t k2 f2 t2 hF hb hS hc hk hD h8 htag hnum hk2 hD2 h82 hpng => by
  rw [withF_same]
  obtain ⟨v, q, A1, A2, A3, A4, A5, A6, A7, P, e1, e2, e3, e4, e5, e6, e7, e8, hp⟩ := Find_pre hT hN h21 h22 (G := G) (ppem := ppem) hF hb hS
  have hcS : cS (chosenS ppem L) = a := by rw [hc]; rfl
  rw [hcS] at e6 e8 hp
  have ec : (chosenS ppem L).isSome = true := by rw [hc]; rfl
  rw [ec] at e6
  unfold tSbix at e4
  obtain ⟨pd0, B0, hdup⟩ := dup_pre h23 hU hp hb hD h8 htag hnum
  obtain ⟨x1, x2, x3, x4, hp0⟩ := hdup
  have hdl := dataOf_len hD2
  have hlen := hD2.len
  have hin := hD2.in_
  obtain ⟨pd, B, d1, d2, d3, d4⟩ := h23 _ _ _ a k2 f2 t2 hp0.b hp0.nil hD2 h82
  obtain ⟨D, hDe⟩ : ∃ D, D = dataOf bs a f2 t2 := ⟨_, rfl⟩
  rw [show (bs.drop (a.1 + f2)).take (t2 - f2) = D from by rw [hDe]; rfl] at d4
  rw [← hDe] at hpng hdl ⊢
  have hD256 : ∀ x ∈ D, x < 256 := fun x hx => by rw [hDe] at hx; exact hb x (List.mem_of_mem_drop (List.mem_of_mem_take hx))
  obtain ⟨z, hz⟩ : ∃ z, z = t2 - f2 := ⟨_, rfl⟩
  obtain ⟨z0, hz0⟩ : ∃ z, z = t - f := ⟨_, rfl⟩
  rw [← hz] at d1 hdl
  rw [← hz0] at x1 x2 x3 x4
  obtain ⟨g1, g2⟩ := tag_at d4 hD256 hdl (by omega)
  rw [hpng] at g2
  unfold tPng at g2
  have hpB := hp0.keep d2 d3
  obtain ⟨C, c1, c2, c3⟩ := h24 B pd z D a d4 hD256 hdl (by omega) (by omega) hpng
  have hpC := hpB.keep c2 c3
  have ld1 := hp.strike
  have ld2 := hp0.strike
  have ld3 := hpB.strike
  have lg := hp0.glyphs
  obtain ⟨X, p1, p2, p3, p4, p5⟩ := hpC.put [.int .i64 (sgn 2 (nm D 0 2)), .int .i64 (sgn 2 (nm D 2 2)), .int .i64 (a.2 : Int), .slice (some (pd, 8)) 1 (z - 8) (z - 8) false] rfl
  obtain ⟨x, hx⟩ : ∃ x, x = sgn 2 (nm D 0 2) := ⟨_, rfl⟩
  obtain ⟨y, hy⟩ : ∃ y, y = sgn 2 (nm D 2 2) := ⟨_, rfl⟩
  have hlp := hp0.len
  have dn : pd ≠ os.length + 1 := fun e => by
    have hn := hpB.n1
    rw [← e, d4] at hn
    unfold newBytes zF at hn
    injection hn with hn
    injection hn with _ hn
    match D, hdl, hn with
    | [], hdl, _ => simp at hdl; omega
    | x :: _, _, hn => simp [bytesV] at hn
  have hd5 : (X[pd]?).join = some (newBytes D) := by rw [p5 pd dn, c2 pd (join_lt d4)]; exact d4
  have lenA := hp.len
  have keepL : A7.length ≤ A7.length := Nat.le_refl _
  have hpl := pairS_plain (q := q) (n := L.length)
  have hvp := hp.plain
  have hXl : os.length ≤ X.length := by omega
  unfold foundV
  rw [hdl]
  unfold imgV at c1 ⊢
  rw [← hx, ← hy] at c1 p1 p2 ⊢
  refine ⟨pd, X, ?_, p3, hXl, hd5⟩
  obtain ⟨z8, hz8⟩ : ∃ w, w = z - 8 := ⟨_, rfl⟩
  rw [← hz8] at c1 p1 p2 ⊢
  unfold fArgs mGl
  refine enter_eq ?_
  simp (disch := omega) [e1, e2, e3, e4, e5, e6, e7, e8, ld1, x1, x2, x3, x4, lg, ld2, d1, g1, g2, ld3, c1, p1, resE_cell, p2, bin_eqptr, dlt_t, dlt_f, dle_t, dle_f, dltn_t, dltn_f, dlen_t, dlen_f, deq_t, deq_f, deqn_t, deqn_f, hpl, hvp]
theorem DupeNoF.code {base : CallT} {g lf nT n21 n22 n23 n24 n25 : Nat} (hT : TableF base nT) (hN : TableNF base nT) (h21 : StrikesF base n21) (h22 : ChosenF base n22) (h23 : DataOkF base n23) (h23n : DataNoF base n23) (hU : UF 2 base n25) : DupeNoF (Vabs.withF base g lf (Find_c nT n21 n22 n23 n24 n25)) g := fun os F G bs L a ppem k f t k2 f2 hF hb hS hc hk hD h8 htag hnum hk2 hD2 => by
  unfold Gone
  rw [withF_same]
  obtain ⟨v, q, A1, A2, A3, A4, A5, A6, A7, P, e1, e2, e3, e4, e5, e6, e7, e8, hp⟩ := Find_pre hT hN h21 h22 (G := G) (ppem := ppem) hF hb hS
  have hcS : cS (chosenS ppem L) = a := by rw [hc]; rfl
  rw [hcS] at e6 e8 hp
  have ec : (chosenS ppem L).isSome = true := by rw [hc]; rfl
  rw [ec] at e6
  unfold tSbix at e4
  obtain ⟨pd0, B0, hdup⟩ := dup_pre h23 hU hp hb hD h8 htag hnum
  obtain ⟨x1, x2, x3, x4, hp0⟩ := hdup
  obtain ⟨B, d1, d2, d3⟩ := h23n _ _ _ a k2 f2 hp0.b hp0.nil hD2
  have hpB := hp0.keep d2 d3
  have ld1 := hp.strike
  have ld2 := hp0.strike
  have lg := hp0.glyphs
  obtain ⟨z0, hz0⟩ : ∃ z, z = t - f := ⟨_, rfl⟩
  rw [← hz0] at x1 x2 x3 x4
  obtain ⟨X, p1, p2, p3, p4, p5⟩ := hpB.put [.int .i64 0, .int .i64 0, .int .i64 0, .slice none 0 0 0 true] rfl
  have hlp := hpB.len
  have hpl := pairS_plain (q := q) (n := L.length)
  have hvp := hp.plain
  have hXl : os.length ≤ X.length := by omega
  refine ⟨X, ?_, p3, hXl⟩
  unfold fArgs mGl zF
  refine enter_eq ?_
  simp (disch := omega) [e1, e2, e3, e4, e5, e6, e7, e8, ld1, x1, x2, x3, x4, lg, ld2, d1, p1, resE_cell, p2, bin_eqptr, dlt_t, dlt_f, dle_t, dle_f, dltn_t, dltn_f, dlen_t, dlen_f, deq_t, deq_f, deqn_t, deqn_f, hpl, hvp]
theorem DupeDupeF.code {base : CallT} {g lf nT n21 n22 n23 n24 n25 : Nat} (hT : TableF base nT) (hN : TableNF base nT) (h21 : StrikesF base n21) (h22 : ChosenF base n22) (h23 : DataOkF base n23) (hU : UF 2 base n25) : DupeDupeF (Vabs.withF base g lf (Find_c nT n21 n22 n23 n24 n25)) g := fun os F G bs L a ppem k f t k2 f2 t2 hF hb hS hc hk hD h8 htag hnum hk2 hD2 h82 hdupe => by
  unfold Gone
  rw [withF_same]
  obtain ⟨v, q, A1, A2, A3, A4, A5, A6, A7, P, e1, e2, e3, e4, e5, e6, e7, e8, hp⟩ := Find_pre hT hN h21 h22 (G := G) (ppem := ppem) hF hb hS
  have hcS : cS (chosenS ppem L) = a := by rw [hc]; rfl
  rw [hcS] at e6 e8 hp
  have ec : (chosenS ppem L).isSome = true := by rw [hc]; rfl
  rw [ec] at e6
  unfold tSbix at e4
  obtain ⟨pd0, B0, hdup⟩ := dup_pre h23 hU hp hb hD h8 htag hnum
  obtain ⟨x1, x2, x3, x4, hp0⟩ := hdup
  have hdl := dataOf_len hD2
  obtain ⟨pd, B, d1, d2, d3, d4⟩ := h23 _ _ _ a k2 f2 t2 hp0.b hp0.nil hD2 h82
  obtain ⟨D, hDe⟩ : ∃ D, D = dataOf bs a f2 t2 := ⟨_, rfl⟩
  rw [show (bs.drop (a.1 + f2)).take (t2 - f2) = D from by rw [hDe]; rfl] at d4
  rw [← hDe] at hdupe hdl
  have hD256 : ∀ x ∈ D, x < 256 := fun x hx => by rw [hDe] at hx; exact hb x (List.mem_of_mem_drop (List.mem_of_mem_take hx))
  obtain ⟨z, hz⟩ : ∃ z, z = t2 - f2 := ⟨_, rfl⟩
  obtain ⟨z0, hz0⟩ : ∃ z, z = t - f := ⟨_, rfl⟩
  rw [← hz] at d1 hdl
  rw [← hz0] at x1 x2 x3 x4
  obtain ⟨g1, g2⟩ := tag_at d4 hD256 hdl (by omega)
  rw [hdupe] at g2
  unfold tDupe at g2
  have hpB := hp0.keep d2 d3
  have ld1 := hp.strike
  have ld2 := hp0.strike
  have lg := hp0.glyphs
  obtain ⟨X, p1, p2, p3, p4, p5⟩ := hpB.put [.int .i64 0, .int .i64 0, .int .i64 0, .slice none 0 0 0 true] rfl
  have hlp := hpB.len
  have hpl := pairS_plain (q := q) (n := L.length)
  have hvp := hp.plain
  have hXl : os.length ≤ X.length := by omega
  refine ⟨X, ?_, p3, hXl⟩
  unfold fArgs mGl zF
  refine enter_eq ?_
  simp (disch := omega) [e1, e2, e3, e4, e5, e6, e7, e8, ld1, x1, x2, x3, x4, lg, ld2, d1, g1, g2, p1, resE_cell, p2, bin_eqptr, dlt_t, dlt_f, dle_t, dle_f, dltn_t, dltn_f, dlen_t, dlen_f, deq_t, deq_f, deqn_t, deqn_f, hpl, hvp]
theorem DupeF.other {call : CallT} {n g : Nat} {l : List V → St → Option (V × St)} (h : DupeF call n) (hne : n ≠ g) : DupeF (withL call g l) n := fun os F G bs L a ppem k f t k2 f2 t2 a1 a2 a3 a4 a5 a6 a7 a8 b1 b2 b3 b4 b5 => by rw [withL_other hne]; exact h os F G bs L a ppem k f t k2 f2 t2 a1 a2 a3 a4 a5 a6 a7 a8 b1 b2 b3 b4 b5
theorem DupeNoF.other {call : CallT} {n g : Nat} {l : List V → St → Option (V × St)} (h : DupeNoF call n) (hne : n ≠ g) : DupeNoF (withL call g l) n := fun os F G bs L a ppem k f t k2 f2 a1 a2 a3 a4 a5 a6 a7 a8 b1 b2 b3 => by unfold Gone; rw [withL_other hne]; exact h os F G bs L a ppem k f t k2 f2 a1 a2 a3 a4 a5 a6 a7 a8 b1 b2 b3
theorem DupeDupeF.other {call : CallT} {n g : Nat} {l : List V → St → Option (V × St)} (h : DupeDupeF call n) (hne : n ≠ g) : DupeDupeF (withL call g l) n := fun os F G bs L a ppem k f t k2 f2 t2 a1 a2 a3 a4 a5 a6 a7 a8 b1 b2 b3 b4 b5 => by unfold Gone; rw [withL_other hne]; exact h os F G bs L a ppem k f t k2 f2 t2 a1 a2 a3 a4 a5 a6 a7 a8 b1 b2 b3 b4 b5

end Go.Vabs.Rg

namespace Go.Vabs.Rh
set_option linter.unusedVariables false
set_option linter.unusedSimpArgs false
set_option maxRecDepth 10000
def DupLast (n_known : Nat) : ACode := (.seq (.seq (.reg [AOper.mk (some (.o (.o (.i (.i (.i (.o .h))))))) (.call n_known []) none, AOper.mk (some (.i (.o (.i (.i (.i (.o .h))))))) (.un .not (.t (.o (.o (.i (.i (.i (.o .h)))))))) none, AOper.mk (some (.o (.i (.i (.i (.i (.o .h))))))) (.mv (.t (.i (.o (.i (.i (.i (.o .h)))))))) none, AOper.mk (some (.o (.o (.o (.o (.o (.i .h))))))) (.bin .neq (.val .int) (.t (.i (.i (.o (.o .h))))) (.c (.int .i64 (.ofNat 0)))) (some (.o (.i (.i (.i (.i (.o .h))))), false)), AOper.mk (some (.i (.o (.o (.o (.o (.i .h))))))) (.pick (.t (.o (.i (.i (.i (.i (.o .h))))))) (.c (.bool true)) (.t (.o (.o (.o (.o (.o (.i .h)))))))) none, AOper.mk (some (.o (.i (.o (.o (.o (.i .h))))))) (.mv (.t (.i (.o (.o (.o (.o (.i .h)))))))) none, AOper.mk (some (.o (.o (.i (.o (.o (.i .h))))))) (.bin .neq (.val .int) (.t (.i (.i (.i (.o .h))))) (.c (.int .i64 (.ofNat 0)))) (some (.o (.i (.o (.o (.o (.i .h))))), false)), AOper.mk (some (.i (.o (.i (.o (.o (.i .h))))))) (.pick (.t (.o (.i (.o (.o (.o (.i .h))))))) (.c (.bool true)) (.t (.o (.o (.i (.o (.o (.i .h)))))))) none, AOper.mk (some (.o (.i (.i (.o (.o (.i .h))))))) (.mv (.t (.i (.o (.i (.o (.o (.i .h)))))))) none, AOper.mk (some (.i (.i (.i (.o (.o (.i .h))))))) (.fieldAddr 0 (.t (.o (.i (.o (.o .h)))))) (some (.o (.i (.i (.o (.o (.i .h))))), false)), AOper.mk (some (.o (.o (.o (.i (.o (.i .h))))))) (.load false 1 (.t (.i (.i (.i (.o (.o (.i .h)))))))) (some (.o (.i (.i (.o (.o (.i .h))))), false)), AOper.mk (some (.o (.i (.o (.i (.o (.i .h))))))) (.bin .neq (.val .int) (.t (.o (.o (.o (.i (.o (.i .h))))))) (.t .h)) (some (.o (.i (.i (.o (.o (.i .h))))), false)), AOper.mk (some (.i (.i (.o (.i (.o (.i .h))))))) (.pick (.t (.o (.i (.i (.o (.o (.i .h))))))) (.c (.bool true)) (.t (.o (.i (.o (.i (.o (.i .h)))))))) none, AOper.mk (some (.o (.o (.i (.i (.o (.i .h))))))) (.mv (.t (.i (.i (.o (.i (.o (.i .h)))))))) none, AOper.mk (some (.i (.o (.i (.i (.o (.i .h))))))) (.fieldAddr 1 (.t (.o (.i (.o (.o .h)))))) (some (.o (.o (.i (.i (.o (.i .h))))), false)), AOper.mk (some (.o (.i (.i (.i (.o (.i .h))))))) (.load false 1 (.t (.i (.o (.i (.i (.o (.i .h)))))))) (some (.o (.o (.i (.i (.o (.i .h))))), false)), AOper.mk (some (.o (.o (.o (.o (.i (.i .h))))))) (.bin .neq (.val .int) (.t (.o (.i (.i (.i (.o (.i .h))))))) (.t (.o .h))) (some (.o (.o (.i (.i (.o (.i .h))))), false)), AOper.mk (some (.i (.o (.o (.o (.i (.i .h))))))) (.pick (.t (.o (.o (.i (.i (.o (.i .h))))))) (.c (.bool true)) (.t (.o (.o (.o (.o (.i (.i .h)))))))) none, AOper.mk (some (.o (.i (.o (.o (.i (.i .h))))))) (.mv (.t (.i (.o (.o (.o (.i (.i .h)))))))) none, AOper.mk (some (.i (.i (.o (.o (.i (.i .h))))))) (.fieldAddr 0 (.t (.o (.i (.i (.o .h)))))) (some (.o (.i (.o (.o (.i (.i .h))))), false)), AOper.mk (some (.o (.o (.i (.o (.i (.i .h))))))) (.load false 1 (.t (.i (.i (.o (.o (.i (.i .h)))))))) (some (.o (.i (.o (.o (.i (.i .h))))), false)), AOper.mk (some (.o (.i (.i (.o (.i (.i .h))))))) (.bin .neq (.val .int) (.t (.o (.o (.i (.o (.i (.i .h))))))) (.t .h)) (some (.o (.i (.o (.o (.i (.i .h))))), false)), AOper.mk (some (.i (.i (.i (.o (.i (.i .h))))))) (.pick (.t (.o (.i (.o (.o (.i (.i .h))))))) (.c (.bool true)) (.t (.o (.i (.i (.o (.i (.i .h)))))))) none, AOper.mk (some (.o (.o (.o (.i (.i (.i .h))))))) (.mv (.t (.i (.i (.i (.o (.i (.i .h)))))))) none, AOper.mk (some (.i (.o (.o (.i (.i (.i .h))))))) (.fieldAddr 1 (.t (.o (.i (.i (.o .h)))))) (some (.o (.o (.o (.i (.i (.i .h))))), false)), AOper.mk (some (.o (.i (.o (.i (.i (.i .h))))))) (.load false 1 (.t (.i (.o (.o (.i (.i (.i .h)))))))) (some (.o (.o (.o (.i (.i (.i .h))))), false)), AOper.mk (some (.o (.o (.i (.i (.i (.i .h))))))) (.bin .neq (.val .int) (.t (.o (.i (.o (.i (.i (.i .h))))))) (.t (.o .h))) (some (.o (.o (.o (.i (.i (.i .h))))), false)), AOper.mk (some (.i (.o (.i (.i (.i (.i .h))))))) (.pick (.t (.o (.o (.o (.i (.i (.i .h))))))) (.c (.bool true)) (.t (.o (.o (.i (.i (.i (.i .h)))))))) none, AOper.mk (some (.o (.i (.i (.i (.i (.i .h))))))) (.mv (.t (.i (.o (.i (.i (.i (.i .h)))))))) none, AOper.mk (some (.i (.i (.i (.i (.i (.i .h))))))) (.fieldAddr 3 (.t (.o (.i (.i (.o .h)))))) (some (.o (.i (.i (.i (.i (.i .h))))), false)), AOper.mk (some (.o (.o (.o (.o (.o (.o (.o .h)))))))) (.load false 1 (.t (.i (.i (.i (.i (.i (.i .h)))))))) (some (.o (.i (.i (.i (.i (.i .h))))), false)), AOper.mk (some (.i (.o (.o (.o (.o (.o (.o .h)))))))) (.conv .toStr (.t (.o (.o (.o (.o (.o (.o (.o .h))))))))) (some (.o (.i (.i (.i (.i (.i .h))))), false)), AOper.mk (some (.o (.i (.o (.o (.o (.o (.o .h)))))))) (.fieldAddr 3 (.t (.o (.i (.o (.o .h)))))) (some (.o (.i (.i (.i (.i (.i .h))))), false)), AOper.mk (some (.i (.i (.o (.o (.o (.o (.o .h)))))))) (.load false 1 (.t (.o (.i (.o (.o (.o (.o (.o .h))))))))) (some (.o (.i (.i (.i (.i (.i .h))))), false)), AOper.mk (some (.o (.o (.i (.o (.o (.o (.o .h)))))))) (.conv .toStr (.t (.i (.i (.o (.o (.o (.o (.o .h))))))))) (some (.o (.i (.i (.i (.i (.i .h))))), false)), AOper.mk (some (.i (.o (.i (.o (.o (.o (.o .h)))))))) (.bin .neq (.val .str) (.t (.i (.o (.o (.o (.o (.o (.o .h)))))))) (.t (.o (.o (.i (.o (.o (.o (.o .h))))))))) (some (.o (.i (.i (.i (.i (.i .h))))), false)), AOper.mk (some (.o (.i (.i (.o (.o (.o (.o .h)))))))) (.pick (.t (.o (.i (.i (.i (.i (.i .h))))))) (.c (.bool true)) (.t (.i (.o (.i (.o (.o (.o (.o .h))))))))) none, AOper.mk (some (.i (.i (.i (.o (.o (.o (.o .h)))))))) (.mv (.t (.o (.i (.i (.o (.o (.o (.o .h))))))))) none, AOper.mk (some (.o (.o (.o (.i (.o (.o (.o .h)))))))) (.fieldAddr 2 (.t (.o (.i (.i (.o .h)))))) (some (.i (.i (.i (.o (.o (.o (.o .h)))))), false)), AOper.mk (some (.i (.o (.o (.i (.o (.o (.o .h)))))))) (.load false 1 (.t (.o (.o (.o (.i (.o (.o (.o .h))))))))) (some (.i (.i (.i (.o (.o (.o (.o .h)))))), false)), AOper.mk (some (.o (.i (.o (.i (.o (.o (.o .h)))))))) (.fieldAddr 2 (.t (.o (.i (.o (.o .h)))))) (some (.i (.i (.i (.o (.o (.o (.o .h)))))), false)), AOper.mk (some (.i (.i (.o (.i (.o (.o (.o .h)))))))) (.load false 1 (.t (.o (.i (.o (.i (.o (.o (.o .h))))))))) (some (.i (.i (.i (.o (.o (.o (.o .h)))))), false)), AOper.mk (some (.o (.o (.i (.i (.o (.o (.o .h)))))))) (.bin .neq (.val .int) (.t (.i (.o (.o (.i (.o (.o (.o .h)))))))) (.t (.i (.i (.o (.i (.o (.o (.o .h))))))))) (some (.i (.i (.i (.o (.o (.o (.o .h)))))), false)), AOper.mk (some (.i (.o (.i (.i (.o (.o (.o .h)))))))) (.pick (.t (.i (.i (.i (.o (.o (.o (.o .h)))))))) (.c (.bool true)) (.t (.o (.o (.i (.i (.o (.o (.o .h))))))))) none]) (.cond (.t (.i (.o (.i (.i (.o (.o (.o .h)))))))) (.seq (.reg [AOper.mk (some (.i (.i (.o .h)))) (.mv (.c (.bool false))) none]) .ret) .skip)) (.seq (.seq (.reg [AOper.mk (some (.o (.i (.i (.i (.o (.o (.o .h)))))))) (.mv (.t (.i .h))) none]) (.block 2 (.seq (.reg [AOper.mk (some (.o (.o (.o (.o (.i (.o (.o .h)))))))) (.bin .eql (.val .int) (.t (.o (.i (.i (.i (.o (.o (.o .h)))))))) (.c (.int .i64 (.ofNat 0)))) none, AOper.mk (some (.i (.i (.i (.i (.o (.o (.o .h)))))))) (.mv (.t (.o (.o (.o (.o (.i (.o (.o .h))))))))) none]) (.cond (.t (.i (.i (.i (.i (.o (.o (.o .h)))))))) (.seq (.reg [AOper.mk (some (.o (.i (.o (.o (.i (.o (.o .h)))))))) (.bin .eql (.val .int) (.t (.i (.o (.i (.o .h))))) (.c (.int .i64 (.ofNat 0)))) none, AOper.mk (some (.i (.i (.o (.o (.i (.o (.o .h)))))))) (.mv (.t (.o (.i (.o (.o (.i (.o (.o .h))))))))) none, AOper.mk (some (.o (.o (.i (.o (.i (.o (.o .h)))))))) (.fieldAddr 0 (.t (.o (.o (.i (.o .h)))))) (some (.i (.i (.o (.o (.i (.o (.o .h)))))), true)), AOper.mk (some (.i (.o (.i (.o (.i (.o (.o .h)))))))) (.load false 1 (.t (.o (.o (.i (.o (.i (.o (.o .h))))))))) (some (.i (.i (.o (.o (.i (.o (.o .h)))))), true)), AOper.mk (some (.i (.i (.i (.o (.i (.o (.o .h)))))))) (.bin .eql (.val .int) (.t (.i (.o (.i (.o (.i (.o (.o .h)))))))) (.t .h)) (some (.i (.i (.o (.o (.i (.o (.o .h)))))), true)), AOper.mk (some (.o (.o (.o (.i (.i (.o (.o .h)))))))) (.pick (.t (.i (.i (.o (.o (.i (.o (.o .h)))))))) (.t (.i (.i (.i (.o (.i (.o (.o .h)))))))) (.c (.bool false))) none, AOper.mk (some (.i (.o (.o (.i (.i (.o (.o .h)))))))) (.mv (.t (.o (.o (.o (.i (.i (.o (.o .h))))))))) none, AOper.mk (some (.o (.i (.o (.i (.i (.o (.o .h)))))))) (.fieldAddr 3 (.t (.o (.o (.i (.o .h)))))) (some (.i (.o (.o (.i (.i (.o (.o .h)))))), true)), AOper.mk (some (.i (.i (.o (.i (.i (.o (.o .h)))))))) (.load false 1 (.t (.o (.i (.o (.i (.i (.o (.o .h))))))))) (some (.i (.o (.o (.i (.i (.o (.o .h)))))), true)), AOper.mk (some (.o (.o (.i (.i (.i (.o (.o .h)))))))) (.conv .toStr (.t (.i (.i (.o (.i (.i (.o (.o .h))))))))) (some (.i (.o (.o (.i (.i (.o (.o .h)))))), true)), AOper.mk (some (.i (.o (.i (.i (.i (.o (.o .h)))))))) (.fieldAddr 3 (.t (.o (.i (.o (.o .h)))))) (some (.i (.o (.o (.i (.i (.o (.o .h)))))), true)), AOper.mk (some (.o (.i (.i (.i (.i (.o (.o .h)))))))) (.load false 1 (.t (.i (.o (.i (.i (.i (.o (.o .h))))))))) (some (.i (.o (.o (.i (.i (.o (.o .h)))))), true)), AOper.mk (some (.i (.i (.i (.i (.i (.o (.o .h)))))))) (.conv .toStr (.t (.o (.i (.i (.i (.i (.o (.o .h))))))))) (some (.i (.o (.o (.i (.i (.o (.o .h)))))), true)), AOper.mk (some (.o (.o (.o (.o (.o (.i (.o .h)))))))) (.bin .eql (.val .str) (.t (.o (.o (.i (.i (.i (.o (.o .h)))))))) (.t (.i (.i (.i (.i (.i (.o (.o .h))))))))) (some (.i (.o (.o (.i (.i (.o (.o .h)))))), true)), AOper.mk (some (.i (.o (.o (.o (.o (.i (.o .h)))))))) (.pick (.t (.i (.o (.o (.i (.i (.o (.o .h)))))))) (.t (.o (.o (.o (.o (.o (.i (.o .h)))))))) (.c (.bool false))) none, AOper.mk (some (.i (.i (.o .h)))) (.mv (.t (.i (.o (.o (.o (.o (.i (.o .h))))))))) none]) .ret) (.seq (.reg [AOper.mk (some (.i (.i (.o (.o (.o (.i (.o .h)))))))) (.bin .eql (.val .int) (.t (.o (.i (.i (.i (.o (.o (.o .h)))))))) (.c (.int .i64 (.ofNat 1)))) none, AOper.mk (some (.o (.i (.o (.o (.o (.i (.o .h)))))))) (.mv (.t (.i (.i (.o (.o (.o (.i (.o .h))))))))) none]) (.cond (.t (.o (.i (.o (.o (.o (.i (.o .h)))))))) (.seq (.reg [AOper.mk (some (.i (.o (.i (.o (.o (.i (.o .h)))))))) (.bin .eql (.val .int) (.t (.i (.o (.i (.o .h))))) (.c (.int .i64 (.ofNat 6)))) none, AOper.mk (some (.i (.i (.o .h)))) (.mv (.t (.i (.o (.i (.o (.o (.i (.o .h))))))))) none]) .ret) .skip)))))) (.seq (.reg [AOper.mk (some (.i (.i (.i (.o (.o (.i (.o .h)))))))) (.bin .eql (.val .int) (.t (.i (.o (.i (.o .h))))) (.c (.int .i64 (.ofNat 2)))) none, AOper.mk (some (.i (.i (.o .h)))) (.mv (.t (.i (.i (.i (.o (.o (.i (.o .h))))))))) none]) .ret)))
def DupRest (n_Pick : Nat) (n_Sbix : Nat) (n_open : Nat) (n_Find : Nat) (n_known : Nat) : ACode := (.seq (.reg [AOper.mk (some (.i (.i (.i (.i (.i .h)))))) (.call n_Sbix [.t (.o (.o (.i .h)))]) none, AOper.mk (some (.o (.o (.o (.o (.o (.o .h))))))) (.call n_open [.c (.str [115, 98, 105, 120]), .t (.i (.i (.i (.i (.i .h)))))]) none, AOper.mk (some (.i (.o (.o (.o (.o (.o .h))))))) (.extract (.t (.o (.o (.o (.o (.o (.o .h))))))) 0) none, AOper.mk (some (.o (.i (.o (.o (.o (.o .h))))))) (.extract (.t (.o (.o (.o (.o (.o (.o .h))))))) 1) none, AOper.mk (some (.i (.i (.i .h)))) (.mv (.t (.i (.o (.o (.o (.o (.o .h)))))))) none, AOper.mk (some (.o (.o (.o (.o .h))))) (.mv (.t (.o (.i (.o (.o (.o (.o .h)))))))) none]) (.seq (.reg [AOper.mk (some (.i (.i (.o (.o (.o (.o .h))))))) (.build [.int .i64 (.ofNat 0), .int .i64 (.ofNat 0), .bool false] [(0, (1, .c (.int .i64 (.ofNat 1000)))), (1, (1, .c (.int .i64 (.ofNat 4))))]) none, AOper.mk (some (.i (.o (.o (.o .h))))) (.alloc [.int .i64 (.ofNat 0), .int .i64 (.ofNat 0), .bool false]) none, AOper.mk none (.store 3 (.t (.i (.o (.o (.o .h))))) (.t (.i (.i (.o (.o (.o (.o .h)))))))) none]) (.seq (.reg [AOper.mk (some (.i (.o (.i (.o (.o (.o .h))))))) (.call n_Pick [.t (.i (.o .h)), .c (.int .i64 (.ofNat 60))]) none, AOper.mk (some (.o (.i (.i (.o (.o (.o .h))))))) (.bin .add (.val .int) (.c (.int .i64 (.ofNat 1))) (.t (.i (.o (.i (.o (.o (.o .h)))))))) none, AOper.mk (some (.i (.o .h))) (.mv (.t (.o (.i (.i (.o (.o (.o .h)))))))) none]) (.seq (.reg [AOper.mk (some (.i (.o (.o (.i (.o (.o .h))))))) (.load true 3 (.t (.i (.o (.o (.o .h)))))) none, AOper.mk (some (.i (.i (.o (.i (.o (.o .h))))))) (.call n_Find [.t (.i (.i (.i .h))), .t (.i (.o (.o (.i (.o (.o .h)))))), .t (.i (.o .h)), .c (.int .i64 (.ofNat 0))]) none, AOper.mk (some (.o (.o (.i (.i (.o (.o .h))))))) (.extract (.t (.i (.i (.o (.i (.o (.o .h))))))) 0) none, AOper.mk (some (.i (.o (.i (.i (.o (.o .h))))))) (.extract (.t (.i (.i (.o (.i (.o (.o .h))))))) 1) none, AOper.mk (some (.o (.i (.o (.o .h))))) (.alloc [.int .i64 (.ofNat 0), .int .i64 (.ofNat 0), .int .i64 (.ofNat 0), .slice none 0 0 0 true]) none, AOper.mk none (.store 4 (.t (.o (.i (.o (.o .h))))) (.t (.o (.o (.i (.i (.o (.o .h)))))))) none, AOper.mk (some (.i (.i (.o (.o .h))))) (.mv (.t (.i (.o (.i (.i (.o (.o .h)))))))) none]) (.seq (.reg [AOper.mk (some (.o (.o (.o (.o (.i (.o .h))))))) (.load true 3 (.t (.i (.o (.o (.o .h)))))) none, AOper.mk (some (.o (.i (.o (.o (.i (.o .h))))))) (.call n_Find [.t (.i (.i (.i .h))), .t (.o (.o (.o (.o (.i (.o .h)))))), .t (.i (.o .h)), .c (.int .i64 (.ofNat 3))]) none, AOper.mk (some (.i (.i (.o (.o (.i (.o .h))))))) (.extract (.t (.o (.i (.o (.o (.i (.o .h))))))) 0) none, AOper.mk (some (.o (.o (.i (.o (.i (.o .h))))))) (.extract (.t (.o (.i (.o (.o (.i (.o .h))))))) 1) none, AOper.mk (some (.o (.o (.i (.o .h))))) (.alloc [.int .i64 (.ofNat 0), .int .i64 (.ofNat 0), .int .i64 (.ofNat 0), .slice none 0 0 0 true]) none, AOper.mk none (.store 4 (.t (.o (.o (.i (.o .h))))) (.t (.i (.i (.o (.o (.i (.o .h)))))))) none, AOper.mk (some (.i (.o (.i (.o .h))))) (.mv (.t (.o (.o (.i (.o (.i (.o .h)))))))) none]) (.seq (.reg [AOper.mk (some (.i (.i (.i (.o (.i (.o .h))))))) (.load true 3 (.t (.i (.o (.o (.o .h)))))) none, AOper.mk (some (.i (.o (.o (.i (.i (.o .h))))))) (.call n_Find [.t (.i (.i (.i .h))), .t (.i (.i (.i (.o (.i (.o .h)))))), .t (.i (.o .h)), .c (.int .i64 (.ofNat 2))]) none, AOper.mk (some (.o (.i (.o (.i (.i (.o .h))))))) (.extract (.t (.i (.o (.o (.i (.i (.o .h))))))) 0) none, AOper.mk (some (.i (.i (.o (.i (.i (.o .h))))))) (.extract (.t (.i (.o (.o (.i (.i (.o .h))))))) 1) none, AOper.mk (some (.o (.i (.i (.o .h))))) (.alloc [.int .i64 (.ofNat 0), .int .i64 (.ofNat 0), .int .i64 (.ofNat 0), .slice none 0 0 0 true]) none, AOper.mk none (.store 4 (.t (.o (.i (.i (.o .h))))) (.t (.o (.i (.o (.i (.i (.o .h)))))))) none, AOper.mk (some (.i (.i (.i (.o .h))))) (.mv (.t (.i (.i (.o (.i (.i (.o .h)))))))) none]) (DupLast n_known)))))))
def Dupes_c (n_Pick : Nat) (n_Few : Nat) (n_Data : Nat) (n_Sbix : Nat) (n_open : Nat) (n_Find : Nat) (n_known : Nat) : AFunc := AFunc.mk 167 (.seq (.reg [AOper.mk (some (.i (.i (.o .h)))) (.mv (.c (.bool false))) none]) (.seq (.reg [AOper.mk (some (.i (.o (.o (.i .h))))) (.call n_Pick [.t .h, .c (.int .i64 (.ofNat 65536))]) none, AOper.mk (some (.o (.i (.o (.i .h))))) (.bin .sub (.val .int) (.t (.i (.o (.o (.i .h))))) (.c (.int .i64 (.ofNat 32768)))) none, AOper.mk (some .h) (.mv (.t (.o (.i (.o (.i .h)))))) none]) (.seq (.reg [AOper.mk (some (.o (.o (.i (.i .h))))) (.call n_Pick [.t (.o .h), .c (.int .i64 (.ofNat 65536))]) none, AOper.mk (some (.i (.o (.i (.i .h))))) (.bin .sub (.val .int) (.t (.o (.o (.i (.i .h))))) (.c (.int .i64 (.ofNat 32768)))) none, AOper.mk (some (.o .h)) (.mv (.t (.i (.o (.i (.i .h)))))) none]) (.seq (.reg [AOper.mk (some (.i (.i (.i (.i .h))))) (.call n_Pick [.t (.i .h), .c (.int .i64 (.ofNat 3))]) none, AOper.mk (some (.i .h)) (.mv (.t (.i (.i (.i (.i .h)))))) none]) (.seq (.reg [AOper.mk (some (.o (.o (.i .h)))) (.mv (.c (.slice none 0 0 0 true))) none]) (.seq (.seq (.reg [AOper.mk (some (.i (.o (.i .h)))) (.mv (.c (.int .i64 (.ofNat 0)))) none]) (.block 0 (.loop (.seq (.seq (.reg [AOper.mk (some (.i (.o (.o (.o (.o .h)))))) (.bin .lss (.val .int) (.t (.i (.o (.i .h)))) (.c (.int .i64 (.ofNat 2)))) none]) (.cond (.t (.i (.o (.o (.o (.o .h)))))) .skip (.exit 0))) (.seq (.block 1 (.seq (.reg [AOper.mk (some (.i (.o (.i (.o (.o .h)))))) (.bin .add (.val .int) (.t .h) (.c (.int .i64 (.ofNat 0)))) none, AOper.mk (some (.o (.o (.o (.i (.o .h)))))) (.call n_Few [.t (.o (.o .h)), .c (.int .i64 (.ofNat 30))]) none, AOper.mk (some (.o (.i (.o (.i (.o .h)))))) (.conv (.int .u8) (.t (.i (.o (.i .h))))) none, AOper.mk (some (.i (.i (.o (.i (.o .h)))))) (.bslice 1 1 [.int .u8 (.ofNat 0)] [(0, (1, .t (.o (.i (.o (.i (.o .h)))))))]) none, AOper.mk (some (.o (.o (.i (.i (.o .h)))))) (.append 1 1 (.t (.o (.o (.o (.i (.o .h)))))) (.t (.i (.i (.o (.i (.o .h))))))) none, AOper.mk (some (.i (.o (.i (.i (.o .h)))))) (.call n_Data [.t (.i (.o (.i (.o (.o .h))))), .t (.o .h), .c (.str [112, 110, 103, 32]), .t (.o (.o (.i (.i (.o .h)))))]) none, AOper.mk (some (.o (.i (.i (.i (.o .h)))))) (.bslice 1 2 [.int .u8 (.ofNat 0)] [(0, (1, .c (.int .u8 (.ofNat 0)))), (1, (1, .c (.int .u8 (.ofNat 0))))]) none, AOper.mk (some (.i (.i (.i (.i (.o .h)))))) (.call n_Data [.c (.int .i64 (.ofNat 9)), .c (.int .i64 (.ofNat 9)), .c (.str [100, 117, 112, 101]), .t (.o (.i (.i (.i (.o .h)))))]) none, AOper.mk (some (.i (.o (.o (.o (.i .h)))))) (.conv (.int .u8) (.t (.i .h))) none, AOper.mk (some (.o (.i (.o (.o (.i .h)))))) (.bslice 1 2 [.int .u8 (.ofNat 0)] [(0, (1, .c (.int .u8 (.ofNat 0)))), (1, (1, .t (.i (.o (.o (.o (.i .h)))))))]) none, AOper.mk (some (.i (.i (.o (.o (.i .h)))))) (.call n_Data [.c (.int .i64 (.ofNat 7)), .c (.int .i64 (.ofNat 7)), .c (.str [100, 117, 112, 101]), .t (.o (.i (.o (.o (.i .h)))))]) none, AOper.mk (some (.o (.o (.i (.o (.i .h)))))) (.bslice 1 4 [.slice none 0 0 0 true] [(0, (1, .t (.i (.o (.i (.i (.o .h))))))), (1, (1, .c (.slice none 0 0 0 true))), (2, (1, .t (.i (.i (.i (.i (.o .h))))))), (3, (1, .t (.i (.i (.o (.o (.i .h)))))))]) none, AOper.mk (some (.o (.i (.i .h)))) (.mv (.t (.o (.o (.i (.o (.i .h))))))) none]) (.reg [AOper.mk (some (.i (.i (.i (.o (.i .h)))))) (.bin .mul (.val .int) (.c (.int .i64 (.ofNat 20))) (.t (.i (.o (.i .h))))) none, AOper.mk (some (.o (.o (.o (.i (.i .h)))))) (.bin .add (.val .int) (.c (.int .i64 (.ofNat 20))) (.t (.i (.i (.i (.o (.i .h))))))) none, AOper.mk (some (.o (.i (.o (.i (.i .h)))))) (.build [.int .i64 (.ofNat 0), .slice none 0 0 0 true] [(0, (1, .t (.o (.o (.o (.i (.i .h))))))), (1, (1, .t (.o (.i (.i .h)))))]) none, AOper.mk (some (.i (.i (.o (.i (.i .h)))))) (.bslice 2 1 [.int .i64 (.ofNat 0), .slice none 0 0 0 true] [(0, (2, .t (.o (.i (.o (.i (.i .h)))))))]) none, AOper.mk (some (.o (.o (.i (.i (.i .h)))))) (.append 2 32 (.t (.o (.o (.i .h)))) (.t (.i (.i (.o (.i (.i .h))))))) none, AOper.mk (some (.o (.o (.i .h)))) (.mv (.t (.o (.o (.i (.i (.i .h))))))) none]))) (.reg [AOper.mk (some (.i (.i (.o (.o (.o .h)))))) (.bin .add (.val .int) (.t (.i (.o (.i .h)))) (.c (.int .i64 (.ofNat 1)))) none, AOper.mk (some (.i (.o (.i .h)))) (.mv (.t (.i (.i (.o (.o (.o .h))))))) none])))))) (DupRest n_Pick n_Sbix n_open n_Find n_known))))))) [.tmp (.i (.i (.o .h)))]

attribute [local simp] wp_skip wp_ret wp_exit wp_reg wp_seq wp_cond wp_block thenQ_normal thenQ_ret thenQ_exit blockQ_normal blockQ_ret blockQ_exit wpCond_true wpCond_false wpOps_nil wpVal_some wpGuard_true wpGuard_false wpOps_guard wpOps_cons
  put_at put_no ev_c ev_slot posEq_h posEq_o posEq_i posEq_ho posEq_hi posEq_oh posEq_ih posEq_oi posEq_io sel_true sel_false
  okv_some step_mv step_call step_pick pickV_bool step_bin bin_add bin_sub bin_mul bin_eql bin_neq bin_lss bin_leq bin_gtr bin_geq bin_eqb bin_neb bin_eqs bin_nes step_un un_not un_neg step_len len_slice len_str len_const step_extract extractV nth step_convInt conv_int step_convStr step_slice step_idxAddr natOf_nat step_load step_index step_field step_fieldAddr step_build step_minmax
  step_alloc step_bslice bsliceV_some newV_some step_store step_append boolIs_b boolIs_t finQ_ret finQ_normal ressE_nil ressE_cons resE_tmp consO_some initE_nil initE_cons pos_0 pos_1 pos_2 pos_3 pos_4 pos_5 pos_6 pos_7 pos_8 plain_bool plain_int plain_str plain_ptr plain_slice plain_map plain_agg plain_func plain_nilFunc V.undef oneOf_one oneOf_two ble_self
open Go.Vabs.Pk Go.Vabs.Ph Go.Vabs.Sa Go.Vabs.Sb Go.Vabs.Sc Go.Vabs.Sd Go.Vabs.Se Go.Vabs.Sg Go.Vabs.Sh Go.Vabs.Sm Go.Vabs.Sn Go.Vabs.Sp Go.Vabs.Sr Go.Vabs.St Go.Vabs.Su Go.Vabs.L2 Go.Vabs.Na Go.Vabs.Nb Go.Vabs.Ra Go.Vabs.Rb Go.Vabs.Rc Go.Vabs.Rd Go.Vabs.Re Go.Vabs.Rf Go.Vabs.Rg
attribute [local simp] step_nilchk nilchk_ptr step_box cells_int cells_bool cells_str cells_slice cells_ptr cells_agg fieldAddrV natOf_zero fill repN splice over newV step_appendZ
  wp_dreg wpDs_nil wpDs_cons wantedE_none wantedE_some wpDGuard_true wpDGuard_lim wpDGuard_false wpDLim_true wpDVal_free wpDVal_lim back_limited next_limited limF_dir foot_load foot_convStr okAll_nil okAll_cons pastsOf nthP ahead few_next load_limited convStr_limited blt_dec okPair_dd okPair_dc okPair_cd okPair_cc anyIn_nil anyIn_same anyIn_cons meets_nil meets_nil'
theorem held_grow {os : List (Option AObj)} {p : Nat} {b nb : List Nat} {m : Nat} (h : (os[p]?).join = some (newBytes b)) (hm : nb.length = m + 1) (hs : b.length + nb.length < 70368744177664) :
    ∃ q os', appendV (few os) 1 1 (heldV p b) (some (m + 1)) (some (bytesV nb)) = some (.slice (some (q, 0)) 1 (b.length + (m + 1)) (b.length + (m + 1)) false, few os') ∧ (os'[q]?).join = some (newBytes (b ++ nb)) ∧ (∀ i, i < os.length → i ≠ p → (os'[i]?).join = (os[i]?).join) ∧ os.length ≤ os'.length := by
  by_cases h0 : b = []
  · subst h0
    have hh : heldV p [] = .slice (some (p, 0)) 1 0 0 true := rfl
    rw [hh]
    have := grow_fix (n := 0) (c := 0) (new := bytesV nb) h rfl (by rw [bytesV_len, hm]) (by simp at hs; omega)
    refine ⟨os.length, _, this, by simp [newBytes, bytesV], fun i hi _ => join_app hi, by simp⟩
  · have hh : heldV p b = fV (some p) b.length := by unfold heldV; rw [decide_eq_false h0]; rfl
    have hf : FA os 0 (some p) b := ⟨Nat.zero_le _, h⟩
    obtain ⟨o', os', g1, g2, g3, g4, g5⟩ := hf.grow (Nat.zero_le _) nb (by omega)
    cases o' with
    | none =>
      have h1 : b ++ nb = [] := g2
      exact absurd (List.append_eq_nil_iff.1 h1).1 h0
    | some q =>
      rw [hh, ← hm]
      exact ⟨q, os', g1, g2.2, fun i hi hne => g3 i hi (fun e => hne (by injection e with e; exact e.symm)), g4⟩
def dImg (x y : Int) (b : List Nat) (i : Nat) : List Nat := dataB (m16 x) (m16 y) tPng (b.take 30 ++ [i])
def stkD (x y : Int) (b : List Nat) (to i : Nat) : Stk := (20 + 20 * i, [dImg x y b i, [], dataB 9 9 tDupe [0, 0], dataB 7 7 tDupe [0, to]])
def stkDs (x y : Int) (b : List Nat) (to k : Nat) : List Stk := (List.range k).map (stkD x y b to)
theorem stkDs_succ {x y : Int} {b : List Nat} {to k : Nat} : stkDs x y b to (k + 1) = stkDs x y b to k ++ [stkD x y b to k] := by unfold stkDs; rw [List.range_succ]; simp
theorem stkDs_len {x y : Int} {b : List Nat} {to k : Nat} : (stkDs x y b to k).length = k := by simp [stkDs]
theorem stkDs_at {x y : Int} {b : List Nat} {to k i : Nat} {s : Stk} (h : (stkDs x y b to k)[i]? = some s) : s = stkD x y b to i ∧ i < k := by
  have hi := (List.getElem?_eq_some_iff.1 h).1
  rw [stkDs_len] at hi
  unfold stkDs at h
  rw [List.getElem?_map, List.getElem?_range hi] at h
  cases h
  exact ⟨rfl, hi⟩
theorem tDupe_lt : ∀ c ∈ tDupe, c < 256 := by decide
theorem dImg_len {x y : Int} {b : List Nat} {i : Nat} : (dImg x y b i).length = 8 + ((b.take 30).length + 1) := by unfold dImg; rw [dataB_len rfl, List.length_append]; rfl
theorem stkDs_ok {x y : Int} {b : List Nat} {to k : Nat} (hk : k ≤ 2) (hto : to < 3) (hb : ∀ c ∈ b, c < 256) : ∀ s ∈ stkDs x y b to k, StkOk s := by
  intro s hs
  obtain ⟨i, hi, he⟩ := List.mem_iff_getElem.1 hs
  obtain ⟨rfl, h3⟩ := stkDs_at (x := x) (y := y) (b := b) (to := to) (k := k) (i := i) (s := s) (by rw [List.getElem?_eq_getElem hi, he])
  refine ⟨by show 20 + 20 * i < 65536; omega, by show 4 ≤ 16; omega, fun d hd => ?_⟩
  have hd : d = dImg x y b i ∨ d = [] ∨ d = dataB 9 9 tDupe [0, 0] ∨ d = dataB 7 7 tDupe [0, to] := by
    unfold stkD at hd
    simpa using hd
  have h30 : (b.take 30).length ≤ 30 := by rw [List.length_take]; omega
  rcases hd with rfl | rfl | rfl | rfl
  · refine ⟨by rw [dImg_len]; omega, dataB_lt tPng_lt fun c hc => ?_⟩
    rcases List.mem_append.1 hc with hc | hc
    · exact hb c (List.mem_of_mem_take hc)
    · rw [List.mem_singleton] at hc; omega
  · exact ⟨by simp, fun c hc => by cases hc⟩
  · exact ⟨by rw [dataB_len rfl]; simp, dataB_lt tDupe_lt fun c hc => by simp at hc; omega⟩
  · exact ⟨by rw [dataB_len rfl]; simp, dataB_lt tDupe_lt fun c hc => by simp at hc; omega⟩
theorem png_str {os : List (Option AObj)} {p : Nat} {d : List Nat} {z8 : Nat} (h : (os[p]?).join = some (newBytes d)) (hd : ∀ c ∈ d, c < 256) (hz : 8 + z8 = d.length) : convV (few os) .toStr (.slice (some (p, 8)) 1 z8 z8 false) = some (.str (d.drop 8)) := by
  have := str_part (c := z8) (f := false) (m := z8) (n := d.length) (o := 0) h (by rw [bytesV_len]; omega) (by rw [List.drop_zero, List.take_of_length_le (by rw [bytesV_len]; omega)]) hd 8 (by omega)
  rw [List.take_of_length_le (by rw [List.length_drop]; omega)] at this
  exact this
set_option maxHeartbeats 4000000 in
theorem DupLast_run {call : CallT} {lf nK : Nat} (hlf : 70 ≤ lf) (hK : ∀ st, call nK [] st = some (.bool true, st)) {X : List (Option AObj)} {x y : Int} {A C D p p2 z8 pp : Nat} {to g : Nat} {d : List Nat}
    (hA : (X[A]?).join = some (.cells true [.int .i64 x, .int .i64 y, .int .i64 (pp : Int), .slice (some (p, 8)) 1 z8 z8 false])) (hD : (X[D]?).join = some (.cells true [.int .i64 x, .int .i64 y, .int .i64 (pp : Int), .slice (some (p2, 8)) 1 z8 z8 false]))
    (hp : (X[p]?).join = some (newBytes d)) (hp2 : (X[p2]?).join = some (newBytes d)) (hd : ∀ c ∈ d, c < 256) (hz : 8 + z8 = d.length)
    (hto : (to = 0 ∧ g = 0 ∧ ∃ p3, (X[C]?).join = some (.cells true [.int .i64 x, .int .i64 y, .int .i64 (pp : Int), .slice (some (p3, 8)) 1 z8 z8 false]) ∧ (X[p3]?).join = some (newBytes d)) ∨ (to = 1 ∧ g = 6) ∨ (to = 2 ∧ g = 2))
    {s : Env} (s1 : s .h = .int .i64 x) (s2 : s (.o .h) = .int .i64 y) (s3 : s (.i .h) = .int .i64 (to : Int)) (s4 : s (.o (.i (.o (.o .h)))) = .ptr (some (A, 0))) (s5 : s (.i (.i (.o (.o .h)))) = .int .i64 0) (s6 : s (.o (.o (.i (.o .h)))) = .ptr (some (C, 0))) (s7 : s (.i (.o (.i (.o .h)))) = .int .i64 (g : Int)) (s8 : s (.o (.i (.i (.o .h)))) = .ptr (some (D, 0))) (s9 : s (.i (.i (.i (.o .h)))) = .int .i64 0) :
    wp call lf (DupLast nK) s (few X) (finQ [ARes.tmp (.i (.i (.o .h)))] fun u _ => u = .bool true) := by
  unfold DupLast
  have a0 : loadV (few X) false 1 (.ptr (some (A, 0))) = some (.int .i64 x) := (load_few hA).trans rfl
  have a1 : loadV (few X) false 1 (.ptr (some (A, 1))) = some (.int .i64 y) := (load_few hA).trans rfl
  have a2 : loadV (few X) false 1 (.ptr (some (A, 2))) = some (.int .i64 (pp : Int)) := (load_few hA).trans rfl
  have a3 : loadV (few X) false 1 (.ptr (some (A, 3))) = some (.slice (some (p, 8)) 1 z8 z8 false) := (load_few hA).trans rfl
  have b0 : loadV (few X) false 1 (.ptr (some (D, 0))) = some (.int .i64 x) := (load_few hD).trans rfl
  have b1 : loadV (few X) false 1 (.ptr (some (D, 1))) = some (.int .i64 y) := (load_few hD).trans rfl
  have b2 : loadV (few X) false 1 (.ptr (some (D, 2))) = some (.int .i64 (pp : Int)) := (load_few hD).trans rfl
  have b3 : loadV (few X) false 1 (.ptr (some (D, 3))) = some (.slice (some (p2, 8)) 1 z8 z8 false) := (load_few hD).trans rfl
  have t1 := png_str hp hd hz
  have t2 := png_str hp2 hd hz
  obtain ⟨w, hw⟩ : ∃ w, w = d.drop 8 := ⟨_, rfl⟩
  rw [← hw] at t1 t2
  rcases hto with ⟨rfl, rfl, p3, hC, hp3⟩ | ⟨rfl, rfl⟩ | ⟨rfl, rfl⟩
  · have c0 : loadV (few X) false 1 (.ptr (some (C, 0))) = some (.int .i64 x) := (load_few hC).trans rfl
    have c3 : loadV (few X) false 1 (.ptr (some (C, 3))) = some (.slice (some (p3, 8)) 1 z8 z8 false) := (load_few hC).trans rfl
    have t3 := png_str hp3 hd hz
    rw [← hw] at t3
    simp (disch := omega) [s1, s2, s3, s4, s5, s6, s7, s8, s9, hK, a0, a1, a2, a3, b0, b1, b2, b3, t1, t2, c0, c3, t3, dlt_t, dlt_f, dle_t, dle_f, dltn_t, dltn_f, dlen_t, dlen_f, deq_t, deq_f, deqn_t, deqn_f]
  · simp (disch := omega) [s1, s2, s3, s4, s5, s6, s7, s8, s9, hK, a0, a1, a2, a3, b0, b1, b2, b3, t1, t2, dlt_t, dlt_f, dle_t, dle_f, dltn_t, dltn_f, dlen_t, dlen_f, deq_t, deq_f, deqn_t, deqn_f]
  · simp (disch := omega) [s1, s2, s3, s4, s5, s6, s7, s8, s9, hK, a0, a1, a2, a3, b0, b1, b2, b3, t1, t2, dlt_t, dlt_f, dle_t, dle_f, dltn_t, dltn_f, dlen_t, dlen_f, deq_t, deq_f, deqn_t, deqn_f]
theorem be_two {a b : Nat} : be [a, b] = a * 256 + b := by unfold be; simp
theorem dupe_num {x y to : Nat} : num (dataB x y tDupe [0, to]) 8 2 = some to := by
  have := num_mid (bs := dataB x y tDupe [0, to]) (z := 2) (m := 8) (A := bigB x 2 ++ bigB y 2 ++ tDupe) (W := [0, to]) (B := []) (by simp [dataB]) (by simp [bigB_len, tDupe]) rfl
  rw [show (8 : Int) = ((8 : Nat) : Int) from rfl, this, be_two]
  simp
set_option maxHeartbeats 8000000 in
theorem DupRest_run {call : CallT} {lf nP nS nO nF nK : Nat} (hlf : 70 ≤ lf) (hP : PickF call nP) (hS : SbixF call nS) (hO : OneTF call nO) (hF : FindF call nF) (hF1 : DupeF call nF) (hF2 : DupeNoF call nF) (hF3 : DupeDupeF call nF) (hK : ∀ st, call nK [] st = some (.bool true, st))
    {N r : Nat} {os X : List (Option AObj)} {x y ask : Int} {b : List Nat} {to : Nat} (hH : StkRack N os X r (stkDs x y b to 2)) (hto : to < 3) (hb : ∀ c ∈ b, c < 256) (hx : -32768 ≤ x ∧ x < 32768) (hy : -32768 ≤ y ∧ y < 32768)
    {s : Env} (s1 : s .h = .int .i64 x) (s2 : s (.o .h) = .int .i64 y) (s3 : s (.i .h) = .int .i64 (to : Int)) (s4 : s (.i (.o .h)) = .int .i64 ask) (s5 : s (.o (.o (.i .h))) = .slice (some (r, 0)) 2 2 2 false) :
    wp call lf (DupRest nP nS nO nF nK) s (few X) (finQ [ARes.tmp (.i (.i (.o .h)))] fun u _ => u = .bool true) := by
  unfold DupRest
  obtain ⟨l, hl⟩ : ∃ l, l = stkDs x y b to 2 := ⟨_, rfl⟩
  have hln : l.length = 2 := by rw [hl, stkDs_len]
  have hok : ∀ s ∈ l, StkOk s := by rw [hl]; exact stkDs_ok (by omega) hto hb
  rw [← hl] at hH
  obtain ⟨p, Y1, c1, k1, k2, k3⟩ := hS X (pairS r 2) l (by have := hH.at_ hok; rw [hln] at this; exact this) (by omega) hok
  have hv : pairS r 2 = .slice (some (r, 0)) 2 2 2 false := if_neg (by omega)
  rw [hv] at c1
  have hB256 := sbixB_lt hok
  have hBl := sbix_le (l := l) (by omega) hok
  obtain ⟨og, ol⟩ := lookB_own (f := false) k3 hB256
  obtain ⟨F, G, Y2, c2, hfm, hrm, k4, k5⟩ := hO Y1 _ tSbix (sbixB l) rfl (by decide) og ol (by omega)
  unfold tSbix at c2
  obtain ⟨c, hc⟩ : ∃ c, c = (pickI ask 60).toNat := ⟨_, rfl⟩
  have hpk := pickI_lt (n := ask) (m := 60) (by omega)
  have pk : ∀ st, call nP [.int .i64 ask, .int .i64 60] st = some (.int .i64 (c : Int), st) := fun st => by rw [hP _ _ _ (by omega) (by omega), show pickI ask 60 = (c : Int) from by omega]
  obtain ⟨B, hBe⟩ : ∃ B, B = (sbixB l).length := ⟨_, rfl⟩
  rw [← hBe] at c1 c2
  have hso := strikes_ok (l := l) (by omega) hok
  obtain ⟨M, hM⟩ : ∃ M, M = Y2.length := ⟨_, rfl⟩
  obtain ⟨Y3', hY3'⟩ : ∃ Y, Y = Y2 ++ [some (AObj.cells true [.int .i64 0, .int .i64 0, .bool false])] := ⟨_, rfl⟩
  have al3 : (few Y2).alloc (.cells true [.int .i64 0, .int .i64 0, .bool false]) = some (M, few Y3') := by rw [hY3', hM]; exact few_alloc Y2 _
  obtain ⟨Y3, hY3⟩ : ∃ Y, Y = Y2 ++ [some (AObj.cells true [.int .i64 1000, .int .i64 4, .bool false])] := ⟨_, rfl⟩
  have st3 : storeV (few Y3') 3 (.ptr (some (M, 0))) (some [.int .i64 1000, .int .i64 4, .bool false]) = some (V.undef, few Y3) := by rw [hY3', hY3, hM]; exact storeNew rfl rfl
  have e3 : Y3.length = M + 1 := by rw [hY3, hM]; simp
  have aM : (Y3[M]?).join = some (.cells true [.int .i64 1000, .int .i64 4, .bool false]) := by rw [hY3, hM]; simp
  have ldM : ∀ Y : List (Option AObj), (∀ i, i < Y3.length → (Y[i]?).join = (Y3[i]?).join) → loadV (few Y) true 3 (.ptr (some (M, 0))) = some (.agg [.int .i64 1000, .int .i64 4, .bool false]) := fun Y hY => loadAll (own := true) (by rw [hY M (by omega)]; exact aM) rfl
  have hf3 := hfm.keep (os' := Y3) fun i hi => by rw [hY3, join_app hi]
  have hne : prs l ≠ [] := fun e => by have := congrArg List.length e; rw [prs_len, hln] at this; simp at this
  obtain ⟨i0, a, hch, hai, _⟩ := chosen_law (p := (c : Int) + 1) hne
  obtain ⟨s0, hs0, rfl⟩ := prs_at hai
  obtain ⟨hs0e, hi0⟩ := stkDs_at (x := x) (y := y) (b := b) (to := to) (k := 2) (i := i0) (s := s0) (by rw [← hl]; exact hs0)
  have hs2 : s0.2 = [dImg x y b i0, [], dataB 9 9 tDupe [0, 0], dataB 7 7 tDupe [0, to]] := by rw [hs0e]; rfl
  have hdl0 := dImg_len (x := x) (y := y) (b := b) (i := i0)
  obtain ⟨D0, q0, w0⟩ := data_at (l := l) (by omega) hok hs0 (k := 0) (d := dImg x y b i0) (by rw [hs2]; rfl)
  obtain ⟨D1, q1, w1⟩ := data_at (l := l) (by omega) hok hs0 (k := 1) (d := []) (by rw [hs2]; rfl)
  obtain ⟨D2, q2, w2⟩ := data_at (l := l) (by omega) hok hs0 (k := 2) (d := dataB 9 9 tDupe [0, 0]) (by rw [hs2]; rfl)
  obtain ⟨D3, q3, w3⟩ := data_at (l := l) (by omega) hok hs0 (k := 3) (d := dataB 7 7 tDupe [0, to]) (by rw [hs2]; rfl)
  have hl2 : (dataB 9 9 tDupe [0, 0]).length = 10 := dataB_len rfl
  have hl3 : (dataB 7 7 tDupe [0, to]).length = 10 := dataB_len rfl
  have tag0 : ((dImg x y b i0).drop 4).take 4 = tPng := dataB_tag rfl
  have sx : sgn 2 (nm (dImg x y b i0) 0 2) = x := by unfold dImg; rw [dataB_x, sgn_m16 hx.1 hx.2]
  have sy : sgn 2 (nm (dImg x y b i0) 2 2) = y := by unfold dImg; rw [dataB_y, sgn_m16 hy.1 hy.2]
  have hd256 : ∀ c ∈ dImg x y b i0, c < 256 := (hok s0 (List.mem_of_getElem? hs0)).each _ (by rw [hs2]; simp) |>.2
  obtain ⟨d, hd⟩ : ∃ d, d = dImg x y b i0 := ⟨_, rfl⟩
  rw [← hd] at q0 w0 tag0 sx sy hd256 hdl0
  obtain ⟨z8, hz8⟩ : ∃ z, z = d.length - 8 := ⟨_, rfl⟩
  obtain ⟨pp, hpp⟩ : ∃ p, p = s0.1 := ⟨_, rfl⟩
  have fv : ∀ p, foundV d (atK l i0, s0.1) p = .agg [.int .i64 x, .int .i64 y, .int .i64 (pp : Int), .slice (some (p, 8)) 1 z8 z8 false] := fun p => by unfold foundV imgV; rw [sx, sy, hz8, hpp]
  obtain ⟨zz, hzz⟩ : ∃ z : List V, z = [.int .i64 0, .int .i64 0, .int .i64 0, .slice none 0 0 0 true] := ⟨_, rfl⟩
  have mem4 : ∀ (Y : List (Option AObj)) (w : List V), w.length = 4 → ∃ Y' Y'', (few Y).alloc (.cells true [.int .i64 0, .int .i64 0, .int .i64 0, .slice none 0 0 0 true]) = some (Y.length, few Y') ∧ storeV (few Y') 4 (.ptr (some (Y.length, 0))) (some w) = some (V.undef, few Y'') ∧ (Y''[Y.length]?).join = some (.cells true w) ∧ (∀ i, i < Y.length → (Y''[i]?).join = (Y[i]?).join) ∧ Y.length ≤ Y''.length := fun Y w hw =>
    ⟨Y ++ [some (.cells true [.int .i64 0, .int .i64 0, .int .i64 0, .slice none 0 0 0 true])], Y ++ [some (.cells true w)], few_alloc Y _, storeNew rfl hw, by simp, fun i hi => join_app hi, by simp⟩
  -- the first
  obtain ⟨p1, Y4, f1, g1, g2, g3⟩ := hF Y3 F 4 (sbixB l) (prs l) (atK l i0, s0.1) ((c : Int) + 1) 0 _ _ hf3 hB256 hso hch (by omega) D0 (by omega) (by rw [w0]; exact tag0)
  rw [w0, fv] at f1
  rw [w0] at g3
  have f1 : call nF [.ptr (some (F, 0)), .agg [.int .i64 1000, .int .i64 4, .bool false], .int .i64 (1 + (c : Int)), .int .i64 0] (few Y3) = some (.tuple [.agg [.int .i64 x, .int .i64 y, .int .i64 (pp : Int), .slice (some (p1, 8)) 1 z8 z8 false], .int .i64 0], few Y4) := by rw [Int.add_comm 1]; exact f1
  obtain ⟨Y5, Y6, m1, m2, m3, m4, m5⟩ := mem4 Y4 [.int .i64 x, .int .i64 y, .int .i64 (pp : Int), .slice (some (p1, 8)) 1 z8 z8 false] rfl
  obtain ⟨A, hA⟩ : ∃ A, A = Y4.length := ⟨_, rfl⟩
  rw [← hA] at m1 m2 m3 m4 m5
  have k6 : ∀ i, i < Y3.length → (Y6[i]?).join = (Y3[i]?).join := fun i hi => by rw [m4 i (by omega), g1 i hi]
  have hf6 := hf3.keep k6
  have ld3 := ldM Y3 fun i _ => rfl
  have ld6 := ldM Y6 k6
  have p1l := join_lt g3
  have Al := join_lt m3
  -- the second: whose data they are is told by to
  have second : ∃ (g : Nat) (w : List V) (Y7 : List (Option AObj)), w.length = 4 ∧ call nF [.ptr (some (F, 0)), .agg [.int .i64 1000, .int .i64 4, .bool false], .int .i64 (1 + (c : Int)), .int .i64 3] (few Y6) = some (.tuple [.agg w, .int .i64 (g : Int)], few Y7) ∧ (∀ i, i < Y6.length → (Y7[i]?).join = (Y6[i]?).join) ∧ Y6.length ≤ Y7.length ∧
      ((to = 0 ∧ g = 0 ∧ ∃ p3, w = [.int .i64 x, .int .i64 y, .int .i64 (pp : Int), .slice (some (p3, 8)) 1 z8 z8 false] ∧ (Y7[p3]?).join = some (newBytes d)) ∨ (to = 1 ∧ g = 6) ∨ (to = 2 ∧ g = 2)) := by
    rcases (by omega : to = 0 ∨ to = 1 ∨ to = 2) with h0 | h0 | h0
    · obtain ⟨p3, Y7, f3, j1, j2, j3⟩ := hF1 Y6 F 4 (sbixB l) (prs l) (atK l i0, s0.1) ((c : Int) + 1) 3 _ _ to _ _ hf6 hB256 hso hch (by omega) D3 (by omega) (by rw [w3]; exact dataB_tag rfl) (by rw [w3]; exact dupe_num) (by omega) (by rw [h0]; exact D0) (by omega) (by rw [w0]; exact tag0)
      rw [w0, fv] at f3
      rw [w0] at j3
      exact ⟨0, _, Y7, rfl, by rw [Int.add_comm 1]; exact f3, j1, j2, .inl ⟨h0, rfl, p3, rfl, j3⟩⟩
    · have D1' : DataAt (sbixB l) (atK l i0, s0.1) to (fromK s0.2 1) (fromK s0.2 1) := by rw [h0]; rw [show fromK s0.2 (1 + 1) = fromK s0.2 1 from by rw [q1]; rfl] at D1; exact D1
      obtain ⟨Y7, f3, j1, j2⟩ := hF2 Y6 F 4 (sbixB l) (prs l) (atK l i0, s0.1) ((c : Int) + 1) 3 _ _ to _ hf6 hB256 hso hch (by omega) D3 (by omega) (by rw [w3]; exact dataB_tag rfl) (by rw [w3]; exact dupe_num) (by omega) D1'
      exact ⟨6, _, Y7, rfl, by rw [Int.add_comm 1]; exact f3, j1, j2, .inr (.inl ⟨h0, rfl⟩)⟩
    · obtain ⟨Y7, f3, j1, j2⟩ := hF3 Y6 F 4 (sbixB l) (prs l) (atK l i0, s0.1) ((c : Int) + 1) 3 _ _ to _ _ hf6 hB256 hso hch (by omega) D3 (by omega) (by rw [w3]; exact dataB_tag rfl) (by rw [w3]; exact dupe_num) (by omega) (by rw [h0]; exact D2) (by omega) (by rw [w2]; exact dataB_tag rfl)
      exact ⟨2, _, Y7, rfl, by rw [Int.add_comm 1]; exact f3, j1, j2, .inr (.inr ⟨h0, rfl⟩)⟩
  obtain ⟨g, w, Y7, hw4, f3, j1, j2, hcase⟩ := second
  obtain ⟨Y8, Y9, n1, n2, n3, n4, n5⟩ := mem4 Y7 w hw4
  obtain ⟨C, hC⟩ : ∃ A, A = Y7.length := ⟨_, rfl⟩
  rw [← hC] at n1 n2 n3 n4 n5
  have k9 : ∀ i, i < Y6.length → (Y9[i]?).join = (Y6[i]?).join := fun i hi => by rw [n4 i (by omega), j1 i hi]
  have hf9 := hf6.keep k9
  have ld9 := ldM Y9 fun i hi => by rw [k9 i (by omega), k6 i hi]
  -- the third
  obtain ⟨p5, Y10, f5, o1, o2, o3⟩ := hF1 Y9 F 4 (sbixB l) (prs l) (atK l i0, s0.1) ((c : Int) + 1) 2 _ _ 0 _ _ hf9 hB256 hso hch (by omega) D2 (by omega) (by rw [w2]; exact dataB_tag rfl) (by rw [w2]; exact dupe_num) (by omega) D0 (by omega) (by rw [w0]; exact tag0)
  rw [w0, fv] at f5
  rw [w0] at o3
  have f5 : call nF [.ptr (some (F, 0)), .agg [.int .i64 1000, .int .i64 4, .bool false], .int .i64 (1 + (c : Int)), .int .i64 2] (few Y9) = some (.tuple [.agg [.int .i64 x, .int .i64 y, .int .i64 (pp : Int), .slice (some (p5, 8)) 1 z8 z8 false], .int .i64 0], few Y10) := by rw [Int.add_comm 1]; exact f5
  obtain ⟨Y11, Y12, r1, r2, r3, r4, r5⟩ := mem4 Y10 [.int .i64 x, .int .i64 y, .int .i64 (pp : Int), .slice (some (p5, 8)) 1 z8 z8 false] rfl
  obtain ⟨E, hE⟩ : ∃ A, A = Y10.length := ⟨_, rfl⟩
  rw [← hE] at r1 r2 r3 r4 r5
  have k12 : ∀ i, i < Y9.length → (Y12[i]?).join = (Y9[i]?).join := fun i hi => by rw [r4 i (by omega), o1 i hi]
  have Cl := join_lt n3
  have aA : (Y12[A]?).join = some (.cells true [.int .i64 x, .int .i64 y, .int .i64 (pp : Int), .slice (some (p1, 8)) 1 z8 z8 false]) := by rw [k12 A (by omega), k9 A (by omega)]; exact m3
  have ap1 : (Y12[p1]?).join = some (newBytes d) := by rw [k12 p1 (by omega), k9 p1 (by omega), m4 p1 (by omega)]; exact g3
  have ap5 : (Y12[p5]?).join = some (newBytes d) := by rw [r4 p5 (by have := join_lt o3; omega)]; exact o3
  have aC : (Y12[C]?).join = some (.cells true w) := by rw [k12 C (by omega)]; exact n3
  have hcase' : (to = 0 ∧ g = 0 ∧ ∃ p3, (Y12[C]?).join = some (.cells true [.int .i64 x, .int .i64 y, .int .i64 (pp : Int), .slice (some (p3, 8)) 1 z8 z8 false]) ∧ (Y12[p3]?).join = some (newBytes d)) ∨ (to = 1 ∧ g = 6) ∨ (to = 2 ∧ g = 2) := by
    rcases hcase with ⟨h1, h2, p3, h3, h4⟩ | h | h
    · refine .inl ⟨h1, h2, p3, by rw [← h3]; exact aC, ?_⟩
      have := join_lt h4
      rw [k12 p3 (by omega), n4 p3 (by omega)]; exact h4
    · exact .inr (.inl h)
    · exact .inr (.inr h)
  have last : ∀ {t : Env}, t .h = .int .i64 x → t (.o .h) = .int .i64 y → t (.i .h) = .int .i64 (to : Int) → t (.o (.i (.o (.o .h)))) = .ptr (some (A, 0)) → t (.i (.i (.o (.o .h)))) = .int .i64 0 → t (.o (.o (.i (.o .h)))) = .ptr (some (C, 0)) → t (.i (.o (.i (.o .h)))) = .int .i64 (g : Int) → t (.o (.i (.i (.o .h)))) = .ptr (some (E, 0)) → t (.i (.i (.i (.o .h)))) = .int .i64 0 → wp call lf (DupLast nK) t (few Y12) (finQ [ARes.tmp (.i (.i (.o .h)))] fun u _ => u = .bool true) := fun t1 t2 t3 t4 t5 t6 t7 t8 t9 =>
    DupLast_run hlf hK aA r3 ap1 ap5 hd256 (by omega) hcase' t1 t2 t3 t4 t5 t6 t7 t8 t9
  have cw : (V.agg w).cells = some w := rfl
  simp (disch := omega) [s1, s2, s3, s4, s5, c1, c2, al3, st3, pk, wrap_i, ld3, f1, m1, m2, ld6, f3, n1, n2, ld9, f5, r1, r2]
  refine last ?_ ?_ ?_ ?_ ?_ ?_ ?_ ?_ ?_ <;> simp [s1, s2, s3]
set_option maxHeartbeats 8000000 in
theorem Dupes_run {call : CallT} {lf nP nW nD nS nO nF nK : Nat} (hlf : 70 ≤ lf) (hP : PickF call nP) (hW : FewF call nW) (hDa : DataZF call nD) (hS : SbixF call nS) (hO : OneTF call nO) (hF : FindF call nF) (hF1 : DupeF call nF) (hF2 : DupeNoF call nF) (hF3 : DupeDupeF call nF) (hK : ∀ st, call nK [] st = some (.bool true, st))
    {os : List (Option AObj)} {x0 y0 to0 ask : Int} {w : V} {b : List Nat} (hw : ParB os w b) :
    ∃ s1, enterF call lf [.int .i64 x0, .int .i64 y0, .int .i64 to0, w, .int .i64 ask] (few os) (Dupes_c nP nW nD nS nO nF nK) = some (.bool true, s1) := by
  refine enter_ex ?_
  obtain ⟨cx, hcx⟩ : ∃ c, c = (pickI x0 65536).toNat := ⟨_, rfl⟩
  have hpx := pickI_lt (n := x0) (m := 65536) (by omega)
  have pkx : ∀ st, call nP [.int .i64 x0, .int .i64 65536] st = some (.int .i64 (cx : Int), st) := fun st => by rw [hP _ _ _ (by omega) (by omega), show pickI x0 65536 = (cx : Int) from by omega]
  obtain ⟨cy, hcy⟩ : ∃ c, c = (pickI y0 65536).toNat := ⟨_, rfl⟩
  have hpy := pickI_lt (n := y0) (m := 65536) (by omega)
  have pky : ∀ st, call nP [.int .i64 y0, .int .i64 65536] st = some (.int .i64 (cy : Int), st) := fun st => by rw [hP _ _ _ (by omega) (by omega), show pickI y0 65536 = (cy : Int) from by omega]
  obtain ⟨to, hto⟩ : ∃ c, c = (pickI to0 3).toNat := ⟨_, rfl⟩
  have hpt := pickI_lt (n := to0) (m := 3) (by omega)
  have pkt : ∀ st, call nP [.int .i64 to0, .int .i64 3] st = some (.int .i64 (to : Int), st) := fun st => by rw [hP _ _ _ (by omega) (by omega), show pickI to0 3 = (to : Int) from by omega]
  obtain ⟨x, hx⟩ : ∃ x : Int, x = (cx : Int) - 32768 := ⟨_, rfl⟩
  obtain ⟨y, hy⟩ : ∃ y : Int, y = (cy : Int) - 32768 := ⟨_, rfl⟩
  obtain ⟨N, hNe⟩ : ∃ N, N = os.length := ⟨_, rfl⟩
  have hst := StkRack.start (os := os)
  rw [← hNe] at hst
  have hb256 := bytesAt_lt (lookB_at hw.look)
  have hwl := hw.len
  simp (disch := omega) [pkx, pky, pkt, wrap_i, ← hx, ← hy]
  refine wp_loop (fun k s st => ∃ i X r, i + k = 2 ∧ st = few X ∧ StkRack N os X r (stkDs x y b to i) ∧
    s .h = .int .i64 x ∧ s (.o .h) = .int .i64 y ∧ s (.i .h) = .int .i64 (to : Int) ∧ s (.o (.o .h)) = w ∧ s (.i (.o .h)) = .int .i64 ask ∧ s (.o (.o (.i .h))) = pairS r i ∧ s (.i (.o (.i .h))) = .int .i64 (i : Int)) 2 ?_ (by omega) ?_
  · refine ⟨0, os, 0, by omega, rfl, hst, ?_, ?_, ?_, ?_, ?_, ?_, ?_⟩ <;> simp [pairS, hx, hy]
  · rintro k s st ⟨i, X0, r, hk, rfl, hH, s1, s2, s3, s4, s5, s6, s7⟩
    cases k with
    | zero =>
      have hin : i = 2 := by omega
      subst hin
      have hrest : ∀ {t : Env}, t .h = .int .i64 x → t (.o .h) = .int .i64 y → t (.i .h) = .int .i64 (to : Int) → t (.i (.o .h)) = .int .i64 ask → t (.o (.o (.i .h))) = .slice (some (r, 0)) 2 2 2 false → wp call lf (DupRest nP nS nO nF nK) t (few X0) (finQ [ARes.tmp (.i (.i (.o .h)))] fun u _ => u = .bool true) := fun h1 h2 h3 h4 h5 =>
        DupRest_run hlf hP hS hO hF hF1 hF2 hF3 hK hH (by omega) hb256 (by omega) (by omega) h1 h2 h3 h4 h5
      have s6 : s (.o (.o (.i .h))) = .slice (some (r, 0)) 2 2 2 false := s6
      simp (disch := omega) [s1, s2, s3, s4, s5, s6, s7, dlt_t, dlt_f, dle_t, dle_f, dltn_t, dltn_f, dlen_t, dlen_f, deq_t, deq_f, deqn_t, deqn_f]
      refine hrest ?_ ?_ ?_ ?_ ?_ <;> simp [s1, s2, s3, s5, s6]
    | succ k =>
      have hi2 : i < 2 := by omega
      have hle := hH.le
      have hwX := hw.keep (os' := X0) (fun j hj => hH.old j (by omega)) (by omega)
      obtain ⟨x0', hx0'⟩ : ∃ x, x = X0.length := ⟨_, rfl⟩
      -- the bytes, with the strike's number behind them
      have fw := hW X0 w b 30 (lookB_at hwX.look) (by omega) (by omega)
      obtain ⟨p, l1, hcl, hpl, hpb⟩ := clone_held (os := X0) (b := b.take 30)
      rw [hcl] at fw
      obtain ⟨X1, hX1⟩ : ∃ X, X = X0 ++ l1 := ⟨_, rfl⟩
      rw [← hX1] at fw hpb
      have fw : call nW [w, .int .i64 30] (few X0) = some (heldV p (b.take 30), few X1) := fw
      have l1e : X0.length ≤ X1.length := by rw [hX1]; simp
      obtain ⟨x1, hx1⟩ : ∃ x, x = X1.length := ⟨_, rfl⟩
      obtain ⟨X2, hX2⟩ : ∃ X, X = X1 ++ [some (newBytes [i])] := ⟨_, rfl⟩
      have al2 : (few X1).alloc (.cells true [.int .u8 (i : Int)]) = some (x1, few X2) := by rw [hX2, hx1]; exact few_alloc X1 _
      have e2 : X2.length = x1 + 1 := by rw [hX2, hx1]; simp
      have fi2 : firstN (few X2) 1 1 (.slice (some (x1, 0)) 1 1 1 true) = some (bytesV [i]) := first_own (bs := [i]) (by rw [hX2, hx1]; simp)
      have hpb2 : (X2[p]?).join = some (newBytes (b.take 30)) := by rw [hX2, join_app (join_lt hpb)]; exact hpb
      have h30 : (b.take 30).length ≤ 30 := by rw [List.length_take]; omega
      obtain ⟨q, X3, g3, q3, k3, le3⟩ := held_grow (nb := [i]) (m := 0) hpb2 rfl (by simp; omega)
      obtain ⟨bl, hbl⟩ : ∃ n, n = (b.take 30).length + 1 := ⟨_, rfl⟩
      have g3 : appendV (few X2) 1 1 (heldV p (b.take 30)) (some 1) (some (bytesV [i])) = some (.slice (some (q, 0)) 1 bl bl false, few X3) := by rw [hbl]; exact g3
      have k03 : ∀ i, i < X0.length → (X3[i]?).join = (X0[i]?).join := fun i hi => by rw [k3 i (by omega) (by omega), hX2, join_app (by omega), hX1, join_app hi]
      have hbi : ∀ c ∈ b.take 30 ++ [i], c < 256 := fun c hc => by
        rcases List.mem_append.1 hc with hc | hc
        · exact hb256 c (List.mem_of_mem_take hc)
        · rw [List.mem_singleton] at hc; omega
      have hbil : (b.take 30 ++ [i]).length = bl := by rw [List.length_append, hbl]; rfl
      have b3 : bytesAt (few X3) (.slice (some (q, 0)) 1 bl bl false) = some (b.take 30 ++ [i]) := by rw [← hbil]; exact lookB_at (lookB_own q3 hbi).2
      -- its data
      obtain ⟨p1, X4, d1, d2, d3, d4, d5⟩ := hDa X3 x y tPng _ (b.take 30 ++ [i]) rfl b3 (by omega)
      rw [hbil] at d1
      obtain ⟨z1, hz1⟩ : ∃ z, z = 8 + bl := ⟨_, rfl⟩
      rw [← hz1] at d1
      have d1 : call nD [.int .i64 x, .int .i64 y, .str [112, 110, 103, 32], .slice (some (q, 0)) 1 bl bl false] (few X3) = some (.slice (some (p1, 0)) 1 z1 z1 false, few X4) := d1
      -- one that is the first's
      obtain ⟨x4, hx4⟩ : ∃ x, x = X4.length := ⟨_, rfl⟩
      obtain ⟨X5, hX5⟩ : ∃ X, X = X4 ++ [some (newBytes [0, 0])] := ⟨_, rfl⟩
      have e5 : X5.length = x4 + 1 := by rw [hX5, hx4]; simp
      have al5 : (few X4).alloc (.cells true [.int .u8 0, .int .u8 0]) = some (x4, few X5) := by rw [hX5, hx4]; exact few_alloc X4 _
      have b5 : bytesAt (few X5) (.slice (some (x4, 0)) 1 2 2 true) = some [0, 0] := lookB_at (lookB_own (bs := [0, 0]) (by rw [hX5, hx4]; simp) (by decide)).2
      obtain ⟨p2, X6, h1, h2, h3, h4, h5⟩ := hDa X5 9 9 tDupe _ [0, 0] rfl b5 (by simp)
      have h1 : call nD [.int .i64 9, .int .i64 9, .str [100, 117, 112, 101], .slice (some (x4, 0)) 1 2 2 true] (few X5) = some (.slice (some (p2, 0)) 1 10 10 false, few X6) := h1
      -- one that is another's
      obtain ⟨x6, hx6⟩ : ∃ x, x = X6.length := ⟨_, rfl⟩
      obtain ⟨X7, hX7⟩ : ∃ X, X = X6 ++ [some (newBytes [0, to])] := ⟨_, rfl⟩
      have e7 : X7.length = x6 + 1 := by rw [hX7, hx6]; simp
      have al7 : (few X6).alloc (.cells true [.int .u8 0, .int .u8 (to : Int)]) = some (x6, few X7) := by rw [hX7, hx6]; exact few_alloc X6 _
      have b7 : bytesAt (few X7) (.slice (some (x6, 0)) 1 2 2 true) = some [0, to] := lookB_at (lookB_own (bs := [0, to]) (by rw [hX7, hx6]; simp) (fun c hc => by simp at hc; omega)).2
      obtain ⟨p3, X8, i1, i2, i3, i4, i5⟩ := hDa X7 7 7 tDupe _ [0, to] rfl b7 (by simp)
      have i1 : call nD [.int .i64 7, .int .i64 7, .str [100, 117, 112, 101], .slice (some (x6, 0)) 1 2 2 true] (few X7) = some (.slice (some (p3, 0)) 1 10 10 false, few X8) := i1
      -- the four
      obtain ⟨x8, hx8⟩ : ∃ x, x = X8.length := ⟨_, rfl⟩
      obtain ⟨ws, hws⟩ : ∃ ws : List V, ws = [V.slice (some (p1, 0)) 1 z1 z1 false, .slice none 0 0 0 true, .slice (some (p2, 0)) 1 10 10 false, .slice (some (p3, 0)) 1 10 10 false] := ⟨_, rfl⟩
      obtain ⟨X9, hX9⟩ : ∃ X, X = X8 ++ [some (AObj.cells true ws)] := ⟨_, rfl⟩
      have e9 : X9.length = x8 + 1 := by rw [hX9, hx8]; simp
      have al9 : (few X8).alloc (.cells true [V.slice (some (p1, 0)) 1 z1 z1 false, .slice none 0 0 0 true, .slice (some (p2, 0)) 1 10 10 false, .slice (some (p3, 0)) 1 10 10 false]) = some (x8, few X9) := by rw [hX9, hx8, hws]; exact few_alloc X8 _
      obtain ⟨c, hc⟩ : ∃ c, c = 20 + 20 * i := ⟨_, rfl⟩
      obtain ⟨Xa, hXa⟩ : ∃ X, X = X9 ++ [some (AObj.cells true [V.int .i64 (c : Int), .slice (some (x8, 0)) 1 4 4 true])] := ⟨_, rfl⟩
      have ea : Xa.length = x8 + 2 := by rw [hXa]; simp [e9]
      have ala : (few X9).alloc (.cells true [V.int .i64 (20 + 20 * (i : Int)), .slice (some (x8, 0)) 1 4 4 true]) = some (x8 + 1, few Xa) := by rw [hXa, ← e9, show (20 + 20 * (i : Int)) = (c : Int) from by omega]; exact few_alloc X9 _
      have aa : (Xa[x8 + 1]?).join = some (.cells true [V.int .i64 (c : Int), .slice (some (x8, 0)) 1 4 4 true]) := by rw [hXa, ← e9]; simp
      have fia : firstN (few Xa) 2 1 (.slice (some (x8 + 1, 0)) 2 1 1 true) = some [V.int .i64 (c : Int), .slice (some (x8, 0)) 1 4 4 true] := by
        show sel (Nat.beq 2 2 && Nat.ble 1 1) ((few Xa).loadN (x8 + 1) 0 (1 * 2)) none = _
        rw [loadN_few aa (by simp)]
        rfl
      have ka8 : ∀ i, i < X8.length → (Xa[i]?).join = (X8[i]?).join := fun i hi => by rw [hXa, join_app (by omega), hX9, join_app hi]
      have ka6 : ∀ i, i < X6.length → (Xa[i]?).join = (X6[i]?).join := fun i hi => by rw [ka8 i (by omega), i2 i (by omega), hX7, join_app hi]
      have ka4 : ∀ i, i < X4.length → (Xa[i]?).join = (X4[i]?).join := fun i hi => by rw [ka6 i (by omega), h2 i (by omega), hX5, join_app hi]
      have ka : ∀ i, i < X0.length → (Xa[i]?).join = (X0[i]?).join := fun i hi => by rw [ka4 i (by omega), d2 i (by omega), k03 i hi]
      have m1 := join_lt d5
      have m2 := join_lt h5
      have m3 := join_lt i5
      have hrx : RowX Xa X0.length Xa.length x8 (stkD x y b to i).2 := fun _ => by
        refine ⟨by omega, by omega, ws, by rw [hXa, join_app (by omega), hX9, hx8]; simp, by rw [hws]; rfl, fun j w' b' hw' hb' => ?_⟩
        rw [hws] at hw'
        unfold stkD at hb'
        match j, hw', hb' with
        | 0, hw', hb' =>
          cases hw'; cases hb'
          refine .inr ⟨p1, by rw [dImg_len, hz1, hbl], by omega, by omega, ?_⟩
          rw [ka4 p1 m1]; exact d5
        | 1, hw', hb' => cases hw'; cases hb'; exact .inl ⟨rfl, rfl⟩
        | 2, hw', hb' =>
          cases hw'; cases hb'
          refine .inr ⟨p2, by rw [dataB_len rfl]; rfl, by omega, by omega, ?_⟩
          rw [ka6 p2 m2]; exact h5
        | 3, hw', hb' =>
          cases hw'; cases hb'
          refine .inr ⟨p3, by rw [dataB_len rfl]; rfl, by omega, by omega, ?_⟩
          rw [ka8 p3 m3]; exact i5
        | j + 4, hw', hb' => simp at hw'
      obtain ⟨Xb, n1, n2, n3⟩ := hH.next (q := x8) (f := true) (s := stkD x y b to i) (by rw [stkDs_len]; omega) ka (by omega) hrx
      rw [stkDs_len] at n1
      have n1 : appendV (few Xa) 2 32 (pairS r i) (some 1) (some [V.int .i64 (c : Int), .slice (some (x8, 0)) 1 4 4 true]) = some (.slice (some (Xa.length, 0)) 2 (i + 1) (i + 1) false, few Xb) := by rw [hc]; exact n1
      rw [← stkDs_succ] at n2
      have hpl2 : (heldV p (b.take 30)).plain = true := rfl
      simp (disch := omega) [s1, s2, s3, s4, s5, s6, s7, dlt_t, dlt_f, dle_t, dle_f, dltn_t, dltn_f, dlen_t, dlen_f, deq_t, deq_f, deqn_t, deqn_f, wrap_i, fw, wrap_u8, al2, lenOfS, firstNo, fi2, g3, d1, al5, h1, al7, i1, al9, ala, fia, n1]
      exact ⟨k, by omega, i + 1, by omega, Xb, rfl, Xa.length, n2, (if_neg (by omega)).symm, by omega⟩

end Go.Vabs.Rh
