/- Lemmas for this claim, text Ra. No condition. -/
import Derived.Test.YtcgiiomghmffbaaVabsNb
namespace Go.Vabs.Ra
set_option linter.unusedVariables false
set_option linter.unusedSimpArgs false
set_option maxRecDepth 10000
def openT_c (n_Font : Nat) (n_Open : Nat) (n_ROpen : Nat) : AFunc := AFunc.mk 28 (.seq (.reg [AOper.mk (some (.i (.o .h))) (.mv (.c (.ptr none))) none, AOper.mk (some (.o (.i .h))) (.mv (.c (.ptr none))) none]) (.seq (.reg [AOper.mk (some (.i (.o (.i .h)))) (.bslice 1 1 [.str []] [(0, (1, .t .h))]) none, AOper.mk (some (.i (.i (.i .h)))) (.bslice 1 1 [.slice none 0 0 0 true] [(0, (1, .t (.o .h)))]) none, AOper.mk (some (.o (.o (.o (.o .h))))) (.call n_Font [.t (.i (.o (.i .h))), .t (.i (.i (.i .h)))]) none, AOper.mk (some (.i (.i .h))) (.mv (.t (.o (.o (.o (.o .h)))))) none]) (.seq (.reg [AOper.mk (some (.i (.i (.o (.o .h))))) (.call n_Open [.t (.i (.i .h))]) none, AOper.mk (some (.o (.o (.i (.o .h))))) (.extract (.t (.i (.i (.o (.o .h))))) 0) none, AOper.mk (some (.i (.o (.i (.o .h))))) (.extract (.t (.i (.i (.o (.o .h))))) 1) none, AOper.mk (some (.o (.o (.o .h)))) (.mv (.t (.o (.o (.i (.o .h)))))) none, AOper.mk (some (.i (.o (.o .h)))) (.mv (.t (.i (.o (.i (.o .h)))))) none]) (.seq (.reg [AOper.mk (some (.o (.o (.o (.i .h))))) (.call n_ROpen [.t (.i (.i .h))]) none, AOper.mk (some (.i (.o (.o (.i .h))))) (.extract (.t (.o (.o (.o (.i .h))))) 0) none, AOper.mk (some (.o (.i (.o (.i .h))))) (.extract (.t (.o (.o (.o (.i .h))))) 1) none, AOper.mk (some (.o (.i (.o .h)))) (.mv (.t (.i (.o (.o (.i .h)))))) none, AOper.mk (some (.i (.i (.o .h)))) (.mv (.t (.o (.i (.o (.i .h)))))) none]) (.seq (.reg [AOper.mk (some (.i (.o .h))) (.mv (.t (.o (.o (.o .h))))) none, AOper.mk (some (.o (.i .h))) (.mv (.t (.o (.i (.o .h))))) none]) .ret))))) [.tmp (.i (.o .h)), .tmp (.o (.i .h))]
attribute [local simp] wp_skip wp_ret wp_exit wp_reg wp_seq wp_cond wp_block thenQ_normal thenQ_ret thenQ_exit blockQ_normal blockQ_ret blockQ_exit wpCond_true wpCond_false wpOps_nil wpVal_some wpGuard_true wpGuard_false wpOps_guard wpOps_cons
  put_at put_no ev_c ev_slot posEq_h posEq_o posEq_i posEq_ho posEq_hi posEq_oh posEq_ih posEq_oi posEq_io sel_true sel_false
  okv_some step_mv step_call step_pick pickV_bool step_bin bin_add bin_sub bin_mul bin_eql bin_neq bin_lss bin_leq bin_gtr bin_geq bin_eqb bin_neb bin_eqs bin_nes step_un un_not un_neg step_len len_slice len_str len_const step_extract extractV nth step_convInt conv_int step_convStr step_slice step_idxAddr natOf_nat step_load step_index step_field step_fieldAddr step_build step_minmax
  step_alloc step_bslice bsliceV_some newV_some step_store step_append boolIs_b boolIs_t finQ_ret finQ_normal ressE_nil ressE_cons resE_tmp consO_some initE_nil initE_cons pos_0 pos_1 pos_2 pos_3 pos_4 pos_5 pos_6 pos_7 pos_8 plain_bool plain_int plain_str plain_ptr plain_slice plain_map plain_agg plain_func plain_nilFunc V.undef oneOf_one oneOf_two ble_self
open Go.Vabs.Pk Go.Vabs.Ph Go.Vabs.Sa Go.Vabs.Sb Go.Vabs.Sc Go.Vabs.Sd Go.Vabs.Se Go.Vabs.Sg Go.Vabs.Sh Go.Vabs.Sm Go.Vabs.Sn Go.Vabs.Sp Go.Vabs.Sr Go.Vabs.St Go.Vabs.Su Go.Vabs.L2 Go.Vabs.Na Go.Vabs.Nb
attribute [local simp] step_nilchk nilchk_ptr step_box cells_int cells_bool cells_str cells_slice cells_ptr cells_agg fieldAddrV natOf_zero fill repN splice over newV step_appendZ
def OneTF (call : CallT) (g : Nat) : Prop := ∀ os w tag b, tag.length = 4 → (∀ x ∈ tag, x < 256) → w.good os.length = true → lookB (few os).look w = some b → b.length ≤ 5000000 →
  ∃ F G os', call g [.str tag, w] (few os) = some (.tuple [.ptr (some (F, 0)), .ptr (some (G, 0))], few os') ∧ FontMem os' F [(tag, b)] ∧ RFontMem os' G [(tag, b)] ∧ (∀ i, i < os.length → (os'[i]?).join = (os[i]?).join) ∧ os.length ≤ os'.length
theorem lookB_cells' {l : Sight} {v : V} {b : List Nat} (h : lookB l v = some b) : v.cells = some [v] ∧ v.plain = true := by
  unfold lookB at h
  split at h
  · exact ⟨rfl, rfl⟩
  · exact ⟨rfl, rfl⟩
  · cases h
theorem OneTF.code {base : CallT} {g lf nF nO nR : Nat} (hF : FontF base nF) (hO : OpenF base nO) (hR : ROpenF base nR) : OneTF (Vabs.withF base g lf (openT_c nF nO nR)) g := fun os w tag b h4 ht hg hl hb => by
  rw [withF_same]
  have hcl := (lookB_cells' hl).1
  obtain ⟨X1, hX1⟩ : ∃ X1, X1 = os ++ [some (AObj.cells true [V.str tag])] := ⟨_, rfl⟩
  have e1 : X1.length = os.length + 1 := by rw [hX1]; simp
  have al1 : (few os).alloc (.cells true [.str tag]) = some (os.length, few X1) := by rw [hX1]; exact few_alloc os _
  obtain ⟨X2, hX2⟩ : ∃ X2, X2 = X1 ++ [some (AObj.cells true [w])] := ⟨_, rfl⟩
  have e2 : X2.length = os.length + 2 := by rw [hX2]; simp [e1]
  have al2 : (few X1).alloc (.cells true [w]) = some (os.length + 1, few X2) := by rw [hX2, ← e1]; exact few_alloc X1 _
  have k2 : ∀ i, i < os.length → (X2[i]?).join = (os[i]?).join := fun i hi => by rw [hX2, join_app (by omega), hX1, join_app hi]
  have hrow : RowsB X2 (os.length + 1) [b] := rows_own (own := true) (vs := [w]) (by rw [hX2, ← e1]; simp) rfl fun j v c hv hc => by
    match j, hv, hc with
    | 0, hv, hc =>
      cases hv; cases hc
      exact ⟨V.good_le (by omega) hg, lookB_mono (sight_keep k2 (by omega)) hl⟩
    | j + 1, hv, hc => simp at hv
  have hb256 := bytesAt_lt (lookB_at hl)
  obtain ⟨u, Y, ef, k3, k4, k5⟩ := hF X2 os.length (os.length + 1) true true [tag] [b] (fun _ => ⟨true, by rw [hX2, join_app (by omega), hX1]; simp [strsV]⟩) hrow (fun t h => by rw [List.mem_singleton.1 h]; exact ht) (fun t h => by rw [List.mem_singleton.1 h]; exact hb256) (by simp) (by simp) (by simp; omega)
  have hls : layS [tag] [b] = some (layL [(tag, b)]) := by
    unfold layS
    rw [if_pos ⟨rfl, by simp, by simpa using h4, by simp⟩]
    rfl
  rw [hls] at k5
  obtain ⟨p, rfl, hp, hpb⟩ := k5
  have htag : Tagged [(tag, b)] := fun x hx => by rw [List.mem_singleton.1 hx]; exact h4
  have hflat : (flatT [(tag, b)]).length = b.length := by simp [flatT]
  have hf : fontS (layL [(tag, b)]) = .inr [(tag, b)] := font_lay htag (by simp) (by simp) (by rw [hflat]; simp; omega)
  have hlt : ∀ x ∈ layL [(tag, b)], x < 256 := lay_lt (by simp) (fun x hx => by rw [List.mem_singleton.1 hx]; exact ht) (fun x hx => by rw [List.mem_singleton.1 hx]; exact hb256)
  obtain ⟨B, hB⟩ : ∃ B, B = (layL [(tag, b)]).length := ⟨_, rfl⟩
  have hBl : B ≤ 5000028 := by rw [hB, layL_len htag, hflat]; simp; omega
  obtain ⟨og, ol⟩ := lookB_own (f := false) hpb hlt
  rw [← hB] at og ol ef
  obtain ⟨l1, ho, hfm⟩ := open_mem hO og ol (by omega) hf
  obtain ⟨Z, hZ⟩ : ∃ Z, Z = Y ++ l1 := ⟨_, rfl⟩
  rw [← hZ] at ho hfm
  have hZk : ∀ i, i < Y.length → (Z[i]?).join = (Y[i]?).join := fun i hi => by rw [hZ]; exact join_app hi
  have hZl : Y.length ≤ Z.length := by rw [hZ, List.length_append]; omega
  have hr := hR Z _ _ (V.good_le hZl og) (lookB_mono (sight_keep hZk hZl) ol) (by omega)
  rw [show ropenA Z.length (layL [(tag, b)]) = (rfontObjs Z.length [(tag, b)], fun k => .tuple [.ptr (some (k, 0)), .int .i64 0]) from by unfold ropenA; rw [hf]] at hr
  have hrm := rfont_mem (os := Z) (L := [(tag, b)])
  obtain ⟨F, hFe⟩ : ∃ F, F = Y.length := ⟨_, rfl⟩
  obtain ⟨G, hGe⟩ : ∃ G, G = Z.length := ⟨_, rfl⟩
  rw [← hFe] at ho hfm
  rw [← hGe] at hr hrm
  obtain ⟨W, hW⟩ : ∃ W, W = Z ++ (rfontObjs G [(tag, b)]).map some := ⟨_, rfl⟩
  have hr : base nR [.slice (some (p, 0)) 1 B B false] (few Z) = some (.tuple [.ptr (some (G, 0)), .int .i64 0], few W) := by rw [hr, hW]
  rw [← hW] at hrm
  have hWk : ∀ i, i < os.length → (W[i]?).join = (os[i]?).join := fun i hi => by rw [hW, join_app (by omega), hZk i (by omega), k3 i (by omega), k2 i hi]
  have hfW := hfm.keep (os' := W) (fun i hi => by rw [hW]; exact join_app hi)
  have hWl : Z.length ≤ W.length := by rw [hW, List.length_append]; omega
  refine ⟨F, G, W, ?_, hfW, hrm, hWk, by omega⟩
  have ef : base nF [.slice (some (os.length, 0)) 1 1 1 true, .slice (some (os.length + 1, 0)) 1 1 1 true] (few X2) = some (.slice (some (p, 0)) 1 B B false, few Y) := ef
  refine enter_eq ?_
  simp (disch := omega) [al1, hcl, al2, ef, ho, hr]
end Go.Vabs.Ra
