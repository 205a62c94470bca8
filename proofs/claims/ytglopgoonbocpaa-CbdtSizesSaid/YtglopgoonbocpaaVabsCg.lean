/-
  Cg
-/
import Derived.Test.YtglopgoonbocpaaVabsCd
namespace Go.Vabs.Cg
set_option linter.unusedVariables false
set_option linter.unusedSimpArgs false
set_option maxRecDepth 10000
attribute [local simp] wp_skip wp_ret wp_exit wp_reg wp_seq wp_cond wp_block thenQ_normal thenQ_ret thenQ_exit blockQ_normal blockQ_ret blockQ_exit wpCond_true wpCond_false wpOps_nil wpVal_some wpGuard_true wpGuard_false wpOps_guard wpOps_cons
  put_at put_no ev_c ev_slot posEq_h posEq_o posEq_i posEq_ho posEq_hi posEq_oh posEq_ih posEq_oi posEq_io sel_true sel_false
  okv_some step_mv step_call step_pick pickV_bool step_bin bin_add bin_sub bin_mul bin_eql bin_neq bin_lss bin_leq bin_gtr bin_geq bin_eqb bin_neb bin_eqs bin_nes step_un un_not un_neg step_len len_slice len_str len_const step_extract extractV nth step_convInt conv_int step_convStr step_slice step_idxAddr natOf_nat step_load step_index step_field step_fieldAddr step_build step_minmax
  step_alloc step_bslice bsliceV_some newV_some step_store step_append boolIs_b boolIs_t finQ_ret finQ_normal ressE_nil ressE_cons resE_tmp consO_some initE_nil initE_cons pos_0 pos_1 pos_2 pos_3 pos_4 pos_5 pos_6 pos_7 pos_8 plain_bool plain_int plain_str plain_ptr plain_slice plain_map plain_agg plain_func plain_nilFunc V.undef oneOf_one oneOf_two ble_self
open Go.Vabs.Pk Go.Vabs.Ph Go.Vabs.Sa Go.Vabs.Sb Go.Vabs.Sc Go.Vabs.Sd Go.Vabs.Se Go.Vabs.Sg Go.Vabs.Sh Go.Vabs.Sm Go.Vabs.Sn Go.Vabs.Sp Go.Vabs.Sr Go.Vabs.St Go.Vabs.Su Go.Vabs.L2 Go.Vabs.Na Go.Vabs.Nb Go.Vabs.Ra Go.Vabs.Rb Go.Vabs.Rc Go.Vabs.Rd Go.Vabs.Re Go.Vabs.Ca Go.Vabs.Cb Go.Vabs.Cc Go.Vabs.Cd Go.Vabs.Ce Go.Vabs.Vc Go.Vabs.Cf
attribute [local simp] step_nilchk nilchk_ptr step_box cells_int cells_bool cells_str cells_slice cells_ptr cells_agg fieldAddrV natOf_zero fill repN splice over newV step_appendZ
  wp_dreg wpDs_nil wpDs_cons wantedE_none wantedE_some wpDGuard_true wpDGuard_lim wpDGuard_false wpDLim_true wpDVal_free wpDVal_lim back_limited next_limited limF_dir limF_false foot_load foot_store foot_convStr okAll_nil okAll_cons pastsOf nthP ahead few_next load_limited convStr_limited blt_dec okPair_dd okPair_dc okPair_cd okPair_cc anyIn_nil anyIn_same anyIn_cons meets_nil meets_nil'
  tl_alloc tl_load tl_load0 tl_store tl_store0 storeT_some loadC_some cellsAt_zero cellsAt_succ ownAt_zero ownAt_succ tl_store_d tl_alloc_dir tl_back tl_back_few few_back_tl tl_next backv_some back_back cut takeN nbeq_dec ble_dec meets_cons mem_nil mem_cons idOf load_d convStr_d
/- FIND -/
def tCblc : List Nat := [67, 66, 76, 67]
def tCbdt : List Nat := [67, 66, 68, 84]
theorem heldV_nil {p : Nat} {b : List Nat} : isNil (heldV p b) = false := rfl
theorem tab_tl {f : CallT} {n : Nat} (h : TabLF f n) {X : List (Option AObj)} {F : Nat} {L : List Itm} {t b : List Nat} (hF : FontSee X F L) (hL : Tame L) (ha : askL L t = some b) (l : List (Option AObj)) :
    f n [.ptr (some (F, 0)), .str t] (tl X l) = some (.tuple [heldV (X.length + l.length) b, .bool true], tl X (l ++ [some (newBytes b)])) := by
  have := h (X ++ l) F L t hF.grow hL
  rw [ha] at this
  dsimp only at this
  rw [List.length_append, List.append_assoc] at this
  exact this
theorem see_tl {X l : List (Option AObj)} {k : Nat} {b : List Nat} {f : Bool} (h : (l[k]?).join = some (newBytes b)) (hb : ∀ x ∈ b, x < 256) : See (X ++ l) (.slice (some (X.length + k, 0)) 1 b.length b.length f) b :=
  See.own (by rw [tl_at]; exact h) hb (Nat.le_refl _)
/-- What Find finds: a glyph's image, of a size that is chosen. -/
structure Found17 (cb db : List Nat) (L : List Sz) (s : Sz) (f0 l0 fr k bg a b : Nat) (x y : Int) (png : List Nat) : Prop where
  sizes : SizesOk cb L
  sub : OneSub cb s f0 l0 fr
  first : s.first ≤ k
  last : k ≤ s.last
  f0k : f0 ≤ k
  kl0 : k ≤ l0
  k7 : k ≤ 70000
  ix : num cb ((s.at_ + fr : Nat) : Int) 2 = some 1
  fm : num cb ((s.at_ + fr + 2 : Nat) : Int) 2 = some 17
  bg_ : num cb ((s.at_ + fr + 4 : Nat) : Int) 4 = some bg
  a_ : num cb ((s.at_ + fr + 8 + 4 * (k - f0) : Nat) : Int) 4 = some a
  b_ : num cb ((s.at_ + fr + 8 + 4 * (k - f0) + 4 : Nat) : Int) 4 = some b
  ab : a < b
  room : bg + b ≤ db.length
  lens : s.at_ + fr + 8 + 4 * (k - f0) ≤ 5000000 ∧ db.length ≤ 5000000 ∧ s.ppem ≤ 255
  img : Img17 ((db.drop (bg + a)).take (b - a)) x y png
def FindL (f : FnT) : Prop := ∀ os F cb db L (p : Int) s (f0 l0 fr k bg a b : Nat) x y png, FontSee os F [(tCblc, cb), (tCbdt, db)] → Tame [(tCblc, cb), (tCbdt, db)] → chosenZ p L = some s → Found17 cb db L s f0 l0 fr k bg a b x y png →
  f [.ptr (some (F, 0)), .int .i64 p, .int .i64 (k : Int)] (few os) = some (.tuple [.agg [.int .i64 x, .int .i64 y, .int .i64 (s.ppem : Int), .slice (some (os.length, 0)) 1 png.length png.length false], .int .i64 0], few (os ++ [some (newBytes png)]))
set_option maxHeartbeats 2000000 in
theorem FindL.auto {base : CallT} {g lf nT nZ nC nE n2 n4 nR nP nI : Nat} (hT : TabLF base nT) (hZ : SizesL (base nZ)) (hC : ChosenL (base nC)) (hE : EntryL (base nE)) (h2 : UF 2 base n2) (h4 : UF 4 base n4) (hR : PlacedL (base nR)) (hP : PartF base nP) (hI : ImageL (base nI)) :
    FindL (withL base g (lawOf (autoRd base lf (FindC_c nT nZ nC nE n2 n4 nR nP nI))) g) := fun os F cb db L p s f0 l0 fr k bg a b x y png hF hTm hch h => by
  refine auto_one (cs := bytesV png) (F := fun q => .tuple [.agg [.int .i64 x, .int .i64 y, .int .i64 (s.ppem : Int), .slice (some (q, 0)) 1 png.length png.length false], .int .i64 0]) ?_ (List.all_eq_true.2 bytesV_flat) (fun q => ⟨rfl, ?_, fun n hn => ?_⟩) fun Y hY => ?_
  · have := hF.lt
    simp [goods, V.good]; omega
  · simp [ok2, ok1, V.leads, V.flat]
  · simp [rn2, rn1, rn0, rn, Nat.not_lt.2 hn]
  · have hF := hF.cov hY
    have hc256 : ∀ z ∈ cb, z < 256 := (hTm.tabs (tCblc, cb) (by simp)).2
    have hd256 : ∀ z ∈ db, z < 256 := (hTm.tabs (tCbdt, db) (by simp)).2
    have hcl := h.sizes.len
    obtain ⟨hk5, hdl, hpp⟩ := h.lens
    have hr := h.room
    have hab := h.ab
    have hL0 : L ≠ [] := fun e => by rw [e] at hch; simp [chosenZ] at hch
    have t1 := tab_tl hT hF hTm (t := tCblc) (b := cb) (by simp [askL])
    have t2 := tab_tl hT hF hTm (t := tCbdt) (b := db) (by simp [askL, tCblc, tCbdt])
    unfold tCblc at t1
    unfold tCbdt at t2
    have v1 : ∀ z l, See (Y ++ (z :: some (newBytes cb) :: l)) (heldV (Y.length + 1) cb) cb := fun z l => see_tl rfl hc256
    have v2 : ∀ z w l, See (Y ++ (z :: w :: some (newBytes db) :: l)) (heldV (Y.length + 2) db) db := fun z w l => see_tl rfl hd256
    obtain ⟨S, hS⟩ : ∃ S, S = elV szV L := ⟨_, rfl⟩
    have c17 : ∀ z, base nZ [heldV (Y.length + 1) cb] (tl Y [z, some (newBytes cb), some (newBytes db)]) = some (.tuple [elS 5 (Y.length + 3) L.length, .int .i64 0], tl Y [z, some (newBytes cb), some (newBytes db), some (.cells true S)]) := fun z => by
      have := hZ _ _ _ _ (v1 z [some (newBytes db)]) heldV_nil h.sizes
      rw [List.length_append, List.append_assoc] at this
      unfold sizesO at this
      rw [if_neg hL0, ← hS] at this
      exact this
    have c18 : ∀ z, base nC [elS 5 (Y.length + 3) L.length, .int .i64 p] (tl Y [z, some (newBytes cb), some (newBytes db), some (.cells true S)]) = some (.tuple [.agg (szV s), .bool true], tl Y [z, some (newBytes cb), some (newBytes db), some (.cells true S)]) := fun z => by
      have := hC (Y ++ [z, some (newBytes cb), some (newBytes db), some (.cells true S)]) (Y.length + 3) L p (fun _ => by rw [tl_at, hS]; rfl) h.sizes.few
      rw [hch] at this
      exact this
    have c19 : ∀ z l, base nE [.agg (szV s), heldV (Y.length + 1) cb, .int .i64 (k : Int)] (tl Y (z :: some (newBytes cb) :: l)) = some (.tuple [.int .i64 ((k - f0 : Nat) : Int), .int .i64 ((s.at_ + fr : Nat) : Int), .int .i64 0], tl Y (z :: some (newBytes cb) :: l)) := fun z l =>
      hE _ _ _ s f0 l0 fr k (v1 z l) heldV_nil h.sub h.first h.last h.f0k h.kl0 h.k7
    obtain ⟨j, hj⟩ : ∃ j, j = k - f0 := ⟨_, rfl⟩
    obtain ⟨A, hA⟩ : ∃ A, A = s.at_ + fr := ⟨_, rfl⟩
    have hix := h.ix
    have hfm := h.fm
    have hbg := h.bg_
    have ha := h.a_
    have hb := h.b_
    rw [← hj] at c19 ha hb hk5
    rw [← hA] at c19 hix hfm hbg ha hb hk5
    have u1 : ∀ z l, base n2 [heldV (Y.length + 1) cb, .int .i64 (A : Int)] (tl Y (z :: some (newBytes cb) :: l)) = some (.tuple [.int .i64 1, .bool true], tl Y (z :: some (newBytes cb) :: l)) := fun z l => by rw [tl_eq, h2 _ _ _ _ (v1 z l).at (by omega), hix]; rfl
    have u2 : ∀ z l, base n2 [heldV (Y.length + 1) cb, .int .i64 ((A : Int) + 2)] (tl Y (z :: some (newBytes cb) :: l)) = some (.tuple [.int .i64 17, .bool true], tl Y (z :: some (newBytes cb) :: l)) := fun z l => by rw [show (A : Int) + 2 = ((A + 2 : Nat) : Int) from by omega, tl_eq, h2 _ _ _ _ (v1 z l).at (by omega), hfm]; rfl
    have u3 : ∀ z l, base n4 [heldV (Y.length + 1) cb, .int .i64 ((A : Int) + 4)] (tl Y (z :: some (newBytes cb) :: l)) = some (.tuple [.int .i64 (bg : Int), .bool true], tl Y (z :: some (newBytes cb) :: l)) := fun z l => by rw [show (A : Int) + 4 = ((A + 4 : Nat) : Int) from by omega, tl_eq, h4 _ _ _ _ (v1 z l).at (by omega), hbg]; rfl
    have c20 : ∀ z l, base nR [heldV (Y.length + 1) cb, .int .i64 ((A : Int) + 8), .int .i64 1, .int .i64 (j : Int), .int .i64 (k : Int)] (tl Y (z :: some (newBytes cb) :: l)) = some (.tuple [.agg [.int .i64 (a : Int), .int .i64 (b : Int), .slice none 0 0 0 true], .int .i64 0], tl Y (z :: some (newBytes cb) :: l)) := fun z l =>
      hR _ _ _ (A + 8) j a b k (v1 z l) hcl.2 ha hb hk5
    obtain ⟨d, hd⟩ : ∃ d, d = (db.drop (bg + a)).take (b - a) := ⟨_, rfl⟩
    have himg := h.img
    rw [← hd] at himg
    have hd2 : ∀ z ∈ d, z < 256 := fun z hz => by rw [hd] at hz; exact hd256 z (List.mem_of_mem_drop (List.mem_of_mem_take hz))
    have hdd : d.length = b - a := by rw [hd, List.length_take, List.length_drop]; omega
    have ep : ∀ z w l, base nP [heldV (Y.length + 2) db, .int .i64 ((bg : Int) + (a : Int)), .int .i64 ((b : Int) - (a : Int))] (tl Y (z :: w :: some (newBytes db) :: l)) = some (.tuple [.slice (some (Y.length + (l.length + 3), 0)) 1 d.length d.length false, .bool true], tl Y (z :: w :: some (newBytes db) :: (l ++ [some (newBytes d)]))) := fun z w l => by
      have := part_tl hP (X := Y) (l := z :: w :: some (newBytes db) :: l) (x := ((bg + a : Nat) : Int)) (n := ((b - a : Nat) : Int)) (v2 z w l).at heldV_nil (by omega) (thereB_true.2 (by omega))
      rw [show cutB db ((bg + a : Nat) : Int) ((b - a : Nat) : Int) = d from by rw [hd]; unfold cutB; rw [Int.toNat_natCast, Int.toNat_natCast], Int.toNat_natCast] at this
      rw [show (bg : Int) + (a : Int) = ((bg + a : Nat) : Int) from by omega, show (b : Int) - (a : Int) = ((b - a : Nat) : Int) from by omega, hdd]
      exact this
    have ei : ∀ o0 o1 o2 o3 o4 o5, base nI [.slice (some (Y.length + 6, 0)) 1 d.length d.length false, .int .i64 17, .slice none 0 0 0 true] (tl Y [o0, o1, o2, o3, o4, o5, some (newBytes d)]) = some (.tuple [.agg [.int .i64 x, .int .i64 y, .int .i64 0, .slice (some (Y.length + 7, 0)) 1 png.length png.length false], .int .i64 0], tl Y [o0, o1, o2, o3, o4, o5, some (newBytes d), some (newBytes png)]) := fun o0 o1 o2 o3 o4 o5 => by
      have := hI (Y ++ [o0, o1, o2, o3, o4, o5, some (newBytes d)]) (.slice (some (Y.length + 6, 0)) 1 d.length d.length false) d x y png (.slice none 0 0 0 true) (see_tl rfl hd2) rfl rfl himg
      rw [List.length_append, List.append_assoc] at this
      exact this
    obtain ⟨pl, hpl⟩ : ∃ pl, pl = png.length := ⟨_, rfl⟩
    rw [← hpl] at ei ⊢
    have hh1 : ∀ q, (heldV q cb).plain = true := fun q => rfl
    have hh2 : ∀ q, (heldV q db).plain = true := fun q => rfl
    have he := elS_plain (e := 5) (q := Y.length + 3) (n := L.length)
    unfold szV at c18 c19
    refine ⟨Y.length + 7, Y ++ [some (.cells true [.int .i64 x, .int .i64 y, .int .i64 (s.ppem : Int), .slice (some (Y.length + 7, 0)) 1 pl pl false]), some (newBytes cb), some (newBytes db), some (.cells true S), some (.cells true (szV s)), some (.cells true [.int .i64 (a : Int), .int .i64 (b : Int), .slice none 0 0 0 true]), some (newBytes d), some (newBytes png), some (.cells true [.int .i64 x, .int .i64 y, .int .i64 (s.ppem : Int), .slice (some (Y.length + 7, 0)) 1 pl pl false])], ?_, by rw [cov_len hY]; omega, by rw [tl_at]; rfl⟩
    refine enter_eq ?_
    rw [← tl_eq, tl_of (X := Y)]
    simp (disch := omega) [dlt_t, dlt_f, dle_t, dle_f, dltn_t, dltn_f, dlen_t, dlen_f, deq_t, deq_f, deqn_t, deqn_f, t1, t2, hh1, hh2, he, c17, c18, c19, u1, u2, u3, c20, ep, ei, wrap_i, resE_cell, bin_eqptr]
    rfl
/-- No size, or a glyph that the chosen one has not: none. -/
def FindNoL (f : FnT) : Prop := ∀ os F cb db L (p k : Int), FontSee os F [(tCblc, cb), (tCbdt, db)] → Tame [(tCblc, cb), (tCbdt, db)] → SizesOk cb L → (∀ s, chosenZ p L = some s → k < s.first ∨ s.last < k) →
  f [.ptr (some (F, 0)), .int .i64 p, .int .i64 k] (few os) = some (.tuple [.agg [.int .i64 0, .int .i64 0, .int .i64 0, .slice none 0 0 0 true], .int .i64 6], few os)
theorem chosenZ_some {p : Int} {L : List Sz} (h : L ≠ []) : ∃ s, chosenZ p L = some s := by
  unfold chosenZ
  rw [if_neg h]
  have := bestI_le (p := p) (ps := L.map (·.ppem)) (L.length - 1)
  have : 0 < L.length := List.length_pos_iff.2 h
  exact ⟨_, List.getElem?_eq_getElem (by omega)⟩
set_option maxHeartbeats 2000000 in
theorem FindNoL.auto {base : CallT} {g lf nT nZ nC nE n2 n4 nR nP nI : Nat} (hT : TabLF base nT) (hZ : SizesL (base nZ)) (hC : ChosenL (base nC)) (hE : EntryNoL (base nE)) :
    FindNoL (withL base g (lawOf (autoRd base lf (FindC_c nT nZ nC nE n2 n4 nR nP nI))) g) := fun os F cb db L p k hF hTm hS hk => by
  refine auto_flat ?_ rfl rfl fun Y hY => ?_
  · have := hF.lt
    simp [goods, V.good]; omega
  · have hF := hF.cov hY
    have hc256 : ∀ z ∈ cb, z < 256 := (hTm.tabs (tCblc, cb) (by simp)).2
    have hd256 : ∀ z ∈ db, z < 256 := (hTm.tabs (tCbdt, db) (by simp)).2
    have t1 := tab_tl hT hF hTm (t := tCblc) (b := cb) (by simp [askL])
    have t2 := tab_tl hT hF hTm (t := tCbdt) (b := db) (by simp [askL, tCblc, tCbdt])
    unfold tCblc at t1
    unfold tCbdt at t2
    have v1 : ∀ z l, See (Y ++ (z :: some (newBytes cb) :: l)) (heldV (Y.length + 1) cb) cb := fun z l => see_tl rfl hc256
    have hh1 : ∀ q, (heldV q cb).plain = true := fun q => rfl
    have hh2 : ∀ q, (heldV q db).plain = true := fun q => rfl
    by_cases hL0 : L = []
    · have c17 : ∀ z, base nZ [heldV (Y.length + 1) cb] (tl Y [z, some (newBytes cb), some (newBytes db)]) = some (.tuple [.slice none 0 0 0 true, .int .i64 0], tl Y [z, some (newBytes cb), some (newBytes db)]) := fun z => by
        have := hZ _ _ _ _ (v1 z [some (newBytes db)]) heldV_nil hS
        unfold sizesO at this
        rw [if_pos hL0, List.append_nil, hL0] at this
        exact this
      have c18 : ∀ l, base nC [.slice none 0 0 0 true, .int .i64 p] (tl Y l) = some (.tuple [.agg [.int .i64 0, .int .i64 0, .int .i64 0, .int .i64 0, .int .i64 0], .bool false], tl Y l) := fun l => hC (Y ++ l) 0 [] p (fun h => absurd rfl h) (by simp)
      refine enter_ex ?_
      rw [tl_of (X := Y)]
      simp (disch := omega) [dlt_t, dlt_f, dle_t, dle_f, dltn_t, dltn_f, dlen_t, dlen_f, deq_t, deq_f, deqn_t, deqn_f, t1, t2, hh1, hh2, c17, c18, wrap_i, resE_cell, bin_eqptr]
    · obtain ⟨s, hch⟩ := chosenZ_some (p := p) hL0
      have hk := hk s hch
      obtain ⟨S, hSe⟩ : ∃ S, S = elV szV L := ⟨_, rfl⟩
      have c17 : ∀ z, base nZ [heldV (Y.length + 1) cb] (tl Y [z, some (newBytes cb), some (newBytes db)]) = some (.tuple [elS 5 (Y.length + 3) L.length, .int .i64 0], tl Y [z, some (newBytes cb), some (newBytes db), some (.cells true S)]) := fun z => by
        have := hZ _ _ _ _ (v1 z [some (newBytes db)]) heldV_nil hS
        rw [List.length_append, List.append_assoc] at this
        unfold sizesO at this
        rw [if_neg hL0, ← hSe] at this
        exact this
      have c18 : ∀ z, base nC [elS 5 (Y.length + 3) L.length, .int .i64 p] (tl Y [z, some (newBytes cb), some (newBytes db), some (.cells true S)]) = some (.tuple [.agg (szV s), .bool true], tl Y [z, some (newBytes cb), some (newBytes db), some (.cells true S)]) := fun z => by
        have := hC (Y ++ [z, some (newBytes cb), some (newBytes db), some (.cells true S)]) (Y.length + 3) L p (fun _ => by rw [tl_at, hSe]; rfl) hS.few
        rw [hch] at this
        exact this
      have c19 : ∀ z l, base nE [.agg (szV s), heldV (Y.length + 1) cb, .int .i64 k] (tl Y (z :: some (newBytes cb) :: l)) = some (.tuple [.int .i64 0, .int .i64 0, .int .i64 6], tl Y (z :: some (newBytes cb) :: l)) := fun z l => hE _ _ _ s k (v1 z l) hk
      have he := elS_plain (e := 5) (q := Y.length + 3) (n := L.length)
      unfold szV at c18 c19
      refine enter_ex ?_
      rw [tl_of (X := Y)]
      simp (disch := omega) [dlt_t, dlt_f, dle_t, dle_f, dltn_t, dltn_f, dlen_t, dlen_f, deq_t, deq_f, deqn_t, deqn_f, t1, t2, hh1, hh2, he, c17, c18, c19, wrap_i, resE_cell, bin_eqptr]

end Go.Vabs.Cg

namespace Go.Vabs.Ch
set_option linter.unusedVariables false
set_option linter.unusedSimpArgs false
set_option maxRecDepth 10000
def SzPick (n_Find : Nat) (n_known : Nat) : ACode := (.seq (.reg [AOper.mk (some (.i (.o (.i (.o .h))))) (.mv (.c (.int .i64 (.negSucc 0)))) none]) (.seq (.seq (.reg [AOper.mk (some (.o (.i (.i (.o (.i (.i .h))))))) (.mv (.t (.i (.i (.o .h))))) none, AOper.mk (some (.i (.i (.i (.o (.i (.i .h))))))) (.len .slice (.t (.o (.i (.i (.o (.i (.i .h)))))))) none, AOper.mk (some (.o (.o (.o (.i (.i (.i .h))))))) (.mv (.c (.int .i64 (.ofNat 0)))) none]) (.block 4 (.loop (.seq (.reg [AOper.mk (some (.i (.o (.o (.i (.i (.i .h))))))) (.bin .lss (.val .int) (.t (.o (.o (.o (.i (.i (.i .h))))))) (.t (.i (.i (.i (.o (.i (.i .h)))))))) none]) (.seq (.cond (.t (.i (.o (.o (.i (.i (.i .h))))))) .skip (.exit 4)) (.seq (.block 5 (.seq (.reg [AOper.mk (some (.i (.i (.o (.i (.i (.i .h))))))) (.idxAddr (.slice 1) (.t (.o (.i (.i (.o (.i (.i .h))))))) (.t (.o (.o (.o (.i (.i (.i .h)))))))) none, AOper.mk (some (.o (.o (.i (.i (.i (.i .h))))))) (.load false 1 (.t (.i (.i (.o (.i (.i (.i .h)))))))) none, AOper.mk (some (.o (.i (.i (.o .h))))) (.mv (.t (.o (.o (.o (.i (.i (.i .h)))))))) none, AOper.mk (some (.i (.i (.i (.o .h))))) (.mv (.t (.o (.o (.i (.i (.i (.i .h)))))))) none]) (.seq (.reg [AOper.mk (some (.o (.i (.i (.i (.i (.i .h))))))) (.bin .lss (.val .int) (.t (.i (.o (.i (.o .h))))) (.c (.int .i64 (.ofNat 0)))) none, AOper.mk (some (.i (.i (.i (.i (.i (.i .h))))))) (.mv (.t (.o (.i (.i (.i (.i (.i .h)))))))) none, AOper.mk (some (.o (.i (.o (.o (.o (.o (.o .h)))))))) (.idxAddr (.slice 1) (.t (.i (.i (.o .h)))) (.t (.i (.o (.i (.o .h)))))) (some (.i (.i (.i (.i (.i (.i .h))))), false)), AOper.mk (some (.i (.i (.o (.o (.o (.o (.o .h)))))))) (.load false 1 (.t (.o (.i (.o (.o (.o (.o (.o .h))))))))) (some (.i (.i (.i (.i (.i (.i .h))))), false)), AOper.mk (some (.i (.o (.i (.o (.o (.o (.o .h)))))))) (.bin .lss (.val .int) (.t (.i (.i (.o (.o (.o (.o (.o .h)))))))) (.t (.o .h))) (some (.i (.i (.i (.i (.i (.i .h))))), false)), AOper.mk (some (.o (.i (.i (.o (.o (.o (.o .h)))))))) (.mv (.t (.i (.o (.i (.o (.o (.o (.o .h))))))))) (some (.i (.i (.i (.i (.i (.i .h))))), false)), AOper.mk (some (.o (.i (.o (.i (.o (.o (.o .h)))))))) (.idxAddr (.slice 1) (.t (.i (.i (.o .h)))) (.t (.i (.o (.i (.o .h)))))) (some (.o (.i (.i (.o (.o (.o (.o .h)))))), true)), AOper.mk (some (.i (.i (.o (.i (.o (.o (.o .h)))))))) (.load false 1 (.t (.o (.i (.o (.i (.o (.o (.o .h))))))))) (some (.o (.i (.i (.o (.o (.o (.o .h)))))), true)), AOper.mk (some (.o (.o (.i (.i (.o (.o (.o .h)))))))) (.bin .gtr (.val .int) (.t (.i (.i (.i (.o .h))))) (.t (.i (.i (.o (.i (.o (.o (.o .h))))))))) (some (.o (.i (.i (.o (.o (.o (.o .h)))))), true)), AOper.mk (some (.i (.o (.i (.i (.o (.o (.o .h)))))))) (.pick (.t (.o (.i (.i (.o (.o (.o (.o .h)))))))) (.t (.o (.o (.i (.i (.o (.o (.o .h)))))))) (.c (.bool false))) (some (.i (.i (.i (.i (.i (.i .h))))), false)), AOper.mk (some (.o (.i (.i (.i (.o (.o (.o .h)))))))) (.pick (.t (.i (.i (.i (.i (.i (.i .h))))))) (.c (.bool true)) (.t (.i (.o (.i (.i (.o (.o (.o .h))))))))) none, AOper.mk (some (.i (.i (.i (.i (.o (.o (.o .h)))))))) (.mv (.t (.o (.i (.i (.i (.o (.o (.o .h))))))))) none, AOper.mk (some (.o (.i (.o (.o (.i (.o (.o .h)))))))) (.idxAddr (.slice 1) (.t (.i (.i (.o .h)))) (.t (.i (.o (.i (.o .h)))))) (some (.i (.i (.i (.i (.o (.o (.o .h)))))), false)), AOper.mk (some (.i (.i (.o (.o (.i (.o (.o .h)))))))) (.load false 1 (.t (.o (.i (.o (.o (.i (.o (.o .h))))))))) (some (.i (.i (.i (.i (.o (.o (.o .h)))))), false)), AOper.mk (some (.i (.o (.i (.o (.i (.o (.o .h)))))))) (.bin .geq (.val .int) (.t (.i (.i (.o (.o (.i (.o (.o .h)))))))) (.t (.o .h))) (some (.i (.i (.i (.i (.o (.o (.o .h)))))), false)), AOper.mk (some (.o (.i (.i (.o (.i (.o (.o .h)))))))) (.mv (.t (.i (.o (.i (.o (.i (.o (.o .h))))))))) (some (.i (.i (.i (.i (.o (.o (.o .h)))))), false)), AOper.mk (some (.i (.o (.o (.i (.i (.o (.o .h)))))))) (.bin .geq (.val .int) (.t (.i (.i (.i (.o .h))))) (.t (.o .h))) (some (.o (.i (.i (.o (.i (.o (.o .h)))))), true)), AOper.mk (some (.o (.i (.o (.i (.i (.o (.o .h)))))))) (.pick (.t (.o (.i (.i (.o (.i (.o (.o .h)))))))) (.t (.i (.o (.o (.i (.i (.o (.o .h)))))))) (.c (.bool false))) (some (.i (.i (.i (.i (.o (.o (.o .h)))))), false)), AOper.mk (some (.i (.i (.o (.i (.i (.o (.o .h)))))))) (.mv (.t (.o (.i (.o (.i (.i (.o (.o .h))))))))) (some (.i (.i (.i (.i (.o (.o (.o .h)))))), false)), AOper.mk (some (.i (.i (.i (.i (.i (.o (.o .h)))))))) (.idxAddr (.slice 1) (.t (.i (.i (.o .h)))) (.t (.i (.o (.i (.o .h)))))) (some (.i (.i (.o (.i (.i (.o (.o .h)))))), true)), AOper.mk (some (.o (.o (.o (.o (.o (.i (.o .h)))))))) (.load false 1 (.t (.i (.i (.i (.i (.i (.o (.o .h))))))))) (some (.i (.i (.o (.i (.i (.o (.o .h)))))), true)), AOper.mk (some (.i (.o (.o (.o (.o (.i (.o .h)))))))) (.bin .lss (.val .int) (.t (.i (.i (.i (.o .h))))) (.t (.o (.o (.o (.o (.o (.i (.o .h))))))))) (some (.i (.i (.o (.i (.i (.o (.o .h)))))), true)), AOper.mk (some (.o (.i (.o (.o (.o (.i (.o .h)))))))) (.pick (.t (.i (.i (.o (.i (.i (.o (.o .h)))))))) (.t (.i (.o (.o (.o (.o (.i (.o .h)))))))) (.c (.bool false))) (some (.i (.i (.i (.i (.o (.o (.o .h)))))), false)), AOper.mk (some (.i (.i (.o (.o (.o (.i (.o .h)))))))) (.pick (.t (.i (.i (.i (.i (.o (.o (.o .h)))))))) (.c (.bool true)) (.t (.o (.i (.o (.o (.o (.i (.o .h))))))))) none]) (.cond (.t (.i (.i (.o (.o (.o (.i (.o .h)))))))) (.reg [AOper.mk (some (.i (.o (.i (.o .h))))) (.mv (.t (.o (.i (.i (.o .h)))))) none]) .skip)))) (.reg [AOper.mk (some (.i (.o (.i (.o (.o (.i (.o .h)))))))) (.bin .add (.val .int) (.t (.o (.o (.o (.i (.i (.i .h))))))) (.c (.int .i64 (.ofNat 1)))) none, AOper.mk (some (.o (.o (.o (.i (.i (.i .h))))))) (.mv (.t (.i (.o (.i (.o (.o (.i (.o .h))))))))) none]))))))) (.seq (.reg [AOper.mk (some (.o (.i (.o (.i (.o (.i (.o .h)))))))) (.call n_Find [.t (.i (.i (.o (.o .h)))), .t (.o .h), .t (.i .h)]) none, AOper.mk (some (.i (.i (.o (.i (.o (.i (.o .h)))))))) (.extract (.t (.o (.i (.o (.i (.o (.i (.o .h)))))))) 0) none, AOper.mk (some (.o (.o (.i (.i (.o (.i (.o .h)))))))) (.extract (.t (.o (.i (.o (.i (.o (.i (.o .h)))))))) 1) none, AOper.mk (some (.o (.o (.o (.i .h))))) (.alloc [.int .i64 (.ofNat 0), .int .i64 (.ofNat 0), .int .i64 (.ofNat 0), .slice none 0 0 0 true]) none, AOper.mk none (.store 4 (.t (.o (.o (.o (.i .h))))) (.t (.i (.i (.o (.i (.o (.i (.o .h))))))))) none, AOper.mk (some (.i (.o (.o (.i .h))))) (.mv (.t (.o (.o (.i (.i (.o (.i (.o .h))))))))) none]) (.seq (.seq (.reg [AOper.mk (some (.o (.i (.i (.i (.o (.i (.o .h)))))))) (.bin .lss (.val .int) (.t (.i (.o (.i (.o .h))))) (.c (.int .i64 (.ofNat 0)))) none, AOper.mk (some (.i (.i (.i (.i (.o (.i (.o .h)))))))) (.mv (.t (.o (.i (.i (.i (.o (.i (.o .h))))))))) none, AOper.mk (some (.i (.i (.o (.o (.i (.i (.o .h)))))))) (.idxAddr (.slice 1) (.t (.o (.o (.i .h)))) (.t (.i (.o (.i (.o .h)))))) (some (.i (.i (.i (.i (.o (.i (.o .h)))))), false)), AOper.mk (some (.o (.o (.i (.o (.i (.i (.o .h)))))))) (.load false 1 (.t (.i (.i (.o (.o (.i (.i (.o .h))))))))) (some (.i (.i (.i (.i (.o (.i (.o .h)))))), false)), AOper.mk (some (.i (.o (.i (.o (.i (.i (.o .h)))))))) (.bin .lss (.val .int) (.t (.i .h)) (.t (.o (.o (.i (.o (.i (.i (.o .h))))))))) (some (.i (.i (.i (.i (.o (.i (.o .h)))))), false)), AOper.mk (some (.o (.i (.i (.o (.i (.i (.o .h)))))))) (.pick (.t (.i (.i (.i (.i (.o (.i (.o .h)))))))) (.c (.bool true)) (.t (.i (.o (.i (.o (.i (.i (.o .h))))))))) none, AOper.mk (some (.i (.i (.i (.o (.i (.i (.o .h)))))))) (.mv (.t (.o (.i (.i (.o (.i (.i (.o .h))))))))) none, AOper.mk (some (.i (.o (.o (.i (.i (.i (.o .h)))))))) (.bin .gtr (.val .int) (.t (.i .h)) (.c (.int .i64 (.ofNat 9)))) (some (.i (.i (.i (.o (.i (.i (.o .h)))))), false)), AOper.mk (some (.o (.i (.o (.i (.i (.i (.o .h)))))))) (.pick (.t (.i (.i (.i (.o (.i (.i (.o .h)))))))) (.c (.bool true)) (.t (.i (.o (.o (.i (.i (.i (.o .h))))))))) none]) (.cond (.t (.o (.i (.o (.i (.i (.i (.o .h)))))))) (.seq (.reg [AOper.mk (some (.i (.i (.o (.i (.i (.i (.o .h)))))))) (.call n_known []) none, AOper.mk (some (.o (.o (.i (.i (.i (.i (.o .h)))))))) (.mv (.t (.i (.i (.o (.i (.i (.i (.o .h))))))))) none, AOper.mk (some (.o (.i (.i (.i (.i (.i (.o .h)))))))) (.bin .eql (.val .int) (.t (.i (.o (.o (.i .h))))) (.c (.int .i64 (.ofNat 6)))) (some (.o (.o (.i (.i (.i (.i (.o .h)))))), true)), AOper.mk (some (.i (.i (.i (.i (.i (.i (.o .h)))))))) (.pick (.t (.o (.o (.i (.i (.i (.i (.o .h)))))))) (.t (.o (.i (.i (.i (.i (.i (.o .h)))))))) (.c (.bool false))) none, AOper.mk (some (.i (.i .h))) (.mv (.t (.i (.i (.i (.i (.i (.i (.o .h))))))))) none]) .ret) .skip)) (.seq (.dreg [(AOper.mk (some (.o (.o (.o (.o (.o (.o (.i .h)))))))) (.call n_known []) none, []), (AOper.mk (some (.i (.o (.o (.o (.o (.o (.i .h)))))))) (.mv (.t (.o (.o (.o (.o (.o (.o (.i .h))))))))) none, []), (AOper.mk (some (.o (.i (.o (.o (.o (.o (.i .h)))))))) (.mv (.t (.i (.o (.o (.i .h)))))) (some (.i (.o (.o (.o (.o (.o (.i .h)))))), true)), []), (AOper.mk (some (.i (.i (.o (.o (.o (.o (.i .h)))))))) (.bin .eql (.val .int) (.t (.o (.i (.o (.o (.o (.o (.i .h)))))))) (.c (.int .i64 (.ofNat 0)))) (some (.i (.o (.o (.o (.o (.o (.i .h)))))), true)), []), (AOper.mk (some (.o (.o (.i (.o (.o (.o (.i .h)))))))) (.pick (.t (.i (.o (.o (.o (.o (.o (.i .h)))))))) (.t (.i (.i (.o (.o (.o (.o (.i .h)))))))) (.c (.bool false))) none, []), (AOper.mk (some (.i (.o (.i (.o (.o (.o (.i .h)))))))) (.mv (.t (.o (.o (.i (.o (.o (.o (.i .h))))))))) none, []), (AOper.mk (some (.o (.i (.i (.o (.o (.o (.i .h)))))))) (.fieldAddr 2 (.t (.o (.o (.o (.i .h)))))) (some (.i (.o (.i (.o (.o (.o (.i .h)))))), true)), []), (AOper.mk (some (.i (.i (.i (.o (.o (.o (.i .h)))))))) (.load false 1 (.t (.o (.i (.i (.o (.o (.o (.i .h))))))))) (some (.i (.o (.i (.o (.o (.o (.i .h)))))), true)), [11]), (AOper.mk (some (.o (.o (.o (.i (.o (.o (.i .h)))))))) (.mv (.t (.i (.i (.o .h))))) (some (.i (.o (.i (.o (.o (.o (.i .h)))))), true)), []), (AOper.mk (some (.i (.o (.o (.i (.o (.o (.i .h)))))))) (.mv (.t (.i (.o (.i (.o .h)))))) (some (.i (.o (.i (.o (.o (.o (.i .h)))))), true)), []), (AOper.mk (some (.o (.i (.o (.i (.o (.o (.i .h)))))))) (.idxAddr (.slice 1) (.t (.o (.o (.o (.i (.o (.o (.i .h)))))))) (.t (.i (.o (.o (.i (.o (.o (.i .h))))))))) (some (.i (.o (.i (.o (.o (.o (.i .h)))))), true)), []), (AOper.mk (some (.i (.i (.o (.i (.o (.o (.i .h)))))))) (.load false 1 (.t (.o (.i (.o (.i (.o (.o (.i .h))))))))) (some (.i (.o (.i (.o (.o (.o (.i .h)))))), true)), [7]), (AOper.mk (some (.o (.o (.i (.i (.o (.o (.i .h)))))))) (.bin .eql (.val .int) (.t (.i (.i (.i (.o (.o (.o (.i .h)))))))) (.t (.i (.i (.o (.i (.o (.o (.i .h))))))))) (some (.i (.o (.i (.o (.o (.o (.i .h)))))), true)), []), (AOper.mk (some (.i (.o (.i (.i (.o (.o (.i .h)))))))) (.pick (.t (.i (.o (.i (.o (.o (.o (.i .h)))))))) (.t (.o (.o (.i (.i (.o (.o (.i .h)))))))) (.c (.bool false))) none, []), (AOper.mk (some (.o (.i (.i (.i (.o (.o (.i .h)))))))) (.mv (.t (.i (.o (.i (.i (.o (.o (.i .h))))))))) none, []), (AOper.mk (some (.i (.i (.i (.i (.o (.o (.i .h)))))))) (.fieldAddr 0 (.t (.o (.o (.o (.i .h)))))) (some (.o (.i (.i (.i (.o (.o (.i .h)))))), true)), []), (AOper.mk (some (.o (.o (.o (.o (.i (.o (.i .h)))))))) (.load false 1 (.t (.i (.i (.i (.i (.o (.o (.i .h))))))))) (some (.o (.i (.i (.i (.o (.o (.i .h)))))), true)), []), (AOper.mk (some (.i (.o (.o (.o (.i (.o (.i .h)))))))) (.mv (.t (.i .h))) (some (.o (.i (.i (.i (.o (.o (.i .h)))))), true)), []), (AOper.mk (some (.o (.i (.o (.o (.i (.o (.i .h)))))))) (.bin .eql (.val .int) (.t (.o (.o (.o (.o (.i (.o (.i .h)))))))) (.t (.i (.o (.o (.o (.i (.o (.i .h))))))))) (some (.o (.i (.i (.i (.o (.o (.i .h)))))), true)), []), (AOper.mk (some (.i (.i (.o (.o (.i (.o (.i .h)))))))) (.pick (.t (.o (.i (.i (.i (.o (.o (.i .h)))))))) (.t (.o (.i (.o (.o (.i (.o (.i .h)))))))) (.c (.bool false))) none, []), (AOper.mk (some (.o (.o (.i (.o (.i (.o (.i .h)))))))) (.mv (.t (.i (.i (.o (.o (.i (.o (.i .h))))))))) none, []), (AOper.mk (some (.i (.o (.i (.o (.i (.o (.i .h)))))))) (.fieldAddr 1 (.t (.o (.o (.o (.i .h)))))) (some (.o (.o (.i (.o (.i (.o (.i .h)))))), true)), []), (AOper.mk (some (.o (.i (.i (.o (.i (.o (.i .h)))))))) (.load false 1 (.t (.i (.o (.i (.o (.i (.o (.i .h))))))))) (some (.o (.o (.i (.o (.i (.o (.i .h)))))), true)), []), (AOper.mk (some (.i (.i (.i (.o (.i (.o (.i .h)))))))) (.bin .eql (.val .int) (.t (.o (.i (.i (.o (.i (.o (.i .h)))))))) (.c (.int .i64 (.ofNat 2)))) (some (.o (.o (.i (.o (.i (.o (.i .h)))))), true)), []), (AOper.mk (some (.o (.o (.o (.i (.i (.o (.i .h)))))))) (.pick (.t (.o (.o (.i (.o (.i (.o (.i .h)))))))) (.t (.i (.i (.i (.o (.i (.o (.i .h)))))))) (.c (.bool false))) none, []), (AOper.mk (some (.i (.o (.o (.i (.i (.o (.i .h)))))))) (.mv (.t (.o (.o (.o (.i (.i (.o (.i .h))))))))) none, []), (AOper.mk (some (.o (.i (.o (.i (.i (.o (.i .h)))))))) (.fieldAddr 3 (.t (.o (.o (.o (.i .h)))))) (some (.i (.o (.o (.i (.i (.o (.i .h)))))), true)), []), (AOper.mk (some (.i (.i (.o (.i (.i (.o (.i .h)))))))) (.load false 1 (.t (.o (.i (.o (.i (.i (.o (.i .h))))))))) (some (.i (.o (.o (.i (.i (.o (.i .h)))))), true)), [32, 33]), (AOper.mk (some (.o (.o (.i (.i (.i (.o (.i .h)))))))) (.conv .toStr (.t (.i (.i (.o (.i (.i (.o (.i .h))))))))) (some (.i (.o (.o (.i (.i (.o (.i .h)))))), true)), [32, 33]), (AOper.mk (some (.i (.o (.i (.i (.i (.o (.i .h)))))))) (.mv (.t (.i .h))) (some (.i (.o (.o (.i (.i (.o (.i .h)))))), true)), []), (AOper.mk (some (.o (.i (.i (.i (.i (.o (.i .h)))))))) (.bin .add (.val .int) (.c (.int .i64 (.ofNat 100))) (.t (.i (.o (.i (.i (.i (.o (.i .h))))))))) (some (.i (.o (.o (.i (.i (.o (.i .h)))))), true)), []), (AOper.mk (some (.i (.i (.i (.i (.i (.o (.i .h)))))))) (.conv (.int .u8) (.t (.o (.i (.i (.i (.i (.o (.i .h))))))))) (some (.i (.o (.o (.i (.i (.o (.i .h)))))), true)), []), (AOper.mk (some (.o (.o (.o (.o (.o (.i (.i .h)))))))) (.bslice 1 1 [.int .u8 (.ofNat 0)] [(0, (1, .t (.i (.i (.i (.i (.i (.o (.i .h)))))))))]) (some (.i (.o (.o (.i (.i (.o (.i .h)))))), true)), [27, 28]), (AOper.mk (some (.i (.o (.o (.o (.o (.i (.i .h)))))))) (.conv .toStr (.t (.o (.o (.o (.o (.o (.i (.i .h))))))))) (some (.i (.o (.o (.i (.i (.o (.i .h)))))), true)), [27, 28]), (AOper.mk (some (.o (.i (.o (.o (.o (.i (.i .h)))))))) (.bin .eql (.val .str) (.t (.o (.o (.i (.i (.i (.o (.i .h)))))))) (.t (.i (.o (.o (.o (.o (.i (.i .h))))))))) (some (.i (.o (.o (.i (.i (.o (.i .h)))))), true)), []), (AOper.mk (some (.i (.i (.o (.o (.o (.i (.i .h)))))))) (.pick (.t (.i (.o (.o (.i (.i (.o (.i .h)))))))) (.t (.o (.i (.o (.o (.o (.i (.i .h)))))))) (.c (.bool false))) none, []), (AOper.mk (some (.i (.i .h))) (.mv (.t (.i (.i (.o (.o (.o (.i (.i .h))))))))) none, [])]) .ret)))))
def SzFont (n_Pick : Nat) (n_Font : Nat) (n_Open : Nat) (n_Find : Nat) (n_known : Nat) : ACode := (.seq (.reg [AOper.mk (some (.i (.i (.i (.o (.o (.i .h))))))) (.bslice 1 2 [.str []] [(0, (1, .c (.str [67, 66, 76, 67]))), (1, (1, .c (.str [67, 66, 68, 84])))]) none, AOper.mk (some (.o (.i (.o (.i (.o (.i .h))))))) (.bslice 1 2 [.slice none 0 0 0 true] [(0, (1, .t (.i (.o (.o .h))))), (1, (1, .t (.o (.o (.o (.o .h))))))]) none, AOper.mk (some (.i (.i (.o (.i (.o (.i .h))))))) (.call n_Font [.t (.i (.i (.i (.o (.o (.i .h)))))), .t (.o (.i (.o (.i (.o (.i .h))))))]) none, AOper.mk (some (.o (.i (.o (.o .h))))) (.mv (.t (.i (.i (.o (.i (.o (.i .h)))))))) none]) (.seq (.reg [AOper.mk (some (.o (.i (.i (.i (.o (.i .h))))))) (.call n_Open [.t (.o (.i (.o (.o .h))))]) none, AOper.mk (some (.i (.i (.i (.i (.o (.i .h))))))) (.extract (.t (.o (.i (.i (.i (.o (.i .h))))))) 0) none, AOper.mk (some (.o (.o (.o (.o (.i (.i .h))))))) (.extract (.t (.o (.i (.i (.i (.o (.i .h))))))) 1) none, AOper.mk (some (.i (.i (.o (.o .h))))) (.mv (.t (.i (.i (.i (.i (.o (.i .h)))))))) none, AOper.mk (some (.o (.o (.i (.o .h))))) (.mv (.t (.o (.o (.o (.o (.i (.i .h)))))))) none]) (.seq (.reg [AOper.mk (some (.o (.i (.o (.o (.i (.i .h))))))) (.call n_Pick [.t (.o .h), .c (.int .i64 (.ofNat 70))]) none, AOper.mk (some (.i (.i (.o (.o (.i (.i .h))))))) (.bin .add (.val .int) (.c (.int .i64 (.ofNat 1))) (.t (.o (.i (.o (.o (.i (.i .h)))))))) none, AOper.mk (some (.o .h)) (.mv (.t (.i (.i (.o (.o (.i (.i .h)))))))) none]) (.seq (.reg [AOper.mk (some (.i (.o (.i (.o (.i (.i .h))))))) (.call n_Pick [.t (.i .h), .c (.int .i64 (.ofNat 11))]) none, AOper.mk (some (.i .h)) (.mv (.t (.i (.o (.i (.o (.i (.i .h)))))))) none]) (SzPick n_Find n_known)))))
def SzMid (n_Big : Nat) (n_Pick : Nat) (n_Font : Nat) (n_Open : Nat) (n_Find : Nat) (n_known : Nat) : ACode := (.seq (.reg [AOper.mk (some (.i (.i (.o (.o (.i (.o .h))))))) (.bslice 1 16 [.int .u8 (.ofNat 0)] [(0, (1, .c (.int .u8 (.ofNat 0)))), (1, (1, .c (.int .u8 (.ofNat 0)))), (2, (1, .c (.int .u8 (.ofNat 0)))), (3, (1, .c (.int .u8 (.ofNat 9)))), (4, (1, .c (.int .u8 (.ofNat 0)))), (5, (1, .c (.int .u8 (.ofNat 0)))), (6, (1, .c (.int .u8 (.ofNat 0)))), (7, (1, .c (.int .u8 (.ofNat 8)))), (8, (1, .c (.int .u8 (.ofNat 0)))), (9, (1, .c (.int .u8 (.ofNat 1)))), (10, (1, .c (.int .u8 (.ofNat 0)))), (11, (1, .c (.int .u8 (.ofNat 17)))), (12, (1, .c (.int .u8 (.ofNat 0)))), (13, (1, .c (.int .u8 (.ofNat 0)))), (14, (1, .c (.int .u8 (.ofNat 0)))), (15, (1, .c (.int .u8 (.ofNat 4))))]) none, AOper.mk (some (.o (.o (.i (.o (.i (.o .h))))))) (.append 1 1 (.t (.i (.o (.o .h)))) (.t (.i (.i (.o (.o (.i (.o .h)))))))) none, AOper.mk (some (.i (.o (.o .h)))) (.mv (.t (.o (.o (.i (.o (.i (.o .h)))))))) none]) (.seq (.reg [AOper.mk (some (.i (.o (.i (.o (.i (.o .h))))))) (.bslice 1 4 [.int .u8 (.ofNat 0)] [(0, (1, .c (.int .u8 (.ofNat 0)))), (1, (1, .c (.int .u8 (.ofNat 3)))), (2, (1, .c (.int .u8 (.ofNat 0)))), (3, (1, .c (.int .u8 (.ofNat 0))))]) none, AOper.mk (some (.o (.o (.o (.o .h))))) (.mv (.t (.i (.o (.i (.o (.i (.o .h)))))))) none]) (.seq (.seq (.reg [AOper.mk (some (.i (.o (.o (.o .h))))) (.mv (.c (.int .i64 (.ofNat 0)))) none]) (.block 2 (.loop (.seq (.seq (.reg [AOper.mk (some (.i (.i (.i (.o (.i (.o .h))))))) (.bin .leq (.val .int) (.t (.i (.o (.o (.o .h))))) (.c (.int .i64 (.ofNat 10)))) none]) (.cond (.t (.i (.i (.i (.o (.i (.o .h))))))) .skip (.exit 2))) (.seq (.block 3 (.seq (.reg [AOper.mk (some (.o (.o (.i (.i (.i (.o .h))))))) (.bin .mul (.val .int) (.c (.int .i64 (.ofNat 10))) (.t (.i (.o (.o (.o .h)))))) none, AOper.mk (some (.i (.o (.i (.i (.i (.o .h))))))) (.call n_Big [.t (.o (.o (.i (.i (.i (.o .h)))))), .c (.int .i64 (.ofNat 4))]) none, AOper.mk (some (.o (.i (.i (.i (.i (.o .h))))))) (.append 1 1 (.t (.i (.o (.o .h)))) (.t (.i (.o (.i (.i (.i (.o .h)))))))) none, AOper.mk (some (.i (.o (.o .h)))) (.mv (.t (.o (.i (.i (.i (.i (.o .h)))))))) none]) (.reg [AOper.mk (some (.i (.o (.o (.o (.o (.i .h))))))) (.conv (.int .u8) (.t (.i (.o (.o (.o .h)))))) none, AOper.mk (some (.i (.i (.o (.o (.o (.i .h))))))) (.bin .add (.val .int) (.c (.int .i64 (.ofNat 100))) (.t (.i (.o (.o (.o .h)))))) none, AOper.mk (some (.o (.o (.i (.o (.o (.i .h))))))) (.conv (.int .u8) (.t (.i (.i (.o (.o (.o (.i .h)))))))) none, AOper.mk (some (.i (.o (.i (.o (.o (.i .h))))))) (.bslice 1 10 [.int .u8 (.ofNat 0)] [(0, (1, .c (.int .u8 (.ofNat 1)))), (1, (1, .c (.int .u8 (.ofNat 1)))), (2, (1, .t (.i (.o (.o (.o (.o (.i .h)))))))), (3, (1, .c (.int .u8 (.ofNat 2)))), (4, (1, .c (.int .u8 (.ofNat 1)))), (5, (1, .c (.int .u8 (.ofNat 0)))), (6, (1, .c (.int .u8 (.ofNat 0)))), (7, (1, .c (.int .u8 (.ofNat 0)))), (8, (1, .c (.int .u8 (.ofNat 1)))), (9, (1, .t (.o (.o (.i (.o (.o (.i .h))))))))]) none, AOper.mk (some (.o (.i (.i (.o (.o (.i .h))))))) (.append 1 1 (.t (.o (.o (.o (.o .h))))) (.t (.i (.o (.i (.o (.o (.i .h)))))))) none, AOper.mk (some (.o (.o (.o (.o .h))))) (.mv (.t (.o (.i (.i (.o (.o (.i .h)))))))) none]))) (.reg [AOper.mk (some (.i (.o (.o (.i (.i (.o .h))))))) (.bin .add (.val .int) (.t (.i (.o (.o (.o .h))))) (.c (.int .i64 (.ofNat 1)))) none, AOper.mk (some (.i (.o (.o (.o .h))))) (.mv (.t (.i (.o (.o (.i (.i (.o .h)))))))) none])))))) (SzFont n_Pick n_Font n_Open n_Find n_known))))
def SzLaw_c (n_Big : Nat) (n_Pick : Nat) (n_Font : Nat) (n_Open : Nat) (n_Find : Nat) (n_known : Nat) : AFunc := AFunc.mk 227 (.seq (.reg [AOper.mk (some (.i (.i .h))) (.mv (.c (.bool false))) none]) (.seq (.reg [AOper.mk (some (.i (.i (.o (.i .h))))) (.len .slice (.t .h)) none, AOper.mk (some (.o (.o (.i (.i .h))))) (.minmax false (.t (.i (.i (.o (.i .h))))) [.c (.int .i64 (.ofNat 6))]) none, AOper.mk (some (.o (.o (.o .h)))) (.mv (.t (.o (.o (.i (.i .h)))))) none]) (.seq (.reg [AOper.mk (some (.i (.o (.i (.i .h))))) (.bslice 1 4 [.int .u8 (.ofNat 0)] [(0, (1, .c (.int .u8 (.ofNat 0)))), (1, (1, .c (.int .u8 (.ofNat 3)))), (2, (1, .c (.int .u8 (.ofNat 0)))), (3, (1, .c (.int .u8 (.ofNat 0))))]) none, AOper.mk (some (.i (.i (.i (.i .h))))) (.call n_Big [.t (.o (.o (.o .h))), .c (.int .i64 (.ofNat 4))]) none, AOper.mk (some (.o (.o (.o (.o (.o .h)))))) (.append 1 1 (.t (.i (.o (.i (.i .h))))) (.t (.i (.i (.i (.i .h)))))) none, AOper.mk (some (.i (.o (.o .h)))) (.mv (.t (.o (.o (.o (.o (.o .h))))))) none]) (.seq (.reg [AOper.mk (some (.o (.i (.o (.o (.o .h)))))) (.bin .mul (.val .int) (.c (.int .i64 (.ofNat 48))) (.t (.o (.o (.o .h))))) none, AOper.mk (some (.i (.i (.o (.o (.o .h)))))) (.bin .add (.val .int) (.c (.int .i64 (.ofNat 8))) (.t (.o (.i (.o (.o (.o .h))))))) none, AOper.mk (some (.o (.i (.o .h)))) (.mv (.t (.i (.i (.o (.o (.o .h))))))) none]) (.seq (.reg [AOper.mk (some (.i (.i (.o .h)))) (.mv (.c (.slice none 0 0 0 true))) none, AOper.mk (some (.o (.o (.i .h)))) (.mv (.c (.slice none 0 0 0 true))) none]) (.seq (.seq (.reg [AOper.mk (some (.i (.o (.i .h)))) (.mv (.c (.int .i64 (.ofNat 0)))) none]) (.block 0 (.loop (.seq (.seq (.reg [AOper.mk (some (.o (.i (.i (.o (.o .h)))))) (.bin .lss (.val .int) (.t (.i (.o (.i .h)))) (.t (.o (.o (.o .h))))) none]) (.cond (.t (.o (.i (.i (.o (.o .h)))))) .skip (.exit 0))) (.seq (.block 1 (.seq (.reg [AOper.mk (some (.i (.i (.o (.i (.o .h)))))) (.idxAddr (.slice 1) (.t .h) (.t (.i (.o (.i .h))))) none, AOper.mk (some (.o (.o (.i (.i (.o .h)))))) (.load false 1 (.t (.i (.i (.o (.i (.o .h))))))) none, AOper.mk (some (.i (.o (.i (.i (.o .h)))))) (.call n_Pick [.t (.o (.o (.i (.i (.o .h))))), .c (.int .i64 (.ofNat 60))]) none, AOper.mk (some (.o (.i (.i .h)))) (.mv (.t (.i (.o (.i (.i (.o .h))))))) none]) (.seq (.reg [AOper.mk (some (.o (.o (.o (.o (.i .h)))))) (.idxAddr (.slice 1) (.t .h) (.t (.i (.o (.i .h))))) none, AOper.mk (some (.i (.o (.o (.o (.i .h)))))) (.load false 1 (.t (.o (.o (.o (.o (.i .h))))))) none, AOper.mk (some (.o (.i (.o (.o (.i .h)))))) (.bin .quo (.val .int) (.t (.i (.o (.o (.o (.i .h)))))) (.c (.int .i64 (.ofNat 60)))) none, AOper.mk (some (.i (.i (.o (.o (.i .h)))))) (.call n_Pick [.t (.o (.i (.o (.o (.i .h))))), .c (.int .i64 (.ofNat 6))]) none, AOper.mk (some (.i (.i (.i .h)))) (.mv (.t (.i (.i (.o (.o (.i .h))))))) none]) (.seq (.reg [AOper.mk (some (.o (.i (.i (.o (.i .h)))))) (.bslice 1 1 [.int .i64 (.ofNat 0)] [(0, (1, .t (.o (.i (.i .h)))))]) none, AOper.mk (some (.i (.i (.i (.o (.i .h)))))) (.append 1 8 (.t (.i (.i (.o .h)))) (.t (.o (.i (.i (.o (.i .h))))))) none, AOper.mk (some (.i (.i (.o .h)))) (.mv (.t (.i (.i (.i (.o (.i .h))))))) none]) (.seq (.reg [AOper.mk (some (.o (.i (.o (.i (.i .h)))))) (.bslice 1 1 [.int .i64 (.ofNat 0)] [(0, (1, .t (.i (.i (.i .h)))))]) none, AOper.mk (some (.i (.i (.o (.i (.i .h)))))) (.append 1 8 (.t (.o (.o (.i .h)))) (.t (.o (.i (.o (.i (.i .h))))))) none, AOper.mk (some (.o (.o (.i .h)))) (.mv (.t (.i (.i (.o (.i (.i .h))))))) none]) (.seq (.reg [AOper.mk (some (.o (.i (.i (.i (.i .h)))))) (.call n_Big [.t (.o (.i (.o .h))), .c (.int .i64 (.ofNat 4))]) none, AOper.mk (some (.i (.i (.i (.i (.i .h)))))) (.append 1 1 (.t (.i (.o (.o .h)))) (.t (.o (.i (.i (.i (.i .h))))))) none, AOper.mk (some (.i (.o (.o .h)))) (.mv (.t (.i (.i (.i (.i (.i .h))))))) none]) (.seq (.reg [AOper.mk (some (.i (.o (.o (.o (.o (.o .h))))))) (.bslice 1 8 [.int .u8 (.ofNat 0)] [(0, (1, .c (.int .u8 (.ofNat 0)))), (1, (1, .c (.int .u8 (.ofNat 0)))), (2, (1, .c (.int .u8 (.ofNat 0)))), (3, (1, .c (.int .u8 (.ofNat 0)))), (4, (1, .c (.int .u8 (.ofNat 0)))), (5, (1, .c (.int .u8 (.ofNat 0)))), (6, (1, .c (.int .u8 (.ofNat 0)))), (7, (1, .c (.int .u8 (.ofNat 1))))]) none, AOper.mk (some (.o (.i (.o (.o (.o (.o .h))))))) (.append 1 1 (.t (.i (.o (.o .h)))) (.t (.i (.o (.o (.o (.o (.o .h)))))))) none, AOper.mk (some (.i (.o (.o .h)))) (.mv (.t (.o (.i (.o (.o (.o (.o .h)))))))) none]) (.seq (.reg [AOper.mk (some (.o (.o (.i (.o (.o (.o .h))))))) (.appendZ 1 1 [.int .u8 (.ofNat 0)] (.t (.i (.o (.o .h)))) (.c (.int .i64 (.ofNat 28)))) none, AOper.mk (some (.i (.o (.o .h)))) (.mv (.t (.o (.o (.i (.o (.o (.o .h)))))))) none]) (.seq (.reg [AOper.mk (some (.i (.i (.i (.o (.o (.o .h))))))) (.call n_Big [.t (.i (.i (.i .h))), .c (.int .i64 (.ofNat 2))]) none, AOper.mk (some (.o (.o (.o (.i (.o (.o .h))))))) (.append 1 1 (.t (.i (.o (.o .h)))) (.t (.i (.i (.i (.o (.o (.o .h)))))))) none, AOper.mk (some (.i (.o (.o (.i (.o (.o .h))))))) (.bslice 1 2 [.int .u8 (.ofNat 0)] [(0, (1, .c (.int .u8 (.ofNat 0)))), (1, (1, .c (.int .u8 (.ofNat 9))))]) none, AOper.mk (some (.o (.i (.o (.i (.o (.o .h))))))) (.append 1 1 (.t (.o (.o (.o (.i (.o (.o .h))))))) (.t (.i (.o (.o (.i (.o (.o .h)))))))) none, AOper.mk (some (.i (.o (.o .h)))) (.mv (.t (.o (.i (.o (.i (.o (.o .h)))))))) none]) (.reg [AOper.mk (some (.i (.o (.i (.i (.o (.o .h))))))) (.conv (.int .u8) (.t (.o (.i (.i .h))))) none, AOper.mk (some (.i (.i (.i (.i (.o (.o .h))))))) (.conv (.int .u8) (.t (.o (.i (.i .h))))) none, AOper.mk (some (.o (.o (.o (.o (.i (.o .h))))))) (.bslice 1 4 [.int .u8 (.ofNat 0)] [(0, (1, .t (.i (.o (.i (.i (.o (.o .h)))))))), (1, (1, .t (.i (.i (.i (.i (.o (.o .h)))))))), (2, (1, .c (.int .u8 (.ofNat 32)))), (3, (1, .c (.int .u8 (.ofNat 1))))]) none, AOper.mk (some (.i (.o (.o (.o (.i (.o .h))))))) (.append 1 1 (.t (.i (.o (.o .h)))) (.t (.o (.o (.o (.o (.i (.o .h)))))))) none, AOper.mk (some (.i (.o (.o .h)))) (.mv (.t (.i (.o (.o (.o (.i (.o .h)))))))) none])))))))))) (.reg [AOper.mk (some (.o (.o (.o (.i (.o .h)))))) (.bin .add (.val .int) (.t (.i (.o (.i .h)))) (.c (.int .i64 (.ofNat 1)))) none, AOper.mk (some (.i (.o (.i .h)))) (.mv (.t (.o (.o (.o (.i (.o .h))))))) none])))))) (SzMid n_Big n_Pick n_Font n_Open n_Find n_known))))))) [.tmp (.i (.i .h))]

attribute [local simp] wp_skip wp_ret wp_exit wp_reg wp_seq wp_cond wp_block thenQ_normal thenQ_ret thenQ_exit blockQ_normal blockQ_ret blockQ_exit wpCond_true wpCond_false wpOps_nil wpVal_some wpGuard_true wpGuard_false wpOps_guard wpOps_cons
  put_at put_no ev_c ev_slot posEq_h posEq_o posEq_i posEq_ho posEq_hi posEq_oh posEq_ih posEq_oi posEq_io sel_true sel_false
  okv_some step_mv step_call step_pick pickV_bool step_bin bin_add bin_sub bin_mul bin_eql bin_neq bin_lss bin_leq bin_gtr bin_geq bin_eqb bin_neb bin_eqs bin_nes step_un un_not un_neg step_len len_slice len_str len_const step_extract extractV nth step_convInt conv_int step_convStr step_slice step_idxAddr natOf_nat step_load step_index step_field step_fieldAddr step_build step_minmax
  step_alloc step_bslice bsliceV_some newV_some step_store step_append boolIs_b boolIs_t finQ_ret finQ_normal ressE_nil ressE_cons resE_tmp consO_some initE_nil initE_cons pos_0 pos_1 pos_2 pos_3 pos_4 pos_5 pos_6 pos_7 pos_8 plain_bool plain_int plain_str plain_ptr plain_slice plain_map plain_agg plain_func plain_nilFunc V.undef oneOf_one oneOf_two ble_self
open Go.Vabs.Pk Go.Vabs.Ph Go.Vabs.Sa Go.Vabs.Sb Go.Vabs.Sc Go.Vabs.Sd Go.Vabs.Se Go.Vabs.Sg Go.Vabs.Sh Go.Vabs.Sm Go.Vabs.Sn Go.Vabs.Sp Go.Vabs.Sr Go.Vabs.St Go.Vabs.Su Go.Vabs.L2 Go.Vabs.Na Go.Vabs.Nb Go.Vabs.Ra Go.Vabs.Rb Go.Vabs.Rc Go.Vabs.Rd Go.Vabs.Re Go.Vabs.Ca Go.Vabs.Cb Go.Vabs.Cc Go.Vabs.Cd Go.Vabs.Ce Go.Vabs.Vc Go.Vabs.Cf Go.Vabs.Cg
attribute [local simp] step_nilchk nilchk_ptr step_box cells_int cells_bool cells_str cells_slice cells_ptr cells_agg fieldAddrV natOf_zero fill repN splice over newV step_appendZ
  wp_dreg wpDs_nil wpDs_cons wantedE_none wantedE_some wpDGuard_true wpDGuard_lim wpDGuard_false wpDLim_true wpDVal_free wpDVal_lim back_limited next_limited limF_dir limF_false foot_load foot_store foot_convStr okAll_nil okAll_cons pastsOf nthP ahead few_next load_limited convStr_limited blt_dec okPair_dd okPair_dc okPair_cd okPair_cc anyIn_nil anyIn_same anyIn_cons meets_nil meets_nil'
  tn_alloc tn_load tn_load0 tn_store tn_store0 storeT_some loadC_some cellsAt_zero cellsAt_succ ownAt_zero ownAt_succ tn_first tn_first0 firstC_some tn_grow_none tn_grow tn_grow0 growN_some tn_fix tn_fix0 fixN_some bn_load bn_first bn_grow bn_store tn_next tn_alloc_dir tl_store_d tl_back tl_back_few few_back_tl backv_some back_back cut takeN nbeq_dec ble_dec meets_cons mem_nil mem_cons idOf load_d convStr_d lenOfS firstNo natOf_int if_leN bn_fix foot_bslice foot_alloc foot_box foot_append foot_call
/- LISTS THAT GROW, BEHIND A MEMORY -/
theorem growEl_tn {α : Type} {f : α → List V} {e w : Nat} (hf : ∀ a, (f a).length = e) (hw : w ≤ 64) {X : List (Option AObj)} {N q n : Nat} [hN : LenIs X N] {L : List α} (a : α) (hn : L.length = n) (hs : n ≤ 1000000) (h : n ≠ 0 → (X[q]?).join = some (.cells true (elV f L))) (l : List (Option AObj)) :
    appendV (tl X l) e w (elS e q n) (some 1) (some (f a)) = some (.slice (some (N + l.length, 0)) e (n + 1) (n + 1) false, tl (Sp.setK n X q) (l ++ [some (.cells true (elV f (L ++ [a])))])) := by
  have := growEl hf hw (os := X ++ l) (q := q) a hn hs fun h0 => by rw [join_app (join_lt (h h0))]; exact h h0
  rw [tl_eq, this, List.length_append, hN.eq, tl_eq]
  congr 2
  unfold Sp.setK
  split
  · rw [List.append_assoc]
  · rename_i h0
    rw [List.set_append_left _ _ (join_lt (h h0)), List.append_assoc]
theorem big_tn {nB : Nat} {call : CallT} (hB : BigF call nB) {X : List (Option AObj)} {N : Nat} [hN : LenIs X N] (n z : Nat) (h1 : 0 < z) (h2 : z ≤ 8) (l : List (Option AObj)) :
    call nB [.int .i64 (n : Int), .int .i64 (z : Int)] (tl X l) = some (.slice (some (N + l.length, 0)) 1 z z false, tl X (l ++ [some (.cells true (bytesV (bigB n z)))])) := by
  have := hB (X ++ l) n z h1 h2
  rw [List.length_append, hN.eq, List.append_assoc] at this
  exact this
theorem big_tn4 {nB : Nat} {call : CallT} (hB : BigF call nB) {X : List (Option AObj)} {N : Nat} [hN : LenIs X N] (n : Nat) (l : List (Option AObj)) :
    call nB [.int .i64 (n : Int), .int .i64 4] (tl X l) = some (.slice (some (N + l.length, 0)) 1 4 4 false, tl X (l ++ [some (.cells true (bytesV (bigB n 4)))])) := big_tn hB n 4 (by omega) (by omega) l
theorem big_tn2 {nB : Nat} {call : CallT} (hB : BigF call nB) {X : List (Option AObj)} {N : Nat} [hN : LenIs X N] (n : Nat) (l : List (Option AObj)) :
    call nB [.int .i64 (n : Int), .int .i64 2] (tl X l) = some (.slice (some (N + l.length, 0)) 1 2 2 false, tl X (l ++ [some (.cells true (bytesV (bigB n 2)))])) := big_tn hB n 2 (by omega) (by omega) l
theorem cut_big {n z : Nat} : cut 0 z (bytesV (bigB n z)) = some (bytesV (bigB n z)) := by
  have : (bytesV (bigB n z)).length = z := by rw [bytesV_len, bigB_len]
  rw [cut_of (by omega), List.drop_zero, List.take_of_length_le (by omega)]
theorem take_big {n z : Nat} : takeN z (bytesV (bigB n z)) = some (bytesV (bigB n z)) := by
  have : (bytesV (bigB n z)).length = z := by rw [bytesV_len, bigB_len]
  rw [takeN_of (by omega), List.take_of_length_le (by omega)]
/- THE LAW'S TABLE -/
def pz (zs : List Int) (j : Nat) : Nat := (pickI (zs.getD j 0) 60).toNat
def fz (zs : List Int) (j : Nat) : Nat := (pickI (Int.tdiv (zs.getD j 0) 60) 6).toNat
def recB (A f p : Nat) : List Nat := bigB A 4 ++ ([0, 0, 0, 0, 0, 0, 0, 1] ++ (List.replicate 28 0 ++ (bigB f 2 ++ ([0, 9] ++ [p, p, 32, 1]))))
theorem recB_len {A f p : Nat} : (recB A f p).length = 48 := by unfold recB; simp [bigB_len]
def tabB (zs : List Int) (n i : Nat) : List Nat := [0, 3, 0, 0] ++ bigB n 4 ++ ((List.range i).map fun j => recB (8 + 48 * n) (fz zs j) (pz zs j)).flatten
theorem tabB_succ {zs : List Int} {n i : Nat} : tabB zs n (i + 1) = tabB zs n i ++ recB (8 + 48 * n) (fz zs i) (pz zs i) := by unfold tabB; rw [List.range_succ]; simp
theorem tabB_len {zs : List Int} {n : Nat} : ∀ i, (tabB zs n i).length = 8 + 48 * i
  | 0 => by simp [tabB, bigB_len]
  | i + 1 => by rw [tabB_succ, List.length_append, tabB_len i, recB_len]; omega
def oneI (p : Nat) : List V := [.int .i64 (p : Int)]
def pzL (zs : List Int) (i : Nat) : List Nat := (List.range i).map (pz zs)
def fzL (zs : List Int) (i : Nat) : List Nat := (List.range i).map (fz zs)
theorem pzL_succ {zs : List Int} {i : Nat} : pzL zs (i + 1) = pzL zs i ++ [pz zs i] := by unfold pzL; rw [List.range_succ, List.map_append]; rfl
theorem fzL_succ {zs : List Int} {i : Nat} : fzL zs (i + 1) = fzL zs i ++ [fz zs i] := by unfold fzL; rw [List.range_succ, List.map_append]; rfl
theorem pzL_len {zs : List Int} {i : Nat} : (pzL zs i).length = i := by simp [pzL]
theorem fzL_len {zs : List Int} {i : Nat} : (fzL zs i).length = i := by simp [fzL]
structure SzInv (N : Nat) (os X : List (Option AObj)) (zs : List Int) (n i pb qp qf : Nat) : Prop where
  old : ∀ j, j < N → (X[j]?).join = (os[j]?).join
  le : N ≤ X.length
  b : N ≤ pb ∧ (X[pb]?).join = some (newBytes (tabB zs n i))
  p : i ≠ 0 → N ≤ qp ∧ (X[qp]?).join = some (.cells true (elV oneI (pzL zs i)))
  f : i ≠ 0 → N ≤ qf ∧ (X[qf]?).join = some (.cells true (elV oneI (fzL zs i)))
  ne : i ≠ 0 → pb ≠ qp ∧ pb ≠ qf ∧ qp ≠ qf
theorem tdiv_abs (z b : Int) : (Int.tdiv z b).natAbs ≤ z.natAbs := by rw [Int.natAbs_tdiv]; exact Nat.div_le_self ..
theorem cells_rec {B : List Nat} {A f p : Nat} : bytesV B ++ (bytesV (bigB A 4) ++ (V.int .u8 0 :: V.int .u8 0 :: V.int .u8 0 :: V.int .u8 0 :: V.int .u8 0 :: V.int .u8 0 :: V.int .u8 0 :: V.int .u8 1 :: (bytesV (List.replicate 28 0) ++ (bytesV (bigB f 2) ++ [V.int .u8 0, V.int .u8 9, V.int .u8 (p : Int), V.int .u8 (p : Int), V.int .u8 32, V.int .u8 1])))) = bytesV (B ++ recB A f p) := by
  unfold recB bytesV
  simp
set_option maxHeartbeats 4000000 in
theorem Law_run {call : CallT} {lf nB nP nF nO nD nK : Nat} (hlf : 100 ≤ lf) (hB : BigF call nB) (hP : PickF call nP) {os : List (Option AObj)} {v : V} {zs : List Int} {ask glyph : Int} (hv : ParI os v zs) (hzl : zs.length ≤ 140737488354000)
    (rest : ∀ {N n pb qp qf : Nat} {X : List (Option AObj)} {t : Env}, N = os.length → n ≤ 6 → SzInv N os X zs n n pb qp qf → t (.o .h) = .int .i64 ask → t (.i .h) = .int .i64 glyph → t (.i (.i (.o .h))) = elS 1 qp n → t (.o (.o (.i .h))) = elS 1 qf n → t (.i (.o (.o .h))) = .slice (some (pb, 0)) 1 (8 + 48 * n) (8 + 48 * n) false →
      wp call lf (SzMid nB nP nF nO nD nK) t (few X) (finQ [ARes.tmp (.i (.i .h))] fun u _ => u = .bool true)) :
    ∃ s1, enterF call lf [v, .int .i64 ask, .int .i64 glyph] (few os) (SzLaw_c nB nP nF nO nD nK) = some (.bool true, s1) := by
  refine enter_ex ?_
  obtain ⟨a, r0, rfl, har⟩ := hv.ex
  obtain ⟨Z, hZ⟩ : ∃ Z, Z = zs.length := ⟨_, rfl⟩
  rw [← hZ]
  obtain ⟨n, hn⟩ : ∃ n, n = min Z 6 := ⟨_, rfl⟩
  have hmm : mmAll false (.int .i64 (Z : Int)) [.int .i64 6] = some (.int .i64 (n : Int)) := by
    rcases Nat.lt_or_ge 6 Z with h | h
    · rw [hn, Nat.min_eq_right (by omega)]
      simp (disch := omega) [mmAll, mm2, ltI_eq, dltn_t, dlt_t, sel_true, sel_false]
    · rw [hn, Nat.min_eq_left h]
      simp (disch := omega) [mmAll, mm2, ltI_eq, dltn_f, dlt_f, sel_true, sel_false]
  have b0 := fun X N (hN : LenIs X N) => big_tn4 hB (X := X) (N := N)
  have c0 := cut_big (n := n) (z := 4)
  rw [tl_of (X := os)]
  simp (disch := omega) [hmm, big_tn4 hB, take_big, bytesV_len, bigB_len, wrap_i]
  rw [tl_eq]
  obtain ⟨N, hN⟩ : ∃ N, N = os.length := ⟨_, rfl⟩
  obtain ⟨A, hA⟩ : ∃ A, A = 8 + 48 * n := ⟨_, rfl⟩
  refine wp_loop (fun k s st => ∃ i X pb qp qf, i + k = n ∧ st = few X ∧ SzInv N os X zs n i pb qp qf ∧ s .h = .slice a 1 Z Z false ∧ s (.o .h) = .int .i64 ask ∧ s (.i .h) = .int .i64 glyph ∧ s (.o (.o (.o .h))) = .int .i64 (n : Int) ∧ s (.o (.i (.o .h))) = .int .i64 (A : Int) ∧
    s (.i (.o (.i .h))) = .int .i64 (i : Int) ∧ s (.i (.i (.o .h))) = elS 1 qp i ∧ s (.o (.o (.i .h))) = elS 1 qf i ∧ s (.i (.o (.o .h))) = .slice (some (pb, 0)) 1 (8 + 48 * i) (8 + 48 * i) false) n ?_ (by omega) ?_
  · refine ⟨0, _, N + 2, 0, 0, by omega, rfl, ⟨fun j hj => join_app (by omega), by simp; omega, ⟨by omega, ?_⟩, fun h => absurd rfl h, fun h => absurd rfl h, fun h => absurd rfl h⟩, ?_, ?_, ?_, ?_, ?_, ?_, ?_, ?_, ?_⟩
    · rw [hN, tl_at]; simp [tabB, newBytes, bytesV]
    all_goals simp [elS, hA, hN]
  · rintro k s st ⟨i, X, pb, qp, qf, hk, rfl, hI, s1, s2, s3, s4, s5, s6, s7, s8, s9⟩
    cases k with
    | zero =>
      have hin : i = n := by omega
      subst hin
      simp (disch := omega) [s1, s2, s3, s4, s5, s6, s7, s8, s9, dlt_t, dlt_f, dle_t, dle_f, dltn_t, dltn_f, dlen_t, dlen_f, deq_t, deq_f, deqn_t, deqn_f]
      refine rest hN (by omega) hI ?_ ?_ ?_ ?_ ?_ <;> simp [s2, s3, s7, s8, s9]
    | succ k =>
      have hin : i < n := by omega
      obtain ⟨z, hz⟩ : ∃ z, zs[i]? = some z := ⟨_, List.getElem?_eq_getElem (by omega)⟩
      obtain ⟨rfl, own, hrow⟩ := har (fun e => by rw [e] at hz; simp at hz)
      have hrl := join_lt hrow
      have hle := hI.le
      obtain ⟨hb1, hb2⟩ := hI.b
      haveI : At X r0 (.cells own (zs.map fun n => V.int .i64 n)) := ⟨by rw [hI.old r0 (by omega)]; exact hrow⟩
      haveI : At X pb (.cells true (bytesV (tabB zs n i))) := ⟨hb2⟩
      haveI : Df i qp pb := ⟨fun h => (hI.ne h).1.symm⟩
      haveI : Df i qf pb := ⟨fun h => (hI.ne h).2.1.symm⟩
      have hnth : nth i (zs.map fun n => V.int .i64 n) = some (.int .i64 z) := by rw [nth_eq, List.getElem?_map, hz]; rfl
      have hzg : zs.getD i 0 = z := by rw [List.getD_eq_getElem?_getD, hz]; rfl
      have hzr := hv.lt z (List.mem_of_getElem? hz)
      have hp1 := pickI_lt (n := z) (m := 60) (by omega)
      have hp2 := pickI_lt (n := Int.tdiv z 60) (m := 6) (by omega)
      obtain ⟨p, hp⟩ : ∃ p, p = pz zs i := ⟨_, rfl⟩
      obtain ⟨f, hf⟩ : ∃ f, f = fz zs i := ⟨_, rfl⟩
      have hpe : pickI z 60 = (p : Int) := by rw [hp]; unfold pz; rw [hzg]; omega
      have hfe : pickI (Int.tdiv z 60) 6 = (f : Int) := by rw [hf]; unfold fz; rw [hzg]; omega
      have hp60 : p < 60 := by omega
      have hf6 : f < 6 := by omega
      have k1 : ∀ st, call nP [.int .i64 z, .int .i64 60] st = some (.int .i64 (p : Int), st) := fun st => by rw [hP _ _ _ (by omega) (by omega), hpe]
      have k2 : ∀ st, call nP [.int .i64 (Int.tdiv z 60), .int .i64 6] st = some (.int .i64 (f : Int), st) := fun st => by rw [hP _ _ _ (by omega) (by omega), hfe]
      have hq : wrapV .i64 (Int.tdiv z 60) = Int.tdiv z 60 := by
        obtain ⟨q, hq⟩ : ∃ q, q = Int.tdiv z 60 := ⟨_, rfl⟩
        have h1 := tdiv_abs z 60
        have h2 : (Int.tdiv z 60).natAbs ≤ 9223372036854775807 := by rw [Int.natAbs_tdiv]; show z.natAbs / 60 ≤ _; omega
        rw [← hq] at h1 h2 ⊢
        exact wrap_i (by omega) (by omega)
      have g1 : ∀ l, appendV (tl X l) 1 8 (elS 1 qp i) (some 1) (some [.int .i64 (p : Int)]) = _ := fun l => growEl_tn (X := X) (f := oneI) (e := 1) (w := 8) (q := qp) (n := i) (L := pzL zs i) (fun _ => rfl) (by omega) p pzL_len (by omega) (fun h => (hI.p h).2) l
      have g2 : ∀ l, appendV (tl (Sp.setK i X qp) l) 1 8 (elS 1 qf i) (some 1) (some [.int .i64 (f : Int)]) = _ := fun l => growEl_tn (X := Sp.setK i X qp) (f := oneI) (e := 1) (w := 8) (q := qf) (n := i) (L := fzL zs i) (fun _ => rfl) (by omega) f fzL_len (by omega) (fun h => by rw [setK_at (fun h0 e => (hI.ne h0).2.2 e.symm)]; exact (hI.f h).2) l
      have hbl := tabB_len (zs := zs) (n := n) i
      have w1 : wrapV .u8 (p : Int) = (p : Int) := wrap_u8 (by omega)
      rw [tl_of (X := X)]
      simp (disch := omega) [s1, s2, s3, s4, s5, s6, s7, s8, s9, dlt_t, dlt_f, dle_t, dle_f, dltn_t, dltn_f, dlen_t, dlen_f, deq_t, deq_f, deqn_t, deqn_f, idxAddr_slice, hnth, k1, k2, bin_quo, hq, g1, g2, big_tn4 hB, big_tn2 hB, take_big, bytesV_len, bigB_len, hbl, wrap_i, w1]
      refine ⟨k, by omega, i + 1, by omega, _, rfl, X.length + 14, X.length + 1, X.length + 3, ⟨fun j hj => ?_, ?_, ⟨by omega, ?_⟩, fun _ => ⟨by omega, ?_⟩, fun _ => ⟨by omega, ?_⟩, fun _ => by omega⟩, by omega, (if_neg (by omega)).symm, (if_neg (by omega)).symm, rfl, by omega⟩
      · rw [join_app (by simp [setK_len]; omega), join_set (by omega), setK_at (fun h => by have := (hI.f h).1; omega), setK_at (fun h => by have := (hI.p h).1; omega), hI.old j hj]
      · simp [setK_len]; omega
      · rw [tn_at, tabB_succ, ← hf, ← hp, ← hA]
        unfold newBytes
        rw [← cells_rec]
        rfl
      · rw [tn_at, pzL_succ, ← hp]; rfl
      · rw [tn_at, fzL_succ, ← hf]; rfl
/- THE SUBTABLE, THE IMAGES -/
def sub16 : List Nat := [0, 0, 0, 9, 0, 0, 0, 8, 0, 1, 0, 17, 0, 0, 0, 4]
def offsD (i : Nat) : List Nat := ((List.range i).map fun j => bigB (10 * j) 4).flatten
def imgD (j : Nat) : List Nat := [1, 1, j, 2, 1, 0, 0, 0, 1, 100 + j]
def dB (i : Nat) : List Nat := [0, 3, 0, 0] ++ ((List.range i).map imgD).flatten
def cB (zs : List Int) (n i : Nat) : List Nat := tabB zs n n ++ sub16 ++ offsD i
theorem cB_succ {zs : List Int} {n i : Nat} : cB zs n (i + 1) = cB zs n i ++ bigB (10 * i) 4 := by unfold cB offsD; rw [List.range_succ]; simp
theorem dB_succ {i : Nat} : dB (i + 1) = dB i ++ imgD i := by unfold dB; rw [List.range_succ]; simp
theorem cB_len {zs : List Int} {n : Nat} : ∀ i, (cB zs n i).length = 24 + 48 * n + 4 * i
  | 0 => by unfold cB; rw [List.length_append, List.length_append, tabB_len]; simp [sub16, offsD]; omega
  | i + 1 => by rw [cB_succ, List.length_append, cB_len i, bigB_len]; omega
theorem dB_len : ∀ i, (dB i).length = 4 + 10 * i
  | 0 => rfl
  | i + 1 => by rw [dB_succ, List.length_append, dB_len i]; simp [imgD]; omega
structure MdInv (N : Nat) (os X : List (Option AObj)) (zs : List Int) (n i pb pd qp qf : Nat) : Prop where
  old : ∀ j, j < N → (X[j]?).join = (os[j]?).join
  le : N ≤ X.length
  b : N ≤ pb ∧ (X[pb]?).join = some (newBytes (cB zs n i))
  d : N ≤ pd ∧ (X[pd]?).join = some (newBytes (dB i))
  p : n ≠ 0 → N ≤ qp ∧ (X[qp]?).join = some (.cells true (elV oneI (pzL zs n)))
  f : n ≠ 0 → N ≤ qf ∧ (X[qf]?).join = some (.cells true (elV oneI (fzL zs n)))
  bd : pb ≠ pd
  ne : n ≠ 0 → pb ≠ qp ∧ pb ≠ qf ∧ pd ≠ qp ∧ pd ≠ qf
theorem MdInv.next {N : Nat} {os X Y l : List (Option AObj)} {zs : List Int} {n i pb pd qp qf : Nat} (h : MdInv N os X zs n i pb pd qp qf) (hY : ∀ j, j ≠ pb → j ≠ pd → (Y[j]?).join = (X[j]?).join) (hYl : Y.length = X.length)
    (h1 : (l[1]?).join = some (newBytes (cB zs n (i + 1)))) (h3 : (l[3]?).join = some (newBytes (dB (i + 1)))) : MdInv N os (Y ++ l) zs n (i + 1) (X.length + 1) (X.length + 3) qp qf := by
  have hle := h.le
  have hb := h.b
  have hd := h.d
  refine ⟨fun j hj => by rw [join_app (by omega), hY j (by omega) (by omega), h.old j hj], by simp; omega, ⟨by omega, by rw [← hYl, tl_at]; exact h1⟩, ⟨by omega, by rw [← hYl, tl_at]; exact h3⟩, fun h0 => ⟨(h.p h0).1, ?_⟩, fun h0 => ⟨(h.f h0).1, ?_⟩, by omega, fun h0 => ?_⟩
  · have := join_lt (h.p h0).2
    have hne := h.ne h0
    rw [join_app (by omega), hY _ (by omega) (by omega)]; exact (h.p h0).2
  · have := join_lt (h.f h0).2
    have hne := h.ne h0
    rw [join_app (by omega), hY _ (by omega) (by omega)]; exact (h.f h0).2
  · have := join_lt (h.p h0).2
    have := join_lt (h.f h0).2
    omega
theorem cells_d {i : Nat} : bytesV (dB i) ++ [V.int .u8 1, V.int .u8 1, V.int .u8 (i : Int), V.int .u8 2, V.int .u8 1, V.int .u8 0, V.int .u8 0, V.int .u8 0, V.int .u8 1, V.int .u8 (100 + (i : Int))] = bytesV (dB (i + 1)) := by
  rw [dB_succ]
  unfold bytesV imgD
  simp
theorem cells_c {zs : List Int} {n i : Nat} : bytesV (cB zs n i) ++ bytesV (bigB (10 * i) 4) = bytesV (cB zs n (i + 1)) := by
  rw [cB_succ]
  unfold bytesV
  simp
set_option maxHeartbeats 4000000 in
theorem Mid_run {call : CallT} {lf nB nP nF nO nD nK : Nat} (hlf : 100 ≤ lf) (hB : BigF call nB) {os X0 : List (Option AObj)} {zs : List Int} {ask glyph : Int} {Q : Goal} {N n pb0 qp qf : Nat} (hN : N = os.length) (hn : n ≤ 6) (h0 : SzInv N os X0 zs n n pb0 qp qf) {s0 : Env}
    (e1 : s0 (.o .h) = .int .i64 ask) (e2 : s0 (.i .h) = .int .i64 glyph) (e3 : s0 (.i (.i (.o .h))) = elS 1 qp n) (e4 : s0 (.o (.o (.i .h))) = elS 1 qf n) (e5 : s0 (.i (.o (.o .h))) = .slice (some (pb0, 0)) 1 (8 + 48 * n) (8 + 48 * n) false)
    (rest : ∀ {pb pd : Nat} {X : List (Option AObj)} {t : Env}, MdInv N os X zs n 11 pb pd qp qf → t (.o .h) = .int .i64 ask → t (.i .h) = .int .i64 glyph → t (.i (.i (.o .h))) = elS 1 qp n → t (.o (.o (.i .h))) = elS 1 qf n → t (.i (.o (.o .h))) = .slice (some (pb, 0)) 1 (68 + 48 * n) (68 + 48 * n) false → t (.o (.o (.o (.o .h)))) = .slice (some (pd, 0)) 1 114 114 false →
      wp call lf (SzFont nP nF nO nD nK) t (few X) Q) :
    wp call lf (SzMid nB nP nF nO nD nK) s0 (few X0) Q := by
  unfold SzMid
  have hle0 := h0.le
  obtain ⟨hb1, hb2⟩ := h0.b
  haveI : At X0 pb0 (.cells true (bytesV (tabB zs n n))) := ⟨hb2⟩
  have hbl := tabB_len (zs := zs) (n := n) n
  rw [tl_of (X := X0)]
  simp (disch := omega) [e1, e2, e3, e4, e5, bytesV_len, hbl]
  rw [tl_eq]
  refine wp_loop (fun k s st => ∃ i X pb pd, i + k = 11 ∧ st = few X ∧ MdInv N os X zs n i pb pd qp qf ∧ s (.o .h) = .int .i64 ask ∧ s (.i .h) = .int .i64 glyph ∧ s (.i (.i (.o .h))) = elS 1 qp n ∧ s (.o (.o (.i .h))) = elS 1 qf n ∧
    s (.i (.o (.o .h))) = .slice (some (pb, 0)) 1 (24 + 48 * n + 4 * i) (24 + 48 * n + 4 * i) false ∧ s (.o (.o (.o (.o .h)))) = .slice (some (pd, 0)) 1 (4 + 10 * i) (4 + 10 * i) (decide (i = 0)) ∧ s (.i (.o (.o (.o .h)))) = .int .i64 (i : Int)) 11 ?_ (by omega) ?_
  · refine ⟨0, _, X0.length + 1, X0.length + 2, by omega, rfl, ⟨fun j hj => ?_, ?_, ⟨by omega, ?_⟩, ⟨by omega, ?_⟩, fun h => ⟨(h0.p h).1, ?_⟩, fun h => ⟨(h0.f h).1, ?_⟩, by omega, fun h => ?_⟩, ?_, ?_, ?_, ?_, ?_, ?_, ?_⟩
    · rw [join_app (by simp; omega), join_set (by omega), h0.old j hj]
    · simp; omega
    · rw [tn_at]; simp [cB, sub16, offsD, newBytes, bytesV]
    · rw [tn_at]; rfl
    · have := h0.p h
      have := join_lt this.2
      rw [join_app (by simp; omega), join_set (h0.ne h).1]; exact (h0.p h).2
    · have := h0.f h
      have := join_lt this.2
      rw [join_app (by simp; omega), join_set (h0.ne h).2.1]; exact (h0.f h).2
    · have := join_lt (h0.p h).2
      have := join_lt (h0.f h).2
      omega
    all_goals simp [e1, e2, e3, e4]
    omega
  · rintro k s st ⟨i, X, pb, pd, hk, rfl, hI, s1, s2, s3, s4, s5, s6, s7⟩
    cases k with
    | zero =>
      have hin : i = 11 := by omega
      subst hin
      simp (disch := omega) [s1, s2, s3, s4, s5, s6, s7, dlt_t, dlt_f, dle_t, dle_f, dltn_t, dltn_f, dlen_t, dlen_f, deq_t, deq_f, deqn_t, deqn_f]
      refine rest hI ?_ ?_ ?_ ?_ ?_ ?_ <;> simp [s1, s2, s3, s4, s5, s6]
      omega
    | succ k =>
      have hle := hI.le
      obtain ⟨hb1, hb2⟩ := hI.b
      obtain ⟨hd1, hd2⟩ := hI.d
      have hbd := hI.bd
      haveI : At X pb (.cells true (bytesV (cB zs n i))) := ⟨hb2⟩
      haveI : At X pd (.cells true (bytesV (dB i))) := ⟨hd2⟩
      haveI : Df 1 pb pd := ⟨fun _ => hbd⟩
      have hbl := cB_len (zs := zs) (n := n) i
      have hdl := dB_len i
      obtain ⟨t, ht⟩ : ∃ t, t = 10 * i := ⟨_, rfl⟩
      have big : ∀ Y N [LenIs Y N] l, call nB [.int .i64 (10 * (i : Int)), .int .i64 4] (tl Y l) = some (.slice (some (N + l.length, 0)) 1 4 4 false, tl Y (l ++ [some (.cells true (bytesV (bigB t 4)))])) := fun Y N _ l => by
        rw [show 10 * (i : Int) = (t : Int) from by omega]; exact big_tn4 hB t l
      have w1 : wrapV .u8 (i : Int) = (i : Int) := wrap_u8 (by omega)
      have w2 : wrapV .u8 (100 + (i : Int)) = 100 + (i : Int) := by
        have := wrap_u8 (m := 100 + i) (by omega)
        rw [show ((100 + i : Nat) : Int) = 100 + (i : Int) from by omega] at this
        exact this
      have htk : takeN (4 + 10 * i) (bytesV (dB i)) = some (bytesV (dB i)) := by rw [takeN_of (by rw [bytesV_len, hdl]; exact Nat.le_refl _), List.take_of_length_le (by rw [bytesV_len, hdl]; exact Nat.le_refl _)]
      rw [tl_of (X := X)]
      by_cases hi0 : i = 0
      · rw [decide_eq_true hi0] at s6
        simp (disch := omega) [s1, s2, s3, s4, s5, s6, s7, dlt_t, dlt_f, dle_t, dle_f, dltn_t, dltn_f, dlen_t, dlen_f, deq_t, deq_f, deqn_t, deqn_f, big, take_big, htk, bytesV_len, bigB_len, hbl, hdl, wrap_i, w1, w2]
        refine ⟨k, by omega, i + 1, by omega, _, rfl, X.length + 1, X.length + 3, hI.next (Y := X.set pb none) (fun j h1 h2 => by rw [join_set (fun e => h1 e.symm)]) (by simp) ?_ ?_, ⟨rfl, by omega⟩, ⟨rfl, by omega, by omega⟩, by omega⟩
        · unfold newBytes; rw [← cells_c, ← ht]; rfl
        · unfold newBytes; rw [← cells_d]; rfl
      · rw [decide_eq_false hi0] at s6
        simp (disch := omega) [s1, s2, s3, s4, s5, s6, s7, dlt_t, dlt_f, dle_t, dle_f, dltn_t, dltn_f, dlen_t, dlen_f, deq_t, deq_f, deqn_t, deqn_f, big, take_big, bytesV_len, bigB_len, hbl, hdl, wrap_i, w1, w2]
        refine ⟨k, by omega, i + 1, by omega, _, rfl, X.length + 1, X.length + 3, hI.next (Y := (X.set pb none).set pd none) (fun j h1 h2 => by rw [join_set (fun e => h2 e.symm), join_set (fun e => h1 e.symm)]) (by simp) ?_ ?_, ⟨rfl, by omega⟩, ⟨rfl, by omega, by omega⟩, by omega⟩
        · unfold newBytes; rw [← cells_c, ← ht]; rfl
        · unfold newBytes; rw [← cells_d]; rfl

end Go.Vabs.Ch

namespace Go.Vabs.Ci
set_option linter.unusedVariables false
set_option linter.unusedSimpArgs false
set_option maxRecDepth 10000
attribute [local simp] wp_skip wp_ret wp_exit wp_reg wp_seq wp_cond wp_block thenQ_normal thenQ_ret thenQ_exit blockQ_normal blockQ_ret blockQ_exit wpCond_true wpCond_false wpOps_nil wpVal_some wpGuard_true wpGuard_false wpOps_guard wpOps_cons
  put_at put_no ev_c ev_slot posEq_h posEq_o posEq_i posEq_ho posEq_hi posEq_oh posEq_ih posEq_oi posEq_io sel_true sel_false
  okv_some step_mv step_call step_pick pickV_bool step_bin bin_add bin_sub bin_mul bin_eql bin_neq bin_lss bin_leq bin_gtr bin_geq bin_eqb bin_neb bin_eqs bin_nes step_un un_not un_neg step_len len_slice len_str len_const step_extract extractV nth step_convInt conv_int step_convStr step_slice step_idxAddr natOf_nat step_load step_index step_field step_fieldAddr step_build step_minmax
  step_alloc step_bslice bsliceV_some newV_some step_store step_append boolIs_b boolIs_t finQ_ret finQ_normal ressE_nil ressE_cons resE_tmp consO_some initE_nil initE_cons pos_0 pos_1 pos_2 pos_3 pos_4 pos_5 pos_6 pos_7 pos_8 plain_bool plain_int plain_str plain_ptr plain_slice plain_map plain_agg plain_func plain_nilFunc V.undef oneOf_one oneOf_two ble_self
open Go.Vabs.Pk Go.Vabs.Ph Go.Vabs.Sa Go.Vabs.Sb Go.Vabs.Sc Go.Vabs.Sd Go.Vabs.Se Go.Vabs.Sg Go.Vabs.Sh Go.Vabs.Sm Go.Vabs.Sn Go.Vabs.Sp Go.Vabs.Sr Go.Vabs.St Go.Vabs.Su Go.Vabs.L2 Go.Vabs.Na Go.Vabs.Nb Go.Vabs.Ra Go.Vabs.Rb Go.Vabs.Rc Go.Vabs.Rd Go.Vabs.Re Go.Vabs.Ca Go.Vabs.Cb Go.Vabs.Cc Go.Vabs.Cd Go.Vabs.Ce Go.Vabs.Vc Go.Vabs.Cf Go.Vabs.Cg Go.Vabs.Ch
attribute [local simp] step_nilchk nilchk_ptr step_box cells_int cells_bool cells_str cells_slice cells_ptr cells_agg fieldAddrV natOf_zero fill repN splice over newV step_appendZ
  wp_dreg wpDs_nil wpDs_cons wantedE_none wantedE_some wpDGuard_true wpDGuard_lim wpDGuard_false wpDLim_true wpDVal_free wpDVal_lim back_limited next_limited limF_dir limF_false foot_load foot_store foot_convStr okAll_nil okAll_cons pastsOf nthP ahead few_next load_limited convStr_limited blt_dec okPair_dd okPair_dc okPair_cd okPair_cc anyIn_nil anyIn_same anyIn_cons meets_nil meets_nil'
  tn_alloc tn_load tn_load0 tn_store tn_store0 storeT_some loadC_some cellsAt_zero cellsAt_succ ownAt_zero ownAt_succ tn_first tn_first0 firstC_some tn_grow_none tn_grow tn_grow0 growN_some tn_fix tn_fix0 fixN_some bn_load bn_first bn_grow bn_store tn_next tn_alloc_dir tl_store_d tl_back tl_back_few few_back_tl backv_some back_back cut takeN nbeq_dec ble_dec meets_cons mem_nil mem_cons idOf load_d convStr_d lenOfS firstNo natOf_int if_leN bn_fix foot_bslice foot_alloc foot_box foot_append foot_call
/- WHAT THE LAW'S TABLE TELLS -/
theorem range_split {α : Type} (g : Nat → List α) {k n : Nat} (h : k < n) : ∃ R, ((List.range n).map g).flatten = ((List.range k).map g).flatten ++ g k ++ R := by
  induction n with
  | zero => omega
  | succ n ih =>
    rw [List.range_succ, List.map_append, List.flatten_append]
    by_cases e : k = n
    · subst e; exact ⟨[], by simp⟩
    · obtain ⟨R, hR⟩ := ih (by omega)
      exact ⟨R ++ g n, by rw [hR]; simp⟩
theorem tab_at {zs : List Int} {n k : Nat} (h : k < n) : ∃ R, cB zs n 11 = tabB zs n k ++ Ch.recB (8 + 48 * n) (fz zs k) (pz zs k) ++ R := by
  obtain ⟨R, hR⟩ := range_split (fun j => Ch.recB (8 + 48 * n) (fz zs j) (pz zs j)) h
  refine ⟨R ++ sub16 ++ offsD 11, ?_⟩
  unfold cB tabB
  rw [hR]
  simp
def szS (zs : List Int) (n j : Nat) : Sz := ⟨8 + 48 * n, 1, fz zs j, 9, pz zs j⟩
def szL (zs : List Int) (n : Nat) : List Sz := (List.range n).map (szS zs n)
theorem szL_len {zs : List Int} {n : Nat} : (szL zs n).length = n := by simp [szL]
theorem szL_at {zs : List Int} {n k : Nat} {a : Sz} (h : (szL zs n)[k]? = some a) : k < n ∧ a = szS zs n k := by
  unfold szL at h
  rw [List.getElem?_map] at h
  obtain ⟨j, hj, rfl⟩ := Option.map_eq_some_iff.1 h
  have hk := (List.getElem?_eq_some_iff.1 hj).1
  rw [List.length_range] at hk
  rw [List.getElem?_range hk] at hj
  cases hj
  exact ⟨hk, rfl⟩
theorem fz_lt {zs : List Int} {k : Nat} : fz zs k < 6 := by
  have := pickI_lt (n := Int.tdiv (zs.getD k 0) 60) (m := 6) (by omega)
  unfold fz; omega
theorem pz_lt {zs : List Int} {k : Nat} : pz zs k < 60 := by
  have := pickI_lt (n := zs.getD k 0) (m := 60) (by omega)
  unfold pz; omega
theorem be_big2' {n : Nat} (h : n < 65536) : be (bigB n 2) = n := be_big2 h
theorem sizes_ok {zs : List Int} {n : Nat} (hn : n ≤ 6) : SizesOk (cB zs n 11) (szL zs n) := by
  have hl := cB_len (zs := zs) (n := n) 11
  refine ⟨by omega, ?_, ?_, by rw [szL_len]; omega, by rw [szL_len]; omega, fun k a ha => ?_⟩
  · have := num_mid (bs := cB zs n 11) (A := [0, 3].take 0) (W := [0, 3]) (B := [0, 0] ++ bigB n 4 ++ ((List.range n).map fun j => Ch.recB (8 + 48 * n) (fz zs j) (pz zs j)).flatten ++ sub16 ++ offsD 11) (m := 0) (z := 2) (by simp [cB, tabB]) rfl rfl
    unfold nm
    rw [show (0 : Int) = ((0 : Nat) : Int) from rfl, this]; rfl
  · have := num_mid (bs := cB zs n 11) (A := [0, 3, 0, 0]) (W := bigB n 4) (B := ((List.range n).map fun j => Ch.recB (8 + 48 * n) (fz zs j) (pz zs j)).flatten ++ sub16 ++ offsD 11) (m := 4) (z := 4) (by simp [cB, tabB]) rfl (bigB_len _ _)
    unfold nm
    rw [show (4 : Int) = ((4 : Nat) : Int) from rfl, this, be_big4 (by omega), szL_len]; rfl
  · obtain ⟨hk, rfl⟩ := szL_at ha
    obtain ⟨R, hR⟩ := tab_at (zs := zs) hk
    have hp := pz_lt (zs := zs) (k := k)
    have hf := fz_lt (zs := zs) (k := k)
    have hT := tabB_len (zs := zs) (n := n) k
    have at_ : ∀ (A W B : List Nat) (x z : Nat), Ch.recB (8 + 48 * n) (fz zs k) (pz zs k) = A ++ W ++ B → A.length = x → W.length = z → num (cB zs n 11) ((8 + 48 * k + x : Nat) : Int) z = some (be W) := fun A W B x z h1 h2 h3 => by
      refine num_mid (A := tabB zs n k ++ A) (B := B ++ R) ?_ (by rw [List.length_append, hT, h2]) h3
      rw [hR, h1]; simp
    refine ⟨?_, ?_, ?_, ?_, ?_⟩
    · rw [at_ [] (bigB (8 + 48 * n) 4) _ 0 4 (by unfold Ch.recB; simp; rfl) rfl (bigB_len _ _), be_big4 (by omega)]; rfl
    · rw [at_ (bigB (8 + 48 * n) 4 ++ [0, 0, 0, 0]) [0, 0, 0, 1] (List.replicate 28 0 ++ (bigB (fz zs k) 2 ++ ([0, 9] ++ [pz zs k, pz zs k, 32, 1]))) 8 4 (by unfold Ch.recB; simp) (by simp [bigB_len]) rfl]; rfl
    · rw [at_ (bigB (8 + 48 * n) 4 ++ [0, 0, 0, 0, 0, 0, 0, 1] ++ List.replicate 28 0) (bigB (fz zs k) 2) ([0, 9] ++ [pz zs k, pz zs k, 32, 1]) 40 2 (by unfold Ch.recB; simp) (by simp [bigB_len]) (bigB_len _ _), be_big2' (by omega)]; rfl
    · rw [at_ (bigB (8 + 48 * n) 4 ++ [0, 0, 0, 0, 0, 0, 0, 1] ++ List.replicate 28 0 ++ bigB (fz zs k) 2) [0, 9] ([pz zs k, pz zs k, 32, 1]) 42 2 (by unfold Ch.recB; simp) (by simp [bigB_len]) rfl]; rfl
    · rw [at_ (bigB (8 + 48 * n) 4 ++ [0, 0, 0, 0, 0, 0, 0, 1] ++ List.replicate 28 0 ++ bigB (fz zs k) 2 ++ [0, 9]) [pz zs k] ([pz zs k, 32, 1]) 44 1 (by unfold Ch.recB; simp) (by simp [bigB_len]) rfl]; simp [be, szS]
theorem sub_at {zs : List Int} {n x z : Nat} (A W B : List Nat) (h : sub16 = A ++ W ++ B) (h2 : A.length = x) (h3 : W.length = z) : num (cB zs n 11) ((8 + 48 * n + x : Nat) : Int) z = some (be W) := by
  refine num_mid (A := tabB zs n n ++ A) (B := B ++ offsD 11) ?_ (by rw [List.length_append, tabB_len, h2]) h3
  unfold cB
  rw [h]; simp
theorem off_at {zs : List Int} {n k : Nat} (hk : k < 11) : num (cB zs n 11) ((8 + 48 * n + 16 + 4 * k : Nat) : Int) 4 = some (10 * k) := by
  obtain ⟨R, hR⟩ := range_split (fun j => bigB (10 * j) 4) hk
  have hl : ∀ k, (((List.range k).map fun j => bigB (10 * j) 4).flatten).length = 4 * k := fun k => by
    have := cB_len (zs := zs) (n := n) k
    unfold cB offsD at this
    rw [List.length_append, List.length_append, tabB_len] at this
    have : sub16.length = 16 := rfl
    omega
  rw [num_mid (A := tabB zs n n ++ sub16 ++ ((List.range k).map fun j => bigB (10 * j) 4).flatten) (W := bigB (10 * k) 4) (B := R) (by unfold cB offsD; rw [hR]; simp) (by rw [List.length_append, List.length_append, tabB_len, hl]; have : sub16.length = 16 := rfl; omega) (bigB_len _ _), be_big4 (by omega)]
theorem img_at {k : Nat} (hk : k < 11) : ((dB 11).drop (4 + 10 * k)).take 10 = imgD k := by
  obtain ⟨R, hR⟩ := range_split imgD hk
  have hl := dB_len k
  have e : dB 11 = dB k ++ (imgD k ++ R) := by unfold dB; rw [hR]; simp
  rw [e, ← hl, List.drop_left' rfl, List.take_left' (show (imgD k).length = 10 from rfl)]
theorem found {zs : List Int} {n j k : Nat} (hn : n ≤ 6) (h1 : fz zs j ≤ k) (h2 : k ≤ 9) : Found17 (cB zs n 11) (dB 11) (szL zs n) (szS zs n j) 0 9 8 k 4 (10 * k) (10 * (k + 1)) (k : Int) 2 [100 + k] := by
  have hl := cB_len (zs := zs) (n := n) 11
  have hd := dB_len 11
  have hp := pz_lt (zs := zs) (k := j)
  refine ⟨sizes_ok hn, ⟨by omega, rfl, by show 8 + 48 * n + 8 ≤ _; omega, ?_, ?_, ?_⟩, h1, h2, by omega, h2, by omega, ?_, ?_, ?_, ?_, ?_, by omega, by omega, ⟨by show 8 + 48 * n + 8 + 8 + 4 * (k - 0) ≤ _; omega, by omega, by show pz zs j ≤ _; omega⟩, ?_⟩
  · exact sub_at (x := 0) [] [0, 0] _ rfl rfl rfl
  · exact sub_at (x := 2) [0, 0] [0, 9] _ rfl rfl rfl
  · exact sub_at (x := 4) [0, 0, 0, 9] [0, 0, 0, 8] _ rfl rfl rfl
  · exact sub_at (x := 8) [0, 0, 0, 9, 0, 0, 0, 8] [0, 1] _ rfl rfl rfl
  · exact sub_at (x := 10) [0, 0, 0, 9, 0, 0, 0, 8, 0, 1] [0, 17] _ rfl rfl rfl
  · exact sub_at (x := 12) [0, 0, 0, 9, 0, 0, 0, 8, 0, 1, 0, 17] [0, 0, 0, 4] _ rfl rfl rfl
  · have := off_at (zs := zs) (n := n) (k := k) (by omega)
    rw [show (szS zs n j).at_ + 8 + 8 + 4 * (k - 0) = 8 + 48 * n + 16 + 4 * k from by show 8 + 48 * n + 8 + 8 + 4 * (k - 0) = _; omega]; exact this
  · have := off_at (zs := zs) (n := n) (k := k + 1) (by omega)
    rw [show (szS zs n j).at_ + 8 + 8 + 4 * (k - 0) + 4 = 8 + 48 * n + 16 + 4 * (k + 1) from by show 8 + 48 * n + 8 + 8 + 4 * (k - 0) + 4 = _; omega]; exact this
  · rw [show 10 * (k + 1) - 10 * k = 10 from by omega, img_at (by omega)]
    refine ⟨⟨rfl, by simp⟩, ⟨k, rfl, ?_⟩, ⟨2, rfl, rfl⟩, ?_, rfl⟩
    · unfold sgn; rw [if_neg (by omega)]
    · exact num_mid (bs := imgD k) (A := [1, 1, k, 2, 1]) (W := [0, 0, 0, 1]) (B := [100 + k]) (m := 5) (z := 4) rfl rfl rfl

end Go.Vabs.Ci

namespace Go.Vabs.Cj
set_option linter.unusedVariables false
set_option linter.unusedSimpArgs false
set_option maxRecDepth 10000
attribute [local simp] wp_skip wp_ret wp_exit wp_reg wp_seq wp_cond wp_block thenQ_normal thenQ_ret thenQ_exit blockQ_normal blockQ_ret blockQ_exit wpCond_true wpCond_false wpOps_nil wpVal_some wpGuard_true wpGuard_false wpOps_guard wpOps_cons
  put_at put_no ev_c ev_slot posEq_h posEq_o posEq_i posEq_ho posEq_hi posEq_oh posEq_ih posEq_oi posEq_io sel_true sel_false
  okv_some step_mv step_call step_pick pickV_bool step_bin bin_add bin_sub bin_mul bin_eql bin_neq bin_lss bin_leq bin_gtr bin_geq bin_eqb bin_neb bin_eqs bin_nes step_un un_not un_neg step_len len_slice len_str len_const step_extract extractV nth step_convInt conv_int step_convStr step_slice step_idxAddr natOf_nat step_load step_index step_field step_fieldAddr step_build step_minmax
  step_alloc step_bslice bsliceV_some newV_some step_store step_append boolIs_b boolIs_t finQ_ret finQ_normal ressE_nil ressE_cons resE_tmp consO_some initE_nil initE_cons pos_0 pos_1 pos_2 pos_3 pos_4 pos_5 pos_6 pos_7 pos_8 plain_bool plain_int plain_str plain_ptr plain_slice plain_map plain_agg plain_func plain_nilFunc V.undef oneOf_one oneOf_two ble_self
open Go.Vabs.Pk Go.Vabs.Ph Go.Vabs.Sa Go.Vabs.Sb Go.Vabs.Sc Go.Vabs.Sd Go.Vabs.Se Go.Vabs.Sg Go.Vabs.Sh Go.Vabs.Sm Go.Vabs.Sn Go.Vabs.Sp Go.Vabs.Sr Go.Vabs.St Go.Vabs.Su Go.Vabs.L2 Go.Vabs.Na Go.Vabs.Nb Go.Vabs.Ra Go.Vabs.Rb Go.Vabs.Rc Go.Vabs.Rd Go.Vabs.Re Go.Vabs.Ca Go.Vabs.Cb Go.Vabs.Cc Go.Vabs.Cd Go.Vabs.Ce Go.Vabs.Vc Go.Vabs.Cf Go.Vabs.Cg Go.Vabs.Ch Go.Vabs.Ci
attribute [local simp] step_nilchk nilchk_ptr step_box cells_int cells_bool cells_str cells_slice cells_ptr cells_agg fieldAddrV natOf_zero fill repN splice over newV step_appendZ
  wp_dreg wpDs_nil wpDs_cons wantedE_none wantedE_some wpDGuard_true wpDGuard_lim wpDGuard_false wpDLim_true wpDVal_free wpDVal_lim back_limited next_limited limF_dir limF_false foot_load foot_store foot_convStr okAll_nil okAll_cons pastsOf nthP ahead few_next load_limited convStr_limited blt_dec okPair_dd okPair_dc okPair_cd okPair_cc anyIn_nil anyIn_same anyIn_cons meets_nil meets_nil'
  tn_alloc tn_load tn_load0 tn_store tn_store0 storeT_some loadC_some cellsAt_zero cellsAt_succ ownAt_zero ownAt_succ tn_first tn_first0 firstC_some tn_grow_none tn_grow tn_grow0 growN_some tn_fix tn_fix0 fixN_some bn_load bn_first bn_grow bn_store tn_next tn_alloc_dir tl_store_d tl_back tl_back_few few_back_tl backv_some back_back cut takeN nbeq_dec ble_dec meets_cons mem_nil mem_cons idOf load_d convStr_d lenOfS firstNo natOf_int if_leN bn_fix foot_bslice foot_alloc foot_box foot_append foot_call
/- THE NEAREST, AND WHAT IS FOUND -/
theorem elV_one {L : List Nat} : elV oneI L = L.map fun (p : Nat) => V.int .i64 (p : Int) := by
  induction L with
  | nil => rfl
  | cons a L ih => show oneI a ++ elV oneI L = _; rw [ih]; rfl
theorem nth_one {L : List Nat} {k p : Nat} (h : L[k]? = some p) : nth k (elV oneI L) = some (.int .i64 (p : Int)) := by
  rw [nth_eq, elV_one, List.getElem?_map, h]; rfl
theorem pzL_at {zs : List Int} {n k : Nat} (h : k < n) : (pzL zs n)[k]? = some (pz zs k) := by
  unfold pzL; rw [List.getElem?_map, List.getElem?_range h]; rfl
theorem fzL_at {zs : List Int} {n k : Nat} (h : k < n) : (fzL zs n)[k]? = some (fz zs k) := by
  unfold fzL; rw [List.getElem?_map, List.getElem?_range h]; rfl
def kN (p : Int) (ps : List Nat) : Nat → Int
  | 0 => -1
  | i + 1 => (bestI p ps i : Int)
theorem chosen_szL {zs : List Int} {n : Nat} {p : Int} (h : 0 < n) : chosenZ p (szL zs n) = some (szS zs n (bestI p (pzL zs n) (n - 1))) := by
  have hm : (szL zs n).map (·.ppem) = pzL zs n := by unfold szL pzL; rw [List.map_map]; rfl
  have hl : szL zs n ≠ [] := fun e => by have := congrArg List.length e; rw [szL_len] at this; simp at this; omega
  have hb := bestI_le (p := p) (ps := pzL zs n) (n - 1)
  unfold chosenZ
  rw [if_neg hl, hm, szL_len]
  unfold szL
  rw [List.getElem?_map, List.getElem?_range (by omega)]
  rfl
set_option maxHeartbeats 4000000 in
theorem Pick_run {call : CallT} {lf nD nK : Nat} (hlf : 100 ≤ lf) (hD : FindL (call nD)) (hD0 : FindNoL (call nD)) (hK : ∀ st, call nK [] st = some (.bool true, st)) {X : List (Option AObj)} {zs : List Int} {n F qp qf c g : Nat} (hn : n ≤ 6)
    (hF : FontSee X F [(tCblc, cB zs n 11), (tCbdt, dB 11)]) (hT : Tame [(tCblc, cB zs n 11), (tCbdt, dB 11)]) (hp : n ≠ 0 → (X[qp]?).join = some (.cells true (elV oneI (pzL zs n)))) (hf : n ≠ 0 → (X[qf]?).join = some (.cells true (elV oneI (fzL zs n)))) (hg : g ≤ 10) (hc : c ≤ 70)
    {s0 : Env} (e1 : s0 (.o .h) = .int .i64 (c : Int)) (e2 : s0 (.i .h) = .int .i64 (g : Int)) (e3 : s0 (.i (.i (.o .h))) = elS 1 qp n) (e4 : s0 (.o (.o (.i .h))) = elS 1 qf n) (e5 : s0 (.i (.i (.o (.o .h)))) = .ptr (some (F, 0))) :
    wp call lf (SzPick nD nK) s0 (few X) (finQ [ARes.tmp (.i (.i .h))] fun u _ => u = .bool true) := by
  unfold SzPick
  simp (disch := omega) [e1, e2, e3, e4, e5, elS_len, elS_plain]
  refine wp_loop (fun k s st => ∃ i, i + k = n ∧ st = few X ∧ s (.o .h) = .int .i64 (c : Int) ∧ s (.i .h) = .int .i64 (g : Int) ∧ s (.i (.i (.o .h))) = elS 1 qp n ∧ s (.o (.o (.i .h))) = elS 1 qf n ∧ s (.i (.i (.o (.o .h)))) = .ptr (some (F, 0)) ∧
    s (.i (.o (.i (.o .h)))) = .int .i64 (kN c (pzL zs n) i) ∧ s (.o (.i (.i (.o (.i (.i .h)))))) = elS 1 qp n ∧ s (.i (.i (.i (.o (.i (.i .h)))))) = .int .i64 (n : Int) ∧ s (.o (.o (.o (.i (.i (.i .h)))))) = .int .i64 (i : Int)) n ?_ (by omega) ?_
  · refine ⟨0, by omega, rfl, ?_, ?_, ?_, ?_, ?_, ?_, ?_, ?_, ?_⟩ <;> simp [e1, e2, e3, e4, e5, kN]
  · rintro k s st ⟨i, hk, rfl, s1, s2, s3, s4, s5, s6, s7, s8, s9⟩
    cases k with
    | zero =>
      have hin : i = n := by omega
      subst hin
      by_cases hn0 : i = 0
      · subst hn0
        have cf : call nD [.ptr (some (F, 0)), .int .i64 (c : Int), .int .i64 (g : Int)] (tl X []) = some (.tuple [.agg [.int .i64 0, .int .i64 0, .int .i64 0, .slice none 0 0 0 true], .int .i64 6], tl X []) := by
          rw [← tl_of]
          exact hD0 X F _ _ (szL zs 0) c g hF hT (sizes_ok hn) (fun s h => by simp [chosenZ, szL] at h)
        have s6 : s (.i (.o (.i (.o .h)))) = .int .i64 (-1) := s6
        rw [tl_of (X := X)]
        simp (disch := omega) [s1, s2, s3, s4, s5, s6, s7, s8, s9, dlt_t, dlt_f, dle_t, dle_f, dltn_t, dltn_f, dlen_t, dlen_f, deq_t, deq_f, deqn_t, deqn_f, cf, hK]
      · obtain ⟨m, rfl⟩ : ∃ m, i = m + 1 := ⟨i - 1, by omega⟩
        have s6 : s (.i (.o (.i (.o .h)))) = .int .i64 (bestI (c : Int) (pzL zs (m + 1)) m : Nat) := s6
        obtain ⟨K, hKe⟩ : ∃ K, K = bestI (c : Int) (pzL zs (m + 1)) m := ⟨_, rfl⟩
        have hKm : K ≤ m := by rw [hKe]; exact bestI_le m
        rw [← hKe] at s6
        have hch := chosen_szL (zs := zs) (n := m + 1) (p := (c : Int)) (by omega)
        rw [show m + 1 - 1 = m from rfl, ← hKe] at hch
        have hel : ∀ q, elS 1 q (m + 1) = .slice (some (q, 0)) 1 (m + 1) (m + 1) false := fun q => if_neg hn0
        rw [hel] at s3 s4 s7
        haveI : At X qp (.cells true (elV oneI (pzL zs (m + 1)))) := ⟨hp hn0⟩
        haveI : At X qf (.cells true (elV oneI (fzL zs (m + 1)))) := ⟨hf hn0⟩
        have nf := nth_one (fzL_at (zs := zs) (n := m + 1) (k := K) (by omega))
        have np := nth_one (pzL_at (zs := zs) (n := m + 1) (k := K) (by omega))
        obtain ⟨f, hfe⟩ : ∃ f, f = fz zs K := ⟨_, rfl⟩
        obtain ⟨p, hpe⟩ : ∃ p, p = pz zs K := ⟨_, rfl⟩
        rw [← hfe] at nf
        rw [← hpe] at np
        by_cases hno : g < f ∨ 9 < g
        · have cf : call nD [.ptr (some (F, 0)), .int .i64 (c : Int), .int .i64 (g : Int)] (tl X []) = some (.tuple [.agg [.int .i64 0, .int .i64 0, .int .i64 0, .slice none 0 0 0 true], .int .i64 6], tl X []) := by
            rw [← tl_of]
            exact hD0 X F _ _ (szL zs (m + 1)) c g hF hT (sizes_ok hn) (fun s h => by
              rw [hch] at h
              cases h
              show (g : Int) < ((fz zs K : Nat) : Int) ∨ ((9 : Nat) : Int) < (g : Int)
              omega)
          rw [tl_of (X := X)]
          by_cases h1 : g < f
          · simp (disch := omega) [s1, s2, s3, s4, s5, s6, s7, s8, s9, dlt_t, dlt_f, dle_t, dle_f, dltn_t, dltn_f, dlen_t, dlen_f, deq_t, deq_f, deqn_t, deqn_f, cf, hK, idxAddr_slice, nf]
          · simp (disch := omega) [s1, s2, s3, s4, s5, s6, s7, s8, s9, dlt_t, dlt_f, dle_t, dle_f, dltn_t, dltn_f, dlen_t, dlen_f, deq_t, deq_f, deqn_t, deqn_f, cf, hK, idxAddr_slice, nf]
        · have cf : call nD [.ptr (some (F, 0)), .int .i64 (c : Int), .int .i64 (g : Int)] (tl X []) = some (.tuple [.agg [.int .i64 (g : Int), .int .i64 2, .int .i64 (p : Int), .slice (some (X.length, 0)) 1 1 1 false], .int .i64 0], tl X [some (newBytes [100 + g])]) := by
            rw [← tl_of, hpe]
            exact hD X F _ _ (szL zs (m + 1)) c _ 0 9 8 g 4 (10 * g) (10 * (g + 1)) (g : Int) 2 [100 + g] hF hT hch (found hn (by omega) (by omega))
          have cs : ∀ l, convV (tl X (some (newBytes [100 + g]) :: l)) .toStr (.slice (some (X.length, 0)) 1 1 1 false) = some (.str [100 + g]) := fun l =>
            conv_seen (see_tl (X := X) (k := 0) (f := false) (b := [100 + g]) rfl (fun x hx => by rw [List.mem_singleton] at hx; omega))
          have cs2 : ∀ a b, convV (tl X [a, b, some (.cells true [.int .u8 (100 + (g : Int))])]) .toStr (.slice (some (X.length + 2, 0)) 1 1 1 true) = some (.str [100 + g]) := fun a b =>
            conv_seen (see_tl (X := X) (k := 2) (f := true) (b := [100 + g]) (by rw [show newBytes [100 + g] = .cells true [.int .u8 (100 + (g : Int))] from by simp [newBytes, bytesV]]; rfl) (fun x hx => by rw [List.mem_singleton] at hx; omega))
          have w1 : wrapV .u8 (100 + (g : Int)) = 100 + (g : Int) := by
            have := wrap_u8 (m := 100 + g) (by omega)
            rw [show ((100 + g : Nat) : Int) = 100 + (g : Int) from by omega] at this
            exact this
          rw [tl_of (X := X)]
          simp (disch := omega) [s1, s2, s3, s4, s5, s6, s7, s8, s9, dlt_t, dlt_f, dle_t, dle_f, dltn_t, dltn_f, dlen_t, dlen_f, deq_t, deq_f, deqn_t, deqn_f, cf, hK, idxAddr_slice, nf, np, cs, cs2, wrap_i, w1]
    | succ k =>
      have hin : i < n := by omega
      have hn0 : n ≠ 0 := by omega
      have hel : elS 1 qp n = .slice (some (qp, 0)) 1 n n false := if_neg hn0
      rw [hel] at s3 s7
      haveI : At X qp (.cells true (elV oneI (pzL zs n))) := ⟨hp hn0⟩
      have ni := nth_one (pzL_at (zs := zs) hin)
      obtain ⟨p, hpe⟩ : ∃ p, p = pz zs i := ⟨_, rfl⟩
      rw [← hpe] at ni
      rw [tl_of (X := X)]
      cases i with
      | zero =>
        have s6 : s (.i (.o (.i (.o .h)))) = .int .i64 (-1) := s6
        simp (disch := omega) [s1, s2, s3, s4, s5, s6, s7, s8, s9, dlt_t, dlt_f, dle_t, dle_f, dltn_t, dltn_f, dlen_t, dlen_f, deq_t, deq_f, deqn_t, deqn_f, idxAddr_slice, ni, wrap_i]
        exact ⟨k, by omega, 1, by omega, hel.symm, rfl, hel.symm, rfl⟩
      | succ i =>
        have s6 : s (.i (.o (.i (.o .h)))) = .int .i64 (bestI (c : Int) (pzL zs n) i : Nat) := s6
        obtain ⟨K, hKe⟩ : ∃ K, K = bestI (c : Int) (pzL zs n) i := ⟨_, rfl⟩
        have hKi : K ≤ i := by rw [hKe]; exact bestI_le i
        rw [← hKe] at s6
        have nK := nth_one (pzL_at (zs := zs) (n := n) (k := K) (by omega))
        obtain ⟨b, hbe⟩ : ∃ b, b = pz zs K := ⟨_, rfl⟩
        rw [← hbe] at nK
        have hst : bestI (c : Int) (pzL zs n) (i + 1) = if nearN c b p then i + 1 else K := by
          show (if nearN c ((pzL zs n).getD (bestI (c : Int) (pzL zs n) i) 0) ((pzL zs n).getD (i + 1) 0) then i + 1 else bestI (c : Int) (pzL zs n) i) = _
          rw [← hKe, List.getD_eq_getElem?_getD, List.getD_eq_getElem?_getD, pzL_at (zs := zs) (n := n) (k := K) (by omega), pzL_at (zs := zs) hin, hbe, hpe]; rfl
        have fyes : nearN c b p = true → kN c (pzL zs n) (i + 1 + 1) = (i : Int) + 1 := fun h => by
          show ((bestI (c : Int) (pzL zs n) (i + 1) : Nat) : Int) = _
          rw [hst, h]; rfl
        have fno : nearN c b p = false → kN c (pzL zs n) (i + 1 + 1) = (K : Int) := fun h => by
          show ((bestI (c : Int) (pzL zs n) (i + 1) : Nat) : Int) = _
          rw [hst, h]; rfl
        by_cases c1 : b < c
        · by_cases c2 : b < p
          · simp (disch := omega) [s1, s2, s3, s4, s5, s6, s7, s8, s9, dlt_t, dlt_f, dle_t, dle_f, dltn_t, dltn_f, dlen_t, dlen_f, deq_t, deq_f, deqn_t, deqn_f, idxAddr_slice, ni, nK, wrap_i]
            exact ⟨k, by omega, i + 2, by omega, hel.symm, (fyes (by unfold nearN; simp; omega)).symm, hel.symm, by omega⟩
          · simp (disch := omega) [s1, s2, s3, s4, s5, s6, s7, s8, s9, dlt_t, dlt_f, dle_t, dle_f, dltn_t, dltn_f, dlen_t, dlen_f, deq_t, deq_f, deqn_t, deqn_f, idxAddr_slice, ni, nK, wrap_i]
            exact ⟨k, by omega, i + 2, by omega, hel.symm, (fno (by unfold nearN; simp; omega)).symm, hel.symm, by omega⟩
        · by_cases c3 : c ≤ p
          · by_cases c4 : p < b
            · simp (disch := omega) [s1, s2, s3, s4, s5, s6, s7, s8, s9, dlt_t, dlt_f, dle_t, dle_f, dltn_t, dltn_f, dlen_t, dlen_f, deq_t, deq_f, deqn_t, deqn_f, idxAddr_slice, ni, nK, wrap_i]
              exact ⟨k, by omega, i + 2, by omega, hel.symm, (fyes (by unfold nearN; simp; omega)).symm, hel.symm, by omega⟩
            · simp (disch := omega) [s1, s2, s3, s4, s5, s6, s7, s8, s9, dlt_t, dlt_f, dle_t, dle_f, dltn_t, dltn_f, dlen_t, dlen_f, deq_t, deq_f, deqn_t, deqn_f, idxAddr_slice, ni, nK, wrap_i]
              exact ⟨k, by omega, i + 2, by omega, hel.symm, (fno (by unfold nearN; simp; omega)).symm, hel.symm, by omega⟩
          · simp (disch := omega) [s1, s2, s3, s4, s5, s6, s7, s8, s9, dlt_t, dlt_f, dle_t, dle_f, dltn_t, dltn_f, dlen_t, dlen_f, deq_t, deq_f, deqn_t, deqn_f, idxAddr_slice, ni, nK, wrap_i]
            exact ⟨k, by omega, i + 2, by omega, hel.symm, (fno (by unfold nearN; simp; omega)).symm, hel.symm, by omega⟩

end Go.Vabs.Cj

namespace Go.Vabs.Ck
set_option linter.unusedVariables false
set_option linter.unusedSimpArgs false
set_option maxRecDepth 10000
attribute [local simp] wp_skip wp_ret wp_exit wp_reg wp_seq wp_cond wp_block thenQ_normal thenQ_ret thenQ_exit blockQ_normal blockQ_ret blockQ_exit wpCond_true wpCond_false wpOps_nil wpVal_some wpGuard_true wpGuard_false wpOps_guard wpOps_cons
  put_at put_no ev_c ev_slot posEq_h posEq_o posEq_i posEq_ho posEq_hi posEq_oh posEq_ih posEq_oi posEq_io sel_true sel_false
  okv_some step_mv step_call step_pick pickV_bool step_bin bin_add bin_sub bin_mul bin_eql bin_neq bin_lss bin_leq bin_gtr bin_geq bin_eqb bin_neb bin_eqs bin_nes step_un un_not un_neg step_len len_slice len_str len_const step_extract extractV nth step_convInt conv_int step_convStr step_slice step_idxAddr natOf_nat step_load step_index step_field step_fieldAddr step_build step_minmax
  step_alloc step_bslice bsliceV_some newV_some step_store step_append boolIs_b boolIs_t finQ_ret finQ_normal ressE_nil ressE_cons resE_tmp consO_some initE_nil initE_cons pos_0 pos_1 pos_2 pos_3 pos_4 pos_5 pos_6 pos_7 pos_8 plain_bool plain_int plain_str plain_ptr plain_slice plain_map plain_agg plain_func plain_nilFunc V.undef oneOf_one oneOf_two ble_self
open Go.Vabs.Pk Go.Vabs.Ph Go.Vabs.Sa Go.Vabs.Sb Go.Vabs.Sc Go.Vabs.Sd Go.Vabs.Se Go.Vabs.Sg Go.Vabs.Sh Go.Vabs.Sm Go.Vabs.Sn Go.Vabs.Sp Go.Vabs.Sr Go.Vabs.St Go.Vabs.Su Go.Vabs.L2 Go.Vabs.Na Go.Vabs.Nb Go.Vabs.Ra Go.Vabs.Rb Go.Vabs.Rc Go.Vabs.Rd Go.Vabs.Re Go.Vabs.Ca Go.Vabs.Cb Go.Vabs.Cc Go.Vabs.Cd Go.Vabs.Ce Go.Vabs.Vc Go.Vabs.Cf Go.Vabs.Cg Go.Vabs.Ch Go.Vabs.Ci Go.Vabs.Cj
attribute [local simp] step_nilchk nilchk_ptr step_box cells_int cells_bool cells_str cells_slice cells_ptr cells_agg fieldAddrV natOf_zero fill repN splice over newV step_appendZ
  wp_dreg wpDs_nil wpDs_cons wantedE_none wantedE_some wpDGuard_true wpDGuard_lim wpDGuard_false wpDLim_true wpDVal_free wpDVal_lim back_limited next_limited limF_dir limF_false foot_load foot_store foot_convStr okAll_nil okAll_cons pastsOf nthP ahead few_next load_limited convStr_limited blt_dec okPair_dd okPair_dc okPair_cd okPair_cc anyIn_nil anyIn_same anyIn_cons meets_nil meets_nil'
  tn_alloc tn_load tn_load0 tn_store tn_store0 storeT_some loadC_some cellsAt_zero cellsAt_succ ownAt_zero ownAt_succ tn_first tn_first0 firstC_some tn_grow_none tn_grow tn_grow0 growN_some tn_fix tn_fix0 fixN_some bn_load bn_first bn_grow bn_store tn_next tn_alloc_dir tl_store_d tl_back tl_back_few few_back_tl backv_some back_back cut takeN nbeq_dec ble_dec meets_cons mem_nil mem_cons idOf load_d convStr_d lenOfS firstNo natOf_int if_leN bn_fix foot_bslice foot_alloc foot_box foot_append foot_call
theorem cB_lt {zs : List Int} {n : Nat} : ∀ b ∈ cB zs n 11, b < 256 := by
  intro b hb
  unfold cB tabB offsD at hb
  simp only [List.mem_append, List.mem_flatten, List.mem_map] at hb
  rcases hb with (((hb | hb) | ⟨t, ⟨j, _, rfl⟩, h2⟩) | hb) | ⟨t, ⟨j, _, rfl⟩, h2⟩
  · simp at hb; omega
  · exact bigB_lt _ _ b hb
  · have := pz_lt (zs := zs) (k := j)
    unfold Ch.recB at h2
    simp only [List.mem_append] at h2
    rcases h2 with h2 | h2 | h2 | h2 | h2 | h2
    · exact bigB_lt _ _ b h2
    · simp at h2; omega
    · have := List.eq_of_mem_replicate h2; omega
    · exact bigB_lt _ _ b h2
    · simp at h2; omega
    · simp at h2; omega
  · revert hb; revert b; decide
  · exact bigB_lt _ _ b h2
/-- Two tables' font, laid and opened. -/
theorem font_two {call : CallT} {nF nO : Nat} (hF : FontF call nF) (hO : OpenF call nO) {X : List (Option AObj)} {t1 t2 b1 b2 : List Nat} {v1 v2 : V} (h1 : See X v1 b1) (h2 : See X v2 b2) (k1 : t1.length = 4) (k2 : t2.length = 4) (hne : t1 ≠ t2) (l1 : ∀ x ∈ t1, x < 256) (l2 : ∀ x ∈ t2, x < 256) (hb : b1.length + b2.length ≤ 10000000) :
    ∃ p Y Z L, call nF [.slice (some (X.length, 0)) 1 2 2 true, .slice (some (X.length + 1, 0)) 1 2 2 true] (tl X [some (.cells true [.str t1, .str t2]), some (.cells true [v1, v2])]) = some (.slice (some (p, 0)) 1 L L false, few Y) ∧
      call nO [.slice (some (p, 0)) 1 L L false] (few Y) = some (.tuple [.ptr (some (Y.length, 0)), .int .i64 0], few Z) ∧ FontSee Z Y.length [(t1, b1), (t2, b2)] ∧ (∀ i, i < X.length → (Z[i]?).join = (X[i]?).join) ∧ X.length ≤ Z.length := by
  obtain ⟨A, hA⟩ : ∃ A, A = X ++ [some (AObj.cells true [V.str t1, .str t2]), some (.cells true [v1, v2])] := ⟨_, rfl⟩
  have hAt0 : (A[X.length]?).join = some (.cells true [.str t1, .str t2]) := by rw [hA]; exact tl_at (k := 0)
  have hAt1 : (A[X.length + 1]?).join = some (.cells true [v1, v2]) := by rw [hA, tl_at]; rfl
  have hAl : A.length = X.length + 2 := by rw [hA]; simp
  have s1 : See A v1 b1 := by rw [hA]; exact h1.grow
  have s2 : See A v2 b2 := by rw [hA]; exact h2.grow
  have hrow : RowsB A (X.length + 1) [b1, b2] := rows_own (own := true) (vs := [v1, v2]) hAt1 rfl fun j v c hv hc => by
    match j, hv, hc with
    | 0, hv, hc => cases hv; cases hc; exact s1
    | 1, hv, hc => cases hv; cases hc; exact s2
    | j + 2, hv, hc => simp at hv
  obtain ⟨u, Y, ef, g1, g2, g3⟩ := hF A X.length (X.length + 1) true true [t1, t2] [b1, b2] (fun _ => ⟨true, by rw [hAt0]; rfl⟩) hrow (fun t h => by simp at h; rcases h with rfl | rfl <;> assumption) (fun t h => by
    simp at h
    rcases h with rfl | rfl
    · exact h1.lt
    · exact h2.lt) (by simp) (by simp) (by simp; omega)
  have hls : layS [t1, t2] [b1, b2] = some (layL [(t1, b1), (t2, b2)]) := by
    unfold layS
    rw [if_pos ⟨rfl, by simp, by simp [k1, k2], by simp [hne]⟩]
    rfl
  rw [hls] at g3
  obtain ⟨p, rfl, hp, hpb⟩ := g3
  have htag : Tagged [(t1, b1), (t2, b2)] := fun x hx => by simp at hx; rcases hx with rfl | rfl <;> assumption
  have hflat : (flatT [(t1, b1), (t2, b2)]).length = b1.length + b2.length := by simp [flatT]
  have hf : fontS (layL [(t1, b1), (t2, b2)]) = .inr [(t1, b1), (t2, b2)] := font_lay htag (by simp [hne]) (by simp) (by rw [hflat]; simp; omega)
  have hlt : ∀ x ∈ layL [(t1, b1), (t2, b2)], x < 256 := lay_lt (by simp) (fun x hx => by simp at hx; rcases hx with rfl | rfl <;> assumption) (fun x hx => by
    simp at hx
    rcases hx with rfl | rfl
    · exact h1.lt
    · exact h2.lt)
  have hB : (layL [(t1, b1), (t2, b2)]).length ≤ 10000100 := by rw [layL_len htag, hflat]; simp; omega
  obtain ⟨og, ol⟩ := lookB_own (f := false) hpb hlt
  obtain ⟨l, ho, hfm⟩ := open_mem hO og ol (by omega) hf
  refine ⟨p, Y, Y ++ l, (layL [(t1, b1), (t2, b2)]).length, ?_, ho, FontMem.see hfm, fun i hi => ?_, by rw [List.length_append]; omega⟩
  · rw [tl_eq, ← hA]; exact ef
  · rw [join_app (by omega), g1 i (by omega), hA, join_app hi]
set_option maxHeartbeats 4000000 in
theorem Font_run {call : CallT} {lf nP nF nO nD nK : Nat} (hlf : 100 ≤ lf) (hP : PickF call nP) (hFt : FontF call nF) (hO : OpenF call nO) (hD : FindL (call nD)) (hD0 : FindNoL (call nD)) (hK : ∀ st, call nK [] st = some (.bool true, st))
    {os X : List (Option AObj)} {zs : List Int} {N n pb pd qp qf : Nat} {ask glyph : Int} (hn : n ≤ 6) (hI : MdInv N os X zs n 11 pb pd qp qf) {s0 : Env} (e1 : s0 (.o .h) = .int .i64 ask) (e2 : s0 (.i .h) = .int .i64 glyph) (e3 : s0 (.i (.i (.o .h))) = elS 1 qp n) (e4 : s0 (.o (.o (.i .h))) = elS 1 qf n)
    (e5 : s0 (.i (.o (.o .h))) = .slice (some (pb, 0)) 1 (68 + 48 * n) (68 + 48 * n) false) (e6 : s0 (.o (.o (.o (.o .h)))) = .slice (some (pd, 0)) 1 114 114 false) :
    wp call lf (SzFont nP nF nO nD nK) s0 (few X) (finQ [ARes.tmp (.i (.i .h))] fun u _ => u = .bool true) := by
  unfold SzFont
  have hcl := cB_len (zs := zs) (n := n) 11
  have hdl := dB_len 11
  have hc256 := cB_lt (zs := zs) (n := n)
  have hd256 : ∀ b ∈ dB 11, b < 256 := by decide
  have v1 := See.own (f := false) hI.b.2 hc256 (Nat.le_refl _)
  have v2 := See.own (f := false) hI.d.2 hd256 (Nat.le_refl _)
  rw [hcl, show 24 + 48 * n + 4 * 11 = 68 + 48 * n from by omega] at v1
  rw [hdl] at v2
  obtain ⟨p, Y, Z, L, cf, co, hFS, hZ, hZl⟩ := font_two hFt hO (t1 := tCblc) (t2 := tCbdt) v1 v2 rfl rfl (by decide) (by decide) (by decide) (by omega)
  have hT : Tame [(tCblc, cB zs n 11), (tCbdt, dB 11)] := ⟨by simp [tCblc, tCbdt], by simp, fun x hx => by
    simp at hx
    rcases hx with rfl | rfl
    · exact ⟨by show (cB zs n 11).length ≤ _; omega, hc256⟩
    · exact ⟨by show (dB 11).length ≤ _; omega, hd256⟩⟩
  unfold tCblc tCbdt at cf
  obtain ⟨c, hc⟩ : ∃ c, c = (pickI ask 70).toNat := ⟨_, rfl⟩
  obtain ⟨g, hg⟩ : ∃ g, g = (pickI glyph 11).toNat := ⟨_, rfl⟩
  have hp1 := pickI_lt (n := ask) (m := 70) (by omega)
  have hp2 := pickI_lt (n := glyph) (m := 11) (by omega)
  have k1 : ∀ st, call nP [.int .i64 ask, .int .i64 70] st = some (.int .i64 (c : Int), st) := fun st => by rw [hP _ _ _ (by omega) (by omega), show pickI ask 70 = (c : Int) from by omega]
  have k2 : ∀ st, call nP [.int .i64 glyph, .int .i64 11] st = some (.int .i64 (g : Int), st) := fun st => by rw [hP _ _ _ (by omega) (by omega), show pickI glyph 11 = (g : Int) from by omega]
  rw [tl_of (X := X)]
  simp (disch := omega) [e1, e2, e3, e4, e5, e6, cf, co, k1, k2, wrap_i]
  refine Pick_run hlf hD hD0 hK hn hFS hT (qp := qp) (qf := qf) (c := c + 1) (g := g) (fun h => ?_) (fun h => ?_) (by omega) (by omega) ?_ ?_ ?_ ?_ ?_
  · have := (hI.p h).2
    rw [hZ _ (join_lt this)]; exact this
  · have := (hI.f h).2
    rw [hZ _ (join_lt this)]; exact this
  all_goals simp [e3, e4]
  omega
theorem SizesLaw_run {call : CallT} {lf nB nP nF nO nD nK : Nat} (hlf : 100 ≤ lf) (hB : BigF call nB) (hP : PickF call nP) (hF : FontF call nF) (hO : OpenF call nO) (hD : FindL (call nD)) (hD0 : FindNoL (call nD)) (hK : ∀ st, call nK [] st = some (.bool true, st))
    {os : List (Option AObj)} {v : V} {zs : List Int} {ask glyph : Int} (hv : ParI os v zs) (hzl : zs.length ≤ 140737488354000) :
    ∃ s1, enterF call lf [v, .int .i64 ask, .int .i64 glyph] (few os) (SzLaw_c nB nP nF nO nD nK) = some (.bool true, s1) :=
  Law_run hlf hB hP hv hzl fun hN hn hI e1 e2 e3 e4 e5 => Mid_run hlf hB hN hn hI e1 e2 e3 e4 e5 fun hM f1 f2 f3 f4 f5 f6 => Font_run hlf hP hF hO hD hD0 hK hn hM f1 f2 f3 f4 f5 f6

end Go.Vabs.Ck
