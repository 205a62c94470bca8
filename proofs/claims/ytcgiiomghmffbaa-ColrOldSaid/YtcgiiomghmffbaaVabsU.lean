/- Lemmas for this claim, text U. No condition. -/
import Derived.Test.YtcgiiomghmffbaaVabsT
namespace Go.Vabs
set_option linter.unusedSimpArgs false
set_option linter.unusedVariables false
theorem srcAny_of {p : Pos} : ∀ {l : List Src}, Src.t p ∈ l → srcAny p l = true
  | [], h => by cases h
  | .t q :: l, h => by
    simp only [srcAny, Bool.or_eq_true]
    rcases List.mem_cons.1 h with e | h
    · cases e; exact .inl (posEq_iff.2 rfl)
    · exact .inr (srcAny_of h)
  | .c v :: l, h => by
    rcases List.mem_cons.1 h with e | h
    · cases e
    · exact srcAny_of (l := l) h
theorem apart_conf {l : List AOper} {pr : List Nat} (hs : slotsApart l pr = true) {j k : Nat} {x y : AOper} (hx : l[j]? = some x) (hy : l[k]? = some y) (hne : j ≠ k) {p : Pos} (hd : x.dst = some p) (hu : usesSlot y p = true ∨ y.dst = some p) : comparable pr j k = true := by
  have key : ∀ j k, j < k → k < l.length → comparable pr j k = true ∨ ∃ x y, l[j]? = some x ∧ l[k]? = some y ∧ apartA x y = true := by
    intro j k hjk hk
    unfold slotsApart at hs
    rw [List.all_eq_true] at hs
    have h1 := hs k (List.mem_range.2 hk)
    rw [List.all_eq_true] at h1
    have h2 := h1 j (List.mem_range.2 hjk)
    rw [Bool.or_eq_true] at h2
    rcases h2 with h | h
    · exact .inl h
    · right
      split at h
      · rename_i x y hx hy; exact ⟨x, y, hx, hy, h⟩
      · cases h
  have lj := (List.getElem?_eq_some_iff.1 hx).1
  have lk := (List.getElem?_eq_some_iff.1 hy).1
  rcases Nat.lt_or_ge j k with h | h
  · rcases key j k h lk with h | ⟨x', y', h1, h2, h3⟩
    · exact h
    · rw [hx] at h1; rw [hy] at h2; cases h1; cases h2
      unfold apartA at h3
      rw [hd] at h3
      simp only [Bool.and_eq_true, Bool.not_eq_true'] at h3
      rcases hu with hu | hu
      · rw [hu] at h3; cases h3.1.1
      · rw [hu] at h3
        have hpp : posEq p p = true := posEq_iff.2 rfl
        simp [hpp] at h3
  · have hlt : k < j := by omega
    rcases key k j hlt lj with h | ⟨y', x', h1, h2, h3⟩
    · rw [comparable_comm]; exact h
    · rw [hx] at h2; rw [hy] at h1; cases h1; cases h2
      unfold apartA at h3
      rw [hd] at h3
      simp only [Bool.and_eq_true, Bool.not_eq_true'] at h3
      rcases hu with hu | hu
      · rw [hu] at h3; cases h3.2
      · rw [hu] at h3
        have hpp : posEq p p = true := posEq_iff.2 rfl
        simp [hpp] at h3
theorem edgesBack_spec {ops : List Oper} (h : edgesBack ops = true) (k : Nat) (o : Oper) (ho : ops[k]? = some o) : ∀ e ∈ o.after, edgeOn e = true → e.on < k := by
  intro e he hb
  unfold edgesBack at h
  rw [List.all_eq_true] at h
  have h1 := h k (List.mem_range.2 (List.getElem?_eq_some_iff.1 ho).1)
  rw [ho] at h1
  have h2 := Array.all_eq_true_iff_forall_mem.1 h1 e he
  rw [hb] at h2
  simpa using blt_iff.1 (by simpa using h2)
theorem step_congr {call : CallT} {o : AOp} {f g : Frame} (h : ∀ s ∈ o.srcs, f.ev s = g.ev s) (s : St) : stepOp call o f s = stepOp call o g s := by
  show (Option.rec none (Prod.rec fun r st' => afterRes call st' r) (execOp o f.ev s) : Option (V × St)) = Option.rec none (Prod.rec fun r st' => afterRes call st' r) (execOp o g.ev s)
  rw [exec_congr o h s]
theorem look_put_same {F : Frame} {d : Option Pos} {v : V} {p : Pos} (h : d = some p) : (F.put d v).look p = some v := by
  subst h
  exact T.look_lay_same _ _ _
theorem look_put_other {F : Frame} {d : Option Pos} {v : V} {p : Pos} (h : d ≠ some p) : (F.put d v).look p = F.look p := by
  cases d with
  | none => rfl
  | some d => exact T.look_lay_other _ _ _ _ (fun e => h (by rw [e]))
theorem FR.congr {drop : Nat} {ι : Map} {F F' : Frame} {t : Array Value} (hf : FR drop ι F t) (e : ∀ p, T.look F' p = T.look F p) : FR drop ι F' t :=
  fun n v hd hv => hf n v hd (by rw [← e]; exact hv)
def Wd (l : List AOper) (k : Nat) (p : Pos) : Prop := ∃ x, l[k]? = some x ∧ x.dst = some p
section
variable {P : Program} {B : Nat} {call : CallT} (hcall : CallOK P B call) (hfc : CallFramed call)
variable {nt drop : Nat} {ops : Array Oper} {l : List AOper} {ι : Map} {st st' : St} {w : World} {a : Act} {f f' : Frame} {fs : Nat → Frame} {ss : Nat → St} {pa : Nat → Past} {sk : Nat → St}
structure Stage (drop nt B : Nat) (l : List AOper) (ι : Map) (st st' : St) (w : World) (a : Act) (fs : Nat → Frame) (ss sk : Nat → St) (S : Nat → Bool) (F : Frame) (h : T AObj) (ι' : Map) (w' : World) (a' : Act) : Prop where
  frame : Shown l.length (fun k p => (fs k).look p) (Wd l) S F.look
  heap : Shown l.length (fun k i => (ss k).heap.get i) (Wr l fs ss sk) S h.get
  fr : FR drop ι' F a'.tmps
  size : nt ≤ a'.tmps.size
  rel : Rel ι' B h w'
  sub : Sub ι ι'
  below : Below B w w'
  other : ∀ i, (i < st.next ∨ st'.next ≤ i) → ι' i = ι i
  free : ∀ k, k < l.length → S k = false → ∀ i, (ss k).next ≤ i → i < (ss (k + 1)).next → ι' i = none
  defers : a'.defers = a.defers
variable (hl : optAll (compOper P drop [] ops nt) ops.toList = some l) (hb : edgesBack ops.toList = true) (hs : slotsApart l (preds ops.toList) = true) (hd : ops.toList.all (fun o => !dropped drop o.dst) = true)
variable (hR : Run call (preds ops.toList) l f st f' st' fs ss pa sk) (h0 : Neat st)
theorem frame_keeps {pr : List Nat} (hR : Run call pr l f st f' st' fs ss pa sk) : ∀ k, k < l.length → ∀ p, ¬ Wd l k p → (fs (k + 1)).look p = (fs k).look p := by
  intro k hk p hw
  have hx := List.getElem?_eq_getElem hk
  have : ∃ v, fs (k + 1) = (fs k).put (l[k]).dst v := by
    rcases hR.step k _ hx with ⟨_, h, _⟩ | ⟨_, v, r, _, _, h, _⟩ <;> exact ⟨_, h⟩
  obtain ⟨v, hv⟩ := this
  rw [hv, look_put_other (fun e => hw ⟨_, hx, e⟩)]
include hcall hfc hl hb hs hR h0 in
theorem stage_step {S S' : Nat → Bool} {k : Nat} (hk : k < l.length) (hSk : S k = false) (hS' : ∀ j, S' j = true ↔ (S j = true ∨ j = k))
    (hclosed : ∀ (j : Nat) (o : Oper), S j = true → ops.toList[j]? = some o → ∀ e ∈ o.after, edgeOn e = true → S e.on = true)
    (hready : ∀ o, ops.toList[k]? = some o → ∀ e ∈ o.after, edgeOn e = true → S e.on = true)
    {F : Frame} {h : T AObj} {ι' : Map} {w' : World} {a' : Act} {Q : Exit → Act → World → Prop} (hst : Stage drop nt B l ι st st' w a fs ss sk S F h ι' w' a') {K : Act → World → Prop}
    (hK : ∀ F1 h1 ι1 w1 a1, Stage drop nt B l ι st st' w a fs ss sk S' F1 h1 ι1 w1 a1 → K a1 w1) : wpOp P ops Q k K a' w' := by
  have keepsH : ∀ k, k < l.length → ∀ i, ¬ Wr l fs ss sk k i → (ss (k + 1)).heap.get i = (ss k).heap.get i := fun k hk i => hR.keeps hfc hk i
  have hback := edgesBack_spec hb
  have hpr := preds_ok ops.toList
  have bound_S : ∀ j, j ≠ k → comparable (preds ops.toList) j k = true → (S j = true ↔ j < k) := by
    intro j hne hcmp
    unfold comparable at hcmp
    rw [Bool.or_eq_true] at hcmp
    rcases hcmp with h | h
    · obtain ⟨h1, h2⟩ := pred_in hpr hback hclosed k hready j h
      exact ⟨fun _ => h2, fun _ => h1⟩
    · have h2 := (pred_in (S := fun _ => true) hpr hback (fun _ _ _ _ _ _ _ => rfl) j (fun _ _ _ _ _ => rfl) k h).2
      constructor
      · intro hj
        have h1 := (pred_in hpr hback hclosed j (fun o ho => hclosed j o hj ho) k h).1
        rw [hSk] at h1; cases h1
      · intro hj; omega
  have hall := optAll_rel (p := fun y x => compOper P drop [] ops nt x = some y) (fun x y h => h) hl
  have hx := List.getElem?_eq_getElem hk
  generalize l[k] = x at hx
  obtain ⟨o, ho, hco⟩ := hall.get hx
  have ho' : ops[k]? = some o := by rw [← Array.getElem?_toList]; exact ho
  unfold compOper at hco
  split at hco
  case h_2 => cases hco
  rename_i g hg
  split at hco
  case h_2 => cases hco
  rename_i op hop
  have hh := sel_some hco
  clear hco
  obtain ⟨hdst, hao⟩ := hh
  cases hao
  rw [Bool.and_eq_true] at hdst
  obtain ⟨hdst, hgo⟩ := hdst
  have hlt := dst_lt hdst hst.size
  have seesF : ∀ p, (usesSlot ⟨o.dst.map pos, op, posGuard g⟩ p = true ∨ o.dst.map pos = some p) → F.look p = (fs k).look p := by
    intro p hp
    refine hst.frame.sees (frame_keeps hR) hk hSk (x := p) ?_
    rintro j hj hne ⟨y, hy, hyd⟩
    exact bound_S j hne (apart_conf hs hy hx hne hyd hp)
  have evF : ∀ s ∈ op.srcs, F.ev s = (fs k).ev s := by
    intro s hs'
    cases s with
    | c v => rfl
    | t p => rw [ev_t, ev_t, seesF p (.inl (by unfold usesSlot; rw [Bool.or_eq_true]; exact .inl (srcAny_of hs')))]
  have wantF : wanted F (posGuard g) = wanted (fs k) (posGuard g) := by
    cases hpg : posGuard g with
    | none => rfl
    | some q =>
      show (Option.rec none (boolIs q.2) (F.look q.1) : Option Bool) = Option.rec none (boolIs q.2) ((fs k).look q.1)
      rw [seesF q.1 (.inl (by unfold usesSlot; rw [hpg, Bool.or_eq_true]; exact .inr (posEq_iff.2 rfl)))]
  have stepF : ∀ v, fs (k + 1) = (fs k).put (o.dst.map pos) v → Shown l.length (fun k p => (fs k).look p) (Wd l) S' (F.put (o.dst.map pos) v).look := by
    intro v hv
    refine hst.frame.step (frame_keeps hR) hk hSk hS' ?_ ?_ ?_
    · rintro p ⟨z, hz, hzd⟩ j hj hne ⟨y, hy, hyd⟩
      rw [hx] at hz; cases hz
      exact bound_S j hne (apart_conf hs hy hx hne hyd (.inr hzd))
    · rintro p ⟨z, hz, hzd⟩
      rw [hx] at hz; cases hz
      show (F.put (o.dst.map pos) v).look p = (fs (k + 1)).look p
      rw [hv, look_put_same hzd, look_put_same hzd]
    · intro p hp
      show (F.put (o.dst.map pos) v).look p = F.look p
      rw [look_put_other (fun e => hp ⟨_, hx, e⟩)]
  have conf : ∀ i, (Wr l fs ss sk k i ∨ Rd l fs sk k i) → ∀ j, j < l.length → j ≠ k → Wr l fs ss sk j i → (S j = true ↔ j < k) := by
    intro i hi j hj hne hwj
    refine bound_S j hne ?_
    rcases Nat.lt_or_ge j k with h | h
    · exact hR.bound hfc h0 h hk (.inl ⟨hwj, hi⟩)
    · rw [comparable_comm]
      refine hR.bound hfc h0 (i := i) (show k < j by omega) hj ?_
      rcases hi with hi | hi
      · exact .inl ⟨hi, .inl hwj⟩
      · exact .inr ⟨hi, hwj⟩
  have seesH : ∀ i, (Wr l fs ss sk k i ∨ Rd l fs sk k i) → h.get i = (ss k).heap.get i := fun i hi =>
    hst.heap.sees keepsH hk hSk (conf i hi)
  have stepH : ∀ h' : T AObj, (∀ i, Wr l fs ss sk k i → h'.get i = (ss (k + 1)).heap.get i) → (∀ i, ¬ Wr l fs ss sk k i → h'.get i = h.get i) → Shown l.length (fun k i => (ss k).heap.get i) (Wr l fs ss sk) S' h'.get := by
    intro h' e1 e2
    exact hst.heap.step keepsH hk hSk hS' (fun i hi => conf i (.inl hi)) e1 e2
  have nextk : (ss k).next ≤ (ss (k + 1)).next := hR.next_le hfc hx
  have freeS : ∀ {ι1 : Map}, (∀ i, (i < (ss k).next ∨ (ss (k + 1)).next ≤ i) → ι1 i = ι' i) → ∀ j, j < l.length → S' j = false → ∀ i, (ss j).next ≤ i → i < (ss (j + 1)).next → ι1 i = none := by
    intro ι1 hι j hj hj' i h1 h2
    have hnS : ¬ S' j = true := by rw [hj']; simp
    rw [hS'] at hnS
    have hSj : S j = false := by
      cases hq : S j with
      | false => rfl
      | true => exact absurd (.inl hq) hnS
    have hne : j ≠ k := fun e => hnS (.inr e)
    rw [hι i]
    · exact hst.free j hj hSj i h1 h2
    · rcases Nat.lt_or_ge j k with h | h
      · left
        have := hR.mono hfc (show j + 1 ≤ k from h) (Nat.le_of_lt hk)
        omega
      · right
        have := hR.mono hfc (show k + 1 ≤ j by omega) (Nat.le_of_lt hj)
        omega
  unfold wpOp
  rw [ho']
  rcases hR.step k _ hx with ⟨hw, hf1, hs1⟩ | ⟨hw, _⟩
  ·
    have hwF : wanted F (posGuard g) = some false := wantF.trans hw
    have hnl : ∀ i, ¬ Wr l fs ss sk k i := by
      rintro i ⟨⟨y, hy, _, hw'⟩, _⟩
      rw [hx] at hy; cases hy
      rw [hw] at hw'; cases hw'
    show (if Region.wanted o (yielded ops a'.tmps) = true then _ else K (a'.put o.dst undef) w')
    rw [if_neg (by rw [wanted_eq hst.fr hg hgo hwF]; simp)]
    refine hK (F.put (o.dst.map pos) V.undef) h ι' w' _ ⟨stepF _ hf1, stepH h (fun i hi => absurd hi (hnl i)) (fun i _ => rfl), FR.put hst.fr hlt ⟨#[], rfl, trivial⟩, by rw [put_size]; exact hst.size, hst.rel, hst.sub, hst.below, hst.other, freeS (fun _ _ => rfl), put_defers.trans hst.defers⟩
  · have hwF : wanted F (posGuard g) = some true := wantF.trans hw
    obtain ⟨v, r, R⟩ := hR.ran hx hw
    have run : ∃ g1 g2 : St, g1.heap = h ∧ g1.next = (ss k).next ∧ g2.next = (ss (k + 1)).next ∧ Neat g1 ∧ stepOp call op F g1 = some (v, g2) ∧ (∀ i, Wr l fs ss sk k i → g2.heap.get i = (ss (k + 1)).heap.get i) ∧ (∀ i, ¬ Wr l fs ss sk k i → g2.heap.get i = h.get i) := by
      have hrun : stepOp call op F (sk k) = some (v, r) := by rw [step_congr evF]; exact R.run
      cases hstill : op.still with
      | true =>
        obtain ⟨h1, h2⟩ := stepOp_still (x := ⟨o.dst.map pos, op, posGuard g⟩) hstill hrun
        refine ⟨⟨(ss k).next, h, fun _ => false, fun _ => true⟩, _, rfl, rfl, ?_, fun i _ => get_none (by simp), h2 _, ?_, fun i _ => rfl⟩
        · rw [R.rnext, h1, R.next]
        · rintro i ⟨⟨y, hy, hsy, _⟩, _⟩
          rw [hx] at hy; cases hy
          rw [hstill] at hsy; cases hsy
      | false =>
        have live : Live l fs k := ⟨_, hx, hstill, hw⟩
        obtain ⟨went, over⟩ := step_framed hfc op F _ _ _ hrun
        have neatk := hR.neat hfc h0 k (Nat.le_of_lt hk)
        have visk : ∀ i, (sk k).vis i = true → (ss k).next ≤ i → (ss k).heap.get i = none := by
          intro i hi hle
          have := neatk i hle
          rw [get_of (R.vis i hi)] at this
          exact this
        have wrWin : ∀ i, (ss k).next ≤ i → i < (ss (k + 1)).next → Wr l fs ss sk k i := fun i h1 h2 => ⟨live, .inl ⟨h1, h2⟩⟩
        have wentN : ∀ i, (ss k).next ≤ i → i < (ss (k + 1)).next → (sk k).vis i = true ∧ (sk k).wr i = true := fun i h1 h2 => went.seen i (by rw [R.next]; exact h1) (by rw [← R.rnext]; exact h2)
        have ext : Ext (sk k) r ⟨(ss k).next, h, fun i => (sk k).vis i && Nat.blt i (ss (k + 1)).next, (sk k).wr⟩ := by
          refine ⟨R.next.symm, ?_, fun i _ hi => hi, ?_⟩
          · intro i y hy
            have hv := get_vis hy
            have hh := St.get_heap hy
            rw [R.heap] at hh
            have hilt : i < (ss k).next := by
              rcases Nat.lt_or_ge i (ss k).next with q | q
              · exact q
              · rw [visk i hv q] at hh; cases hh
            rw [get_of (by simp only [hv, Bool.true_and]; exact blt_iff.2 (by omega))]
            show h.get i = some y
            rw [seesH i (.inr ⟨live, by rw [hy]; rfl⟩)]
            exact hh
          · intro i h1 h2
            rw [R.next] at h1
            rw [← R.rnext] at h2
            obtain ⟨a1, a2⟩ := wentN i h1 h2
            exact ⟨by simp only [a1, Bool.true_and]; exact blt_iff.2 h2, a2⟩
        obtain ⟨g2, e1, e2⟩ := over _ ext
        refine ⟨⟨(ss k).next, h, fun i => (sk k).vis i && Nat.blt i (ss (k + 1)).next, (sk k).wr⟩, g2, rfl, rfl, e2.next.trans R.rnext.symm, ?_, e1, ?_, ?_⟩
        · intro i hi
          have hi : (ss k).next ≤ i := hi
          by_cases hv : ((sk k).vis i && Nat.blt i (ss (k + 1)).next) = true
          · rw [get_of hv]
            show h.get i = none
            rw [Bool.and_eq_true] at hv
            rw [seesH i (.inl (wrWin i hi (blt_iff.1 hv.2)))]
            exact visk i hv.1 hi
          · exact get_none hv
        · rintro i ⟨_, hi⟩
          rw [R.rheap]
          refine e2.here i ?_
          rcases hi with ⟨h1, h2⟩ | ⟨h1, h2, h3⟩
          · exact .inl ⟨by rw [R.next]; exact h1, by rw [← R.rnext]; exact h2⟩
          · right
            rw [get_of h1, R.heap]
            exact h3
        · intro i hi
          by_cases hc : ((sk k).next ≤ i ∧ i < r.next) ∨ ((sk k).get i).isSome = true
          · rw [e2.here i hc, ← R.rheap, hR.keeps hfc hk i hi]
            refine (seesH i (.inr ⟨live, ?_⟩)).symm
            rcases hc with ⟨h1, h2⟩ | hc
            · exact absurd (wrWin i (by rw [← R.next]; exact h1) (by rw [R.rnext]; exact h2)) hi
            · exact hc
          · exact e2.there i hc
    obtain ⟨g1, g2, k1, k2, k3, k4, k5, k6, k7⟩ := run
    show (if Region.wanted o (yielded ops a'.tmps) = true then (o.wp P a' w' K Q ∨ _) else _)
    rw [if_pos (wanted_eq hst.fr hg hgo hwF)]
    left
    refine step_sim hcall hfc (good_at (al := []) hst.fr (fun _ _ _ h => by cases h) hwF) (by rw [k1]; exact hst.rel) (fun i h1 h2 => hst.free k hk hSk i (by rw [← k2]; exact h1) (by rw [← k3]; exact h2)) k4 hop k5 ?_
    intro ι1 w1 y s1 s2 s3 s4 s5
    have s2' : ∀ i, (i < (ss k).next ∨ (ss (k + 1)).next ≤ i) → ι1 i = ι' i := fun i hi => s2 i (by rw [k2, k3]; exact hi)
    refine hK (F.put (o.dst.map pos) v) g2.heap ι1 w1 _ ⟨stepF _ R.put, stepH _ k6 k7, FR.put (hst.fr.mono s1) hlt s5, by rw [put_size]; exact hst.size, s3, hst.sub.trans s1, hst.below.trans s4, ?_, freeS s2', put_defers.trans hst.defers⟩
    intro i hi
    have m1 := hR.mono hfc (Nat.zero_le k) (Nat.le_of_lt hk)
    have m2 := hR.mono hfc (show k + 1 ≤ l.length from hk) (Nat.le_refl _)
    rw [hR.s0] at m1
    rw [hR.sn] at m2
    rw [s2' i, hst.other i hi]
    rcases hi with hi | hi
    · left; omega
    · right; omega
theorem ready_nil {ops : Array Oper} {listed : Array Bool} (hb : edgesBack ops.toList = true) (hsz : listed.size = ops.size) (h : Region.ready .any ops listed = []) : ∀ k, k < ops.size → listed.getD k false = true := by
  intro k
  induction k using Nat.strongRecOn with
  | ind k ih =>
    intro hk
    cases hq : listed.getD k false with
    | true => rfl
    | false =>
      have : k ∈ Region.ready .any ops listed := by
        rw [mem_ready]
        refine ⟨?_, ops[k], Array.getElem?_eq_getElem hk, fun e he hbind => ?_⟩
        · rw [Array.getD_eq_getD_getElem?, Array.getElem?_eq_getElem (by omega)] at hq ⊢
          exact hq
        · have hlt := edgesBack_spec hb k ops[k] (by rw [Array.getElem?_toList, Array.getElem?_eq_getElem hk]) e he hbind
          exact ih e.on hlt (by omega)
      rw [h] at this; cases this
include hcall hfc in
theorem dreg_sim {Q : Exit → Act → World → Prop} (hl : optAll (compOper P drop [] ops nt) ops.toList = some l) (hb : edgesBack ops.toList = true) (hs : slotsApart l (preds ops.toList) = true) (hd : ops.toList.all (fun o => !dropped drop o.dst) = true)
    (hr : runD (withPartners (l.map (·.op)) (preds ops.toList) 0 l) call 0 [] f st = some (f', st')) (hf : FR drop ι f a.tmps) (hsz : nt ≤ a.tmps.size) (hrel : Rel ι B st.heap w) (hfr : ∀ i, st.next ≤ i → i < st'.next → ι i = none) (h0 : Neat st)
    (hk : ∀ ι' w' a', Kept drop ι ι' B nt st st' w w' f' a a' → Q .normal a' w') : wpAny P .any ops Q ops.size (Array.replicate ops.size false) a { w with drawn := w.drawn + 1 } := by
  obtain ⟨fs, ss, pa, sk, hR⟩ := run_of hfc hr
  have keepsH : ∀ k, k < l.length → ∀ i, ¬ Wr l fs ss sk k i → (ss (k + 1)).heap.get i = (ss k).heap.get i := fun k hk i => hR.keeps hfc hk i
  have hlen : l.length = ops.size := by
    have := (optAll_rel (p := fun y x => compOper P drop [] ops nt x = some y) (fun x y h => h) hl).length
    simpa using this
  have go : ∀ (fuel : Nat) (L : List Nat) (listed : Array Bool) (F : Frame) (h : T AObj) (ι' : Map) (w' : World) (a' : Act), listed.size = ops.size → L.length ≤ fuel → (∀ j, j < ops.size → listed.getD j false = false → j ∈ L) →
      (∀ (j : Nat) (o : Oper), listed.getD j false = true → ops.toList[j]? = some o → ∀ e ∈ o.after, edgeOn e = true → listed.getD e.on false = true) →
      Stage drop nt B l ι st st' w a fs ss sk (fun j => listed.getD j false) F h ι' w' a' → wpAny P .any ops Q fuel listed a' w' := by
    intro fuel
    induction fuel with
    | zero =>
      intro L listed F h ι' w' a' hsize hL hin hcl hst
      have hall : ∀ j, j < ops.size → listed.getD j false = true := by
        intro j hj
        cases hq : listed.getD j false with
        | true => rfl
        | false =>
          have := hin j hj hq
          rw [List.length_eq_zero_iff.1 (Nat.le_zero.1 hL)] at this
          cases this
      refine ⟨?_, ?_⟩
      · cases hrd : Region.ready .any ops listed with
        | nil => rfl
        | cons i is =>
          exfalso
          have hi : i ∈ Region.ready .any ops listed := by rw [hrd]; exact List.mem_cons_self ..
          obtain ⟨h1, o, ho, _⟩ := mem_ready.1 hi
          have hlt := (Array.getElem?_eq_some_iff.1 ho).1
          have h2 := hall i hlt
          rw [Array.getD_eq_getD_getElem?, Array.getElem?_eq_getElem (by omega)] at h1 h2
          simp only [Option.getD_some] at h1 h2
          rw [h1] at h2; cases h2
      · have e1 := hst.frame.done (frame_keeps hR) (fun j hj => hall j (by omega))
        have e2 := hst.heap.done keepsH (fun j hj => hall j (by omega))
        exact hk ι' w' a' ⟨hst.sub, hst.other, hst.rel.congr (fun i => ((e2 i).trans (by rw [hR.sn])).symm), hst.below, hst.fr.congr (fun p => ((e1 p).trans (by rw [hR.fn])).symm), hst.size, hst.defers⟩
    | succ fuel ih =>
      intro L listed F h ι' w' a' hsize hL hin hcl hst
      refine ⟨?_, ?_⟩
      · intro hrd
        have hall := ready_nil hb hsize hrd
        have e1 := hst.frame.done (frame_keeps hR) (fun j hj => hall j (by omega))
        have e2 := hst.heap.done keepsH (fun j hj => hall j (by omega))
        exact hk ι' w' a' ⟨hst.sub, hst.other, hst.rel.congr (fun i => ((e2 i).trans (by rw [hR.sn])).symm), hst.below, hst.fr.congr (fun p => ((e1 p).trans (by rw [hR.fn])).symm), hst.size, hst.defers⟩
      · intro k hkr
        obtain ⟨h1, o, ho, hedges⟩ := mem_ready.1 hkr
        have hlt := (Array.getElem?_eq_some_iff.1 ho).1
        have hSk : listed.getD k false = false := by
          rw [Array.getD_eq_getD_getElem?, Array.getElem?_eq_getElem (by omega)] at h1 ⊢
          exact h1
        have hS' : ∀ j, (listed.setIfInBounds k true).getD j false = true ↔ (listed.getD j false = true ∨ j = k) := by
          intro j
          rw [Array.getD_eq_getD_getElem?, Array.getD_eq_getD_getElem?, Array.getElem?_setIfInBounds]
          by_cases hj : k = j
          · subst hj
            rw [if_pos rfl, if_pos (by omega)]
            simp
          · rw [if_neg hj]
            constructor
            · exact .inl
            · rintro (h | h)
              · exact h
              · exact absurd h.symm hj
        have hready : ∀ o, ops.toList[k]? = some o → ∀ e ∈ o.after, edgeOn e = true → listed.getD e.on false = true := by
          intro o' ho' e he hb'
          rw [Array.getElem?_toList, ho] at ho'
          cases ho'
          exact hedges e he hb'
        refine stage_step hcall hfc hl hb hs hR h0 (S := fun j => listed.getD j false) (S' := fun j => (listed.setIfInBounds k true).getD j false) (by omega) hSk hS' hcl hready hst ?_
        intro F1 h1' ι1 w1 a1 hst1
        have hkL : k ∈ L := hin k hlt hSk
        refine ih (L.erase k) _ F1 h1' ι1 w1 a1 (by simpa using hsize) ?_ ?_ ?_ hst1
        · rw [List.length_erase_of_mem hkL]; omega
        · intro j hj hjf
          have hn : ¬ ((listed.setIfInBounds k true).getD j false = true) := by rw [hjf]; simp
          rw [hS'] at hn
          have hne : j ≠ k := fun e => hn (.inr e)
          refine (List.mem_erase_of_ne hne).2 (hin j hj ?_)
          cases hq : listed.getD j false with
          | false => rfl
          | true => exact absurd (.inl hq) hn
        · intro j o' hj ho' e he hb'
          rw [hS'] at hj ⊢
          rcases hj with hj | rfl
          · exact .inl (hcl j o' hj ho' e he hb')
          · exact .inl (hready o' ho' e he hb')
  refine go ops.size (List.range ops.size) _ f st.heap ι _ a (by simp) (by simp) (fun j hj _ => List.mem_range.2 hj) ?_ ?_
  · intro j o hj
    exfalso
    rw [Array.getD_eq_getD_getElem?, Array.getElem?_replicate] at hj
    split at hj <;> cases hj
  · have hfalse : ∀ j, (Array.replicate ops.size false).getD j false = false := by
      intro j
      rw [Array.getD_eq_getD_getElem?, Array.getElem?_replicate]
      split <;> rfl
    refine ⟨Shown.start (fun k _ => hfalse k) (fun p => by rw [hR.f0]), Shown.start (fun k _ => hfalse k) (fun i => by rw [hR.s0]), hf, hsz, hrel.drew, Sub.refl _, (Below.refl _ _).drew, fun _ _ => rfl, ?_, rfl⟩
    intro k hk _ i h1 h2
    have m1 := hR.mono hfc (Nat.zero_le k) (Nat.le_of_lt hk)
    have m2 := hR.mono hfc (show k + 1 ≤ l.length from hk) (Nat.le_refl _)
    rw [hR.s0] at m1
    rw [hR.sn] at m2
    exact hfr i (by omega) (by omega)
end
end Go.Vabs
