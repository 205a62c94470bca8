/- Lemmas for this claim, text R. No condition. -/
import Derived.Test.YtcgiiomghmffbaaVabsQ
namespace Go.Vabs
set_option linter.unusedSimpArgs false
set_option linter.unusedVariables false
theorem st_mv (x : Src) (ρ : Src → V) : Still (ex_mv x ρ) := fun s r s' h => by cases h; exact ⟨rfl, fun g => rfl⟩
theorem fr_mv (x : Src) (ρ : Src → V) : Framed (ex_mv x ρ) := still_framed (st_mv x ρ)
theorem st_call (f : Nat) (xs : List Src) (ρ : Src → V) : Still (ex_call f xs ρ) := fun s r s' h => by cases h; exact ⟨rfl, fun g => rfl⟩
theorem fr_call (f : Nat) (xs : List Src) (ρ : Src → V) : Framed (ex_call f xs ρ) := still_framed (st_call f xs ρ)
theorem st_pick (c x y : Src) (ρ : Src → V) : Still (ex_pick c x y ρ) := fun s r s' h => by
  unfold ex_pick at h ⊢
  split at h <;> (try split at h) <;> (try split at h) <;> first
    | (cases h; done)
    | (cases h; exact ⟨rfl, fun g => rfl⟩)
    | (obtain ⟨hb, h'⟩ := sel_some h; cases h'; exact ⟨rfl, fun g => by rw [hb]; rfl⟩)
theorem fr_pick (c x y : Src) (ρ : Src → V) : Framed (ex_pick c x y ρ) := still_framed (st_pick c x y ρ)
theorem st_build (zs : List V) (ps : List (Nat × Nat × Src)) (ρ : Src → V) : Still (ex_build zs ps ρ) := fun s r s' h => by
  unfold ex_build at h ⊢
  split at h <;> (try split at h) <;> (try split at h) <;> first
    | (cases h; done)
    | (cases h; exact ⟨rfl, fun g => rfl⟩)
    | (obtain ⟨hb, h'⟩ := sel_some h; cases h'; exact ⟨rfl, fun g => by rw [hb]; rfl⟩)
theorem fr_build (zs : List V) (ps : List (Nat × Nat × Src)) (ρ : Src → V) : Framed (ex_build zs ps ρ) := still_framed (st_build zs ps ρ)
theorem st_bin (op : BinOp) (k : EqKind) (x y : Src) (ρ : Src → V) : Still (ex_bin op k x y ρ) := fun s r s' h => by
  unfold ex_bin at h ⊢
  split at h <;> (try split at h) <;> (try split at h) <;> (try split at h) <;> first
    | (cases h; done)
    | (cases h; exact ⟨rfl, fun g => rfl⟩)
    | (cases h; exact ⟨rfl, fun g => by simp_all⟩)
    | (obtain ⟨hb, h'⟩ := sel_some h; cases h'; exact ⟨rfl, fun g => by rw [hb]; rfl⟩)
theorem fr_bin (op : BinOp) (k : EqKind) (x y : Src) (ρ : Src → V) : Framed (ex_bin op k x y ρ) := still_framed (st_bin op k x y ρ)
theorem st_un (op : UnOp) (x : Src) (ρ : Src → V) : Still (ex_un op x ρ) := fun s r s' h => by
  unfold ex_un at h ⊢
  split at h <;> (try split at h) <;> (try split at h) <;> first
    | (cases h; done)
    | (cases h; exact ⟨rfl, fun g => rfl⟩)
    | (obtain ⟨hb, h'⟩ := sel_some h; cases h'; exact ⟨rfl, fun g => by rw [hb]; rfl⟩)
theorem fr_un (op : UnOp) (x : Src) (ρ : Src → V) : Framed (ex_un op x ρ) := still_framed (st_un op x ρ)
theorem st_mkfn (f : Nat) (xs ys : List Src) (ρ : Src → V) : Still (ex_mkfn f xs ys ρ) := fun s r s' h => by
  unfold ex_mkfn at h ⊢
  obtain ⟨hb, h'⟩ := sel_some h
  cases h'
  exact ⟨rfl, fun g => by rw [hb]; rfl⟩
theorem fr_mkfn (f : Nat) (xs ys : List Src) (ρ : Src → V) : Framed (ex_mkfn f xs ys ρ) := still_framed (st_mkfn f xs ys ρ)
theorem st_slice (k : SlK) (x : Src) (a b c : Option Src) (ρ : Src → V) : Still (ex_slice k x a b c ρ) := fun s r s' h => by
  unfold ex_slice at h ⊢
  split at h <;> (try split at h) <;> (try split at h) <;> first
    | (cases h; done)
    | (cases h; exact ⟨rfl, fun g => rfl⟩)
    | (obtain ⟨hb, h'⟩ := sel_some h; cases h'; exact ⟨rfl, fun g => by rw [hb]; rfl⟩)
theorem fr_slice (k : SlK) (x : Src) (a b c : Option Src) (ρ : Src → V) : Framed (ex_slice k x a b c ρ) := still_framed (st_slice k x a b c ρ)
theorem st_fieldAddr (off : Nat) (x : Src) (ρ : Src → V) : Still (ex_fieldAddr off x ρ) := fun s r s' h => by
  unfold ex_fieldAddr at h ⊢
  split at h <;> (try split at h) <;> (try split at h) <;> first
    | (cases h; done)
    | (cases h; exact ⟨rfl, fun g => rfl⟩)
    | (obtain ⟨hb, h'⟩ := sel_some h; cases h'; exact ⟨rfl, fun g => by rw [hb]; rfl⟩)
theorem fr_fieldAddr (off : Nat) (x : Src) (ρ : Src → V) : Framed (ex_fieldAddr off x ρ) := still_framed (st_fieldAddr off x ρ)
theorem st_field (a : Bool) (n off : Nat) (x : Src) (ρ : Src → V) : Still (ex_field a n off x ρ) := fun s r s' h => by
  unfold ex_field at h ⊢
  split at h <;> (try split at h) <;> (try split at h) <;> first
    | (cases h; done)
    | (cases h; exact ⟨rfl, fun g => rfl⟩)
    | (obtain ⟨hb, h'⟩ := sel_some h; cases h'; exact ⟨rfl, fun g => by rw [hb]; rfl⟩)
theorem fr_field (a : Bool) (n off : Nat) (x : Src) (ρ : Src → V) : Framed (ex_field a n off x ρ) := still_framed (st_field a n off x ρ)
theorem st_idxAddr (k : IxK) (x i : Src) (ρ : Src → V) : Still (ex_idxAddr k x i ρ) := fun s r s' h => by
  unfold ex_idxAddr at h ⊢
  split at h <;> (try split at h) <;> (try split at h) <;> first
    | (cases h; done)
    | (cases h; exact ⟨rfl, fun g => rfl⟩)
    | (obtain ⟨hb, h'⟩ := sel_some h; cases h'; exact ⟨rfl, fun g => by rw [hb]; rfl⟩)
theorem fr_idxAddr (k : IxK) (x i : Src) (ρ : Src → V) : Framed (ex_idxAddr k x i ρ) := still_framed (st_idxAddr k x i ρ)
theorem st_index (k : IxK) (x i : Src) (ρ : Src → V) : Still (ex_index k x i ρ) := fun s r s' h => by
  unfold ex_index at h ⊢
  split at h
  · split at h
    · obtain ⟨hb, h'⟩ := sel_some h
      clear h
      split at h'
      · rename_i hq
        cases h'
        exact ⟨rfl, fun g => by rw [hb]; rfl⟩
      · cases h'
    · split at h
      · cases h; exact ⟨rfl, fun g => rfl⟩
      · cases h
    · cases h
  · cases h
theorem fr_index (k : IxK) (x i : Src) (ρ : Src → V) : Framed (ex_index k x i ρ) := still_framed (st_index k x i ρ)
theorem st_extract (x : Src) (n : Nat) (ρ : Src → V) : Still (ex_extract x n ρ) := fun s r s' h => by
  unfold ex_extract at h ⊢
  split at h <;> (try split at h) <;> (try split at h) <;> first
    | (cases h; done)
    | (cases h; exact ⟨rfl, fun g => rfl⟩)
    | (obtain ⟨hb, h'⟩ := sel_some h; cases h'; exact ⟨rfl, fun g => by rw [hb]; rfl⟩)
theorem fr_extract (x : Src) (n : Nat) (ρ : Src → V) : Framed (ex_extract x n ρ) := still_framed (st_extract x n ρ)
theorem st_capOf (x : Src) (ρ : Src → V) : Still (ex_capOf x ρ) := fun s r s' h => by
  unfold ex_capOf at h ⊢
  split at h <;> (try split at h) <;> (try split at h) <;> first
    | (cases h; done)
    | (cases h; exact ⟨rfl, fun g => rfl⟩)
    | (obtain ⟨hb, h'⟩ := sel_some h; cases h'; exact ⟨rfl, fun g => by rw [hb]; rfl⟩)
theorem fr_capOf (x : Src) (ρ : Src → V) : Framed (ex_capOf x ρ) := still_framed (st_capOf x ρ)
theorem st_minmax (m : Bool) (x : Src) (xs : List Src) (ρ : Src → V) : Still (ex_minmax m x xs ρ) := fun s r s' h => by
  unfold ex_minmax at h ⊢
  split at h <;> (try split at h) <;> (try split at h) <;> first
    | (cases h; done)
    | (cases h; exact ⟨rfl, fun g => rfl⟩)
    | (obtain ⟨hb, h'⟩ := sel_some h; cases h'; exact ⟨rfl, fun g => by rw [hb]; rfl⟩)
theorem fr_minmax (m : Bool) (x : Src) (xs : List Src) (ρ : Src → V) : Framed (ex_minmax m x xs ρ) := still_framed (st_minmax m x xs ρ)
theorem st_callv (f : Src) (xs : List Src) (ρ : Src → V) : Still (ex_callv f xs ρ) := fun s r s' h => by
  unfold ex_callv at h ⊢
  split at h <;> (try split at h) <;> (try split at h) <;> first
    | (cases h; done)
    | (cases h; exact ⟨rfl, fun g => rfl⟩)
    | (obtain ⟨hb, h'⟩ := sel_some h; cases h'; exact ⟨rfl, fun g => by rw [hb]; rfl⟩)
theorem fr_callv (f : Src) (xs : List Src) (ρ : Src → V) : Framed (ex_callv f xs ρ) := still_framed (st_callv f xs ρ)
theorem st_nilchk (x : Src) (ρ : Src → V) : Still (ex_nilchk x ρ) := fun s r s' h => by
  unfold ex_nilchk at h ⊢
  split at h <;> (try split at h) <;> (try split at h) <;> first
    | (cases h; done)
    | (cases h; exact ⟨rfl, fun g => rfl⟩)
    | (obtain ⟨hb, h'⟩ := sel_some h; cases h'; exact ⟨rfl, fun g => by rw [hb]; rfl⟩)
theorem fr_nilchk (x : Src) (ρ : Src → V) : Framed (ex_nilchk x ρ) := still_framed (st_nilchk x ρ)
theorem alloc_then {s s' : St} {o : AObj} {j : Nat} {r : Nat → Res} {m : St → Option (Res × St)} (h : s.alloc o = some (j, s')) (hm : ∀ g j g', g.alloc o = some (j, g') → m g = some (r j, g')) :
    Went s s' ∧ ∀ g, Ext s s' g → ∃ g', m g = some (r j, g') ∧ Over s s' g g' := by
  obtain ⟨h1, h2⟩ := alloc_framed o s j s' h
  refine ⟨h1, fun g he => ?_⟩
  obtain ⟨g', k1, k2⟩ := h2 g he
  exact ⟨g', hm g j g' k1, k2⟩
theorem fr_alloc (zs : List V) (ρ : Src → V) : Framed (ex_alloc zs ρ) := fun s r s' h => by
  unfold ex_alloc at h
  split at h
  · rename_i j s1 ha; cases h; exact alloc_then (r := fun j => .val (.ptr (some (j, 0)))) ha fun g j g' hg => by unfold ex_alloc; rw [hg]
  · cases h
theorem fr_box (x : Src) (ρ : Src → V) : Framed (ex_box x ρ) := fun s r s' h => by
  unfold ex_box at h
  split at h
  · rename_i cs hcs
    split at h
    · rename_i j s1 ha; cases h; exact alloc_then (r := fun j => .val (.ptr (some (j, 0)))) ha fun g j g' hg => by unfold ex_box; rw [hcs]; dsimp only; rw [hg]
    · cases h
  · cases h
theorem fr_bslice (e len : Nat) (zs : List V) (ps : List (Nat × Nat × Src)) (ρ : Src → V) : Framed (ex_bslice e len zs ps ρ) := fun s r s' h => by
  unfold ex_bslice at h
  split at h
  · rename_i cs hcs
    split at h
    · rename_i j s1 ha; cases h; exact alloc_then (r := fun j => .val (.slice (some (j, 0)) e len len true)) ha fun g j g' hg => by unfold ex_bslice; rw [hcs]; dsimp only; rw [hg]
    · cases h
  · cases h
theorem fr_mkmap (ρ : Src → V) : Framed (ex_mkmap ρ) := fun s r s' h => by
  unfold ex_mkmap at h
  split at h
  · rename_i j s1 ha; cases h; exact alloc_then (r := fun j => .val (.map (some j))) ha fun g j g' hg => by unfold ex_mkmap; rw [hg]
  · cases h
theorem fr_mkslice (e bytes : Nat) (zs : List V) (l c : Src) (ρ : Src → V) : Framed (ex_mkslice e bytes zs l c ρ) := fun s r s' h => by
  unfold ex_mkslice at h
  split at h
  · rename_i n m hn hm
    obtain ⟨hb, h⟩ := sel_some h
    split at h
    · rename_i j s1 ha; cases h
      exact alloc_then (r := fun j => .val (.slice (some (j, 0)) e n m true)) ha fun g j g' hg => by unfold ex_mkslice; rw [hn, hm]; dsimp only; rw [hb, hg]; rfl
    · cases h
  · cases h
theorem fr_conv (c : Conv) (x : Src) (ρ : Src → V) : Framed (ex_conv c x ρ) := fun s r s' h => by
  unfold ex_conv at h
  split at h
  · rename_i hv; cases h; exact ⟨Went.refl _, fun g he => ⟨g, by unfold ex_conv; rw [hv], Over.refl _ _ he⟩⟩
  · rename_i hv; cases h; exact ⟨Went.refl _, fun g he => ⟨g, by unfold ex_conv; rw [hv], Over.refl _ _ he⟩⟩
  · rename_i q hv
    split at h
    · rename_i j s1 ha; cases h; exact alloc_then (r := fun j => .val (.slice (some (j, 0)) 1 q.length q.length false)) ha fun g j g' hg => by unfold ex_conv; rw [hv]; dsimp only; rw [hg]
    · cases h
  · rename_i hv; cases h; exact ⟨Went.refl _, fun g he => ⟨g, by unfold ex_conv; rw [hv], Over.refl _ _ he⟩⟩
  · rename_i hv
    obtain ⟨hb, h⟩ := sel_some h
    split at h
    · rename_i cs hcs
      split at h
      · rename_i q hq; cases h
        exact ⟨Went.refl _, fun g he => ⟨g, by unfold ex_conv; rw [hv]; dsimp only; rw [hb, loadN_framed hcs he]; dsimp only [sel]; rw [hq], Over.refl _ _ he⟩⟩
      · cases h
    · cases h
  · rename_i hv
    split at h
    · rename_i hg2; cases h
      exact ⟨Went.refl _, fun g he => ⟨g, by unfold ex_conv; rw [hv]; dsimp only; rw [he.get _ _ hg2], Over.refl _ _ he⟩⟩
    · cases h
  · cases h
theorem fr_load (a : Bool) (n : Nat) (x : Src) (ρ : Src → V) : Framed (ex_load a n x ρ) := fun s r s' h => by
  unfold ex_load at h
  simp only [load1F_eq] at h
  split at h
  · rename_i i o hv
    cases a with
    | true =>
      have h : (match s.loadN i o n with | some l => some (Res.val (.agg l), s) | none => none) = some (r, s') := h
      split at h
      · rename_i l hl; cases h
        exact ⟨Went.refl _, fun g he => ⟨g, by unfold ex_load; rw [hv]; dsimp only [sel]; rw [loadN_framed hl he], Over.refl _ _ he⟩⟩
      · cases h
    | false =>
      have h : (match s.load1 i o with | some v => some (Res.val v, s) | none => none) = some (r, s') := h
      split at h
      · rename_i l hl; cases h
        exact ⟨Went.refl _, fun g he => ⟨g, by unfold ex_load; rw [hv]; dsimp only [sel]; rw [load1F_eq, load1_framed hl he], Over.refl _ _ he⟩⟩
      · cases h
  · cases h
theorem store_then {s s' : St} {i q : Nat} {vs : List V} {r : Res} {m : St → Option (Res × St)} (h : s.storeN i q vs = some s') (hm : ∀ g g', g.storeN i q vs = some g' → Ext s s' g → m g = some (r, g')) :
    Went s s' ∧ ∀ g, Ext s s' g → ∃ g', m g = some (r, g') ∧ Over s s' g g' := by
  obtain ⟨h1, h2⟩ := storeN_framed i q vs s s' h
  refine ⟨h1, fun g he => ?_⟩
  obtain ⟨g', k1, k2⟩ := h2 g he
  exact ⟨g', hm g g' k1 he, k2⟩
theorem fr_store (n : Nat) (a x : Src) (ρ : Src → V) : Framed (ex_store n a x ρ) := fun s r s' h => by
  unfold ex_store at h
  split at h
  · rename_i i o hv
    split at h
    · rename_i cs hcs
      obtain ⟨hb, h⟩ := sel_some h
      split at h
      · rename_i s1 hst; cases h
        exact store_then hst fun g g' hg _ => by unfold ex_store; rw [hv]; dsimp only; rw [hcs]; dsimp only; rw [hb, hg]; rfl
      · cases h
    · cases h
  · cases h
theorem fr_len (k : LenK) (x : Src) (ρ : Src → V) : Framed (ex_len k x ρ) := fun s r s' h => by
  unfold ex_len at h
  split at h
  · rename_i hv; cases h; exact ⟨Went.refl _, fun g he => ⟨g, by unfold ex_len; rw [hv], Over.refl _ _ he⟩⟩
  · rename_i hv; cases h; exact ⟨Went.refl _, fun g he => ⟨g, by unfold ex_len; rw [hv], Over.refl _ _ he⟩⟩
  · cases h; exact ⟨Went.refl _, fun g he => ⟨g, by unfold ex_len; rfl, Over.refl _ _ he⟩⟩
  · rename_i hv; cases h; exact ⟨Went.refl _, fun g he => ⟨g, by unfold ex_len; rw [hv], Over.refl _ _ he⟩⟩
  · rename_i hv
    split at h
    · rename_i es c hg2; cases h; exact ⟨Went.refl _, fun g he => ⟨g, by unfold ex_len; rw [hv]; dsimp only; rw [he.get _ _ hg2], Over.refl _ _ he⟩⟩
    · cases h
  · cases h
theorem mapOf_framed {v : V} {es : List (V × V × Nat)} {s s' g : St} (h : mapOf s v = some es) (he : Ext s s' g) : mapOf g v = some es := by
  unfold mapOf at h ⊢
  split at h
  · exact h
  · split at h
    · rename_i hg2; cases h; rw [he.get _ _ hg2]
    · cases h
  · cases h
theorem fr_lookup (a : Option IntKind) (z : V) (m k : Src) (ok : Bool) (ρ : Src → V) : Framed (ex_lookup a z m k ok ρ) := fun s r s' h => by
  unfold ex_lookup at h
  obtain ⟨hkey, h⟩ := sel_some h
  split at h
  · rename_i es hes
    split at h
    · rename_i hf; cases h
      exact ⟨Went.refl _, fun g he => ⟨g, by unfold ex_lookup; rw [hkey, mapOf_framed hes he]; dsimp only [sel]; rw [hf], Over.refl _ _ he⟩⟩
    · rename_i hf; cases h
      exact ⟨Went.refl _, fun g he => ⟨g, by unfold ex_lookup; rw [hkey, mapOf_framed hes he]; dsimp only [sel]; rw [hf], Over.refl _ _ he⟩⟩
    · cases h
  · cases h
theorem set_then {s s' : St} {i : Nat} {o : Option AObj} {r : Res} {m : St → Option (Res × St)} (h : s.set i o = some s') (hm : ∀ g g', g.set i o = some g' → Ext s s' g → m g = some (r, g')) :
    Went s s' ∧ ∀ g, Ext s s' g → ∃ g', m g = some (r, g') ∧ Over s s' g g' := by
  obtain ⟨h1, h2⟩ := set_framed i o s s' h
  refine ⟨h1, fun g he => ?_⟩
  obtain ⟨g', k1, k2⟩ := h2 g he
  exact ⟨g', hm g g' k1 he, k2⟩
theorem fr_mapEntry (q : Option IntKind) (z : V) (m k : Src) (ρ : Src → V) : Framed (ex_mapEntry q z m k ρ) := fun s r s' h => by
  unfold ex_mapEntry at h
  obtain ⟨hkey, h⟩ := sel_some h
  split at h
  · rename_i i hv
    split at h
    · rename_i es c hg2
      split at h
      · rename_i hf; cases h
        exact ⟨Went.refl _, fun g he => ⟨g, by unfold ex_mapEntry; rw [hkey, hv]; dsimp only [sel]; rw [he.get _ _ hg2]; dsimp only; rw [hf], Over.refl _ _ he⟩⟩
      · rename_i hf
        split at h
        · rename_i s1 hs; cases h
          exact set_then hs fun g g' hg he => by unfold ex_mapEntry; rw [hkey, hv]; dsimp only [sel]; rw [he.get _ _ hg2]; dsimp only; rw [hf]; dsimp only; rw [hg]
        · cases h
      · cases h
    · cases h
  · cases h
theorem fr_entryStore (m x y : Src) (ρ : Src → V) : Framed (ex_entryStore m x y ρ) := fun s r s' h => by
  unfold ex_entryStore at h
  split at h
  · rename_i i b hv hb
    split at h
    · rename_i es c hg2
      split at h
      · rename_i es' hf
        obtain ⟨hpl, h⟩ := sel_some h
        split at h
        · rename_i s1 hs; cases h
          exact set_then hs fun g g' hg he => by unfold ex_entryStore; rw [hv, hb]; dsimp only; rw [he.get _ _ hg2]; dsimp only; rw [hf, hpl]; dsimp only [sel]; rw [hg]
        · cases h
      · cases h
    · cases h
  · cases h
theorem sel_cases {α : Type} {b : Bool} {x y : Option α} {r : α} (h : sel b x y = some r) : (b = true ∧ x = some r) ∨ (b = false ∧ y = some r) := by
  cases b
  · exact .inr ⟨rfl, h⟩
  · exact .inl ⟨rfl, h⟩
theorem fr_appendOp (e bytes : Nat) (sv : V) (m : Nat) (new : List V) : Framed (fun s => appendOp s e bytes sv m new) := fun s r s' h => by
  change appendOp s e bytes sv m new = some (r, s') at h
  unfold appendOp at h
  split at h
  case h_2 => cases h
  rename_i p e' n c fix
  split at h
  · cases h; exact ⟨Went.refl _, fun g he => ⟨g, rfl, Over.refl _ _ he⟩⟩
  · rename_i m
    obtain ⟨hchk, h⟩ := sel_some h
    cases p with
    | none =>
      dsimp only at h
      split at h
      · rename_i j s1 ha; cases h
        exact alloc_then (m := fun s => appendOp s e bytes (.slice none e' n c fix) (m + 1) new) (r := fun j => .val (.slice (some (j, 0)) e (n + (m + 1)) (n + (m + 1)) false)) ha fun g j g' hg => by
          simp only [appendOp, hchk, sel_true, hg]
      · cases h
    | some iq =>
      obtain ⟨i, q⟩ := iq
      dsimp only at h
      obtain ⟨hee, h⟩ := sel_some h
      split at h
      case h_2 => cases h
      rename_i own cs hget
      rcases sel_cases h with ⟨hfit, h1⟩ | ⟨hfit, h1⟩
      · split at h1
        · rename_i s1 hst; cases h1
          exact store_then (m := fun s => appendOp s e bytes (.slice (some (i, q)) e' n c fix) (m + 1) new) hst fun g g' hg he => by
            simp only [appendOp, hchk, sel_true, hee, he.get _ _ hget, hfit, hg]
        · cases h1
      · rcases sel_cases h1 with ⟨hfix, h2⟩ | ⟨hfix, h2⟩
        · split at h2
          · rename_i old hold
            split at h2
            · rename_i j s1 ha; cases h2
              obtain ⟨w1, w2⟩ := alloc_framed _ s j s' ha
              refine ⟨w1, fun g he => ?_⟩
              obtain ⟨g', k1, k2⟩ := w2 g he
              refine ⟨g', ?_, k2⟩
              show appendOp g e bytes (.slice (some (i, q)) e' n c fix) (m + 1) new = _
              simp only [appendOp, hchk, sel_true, sel_false, hee, he.get _ _ hget, hfit, hfix, hold, k1]
            · cases h2
          · cases h2
        · obtain ⟨hown, h3⟩ := sel_some h2
          split at h3
          case h_2 => cases h3
          rename_i old hold
          split at h3
          case h_2 => cases h3
          rename_i s1 hset
          split at h3
          case h_2 => cases h3
          rename_i j s2 ha
          cases h3
          obtain ⟨w1, w2⟩ := set_framed _ _ s s1 hset
          obtain ⟨w3, w4⟩ := alloc_framed _ s1 j s' ha
          refine ⟨w1.trans w3, fun g he => ?_⟩
          obtain ⟨g1, k1, k2⟩ := w2 g (he.left w3)
          obtain ⟨g2, k3, k4⟩ := w4 g1 (Ext.step w1 w3 he k2)
          refine ⟨g2, ?_, Over.trans w1 w3 k2 k4⟩
          show appendOp g e bytes (.slice (some (i, q)) e' n c fix) (m + 1) new = _
          simp only [appendOp, hchk, sel_true, sel_false, hee, he.get _ _ hget, hfit, hfix, hown, hold, k1, k3]
theorem fr_append (e bytes : Nat) (x y : Src) (ρ : Src → V) : Framed (ex_append e bytes x y ρ) := fun s r s' h => by
  unfold ex_append at h
  simp only [appendF_eq] at h
  split at h
  · rename_i m hm
    split at h
    · rename_i new hnew
      obtain ⟨w1, w2⟩ := fr_appendOp e bytes (ρ x) m new s r s' h
      refine ⟨w1, fun g he => ?_⟩
      obtain ⟨g', k1, k2⟩ := w2 g he
      exact ⟨g', by unfold ex_append; rw [hm]; dsimp only; rw [firstN_framed hnew he]; dsimp only; rw [appendF_eq]; exact k1, k2⟩
    · cases h
  · cases h
theorem fr_appendZ (e bytes : Nat) (zs : List V) (x y : Src) (ρ : Src → V) : Framed (ex_appendZ e bytes zs x y ρ) := fun s r s' h => by
  unfold ex_appendZ at h
  simp only [appendF_eq] at h
  split at h
  · rename_i m hm
    obtain ⟨w1, w2⟩ := fr_appendOp e bytes (ρ x) m _ s r s' h
    refine ⟨w1, fun g he => ?_⟩
    obtain ⟨g', k1, k2⟩ := w2 g he
    exact ⟨g', by unfold ex_appendZ; rw [hm]; dsimp only; rw [appendF_eq]; exact k1, k2⟩
  · cases h
theorem fr_copy (e : Nat) (d x : Src) (ρ : Src → V) : Framed (ex_copy e d x ρ) := fun s r s' h => by
  unfold ex_copy at h
  split at h
  · rename_i p e' dl c fix sl hd hsl
    dsimp only at h
    split at h
    · rename_i cs hcs
      split at h
      · cases h
        exact ⟨Went.refl _, fun g he => ⟨g, by unfold ex_copy; rw [hd, hsl]; dsimp only; rw [firstN_framed hcs he], Over.refl _ _ he⟩⟩
      · obtain ⟨hb, h⟩ := sel_some h
        split at h
        · rename_i s1 hst; cases h
          exact store_then hst fun g g' hg he => by unfold ex_copy; rw [hd, hsl]; dsimp only; rw [firstN_framed hcs he]; dsimp only; rw [hb, hg]; rfl
        · cases h
    · cases h
  · cases h
theorem fr_fail (ρ : Src → V) : Framed (ex_fail ρ) := fun s r s' h => by cases h
theorem fr_mapSet (q : Option IntKind) (m k x : Src) (ρ : Src → V) : Framed (ex_mapSet q m k x ρ) := fun s r s' h => by
  unfold ex_mapSet at h
  obtain ⟨hkey, h⟩ := sel_some h
  split at h
  · rename_i i hv
    split at h
    · rename_i es c hg2
      split at h
      · rename_i j u b hf
        split at h
        · rename_i s1 hs; cases h
          exact set_then hs fun g g' hg he => by unfold ex_mapSet; rw [hkey, hv]; dsimp only [sel]; rw [he.get _ _ hg2]; dsimp only; rw [hf]; dsimp only; rw [hg]
        · cases h
      · rename_i hf
        split at h
        · rename_i s1 hs; cases h
          exact set_then hs fun g g' hg he => by unfold ex_mapSet; rw [hkey, hv]; dsimp only [sel]; rw [he.get _ _ hg2]; dsimp only; rw [hf]; dsimp only; rw [hg]
        · cases h
      · cases h
    · cases h
  · cases h
theorem fr_sliceArr (n e : Nat) (x : Src) (a b c : Option Src) (ρ : Src → V) : Framed (ex_sliceArr n e x a b c ρ) := fun s r s' h => by
  unfold ex_sliceArr at h
  split at h
  · rename_i i q hv
    split at h
    · rename_i cs hg2
      obtain ⟨hb, h⟩ := sel_some h
      split at h
      · rename_i v hs; cases h
        exact ⟨Went.refl _, fun g he => ⟨g, by unfold ex_sliceArr; rw [hv]; dsimp only; rw [he.get _ _ hg2]; dsimp only; rw [hb, hs]; rfl, Over.refl _ _ he⟩⟩
      · cases h
    · cases h
  · cases h
theorem exec_framed (o : AOp) (ρ : Src → V) : Framed (execOp o ρ) := by
  cases o with
  | mv x => exact fr_mv x ρ
  | pick c a b => exact fr_pick c a b ρ
  | alloc zs => exact fr_alloc zs ρ
  | box x => exact fr_box x ρ
  | build zs ps => exact fr_build zs ps ρ
  | bslice e l zs ps => exact fr_bslice e l zs ps ρ
  | load a n x => exact fr_load a n x ρ
  | store n a x => exact fr_store n a x ρ
  | nilchk x => exact fr_nilchk x ρ
  | bin op k x y => exact fr_bin op k x y ρ
  | un op x => exact fr_un op x ρ
  | conv c x => exact fr_conv c x ρ
  | mkfn f a b => exact fr_mkfn f a b ρ
  | mkmap => exact fr_mkmap ρ
  | mkslice e b zs l c => exact fr_mkslice e b zs l c ρ
  | slice k x a b c => exact fr_slice k x a b c ρ
  | fieldAddr off x => exact fr_fieldAddr off x ρ
  | field a n off x => exact fr_field a n off x ρ
  | idxAddr k x i => exact fr_idxAddr k x i ρ
  | index k x i => exact fr_index k x i ρ
  | lookup a z m k ok => exact fr_lookup a z m k ok ρ
  | mapEntry q z m k => exact fr_mapEntry q z m k ρ
  | entryStore m s x => exact fr_entryStore m s x ρ
  | extract x n => exact fr_extract x n ρ
  | len k x => exact fr_len k x ρ
  | capOf x => exact fr_capOf x ρ
  | append e b s x => exact fr_append e b s x ρ
  | appendZ e b zs s n => exact fr_appendZ e b zs s n ρ
  | copy e d s => exact fr_copy e d s ρ
  | minmax m x xs => exact fr_minmax m x xs ρ
  | call f xs => exact fr_call f xs ρ
  | callv f xs => exact fr_callv f xs ρ
  | fail => exact fr_fail ρ
  | mapSet q m k x => exact fr_mapSet q m k x ρ
  | sliceArr n e x a b c => exact fr_sliceArr n e x a b c ρ
end Go.Vabs
