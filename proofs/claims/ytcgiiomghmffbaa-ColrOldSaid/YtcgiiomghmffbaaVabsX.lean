/- Lemmas for this claim, text X. No condition. -/
import Derived.Test.YtcgiiomghmffbaaVabsR
namespace Go.Vabs
set_option linter.unusedSimpArgs false
set_option linter.unusedVariables false
theorem map_congr' {ρ ρ' : Src → V} {l : List Src} (h : ∀ s ∈ l, ρ s = ρ' s) : l.map ρ = l.map ρ' := List.map_congr_left h
theorem fill_congr {ρ ρ' : Src → V} : ∀ {ps : List (Nat × Nat × Src)} {l : List V}, (∀ s ∈ ps.map (fun p => p.2.2), ρ s = ρ' s) → fill ρ ps l = fill ρ' ps l
  | [], l, h => rfl
  | (off, n, x) :: ps, l, h => by
    have h1 : ρ x = ρ' x := h x (by simp)
    have h2 : ∀ l, fill ρ ps l = fill ρ' ps l := fun l => fill_congr fun s hs => h s (List.mem_cons_of_mem _ hs)
    simp only [fill, h1, h2]
theorem opt_congr {ρ ρ' : Src → V} {x : Option Src} (h : ∀ s ∈ optL x, ρ s = ρ' s) : x.map ρ = x.map ρ' := by
  cases x with
  | none => rfl
  | some s => simp [h s (by simp [optL])]
theorem exec_congr (o : AOp) {ρ ρ' : Src → V} (h : ∀ s ∈ o.srcs, ρ s = ρ' s) (st : St) : execOp o ρ st = execOp o ρ' st := by
  cases o with
  | mv x => show ex_mv x ρ st = ex_mv x ρ' st; have h1 := h x (by simp [AOp.srcs]); simp only [ex_mv, h1]
  | pick c a b => show ex_pick c a b ρ st = ex_pick c a b ρ' st; have h1 := h c (by simp [AOp.srcs]); have h2 := h a (by simp [AOp.srcs]); have h3 := h b (by simp [AOp.srcs]); simp only [ex_pick, h1, h2, h3]
  | alloc zs => rfl
  | box x => show ex_box x ρ st = ex_box x ρ' st; have h1 := h x (by simp [AOp.srcs]); simp only [ex_box, h1]
  | build zs ps => show ex_build zs ps ρ st = ex_build zs ps ρ' st; have h1 := fill_congr (l := zs) h; simp only [ex_build, h1]
  | bslice e l zs ps => show ex_bslice e l zs ps ρ st = ex_bslice e l zs ps ρ' st; have h1 := fill_congr (l := repN l zs) h; simp only [ex_bslice, h1]
  | load a n x => show ex_load a n x ρ st = ex_load a n x ρ' st; have h1 := h x (by simp [AOp.srcs]); simp only [ex_load, h1]
  | store n a x => show ex_store n a x ρ st = ex_store n a x ρ' st; have h1 := h a (by simp [AOp.srcs]); have h2 := h x (by simp [AOp.srcs]); simp only [ex_store, h1, h2]
  | nilchk x => show ex_nilchk x ρ st = ex_nilchk x ρ' st; have h1 := h x (by simp [AOp.srcs]); simp only [ex_nilchk, h1]
  | bin op k x y => show ex_bin op k x y ρ st = ex_bin op k x y ρ' st; have h1 := h x (by simp [AOp.srcs]); have h2 := h y (by simp [AOp.srcs]); simp only [ex_bin, h1, h2]
  | un op x => show ex_un op x ρ st = ex_un op x ρ' st; have h1 := h x (by simp [AOp.srcs]); simp only [ex_un, h1]
  | conv c x => show ex_conv c x ρ st = ex_conv c x ρ' st; have h1 := h x (by simp [AOp.srcs]); simp only [ex_conv, h1]
  | mkfn f a b => show ex_mkfn f a b ρ st = ex_mkfn f a b ρ' st; have h1 := map_congr' (l := a) fun s hs => h s (by simp [AOp.srcs, hs]); have h2 := map_congr' (l := b) fun s hs => h s (by simp [AOp.srcs, hs]); simp only [ex_mkfn, h1, h2]
  | mkmap => rfl
  | mkslice e b zs l c => show ex_mkslice e b zs l c ρ st = ex_mkslice e b zs l c ρ' st; have h1 := h l (by simp [AOp.srcs]); have h2 := h c (by simp [AOp.srcs]); simp only [ex_mkslice, h1, h2]
  | slice k x a b c =>
    show ex_slice k x a b c ρ st = ex_slice k x a b c ρ' st
    have h1 := h x (by simp [AOp.srcs])
    have h2 := opt_congr (x := a) fun s hs => h s (by simp [AOp.srcs, hs])
    have h3 := opt_congr (x := b) fun s hs => h s (by simp [AOp.srcs, hs])
    have h4 := opt_congr (x := c) fun s hs => h s (by simp [AOp.srcs, hs])
    simp only [ex_slice, h1, h2, h3, h4]
  | fieldAddr off x => show ex_fieldAddr off x ρ st = ex_fieldAddr off x ρ' st; have h1 := h x (by simp [AOp.srcs]); simp only [ex_fieldAddr, h1]
  | field a n off x => show ex_field a n off x ρ st = ex_field a n off x ρ' st; have h1 := h x (by simp [AOp.srcs]); simp only [ex_field, h1]
  | idxAddr k x i => show ex_idxAddr k x i ρ st = ex_idxAddr k x i ρ' st; have h1 := h x (by simp [AOp.srcs]); have h2 := h i (by simp [AOp.srcs]); simp only [ex_idxAddr, h1, h2]
  | index k x i => show ex_index k x i ρ st = ex_index k x i ρ' st; have h1 := h x (by simp [AOp.srcs]); have h2 := h i (by simp [AOp.srcs]); simp only [ex_index, h1, h2]
  | lookup a z m k ok => show ex_lookup a z m k ok ρ st = ex_lookup a z m k ok ρ' st; have h1 := h m (by simp [AOp.srcs]); have h2 := h k (by simp [AOp.srcs]); simp only [ex_lookup, h1, h2]
  | mapEntry q z m k => show ex_mapEntry q z m k ρ st = ex_mapEntry q z m k ρ' st; have h1 := h m (by simp [AOp.srcs]); have h2 := h k (by simp [AOp.srcs]); simp only [ex_mapEntry, h1, h2]
  | entryStore m s x => show ex_entryStore m s x ρ st = ex_entryStore m s x ρ' st; have h1 := h m (by simp [AOp.srcs]); have h2 := h s (by simp [AOp.srcs]); have h3 := h x (by simp [AOp.srcs]); simp only [ex_entryStore, h1, h2, h3]
  | extract x n => show ex_extract x n ρ st = ex_extract x n ρ' st; have h1 := h x (by simp [AOp.srcs]); simp only [ex_extract, h1]
  | len k x => show ex_len k x ρ st = ex_len k x ρ' st; have h1 := h x (by simp [AOp.srcs]); simp only [ex_len, h1]
  | capOf x => show ex_capOf x ρ st = ex_capOf x ρ' st; have h1 := h x (by simp [AOp.srcs]); simp only [ex_capOf, h1]
  | append e b s x => show ex_append e b s x ρ st = ex_append e b s x ρ' st; have h1 := h s (by simp [AOp.srcs]); have h2 := h x (by simp [AOp.srcs]); simp only [ex_append, h1, h2]
  | appendZ e b zs s n => show ex_appendZ e b zs s n ρ st = ex_appendZ e b zs s n ρ' st; have h1 := h s (by simp [AOp.srcs]); have h2 := h n (by simp [AOp.srcs]); simp only [ex_appendZ, h1, h2]
  | copy e d s => show ex_copy e d s ρ st = ex_copy e d s ρ' st; have h1 := h d (by simp [AOp.srcs]); have h2 := h s (by simp [AOp.srcs]); simp only [ex_copy, h1, h2]
  | minmax m x xs => show ex_minmax m x xs ρ st = ex_minmax m x xs ρ' st; have h1 := h x (by simp [AOp.srcs]); have h2 := map_congr' (l := xs) fun s hs => h s (by simp [AOp.srcs, hs]); simp only [ex_minmax, h1, h2]
  | call f xs => show ex_call f xs ρ st = ex_call f xs ρ' st; have h2 := map_congr' (l := xs) h; simp only [ex_call, h2]
  | callv f xs => show ex_callv f xs ρ st = ex_callv f xs ρ' st; have h1 := h f (by simp [AOp.srcs]); have h2 := map_congr' (l := xs) fun s hs => h s (by simp [AOp.srcs, hs]); simp only [ex_callv, h1, h2]
  | fail => rfl
  | mapSet q m k x => show ex_mapSet q m k x ρ st = ex_mapSet q m k x ρ' st; have h1 := h m (by simp [AOp.srcs]); have h2 := h k (by simp [AOp.srcs]); have h3 := h x (by simp [AOp.srcs]); simp only [ex_mapSet, h1, h2, h3]
  | sliceArr n e x a b c =>
    show ex_sliceArr n e x a b c ρ st = ex_sliceArr n e x a b c ρ' st
    have h1 := h x (by simp [AOp.srcs])
    have h2 := opt_congr (x := a) fun s hs => h s (by simp [AOp.srcs, hs])
    have h3 := opt_congr (x := b) fun s hs => h s (by simp [AOp.srcs, hs])
    have h4 := opt_congr (x := c) fun s hs => h s (by simp [AOp.srcs, hs])
    simp only [ex_sliceArr, h1, h2, h3, h4]
theorem st_conv {c : Conv} {x : Src} {ρ : Src → V} (hc : (AOp.conv c x).still = true) : Still (ex_conv c x ρ) := fun s r s' h => by
  cases c with
  | int k =>
    unfold ex_conv at h ⊢
    split at h
    · rename_i hv; cases h; exact ⟨rfl, fun g => rfl⟩
    · rename_i hh _; cases hh
    · rename_i hh _; cases hh
    · rename_i hh _; cases hh
    · rename_i hh _; cases hh
    · rename_i hh _; cases hh
    · cases h
  | str =>
    unfold ex_conv at h ⊢
    split at h
    · rename_i hh _; cases hh
    · rename_i hv; cases h; exact ⟨rfl, fun g => rfl⟩
    · rename_i hh _; cases hh
    · rename_i hh _; cases hh
    · rename_i hh _; cases hh
    · rename_i hh _; cases hh
    · cases h
  | toBytes => cases hc
  | toStr => cases hc
  | same => cases hc
theorem st_len {k : LenK} {x : Src} {ρ : Src → V} (hc : (AOp.len k x).still = true) : Still (ex_len k x ρ) := fun s r s' h => by
  unfold ex_len at h ⊢
  split at h
  · cases h; exact ⟨rfl, fun g => rfl⟩
  · cases h; exact ⟨rfl, fun g => rfl⟩
  · cases h; exact ⟨rfl, fun g => rfl⟩
  · cases hc
  · cases hc
  · cases h
theorem still_op {o : AOp} (hs : o.still = true) (ρ : Src → V) : Still (execOp o ρ) := by
  cases o with
  | mv x => exact st_mv x ρ
  | pick c a b => exact st_pick c a b ρ
  | build zs ps => exact st_build zs ps ρ
  | nilchk x => exact st_nilchk x ρ
  | bin op k x y => exact st_bin op k x y ρ
  | un op x => exact st_un op x ρ
  | conv c x => exact st_conv hs
  | mkfn f a b => exact st_mkfn f a b ρ
  | slice k x a b c => exact st_slice k x a b c ρ
  | fieldAddr off x => exact st_fieldAddr off x ρ
  | field a n off x => exact st_field a n off x ρ
  | idxAddr k x i => exact st_idxAddr k x i ρ
  | index k x i => exact st_index k x i ρ
  | extract x n => exact st_extract x n ρ
  | len k x => exact st_len hs
  | capOf x => exact st_capOf x ρ
  | minmax m x xs => exact st_minmax m x xs ρ
  | _ => cases hs
end Go.Vabs
