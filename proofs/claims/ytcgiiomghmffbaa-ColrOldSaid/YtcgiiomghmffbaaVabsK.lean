/- Lemmas for this claim, text K. No condition. -/
import Derived.Test.YtcgiiomghmffbaaVabsM
namespace Go.Vabs
set_option linter.unusedSimpArgs false
set_option linter.unusedVariables false
section
variable {P : Program} {B : Nat} {ι : Map} {st st' : St} {w : World} {a : Act} {o : Oper} {ρ : Src → V} {sr : Operand → Option Src} {r : Res}
theorem optAll_good (hg : Good ι sr ρ a) {l : List Operand} {ss : List Src} (h : optAll sr l = some ss) : All2 (fun s x => R ι (ρ s) (a.eval x)) ss l :=
  optAll_rel (fun x y hxy => hg x y hxy) h
theorem optSrc_good (hg : Good ι sr ρ a) {x : Option Operand} {s : Option Src} (h : optSrc sr x = some s) : OptR ι ρ a s x := by
  cases x with
  | none => cases h; trivial
  | some x =>
    simp only [optSrc, Option.map_eq_some_iff] at h
    obtain ⟨s', h1, rfl⟩ := h
    exact hg _ _ h1
theorem call_sim {c : Go.Call} {ao : AOp} (ho : o.op = .call c) (hg : Good ι sr ρ a) (hrel : Rel ι B st.heap w) (hfr : ∀ i, st.next ≤ i → i < st'.next → ι i = none)
    (hc : compCall P sr c = some ao) (hx : execOp ao ρ st = some (r, st')) (hcall : ∀ g args, r = .enter g args → Callable P g) :
    ∃ ι' w', Sim P B ι st.next st'.next w st'.heap r (Go.execOp a.eval o) ι' w' := by
  unfold compCall at hc
  split at hc
  · rename_i g hcal
    simp only [Option.map_eq_some_iff] at hc
    obtain ⟨ss, h1, rfl⟩ := hc
    exact sim_call ho hcal (optAll_good hg h1) hrel (by cases hx; exact hcall _ _ rfl) hx
  · rename_i x hnf hcal
    split at hc
    · rename_i s ss h1 h2
      cases hc
      exact sim_callv ho hcal (hg _ _ h1) (optAll_good hg h2) hrel hx hcall
    · cases hc
  · cases hc
  · rename_i b hcal
    split at hc
    ·
      rename_i t ts x hts hxs
      split at hc
      · cases hc
      rename_i s hs
      split at hc
      · rename_i hu; cases hc; exact sim_len (k := .str) ho hcal hts hxs hrel (hg _ _ hs) hu hx
      · rename_i e hu; cases hc; exact sim_len (k := .slice) ho hcal hts hxs hrel (hg _ _ hs) ⟨_, hu⟩ hx
      · rename_i u v hu; cases hc; exact sim_len (k := .map) ho hcal hts hxs hrel (hg _ _ hs) ⟨_, _, hu⟩ hx
      · rename_i n e hu; cases hc; exact sim_len (k := .const _) ho hcal hts hxs hrel (hg _ _ hs) (.inl ⟨_, hu⟩) hx
      · rename_i u hu
        split at hc
        · rename_i n e hu2; cases hc; exact sim_len (k := .const _) ho hcal hts hxs hrel (hg _ _ hs) (.inr ⟨_, _, hu, hu2⟩) hx
        · cases hc
      · cases hc
    ·
      rename_i t ts x hts hxs
      split at hc
      · rename_i s e hs hu; cases hc; exact sim_cap ho hcal hts hxs hrel (hg _ _ hs) hu hx
      · cases hc
    ·
      rename_i t u x y hts hxs
      split at hc
      case h_2 => cases hc
      rename_i e s q hu hs hq
      split at hc
      · rename_i n bs z k hn hb hz hu2
        split at hc
        · cases hc
        rename_i hne
        cases hc
        simp only [not_or, Decidable.not_not] at hne
        exact sim_appendZ ho hcal hts hxs hu hu2 hn hb hz hne.2.2 hne.1 hne.2.1 hrel hfr (hg _ _ hs) (hg _ _ hq) hx
      · rename_i n bs z d hni hn hb hz hu2
        split at hc
        · cases hc
        rename_i hne
        cases hc
        simp only [not_or, Decidable.not_not] at hne
        exact sim_append ho hcal hts hxs hu hu2 (fun k hk => by subst hk; exact hni _ rfl) hn hb hz hne.2.2 hne.1 hne.2.1 hrel hfr (hg _ _ hs) (hg _ _ hq) hx
      · cases hc
    ·
      rename_i t ts x y hts hxs
      split at hc
      case h_2 => cases hc
      rename_i e s q hu hs hq
      split at hc
      · rename_i n hn
        split at hc
        · cases hc
        rename_i hne
        cases hc
        exact sim_copy ho hcal hts hxs hu hn hne hrel (hg _ _ hs) (hg _ _ hq) hx
      · cases hc
    · rename_i x xs hxs
      split at hc
      · rename_i s ss hs hss; cases hc; exact sim_minmax (mx := true) ho hcal hxs hrel (hg _ _ hs) (optAll_good hg hss) hx
      · cases hc
    · rename_i x xs hxs
      split at hc
      · rename_i s ss hs hss; cases hc; exact sim_minmax (mx := false) ho hcal hxs hrel (hg _ _ hs) (optAll_good hg hss) hx
      · cases hc
    · cases hc
theorem exec_sim {ao : AOp} (hg : Good ι sr ρ a) (hrel : Rel ι B st.heap w) (hfr : ∀ i, st.next ≤ i → i < st'.next → ι i = none)
    (hc : compOp P sr o.op = some ao) (hx : execOp ao ρ st = some (r, st')) (hcall : ∀ g args, r = .enter g args → Callable P g) :
    ∃ ι' w', Sim P B ι st.next st'.next w st'.heap r (Go.execOp a.eval o) ι' w' := by
  generalize ho : o.op = op at hc
  unfold compOp at hc
  split at hc
  · rename_i x
    simp only [Option.map_eq_some_iff] at hc
    obtain ⟨s, hs, rfl⟩ := hc
    exact sim_mv (.inl ho) hrel (hg _ _ hs) hx
  · rename_i x
    simp only [Option.map_eq_some_iff] at hc
    obtain ⟨s, hs, rfl⟩ := hc
    exact sim_mv (.inr ho) hrel (hg _ _ hs) hx
  · split at hc
    · rename_i h1 h2 h3; cases hc; exact sim_pick ho hrel (hg _ _ h1) (hg _ _ h2) (hg _ _ h3) hx
    · cases hc
  · simp only [Option.map_eq_some_iff] at hc
    obtain ⟨z, hz, rfl⟩ := hc
    exact sim_alloc (ρ := ρ) ho hrel hfr hz hx
  · simp only [Option.map_eq_some_iff] at hc
    obtain ⟨s, hs, rfl⟩ := hc
    exact sim_box ho hrel hfr (hg _ _ hs) hx
  ·
    split at hc
    · rename_i fs z hu hz
      split at hc
      · rename_i places hp
        simp only [Option.map_eq_some_iff] at hc
        obtain ⟨ps, hps, rfl⟩ := hc
        exact sim_build ho hrel hg hz (.inl ⟨_, _, hu, hp, hps⟩) hx
      · cases hc
    · rename_i len e z hu hz
      split at hc
      · rename_i n hn
        simp only [Option.map_eq_some_iff] at hc
        obtain ⟨ps, hps, rfl⟩ := hc
        exact sim_build ho hrel hg hz (.inr ⟨_, _, _, hu, hn, hps⟩) hx
      · cases hc
    · cases hc
  ·
    split at hc
    · rename_i e hu
      split at hc
      · rename_i n z hn hz
        split at hc
        · cases hc
        rename_i hne
        simp only [Option.map_eq_some_iff] at hc
        obtain ⟨ps, hps, rfl⟩ := hc
        simp only [not_or, Decidable.not_not] at hne
        exact sim_bslice ho hu hn hz hne.2.1 hne.1 hne.2.2 hg hps hrel hfr hx
      · cases hc
    · cases hc
  · split at hc
    · rename_i g n s h1 h2 h3; cases hc; exact sim_load ho hrel (hg _ _ h3) h1 h2 hx
    · cases hc
  · split at hc
    · rename_i n s1 s2 h1 h2 h3; cases hc; exact sim_store ho hrel (hg _ _ h2) (hg _ _ h3) h1 hx
    · cases hc
  · simp only [Option.map_eq_some_iff] at hc
    obtain ⟨s, hs, rfl⟩ := hc
    exact sim_nilchk ho hrel (hg _ _ hs) hx
  · split at hc
    · rename_i e s1 s2 h1 h2 h3; cases hc; exact sim_bin ho hrel (hg _ _ h2) (hg _ _ h3) h1 hx
    · cases hc
  · simp only [Option.map_eq_some_iff] at hc
    obtain ⟨s, hs, rfl⟩ := hc
    exact sim_un ho hrel (hg _ _ hs) hx
  ·
    split at hc
    · rename_i c s h1 h2
      cases hc
      unfold compConv at h1
      split at h1
      · rename_i u1 u2; cases h1; exact sim_convInt ho hrel (hg _ _ h2) u1 u2 hx
      · rename_i u1 u2; cases h1; exact sim_convStr ho hrel (hg _ _ h2) u1 u2 hx
      · rename_i e u1 u2
        split at h1
        · rename_i u3
          split at h1
          · cases h1; exact sim_toBytes ho hrel hfr (hg _ _ h2) u1 u2 u3 hx
          · cases h1
        · cases h1
      · rename_i e u1 u2
        split at h1
        · rename_i u3; cases h1; exact sim_toStr' ho hrel (hg _ _ h2) u1 u2 u3 hx
        · cases h1
      · rename_i e0 e u1 u2
        split at h1
        · rename_i hsd
          split at h1
          · rename_i u3; cases h1; exact sim_convSame ho hrel (hg _ _ h2) hsd u1 u2 u3 hx
          · cases h1
        · cases h1
      · cases h1
    · cases hc
  · split at hc
    · rename_i s1 s2 h1 h2; cases hc; exact sim_mkfn ho hrel (optAll_good hg h1) (optAll_good hg h2) hx
    · cases hc
  · cases hc; exact sim_mkmap (ρ := ρ) ho hrel hfr hx
  · split at hc
    · rename_i e s1 s2 hu h1 h2
      split at hc
      · rename_i n bs z hn hb hz
        split at hc
        · cases hc
        rename_i hne
        cases hc
        simp only [not_or, Decidable.not_not] at hne
        exact sim_mkslice ho hu hn hb hz hne.2.2 hne.1 hrel hfr (hg _ _ h1) (hg _ _ h2) hx
      · cases hc
    · cases hc
  ·
    split at hc
    · rename_i d s lo hi mx hu hs h1 h2 h3
      split at hc
      · cases hc
      rename_i hmh
      simp only [Bool.not_eq_true] at hmh
      split at hc
      · cases hc; exact sim_sliceStr ho hrel (hg _ _ hs) (optSrc_good hg h1) (optSrc_good hg h2) (optSrc_good hg h3) hu hx
      · rename_i e
        split at hc
        · rename_i n hn
          split at hc
          · cases hc
          · cases hc; exact sim_sliceSlice ho hrel (hg _ _ hs) (optSrc_good hg h1) (optSrc_good hg h2) (optSrc_good hg h3) hmh hu hn hx
        · cases hc
      · rename_i n e
        split at hc
        · rename_i z hz
          cases hc; exact sim_sliceArr ho hrel (hg _ _ hs) (optSrc_good hg h1) (optSrc_good hg h2) (optSrc_good hg h3) hmh hu hz hx
        · cases hc
      · cases hc
    · cases hc
  · split at hc
    · rename_i fs s hu hs
      split at hc
      · rename_i f hf
        split at hc
        · rename_i n hn; cases hc; exact sim_fieldAddr ho hrel (hg _ _ hs) hu hf hn hx
        · cases hc
      · cases hc
    · cases hc
  · split at hc
    · rename_i fs s hu hs
      split at hc
      · rename_i f hf
        split at hc
        · rename_i g n h1 h2; cases hc; exact sim_field ho hrel (hg _ _ hs) hu hf h1 h2 hx
        · cases hc
      · cases hc
    · cases hc
  · split at hc
    · rename_i n e s j hu hs hj
      split at hc
      · rename_i z hz; cases hc; exact sim_idxArr ho hrel (hg _ _ hs) (hg _ _ hj) hu hz hx
      · cases hc
    · rename_i e s j hu hs hj
      split at hc
      · rename_i z hz
        split at hc
        · cases hc
        · cases hc; exact sim_idxSlice ho hrel (hg _ _ hs) (hg _ _ hj) hu hz hx
      · cases hc
    · cases hc
  · split at hc
    · rename_i n e s j hu hs hj
      split at hc
      · rename_i z g hz hg2; cases hc; exact sim_indexArr ho hrel (hg _ _ hs) (hg _ _ hj) hu hg2 hz hx
      · cases hc
    · rename_i s j hu hs hj; cases hc; exact sim_indexStr ho hrel (hg _ _ hs) (hg _ _ hj) hu hx
    · cases hc
  ·
    split at hc
    · rename_i u e m k hu h1 h2
      split at hc
      · rename_i q z hq hz
        obtain ⟨hp, hc⟩ := sel_some hc
        cases hc
        exact sim_lookup ho hrel (hg _ _ h1) (hg _ _ h2) hu hq hz hp hx
      · cases hc
    · cases hc
  · split at hc
    · rename_i u e m k hu h1 h2
      split at hc
      · rename_i q z hq hz
        obtain ⟨hp, hc⟩ := sel_some hc
        cases hc
        exact sim_mapEntry ho hrel (hg _ _ h1) (hg _ _ h2) hu hq hz hp hx
      · cases hc
    · cases hc
  · split at hc
    · rename_i u e m k x hu h1 h2 h3
      simp only [Option.map_eq_some_iff] at hc
      obtain ⟨q, hq, rfl⟩ := hc
      exact sim_mapSet ho hrel (hg _ _ h1) (hg _ _ h2) (hg _ _ h3) hu hq hx
    · cases hc
  · split at hc
    · rename_i m s x h1 h2 h3; cases hc; exact sim_entryStore ho hrel (hg _ _ h1) (hg _ _ h2) (hg _ _ h3) hx
    · cases hc
  · simp only [Option.map_eq_some_iff] at hc
    obtain ⟨s, hs, rfl⟩ := hc
    exact sim_extract ho hrel (hg _ _ hs) hx
  · exact call_sim ho hg hrel hfr hc hx hcall
  · cases hc; cases hx
  · cases hc; cases hx
  · cases hc
end
end Go.Vabs
