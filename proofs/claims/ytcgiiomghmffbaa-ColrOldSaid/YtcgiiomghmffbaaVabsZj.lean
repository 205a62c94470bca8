/- Lemmas for this claim, text Zj. No condition. -/
import Derived.Test.YtcgiiomghmffbaaVabsZd
import Derived.OpenShut
import Derived.ChangeArms
import Derived.SizedLaws
import Derived.Test.YtcgiiomghmffbaaVabsZ
namespace Go.Vabs
set_option linter.unusedSimpArgs false
set_option linter.unusedVariables false
section
variable {call : CallT} {s : Env} {st : St}
theorem step_mkmap : stepE call .mkmap s st = newV (fun j => .map (some j)) (st.alloc (.map true [] 0)) := by
  show (match ex_mkmap s.ev st with | some (.val v, st') => _ | some (.enter g args, st') => _ | none => _) = _
  unfold ex_mkmap
  cases st.alloc (.map true [] 0) <;> rfl
noncomputable def lookupV (st : St) (q : Option IntKind) (zero m k : V) (ok : Bool) : Option V :=
  sel (keyIs q k) (match mapOf st m with
  | some es => (match findKey k es 0 with
    | some (some (_, v, _)) => some (sel ok (.tuple [v, .bool true]) v)
    | some none => some (sel ok (.tuple [zero, .bool false]) zero)
    | none => none)
  | none => none) none
theorem step_lookup {q : Option IntKind} {zero : V} {m k : Src} {ok : Bool} : stepE call (.lookup q zero m k ok) s st = okv (lookupV st q zero (s.ev m) (s.ev k) ok) st := by
  refine step_of ?_
  show ex_lookup q zero m k ok s.ev st = _
  unfold ex_lookup lookupV
  cases keyIs q (s.ev k) with
  | false => rfl
  | true =>
    simp only [sel_true]
    cases mapOf st (s.ev m) with
    | none => rfl
    | some es =>
      dsimp only
      cases findKey (s.ev k) es 0 with
      | none => rfl
      | some r => cases r <;> rfl
noncomputable def entryV (st : St) (q : Option IntKind) (zero m k : V) : Option (V × St) :=
  sel (keyIs q k) (match m with
  | .map (some i) => match st.get i with
    | some (.map true es clock) => match findKey k es 0 with
      | some (some (_, v, born)) => some (.tuple [v, .int .i64 (.ofNat born)], st)
      | some none => match st.set i (some (.map true (es ++ [(k, zero, clock)]) (clock + 1))) with
        | some st' => some (.tuple [zero, .int .i64 (.ofNat clock)], st')
        | none => none
      | none => none
    | _ => none
  | _ => none) none
theorem step_mapEntry {q : Option IntKind} {zero : V} {m k : Src} : stepE call (.mapEntry q zero m k) s st = entryV st q zero (s.ev m) (s.ev k) := by
  show (match ex_mapEntry q zero m k s.ev st with | some (.val v, st') => some (v, st') | some (.enter g args, st') => call g args st' | none => none) = _
  unfold ex_mapEntry entryV
  cases keyIs q (s.ev k) with
  | false => rfl
  | true =>
    simp only [sel_true]
    cases s.ev m <;> try rfl
    rename_i p
    cases p with
    | none => rfl
    | some i =>
      dsimp only
      cases st.get i with
      | none => rfl
      | some o =>
        cases o with
        | cells own cs => rfl
        | map own es c =>
          cases own with
          | false => rfl
          | true =>
            dsimp only
            cases findKey (s.ev k) es 0 with
            | none => rfl
            | some r =>
              cases r with
              | some r => rfl
              | none =>
                dsimp only
                cases st.set i (some (.map true (es ++ [(s.ev k, zero, c)]) (c + 1))) <;> rfl
noncomputable def estoreV (st : St) (m : V) (n : Option Nat) (x : V) : Option (V × St) :=
  match m, n with
  | .map (some i), some born => match st.get i with
    | some (.map true es clock) => match setBorn born x es with
      | some es' => sel x.plain (match st.set i (some (.map true es' clock)) with | some st' => some (V.undef, st') | none => none) none
      | none => none
    | _ => none
  | _, _ => none
theorem step_entryStore {m b x : Src} : stepE call (.entryStore m b x) s st = estoreV st (s.ev m) (natOf (s.ev b)) (s.ev x) := by
  show (match ex_entryStore m b x s.ev st with | some (.val v, st') => some (v, st') | some (.enter g args, st') => call g args st' | none => none) = _
  unfold ex_entryStore estoreV
  cases s.ev m <;> try rfl
  rename_i p
  cases natOf (s.ev b) with
  | none => cases p <;> rfl
  | some n =>
    cases p with
    | none => rfl
    | some i =>
      dsimp only
      cases st.get i with
      | none => rfl
      | some o =>
        cases o with
        | cells own cs => rfl
        | map own es c =>
          cases own with
          | false => rfl
          | true =>
            dsimp only
            cases setBorn n (s.ev x) es with
            | none => rfl
            | some es' =>
              dsimp only
              cases (s.ev x).plain with
              | false => rfl
              | true =>
                simp only [sel_true]
                cases st.set i (some (.map true es' c)) <;> rfl
end
noncomputable def entsF : Nat → List (List Nat × V) → List (V × V × Nat)
  | _, [] => []
  | n, kv :: l => (.str kv.1, kv.2, n) :: entsF (n + 1) l
theorem entsF_snoc : ∀ (l : List (List Nat × V)) (n : Nat) (kv : List Nat × V), entsF n (l ++ [kv]) = entsF n l ++ [(V.str kv.1, kv.2, n + l.length)]
  | [], n, kv => rfl
  | x :: l, n, kv => by
    show _ :: entsF (n + 1) (l ++ [kv]) = _ :: (entsF (n + 1) l ++ _)
    rw [entsF_snoc l (n + 1) kv]
    simp only [List.length_cons]
    rw [show n + 1 + l.length = n + (l.length + 1) from by omega]
theorem find_no {t : List Nat} : ∀ (l : List (List Nat × V)) (n i : Nat), (∀ kv ∈ l, kv.1 ≠ t) → findKey (.str t) (entsF n l) i = some none
  | [], n, i, _ => rfl
  | x :: l, n, i, h => by
    show (match some (eqS x.1 t) with | some true => _ | some false => findKey (.str t) (entsF (n + 1) l) (i + 1) | none => none) = _
    rw [eqS_eq, decide_eq_false (h x (List.mem_cons_self ..))]
    exact find_no l (n + 1) (i + 1) fun kv hk => h kv (List.mem_cons_of_mem _ hk)
theorem find_at {t : List Nat} {v : V} : ∀ (l : List (List Nat × V)) (n i k : Nat), l[k]? = some (t, v) → (∀ j, j < k → ∀ kv, l[j]? = some kv → kv.1 ≠ t) → findKey (.str t) (entsF n l) i = some (some (i + k, v, n + k))
  | [], n, i, k, h, _ => by cases h
  | x :: l, n, i, 0, h, _ => by
    have h : x = (t, v) := by simpa using h
    subst h
    show (match some (eqS t t) with | some true => some (some (i, v, n)) | some false => findKey (.str t) (entsF (n + 1) l) (i + 1) | none => none) = _
    rw [eqS_eq, decide_eq_true rfl]
    rfl
  | x :: l, n, i, k + 1, h, hne => by
    show (match some (eqS x.1 t) with | some true => some (some (i, x.2, n)) | some false => findKey (.str t) (entsF (n + 1) l) (i + 1) | none => none) = _
    rw [eqS_eq, decide_eq_false (hne 0 (Nat.succ_pos k) x rfl)]
    show findKey (.str t) (entsF (n + 1) l) (i + 1) = _
    rw [find_at l (n + 1) (i + 1) k (by simpa using h) fun j hj kv hkv => hne (j + 1) (by omega) kv (by simpa using hkv)]
    rw [show i + 1 + k = i + (k + 1) from by omega, show n + 1 + k = n + (k + 1) from by omega]
theorem setBorn_last {x y : V} {t : List Nat} : ∀ (l : List (List Nat × V)) (n : Nat), setBorn (n + l.length) y (entsF n l ++ [(V.str t, x, n + l.length)]) = some (entsF n l ++ [(V.str t, y, n + l.length)])
  | [], n => by
    show sel (Nat.beq n n) _ _ = _
    rw [Nat.beq_refl]; rfl
  | z :: l, n => by
    have hn : Nat.beq n (n + (z :: l).length) = false := by
      cases hb : Nat.beq n (n + (z :: l).length) with
      | false => rfl
      | true => rw [Nat.beq_eq] at hb; simp only [List.length_cons] at hb; omega
    show sel (Nat.beq n (n + (z :: l).length)) _ (match setBorn (n + (z :: l).length) y (entsF (n + 1) l ++ [(V.str t, x, n + (z :: l).length)]) with | some r => some ((V.str z.1, z.2, n) :: r) | none => none) = _
    rw [hn]
    have := setBorn_last (x := x) (y := y) (t := t) l (n + 1)
    rw [show n + 1 + l.length = n + (z :: l).length from by simp only [List.length_cons]; omega] at this
    show (match setBorn (n + (z :: l).length) y (entsF (n + 1) l ++ [(V.str t, x, n + (z :: l).length)]) with | some r => some ((V.str z.1, z.2, n) :: r) | none => none) = _
    rw [this]
    rfl
theorem mapOf_few {os : List (Option AObj)} {i c : Nat} {own : Bool} {es : List (V × V × Nat)} (h : (os[i]?).join = some (.map own es c)) : mapOf (few os) (.map (some i)) = some es := by
  unfold mapOf
  dsimp only
  rw [few_get, h]
theorem entry_few {os : List (Option AObj)} {i : Nat} {kvs : List (List Nat × V)} {t : List Nat} {zero : V} (h : (os[i]?).join = some (.map true (entsF 0 kvs) kvs.length)) (hne : ∀ kv ∈ kvs, kv.1 ≠ t) :
    entryV (few os) none zero (.map (some i)) (.str t) = some (.tuple [zero, .int .i64 (kvs.length : Int)], few (os.set i (some (.map true (entsF 0 (kvs ++ [(t, zero)])) (kvs.length + 1))))) := by
  unfold entryV
  show sel true _ _ = _
  rw [sel_true]
  dsimp only
  rw [few_get, h]
  dsimp only
  rw [find_no kvs 0 0 hne]
  dsimp only
  rw [few_set h, entsF_snoc, Nat.zero_add]
  rfl
theorem estore_few {os : List (Option AObj)} {i : Nat} {kvs : List (List Nat × V)} {t : List Nat} {z x : V} (h : (os[i]?).join = some (.map true (entsF 0 (kvs ++ [(t, z)])) (kvs.length + 1))) (hp : x.plain = true) :
    estoreV (few os) (.map (some i)) (some kvs.length) x = some (V.undef, few (os.set i (some (.map true (entsF 0 (kvs ++ [(t, x)])) (kvs.length + 1))))) := by
  unfold estoreV
  dsimp only
  rw [few_get, h]
  dsimp only
  have := setBorn_last (x := z) (y := x) (t := t) kvs 0
  rw [Nat.zero_add] at this
  rw [entsF_snoc, Nat.zero_add]
  dsimp only
  rw [this]
  dsimp only
  rw [hp, sel_true, few_set h, entsF_snoc, Nat.zero_add]
def MonoN (spec : Nat → Sight → List V → Option Ans) : Prop := ∀ n, Mono (spec n)
noncomputable def sightRdN (spec : Nat → Sight → List V → Option Ans) : List V → St → Option Ans := fun args st => if goods st.next args = true then spec st.next st.look args else none
theorem sightRdN_reads {spec : Nat → Sight → List V → Option Ans} (hm : MonoN spec) : Reads (sightRdN spec) := by
  intro args s s' g a h he
  unfold sightRdN at h ⊢
  split at h
  · rename_i hg
    rw [he.next, if_pos hg]
    exact hm _ _ _ _ _ (fun i o ho => look_ext he ho) h
  · cases h
theorem Sound.sightN {P : Program} {call : CallT} (hmix : P.follows .mixedOrders = true) (h : Sound P call) {g : Nat} {fn : AFunc} (lf : Nat) (hc : compF P g = some fn) {spec : Nat → Sight → List V → Option Ans} (hm : MonoN spec)
    (hrun : ∀ (os : List (Option AObj)) args new f, goods os.length args = true → spec os.length (few os).look args = some (new, f) →
      ∃ s1 v0 σ, enterF call lf args (few os) fn = some (v0, s1) ∧ Left (wayId os.length) os.length (few os) s1 v0 new σ (f os.length)) : Sound P (Vabs.withL call g (lawOf (sightRdN spec))) := by
  refine (h.withL (h.withF hmix lf hc) (sightRdN_reads hm) fun args st os f hx => ?_)
  unfold sightRdN at hx
  split at hx
  · rename_i hg
    obtain ⟨s1, v0, σ, h1, h2⟩ := hrun (frozen st) args os f (by rw [frozen_len]; exact hg) (by rw [frozen_len, frozen_look]; exact hx)
    refine ⟨wayId st.next, args, few (frozen st), s1, v0, σ, by rw [withF_same]; exact h1, seen_frozen hg, ?_⟩
    rw [frozen_len] at h2
    exact h2
  · cases hx
theorem sightN_call {call : CallT} {g : Nat} {spec : Nat → Sight → List V → Option Ans} {args : List V} {st : St} (hg : goods st.next args = true) :
    withL call g (lawOf (sightRdN spec)) g args st = lawOut (spec st.next st.look args) st := by
  rw [withL_same]
  show lawOut (sightRdN spec args st) st = _
  unfold sightRdN
  rw [if_pos hg]
theorem allocL_few : ∀ (new : List AObj) (os : List (Option AObj)), allocL new (few os) = some (few (os ++ new.map some))
  | [], os => by simp [allocL]
  | o :: new, os => by
    show (match (few os).alloc o with | some (_, s) => allocL new s | none => none) = _
    rw [few_alloc]
    dsimp only
    rw [allocL_few new, List.append_assoc]
    rfl
theorem lawOut_few {new : List AObj} {f : Nat → V} {os : List (Option AObj)} : lawOut (some (new, f)) (few os) = some (f os.length, few (os ++ new.map some)) := by
  show (match allocL new (few os) with | some st' => some (f (few os).next, st') | none => none) = _
  rw [allocL_few]
  rfl
end Go.Vabs

namespace Go.Vabs
set_option linter.unusedVariables false
set_option linter.unusedSimpArgs false
section
variable {H : Type} {enc : TypeId × Value → H} {P : Program} {w : World} {base : Nat} {spare : Nat → Bool} {held : Bool}
theorem open_nums {n : Nat} {t e : TypeId} {k : IntKind} {r : Reach} {b0 : Nat} {v : Value} {d : DataW H} {ps : List MemPlace} (ht : P.underlying t = some (.array n e)) (he : P.underlying e = some (.int k)) (hc : P.cellsOf e = 1) (hct : P.cellsOf t = n)
    (hval : Value.okWide P w r b0 t v) (hd : DataW.Trod enc P w base spare held t v d ps) : ∃ ns : List Int, v = .agg (ns.map (Value.int k)).toArray ∧ ns.length = n ∧ ∀ x ∈ ns, (Lit.int k x).wf = true := by
  unfold Value.okWide at hval
  rw [ht] at hval
  obtain ⟨cs, rfl, hsz, _⟩ := hval
  obtain ⟨fuel, hf⟩ := hd
  obtain ⟨xs, m, _, _, hl, hxl, hx⟩ := DataW.trod_array ht hf
  have hcells : (Value.agg cs).cells.toList = cs.toList := rfl
  rw [hcells] at hl hx
  have hat : ∀ i, i < n → ∃ x, cs.toList[i]? = some (.int k x) ∧ (Lit.int k x).wf = true := fun i hi => by
    have h1 := hx i hi
    rw [List.getElem?_eq_getElem (by omega)] at h1
    obtain ⟨x, h2, _, h3⟩ := DataW.trod_int he h1
    rw [hc, Nat.mul_one] at h2
    refine ⟨x, ?_, h3⟩
    have h4 : ((cs.toList.drop i).take 1)[0]? = some (.int k x) := by rw [h2]; rfl
    rw [List.getElem?_take_of_lt (by omega), List.getElem?_drop, Nat.add_zero] at h4
    exact h4
  have hlen : cs.toList.length = n := by rw [hl, hct]
  let ns : List Int := cs.toList.map fun v => match v with | .int _ x => x | _ => 0
  have hns : cs.toList = ns.map (Value.int k) := by
    refine List.ext_getElem? fun i => ?_
    by_cases hi : i < n
    · obtain ⟨x, h1, _⟩ := hat i hi
      simp only [ns, List.map_map, List.getElem?_map, h1]
      rfl
    · rw [List.getElem?_eq_none (by omega), List.getElem?_eq_none (by simp only [ns, List.length_map]; omega)]
  refine ⟨ns, ?_, by simp only [ns, List.length_map]; exact hlen, fun x hm => ?_⟩
  · rw [← hns]
  · obtain ⟨i, hi, hxi⟩ := List.mem_iff_getElem.1 hm
    have hi' : i < n := by simp only [ns, List.length_map] at hi; omega
    obtain ⟨y, h1, h2⟩ := hat i hi'
    have h3 : ns[i]? = some y := by simp only [ns, List.getElem?_map, h1]; rfl
    rw [List.getElem?_eq_getElem hi, hxi] at h3
    cases h3
    exact h2
end
end Go.Vabs

namespace Go.Vabs
set_option linter.unusedVariables false
set_option linter.unusedSimpArgs false
universe u
section
variable {α : Type u}
variable {w : α → List V} {k : Nat}
section
variable {os : List (Option AObj)} {i : Nat} {own : Bool} {l : List α} {j : Nat} {a : α}
end
end
end Go.Vabs

namespace Go.Vabs
set_option linter.unusedVariables false
set_option linter.unusedSimpArgs false
universe u
theorem joinLt {os : List (Option AObj)} {i : Nat} {o : AObj} (h : (os[i]?).join = some o) : i < os.length := by
  rcases Nat.lt_or_ge i os.length with h1 | h1
  · exact h1
  · rw [List.getElem?_eq_none h1] at h; cases h
theorem joinApp {os l : List (Option AObj)} {i : Nat} (h : i < os.length) : ((os ++ l)[i]?).join = (os[i]?).join := by rw [List.getElem?_append_left h]
theorem joinEnd {os : List (Option AObj)} {o : Option AObj} : ((os ++ [o])[os.length]?).join = o := by simp
section
variable {α : Type u} {w : α → List V} {k : Nat}
variable {os : List (Option AObj)} {N : Nat} {v : V} {l : List α}
end
section
variable {α : Type u} {w : α → List V} {k : Nat} {os : List (Option AObj)} {v : V} {l : List α}
end
end Go.Vabs

namespace Go.Vabs
set_option linter.unusedVariables false
set_option linter.unusedSimpArgs false
structure Mem (W : World) (os : List (Option AObj)) (ι : Map) : Prop where
  obj : ∀ i o, (os[i]?).join = some o → ∃ cs e, o = .cells false cs ∧ ι i = some e ∧ e.blk < W.heap.size ∧ ∀ k v, cs[k]? = some v → ∃ v', W.cell? ⟨e.blk, e.off + k, none⟩ = some v' ∧ R1 ι v v'
  new : ∀ i, os.length ≤ i → ι i = none
structure More (os os' : List (Option AObj)) : Prop where
  le : os.length ≤ os'.length
  obj : ∀ i, i < os.length → (os'[i]?).join = (os[i]?).join
theorem More.refl (os : List (Option AObj)) : More os os := ⟨Nat.le_refl _, fun _ _ => rfl⟩
theorem More.trans {a b c : List (Option AObj)} (h : More a b) (k : More b c) : More a c := ⟨Nat.le_trans h.le k.le, fun i hi => by rw [k.obj i (by have := h.le; omega), h.obj i hi]⟩
theorem More.snoc (os : List (Option AObj)) (o : Option AObj) : More os (os ++ [o]) := ⟨by simp, fun i hi => joinApp hi⟩
theorem Mem.nil (W : World) : Mem W [] (fun _ => none) := ⟨fun i o h => by simp at h, fun _ _ => rfl⟩
theorem Mem.add {W : World} {os : List (Option AObj)} {ι : Map} (h : Mem W os ι) {cs : List V} {e : Entry} (hb : e.blk < W.heap.size) (hc : ∀ k v, cs[k]? = some v → ∃ v', W.cell? ⟨e.blk, e.off + k, none⟩ = some v' ∧ R1 ι v v') :
    Mem W (os ++ [some (.cells false cs)]) (upd ι os.length e) ∧ Sub ι (upd ι os.length e) := by
  have hs : Sub ι (upd ι os.length e) := sub_upd (h.new _ (Nat.le_refl _))
  refine ⟨⟨fun i o hi => ?_, fun i hi => ?_⟩, hs⟩
  · by_cases hl : i < os.length
    · rw [joinApp hl] at hi
      obtain ⟨cs', e', h1, h2, h3, h4⟩ := h.obj i o hi
      refine ⟨cs', e', h1, hs _ _ h2, h3, fun k v hk => ?_⟩
      obtain ⟨v', h5, h6⟩ := h4 k v hk
      exact ⟨v', h5, h6.mono hs⟩
    · have hi' := joinLt hi
      simp only [List.length_append, List.length_cons, List.length_nil] at hi'
      have e1 : i = os.length := by omega
      subst e1
      rw [joinEnd] at hi
      cases hi
      refine ⟨cs, e, rfl, upd_same _ _ _, hb, fun k v hk => ?_⟩
      obtain ⟨v', h5, h6⟩ := hc k v hk
      exact ⟨v', h5, h6.mono hs⟩
  · simp only [List.length_append, List.length_cons, List.length_nil] at hi
    rw [upd_other (by omega)]
    exact h.new i (by omega)
theorem Sound.law_mem {P : Program} {call : CallT} (h : Sound P call) {g : Nat} {W : World} {os : List (Option AObj)} {ι : Map} (hm : Mem W os ι) {args : List V} {args' : List Value} (hargs : All2 (R ι) args args')
    (hrun : ∃ s1, call g args (few os) = some (.bool true, s1)) : Calls P g args'.toArray W fun e W' => e = .returned (.bool true) ∧ Go.RowKit.Below W.heap.size W W' := by
  obtain ⟨s1, hs⟩ := hrun
  refine h.law hs (few_neat _) (ι := ι) ⟨Nat.le_refl _, fun i o hi => ?_, fun i j o o' e1 e2 hi hj ho => ?_⟩ (fun i hi => hm.new i hi) hargs
  · rw [few_heap] at hi
    obtain ⟨cs, e, rfl, h2, h3, h4⟩ := hm.obj i o hi
    exact ⟨e, h2, h3, h3, h4⟩
  · rw [few_heap] at hi
    obtain ⟨cs, e, rfl, _⟩ := hm.obj i o hi
    cases ho
structure Codec (α : Type) where
  w : Nat
  shows : List (Option AObj) → List V → α → Prop
  ok : α → Prop
  len : ∀ {os us a}, shows os us a → us.length = w
  mono : ∀ {os os' us a}, More os os' → shows os us a → shows os' us a
def cInt (k : IntKind) : Codec Int := ⟨1, fun _ us n => us = [.int k n], fun n => (Lit.int k n).wf = true, fun h => by rw [h]; rfl, fun _ h => h⟩
def cBool : Codec Bool := ⟨1, fun _ us b => us = [.bool b], fun _ => True, fun h => by rw [h]; rfl, fun _ h => h⟩
def cPair {α β : Type} (c : Codec α) (d : Codec β) : Codec (α × β) :=
  ⟨c.w + d.w, fun os us x => ∃ u1 u2, us = u1 ++ u2 ∧ c.shows os u1 x.1 ∧ d.shows os u2 x.2, fun x => c.ok x.1 ∧ d.ok x.2, fun ⟨u1, u2, h, h1, h2⟩ => by rw [h, List.length_append, c.len h1, d.len h2], fun he ⟨u1, u2, h, h1, h2⟩ => ⟨u1, u2, h, c.mono he h1, d.mono he h2⟩⟩
def ShowsRow {α : Type} (c : Codec α) (os : List (Option AObj)) (v : V) (l : List α) : Prop :=
  (l = [] ∧ v = .slice none c.w 0 0 false) ∨
  (∃ i cs, v = .slice (some (i, 0)) c.w l.length l.length false ∧ (os[i]?).join = some (.cells false cs) ∧ cs.length = l.length * c.w ∧ ∀ (j : Nat) (a : α), l[j]? = some a → c.shows os ((cs.drop (j * c.w)).take c.w) a)
theorem ShowsRow.mono {α : Type} {c : Codec α} {os os' : List (Option AObj)} {v : V} {l : List α} (he : More os os') (h : ShowsRow c os v l) : ShowsRow c os' v l := by
  rcases h with h | ⟨i, cs, h2, h3, h4, h5⟩
  · exact .inl h
  · exact .inr ⟨i, cs, h2, by rw [he.obj i (joinLt h3)]; exact h3, h4, fun j a hj => c.mono he (h5 j a hj)⟩
def cRow {α : Type} (c : Codec α) (B : Nat) : Codec (List α) :=
  ⟨1, fun os us l => ∃ v, us = [v] ∧ ShowsRow c os v l, fun l => (∀ a ∈ l, c.ok a) ∧ l.length * B ≤ 140737488351232, fun ⟨v, h, _⟩ => by rw [h]; rfl, fun he ⟨v, h, k⟩ => ⟨v, h, k.mono he⟩⟩
def Opens {α : Type} (P : Program) (t : TypeId) (c : Codec α) : Prop :=
  ∀ {H : Type} {enc : TypeId × Value → H} {W : World} {base : Nat} {held : Bool} {fuel : Nat} {cs : List Value} {x : DataW H × List MemPlace}, DataW.trod enc P W base (fun _ => true) held fuel t cs = some x → (x.1.weights P t).all (· ≤ reachBytes) = true → 0 < W.heap.size →
    ∀ {os : List (Option AObj)} {ι : Map}, Mem W os ι → ∃ os' ι' us a, Mem W os' ι' ∧ Sub ι ι' ∧ More os os' ∧ All2 (R1 ι') us cs ∧ c.shows os' us a ∧ c.ok a
theorem opens_int {P : Program} {t : TypeId} {k : IntKind} (ht : P.underlying t = some (.int k)) : Opens P t (cInt k) := by
  intro H enc W base held fuel cs x h _ _ os ι hm
  obtain ⟨n, rfl, _, h2⟩ := DataW.trod_int ht h
  exact ⟨os, ι, [.int k n], n, hm, Sub.refl _, More.refl _, ⟨rfl, trivial⟩, rfl, h2⟩
theorem opens_bool {P : Program} {t : TypeId} (ht : P.underlying t = some .bool) : Opens P t cBool := by
  intro H enc W base held fuel cs x h _ _ os ι hm
  obtain ⟨n, rfl, _⟩ := DataW.trod_bool ht h
  exact ⟨os, ι, [.bool n], n, hm, Sub.refl _, More.refl _, ⟨rfl, trivial⟩, rfl, trivial⟩
theorem weights_all {H : Type} {P : Program} {e : TypeId} {l : List (DataW H)} (h : (DataW.weightsAll P e l).all (· ≤ reachBytes) = true) : ∀ d ∈ l, (d.weights P e).all (· ≤ reachBytes) = true := by
  induction l with
  | nil => intro d hd; cases hd
  | cons a l ih =>
    simp only [DataW.weightsAll, List.all_append, Bool.and_eq_true] at h
    intro d hd
    rcases List.mem_cons.1 hd with rfl | hd
    · exact h.1
    · exact ih h.2 d hd
theorem cells_at {w : World} {base n k m : Nat} {a : Addr} (hs : a.spot = none) {cs : List Value} (h : w.cells? base (a.add m) n = some cs) (hk : k < n) : w.cell? ⟨a.block, a.off + (m + k), none⟩ = cs[k]? := by
  have h1 := (World.cells?_some h).2.2 k hk
  rw [← h1]
  congr 1
  cases a with
  | mk b o s =>
    cases hs
    unfold Addr.add
    by_cases hm : m = 0
    · subst hm
      by_cases hk0 : k = 0
      · subst hk0; simp
      · simp [hk0]
    · by_cases hk0 : k = 0
      · subst hk0; simp [hm]
      · simp [hm, hk0, Nat.add_assoc]
theorem cells_spot {w : World} {base n m : Nat} {a : Addr} {cs : List Value} (h : w.cells? base a n = some cs) (hn : 0 < n) : a.spot = none ∧ a.block < w.heap.size := by
  obtain ⟨_, h1, h2⟩ := World.cells?_some h
  have h3 := h2 0 hn
  rw [List.getElem?_eq_getElem (by omega)] at h3
  have e : a.add 0 = a := rfl
  rw [e] at h3
  unfold World.cell? at h3
  split at h3
  · rename_i hb
    split at h3
    · cases h3
    · rename_i hs
      refine ⟨?_, (Array.getElem?_eq_some_iff.1 hb).1⟩
      cases hsp : a.spot with
      | none => rfl
      | some s => rw [hsp] at hs; simp at hs
  · cases h3
theorem drop_take_append {α : Type} {l l' : List α} {j w : Nat} (h : j + w ≤ l.length) : ((l ++ l').drop j).take w = (l.drop j).take w := by
  rw [List.drop_append_of_le_length (by omega), List.take_append_of_le_length (by rw [List.length_drop]; omega)]
theorem opens_row {P : Program} {t e : TypeId} {α : Type} {c : Codec α} {B : Nat} (ht : P.underlying t = some (.slice e)) (hw : P.cellsOf e = c.w) (hB : P.bytesOf e = B) (hpos : 0 < c.w) (he : Opens P e c) : Opens P t (cRow c B) := by
  intro H enc W base held fuel cs x h hsz hz os ι hm
  rcases DataW.trod_slice ht h with ⟨rfl, _⟩ | ⟨a, len, cap, elems, rest, n, _, rfl, hx, hb, hl, hmx, hlen, hel, hsp, _⟩
  · exact ⟨os, ι, [.slice none c.w 0 0 false], [], hm, Sub.refl _, More.refl _, ⟨⟨rfl, rfl, rfl⟩, trivial⟩, ⟨_, rfl, .inl ⟨rfl, rfl⟩⟩, (fun a ha => by cases ha), by simp⟩
  · obtain ⟨hr1, hr2⟩ := hsp rfl
    rw [hx] at hsz
    simp only [DataW.weights, ht, List.all_cons, List.all_append, Bool.and_eq_true] at hsz
    obtain ⟨hs1, hs2, _⟩ := hsz
    have hs2 := weights_all hs2
    have hs1 : (elems.length + rest.length) * P.bytesOf e ≤ reachBytes := by simpa using hs1
    rw [hB, hlen] at hs1
    have hbound : len * B ≤ 140737488351232 := Nat.le_trans (Nat.mul_le_mul_right _ (by omega)) (Nat.le_trans hs1 (by decide))
    rw [hw] at hel hr2
    have hspot : cap ≠ 0 → a.spot = none ∧ a.block < W.heap.size := by
      intro hc
      by_cases h0 : 0 < len
      · have h1 := hel 0 h0
        rw [List.getElem?_eq_getElem (by omega)] at h1
        obtain ⟨cs0, h2, _⟩ := Option.bind_eq_some_iff.1 h1
        rw [Nat.zero_mul] at h2
        exact cells_spot (m := 0) h2 hpos
      · have h1 := hr2 0 (by omega)
        rw [List.getElem?_eq_getElem (by omega)] at h1
        obtain ⟨cs0, h2, _⟩ := Option.bind_eq_some_iff.1 h1
        have e0 : (len + 0) * c.w = 0 := by rw [show len + 0 = 0 from by omega, Nat.zero_mul]
        rw [e0] at h2
        exact cells_spot (m := 0) h2 hpos
    by_cases h0 : len = 0
    · obtain ⟨e0, he0, hbl⟩ : ∃ e0 : Entry, (cap = 0 ∨ (a = ⟨e0.blk, e0.off + 0, none⟩ ∧ 0 + cap * c.w ≤ e0.tot)) ∧ e0.blk < W.heap.size := by
        by_cases hc : cap = 0
        · exact ⟨⟨0, 0, 0⟩, .inl hc, hz⟩
        · obtain ⟨hs, hb⟩ := hspot hc
          refine ⟨⟨a.block, a.off, cap * c.w⟩, .inr ⟨?_, by show 0 + cap * c.w ≤ cap * c.w; omega⟩, hb⟩
          cases a with | mk b o s => cases hs; rfl
      obtain ⟨h1, h2⟩ := hm.add (cs := []) hbl (fun k v hk => by simp at hk)
      refine ⟨_, _, [.slice (some (os.length, 0)) c.w 0 0 false], [], h1, h2, More.snoc _ _, ⟨?_, trivial⟩, ⟨_, rfl, .inr ⟨os.length, [], rfl, joinEnd, by simp, fun j b hj => by simp at hj⟩⟩, (fun a ha => by cases ha), by simp⟩
      exact ⟨e0, a, cap, upd_same _ _ _, by rw [h0], Nat.le_refl _, Nat.zero_le _, (fun h => by cases h), he0⟩
    · obtain ⟨hs, hblk⟩ := hspot (by omega)
      have main : ∀ j, j ≤ len → ∃ os' ι', ∃ us : List V, ∃ l : List α, Mem W os' ι' ∧ Sub ι ι' ∧ More os os' ∧ us.length = j * c.w ∧ l.length = j ∧ (∀ k v, us[k]? = some v → ∃ v', W.cell? ⟨a.block, a.off + k, none⟩ = some v' ∧ R1 ι' v v') ∧
          (∀ (i : Nat) (d : α), l[i]? = some d → c.shows os' ((us.drop (i * c.w)).take c.w) d) ∧ ∀ d ∈ l, c.ok d := by
        intro j
        induction j with
        | zero => intro _; exact ⟨os, ι, [], [], hm, Sub.refl _, More.refl _, by simp, rfl, (fun k v hk => by simp at hk), (fun i d hi => by simp at hi), fun d hd => by cases hd⟩
        | succ j ih =>
          intro hj
          obtain ⟨os1, ι1, us, l, m1, s1, x1, u1, l1, c1, d1, k1⟩ := ih (by omega)
          have h1 := hel j (by omega)
          rw [List.getElem?_eq_getElem (by omega)] at h1
          obtain ⟨cs0, h2, h3⟩ := Option.bind_eq_some_iff.1 h1
          obtain ⟨os2, ι2, us2, d, m2, s2, x2, r2, sh2, ok2⟩ := he h3 (hs2 _ (List.mem_map.2 ⟨_, List.getElem_mem (by omega), rfl⟩)) hz m1
          have hu2 := c.len sh2
          refine ⟨os2, ι2, us ++ us2, l ++ [d], m2, s1.trans s2, x1.trans x2, by rw [List.length_append, u1, hu2, Nat.succ_mul], by simp [l1], fun k v hk => ?_, fun i b hi => ?_, fun b hb => ?_⟩
          · by_cases hk1 : k < us.length
            · rw [List.getElem?_append_left hk1] at hk
              obtain ⟨v', h4, h5⟩ := c1 k v hk
              exact ⟨v', h4, h5.mono s2⟩
            · rw [List.getElem?_append_right (by omega)] at hk
              obtain ⟨v', h4, h5⟩ := r2.get hk
              have hlt : k - us.length < c.w := by
                have := (List.getElem?_eq_some_iff.1 hk).1
                omega
              refine ⟨v', ?_, h5⟩
              rw [← h4, ← cells_at hs h2 hlt]
              congr 2
              omega
          · by_cases hi1 : i < l.length
            · rw [List.getElem?_append_left hi1] at hi
              have hle : i * c.w + c.w ≤ us.length := by
                rw [u1, ← Nat.succ_mul]
                exact Nat.mul_le_mul_right _ (by omega)
              rw [drop_take_append hle]
              exact c.mono x2 (d1 i b hi)
            · have hi2 : i = l.length := by
                have := (List.getElem?_eq_some_iff.1 hi).1
                simp at this
                omega
              subst hi2
              rw [List.getElem?_append_right (Nat.le_refl _), Nat.sub_self] at hi
              have hi : some d = some b := hi
              cases hi
              rw [l1, ← u1, List.drop_left, List.take_of_length_le (by omega)]
              exact sh2
          · rcases List.mem_append.1 hb with hb | hb
            · exact k1 b hb
            · rw [List.mem_singleton] at hb
              rw [hb]
              exact ok2
      obtain ⟨os1, ι1, us, l, m1, s1, x1, u1, l1, c1, d1, k1⟩ := main len (Nat.le_refl _)
      obtain ⟨m2, s2⟩ := m1.add (cs := us) (e := ⟨a.block, a.off, cap * c.w⟩) hblk c1
      refine ⟨_, _, [.slice (some (os1.length, 0)) c.w len len false], l, m2, s1.trans s2, x1.trans (More.snoc _ _), ⟨?_, trivial⟩, ⟨_, rfl, .inr ⟨os1.length, us, by rw [l1], joinEnd, by rw [u1, l1], fun j b hj => c.mono (More.snoc _ _) (d1 j b hj)⟩⟩, k1, by rw [l1]; exact hbound⟩
      · refine ⟨⟨a.block, a.off, cap * c.w⟩, a, cap, upd_same _ _ _, rfl, Nat.le_refl _, hl, (fun h => by cases h), .inr ⟨?_, by show 0 + cap * c.w ≤ cap * c.w; omega⟩⟩
        cases a with | mk b o s => cases hs; rfl
def OpensF {α : Type} (P : Program) (at_ : Nat) (fs : List (TypeId × Nat)) (c : Codec α) : Prop :=
  ∀ {H : Type} {enc : TypeId × Value → H} {W : World} {base : Nat} {held : Bool} {fuel : Nat} {cs : List Value} {xs : List (DataW H × List MemPlace)}, (∀ (i : Nat) (f : TypeId × Nat), fs[i]? = some f → DataW.trod enc P W base (fun _ => true) held fuel f.1 ((cs.drop f.2).take (P.cellsOf f.1)) = xs[i]?) → xs.length = fs.length →
    at_ + c.w ≤ cs.length → (DataW.weightsEach P (fs.map (·.1)) (xs.map (·.1))).all (· ≤ reachBytes) = true → 0 < W.heap.size →
    ∀ {os : List (Option AObj)} {ι : Map}, Mem W os ι → ∃ os' ι' us a, Mem W os' ι' ∧ Sub ι ι' ∧ More os os' ∧ All2 (R1 ι') us ((cs.drop at_).take c.w) ∧ c.shows os' us a ∧ c.ok a
theorem opensF_one {α : Type} {P : Program} {t : TypeId} {o : Nat} {c : Codec α} (h : Opens P t c) (hw : P.cellsOf t = c.w) : OpensF P o [(t, o)] c := by
  intro H enc W base held fuel cs xs hx hl hle hsz hz os ι hm
  match xs, hl with
  | [x], _ =>
    have h1 := hx 0 (t, o) rfl
    have h2 : (DataW.weights P t x.1).all (· ≤ reachBytes) = true := by
      simp only [List.map_cons, List.map_nil, DataW.weightsEach, List.append_nil] at hsz
      exact hsz
    rw [← hw]
    exact h h1 h2 hz hm
theorem opensF_cons {α β : Type} {P : Program} {t : TypeId} {o o' : Nat} {c : Codec α} {d : Codec β} {fs : List (TypeId × Nat)} (h : Opens P t c) (hw : P.cellsOf t = c.w) (ho : o' = o + c.w) (hf : OpensF P o' fs d) : OpensF P o ((t, o) :: fs) (cPair c d) := by
  intro H enc W base held fuel cs xs hx hl hle hsz hz os ι hm
  have hle : o + (c.w + d.w) ≤ cs.length := hle
  match xs, hl with
  | x :: xs, hl =>
    have h1 := hx 0 (t, o) rfl
    simp only [List.map_cons, DataW.weightsEach, List.all_append, Bool.and_eq_true] at hsz
    obtain ⟨os1, ι1, us1, a, m1, s1, x1, r1, sh1, k1⟩ := h h1 hsz.1 hz hm
    obtain ⟨os2, ι2, us2, b, m2, s2, x2, r2, sh2, k2⟩ := hf (fun i f hi => hx (i + 1) f hi) (by simpa using hl) (by omega) hsz.2 hz m1
    refine ⟨os2, ι2, us1 ++ us2, (a, b), m2, s1.trans s2, x1.trans x2, ?_, ⟨us1, us2, rfl, c.mono x2 sh1, sh2⟩, k1, k2⟩
    have e : (cs.drop o).take (cPair c d).w = (cs.drop o).take (P.cellsOf t) ++ (cs.drop o').take d.w := by
      show (cs.drop o).take (c.w + d.w) = _
      rw [List.take_add, hw, List.drop_drop, ho]
    rw [e]
    exact (r1.mono fun _ _ => R1.mono s2).append r2
theorem opens_struct {α : Type} {P : Program} {t : TypeId} {fs : Array Field} {l : List (TypeId × Nat)} {c : Codec α} (ht : P.underlying t = some (.struct fs)) (hl : fs.toList.map (fun f => (f.type, f.offset)) = l) (hc : P.cellsOf t = c.w) (h : OpensF P 0 l c) : Opens P t c := by
  intro H enc W base held fuel cs x hx hsz hz os ι hm
  obtain ⟨xs, n, _, rfl, hlen, hxl, hat⟩ := DataW.trod_struct ht hx
  have hsz' : (DataW.weightsEach P (l.map (·.1)) (xs.map (·.1))).all (· ≤ reachBytes) = true := by
    simp only [DataW.weights, ht] at hsz
    rw [← hl, List.map_map]
    exact hsz
  obtain ⟨os1, ι1, us, a, m1, s1, x1, r1, sh, k⟩ := h (cs := cs) (xs := xs) (fun i f hi => by
    rw [← hl, List.getElem?_map, Option.map_eq_some_iff] at hi
    obtain ⟨g, hg, rfl⟩ := hi
    exact hat i g (by rw [← Array.getElem?_toList]; exact hg)) (by rw [← hl]; simp [hxl]) (by omega) hsz' hz hm
  refine ⟨os1, ι1, us, a, m1, s1, x1, ?_, sh, k⟩
  rw [List.drop_zero, List.take_of_length_le (by omega)] at r1
  exact r1
theorem param_slice {α : Type} {B : Nat} {H : Type} {enc : TypeId × Value → H} {P : Program} {W : World} {r : Reach} {b0 base : Nat} {held : Bool} {t e : TypeId} {c : Codec α} {v : Value} {d : DataW H} {ps : List MemPlace} {ts : List TypeId} {ds : List (DataW H)} {j : Nat} (ho : Opens P t (cRow c B)) (hu : P.underlying t = some (.slice e))
    (hval : Value.okWide P W r b0 t v) (h : DataW.Trod enc P W base (fun _ => true) held t v d ps) (hsz : (DataW.weightsEach P ts ds).all (· ≤ reachBytes) = true) (ht : ts[j]? = some t) (hd : ds[j]? = some d) {os : List (Option AObj)} {ι : Map} (hm : Mem W os ι) :
    ∃ os' ι' u a, Mem W os' ι' ∧ Sub ι ι' ∧ More os os' ∧ R ι' u v ∧ ShowsRow c os' u a ∧ (∀ x ∈ a, c.ok x) ∧ a.length * B ≤ 140737488351232 := by
  have hval0 := hval
  obtain ⟨aa, len, cap, rfl⟩ := Go.WideShapes.okWide_slice hu hval
  obtain ⟨fuel, hf⟩ := h
  cases aa with
  | none =>
    rcases DataW.trod_slice hu hf with ⟨hcs, _⟩ | ⟨_, _, _, _, _, _, _, hcs, _⟩
    · simp [Value.cells] at hcs
      obtain ⟨rfl, rfl⟩ := hcs
      exact ⟨os, ι, .slice none c.w 0 0 false, [], hm, Sub.refl _, More.refl _, ⟨rfl, rfl, rfl⟩, .inl ⟨rfl, rfl⟩, (fun a ha => by cases ha), by simp⟩
    · simp [Value.cells] at hcs
  | some aa =>
  have hz : 0 < W.heap.size := Nat.lt_of_le_of_lt (Nat.zero_le _) (addr_of_okWide hu hval0).2
  obtain ⟨os1, ι1, us, a, m1, s1, x1, r1, sh, k⟩ := ho hf (List.all_eq_true.2 fun y hy => List.all_eq_true.1 hsz y (DataW.weights_mem_each ht hd y hy)) hz hm
  obtain ⟨u, rfl, sh⟩ := sh
  exact ⟨os1, ι1, u, a, m1, s1, x1, r1.1.up, sh, k⟩
end Go.Vabs

namespace Go.Vabs.Pk
set_option linter.unusedVariables false
set_option linter.unusedSimpArgs false
set_option maxRecDepth 10000
def there_c : AFunc := AFunc.mk 27 (.seq (.reg [AOper.mk (some (.i (.i .h))) (.mv (.c (.bool false))) none]) (.seq (.reg [AOper.mk (some (.i (.o (.o .h)))) (.bin .geq (.val .int) (.t (.o .h)) (.c (.int .i64 (.ofNat 0)))) none, AOper.mk (some (.o (.i (.o .h)))) (.mv (.t (.i (.o (.o .h))))) none, AOper.mk (some (.i (.o (.i .h)))) (.len .slice (.t .h)) (some (.o (.i (.o .h)), true)), AOper.mk (some (.o (.i (.i .h)))) (.bin .leq (.val .int) (.t (.o .h)) (.t (.i (.o (.i .h))))) (some (.o (.i (.o .h)), true)), AOper.mk (some (.i (.i (.i .h)))) (.pick (.t (.o (.i (.o .h)))) (.t (.o (.i (.i .h)))) (.c (.bool false))) none, AOper.mk (some (.o (.o (.o (.o .h))))) (.mv (.t (.i (.i (.i .h))))) none, AOper.mk (some (.o (.i (.o (.o .h))))) (.bin .geq (.val .int) (.t (.i .h)) (.c (.int .i64 (.ofNat 0)))) (some (.o (.o (.o (.o .h))), true)), AOper.mk (some (.i (.i (.o (.o .h))))) (.pick (.t (.o (.o (.o (.o .h))))) (.t (.o (.i (.o (.o .h))))) (.c (.bool false))) none, AOper.mk (some (.o (.o (.i (.o .h))))) (.mv (.t (.i (.i (.o (.o .h)))))) none, AOper.mk (some (.i (.i (.i (.o .h))))) (.len .slice (.t .h)) (some (.o (.o (.i (.o .h))), true)), AOper.mk (some (.i (.o (.o (.i .h))))) (.bin .sub (.val .int) (.t (.i (.i (.i (.o .h))))) (.t (.o .h))) (some (.o (.o (.i (.o .h))), true)), AOper.mk (some (.o (.i (.o (.i .h))))) (.bin .leq (.val .int) (.t (.i .h)) (.t (.i (.o (.o (.i .h)))))) (some (.o (.o (.i (.o .h))), true)), AOper.mk (some (.i (.i (.o (.i .h))))) (.pick (.t (.o (.o (.i (.o .h))))) (.t (.o (.i (.o (.i .h))))) (.c (.bool false))) none, AOper.mk (some (.i (.i .h))) (.mv (.t (.i (.i (.o (.i .h)))))) none]) .ret)) [.tmp (.i (.i .h))]
def number_c (n_there : Nat) : AFunc := AFunc.mk 34 (.seq (.reg [AOper.mk (some (.i (.i .h))) (.mv (.c (.int .i64 (.ofNat 0)))) none, AOper.mk (some (.o (.o (.o .h)))) (.mv (.c (.bool false))) none]) (.seq (.seq (.reg [AOper.mk (some (.i (.i (.i .h)))) (.call n_there [.t .h, .t (.o .h), .t (.i .h)]) none, AOper.mk (some (.o (.o (.o (.o .h))))) (.un .not (.t (.i (.i (.i .h))))) none]) (.cond (.t (.o (.o (.o (.o .h))))) (.seq (.reg [AOper.mk (some (.i (.i .h))) (.mv (.c (.int .i64 (.ofNat 0)))) none, AOper.mk (some (.o (.o (.o .h)))) (.mv (.c (.bool false))) none]) .ret) .skip)) (.seq (.reg [AOper.mk (some (.i (.o (.o .h)))) (.mv (.c (.int .i64 (.ofNat 0)))) none]) (.seq (.seq (.reg [AOper.mk (some (.i (.o (.i (.o .h))))) (.bin .add (.val .int) (.t (.o .h)) (.t (.i .h))) none, AOper.mk (some (.o (.i (.i (.o .h))))) (.slice (.slice 1) (.t .h) (some (.t (.o .h))) (some (.t (.i (.o (.i (.o .h)))))) none) none, AOper.mk (some (.i (.i (.i (.o .h))))) (.len .slice (.t (.o (.i (.i (.o .h)))))) none, AOper.mk (some (.o (.o (.o (.i .h))))) (.mv (.c (.int .i64 (.ofNat 0)))) none]) (.block 0 (.loop (.seq (.reg [AOper.mk (some (.i (.o (.o (.i .h))))) (.bin .lss (.val .int) (.t (.o (.o (.o (.i .h))))) (.t (.i (.i (.i (.o .h)))))) none]) (.seq (.cond (.t (.i (.o (.o (.i .h))))) .skip (.exit 0)) (.seq (.block 1 (.seq (.reg [AOper.mk (some (.o (.i (.o (.i .h))))) (.idxAddr (.slice 1) (.t (.o (.i (.i (.o .h))))) (.t (.o (.o (.o (.i .h)))))) none, AOper.mk (some (.i (.i (.o (.i .h))))) (.load false 1 (.t (.o (.i (.o (.i .h)))))) none, AOper.mk (some (.i (.i (.o .h)))) (.mv (.t (.i (.i (.o (.i .h)))))) none]) (.reg [AOper.mk (some (.i (.o (.i (.i .h))))) (.bin .shl (.val .int) (.t (.i (.o (.o .h)))) (.c (.int .u64 (.ofNat 8)))) none, AOper.mk (some (.i (.i (.i (.i .h))))) (.conv (.int .i64) (.t (.i (.i (.o .h))))) none, AOper.mk (some (.o (.o (.o (.o (.o .h)))))) (.bin .or (.val .int) (.t (.i (.o (.i (.i .h))))) (.t (.i (.i (.i (.i .h)))))) none, AOper.mk (some (.i (.o (.o .h)))) (.mv (.t (.o (.o (.o (.o (.o .h))))))) none]))) (.reg [AOper.mk (some (.i (.o (.o (.o (.o .h)))))) (.bin .add (.val .int) (.t (.o (.o (.o (.i .h))))) (.c (.int .i64 (.ofNat 1)))) none, AOper.mk (some (.o (.o (.o (.i .h))))) (.mv (.t (.i (.o (.o (.o (.o .h))))))) none]))))))) (.seq (.reg [AOper.mk (some (.i (.i .h))) (.mv (.t (.i (.o (.o .h))))) none, AOper.mk (some (.o (.o (.o .h)))) (.mv (.c (.bool true))) none]) .ret))))) [.tmp (.i (.i .h)), .tmp (.o (.o (.o .h)))]
def U8_c (n_number : Nat) : AFunc := AFunc.mk 11 (.seq (.reg [AOper.mk (some (.i (.o .h))) (.mv (.c (.int .i64 (.ofNat 0)))) none, AOper.mk (some (.o (.i .h))) (.mv (.c (.bool false))) none]) (.seq (.reg [AOper.mk (some (.i (.o (.o .h)))) (.call n_number [.t .h, .t (.o .h), .c (.int .i64 (.ofNat 1))]) none, AOper.mk (some (.o (.i (.o .h)))) (.extract (.t (.i (.o (.o .h)))) 0) none, AOper.mk (some (.i (.i (.o .h)))) (.extract (.t (.i (.o (.o .h)))) 1) none, AOper.mk (some (.i (.o .h))) (.mv (.t (.o (.i (.o .h))))) none, AOper.mk (some (.o (.i .h))) (.mv (.t (.i (.i (.o .h))))) none]) .ret)) [.tmp (.i (.o .h)), .tmp (.o (.i .h))]
def U16_c (n_number : Nat) : AFunc := AFunc.mk 11 (.seq (.reg [AOper.mk (some (.i (.o .h))) (.mv (.c (.int .i64 (.ofNat 0)))) none, AOper.mk (some (.o (.i .h))) (.mv (.c (.bool false))) none]) (.seq (.reg [AOper.mk (some (.i (.o (.o .h)))) (.call n_number [.t .h, .t (.o .h), .c (.int .i64 (.ofNat 2))]) none, AOper.mk (some (.o (.i (.o .h)))) (.extract (.t (.i (.o (.o .h)))) 0) none, AOper.mk (some (.i (.i (.o .h)))) (.extract (.t (.i (.o (.o .h)))) 1) none, AOper.mk (some (.i (.o .h))) (.mv (.t (.o (.i (.o .h))))) none, AOper.mk (some (.o (.i .h))) (.mv (.t (.i (.i (.o .h))))) none]) .ret)) [.tmp (.i (.o .h)), .tmp (.o (.i .h))]
def U24_c (n_number : Nat) : AFunc := AFunc.mk 11 (.seq (.reg [AOper.mk (some (.i (.o .h))) (.mv (.c (.int .i64 (.ofNat 0)))) none, AOper.mk (some (.o (.i .h))) (.mv (.c (.bool false))) none]) (.seq (.reg [AOper.mk (some (.i (.o (.o .h)))) (.call n_number [.t .h, .t (.o .h), .c (.int .i64 (.ofNat 3))]) none, AOper.mk (some (.o (.i (.o .h)))) (.extract (.t (.i (.o (.o .h)))) 0) none, AOper.mk (some (.i (.i (.o .h)))) (.extract (.t (.i (.o (.o .h)))) 1) none, AOper.mk (some (.i (.o .h))) (.mv (.t (.o (.i (.o .h))))) none, AOper.mk (some (.o (.i .h))) (.mv (.t (.i (.i (.o .h))))) none]) .ret)) [.tmp (.i (.o .h)), .tmp (.o (.i .h))]
def U32_c (n_number : Nat) : AFunc := AFunc.mk 11 (.seq (.reg [AOper.mk (some (.i (.o .h))) (.mv (.c (.int .i64 (.ofNat 0)))) none, AOper.mk (some (.o (.i .h))) (.mv (.c (.bool false))) none]) (.seq (.reg [AOper.mk (some (.i (.o (.o .h)))) (.call n_number [.t .h, .t (.o .h), .c (.int .i64 (.ofNat 4))]) none, AOper.mk (some (.o (.i (.o .h)))) (.extract (.t (.i (.o (.o .h)))) 0) none, AOper.mk (some (.i (.i (.o .h)))) (.extract (.t (.i (.o (.o .h)))) 1) none, AOper.mk (some (.i (.o .h))) (.mv (.t (.o (.i (.o .h))))) none, AOper.mk (some (.o (.i .h))) (.mv (.t (.i (.i (.o .h))))) none]) .ret)) [.tmp (.i (.o .h)), .tmp (.o (.i .h))]
def Part_c (n_there : Nat) (n_Clone : Nat) : AFunc := AFunc.mk 20 (.seq (.reg [AOper.mk (some (.i (.i .h))) (.mv (.c (.slice none 0 0 0 true))) none, AOper.mk (some (.o (.o (.o .h)))) (.mv (.c (.bool false))) none]) (.seq (.seq (.reg [AOper.mk (some (.o (.o (.i .h)))) (.call n_there [.t .h, .t (.o .h), .t (.i .h)]) none, AOper.mk (some (.i (.o (.i .h)))) (.un .not (.t (.o (.o (.i .h))))) none]) (.cond (.t (.i (.o (.i .h)))) (.seq (.reg [AOper.mk (some (.i (.i .h))) (.mv (.c (.slice none 0 0 0 true))) none, AOper.mk (some (.o (.o (.o .h)))) (.mv (.c (.bool false))) none]) .ret) .skip)) (.seq (.reg [AOper.mk (some (.o (.i (.o (.o .h))))) (.bin .add (.val .int) (.t (.o .h)) (.t (.i .h))) none, AOper.mk (some (.i (.i (.o (.o .h))))) (.slice (.slice 1) (.t .h) (some (.t (.o .h))) (some (.t (.o (.i (.o (.o .h)))))) none) none, AOper.mk (some (.o (.o (.i (.o .h))))) (.call n_Clone [.t (.i (.i (.o (.o .h))))]) none, AOper.mk (some (.i (.i .h))) (.mv (.t (.o (.o (.i (.o .h)))))) none, AOper.mk (some (.o (.o (.o .h)))) (.mv (.c (.bool true))) none]) .ret))) [.tmp (.i (.i .h)), .tmp (.o (.o (.o .h)))]
def Clone_c : AFunc := AFunc.mk 8 (.seq (.reg [AOper.mk (some (.i .h)) (.mv (.c (.slice none 0 0 0 true))) none]) (.seq (.seq (.reg [AOper.mk (some (.i (.o .h))) (.bin .eql (.nils .slice) (.t .h) (.c (.slice none 0 0 0 true))) none]) (.cond (.t (.i (.o .h))) (.seq (.reg [AOper.mk (some (.i .h)) (.mv (.c (.slice none 0 0 0 true))) none]) .ret) .skip)) (.seq (.reg [AOper.mk (some (.o (.i .h))) (.bslice 1 0 [.int .u8 (.ofNat 0)] []) none, AOper.mk (some (.o (.o (.o .h)))) (.append 1 1 (.t (.o (.i .h))) (.t .h)) none, AOper.mk (some (.i .h)) (.mv (.t (.o (.o (.o .h))))) none]) .ret))) [.tmp (.i .h)]
attribute [local simp] wp_skip wp_ret wp_exit wp_reg wp_seq wp_cond wp_block thenQ_normal thenQ_ret thenQ_exit blockQ_normal blockQ_ret blockQ_exit wpCond_true wpCond_false wpOps_nil wpVal_some wpGuard_true wpGuard_false wpOps_guard wpOps_cons
  put_at put_no ev_c ev_slot posEq_h posEq_o posEq_i posEq_ho posEq_hi posEq_oh posEq_ih posEq_oi posEq_io sel_true sel_false
  okv_some step_mv step_call step_pick pickV_bool step_bin bin_add bin_sub bin_mul bin_eql bin_neq bin_lss bin_leq bin_gtr bin_geq bin_eqb bin_neb bin_eqs bin_nes step_un un_not un_neg step_len len_slice len_str len_const step_extract extractV nth step_convInt conv_int step_convStr step_slice step_idxAddr natOf_nat step_load step_index step_field step_fieldAddr step_build step_minmax
  step_alloc step_bslice bsliceV_some newV_some step_store step_append boolIs_b boolIs_t finQ_ret finQ_normal ressE_nil ressE_cons resE_tmp consO_some initE_nil initE_cons pos_0 pos_1 pos_2 pos_3 pos_4 pos_5 pos_6 pos_7 pos_8 plain_bool plain_int plain_str plain_ptr plain_slice plain_map plain_agg plain_func plain_nilFunc V.undef oneOf_one oneOf_two ble_self
def be (l : List Nat) : Nat := l.foldl (fun n b => n * 256 + b) 0
def thereB (n : Nat) (x k : Int) : Bool := decide (0 ≤ x ∧ x ≤ n ∧ 0 ≤ k ∧ k ≤ n - x)
theorem thereB_true {n : Nat} {x k : Int} : thereB n x k = true ↔ 0 ≤ x ∧ x ≤ n ∧ 0 ≤ k ∧ k ≤ n - x := decide_eq_true_iff
def num (bs : List Nat) (x : Int) (z : Nat) : Option Nat := if thereB bs.length x z = true then some (be ((bs.drop x.toNat).take z)) else none
def numV (o : Option Nat) : V := .tuple [.int .i64 ((o.getD 0 : Nat) : Int), .bool o.isSome]
theorem there_run {call : CallT} {lf : Nat} {a : Option (Nat × Nat)} {n c : Nat} {f : Bool} {x k : Int} {st : St} (hn : n < 9223372036854775808) :
    enterF call lf [.slice a 1 n c f, .int .i64 x, .int .i64 k] st there_c = some (.bool (thereB n x k), st) := by
  refine enter_eq ?_
  unfold thereB
  by_cases h1 : 0 ≤ x
  · by_cases h2 : x ≤ n
    · by_cases h3 : 0 ≤ k
      · by_cases h4 : k ≤ n - x
        · simp (disch := omega) [h1, h2, h3, h4, wrap_i]
        · simp (disch := omega) [h1, h2, h3, h4, wrap_i]
      · simp (disch := omega) [h1, h2, h3, wrap_i]
    · simp [h1, h2]
  · simp [h1]
theorem be_append (l : List Nat) (b : Nat) : be (l ++ [b]) = be l * 256 + b := by simp [be]
theorem be_lt : ∀ (k : Nat) (l : List Nat), (∀ b ∈ l, b < 256) → l.length = k → be l < 256 ^ k := by
  intro k
  induction k with
  | zero => intro l _ h; simp at h; subst h; simp [be]
  | succ k ih =>
    intro l hl h
    obtain ⟨m, b, rfl⟩ : ∃ m b, l = m ++ [b] := by
      rcases List.eq_nil_or_concat l with e | ⟨m, b, e⟩
      · subst e; simp at h
      · exact ⟨m, b, by rw [e]; simp⟩
    rw [be_append]
    have h1 := ih m (fun x hx => hl x (by simp [hx])) (by simpa using h)
    have h2 := hl b (by simp)
    rw [Nat.pow_succ]
    omega
theorem or_byte {n b : Nat} (hb : b < 256) : (n * 256) ||| b = n * 256 + b := by
  have := Nat.two_pow_add_eq_or_of_lt (i := 8) (b := b) (by simpa using hb) n
  rw [Nat.mul_comm n 256]
  exact this.symm
theorem bin_or {eq : EqKind} {a b : Nat} (ha : a < 9223372036854775808) (hb : b < 9223372036854775808) : binV .or eq (.int .i64 (a : Int)) (.int .i64 (b : Int)) = some (.int .i64 ((a ||| b : Nat) : Int)) := by
  simp only [binV, if_true, arith]
  show (match sel (Nat.blt a 9223372036854775808 && Nat.blt b 9223372036854775808) (some (Int.ofNat (Nat.lor a b))) _ with | some r => some (V.int .i64 r) | none => none) = _
  rw [blt_t ha, blt_t hb]
  rfl
theorem bin_orb {eq : EqKind} {x y : Int} (h0 : 0 ≤ x) (h1 : x < 36028797018963968) (h2 : 0 ≤ y) (h3 : y < 256) : binV .or eq (.int .i64 (x * 256)) (.int .i64 y) = some (.int .i64 (x * 256 + y)) := by
  obtain ⟨n, rfl⟩ := Int.eq_ofNat_of_zero_le h0
  obtain ⟨b, rfl⟩ := Int.eq_ofNat_of_zero_le h2
  have := bin_or (eq := eq) (a := n * 256) (b := b) (by omega) (by omega)
  rw [or_byte (by omega)] at this
  simpa using this
theorem shl_8 {eq : EqKind} {k : IntKind} {x : Int} (h0 : 0 ≤ x) (h1 : x < 36028797018963968) : binV .shl eq (.int .i64 x) (.int k 8) = some (.int .i64 (x * 256)) := by
  have e : binV .shl eq (.int .i64 x) (.int k 8) = some (.int .i64 (wrapV .i64 (x * 256))) := bin_shl (n := 8)
  rw [e, wrap_i (by omega) (by omega)]
theorem number_run {call : CallT} {lf n_there : Nat} (hlf : 5 ≤ lf) (hthere : ∀ a n c f x k st, n < 9223372036854775808 → call n_there [.slice a 1 n c f, .int .i64 x, .int .i64 k] st = some (.bool (thereB n x k), st))
    {nil : Bool} {bs : List Nat} (hnil : nil = true → bs = []) (hb : ∀ b ∈ bs, b < 256) (hlen : bs.length < 9223372036854775808) {x : Int} {z : Nat} (hz : z ≤ 4) :
    enterF call lf [slOf nil bs, .int .i64 x, .int .i64 (z : Int)] (memOf nil bs) (number_c n_there) = some (numV (num bs x z), memOf nil bs) := by
  refine enter_eq ?_
  unfold slOf num
  cases h : thereB bs.length x z
  · simp (disch := omega) [hthere, h, numV]
  · have h' := thereB_true.1 h
    simp (disch := omega) [hthere, h, numV, wrap_i, slice_lohiI]
    refine wp_loop (fun k s st => st = memOf nil bs ∧ ∃ i, i + k = z ∧ s (.o (.i (.i (.o .h)))) = .slice (shiftA (if nil = true then none else some (0, 0)) x.toNat) 1 z (bs.length - x.toNat) false ∧
      s (.i (.i (.i (.o .h)))) = .int .i64 (z : Int) ∧ s (.o (.o (.o (.i .h)))) = .int .i64 (i : Int) ∧ s (.i (.o (.o .h))) = .int .i64 ((be ((bs.drop x.toNat).take i) : Nat) : Int)) z ?_ (by omega) ?_
    · refine ⟨rfl, 0, by omega, ?_, ?_, ?_, ?_⟩ <;> simp [be]
      all_goals omega
    · rintro k s st ⟨rfl, i, hi, s1, s2, s3, s4⟩
      cases k with
      | zero =>
        have : i = z := by omega
        subst this
        simp [s1, s2, s3, s4]
      | succ k =>
        have hiz : i < z := by omega
        have hnf : nil = false := by
          cases nil with
          | false => rfl
          | true => rw [hnil rfl] at h'; simp at h'; omega
        subst hnf
        have hlt : x.toNat + i < bs.length := by omega
        obtain ⟨b, hbx⟩ : ∃ b, bs[x.toNat + i]? = some b := ⟨_, List.getElem?_eq_getElem hlt⟩
        have hb256 : b < 256 := hb b (List.mem_of_getElem? hbx)
        have hbe : be ((bs.drop x.toNat).take i) < 4294967296 := by
          have h1 := be_lt i ((bs.drop x.toNat).take i) (fun y hy => hb y (List.mem_of_mem_drop (List.mem_of_mem_take hy))) (by simp; omega)
          have h2 : 256 ^ i ≤ 256 ^ 4 := Nat.pow_le_pow_right (by omega) (by omega)
          omega
        have hnext : be ((bs.drop x.toNat).take (i + 1)) = be ((bs.drop x.toNat).take i) * 256 + b := by
          rw [List.take_add_one, List.getElem?_drop, hbx]
          exact be_append _ _
        have hld : loadV (memOf false bs) false 1 (.ptr (some (0, x.toNat + i))) = some (.int .u8 (b : Int)) := by
          refine (load_few (os := [some (.cells false (bytesV bs))]) (i := 0) (own := false) (cs := bytesV bs) rfl).trans ?_
          rw [bytesV_at, hbx]
          rfl
        simp (disch := omega) [s1, s2, s3, s4, hiz, natOf_int, wrap_i, shiftA_some, idxAddr_slice, hld, shl_8, bin_orb]
        exact ⟨k, by omega, i + 1, by omega, by simp, by rw [hnext]; simp⟩
theorem numV_flats (o : Option Nat) : (numV o).flats = true := rfl
def NumF (call : CallT) (n : Nat) : Prop := ∀ st v bs x (z : Nat), bytesAt st v = some bs → bs.length < 9223372036854775808 → z ≤ 4 → call n [v, .int .i64 x, .int .i64 (z : Int)] st = some (numV (num bs x z), st)
def UF (z : Nat) (call : CallT) (n : Nat) : Prop := ∀ st v bs x, bytesAt st v = some bs → bs.length < 9223372036854775808 → call n [v, .int .i64 x] st = some (numV (num bs x z), st)
noncomputable def numS (bs : List Nat) : List V → Option V
  | [.int .i64 x, .int .i64 z] => if 0 ≤ z ∧ z ≤ 4 ∧ bs.length < 9223372036854775808 then some (numV (num bs x z.toNat)) else none
  | _ => none
noncomputable def uS (z : Nat) (bs : List Nat) : List V → Option V
  | [.int .i64 x] => if bs.length < 9223372036854775808 then some (numV (num bs x z)) else none
  | _ => none
theorem number_sound {P : Program} {call : CallT} (hmix : P.follows .mixedOrders = true) (h : Sound P call) {g nt : Nat} (hc : compF P g = some (number_c nt))
    (hthere : ∀ a n c f x k st, n < 9223372036854775808 → call nt [.slice a 1 n c f, .int .i64 x, .int .i64 k] st = some (.bool (thereB n x k), st)) : Sound P (withL call g (lawOf (bytesRd numS))) :=
  h.bytes hmix 5 hc fun nil bs rest u h1 h2 h3 => by
    unfold numS at h3
    split at h3
    · rename_i x z
      split at h3
      · rename_i hz
        cases h3
        obtain ⟨z, rfl⟩ := Int.eq_ofNat_of_zero_le hz.1
        exact ⟨_, number_run (Nat.le_refl 5) hthere h1 h2 hz.2.2 (by omega)⟩
      · cases h3
    · cases h3
theorem number_fact {call : CallT} {g : Nat} : NumF (withL call g (lawOf (bytesRd numS))) g := by
  intro st v bs x z hb hl hz
  refine bytes_call hb rfl ?_ (numV_flats _)
  show (if 0 ≤ (z : Int) ∧ (z : Int) ≤ 4 ∧ bs.length < 9223372036854775808 then some (numV (num bs x (z : Int).toNat)) else none) = _
  rw [if_pos (by omega), Int.toNat_natCast]
theorem uS_fact {z : Nat} {call : CallT} {g : Nat} : UF z (withL call g (lawOf (bytesRd (uS z)))) g := by
  intro st v bs x hb hl
  refine bytes_call hb rfl ?_ (numV_flats _)
  show (if bs.length < 9223372036854775808 then some (numV (num bs x z)) else none) = _
  rw [if_pos hl]
theorem u_sound {P : Program} {call : CallT} (hmix : P.follows .mixedOrders = true) (h : Sound P call) {g n : Nat} (hn : NumF call n) {z : Nat} {fn : AFunc} (hz : (z = 1 ∧ fn = U8_c n) ∨ (z = 2 ∧ fn = U16_c n) ∨ (z = 3 ∧ fn = U24_c n) ∨ (z = 4 ∧ fn = U32_c n)) (hc : compF P g = some fn) :
    Sound P (withL call g (lawOf (bytesRd (uS z)))) :=
  h.bytes hmix 1 hc fun nil bs rest u h1 h2 h3 => by
    unfold uS at h3
    split at h3
    · rename_i x
      split at h3
      · rename_i hl
        cases h3
        have hB := bytesAt_mem h1 h2
        refine ⟨memOf nil bs, ?_⟩
        have e1 := hn (memOf nil bs) (slOf nil bs) bs x 1 hB hl (by omega)
        have e2 := hn (memOf nil bs) (slOf nil bs) bs x 2 hB hl (by omega)
        have e3 := hn (memOf nil bs) (slOf nil bs) bs x 3 hB hl (by omega)
        have e4 := hn (memOf nil bs) (slOf nil bs) bs x 4 hB hl (by omega)
        simp at e1 e2 e3 e4
        rcases hz with ⟨rfl, rfl⟩ | ⟨rfl, rfl⟩ | ⟨rfl, rfl⟩ | ⟨rfl, rfl⟩ <;> refine enter_eq ?_ <;> simp [e1, e2, e3, e4, numV]
      · cases h3
    · cases h3
theorem num_lt {bs : List Nat} {x : Int} {z : Nat} (hb : ∀ b ∈ bs, b < 256) : (num bs x z).getD 0 < 256 ^ z := by
  unfold num
  split
  · rename_i h
    have h := thereB_true.1 h
    exact be_lt z _ (fun y hy => hb y (List.mem_of_mem_drop (List.mem_of_mem_take hy))) (by simp; omega)
  · exact Nat.pos_of_ne_zero (by simp)
noncomputable def cloneR (os : List (Option AObj)) (new : List Nat) : V × St :=
  if new = [] then (.slice (some (os.length, 0)) 1 0 0 true, few (os ++ [some (newBytes [])])) else (.slice (some (os.length + 1, 0)) 1 new.length new.length false, few (os ++ [some (newBytes []), some (newBytes new)]))
theorem join_new {os : List (Option AObj)} {o : Option AObj} {l : List (Option AObj)} : ((os ++ o :: l)[os.length]?).join = o := by simp
theorem Clone_run {call : CallT} {lf i o n c : Nat} {f own : Bool} {os : List (Option AObj)} {cs : List V} {new : List Nat} (h : (os[i]?).join = some (.cells own cs)) (hm : o + n ≤ cs.length) (hcs : (cs.drop o).take n = bytesV new) (hn : new.length = n) (hs : n ≤ 140737488354816) :
    enterF call lf [.slice (some (i, o)) 1 n c f] (few os) Clone_c = some (cloneR os new) := by
  have hi : i < os.length := by
    cases hx : os[i]? with
    | none => rw [hx] at h; cases h
    | some y => exact (List.getElem?_eq_some_iff.1 hx).1
  have h2 : ((os ++ [some (AObj.cells true [])])[i]?).join = some (.cells own cs) := by rw [List.getElem?_append_left hi]; exact h
  have hld : (few (os ++ [some (AObj.cells true [])])).loadN i o n = some (bytesV new) := by rw [loadN_few h2 hm, hcs]
  unfold cloneR
  split
  · rename_i e
    subst e
    have hn0 : n = 0 := by simpa using hn.symm
    subst hn0
    refine enter_eq ?_
    simp [bin_eqnil, few_alloc, fill, repN, lenOf, firstNo, firstN, hld, bytesV_nil, append_none, newBytes]
  · rename_i e
    have hpos : 0 < n := by
      cases new with
      | nil => exact absurd rfl e
      | cons a l => rw [← hn]; simp
    have happ := append_new (os := os ++ [some (AObj.cells true [])]) (j := os.length) (n := n) (new := bytesV new) join_new hpos (by rw [bytesV_len, hn]) hs
    refine enter_eq ?_
    simp [bin_eqnil, few_alloc, fill, repN, lenOf, firstNo, firstN, hld, happ, newBytes, hn, bytesV_nil]
theorem Clone_nil {call : CallT} {lf n c : Nat} {f : Bool} {st : St} : enterF call lf [.slice none 1 n c f] st Clone_c = some (.slice none 0 0 0 true, st) := by
  refine enter_eq ?_
  simp [bin_eqnil2]
def CloneF (call : CallT) (n_ : Nat) : Prop :=
  (∀ os i o n c f own cs new, (os[i]?).join = some (AObj.cells own cs) → o + n ≤ cs.length → (cs.drop o).take n = bytesV new → new.length = n → n ≤ 140737488354816 → call n_ [.slice (some (i, o)) 1 n c f] (few os) = some (cloneR os new)) ∧
  ∀ n c f st, call n_ [.slice none 1 n c f] st = some (.slice none 0 0 0 true, st)
def ThereF (call : CallT) (nt : Nat) : Prop := ∀ a n c f x k st, n < 9223372036854775808 → call nt [.slice a 1 n c f, .int .i64 x, .int .i64 k] st = some (.bool (thereB n x k), st)
theorem ThereF.code {base : CallT} {g lf : Nat} : ThereF (withF base g lf there_c) g := fun a l c f x k st h => by rw [withF_same]; exact there_run h
theorem CloneF.code {base : CallT} {g lf : Nat} : CloneF (Vabs.withF base g lf Clone_c) g :=
  ⟨fun os i o n c f own cs new h1 h2 h3 h4 h5 => by rw [withF_same]; exact Clone_run h1 h2 h3 h4 h5, fun n c f st => by rw [withF_same]; exact Clone_nil⟩
def cutB (bs : List Nat) (x n : Int) : List Nat := (bs.drop x.toNat).take n.toNat
noncomputable def partA (nil : Bool) (bs : List Nat) (x n : Int) (ok : Bool) : Ans :=
  if ok = true then (if nil = true then ([], fun _ => .tuple [.slice none 0 0 0 true, .bool true])
    else ([newBytes (cutB bs x n)], fun k => .tuple [.slice (some (k, 0)) 1 (cutB bs x n).length (cutB bs x n).length false, .bool true]))
  else ([], fun _ => .tuple [.slice none 0 0 0 true, .bool false])
noncomputable def partS (nil : Bool) (bs : List Nat) : List V → Option Ans
  | [.int .i64 x, .int .i64 n] => if bs.length ≤ 140737488354000 then some (partA nil bs x n (thereB bs.length x n)) else none
  | _ => none
def PartF (call : CallT) (n_ : Nat) : Prop := ∀ st v bs x n, bytesAt st v = some bs → bs.length ≤ 140737488354000 → call n_ [v, .int .i64 x, .int .i64 n] st = lawOut (some (partA (isNil v) bs x n (thereB bs.length x n))) st
theorem cut_len {bs : List Nat} {x n : Int} (h : thereB bs.length x n = true) : (cutB bs x n).length = n.toNat := by
  have h := thereB_true.1 h
  simp [cutB]
  omega
theorem cut_few {bs : List Nat} {x n : Int} : ((bytesV bs).drop x.toNat).take n.toNat = bytesV (cutB bs x n) := by
  rw [bytesV_drop, bytesV_take]
  rfl
theorem left_clone {bs new : List Nat} {τ : Way} {n : Nat} : Left τ n (memOf false bs) (cloneR [some (.cells false (bytesV bs))] new).2 (.tuple [(cloneR [some (.cells false (bytesV bs))] new).1, .bool true]) [newBytes new] [if new = [] then 1 else 2]
    (.tuple [.slice (some (n, 0)) 1 new.length new.length false, .bool true]) := by
  unfold cloneR
  by_cases e : new = []
  · subst e
    simp only [if_true]
    exact Left.bytesOk (s0 := memOf false bs) (c := 0) (f := true) (b := true) (bs := []) (Nat.le_refl 1) (few_heap _ 1)
  · rw [if_neg e, if_neg e]
    exact Left.bytesOk (s0 := memOf false bs) (Nat.le_succ 1) (few_heap _ 2)
theorem Part_sound {P : Program} {call : CallT} (hmix : P.follows .mixedOrders = true) (h : Sound P call) {g nt nc : Nat} (ht : ThereF call nt) (hcl : CloneF call nc) (hc : compF P g = some (Part_c nt nc)) :
    Sound P (withL call g (lawOf (bytesRdA partS))) :=
  h.bytesA hmix 1 hc fun nil bs rest os f h1 h2 h3 => by
    unfold partS at h3
    split at h3
    · rename_i x n
      split at h3
      · rename_i hl
        simp only [Option.some.injEq] at h3
        cases hth : thereB bs.length x n with
        | false =>
          rw [hth] at h3
          cases h3
          refine ⟨_, memOf nil bs, [], ?_, fun τ m => Left.flat rfl⟩
          refine enter_eq ?_
          unfold slOf
          simp (disch := omega) [ht _ _ _ _ _ _ _ (show bs.length < 9223372036854775808 by omega), hth]
        | true =>
          have hh := thereB_true.1 hth
          rw [hth] at h3
          cases nil with
          | true =>
            cases h3
            have hbs := h1 rfl
            refine ⟨_, memOf true bs, [], ?_, fun τ m => Left.flat rfl⟩
            refine enter_eq ?_
            unfold slOf
            simp (disch := omega) [ht _ _ _ _ _ _ _ (show bs.length < 9223372036854775808 by omega), hth, wrap_i, slice_lohiI, shiftA_none, hcl.2]
          | false =>
            cases h3
            have hlen := cut_len hth
            have e := hcl.1 [some (.cells false (bytesV bs))] 0 x.toNat n.toNat (bs.length - x.toNat) false false (bytesV bs) (cutB bs x n) rfl (by rw [bytesV_len]; omega) cut_few hlen (by omega)
            refine ⟨_, _, _, ?_, fun τ m => left_clone⟩
            refine enter_eq ?_
            unfold slOf
            have e' : call nc [.slice (some (0, x.toNat)) 1 n.toNat (bs.length - x.toNat) false] (memOf false bs) = some ((cloneR [some (.cells false (bytesV bs))] (cutB bs x n)).1, (cloneR [some (.cells false (bytesV bs))] (cutB bs x n)).2) := e
            have hsub : (x + n).toNat - x.toNat = n.toNat := by omega
            have hpl : (cloneR [some (.cells false (bytesV bs))] (cutB bs x n)).1.plain = true := by unfold cloneR; split <;> rfl
            simp (disch := omega) [ht _ _ _ _ _ _ _ (show bs.length < 9223372036854775808 by omega), hth, wrap_i, slice_lohiI, shiftA_some, hsub, e', hpl]
      · cases h3
    · cases h3
theorem Part_fact {call : CallT} {g : Nat} : PartF (withL call g (lawOf (bytesRdA partS))) g := by
  intro st v bs x n hb hl
  rw [bytesA_call hb rfl]
  show lawOut (if bs.length ≤ 140737488354000 then some (partA (isNil v) bs x n (thereB bs.length x n)) else none) st = _
  rw [if_pos hl]
end Go.Vabs.Pk

namespace Go.Vabs.Ph
set_option linter.unusedVariables false
set_option linter.unusedSimpArgs false
set_option maxRecDepth 10000
def Pick_c : AFunc := AFunc.mk 14 (.seq (.reg [AOper.mk (some (.i (.o .h))) (.mv (.c (.int .i64 (.ofNat 0)))) none]) (.seq (.reg [AOper.mk (some (.o (.o (.o .h)))) (.bin .rem (.val .int) (.t .h) (.t (.o .h))) none, AOper.mk (some .h) (.mv (.t (.o (.o (.o .h))))) none]) (.seq (.seq (.reg [AOper.mk (some (.o (.i (.o .h)))) (.bin .lss (.val .int) (.t .h) (.c (.int .i64 (.ofNat 0)))) none]) (.cond (.t (.o (.i (.o .h)))) (.reg [AOper.mk (some (.i (.o (.i .h)))) (.bin .add (.val .int) (.t .h) (.t (.o .h))) none, AOper.mk (some .h) (.mv (.t (.i (.o (.i .h))))) none]) .skip)) (.seq (.reg [AOper.mk (some (.i (.o .h))) (.mv (.t .h)) none]) .ret)))) [.tmp (.i (.o .h))]
attribute [local simp] wp_skip wp_ret wp_exit wp_reg wp_seq wp_cond wp_block thenQ_normal thenQ_ret thenQ_exit blockQ_normal blockQ_ret blockQ_exit wpCond_true wpCond_false wpOps_nil wpVal_some wpGuard_true wpGuard_false wpOps_guard wpOps_cons
  put_at put_no ev_c ev_slot posEq_h posEq_o posEq_i posEq_ho posEq_hi posEq_oh posEq_ih posEq_oi posEq_io sel_true sel_false
  okv_some step_mv step_call step_pick pickV_bool step_bin bin_add bin_sub bin_mul bin_eql bin_neq bin_lss bin_leq bin_gtr bin_geq bin_eqb bin_neb bin_eqs bin_nes step_un un_not un_neg step_len len_slice len_str len_const step_extract extractV nth step_convInt conv_int step_convStr step_slice step_idxAddr natOf_nat step_load step_index step_field step_fieldAddr step_build step_minmax
  step_alloc step_bslice bsliceV_some newV_some step_store step_append boolIs_b boolIs_t finQ_ret finQ_normal ressE_nil ressE_cons resE_tmp consO_some initE_nil initE_cons pos_0 pos_1 pos_2 pos_3 pos_4 pos_5 pos_6 pos_7 pos_8 plain_bool plain_int plain_str plain_ptr plain_slice plain_map plain_agg plain_func plain_nilFunc V.undef oneOf_one oneOf_two ble_self
def pickI (n m : Int) : Int := if Int.tmod n m < 0 then Int.tmod n m + m else Int.tmod n m
theorem pickI_lt {n m : Int} (h : 0 < m) : 0 ≤ pickI n m ∧ pickI n m < m := by
  have h1 := Int.tmod_lt_of_pos n h
  have h2 := Int.lt_tmod_of_pos n h
  unfold pickI
  split <;> omega
def PickF (call : CallT) (g : Nat) : Prop := ∀ n m st, 0 < m → m < 4611686018427387904 → call g [.int .i64 n, .int .i64 m] st = some (.int .i64 (pickI n m), st)
theorem Pick_run {call : CallT} {lf : Nat} {n m : Int} {st : St} (h : 0 < m) (hm : m < 4611686018427387904) : enterF call lf [.int .i64 n, .int .i64 m] st Pick_c = some (.int .i64 (pickI n m), st) := by
  have h1 := Int.tmod_lt_of_pos n h
  have h2 := Int.lt_tmod_of_pos n h
  refine enter_eq ?_
  unfold pickI
  by_cases hc : Int.tmod n m < 0
  · simp (disch := omega) [bin_rem, hc, wrap_i]
  · simp (disch := omega) [bin_rem, hc, wrap_i]
theorem PickF.code {base : CallT} {g lf : Nat} : PickF (withF base g lf Pick_c) g := fun n m st h1 h2 => by rw [withF_same]; exact Pick_run h1 h2
end Go.Vabs.Ph
