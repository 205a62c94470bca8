/-
  Maps of strings, boxes; laws of what is seen whose answers tell the numbers of their new objects.
-/
import Derived.Test.YtpbafimkplhknaaVabsZi
namespace Go.Vabs
set_option linter.unusedSimpArgs false
set_option linter.unusedVariables false
section
variable {call : CallT} {s : Env} {st : St}
theorem step_mkmap : stepE call .mkmap s st = newV (fun j => .map (some j)) (st.alloc (.map true [] 0)) := by
  show (match ex_mkmap s.ev st with | some (.val v, st') => _ | some (.enter g args, st') => _ | none => _) = _
  unfold ex_mkmap
  cases st.alloc (.map true [] 0) <;> rfl
noncomputable def lookupV (st : St) (q : Option IntKind) (zero m k : V) (ok : Bool) : Option V :=
  sel (keyIs q k) (match mapOf st m with
  | some es => (match findKey k es 0 with
    | some (some (_, v, _)) => some (sel ok (.tuple [v, .bool true]) v)
    | some none => some (sel ok (.tuple [zero, .bool false]) zero)
    | none => none)
  | none => none) none
theorem step_lookup {q : Option IntKind} {zero : V} {m k : Src} {ok : Bool} : stepE call (.lookup q zero m k ok) s st = okv (lookupV st q zero (s.ev m) (s.ev k) ok) st := by
  refine step_of ?_
  show ex_lookup q zero m k ok s.ev st = _
  unfold ex_lookup lookupV
  cases keyIs q (s.ev k) with
  | false => rfl
  | true =>
    simp only [sel_true]
    cases mapOf st (s.ev m) with
    | none => rfl
    | some es =>
      dsimp only
      cases findKey (s.ev k) es 0 with
      | none => rfl
      | some r => cases r <;> rfl
noncomputable def entryV (st : St) (q : Option IntKind) (zero m k : V) : Option (V × St) :=
  sel (keyIs q k) (match m with
  | .map (some i) => match st.get i with
    | some (.map true es clock) => match findKey k es 0 with
      | some (some (_, v, born)) => some (.tuple [v, .int .i64 (.ofNat born)], st)
      | some none => match st.set i (some (.map true (es ++ [(k, zero, clock)]) (clock + 1))) with
        | some st' => some (.tuple [zero, .int .i64 (.ofNat clock)], st')
        | none => none
      | none => none
    | _ => none
  | _ => none) none
theorem step_mapEntry {q : Option IntKind} {zero : V} {m k : Src} : stepE call (.mapEntry q zero m k) s st = entryV st q zero (s.ev m) (s.ev k) := by
  show (match ex_mapEntry q zero m k s.ev st with | some (.val v, st') => some (v, st') | some (.enter g args, st') => call g args st' | none => none) = _
  unfold ex_mapEntry entryV
  cases keyIs q (s.ev k) with
  | false => rfl
  | true =>
    simp only [sel_true]
    cases s.ev m <;> try rfl
    rename_i p
    cases p with
    | none => rfl
    | some i =>
      dsimp only
      cases st.get i with
      | none => rfl
      | some o =>
        cases o with
        | cells own cs => rfl
        | map own es c =>
          cases own with
          | false => rfl
          | true =>
            dsimp only
            cases findKey (s.ev k) es 0 with
            | none => rfl
            | some r =>
              cases r with
              | some r => rfl
              | none =>
                dsimp only
                cases st.set i (some (.map true (es ++ [(s.ev k, zero, c)]) (c + 1))) <;> rfl
noncomputable def estoreV (st : St) (m : V) (n : Option Nat) (x : V) : Option (V × St) :=
  match m, n with
  | .map (some i), some born => match st.get i with
    | some (.map true es clock) => match setBorn born x es with
      | some es' => sel x.plain (match st.set i (some (.map true es' clock)) with | some st' => some (V.undef, st') | none => none) none
      | none => none
    | _ => none
  | _, _ => none
theorem step_entryStore {m b x : Src} : stepE call (.entryStore m b x) s st = estoreV st (s.ev m) (natOf (s.ev b)) (s.ev x) := by
  show (match ex_entryStore m b x s.ev st with | some (.val v, st') => some (v, st') | some (.enter g args, st') => call g args st' | none => none) = _
  unfold ex_entryStore estoreV
  cases s.ev m <;> try rfl
  rename_i p
  cases natOf (s.ev b) with
  | none => cases p <;> rfl
  | some n =>
    cases p with
    | none => rfl
    | some i =>
      dsimp only
      cases st.get i with
      | none => rfl
      | some o =>
        cases o with
        | cells own cs => rfl
        | map own es c =>
          cases own with
          | false => rfl
          | true =>
            dsimp only
            cases setBorn n (s.ev x) es with
            | none => rfl
            | some es' =>
              dsimp only
              cases (s.ev x).plain with
              | false => rfl
              | true =>
                simp only [sel_true]
                cases st.set i (some (.map true es' c)) <;> rfl
end

/- MAPS OF STRINGS: entries as they were made -/
noncomputable def entsF : Nat → List (List Nat × V) → List (V × V × Nat)
  | _, [] => []
  | n, kv :: l => (.str kv.1, kv.2, n) :: entsF (n + 1) l
theorem entsF_snoc : ∀ (l : List (List Nat × V)) (n : Nat) (kv : List Nat × V), entsF n (l ++ [kv]) = entsF n l ++ [(V.str kv.1, kv.2, n + l.length)]
  | [], n, kv => rfl
  | x :: l, n, kv => by
    show _ :: entsF (n + 1) (l ++ [kv]) = _ :: (entsF (n + 1) l ++ _)
    rw [entsF_snoc l (n + 1) kv]
    simp only [List.length_cons]
    rw [show n + 1 + l.length = n + (l.length + 1) from by omega]
theorem find_no {t : List Nat} : ∀ (l : List (List Nat × V)) (n i : Nat), (∀ kv ∈ l, kv.1 ≠ t) → findKey (.str t) (entsF n l) i = some none
  | [], n, i, _ => rfl
  | x :: l, n, i, h => by
    show (match some (eqS x.1 t) with | some true => _ | some false => findKey (.str t) (entsF (n + 1) l) (i + 1) | none => none) = _
    rw [eqS_eq, decide_eq_false (h x (List.mem_cons_self ..))]
    exact find_no l (n + 1) (i + 1) fun kv hk => h kv (List.mem_cons_of_mem _ hk)
theorem find_at {t : List Nat} {v : V} : ∀ (l : List (List Nat × V)) (n i k : Nat), l[k]? = some (t, v) → (∀ j, j < k → ∀ kv, l[j]? = some kv → kv.1 ≠ t) → findKey (.str t) (entsF n l) i = some (some (i + k, v, n + k))
  | [], n, i, k, h, _ => by cases h
  | x :: l, n, i, 0, h, _ => by
    have h : x = (t, v) := by simpa using h
    subst h
    show (match some (eqS t t) with | some true => some (some (i, v, n)) | some false => findKey (.str t) (entsF (n + 1) l) (i + 1) | none => none) = _
    rw [eqS_eq, decide_eq_true rfl]
    rfl
  | x :: l, n, i, k + 1, h, hne => by
    show (match some (eqS x.1 t) with | some true => some (some (i, x.2, n)) | some false => findKey (.str t) (entsF (n + 1) l) (i + 1) | none => none) = _
    rw [eqS_eq, decide_eq_false (hne 0 (Nat.succ_pos k) x rfl)]
    show findKey (.str t) (entsF (n + 1) l) (i + 1) = _
    rw [find_at l (n + 1) (i + 1) k (by simpa using h) fun j hj kv hkv => hne (j + 1) (by omega) kv (by simpa using hkv)]
    rw [show i + 1 + k = i + (k + 1) from by omega, show n + 1 + k = n + (k + 1) from by omega]
theorem setBorn_last {x y : V} {t : List Nat} : ∀ (l : List (List Nat × V)) (n : Nat), setBorn (n + l.length) y (entsF n l ++ [(V.str t, x, n + l.length)]) = some (entsF n l ++ [(V.str t, y, n + l.length)])
  | [], n => by
    show sel (Nat.beq n n) _ _ = _
    rw [Nat.beq_refl]; rfl
  | z :: l, n => by
    have hn : Nat.beq n (n + (z :: l).length) = false := by
      cases hb : Nat.beq n (n + (z :: l).length) with
      | false => rfl
      | true => rw [Nat.beq_eq] at hb; simp only [List.length_cons] at hb; omega
    show sel (Nat.beq n (n + (z :: l).length)) _ (match setBorn (n + (z :: l).length) y (entsF (n + 1) l ++ [(V.str t, x, n + (z :: l).length)]) with | some r => some ((V.str z.1, z.2, n) :: r) | none => none) = _
    rw [hn]
    have := setBorn_last (x := x) (y := y) (t := t) l (n + 1)
    rw [show n + 1 + l.length = n + (z :: l).length from by simp only [List.length_cons]; omega] at this
    show (match setBorn (n + (z :: l).length) y (entsF (n + 1) l ++ [(V.str t, x, n + (z :: l).length)]) with | some r => some ((V.str z.1, z.2, n) :: r) | none => none) = _
    rw [this]
    rfl
theorem mapOf_few {os : List (Option AObj)} {i c : Nat} {own : Bool} {es : List (V × V × Nat)} (h : (os[i]?).join = some (.map own es c)) : mapOf (few os) (.map (some i)) = some es := by
  unfold mapOf
  dsimp only
  rw [few_get, h]
theorem entry_few {os : List (Option AObj)} {i : Nat} {kvs : List (List Nat × V)} {t : List Nat} {zero : V} (h : (os[i]?).join = some (.map true (entsF 0 kvs) kvs.length)) (hne : ∀ kv ∈ kvs, kv.1 ≠ t) :
    entryV (few os) none zero (.map (some i)) (.str t) = some (.tuple [zero, .int .i64 (kvs.length : Int)], few (os.set i (some (.map true (entsF 0 (kvs ++ [(t, zero)])) (kvs.length + 1))))) := by
  unfold entryV
  show sel true _ _ = _
  rw [sel_true]
  dsimp only
  rw [few_get, h]
  dsimp only
  rw [find_no kvs 0 0 hne]
  dsimp only
  rw [few_set h, entsF_snoc, Nat.zero_add]
  rfl
theorem estore_few {os : List (Option AObj)} {i : Nat} {kvs : List (List Nat × V)} {t : List Nat} {z x : V} (h : (os[i]?).join = some (.map true (entsF 0 (kvs ++ [(t, z)])) (kvs.length + 1))) (hp : x.plain = true) :
    estoreV (few os) (.map (some i)) (some kvs.length) x = some (V.undef, few (os.set i (some (.map true (entsF 0 (kvs ++ [(t, x)])) (kvs.length + 1))))) := by
  unfold estoreV
  dsimp only
  rw [few_get, h]
  dsimp only
  have := setBorn_last (x := z) (y := x) (t := t) kvs 0
  rw [Nat.zero_add] at this
  rw [entsF_snoc, Nat.zero_add]
  dsimp only
  rw [this]
  dsimp only
  rw [hp, sel_true, few_set h, entsF_snoc, Nat.zero_add]

/- LAWS OF WHAT IS SEEN, WHOSE ANSWERS LEAD TO THEIR OWN OBJECTS -/
def MonoN (spec : Nat → Sight → List V → Option Ans) : Prop := ∀ n, Mono (spec n)
noncomputable def sightRdN (spec : Nat → Sight → List V → Option Ans) : List V → St → Option Ans := fun args st => if goods st.next args = true then spec st.next st.look args else none
theorem sightRdN_reads {spec : Nat → Sight → List V → Option Ans} (hm : MonoN spec) : Reads (sightRdN spec) := by
  intro args s s' g a h he
  unfold sightRdN at h ⊢
  split at h
  · rename_i hg
    rw [he.next, if_pos hg]
    exact hm _ _ _ _ _ (fun i o ho => look_ext he ho) h
  · cases h
theorem Sound.sightN {P : Program} {call : CallT} (hmix : P.follows .mixedOrders = true) (h : Sound P call) {g : Nat} {fn : AFunc} (lf : Nat) (hc : compF P g = some fn) {spec : Nat → Sight → List V → Option Ans} (hm : MonoN spec)
    (hrun : ∀ (os : List (Option AObj)) args new f, goods os.length args = true → spec os.length (few os).look args = some (new, f) →
      ∃ s1 v0 σ, enterF call lf args (few os) fn = some (v0, s1) ∧ Left (wayId os.length) os.length (few os) s1 v0 new σ (f os.length)) : Sound P (Vabs.withL call g (lawOf (sightRdN spec))) := by
  refine (h.withL (h.withF hmix lf hc) (sightRdN_reads hm) fun args st os f hx => ?_)
  unfold sightRdN at hx
  split at hx
  · rename_i hg
    obtain ⟨s1, v0, σ, h1, h2⟩ := hrun (frozen st) args os f (by rw [frozen_len]; exact hg) (by rw [frozen_len, frozen_look]; exact hx)
    refine ⟨wayId st.next, args, few (frozen st), s1, v0, σ, by rw [withF_same]; exact h1, seen_frozen hg, ?_⟩
    rw [frozen_len] at h2
    exact h2
  · cases hx
theorem sightN_call {call : CallT} {g : Nat} {spec : Nat → Sight → List V → Option Ans} {args : List V} {st : St} (hg : goods st.next args = true) :
    withL call g (lawOf (sightRdN spec)) g args st = lawOut (spec st.next st.look args) st := by
  rw [withL_same]
  show lawOut (sightRdN spec args st) st = _
  unfold sightRdN
  rw [if_pos hg]
theorem allocL_few : ∀ (new : List AObj) (os : List (Option AObj)), allocL new (few os) = some (few (os ++ new.map some))
  | [], os => by simp [allocL]
  | o :: new, os => by
    show (match (few os).alloc o with | some (_, s) => allocL new s | none => none) = _
    rw [few_alloc]
    dsimp only
    rw [allocL_few new, List.append_assoc]
    rfl
theorem lawOut_few {new : List AObj} {f : Nat → V} {os : List (Option AObj)} : lawOut (some (new, f)) (few os) = some (f os.length, few (os ++ new.map some)) := by
  show (match allocL new (few os) with | some st' => some (f (few os).next, st') | none => none) = _
  rw [allocL_few]
  rfl
end Go.Vabs
