/-
  Chapter 15: the numbers of a font, where its glyphs stand.
-/
import Derived.Test.YtbppdahfdjkecaaVabsSu
namespace Go.Vabs.Na
set_option linter.unusedVariables false
set_option linter.unusedSimpArgs false
set_option maxRecDepth 10000
def Read_c (n_Table : Nat) (n_U16 : Nat) (n_I16 : Nat) : AFunc := AFunc.mk 84 (.seq (.reg [AOper.mk (some (.i .h)) (.alloc [.int .i64 (.ofNat 0), .int .i64 (.ofNat 0), .bool false]) none, AOper.mk (some (.o (.o .h))) (.mv (.c (.int .i64 (.ofNat 0)))) none]) (.seq (.seq (.reg [AOper.mk (some (.i (.i (.i .h)))) (.bin .eql (.nils .ptr) (.t .h) (.c (.ptr none))) none]) (.cond (.t (.i (.i (.i .h)))) (.seq (.reg [AOper.mk (some (.o (.o (.o (.o .h))))) (.build [.int .i64 (.ofNat 0), .int .i64 (.ofNat 0), .bool false] []) none, AOper.mk none (.store 3 (.t (.i .h)) (.t (.o (.o (.o (.o .h)))))) none, AOper.mk (some (.o (.o .h))) (.mv (.c (.int .i64 (.ofNat 1)))) none]) .ret) .skip)) (.seq (.reg [AOper.mk (some (.i (.i (.o (.o .h))))) (.call n_Table [.t .h, .c (.str [104, 101, 97, 100])]) none, AOper.mk (some (.o (.o (.i (.o .h))))) (.extract (.t (.i (.i (.o (.o .h))))) 0) none, AOper.mk (some (.i (.o (.i (.o .h))))) (.extract (.t (.i (.i (.o (.o .h))))) 1) none, AOper.mk (some (.i (.o .h))) (.mv (.t (.o (.o (.i (.o .h)))))) none, AOper.mk (some (.o (.i .h))) (.mv (.t (.i (.o (.i (.o .h)))))) none]) (.seq (.reg [AOper.mk (some (.o (.o (.o (.i .h))))) (.call n_U16 [.t (.i (.o .h)), .c (.int .i64 (.ofNat 18))]) none, AOper.mk (some (.i (.o (.o (.i .h))))) (.extract (.t (.o (.o (.o (.i .h))))) 0) none, AOper.mk (some (.o (.i (.o (.i .h))))) (.extract (.t (.o (.o (.o (.i .h))))) 1) none, AOper.mk (some (.i (.i .h))) (.mv (.t (.i (.o (.o (.i .h)))))) none, AOper.mk (some (.o (.o (.o .h)))) (.mv (.t (.o (.i (.o (.i .h)))))) none]) (.seq (.reg [AOper.mk (some (.i (.o (.i (.i .h))))) (.call n_I16 [.t (.i (.o .h)), .c (.int .i64 (.ofNat 50))]) none, AOper.mk (some (.o (.i (.i (.i .h))))) (.extract (.t (.i (.o (.i (.i .h))))) 0) none, AOper.mk (some (.i (.i (.i (.i .h))))) (.extract (.t (.i (.o (.i (.i .h))))) 1) none, AOper.mk (some (.i (.o (.o .h)))) (.mv (.t (.o (.i (.i (.i .h)))))) none, AOper.mk (some (.o (.i (.o .h)))) (.mv (.t (.i (.i (.i (.i .h)))))) none]) (.seq (.block 0 (.seq (.reg [AOper.mk (some (.o (.i (.o (.o (.o .h)))))) (.un .not (.t (.o (.i .h)))) none, AOper.mk (some (.o (.o (.o (.o (.o .h)))))) (.mv (.t (.o (.i (.o (.o (.o .h))))))) none]) (.cond (.t (.o (.o (.o (.o (.o .h)))))) (.seq (.reg [AOper.mk (some (.i (.i (.o (.o (.o .h)))))) (.build [.int .i64 (.ofNat 0), .int .i64 (.ofNat 0), .bool false] []) none, AOper.mk none (.store 3 (.t (.i .h)) (.t (.i (.i (.o (.o (.o .h))))))) none, AOper.mk (some (.o (.o .h))) (.mv (.c (.int .i64 (.ofNat 6)))) none]) .ret) (.seq (.reg [AOper.mk (some (.o (.i (.i (.o (.o .h)))))) (.len .slice (.t (.i (.o .h)))) none, AOper.mk (some (.i (.i (.i (.o (.o .h)))))) (.bin .lss (.val .int) (.t (.o (.i (.i (.o (.o .h)))))) (.c (.int .i64 (.ofNat 54)))) none, AOper.mk (some (.o (.o (.i (.o (.o .h)))))) (.mv (.t (.i (.i (.i (.o (.o .h))))))) none]) (.cond (.t (.o (.o (.i (.o (.o .h)))))) (.seq (.reg [AOper.mk (some (.o (.o (.o (.i (.o .h)))))) (.build [.int .i64 (.ofNat 0), .int .i64 (.ofNat 0), .bool false] []) none, AOper.mk none (.store 3 (.t (.i .h)) (.t (.o (.o (.o (.i (.o .h))))))) none, AOper.mk (some (.o (.o .h))) (.mv (.c (.int .i64 (.ofNat 3)))) none]) .ret) (.seq (.reg [AOper.mk (some (.i (.i (.o (.i (.o .h)))))) (.bin .lss (.val .int) (.t (.i (.i .h))) (.c (.int .i64 (.ofNat 16)))) none, AOper.mk (some (.o (.o (.i (.i (.o .h)))))) (.mv (.t (.i (.i (.o (.i (.o .h))))))) none, AOper.mk (some (.o (.i (.i (.i (.o .h)))))) (.bin .gtr (.val .int) (.t (.i (.i .h))) (.c (.int .i64 (.ofNat 16384)))) (some (.o (.o (.i (.i (.o .h)))), false)), AOper.mk (some (.i (.i (.i (.i (.o .h)))))) (.pick (.t (.o (.o (.i (.i (.o .h)))))) (.c (.bool true)) (.t (.o (.i (.i (.i (.o .h))))))) none, AOper.mk (some (.o (.o (.o (.o (.i .h)))))) (.mv (.t (.i (.i (.i (.i (.o .h))))))) none, AOper.mk (some (.o (.i (.o (.o (.i .h)))))) (.bin .lss (.val .int) (.t (.i (.o (.o .h)))) (.c (.int .i64 (.ofNat 0)))) (some (.o (.o (.o (.o (.i .h)))), false)), AOper.mk (some (.i (.i (.o (.o (.i .h)))))) (.pick (.t (.o (.o (.o (.o (.i .h)))))) (.c (.bool true)) (.t (.o (.i (.o (.o (.i .h))))))) none, AOper.mk (some (.o (.o (.i (.o (.i .h)))))) (.mv (.t (.i (.i (.o (.o (.i .h))))))) none, AOper.mk (some (.o (.i (.i (.o (.i .h)))))) (.bin .gtr (.val .int) (.t (.i (.o (.o .h)))) (.c (.int .i64 (.ofNat 1)))) (some (.o (.o (.i (.o (.i .h)))), false)), AOper.mk (some (.i (.i (.i (.o (.i .h)))))) (.pick (.t (.o (.o (.i (.o (.i .h)))))) (.c (.bool true)) (.t (.o (.i (.i (.o (.i .h))))))) none, AOper.mk (some (.i (.o (.o (.i (.o .h)))))) (.mv (.t (.i (.i (.i (.o (.i .h))))))) none]) (.cond (.t (.i (.o (.o (.i (.o .h)))))) (.seq (.reg [AOper.mk (some (.o (.o (.o (.i (.i .h)))))) (.build [.int .i64 (.ofNat 0), .int .i64 (.ofNat 0), .bool false] []) none, AOper.mk none (.store 3 (.t (.i .h)) (.t (.o (.o (.o (.i (.i .h))))))) none, AOper.mk (some (.o (.o .h))) (.mv (.c (.int .i64 (.ofNat 2)))) none]) .ret) .skip))))))) (.seq (.reg [AOper.mk (some (.i (.i (.o (.i (.i .h)))))) (.call n_Table [.t .h, .c (.str [109, 97, 120, 112])]) none, AOper.mk (some (.o (.o (.i (.i (.i .h)))))) (.extract (.t (.i (.i (.o (.i (.i .h)))))) 0) none, AOper.mk (some (.i (.o (.i (.i (.i .h)))))) (.extract (.t (.i (.i (.o (.i (.i .h)))))) 1) none, AOper.mk (some (.i (.i (.o .h)))) (.mv (.t (.o (.o (.i (.i (.i .h))))))) none, AOper.mk (some (.o (.i .h))) (.mv (.t (.i (.o (.i (.i (.i .h))))))) none]) (.seq (.reg [AOper.mk (some (.o (.o (.o (.o (.o (.o .h))))))) (.call n_U16 [.t (.i (.i (.o .h))), .c (.int .i64 (.ofNat 4))]) none, AOper.mk (some (.i (.o (.o (.o (.o (.o .h))))))) (.extract (.t (.o (.o (.o (.o (.o (.o .h))))))) 0) none, AOper.mk (some (.o (.i (.o (.o (.o (.o .h))))))) (.extract (.t (.o (.o (.o (.o (.o (.o .h))))))) 1) none, AOper.mk (some (.o (.o (.i .h)))) (.mv (.t (.i (.o (.o (.o (.o (.o .h)))))))) none, AOper.mk (some (.i (.o (.i .h)))) (.mv (.t (.o (.i (.o (.o (.o (.o .h)))))))) none]) (.seq (.block 1 (.seq (.reg [AOper.mk (some (.i (.o (.i (.o (.o (.o .h))))))) (.un .not (.t (.o (.i .h)))) none, AOper.mk (some (.i (.i (.o (.o (.o (.o .h))))))) (.mv (.t (.i (.o (.i (.o (.o (.o .h)))))))) none]) (.cond (.t (.i (.i (.o (.o (.o (.o .h))))))) (.seq (.reg [AOper.mk (some (.o (.i (.i (.o (.o (.o .h))))))) (.build [.int .i64 (.ofNat 0), .int .i64 (.ofNat 0), .bool false] []) none, AOper.mk none (.store 3 (.t (.i .h)) (.t (.o (.i (.i (.o (.o (.o .h)))))))) none, AOper.mk (some (.o (.o .h))) (.mv (.c (.int .i64 (.ofNat 6)))) none]) .ret) (.seq (.reg [AOper.mk (some (.i (.o (.o (.i (.o (.o .h))))))) (.len .slice (.t (.i (.i (.o .h))))) none, AOper.mk (some (.o (.i (.o (.i (.o (.o .h))))))) (.bin .lss (.val .int) (.t (.i (.o (.o (.i (.o (.o .h))))))) (.c (.int .i64 (.ofNat 6)))) none, AOper.mk (some (.i (.i (.i (.o (.o (.o .h))))))) (.mv (.t (.o (.i (.o (.i (.o (.o .h)))))))) none]) (.cond (.t (.i (.i (.i (.o (.o (.o .h))))))) (.seq (.reg [AOper.mk (some (.i (.i (.o (.i (.o (.o .h))))))) (.build [.int .i64 (.ofNat 0), .int .i64 (.ofNat 0), .bool false] []) none, AOper.mk none (.store 3 (.t (.i .h)) (.t (.i (.i (.o (.i (.o (.o .h)))))))) none, AOper.mk (some (.o (.o .h))) (.mv (.c (.int .i64 (.ofNat 3)))) none]) .ret) (.seq (.reg [AOper.mk (some (.o (.i (.i (.i (.o (.o .h))))))) (.bin .eql (.val .int) (.t (.o (.o (.i .h)))) (.c (.int .i64 (.ofNat 0)))) none, AOper.mk (some (.o (.o (.i (.i (.o (.o .h))))))) (.mv (.t (.o (.i (.i (.i (.o (.o .h)))))))) none]) (.cond (.t (.o (.o (.i (.i (.o (.o .h))))))) (.seq (.reg [AOper.mk (some (.i (.i (.i (.i (.o (.o .h))))))) (.build [.int .i64 (.ofNat 0), .int .i64 (.ofNat 0), .bool false] []) none, AOper.mk none (.store 3 (.t (.i .h)) (.t (.i (.i (.i (.i (.o (.o .h)))))))) none, AOper.mk (some (.o (.o .h))) (.mv (.c (.int .i64 (.ofNat 2)))) none]) .ret) .skip))))))) (.seq (.reg [AOper.mk (some (.i (.i (.o (.o (.i (.o .h))))))) (.bin .eql (.val .int) (.t (.i (.o (.o .h)))) (.c (.int .i64 (.ofNat 1)))) none, AOper.mk (some (.o (.o (.i (.o (.i (.o .h))))))) (.build [.int .i64 (.ofNat 0), .int .i64 (.ofNat 0), .bool false] [(0, (1, .t (.i (.i .h)))), (1, (1, .t (.o (.o (.i .h))))), (2, (1, .t (.i (.i (.o (.o (.i (.o .h))))))))]) none, AOper.mk none (.store 3 (.t (.i .h)) (.t (.o (.o (.i (.o (.i (.o .h)))))))) none, AOper.mk (some (.o (.o .h))) (.mv (.c (.int .i64 (.ofNat 0)))) none]) .ret)))))))))) [.cell (.i .h) true 3, .tmp (.o (.o .h))]
def Font_c (n_RLay : Nat) : AFunc := AFunc.mk 14 (.seq (.reg [AOper.mk (some (.i (.o .h))) (.mv (.c (.slice none 0 0 0 true))) none]) (.seq (.reg [AOper.mk (some (.i (.i (.o .h)))) (.call n_RLay [.t .h, .t (.o .h)]) none, AOper.mk (some (.o (.o (.i .h)))) (.extract (.t (.i (.i (.o .h)))) 0) none, AOper.mk (some (.i (.o (.i .h)))) (.extract (.t (.i (.i (.o .h)))) 1) none, AOper.mk (some (.o (.i .h))) (.mv (.t (.o (.o (.i .h))))) none, AOper.mk (some (.i (.i .h))) (.mv (.t (.i (.o (.i .h))))) none]) (.seq (.reg [AOper.mk (some (.i (.o .h))) (.mv (.t (.o (.i .h)))) none]) .ret))) [.tmp (.i (.o .h))]
attribute [local simp] wp_skip wp_ret wp_exit wp_reg wp_seq wp_cond wp_block thenQ_normal thenQ_ret thenQ_exit blockQ_normal blockQ_ret blockQ_exit wpCond_true wpCond_false wpOps_nil wpVal_some wpGuard_true wpGuard_false wpOps_guard wpOps_cons
  put_at put_no ev_c ev_slot posEq_h posEq_o posEq_i posEq_ho posEq_hi posEq_oh posEq_ih posEq_oi posEq_io sel_true sel_false
  okv_some step_mv step_call step_pick pickV_bool step_bin bin_add bin_sub bin_mul bin_eql bin_neq bin_lss bin_leq bin_gtr bin_geq bin_eqb bin_neb bin_eqs bin_nes step_un un_not un_neg step_len len_slice len_str len_const step_extract extractV nth step_convInt conv_int step_convStr step_slice step_idxAddr natOf_nat step_load step_index step_field step_fieldAddr step_build step_minmax
  step_alloc step_bslice bsliceV_some newV_some step_store step_append boolIs_b boolIs_t finQ_ret finQ_normal ressE_nil ressE_cons resE_tmp consO_some initE_nil initE_cons pos_0 pos_1 pos_2 pos_3 pos_4 pos_5 pos_6 pos_7 pos_8 plain_bool plain_int plain_str plain_ptr plain_slice plain_map plain_agg plain_func plain_nilFunc V.undef oneOf_one oneOf_two ble_self
open Go.Vabs.Pk Go.Vabs.Ph Go.Vabs.Sa Go.Vabs.Sb Go.Vabs.Sc Go.Vabs.Sd Go.Vabs.Se Go.Vabs.Sg Go.Vabs.Sh Go.Vabs.Sm Go.Vabs.Sn Go.Vabs.Sp Go.Vabs.Sr Go.Vabs.St Go.Vabs.Su Go.Vabs.L2
attribute [local simp] step_nilchk nilchk_ptr step_box cells_int cells_bool cells_str cells_slice cells_ptr cells_agg fieldAddrV natOf_zero fill repN splice over newV step_appendZ
/- WHAT TABLES TELL -/
def askL (L : List Itm) (t : List Nat) : Option (List Nat) := (L.find? fun x => decide (x.1 = t)).map (·.2)
theorem ask_some {L : List Itm} {t b : List Nat} (h : askL L t = some b) : ∃ j : Nat, L[j]? = some (t, b) := by
  unfold askL at h
  obtain ⟨x, hx, rfl⟩ := Option.map_eq_some_iff.1 h
  have h1 := List.mem_of_find?_eq_some hx
  have h2 := List.find?_some hx
  simp only [decide_eq_true_eq] at h2
  obtain ⟨j, hj, he⟩ := List.mem_iff_getElem.1 h1
  exact ⟨j, by rw [List.getElem?_eq_getElem hj, he, ← h2]⟩
theorem ask_none {L : List Itm} {t : List Nat} (h : askL L t = none) : ¬ t ∈ L.map (·.1) := by
  unfold askL at h
  rw [Option.map_eq_none_iff, List.find?_eq_none] at h
  intro hm
  obtain ⟨x, hx, rfl⟩ := List.mem_map.1 hm
  exact h x hx (by simp)
/-- A font's tables are few bytes. -/
structure Tame (L : List Itm) : Prop where
  nd : (L.map (·.1)).Nodup
  few : L.length ≤ 64
  tabs : ∀ x ∈ L, x.2.length ≤ 140737488354000 ∧ ∀ b ∈ x.2, b < 256
theorem Tame.ask {L : List Itm} (h : Tame L) {t b : List Nat} (ha : askL L t = some b) : b.length ≤ 140737488354000 ∧ ∀ x ∈ b, x < 256 := by
  obtain ⟨j, hj⟩ := ask_some ha
  exact h.tabs _ (List.mem_of_getElem? hj)
theorem held_bytes {os : List (Option AObj)} {p : Nat} {b : List Nat} (h : (os[p]?).join = some (newBytes b)) (hb : ∀ x ∈ b, x < 256) : bytesAt (few os) (heldV p b) = some b := lookB_at (lookB_own h hb).2
/-- A table that is asked of the program's font. -/
theorem ask_font {call : CallT} {g : Nat} (hT : TableF call g) (hN : TableNF call g) {os : List (Option AObj)} {F : Nat} {L : List Itm} (h : FontMem os F L) (hL : Tame L) (t : List Nat) :
    ∃ v l, call g [.ptr (some (F, 0)), .str t] (few os) = some (.tuple [v, .bool (askL L t).isSome], few (os ++ l)) ∧ v.plain = true ∧ bytesAt (few (os ++ l)) v = some ((askL L t).getD []) ∧ ∀ b, askL L t = some b → ∃ p, v = heldV p b ∧ ((os ++ l)[p]?).join = some (newBytes b) := by
  cases ha : askL L t with
  | none => exact ⟨_, [], by rw [List.append_nil]; exact h.no hN (ask_none ha), rfl, rfl, fun b hb => by cases hb⟩
  | some b =>
    obtain ⟨j, hj⟩ := ask_some ha
    obtain ⟨hb1, hb2⟩ := hL.ask ha
    have h1 := h.table hT hL.nd hj (show b.length ≤ _ by omega)
    obtain ⟨p, l, hcl, _, hp⟩ := clone_held (os := os) (b := b)
    rw [hcl] at h1
    exact ⟨_, l, h1, rfl, held_bytes hp hb2, fun b' hb' => by cases hb'; exact ⟨p, rfl, hp⟩⟩
/- THE NUMBERS OF A FONT -/
abbrev Met := Int × Int × Bool
def mV (m : Met) : V := .agg [.int .i64 m.1, .int .i64 m.2.1, .bool m.2.2]
def z3 : Met := (0, 0, false)
def tHead : List Nat := [104, 101, 97, 100]
def tMaxp : List Nat := [109, 97, 120, 112]
def nm (b : List Nat) (x : Int) (z : Nat) : Nat := (num b x z).getD 0
def readS (L : List Itm) : Met × Int :=
  match askL L tHead with
  | none => (z3, 6)
  | some h => if h.length < 54 then (z3, 3) else if nm h 18 2 < 16 ∨ 16384 < nm h 18 2 ∨ 1 < nm h 50 2 then (z3, 2) else
    match askL L tMaxp with
    | none => (z3, 6)
    | some p => if p.length < 6 then (z3, 3) else if nm p 4 2 = 0 then (z3, 2) else ((nm h 18 2, nm p 4 2, decide (nm h 50 2 = 1)), 0)
def ReadF (call : CallT) (g : Nat) : Prop := ∀ os F L, FontMem os F L → Tame L → ∃ l, call g [.ptr (some (F, 0))] (few os) = some (.tuple [mV (readS L).1, .int .i64 (readS L).2], few (os ++ l))
theorem nm2_lt {b : List Nat} (hb : ∀ x ∈ b, x < 256) {x : Int} : nm b x 2 < 65536 := by
  have := num_lt (bs := b) (x := x) (z := 2) hb
  exact this
set_option maxHeartbeats 4000000 in
theorem Read_run {call : CallT} {lf nT nU nI : Nat} (hT : TableF call nT) (hN : TableNF call nT) (hU : UF 2 call nU) (hI : IF 2 call nI) {os : List (Option AObj)} {F : Nat} {L : List Itm} (h : FontMem os F L) (hL : Tame L) :
    ∃ l, enterF call lf [.ptr (some (F, 0))] (few os) (Read_c nT nU nI) = some (.tuple [mV (readS L).1, .int .i64 (readS L).2], few (os ++ l)) := by
  have main := enter_wp (call := call) (lf := lf) (n := 84) (args := [.ptr (some (F, 0))]) (st := few os) (K := fun u st => (∃ l, st = few (os ++ l)) ∧ u = .tuple [mV (readS L).1, .int .i64 (readS L).2]) (c := (Read_c nT nU nI).code) (rs := (Read_c nT nU nI).results) ?_
  · obtain ⟨u, st', h1, ⟨l, rfl⟩, rfl⟩ := main
    exact ⟨l, h1⟩
  · unfold Read_c
    dsimp only
    obtain ⟨N, hNe⟩ : ∃ N, N = os.length := ⟨_, rfl⟩
    obtain ⟨A, hA⟩ : ∃ A, A = os ++ [some (AObj.cells true [.int .i64 0, .int .i64 0, .bool false])] := ⟨_, rfl⟩
    have alA : (few os).alloc (.cells true [.int .i64 0, .int .i64 0, .bool false]) = some (N, few A) := by rw [hA, hNe]; exact few_alloc os _
    have hfA := h.keep (os' := A) (fun i hi => by rw [hA]; exact join_app hi)
    obtain ⟨v1, l1, t1, p1, b1, _⟩ := ask_font hT hN hfA hL tHead
    -- a store into the answer's cell, then its load
    have fin : ∀ (l : List (Option AObj)) (u n : Int) (y : Bool), ∃ l', storeV (few (A ++ l)) 3 (.ptr (some (N, 0))) (some [.int .i64 u, .int .i64 n, .bool y]) = some (V.undef, few (os ++ l')) ∧ loadV (few (os ++ l')) true 3 (.ptr (some (N, 0))) = some (.agg [.int .i64 u, .int .i64 n, .bool y]) := by
      intro l u n y
      refine ⟨[some (AObj.cells true [.int .i64 u, .int .i64 n, .bool y])] ++ l, ?_, ?_⟩
      · rw [storeAll (k := 3) (zs := [.int .i64 0, .int .i64 0, .bool false]) (os := A ++ l) (i := N) (by rw [join_app (by rw [hA]; simp [hNe]), hA, hNe]; simp) rfl rfl]
        congr 3
        rw [hA, List.append_assoc, List.set_append_right _ _ (by omega), hNe, Nat.sub_self]
        rfl
      · rw [loadAll (k := 3) (cs := [.int .i64 u, .int .i64 n, .bool y]) (own := true) ?_ rfl]
        rw [List.getElem?_append_right (by omega), hNe, Nat.sub_self]
        rfl
    have n1 : ∀ x, call nU [v1, .int .i64 x] (few (A ++ l1)) = some (numV (num ((askL L tHead).getD []) x 2), few (A ++ l1)) := fun x => hU _ _ _ _ b1 (by
      cases ha : askL L tHead with
      | none => simp
      | some b => have := (hL.ask ha).1; simp only [Option.getD_some]; omega)
    have n2 : ∀ x, call nI [v1, .int .i64 x] (few (A ++ l1)) = some (sgnV 2 (num ((askL L tHead).getD []) x 2), few (A ++ l1)) := fun x => hI _ _ _ _ b1 (by
      cases ha : askL L tHead with
      | none => simp
      | some b => have := (hL.ask ha).1; simp only [Option.getD_some]; omega)
    have ln1 := fun st' => len_bytes (st' := st') b1
    unfold readS
    cases ha : askL L tHead with
    | none =>
      rw [ha] at t1 n1 n2
      unfold tHead at t1
      obtain ⟨l', f1, f2⟩ := fin l1 0 0 false
      simp (disch := omega) [alA, t1, p1, n1, n2, numV, sgnV, bin_eqptr, resE_cell, f1, f2]
      exact ⟨⟨l', rfl⟩, rfl⟩
    | some hd =>
      obtain ⟨hdl, hdb⟩ := hL.ask ha
      rw [ha] at t1 n1 n2 ln1
      unfold tHead at t1
      simp only [Option.getD_some] at n1 n2 ln1
      obtain ⟨z, hz⟩ : ∃ z, z = hd.length := ⟨_, rfl⟩
      rw [← hz] at ln1
      obtain ⟨u, hu⟩ : ∃ u, u = nm hd 18 2 := ⟨_, rfl⟩
      obtain ⟨w, hw⟩ : ∃ w, w = nm hd 50 2 := ⟨_, rfl⟩
      have hu2 : u < 65536 := by rw [hu]; exact nm2_lt hdb
      have hw2 : w < 65536 := by rw [hw]; exact nm2_lt hdb
      have n1' : call nU [v1, .int .i64 18] (few (A ++ l1)) = some (.tuple [.int .i64 (u : Int), .bool (num hd 18 2).isSome], few (A ++ l1)) := by rw [n1, hu]; rfl
      obtain ⟨sw, hsw⟩ : ∃ s, s = sgn 2 w := ⟨_, rfl⟩
      have hsw2 : (w ≤ 32767 ∧ sw = w) ∨ (32768 ≤ w ∧ sw = (w : Int) - 65536) := by
        rw [hsw]
        unfold sgn
        by_cases hc : 2 ^ (8 * 2 - 1) ≤ w
        · rw [if_pos hc]
          exact .inr ⟨hc, rfl⟩
        · rw [if_neg hc]
          exact .inl ⟨by have : ¬ 32768 ≤ w := hc; omega, rfl⟩
      have n2' : call nI [v1, .int .i64 50] (few (A ++ l1)) = some (.tuple [.int .i64 sw, .bool (num hd 50 2).isSome], few (A ++ l1)) := by rw [n2, hsw, hw]; rfl
      dsimp only
      rw [← hz, ← hu, ← hw]
      by_cases c1 : z < 54
      · obtain ⟨l', f1, f2⟩ := fin l1 0 0 false
        rw [if_pos c1]
        simp (disch := omega) [alA, t1, p1, n1', n2', ln1, bin_eqptr, resE_cell, f1, f2, dlt_t, dlt_f, dle_t, dle_f, dltn_t, dltn_f, dlen_t, dlen_f, deq_t, deq_f, deqn_t, deqn_f]
        exact ⟨⟨l', rfl⟩, rfl⟩
      rw [if_neg c1]
      by_cases c2 : u < 16 ∨ 16384 < u ∨ 1 < w
      · obtain ⟨l', f1, f2⟩ := fin l1 0 0 false
        rw [if_pos c2]
        by_cases d1 : u < 16
        · simp (disch := omega) [alA, t1, p1, n1', n2', ln1, bin_eqptr, resE_cell, f1, f2, dlt_t, dlt_f, dle_t, dle_f, dltn_t, dltn_f, dlen_t, dlen_f, deq_t, deq_f, deqn_t, deqn_f]
          exact ⟨⟨l', rfl⟩, rfl⟩
        by_cases d2 : 16384 < u
        · simp (disch := omega) [alA, t1, p1, n1', n2', ln1, bin_eqptr, resE_cell, f1, f2, dlt_t, dlt_f, dle_t, dle_f, dltn_t, dltn_f, dlen_t, dlen_f, deq_t, deq_f, deqn_t, deqn_f]
          exact ⟨⟨l', rfl⟩, rfl⟩
        by_cases d3 : sw < 0
        · simp (disch := omega) [alA, t1, p1, n1', n2', ln1, bin_eqptr, resE_cell, f1, f2, dlt_t, dlt_f, dle_t, dle_f, dltn_t, dltn_f, dlen_t, dlen_f, deq_t, deq_f, deqn_t, deqn_f]
          exact ⟨⟨l', rfl⟩, rfl⟩
        · simp (disch := omega) [alA, t1, p1, n1', n2', ln1, bin_eqptr, resE_cell, f1, f2, dlt_t, dlt_f, dle_t, dle_f, dltn_t, dltn_f, dlen_t, dlen_f, deq_t, deq_f, deqn_t, deqn_f]
          exact ⟨⟨l', rfl⟩, rfl⟩
      rw [if_neg c2]
      have hfB := hfA.keep (os' := A ++ l1) (fun i hi => join_app hi)
      obtain ⟨v2, l2, t2, p2, b2, _⟩ := ask_font hT hN hfB hL tMaxp
      rw [List.append_assoc] at t2 b2
      have hsw0 : ¬ sw < 0 := by omega
      have hsw1 : sw = w := by omega
      cases hb : askL L tMaxp with
      | none =>
        rw [hb] at t2 b2
        unfold tMaxp at t2
        have n3 := hU _ _ _ 4 b2 (by simp)
        obtain ⟨l', f1, f2⟩ := fin (l1 ++ l2) 0 0 false
        simp (disch := omega) [alA, t1, p1, n1', n2', ln1, bin_eqptr, resE_cell, f1, f2, dlt_t, dlt_f, dle_t, dle_f, dltn_t, dltn_f, dlen_t, dlen_f, deq_t, deq_f, deqn_t, deqn_f, t2, p2, n3, numV]
        exact ⟨⟨l', rfl⟩, rfl⟩
      | some mp =>
        obtain ⟨mpl, mpb⟩ := hL.ask hb
        rw [hb] at t2 b2
        unfold tMaxp at t2
        simp only [Option.getD_some] at b2
        have ln2 := fun st' => len_bytes (st' := st') b2
        obtain ⟨y, hy⟩ : ∃ y, y = mp.length := ⟨_, rfl⟩
        rw [← hy] at ln2
        obtain ⟨n, hn⟩ : ∃ n, n = nm mp 4 2 := ⟨_, rfl⟩
        have n3 : call nU [v2, .int .i64 4] (few (A ++ (l1 ++ l2))) = some (.tuple [.int .i64 (n : Int), .bool (num mp 4 2).isSome], few (A ++ (l1 ++ l2))) := by rw [hU _ _ _ 4 b2 (by omega), hn]; rfl
        dsimp only
        rw [← hy, ← hn]
        by_cases c3 : y < 6
        · obtain ⟨l', f1, f2⟩ := fin (l1 ++ l2) 0 0 false
          rw [if_pos c3]
          simp (disch := omega) [alA, t1, p1, n1', n2', ln1, bin_eqptr, resE_cell, f1, f2, dlt_t, dlt_f, dle_t, dle_f, dltn_t, dltn_f, dlen_t, dlen_f, deq_t, deq_f, deqn_t, deqn_f, t2, p2, n3, ln2]
          exact ⟨⟨l', rfl⟩, rfl⟩
        rw [if_neg c3]
        by_cases c4 : n = 0
        · obtain ⟨l', f1, f2⟩ := fin (l1 ++ l2) 0 0 false
          rw [if_pos c4]
          simp (disch := omega) [alA, t1, p1, n1', n2', ln1, bin_eqptr, resE_cell, f1, f2, dlt_t, dlt_f, dle_t, dle_f, dltn_t, dltn_f, dlen_t, dlen_f, deq_t, deq_f, deqn_t, deqn_f, t2, p2, n3, ln2]
          exact ⟨⟨l', rfl⟩, rfl⟩
        rw [if_neg c4]
        obtain ⟨l', f1, f2⟩ := fin (l1 ++ l2) u n (decide (sw = 1))
        simp (disch := omega) [alA, t1, p1, n1', n2', ln1, bin_eqptr, resE_cell, f1, f2, dlt_t, dlt_f, dle_t, dle_f, dltn_t, dltn_f, dlen_t, dlen_f, deq_t, deq_f, deqn_t, deqn_f, t2, p2, n3, ln2]
        refine ⟨⟨l', rfl⟩, ?_⟩
        have : decide (sw = 1) = decide (w = 1) := by
          rw [hsw1]
          by_cases e : w = 1
          · subst e; rfl
          · rw [decide_eq_false e, decide_eq_false (by omega)]
        rw [this]
        rfl
theorem ReadF.code {base : CallT} {g lf nT nU nI : Nat} (hT : TableF base nT) (hN : TableNF base nT) (hU : UF 2 base nU) (hI : IF 2 base nI) : ReadF (Vabs.withF base g lf (Read_c nT nU nI)) g := fun os F L h1 h2 => by
  rw [withF_same]; exact Read_run hT hN hU hI h1 h2
/- WHERE A GLYPH STANDS -/
end Go.Vabs.Na
