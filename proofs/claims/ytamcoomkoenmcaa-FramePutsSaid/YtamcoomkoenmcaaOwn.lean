/- Rows of a call's own, in one another. -/
import Derived.Test.YtamcoomkoenmcaaW6
import Derived.Test.YtamcoomkoenmcaaTouch
set_option linter.unusedSimpArgs false
set_option linter.unusedVariables false
namespace Go.Proofs.Ytamcoomkoenmcaa
open Go.RowKit Go.Far
/-- Rows of bytes, all of them the call's own. -/
def POwn (w : World) (base : Nat) (v : Value) (ps : List (List UInt8)) : Prop :=
  ∃ xs : List Value, xs.length = ps.length ∧ w.ownsRow base 25 1 v ps.length xs ∧ ∀ k, k < ps.length → w.ownsRow base 5 1 (xs.getD k undef) (ps.getD k []).length ((ps.getD k []).map bv)
theorem POwn.new {w w' : World} {base : Nat} {v : Value} {ps : List (List UInt8)} (h : POwn w base v ps) (hg : New w w') : POwn w' base v ps := by
  obtain ⟨xs, h1, h2, h3⟩ := h
  exact ⟨xs, h1, h2.new hg, fun k hk => (h3 k hk).new hg⟩
/-- Block c is written over. -/
theorem POwn.but {w w' : World} {base : Nat} {v : Value} {ps : List (List UInt8)} (h : POwn w base v ps) {c : Nat} {cur : Array Value} {ec : TypeId} {fr : Nat × Nat} (hc : w.heap[c]? = some (.cells cur ec fr)) (hne : ec ≠ 5) (hv : v.ownBlock ≠ some c)
    (hk : ∀ k, k ≠ c → k < w.heap.size → w'.heap[k]? = w.heap[k]?) : POwn w' base v ps := by
  obtain ⟨xs, h1, h2, h3⟩ := h
  refine ⟨xs, h1, h2.same fun k hkk => hk k (by rintro rfl; exact hv hkk) (h2.elem hkk).2.1, fun j hj => (h3 j hj).same fun k hkk => hk k ?_ ((h3 j hj).elem hkk).2.1⟩
  rintro rfl
  obtain ⟨_, _, c', hc'⟩ := (h3 j hj).elem hkk
  rw [hc] at hc'
  injection hc' with hc'
  injection hc' with _ he _
  exact hne he
theorem POwn.low {w : World} {base base' : Nat} {v : Value} {ps : List (List UInt8)} (h : POwn w base v ps) (hb : base' ≤ base) : POwn w base' v ps := by
  obtain ⟨xs, h1, h2, h3⟩ := h
  exact ⟨xs, h1, h2.low hb, fun k hk => (h3 k hk).low hb⟩
theorem POwn.read {w : World} {base : Nat} {v : Value} {ps : List (List UInt8)} (h : POwn w base v ps) : PR w base w.heap.size v ps := by
  obtain ⟨xs, h1, h2, h3⟩ := h
  exact ⟨xs, h1, Row.of_own h2 (by decide), fun k hk => Row.of_own (h3 k hk) (by decide)⟩
theorem POwn.block {w : World} {base : Nat} {v : Value} {ps : List (List UInt8)} (h : POwn w base v ps) {k : Nat} (hk : v.ownBlock = some k) : base ≤ k ∧ k < w.heap.size ∧ ∃ cur, w.heap[k]? = some (.cells cur 25 (0, 0)) := by
  obtain ⟨xs, h1, h2, h3⟩ := h
  exact h2.elem hk
/-- Queues, all of it the call's own, the rows apart. -/
def QOwn (w : World) (base : Nat) (v : Value) (qs : List Qu) : Prop :=
  ∃ us : List Value, us.length = qs.length ∧ w.ownsRow base 61 3 v qs.length (flat qs us) ∧ (∀ i, i < qs.length → POwn w base (us.getD i undef) (qs.getD i default).packs) ∧
    ∀ i j k, i < j → j < qs.length → (us.getD i undef).ownBlock = some k → (us.getD j undef).ownBlock ≠ some k
theorem QOwn.new {w w' : World} {base : Nat} {v : Value} {qs : List Qu} (h : QOwn w base v qs) (hg : New w w') : QOwn w' base v qs := by
  obtain ⟨us, h1, h2, h3, h4⟩ := h
  exact ⟨us, h1, h2.new hg, fun i hi => (h3 i hi).new hg, h4⟩
theorem QOwn.low {w : World} {base base' : Nat} {v : Value} {qs : List Qu} (h : QOwn w base v qs) (hb : base' ≤ base) : QOwn w base' v qs := by
  obtain ⟨us, h1, h2, h3, h4⟩ := h
  exact ⟨us, h1, h2.low hb, fun i hi => (h3 i hi).low hb, h4⟩
theorem QOwn.read {w : World} {base : Nat} {v : Value} {qs : List Qu} (h : QOwn w base v qs) : QR w base w.heap.size v qs := by
  obtain ⟨us, h1, h2, h3, h4⟩ := h
  exact ⟨us, h1, Row.of_own h2 (by decide), fun i hi => (h3 i hi).read⟩
theorem QOwn.nil (w : World) (base : Nat) : QOwn w base (.slice none 0 0) [] := ⟨[], rfl, World.ownsRow_nil _ _ _ _, fun i hi => absurd hi (Nat.not_lt_zero i), fun i j k _ hj => absurd hj (Nat.not_lt_zero j)⟩
theorem QOwn.setLow {w : World} {base : Nat} {v : Value} {qs : List Qu} (h : QOwn w base v qs) {a : Addr} (ha : a.block < base) (u : Value) : QOwn (w.setCell a u) base v qs := by
  obtain ⟨us, h1, h2, h3, h4⟩ := h
  refine ⟨us, h1, ownsRow_setCell_below h2 ha u, fun i hi => ?_, h4⟩
  obtain ⟨xs, p1, p2, p3⟩ := h3 i hi
  exact ⟨xs, p1, ownsRow_setCell_below p2 ha u, fun k hk => ownsRow_setCell_below (p3 k hk) ha u⟩
def SOwn (w : World) (base : Nat) (v : Value) (s : Sd) : Prop := ∃ qv, v = sdVal s qv ∧ QOwn w base qv s.queues
theorem SOwn.new {w w' : World} {base : Nat} {v : Value} {s : Sd} (h : SOwn w base v s) (hg : New w w') : SOwn w' base v s := by
  obtain ⟨qv, h1, h2⟩ := h
  exact ⟨qv, h1, h2.new hg⟩
theorem SOwn.low {w : World} {base base' : Nat} {v : Value} {s : Sd} (h : SOwn w base v s) (hb : base' ≤ base) : SOwn w base' v s := by
  obtain ⟨qv, h1, h2⟩ := h
  exact ⟨qv, h1, h2.low hb⟩
theorem SOwn.read {w : World} {base : Nat} {v : Value} {s : Sd} (h : SOwn w base v s) : SR w base w.heap.size v s := by
  obtain ⟨qv, h1, h2⟩ := h
  exact ⟨qv, h1, h2.read⟩
theorem flat_set : ∀ (qs : List Qu) (us : List Value), us.length = qs.length → ∀ i u, i < qs.length → flat qs (us.set i u) = (flat qs us).set (i * 3 + 1) u
  | [], us, _, i, u, h => by simp at h
  | q :: qs, [], h, _, _, _ => by simp at h
  | q :: qs, x :: us, h, 0, u, _ => by simp [flat]
  | q :: qs, x :: us, h, i + 1, u, hi => by
    have := flat_set qs us (by simpa using h) i u (by simpa using hi)
    simp only [flat, List.set_cons_succ, List.zip_cons_cons, List.flatMap_cons] at this ⊢
    rw [this, show (i + 1) * 3 + 1 = i * 3 + 1 + 1 + 1 + 1 by omega]
    simp
/-- A queue is put in another's place. -/
theorem flat_put : ∀ (qs : List Qu) (us : List Value), us.length = qs.length → ∀ i q u, i < qs.length → flat (qs.set i q) (us.set i u) = (((flat qs us).set (i * 3) (iv q.own)).set (i * 3 + 1) u).set (i * 3 + 2) (iv q.gone)
  | [], us, _, i, q, u, h => by simp at h
  | q :: qs, [], h, _, _, _, _ => by simp at h
  | q :: qs, x :: us, h, 0, _, u, _ => by simp [flat]
  | q :: qs, x :: us, h, i + 1, q', u, hi => by
    have := flat_put qs us (by simpa using h) i q' u (by simpa using hi)
    simp only [flat, List.set_cons_succ, List.zip_cons_cons, List.flatMap_cons] at this ⊢
    rw [this, show (i + 1) * 3 = i * 3 + 1 + 1 + 1 by omega]
    simp
def headB (s : Sd) : Bool := openErr s.craft s.size == 0 && inB s.master 255 && inB s.turn 6 && s.queues.length == 7
def sdB (s : Sd) : Bool := headB s && s.queues.all quB
theorem oneB_length {l : List UInt8} (h : oneB l = true) : l.length ≤ 65542 := by
  unfold oneB at h
  rw [decide_eq_true_eq] at h
  have h1 := at8_lt l 4
  have h2 := at8_lt l 5
  have h3 := h.2
  unfold pkLen at h3
  omega
theorem quB_packs {q : Qu} (h : quB q = true) : q.packs.length ≤ 200 ∧ ∀ k, k < q.packs.length → (q.packs.getD k []).length ≤ 65542 := by
  simp only [quB, Bool.and_eq_true, decide_eq_true_eq, List.all_eq_true] at h
  refine ⟨h.1.1.2, fun k hk => oneB_length (h.1.2 _ ?_)⟩
  have : q.packs.getD k [] = q.packs[k] := by simp [hk]
  rw [this]; exact List.getElem_mem hk
def sd0 : Sd := ⟨0, 0, 0, 0, []⟩
end Go.Proofs.Ytamcoomkoenmcaa
