/- own: what its loops keep. -/
import Derived.Test.YtamcoomkoenmcaaOwn
set_option linter.unusedSimpArgs false
set_option linter.unusedVariables false
namespace Go.Proofs.Ytamcoomkoenmcaa
open Go.RowKit Go.Far
/-- What own hands back. -/
def OwnRes (w : World) (s : Sd) (r : Value) (w' : World) : Prop :=
  New w w' ∧ ((sdB s = false ∧ r = .tuple #[sdVal sd0 (.slice none 0 0), .bool false]) ∨ (sdB s = true ∧ ∃ qv, r = .tuple #[sdVal s qv, .bool true] ∧ QOwn w' w.heap.size qv s.queues))
theorem headB_true {s : Sd} (h1 : openErr s.craft s.size = 0) (h2 : inB s.master 255 = true) (h3 : inB s.turn 6 = true) (h4 : s.queues.length = 7) : headB s = true := by
  simp [headB, h1, h2, h3, h4]
theorem sdB_head {s : Sd} (h : headB s = false) : sdB s = false := by simp [sdB, h]
theorem flat_cells {w : World} {lo hi : Nat} {qs : List Qu} {us : List Value} (h : ∀ i, i < qs.length → PR w lo hi (us.getD i undef) (qs.getD i default).packs) : ∀ y ∈ flat qs us, y.oneCell' = true := by
  intro y hy
  simp only [flat, List.mem_flatMap, List.mem_cons, List.not_mem_nil, or_false] at hy
  obtain ⟨⟨q, u⟩, hx, rfl | rfl | rfl⟩ := hy
  · rfl
  · obtain ⟨i, hi, he⟩ := List.mem_iff_getElem.1 hx
    simp only [List.length_zip] at hi
    rw [List.getElem_zip] at he
    have h2 : us.getD i undef = y := by rw [List.getD_eq_getElem?_getD, List.getElem?_eq_getElem (by omega)]; simpa using congrArg Prod.snd he
    obtain ⟨xs, _, ⟨p, cap, hv, _⟩, _⟩ := h i (by omega)
    rw [← h2, hv]; rfl
  · rfl
/-- own, in its loop over the queues. -/
def OI (B g c : Nat) (s : Sd) (us0 : List Value) (W1 : World) (i : Nat) (wr : World) : Prop :=
  (∀ j, j < i → quB (s.queues.getD j default) = true) ∧ Below B W1 wr ∧ ∃ us : List Value, us.length = s.queues.length ∧ wr.ownsRow B 61 3 (.slice (some ⟨g, 0, none⟩) 7 c) 7 (flat s.queues us) ∧
    (∀ j, j < i → POwn wr B (us.getD j undef) (s.queues.getD j default).packs) ∧ (∀ j, i ≤ j → us.getD j undef = us0.getD j undef) ∧
    ∀ j j' k, j < j' → j' < i → (us.getD j undef).ownBlock = some k → (us.getD j' undef).ownBlock ≠ some k
/-- own, in its loop over a queue's packets. -/
def II (B : Nat) (pv : Value) (ps : List (List UInt8)) (xs : List Value) (W2 : World) (k : Nat) (wq : World) : Prop :=
  Below B W2 wq ∧ (∀ b, b < W2.heap.size → pv.ownBlock ≠ some b → wq.heap[b]? = W2.heap[b]?) ∧ ∃ ys : List Value, ys.length = ps.length ∧ wq.ownsRow B 25 1 pv ps.length ys ∧
    (∀ j, j < k → wq.ownsRow B 5 1 (ys.getD j undef) (ps.getD j []).length ((ps.getD j []).map bv)) ∧ ∀ j, k ≤ j → ys.getD j undef = xs.getD j undef
theorem getD_set_eq {α : Type} (l : List α) (k : Nat) (x d : α) (h : k < l.length) : (l.set k x).getD k d = x := by simp [h]
theorem getD_set_ne {α : Type} (l : List α) (k j : Nat) (x d : α) (h : k ≠ j) : (l.set k x).getD j d = l.getD j d := by simp [List.getElem?_set_ne h]
theorem II_start {B : Nat} {pv : Value} {ps : List (List UInt8)} {xs : List Value} {W2 : World} (hx : xs.length = ps.length) (h : W2.ownsRow B 25 1 pv ps.length xs) : II B pv ps xs W2 0 W2 :=
  ⟨Below.refl _ _, fun _ _ _ => rfl, xs, hx, h, fun j hj => absurd hj (Nat.not_lt_zero j), fun _ _ => rfl⟩
theorem II_step {B : Nat} {ps : List (List UInt8)} {xs : List Value} {W2 wq w5 : World} {k g c n : Nat} {r : Value} (h : II B (.slice (some ⟨g, 0, none⟩) n c) ps xs W2 k wq) (hn : n = ps.length) (hk : k < ps.length) (hB : B ≤ wq.heap.size) (hg : New wq w5)
    (hr : w5.ownsRow wq.heap.size 5 1 r (ps.getD k []).length ((ps.getD k []).map bv)) : II B (.slice (some ⟨g, 0, none⟩) n c) ps xs W2 (k + 1) (w5.setCell ⟨g, k, none⟩ r) := by
  subst hn
  obtain ⟨h1, h2, ys, h3, h4, h5, h6⟩ := h
  have hgb : B ≤ g := (h4.elem (k := g) rfl).1
  have hs := ((h4.new hg).stored k r).1
  refine ⟨(h1.trans (hg.mono hB)).setCell hgb _, fun b hb hne => ?_, ys.set k r, by simpa using h3, hs, fun j hj => ?_, fun j hj => ?_⟩
  · rw [Below.heap_setCell _ _ _ _ (by rintro rfl; exact hne rfl), hg.block b (Nat.lt_of_lt_of_le hb h1.size), h2 b hb hne]
  · by_cases hjk : j = k
    · subst hjk
      rw [getD_set_eq _ _ _ _ (by omega)]
      exact own_setCell (a := ⟨g, j, none⟩) (hr.low hB) (fun hc => own_ne hr (h4.new hg) (by decide) hc rfl) _
    · rw [getD_set_ne _ _ _ _ _ (by omega)]
      have hj' := (h5 j (by omega)).new hg
      exact own_setCell (a := ⟨g, k, none⟩) hj' (fun hc => own_ne hj' (h4.new hg) (by decide) hc rfl) _
  · rw [getD_set_ne _ _ _ _ _ (by omega)]
    exact h6 j (by omega)
theorem OI_step {B g c : Nat} {s : Sd} {us0 : List Value} {W1 wr w3 wq : World} {i : Nat} {pv : Value} {xs : List Value} (h : OI B g c s us0 W1 i wr) (hi : i < 7) (h7 : s.queues.length = 7) (hB : B ≤ wr.heap.size)
    (hq : quB (s.queues.getD i default) = true) (hg : New wr w3) (hp : w3.ownsRow wr.heap.size 25 1 pv (s.queues.getD i default).packs.length xs)
    (hI : II B pv (s.queues.getD i default).packs xs (w3.setCell ⟨g, i * 3 + 1, none⟩ pv) (s.queues.getD i default).packs.length wq) : OI B g c s us0 W1 (i + 1) wq := by
  obtain ⟨h1, h2, us, h3, h4, h5, h6, h7'⟩ := h
  obtain ⟨i1, i2, ys, i3, i4, i5, i6⟩ := hI
  have hgb : B ≤ g := (h4.elem (k := g) rfl).1
  have hgs : g < wr.heap.size := (h4.elem (k := g) rfl).2.1
  have hs := ((h4.new hg).stored (i * 3 + 1) pv).1
  rw [← flat_set _ _ h3 i pv (by omega)] at hs
  have hsz : (w3.setCell ⟨g, i * 3 + 1, none⟩ pv).heap.size = w3.heap.size := by simp [World.setCell]
  have hpg : pv.ownBlock ≠ some g := fun hc => own_ne hp (h4.new hg) (by decide) hc rfl
  have hpb : ∀ k, pv.ownBlock = some k → wr.heap.size ≤ k := fun k hk => (hp.elem hk).1
  -- what another block was in wr, it is in wq
  have hkeep : ∀ b, b < wr.heap.size → b ≠ g → wq.heap[b]? = wr.heap[b]? := fun b hb hne => by
    rw [i2 b (by rw [hsz]; exact Nat.lt_of_lt_of_le hb hg.size) (fun hc => absurd (hpb b hc) (by omega)), Below.heap_setCell _ _ _ _ hne, hg.block b hb]
  refine ⟨fun j hj => ?_, ((h2.trans (hg.mono hB)).setCell hgb _).trans i1, us.set i pv, by simpa using h3, ?_, fun j hj => ?_, fun j hj => ?_, fun j j' k hjj hj' hk => ?_⟩
  · by_cases hji : j = i
    · subst hji; exact hq
    · exact h1 j (by omega)
  · refine hs.same fun k hk => i2 k ?_ ?_
    · exact (hs.elem hk).2.1
    · intro hc
      have hk' : g = k := by simpa [Value.ownBlock] using hk
      subst hk'
      exact hpg hc
  · by_cases hji : j = i
    · subst hji
      rw [getD_set_eq _ _ _ _ (by omega)]
      exact ⟨ys, i3, i4, i5⟩
    · rw [getD_set_ne _ _ _ _ _ (by omega)]
      obtain ⟨cur, hcur⟩ := (h4.elem (k := g) rfl).2.2
      refine (h5 j (by omega)).but hcur (by decide) (fun hc => ?_) (fun k hk hks => hkeep k hks hk)
      obtain ⟨_, _, cur', hcur'⟩ := (h5 j (by omega)).block hc
      rw [hcur] at hcur'
      injection hcur' with hcur'
      injection hcur' with _ he _
      exact absurd he (by decide)
  · rw [getD_set_ne _ _ _ _ _ (by omega)]; exact h6 j (by omega)
  · by_cases hji : j' = i
    · subst hji
      rw [getD_set_ne _ _ _ _ _ (by omega)] at hk
      rw [getD_set_eq _ _ _ _ (by omega)]
      intro hc
      have := hpb k hc
      have := ((h5 j hjj).block hk).2.1
      omega
    · rw [getD_set_ne _ _ _ _ _ (by omega)] at hk
      rw [getD_set_ne _ _ _ _ _ (by omega)]
      exact h7' j j' k hjj (by omega) hk
theorem sdB_bad {s : Sd} {i : Nat} (hi : i < s.queues.length) (h : quB (s.queues.getD i default) = false) : sdB s = false := by
  have : s.queues.all quB = false := by
    rw [List.all_eq_false]
    have e : s.queues.getD i default = s.queues[i] := by simp [hi]
    rw [e] at h
    exact ⟨s.queues[i], List.getElem_mem hi, by rw [h]; decide⟩
  simp [sdB, this]
theorem sdB_all {s : Sd} (hh : headB s = true) (h : ∀ j, j < s.queues.length → quB (s.queues.getD j default) = true) : sdB s = true := by
  have : s.queues.all quB = true := by
    rw [List.all_eq_true]
    intro x hx
    obtain ⟨j, hj, rfl⟩ := List.mem_iff_getElem.1 hx
    have := h j hj
    simpa [hj] using this
  simp [sdB, hh, this]
theorem rows_cells {w : World} {lo hi : Nat} {ps : List (List UInt8)} {xs : List Value} (hl : xs.length = ps.length) (h : ∀ k, k < ps.length → Row w lo hi (xs.getD k undef) (ps.getD k []).length ((ps.getD k []).map bv)) : ∀ y ∈ xs, y.oneCell' = true := by
  intro y hy
  obtain ⟨j, hj, rfl⟩ := List.mem_iff_getElem.1 hy
  obtain ⟨p, cap, hv, _⟩ := h j (by omega)
  have e : xs.getD j undef = xs[j] := by simp [hj]
  rw [← e, hv]; rfl
theorem OI_end {B g c : Nat} {s : Sd} {us0 : List Value} {W1 wr : World} (h : OI B g c s us0 W1 7 wr) (h7 : s.queues.length = 7) : QOwn wr B (.slice (some ⟨g, 0, none⟩) 7 c) s.queues := by
  obtain ⟨h1, h2, us, h3, h4, h5, h6, h7'⟩ := h
  exact ⟨us, h3, by rw [h7]; exact h4, fun i hi => h5 i (by omega), fun i j k hij hj hk => h7' i j k hij (by omega) hk⟩
end Go.Proofs.Ytamcoomkoenmcaa
