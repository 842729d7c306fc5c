/- A sender that came in, opened. -/
import Derived.Test.YtamcoomkoenmcaaOpen
import Derived.Test.YtamcoomkoenmcaaW13
set_option linter.unusedSimpArgs false
set_option linter.unusedVariables false
namespace Go.Proofs.Ytamcoomkoenmcaa
open Go.RowKit Go.Far
theorem c3 : Try.prog.cellsOf 3 = 1 := by kernel_rfl
theorem c5 : Try.prog.cellsOf 5 = 1 := by kernel_rfl
theorem c22 : Try.prog.cellsOf 22 = 1 := by kernel_rfl
theorem c24 : Try.prog.cellsOf 24 = 5 := by kernel_rfl
theorem c25 : Try.prog.cellsOf 25 = 1 := by kernel_rfl
theorem c59 : Try.prog.cellsOf 59 = 1 := by kernel_rfl
theorem c61 : Try.prog.cellsOf 61 = 3 := by kernel_rfl
theorem b5 : Try.prog.bytesOf 5 = 1 := by kernel_rfl
theorem b25 : Try.prog.bytesOf 25 = 24 := by kernel_rfl
theorem b61 : Try.prog.bytesOf 61 = 40 := by kernel_rfl
theorem open_bytes {w : World} {cs : List Value} (h : RT Try.prog w 25 cs) : ∃ v, ∃ l : List UInt8, cs = [v] ∧ Row w 0 w.heap.size v l.length (l.map bv) ∧ l.length ≤ reachBytes :=
  rt_bytes Try.underlying25 Try.underlying5 c5 b5 h
theorem open_packs {w : World} {cs : List Value} (h : RT Try.prog w 59 cs) : ∃ v, ∃ ps : List (List UInt8), cs = [v] ∧ PR w 0 w.heap.size v ps ∧ ps.length * 24 ≤ reachBytes ∧ ∀ k, k < ps.length → (ps.getD k []).length ≤ reachBytes := by
  obtain ⟨v, n, V, h1, h2, h3, h4⟩ := rt_row Try.underlying59 c25 (by decide) h
  obtain ⟨l, hl, hx⟩ := exists_list (n := n) (p := fun i (x : Value × List UInt8) => V i = [x.1] ∧ Row w 0 w.heap.size x.1 x.2.length (x.2.map bv) ∧ x.2.length ≤ reachBytes) fun i hi => by
    obtain ⟨v, l, k1, k2, k3⟩ := open_bytes (h4 i hi).2
    exact ⟨(v, l), k1, k2, k3⟩
  subst hl
  have hflat : (List.range l.length).flatMap V = l.map Prod.fst := by
    refine List.ext_getElem? fun i => ?_
    have hf := flatMap_get (V := V) (sz := 1) (n := l.length) fun i hi => (h4 i hi).1
    by_cases hi : i < l.length
    · have := hf.2 i 0 hi (by decide)
      rw [Nat.mul_one, Nat.add_zero] at this
      rw [this, (hx i l[i] (by simp [hi])).1]; simp [hi]
    · rw [List.getElem?_eq_none (by rw [hf.1]; omega), List.getElem?_eq_none (by simp; omega)]
  rw [hflat] at h2
  rw [b25] at h3
  have hk : ∀ k, k < (l.map Prod.snd).length → Row w 0 w.heap.size ((l.map Prod.fst).getD k undef) ((l.map Prod.snd).getD k []).length (((l.map Prod.snd).getD k []).map bv) ∧ ((l.map Prod.snd).getD k []).length ≤ reachBytes := fun k hk => by
    simp only [List.length_map] at hk
    have := (hx k l[k] (by simp [hk])).2
    simpa [hk] using this
  exact ⟨v, l.map Prod.snd, h1, ⟨l.map Prod.fst, by simp, by simpa using h2, fun k hk' => (hk k hk').1⟩, by simpa using h3, fun k hk' => (hk k hk').2⟩
set_option maxRecDepth 100000 in
theorem open_queue {w : World} {cs : List Value} (h : RT Try.prog w 61 cs) : ∃ q : Qu, ∃ u, cs = [iv q.own, u, iv q.gone] ∧ PR w 0 w.heap.size u q.packs ∧ q.packs.length * 24 ≤ reachBytes ∧ ∀ k, k < q.packs.length → (q.packs.getD k []).length ≤ reachBytes := by
  obtain ⟨hl, hf⟩ := rt_struct Try.underlying61 h
  rw [c61] at hl
  match cs, hl with
  | [a0, a1, a2], _ =>
    have f0 := hf 0 _ rfl
    have f1 := hf 1 _ rfl
    have f2 := hf 2 _ rfl
    simp [c3, c59] at f0 f1 f2
    obtain ⟨x0, e0, _⟩ := rt_int Try.underlying3 f0
    obtain ⟨x2, e2, _⟩ := rt_int Try.underlying3 f2
    obtain ⟨v, ps, e1, k1, k2, k3⟩ := open_packs f1
    simp only [List.cons.injEq, and_true] at e0 e1 e2
    subst e0 e1 e2
    exact ⟨⟨x0, ps, x2⟩, _, rfl, k1, k2, k3⟩
theorem open_queues {w : World} {cs : List Value} (h : RT Try.prog w 22 cs) : ∃ v, ∃ qs : List Qu, cs = [v] ∧ QR w 0 w.heap.size v qs ∧ qs.length * 40 ≤ reachBytes ∧
    ∀ i, i < qs.length → (qs.getD i default).packs.length * 24 ≤ reachBytes ∧ ∀ k, k < (qs.getD i default).packs.length → ((qs.getD i default).packs.getD k []).length ≤ reachBytes := by
  obtain ⟨v, n, V, h1, h2, h3, h4⟩ := rt_row Try.underlying22 c61 (by decide) h
  obtain ⟨l, hl, hx⟩ := exists_list (n := n) (p := fun i (x : Value × Qu) => V i = [iv x.2.own, x.1, iv x.2.gone] ∧ PR w 0 w.heap.size x.1 x.2.packs ∧ x.2.packs.length * 24 ≤ reachBytes ∧ ∀ k, k < x.2.packs.length → (x.2.packs.getD k []).length ≤ reachBytes) fun i hi => by
    obtain ⟨q, u, k1, k2, k3⟩ := open_queue (h4 i hi).2
    exact ⟨(u, q), k1, k2, k3⟩
  subst hl
  have hflat : (List.range l.length).flatMap V = flat (l.map Prod.snd) (l.map Prod.fst) := by
    refine List.ext_getElem? fun i => ?_
    have hf := flatMap_get (V := V) (sz := 3) (n := l.length) fun i hi => (h4 i hi).1
    have hfl : (flat (l.map Prod.snd) (l.map Prod.fst)).length = l.length * 3 := by rw [flat_length _ _ (by simp)]; simp
    by_cases hi : i < l.length * 3
    · obtain ⟨j, r, rfl, hr, hj⟩ : ∃ j r, i = j * 3 + r ∧ r < 3 ∧ j < l.length := ⟨i / 3, i % 3, by omega, by omega, by omega⟩
      have g1 := hf.2 j r hj hr
      have g2 := flat_get (l.map Prod.snd) (l.map Prod.fst) (by simp) j (by simpa using hj)
      have g3 := (hx j l[j] (by simp [hj])).1
      rw [g1, g3]
      have e1 : (l.map Prod.snd).getD j default = l[j].2 := by simp [hj]
      have e2 : (l.map Prod.fst).getD j undef = l[j].1 := by simp [hj]
      rw [e1, e2] at g2
      rcases (by omega : r = 0 ∨ r = 1 ∨ r = 2) with rfl | rfl | rfl
      · rw [Nat.add_zero, g2.1]; rfl
      · rw [g2.2.1]; rfl
      · rw [g2.2.2]; rfl
    · rw [List.getElem?_eq_none (by rw [hf.1]; omega), List.getElem?_eq_none (by rw [hfl]; omega)]
  rw [hflat] at h2
  rw [b61] at h3
  have hk : ∀ i, i < (l.map Prod.snd).length → PR w 0 w.heap.size ((l.map Prod.fst).getD i undef) ((l.map Prod.snd).getD i default).packs ∧ ((l.map Prod.snd).getD i default).packs.length * 24 ≤ reachBytes ∧ ∀ k, k < ((l.map Prod.snd).getD i default).packs.length → (((l.map Prod.snd).getD i default).packs.getD k []).length ≤ reachBytes := fun i hi => by
    simp only [List.length_map] at hi
    have e1 : (l.map Prod.snd).getD i default = l[i].2 := by simp [hi]
    have e2 : (l.map Prod.fst).getD i undef = l[i].1 := by simp [hi]
    rw [e1, e2]
    exact (hx i l[i] (by simp [hi])).2
  exact ⟨v, l.map Prod.snd, h1, ⟨l.map Prod.fst, by simp, by simpa using h2, fun i hi => (hk i hi).1⟩, by simpa using h3, fun i hi => (hk i hi).2⟩
set_option maxRecDepth 100000 in
theorem open_sender {w : World} {v : Value} {r : Reach} {b0 : Nat} (hv : Value.okWide Try.prog w r b0 24 v) (h : RT Try.prog w 24 v.cells.toList) : ∃ s : Sd, SR w 0 w.heap.size v s ∧ SB s ∧ rowsMay s := by
  obtain ⟨cs, rfl, hsz⟩ := WideShapes.okWide_struct Try.underlying24 hv
  obtain ⟨hl, hf⟩ := rt_struct Try.underlying24 h
  simp only [Value.cells] at hl hf
  rw [c24] at hl
  obtain ⟨l⟩ := cs
  match l, hl with
  | [a0, a1, a2, a3, a4], _ =>
    have f0 := hf 0 _ rfl
    have f1 := hf 1 _ rfl
    have f2 := hf 2 _ rfl
    have f3 := hf 3 _ rfl
    have f4 := hf 4 _ rfl
    simp [c3, c22] at f0 f1 f2 f3 f4
    obtain ⟨x0, e0, _⟩ := rt_int Try.underlying3 f0
    obtain ⟨x1, e1, _⟩ := rt_int Try.underlying3 f1
    obtain ⟨x2, e2, _⟩ := rt_int Try.underlying3 f2
    obtain ⟨x3, e3, _⟩ := rt_int Try.underlying3 f3
    obtain ⟨v, qs, e4, k1, k2, k3⟩ := open_queues f4
    simp only [List.cons.injEq, and_true] at e0 e1 e2 e3 e4
    subst e0 e1 e2 e3 e4
    refine ⟨⟨x0, x1, x2, x3, qs⟩, ⟨_, rfl, k1⟩, ⟨?_, fun i hi => ⟨?_, fun k hk => ?_⟩⟩, fun i hi k hk => ?_⟩
    · exact Nat.le_trans k2 (by decide)
    · exact Nat.le_trans (k3 i hi).1 (by decide)
    · exact Nat.le_trans ((k3 i hi).2 k hk) (by decide)
    · exact Nat.le_trans ((k3 i hi).2 k hk) (by decide)
end Go.Proofs.Ytamcoomkoenmcaa
