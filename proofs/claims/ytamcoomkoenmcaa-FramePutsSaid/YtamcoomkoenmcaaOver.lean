/- What overSender keeps. -/
import Derived.Test.YtamcoomkoenmcaaSs
set_option linter.unusedSimpArgs false
set_option linter.unusedVariables false
namespace Go.Proofs.Ytamcoomkoenmcaa
open Go.RowKit Go.Far
/-- A row of bytes of the call's own, whatever bytes. -/
def BOwn (w : World) (base hi : Nat) (u : Value) (n : Nat) : Prop := ∃ l : List UInt8, l.length = n ∧ w.ownsRow base 5 1 u n (l.map bv) ∧ ∀ k, u.ownBlock = some k → k < hi
theorem Turned.spoilt {lo hi : Nat} {v : Value} {w w' : World} (hs : Spoilt v w w') (hv : ∀ k, v.ownBlock = some k → lo ≤ k ∧ k < hi) : Turned lo hi w w' :=
  ⟨hs.1.os, hs.1.tape, hs.1.output, hs.1.size, fun k hk ho => hs.1.block k hk fun he => by have := hv k he.symm; omega⟩
theorem POwn.touch {lo hi B : Nat} {v : Value} {ps : List (List UInt8)} {w w' : World} (h : POwn w B v ps) (ht : Turned lo hi w w') (hb : hi ≤ B) : POwn w' B v ps := by
  obtain ⟨xs, h1, h2, h3⟩ := h
  exact ⟨xs, h1, h2.touch ht hb, fun k hk => (h3 k hk).touch ht hb⟩
theorem QOwn.touch {lo hi B : Nat} {v : Value} {qs : List Qu} {w w' : World} (h : QOwn w B v qs) (ht : Turned lo hi w w') (hb : hi ≤ B) : QOwn w' B v qs := by
  obtain ⟨us, h1, h2, h3, h4⟩ := h
  exact ⟨us, h1, h2.touch ht hb, fun i hi => (h3 i hi).touch ht hb, h4⟩
theorem SOwn.touch {lo hi B : Nat} {v : Value} {s : Sd} {w w' : World} (h : SOwn w B v s) (ht : Turned lo hi w w') (hb : hi ≤ B) : SOwn w' B v s := by
  obtain ⟨qv, h1, h2⟩ := h
  exact ⟨qv, h1, h2.touch ht hb⟩
theorem bytes_of : ∀ (xs : List Value), (∀ c ∈ xs, ∃ x : UInt8, c = bv x) → ∃ l : List UInt8, xs = l.map bv
  | [], _ => ⟨[], rfl⟩
  | c :: xs, h => by
    obtain ⟨x, rfl⟩ := h c (by simp)
    obtain ⟨l, rfl⟩ := bytes_of xs (fun c hc => h c (by simp [hc]))
    exact ⟨x :: l, rfl⟩
theorem BOwn.spoilt {w w' : World} {base hi n : Nat} {u v : Value} (h : BOwn w base hi u n) (hs : Spoilt v w w') : BOwn w' base hi u n := by
  obtain ⟨l, hl, ⟨h1, h2⟩, h0⟩ := h
  rcases h2 with ⟨rfl, rfl⟩ | ⟨g, cap, cur, rfl, hb, hg, hnc, hcm, hcs, htake⟩
  · exact ⟨[], rfl, World.ownsRow_nil _ _ _ _, h0⟩
  · by_cases hv : v.ownBlock = some g
    · obtain ⟨cur', k1, k2, k3⟩ := hs.2 g hv cur hg
      obtain ⟨l', hl'⟩ := bytes_of (cur'.toList.take n) (fun c hc => by
        obtain ⟨j, hj, e⟩ := List.mem_iff_getElem.1 hc
        have hj' : j < n := by simp at hj; omega
        have hc' : cur'[j]? = some c := by
          rw [← Array.getElem?_toList, ← e]
          simp
        rcases k3 j c hc' with h | h
        · have hm : (cur.toList.take (n * 1))[j]? = some c := by
            rw [List.getElem?_take, if_pos (by omega), Array.getElem?_toList]; exact h
          rw [htake, List.getElem?_map] at hm
          cases hx : l[j]? with
          | none => rw [hx] at hm; cases hm
          | some x => rw [hx] at hm; injection hm with hm; exact ⟨x, hm.symm⟩
        · exact h)
      have hln : l'.length = n := by
        have := congrArg List.length hl'
        simp at this
        omega
      exact ⟨l', hln, ⟨by simp [hln], .inr ⟨g, cap, cur', rfl, hb, k1, hnc, hcm, by omega, by rw [Nat.mul_one]; exact hl'⟩⟩, h0⟩
    · have hlt : g < w.heap.size := (Array.getElem?_eq_some_iff.1 hg).1
      exact ⟨l, hl, ⟨h1, .inr ⟨g, cap, cur, rfl, hb, by rw [hs.1.block g hlt (fun hc => hv hc.symm)]; exact hg, hnc, hcm, hcs, htake⟩⟩, h0⟩
/-- A row of rows: those from k on are the call's own still. -/
def RowLive (w : World) (base hi : Nat) (u : Value) (ps : List (List UInt8)) (k : Nat) : Prop :=
  (∀ k, u.ownBlock = some k → k < hi) ∧ ∃ xs : List Value, xs.length = ps.length ∧ w.ownsRow base 25 1 u ps.length xs ∧ ∀ j, k ≤ j → j < ps.length → BOwn w base hi (xs.getD j undef) (ps.getD j []).length
theorem RowLive.of {w : World} {base : Nat} {u : Value} {ps : List (List UInt8)} (h : POwn w base u ps) : RowLive w base w.heap.size u ps 0 := by
  obtain ⟨xs, h1, h2, h3⟩ := h
  exact ⟨fun k hk => (h2.elem hk).2.1, xs, h1, h2, fun j _ hj => ⟨ps.getD j [], rfl, h3 j hj, fun k hk => ((h3 j hj).elem hk).2.1⟩⟩
theorem own_spoilt {w w' : World} {base b2 hi2 n m : Nat} {e : TypeId} {sz : Nat} {u v : Value} {xs : List Value} (h : w.ownsRow base e sz u n xs) (hv : BOwn w b2 hi2 v m) (hne : e ≠ 5) (hs : Spoilt v w w') : w'.ownsRow base e sz u n xs := by
  obtain ⟨l, _, hl, _⟩ := hv
  exact h.same fun k hk => hs.1.block k (h.elem hk).2.1 (fun hc => own_ne h hl hne hk hc.symm)
theorem RowLive.spoilt {w w' : World} {base b2 hi hi2 k m : Nat} {u v : Value} {ps : List (List UInt8)} (h : RowLive w base hi u ps k) (hv : BOwn w b2 hi2 v m) (hs : Spoilt v w w') : RowLive w' base hi u ps k := by
  obtain ⟨h0, xs, h1, h2, h3⟩ := h
  exact ⟨h0, xs, h1, own_spoilt h2 hv (by decide) hs, fun j hj hjl => (h3 j hj hjl).spoilt hs⟩
theorem BOwn.new {w w' : World} {base hi n : Nat} {u : Value} (h : BOwn w base hi u n) (hg : New w w') : BOwn w' base hi u n := by
  obtain ⟨l, h1, h2, h0⟩ := h
  exact ⟨l, h1, h2.new hg, h0⟩
theorem RowLive.new {w w' : World} {base hi k : Nat} {u : Value} {ps : List (List UInt8)} (h : RowLive w base hi u ps k) (hg : New w w') : RowLive w' base hi u ps k := by
  obtain ⟨h0, xs, h1, h2, h3⟩ := h
  exact ⟨h0, xs, h1, h2.new hg, fun j hj hjl => (h3 j hj hjl).new hg⟩
/-- A cell of a block of another kind is written over. -/
theorem BOwn.set {w : World} {base hi n : Nat} {u : Value} (h : BOwn w base hi u n) {a : Addr} {cur : Array Value} {e : TypeId} {fr : Nat × Nat} (hc : w.heap[a.block]? = some (.cells cur e fr)) (hne : e ≠ 5) (x : Value) : BOwn (w.setCell a x) base hi u n := by
  obtain ⟨l, h1, h2, h0⟩ := h
  refine ⟨l, h1, own_setCell h2 (fun hk => ?_) x, h0⟩
  obtain ⟨_, _, c', hc'⟩ := h2.elem hk
  rw [hc] at hc'; injection hc' with hc'; injection hc' with _ he _; exact hne he
theorem RowLive.set {w : World} {base hi k : Nat} {u : Value} {ps : List (List UInt8)} (h : RowLive w base hi u ps k) {a : Addr} {cur : Array Value} {e : TypeId} {fr : Nat × Nat} (hc : w.heap[a.block]? = some (.cells cur e fr)) (hne : e ≠ 5) (hu : u.ownBlock ≠ some a.block) (x : Value) : RowLive (w.setCell a x) base hi u ps k := by
  obtain ⟨h0, xs, h1, h2, h3⟩ := h
  exact ⟨h0, xs, h1, own_setCell h2 hu x, fun j hj hjl => (h3 j hj hjl).set hc hne x⟩
/-- The k-th row is put away. -/
theorem RowLive.next {w : World} {base hi k g c n : Nat} {ps : List (List UInt8)} (h : RowLive w base hi (.slice (some ⟨g, 0, none⟩) n c) ps k) (hn : n = ps.length) (x : Value) : RowLive (w.setCell ⟨g, k, none⟩ x) base hi (.slice (some ⟨g, 0, none⟩) n c) ps (k + 1) := by
  subst hn
  obtain ⟨h0, xs, h1, h2, h3⟩ := h
  obtain ⟨_, _, cur, hc⟩ := h2.elem (k := g) rfl
  refine ⟨h0, xs.set k x, by simpa using h1, (h2.stored k x).1, fun j hj hjl => ?_⟩
  rw [getD_set_ne _ _ _ _ _ (by omega)]
  exact (h3 j (by omega) hjl).set (a := ⟨g, k, none⟩) hc (by decide) x
theorem boxed_spoilt {w w' : World} {k : Nat} {cs : Array Value} {e : TypeId} {b hi m : Nat} {v : Value} (hv : BOwn w b hi v m) (hs : Spoilt v w w') (hne : e ≠ 5) (h : w.heap[k]? = some (.cells cs e (0, 0))) : w'.heap[k]? = some (.cells cs e (0, 0)) := by
  obtain ⟨l, _, hl, _⟩ := hv
  refine (hs.1.block k (boxed_lt h) fun hc => ?_).trans h
  obtain ⟨_, _, c', hc'⟩ := hl.elem hc.symm
  rw [h] at hc'; injection hc' with hc'; injection hc' with _ he _; exact hne he
end Go.Proofs.Ytamcoomkoenmcaa
