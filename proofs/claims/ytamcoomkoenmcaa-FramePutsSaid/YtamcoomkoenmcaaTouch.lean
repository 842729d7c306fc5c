/- Which blocks have turned: a relation; boxes; rows of the call's own. -/
import Derived.Test.YtamcoomkoenmcaaBase
set_option linter.unusedSimpArgs false
set_option linter.unusedVariables false
namespace Go.Far
open Go.RowKit
theorem _root_.Go.World.ownsRow.same {w w' : World} {base : Nat} {e : TypeId} {size : Nat} {v : Value} {n : Nat} {xs : List Value} (h : w.ownsRow base e size v n xs) (hk : ∀ k, v.ownBlock = some k → w'.heap[k]? = w.heap[k]?) : w'.ownsRow base e size v n xs := by
  obtain ⟨h1, h2 | ⟨g, cap, cur, rfl, h4, h5, h6⟩⟩ := h
  · exact ⟨h1, .inl h2⟩
  · exact ⟨h1, .inr ⟨g, cap, cur, rfl, h4, by rw [hk g rfl]; exact h5, h6⟩⟩
theorem _root_.Go.World.ownsRow.elem {w : World} {base : Nat} {e : TypeId} {size : Nat} {v : Value} {n : Nat} {xs : List Value} (h : w.ownsRow base e size v n xs) {k : Nat} (hk : v.ownBlock = some k) : base ≤ k ∧ k < w.heap.size ∧ ∃ cur, w.heap[k]? = some (.cells cur e (0, 0)) := by
  obtain ⟨h1, ⟨rfl, rfl⟩ | ⟨g, cap, cur, rfl, h4, h5, h6⟩⟩ := h
  · simp [Value.ownBlock] at hk
  · have hk' : g = k := by simpa [Value.ownBlock] using hk
    subst hk'
    exact ⟨h4, (Array.getElem?_eq_some_iff.1 h5).1, cur, h5⟩
theorem own_ne {w : World} {b b' : Nat} {e e' : TypeId} {s s' : Nat} {v v' : Value} {n n' : Nat} {xs xs' : List Value} (h : w.ownsRow b e s v n xs) (h' : w.ownsRow b' e' s' v' n' xs') (hne : e ≠ e') {k : Nat} (hk : v.ownBlock = some k) : v'.ownBlock ≠ some k := by
  intro hk'
  obtain ⟨_, _, c, hc⟩ := h.elem hk
  obtain ⟨_, _, c', hc'⟩ := h'.elem hk'
  rw [hc] at hc'
  injection hc' with hc'
  injection hc' with _ he _
  exact hne he
theorem _root_.Go.World.ownsRow.new {w w' : World} {base : Nat} {e : TypeId} {size : Nat} {v : Value} {n : Nat} {xs : List Value} (h : w.ownsRow base e size v n xs) (hg : New w w') : w'.ownsRow base e size v n xs :=
  h.same fun k hk => hg.block k (h.elem hk).2.1
theorem ownsRow_form {w : World} {base size n : Nat} {e : TypeId} {v : Value} {xs : List Value} (h : w.ownsRow base e size v n xs) (hn : 0 < n) : ∃ g cap, v = .slice (some ⟨g, 0, none⟩) n cap := by
  rcases h.2 with ⟨_, h0⟩ | ⟨g, cap, _, hv, _⟩
  · omega
  · exact ⟨g, cap, hv⟩
theorem ext_setCell {w0 w : World} (h : Ext w0 w) {a : Addr} (ha : w0.heap.size ≤ a.block) (u : Value) : Ext w0 (w.setCell a u) := fun k hk => by
  rw [Below.heap_setCell w a u k (by omega)]; exact h k hk
theorem new_undrew {w w' : World} (h : New w.drew w') : New w w' := ⟨h.os, h.tape, h.output, h.size, h.block⟩
theorem own_setCell {w : World} {base : Nat} {e : TypeId} {size : Nat} {v : Value} {n : Nat} {xs : List Value} (h : w.ownsRow base e size v n xs) {a : Addr} (ha : v.ownBlock ≠ some a.block) (u : Value) : (w.setCell a u).ownsRow base e size v n xs :=
  h.same fun k hk => Below.heap_setCell w a u k (by rintro rfl; exact ha hk)
/-- Only blocks from lo up to hi have turned. -/
structure Turned (lo hi : Nat) (w w' : World) : Prop where
  os : w'.os = w.os
  tape : w'.tape = w.tape
  output : w'.output = w.output
  size : w.heap.size ≤ w'.heap.size
  block : ∀ k, k < w.heap.size → k < lo ∨ hi ≤ k → w'.heap[k]? = w.heap[k]?
theorem Turned.refl (lo hi : Nat) (w : World) : Turned lo hi w w := ⟨rfl, rfl, rfl, Nat.le_refl _, fun _ _ _ => rfl⟩
theorem Turned.trans {lo hi : Nat} {a b c : World} (h : Turned lo hi a b) (k : Turned lo hi b c) : Turned lo hi a c :=
  ⟨k.os.trans h.os, k.tape.trans h.tape, k.output.trans h.output, Nat.le_trans h.size k.size, fun i hi ho => (k.block i (Nat.lt_of_lt_of_le hi h.size) ho).trans (h.block i hi ho)⟩
theorem Turned.new {lo hi : Nat} {w w' : World} (h : New w w') : Turned lo hi w w' := ⟨h.os, h.tape, h.output, h.size, fun k hk _ => h.block k hk⟩
theorem Turned.alloc {lo hi : Nat} {a w : World} (h : Turned lo hi a w) (o : Obj) : Turned lo hi a (w.alloc o) := h.trans (Turned.new ((Below.refl _ _).alloc (Nat.le_refl _) _))
theorem Turned.setCell {lo hi : Nat} {a w : World} (h : Turned lo hi a w) {p : Addr} (h1 : lo ≤ p.block) (h2 : p.block < hi) (u : Value) : Turned lo hi a (w.setCell p u) :=
  h.trans ⟨rfl, rfl, rfl, by simp [World.setCell], fun k _ hk => Below.heap_setCell _ _ _ _ (by omega)⟩
theorem Turned.below {lo hi : Nat} {w w' : World} (h : Turned lo hi w w') (hlo : lo ≤ w.heap.size) : Below lo w w' := ⟨h.os, h.tape, h.output, h.size, fun k hk => h.block k (by omega) (.inl hk)⟩
theorem _root_.Go.World.ownsRow.touch {lo hi B e n sz : Nat} {v : Value} {xs : List Value} {w w' : World} (h : w.ownsRow B e sz v n xs) (ht : Turned lo hi w w') (hb : hi ≤ B) : w'.ownsRow B e sz v n xs :=
  h.same fun k hk => ht.block k (h.elem hk).2.1 (.inr (Nat.le_trans hb (h.elem hk).1))
/-- What lies in a block of the call's own. -/
theorem boxed_cell {w : World} {k : Nat} {cs : Array Value} {e : TypeId} (h : w.heap[k]? = some (.cells cs e (0, 0))) (j : Nat) {v : Value} (hv : cs[j]? = some v) : w.cell? ⟨k, j, none⟩ = some v := by
  rw [cell_of_row w k j _ _ _ h]; exact hv
theorem boxed_frozen {w : World} {k : Nat} {cs : Array Value} {e : TypeId} (h : w.heap[k]? = some (.cells cs e (0, 0))) (o : Nat) : w.frozen? ⟨k, o, none⟩ = false := by simp [World.frozen?, h]
theorem boxed_lt {w : World} {k : Nat} {o : Obj} (h : w.heap[k]? = some o) : k < w.heap.size := (Array.getElem?_eq_some_iff.1 h).1
theorem boxed_new {w w' : World} {k : Nat} {o : Obj} (hg : New w w') (h : w.heap[k]? = some o) : w'.heap[k]? = some o := (hg.block k (boxed_lt h)).trans h
theorem boxed_touch {lo hi : Nat} {w w' : World} {k : Nat} {o : Obj} (hg : Turned lo hi w w') (ho : k < lo ∨ hi ≤ k) (h : w.heap[k]? = some o) : w'.heap[k]? = some o := (hg.block k (boxed_lt h) ho).trans h
theorem boxed_alloc {w : World} {k : Nat} {o : Obj} (x : Obj) (h : w.heap[k]? = some o) : (w.alloc x).heap[k]? = some o := (Below.heap_alloc w x k (boxed_lt h)).trans h
theorem boxed_ne {w : World} {k g : Nat} {cs cs' : Array Value} {e e' : TypeId} (h : w.heap[k]? = some (.cells cs e (0, 0))) (h' : w.heap[g]? = some (.cells cs' e' (0, 0))) (hne : e ≠ e') : k ≠ g := by
  rintro rfl
  rw [h] at h'; injection h' with h'; injection h' with _ he _; exact hne he
theorem boxed_set {w : World} {k : Nat} {o : Obj} {a : Addr} (ha : k ≠ a.block) (x : Value) (h : w.heap[k]? = some o) : (w.setCell a x).heap[k]? = some o := (Below.heap_setCell w a x k ha).trans h
theorem new_alloc (w : World) (o : Obj) : New w (w.alloc o) := (Below.refl _ _).alloc (Nat.le_refl _) _
theorem new_touch {a w w' : World} {lo hi : Nat} (h : New a w) (ht : Turned lo hi w w') (hl : a.heap.size ≤ lo) : New a w' :=
  Below.trans h ⟨ht.os, ht.tape, ht.output, ht.size, fun k hk => ht.block k (Nat.lt_of_lt_of_le hk h.size) (.inl (Nat.lt_of_lt_of_le hk hl))⟩
end Go.Far
