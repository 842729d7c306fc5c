/- What FramePuts hands to senderAs: a walk. -/
import Derived.Test.YtamcoomkoenmcaaW13
set_option linter.unusedSimpArgs false
set_option linter.unusedVariables false
namespace Go.Proofs.Ytamcoomkoenmcaa
open Go.RowKit Go.Far
set_option maxRecDepth 100000 in
set_option maxHeartbeats 1000000 in
theorem putsCall (v : Value) (s : Sd) (ch : Int) (l : List UInt8) (bb : Value) (c1 c2 lo hi lo' hi' : Nat) (w : World) (hs : SR w lo hi v s) (h1 : w.cell? ⟨c1, 0, none⟩ = some (iv ch)) (h2 : w.cell? ⟨c2, 0, none⟩ = some bb)
    (hb : Row w lo' hi' bb l.length (l.map bv)) :
    Calls Try.prog 8 #[v, .pointer (some ⟨c1, 0, none⟩), .pointer (some ⟨c2, 0, none⟩)] w (Ret (CallRes w (putS s ch l) [] (putErr s ch l))) := by
  obtain ⟨qs, rfl, hqs⟩ := hs
  have HS : Hid (SR w lo hi (sdVal s qs) s) := ⟨qs, rfl, hqs⟩
  have HB := Lib.hid hb
  have l1 : c1 < w.heap.size := block_lt h1
  have l2 : c2 < w.heap.size := block_lt h2
  clear hqs hb
  unfold sdVal
  go_enter Try.func8, Try.ntmps8
  go_wp2_with (fail)
  go_at_call 9
  refine calls_ret (put_any (sdVal s qs) bb s ch l lo hi lo' hi' _ (HS.out.ext (ext_alloc (ext_alloc (Ext.refl _) _) _)) (HB.out.ext (ext_alloc (ext_alloc (Ext.refl _) _) _))) ?_
  rintro r3 w3 ⟨hg3, sv, hr3, q3, hsv, ho3⟩
  obtain ⟨p3, k3, rfl⟩ := ho3.slice
  obtain ⟨s', hs'⟩ : ∃ s', putS s ch l = s' := ⟨_, rfl⟩
  rw [hs'] at hsv ho3
  have HS' := Lib.hid hs'
  unfold sdVal at hsv
  subst hsv
  subst hr3
  have M3 : Hid (New w w3) := New.trans (New.trans (new_alloc _ _) (new_alloc _ _)) hg3
  have s3 : w.heap.size + 1 + 1 ≤ w3.heap.size := by have h := hg3.size; simpa using h
  have B3 : Hid (w3.heap[w.heap.size + 1]? = some (.cells #[iv 0, iv 0, iv 0, iv 0, .slice none 0 0] 24 (0, 0))) := boxed_new hg3 (by have h := heap_alloc_new (w.alloc (.cells #[iv s.craft, iv s.size, iv s.master, iv s.turn, qs] 24)) (.cells #[iv 0, iv 0, iv 0, iv 0, .slice none 0 0] 24); simpa using h)
  have O3 := Lib.hid ho3
  clear hg3 ho3 hs'
  have x0 : World.cell? w3 ⟨w.heap.size + 1, 0, none⟩ = some (iv 0) := boxed_cell B3.out 0 rfl; have x1 : World.cell? w3 ⟨w.heap.size + 1, 1, none⟩ = some (iv 0) := boxed_cell B3.out 1 rfl; have x2 : World.cell? w3 ⟨w.heap.size + 1, 2, none⟩ = some (iv 0) := boxed_cell B3.out 2 rfl; have x3 : World.cell? w3 ⟨w.heap.size + 1, 3, none⟩ = some (iv 0) := boxed_cell B3.out 3 rfl; have x4 : World.cell? w3 ⟨w.heap.size + 1, 4, none⟩ = some (.slice none 0 0) := boxed_cell B3.out 4 rfl; have xf : ∀ o, World.frozen? w3 ⟨w.heap.size + 1, o, none⟩ = false := boxed_frozen B3.out; have xs : w.heap.size + 1 < (World.heap w3).size := boxed_lt B3.out
  go_wp2_with (fail)
  refine bodyPost_ret (v := .tuple #[sdVal s' (.slice p3 s'.queues.length k3), .slice none 0 0, iv (putErr s ch l)]) ?_ rfl ⟨?_, .slice p3 s'.queues.length k3, .slice none 0 0, ?_, ?_, World.ownsRow_nil _ _ _ _⟩
  · simp [results, Try.results8, go_sem, sdVal, isSome_setCell, x0, x1, x2, x3, x4, xs]
  · refine Below.alloc ?_ (by simp; omega) _
    repeat (refine Below.setCell ?_ (by simp) _)
    exact M3.out
  · rw [HS'.out]
  · rw [HS'.out]
    refine QOwn.low (base := w.heap.size + 1 + 1) ?_ (by omega)
    refine QOwn.new ?_ (new_alloc _ _)
    refine QOwn.setLow (QOwn.setLow (QOwn.setLow (QOwn.setLow (QOwn.setLow ?_ (by dsimp only; omega) _) (by dsimp only; omega) _) (by dsimp only; omega) _) (by dsimp only; omega) _) (by dsimp only; omega) _
    simpa using O3.out
end Go.Proofs.Ytamcoomkoenmcaa
