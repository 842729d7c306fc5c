/- one, onePacket: walks. -/
import Derived.Test.YtamcoomkoenmcaaSd
set_option linter.unusedSimpArgs false
set_option linter.unusedVariables false
namespace Go.Proofs.Ytamcoomkoenmcaa
open Go.RowKit Go.Far
theorem oneB_bad {l : List UInt8} (h : pkErr l ≠ 0) : oneB l = false := by
  unfold oneB; rw [decide_eq_false_iff_not]; rintro ⟨h1, _⟩; exact h (pkErr_zero.2 h1)
theorem oneB_ok {l : List UInt8} (h : pkOk l) : oneB l = decide ((pkLen l : Int) = (l.length : Int)) := by
  unfold oneB; rw [decide_eq_decide]; constructor
  · rintro ⟨_, h⟩; omega
  · intro h2; exact ⟨h, by omega⟩
theorem new_of {w w' : World} {n : Nat} (h : Below n w w') (hn : w.heap.size ≤ n) : New w w' := h.mono hn
set_option maxRecDepth 100000 in
set_option maxHeartbeats 400000 in
theorem one_any (v : Value) (lo hi : Nat) (l : List UInt8) (w : World) (hr : Row w lo hi v l.length (l.map bv)) :
    Calls Try.prog 27 #[v] w (Ret fun r w' => r = .bool (oneB l) ∧ New w w') := by
  have HR := Lib.hid hr
  obtain ⟨p, cap, rfl, _, _, _, _⟩ := hr
  go_enter Try.func27, Try.ntmps27
  go_wp2_with (go_at_call 51; refine calls_ret (decode_any _ lo hi l _ HR.out) ?_; rintro r w' ⟨hg, ⟨he, rfl⟩ | ⟨hok, d, rfl, hown⟩⟩; all_goals (first | (have HE := Lib.hid he; have e1 : (pkErr l == 0) = false := beq_eq_false_iff_ne.2 HE.out; clear he; unfold pkBad) | (have HK := Lib.hid hok; obtain ⟨p', c', rfl⟩ := hown.slice; clear hok hown; unfold pkVal)); all_goals (have HG := Lib.hid hg; clear hg))
  · go_ret
    refine ⟨congrArg Value.bool (oneB_bad HE.out).symm, ?_⟩
    exact (HG.out).trans ((Below.refl _ _).alloc (Nat.le_refl _) _)
  · go_ret
    refine ⟨congrArg Value.bool (oneB_ok HK.out).symm, ?_⟩
    exact (HG.out).trans ((Below.refl _ _).alloc (Nat.le_refl _) _)
set_option maxRecDepth 100000 in
set_option maxHeartbeats 400000 in
theorem onePacket_any (v : Value) (lo hi : Nat) (l : List UInt8) (w : World) (hr : Row w lo hi v l.length (l.map bv)) :
    Calls Try.prog 24 #[v] w (Ret fun r w' => r = .bool (oneB l) ∧ New w w') := by
  have HR := Lib.hid hr
  obtain ⟨p, cap, rfl, _, _, _, _⟩ := hr
  go_enter Try.func24, Try.ntmps24
  go_wp2_with (go_at_call 35; refine calls_ret (packetOf_any _ lo hi l _ HR.out) ?_; rintro r w' ⟨hg, ⟨he, rfl⟩ | ⟨hok, d, rfl, hown⟩⟩; all_goals (first | (have HE := Lib.hid he; have e1 : (pkErr l == 0) = false := beq_eq_false_iff_ne.2 HE.out; clear he; unfold pkBad) | (have HK := Lib.hid hok; obtain ⟨p', c', rfl⟩ := hown.slice; clear hok hown; unfold pkVal)); all_goals (have HG := Lib.hid hg; clear hg))
  · go_ret
    refine ⟨congrArg Value.bool (oneB_bad HE.out).symm, ?_⟩
    exact (HG.out).trans ((Below.refl _ _).alloc (Nat.le_refl _) _)
  · go_ret
    refine ⟨congrArg Value.bool (oneB_ok HK.out).symm, ?_⟩
    exact (HG.out).trans ((Below.refl _ _).alloc (Nat.le_refl _) _)
end Go.Proofs.Ytamcoomkoenmcaa
