/- twice: a walk. -/
import Derived.Test.YtamcoomkoenmcaaSpoil
set_option linter.unusedSimpArgs false
set_option linter.unusedVariables false
namespace Go.Proofs.Ytamcoomkoenmcaa
open Go.RowKit Go.Far
theorem Row.spoilt {v u : Value} {w w' : World} {lo hi n : Nat} {xs : List Value} (h : Row w lo hi u n xs) (hs : Spoilt v w w') (hd : ∀ g, v.ownBlock = some g → ¬ (lo ≤ g ∧ g < hi)) : Row w' lo hi u n xs := by
  obtain ⟨p, cap, hv, h1, h2, h3, h4⟩ := h
  refine ⟨p, cap, hv, h1, h2, h3, fun hne => ?_⟩
  obtain ⟨b, off, hp, hlo, hhi, hr⟩ := h4 hne
  obtain ⟨x, hx⟩ : ∃ x, xs[0]? = some x := by cases xs with
    | nil => exact absurd rfl hne
    | cons x t => exact ⟨x, rfl⟩
  have hb : b < w.heap.size := block_lt (hr 0 x hx)
  exact ⟨b, off, hp, hlo, hhi, rangeAt_of_block hr (hs.1.block b hb (fun hc => hd b hc.symm ⟨hlo, hhi⟩))⟩
set_option maxRecDepth 100000 in
set_option maxHeartbeats 1000000 in
theorem twice_any (va vb vw : Value) (base lo hi lo' hi' : Nat) (la lb lw : List UInt8) (w : World) (ha : w.ownsRow base 5 1 va la.length (la.map bv)) (hb : Row w lo hi vb lb.length (lb.map bv)) (hw : Row w lo' hi' vw lw.length (lw.map bv))
    (hd : ∀ g, va.ownBlock = some g → ¬ (lo ≤ g ∧ g < hi)) (hd' : ∀ g, va.ownBlock = some g → ¬ (lo' ≤ g ∧ g < hi')) (hlen : la.length ≤ 140737488351232) (hbase : base ≤ w.heap.size) :
    Calls Try.prog 29 #[va, vb, vw] w (Ret fun r w' => r = .bool (decide (la = lw) && decide (lb = lw)) ∧ Spoilt va w w') := by
  have HA := Lib.hid ha
  have HB := Lib.hid hb
  have HW := Lib.hid hw
  have HAR := Lib.hid (Row.of_own ha (by decide))
  have HD := Lib.hid hd
  have HD' := Lib.hid hd'
  obtain ⟨pa, ca, rfl⟩ := ha.slice
  obtain ⟨pb, cb, rfl, _, _, _, _⟩ := hb
  obtain ⟨pw, cw, rfl, _, _, _, _⟩ := hw
  clear ha hd hd'
  obtain ⟨ba, hba⟩ : ∃ x, decide (la = lw) = x := ⟨_, rfl⟩
  obtain ⟨bb, hbb⟩ : ∃ x, decide (lb = lw) = x := ⟨_, rfl⟩
  have HBA := Lib.hid hba
  have HBB := Lib.hid hbb
  rw [hba, hbb]
  clear hba hbb
  cases ba with
  | false =>
    go_enter Try.func29, Try.ntmps29
    go_wp2_with (first | (go_at_call 40; refine calls_ret (sameBytes_any _ _ _ _ _ _ la lw _ HAR.out HW.out) ?_; rintro _ _ ⟨rfl, rfl⟩; rw [HBA.out]))
    go_ret
    exact ⟨rfl, Spoilt.refl _ _⟩
  | true =>
    cases bb with
    | false =>
      go_enter Try.func29, Try.ntmps29
      go_wp2_with (first | (go_at_call 40; first | (refine calls_ret (sameBytes_any _ _ _ _ _ _ la lw _ HAR.out HW.out) ?_; rintro _ _ ⟨rfl, rfl⟩; rw [HBA.out]) | (refine calls_ret (sameBytes_any _ _ _ _ _ _ lb lw _ HB.out HW.out) ?_; rintro _ _ ⟨rfl, rfl⟩; rw [HBB.out])))
      go_ret
      exact ⟨rfl, Spoilt.refl _ _⟩
    | true =>
      go_enter Try.func29, Try.ntmps29
      go_wp2_with (first | (go_at_call 40; first | (refine calls_ret (sameBytes_any _ _ _ _ _ _ la lw _ HAR.out HW.out) ?_; rintro _ _ ⟨rfl, rfl⟩; rw [HBA.out]) | (refine calls_ret (sameBytes_any _ _ _ _ _ _ lb lw _ HB.out HW.out) ?_; rintro _ _ ⟨rfl, rfl⟩; rw [HBB.out])) | (go_at_call 12; refine calls_ret (spoil_any _ base la _ HA.out hlen hbase) ?_; rintro _ w2 hs; have HS := Lib.hid hs; clear hs))
      have hb2 := Row.spoilt HB.out HS.out HD.out
      have hw2 := Row.spoilt HW.out HS.out HD'.out
      go_at_call 40
      refine calls_ret (sameBytes_any _ _ _ _ _ _ lb lw _ hb2 hw2) ?_
      rintro _ _ ⟨rfl, rfl⟩
      rw [HBB.out]
      clear hb2 hw2
      go_wp2
      go_ret
      exact ⟨rfl, HS.out⟩
end Go.Proofs.Ytamcoomkoenmcaa
