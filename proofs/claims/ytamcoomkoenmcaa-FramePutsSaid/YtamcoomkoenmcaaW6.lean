/- waits: a walk. -/
import Derived.Test.YtamcoomkoenmcaaW5
set_option linter.unusedSimpArgs false
set_option linter.unusedVariables false
namespace Go.Proofs.Ytamcoomkoenmcaa
open Go.RowKit Go.Far
theorem quB_own {q : Qu} (h : inB q.own 255 = false) : quB q = false := by simp [quB, h]
theorem quB_long {q : Qu} (h : 200 < q.packs.length) : quB q = false := by
  have : decide (q.packs.length ≤ 200) = false := by simpa using h
  simp [quB, this]
theorem quB_pack {q : Qu} {k : Nat} (hk : k < q.packs.length) (h : oneB q.packs[k] = false) : quB q = false := by
  have : q.packs.all oneB = false := by
    rw [List.all_eq_false]
    exact ⟨q.packs[k], List.getElem_mem hk, by rw [h]; decide⟩
  simp [quB, this]
theorem quB_all {q : Qu} (h1 : inB q.own 255 = true) (h2 : q.packs.length ≤ 200) (h3 : ∀ j, j < q.packs.length → oneB (q.packs.getD j []) = true) : quB q = goneB q := by
  have h4 : q.packs.all oneB = true := by
    rw [List.all_eq_true]
    intro x hx
    obtain ⟨j, hj, rfl⟩ := List.mem_iff_getElem.1 hx
    have := h3 j hj
    simpa [hj] using this
  simp [quB, h1, h2, h4]
set_option maxRecDepth 100000 in
set_option maxHeartbeats 1000000 in
theorem waits_any (pv : Value) (q : Qu) (lo hi : Nat) (w : World) (hp : PR w lo hi pv q.packs) :
    Calls Try.prog 49 #[.agg #[iv q.own, pv, iv q.gone]] w (Ret fun r w' => r = .bool (quB q) ∧ New w w') := by
  obtain ⟨own, ps, gone⟩ := q
  obtain ⟨xs, hxl, hrow, hin⟩ := hp
  simp only at hxl hrow hin ⊢
  have HX := Lib.hid hxl
  have HIN := Lib.hid hin
  have HR := Lib.hid hrow
  obtain ⟨p, cap, rfl, hnc, hcm, hn, _⟩ := hrow
  have hm : ps.length ≤ 9223372036854775807 := by unfold maxLen at hcm; omega
  clear hin hxl hcm hn
  cases hi1 : inB own 255 with
  | false =>
    go_enter Try.func49, Try.ntmps49
    go_wp2_with (go_at_call 26; refine calls_ret (in_any _ _ _) ?_; rintro _ _ ⟨rfl, rfl⟩)
    go_ret
    exact ⟨congrArg Value.bool (quB_own hi1).symm, (Below.refl _ _).alloc (Nat.le_refl _) _⟩
  | true =>
  by_cases h200 : 200 < ps.length
  · go_enter Try.func49, Try.ntmps49
    go_wp2_with (go_at_call 26; refine calls_ret (in_any _ _ _) ?_; rintro _ _ ⟨rfl, rfl⟩)
    go_ret
    exact ⟨congrArg Value.bool (quB_long h200).symm, (Below.refl _ _).alloc (Nat.le_refl _) _⟩
  by_cases hz : ps.length = 0
  · have hps : ps = [] := List.eq_nil_of_length_eq_zero hz
    subst hps
    clear hz h200 hm hnc HR HIN HX
    go_enter Try.func49, Try.ntmps49
    go_wp2_with (first | (go_at_call 26; refine calls_ret (in_any _ _ _) ?_; rintro _ _ ⟨rfl, rfl⟩) | (refine wp_loop_rounds 1 ?_; rw [rounds_succ]))
    go_ret
    refine ⟨congrArg Value.bool ?_, (Below.refl _ _).alloc (Nat.le_refl _) _⟩
    rw [quB_all hi1 (by simp) (by simp)]; simp [goneB]
  · obtain ⟨b, off, rfl, hb, hlo, hhi, hc⟩ := HR.out.cell (by rw [HX.out]; omega)
    have HC := Lib.hid hc
    clear hc
    go_enter Try.func49, Try.ntmps49
    go_wp2_with (go_at_call 26; refine calls_ret (in_any _ _ _) ?_; rintro _ _ ⟨rfl, rfl⟩)
    go_loopw [18] (fun i wr => ∃ k : Nat, k ≤ ps.length ∧ i = .int .i64 k ∧ Hid (∀ j, j < k → oneB (ps.getD j []) = true) ∧ Hid (Below (w.heap.size + 1) (w.alloc (.cells #[iv own, .slice (some ⟨b, off, none⟩) ps.length cap, iv gone] 61)) wr)) (fun i _ => ps.length - (intOf i).toNat)
    case atStart => exact ⟨0, by omega, rfl, fun j hj => absurd hj (Nat.not_lt_zero j), Below.refl _ _⟩
    case round =>
      obtain ⟨k, hk, rfl, hall, hbl⟩ := hrel
      obtain ⟨hrc, hrf, hrs⟩ := below_reads hbl.out
      have hext : Hid (Ext w _) := (ext_alloc (Ext.refl w) _).trans (hbl.out.mono (by simp)).block
      by_cases hkn : k < ps.length
      · have hx := HC.out k _ (getD_some (d := undef) (by rw [HX.out]; exact hkn))
        have hu := Lib.hid ((HIN.out k hkn).ext hext.out)
        go_wp2_with (go_at_call 27; refine calls_ret (one_any _ lo hi (ps.getD k []) _ hu.out) ?_; rintro _ w' ⟨rfl, hg⟩; have HG := Lib.hid hg; clear hg)
        · go_ret
          have ho : (!oneB ps[k]) = true := by assumption
          refine ⟨congrArg Value.bool (quB_pack (q := ⟨own, ps, gone⟩) hkn (by simpa using ho)).symm, ?_⟩
          exact ((Below.refl _ _).alloc (Nat.le_refl _) _).trans ((hbl.out.mono (by omega)).trans (HG.out.mono (by simp at hrs; omega)))
        · go_roundw
          case rel =>
            have ho : (!oneB ps[k]) = false := by assumption
            refine ⟨k + 1, by omega, by go_num, fun j hj => ?_, hbl.out.trans (HG.out.mono (by simp at hrs; omega))⟩
            by_cases hjk : j < k
            · exact hall.out j hjk
            · have : j = k := by omega
              subst this
              simpa [hkn] using ho
          case measure => simp [intOf]; omega
      · have hu0 := HIN.out 0 (by omega)
        have hx0 := HC.out 0 _ (getD_some (d := undef) (by rw [HX.out]; omega))
        obtain ⟨p0, cap0, he0, hnc0, hcm0, _, _⟩ := hu0
        rw [he0, Nat.add_zero] at hx0
        unfold maxLen at hcm0
        have hm0 : (ps.getD 0 []).length ≤ 9223372036854775807 := by omega
        have HE := Lib.hid he0
        clear he0 hcm0 hnc0
        have hq : Hid (quB ⟨own, ps, gone⟩ = inB gone ((ps.getD 0 []).length - 1)) := by
          refine (quB_all (q := ⟨own, ps, gone⟩) hi1 (by simp only; omega) (fun j hj => hall.out j (by simp only at hj; omega))).trans ?_
          simp only [goneB]; rw [if_neg (by omega)]
        generalize (ps.getD 0 []).length = m at hx0 hm0 hq
        go_wp2
        any_goals ((with_reducible refine wp_region_r (id := 11) [(0, 8)] [(.act, [(8, 1)]), (.pure, [(9, 1)])] (by kernel_rfl) (by kernel_rfl) ?_); try simp only [pickR, List.drop_succ_cons, List.drop_zero, List.take_succ_cons, List.take_zero, List.take_nil, List.drop_nil, List.append_nil, List.cons_append, List.nil_append]; intro _ _; go_wp2_with ((go_at_call 26; refine calls_ret (in_any _ _ _) ?_; rintro _ _ ⟨rfl, rfl⟩)); all_goals (refine seg_pre (by kernel_rfl) ?_); all_goals (refine seg_act (fun _ _ => ?_)); all_goals (try simp only [pickR, List.drop_succ_cons, List.drop_zero, List.take_succ_cons, List.take_zero, List.take_nil, List.drop_nil, List.append_nil, List.cons_append, List.nil_append]); go_wp2_with ((go_at_call 26; refine calls_ret (in_any _ _ _) ?_; rintro _ _ ⟨rfl, rfl⟩)); all_goals (refine seg_pure (fun _ _ => ?_)); all_goals (try simp only [pickR, List.drop_succ_cons, List.drop_zero, List.take_succ_cons, List.take_zero, List.take_nil, List.drop_nil, List.append_nil, List.cons_append, List.nil_append]); go_wp2_with ((go_at_call 26; refine calls_ret (in_any _ _ _) ?_; rintro _ _ ⟨rfl, rfl⟩)); all_goals (refine seg_nil ?_); go_wp2_with ((go_at_call 26; refine calls_ret (in_any _ _ _) ?_; rintro _ _ ⟨rfl, rfl⟩)))
        go_ret
        exact ⟨congrArg Value.bool hq.out.symm, (((Below.refl _ _).alloc (Nat.le_refl _) _).trans (hbl.out.mono (by omega))).drew⟩
end Go.Proofs.Ytamcoomkoenmcaa
