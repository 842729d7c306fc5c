/- sameRows, sameSender: walks. -/
import Derived.Test.YtamcoomkoenmcaaLeft
set_option linter.unusedSimpArgs false
set_option linter.unusedVariables false
namespace Go.Proofs.Ytamcoomkoenmcaa
open Go.RowKit Go.Far
theorem ext_of_getD {α : Type} {a b : List α} {d : α} (hl : a.length = b.length) (h : ∀ k, k < a.length → a.getD k d = b.getD k d) : a = b := by
  refine List.ext_getElem hl fun k h1 h2 => ?_
  have := h k h1
  simpa [h1, h2] using this
set_option maxRecDepth 100000 in
set_option maxHeartbeats 1000000 in
theorem sameRows_any (va vb : Value) (lo hi lo' hi' : Nat) (la lb : List (List UInt8)) (w : World) (ha : PR w lo hi va la) (hb : PR w lo' hi' vb lb) :
    Calls Try.prog 31 #[va, vb] w (Ret fun r w' => r = .bool (decide (la = lb)) ∧ New w w') := by
  obtain ⟨xs, a1, a2, a3⟩ := ha
  obtain ⟨ys, b1, b2, b3⟩ := hb
  have A1 := Lib.hid a1
  have A2 := Lib.hid a2
  have A3 := Lib.hid a3
  have B1 := Lib.hid b1
  have B2 := Lib.hid b2
  have B3 := Lib.hid b3
  obtain ⟨pa, ca, rfl, e1, e2, _, _⟩ := a2
  obtain ⟨pb, cb, rfl, e3, e4, _, _⟩ := b2
  have hma : la.length ≤ 9223372036854775807 := by unfold maxLen at e2; omega
  clear a1 a3 b1 b3 e1 e2 e3 e4
  by_cases hl : la.length = lb.length
  · have HL := Lib.hid hl
    obtain ⟨n, hn⟩ : ∃ n, la.length = n := ⟨_, rfl⟩
    have hn' : lb.length = n := by omega
    have HN := Lib.hid hn
    rw [hn] at hma
    rw [hn, hn']
    clear hl hn hn'
    go_enter Try.func31, Try.ntmps31
    go_wp2_with (fail)
    go_loopw [5] (fun x wr => ∃ k : Nat, k ≤ n ∧ x = .int .i64 (k : Int) ∧ Hid (∀ j, j < k → la.getD j [] = lb.getD j []) ∧ Hid (New w wr)) (fun x _ => n - (intOf x).toNat)
    case atStart => exact ⟨0, by omega, rfl, fun j hj => absurd hj (Nat.not_lt_zero j), Below.refl _ _⟩
    case round =>
      rename World => wr
      obtain ⟨k, hk, rfl, hall, hbl⟩ := hrel
      by_cases hkn : k < n
      · obtain ⟨b, off, rfl, hb, _, _, hc⟩ := A2.out.cell (by rw [A1.out, HN.out]; omega)
        obtain ⟨b', off', rfl, hb', _, _, hc'⟩ := B2.out.cell (by rw [B1.out, ← HL.out, HN.out]; omega)
        obtain ⟨u, hu⟩ : ∃ u, xs.getD k undef = u := ⟨_, rfl⟩
        obtain ⟨v, hv⟩ : ∃ v, ys.getD k undef = v := ⟨_, rfl⟩
        have c1 : wr.cell? ⟨b, off + k, none⟩ = some u := (World.cell?_of_block (hbl.out.block b hb)).trans (by rw [hc k _ (getD_some (d := undef) (by rw [A1.out, HN.out]; exact hkn)), hu])
        have c2 : wr.cell? ⟨b', off' + k, none⟩ = some v := (World.cell?_of_block (hbl.out.block b' hb')).trans (by rw [hc' k _ (getD_some (d := undef) (by rw [B1.out, ← HL.out, HN.out]; exact hkn)), hv])
        have hra := A3.out k (by rw [HN.out]; exact hkn)
        have hrb := B3.out k (by rw [← HL.out, HN.out]; exact hkn)
        rw [hu] at hra
        rw [hv] at hrb
        have HRA := Lib.hid (hra.ext hbl.out.block)
        have HRB := Lib.hid (hrb.ext hbl.out.block)
        clear hc hc' hu hv hra hrb
        cases hd : decide (la.getD k [] = lb.getD k []) with
        | false =>
          have HD := Lib.hid hd
          clear hd
          go_wp2_with (fail)
          any_goals ((with_reducible refine wp_region_r (id := 6) [(0, 8)] [(.act, [(8, 1)]), (.pure, [(9, 1)])] (by kernel_rfl) (by kernel_rfl) ?_); try simp only [pickR, List.drop_succ_cons, List.drop_zero, List.take_succ_cons, List.take_zero, List.take_nil, List.drop_nil, List.append_nil, List.cons_append, List.nil_append]; intro _ _; go_wp2_with ((go_at_call 40; refine calls_ret (sameBytes_any _ _ lo hi lo' hi' (la.getD k []) (lb.getD k []) _ HRA.out HRB.out) ?_; rintro _ _ ⟨rfl, rfl⟩; rw [HD.out])); all_goals (refine seg_pre (by kernel_rfl) ?_); all_goals (refine seg_act (fun _ _ => ?_)); all_goals (try simp only [pickR, List.drop_succ_cons, List.drop_zero, List.take_succ_cons, List.take_zero, List.take_nil, List.drop_nil, List.append_nil, List.cons_append, List.nil_append]); go_wp2_with ((go_at_call 40; refine calls_ret (sameBytes_any _ _ lo hi lo' hi' (la.getD k []) (lb.getD k []) _ HRA.out HRB.out) ?_; rintro _ _ ⟨rfl, rfl⟩; rw [HD.out])); all_goals (refine seg_pure (fun _ _ => ?_)); all_goals (try simp only [pickR, List.drop_succ_cons, List.drop_zero, List.take_succ_cons, List.take_zero, List.take_nil, List.drop_nil, List.append_nil, List.cons_append, List.nil_append]); go_wp2_with ((go_at_call 40; refine calls_ret (sameBytes_any _ _ lo hi lo' hi' (la.getD k []) (lb.getD k []) _ HRA.out HRB.out) ?_; rintro _ _ ⟨rfl, rfl⟩; rw [HD.out])); all_goals (refine seg_nil ?_); go_wp2_with ((go_at_call 40; refine calls_ret (sameBytes_any _ _ lo hi lo' hi' (la.getD k []) (lb.getD k []) _ HRA.out HRB.out) ?_; rintro _ _ ⟨rfl, rfl⟩; rw [HD.out])))
          go_ret
          refine ⟨congrArg Value.bool ?_, hbl.out.drew⟩
          have h1 := of_decide_eq_false HD.out
          symm; rw [decide_eq_false_iff_not]
          rintro rfl
          exact h1 rfl
        | true =>
          have HD := Lib.hid hd
          clear hd
          go_wp2_with (fail)
          any_goals ((with_reducible refine wp_region_r (id := 6) [(0, 8)] [(.act, [(8, 1)]), (.pure, [(9, 1)])] (by kernel_rfl) (by kernel_rfl) ?_); try simp only [pickR, List.drop_succ_cons, List.drop_zero, List.take_succ_cons, List.take_zero, List.take_nil, List.drop_nil, List.append_nil, List.cons_append, List.nil_append]; intro _ _; go_wp2_with ((go_at_call 40; refine calls_ret (sameBytes_any _ _ lo hi lo' hi' (la.getD k []) (lb.getD k []) _ HRA.out HRB.out) ?_; rintro _ _ ⟨rfl, rfl⟩; rw [HD.out])); all_goals (refine seg_pre (by kernel_rfl) ?_); all_goals (refine seg_act (fun _ _ => ?_)); all_goals (try simp only [pickR, List.drop_succ_cons, List.drop_zero, List.take_succ_cons, List.take_zero, List.take_nil, List.drop_nil, List.append_nil, List.cons_append, List.nil_append]); go_wp2_with ((go_at_call 40; refine calls_ret (sameBytes_any _ _ lo hi lo' hi' (la.getD k []) (lb.getD k []) _ HRA.out HRB.out) ?_; rintro _ _ ⟨rfl, rfl⟩; rw [HD.out])); all_goals (refine seg_pure (fun _ _ => ?_)); all_goals (try simp only [pickR, List.drop_succ_cons, List.drop_zero, List.take_succ_cons, List.take_zero, List.take_nil, List.drop_nil, List.append_nil, List.cons_append, List.nil_append]); go_wp2_with ((go_at_call 40; refine calls_ret (sameBytes_any _ _ lo hi lo' hi' (la.getD k []) (lb.getD k []) _ HRA.out HRB.out) ?_; rintro _ _ ⟨rfl, rfl⟩; rw [HD.out])); all_goals (refine seg_nil ?_); go_wp2_with ((go_at_call 40; refine calls_ret (sameBytes_any _ _ lo hi lo' hi' (la.getD k []) (lb.getD k []) _ HRA.out HRB.out) ?_; rintro _ _ ⟨rfl, rfl⟩; rw [HD.out])))
          go_roundw
          case rel =>
            refine ⟨k + 1, by omega, by go_num, fun j hj => ?_, hbl.out.drew⟩
            by_cases hjk : j < k
            · exact hall.out j hjk
            · have : j = k := by omega
              subst this; exact of_decide_eq_true HD.out
          case measure => simp [intOf]; omega
      · go_wp2
        go_ret
        refine ⟨congrArg Value.bool ?_, hbl.out⟩
        symm; rw [decide_eq_true_iff]
        exact ext_of_getD HL.out (d := []) fun j hj => hall.out j (by have := HN.out; omega)
  · have hd : decide (la = lb) = false := by
      rw [decide_eq_false_iff_not]; rintro rfl; exact hl rfl
    have HD := Lib.hid hd
    clear hd
    go_enter Try.func31, Try.ntmps31
    go_wp2_with (fail)
    go_ret
    exact ⟨congrArg Value.bool HD.out.symm, Below.refl _ _⟩
end Go.Proofs.Ytamcoomkoenmcaa
