/- SenderMay: a walk. -/
import Derived.Test.YtamcoomkoenmcaaW8
set_option linter.unusedSimpArgs false
set_option linter.unusedVariables false
namespace Go.Proofs.Ytamcoomkoenmcaa
open Go.RowKit Go.Far
theorem quB_iff {q : Qu} : quB q = true ↔ (0 ≤ q.own ∧ q.own ≤ 255) ∧ q.packs.length ≤ 200 ∧ (∀ j, j < q.packs.length → oneB (q.packs.getD j []) = true) ∧ (q.packs.length = 0 → q.gone = 0) ∧ (0 < q.packs.length → 0 ≤ q.gone ∧ q.gone < ((q.packs.getD 0 []).length : Int)) := by
  constructor
  · intro h
    have h2 := h
    simp only [quB, Bool.and_eq_true, decide_eq_true_eq, List.all_eq_true] at h
    obtain ⟨⟨⟨h1, h3⟩, h4⟩, h5⟩ := h
    refine ⟨inB_iff.1 h1, h3, fun j hj => ?_, fun h0 => ?_, fun h0 => ?_⟩
    · have e : q.packs.getD j [] = q.packs[j] := by simp [hj]
      rw [e]; exact h4 _ (List.getElem_mem hj)
    · unfold goneB at h5; rw [if_pos h0] at h5; simpa using h5
    · unfold goneB at h5; rw [if_neg (by omega)] at h5
      have := inB_iff.1 h5; omega
  · rintro ⟨h1, h2, h3, h4, h5⟩
    rw [quB_all (inB_iff.2 h1) h2 h3]
    unfold goneB
    by_cases h0 : q.packs.length = 0
    · rw [if_pos h0, h4 h0]; rfl
    · rw [if_neg h0, inB_iff]; have := h5 (by omega); omega
theorem quB_no {q : Qu} (h : ¬ ((0 ≤ q.own ∧ q.own ≤ 255) ∧ q.packs.length ≤ 200 ∧ (∀ j, j < q.packs.length → oneB (q.packs.getD j []) = true) ∧ (q.packs.length = 0 → q.gone = 0) ∧ (0 < q.packs.length → 0 ≤ q.gone ∧ q.gone < ((q.packs.getD 0 []).length : Int)))) : quB q = false := by
  rw [Bool.eq_false_iff]; intro h'; exact h (quB_iff.1 h')
theorem headB_no {s : Sd} (h : ¬ (openErr s.craft s.size = 0 ∧ (0 ≤ s.master ∧ s.master ≤ 255) ∧ (0 ≤ s.turn ∧ s.turn ≤ 6) ∧ s.queues.length = 7)) : headB s = false := by
  rw [Bool.eq_false_iff]; intro h'
  simp only [headB, Bool.and_eq_true, beq_iff_eq] at h'
  exact h ⟨h'.1.1.1, inB_iff.1 h'.1.1.2, inB_iff.1 h'.1.2, h'.2⟩
set_option maxRecDepth 100000 in
set_option maxHeartbeats 2000000 in
theorem senderMay_any (v : Value) (s : Sd) (lo hi : Nat) (w : World) (hs : SR w lo hi v s) :
    Calls Try.prog 22 #[v] w (Ret fun r w' => r = .bool (sdB s) ∧ New w w') := by
  obtain ⟨qv, rfl, us0, hul, hrow, hin⟩ := hs
  have HL := Lib.hid hul
  have HIN := Lib.hid hin
  have HR := Lib.hid hrow
  obtain ⟨p, cap, rfl, hnc, hcm, hn, _⟩ := hrow
  clear hin hul hcm hn hnc
  unfold sdVal
  cases hh : headB s with
  | false =>
    have HH := Lib.hid hh
    clear hh
    go_enter Try.func22, Try.ntmps22
    go_wp2_with (go_at_call 46; refine calls_ret (opens_any _ _ _) ?_; rintro _ _ ⟨rfl, rfl⟩)
    all_goals (first | (go_ret; exact ⟨congrArg Value.bool (sdB_head HH.out).symm, (Below.refl _ _).alloc (Nat.le_refl _) _⟩) | skip)
    exfalso
    have h7 : (((0 ≤ s.master ∧ s.master ≤ 255) ∧ 0 ≤ s.turn) ∧ s.turn ≤ 6) ∧ ((s.queues.length : Int) != 7) = false := by assumption
    have h8 : s.queues.length = 7 := by have := h7.2; rw [bne_eq_false_iff_eq] at this; omega
    exact absurd HH.out (by rw [headB_true (by assumption) (inB_iff.2 (by omega)) (inB_iff.2 (by omega)) h8]; decide)
  | true =>
    have hh' := hh
    simp only [headB, Bool.and_eq_true, beq_iff_eq] at hh'
    obtain ⟨⟨⟨g1, g2⟩, g3⟩, g4⟩ := hh'
    have g2' := inB_iff.1 g2
    have g3' := inB_iff.1 g3
    have HH := Lib.hid hh
    have G4 := Lib.hid g4
    obtain ⟨b, off, rfl, hb, hlo, hhi, hc⟩ := HR.out.cell (by rw [flat_length _ _ HL.out]; omega)
    have HC := Lib.hid hc
    clear hc g2 g3 hh hlo hhi
    go_enter Try.func22, Try.ntmps22
    go_wp2_with (go_at_call 46; refine calls_ret (opens_any _ _ _) ?_; rintro _ _ ⟨rfl, rfl⟩)
    go_loopw [3] (fun x wr => ∃ i : Nat, i ≤ 7 ∧ x = .int .i64 i ∧ Hid (∀ j, j < i → quB (s.queues.getD j default) = true) ∧ Hid (Below (w.heap.size + 1) (w.alloc (.cells #[iv s.craft, iv s.size, iv s.master, iv s.turn, .slice (some ⟨b, off, none⟩) 7 cap] 24)) wr)) (fun x _ => 7 - (intOf x).toNat)
    case atStart => exact ⟨0, by omega, rfl, fun j hj => absurd hj (Nat.not_lt_zero j), Below.refl _ _⟩
    case round =>
      rename World => wr
      obtain ⟨i, hile, rfl, hall, hbl⟩ := hrel
      have hbl' := hbl.out
      have x0 : World.cell? wr ⟨w.heap.size, 0, none⟩ = some (iv s.craft) := (Below.cell hbl' (p := ⟨w.heap.size, 0, none⟩) (by first | (simp; done) | (simp; omega))).trans (by simp [go_sem]); have x1 : World.cell? wr ⟨w.heap.size, 1, none⟩ = some (iv s.size) := (Below.cell hbl' (p := ⟨w.heap.size, 1, none⟩) (by first | (simp; done) | (simp; omega))).trans (by simp [go_sem]); have x2 : World.cell? wr ⟨w.heap.size, 2, none⟩ = some (iv s.master) := (Below.cell hbl' (p := ⟨w.heap.size, 2, none⟩) (by first | (simp; done) | (simp; omega))).trans (by simp [go_sem]); have x3 : World.cell? wr ⟨w.heap.size, 3, none⟩ = some (iv s.turn) := (Below.cell hbl' (p := ⟨w.heap.size, 3, none⟩) (by first | (simp; done) | (simp; omega))).trans (by simp [go_sem]); have x4 : World.cell? wr ⟨w.heap.size, 4, none⟩ = some (.slice (some ⟨b, off, none⟩) 7 cap) := (Below.cell hbl' (p := ⟨w.heap.size, 4, none⟩) (by first | (simp; done) | (simp; omega))).trans (by simp [go_sem]); have xf : ∀ o, World.frozen? wr ⟨w.heap.size, o, none⟩ = false := fun o => (Below.frozen hbl' (p := ⟨w.heap.size, o, none⟩) (by first | (simp; done) | (simp; omega))).trans (by simp [go_sem])
      have hext : Ext w wr := (ext_alloc (Ext.refl w) _).trans (fun k hk => hbl'.block k (by simpa using hk))
      have HEXT := Lib.hid hext
      have hra : ∀ b' o, b' < w.heap.size → wr.cell? ⟨b', o, none⟩ = w.cell? ⟨b', o, none⟩ := fun b' o h => World.cell?_of_block (hext b' h)
      have hsz : w.heap.size + 1 ≤ wr.heap.size := by have h := hbl'.size; simpa using h
      have hnew : Hid (New w wr) := ((Below.refl _ _).alloc (Nat.le_refl _) _).trans (hbl'.mono (by omega))
      clear hbl' hext
      by_cases hi7 : i < 7
      · obtain ⟨q, hq⟩ : ∃ q, s.queues.getD i default = q := ⟨_, rfl⟩
        obtain ⟨u, hu⟩ : ∃ u, us0.getD i undef = u := ⟨_, rfl⟩
        have fl := flat_get s.queues us0 HL.out i (by rw [G4.out]; exact hi7)
        rw [hq, hu] at fl
        have q0 : w.cell? ⟨b, off + i * 3, none⟩ = some (iv q.own) := HC.out _ _ fl.1
        have q1 : w.cell? ⟨b, off + i * 3 + 1, none⟩ = some u := by rw [Nat.add_assoc]; exact HC.out _ _ fl.2.1
        have q2 : w.cell? ⟨b, off + i * 3 + 2, none⟩ = some (iv q.gone) := by rw [Nat.add_assoc]; exact HC.out _ _ fl.2.2
        have hp := HIN.out i (by rw [G4.out]; exact hi7)
        rw [hu, hq] at hp
        have HQ := Lib.hid hq
        clear fl hq hu
        obtain ⟨xs, p1, p2, p3⟩ := hp
        have P1 := Lib.hid p1
        have P2 := Lib.hid p2
        have P3 := Lib.hid p3
        obtain ⟨pu, cu, rfl, e1, e2, e3, e4⟩ := p2
        have hm : q.packs.length ≤ 9223372036854775807 := by unfold maxLen at e2; omega
        clear p1 p3 e1 e2 e3 e4
        have hno : Hid (¬ ((0 ≤ q.own ∧ q.own ≤ 255) ∧ q.packs.length ≤ 200 ∧ (∀ j, j < q.packs.length → oneB (q.packs.getD j []) = true) ∧ (q.packs.length = 0 → q.gone = 0) ∧ (0 < q.packs.length → 0 ≤ q.gone ∧ q.gone < ((q.packs.getD 0 []).length : Int))) → sdB s = false) := fun h => sdB_bad (by rw [G4.out]; exact hi7) (by rw [HQ.out]; exact quB_no h)
        go_wp2_with (fail)
        all_goals (first | (go_ret; refine ⟨congrArg Value.bool (hno.out (fun h => by have h1 := h.1; have h2 := h.2.1; have h4 := h.2.2.2.1; have h5 := h.2.2.2.2; omega)).symm, ?_⟩; exact Below.alloc hnew.out (by omega) _) | skip)
        go_loopw [5] (fun x wq => ∃ k : Nat, k ≤ q.packs.length ∧ x = .int .i64 k ∧ Hid (∀ j, j < k → oneB (q.packs.getD j []) = true) ∧ Hid (Below (wr.heap.size + 1) (wr.alloc (.cells #[iv q.own, .slice pu q.packs.length cu, iv q.gone] 61)) wq)) (fun x _ => q.packs.length - (intOf x).toNat)
        case atStart => exact ⟨0, by omega, rfl, fun j hj => absurd hj (Nat.not_lt_zero j), Below.refl _ _⟩
        case round =>
          rename World => wq
          obtain ⟨k, hkle, rfl, hone, hbl2⟩ := hrel
          have hbl2' := hbl2.out
          have y0 : World.cell? wq ⟨wr.heap.size, 0, none⟩ = some (iv q.own) := (Below.cell hbl2' (p := ⟨wr.heap.size, 0, none⟩) (by first | (simp; done) | (simp; omega))).trans (by simp [go_sem]); have y1 : World.cell? wq ⟨wr.heap.size, 1, none⟩ = some (.slice pu q.packs.length cu) := (Below.cell hbl2' (p := ⟨wr.heap.size, 1, none⟩) (by first | (simp; done) | (simp; omega))).trans (by simp [go_sem]); have y2 : World.cell? wq ⟨wr.heap.size, 2, none⟩ = some (iv q.gone) := (Below.cell hbl2' (p := ⟨wr.heap.size, 2, none⟩) (by first | (simp; done) | (simp; omega))).trans (by simp [go_sem]); have yf : ∀ o, World.frozen? wq ⟨wr.heap.size, o, none⟩ = false := fun o => (Below.frozen hbl2' (p := ⟨wr.heap.size, o, none⟩) (by first | (simp; done) | (simp; omega))).trans (by simp [go_sem])
          have hext2 : Ext w wq := (ext_alloc HEXT.out _).trans (fun b' h' => hbl2'.block b' (by simpa using h'))
          have hra2 : ∀ b' o, b' < w.heap.size → wq.cell? ⟨b', o, none⟩ = w.cell? ⟨b', o, none⟩ := fun b' o h => World.cell?_of_block (hext2 b' h)
          have hszq : wr.heap.size + 1 ≤ wq.heap.size := by have h := hbl2'.size; simpa using h
          have hnew2 : Hid (New w wq) := Below.trans (Below.alloc hnew.out (by omega) _) (hbl2'.mono (by omega))
          have hbq : Hid (Below (w.heap.size + 1) (w.alloc (.cells #[iv s.craft, iv s.size, iv s.master, iv s.turn, .slice (some ⟨b, off, none⟩) 7 cap] 24)) wq) := Below.trans (Below.alloc hbl.out hsz _) (hbl2'.mono (by omega))
          have HEXT2 := Lib.hid hext2
          clear hbl2' hext2
          by_cases hkn : k < q.packs.length
          · obtain ⟨b2, off2, e, hb2, _, _, hc2⟩ := P2.out.cell (by rw [P1.out]; omega)
            subst e
            have c0 := hc2 k _ (getD_some (d := undef) (by rw [P1.out]; exact hkn))
            have HRK := Lib.hid ((P3.out k hkn).ext HEXT2.out)
            clear hc2
            go_wp2_with (go_at_call 24; refine calls_ret (onePacket_any _ lo hi (q.packs.getD k []) _ HRK.out) ?_; rintro _ w' ⟨rfl, hg⟩; have HG := Lib.hid hg; clear hg)
            · have ho : (!oneB q.packs[k]) = true := by assumption
              go_ret
              refine ⟨congrArg Value.bool (hno.out (fun h => ?_)).symm, ?_⟩
              · have := h.2.2.1 k hkn
                simp [hkn] at this
                simp [this] at ho
              · exact Below.trans hnew2.out (HG.out.mono (by omega))
            · have ho : (!oneB q.packs[k]) = false := by assumption
              go_roundw
              case rel =>
                refine ⟨k + 1, by omega, by go_num, fun j hj => ?_, hbl2.out.trans (HG.out.mono hszq)⟩
                by_cases hjk : j < k
                · exact hone.out j hjk
                · have : j = k := by omega
                  subst this
                  simpa [hkn] using ho
              case measure => simp [intOf]; omega
          · have hkk : k = q.packs.length := by omega
            subst hkk
            clear hkn hkle
            by_cases hz : q.packs.length = 0
            · go_wp2
              any_goals ((with_reducible refine wp_region_r (id := 14) [(0, 25)] [] (by kernel_rfl) (by kernel_rfl) ?_); try simp only [pickR, List.drop_succ_cons, List.drop_zero, List.take_succ_cons, List.take_zero, List.take_nil, List.drop_nil, List.append_nil, List.cons_append, List.nil_append]; intro _ _; go_wp2; all_goals (refine seg_pre (by kernel_rfl) ?_); all_goals (refine seg_nil ?_); go_wp2)
              · go_roundw
                case rel =>
                  refine ⟨i + 1, by omega, by go_num, fun j hj => ?_, hbq.out.drew⟩
                  by_cases hji : j < i
                  · exact hall.out j hji
                  · have : j = i := by omega
                    subst this
                    rw [HQ.out]
                    exact quB_iff.2 ⟨⟨by omega, by omega⟩, by omega, hone.out, fun _ => by omega, fun h => by omega⟩
                case measure => simp [intOf]; omega
              · go_ret
                refine ⟨congrArg Value.bool (hno.out (fun h => ?_)).symm, hnew2.out.drew⟩
                have := h.2.2.2.1 hz
                omega
            · obtain ⟨b2, off2, e, hb2, _, _, hc2⟩ := P2.out.cell (by rw [P1.out]; omega)
              subst e
              have c0 := hc2 0 _ (getD_some (d := undef) (by rw [P1.out]; omega))
              obtain ⟨p0, cap0, he0, hnc0, hcm0, _, _⟩ := P3.out 0 (by omega)
              rw [he0, Nat.add_zero] at c0
              unfold maxLen at hcm0
              have hm0 : (q.packs.getD 0 []).length ≤ 9223372036854775807 := by omega
              obtain ⟨m, hmm⟩ : ∃ m, (q.packs.getD 0 []).length = m := ⟨_, rfl⟩
              rw [hmm] at c0 hm0
              have HMM := Lib.hid hmm
              clear hc2 he0 hnc0 hcm0 hmm
              go_wp2
              any_goals ((with_reducible refine wp_region_r (id := 14) [(0, 25)] [] (by kernel_rfl) (by kernel_rfl) ?_); try simp only [pickR, List.drop_succ_cons, List.drop_zero, List.take_succ_cons, List.take_zero, List.take_nil, List.drop_nil, List.append_nil, List.cons_append, List.nil_append]; intro _ _; go_wp2; all_goals (refine seg_pre (by kernel_rfl) ?_); all_goals (refine seg_nil ?_); go_wp2)
              · go_ret
                refine ⟨congrArg Value.bool (hno.out (fun h => ?_)).symm, hnew2.out.drew⟩
                have := h.2.2.2.2 (by omega)
                rw [HMM.out] at this
                omega
              · go_roundw
                case rel =>
                  refine ⟨i + 1, by omega, by go_num, fun j hj => ?_, hbq.out.drew⟩
                  by_cases hji : j < i
                  · exact hall.out j hji
                  · have : j = i := by omega
                    subst this
                    rw [HQ.out]
                    refine quB_iff.2 ⟨⟨by omega, by omega⟩, by omega, hone.out, fun _ => by omega, fun h => ?_⟩
                    rw [HMM.out]
                    exact ⟨by omega, by omega⟩
                case measure => simp [intOf]; omega
      · have hi77 : i = 7 := by omega
        subst hi77
        go_wp2
        go_ret
        exact ⟨congrArg Value.bool (sdB_all HH.out (fun j hj => hall.out j (by have := G4.out; omega))).symm, hnew.out⟩
end Go.Proofs.Ytamcoomkoenmcaa
