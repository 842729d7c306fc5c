/- The program's decoder of packets: its walk. -/
import Derived.Test.YtamcoomkoenmcaaW3
import Derived.LoopN
set_option linter.unusedSimpArgs false
set_option linter.unusedVariables false
namespace Go.Proofs.Ytamcoomkoenmcaa
open Go.RowKit Go.Far
theorem join8 (a b : Nat) (ha : a < 256) (hb : b < 256) : bits .or .i64 ((a : Int) * 256) (b : Int) = (a : Int) * 256 + (b : Int) := by
  have := join_i64 8 a b (by omega) (by omega)
  rw [show ((a : Int) * 256) = ((a * 2 ^ 8 : Nat) : Int) by omega, this]; omega
theorem dec_nat (a b : Nat) : ((a : Int) * 256 + (b : Int)) = ((a * 256 + b : Nat) : Int) := by omega
theorem dec_up (l : List UInt8) : (bits .and .i64 ((at8 l 0 : Int) * 256 + (at8 l 1 : Int)) 4096 != 0) = (pkBits l).1 := by
  have h0 := at8_lt l 0
  have h1 := at8_lt l 1
  have h := bit_i64 12 (at8 l 0 * 256 + at8 l 1) (by omega) (by decide)
  rw [dec_nat, show (4096 : Int) = ((2 ^ 12 : Nat) : Int) by decide, h]
  unfold pkBits
  rw [Bool.eq_iff_iff, bne_iff_ne, beq_iff_eq]; omega
theorem dec_second (l : List UInt8) : (bits .and .i64 ((at8 l 0 : Int) * 256 + (at8 l 1 : Int)) 2048 != 0) = (pkBits l).2 := by
  have h0 := at8_lt l 0
  have h1 := at8_lt l 1
  have h := bit_i64 11 (at8 l 0 * 256 + at8 l 1) (by omega) (by decide)
  rw [dec_nat, show (2048 : Int) = ((2 ^ 11 : Nat) : Int) by decide, h]
  unfold pkBits
  rw [Bool.eq_iff_iff, bne_iff_ne, beq_iff_eq]; omega
theorem dec_apid (l : List UInt8) : bits .and .i64 ((at8 l 0 : Int) * 256 + (at8 l 1 : Int)) 2047 = (pkApid l : Int) := by
  have h0 := at8_lt l 0
  have h1 := at8_lt l 1
  have h := mask_i64 11 (at8 l 0 * 256 + at8 l 1) (by omega) (by decide)
  rw [dec_nat, show (2047 : Int) = ((2 ^ 11 - 1 : Nat) : Int) by decide, h]
  unfold pkApid; omega
theorem dec_part (l : List UInt8) : ((at8 l 2 : Int) * 256 + (at8 l 3 : Int)) / 16384 = (pkPart l : Int) := by
  have h0 := at8_lt l 2
  have h1 := at8_lt l 3
  unfold pkPart; omega
theorem dec_count (l : List UInt8) : bits .and .i64 ((at8 l 2 : Int) * 256 + (at8 l 3 : Int)) 16383 = (pkCount l : Int) := by
  have h0 := at8_lt l 2
  have h1 := at8_lt l 3
  have h := mask_i64 14 (at8 l 2 * 256 + at8 l 3) (by omega) (by decide)
  rw [dec_nat, show (16383 : Int) = ((2 ^ 14 - 1 : Nat) : Int) by decide, h]
  unfold pkCount; omega
set_option maxRecDepth 100000 in
set_option maxHeartbeats 1000000 in
theorem decode_any (v : Value) (lo hi : Nat) (l : List UInt8) (w : World) (hr : Row w lo hi v l.length (l.map bv)) :
    Calls Try.prog 51 #[v] w (Ret (PkRes w l)) := by
  have HR := Lib.hid hr
  obtain ⟨p, cap, rfl, hnc, hcm, hn, hx⟩ := hr
  unfold maxLen at hcm
  clear hx hn
  by_cases h6 : l.length < 6
  · clear hcm
    go_enter Try.func51, Try.ntmps51
    go_wp2
    refine bodyPost_ret (v := pkBad 7) (by simp [results, Try.results51, go_sem, pkBad]) rfl ⟨(by repeat (first | (with_reducible exact Below.refl _ _) | (with_reducible assumption) | (with_reducible refine Below.drew ?_) | (with_reducible refine Below.alloc ?_ (by first | omega | (simp; done) | (simp; omega)) _) | (with_reducible refine Below.setCell ?_ (by first | omega | (simp; done) | (simp; omega)) _) | (refine Below.trans ?_ (Below.mono (by assumption) (by first | omega | (simp; done) | (simp; omega)))))), .inl ?_⟩
    have : pkErr l = 7 := by simp [pkErr, h6]
    rw [this]; exact ⟨by decide, rfl⟩
  · obtain ⟨b, off, rfl, hbk, _, _, hc⟩ := HR.out.bytes (by omega)
    have c0 := hc 0 (by omega)
    have c1 := hc 1 (by omega)
    have c2 := hc 2 (by omega)
    have c3 := hc 3 (by omega)
    have c4 := hc 4 (by omega)
    have c5 := hc 5 (by omega)
    simp only [Nat.add_zero] at c0
    have k0 := at8_lt l 0
    have k1 := at8_lt l 1
    have k2 := at8_lt l 2
    have k3 := at8_lt l 3
    have k4 := at8_lt l 4
    have k5 := at8_lt l 5
    have j0 := join8 _ _ k0 k1
    have j2 := join8 _ _ k2 k3
    have j4 := join8 _ _ k4 k5
    clear hc
    have hs : Hid (pkLen l ≤ l.length → Row w lo hi (.slice (some ⟨b, off + 6, none⟩) (at8 l 4 * 256 + at8 l 5 + 1) (cap - 6)) (at8 l 4 * 256 + at8 l 5 + 1) ((pkData l).map bv)) := fun hle => by
      have := HR.out.piece (by simp) 6 (pkLen l) (by unfold pkLen; omega) hle
      rw [← List.map_take, ← List.map_drop, show pkLen l - 6 = at8 l 4 * 256 + at8 l 5 + 1 by unfold pkLen; omega] at this
      exact this
    have hd : Hid (pkLen l ≤ l.length → (pkData l).length = at8 l 4 * 256 + at8 l 5 + 1) := fun hle => by
      show (pkData l).length = _
      unfold pkData; unfold pkLen at hle ⊢; simp; omega
    have hh : Hid ((0 + (at8 l 4 * 256 + at8 l 5 + 1)) * 1 ≤ 140737488355328) := by show _ ≤ _; omega
    go_enter Try.func51, Try.ntmps51
    go_wp2_with (refine wp_loop_rounds 4 ?_; rw [rounds_succ])
    any_goals ((with_reducible refine wp_region_r (id := 7) [(0, 17)] [(.act, [(17, 1)])] (by kernel_rfl) (by kernel_rfl) ?_); try simp only [pickR, List.drop_succ_cons, List.drop_zero, List.take_succ_cons, List.take_zero, List.take_nil, List.drop_nil, List.append_nil, List.cons_append, List.nil_append]; intro _ _; go_wp2; all_goals (refine seg_pre (by kernel_rfl) ?_); all_goals (refine seg_act (fun _ _ => ?_)); all_goals (try simp only [pickR, List.drop_succ_cons, List.drop_zero, List.take_succ_cons, List.take_zero, List.take_nil, List.drop_nil, List.append_nil, List.cons_append, List.nil_append]); go_wp2; all_goals (refine seg_nil ?_); go_wp2)
    all_goals (rw [rounds_succ]; go_wp2)
    any_goals ((with_reducible refine wp_region_r (id := 7) [(0, 17)] [(.act, [(17, 1)])] (by kernel_rfl) (by kernel_rfl) ?_); try simp only [pickR, List.drop_succ_cons, List.drop_zero, List.take_succ_cons, List.take_zero, List.take_nil, List.drop_nil, List.append_nil, List.cons_append, List.nil_append]; intro _ _; go_wp2; all_goals (refine seg_pre (by kernel_rfl) ?_); all_goals (refine seg_act (fun _ _ => ?_)); all_goals (try simp only [pickR, List.drop_succ_cons, List.drop_zero, List.take_succ_cons, List.take_zero, List.take_nil, List.drop_nil, List.append_nil, List.cons_append, List.nil_append]); go_wp2; all_goals (refine seg_nil ?_); go_wp2)
    all_goals (rw [rounds_succ]; go_wp2)
    any_goals ((with_reducible refine wp_region_r (id := 7) [(0, 17)] [(.act, [(17, 1)])] (by kernel_rfl) (by kernel_rfl) ?_); try simp only [pickR, List.drop_succ_cons, List.drop_zero, List.take_succ_cons, List.take_zero, List.take_nil, List.drop_nil, List.append_nil, List.cons_append, List.nil_append]; intro _ _; go_wp2; all_goals (refine seg_pre (by kernel_rfl) ?_); all_goals (refine seg_act (fun _ _ => ?_)); all_goals (try simp only [pickR, List.drop_succ_cons, List.drop_zero, List.take_succ_cons, List.take_zero, List.take_nil, List.drop_nil, List.append_nil, List.cons_append, List.nil_append]); go_wp2; all_goals (refine seg_nil ?_); go_wp2)
    all_goals (rw [rounds_succ]; go_wp2)
    · refine bodyPost_ret (v := pkBad 8) (by simp [results, Try.results51, go_sem, pkBad]) rfl ⟨?_, .inl ?_⟩
      · exact (by repeat (first | (with_reducible exact Below.refl _ _) | (with_reducible assumption) | (with_reducible refine Below.drew ?_) | (with_reducible refine Below.alloc ?_ (by first | omega | (simp; done) | (simp; omega)) _) | (with_reducible refine Below.setCell ?_ (by first | omega | (simp; done) | (simp; omega)) _) | (refine Below.trans ?_ (Below.mono (by assumption) (by first | omega | (simp; done) | (simp; omega))))))
      have : pkErr l = 8 := by rename_i hh; rw [bne_iff_ne] at hh; simp [pkErr, h6]; omega
      rw [this]; exact ⟨by decide, rfl⟩
    · refine bodyPost_ret (v := pkBad 7) (by simp [results, Try.results51, go_sem, pkBad]) rfl ⟨?_, .inl ?_⟩
      · exact (by repeat (first | (with_reducible exact Below.refl _ _) | (with_reducible assumption) | (with_reducible refine Below.drew ?_) | (with_reducible refine Below.alloc ?_ (by first | omega | (simp; done) | (simp; omega)) _) | (with_reducible refine Below.setCell ?_ (by first | omega | (simp; done) | (simp; omega)) _) | (refine Below.trans ?_ (Below.mono (by assumption) (by first | omega | (simp; done) | (simp; omega))))))
      have : pkErr l = 7 := by rename_i h1 h2; rw [bne_eq_false_iff_eq] at h1; simp [pkErr, h6, pkLen]; omega
      rw [this]; exact ⟨by decide, rfl⟩
    have h1 : (((at8 l 0 : Int) * 256 + (at8 l 1 : Int)) / 8192 != 0) = false := by assumption
    have h2 : (at8 l 4 : Int) * 256 + (at8 l 5 : Int) + 7 ≤ (l.length : Int) := by assumption
    have hle : Hid (pkLen l ≤ l.length) := by show _ ≤ _; unfold pkLen; omega
    have hok : Hid (pkOk l) := ⟨by omega, by rw [bne_eq_false_iff_eq] at h1; omega, hle.out⟩
    any_goals ((with_reducible refine wp_region_r (id := 14) [(0, 20)] [(.pure, [(22, 1)]), (.loud, [(20, 1)]), (.pure, [(21, 1)]), (.act, [(23, 1)]), (.pure, [(24, 2)])] (by kernel_rfl) (by kernel_rfl) ?_); try simp only [pickR, List.drop_succ_cons, List.drop_zero, List.take_succ_cons, List.take_zero, List.take_nil, List.drop_nil, List.append_nil, List.cons_append, List.nil_append]; intro _ _; go_wp2_with ((go_at_call 28; refine calls_ret (cloneBytes _ _ lo hi _ _ ((hs.out hle.out).ext (by repeat (first | (with_reducible exact Ext.refl _) | (with_reducible assumption) | (with_reducible refine ext_dl ?_) | (with_reducible refine ext_dr ?_) | (with_reducible refine ext_alloc ?_ _) | (with_reducible refine ext_new ?_ (by assumption))))) (by rw [List.length_map, hd.out hle.out, Nat.mul_one]) (fun y hy => by obtain ⟨x, _, rfl⟩ := List.mem_map.1 hy; rfl) hh.out) ?_; rintro v' w' ⟨hg, hown⟩; obtain ⟨p', c', rfl⟩ := hown.slice; obtain ⟨hrc, hrf, hrs⟩ := below_reads hg)); all_goals (refine seg_pre (by kernel_rfl) ?_); all_goals (refine seg_pure (fun _ _ => ?_)); all_goals (try simp only [pickR, List.drop_succ_cons, List.drop_zero, List.take_succ_cons, List.take_zero, List.take_nil, List.drop_nil, List.append_nil, List.cons_append, List.nil_append]); go_wp2_with ((go_at_call 28; refine calls_ret (cloneBytes _ _ lo hi _ _ ((hs.out hle.out).ext (by repeat (first | (with_reducible exact Ext.refl _) | (with_reducible assumption) | (with_reducible refine ext_dl ?_) | (with_reducible refine ext_dr ?_) | (with_reducible refine ext_alloc ?_ _) | (with_reducible refine ext_new ?_ (by assumption))))) (by rw [List.length_map, hd.out hle.out, Nat.mul_one]) (fun y hy => by obtain ⟨x, _, rfl⟩ := List.mem_map.1 hy; rfl) hh.out) ?_; rintro v' w' ⟨hg, hown⟩; obtain ⟨p', c', rfl⟩ := hown.slice; obtain ⟨hrc, hrf, hrs⟩ := below_reads hg)); all_goals (refine seg_loud (fun _ _ => ?_)); all_goals (try simp only [pickR, List.drop_succ_cons, List.drop_zero, List.take_succ_cons, List.take_zero, List.take_nil, List.drop_nil, List.append_nil, List.cons_append, List.nil_append]); go_wp2_with ((go_at_call 28; refine calls_ret (cloneBytes _ _ lo hi _ _ ((hs.out hle.out).ext (by repeat (first | (with_reducible exact Ext.refl _) | (with_reducible assumption) | (with_reducible refine ext_dl ?_) | (with_reducible refine ext_dr ?_) | (with_reducible refine ext_alloc ?_ _) | (with_reducible refine ext_new ?_ (by assumption))))) (by rw [List.length_map, hd.out hle.out, Nat.mul_one]) (fun y hy => by obtain ⟨x, _, rfl⟩ := List.mem_map.1 hy; rfl) hh.out) ?_; rintro v' w' ⟨hg, hown⟩; obtain ⟨p', c', rfl⟩ := hown.slice; obtain ⟨hrc, hrf, hrs⟩ := below_reads hg)); all_goals (refine seg_ext (by repeat (first | (with_reducible exact Ext.refl _) | (with_reducible assumption) | (with_reducible refine ext_dl ?_) | (with_reducible refine ext_dr ?_) | (with_reducible refine ext_alloc ?_ _) | (with_reducible refine ext_new ?_ (by assumption)))) ?_); all_goals (refine seg_pure (fun _ _ => ?_)); all_goals (try simp only [pickR, List.drop_succ_cons, List.drop_zero, List.take_succ_cons, List.take_zero, List.take_nil, List.drop_nil, List.append_nil, List.cons_append, List.nil_append]); go_wp2_with ((go_at_call 28; refine calls_ret (cloneBytes _ _ lo hi _ _ ((hs.out hle.out).ext (by repeat (first | (with_reducible exact Ext.refl _) | (with_reducible assumption) | (with_reducible refine ext_dl ?_) | (with_reducible refine ext_dr ?_) | (with_reducible refine ext_alloc ?_ _) | (with_reducible refine ext_new ?_ (by assumption))))) (by rw [List.length_map, hd.out hle.out, Nat.mul_one]) (fun y hy => by obtain ⟨x, _, rfl⟩ := List.mem_map.1 hy; rfl) hh.out) ?_; rintro v' w' ⟨hg, hown⟩; obtain ⟨p', c', rfl⟩ := hown.slice; obtain ⟨hrc, hrf, hrs⟩ := below_reads hg)); all_goals (refine seg_act (fun _ _ => ?_)); all_goals (try simp only [pickR, List.drop_succ_cons, List.drop_zero, List.take_succ_cons, List.take_zero, List.take_nil, List.drop_nil, List.append_nil, List.cons_append, List.nil_append]); go_wp2_with ((go_at_call 28; refine calls_ret (cloneBytes _ _ lo hi _ _ ((hs.out hle.out).ext (by repeat (first | (with_reducible exact Ext.refl _) | (with_reducible assumption) | (with_reducible refine ext_dl ?_) | (with_reducible refine ext_dr ?_) | (with_reducible refine ext_alloc ?_ _) | (with_reducible refine ext_new ?_ (by assumption))))) (by rw [List.length_map, hd.out hle.out, Nat.mul_one]) (fun y hy => by obtain ⟨x, _, rfl⟩ := List.mem_map.1 hy; rfl) hh.out) ?_; rintro v' w' ⟨hg, hown⟩; obtain ⟨p', c', rfl⟩ := hown.slice; obtain ⟨hrc, hrf, hrs⟩ := below_reads hg)); all_goals (refine seg_pure (fun _ _ => ?_)); all_goals (try simp only [pickR, List.drop_succ_cons, List.drop_zero, List.take_succ_cons, List.take_zero, List.take_nil, List.drop_nil, List.append_nil, List.cons_append, List.nil_append]); go_wp2_with ((go_at_call 28; refine calls_ret (cloneBytes _ _ lo hi _ _ ((hs.out hle.out).ext (by repeat (first | (with_reducible exact Ext.refl _) | (with_reducible assumption) | (with_reducible refine ext_dl ?_) | (with_reducible refine ext_dr ?_) | (with_reducible refine ext_alloc ?_ _) | (with_reducible refine ext_new ?_ (by assumption))))) (by rw [List.length_map, hd.out hle.out, Nat.mul_one]) (fun y hy => by obtain ⟨x, _, rfl⟩ := List.mem_map.1 hy; rfl) hh.out) ?_; rintro v' w' ⟨hg, hown⟩; obtain ⟨p', c', rfl⟩ := hown.slice; obtain ⟨hrc, hrf, hrs⟩ := below_reads hg)); all_goals (refine seg_nil ?_); go_wp2_with ((go_at_call 28; refine calls_ret (cloneBytes _ _ lo hi _ _ ((hs.out hle.out).ext (by repeat (first | (with_reducible exact Ext.refl _) | (with_reducible assumption) | (with_reducible refine ext_dl ?_) | (with_reducible refine ext_dr ?_) | (with_reducible refine ext_alloc ?_ _) | (with_reducible refine ext_new ?_ (by assumption))))) (by rw [List.length_map, hd.out hle.out, Nat.mul_one]) (fun y hy => by obtain ⟨x, _, rfl⟩ := List.mem_map.1 hy; rfl) hh.out) ?_; rintro v' w' ⟨hg, hown⟩; obtain ⟨p', c', rfl⟩ := hown.slice; obtain ⟨hrc, hrf, hrs⟩ := below_reads hg)))
    refine bodyPost_ret (v := pkVal l (.slice p' (at8 l 4 * 256 + at8 l 5 + 1) c')) ?_ rfl ⟨?_, .inr ⟨hok.out, _, rfl, ?_⟩⟩
    · skip
      have z0 : (w'.cell? ⟨w.heap.size, 0, none⟩).isSome = true := by rw [hrc _ _ (by simp; omega)]; simp [go_sem]
      have z1 : (w'.cell? ⟨w.heap.size, 1, none⟩).isSome = true := by rw [hrc _ _ (by simp; omega)]; simp [go_sem]
      have z2 : (w'.cell? ⟨w.heap.size, 2, none⟩).isSome = true := by rw [hrc _ _ (by simp; omega)]; simp [go_sem]
      have z3 : (w'.cell? ⟨w.heap.size, 3, none⟩).isSome = true := by rw [hrc _ _ (by simp; omega)]; simp [go_sem]
      have z4 : (w'.cell? ⟨w.heap.size, 4, none⟩).isSome = true := by rw [hrc _ _ (by simp; omega)]; simp [go_sem]
      have z5 : (w'.cell? ⟨w.heap.size, 5, none⟩).isSome = true := by rw [hrc _ _ (by simp; omega)]; simp [go_sem]
      clear hrc hrf hg hown
      simp [results, Try.results51, go_sem, pkVal, isSome_setCell, z0, z1, z2, z3, z4, z5]
      exact ⟨⟨dec_up l, dec_second l, dec_apid l, dec_part l, dec_count l⟩, by unfold pkLen; omega⟩
    · clear hrc hrf
      repeat (refine Below.setCell ?_ (by simp) _)
      exact (by repeat (first | (with_reducible exact Below.refl _ _) | (with_reducible assumption) | (with_reducible refine Below.drew ?_) | (with_reducible refine Below.alloc ?_ (by first | omega | (simp; done) | (simp; omega)) _) | (with_reducible refine Below.setCell ?_ (by first | omega | (simp; done) | (simp; omega)) _) | (refine Below.trans ?_ (Below.mono (by assumption) (by first | omega | (simp; done) | (simp; omega))))))
    · have h1 := hown
      rw [hd.out hle.out]
      refine World.ownsRow.low (base := w.heap.size + 1 + 1) ?_ (by omega)
      repeat (refine ownsRow_setCell_below ?_ (by dsimp only; omega) _)
      simpa using h1
end Go.Proofs.Ytamcoomkoenmcaa
