/- The reference's decoder of packets: its walk. -/
import Derived.Test.YtamcoomkoenmcaaW1
set_option linter.unusedSimpArgs false
set_option linter.unusedVariables false
namespace Go.Proofs.Ytamcoomkoenmcaa
open Go.RowKit Go.Far
set_option maxRecDepth 100000 in
set_option maxHeartbeats 1000000 in
theorem packetOf_any (v : Value) (lo hi : Nat) (l : List UInt8) (w : World) (hr : Row w lo hi v l.length (l.map bv)) :
    Calls Try.prog 35 #[v] w (Ret (PkRes w l)) := by
  have T := Lib.hid (ElemOk.mk (z := .int .u8 0) Try.underlying25 (by kernel_rfl) rfl (by decide) : ElemOk Try.prog 25 5 1 1 (.int .u8 0))
  have HR := Lib.hid hr
  obtain ⟨p, cap, rfl, hnc, hcm, hn, hx⟩ := hr
  unfold maxLen at hcm
  clear hx hn
  by_cases h6 : l.length < 6
  · clear hcm
    go_enter Try.func35, Try.ntmps35
    go_wp2
    refine bodyPost_ret (v := pkBad 7) (by simp [results, Try.results35, go_sem, pkBad]) rfl ⟨(Below.refl _ _).alloc (Nat.le_refl _) _, .inl ?_⟩
    have : pkErr l = 7 := by simp [pkErr, h6]
    rw [this]; exact ⟨by decide, rfl⟩
  · obtain ⟨b, off, rfl, hbk, _, _, hc⟩ := HR.out.bytes (by omega)
    have c0 := hc 0 (by omega)
    have c1 := hc 1 (by omega)
    have c2 := hc 2 (by omega)
    have c3 := hc 3 (by omega)
    have c4 := hc 4 (by omega)
    have c5 := hc 5 (by omega)
    simp only [Nat.add_zero] at c0
    have k0 := at8_lt l 0
    have k1 := at8_lt l 1
    have k2 := at8_lt l 2
    have k3 := at8_lt l 3
    have k4 := at8_lt l 4
    have k5 := at8_lt l 5
    have HC := Lib.hid hc
    clear hc
    by_cases h0 : at8 l 0 / 32 = 0
    · have t0 : ((at8 l 0 : Int) / 32 != 0) = false := by rw [bne_eq_false_iff_eq]; omega
      by_cases hle : pkLen l ≤ l.length
      · have hok : pkOk l := ⟨by omega, h0, hle⟩
        have hs : Hid (Row w lo hi (.slice (some ⟨b, off + 6, none⟩) (7 + at8 l 4 * 256 + at8 l 5 - 6) (cap - 6)) (7 + at8 l 4 * 256 + at8 l 5 - 6) ((pkData l).map bv)) := by
          have := HR.out.piece (by simp) 6 (pkLen l) (by unfold pkLen; omega) hle
          rw [← List.map_take, ← List.map_drop] at this
          exact this
        have hd : Hid ((pkData l).length = 7 + at8 l 4 * 256 + at8 l 5 - 6) := by
          show (pkData l).length = _
          unfold pkData; unfold pkLen at hle ⊢; simp; omega
        have HO := Lib.hid hok
        unfold pkLen at hle
        clear hok h0
        go_enter Try.func35, Try.ntmps35
        go_wp2
        any_goals ((with_reducible refine wp_region_r (id := 5) [(0, 12)] [] (by kernel_rfl) (by kernel_rfl) ?_); try simp only [pickR, List.drop_succ_cons, List.drop_zero, List.take_succ_cons, List.take_zero, List.take_nil, List.drop_nil, List.append_nil, List.cons_append, List.nil_append]; intro _ _; go_wp2; all_goals (refine seg_pre (by kernel_rfl) ?_); all_goals (refine seg_nil ?_); go_wp2)
        any_goals ((with_reducible refine wp_region_r (id := 8) [(0, 40)] [(.loud, [(40, 1)]), (.act, [(41, 1)])] (by kernel_rfl) (by kernel_rfl) ?_); try simp only [pickR, List.drop_succ_cons, List.drop_zero, List.take_succ_cons, List.take_zero, List.take_nil, List.drop_nil, List.append_nil, List.cons_append, List.nil_append]; intro _ _; go_wp2_with ((at_builtin; refine wl_append_bytes T.out rfl _ _ rfl (w.heap.size + 1 + 1) rfl rfl (World.ownsRow_nil _ _ _ _) (hs.out.ext (by repeat (first | (with_reducible exact Ext.refl _) | (with_reducible assumption) | (with_reducible refine ext_dl ?_) | (with_reducible refine ext_dr ?_) | (with_reducible refine ext_alloc ?_ _) | (with_reducible refine ext_new ?_ (by assumption))))) hd.out (by omega) (by simp) (fun p' c' w' hown hg => ?_); obtain ⟨hrc, hrf, hrs⟩ := below_reads hg)); all_goals (refine seg_pre (by kernel_rfl) ?_); all_goals (refine seg_loud (fun _ _ => ?_)); all_goals (try simp only [pickR, List.drop_succ_cons, List.drop_zero, List.take_succ_cons, List.take_zero, List.take_nil, List.drop_nil, List.append_nil, List.cons_append, List.nil_append]); go_wp2_with ((at_builtin; refine wl_append_bytes T.out rfl _ _ rfl (w.heap.size + 1 + 1) rfl rfl (World.ownsRow_nil _ _ _ _) (hs.out.ext (by repeat (first | (with_reducible exact Ext.refl _) | (with_reducible assumption) | (with_reducible refine ext_dl ?_) | (with_reducible refine ext_dr ?_) | (with_reducible refine ext_alloc ?_ _) | (with_reducible refine ext_new ?_ (by assumption))))) hd.out (by omega) (by simp) (fun p' c' w' hown hg => ?_); obtain ⟨hrc, hrf, hrs⟩ := below_reads hg)); all_goals (refine seg_ext (by repeat (first | (with_reducible exact Ext.refl _) | (with_reducible assumption) | (with_reducible refine ext_dl ?_) | (with_reducible refine ext_dr ?_) | (with_reducible refine ext_alloc ?_ _) | (with_reducible refine ext_new ?_ (by assumption)))) ?_); all_goals (refine seg_act (fun _ _ => ?_)); all_goals (try simp only [pickR, List.drop_succ_cons, List.drop_zero, List.take_succ_cons, List.take_zero, List.take_nil, List.drop_nil, List.append_nil, List.cons_append, List.nil_append]); go_wp2_with ((at_builtin; refine wl_append_bytes T.out rfl _ _ rfl (w.heap.size + 1 + 1) rfl rfl (World.ownsRow_nil _ _ _ _) (hs.out.ext (by repeat (first | (with_reducible exact Ext.refl _) | (with_reducible assumption) | (with_reducible refine ext_dl ?_) | (with_reducible refine ext_dr ?_) | (with_reducible refine ext_alloc ?_ _) | (with_reducible refine ext_new ?_ (by assumption))))) hd.out (by omega) (by simp) (fun p' c' w' hown hg => ?_); obtain ⟨hrc, hrf, hrs⟩ := below_reads hg)); all_goals (refine seg_nil ?_); go_wp2_with ((at_builtin; refine wl_append_bytes T.out rfl _ _ rfl (w.heap.size + 1 + 1) rfl rfl (World.ownsRow_nil _ _ _ _) (hs.out.ext (by repeat (first | (with_reducible exact Ext.refl _) | (with_reducible assumption) | (with_reducible refine ext_dl ?_) | (with_reducible refine ext_dr ?_) | (with_reducible refine ext_alloc ?_ _) | (with_reducible refine ext_new ?_ (by assumption))))) hd.out (by omega) (by simp) (fun p' c' w' hown hg => ?_); obtain ⟨hrc, hrf, hrs⟩ := below_reads hg)))
        have hsz1 : w.heap.size < w'.heap.size := by simp at hrs; omega
        have hsz2 : w.heap.size + 1 < w'.heap.size := by simp at hrs; omega
        have hi0 := Array.getElem?_eq_getElem hsz1
        refine bodyPost_ret (v := pkVal l (.slice p' (0 + (7 + at8 l 4 * 256 + at8 l 5 - 6)) c')) ?_ rfl ⟨?_, .inr ⟨HO.out, _, rfl, ?_⟩⟩
        · skip
          have z0 : (w'.cell? ⟨w.heap.size, 0, none⟩).isSome = true := by rw [hrc _ _ (by omega)]; simp [go_sem]
          have z1 : (w'.cell? ⟨w.heap.size, 1, none⟩).isSome = true := by rw [hrc _ _ (by omega)]; simp [go_sem]
          have z2 : (w'.cell? ⟨w.heap.size, 2, none⟩).isSome = true := by rw [hrc _ _ (by omega)]; simp [go_sem]
          have z3 : (w'.cell? ⟨w.heap.size, 3, none⟩).isSome = true := by rw [hrc _ _ (by omega)]; simp [go_sem]
          have z4 : (w'.cell? ⟨w.heap.size, 4, none⟩).isSome = true := by rw [hrc _ _ (by omega)]; simp [go_sem]
          have z5 : (w'.cell? ⟨w.heap.size, 5, none⟩).isSome = true := by rw [hrc _ _ (by omega)]; simp [go_sem]
          clear hrc hrf hg hown
          simp [results, Try.results35, go_sem, pkVal, up_eq, second_eq, apid_eq, count_eq, pkLen, pkPart, isSome_setCell, z0, z1, z2, z3, z4, z5]
        · clear hrc hrf
          repeat (refine Below.setCell ?_ (by simp) _)
          refine Below.trans ?_ (Below.mono hg (by omega))
          exact (by repeat (first | (with_reducible exact Below.refl _ _) | (with_reducible assumption) | (with_reducible refine Below.drew ?_) | (with_reducible refine Below.alloc ?_ (by first | omega | (simp; done) | (simp; omega)) _) | (with_reducible refine Below.setCell ?_ (by first | omega | (simp; done) | (simp; omega)) _) | (refine Below.trans ?_ (Below.mono (by assumption) (by first | omega | (simp; done) | (simp; omega))))))
        · have h1 := hown
          rw [Nat.zero_add, List.nil_append, ← hd.out] at h1
          rw [Nat.zero_add, ← hd.out]
          refine World.ownsRow.low (base := w.heap.size + 1 + 1) ?_ (by omega)
          repeat (refine ownsRow_setCell_below ?_ (by dsimp only; omega) _)
          exact h1
      · have hb : pkErr l = 7 := by simp [pkErr, h6, h0]; omega
        have HB := Lib.hid hb
        unfold pkLen at hle
        clear hb h0
        go_enter Try.func35, Try.ntmps35
        go_wp2
        any_goals ((with_reducible refine wp_region_r (id := 5) [(0, 12)] [] (by kernel_rfl) (by kernel_rfl) ?_); try simp only [pickR, List.drop_succ_cons, List.drop_zero, List.take_succ_cons, List.take_zero, List.take_nil, List.drop_nil, List.append_nil, List.cons_append, List.nil_append]; intro _ _; go_wp2; all_goals (refine seg_pre (by kernel_rfl) ?_); all_goals (refine seg_nil ?_); go_wp2)
        refine bodyPost_ret (v := pkBad 7) (by simp [results, Try.results35, go_sem, pkBad]) rfl ⟨((Below.refl _ _).alloc (Nat.le_refl _) _).drew, .inl ?_⟩
        rw [HB.out]; exact ⟨by decide, rfl⟩
    · have t0 : ((at8 l 0 : Int) / 32 != 0) = true := by rw [bne_iff_ne]; omega
      have hb : pkErr l = 8 := by simp [pkErr, h6]; omega
      have HB := Lib.hid hb
      clear hb h0
      go_enter Try.func35, Try.ntmps35
      go_wp2
      refine bodyPost_ret (v := pkBad 8) (by simp [results, Try.results35, go_sem, pkBad]) rfl ⟨(Below.refl _ _).alloc (Nat.le_refl _) _, .inl ?_⟩
      rw [HB.out]; exact ⟨by decide, rfl⟩
end Go.Proofs.Ytamcoomkoenmcaa
