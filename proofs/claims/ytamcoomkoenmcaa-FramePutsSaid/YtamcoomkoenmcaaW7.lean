/- own: a walk. -/
import Derived.Test.YtamcoomkoenmcaaOI
set_option linter.unusedSimpArgs false
set_option linter.unusedVariables false
namespace Go.Proofs.Ytamcoomkoenmcaa
open Go.RowKit Go.Far
set_option maxRecDepth 100000 in
set_option maxHeartbeats 2000000 in
theorem own_any (v : Value) (s : Sd) (lo hi : Nat) (w : World) (hs : SR w lo hi v s) :
    Calls Try.prog 25 #[v] w (Ret (OwnRes w s)) := by
  obtain ⟨qv, rfl, hq⟩ := hs
  unfold sdVal
  obtain ⟨us0, hul, hrow, hin⟩ := hq
  have HL := Lib.hid hul
  have HIN := Lib.hid hin
  have HR := Lib.hid hrow
  obtain ⟨p, cap, rfl, hnc, hcm, hn, _⟩ := hrow
  have hm : s.queues.length ≤ 9223372036854775807 := by unfold maxLen at hcm; omega
  clear hin hul hcm hn
  cases hh : headB s with
  | false =>
    have HH := Lib.hid hh
    clear hh
    go_enter Try.func25, Try.ntmps25
    go_wp2_with (first | (go_at_call 26; refine calls_ret (in_any _ _ _) ?_; rintro _ _ ⟨rfl, rfl⟩) | (go_at_call 47; refine calls_ret (makes_any _ _ _) ?_; rintro _ _ ⟨rfl, rfl⟩))
    all_goals (first | (refine bodyPost_ret (P := Try.prog) (v := .tuple #[sdVal sd0 (.slice none 0 0), .bool false]) (by simp [results, Try.results25, go_sem, sdVal, sd0]; done) rfl ⟨?_, .inl ⟨sdB_head HH.out, rfl⟩⟩; exact (by repeat (first | (with_reducible exact Below.refl _ _) | (with_reducible assumption) | (with_reducible refine Below.drew ?_) | (with_reducible refine Below.alloc ?_ (by first | omega | (simp; done) | (simp; omega)) _) | (with_reducible refine Below.setCell ?_ (by first | omega | (simp; done) | (simp; omega)) _) | (refine Below.trans ?_ (Below.mono (by assumption) (by first | omega | (simp; done) | (simp; omega))))))) | skip)
    exfalso
    have h7 : ((s.queues.length : Int) != 7) = false := by assumption
    have h8 : s.queues.length = 7 := by rw [bne_eq_false_iff_eq] at h7; omega
    exact absurd HH.out (by rw [headB_true (by assumption) (by assumption) (by assumption) h8]; decide)
  | true =>
    have HH := Lib.hid hh
    simp only [headB, Bool.and_eq_true, beq_iff_eq] at hh
    obtain ⟨⟨⟨g1, g2⟩, g3⟩, g4⟩ := hh
    have HR7 : Hid (Row w lo hi (.slice p 7 cap) 7 (flat s.queues us0)) := by have := HR.out; rwa [g4] at this
    have G4 := Lib.hid g4
    go_enter Try.func25, Try.ntmps25
    go_wp2_with (first | (go_at_call 26; refine calls_ret (in_any _ _ _) ?_; rintro _ _ ⟨rfl, rfl⟩) | (go_at_call 47; refine calls_ret (makes_any _ _ _) ?_; rintro _ _ ⟨rfl, rfl⟩))
    go_at_call 48
    refine calls_ret (cloneQueues _ 7 lo hi _ _ (HR7.out.ext (by repeat (first | (with_reducible exact Ext.refl _) | (with_reducible assumption) | (with_reducible refine ext_dl ?_) | (with_reducible refine ext_dr ?_) | (with_reducible refine ext_alloc ?_ _) | (with_reducible refine ext_new ?_ (by assumption))))) (by rw [flat_length _ _ HL.out, G4.out]) (flat_cells HIN.out) (by decide)) ?_
    rintro v' w' ⟨hg, hown⟩
    obtain ⟨g, c, rfl⟩ := ownsRow_form hown (by decide)
    have z0 : World.cell? w' ⟨w.heap.size, 0, none⟩ = some (iv s.craft) := (Below.cell hg (p := ⟨w.heap.size, 0, none⟩) (by first | (simp; done) | (simp; omega))).trans (by simp [go_sem]); have z1 : World.cell? w' ⟨w.heap.size, 1, none⟩ = some (iv s.size) := (Below.cell hg (p := ⟨w.heap.size, 1, none⟩) (by first | (simp; done) | (simp; omega))).trans (by simp [go_sem]); have z2 : World.cell? w' ⟨w.heap.size, 2, none⟩ = some (iv s.master) := (Below.cell hg (p := ⟨w.heap.size, 2, none⟩) (by first | (simp; done) | (simp; omega))).trans (by simp [go_sem]); have z3 : World.cell? w' ⟨w.heap.size, 3, none⟩ = some (iv s.turn) := (Below.cell hg (p := ⟨w.heap.size, 3, none⟩) (by first | (simp; done) | (simp; omega))).trans (by simp [go_sem]); have z4 : World.cell? w' ⟨w.heap.size, 4, none⟩ = some (.slice p 7 cap) := (Below.cell hg (p := ⟨w.heap.size, 4, none⟩) (by first | (simp; done) | (simp; omega))).trans (by simp [go_sem]); have zf : ∀ o, World.frozen? w' ⟨w.heap.size, o, none⟩ = false := fun o => (Below.frozen hg (p := ⟨w.heap.size, o, none⟩) (by first | (simp; done) | (simp; omega))).trans (by simp [go_sem])
    have y0 : World.cell? w' ⟨w.heap.size + 1, 0, none⟩ = some (iv 0) := (Below.cell hg (p := ⟨w.heap.size + 1, 0, none⟩) (by first | (simp; done) | (simp; omega))).trans (by simp [go_sem]); have y1 : World.cell? w' ⟨w.heap.size + 1, 1, none⟩ = some (iv 0) := (Below.cell hg (p := ⟨w.heap.size + 1, 1, none⟩) (by first | (simp; done) | (simp; omega))).trans (by simp [go_sem]); have y2 : World.cell? w' ⟨w.heap.size + 1, 2, none⟩ = some (iv 0) := (Below.cell hg (p := ⟨w.heap.size + 1, 2, none⟩) (by first | (simp; done) | (simp; omega))).trans (by simp [go_sem]); have y3 : World.cell? w' ⟨w.heap.size + 1, 3, none⟩ = some (iv 0) := (Below.cell hg (p := ⟨w.heap.size + 1, 3, none⟩) (by first | (simp; done) | (simp; omega))).trans (by simp [go_sem]); have y4 : World.cell? w' ⟨w.heap.size + 1, 4, none⟩ = some (.slice none 0 0) := (Below.cell hg (p := ⟨w.heap.size + 1, 4, none⟩) (by first | (simp; done) | (simp; omega))).trans (by simp [go_sem]); have yf : ∀ o, World.frozen? w' ⟨w.heap.size + 1, o, none⟩ = false := fun o => (Below.frozen hg (p := ⟨w.heap.size + 1, o, none⟩) (by first | (simp; done) | (simp; omega))).trans (by simp [go_sem])
    have HG := Lib.hid hg
    have HO := Lib.hid hown
    clear hg hown
    go_wp2
    go_loopw [39] (fun x wr => ∃ i : Nat, i ≤ 7 ∧ x = .int .i64 i ∧ Hid (OI (w.heap.size + 1 + 1) g c s us0 (w'.setCell ⟨w.heap.size, 4, none⟩ (.slice (some ⟨g, 0, none⟩) 7 c)) i wr)) (fun x _ => 7 - (intOf x).toNat)
    case atStart =>
      refine ⟨0, by omega, rfl, fun j hj => absurd hj (Nat.not_lt_zero j), Below.refl _ _, us0, HL.out, ?_, fun j hj => absurd hj (Nat.not_lt_zero j), fun _ _ => rfl, fun j j' k _ hj => absurd hj (Nat.not_lt_zero j')⟩
      exact ownsRow_setCell_below (HO.out.low (by simp)) (by dsimp only; omega) _
    case round =>
      rename World => wr
      obtain ⟨i, hile, rfl, hoi⟩ := hrel
      obtain ⟨hall, hbl, us, hus, hown, hpo, hrest, hsep⟩ := hoi.out
      have x0 : World.cell? wr ⟨w.heap.size, 0, none⟩ = some (iv s.craft) := (Below.cell hbl (p := ⟨w.heap.size, 0, none⟩) (by first | (simp; done) | (simp; omega))).trans (by simp [go_sem, z0, z1, z2, z3, z4, zf]); have x1 : World.cell? wr ⟨w.heap.size, 1, none⟩ = some (iv s.size) := (Below.cell hbl (p := ⟨w.heap.size, 1, none⟩) (by first | (simp; done) | (simp; omega))).trans (by simp [go_sem, z0, z1, z2, z3, z4, zf]); have x2 : World.cell? wr ⟨w.heap.size, 2, none⟩ = some (iv s.master) := (Below.cell hbl (p := ⟨w.heap.size, 2, none⟩) (by first | (simp; done) | (simp; omega))).trans (by simp [go_sem, z0, z1, z2, z3, z4, zf]); have x3 : World.cell? wr ⟨w.heap.size, 3, none⟩ = some (iv s.turn) := (Below.cell hbl (p := ⟨w.heap.size, 3, none⟩) (by first | (simp; done) | (simp; omega))).trans (by simp [go_sem, z0, z1, z2, z3, z4, zf]); have x4 : World.cell? wr ⟨w.heap.size, 4, none⟩ = some (.slice (some ⟨g, 0, none⟩) 7 c) := (Below.cell hbl (p := ⟨w.heap.size, 4, none⟩) (by first | (simp; done) | (simp; omega))).trans (by simp [go_sem, z0, z1, z2, z3, z4, zf]); have xf : ∀ o, World.frozen? wr ⟨w.heap.size, o, none⟩ = false := fun o => (Below.frozen hbl (p := ⟨w.heap.size, o, none⟩) (by first | (simp; done) | (simp; omega))).trans (by simp [go_sem, z0, z1, z2, z3, z4, zf])
      have u0 : World.cell? wr ⟨w.heap.size + 1, 0, none⟩ = some (iv 0) := (Below.cell hbl (p := ⟨w.heap.size + 1, 0, none⟩) (by first | (simp; done) | (simp; omega))).trans (by simp [go_sem, y0, y1, y2, y3, y4, yf]); have u1 : World.cell? wr ⟨w.heap.size + 1, 1, none⟩ = some (iv 0) := (Below.cell hbl (p := ⟨w.heap.size + 1, 1, none⟩) (by first | (simp; done) | (simp; omega))).trans (by simp [go_sem, y0, y1, y2, y3, y4, yf]); have u2 : World.cell? wr ⟨w.heap.size + 1, 2, none⟩ = some (iv 0) := (Below.cell hbl (p := ⟨w.heap.size + 1, 2, none⟩) (by first | (simp; done) | (simp; omega))).trans (by simp [go_sem, y0, y1, y2, y3, y4, yf]); have u3 : World.cell? wr ⟨w.heap.size + 1, 3, none⟩ = some (iv 0) := (Below.cell hbl (p := ⟨w.heap.size + 1, 3, none⟩) (by first | (simp; done) | (simp; omega))).trans (by simp [go_sem, y0, y1, y2, y3, y4, yf]); have u4 : World.cell? wr ⟨w.heap.size + 1, 4, none⟩ = some (.slice none 0 0) := (Below.cell hbl (p := ⟨w.heap.size + 1, 4, none⟩) (by first | (simp; done) | (simp; omega))).trans (by simp [go_sem, y0, y1, y2, y3, y4, yf]); have uf : ∀ o, World.frozen? wr ⟨w.heap.size + 1, o, none⟩ = false := fun o => (Below.frozen hbl (p := ⟨w.heap.size + 1, o, none⟩) (by first | (simp; done) | (simp; omega))).trans (by simp [go_sem, y0, y1, y2, y3, y4, yf])
      clear z0 z1 z2 z3 z4 y0 y1 y2 y3 y4 zf yf
      have hsz : w.heap.size + 1 + 1 ≤ wr.heap.size := by have h1 := HG.out.size; have h2 := hbl.size; simp [World.setCell] at h1 h2; omega
      have l0 : w.heap.size < wr.heap.size := by omega
      have l1 : w.heap.size + 1 < wr.heap.size := by omega
      by_cases hi7 : i < 7
      · have hext : Ext w wr := fun k hk => (hbl.block k (by omega)).trans (ext_setCell (((ext_alloc (ext_alloc (Ext.refl w) _) _)).trans HG.out.block) (Nat.le_refl _) _ k hk)
        have hnew : Hid (New w wr) := (((((Below.refl _ _).alloc (Nat.le_refl _) _).alloc (by simp) _).trans (HG.out.mono (by simp; omega))).setCell (Nat.le_refl _) _).trans (hbl.mono (by omega))
        have lg : g < wr.heap.size := (hown.elem (k := g) rfl).2.1
        obtain ⟨q, hq⟩ : ∃ q, s.queues.getD i default = q := ⟨_, rfl⟩
        obtain ⟨u, hu⟩ : ∃ u, us.getD i undef = u := ⟨_, rfl⟩
        have fl := flat_get s.queues us hus i (by rw [G4.out]; exact hi7)
        rw [hq, hu] at fl
        have q0 : wr.cell? ⟨g, i * 3, none⟩ = some (iv q.own) := (hown.cellAt _ (by omega)).trans fl.1
        have q1 : wr.cell? ⟨g, i * 3 + 1, none⟩ = some u := (hown.cellAt _ (by omega)).trans fl.2.1
        have q2 : wr.cell? ⟨g, i * 3 + 2, none⟩ = some (iv q.gone) := (hown.cellAt _ (by omega)).trans fl.2.2
        have qf : ∀ o, wr.frozen? ⟨g, o, none⟩ = false := fun o => hown.frozenAt o
        have hp : PR w lo hi u q.packs := by
          have h1 := HIN.out i (by rw [G4.out]; exact hi7)
          rw [← hrest i (Nat.le_refl i), hu, hq] at h1
          exact h1
        have HP := Lib.hid (hp.ext hext)
        obtain ⟨xs, hxl, hrow, hin⟩ := hp
        have HEXT := Lib.hid hext
        have HOWN := Lib.hid hown
        have HQ := Lib.hid hq
        have HXL := Lib.hid hxl
        have HROW := Lib.hid hrow
        have HIN2 := Lib.hid hin
        have HSZ := Lib.hid hsz
        clear hall hbl hown hpo hrest hsep hq hu hus fl hext hxl hrow hin hsz
        go_wp2_with (go_at_call 49; refine calls_ret (waits_any u q lo hi _ HP.out) ?_; rintro _ w2 ⟨rfl, hg2⟩; obtain ⟨rc2, rf2, rs2⟩ := below_reads hg2; have HG2 := Lib.hid hg2; clear hg2)
        · have hqf : quB q = false := by have h : (!quB q) = true := by assumption
                                         simpa using h
          refine bodyPost_ret (v := .tuple #[sdVal sd0 (.slice none 0 0), .bool false]) ?_ rfl ⟨?_, .inl ⟨sdB_bad (by rw [G4.out]; exact hi7) (by rw [HQ.out]; exact hqf), rfl⟩⟩
          · simp [results, Try.results25, go_sem, sdVal, sd0, isSome_setCell, rc2, rf2, l1, u0, u1, u2, u3, u4]
          · repeat (refine Below.setCell ?_ (by simp) _)
            exact hnew.out.trans (HG2.out.mono (by omega))
        have hqt : Hid (quB q = true) := by have h : (!quB q) = false := by assumption
                                            show quB q = true
                                            simpa using h
        go_at_call 50
        refine calls_ret (cloneRows u q.packs.length lo hi xs _ ((HROW.out.ext HEXT.out).ext HG2.out.block) (by rw [HXL.out, Nat.mul_one]) (rows_cells HXL.out HIN2.out) (by have := (quB_packs hqt.out).1; omega)) ?_
        rintro v3 w3 ⟨hg3, hown3⟩
        obtain ⟨p3, c3, rfl⟩ := hown3.slice
        obtain ⟨rc3, rf3, rs3⟩ := below_reads hg3
        have m0 : w.heap.size < w2.heap.size := by omega
        have m1 : w.heap.size + 1 < w2.heap.size := by omega
        have mg : g < w2.heap.size := by omega
        have HG3 := Lib.hid hg3
        have HO3 := Lib.hid hown3
        clear hg3 hown3
        go_wp2
        have h200 : q.packs.length ≤ 200 := (quB_packs hqt.out).1
        have hW2 : Hid (II (w.heap.size + 1 + 1) (.slice p3 q.packs.length c3) q.packs xs (w3.setCell ⟨g, i * 3 + 1, none⟩ (.slice p3 q.packs.length c3)) 0 (w3.setCell ⟨g, i * 3 + 1, none⟩ (.slice p3 q.packs.length c3))) :=
          II_start HXL.out (own_setCell (a := ⟨g, i * 3 + 1, none⟩) (HO3.out.low (by omega)) (fun hc => own_ne HO3.out ((HOWN.out.new HG2.out).new HG3.out) (by decide) hc rfl) _)
        have qg : (w3.setCell ⟨g, i * 3 + 1, none⟩ (.slice p3 q.packs.length c3)).cell? ⟨g, i * 3 + 1, none⟩ = some (.slice p3 q.packs.length c3) := by
          rw [World.cell?_setCell_same']
          rw [rc3 _ _ mg, rc2 _ _ lg, q1]; rfl
        have QG := Lib.hid qg
        clear qg
        go_loopw [65] (fun x wq => ∃ k : Nat, k ≤ q.packs.length ∧ x = .int .i64 k ∧ Hid (II (w.heap.size + 1 + 1) (.slice p3 q.packs.length c3) q.packs xs (w3.setCell ⟨g, i * 3 + 1, none⟩ (.slice p3 q.packs.length c3)) k wq)) (fun x _ => q.packs.length - (intOf x).toNat)
        case atStart => exact ⟨0, Nat.zero_le _, rfl, hW2⟩
        case round =>
          rename World => wq
          obtain ⟨k, hkle, rfl, hii⟩ := hrel
          by_cases hkn : k < q.packs.length
          · obtain ⟨i1, i2, ys, i3, i4, i5, i6⟩ := hii.out
            obtain ⟨g3, c3', he⟩ := ownsRow_form i4 (by omega)
            injection he with e1 e2 e3
            subst e1
            clear e2 e3
            have hpg : (Value.slice (some ⟨g3, 0, none⟩) q.packs.length c3).ownBlock ≠ some g := fun hc => own_ne HO3.out ((HOWN.out.new HG2.out).new HG3.out) (by decide) hc rfl
            have hgw : g < (w3.setCell ⟨g, i * 3 + 1, none⟩ (.slice (some ⟨g3, 0, none⟩) q.packs.length c3)).heap.size := by simp [World.setCell]; omega
            have t1 : wq.cell? ⟨g, i * 3 + 1, none⟩ = some (.slice (some ⟨g3, 0, none⟩) q.packs.length c3) := (World.cell?_of_block (i2 g hgw hpg)).trans QG.out
            obtain ⟨y, hy⟩ : ∃ y, ys.getD k undef = y := ⟨_, rfl⟩
            have t2 : wq.cell? ⟨g3, k, none⟩ = some y := (i4.cellAt _ (by omega)).trans (by rw [getD_some (d := undef) (by omega), hy])
            have tf : ∀ o, wq.frozen? ⟨g3, o, none⟩ = false := fun o => i4.frozenAt o
            have n1 : g < wq.heap.size := Nat.lt_of_lt_of_le hgw i1.size
            have n3 : g3 < wq.heap.size := (i4.elem (k := g3) rfl).2.1
            have hxq : Ext w wq := fun b hb => by
              rw [i1.block b (by omega), Below.heap_setCell _ _ _ _ (by have := (HOWN.out.elem (k := g) rfl).1; dsimp only; omega), HG3.out.block b (by omega), HG2.out.block b (by omega)]
              exact HEXT.out b hb
            have hrk : Row w lo hi y (q.packs.getD k []).length ((q.packs.getD k []).map bv) := by
              have := HIN2.out k hkn
              rwa [← i6 k (Nat.le_refl k), hy] at this
            have HRK := Lib.hid (hrk.ext hxq)
            have HNB := Lib.hid ((quB_packs hqt.out).2 k hkn)
            have HBQ : Hid (w.heap.size + 1 + 1 ≤ wq.heap.size) := by
              have h1 := i1.size
              simp only [World.setCell, Array.size_modify] at h1
              show _ ≤ _; omega
            clear i1 i2 i3 i4 i5 i6 hpg hgw hy hxq hrk rc2 rc3 rf2 rf3 hW2
            go_wp2
            any_goals ((with_reducible refine wp_region_r (id := 14) [(0, 12)] [(.loud, [(12, 1)]), (.pure, [(13, 1)]), (.act, [(14, 1)])] (by kernel_rfl) (by kernel_rfl) ?_); try simp only [pickR, List.drop_succ_cons, List.drop_zero, List.take_succ_cons, List.take_zero, List.take_nil, List.drop_nil, List.append_nil, List.cons_append, List.nil_append]; intro _ _; go_wp2_with ((go_at_call 28; refine calls_ret (cloneBytes y (q.packs.getD k []).length lo hi _ _ HRK.out (by simp) (fun y hy => by obtain ⟨x, _, rfl⟩ := List.mem_map.1 hy; rfl) (by have := HNB.out; omega)) ?_; rintro v5 w5 ⟨hg5, hown5⟩; obtain ⟨p5, c5, rfl⟩ := hown5.slice; have hn5 := new_undrew hg5; obtain ⟨rc5, rf5, rs5⟩ := below_reads hn5; have HO5 := Lib.hid hown5; clear hg5 hown5)); all_goals (refine seg_pre (by kernel_rfl) ?_); all_goals (refine seg_loud (fun _ _ => ?_)); all_goals (try simp only [pickR, List.drop_succ_cons, List.drop_zero, List.take_succ_cons, List.take_zero, List.take_nil, List.drop_nil, List.append_nil, List.cons_append, List.nil_append]); go_wp2_with ((go_at_call 28; refine calls_ret (cloneBytes y (q.packs.getD k []).length lo hi _ _ HRK.out (by simp) (fun y hy => by obtain ⟨x, _, rfl⟩ := List.mem_map.1 hy; rfl) (by have := HNB.out; omega)) ?_; rintro v5 w5 ⟨hg5, hown5⟩; obtain ⟨p5, c5, rfl⟩ := hown5.slice; have hn5 := new_undrew hg5; obtain ⟨rc5, rf5, rs5⟩ := below_reads hn5; have HO5 := Lib.hid hown5; clear hg5 hown5)); all_goals (refine seg_ext (by repeat (first | (with_reducible exact Ext.refl _) | (with_reducible assumption) | (with_reducible refine ext_dl ?_) | (with_reducible refine ext_dr ?_) | (with_reducible refine ext_alloc ?_ _) | (with_reducible refine ext_new ?_ (by assumption)))) ?_); all_goals (refine seg_pure (fun _ _ => ?_)); all_goals (try simp only [pickR, List.drop_succ_cons, List.drop_zero, List.take_succ_cons, List.take_zero, List.take_nil, List.drop_nil, List.append_nil, List.cons_append, List.nil_append]); go_wp2_with ((go_at_call 28; refine calls_ret (cloneBytes y (q.packs.getD k []).length lo hi _ _ HRK.out (by simp) (fun y hy => by obtain ⟨x, _, rfl⟩ := List.mem_map.1 hy; rfl) (by have := HNB.out; omega)) ?_; rintro v5 w5 ⟨hg5, hown5⟩; obtain ⟨p5, c5, rfl⟩ := hown5.slice; have hn5 := new_undrew hg5; obtain ⟨rc5, rf5, rs5⟩ := below_reads hn5; have HO5 := Lib.hid hown5; clear hg5 hown5)); all_goals (refine seg_act (fun _ _ => ?_)); all_goals (try simp only [pickR, List.drop_succ_cons, List.drop_zero, List.take_succ_cons, List.take_zero, List.take_nil, List.drop_nil, List.append_nil, List.cons_append, List.nil_append]); go_wp2_with ((go_at_call 28; refine calls_ret (cloneBytes y (q.packs.getD k []).length lo hi _ _ HRK.out (by simp) (fun y hy => by obtain ⟨x, _, rfl⟩ := List.mem_map.1 hy; rfl) (by have := HNB.out; omega)) ?_; rintro v5 w5 ⟨hg5, hown5⟩; obtain ⟨p5, c5, rfl⟩ := hown5.slice; have hn5 := new_undrew hg5; obtain ⟨rc5, rf5, rs5⟩ := below_reads hn5; have HO5 := Lib.hid hown5; clear hg5 hown5)); all_goals (refine seg_nil ?_); go_wp2_with ((go_at_call 28; refine calls_ret (cloneBytes y (q.packs.getD k []).length lo hi _ _ HRK.out (by simp) (fun y hy => by obtain ⟨x, _, rfl⟩ := List.mem_map.1 hy; rfl) (by have := HNB.out; omega)) ?_; rintro v5 w5 ⟨hg5, hown5⟩; obtain ⟨p5, c5, rfl⟩ := hown5.slice; have hn5 := new_undrew hg5; obtain ⟨rc5, rf5, rs5⟩ := below_reads hn5; have HO5 := Lib.hid hown5; clear hg5 hown5)))
            go_roundw
            case rel => exact ⟨k + 1, by omega, by go_num, II_step hii.out rfl hkn HBQ.out hn5 (by have e : q.packs[k] = q.packs.getD k [] := (by simp [hkn]); rw [e]; exact HO5.out)⟩
            case measure => simp [intOf]; omega
          · have hkk : k = q.packs.length := by omega
            subst hkk
            clear hkn hkle
            go_wp2
            go_roundw
            case rel =>
              have hB2 := HOWN.out.elem (k := g) rfl
              refine ⟨i + 1, by omega, by go_num, ?_⟩
              refine OI_step hoi.out hi7 G4.out (by have := HSZ.out; omega) (by rw [HQ.out]; exact hqt.out) (HG2.out.trans HG3.out) (pv := .slice p3 q.packs.length c3) (xs := xs) ?_ ?_
              · rw [HQ.out]; exact HO3.out.low HG2.out.size
              · rw [HQ.out]; exact hii.out
            case measure => simp [intOf]; omega
      · have hi77 : i = 7 := by omega
        subst hi77
        have hend := OI_end hoi.out G4.out
        have hsd : Hid (sdB s = true) := sdB_all HH.out (fun j hj => hall j (by have := G4.out; omega))
        have hnew : Hid (New w wr) := (((((Below.refl _ _).alloc (Nat.le_refl _) _).alloc (by simp) _).trans (HG.out.mono (by simp; omega))).setCell (Nat.le_refl _) _).trans (hbl.mono (by omega))
        clear hall hbl hown hpo hrest hsep hi7
        have HE := Lib.hid hend
        clear hend
        go_wp2
        refine bodyPost_ret (v := .tuple #[sdVal s (.slice (some ⟨g, 0, none⟩) 7 c), .bool true]) ?_ rfl ⟨?_, .inr ⟨hsd.out, _, rfl, ?_⟩⟩
        · simp [results, Try.results25, go_sem, sdVal, isSome_setCell, u0, u1, u2, u3, u4]
        · repeat (refine Below.setCell ?_ (by simp) _)
          exact hnew.out
        · refine QOwn.low (base := w.heap.size + 1 + 1) ?_ (by omega)
          repeat (refine QOwn.setLow ?_ (by dsimp only; omega) _)
          exact HE.out
end Go.Proofs.Ytamcoomkoenmcaa
