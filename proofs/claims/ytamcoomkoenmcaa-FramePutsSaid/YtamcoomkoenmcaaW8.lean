/- Put: a walk. -/
import Derived.Test.YtamcoomkoenmcaaPut
set_option linter.unusedSimpArgs false
set_option linter.unusedVariables false
namespace Go.Proofs.Ytamcoomkoenmcaa
open Go.RowKit Go.Far
set_option maxRecDepth 100000 in
set_option maxHeartbeats 2000000 in
theorem put_any (v bb : Value) (s : Sd) (ch : Int) (l : List UInt8) (lo hi lo' hi' : Nat) (w : World) (hs : SR w lo hi v s) (hb : Row w lo' hi' bb l.length (l.map bv)) :
    Calls Try.prog 9 #[v, iv ch, bb] w (Ret (PutRes w s ch l)) := by
  have HS := Lib.hid hs
  have HB := Lib.hid hb
  obtain ⟨qv, rfl, us0, hul, ⟨p, cap, rfl, _, _, _, _⟩, _⟩ := hs
  obtain ⟨pb, capb, rfl, _, _, _, _⟩ := hb
  unfold sdVal
  go_enter Try.func9, Try.ntmps9
  go_wp2_with (fail)
  go_at_call 25
  refine calls_ret (own_any _ s lo hi _ (HS.out.ext (by repeat (first | (with_reducible exact Ext.refl _) | (with_reducible assumption) | (with_reducible refine ext_dl ?_) | (with_reducible refine ext_dr ?_) | (with_reducible refine ext_alloc ?_ _) | (with_reducible refine ext_new ?_ (by assumption)))))) ?_
  rintro r w' ⟨hg, hres⟩
  have z0 : World.cell? w' ⟨w.heap.size, 0, none⟩ = some (iv s.craft) := (Below.cell hg (p := ⟨w.heap.size, 0, none⟩) (by first | (simp; done) | (simp; omega))).trans (by simp [go_sem]); have z1 : World.cell? w' ⟨w.heap.size, 1, none⟩ = some (iv s.size) := (Below.cell hg (p := ⟨w.heap.size, 1, none⟩) (by first | (simp; done) | (simp; omega))).trans (by simp [go_sem]); have z2 : World.cell? w' ⟨w.heap.size, 2, none⟩ = some (iv s.master) := (Below.cell hg (p := ⟨w.heap.size, 2, none⟩) (by first | (simp; done) | (simp; omega))).trans (by simp [go_sem]); have z3 : World.cell? w' ⟨w.heap.size, 3, none⟩ = some (iv s.turn) := (Below.cell hg (p := ⟨w.heap.size, 3, none⟩) (by first | (simp; done) | (simp; omega))).trans (by simp [go_sem]); have z4 : World.cell? w' ⟨w.heap.size, 4, none⟩ = some (.slice p s.queues.length cap) := (Below.cell hg (p := ⟨w.heap.size, 4, none⟩) (by first | (simp; done) | (simp; omega))).trans (by simp [go_sem]); have zf : ∀ o, World.frozen? w' ⟨w.heap.size, o, none⟩ = false := fun o => (Below.frozen hg (p := ⟨w.heap.size, o, none⟩) (by first | (simp; done) | (simp; omega))).trans (by simp [go_sem])
  have y0 : World.cell? w' ⟨w.heap.size + 1, 0, none⟩ = some (iv 0) := (Below.cell hg (p := ⟨w.heap.size + 1, 0, none⟩) (by first | (simp; done) | (simp; omega))).trans (by simp [go_sem]); have y1 : World.cell? w' ⟨w.heap.size + 1, 1, none⟩ = some (iv 0) := (Below.cell hg (p := ⟨w.heap.size + 1, 1, none⟩) (by first | (simp; done) | (simp; omega))).trans (by simp [go_sem]); have y2 : World.cell? w' ⟨w.heap.size + 1, 2, none⟩ = some (iv 0) := (Below.cell hg (p := ⟨w.heap.size + 1, 2, none⟩) (by first | (simp; done) | (simp; omega))).trans (by simp [go_sem]); have y3 : World.cell? w' ⟨w.heap.size + 1, 3, none⟩ = some (iv 0) := (Below.cell hg (p := ⟨w.heap.size + 1, 3, none⟩) (by first | (simp; done) | (simp; omega))).trans (by simp [go_sem]); have y4 : World.cell? w' ⟨w.heap.size + 1, 4, none⟩ = some (.slice none 0 0) := (Below.cell hg (p := ⟨w.heap.size + 1, 4, none⟩) (by first | (simp; done) | (simp; omega))).trans (by simp [go_sem]); have yf : ∀ o, World.frozen? w' ⟨w.heap.size + 1, o, none⟩ = false := fun o => (Below.frozen hg (p := ⟨w.heap.size + 1, o, none⟩) (by first | (simp; done) | (simp; omega))).trans (by simp [go_sem])
  have hx : Hid (Ext w w') := (ext_alloc (ext_alloc (Ext.refl w) _) _).trans hg.block
  have hsz : w.heap.size + 1 + 1 ≤ w'.heap.size := by have h := hg.size; simpa using h
  have HN : Hid (New w w') := (((Below.refl _ _).alloc (Nat.le_refl _) _).alloc (by simp) _).trans (hg.mono (by simp; omega))
  have l0 : w.heap.size < w'.heap.size := by omega
  have l1 : w.heap.size + 1 < w'.heap.size := by omega
  rcases hres with ⟨hf, rfl⟩ | ⟨ht, qv', rfl, hq⟩
  · have HF := Lib.hid hf
    clear hg hf hul
    unfold sdVal sd0
    go_wp2
    refine bodyPost_ret (v := .tuple #[sdVal sd0 (.slice none 0 0), iv 11]) ?_ rfl ⟨?_, sdVal sd0 (.slice none 0 0), ?_, ?_⟩
    · simp [results, Try.results9, go_sem, sdVal, sd0, isSome_setCell, y0, y1, y2, y3, y4]
    · repeat (refine Below.setCell ?_ (by simp) _)
      exact HN.out
    · simp [putErr, HF.out]
    · rw [show putS s ch l = sd0 by simp [putS, HF.out]]; exact ⟨_, rfl, QOwn.nil _ _⟩
  · have h7 : s.queues.length = 7 := by
      have h := ht
      simp only [sdB, headB, Bool.and_eq_true, beq_iff_eq] at h
      exact h.1.2
    have hqo := hq.low (base' := w.heap.size + 1 + 1) (by simp)
    obtain ⟨g, c, rfl⟩ : ∃ g c, qv' = .slice (some ⟨g, 0, none⟩) 7 c := by
      obtain ⟨us, _, h2, _⟩ := hq
      rw [h7] at h2
      exact ownsRow_form h2 (by decide)
    have HT := Lib.hid ht
    have HQ := Lib.hid hqo
    have H7 := Lib.hid h7
    clear hg ht hq hqo h7 hul
    unfold sdVal
    cases hc6 : inB ch 6 with
    | false =>
      go_wp2_with (go_at_call 26; refine calls_ret (in_any _ _ _) ?_; rintro _ _ ⟨rfl, rfl⟩)
      refine bodyPost_ret (v := .tuple #[sdVal s (.slice (some ⟨g, 0, none⟩) 7 c), iv 2]) ?_ rfl ⟨?_, sdVal s (.slice (some ⟨g, 0, none⟩) 7 c), ?_, ?_⟩
      · simp [results, Try.results9, go_sem, sdVal, isSome_setCell, z0, z1, z2, z3, z4, y0, y1, y2, y3, y4]
      · repeat (refine Below.setCell ?_ (by simp) _)
        exact HN.out
      · simp [putErr, HT.out, hc6]
      · rw [show putS s ch l = s by simp [putS, putErr, HT.out, hc6]]
        refine ⟨_, rfl, QOwn.low (base := w.heap.size + 1 + 1) ?_ (by omega)⟩
        repeat (refine QOwn.setLow ?_ (by dsimp only; omega) _)
        exact HQ.out
    | true =>
    obtain ⟨k, rfl⟩ : ∃ k : Nat, ch = (k : Int) := ⟨ch.toNat, by have := (inB_iff.1 hc6).1; omega⟩
    have hk6 : k ≤ 6 := by have := (inB_iff.1 hc6).2; omega
    have hv : Hid (∀ r, r = oneB l → True) := fun _ _ => trivial
    go_wp2_with (go_at_call 26; refine calls_ret (in_any _ _ _) ?_; rintro _ _ ⟨rfl, rfl⟩)
    go_at_call 27
    refine calls_ret (one_any _ lo' hi' l _ (HB.out.ext ?_)) ?_
    · repeat (refine ext_setCell ?_ (by simp) _)
      exact hx.out
    rintro _ w2 ⟨rfl, hg2⟩
    have x0 : World.cell? w2 ⟨w.heap.size, 0, none⟩ = some (iv s.craft) := (Below.cell hg2 (p := ⟨w.heap.size, 0, none⟩) (by first | (simp; done) | (simp; omega))).trans (by simp [go_sem, isSome_setCell, z0, z1, z2, z3, z4, zf]); have x1 : World.cell? w2 ⟨w.heap.size, 1, none⟩ = some (iv s.size) := (Below.cell hg2 (p := ⟨w.heap.size, 1, none⟩) (by first | (simp; done) | (simp; omega))).trans (by simp [go_sem, isSome_setCell, z0, z1, z2, z3, z4, zf]); have x2 : World.cell? w2 ⟨w.heap.size, 2, none⟩ = some (iv s.master) := (Below.cell hg2 (p := ⟨w.heap.size, 2, none⟩) (by first | (simp; done) | (simp; omega))).trans (by simp [go_sem, isSome_setCell, z0, z1, z2, z3, z4, zf]); have x3 : World.cell? w2 ⟨w.heap.size, 3, none⟩ = some (iv s.turn) := (Below.cell hg2 (p := ⟨w.heap.size, 3, none⟩) (by first | (simp; done) | (simp; omega))).trans (by simp [go_sem, isSome_setCell, z0, z1, z2, z3, z4, zf]); have x4 : World.cell? w2 ⟨w.heap.size, 4, none⟩ = some (.slice (some ⟨g, 0, none⟩) 7 c) := (Below.cell hg2 (p := ⟨w.heap.size, 4, none⟩) (by first | (simp; done) | (simp; omega))).trans (by simp [go_sem, isSome_setCell, z0, z1, z2, z3, z4, zf]); have xf : ∀ o, World.frozen? w2 ⟨w.heap.size, o, none⟩ = false := fun o => (Below.frozen hg2 (p := ⟨w.heap.size, o, none⟩) (by first | (simp; done) | (simp; omega))).trans (by simp [go_sem, isSome_setCell, z0, z1, z2, z3, z4, zf])
    have v0 : World.cell? w2 ⟨w.heap.size + 1, 0, none⟩ = some (iv 0) := (Below.cell hg2 (p := ⟨w.heap.size + 1, 0, none⟩) (by first | (simp; done) | (simp; omega))).trans (by simp [go_sem, isSome_setCell, y0, y1, y2, y3, y4, yf]); have v1 : World.cell? w2 ⟨w.heap.size + 1, 1, none⟩ = some (iv 0) := (Below.cell hg2 (p := ⟨w.heap.size + 1, 1, none⟩) (by first | (simp; done) | (simp; omega))).trans (by simp [go_sem, isSome_setCell, y0, y1, y2, y3, y4, yf]); have v2 : World.cell? w2 ⟨w.heap.size + 1, 2, none⟩ = some (iv 0) := (Below.cell hg2 (p := ⟨w.heap.size + 1, 2, none⟩) (by first | (simp; done) | (simp; omega))).trans (by simp [go_sem, isSome_setCell, y0, y1, y2, y3, y4, yf]); have v3 : World.cell? w2 ⟨w.heap.size + 1, 3, none⟩ = some (iv 0) := (Below.cell hg2 (p := ⟨w.heap.size + 1, 3, none⟩) (by first | (simp; done) | (simp; omega))).trans (by simp [go_sem, isSome_setCell, y0, y1, y2, y3, y4, yf]); have v4 : World.cell? w2 ⟨w.heap.size + 1, 4, none⟩ = some (.slice none 0 0) := (Below.cell hg2 (p := ⟨w.heap.size + 1, 4, none⟩) (by first | (simp; done) | (simp; omega))).trans (by simp [go_sem, isSome_setCell, y0, y1, y2, y3, y4, yf]); have vf : ∀ o, World.frozen? w2 ⟨w.heap.size + 1, o, none⟩ = false := fun o => (Below.frozen hg2 (p := ⟨w.heap.size + 1, o, none⟩) (by first | (simp; done) | (simp; omega))).trans (by simp [go_sem, isSome_setCell, y0, y1, y2, y3, y4, yf])
    have hsz2 : w.heap.size + 1 + 1 ≤ w2.heap.size := by have h := hg2.size; simp [World.setCell] at h; omega
    have m0 : w.heap.size < w2.heap.size := by omega
    have m1 : w.heap.size + 1 < w2.heap.size := by omega
    have HN2 : Hid (New w w2) := by
      refine Below.trans ?_ (hg2.mono (by simp [World.setCell]; omega))
      repeat (refine Below.setCell ?_ (by simp) _)
      exact HN.out
    have hq2 : QOwn w2 (w.heap.size + 1 + 1) (.slice (some ⟨g, 0, none⟩) 7 c) s.queues := by
      refine QOwn.new ?_ hg2
      repeat (refine QOwn.setLow ?_ (by dsimp only; omega) _)
      exact HQ.out
    have HQ2 := Lib.hid hq2
    have hx2 : Ext w w2 := HN2.out.block
    clear hg2 z0 z1 z2 z3 z4 zf y0 y1 y2 y3 y4 yf l0 l1 hsz hq2 hv
    cases h1 : oneB l with
    | false =>
      go_wp2
      refine bodyPost_ret (v := .tuple #[sdVal s (.slice (some ⟨g, 0, none⟩) 7 c), iv 8]) ?_ rfl ⟨?_, sdVal s (.slice (some ⟨g, 0, none⟩) 7 c), ?_, ?_⟩
      · simp [results, Try.results9, go_sem, sdVal, isSome_setCell, x0, x1, x2, x3, x4, v0, v1, v2, v3, v4]
      · repeat (refine Below.setCell ?_ (by simp) _)
        exact HN2.out
      · simp [putErr, HT.out, hc6, h1]
      · rw [show putS s k l = s by simp [putS, putErr, HT.out, hc6, h1]]
        refine ⟨_, rfl, QOwn.low (base := w.heap.size + 1 + 1) ?_ (by omega)⟩
        repeat (refine QOwn.setLow ?_ (by dsimp only; omega) _)
        exact HQ2.out
    | true =>
      obtain ⟨us, hus, hown, hpo, hsep⟩ := HQ2.out
      have hk7 : k < s.queues.length := by rw [H7.out]; omega
      obtain ⟨q, hq⟩ : ∃ q, s.queues.getD k default = q := ⟨_, rfl⟩
      obtain ⟨u, hu⟩ : ∃ u, us.getD k undef = u := ⟨_, rfl⟩
      have fl := flat_get s.queues us hus k hk7
      rw [hq, hu] at fl
      rw [H7.out] at hown
      have q0 : w2.cell? ⟨g, k * 3, none⟩ = some (iv q.own) := (hown.cellAt _ (by omega)).trans fl.1
      have q1 : w2.cell? ⟨g, k * 3 + 1, none⟩ = some u := (hown.cellAt _ (by omega)).trans fl.2.1
      have q2 : w2.cell? ⟨g, k * 3 + 2, none⟩ = some (iv q.gone) := (hown.cellAt _ (by omega)).trans fl.2.2
      have qf : ∀ o, w2.frozen? ⟨g, o, none⟩ = false := fun o => hown.frozenAt o
      have hp := hpo k hk7
      rw [hu, hq] at hp
      obtain ⟨xs, p1, p2, p3⟩ := hp
      obtain ⟨pu, cu, rfl⟩ := p2.slice
      have hqb : quB q = true := by
        have h := HT.out
        simp only [sdB, Bool.and_eq_true, List.all_eq_true] at h
        rw [← hq]
        have e : s.queues.getD k default = s.queues[k] := by simp [hk7]
        rw [e]; exact h.2 _ (List.getElem_mem hk7)
      have hq200 := (quB_packs hqb).1
      have HP1 := Lib.hid p1
      have HP2 := Lib.hid p2
      have HP3 := Lib.hid p3
      have HQQ := Lib.hid hq
      have HU := Lib.hid hu
      have HUS := Lib.hid hus
      have HOWN := Lib.hid hown
      have HPO := Lib.hid hpo
      have HSEP := Lib.hid hsep
      have hl1 := oneB_length h1
      have ng : g < w2.heap.size := (hown.elem (k := g) rfl).2.1
      clear hus hown hpo hsep fl p1 p2 p3 hq hu hqb
      by_cases hfull : q.packs.length = 200
      · go_wp2
        have hpe : putErr s k l = 12 := by
          unfold putErr
          rw [if_neg (by rw [HT.out]; decide), if_neg (by rw [hc6]; decide), if_neg (by rw [h1]; decide), if_pos (by rw [Int.toNat_natCast, HQQ.out]; omega)]
        refine bodyPost_ret (v := .tuple #[sdVal s (.slice (some ⟨g, 0, none⟩) 7 c), iv 12]) ?_ rfl ⟨?_, sdVal s (.slice (some ⟨g, 0, none⟩) 7 c), ?_, ?_⟩
        · simp [results, Try.results9, go_sem, sdVal, isSome_setCell, x0, x1, x2, x3, x4, v0, v1, v2, v3, v4]
        · repeat (refine Below.setCell ?_ (by simp) _)
          exact HN2.out
        · rw [hpe]
        · rw [show putS s k l = s by unfold putS; rw [if_neg (by rw [HT.out]; decide), if_neg (by rw [hpe]; decide)]]
          refine ⟨_, rfl, QOwn.low (base := w.heap.size + 1 + 1) ?_ (by omega)⟩
          repeat (refine QOwn.setLow ?_ (by dsimp only; omega) _)
          exact HQ2.out
      · have hpe : Hid (putErr s k l = 0) := by
          show putErr s k l = 0
          unfold putErr
          rw [if_neg (by rw [HT.out]; decide), if_neg (by rw [hc6]; decide), if_neg (by rw [h1]; decide), if_neg (by rw [Int.toNat_natCast, HQQ.out]; omega)]
        have T := Lib.hid (ElemOk.mk (z := .slice none 0 0) Try.underlying59 (by kernel_rfl) rfl (by decide) : ElemOk Try.prog 59 25 1 24 (.slice none 0 0))
        have hlt : q.packs.length < 200 := by omega
        clear hfull
        go_wp2_with (fail)
        (with_reducible refine wp_region_r (id := 11) [(1, 5)] [(.pure, [(0, 1)]), (.loud, [(6, 1)]), (.loud, [(7, 1)]), (.act, [(8, 2)]), (.pure, [(10, 1)]), (.act, [(11, 1)])] (by kernel_rfl) (by kernel_rfl) ?_)
        (try simp only [pickR, List.drop_succ_cons, List.drop_zero, List.take_succ_cons, List.take_zero, List.take_nil, List.drop_nil, List.append_nil, List.cons_append, List.nil_append])
        intro _ _
        go_wp2
        refine seg_pre (by kernel_rfl) ?_
        refine seg_pure (fun _ _ => ?_)
        (try simp only [pickR, List.drop_succ_cons, List.drop_zero, List.take_succ_cons, List.take_zero, List.take_nil, List.drop_nil, List.append_nil, List.cons_append, List.nil_append])
        go_wp2
        refine seg_loud (fun _ _ => ?_)
        (try simp only [pickR, List.drop_succ_cons, List.drop_zero, List.take_succ_cons, List.take_zero, List.take_nil, List.drop_nil, List.append_nil, List.cons_append, List.nil_append])
        go_wp2_with (fail)
        go_at_call 28
        refine calls_ret (cloneBytes _ l.length lo' hi' _ _ (HB.out.ext hx2) (by simp) (fun y hy => by obtain ⟨x, _, rfl⟩ := List.mem_map.1 hy; rfl) (by omega)) ?_
        rintro v5 w5 ⟨hg5, hown5⟩
        obtain ⟨p5, c5, rfl⟩ := hown5.slice
        have hn5 := new_undrew hg5
        have HO5 := Lib.hid hown5
        have HG5 := Lib.hid hg5
        clear hg5 hown5
        go_wp2
        refine seg_ext (by repeat (first | (with_reducible exact Ext.refl _) | (with_reducible assumption) | (with_reducible refine ext_dl ?_) | (with_reducible refine ext_dr ?_) | (with_reducible refine ext_alloc ?_ _) | (with_reducible refine ext_new ?_ (by assumption)))) ?_
        refine seg_loud (fun _ _ => ?_)
        (try simp only [pickR, List.drop_succ_cons, List.drop_zero, List.take_succ_cons, List.take_zero, List.take_nil, List.drop_nil, List.append_nil, List.cons_append, List.nil_append])
        go_wp2
        refine seg_ext (by repeat (first | (with_reducible exact Ext.refl _) | (with_reducible assumption) | (with_reducible refine ext_dl ?_) | (with_reducible refine ext_dr ?_) | (with_reducible refine ext_alloc ?_ _) | (with_reducible refine ext_new ?_ (by assumption)))) ?_
        refine seg_act (fun _ _ => ?_)
        (try simp only [pickR, List.drop_succ_cons, List.drop_zero, List.take_succ_cons, List.take_zero, List.take_nil, List.drop_nil, List.append_nil, List.cons_append, List.nil_append])
        have hB5 : w.heap.size + 1 + 1 ≤ (w5.alloc (.cells #[.slice p5 l.length c5] 25)).heap.size := by have h := hn5.size; simp; omega
        refine wl_append_one T.out rfl _ _ rfl (w.heap.size + 1 + 1) rfl (ad := ⟨w5.heap.size, 0, none⟩) rfl (y := .slice p5 l.length c5) ((HP2.out.new hn5).alloc _) (by simp [go_sem]) rfl (by omega) (by simp [maxLen]; omega) hB5 (fun g6 c6 w6 hown6 hgr6 hor6 => ?_)
        have hb6 : Below (w.heap.size + 1 + 1) w2 w6 := Below.grown ((hn5.mono hsz2).alloc (Nat.le_trans hsz2 hn5.size) _) hgr6 hB5 (fun k hk => (HP2.out.elem hk).1)
        have hpg : (Value.slice pu q.packs.length cu).ownBlock ≠ some g := fun hc => own_ne HP2.out HOWN.out (by decide) hc rfl
        have hgq : w6.heap[g]? = w2.heap[g]? := by
          rw [hgr6.block g (by have h := hn5.size; simp; omega) (fun hc => hpg hc.symm), Below.heap_alloc _ _ _ (by have h := hn5.size; omega), hn5.block g ng]
        have a0 : World.cell? w6 ⟨w.heap.size, 0, none⟩ = some (iv s.craft) := (Below.cell hb6 (p := ⟨w.heap.size, 0, none⟩) (by first | (simp; done) | (simp; omega))).trans (by simp [go_sem, x0, x1, x2, x3, x4, xf]); have a1 : World.cell? w6 ⟨w.heap.size, 1, none⟩ = some (iv s.size) := (Below.cell hb6 (p := ⟨w.heap.size, 1, none⟩) (by first | (simp; done) | (simp; omega))).trans (by simp [go_sem, x0, x1, x2, x3, x4, xf]); have a2 : World.cell? w6 ⟨w.heap.size, 2, none⟩ = some (iv s.master) := (Below.cell hb6 (p := ⟨w.heap.size, 2, none⟩) (by first | (simp; done) | (simp; omega))).trans (by simp [go_sem, x0, x1, x2, x3, x4, xf]); have a3 : World.cell? w6 ⟨w.heap.size, 3, none⟩ = some (iv s.turn) := (Below.cell hb6 (p := ⟨w.heap.size, 3, none⟩) (by first | (simp; done) | (simp; omega))).trans (by simp [go_sem, x0, x1, x2, x3, x4, xf]); have a4 : World.cell? w6 ⟨w.heap.size, 4, none⟩ = some (.slice (some ⟨g, 0, none⟩) 7 c) := (Below.cell hb6 (p := ⟨w.heap.size, 4, none⟩) (by first | (simp; done) | (simp; omega))).trans (by simp [go_sem, x0, x1, x2, x3, x4, xf]); have af : ∀ o, World.frozen? w6 ⟨w.heap.size, o, none⟩ = false := fun o => (Below.frozen hb6 (p := ⟨w.heap.size, o, none⟩) (by first | (simp; done) | (simp; omega))).trans (by simp [go_sem, x0, x1, x2, x3, x4, xf])
        have b0 : World.cell? w6 ⟨w.heap.size + 1, 0, none⟩ = some (iv 0) := (Below.cell hb6 (p := ⟨w.heap.size + 1, 0, none⟩) (by first | (simp; done) | (simp; omega))).trans (by simp [go_sem, v0, v1, v2, v3, v4, vf]); have b1 : World.cell? w6 ⟨w.heap.size + 1, 1, none⟩ = some (iv 0) := (Below.cell hb6 (p := ⟨w.heap.size + 1, 1, none⟩) (by first | (simp; done) | (simp; omega))).trans (by simp [go_sem, v0, v1, v2, v3, v4, vf]); have b2 : World.cell? w6 ⟨w.heap.size + 1, 2, none⟩ = some (iv 0) := (Below.cell hb6 (p := ⟨w.heap.size + 1, 2, none⟩) (by first | (simp; done) | (simp; omega))).trans (by simp [go_sem, v0, v1, v2, v3, v4, vf]); have b3 : World.cell? w6 ⟨w.heap.size + 1, 3, none⟩ = some (iv 0) := (Below.cell hb6 (p := ⟨w.heap.size + 1, 3, none⟩) (by first | (simp; done) | (simp; omega))).trans (by simp [go_sem, v0, v1, v2, v3, v4, vf]); have b4 : World.cell? w6 ⟨w.heap.size + 1, 4, none⟩ = some (.slice none 0 0) := (Below.cell hb6 (p := ⟨w.heap.size + 1, 4, none⟩) (by first | (simp; done) | (simp; omega))).trans (by simp [go_sem, v0, v1, v2, v3, v4, vf]); have bf : ∀ o, World.frozen? w6 ⟨w.heap.size + 1, o, none⟩ = false := fun o => (Below.frozen hb6 (p := ⟨w.heap.size + 1, o, none⟩) (by first | (simp; done) | (simp; omega))).trans (by simp [go_sem, v0, v1, v2, v3, v4, vf])
        have r1 : w6.cell? ⟨g, k * 3 + 1, none⟩ = some (.slice pu q.packs.length cu) := (World.cell?_of_block hgq).trans q1
        have rf : ∀ o, w6.frozen? ⟨g, o, none⟩ = false := fun o => (World.frozen?_of_block hgq).trans (qf o)
        have HO6 := Lib.hid hown6
        have HG6 := Lib.hid hgr6
        have HR6 := Lib.hid hor6
        have HGQ := Lib.hid hgq
        have hng : g ≠ w.heap.size := by have := (HOWN.out.elem (k := g) rfl).1; omega
        have hng1 : g ≠ w.heap.size + 1 := by have := (HOWN.out.elem (k := g) rfl).1; omega
        clear hown6 hgr6 hor6 hgq x0 x1 x2 x3 x4 xf v0 v1 v2 v3 v4 vf q0 q1 q2 qf m0 m1
        go_wp2
        refine seg_pure (fun _ _ => ?_)
        (try simp only [pickR, List.drop_succ_cons, List.drop_zero, List.take_succ_cons, List.take_zero, List.take_nil, List.drop_nil, List.append_nil, List.cons_append, List.nil_append])
        go_wp2
        refine seg_act (fun _ _ => ?_)
        (try simp only [pickR, List.drop_succ_cons, List.drop_zero, List.take_succ_cons, List.take_zero, List.take_nil, List.drop_nil, List.append_nil, List.cons_append, List.nil_append])
        go_wp2
        refine seg_nil ?_
        go_wp2
        have hputS : putS s k l = { s with queues := s.queues.set k (quPut q l) } := by
          unfold putS
          rw [if_neg (by rw [HT.out]; decide), if_pos hpe.out, Int.toNat_natCast, HQQ.out]
        -- what the last store makes of the queues
        have hwf : QOwn (w6.setCell ⟨g, k * 3 + 1, none⟩ (.slice (some ⟨g6, 0, none⟩) (q.packs.length + 1) c6)) (w.heap.size + 1 + 1) (.slice (some ⟨g, 0, none⟩) 7 c) (s.queues.set k (quPut q l)) := by
          have hgc := HOWN.out.elem (k := g) rfl
          have hown6 : w6.ownsRow (w.heap.size + 1 + 1) 61 3 (.slice (some ⟨g, 0, none⟩) 7 c) 7 (flat s.queues us) := HOWN.out.same fun k' hk' => by
            have : g = k' := by simpa [Value.ownBlock] using hk'
            subst this; exact HGQ.out
          have hpo6 : POwn w6 (w.heap.size + 1 + 1) (.slice (some ⟨g6, 0, none⟩) (q.packs.length + 1) c6) (q.packs ++ [l]) :=
            POwn.more HP1.out ((HP2.out.new hn5).alloc _) (fun j hj => ((HP3.out j hj).new hn5).alloc _) ((HO5.out.low (by exact hsz2)).alloc _) (fun b hb hne => HG6.out.block b hb (fun hc => hne hc.symm)) HO6.out
          have hcur6 : ∃ cur, w6.heap[g]? = some (.cells cur 61 (0, 0)) := by rw [HGQ.out]; exact hgc.2.2
          obtain ⟨cur6, hcur6⟩ := hcur6
          have hg6 : g6 ≠ g := by
            intro hc
            subst hc
            obtain ⟨_, _, cu6, hcu6⟩ := HO6.out.elem (k := g6) rfl
            rw [hcur6] at hcu6; injection hcu6 with hcu6; injection hcu6 with _ he _; exact absurd he (by decide)
          refine QOwn.grow (w := w2) (wa := w6) (us := us) (u' := .slice (some ⟨g6, 0, none⟩) (q.packs.length + 1) c6) H7.out.symm HUS.out HPO.out HSEP.out hk7 (fun b hb hne hbg => ?_) hgc.2.2 (fun k' hk' => ?_) ?_ ?_
          · rw [HU.out] at hne
            rw [Below.heap_setCell _ _ _ _ hbg, HG6.out.block b (by have h := hn5.size; simp; omega) (fun hc => hne hc.symm), Below.heap_alloc _ _ _ (by have h := hn5.size; omega), hn5.block b hb]
          · rw [HU.out]
            have e : g6 = k' := by simpa [Value.ownBlock] using hk'
            subst e
            rcases HR6.out with h | h
            · exact .inl h
            · right; have h5 := hn5.size; rw [h]; simp; omega
          · refine POwn.but hpo6 hcur6 (by decide) (fun hc => ?_) (fun b hb _ => Below.heap_setCell _ _ _ _ hb)
            exact hg6 (by simpa [Value.ownBlock] using hc)
          · rw [flat_put1 _ _ HUS.out k (quPut q l) _ hk7 (by rw [HQQ.out]; rfl) (by rw [HQQ.out]; rfl)]
            exact (hown6.stored (k * 3 + 1) _).1
        have HWF := Lib.hid hwf
        have hgB := (HOWN.out.elem (k := g) rfl).1
        refine bodyPost_ret (v := .tuple #[sdVal s (.slice (some ⟨g, 0, none⟩) 7 c), iv 0]) ?_ rfl ⟨?_, sdVal s (.slice (some ⟨g, 0, none⟩) 7 c), ?_, ?_⟩
        · clear hwf
          simp [results, Try.results9, go_sem, sdVal, isSome_setCell, a0, a1, a2, a3, a4, b0, b1, b2, b3, b4]
        · repeat (refine Below.setCell ?_ (by first | (simp; done) | (dsimp only; omega)) _)
          exact Below.trans HN2.out (hb6.mono (by omega))
        · rw [hpe.out]
        · rw [hputS]
          refine ⟨_, rfl, QOwn.low (base := w.heap.size + 1 + 1) ?_ (by omega)⟩
          refine QOwn.setLow (QOwn.setLow (QOwn.setLow (QOwn.setLow (QOwn.setLow ?_ (by dsimp only; omega) _) (by dsimp only; omega) _) (by dsimp only; omega) _) (by dsimp only; omega) _) (by dsimp only; omega) _
          exact HWF.out
end Go.Proofs.Ytamcoomkoenmcaa
