/- PutIn: a walk. -/
import Derived.Test.YtamcoomkoenmcaaW10
set_option linter.unusedSimpArgs false
set_option linter.unusedVariables false
namespace Go.Proofs.Ytamcoomkoenmcaa
open Go.RowKit Go.Far
set_option maxRecDepth 100000 in
set_option maxHeartbeats 2000000 in
theorem putIn_any (v bb : Value) (s : Sd) (ch : Int) (l : List UInt8) (lo hi lo' hi' : Nat) (w : World) (hs : SR w lo hi v s) (hb : Row w lo' hi' bb l.length (l.map bv)) :
    Calls Try.prog 6 #[v, iv ch, bb] w (Ret (PutRes w s ch l)) := by
  have HS := Lib.hid hs
  have HB := Lib.hid hb
  obtain ⟨qv, rfl, us0, hul, ⟨p, cap, rfl, _, _, _, _⟩, _⟩ := hs
  obtain ⟨pb, capb, rfl, _, _, _, _⟩ := hb
  have hv : sdVal s (.slice p s.queues.length cap) = .agg #[iv s.craft, iv s.size, iv s.master, iv s.turn, .slice p s.queues.length cap] := rfl
  rw [hv] at HS ⊢
  clear hv
  go_enter Try.func6, Try.ntmps6
  go_wp2_with (fail)
  go_at_call 22
  refine calls_ret (senderMay_any _ s lo hi _ (HS.out.ext (by repeat (first | (with_reducible exact Ext.refl _) | (with_reducible assumption) | (with_reducible refine ext_dl ?_) | (with_reducible refine ext_dr ?_) | (with_reducible refine ext_alloc ?_ _) | (with_reducible refine ext_new ?_ (by assumption)))))) ?_
  rintro _ w1 ⟨rfl, hg1⟩
  have z0 : World.cell? w1 ⟨w.heap.size, 0, none⟩ = some (iv s.craft) := (Below.cell hg1 (p := ⟨w.heap.size, 0, none⟩) (by first | (simp; done) | (simp; omega))).trans (by simp [go_sem]); have z1 : World.cell? w1 ⟨w.heap.size, 1, none⟩ = some (iv s.size) := (Below.cell hg1 (p := ⟨w.heap.size, 1, none⟩) (by first | (simp; done) | (simp; omega))).trans (by simp [go_sem]); have z2 : World.cell? w1 ⟨w.heap.size, 2, none⟩ = some (iv s.master) := (Below.cell hg1 (p := ⟨w.heap.size, 2, none⟩) (by first | (simp; done) | (simp; omega))).trans (by simp [go_sem]); have z3 : World.cell? w1 ⟨w.heap.size, 3, none⟩ = some (iv s.turn) := (Below.cell hg1 (p := ⟨w.heap.size, 3, none⟩) (by first | (simp; done) | (simp; omega))).trans (by simp [go_sem]); have z4 : World.cell? w1 ⟨w.heap.size, 4, none⟩ = some (.slice p s.queues.length cap) := (Below.cell hg1 (p := ⟨w.heap.size, 4, none⟩) (by first | (simp; done) | (simp; omega))).trans (by simp [go_sem]); have zf : ∀ o, World.frozen? w1 ⟨w.heap.size, o, none⟩ = false := fun o => (Below.frozen hg1 (p := ⟨w.heap.size, o, none⟩) (by first | (simp; done) | (simp; omega))).trans (by simp [go_sem])
  have y0 : World.cell? w1 ⟨w.heap.size + 1, 0, none⟩ = some (iv 0) := (Below.cell hg1 (p := ⟨w.heap.size + 1, 0, none⟩) (by first | (simp; done) | (simp; omega))).trans (by simp [go_sem]); have y1 : World.cell? w1 ⟨w.heap.size + 1, 1, none⟩ = some (iv 0) := (Below.cell hg1 (p := ⟨w.heap.size + 1, 1, none⟩) (by first | (simp; done) | (simp; omega))).trans (by simp [go_sem]); have y2 : World.cell? w1 ⟨w.heap.size + 1, 2, none⟩ = some (iv 0) := (Below.cell hg1 (p := ⟨w.heap.size + 1, 2, none⟩) (by first | (simp; done) | (simp; omega))).trans (by simp [go_sem]); have y3 : World.cell? w1 ⟨w.heap.size + 1, 3, none⟩ = some (iv 0) := (Below.cell hg1 (p := ⟨w.heap.size + 1, 3, none⟩) (by first | (simp; done) | (simp; omega))).trans (by simp [go_sem]); have y4 : World.cell? w1 ⟨w.heap.size + 1, 4, none⟩ = some (.slice none 0 0) := (Below.cell hg1 (p := ⟨w.heap.size + 1, 4, none⟩) (by first | (simp; done) | (simp; omega))).trans (by simp [go_sem]); have yf : ∀ o, World.frozen? w1 ⟨w.heap.size + 1, o, none⟩ = false := fun o => (Below.frozen hg1 (p := ⟨w.heap.size + 1, o, none⟩) (by first | (simp; done) | (simp; omega))).trans (by simp [go_sem])
  have hx1 : Ext w w1 := (ext_alloc (ext_alloc (Ext.refl w) _) _).trans hg1.block
  have hsz1 : w.heap.size + 1 + 1 ≤ w1.heap.size := by have h := hg1.size; simpa using h
  have HN1 : Hid (New w w1) := (((Below.refl _ _).alloc (Nat.le_refl _) _).alloc (by simp) _).trans (hg1.mono (by simp; omega))
  have l0 : w.heap.size < w1.heap.size := by omega
  have l1 : w.heap.size + 1 < w1.heap.size := by omega
  clear hg1
  cases hsd : sdB s with
  | false =>
    go_wp2_with (fail)
    refine bodyPost_ret (v := .tuple #[sdVal sd0 (.slice none 0 0), iv 11]) ?_ rfl ⟨?_, sdVal sd0 (.slice none 0 0), ?_, ?_⟩
    · simp [results, Try.results6, go_sem, sdVal, sd0, isSome_setCell, y0, y1, y2, y3, y4]
    · repeat (refine Below.setCell ?_ (by simp) _)
      exact HN1.out
    · simp [putErr, hsd]
    · rw [show putS s ch l = sd0 by simp [putS, hsd]]; exact ⟨_, rfl, QOwn.nil _ _⟩
  | true =>
    have HT := Lib.hid hsd
    have H7 : Hid (s.queues.length = 7) := by
      have h := hsd
      simp only [sdB, headB, Bool.and_eq_true, beq_iff_eq] at h
      exact h.1.2
    have HSB := Lib.hid (SB_of hsd)
    clear hul
    go_wp2_with (fail)
    go_at_call 23
    refine calls_ret (senderOf_any _ s lo hi _ (HS.out.ext hx1) HSB.out) ?_
    rintro r w' ⟨hg, hso⟩
    obtain ⟨qv', rfl, hq⟩ := hso
    have hqo := hq.low (base' := w.heap.size + 1 + 1) hsz1
    obtain ⟨g, c, rfl⟩ : ∃ g c, qv' = .slice (some ⟨g, 0, none⟩) 7 c := by
      obtain ⟨us, _, h2, _⟩ := hq
      rw [H7.out] at h2
      exact ownsRow_form h2 (by decide)
    have z'0 : World.cell? w' ⟨w.heap.size, 0, none⟩ = some (iv s.craft) := (Below.cell hg (p := ⟨w.heap.size, 0, none⟩) (by first | (simp; done) | (simp; omega))).trans (by simp [go_sem, z0, z1, z2, z3, z4, zf]); have z'1 : World.cell? w' ⟨w.heap.size, 1, none⟩ = some (iv s.size) := (Below.cell hg (p := ⟨w.heap.size, 1, none⟩) (by first | (simp; done) | (simp; omega))).trans (by simp [go_sem, z0, z1, z2, z3, z4, zf]); have z'2 : World.cell? w' ⟨w.heap.size, 2, none⟩ = some (iv s.master) := (Below.cell hg (p := ⟨w.heap.size, 2, none⟩) (by first | (simp; done) | (simp; omega))).trans (by simp [go_sem, z0, z1, z2, z3, z4, zf]); have z'3 : World.cell? w' ⟨w.heap.size, 3, none⟩ = some (iv s.turn) := (Below.cell hg (p := ⟨w.heap.size, 3, none⟩) (by first | (simp; done) | (simp; omega))).trans (by simp [go_sem, z0, z1, z2, z3, z4, zf]); have z'4 : World.cell? w' ⟨w.heap.size, 4, none⟩ = some (.slice p s.queues.length cap) := (Below.cell hg (p := ⟨w.heap.size, 4, none⟩) (by first | (simp; done) | (simp; omega))).trans (by simp [go_sem, z0, z1, z2, z3, z4, zf]); have z'f : ∀ o, World.frozen? w' ⟨w.heap.size, o, none⟩ = false := fun o => (Below.frozen hg (p := ⟨w.heap.size, o, none⟩) (by first | (simp; done) | (simp; omega))).trans (by simp [go_sem, z0, z1, z2, z3, z4, zf])
    have y'0 : World.cell? w' ⟨w.heap.size + 1, 0, none⟩ = some (iv 0) := (Below.cell hg (p := ⟨w.heap.size + 1, 0, none⟩) (by first | (simp; done) | (simp; omega))).trans (by simp [go_sem, y0, y1, y2, y3, y4, yf]); have y'1 : World.cell? w' ⟨w.heap.size + 1, 1, none⟩ = some (iv 0) := (Below.cell hg (p := ⟨w.heap.size + 1, 1, none⟩) (by first | (simp; done) | (simp; omega))).trans (by simp [go_sem, y0, y1, y2, y3, y4, yf]); have y'2 : World.cell? w' ⟨w.heap.size + 1, 2, none⟩ = some (iv 0) := (Below.cell hg (p := ⟨w.heap.size + 1, 2, none⟩) (by first | (simp; done) | (simp; omega))).trans (by simp [go_sem, y0, y1, y2, y3, y4, yf]); have y'3 : World.cell? w' ⟨w.heap.size + 1, 3, none⟩ = some (iv 0) := (Below.cell hg (p := ⟨w.heap.size + 1, 3, none⟩) (by first | (simp; done) | (simp; omega))).trans (by simp [go_sem, y0, y1, y2, y3, y4, yf]); have y'4 : World.cell? w' ⟨w.heap.size + 1, 4, none⟩ = some (.slice none 0 0) := (Below.cell hg (p := ⟨w.heap.size + 1, 4, none⟩) (by first | (simp; done) | (simp; omega))).trans (by simp [go_sem, y0, y1, y2, y3, y4, yf]); have y'f : ∀ o, World.frozen? w' ⟨w.heap.size + 1, o, none⟩ = false := fun o => (Below.frozen hg (p := ⟨w.heap.size + 1, o, none⟩) (by first | (simp; done) | (simp; omega))).trans (by simp [go_sem, y0, y1, y2, y3, y4, yf])
    have hx : Ext w w' := hx1.trans hg.block
    have hsz : w.heap.size + 1 + 1 ≤ w'.heap.size := Nat.le_trans hsz1 hg.size
    have HN : Hid (New w w') := HN1.out.trans (hg.mono (by omega))
    have HQ := Lib.hid hqo
    clear hg hq hqo z0 z1 z2 z3 z4 zf y0 y1 y2 y3 y4 yf hx1 hsz1 l0 l1
    have l0 : w.heap.size < w'.heap.size := by omega
    have l1 : w.heap.size + 1 < w'.heap.size := by omega
    unfold sdVal
    cases hc6 : inB ch 6 with
    | false =>
      have hc6' := inB_not.1 hc6
      go_wp2_with (fail)
      all_goals (refine bodyPost_ret (v := .tuple #[sdVal s (.slice (some ⟨g, 0, none⟩) 7 c), iv 2]) ?_ rfl ⟨?_, sdVal s (.slice (some ⟨g, 0, none⟩) 7 c), ?_, ?_⟩)
      all_goals first
        | (rw [show putS s ch l = s by simp [putS, putErr, HT.out, hc6]]
           refine ⟨_, rfl, QOwn.low (base := w.heap.size + 1 + 1) ?_ (by omega)⟩
           repeat (refine QOwn.setLow ?_ (by dsimp only; omega) _)
           exact HQ.out)
        | (simp [putErr, HT.out, hc6]; done)
        | (repeat (refine Below.setCell ?_ (by simp) _)
           exact HN.out)
        | (simp [results, Try.results6, go_sem, sdVal, isSome_setCell, z'0, z'1, z'2, z'3, z'4, y'0, y'1, y'2, y'3, y'4])
    | true =>
    obtain ⟨k, rfl⟩ : ∃ k : Nat, ch = (k : Int) := ⟨ch.toNat, by have := (inB_iff.1 hc6).1; omega⟩
    have hk6 : k ≤ 6 := by have := (inB_iff.1 hc6).2; omega
    have hv : Hid (∀ r, r = oneB l → True) := fun _ _ => trivial
    go_wp2_with (fail)
    go_at_call 24
    refine calls_ret (onePacket_any _ lo' hi' l _ (HB.out.ext ?_)) ?_
    · repeat (refine ext_setCell ?_ (by simp) _)
      exact hx
    rintro _ w2 ⟨rfl, hg2⟩
    have x0 : World.cell? w2 ⟨w.heap.size, 0, none⟩ = some (iv s.craft) := (Below.cell hg2 (p := ⟨w.heap.size, 0, none⟩) (by first | (simp; done) | (simp; omega))).trans (by simp [go_sem, isSome_setCell, z'0, z'1, z'2, z'3, z'4, z'f]); have x1 : World.cell? w2 ⟨w.heap.size, 1, none⟩ = some (iv s.size) := (Below.cell hg2 (p := ⟨w.heap.size, 1, none⟩) (by first | (simp; done) | (simp; omega))).trans (by simp [go_sem, isSome_setCell, z'0, z'1, z'2, z'3, z'4, z'f]); have x2 : World.cell? w2 ⟨w.heap.size, 2, none⟩ = some (iv s.master) := (Below.cell hg2 (p := ⟨w.heap.size, 2, none⟩) (by first | (simp; done) | (simp; omega))).trans (by simp [go_sem, isSome_setCell, z'0, z'1, z'2, z'3, z'4, z'f]); have x3 : World.cell? w2 ⟨w.heap.size, 3, none⟩ = some (iv s.turn) := (Below.cell hg2 (p := ⟨w.heap.size, 3, none⟩) (by first | (simp; done) | (simp; omega))).trans (by simp [go_sem, isSome_setCell, z'0, z'1, z'2, z'3, z'4, z'f]); have x4 : World.cell? w2 ⟨w.heap.size, 4, none⟩ = some (.slice (some ⟨g, 0, none⟩) 7 c) := (Below.cell hg2 (p := ⟨w.heap.size, 4, none⟩) (by first | (simp; done) | (simp; omega))).trans (by simp [go_sem, isSome_setCell, z'0, z'1, z'2, z'3, z'4, z'f]); have xf : ∀ o, World.frozen? w2 ⟨w.heap.size, o, none⟩ = false := fun o => (Below.frozen hg2 (p := ⟨w.heap.size, o, none⟩) (by first | (simp; done) | (simp; omega))).trans (by simp [go_sem, isSome_setCell, z'0, z'1, z'2, z'3, z'4, z'f])
    have v0 : World.cell? w2 ⟨w.heap.size + 1, 0, none⟩ = some (iv 0) := (Below.cell hg2 (p := ⟨w.heap.size + 1, 0, none⟩) (by first | (simp; done) | (simp; omega))).trans (by simp [go_sem, isSome_setCell, y'0, y'1, y'2, y'3, y'4, y'f]); have v1 : World.cell? w2 ⟨w.heap.size + 1, 1, none⟩ = some (iv 0) := (Below.cell hg2 (p := ⟨w.heap.size + 1, 1, none⟩) (by first | (simp; done) | (simp; omega))).trans (by simp [go_sem, isSome_setCell, y'0, y'1, y'2, y'3, y'4, y'f]); have v2 : World.cell? w2 ⟨w.heap.size + 1, 2, none⟩ = some (iv 0) := (Below.cell hg2 (p := ⟨w.heap.size + 1, 2, none⟩) (by first | (simp; done) | (simp; omega))).trans (by simp [go_sem, isSome_setCell, y'0, y'1, y'2, y'3, y'4, y'f]); have v3 : World.cell? w2 ⟨w.heap.size + 1, 3, none⟩ = some (iv 0) := (Below.cell hg2 (p := ⟨w.heap.size + 1, 3, none⟩) (by first | (simp; done) | (simp; omega))).trans (by simp [go_sem, isSome_setCell, y'0, y'1, y'2, y'3, y'4, y'f]); have v4 : World.cell? w2 ⟨w.heap.size + 1, 4, none⟩ = some (.slice none 0 0) := (Below.cell hg2 (p := ⟨w.heap.size + 1, 4, none⟩) (by first | (simp; done) | (simp; omega))).trans (by simp [go_sem, isSome_setCell, y'0, y'1, y'2, y'3, y'4, y'f]); have vf : ∀ o, World.frozen? w2 ⟨w.heap.size + 1, o, none⟩ = false := fun o => (Below.frozen hg2 (p := ⟨w.heap.size + 1, o, none⟩) (by first | (simp; done) | (simp; omega))).trans (by simp [go_sem, isSome_setCell, y'0, y'1, y'2, y'3, y'4, y'f])
    have hsz2 : w.heap.size + 1 + 1 ≤ w2.heap.size := by have h := hg2.size; simp [World.setCell] at h; omega
    have m0 : w.heap.size < w2.heap.size := by omega
    have m1 : w.heap.size + 1 < w2.heap.size := by omega
    have HN2 : Hid (New w w2) := by
      refine Below.trans ?_ (hg2.mono (by simp [World.setCell]; omega))
      repeat (refine Below.setCell ?_ (by simp) _)
      exact HN.out
    have hq2 : QOwn w2 (w.heap.size + 1 + 1) (.slice (some ⟨g, 0, none⟩) 7 c) s.queues := by
      refine QOwn.new ?_ hg2
      repeat (refine QOwn.setLow ?_ (by dsimp only; omega) _)
      exact HQ.out
    have HQ2 := Lib.hid hq2
    have hx2 : Ext w w2 := HN2.out.block
    clear hg2 z'0 z'1 z'2 z'3 z'4 z'f y'0 y'1 y'2 y'3 y'4 y'f l0 l1 hsz hq2 hv
    cases h1 : oneB l with
    | false =>
      go_wp2
      refine bodyPost_ret (v := .tuple #[sdVal s (.slice (some ⟨g, 0, none⟩) 7 c), iv 8]) ?_ rfl ⟨?_, sdVal s (.slice (some ⟨g, 0, none⟩) 7 c), ?_, ?_⟩
      · simp [results, Try.results6, go_sem, sdVal, isSome_setCell, x0, x1, x2, x3, x4, v0, v1, v2, v3, v4]
      · repeat (refine Below.setCell ?_ (by simp) _)
        exact HN2.out
      · simp [putErr, HT.out, hc6, h1]
      · rw [show putS s k l = s by simp [putS, putErr, HT.out, hc6, h1]]
        refine ⟨_, rfl, QOwn.low (base := w.heap.size + 1 + 1) ?_ (by omega)⟩
        repeat (refine QOwn.setLow ?_ (by dsimp only; omega) _)
        exact HQ2.out
    | true =>
      obtain ⟨us, hus, hown, hpo, hsep⟩ := HQ2.out
      have hk7 : k < s.queues.length := by rw [H7.out]; omega
      obtain ⟨q, hq⟩ : ∃ q, s.queues.getD k default = q := ⟨_, rfl⟩
      obtain ⟨u, hu⟩ : ∃ u, us.getD k undef = u := ⟨_, rfl⟩
      have fl := flat_get s.queues us hus k hk7
      rw [hq, hu] at fl
      rw [H7.out] at hown
      have q0 : w2.cell? ⟨g, k * 3, none⟩ = some (iv q.own) := (hown.cellAt _ (by omega)).trans fl.1
      have q1 : w2.cell? ⟨g, k * 3 + 1, none⟩ = some u := (hown.cellAt _ (by omega)).trans fl.2.1
      have q2 : w2.cell? ⟨g, k * 3 + 2, none⟩ = some (iv q.gone) := (hown.cellAt _ (by omega)).trans fl.2.2
      have qf : ∀ o, w2.frozen? ⟨g, o, none⟩ = false := fun o => hown.frozenAt o
      have hp := hpo k hk7
      rw [hu, hq] at hp
      obtain ⟨xs, p1, p2, p3⟩ := hp
      obtain ⟨pu, cu, rfl⟩ := p2.slice
      have hqb : quB q = true := by
        have h := HT.out
        simp only [sdB, Bool.and_eq_true, List.all_eq_true] at h
        rw [← hq]
        have e : s.queues.getD k default = s.queues[k] := by simp [hk7]
        rw [e]; exact h.2 _ (List.getElem_mem hk7)
      have hq200 := (quB_packs hqb).1
      have HP1 := Lib.hid p1
      have HP2 := Lib.hid p2
      have HP3 := Lib.hid p3
      have HQQ := Lib.hid hq
      have HU := Lib.hid hu
      have HUS := Lib.hid hus
      have HOWN := Lib.hid hown
      have HPO := Lib.hid hpo
      have HSEP := Lib.hid hsep
      have hl1 := oneB_length h1
      have ng : g < w2.heap.size := (hown.elem (k := g) rfl).2.1
      clear hus hown hpo hsep fl p1 p2 p3 hq hu hqb
      by_cases hfull : q.packs.length = 200
      · go_wp2
        have hpe : putErr s k l = 12 := by
          unfold putErr
          rw [if_neg (by rw [HT.out]; decide), if_neg (by rw [hc6]; decide), if_neg (by rw [h1]; decide), if_pos (by rw [Int.toNat_natCast, HQQ.out]; omega)]
        refine bodyPost_ret (v := .tuple #[sdVal s (.slice (some ⟨g, 0, none⟩) 7 c), iv 12]) ?_ rfl ⟨?_, sdVal s (.slice (some ⟨g, 0, none⟩) 7 c), ?_, ?_⟩
        · simp [results, Try.results6, go_sem, sdVal, isSome_setCell, x0, x1, x2, x3, x4, v0, v1, v2, v3, v4, m0, m1]
        · refine Below.alloc ?_ (by simp [World.setCell]; omega) _
          repeat (refine Below.setCell ?_ (by simp) _)
          exact HN2.out
        · rw [hpe]
        · rw [show putS s k l = s by unfold putS; rw [if_neg (by rw [HT.out]; decide), if_neg (by rw [hpe]; decide)]]
          refine ⟨_, rfl, QOwn.low (base := w.heap.size + 1 + 1) ?_ (by omega)⟩
          refine QOwn.new ?_ ((Below.refl _ _).alloc (Nat.le_refl _) _)
          refine QOwn.setLow (QOwn.setLow (QOwn.setLow (QOwn.setLow (QOwn.setLow ?_ (by dsimp only; omega) _) (by dsimp only; omega) _) (by dsimp only; omega) _) (by dsimp only; omega) _) (by dsimp only; omega) _
          exact HQ2.out
      · have hpe : Hid (putErr s k l = 0) := by
          show putErr s k l = 0
          unfold putErr
          rw [if_neg (by rw [HT.out]; decide), if_neg (by rw [hc6]; decide), if_neg (by rw [h1]; decide), if_neg (by rw [Int.toNat_natCast, HQQ.out]; omega)]
        have T := Lib.hid (ElemOk.mk (z := .slice none 0 0) Try.underlying59 (by kernel_rfl) rfl (by decide) : ElemOk Try.prog 59 25 1 24 (.slice none 0 0))
        have hlt : q.packs.length < 200 := by omega
        clear hfull
        go_wp2_with (fail)
        have T1 := Lib.hid (ElemOk.mk (z := .int .u8 0) Try.underlying25 (by kernel_rfl) rfl (by decide) : ElemOk Try.prog 25 5 1 1 (.int .u8 0))
        (with_reducible refine wp_region_r (id := 11) [(0, 3)] [(.loud, [(3, 1)]), (.loud, [(4, 1)]), (.act, [(5, 1)]), (.pure, [(6, 1)]), (.act, [(7, 1)])] (by kernel_rfl) (by kernel_rfl) ?_)
        (try simp only [pickR, List.drop_succ_cons, List.drop_zero, List.take_succ_cons, List.take_zero, List.take_nil, List.drop_nil, List.append_nil, List.cons_append, List.nil_append])
        intro _ _
        go_wp2
        refine seg_pre (by kernel_rfl) ?_
        refine seg_loud (fun _ _ => ?_)
        (try simp only [pickR, List.drop_succ_cons, List.drop_zero, List.take_succ_cons, List.take_zero, List.take_nil, List.drop_nil, List.append_nil, List.cons_append, List.nil_append])
        refine wl_append_bytes T1.out rfl _ _ rfl (w2.heap.size + 1) rfl rfl (World.ownsRow_nil _ _ _ _) (HB.out.ext ?hxb) rfl (show 0 + l.length ≤ _ by omega) (by simp) (fun p5 c5 w5 hown5 hg5 => ?_)
        case hxb => exact ext_alloc hx2 _
        have hn5 : New (w2.alloc (.cells #[iv q.own, .slice pu q.packs.length cu, iv q.gone] 61)) w5 := ⟨hg5.os, hg5.tape, hg5.output, hg5.size, fun b' hb' => hg5.block b' (by simpa using hb')⟩
        have HO5 := Lib.hid hown5
        have HG5 := Lib.hid hg5
        clear hg5 hown5
        go_wp2
        refine seg_ext (by repeat (first | (with_reducible exact Ext.refl _) | (with_reducible assumption) | (with_reducible refine ext_dl ?_) | (with_reducible refine ext_dr ?_) | (with_reducible refine ext_alloc ?_ _) | (with_reducible refine ext_new ?_ (by assumption)))) ?_
        refine seg_loud (fun _ _ => ?_)
        (try simp only [pickR, List.drop_succ_cons, List.drop_zero, List.take_succ_cons, List.take_zero, List.take_nil, List.drop_nil, List.append_nil, List.cons_append, List.nil_append])
        go_wp2
        refine seg_ext (by repeat (first | (with_reducible exact Ext.refl _) | (with_reducible assumption) | (with_reducible refine ext_dl ?_) | (with_reducible refine ext_dr ?_) | (with_reducible refine ext_alloc ?_ _) | (with_reducible refine ext_new ?_ (by assumption)))) ?_
        refine seg_act (fun _ _ => ?_)
        (try simp only [pickR, List.drop_succ_cons, List.drop_zero, List.take_succ_cons, List.take_zero, List.take_nil, List.drop_nil, List.append_nil, List.cons_append, List.nil_append])
        have hs5 : w2.heap.size + 1 ≤ w5.heap.size := by have h := hn5.size; simpa using h
        have hB5 : w.heap.size + 1 + 1 ≤ (w5.alloc (.cells #[.slice p5 l.length c5] 25)).heap.size := by simp; omega
        have hnw : New w2 w5 := ((Below.refl _ _).alloc (Nat.le_refl _) _).trans (hn5.mono (by simp))
        refine wl_append_one T.out rfl _ _ rfl (w.heap.size + 1 + 1) rfl (ad := ⟨w5.heap.size, 0, none⟩) rfl (y := .slice p5 l.length c5) ((HP2.out.new hnw).alloc _) (by simp [go_sem]) rfl (by omega) (by simp [maxLen]; omega) hB5 (fun g6 c6 w6 hown6 hgr6 hor6 => ?_)
        have hb6 : Below (w.heap.size + 1 + 1) w2 w6 := Below.grown ((hnw.mono hsz2).alloc (by omega) _) hgr6 hB5 (fun k hk => (HP2.out.elem hk).1)
        have hpg : (Value.slice pu q.packs.length cu).ownBlock ≠ some g := fun hc => own_ne HP2.out HOWN.out (by decide) hc rfl
        have hgq : w6.heap[g]? = w2.heap[g]? := by
          rw [hgr6.block g (by simp; omega) (fun hc => hpg hc.symm), Below.heap_alloc _ _ _ (by omega), hnw.block g ng]
        have hbx : w6.heap[w2.heap.size]? = (w2.alloc (.cells #[iv q.own, .slice pu q.packs.length cu, iv q.gone] 61)).heap[w2.heap.size]? := by
          rw [hgr6.block w2.heap.size (by simp; omega) (fun hc => by have := (HP2.out.elem hc.symm).2.1; omega), Below.heap_alloc _ _ _ (by omega), hn5.block w2.heap.size (by simp)]
        have a0 : World.cell? w6 ⟨w.heap.size, 0, none⟩ = some (iv s.craft) := (Below.cell hb6 (p := ⟨w.heap.size, 0, none⟩) (by first | (simp; done) | (simp; omega))).trans (by simp [go_sem, x0, x1, x2, x3, x4, xf]); have a1 : World.cell? w6 ⟨w.heap.size, 1, none⟩ = some (iv s.size) := (Below.cell hb6 (p := ⟨w.heap.size, 1, none⟩) (by first | (simp; done) | (simp; omega))).trans (by simp [go_sem, x0, x1, x2, x3, x4, xf]); have a2 : World.cell? w6 ⟨w.heap.size, 2, none⟩ = some (iv s.master) := (Below.cell hb6 (p := ⟨w.heap.size, 2, none⟩) (by first | (simp; done) | (simp; omega))).trans (by simp [go_sem, x0, x1, x2, x3, x4, xf]); have a3 : World.cell? w6 ⟨w.heap.size, 3, none⟩ = some (iv s.turn) := (Below.cell hb6 (p := ⟨w.heap.size, 3, none⟩) (by first | (simp; done) | (simp; omega))).trans (by simp [go_sem, x0, x1, x2, x3, x4, xf]); have a4 : World.cell? w6 ⟨w.heap.size, 4, none⟩ = some (.slice (some ⟨g, 0, none⟩) 7 c) := (Below.cell hb6 (p := ⟨w.heap.size, 4, none⟩) (by first | (simp; done) | (simp; omega))).trans (by simp [go_sem, x0, x1, x2, x3, x4, xf]); have af : ∀ o, World.frozen? w6 ⟨w.heap.size, o, none⟩ = false := fun o => (Below.frozen hb6 (p := ⟨w.heap.size, o, none⟩) (by first | (simp; done) | (simp; omega))).trans (by simp [go_sem, x0, x1, x2, x3, x4, xf])
        have b0 : World.cell? w6 ⟨w.heap.size + 1, 0, none⟩ = some (iv 0) := (Below.cell hb6 (p := ⟨w.heap.size + 1, 0, none⟩) (by first | (simp; done) | (simp; omega))).trans (by simp [go_sem, v0, v1, v2, v3, v4, vf]); have b1 : World.cell? w6 ⟨w.heap.size + 1, 1, none⟩ = some (iv 0) := (Below.cell hb6 (p := ⟨w.heap.size + 1, 1, none⟩) (by first | (simp; done) | (simp; omega))).trans (by simp [go_sem, v0, v1, v2, v3, v4, vf]); have b2 : World.cell? w6 ⟨w.heap.size + 1, 2, none⟩ = some (iv 0) := (Below.cell hb6 (p := ⟨w.heap.size + 1, 2, none⟩) (by first | (simp; done) | (simp; omega))).trans (by simp [go_sem, v0, v1, v2, v3, v4, vf]); have b3 : World.cell? w6 ⟨w.heap.size + 1, 3, none⟩ = some (iv 0) := (Below.cell hb6 (p := ⟨w.heap.size + 1, 3, none⟩) (by first | (simp; done) | (simp; omega))).trans (by simp [go_sem, v0, v1, v2, v3, v4, vf]); have b4 : World.cell? w6 ⟨w.heap.size + 1, 4, none⟩ = some (.slice none 0 0) := (Below.cell hb6 (p := ⟨w.heap.size + 1, 4, none⟩) (by first | (simp; done) | (simp; omega))).trans (by simp [go_sem, v0, v1, v2, v3, v4, vf]); have bf : ∀ o, World.frozen? w6 ⟨w.heap.size + 1, o, none⟩ = false := fun o => (Below.frozen hb6 (p := ⟨w.heap.size + 1, o, none⟩) (by first | (simp; done) | (simp; omega))).trans (by simp [go_sem, v0, v1, v2, v3, v4, vf])
        have r0 : w6.cell? ⟨g, k * 3, none⟩ = some (iv q.own) := (World.cell?_of_block hgq).trans q0
        have r1 : w6.cell? ⟨g, k * 3 + 1, none⟩ = some (.slice pu q.packs.length cu) := (World.cell?_of_block hgq).trans q1
        have r2 : w6.cell? ⟨g, k * 3 + 2, none⟩ = some (iv q.gone) := (World.cell?_of_block hgq).trans q2
        have rf : ∀ o, w6.frozen? ⟨g, o, none⟩ = false := fun o => (World.frozen?_of_block hgq).trans (qf o)
        have e0 : w6.cell? ⟨w2.heap.size, 0, none⟩ = some (iv q.own) := (World.cell?_of_block hbx).trans (by simp)
        have e1 : w6.cell? ⟨w2.heap.size, 1, none⟩ = some (.slice pu q.packs.length cu) := (World.cell?_of_block hbx).trans (by simp)
        have e2 : w6.cell? ⟨w2.heap.size, 2, none⟩ = some (iv q.gone) := (World.cell?_of_block hbx).trans (by simp)
        have ef : ∀ o, w6.frozen? ⟨w2.heap.size, o, none⟩ = false := fun o => (World.frozen?_of_block hbx).trans (by simp [go_sem])
        have HO6 := Lib.hid hown6
        have HG6 := Lib.hid hgr6
        have HR6 := Lib.hid hor6
        have HGQ := Lib.hid hgq
        have hgB := (HOWN.out.elem (k := g) rfl).1
        have hng : g ≠ w.heap.size := by omega
        have hng1 : g ≠ w.heap.size + 1 := by omega
        have hnq : w2.heap.size ≠ g := by omega
        have hnq0 : w2.heap.size ≠ w.heap.size := by omega
        have hnq1 : w2.heap.size ≠ w.heap.size + 1 := by omega
        have hng2 : g ≠ w2.heap.size := by omega
        clear hown6 hgr6 hor6 hgq hbx x0 x1 x2 x3 x4 xf v0 v1 v2 v3 v4 vf q0 q1 q2 qf m0 m1
        go_wp2
        refine seg_pure (fun _ _ => ?_)
        (try simp only [pickR, List.drop_succ_cons, List.drop_zero, List.take_succ_cons, List.take_zero, List.take_nil, List.drop_nil, List.append_nil, List.cons_append, List.nil_append])
        go_wp2
        refine seg_act (fun _ _ => ?_)
        (try simp only [pickR, List.drop_succ_cons, List.drop_zero, List.take_succ_cons, List.take_zero, List.take_nil, List.drop_nil, List.append_nil, List.cons_append, List.nil_append])
        go_wp2
        refine seg_nil ?_
        go_wp2
        have hputS : putS s k l = { s with queues := s.queues.set k (quPut q l) } := by
          unfold putS
          rw [if_neg (by rw [HT.out]; decide), if_pos hpe.out, Int.toNat_natCast, HQQ.out]
        have hwf : QOwn ((((w6.setCell ⟨w2.heap.size, 1, none⟩ (.slice (some ⟨g6, 0, none⟩) (q.packs.length + 1) c6)).setCell ⟨g, k * 3, none⟩ (iv q.own)).setCell ⟨g, k * 3 + 1, none⟩ (.slice (some ⟨g6, 0, none⟩) (q.packs.length + 1) c6)).setCell ⟨g, k * 3 + 2, none⟩ (iv q.gone)) (w.heap.size + 1 + 1) (.slice (some ⟨g, 0, none⟩) 7 c) (s.queues.set k (quPut q l)) := by
          have hgc := HOWN.out.elem (k := g) rfl
          have hown6 : w6.ownsRow (w.heap.size + 1 + 1) 61 3 (.slice (some ⟨g, 0, none⟩) 7 c) 7 (flat s.queues us) := HOWN.out.same fun k' hk' => by
            have : g = k' := by simpa [Value.ownBlock] using hk'
            subst this; exact HGQ.out
          have hpo6 : POwn w6 (w.heap.size + 1 + 1) (.slice (some ⟨g6, 0, none⟩) (q.packs.length + 1) c6) (q.packs ++ [l]) := by
            refine POwn.more HP1.out ((HP2.out.new hnw).alloc _) (fun j hj => ((HP3.out j hj).new hnw).alloc _) (r := .slice p5 l.length c5) ?_ (fun b hb hne => HG6.out.block b hb (fun hc => hne hc.symm)) HO6.out
            have h := HO5.out
            rw [Nat.zero_add, List.nil_append] at h
            exact (h.low (by omega)).alloc _
          obtain ⟨cur6, hcur6⟩ : ∃ cur, w6.heap[g]? = some (.cells cur 61 (0, 0)) := by rw [HGQ.out]; exact hgc.2.2
          have hg6e := HO6.out.elem (k := g6) rfl
          have hg6 : g6 ≠ g := by
            intro hc
            subst hc
            obtain ⟨_, _, cu6, hcu6⟩ := hg6e
            rw [hcur6] at hcu6; injection hcu6 with hcu6; injection hcu6 with _ he _; exact absurd he (by decide)
          have hg62 : g6 ≠ w2.heap.size := by
            rcases HR6.out with h | h
            · have := (HP2.out.elem (k := g6) h).2.1; omega
            · rw [h]; simp; omega
          refine QOwn.grow (w := w2) (wa := w6) (us := us) (u' := .slice (some ⟨g6, 0, none⟩) (q.packs.length + 1) c6) H7.out.symm HUS.out HPO.out HSEP.out hk7 (fun b hb hne hbg => ?_) hgc.2.2 (fun k' hk' => ?_) ?_ ?_
          · rw [HU.out] at hne
            rw [Below.heap_setCell _ _ _ _ hbg, Below.heap_setCell _ _ _ _ hbg, Below.heap_setCell _ _ _ _ hbg, Below.heap_setCell _ _ _ _ (by dsimp only; omega), HG6.out.block b (by simp; omega) (fun hc => hne hc.symm), Below.heap_alloc _ _ _ (by omega), hnw.block b hb]
          · rw [HU.out]
            have e : g6 = k' := by simpa [Value.ownBlock] using hk'
            subst e
            rcases HR6.out with h | h
            · exact .inl h
            · right; rw [h]; simp; omega
          · have h1 : POwn (w6.setCell ⟨w2.heap.size, 1, none⟩ (.slice (some ⟨g6, 0, none⟩) (q.packs.length + 1) c6)) (w.heap.size + 1 + 1) (.slice (some ⟨g6, 0, none⟩) (q.packs.length + 1) c6) (q.packs ++ [l]) := by
              obtain ⟨cx, hcx⟩ : ∃ cx, w6.heap[w2.heap.size]? = some (.cells cx 61 (0, 0)) := by
                rw [HG6.out.block w2.heap.size (by simp; omega) (fun hc => by have := (HP2.out.elem hc.symm).2.1; omega), Below.heap_alloc _ _ _ (by omega), hn5.block w2.heap.size (by simp)]
                exact ⟨_, heap_alloc_new _ _⟩
              refine POwn.but hpo6 hcx (by decide) (fun hc => ?_) (fun b hb _ => Below.heap_setCell _ _ _ _ hb)
              exact hg62 (by simpa [Value.ownBlock] using hc)
            have hc1 : (w6.setCell ⟨w2.heap.size, 1, none⟩ (.slice (some ⟨g6, 0, none⟩) (q.packs.length + 1) c6)).heap[g]? = some (.cells cur6 61 (0, 0)) := by rw [Below.heap_setCell _ _ _ _ (by dsimp only; omega)]; exact hcur6
            refine POwn.but h1 hc1 (by decide) (fun hc => ?_) (fun b hb _ => ?_)
            · exact hg6 (by simpa [Value.ownBlock] using hc)
            · rw [Below.heap_setCell _ _ _ _ hb, Below.heap_setCell _ _ _ _ hb, Below.heap_setCell _ _ _ _ hb]
          · rw [flat_put _ _ HUS.out k (quPut q l) _ hk7]
            have h1 := own_setCell (a := ⟨w2.heap.size, 1, none⟩) hown6 (fun hc => hng2 (by simpa [Value.ownBlock] using hc)) (.slice (some ⟨g6, 0, none⟩) (q.packs.length + 1) c6)
            exact ((((h1.stored (k * 3) _).1).stored (k * 3 + 1) _).1.stored (k * 3 + 2) _).1
        have HWF := Lib.hid hwf
        refine bodyPost_ret (v := .tuple #[sdVal s (.slice (some ⟨g, 0, none⟩) 7 c), iv 0]) ?_ rfl ⟨?_, sdVal s (.slice (some ⟨g, 0, none⟩) 7 c), ?_, ?_⟩
        · clear hwf
          simp [results, Try.results6, go_sem, sdVal, isSome_setCell, a0, a1, a2, a3, a4, b0, b1, b2, b3, b4]
        · repeat (refine Below.setCell ?_ (by first | (simp; done) | (dsimp only; omega)) _)
          exact Below.trans HN2.out (hb6.mono (by omega))
        · rw [hpe.out]
        · rw [hputS]
          refine ⟨_, rfl, QOwn.low (base := w.heap.size + 1 + 1) ?_ (by omega)⟩
          refine QOwn.setLow (QOwn.setLow (QOwn.setLow (QOwn.setLow (QOwn.setLow ?_ (by dsimp only; omega) _) (by dsimp only; omega) _) (by dsimp only; omega) _) (by dsimp only; omega) _) (by dsimp only; omega) _
          exact HWF.out
end Go.Proofs.Ytamcoomkoenmcaa
