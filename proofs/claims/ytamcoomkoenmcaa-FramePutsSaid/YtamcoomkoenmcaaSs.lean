/- sameSender: a walk. -/
import Derived.Test.YtamcoomkoenmcaaTwice
set_option linter.unusedSimpArgs false
set_option linter.unusedVariables false
namespace Go.Proofs.Ytamcoomkoenmcaa
open Go.RowKit Go.Far
set_option maxRecDepth 100000 in
set_option maxHeartbeats 2000000 in
theorem sameSender_any (va vb : Value) (lo hi lo' hi' : Nat) (sa sb : Sd) (w : World) (ha : SR w lo hi va sa) (hb : SR w lo' hi' vb sb) :
    Calls Try.prog 13 #[va, vb] w (Ret fun r w' => r = .bool (decide (sa = sb)) ∧ New w w') := by
  obtain ⟨qa, rfl, ua, a1, a2, a3⟩ := ha
  obtain ⟨qb, rfl, ub, b1, b2, b3⟩ := hb
  have A1 := Lib.hid a1
  have A2 := Lib.hid a2
  have A3 := Lib.hid a3
  have B1 := Lib.hid b1
  have B2 := Lib.hid b2
  have B3 := Lib.hid b3
  obtain ⟨pa, ca, rfl, e1, e2, _, _⟩ := a2
  obtain ⟨pb, cb, rfl, e3, e4, _, _⟩ := b2
  have hma : sa.queues.length ≤ 9223372036854775807 := by unfold maxLen at e2; omega
  clear a1 a3 b1 b3 e1 e2 e3 e4
  unfold sdVal
  by_cases hh : sa.craft = sb.craft ∧ sa.size = sb.size ∧ sa.master = sb.master ∧ sa.turn = sb.turn ∧ sa.queues.length = sb.queues.length
  · have HH := Lib.hid hh
    obtain ⟨h1, h2, h3, h4, h5⟩ := hh
    obtain ⟨n, hn⟩ : ∃ n, sa.queues.length = n := ⟨_, rfl⟩
    have hn' : sb.queues.length = n := by omega
    have HN := Lib.hid hn
    have HN' := Lib.hid hn'
    rw [hn] at hma
    rw [hn, hn', h1, h2, h3, h4]
    clear hn hn' h1 h2 h3 h4 h5
    go_enter Try.func13, Try.ntmps13
    go_wp2_with (fail)
    go_loopw [5] (fun x wr => ∃ k : Nat, k ≤ n ∧ x = .int .i64 (k : Int) ∧ Hid (∀ j, j < k → sa.queues.getD j default = sb.queues.getD j default) ∧ Hid (Below (w.heap.size + 1 + 1) ((w.alloc (.cells #[iv sb.craft, iv sb.size, iv sb.master, iv sb.turn, .slice pa n ca] 24)).alloc (.cells #[iv sb.craft, iv sb.size, iv sb.master, iv sb.turn, .slice pb n cb] 24)) wr)) (fun x _ => n - (intOf x).toNat)
    case atStart => exact ⟨0, by omega, rfl, fun j hj => absurd hj (Nat.not_lt_zero j), Below.refl _ _⟩
    case round =>
      rename World => wr
      obtain ⟨k, hk, rfl, hall, hbl⟩ := hrel
      have hbl' := hbl.out
      have x0 : World.cell? wr ⟨w.heap.size, 0, none⟩ = some (iv sb.craft) := (Below.cell hbl' (p := ⟨w.heap.size, 0, none⟩) (by first | (simp; done) | (simp; omega))).trans (by simp [go_sem]); have x1 : World.cell? wr ⟨w.heap.size, 1, none⟩ = some (iv sb.size) := (Below.cell hbl' (p := ⟨w.heap.size, 1, none⟩) (by first | (simp; done) | (simp; omega))).trans (by simp [go_sem]); have x2 : World.cell? wr ⟨w.heap.size, 2, none⟩ = some (iv sb.master) := (Below.cell hbl' (p := ⟨w.heap.size, 2, none⟩) (by first | (simp; done) | (simp; omega))).trans (by simp [go_sem]); have x3 : World.cell? wr ⟨w.heap.size, 3, none⟩ = some (iv sb.turn) := (Below.cell hbl' (p := ⟨w.heap.size, 3, none⟩) (by first | (simp; done) | (simp; omega))).trans (by simp [go_sem]); have x4 : World.cell? wr ⟨w.heap.size, 4, none⟩ = some (.slice pa n ca) := (Below.cell hbl' (p := ⟨w.heap.size, 4, none⟩) (by first | (simp; done) | (simp; omega))).trans (by simp [go_sem]); have xf : ∀ o, World.frozen? wr ⟨w.heap.size, o, none⟩ = false := fun o => (Below.frozen hbl' (p := ⟨w.heap.size, o, none⟩) (by first | (simp; done) | (simp; omega))).trans (by simp [go_sem])
      have z0 : World.cell? wr ⟨w.heap.size + 1, 0, none⟩ = some (iv sb.craft) := (Below.cell hbl' (p := ⟨w.heap.size + 1, 0, none⟩) (by first | (simp; done) | (simp; omega))).trans (by simp [go_sem]); have z1 : World.cell? wr ⟨w.heap.size + 1, 1, none⟩ = some (iv sb.size) := (Below.cell hbl' (p := ⟨w.heap.size + 1, 1, none⟩) (by first | (simp; done) | (simp; omega))).trans (by simp [go_sem]); have z2 : World.cell? wr ⟨w.heap.size + 1, 2, none⟩ = some (iv sb.master) := (Below.cell hbl' (p := ⟨w.heap.size + 1, 2, none⟩) (by first | (simp; done) | (simp; omega))).trans (by simp [go_sem]); have z3 : World.cell? wr ⟨w.heap.size + 1, 3, none⟩ = some (iv sb.turn) := (Below.cell hbl' (p := ⟨w.heap.size + 1, 3, none⟩) (by first | (simp; done) | (simp; omega))).trans (by simp [go_sem]); have z4 : World.cell? wr ⟨w.heap.size + 1, 4, none⟩ = some (.slice pb n cb) := (Below.cell hbl' (p := ⟨w.heap.size + 1, 4, none⟩) (by first | (simp; done) | (simp; omega))).trans (by simp [go_sem]); have zf : ∀ o, World.frozen? wr ⟨w.heap.size + 1, o, none⟩ = false := fun o => (Below.frozen hbl' (p := ⟨w.heap.size + 1, o, none⟩) (by first | (simp; done) | (simp; omega))).trans (by simp [go_sem])
      have hext : Ext w wr := (ext_alloc (ext_alloc (Ext.refl w) _) _).trans (fun k hk => hbl'.block k (by simpa using hk))
      have HEXT := Lib.hid hext
      have hnew : Hid (New w wr) := Below.trans (((Below.refl _ _).alloc (Nat.le_refl _) _).alloc (by simp) _) (hbl'.mono (by omega))
      have hsz : w.heap.size + 1 + 1 ≤ wr.heap.size := by have h := hbl'.size; simpa using h
      clear hbl'
      by_cases hkn : k < n
      · obtain ⟨b, off, rfl, hb, _, _, hc⟩ := A2.out.cell (by rw [flat_length _ _ A1.out, HN.out]; omega)
        obtain ⟨b', off', rfl, hb', _, _, hc'⟩ := B2.out.cell (by rw [flat_length _ _ B1.out, HN'.out]; omega)
        obtain ⟨q, hq⟩ : ∃ q, sa.queues.getD k default = q := ⟨_, rfl⟩
        obtain ⟨r, hr⟩ : ∃ r, sb.queues.getD k default = r := ⟨_, rfl⟩
        obtain ⟨u, hu⟩ : ∃ u, ua.getD k undef = u := ⟨_, rfl⟩
        obtain ⟨v, hv⟩ : ∃ v, ub.getD k undef = v := ⟨_, rfl⟩
        have fa := flat_get sa.queues ua A1.out k (by rw [HN.out]; exact hkn)
        have fb := flat_get sb.queues ub B1.out k (by rw [HN'.out]; exact hkn)
        rw [hq, hu] at fa
        rw [hr, hv] at fb
        have q0 : wr.cell? ⟨b, off + k * 3, none⟩ = some (iv q.own) := (World.cell?_of_block (hext b hb)).trans (hc _ _ fa.1)
        have q1 : wr.cell? ⟨b, off + k * 3 + 1, none⟩ = some u := by rw [Nat.add_assoc]; exact (World.cell?_of_block (hext b hb)).trans (hc _ _ fa.2.1)
        have q2 : wr.cell? ⟨b, off + k * 3 + 2, none⟩ = some (iv q.gone) := by rw [Nat.add_assoc]; exact (World.cell?_of_block (hext b hb)).trans (hc _ _ fa.2.2)
        have r0 : wr.cell? ⟨b', off' + k * 3, none⟩ = some (iv r.own) := (World.cell?_of_block (hext b' hb')).trans (hc' _ _ fb.1)
        have r1 : wr.cell? ⟨b', off' + k * 3 + 1, none⟩ = some v := by rw [Nat.add_assoc]; exact (World.cell?_of_block (hext b' hb')).trans (hc' _ _ fb.2.1)
        have r2 : wr.cell? ⟨b', off' + k * 3 + 2, none⟩ = some (iv r.gone) := by rw [Nat.add_assoc]; exact (World.cell?_of_block (hext b' hb')).trans (hc' _ _ fb.2.2)
        have hpa := A3.out k (by rw [HN.out]; exact hkn)
        have hpb := B3.out k (by rw [HN'.out]; exact hkn)
        rw [hq, hu] at hpa
        rw [hr, hv] at hpb
        have HPA := Lib.hid (hpa.ext hext)
        have HPB := Lib.hid (hpb.ext hext)
        have HQ := Lib.hid hq
        have HR := Lib.hid hr
        obtain ⟨pu, cu, rfl⟩ : ∃ pu cu, u = .slice pu q.packs.length cu := by obtain ⟨_, _, ⟨p, c, h, _⟩, _⟩ := hpa; exact ⟨p, c, h⟩
        obtain ⟨pv, cv, rfl⟩ : ∃ pv cv, v = .slice pv r.packs.length cv := by obtain ⟨_, _, ⟨p, c, h, _⟩, _⟩ := hpb; exact ⟨p, c, h⟩
        clear hc hc' fa fb hpa hpb hq hr hu hv hext
        have s0 : w.heap.size < wr.heap.size := by omega
        have s1 : w.heap.size + 1 < wr.heap.size := by omega
        have s2 : b < wr.heap.size := by omega
        have s3 : b' < wr.heap.size := by omega
        have hno : Hid (q ≠ r → decide (sa = sb) = false) := fun h => by
          rw [decide_eq_false_iff_not]; rintro rfl; exact h (HQ.out.symm.trans HR.out)
        obtain ⟨bd, hbd⟩ : ∃ x, decide (q.packs = r.packs) = x := ⟨_, rfl⟩
        have HBD := Lib.hid hbd
        clear hbd
        cases bd with
        | false =>
          go_wp2_with (fail)
          go_region
          all_goals go_wp2_with (go_at_call 31; refine calls_ret (sameRows_any _ _ lo hi lo' hi' q.packs r.packs _ (HPA.out.ext (by repeat (first | (with_reducible exact Ext.refl _) | (with_reducible assumption) | (with_reducible refine ext_dl ?_) | (with_reducible refine ext_dr ?_) | (with_reducible refine ext_alloc ?_ _) | (with_reducible refine ext_new ?_ (by assumption))))) (HPB.out.ext (by repeat (first | (with_reducible exact Ext.refl _) | (with_reducible assumption) | (with_reducible refine ext_dl ?_) | (with_reducible refine ext_dr ?_) | (with_reducible refine ext_alloc ?_ _) | (with_reducible refine ext_new ?_ (by assumption)))))) ?_; rintro _ w2 ⟨rfl, hg⟩; rw [HBD.out])
          all_goals (go_ret; refine ⟨congrArg Value.bool (hno.out (fun h => of_decide_eq_false HBD.out (by rw [h]))).symm, Below.trans hnew.out ?_⟩; exact (by repeat (first | (with_reducible exact Below.refl _ _) | (with_reducible assumption) | (with_reducible refine Below.drew ?_) | (with_reducible refine Below.alloc ?_ (by first | omega | (simp; done) | (simp; omega)) _) | (with_reducible refine Below.setCell ?_ (by first | omega | (simp; done) | (simp; omega)) _) | (refine Below.trans ?_ (Below.mono (by assumption) (by first | omega | (simp; done) | (simp; omega)))))))
        | true =>
          by_cases hqr : q.own = r.own ∧ q.gone = r.gone
          · have heq : Hid (q = r) := by
              show q = r
              have h1 := of_decide_eq_true HBD.out
              obtain ⟨_, _, _⟩ := q
              obtain ⟨_, _, _⟩ := r
              simp only at h1 hqr
              simp [h1, hqr]
            obtain ⟨h1, h2⟩ := hqr
            rw [h1] at q0
            rw [h2] at q2
            clear h1 h2
            go_wp2_with (fail)
            go_region
            all_goals go_wp2_with (go_at_call 31; refine calls_ret (sameRows_any _ _ lo hi lo' hi' q.packs r.packs _ (HPA.out.ext (by repeat (first | (with_reducible exact Ext.refl _) | (with_reducible assumption) | (with_reducible refine ext_dl ?_) | (with_reducible refine ext_dr ?_) | (with_reducible refine ext_alloc ?_ _) | (with_reducible refine ext_new ?_ (by assumption))))) (HPB.out.ext (by repeat (first | (with_reducible exact Ext.refl _) | (with_reducible assumption) | (with_reducible refine ext_dl ?_) | (with_reducible refine ext_dr ?_) | (with_reducible refine ext_alloc ?_ _) | (with_reducible refine ext_new ?_ (by assumption)))))) ?_; rintro _ w2 ⟨rfl, hg⟩; rw [HBD.out])
            all_goals go_roundw
            all_goals first
              | (refine ⟨k + 1, by omega, by go_num, fun j hj => ?_, Below.trans hbl.out (Below.mono (B := wr.heap.size) ?_ (by omega))⟩
                 · by_cases hjk : j < k
                   · exact hall.out j hjk
                   · have : j = k := by omega
                     subst this; rw [HQ.out, HR.out]; exact heq.out
                 · exact (by repeat (first | (with_reducible exact Below.refl _ _) | (with_reducible assumption) | (with_reducible refine Below.drew ?_) | (with_reducible refine Below.alloc ?_ (by first | omega | (simp; done) | (simp; omega)) _) | (with_reducible refine Below.setCell ?_ (by first | omega | (simp; done) | (simp; omega)) _) | (refine Below.trans ?_ (Below.mono (by assumption) (by first | omega | (simp; done) | (simp; omega)))))))
              | (simp [intOf]; omega)
          · have hne : Hid (q ≠ r) := fun h => hqr (by rw [h]; exact ⟨rfl, rfl⟩)
            have HQR := Lib.hid hqr
            clear hqr
            go_wp2_with (fail)
            go_region
            all_goals go_wp2_with (go_at_call 31; refine calls_ret (sameRows_any _ _ lo hi lo' hi' q.packs r.packs _ (HPA.out.ext (by repeat (first | (with_reducible exact Ext.refl _) | (with_reducible assumption) | (with_reducible refine ext_dl ?_) | (with_reducible refine ext_dr ?_) | (with_reducible refine ext_alloc ?_ _) | (with_reducible refine ext_new ?_ (by assumption))))) (HPB.out.ext (by repeat (first | (with_reducible exact Ext.refl _) | (with_reducible assumption) | (with_reducible refine ext_dl ?_) | (with_reducible refine ext_dr ?_) | (with_reducible refine ext_alloc ?_ _) | (with_reducible refine ext_new ?_ (by assumption)))))) ?_; rintro _ w2 ⟨rfl, hg⟩; rw [HBD.out])
            all_goals first
              | (exfalso; exact HQR.out ⟨by assumption, by assumption⟩)
              | (go_ret; refine ⟨congrArg Value.bool (hno.out hne.out).symm, Below.trans hnew.out ?_⟩; exact (by repeat (first | (with_reducible exact Below.refl _ _) | (with_reducible assumption) | (with_reducible refine Below.drew ?_) | (with_reducible refine Below.alloc ?_ (by first | omega | (simp; done) | (simp; omega)) _) | (with_reducible refine Below.setCell ?_ (by first | omega | (simp; done) | (simp; omega)) _) | (refine Below.trans ?_ (Below.mono (by assumption) (by first | omega | (simp; done) | (simp; omega)))))))
      · go_wp2
        go_ret
        refine ⟨congrArg Value.bool ?_, hnew.out⟩
        symm; rw [decide_eq_true_iff]
        have hq := ext_of_getD (a := sa.queues) (b := sb.queues) (d := default) (HH.out.2.2.2.2) fun j hj => hall.out j (by have := HN.out; omega)
        obtain ⟨h1, h2, h3, h4, _⟩ := HH.out
        obtain ⟨_, _, _, _, _⟩ := sa
        obtain ⟨_, _, _, _, _⟩ := sb
        simp only at h1 h2 h3 h4 hq
        simp [h1, h2, h3, h4, hq]
  · have hno : Hid (decide (sa = sb) = false) := by
      show _ = _
      rw [decide_eq_false_iff_not]; rintro rfl; exact hh ⟨rfl, rfl, rfl, rfl, rfl⟩
    have HH := Lib.hid hh
    clear hh
    go_enter Try.func13, Try.ntmps13
    go_wp2_with (fail)
    all_goals first
      | (exfalso; have h7 : ((sa.queues.length : Int) != (sb.queues.length : Int)) = false := by assumption
         exact HH.out ⟨by assumption, by assumption, by assumption, by assumption, by rw [bne_eq_false_iff_eq] at h7; omega⟩)
      | (go_ret; refine ⟨congrArg Value.bool hno.out.symm, ?_⟩; exact (by repeat (first | (with_reducible exact Below.refl _ _) | (with_reducible assumption) | (with_reducible refine Below.drew ?_) | (with_reducible refine Below.alloc ?_ (by first | omega | (simp; done) | (simp; omega)) _) | (with_reducible refine Below.setCell ?_ (by first | omega | (simp; done) | (simp; omega)) _) | (refine Below.trans ?_ (Below.mono (by assumption) (by first | omega | (simp; done) | (simp; omega)))))))
end Go.Proofs.Ytamcoomkoenmcaa
