/- SenderOf: a walk. -/
import Derived.Test.YtamcoomkoenmcaaPush
set_option linter.unusedSimpArgs false
set_option linter.unusedVariables false
namespace Go.Proofs.Ytamcoomkoenmcaa
open Go.RowKit Go.Far
set_option maxRecDepth 100000 in
set_option maxHeartbeats 2000000 in
theorem senderOf_any (v : Value) (s : Sd) (lo hi : Nat) (w : World) (hs : SR w lo hi v s) (hsb : SB s) :
    Calls Try.prog 23 #[v] w (Ret fun r w' => New w w' ∧ SOwn w' w.heap.size r s) := by
  obtain ⟨qv, rfl, us0, hul, hrow, hin⟩ := hs
  have HSB := Lib.hid hsb
  have HL := Lib.hid hul
  have HIN := Lib.hid hin
  have HR := Lib.hid hrow
  obtain ⟨p, cap, rfl, hnc, hcm, hn, _⟩ := hrow
  have hm : s.queues.length ≤ 9223372036854775807 := by unfold maxLen at hcm; omega
  have T1 := Lib.hid (ElemOk.mk (z := .int .u8 0) Try.underlying25 (by kernel_rfl) rfl (by decide) : ElemOk Try.prog 25 5 1 1 (.int .u8 0))
  have T2 := Lib.hid (ElemOk.mk (z := .slice none 0 0) Try.underlying59 (by kernel_rfl) rfl (by decide) : ElemOk Try.prog 59 25 1 24 (.slice none 0 0))
  have T3 := Lib.hid (ElemOk.mk (z := .agg #[.int .i64 0, .slice none 0 0, .int .i64 0]) Try.underlying22 (by kernel_rfl) rfl (by decide) : ElemOk Try.prog 22 61 3 40 (.agg #[.int .i64 0, .slice none 0 0, .int .i64 0]))
  clear hin hul hcm hn hnc hsb
  unfold sdVal
  go_enter Try.func23, Try.ntmps23
  go_wp2_with (fail)
  go_loopw [3, 4] (fun l x wr => ∃ i : Nat, i ≤ s.queues.length ∧ x = .int .i64 i ∧ Hid (QOwn wr (w.heap.size + 1 + 1) l (s.queues.take i)) ∧ Hid (Below (w.heap.size + 1 + 1) ((w.alloc (.cells #[iv s.craft, iv s.size, iv s.master, iv s.turn, .slice p s.queues.length cap] 24)).alloc (.cells #[iv 0, iv 0, iv 0, iv 0, .slice none 0 0] 24)) wr)) (fun _ x _ => s.queues.length - (intOf x).toNat)
  case atStart => exact ⟨0, by omega, rfl, by rw [List.take_zero]; exact QOwn.nil _ _, Below.refl _ _⟩
  case round =>
    rename World => wr
    obtain ⟨i, hile, rfl, hqo, hbl⟩ := hrel
    have hbl' := hbl.out
    have x0 : World.cell? wr ⟨w.heap.size, 0, none⟩ = some (iv s.craft) := (Below.cell hbl' (p := ⟨w.heap.size, 0, none⟩) (by first | (simp; done) | (simp; omega))).trans (by simp [go_sem]); have x1 : World.cell? wr ⟨w.heap.size, 1, none⟩ = some (iv s.size) := (Below.cell hbl' (p := ⟨w.heap.size, 1, none⟩) (by first | (simp; done) | (simp; omega))).trans (by simp [go_sem]); have x2 : World.cell? wr ⟨w.heap.size, 2, none⟩ = some (iv s.master) := (Below.cell hbl' (p := ⟨w.heap.size, 2, none⟩) (by first | (simp; done) | (simp; omega))).trans (by simp [go_sem]); have x3 : World.cell? wr ⟨w.heap.size, 3, none⟩ = some (iv s.turn) := (Below.cell hbl' (p := ⟨w.heap.size, 3, none⟩) (by first | (simp; done) | (simp; omega))).trans (by simp [go_sem]); have x4 : World.cell? wr ⟨w.heap.size, 4, none⟩ = some (.slice p s.queues.length cap) := (Below.cell hbl' (p := ⟨w.heap.size, 4, none⟩) (by first | (simp; done) | (simp; omega))).trans (by simp [go_sem]); have xf : ∀ o, World.frozen? wr ⟨w.heap.size, o, none⟩ = false := fun o => (Below.frozen hbl' (p := ⟨w.heap.size, o, none⟩) (by first | (simp; done) | (simp; omega))).trans (by simp [go_sem])
    have z0 : World.cell? wr ⟨w.heap.size + 1, 0, none⟩ = some (iv 0) := (Below.cell hbl' (p := ⟨w.heap.size + 1, 0, none⟩) (by first | (simp; done) | (simp; omega))).trans (by simp [go_sem]); have z1 : World.cell? wr ⟨w.heap.size + 1, 1, none⟩ = some (iv 0) := (Below.cell hbl' (p := ⟨w.heap.size + 1, 1, none⟩) (by first | (simp; done) | (simp; omega))).trans (by simp [go_sem]); have z2 : World.cell? wr ⟨w.heap.size + 1, 2, none⟩ = some (iv 0) := (Below.cell hbl' (p := ⟨w.heap.size + 1, 2, none⟩) (by first | (simp; done) | (simp; omega))).trans (by simp [go_sem]); have z3 : World.cell? wr ⟨w.heap.size + 1, 3, none⟩ = some (iv 0) := (Below.cell hbl' (p := ⟨w.heap.size + 1, 3, none⟩) (by first | (simp; done) | (simp; omega))).trans (by simp [go_sem]); have z4 : World.cell? wr ⟨w.heap.size + 1, 4, none⟩ = some (.slice none 0 0) := (Below.cell hbl' (p := ⟨w.heap.size + 1, 4, none⟩) (by first | (simp; done) | (simp; omega))).trans (by simp [go_sem]); have zf : ∀ o, World.frozen? wr ⟨w.heap.size + 1, o, none⟩ = false := fun o => (Below.frozen hbl' (p := ⟨w.heap.size + 1, o, none⟩) (by first | (simp; done) | (simp; omega))).trans (by simp [go_sem])
    have hext : Ext w wr := (ext_alloc (ext_alloc (Ext.refl w) _) _).trans (fun k hk => hbl'.block k (by simpa using hk))
    have HEXT := Lib.hid hext
    have hra : ∀ b' o, b' < w.heap.size → wr.cell? ⟨b', o, none⟩ = w.cell? ⟨b', o, none⟩ := fun b' o h => World.cell?_of_block (hext b' h)
    have hsz : w.heap.size + 1 + 1 ≤ wr.heap.size := by have h := hbl'.size; simpa using h
    have hnew : Hid (New w wr) := Below.trans (((Below.refl _ _).alloc (Nat.le_refl _) _).alloc (by simp) _) (hbl'.mono (by omega))
    clear hbl' hext
    by_cases hin' : i < s.queues.length
    · obtain ⟨b, off, e, hb, _, _, hc⟩ := HR.out.cell (by rw [flat_length _ _ HL.out]; omega)
      subst e
      obtain ⟨q, hq⟩ : ∃ q, s.queues.getD i default = q := ⟨_, rfl⟩
      obtain ⟨u, hu⟩ : ∃ u, us0.getD i undef = u := ⟨_, rfl⟩
      have fl := flat_get s.queues us0 HL.out i hin'
      rw [hq, hu] at fl
      have q0 : w.cell? ⟨b, off + i * 3, none⟩ = some (iv q.own) := hc _ _ fl.1
      have q1 : w.cell? ⟨b, off + i * 3 + 1, none⟩ = some u := by rw [Nat.add_assoc]; exact hc _ _ fl.2.1
      have q2 : w.cell? ⟨b, off + i * 3 + 2, none⟩ = some (iv q.gone) := by rw [Nat.add_assoc]; exact hc _ _ fl.2.2
      have hp := HIN.out i hin'
      rw [hu, hq] at hp
      have HQ := Lib.hid hq
      have hbd := HSB.out.2 i hin'
      rw [hq] at hbd
      have HBD1 := Lib.hid hbd.1
      have HBD := Lib.hid hbd.2
      clear fl hq hu hc hbd
      obtain ⟨xs, p1, p2, p3⟩ := hp
      have P1 := Lib.hid p1
      have P2 := Lib.hid p2
      have P3 := Lib.hid p3
      obtain ⟨pu, cu, rfl, e1, e2, e3, e4⟩ := p2
      have hm2 : q.packs.length ≤ 9223372036854775807 := by unfold maxLen at e2; omega
      clear p1 p3 e1 e2 e3 e4
      go_wp2_with (fail)
      go_loopw [6, 7] (fun l x wq => ∃ k : Nat, k ≤ q.packs.length ∧ x = .int .i64 k ∧ Hid (POwn wq (wr.heap.size + 1) l (q.packs.take k)) ∧ Hid (Below (wr.heap.size + 1) (wr.alloc (.cells #[iv q.own, .slice pu q.packs.length cu, iv q.gone] 61)) wq)) (fun _ x _ => q.packs.length - (intOf x).toNat)
      case atStart => exact ⟨0, by omega, rfl, by rw [List.take_zero]; exact POwn.nil _ _, Below.refl _ _⟩
      case round =>
        rename World => wq
        obtain ⟨k, hkle, rfl, hpo, hbl2⟩ := hrel
        have hbl2' := hbl2.out
        have y0 : World.cell? wq ⟨wr.heap.size, 0, none⟩ = some (iv q.own) := (Below.cell hbl2' (p := ⟨wr.heap.size, 0, none⟩) (by first | (simp; done) | (simp; omega))).trans (by simp [go_sem]); have y1 : World.cell? wq ⟨wr.heap.size, 1, none⟩ = some (.slice pu q.packs.length cu) := (Below.cell hbl2' (p := ⟨wr.heap.size, 1, none⟩) (by first | (simp; done) | (simp; omega))).trans (by simp [go_sem]); have y2 : World.cell? wq ⟨wr.heap.size, 2, none⟩ = some (iv q.gone) := (Below.cell hbl2' (p := ⟨wr.heap.size, 2, none⟩) (by first | (simp; done) | (simp; omega))).trans (by simp [go_sem]); have yf : ∀ o, World.frozen? wq ⟨wr.heap.size, o, none⟩ = false := fun o => (Below.frozen hbl2' (p := ⟨wr.heap.size, o, none⟩) (by first | (simp; done) | (simp; omega))).trans (by simp [go_sem])
        have hext2 : Ext w wq := (ext_alloc HEXT.out _).trans (fun b' h' => hbl2'.block b' (by simpa using h'))
        have hra2 : ∀ b' o, b' < w.heap.size → wq.cell? ⟨b', o, none⟩ = w.cell? ⟨b', o, none⟩ := fun b' o h => World.cell?_of_block (hext2 b' h)
        have hszq : wr.heap.size + 1 ≤ wq.heap.size := by have h := hbl2'.size; simpa using h
        have HEXT2 := Lib.hid hext2
        clear hbl2' hext2
        by_cases hkn : k < q.packs.length
        · obtain ⟨b2, off2, e, hb2, _, _, hc2⟩ := P2.out.cell (by rw [P1.out]; omega)
          subst e
          have c0 := hc2 k _ (getD_some (d := undef) (by rw [P1.out]; exact hkn))
          have HRK := Lib.hid ((P3.out k hkn).ext HEXT2.out)
          have HLK := Lib.hid (HBD.out k hkn)
          obtain ⟨xs6, r1, r2, r3⟩ := hpo.out
          have htk : (q.packs.take k).length = k := by simp; omega
          rw [htk] at r2
          obtain ⟨p6, c6, rfl⟩ := r2.slice
          have R2 := Lib.hid r2
          have R1 := Lib.hid r1
          have R3 := Lib.hid r3
          have HTK := Lib.hid htk
          obtain ⟨bs, hbs⟩ : ∃ bs, q.packs.getD k [] = bs := ⟨_, rfl⟩
          rw [hbs] at HRK HLK
          obtain ⟨y, hy⟩ : ∃ y, xs.getD k undef = y := ⟨_, rfl⟩
          rw [hy] at HRK c0
          obtain ⟨py, cy, rfl⟩ : ∃ py cy, y = .slice py bs.length cy := by obtain ⟨py, cy, h, _⟩ := HRK.out; exact ⟨py, cy, h⟩
          have HBS := Lib.hid hbs
          clear hc2 r1 r2 r3 htk hbs hy
          go_wp2_with (at_builtin; first | (refine wl_append_bytes T1.out rfl _ _ rfl wq.heap.size rfl rfl (World.ownsRow_nil _ _ _ _) HRK.out rfl (show 0 + bs.length ≤ _ by have := HLK.out; omega) (Nat.le_refl _) (fun p1 c1 w1 hown1 hg1 => ?_); have HO1 := Lib.hid hown1; clear hown1) | (refine wl_append_one T2.out rfl _ _ rfl (wr.heap.size + 1) rfl (ad := ⟨w1.heap.size, 0, none⟩) rfl ((R2.out.new hg1).alloc _) (by simp [go_sem]; rfl) rfl (show (k + 1) * 24 ≤ 140737488355328 by have := HBD1.out; omega) (show k + 1 ≤ maxLen by have := HBD1.out; simp [maxLen]; omega) (by have h := hg1.size; simp; omega) (fun g2 c2 w2 hown2 hgr2 hor2 => ?_); have HO2 := Lib.hid hown2; have HG2 := Lib.hid hgr2; clear hown2 hgr2 hor2))
          go_wp2
          go_roundw
          case rel =>
            have hB1 : wr.heap.size + 1 ≤ w1.heap.size + 1 := by have h := hg1.size; omega
            refine ⟨k + 1, by omega, by go_num, ?_, ?_⟩
            · show POwn _ _ _ _
              rw [take_more _ _ [] hkn, HBS.out]
              refine POwn.more (w := w1.alloc (.cells #[.slice p1 bs.length c1] 25)) (u := .slice p6 k c6) (r := .slice p1 bs.length c1) (xs := xs6) R1.out ?_ (fun j hj => ((R3.out j hj).new hg1).alloc _) ?_ (fun b hb hne => HG2.out.block b (by simpa using hb) (fun hc => hne hc.symm)) ?_
              · rw [HTK.out]; exact (R2.out.new hg1).alloc _
              · have h := HO1.out
                rw [Nat.zero_add, List.nil_append] at h
                exact (h.low hszq).alloc _
              · rw [HTK.out]
                have h := HO2.out
                simpa using h
            · exact Below.grown ((hbl2.out.trans (hg1.mono hszq)).alloc (by have h := hg1.size; omega) _) HG2.out (by simpa using hB1) (fun k' hk' => (R2.out.elem hk').1)
          case measure => simp [intOf]; omega
        · have hkk : k = q.packs.length := by omega
          subst hkk
          have hpo' := hpo.out
          rw [List.take_length] at hpo'
          have HPO := Lib.hid hpo'
          obtain ⟨xs6, r1, r2, r3⟩ := hpo'
          obtain ⟨p6, c6, rfl⟩ := r2.slice
          obtain ⟨us, s1, s2, s3, s4⟩ := hqo.out
          have hti : (s.queues.take i).length = i := by simp; omega
          rw [hti] at s2
          obtain ⟨p3, c3, rfl⟩ := s2.slice
          have S1 := Lib.hid s1
          have S2 := Lib.hid s2
          have S3 := Lib.hid s3
          have S4 := Lib.hid s4
          have HTI := Lib.hid hti
          have hq1 : Hid (New wr (wq.setCell ⟨wr.heap.size, 1, none⟩ (.slice p6 q.packs.length c6))) := Below.setCell (Below.trans ((Below.refl _ _).alloc (Nat.le_refl _) _) (hbl2.out.mono (by omega))) (Nat.le_refl _) _
          have hsq : Hid ((i + 1) * 40 ≤ 140737488355328) := by have := HSB.out.1; show _ ≤ _; omega
          clear hkn hkle r1 r2 r3 s1 s2 s3 s4 hti hpo hqo
          go_wp2_with (at_builtin; refine wl_append_elem T3.out rfl _ _ rfl (w.heap.size + 1 + 1) rfl (ad := ⟨wq.heap.size, 0, none⟩) rfl (news := [iv q.own, .slice p6 q.packs.length c6, iv q.gone]) ((S2.out.new hq1.out).alloc _) rfl (fun j u hj => ?_) (fun u hu => ?_) hsq.out (by have := hsq.out; simp [maxLen]; omega) (by simp; omega) (fun g7 c7 w7 hown7 hgr7 _ => ?_))
          · have e := lit_cells (wq.setCell ⟨wr.heap.size, 1, none⟩ (.slice p6 q.packs.length c6)) #[iv q.own, .slice p6 q.packs.length c6, iv q.gone] 61 j u (by simpa using hj)
            rw [show (wq.setCell ⟨wr.heap.size, 1, none⟩ (.slice p6 q.packs.length c6)).heap.size = wq.heap.size by simp [World.setCell]] at e
            exact e
          · simp only [List.mem_cons, List.not_mem_nil, or_false] at hu
            rcases hu with rfl | rfl | rfl <;> rfl
          · go_roundw
            case rel =>
              have hBq : w.heap.size + 1 + 1 ≤ (wq.setCell ⟨wr.heap.size, 1, none⟩ (.slice p6 q.packs.length c6)).heap.size := Nat.le_trans hsz hq1.out.size
              refine ⟨i + 1, by omega, by go_num, ?_, ?_⟩
              · show QOwn _ _ _ _
                rw [take_more _ _ default hin', HQ.out]
                refine QOwn.push (wr := wr) (w := (wq.setCell ⟨wr.heap.size, 1, none⟩ (.slice p6 q.packs.length c6)).alloc (.cells #[iv q.own, .slice p6 q.packs.length c6, iv q.gone] 61)) (lv := .slice p3 i c3) (pv := .slice p6 q.packs.length c6) (us := us) S1.out (by rw [HTI.out]; exact S2.out) S3.out S4.out (Below.alloc hq1.out hq1.out.size _) hsz ?_ (fun b' hb' hne => hgr7.block b' hb' (fun hc => hne hc.symm)) ?_
                · exact ((HPO.out.setLow (by dsimp only; omega) _).new ((Below.refl _ _).alloc (Nat.le_refl _) _)).low (by omega)
                · rw [HTI.out]; exact hown7
              · exact Below.grown ((hbl.out.trans (hq1.out.mono hsz)).alloc hBq _) hgr7 (by simp; omega) (fun k' hk' => (S2.out.elem hk').1)
            case measure => simp [intOf]; omega
    · have hii : i = s.queues.length := by omega
      subst hii
      have hqo' := hqo.out
      rw [List.take_length] at hqo'
      have HQO := Lib.hid hqo'
      obtain ⟨us, s1, s2, s3, s4⟩ := hqo'
      obtain ⟨p3, c3, rfl⟩ := s2.slice
      clear s1 s2 s3 s4 hqo hin' hile
      go_wp2
      refine bodyPost_ret (v := sdVal s (.slice p3 s.queues.length c3)) ?_ rfl ⟨?_, _, rfl, ?_⟩
      · simp [results, Try.results23, go_sem, sdVal, isSome_setCell, x0, x1, x2, x3, x4, z0, z1, z2, z3, z4]
      · repeat (refine Below.setCell ?_ (by simp) _)
        exact hnew.out
      · refine QOwn.low (base := w.heap.size + 1 + 1) ?_ (by omega)
        repeat (refine QOwn.setLow ?_ (by dsimp only; omega) _)
        exact HQO.out
end Go.Proofs.Ytamcoomkoenmcaa
