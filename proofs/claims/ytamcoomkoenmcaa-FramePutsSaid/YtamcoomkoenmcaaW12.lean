/- overSender: a walk. -/
import Derived.Test.YtamcoomkoenmcaaOver2
set_option linter.unusedSimpArgs false
set_option linter.unusedVariables false
namespace Go.Proofs.Ytamcoomkoenmcaa
open Go.RowKit Go.Far
set_option maxRecDepth 100000 in
set_option maxHeartbeats 2000000 in
theorem overSender_any (v : Value) (s : Sd) (base hi : Nat) (w : World) (hs : SLive w base hi v s) (hbase : base ≤ w.heap.size) (hlen : ∀ i, i < s.queues.length → ∀ k, k < (s.queues.getD i default).packs.length → ((s.queues.getD i default).packs.getD k []).length ≤ 140737488351232) :
    Calls Try.prog 30 #[v] w (Ret fun _ w' => Turned base hi w w') := by
  obtain ⟨us, p, c, rfl, hus, hm, hsep, hlive⟩ := hs
  obtain ⟨n, hn⟩ : ∃ n, s.queues.length = n := ⟨_, rfl⟩
  rw [hn] at hlive hus hsep hlen hm ⊢
  have HLEN := Lib.hid hlen
  have HBASE := Lib.hid hbase
  have HLIVE := Lib.hid hlive
  have HSEP := Lib.hid hsep
  have HUS := Lib.hid hus
  have HN := Lib.hid hn
  clear hlen hlive hsep hus hn hbase
  unfold sdVal
  go_enter Try.func30, Try.ntmps30
  go_wp2_with (fail)
  go_loopw [2] (fun x wr => ∃ i : Nat, i ≤ n ∧ x = .int .i64 (i : Int) ∧ Hid (wr.heap[w.heap.size]? = some (.cells #[iv s.craft, iv s.size, iv s.master, iv s.turn, .slice p n c] 24 (0, 0))) ∧ Hid (Turned base hi w wr) ∧ Hid (n = 0 ∨ ∃ g, p = some ⟨g, 0, none⟩ ∧ OVI base hi g c n s.queues us i 0 wr)) (fun x _ => n - (intOf x).toNat)
  case atStart =>
    refine ⟨0, by omega, rfl, heap_alloc_new _ _, (Turned.refl _ _ _).alloc _, ?_⟩
    rcases HLIVE.out with h | ⟨g, hp, h⟩
    · exact .inl h
    · exact .inr ⟨g, hp, h.new ((Below.refl _ _).alloc (Nat.le_refl _) _)⟩
  case round =>
    rename World => wr
    obtain ⟨i, hile, rfl, hbox, hbl, hov⟩ := hrel
    have x4 : wr.cell? ⟨w.heap.size, 4, none⟩ = some (.slice p n c) := by rw [cell_of_row wr _ 4 _ _ _ hbox.out]; rfl
    by_cases hin : i < n
    · have hov' : ∃ g, p = some ⟨g, 0, none⟩ ∧ OVI base hi g c n s.queues us i 0 wr := by
        rcases hov.out with h0 | h
        · omega
        · exact h
      obtain ⟨g, rfl, hov2⟩ := hov'
      have HOV := Lib.hid hov2
      obtain ⟨o0, cells, o1, o2, o3, o4⟩ := hov2
      obtain ⟨u, hu⟩ : ∃ u, us.getD i undef = u := ⟨_, rfl⟩
      have q1 : wr.cell? ⟨g, i * 3 + 1, none⟩ = some u := (o1.cellAt _ (by omega)).trans (by rw [o2 i (Nat.le_refl _) hin, hu])
      have ho4 := o4 hin
      rw [hu] at ho4
      obtain ⟨p0, xs, p1, p2, p3⟩ := ho4
      obtain ⟨pu, cu, rfl⟩ := p2.slice
      obtain ⟨m, hmm⟩ : ∃ m, (s.queues.getD i default).packs.length = m := ⟨_, rfl⟩
      rw [hmm] at q1 hu p2
      have hmx : m ≤ 9223372036854775807 := by
        obtain ⟨_, _, h, h1, h2, _⟩ := Row.of_own p2 (by decide)
        injection h with _ _ h3
        subst h3
        unfold maxLen at h2; omega
      have HU := Lib.hid hu
      have HMM := Lib.hid hmm
      clear o0 o1 o2 o3 o4 p0 p1 p2 p3 hu hmm hov
      go_wp2_with (fail)
      go_loopw [3] (fun x wq => ∃ k : Nat, k ≤ m ∧ x = .int .i64 (k : Int) ∧ Hid (wq.heap[w.heap.size]? = some (.cells #[iv s.craft, iv s.size, iv s.master, iv s.turn, .slice (some ⟨g, 0, none⟩) n c] 24 (0, 0))) ∧ Hid (Turned base hi w wq) ∧ Hid (OVI base hi g c n s.queues us i k wq)) (fun x _ => m - (intOf x).toNat)
      case atStart => exact ⟨0, by omega, rfl, hbox.out, hbl.out, HOV.out⟩
      case round =>
        rename World => wq
        obtain ⟨k, hkle, rfl, hboxq, hblq, hovq⟩ := hrel
        have y4 : wq.cell? ⟨w.heap.size, 4, none⟩ = some (.slice (some ⟨g, 0, none⟩) n c) := by rw [cell_of_row wq _ 4 _ _ _ hboxq.out]; rfl
        obtain ⟨o0, cells, o1, o2, o3, o4⟩ := hovq.out
        have q1' : wq.cell? ⟨g, i * 3 + 1, none⟩ = some (.slice pu m cu) := (o1.cellAt _ (by omega)).trans (by rw [o2 i (Nat.le_refl _) hin, HU.out])
        by_cases hkm : k < m
        · have ho4 := o4 hin
          rw [HU.out] at ho4
          obtain ⟨p0, xs, p1, p2, p3⟩ := ho4
          rw [HMM.out] at p1 p2 p3
          have hb3 := p3 k (Nat.le_refl _) hkm
          obtain ⟨gu, cu', e⟩ := ownsRow_form p2 (by omega)
          injection e with e1 _ e3
          subst e1
          obtain ⟨r, hr⟩ : ∃ r, xs.getD k undef = r := ⟨_, rfl⟩
          have c1 : wq.cell? ⟨gu, k, none⟩ = some r := (p2.cellAt k (by omega)).trans (by rw [← hr, getD_some (d := undef) (by omega)])
          rw [hr] at hb3
          have HB3 := Lib.hid hb3
          obtain ⟨lb, hlb, hown, _⟩ := hb3
          have HLB := Lib.hid hlb
          have HOB := Lib.hid hown
          have hbs : Hid (base ≤ wq.heap.size) := Nat.le_trans HBASE.out hblq.out.size
          have hgu : Hid (base ≤ gu) := (p2.elem (k := gu) rfl).1
          clear o0 o1 o2 o3 o4 p0 p1 p2 p3 hr hlb hown e3
          go_wp2_with (fail)
          go_at_call 12
          refine calls_ret (spoil_any _ base lb _ (by rw [HLB.out]; exact HOB.out) (by rw [HLB.out]; exact HLEN.out i hin k (by rw [HMM.out]; exact hkm)) hbs.out) ?_
          rintro _ w6 hsp
          have HSP := Lib.hid hsp
          clear hsp
          have hbox6 := boxed_spoilt HB3.out HSP.out (by decide) hboxq.out
          have HBOX6 := Lib.hid hbox6
          have HOV6 := Lib.hid (hovq.out.spoilt HB3.out HSP.out)
          have z4 : w6.cell? ⟨w.heap.size, 4, none⟩ = some (.slice (some ⟨g, 0, none⟩) n c) := boxed_cell hbox6 4 rfl
          obtain ⟨q0, cells6, o16, o26, o36, o46⟩ := HOV6.out
          have q16 : w6.cell? ⟨g, i * 3 + 1, none⟩ = some (.slice (some ⟨gu, 0, none⟩) m cu) := (o16.cellAt _ (by omega)).trans (by rw [o26 i (Nat.le_refl _) hin, HU.out])
          have ho46 := o46 hin
          rw [HU.out] at ho46
          obtain ⟨r0, xs6, r1, r2, r3⟩ := ho46
          rw [HMM.out] at r1 r2
          have c16 : w6.cell? ⟨gu, k, none⟩ = some (xs6.getD k undef) := (r2.cellAt k (by omega)).trans (getD_some (by omega))
          have cf6 : ∀ o, w6.frozen? ⟨gu, o, none⟩ = false := fun o => r2.frozenAt o
          have hgg : gu < w6.heap.size := (r2.elem (k := gu) rfl).2.1
          have hgk : Hid (w.heap.size ≠ gu) := (by obtain ⟨_, _, c5, hc5⟩ := r2.elem (k := gu) rfl; exact boxed_ne hbox6 hc5 (by decide))
          have hguhi : Hid (gu < hi) := r0 gu rfl
          clear hbox6 o16 o26 o36 o46 r0 r1 r2 r3 q0
          go_wp2_with (fail)
          go_roundw
          case rel =>
            refine ⟨k + 1, by omega, by go_num, boxed_alloc _ (boxed_set (a := ⟨gu, k, none⟩) hgk.out _ HBOX6.out), ?_, ?_⟩
            · refine Turned.alloc (Turned.setCell (p := ⟨gu, k, none⟩) (hblq.out.trans (Turned.spoilt HSP.out fun k' hk' => ?_)) hgu.out hguhi.out _) _
              obtain ⟨_, _, h1, h2⟩ := HB3.out
              exact ⟨(h1.elem hk').1, h2 k' hk'⟩
            · exact (OVI.next HOV6.out hin HU.out HMM.out.symm (fun j hj hjn => HSEP.out i j gu hj hjn (by rw [HU.out]; rfl)) _).new ((Below.refl _ _).alloc (Nat.le_refl _) _)
          case measure => simp [intOf]; omega
        · have hl1 := o1.1
          have f0 : wq.cell? ⟨g, i * 3, none⟩ = some (cells.getD (i * 3) undef) := (o1.cellAt _ (by omega)).trans (getD_some (by omega))
          have f2 : wq.cell? ⟨g, i * 3 + 2, none⟩ = some (cells.getD (i * 3 + 2) undef) := (o1.cellAt _ (by omega)).trans (getD_some (by omega))
          have ff : ∀ o, wq.frozen? ⟨g, o, none⟩ = false := fun o => o1.frozenAt o
          have hgg : g < wq.heap.size := (o1.elem (k := g) rfl).2.1
          have hgb : Hid (base ≤ g) := (o1.elem (k := g) rfl).1
          have hgk : Hid (w.heap.size ≠ g) := by
            obtain ⟨_, _, c5, hc5⟩ := o1.elem (k := g) rfl
            exact boxed_ne hboxq.out hc5 (by decide)
          have hghi : Hid (g < hi) := o0
          clear o0 o1 o2 o3 o4 hl1
          go_wp2_with (fail)
          go_roundw
          case rel =>
            refine ⟨i + 1, by omega, by go_num, boxed_set hgk.out _ (boxed_set hgk.out _ (boxed_set hgk.out _ hboxq.out)), ?_, .inr ⟨g, rfl, hovq.out.close _ _ _⟩⟩
            exact Turned.setCell (Turned.setCell (Turned.setCell hblq.out hgb.out hghi.out _) hgb.out hghi.out _) hgb.out hghi.out _
          case measure => simp [intOf]; omega
    · have hlast := hbl.out
      go_wp2
      exact bodyPost_end (v := .tuple #[]) (by simp [results, Try.results30, go_sem]) rfl hlast
end Go.Proofs.Ytamcoomkoenmcaa
