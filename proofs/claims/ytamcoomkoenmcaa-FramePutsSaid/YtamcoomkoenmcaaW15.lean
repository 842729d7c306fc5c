/- FramePuts: its walk. -/
import Derived.Test.YtamcoomkoenmcaaW14
set_option linter.unusedSimpArgs false
set_option linter.unusedVariables false
namespace Go.Proofs.Ytamcoomkoenmcaa
open Go.RowKit Go.Far
theorem getD_app {α : Type} {a b : List α} {k : Nat} {d : α} (h : k < a.length) : (a ++ b).getD k d = a.getD k d := by
  simp only [List.getD_eq_getElem?_getD, List.getElem?_append_left h]
theorem row_nil (w : World) (lo hi : Nat) : Row w lo hi (.slice none 0 0) 0 [] := ⟨none, 0, rfl, Nat.le_refl _, by simp [maxLen], fun _ => rfl, fun h => absurd rfl h⟩
theorem putS_rows {s : Sd} {ch : Int} {l : List UInt8} (h : rowsMay s) (hl : l.length ≤ 140737488351232) : rowsMay (putS s ch l) := by
  unfold putS
  split
  · intro i hi; simp [sd0] at hi
  · split
    · intro i hi k hk
      simp only [List.length_set] at hi
      by_cases hic : ch.toNat = i
      · subst hic
        rw [getD_set_eq _ _ _ _ hi] at hk ⊢
        simp only [quPut, List.length_append, List.length_cons, List.length_nil] at hk ⊢
        by_cases hkl : k < (s.queues.getD ch.toNat default).packs.length
        · have e : ((s.queues.getD ch.toNat default).packs ++ [l]).getD k [] = (s.queues.getD ch.toNat default).packs.getD k [] := getD_app hkl
          rw [e]; exact h _ hi k hkl
        · have hke : k = (s.queues.getD ch.toNat default).packs.length := by omega
          have e : ((s.queues.getD ch.toNat default).packs ++ [l]).getD k [] = l := by rw [hke]; simp
          rw [e]; exact hl
      · simp only at hk ⊢
        rw [getD_set_ne _ _ _ _ _ hic] at hk ⊢
        exact h i hi k hk
    · exact h
theorem putS_SB {s : Sd} {ch : Int} {l : List UInt8} (hl : l.length ≤ 140737488351232) : SB (putS s ch l) := by
  unfold putS
  split
  · exact ⟨by simp [sd0], fun i hi => by simp [sd0] at hi⟩
  · rename_i hs
    have hs' : sdB s = true := by simpa using hs
    have hb := SB_of hs'
    have h7 : s.queues.length = 7 := by
      have h1 := hs'
      simp only [sdB, headB, Bool.and_eq_true, beq_iff_eq] at h1
      exact h1.1.2
    split
    · refine ⟨by simp; omega, fun i hi => ?_⟩
      simp only [List.length_set] at hi
      by_cases hic : ch.toNat = i
      · subst hic
        rw [getD_set_eq _ _ _ _ hi]
        have h2 : (s.queues.getD ch.toNat default).packs.length ≤ 200 := by
          have h1 := hs'
          simp only [sdB, Bool.and_eq_true, List.all_eq_true] at h1
          have e : s.queues.getD ch.toNat default = s.queues[ch.toNat] := by simp [hi]
          rw [e]; exact (quB_packs (h1.2 _ (List.getElem_mem hi))).1
        simp only [quPut, List.length_append, List.length_cons, List.length_nil]
        refine ⟨by omega, fun k hk => ?_⟩
        by_cases hkl : k < (s.queues.getD ch.toNat default).packs.length
        · have e : ((s.queues.getD ch.toNat default).packs ++ [l]).getD k [] = (s.queues.getD ch.toNat default).packs.getD k [] := getD_app hkl
          rw [e]; exact (hb.2 _ hi).2 k hkl
        · have hke : k = (s.queues.getD ch.toNat default).packs.length := by omega
          have e : ((s.queues.getD ch.toNat default).packs ++ [l]).getD k [] = l := by rw [hke]; simp
          rw [e]; omega
      · rw [getD_set_ne _ _ _ _ _ hic]; exact hb.2 i hi
    · exact hb
theorem RoomAt.own {w : World} {g : Nat} {l : List UInt8} (h : RoomAt w g l) (hl : l.length ≤ 140737488351232) : w.ownsRow g 5 1 (.slice (some ⟨g, 0, none⟩) l.length (l.length + 5)) l.length (l.map bv) := by
  refine ⟨by simp, .inr ⟨g, l.length + 5, _, rfl, Nat.le_refl _, h, by omega, by simp only [maxLen]; omega, by simp [roomCells, marks_length], ?_⟩⟩
  simp [roomCells]
set_option maxRecDepth 100000 in
set_option maxHeartbeats 2000000 in
theorem framePuts_any (vs vb : Value) (s : Sd) (ch : Int) (l : List UInt8) (lo hi lo' hi' : Nat) (w : World) (hs : SR w lo hi vs s) (hb : Row w lo' hi' vb l.length (l.map bv)) (hsb : SB s) (hrm : rowsMay s) (hl : l.length ≤ 140737488351232) :
    Calls Try.prog 3 #[vs, iv ch, vb] w (Ret fun r w' => r = .bool true ∧ New w w') := by
  have hmf : ∀ (fn : Fn) (first cap : Array Value) (w : World), (Instr.makeFunc fn first cap).run Try.prog w = .ok (.func fn first cap) w := fun _ _ _ _ => rfl
  obtain ⟨qs, rfl, hqs⟩ := hs
  have HS : Hid (SR w lo hi (sdVal s qs) s) := ⟨qs, rfl, hqs⟩
  have HB := Lib.hid hb
  have HSB := Lib.hid hsb
  have HRM := Lib.hid hrm
  obtain ⟨s', hs'⟩ : ∃ s', putS s ch l = s' := ⟨_, rfl⟩
  have HS' := Lib.hid hs'
  have HWB : Hid (SB s') := by rw [← hs']; exact putS_SB hl
  have HWM : Hid (rowsMay s') := by rw [← hs']; exact putS_rows hrm hl
  obtain ⟨e, he⟩ : ∃ e, putErr s ch l = e := ⟨_, rfl⟩
  have HE := Lib.hid he
  obtain ⟨pb, cb, rfl, hnc, hcm, _, _⟩ := hb
  clear hqs hsb hrm hs' he hnc hcm
  unfold sdVal
  go_enter Try.func3, Try.ntmps3
  go_wp2_with (fail)
  -- want
  go_at_call 6
  refine calls_ret (putIn_any (sdVal s qs) _ s ch l lo hi lo' hi' _ (HS.out.ext (ext_alloc (ext_alloc (Ext.refl _) _) _)) (HB.out.ext (ext_alloc (ext_alloc (Ext.refl _) _) _))) ?_
  rintro r3 w3 ⟨hg3, sv, hr3, q3, hsv, ho3⟩
  rw [HS'.out] at hsv ho3
  rw [HE.out] at hr3
  obtain ⟨p3, k3, rfl⟩ := ho3.slice
  unfold sdVal at hsv
  subst hsv
  subst hr3
  have M3 : Hid (New w w3) := New.trans (New.trans (new_alloc _ _) (new_alloc _ _)) hg3
  have s3 : w.heap.size + 1 + 1 ≤ w3.heap.size := by have h := hg3.size; simpa using h
  have BS3 : Hid (w3.heap[w.heap.size]? = some (.cells #[iv s.craft, iv s.size, iv s.master, iv s.turn, qs] 24 (0, 0))) := boxed_new hg3 (boxed_alloc _ (heap_alloc_new _ _))
  have BC3 : Hid (w3.heap[w.heap.size + 1]? = some (.cells #[iv ch] 3 (0, 0))) := boxed_new hg3 (by have h := heap_alloc_new (w.alloc (.cells #[iv s.craft, iv s.size, iv s.master, iv s.turn, qs] 24)) (.cells #[iv ch] 3); simpa using h)
  have O3 : Hid (SOwn w3 (w.heap.size + 1 + 1) (sdVal s' (.slice p3 s'.queues.length k3)) s') := ⟨_, rfl, by simpa using ho3⟩
  clear hg3 ho3
  go_wp2_with (fail)
  -- c
  go_at_call 7
  refine calls_ret (roomy_any _ lo' hi' l _ (HB.out.ext (New.trans M3.out (new_alloc _ _)).block) hl) ?_
  rintro _ w4 ⟨rfl, hrm4, hg4⟩
  have N4 : Hid (New w3 w4) := New.trans (new_alloc _ _) hg4
  have M4 : Hid (New w w4) := New.trans M3.out N4.out
  have s4 : w3.heap.size + 1 + 1 ≤ w4.heap.size := by have h := hrm4.lt; simp at h; omega
  have BS4 := Lib.hid (boxed_new N4.out BS3.out)
  have BC4 := Lib.hid (boxed_new N4.out BC3.out)
  have BW4 : Hid (w4.heap[w3.heap.size]? = some (.cells #[iv s'.craft, iv s'.size, iv s'.master, iv s'.turn, .slice p3 s'.queues.length k3] 24 (0, 0))) := boxed_new hg4 (heap_alloc_new _ _)
  have RM4 : Hid (RoomAt w4 (w3.heap.size + 1) l) := by show RoomAt _ _ _; simpa using hrm4
  clear hg4 hrm4
  have x0 : World.cell? w4 ⟨w.heap.size, 0, none⟩ = some (iv s.craft) := boxed_cell BS4.out 0 rfl; have x1 : World.cell? w4 ⟨w.heap.size, 1, none⟩ = some (iv s.size) := boxed_cell BS4.out 1 rfl; have x2 : World.cell? w4 ⟨w.heap.size, 2, none⟩ = some (iv s.master) := boxed_cell BS4.out 2 rfl; have x3 : World.cell? w4 ⟨w.heap.size, 3, none⟩ = some (iv s.turn) := boxed_cell BS4.out 3 rfl; have x4 : World.cell? w4 ⟨w.heap.size, 4, none⟩ = some (qs) := boxed_cell BS4.out 4 rfl; have xf : ∀ o, World.frozen? w4 ⟨w.heap.size, o, none⟩ = false := boxed_frozen BS4.out; have xs : w.heap.size < (World.heap w4).size := boxed_lt BS4.out
  have y0 : World.cell? w4 ⟨w3.heap.size, 0, none⟩ = some (iv s'.craft) := boxed_cell BW4.out 0 rfl; have y1 : World.cell? w4 ⟨w3.heap.size, 1, none⟩ = some (iv s'.size) := boxed_cell BW4.out 1 rfl; have y2 : World.cell? w4 ⟨w3.heap.size, 2, none⟩ = some (iv s'.master) := boxed_cell BW4.out 2 rfl; have y3 : World.cell? w4 ⟨w3.heap.size, 3, none⟩ = some (iv s'.turn) := boxed_cell BW4.out 3 rfl; have y4 : World.cell? w4 ⟨w3.heap.size, 4, none⟩ = some (.slice p3 s'.queues.length k3) := boxed_cell BW4.out 4 rfl; have yf : ∀ o, World.frozen? w4 ⟨w3.heap.size, o, none⟩ = false := boxed_frozen BW4.out; have ys : w3.heap.size < (World.heap w4).size := boxed_lt BW4.out
  go_wp2_with (fail)
  -- twice, and written over
  have BQ5 : Hid (∀ w', New (w4.alloc (.cells #[(.slice (some ⟨w3.heap.size + 1, 0, none⟩) l.length (l.length + 5))] 25)) w' → w'.heap[w4.heap.size]? = some (.cells #[(.slice (some ⟨w3.heap.size + 1, 0, none⟩) l.length (l.length + 5))] 25 (0, 0))) := fun w' hg => boxed_new hg (heap_alloc_new _ _)
  go_at_call 10
  refine calls_ret (senderAsPuts (sdVal s qs) (sdVal s' (.slice p3 s'.queues.length k3)) (.slice none 0 0) s s' [] e ⟨w.heap.size + 1, 0, none⟩ ⟨w4.heap.size, 0, none⟩ lo hi (w.heap.size + 1 + 1) w3.heap.size _ (HS.out.ext (New.trans M4.out (new_alloc _ _)).block) (O3.out.read.ext (New.trans N4.out (new_alloc _ _)).block) (row_nil _ _ _) HSB.out HWB.out HRM.out HWM.out (by simp) (fun w' v lo2 hi2 hg hsr => ?_)) ?_
  · have := putsCall v s ch l (.slice (some ⟨w3.heap.size + 1, 0, none⟩) l.length (l.length + 5)) (w.heap.size + 1) w4.heap.size lo2 hi2 (w3.heap.size + 1) w'.heap.size w' hsr (boxed_cell (boxed_new hg (boxed_alloc _ BC4.out)) 0 rfl) (boxed_cell (BQ5.out w' hg) 0 rfl) (Row.of_own ((RM4.out.new ((New.trans (new_alloc _ _) hg).block _ RM4.out.lt)).own hl) (by decide))
    rw [HS'.out, HE.out] at this
    exact this
  rintro _ w6 ⟨rfl, hg6⟩
  have N6 : Hid (New w4 w6) := New.trans (new_alloc _ _) hg6
  have s6 : w4.heap.size + 1 ≤ w6.heap.size := by have h := hg6.size; simpa using h
  have M6 : Hid (New w w6) := New.trans M4.out N6.out
  have BS6 := Lib.hid (boxed_new N6.out BS4.out)
  have BC6 := Lib.hid (boxed_new N6.out BC4.out)
  have BW6 := Lib.hid (boxed_new N6.out BW4.out)
  have BQ6 := Lib.hid (BQ5.out _ hg6)
  have RM6 := Lib.hid (RM4.out.new (N6.out.block _ RM4.out.lt))
  clear hg6 x0 x1 x2 x3 x4 xf xs y0 y1 y2 y3 y4 yf ys
  have x0 : World.cell? w6 ⟨w4.heap.size, 0, none⟩ = some ((.slice (some ⟨w3.heap.size + 1, 0, none⟩) l.length (l.length + 5))) := boxed_cell BQ6.out 0 rfl; have xf : ∀ o, World.frozen? w6 ⟨w4.heap.size, o, none⟩ = false := boxed_frozen BQ6.out; have xs : w4.heap.size < (World.heap w6).size := boxed_lt BQ6.out
  go_wp2_with (fail)
  go_at_call 11
  refine calls_ret (left_any (w3.heap.size + 1) _ lo' hi' l _ RM6.out (HB.out.ext M6.out.block) hl) ?_
  rintro _ w7 ⟨rfl, hg7⟩
  have s7 : w6.heap.size ≤ w7.heap.size := hg7.size
  have M7 : Hid (New w w7) := New.trans M6.out hg7
  have BS7 := Lib.hid (boxed_new hg7 BS6.out)
  have BC7 := Lib.hid (boxed_new hg7 BC6.out)
  have BW7 := Lib.hid (boxed_new hg7 BW6.out)
  have BQ7 := Lib.hid (boxed_new hg7 BQ6.out)
  have RM7 := Lib.hid (RM6.out.new (hg7.block _ RM6.out.lt))
  have N37 : Hid (New w3 w7) := New.trans N4.out (New.trans N6.out hg7)
  clear hg7 x0 xf xs
  have x0 : World.cell? w7 ⟨w.heap.size, 0, none⟩ = some (iv s.craft) := boxed_cell BS7.out 0 rfl; have x1 : World.cell? w7 ⟨w.heap.size, 1, none⟩ = some (iv s.size) := boxed_cell BS7.out 1 rfl; have x2 : World.cell? w7 ⟨w.heap.size, 2, none⟩ = some (iv s.master) := boxed_cell BS7.out 2 rfl; have x3 : World.cell? w7 ⟨w.heap.size, 3, none⟩ = some (iv s.turn) := boxed_cell BS7.out 3 rfl; have x4 : World.cell? w7 ⟨w.heap.size, 4, none⟩ = some (qs) := boxed_cell BS7.out 4 rfl; have xf : ∀ o, World.frozen? w7 ⟨w.heap.size, o, none⟩ = false := boxed_frozen BS7.out; have xs : w.heap.size < (World.heap w7).size := boxed_lt BS7.out
  have y0 : World.cell? w7 ⟨w.heap.size + 1, 0, none⟩ = some (iv ch) := boxed_cell BC7.out 0 rfl; have yf : ∀ o, World.frozen? w7 ⟨w.heap.size + 1, o, none⟩ = false := boxed_frozen BC7.out; have ys : w.heap.size + 1 < (World.heap w7).size := boxed_lt BC7.out
  have z0 : World.cell? w7 ⟨w4.heap.size, 0, none⟩ = some ((.slice (some ⟨w3.heap.size + 1, 0, none⟩) l.length (l.length + 5))) := boxed_cell BQ7.out 0 rfl; have zf : ∀ o, World.frozen? w7 ⟨w4.heap.size, o, none⟩ = false := boxed_frozen BQ7.out; have zs : w4.heap.size < (World.heap w7).size := boxed_lt BQ7.out
  go_wp2_with (fail)
  go_at_call 9
  refine calls_ret (put_any (sdVal s qs) _ s ch l lo hi (w3.heap.size + 1) w7.heap.size _ (HS.out.ext M7.out.block) (Row.of_own (RM7.out.own hl) (by decide))) ?_
  rintro r8 w8 ⟨hg8, sv, hr8, q8, hsv, ho8⟩
  rw [HS'.out] at hsv ho8
  rw [HE.out] at hr8
  obtain ⟨p8, k8, rfl⟩ := ho8.slice
  unfold sdVal at hsv
  subst hsv
  subst hr8
  have s8 : w7.heap.size ≤ w8.heap.size := hg8.size
  have M8 : Hid (New w w8) := New.trans M7.out hg8
  have N38 : Hid (New w3 w8) := New.trans N37.out hg8
  have BW8 := Lib.hid (boxed_new hg8 BW7.out)
  have BQ8 := Lib.hid (boxed_new hg8 BQ7.out)
  have RM8 := Lib.hid (RM7.out.new (hg8.block _ RM7.out.lt))
  have O8 : Hid (SOwn w8 w7.heap.size (sdVal s' (.slice p8 s'.queues.length k8)) s') := ⟨_, rfl, ho8⟩
  clear hg8 ho8 x0 x1 x2 x3 x4 xf xs y0 yf ys z0 zf zs
  have z0 : World.cell? w8 ⟨w4.heap.size, 0, none⟩ = some ((.slice (some ⟨w3.heap.size + 1, 0, none⟩) l.length (l.length + 5))) := boxed_cell BQ8.out 0 rfl; have zf : ∀ o, World.frozen? w8 ⟨w4.heap.size, o, none⟩ = false := boxed_frozen BQ8.out; have zs : w4.heap.size < (World.heap w8).size := boxed_lt BQ8.out
  go_wp2_with (fail)
  go_at_call 12
  refine calls_ret (spoil_any _ (w3.heap.size + 1) l _ (((RM8.out.own hl).alloc _)) hl (by simp; omega)) ?_
  rintro _ w9 hg9
  have T9 : Hid (Turned (w3.heap.size + 1) (w3.heap.size + 1 + 1) (w8.alloc (.cells #[iv s'.craft, iv s'.size, iv s'.master, iv s'.turn, .slice p8 s'.queues.length k8] 24)) w9) := Turned.spoilt hg9 fun k hk => (by have h : w3.heap.size + 1 = k := (by simpa [Value.ownBlock] using hk); omega)
  have BW9 := Lib.hid (boxed_touch T9.out (by omega) (boxed_alloc _ BW8.out))
  have BX9 : Hid (w9.heap[w8.heap.size]? = some (.cells #[iv s'.craft, iv s'.size, iv s'.master, iv s'.turn, .slice p8 s'.queues.length k8] 24 (0, 0))) := boxed_touch T9.out (by omega) (heap_alloc_new _ _)
  have M9 : Hid (New w w9) := new_touch (New.trans M8.out (new_alloc _ _)) T9.out (by omega)
  have O9 : Hid (SOwn w9 w7.heap.size (sdVal s' (.slice p8 s'.queues.length k8)) s') := (O8.out.new (new_alloc _ _)).touch T9.out (by omega)
  have W9 : Hid (SR w9 (w.heap.size + 1 + 1) w3.heap.size (sdVal s' (.slice p3 s'.queues.length k3)) s') := by
    refine (O3.out.read.ext (New.trans N38.out (new_alloc _ _)).block).keep (fun k _ hk => T9.out.block k ?_ (.inl (by omega)))
    simp; omega
  clear hg9 z0 zf zs
  have x0 : World.cell? w9 ⟨w3.heap.size, 0, none⟩ = some (iv s'.craft) := boxed_cell BW9.out 0 rfl; have x1 : World.cell? w9 ⟨w3.heap.size, 1, none⟩ = some (iv s'.size) := boxed_cell BW9.out 1 rfl; have x2 : World.cell? w9 ⟨w3.heap.size, 2, none⟩ = some (iv s'.master) := boxed_cell BW9.out 2 rfl; have x3 : World.cell? w9 ⟨w3.heap.size, 3, none⟩ = some (iv s'.turn) := boxed_cell BW9.out 3 rfl; have x4 : World.cell? w9 ⟨w3.heap.size, 4, none⟩ = some (.slice p3 s'.queues.length k3) := boxed_cell BW9.out 4 rfl; have xf : ∀ o, World.frozen? w9 ⟨w3.heap.size, o, none⟩ = false := boxed_frozen BW9.out; have xs : w3.heap.size < (World.heap w9).size := boxed_lt BW9.out
  have y0 : World.cell? w9 ⟨w8.heap.size, 0, none⟩ = some (iv s'.craft) := boxed_cell BX9.out 0 rfl; have y1 : World.cell? w9 ⟨w8.heap.size, 1, none⟩ = some (iv s'.size) := boxed_cell BX9.out 1 rfl; have y2 : World.cell? w9 ⟨w8.heap.size, 2, none⟩ = some (iv s'.master) := boxed_cell BX9.out 2 rfl; have y3 : World.cell? w9 ⟨w8.heap.size, 3, none⟩ = some (iv s'.turn) := boxed_cell BX9.out 3 rfl; have y4 : World.cell? w9 ⟨w8.heap.size, 4, none⟩ = some (.slice p8 s'.queues.length k8) := boxed_cell BX9.out 4 rfl; have yf : ∀ o, World.frozen? w9 ⟨w8.heap.size, o, none⟩ = false := boxed_frozen BX9.out; have ys : w8.heap.size < (World.heap w9).size := boxed_lt BX9.out
  go_wp2_with (fail)
  go_at_call 13
  refine calls_ret (sameSender_any (sdVal s' (.slice p8 s'.queues.length k8)) (sdVal s' (.slice p3 s'.queues.length k3)) _ _ _ _ s' s' _ O9.out.read W9.out) ?_
  rintro _ w10 ⟨rfl, hg10⟩
  have M10 : Hid (New w w10) := New.trans M9.out hg10
  clear hg10
  go_wp2_with (fail)
  go_ret
  exact ⟨by simp, M10.out⟩
end Go.Proofs.Ytamcoomkoenmcaa
