/- senderAs: a walk, for each of the closures that are handed to it. -/
import Derived.Test.YtamcoomkoenmcaaW12
import Derived.Outline
set_option linter.unusedSimpArgs false
set_option linter.unusedVariables false
namespace Go.Proofs.Ytamcoomkoenmcaa
open Go.RowKit Go.Far
/-- What a call on a sender hands back. -/
def CallRes (w : World) (want : Sd) (bs : List UInt8) (e : Int) (r : Value) (w' : World) : Prop :=
  New w w' ∧ ∃ qv bb, r = .tuple #[sdVal want qv, bb, iv e] ∧ QOwn w' w.heap.size qv want.queues ∧ w'.ownsRow w.heap.size 5 1 bb bs.length (bs.map bv)
theorem QOwn.slice {w : World} {base : Nat} {v : Value} {qs : List Qu} (h : QOwn w base v qs) : ∃ p c, v = .slice p qs.length c := by
  obtain ⟨us, _, h, _⟩ := h
  exact h.slice
def rowsMay (s : Sd) : Prop := ∀ i, i < s.queues.length → ∀ k, k < (s.queues.getD i default).packs.length → ((s.queues.getD i default).packs.getD k []).length ≤ 140737488351232
set_option maxRecDepth 100000 in
set_option maxHeartbeats 2000000 in
theorem senderAsPuts (vs vw vb : Value) (s want : Sd) (bs : List UInt8) (e : Int) (p1 p2 : Addr) (lo hi lo' hi' : Nat) (w : World) (hs : SR w lo hi vs s) (hw : SR w lo' hi' vw want) (hb : Row w 0 w.heap.size vb bs.length (bs.map bv))
    (hsb : SB s) (hwb : SB want) (hsl : rowsMay s) (hwl : rowsMay want) (hbl : bs.length ≤ 140737488351232)
    (hcall : ∀ w' v lo hi, New w w' → SR w' lo hi v s → Calls Try.prog 8 #[v, .pointer (some p1), .pointer (some p2)] w' (Ret (CallRes w' want bs e))) :
    Calls Try.prog 10 #[.func (.func 8) #[] #[.pointer (some p1), .pointer (some p2)], vs, vw, vb, iv e] w (Ret fun r w' => r = .bool true ∧ New w w') := by
  obtain ⟨qs, rfl, hqs⟩ := hs
  obtain ⟨qw, rfl, hqw⟩ := hw
  have HS : Hid (SR w lo hi (sdVal s qs) s) := ⟨qs, rfl, hqs⟩
  have HW : Hid (SR w lo' hi' (sdVal want qw) want) := ⟨qw, rfl, hqw⟩
  have HB := Lib.hid hb
  have HSB := Lib.hid hsb
  have HWB := Lib.hid hwb
  have HSL := Lib.hid hsl
  have HWL := Lib.hid hwl
  have HBL := Lib.hid hbl
  have HCALL := Lib.hid hcall
  clear hqs hqw hb hsb hwb hsl hwl hbl hcall
  unfold sdVal
  go_enter Try.func10, Try.ntmps10
  go_wp2_with (fail)
  -- h
  go_at_call 23
  refine calls_ret (senderOf_any (sdVal s qs) s lo hi _ (HS.out.ext (ext_alloc (ext_alloc (Ext.refl _) _) _)) HSB.out) ?_
  rintro r3 w3 ⟨hg3, q3, hr3, ho3⟩
  obtain ⟨p3, c3, rfl⟩ := ho3.slice
  unfold sdVal at hr3
  subst hr3
  have M3 : Hid (New w w3) := New.trans (New.trans (new_alloc _ _) (new_alloc _ _)) hg3
  have s3 : w.heap.size + 1 + 1 ≤ w3.heap.size := by have h := hg3.size; simpa using h
  have BS3 : Hid (w3.heap[w.heap.size]? = some (.cells #[iv s.craft, iv s.size, iv s.master, iv s.turn, qs] 24 (0, 0))) := boxed_new hg3 (boxed_alloc _ (heap_alloc_new _ _))
  have BW3 : Hid (w3.heap[w.heap.size + 1]? = some (.cells #[iv want.craft, iv want.size, iv want.master, iv want.turn, qw] 24 (0, 0))) := boxed_new hg3 (by have h := heap_alloc_new (w.alloc (.cells #[iv s.craft, iv s.size, iv s.master, iv s.turn, qs] 24)) (.cells #[iv want.craft, iv want.size, iv want.master, iv want.turn, qw] 24); simpa using h)
  have O3 : Hid (SOwn w3 (w.heap.size + 1 + 1) (sdVal s (.slice p3 s.queues.length c3)) s) := ⟨(.slice p3 s.queues.length c3), rfl, by simpa using ho3⟩
  clear hg3 ho3
  go_wp2_with (fail)
  -- a
  go_at_call 8
  refine calls_ret (HCALL.out _ (sdVal s (.slice p3 s.queues.length c3)) (w.heap.size + 1 + 1) w3.heap.size (New.trans M3.out (new_alloc _ _)) (O3.out.read.ext (ext_alloc (Ext.refl _) _))) ?_
  rintro r5 w5 ⟨hg5, q5, b5, hr5, ho5, hb5⟩
  obtain ⟨p5, c5, rfl⟩ := ho5.slice
  unfold sdVal at hr5
  subst hr5
  have N5 : Hid (New w3 w5) := New.trans (new_alloc _ _) hg5
  have M5 : Hid (New w w5) := New.trans M3.out N5.out
  have s5 : w3.heap.size + 1 ≤ w5.heap.size := by have h := hg5.size; simpa using h
  have BS5 := Lib.hid (boxed_new N5.out BS3.out)
  have BW5 := Lib.hid (boxed_new N5.out BW3.out)
  have BH5 : Hid (w5.heap[w3.heap.size]? = some (.cells #[iv s.craft, iv s.size, iv s.master, iv s.turn, (.slice p3 s.queues.length c3)] 24 (0, 0))) := boxed_new hg5 (heap_alloc_new _ _)
  have O5 : Hid (SOwn w5 (w3.heap.size + 1) (sdVal want (.slice p5 want.queues.length c5)) want) := ⟨(.slice p5 want.queues.length c5), rfl, by simpa using ho5⟩
  have P5 : Hid (w5.ownsRow (w3.heap.size + 1) 5 1 b5 bs.length (bs.map bv)) := by show World.ownsRow _ _ _ _ _ _ _; simpa using hb5
  clear hg5 ho5 hb5
  have x0 : World.cell? w5 ⟨w3.heap.size, 0, none⟩ = some (iv s.craft) := boxed_cell BH5.out 0 rfl; have x1 : World.cell? w5 ⟨w3.heap.size, 1, none⟩ = some (iv s.size) := boxed_cell BH5.out 1 rfl; have x2 : World.cell? w5 ⟨w3.heap.size, 2, none⟩ = some (iv s.master) := boxed_cell BH5.out 2 rfl; have x3 : World.cell? w5 ⟨w3.heap.size, 3, none⟩ = some (iv s.turn) := boxed_cell BH5.out 3 rfl; have x4 : World.cell? w5 ⟨w3.heap.size, 4, none⟩ = some ((.slice p3 s.queues.length c3)) := boxed_cell BH5.out 4 rfl; have xf : ∀ o, World.frozen? w5 ⟨w3.heap.size, o, none⟩ = false := boxed_frozen BH5.out; have xs : w3.heap.size < (World.heap w5).size := boxed_lt BH5.out
  go_wp2_with (fail)
  -- b
  go_at_call 8
  refine calls_ret (HCALL.out _ (sdVal s (.slice p3 s.queues.length c3)) (w.heap.size + 1 + 1) w3.heap.size (New.trans M5.out (new_alloc _ _)) (O3.out.read.ext (fun k hk => (ext_alloc (Ext.refl w5) _ k (Nat.lt_of_lt_of_le hk N5.out.size)).trans (N5.out.block k hk)))) ?_
  rintro r7 w7 ⟨hg7, q7, b7, hr7, ho7, hb7⟩
  obtain ⟨p7, c7, rfl⟩ := ho7.slice
  unfold sdVal at hr7
  subst hr7
  have N7 : Hid (New w5 w7) := New.trans (new_alloc _ _) hg7
  have M7 : Hid (New w w7) := New.trans M5.out N7.out
  have s7 : w5.heap.size + 1 ≤ w7.heap.size := by have h := hg7.size; simpa using h
  have BS7 := Lib.hid (boxed_new N7.out BS5.out)
  have BW7 := Lib.hid (boxed_new N7.out BW5.out)
  have BH7 := Lib.hid (boxed_new N7.out BH5.out)
  have BA7 : Hid (w7.heap[w5.heap.size]? = some (.cells #[iv want.craft, iv want.size, iv want.master, iv want.turn, (.slice p5 want.queues.length c5)] 24 (0, 0))) := boxed_new hg7 (heap_alloc_new _ _)
  have O7 : Hid (SOwn w7 (w5.heap.size + 1) (sdVal want (.slice p7 want.queues.length c7)) want) := ⟨(.slice p7 want.queues.length c7), rfl, by simpa using ho7⟩
  have P7 : Hid (w7.ownsRow (w5.heap.size + 1) 5 1 b7 bs.length (bs.map bv)) := by show World.ownsRow _ _ _ _ _ _ _; simpa using hb7
  clear hg7 ho7 hb7 x0 x1 x2 x3 x4 xs
  have x0 : World.cell? w7 ⟨w5.heap.size, 0, none⟩ = some (iv want.craft) := boxed_cell BA7.out 0 rfl; have x1 : World.cell? w7 ⟨w5.heap.size, 1, none⟩ = some (iv want.size) := boxed_cell BA7.out 1 rfl; have x2 : World.cell? w7 ⟨w5.heap.size, 2, none⟩ = some (iv want.master) := boxed_cell BA7.out 2 rfl; have x3 : World.cell? w7 ⟨w5.heap.size, 3, none⟩ = some (iv want.turn) := boxed_cell BA7.out 3 rfl; have x4 : World.cell? w7 ⟨w5.heap.size, 4, none⟩ = some ((.slice p5 want.queues.length c5)) := boxed_cell BA7.out 4 rfl; have xf : ∀ o, World.frozen? w7 ⟨w5.heap.size, o, none⟩ = false := boxed_frozen BA7.out; have xs : w5.heap.size < (World.heap w7).size := boxed_lt BA7.out
  have y0 : World.cell? w7 ⟨w.heap.size + 1, 0, none⟩ = some (iv want.craft) := boxed_cell BW7.out 0 rfl; have y1 : World.cell? w7 ⟨w.heap.size + 1, 1, none⟩ = some (iv want.size) := boxed_cell BW7.out 1 rfl; have y2 : World.cell? w7 ⟨w.heap.size + 1, 2, none⟩ = some (iv want.master) := boxed_cell BW7.out 2 rfl; have y3 : World.cell? w7 ⟨w.heap.size + 1, 3, none⟩ = some (iv want.turn) := boxed_cell BW7.out 3 rfl; have y4 : World.cell? w7 ⟨w.heap.size + 1, 4, none⟩ = some (qw) := boxed_cell BW7.out 4 rfl; have yf : ∀ o, World.frozen? w7 ⟨w.heap.size + 1, o, none⟩ = false := boxed_frozen BW7.out; have ys : w.heap.size + 1 < (World.heap w7).size := boxed_lt BW7.out
  go_wp2_with (fail)
  -- sameSender(a, want)
  go_at_call 13
  refine calls_ret (sameSender_any (sdVal want (.slice p5 want.queues.length c5)) (sdVal want qw) (w3.heap.size + 1) w5.heap.size lo' hi' want want _ (O5.out.read.ext (fun k hk => (ext_alloc (Ext.refl w7) _ k (Nat.lt_of_lt_of_le hk N7.out.size)).trans (N7.out.block k hk))) (HW.out.ext (New.trans M7.out (new_alloc _ _)).block)) ?_
  rintro _ w9 ⟨rfl, hg9⟩
  have N9 : Hid (New w7 w9) := New.trans (new_alloc _ _) hg9
  have M9 : Hid (New w w9) := New.trans M7.out N9.out
  have s9 : w7.heap.size + 1 ≤ w9.heap.size := by have h := hg9.size; simpa using h
  have BS9 := Lib.hid (boxed_new N9.out BS7.out)
  have BW9 := Lib.hid (boxed_new N9.out BW7.out)
  have BH9 := Lib.hid (boxed_new N9.out BH7.out)
  have BA9 := Lib.hid (boxed_new N9.out BA7.out)
  have BB9 : Hid (w9.heap[w7.heap.size]? = some (.cells #[iv want.craft, iv want.size, iv want.master, iv want.turn, (.slice p7 want.queues.length c7)] 24 (0, 0))) := boxed_new hg9 (heap_alloc_new _ _)
  clear hg9 x0 x1 x2 x3 x4 xs y0 y1 y2 y3 y4 ys
  have x0 : World.cell? w9 ⟨w7.heap.size, 0, none⟩ = some (iv want.craft) := boxed_cell BB9.out 0 rfl; have x1 : World.cell? w9 ⟨w7.heap.size, 1, none⟩ = some (iv want.size) := boxed_cell BB9.out 1 rfl; have x2 : World.cell? w9 ⟨w7.heap.size, 2, none⟩ = some (iv want.master) := boxed_cell BB9.out 2 rfl; have x3 : World.cell? w9 ⟨w7.heap.size, 3, none⟩ = some (iv want.turn) := boxed_cell BB9.out 3 rfl; have x4 : World.cell? w9 ⟨w7.heap.size, 4, none⟩ = some ((.slice p7 want.queues.length c7)) := boxed_cell BB9.out 4 rfl; have xf : ∀ o, World.frozen? w9 ⟨w7.heap.size, o, none⟩ = false := boxed_frozen BB9.out; have xs : w7.heap.size < (World.heap w9).size := boxed_lt BB9.out
  have y0 : World.cell? w9 ⟨w.heap.size + 1, 0, none⟩ = some (iv want.craft) := boxed_cell BW9.out 0 rfl; have y1 : World.cell? w9 ⟨w.heap.size + 1, 1, none⟩ = some (iv want.size) := boxed_cell BW9.out 1 rfl; have y2 : World.cell? w9 ⟨w.heap.size + 1, 2, none⟩ = some (iv want.master) := boxed_cell BW9.out 2 rfl; have y3 : World.cell? w9 ⟨w.heap.size + 1, 3, none⟩ = some (iv want.turn) := boxed_cell BW9.out 3 rfl; have y4 : World.cell? w9 ⟨w.heap.size + 1, 4, none⟩ = some (qw) := boxed_cell BW9.out 4 rfl; have yf : ∀ o, World.frozen? w9 ⟨w.heap.size + 1, o, none⟩ = false := boxed_frozen BW9.out; have ys : w.heap.size + 1 < (World.heap w9).size := boxed_lt BW9.out
  go_wp2_with (fail)
  -- sameSender(b, want)
  go_at_call 13
  refine calls_ret (sameSender_any (sdVal want (.slice p7 want.queues.length c7)) (sdVal want qw) (w5.heap.size + 1) w7.heap.size lo' hi' want want _ (O7.out.read.ext N9.out.block) (HW.out.ext M9.out.block)) ?_
  rintro _ w10 ⟨rfl, hg10⟩
  have N10 := Lib.hid hg10
  have BS10 := Lib.hid (boxed_new hg10 BS9.out)
  have BW10 := Lib.hid (boxed_new hg10 BW9.out)
  have BH10 := Lib.hid (boxed_new hg10 BH9.out)
  have BA10 := Lib.hid (boxed_new hg10 BA9.out)
  have BB10 := Lib.hid (boxed_new hg10 BB9.out)
  have s10 : w9.heap.size ≤ w10.heap.size := hg10.size
  have M10 : Hid (New w w10) := New.trans M9.out hg10
  clear hg10 x0 x1 x2 x3 x4 xs y0 y1 y2 y3 y4 ys
  have x0 : World.cell? w10 ⟨w3.heap.size, 0, none⟩ = some (iv s.craft) := boxed_cell BH10.out 0 rfl; have x1 : World.cell? w10 ⟨w3.heap.size, 1, none⟩ = some (iv s.size) := boxed_cell BH10.out 1 rfl; have x2 : World.cell? w10 ⟨w3.heap.size, 2, none⟩ = some (iv s.master) := boxed_cell BH10.out 2 rfl; have x3 : World.cell? w10 ⟨w3.heap.size, 3, none⟩ = some (iv s.turn) := boxed_cell BH10.out 3 rfl; have x4 : World.cell? w10 ⟨w3.heap.size, 4, none⟩ = some ((.slice p3 s.queues.length c3)) := boxed_cell BH10.out 4 rfl; have xf : ∀ o, World.frozen? w10 ⟨w3.heap.size, o, none⟩ = false := boxed_frozen BH10.out; have xs : w3.heap.size < (World.heap w10).size := boxed_lt BH10.out
  have y0 : World.cell? w10 ⟨w.heap.size, 0, none⟩ = some (iv s.craft) := boxed_cell BS10.out 0 rfl; have y1 : World.cell? w10 ⟨w.heap.size, 1, none⟩ = some (iv s.size) := boxed_cell BS10.out 1 rfl; have y2 : World.cell? w10 ⟨w.heap.size, 2, none⟩ = some (iv s.master) := boxed_cell BS10.out 2 rfl; have y3 : World.cell? w10 ⟨w.heap.size, 3, none⟩ = some (iv s.turn) := boxed_cell BS10.out 3 rfl; have y4 : World.cell? w10 ⟨w.heap.size, 4, none⟩ = some (qs) := boxed_cell BS10.out 4 rfl; have yf : ∀ o, World.frozen? w10 ⟨w.heap.size, o, none⟩ = false := boxed_frozen BS10.out; have ys : w.heap.size < (World.heap w10).size := boxed_lt BS10.out
  go_wp2_with (fail)
  -- sameSender(h, s)
  go_at_call 13
  refine calls_ret (sameSender_any (sdVal s (.slice p3 s.queues.length c3)) (sdVal s qs) (w.heap.size + 1 + 1) w3.heap.size lo hi s s _ (O3.out.read.ext (New.trans N5.out (New.trans N7.out (New.trans N9.out N10.out))).block) (HS.out.ext M10.out.block)) ?_
  rintro _ w11 ⟨rfl, hg11⟩
  have N11 := Lib.hid hg11
  have BW11 := Lib.hid (boxed_new hg11 BW10.out)
  have BH11 := Lib.hid (boxed_new hg11 BH10.out)
  have BA11 := Lib.hid (boxed_new hg11 BA10.out)
  have BB11 := Lib.hid (boxed_new hg11 BB10.out)
  have s11 : w10.heap.size ≤ w11.heap.size := hg11.size
  have M11 : Hid (New w w11) := New.trans M10.out hg11
  have N711 : Hid (New w7 w11) := New.trans N9.out (New.trans N10.out hg11)
  have N511 : Hid (New w5 w11) := New.trans N7.out N711.out
  have P11 : Hid (w11.ownsRow (w3.heap.size + 1) 5 1 b5 bs.length (bs.map bv)) := P5.out.new N511.out
  have L11 : Hid (SLive w11 (w3.heap.size + 1) w5.heap.size (sdVal want (.slice p5 want.queues.length c5)) want) := (SLive.of O5.out).new N511.out
  have K11 : Hid (SLive w11 (w.heap.size + 1 + 1) w3.heap.size (sdVal s (.slice p3 s.queues.length c3)) s) := (SLive.of O3.out).new (New.trans N5.out N511.out)
  have O11 : Hid (SOwn w11 (w5.heap.size + 1) (sdVal want (.slice p7 want.queues.length c7)) want) := O7.out.new N711.out
  have X11 : Hid (∀ g, b5.ownBlock = some g → w3.heap.size + 1 ≤ g ∧ g < w5.heap.size) := fun g hg => ⟨(P5.out.elem hg).1, (P5.out.elem hg).2.1⟩
  have B11 : Hid (BOwn w11 (w3.heap.size + 1) w5.heap.size b5 bs.length) := ⟨bs, rfl, P11.out, fun g hg => (X11.out g hg).2⟩
  have hb5n : Hid (w3.heap.size + 1 ≤ w11.heap.size) := Nat.le_trans s5 N511.out.size
  clear hg11 x0 x1 x2 x3 x4 xs y0 y1 y2 y3 y4 ys
  go_wp2_with (fail)
  -- twice
  go_at_call 29
  refine calls_ret (twice_any b5 b7 vb (w3.heap.size + 1) (w5.heap.size + 1) w7.heap.size 0 w.heap.size bs bs bs _ P11.out ((Row.of_own P7.out (by decide)).ext N711.out.block) (HB.out.ext M11.out.block) (fun g hg => by have := X11.out g hg; omega) (fun g hg => by have := X11.out g hg; omega) HBL.out hb5n.out) ?_
  rintro _ w12 ⟨rfl, hg12⟩
  have T12 : Hid (Turned (w3.heap.size + 1) w5.heap.size w11 w12) := Turned.spoilt hg12 X11.out
  have BW12 := Lib.hid (boxed_touch T12.out (by omega) BW11.out)
  have BH12 := Lib.hid (boxed_touch T12.out (by omega) BH11.out)
  have BA12 := Lib.hid (boxed_touch T12.out (by omega) BA11.out)
  have BB12 := Lib.hid (boxed_touch T12.out (by omega) BB11.out)
  have L12 := Lib.hid (L11.out.spoilt B11.out hg12)
  have K12 := Lib.hid (K11.out.spoilt B11.out hg12)
  have O12 := Lib.hid (O11.out.touch T12.out (by omega))
  have s12 : w11.heap.size ≤ w12.heap.size := T12.out.size
  have M12 : Hid (New w w12) := new_touch M11.out T12.out (by omega)
  clear hg12
  have y0 : World.cell? w12 ⟨w.heap.size + 1, 0, none⟩ = some (iv want.craft) := boxed_cell BW12.out 0 rfl; have y1 : World.cell? w12 ⟨w.heap.size + 1, 1, none⟩ = some (iv want.size) := boxed_cell BW12.out 1 rfl; have y2 : World.cell? w12 ⟨w.heap.size + 1, 2, none⟩ = some (iv want.master) := boxed_cell BW12.out 2 rfl; have y3 : World.cell? w12 ⟨w.heap.size + 1, 3, none⟩ = some (iv want.turn) := boxed_cell BW12.out 3 rfl; have y4 : World.cell? w12 ⟨w.heap.size + 1, 4, none⟩ = some (qw) := boxed_cell BW12.out 4 rfl; have yf : ∀ o, World.frozen? w12 ⟨w.heap.size + 1, o, none⟩ = false := boxed_frozen BW12.out; have ys : w.heap.size + 1 < (World.heap w12).size := boxed_lt BW12.out
  go_wp2_with (fail)
  -- keep
  go_at_call 23
  refine calls_ret (senderOf_any (sdVal want qw) want lo' hi' _ (HW.out.ext M12.out.block) HWB.out) ?_
  rintro r13 w13 ⟨hg13, q13, hr13, ho13⟩
  obtain ⟨p13, c13, rfl⟩ := ho13.slice
  unfold sdVal at hr13
  subst hr13
  have s13 : w12.heap.size ≤ w13.heap.size := hg13.size
  have M13 : Hid (New w w13) := New.trans M12.out hg13
  have BH13 := Lib.hid (boxed_new hg13 BH12.out)
  have BA13 := Lib.hid (boxed_new hg13 BA12.out)
  have BB13 := Lib.hid (boxed_new hg13 BB12.out)
  have L13 := Lib.hid (L12.out.new hg13)
  have K13 := Lib.hid (K12.out.new hg13)
  have O13 := Lib.hid (O12.out.new hg13)
  have R13 : Hid (SOwn w13 w12.heap.size (sdVal want (.slice p13 want.queues.length c13)) want) := ⟨_, rfl, ho13⟩
  clear hg13 ho13 y0 y1 y2 y3 y4 ys
  have x0 : World.cell? w13 ⟨w5.heap.size, 0, none⟩ = some (iv want.craft) := boxed_cell BA13.out 0 rfl; have x1 : World.cell? w13 ⟨w5.heap.size, 1, none⟩ = some (iv want.size) := boxed_cell BA13.out 1 rfl; have x2 : World.cell? w13 ⟨w5.heap.size, 2, none⟩ = some (iv want.master) := boxed_cell BA13.out 2 rfl; have x3 : World.cell? w13 ⟨w5.heap.size, 3, none⟩ = some (iv want.turn) := boxed_cell BA13.out 3 rfl; have x4 : World.cell? w13 ⟨w5.heap.size, 4, none⟩ = some ((.slice p5 want.queues.length c5)) := boxed_cell BA13.out 4 rfl; have xf : ∀ o, World.frozen? w13 ⟨w5.heap.size, o, none⟩ = false := boxed_frozen BA13.out; have xs : w5.heap.size < (World.heap w13).size := boxed_lt BA13.out
  go_wp2_with (fail)
  -- overSender(a)
  go_at_call 30
  refine calls_ret (overSender_any (sdVal want (.slice p5 want.queues.length c5)) want (w3.heap.size + 1) w5.heap.size _ (L13.out.new (new_alloc _ _)) (Nat.le_trans (by omega) (new_alloc w13 _).size) HWL.out) ?_
  rintro _ w15 hT15
  have T15 := Lib.hid hT15
  have s15 : w13.heap.size + 1 ≤ w15.heap.size := by have h := hT15.size; simpa using h
  have M15 : Hid (New w w15) := new_touch (New.trans M13.out (new_alloc _ _)) hT15 (by omega)
  have BH15 := Lib.hid (boxed_touch hT15 (by omega) (boxed_alloc _ BH13.out))
  have BB15 := Lib.hid (boxed_touch hT15 (by omega) (boxed_alloc _ BB13.out))
  have BK15 : Hid (w15.heap[w13.heap.size]? = some (.cells #[iv want.craft, iv want.size, iv want.master, iv want.turn, (.slice p13 want.queues.length c13)] 24 (0, 0))) := boxed_touch hT15 (by omega) (heap_alloc_new _ _)
  have K15 := Lib.hid ((K13.out.new (new_alloc _ _)).touch hT15 (by omega))
  have O15 := Lib.hid ((O13.out.new (new_alloc _ _)).touch hT15 (by omega))
  have R15 := Lib.hid ((R13.out.new (new_alloc _ _)).touch hT15 (by omega))
  clear hT15 x0 x1 x2 x3 x4 xs
  have x0 : World.cell? w15 ⟨w3.heap.size, 0, none⟩ = some (iv s.craft) := boxed_cell BH15.out 0 rfl; have x1 : World.cell? w15 ⟨w3.heap.size, 1, none⟩ = some (iv s.size) := boxed_cell BH15.out 1 rfl; have x2 : World.cell? w15 ⟨w3.heap.size, 2, none⟩ = some (iv s.master) := boxed_cell BH15.out 2 rfl; have x3 : World.cell? w15 ⟨w3.heap.size, 3, none⟩ = some (iv s.turn) := boxed_cell BH15.out 3 rfl; have x4 : World.cell? w15 ⟨w3.heap.size, 4, none⟩ = some ((.slice p3 s.queues.length c3)) := boxed_cell BH15.out 4 rfl; have xf : ∀ o, World.frozen? w15 ⟨w3.heap.size, o, none⟩ = false := boxed_frozen BH15.out; have xs : w3.heap.size < (World.heap w15).size := boxed_lt BH15.out
  go_wp2_with (fail)
  -- overSender(h)
  go_at_call 30
  refine calls_ret (overSender_any (sdVal s (.slice p3 s.queues.length c3)) s (w.heap.size + 1 + 1) w3.heap.size _ K15.out (by omega) HSL.out) ?_
  rintro _ w16 hT16
  have s16 : w15.heap.size ≤ w16.heap.size := hT16.size
  have M16 : Hid (New w w16) := new_touch M15.out hT16 (by omega)
  have BB16 := Lib.hid (boxed_touch hT16 (by omega) BB15.out)
  have BK16 := Lib.hid (boxed_touch hT16 (by omega) BK15.out)
  have O16 := Lib.hid (O15.out.touch hT16 (by omega))
  have R16 := Lib.hid (R15.out.touch hT16 (by omega))
  clear hT16 x0 x1 x2 x3 x4 xs
  have x0 : World.cell? w16 ⟨w7.heap.size, 0, none⟩ = some (iv want.craft) := boxed_cell BB16.out 0 rfl; have x1 : World.cell? w16 ⟨w7.heap.size, 1, none⟩ = some (iv want.size) := boxed_cell BB16.out 1 rfl; have x2 : World.cell? w16 ⟨w7.heap.size, 2, none⟩ = some (iv want.master) := boxed_cell BB16.out 2 rfl; have x3 : World.cell? w16 ⟨w7.heap.size, 3, none⟩ = some (iv want.turn) := boxed_cell BB16.out 3 rfl; have x4 : World.cell? w16 ⟨w7.heap.size, 4, none⟩ = some ((.slice p7 want.queues.length c7)) := boxed_cell BB16.out 4 rfl; have xf : ∀ o, World.frozen? w16 ⟨w7.heap.size, o, none⟩ = false := boxed_frozen BB16.out; have xs : w7.heap.size < (World.heap w16).size := boxed_lt BB16.out
  have y0 : World.cell? w16 ⟨w13.heap.size, 0, none⟩ = some (iv want.craft) := boxed_cell BK16.out 0 rfl; have y1 : World.cell? w16 ⟨w13.heap.size, 1, none⟩ = some (iv want.size) := boxed_cell BK16.out 1 rfl; have y2 : World.cell? w16 ⟨w13.heap.size, 2, none⟩ = some (iv want.master) := boxed_cell BK16.out 2 rfl; have y3 : World.cell? w16 ⟨w13.heap.size, 3, none⟩ = some (iv want.turn) := boxed_cell BK16.out 3 rfl; have y4 : World.cell? w16 ⟨w13.heap.size, 4, none⟩ = some ((.slice p13 want.queues.length c13)) := boxed_cell BK16.out 4 rfl; have yf : ∀ o, World.frozen? w16 ⟨w13.heap.size, o, none⟩ = false := boxed_frozen BK16.out; have ys : w13.heap.size < (World.heap w16).size := boxed_lt BK16.out
  go_wp2_with (fail)
  -- sameSender(b, keep)
  go_at_call 13
  refine calls_ret (sameSender_any (sdVal want (.slice p7 want.queues.length c7)) (sdVal want (.slice p13 want.queues.length c13)) _ _ _ _ want want _ O16.out.read R16.out.read) ?_
  rintro _ w17 ⟨rfl, hg17⟩
  have M17 : Hid (New w w17) := New.trans M16.out hg17
  clear hg17
  go_wp2_with (fail)
  go_ret
  exact ⟨by simp, M17.out⟩
end Go.Proofs.Ytamcoomkoenmcaa
