/- spoil, twice: walks. -/
import Derived.Test.YtamcoomkoenmcaaSame
import Derived.Laws.BitsAllLaws
set_option linter.unusedSimpArgs false
set_option linter.unusedVariables false
namespace Go.Proofs.Ytamcoomkoenmcaa
open Go.RowKit Go.Far
/-- Block g keeps its size and kind; each of its cells is as it was, or a byte. -/
def Bytey (w w' : World) (g : Nat) : Prop := ∀ cur : Array Value, w.heap[g]? = some (.cells cur 5 (0, 0)) → ∃ cur' : Array Value, w'.heap[g]? = some (.cells cur' 5 (0, 0)) ∧ cur'.size = cur.size ∧ ∀ (j : Nat) (c : Value), cur'[j]? = some c → cur[j]? = some c ∨ ∃ x : UInt8, c = bv x
theorem Bytey.refl (w : World) (g : Nat) : Bytey w w g := fun cur h => ⟨cur, h, rfl, fun _ _ h => .inl h⟩
theorem Bytey.trans {a b c : World} {g : Nat} (h : Bytey a b g) (k : Bytey b c g) : Bytey a c g := fun cur hc => by
  obtain ⟨cur1, h1, h2, h3⟩ := h cur hc
  obtain ⟨cur2, k1, k2, k3⟩ := k cur1 h1
  refine ⟨cur2, k1, by omega, fun j c hj => ?_⟩
  rcases k3 j c hj with h | h
  · exact h3 j c h
  · exact .inr h
theorem Bytey.same {w w' : World} {g : Nat} (h : w'.heap[g]? = w.heap[g]?) : Bytey w w' g := fun cur hc => ⟨cur, by rw [h]; exact hc, rfl, fun _ _ h => .inl h⟩
theorem Bytey.set {w : World} {g : Nat} (i : Nat) (x : UInt8) : Bytey w (w.setCell ⟨g, i, none⟩ (bv x)) g := fun cur hc => by
  refine ⟨cur.setIfInBounds i (bv x), heap_setCell_same w g i cur _ _ hc, by simp, fun j c hj => ?_⟩
  rw [Array.getElem?_setIfInBounds] at hj
  split at hj
  · split at hj
    · injection hj with hj; exact .inr ⟨x, hj.symm⟩
    · cases hj
  · exact .inl hj
section
variable {P : Program} {w : World} {ops : Array Oper} {rest : List Oper} {o : Oper} {a : Act} {Q : Exit → Act → World → Prop}
theorem append_bytey {t ty : TypeId} {i : TypeInfo} {z : Value} (ht : P.underlying t = some (.slice 5)) (hi : P.info? 5 = some i) (hz : i.zero = some z) (hsz : i.size = 1) (hby : i.bytes = 1)
    {base : Nat} {v : Value} {n : Nat} {xs : List Value} (hown : w.ownsRow base 5 1 v n xs) {ad : Addr} {m c : Nat} {l : List UInt8} (hl : l.length = m) (hnews : ∀ j u, (l.map bv)[j]? = some u → w.cell? (ad.add j) = some u)
    (hm : 0 < m) (h63 : n + m ≤ 140737488355328) {v' : Value} {w' : World} (hr : (Builtin.append_ #[t, t] ty #[v, .slice (some ad) m c]).run P w = .ok v' w') : ∀ g, v.ownBlock = some g → Bytey w w' g := by
  intro g hg
  have h1 : ∀ u ∈ l.map bv, u.oneCell' = true := by intro y hy; obtain ⟨x, _, rfl⟩ := List.mem_map.1 hy; rfl
  rcases hown.2 with ⟨rfl, _⟩ | ⟨g', cap, cur, rfl, hb, hgg, hnc, hcm, hcs, htake⟩
  · simp [Value.ownBlock] at hg
  · have : g' = g := by simpa [Value.ownBlock] using hg
    subst this
    by_cases hroom : n + m ≤ cap
    · have hr' := run_append_room (P := P) w t ty 5 i ht hi g' n cap cur hgg ad m c (l.map bv) (by rw [hsz]; simp [hl]) hnews h1 hroom (by rw [hsz]; simp [hl]; omega)
      rw [hr'] at hr
      injection hr with _ hw
      subst hw
      intro cur0 hc0
      rw [hgg] at hc0
      injection hc0 with hc0
      injection hc0 with hc0 _ _
      subst hc0
      refine ⟨_, setRow_heap w g' cur _ 5 _ hgg, ?_, fun j c hj => ?_⟩
      · rw [hsz]; simp [hl]; omega
      · rw [hsz, List.getElem?_toArray, List.append_assoc] at hj
        rw [Nat.mul_one] at hj
        rcases Nat.lt_or_ge j n with h | h
        · rw [List.getElem?_append_left (by simp; omega), List.getElem?_take, if_pos h] at hj
          left; simpa using hj
        · rw [List.getElem?_append_right (by simp; omega)] at hj
          have e : (List.take n cur.toList).length = n := by simp; omega
          rw [e] at hj
          rcases Nat.lt_or_ge (j - n) m with h2 | h2
          · rw [List.getElem?_append_left (by simpa [hl] using h2)] at hj
            right
            rw [List.getElem?_map] at hj
            cases hx : l[j - n]? with
            | none => rw [hx] at hj; cases hj
            | some x => rw [hx] at hj; injection hj with hj; exact ⟨x, hj.symm⟩
          · rw [List.getElem?_append_right (by simpa [hl] using h2), List.getElem?_drop] at hj
            left
            simp only [List.length_map, hl] at hj
            rw [show n + m + (j - n - m) = j by omega] at hj
            simpa using hj
    · have hr' := run_append_grow (P := P) w t ty 5 i z ht hi hz ⟨g', 0, none⟩ n cap xs (by rw [hsz]; exact hown.1) (hown.cells (g := g') rfl) ad m c (l.map bv) (by rw [hsz]; simp [hl]) hnews (by omega) (by omega) (growslice_fits (by omega) (by rw [hby]; omega))
      rw [hr'] at hr
      injection hr with _ hw
      subst hw
      exact Bytey.same (Below.heap_alloc w.drew _ g' ((Array.getElem?_eq_some_iff.1 hgg).1))
theorem wl_append_sp {t : TypeId} {z : Value} (T : ElemOk P t 5 1 1 z) (hgd : o.guard = none) (s x : Operand)
    (ho : o.op = .call { callee := .builtin .append, args := #[s, x], argTypes := #[t, t] }) (base : Nat) {v : Value} (hs : a.eval s = v) {ad : Addr} {m c : Nat} (hx : a.eval x = .slice (some ad) m c)
    {n : Nat} {xs : List Value} {l : List UInt8} (hown : w.ownsRow base 5 1 v n xs) (hl : l.length = m) (hnews : ∀ j u, (l.map bv)[j]? = some u → w.cell? (ad.add j) = some u) (hm : 0 < m)
    (hbytes : n + m ≤ 140737488355328) (hbase : base ≤ w.heap.size)
    (h : ∀ g c' w', w'.ownsRow base 5 1 (.slice (some ⟨g, 0, none⟩) (n + m) c') (n + m) (xs ++ l.map bv) → w.grownBy w' v.ownBlock → (v.ownBlock = some g ∨ g = w.heap.size) → (∀ g, v.ownBlock = some g → Bytey w w' g) → wpList P ops Q rest (a.put o.dst (.slice (some ⟨g, 0, none⟩) (n + m) c')) w') : wpList P ops Q (o :: rest) a w := by
  obtain ⟨ht, ⟨i, hi', hz, hsz, hby⟩, hzs, hpos⟩ := T
  have h1 : ∀ u ∈ l.map bv, u.oneCell' = true := by intro y hy; obtain ⟨x, _, rfl⟩ := List.mem_map.1 hy; rfl
  obtain ⟨g, cap, w', hr, h2, h3, h4, h5⟩ := run_append_lies (P := P) w t o.type base 5 i z 1 1 ht hi' hz hsz hby hzs hpos v n xs hown ad m c (l.map bv) (by simp [hl]) hnews h1 hm (by simp only [maxLen]; omega) (by omega) hbase w.heap.size rfl
  have hb := append_bytey ht hi' hz hsz hby hown hl hnews hm hbytes hr
  refine wpList_plain hgd fun K hK => ?_
  unfold Oper.wp execOp
  simp only [ho, resolve, invoke, builtin, Sem.run_bind, Sem.run_pure, Result.andThen_ok, List.map_toArray, List.map_cons, List.map_nil, hs, hx, hr]
  exact hK _ _ (h g cap w' h2 h3 h4 hb)
end
theorem xor_bv (x : UInt8) : ∃ y : UInt8, bits .xor .u8 (x.toNat : Int) 90 = (y.toNat : Int) := by
  have hx : x.toNat < 256 := UInt8.toNat_lt x
  have h := u8_xor_nat x.toNat 90 hx (by decide)
  have hlt : x.toNat ^^^ 90 < 2 ^ 8 := Nat.xor_lt_two_pow (by omega) (by decide)
  refine ⟨UInt8.ofNat (x.toNat ^^^ 90), ?_⟩
  rw [show (90 : Int) = ((90 : Nat) : Int) by decide, h, UInt8.toNat_ofNat']
  rw [Nat.mod_eq_of_lt hlt]
theorem grownBy_trans {a b c : World} {r : Option Nat} (h : a.grownBy b r) (k : b.grownBy c r) : a.grownBy c r :=
  ⟨k.os.trans h.os, k.tape.trans h.tape, k.output.trans h.output, Nat.le_trans h.size k.size, fun i hi hr => (k.block i (Nat.lt_of_lt_of_le hi h.size) hr).trans (h.block i hi hr)⟩
theorem grownBy_refl (w : World) (r : Option Nat) : w.grownBy w r := ⟨rfl, rfl, rfl, Nat.le_refl _, fun _ _ _ => rfl⟩
theorem grownBy_alloc (w : World) (o : Obj) (r : Option Nat) : w.grownBy (w.alloc o) r := ⟨rfl, rfl, rfl, by simp, fun k hk _ => Below.heap_alloc w o k hk⟩
/-- What spoil leaves. -/
def Spoilt (v : Value) (w w' : World) : Prop := w.grownBy w' v.ownBlock ∧ ∀ g, v.ownBlock = some g → Bytey w w' g
theorem Spoilt.trans {v : Value} {a b c : World} (h : Spoilt v a b) (k : Spoilt v b c) : Spoilt v a c := ⟨grownBy_trans h.1 k.1, fun g hg => (h.2 g hg).trans (k.2 g hg)⟩
theorem Spoilt.refl (v : Value) (w : World) : Spoilt v w w := ⟨grownBy_refl _ _, fun g _ => Bytey.refl _ _⟩
theorem spoil_step {base n g c k : Nat} {w : World} {l : List UInt8} (h : w.ownsRow base 5 1 (.slice (some ⟨g, 0, none⟩) n c) n (l.map bv)) (x : UInt8) : (w.setCell ⟨g, k, none⟩ (bv x)).ownsRow base 5 1 (.slice (some ⟨g, 0, none⟩) n c) n ((l.set k x).map bv) ∧ Spoilt (.slice (some ⟨g, 0, none⟩) n c) w (w.setCell ⟨g, k, none⟩ (bv x)) := by
  have hs := h.stored k (bv x)
  refine ⟨by rw [List.map_set]; exact hs.1, hs.2, fun g' hg' => ?_⟩
  have : g = g' := by simpa [Value.ownBlock] using hg'
  subst this
  exact Bytey.set k x
theorem spoil_end {v : Value} {w wr w6 : World} {o : Obj} {g6 : Nat} (h : Spoilt v w wr) (hv : ∀ g, v.ownBlock = some g → g < w.heap.size) (hgr : (wr.alloc o).grownBy w6 v.ownBlock) (hor : v.ownBlock = some g6 ∨ g6 = (wr.alloc o).heap.size)
    (hby : ∀ g, v.ownBlock = some g → Bytey (wr.alloc o) w6 g) : Spoilt v w (w6.setCell ⟨g6, 0, none⟩ (bv 90)) := by
  have ha : Spoilt v wr (wr.alloc o) := ⟨grownBy_alloc _ _ _, fun g hg => Bytey.same (Below.heap_alloc _ _ _ (Nat.lt_of_lt_of_le (hv g hg) h.1.size))⟩
  have h6 : Spoilt v w w6 := (h.trans ha).trans ⟨hgr, hby⟩
  rcases hor with hg | hg
  · refine h6.trans ⟨⟨rfl, rfl, rfl, by simp [World.setCell], fun k hk hne => Below.heap_setCell _ _ _ _ (by rintro rfl; exact hne hg.symm)⟩, fun g hgg => ?_⟩
    rw [hg] at hgg
    injection hgg with hgg
    subst hgg
    exact Bytey.set 0 90
  · have hgw : w.heap.size ≤ g6 := by have := h.1.size; rw [hg]; simp; omega
    refine ⟨⟨h6.1.os, h6.1.tape, h6.1.output, by have := h6.1.size; simpa [World.setCell] using this, fun k hk hne => ?_⟩, fun g hgg => ?_⟩
    · rw [Below.heap_setCell _ _ _ _ (by dsimp only; omega)]; exact h6.1.block k hk hne
    · refine (h6.2 g hgg).trans (Bytey.same (Below.heap_setCell _ _ _ _ ?_))
      have := hv g hgg; dsimp only; omega
set_option maxRecDepth 100000 in
set_option maxHeartbeats 1000000 in
theorem spoil_any (v : Value) (base : Nat) (l : List UInt8) (w : World) (hown : w.ownsRow base 5 1 v l.length (l.map bv)) (hlen : l.length ≤ 140737488351232) (hbase : base ≤ w.heap.size) :
    Calls Try.prog 12 #[v] w (Ret fun _ w' => Spoilt v w w') := by
  have T := Lib.hid (ElemOk.mk (z := .int .u8 0) Try.underlying25 (by kernel_rfl) rfl (by decide) : ElemOk Try.prog 25 5 1 1 (.int .u8 0))
  obtain ⟨n, hn⟩ : ∃ n, l.length = n := ⟨_, rfl⟩
  rw [hn] at hown hlen
  have HOWN := Lib.hid hown
  have HN := Lib.hid hn
  obtain ⟨p, c, rfl⟩ := hown.slice
  clear hown hn
  go_enter Try.func12, Try.ntmps12
  go_wp2_with (fail)
  go_loopw [2] (fun x wr => ∃ k : Nat, k ≤ n ∧ x = .int .i64 (k : Int) ∧ Hid (Spoilt (.slice p n c) w wr) ∧ Hid (∃ l' : List UInt8, l'.length = n ∧ wr.ownsRow base 5 1 (.slice p n c) n (l'.map bv))) (fun x _ => n - (intOf x).toNat)
  case atStart => exact ⟨0, by omega, rfl, Spoilt.refl _ _, ⟨l, HN.out, HOWN.out⟩⟩
  case round =>
    rename World => wr
    obtain ⟨k, hk, rfl, hsp, hl'⟩ := hrel
    obtain ⟨l', hl1, hl2⟩ := hl'.out
    by_cases hkn : k < n
    · obtain ⟨g, c', e⟩ := ownsRow_form hl2 (by omega)
      injection e with e1 e2 e3
      subst e1
      clear e2 e3
      have hx : l'[k]? = some (l'[k]'(by omega)) := by simp
      obtain ⟨x, hxx⟩ : ∃ x, l'[k]'(by omega) = x := ⟨_, rfl⟩
      obtain ⟨y, hy⟩ := xor_bv x
      have c1 : wr.cell? ⟨g, k, none⟩ = some (.int .u8 (x.toNat : Int)) := (hl2.cellAt k (by omega)).trans (by simp [hx, hxx])
      have cf : ∀ o, wr.frozen? ⟨g, o, none⟩ = false := fun o => hl2.frozenAt o
      have hst := Lib.hid (spoil_step (k := k) hl2 y)
      have HL1 := Lib.hid hl1
      clear hx hl1 hl2 hxx
      go_wp2
      go_roundw
      case rel => exact ⟨k + 1, by omega, by go_num, hsp.out.trans hst.out.2, ⟨l'.set k y, by simpa using HL1.out, hst.out.1⟩⟩
      case measure => simp [intOf]; omega
    · have HL2 := Lib.hid hl2
      have HL1 := Lib.hid hl1
      have hbb : Hid (base ≤ (wr.alloc (.cells #[bv 90, bv 90] 5)).heap.size) := by
        have := hsp.out.1.size
        show _ ≤ _; simp; omega
      clear hl1 hl2
      go_wp2_with (at_builtin; refine wl_append_sp T.out rfl _ _ rfl base rfl (ad := ⟨wr.heap.size, 0, none⟩) (m := 2) rfl (l := [90, 90]) (HL2.out.alloc _) rfl (fun j u hj => lit_cells wr #[bv 90, bv 90] _ j u (by simpa using hj)) (by decide) (by omega) hbb.out (fun g6 c6 w6 hown6 hgr6 hor6 hby6 => ?_); obtain ⟨u6, hu6⟩ : ∃ u, w6.cell? ⟨g6, 0, none⟩ = some u := ⟨_, (hown6.cellAt 0 (by omega)).trans (getD_some (d := undef) (by simp))⟩; have hf6 : ∀ o, w6.frozen? ⟨g6, o, none⟩ = false := fun o => hown6.frozenAt o; have HG6 := Lib.hid hgr6; have HR6 := Lib.hid hor6; have HB6 := Lib.hid hby6; clear hown6 hgr6 hor6 hby6)
      have hend := spoil_end (g6 := g6) hsp.out (fun g hg => (HOWN.out.elem hg).2.1) HG6.out HR6.out HB6.out
      exact bodyPost_end (v := .tuple #[]) (by simp [results, Try.results12, go_sem]) rfl hend
end Go.Proofs.Ytamcoomkoenmcaa
