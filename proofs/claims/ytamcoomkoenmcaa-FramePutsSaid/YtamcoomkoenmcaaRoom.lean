/- roomy: a walk. -/
import Derived.Test.YtamcoomkoenmcaaW11
import Derived.Laws.CopyOwn
set_option linter.unusedSimpArgs false
set_option linter.unusedVariables false
namespace Go.Proofs.Ytamcoomkoenmcaa
open Go.RowKit Go.Far
/-- The mark at place k of the spare room behind n bytes. -/
def markAt (n k : Nat) : Value := .int .u8 (((90 + (n + k)) % 256 : Nat) : Int)
def marks (n k : Nat) : List Value := (List.range k).map (markAt n)
theorem marks_length (n k : Nat) : (marks n k).length = k := by simp [marks]
theorem marks_succ (n k : Nat) : marks n (k + 1) = marks n k ++ [markAt n k] := by simp [marks, List.range_succ]
/-- What roomy makes of n bytes. -/
def roomCells (l : List UInt8) : List Value := l.map bv ++ marks l.length 5
def RoomAt (w : World) (g : Nat) (l : List UInt8) : Prop := w.heap[g]? = some (.cells (roomCells l).toArray 5 (0, 0))
section
variable {P : Program} {w : World} {ops : Array Oper} {rest : List Oper} {o : Oper} {a : Act} {Q : Exit → Act → World → Prop}
theorem wl_make_lit {t e : TypeId} {sz bytes : Nat} {z : Value} (T : ElemOk P t e sz bytes z) (hgd : o.guard = none) (l c : Operand) (ho : o.op = .makeSlice t l c) {n : Nat}
    (hl : a.eval l = .int .i64 (n : Int)) (hc : a.eval c = .int .i64 (n : Int)) (hb : bytes * n ≤ 281474976710656) (hm : n ≤ maxLen)
    (h : wpList P ops Q rest (a.put o.dst (.slice (some ⟨w.heap.size, 0, none⟩) n n)) (w.alloc (.cells (madeCells z.cells (n * sz)) e))) : wpList P ops Q (o :: rest) a w := by
  obtain ⟨ht, ⟨i, hi', hz, hsz, hby⟩, hzs, hpos⟩ := T
  subst hsz hby
  have h63' : (n : Int) ≤ 9223372036854775807 := by have h := hm; simp [maxLen] at h; omega
  have hb' : (i.bytes : Int) * (n : Int) ≤ 281474976710656 := by
    have h : ((i.bytes * n : Nat) : Int) ≤ 281474976710656 := by omega
    rwa [Int.natCast_mul] at h
  have hr := run_make (P := P) w t e i z ht hi' hz .i64 .i64 n n (by omega) (Int.le_refl _) hb' h63'
  simp only [Int.toNat_natCast] at hr
  refine wpList_plain hgd fun K hK => ?_
  unfold Oper.wp
  simp only [execOp, ho, hl, hc, Sem.run_bind, Sem.run_pure, hr, Result.andThen_ok, Oper.upon_value]
  exact hK _ _ h
end
/-- roomy, in its loop. -/
def RI (w : World) (g : Nat) (l : List UInt8) (k : Nat) (wr : World) : Prop :=
  Below w.heap.size w wr ∧ ∃ L : List Value, wr.heap[g]? = some (.cells L.toArray 5 (0, 0)) ∧ L.length = l.length + 5 ∧ L.take (l.length + k) = l.map bv ++ marks l.length k
theorem RI_start {w wr : World} {g : Nat} {l : List UInt8} {C : List Value} (hb : Below w.heap.size w wr) (hC : C.length = l.length + 5) (hg : wr.heap[g]? = some (.cells (splice C 0 (l.map bv)).toArray 5 (0, 0))) : RI w g l 0 wr :=
  ⟨hb, _, hg, by rw [length_splice _ _ _ (by simp; omega), hC], by simp [splice, marks]⟩
theorem RI_step {w wr : World} {g : Nat} {l : List UInt8} {k : Nat} (h : RI w g l k wr) (hk : k < 5) (hw : w.heap.size ≤ g) : RI w g l (k + 1) (wr.setCell ⟨g, l.length + k, none⟩ (markAt l.length k)) := by
  obtain ⟨h1, L, h2, h3, h4⟩ := h
  refine ⟨h1.setCell hw _, L.set (l.length + k) (markAt l.length k), ?_, by simpa using h3, ?_⟩
  · rw [heap_setCell_same _ _ _ _ _ _ h2]; simp
  · rw [show l.length + (k + 1) = l.length + k + 1 by omega, List.take_add_one, List.take_set_of_le (by omega), h4, marks_succ]
    simp [h3, hk]
theorem RI_end {w wr : World} {g : Nat} {l : List UInt8} (h : RI w g l 5 wr) : RoomAt wr g l := by
  obtain ⟨h1, L, h2, h3, h4⟩ := h
  rw [show l.length + 5 = L.length by omega, List.take_length] at h4
  unfold RoomAt roomCells; rw [h2, h4]
theorem RI_cell {w wr : World} {g : Nat} {l : List UInt8} {k : Nat} (h : RI w g l k wr) (j : Nat) (hj : j < l.length + 5) : (∃ u, wr.cell? ⟨g, j, none⟩ = some u) ∧ ∀ o, wr.frozen? ⟨g, o, none⟩ = false := by
  obtain ⟨h1, L, h2, h3, h4⟩ := h
  refine ⟨⟨L.getD j undef, ?_⟩, fun o => by simp [World.frozen?, h2]⟩
  rw [cell_of_row wr g j _ _ _ h2, List.getElem?_toArray]; exact getD_some (by omega)
theorem markAt_eq (n k : Nat) : markAt n k = .int .u8 ((90 + ((n : Int) + (k : Int))) % 256) := congrArg (Value.int .u8) (by omega)
set_option maxRecDepth 100000 in
set_option maxHeartbeats 1000000 in
theorem roomy_any (v : Value) (lo hi : Nat) (l : List UInt8) (w : World) (hr : Row w lo hi v l.length (l.map bv)) (hlen : l.length ≤ 140737488351232) :
    Calls Try.prog 7 #[v] w (Ret fun r w' => r = .slice (some ⟨w.heap.size, 0, none⟩) l.length (l.length + 5) ∧ RoomAt w' w.heap.size l ∧ New w w') := by
  have T := Lib.hid (ElemOk.mk (z := .int .u8 0) Try.underlying25 (by kernel_rfl) rfl (by decide) : ElemOk Try.prog 25 5 1 1 (.int .u8 0))
  have HR := Lib.hid hr
  obtain ⟨p, cap, rfl, _, _, _, _⟩ := hr
  go_enter Try.func7, Try.ntmps7
  have hsrc : Hid (0 < (l.map bv).length → (some (⟨w.heap.size, 0, none⟩ : Addr)) = some ⟨w.heap.size, 0, none⟩ ∧ ∃ ad, p = some ad ∧ ∀ j v, (l.map bv)[j]? = some v → (w.alloc (.cells (madeCells #[.int .u8 0] (l.length + 5)) 5)).cell? (ad.add j) = some v) := fun h0 => by
    obtain ⟨b, off, e, hb, _, _, hc⟩ := HR.out.cell (by simpa using h0)
    refine ⟨rfl, ⟨b, off, none⟩, e, fun j v hv => ?_⟩
    rw [Addr.add_mid, World.cell?_alloc_lt _ _ _ hb]
    exact hc j v hv
  have hn1 : Hid ((l.map bv).length = Nat.min l.length (l.length + 5)) := by
    show _ = _
    rw [List.length_map]; exact (Nat.min_eq_left (by omega)).symm
  have hCl : (madeCells #[(.int .u8 0 : Value)] (l.length + 5)).toList.length = l.length + 5 := by simp [size_madeCells]
  have hf1 : Hid (0 + (l.map bv).length ≤ (madeCells #[(.int .u8 0 : Value)] (l.length + 5)).toList.length) := by
    show _ ≤ _
    rw [hCl, List.length_map]; omega
  have hg0 : Hid ((w.alloc (.cells (madeCells #[.int .u8 0] (l.length + 5)) 5)).heap[w.heap.size]? = some (.cells (madeCells #[(.int .u8 0 : Value)] (l.length + 5)).toList.toArray 5 (0, 0))) := by
    show _ = _
    rw [heap_alloc_new]
  have HCL := Lib.hid hCl
  clear hCl
  go_wp2_with (first | (refine wl_make_lit T.out rfl _ _ rfl (n := l.length + 5) (congrArg (Value.int .i64) (show (l.length : Int) + 5 = ((l.length + 5 : Nat) : Int) by omega)) (congrArg (Value.int .i64) (show (l.length : Int) + 5 = ((l.length + 5 : Nat) : Int) by omega)) (by omega) (by simp [maxLen]; omega) ?_) | (refine wpList_copy_splice rfl _ _ 25 25 rfl 5 Try.underlying25 (by kernel_rfl) _ _ _ _ _ _ rfl rfl w.heap.size 0 (madeCells #[.int .u8 0] (l.length + 5)).toList 5 hg0.out (l.map bv) hn1.out hsrc.out hf1.out (fun y hy => by obtain ⟨x, _, rfl⟩ := List.mem_map.1 hy; rfl) w.heap.size w ((Below.refl _ _).alloc (Nat.le_refl _) _) (Nat.le_refl _) (fun w1 hg1 hb1 => ?_)))
  have hRI : Hid (RI w w.heap.size l 0 w1) := RI_start hb1 HCL.out hg1.out
  clear hg1 hb1
  go_loopw [4] (fun x wr => ∃ k : Nat, k ≤ 5 ∧ x = .int .i64 ((l.length + k : Nat) : Int) ∧ Hid (RI w w.heap.size l k wr)) (fun x _ => l.length + 5 - (intOf x).toNat)
  case atStart => exact ⟨0, by omega, rfl, hRI⟩
  case round =>
    rename World => wr
    obtain ⟨k, hk, rfl, hri⟩ := hrel
    by_cases hk5 : k < 5
    · obtain ⟨⟨u, c1⟩, c2⟩ := RI_cell hri.out (l.length + k) (by omega)
      go_wp2
      go_roundw
      case rel =>
        refine ⟨k + 1, by omega, by go_num, ?_⟩
        have h := RI_step hri.out hk5 (Nat.le_refl _)
        rw [markAt_eq] at h
        exact h
      case measure => simp [intOf]; omega
    · have hk55 : k = 5 := by omega
      subst hk55
      have hrm := Lib.hid (RI_end hri.out)
      have hbl := Lib.hid hri.out.1
      clear hk5
      go_wp2
      go_ret
      exact ⟨rfl, hrm.out, hbl.out⟩
end Go.Proofs.Ytamcoomkoenmcaa
