/- left, spoil: walks. -/
import Derived.Test.YtamcoomkoenmcaaRoom
set_option linter.unusedSimpArgs false
set_option linter.unusedVariables false
namespace Go.Proofs.Ytamcoomkoenmcaa
open Go.RowKit Go.Far
theorem RoomAt.low {w : World} {g : Nat} {l : List UInt8} (h : RoomAt w g l) (j : Nat) (hj : j < l.length) : w.cell? ⟨g, j, none⟩ = some (.int .u8 ((at8 l j : Nat) : Int)) := by
  rw [cell_of_row w g j _ _ _ h, List.getElem?_toArray, roomCells, List.getElem?_append_left (by simpa using hj)]
  exact at8_cast l j hj
theorem RoomAt.high {w : World} {g : Nat} {l : List UInt8} (h : RoomAt w g l) (j : Nat) (hj : l.length ≤ j) (hj5 : j < l.length + 5) : w.cell? ⟨g, j, none⟩ = some (.int .u8 ((90 + (j : Int)) % 256)) := by
  rw [cell_of_row w g j _ _ _ h, List.getElem?_toArray, roomCells, List.getElem?_append_right (by simpa using hj)]
  simp only [List.length_map, marks, List.getElem?_map]
  rw [List.getElem?_range (by omega)]
  simp only [Option.map_some, markAt]
  exact congrArg some (congrArg (Value.int .u8) (by omega))
theorem RoomAt.new {w w' : World} {g : Nat} {l : List UInt8} (h : RoomAt w g l) (hg : w'.heap[g]? = w.heap[g]?) : RoomAt w' g l := by
  unfold RoomAt; rw [hg]; exact h
theorem RoomAt.lt {w : World} {g : Nat} {l : List UInt8} (h : RoomAt w g l) : g < w.heap.size := (Array.getElem?_eq_some_iff.1 h).1
set_option maxRecDepth 100000 in
set_option maxHeartbeats 1000000 in
theorem left_any (g : Nat) (v : Value) (lo hi : Nat) (l : List UInt8) (w : World) (hrm : RoomAt w g l) (hr : Row w lo hi v l.length (l.map bv)) (hlen : l.length ≤ 140737488351232) :
    Calls Try.prog 11 #[.slice (some ⟨g, 0, none⟩) l.length (l.length + 5), v] w (Ret fun r w' => r = .bool true ∧ New w w') := by
  have HR := Lib.hid hr
  have HRM := Lib.hid hrm
  obtain ⟨p, cap, rfl, _, _, _, _⟩ := hr
  clear hrm
  go_enter Try.func11, Try.ntmps11
  go_wp2_with (fail)
  go_loopw [6] (fun x wr => ∃ k : Nat, k ≤ l.length + 5 ∧ x = .int .i64 (k : Int) ∧ Hid (New w wr)) (fun x _ => l.length + 5 - (intOf x).toNat)
  case atStart => exact ⟨0, by omega, rfl, Below.refl _ _⟩
  case round =>
    rename World => wr
    obtain ⟨k, hk, rfl, hbl⟩ := hrel
    have hrm : RoomAt wr g l := HRM.out.new (hbl.out.block g HRM.out.lt)
    by_cases hkn : k < l.length
    · have c1 := hrm.low k hkn
      obtain ⟨b, off, rfl, hb, _, _, hc⟩ := HR.out.bytes (by omega)
      have c2 : wr.cell? ⟨b, off + k, none⟩ = some (.int .u8 ((at8 l k : Nat) : Int)) := (World.cell?_of_block (hbl.out.block b hb)).trans (hc k hkn)
      clear hc hrm
      go_wp2
      any_goals ((with_reducible refine wp_region_r (id := 7) [(0, 31)] [] (by kernel_rfl) (by kernel_rfl) ?_); try simp only [pickR, List.drop_succ_cons, List.drop_zero, List.take_succ_cons, List.take_zero, List.take_nil, List.drop_nil, List.append_nil, List.cons_append, List.nil_append]; intro _ _; go_wp2; all_goals (refine seg_pre (by kernel_rfl) ?_); all_goals (refine seg_nil ?_); go_wp2)
      go_roundw
      case rel => exact ⟨k + 1, by omega, by go_num, hbl.out.drew⟩
      case measure => simp [intOf]; omega
    · by_cases hk5 : k < l.length + 5
      · have c1 := hrm.high k (by omega) hk5
        clear hrm
        go_wp2
        any_goals ((with_reducible refine wp_region_r (id := 7) [(0, 31)] [] (by kernel_rfl) (by kernel_rfl) ?_); try simp only [pickR, List.drop_succ_cons, List.drop_zero, List.take_succ_cons, List.take_zero, List.take_nil, List.drop_nil, List.append_nil, List.cons_append, List.nil_append]; intro _ _; go_wp2; all_goals (refine seg_pre (by kernel_rfl) ?_); all_goals (refine seg_nil ?_); go_wp2)
        go_roundw
        case rel => exact ⟨k + 1, by omega, by go_num, hbl.out.drew⟩
        case measure => simp [intOf]; omega
      · clear hrm
        go_wp2
        go_ret
        exact ⟨rfl, hbl.out⟩
end Go.Proofs.Ytamcoomkoenmcaa
