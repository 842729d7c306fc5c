/- The small functions below frames: walks. -/
import Derived.Test.YtamcoomkoenmcaaRows
import Derived.Test.YtamcoomkoenmcaaPk
import Derived.WalkSpells
import Derived.WalkLawsBesides
import Derived.Lib.Hide
set_option linter.unusedSimpArgs false
set_option linter.unusedVariables false
namespace Go.Proofs.Ytamcoomkoenmcaa
open Go.RowKit Go.Far
def inB (n m : Int) : Bool := decide (0 ≤ n) && decide (n ≤ m)
theorem inB_iff {n m : Int} : inB n m = true ↔ 0 ≤ n ∧ n ≤ m := by simp [inB]
theorem inB_not {n m : Int} : inB n m = false ↔ ¬ (0 ≤ n ∧ n ≤ m) := by rw [← inB_iff]; simp
set_option maxRecDepth 100000 in
set_option maxHeartbeats 400000 in
theorem in_any (n m : Int) (w : World) : Calls Try.prog 26 #[iv n, iv m] w (Ret fun v w' => v = .bool (inB n m) ∧ w = w') := by
  go_enter Try.func26, Try.ntmps26
  go_wp2
  all_goals (go_ret; refine ⟨congrArg Value.bool ?_, rfl⟩; first | (symm; rw [inB_not]; omega) | (simp_all [inB]))
set_option maxRecDepth 100000 in
set_option maxHeartbeats 400000 in
theorem cloneBytes (v : Value) (n lo hi : Nat) (xs : List Value) (w : World) (hr : Row w lo hi v n xs) (hl : xs.length = n * 1) (h1 : ∀ y ∈ xs, y.oneCell' = true) (hb : (0 + n) * 1 ≤ 140737488355328) :
    Calls Try.prog 28 #[v] w (Ret fun r w' => New w w' ∧ w'.ownsRow w.heap.size 5 1 r n xs) := by
  have T := Lib.hid (ElemOk.mk (z := .int .u8 0) Try.underlying25 (by kernel_rfl) rfl (by decide) : ElemOk Try.prog 25 5 1 1 (.int .u8 0))
  have HR := Lib.hid hr
  have HB := Lib.hid hb
  have HL := Lib.hid hl
  have H1 := Lib.hid h1
  obtain ⟨p, cap, rfl, hnc, hcm, hn, hx⟩ := hr
  have HN := Lib.hid hnc
  have HM := Lib.hid hcm
  have H0 := Lib.hid hn
  clear hb hl h1 hx hcm hnc hn
  have he := run_eql_nil (P := Try.prog) Try.underlying25
  cases p with
  | none =>
    go_enter Try.func28, Try.ntmps28
    go_wp2
    go_ret
    have h1 : cap = 0 := by simpa using H0.out
    have h2 : n = 0 := by have h3 : n ≤ cap := HN.out; omega
    have hx : xs = [] := List.eq_nil_of_length_eq_zero (by have h3 : xs.length = n * 1 := HL.out; omega)
    subst hx h2
    exact ⟨Below.refl _ _, World.ownsRow_nil _ _ _ _⟩
  | some ad =>
    go_enter Try.func28, Try.ntmps28
    go_wp2_with (at_builtin; refine wl_append T.out rfl _ _ rfl w.heap.size rfl rfl (World.ownsRow_made w #[] 0 (Nat.le_refl _) ?c1 rfl) (HR.out.ext (ext_alloc (Ext.refl _) _)) HL.out H1.out HB.out ?c2 ?c3 (fun p' c' w' hown hg => ?_))
    case c1 => simp [maxLen]
    case c2 => have h1 := HN.out; have h2 := HM.out; omega
    case c3 => simp
    go_wp2
    go_ret
    refine ⟨?_, by simpa using hown⟩
    exact ((Below.refl _ _).alloc (Nat.le_refl _) _).trans hg
set_option maxRecDepth 100000 in
set_option maxHeartbeats 400000 in
theorem cloneRows (v : Value) (n lo hi : Nat) (xs : List Value) (w : World) (hr : Row w lo hi v n xs) (hl : xs.length = n * 1) (h1 : ∀ y ∈ xs, y.oneCell' = true) (hb : (0 + n) * 24 ≤ 140737488355328) :
    Calls Try.prog 50 #[v] w (Ret fun r w' => New w w' ∧ w'.ownsRow w.heap.size 25 1 r n xs) := by
  have T := Lib.hid (ElemOk.mk (z := .slice none 0 0) Try.underlying59 (by kernel_rfl) rfl (by decide) : ElemOk Try.prog 59 25 1 24 (.slice none 0 0))
  have HR := Lib.hid hr
  have HB := Lib.hid hb
  have HL := Lib.hid hl
  have H1 := Lib.hid h1
  obtain ⟨p, cap, rfl, hnc, hcm, hn, hx⟩ := hr
  have HN := Lib.hid hnc
  have HM := Lib.hid hcm
  have H0 := Lib.hid hn
  clear hb hl h1 hx hcm hnc hn
  have he := run_eql_nil (P := Try.prog) Try.underlying59
  cases p with
  | none =>
    go_enter Try.func50, Try.ntmps50
    go_wp2
    go_ret
    have h1 : cap = 0 := by simpa using H0.out
    have h2 : n = 0 := by have h3 : n ≤ cap := HN.out; omega
    have hx : xs = [] := List.eq_nil_of_length_eq_zero (by have h3 : xs.length = n * 1 := HL.out; omega)
    subst hx h2
    exact ⟨Below.refl _ _, World.ownsRow_nil _ _ _ _⟩
  | some ad =>
    go_enter Try.func50, Try.ntmps50
    go_wp2_with (at_builtin; refine wl_append T.out rfl _ _ rfl w.heap.size rfl rfl (World.ownsRow_made w #[] 0 (Nat.le_refl _) ?c1 rfl) (HR.out.ext (ext_alloc (Ext.refl _) _)) HL.out H1.out HB.out ?c2 ?c3 (fun p' c' w' hown hg => ?_))
    case c1 => simp [maxLen]
    case c2 => have h1 := HN.out; have h2 := HM.out; omega
    case c3 => simp
    go_wp2
    go_ret
    refine ⟨?_, by simpa using hown⟩
    exact ((Below.refl _ _).alloc (Nat.le_refl _) _).trans hg
set_option maxRecDepth 100000 in
set_option maxHeartbeats 400000 in
theorem cloneQueues (v : Value) (n lo hi : Nat) (xs : List Value) (w : World) (hr : Row w lo hi v n xs) (hl : xs.length = n * 3) (h1 : ∀ y ∈ xs, y.oneCell' = true) (hb : (0 + n) * 40 ≤ 140737488355328) :
    Calls Try.prog 48 #[v] w (Ret fun r w' => New w w' ∧ w'.ownsRow w.heap.size 61 3 r n xs) := by
  have T := Lib.hid (ElemOk.mk (z := .agg #[.int .i64 0, .slice none 0 0, .int .i64 0]) Try.underlying22 (by kernel_rfl) rfl (by decide) : ElemOk Try.prog 22 61 3 40 (.agg #[.int .i64 0, .slice none 0 0, .int .i64 0]))
  have HR := Lib.hid hr
  have HB := Lib.hid hb
  have HL := Lib.hid hl
  have H1 := Lib.hid h1
  obtain ⟨p, cap, rfl, hnc, hcm, hn, hx⟩ := hr
  have HN := Lib.hid hnc
  have HM := Lib.hid hcm
  have H0 := Lib.hid hn
  clear hb hl h1 hx hcm hnc hn
  have he := run_eql_nil (P := Try.prog) Try.underlying22
  cases p with
  | none =>
    go_enter Try.func48, Try.ntmps48
    go_wp2
    go_ret
    have h1 : cap = 0 := by simpa using H0.out
    have h2 : n = 0 := by have h3 : n ≤ cap := HN.out; omega
    have hx : xs = [] := List.eq_nil_of_length_eq_zero (by have h3 : xs.length = n * 3 := HL.out; omega)
    subst hx h2
    exact ⟨Below.refl _ _, World.ownsRow_nil _ _ _ _⟩
  | some ad =>
    go_enter Try.func48, Try.ntmps48
    go_wp2_with (at_builtin; refine wl_append T.out rfl _ _ rfl w.heap.size rfl rfl (World.ownsRow_made w #[] 0 (Nat.le_refl _) ?c1 rfl) (HR.out.ext (ext_alloc (Ext.refl _) _)) HL.out H1.out HB.out ?c2 ?c3 (fun p' c' w' hown hg => ?_))
    case c1 => simp [maxLen]
    case c2 => have h1 := HN.out; have h2 := HM.out; omega
    case c3 => simp
    go_wp2
    go_ret
    refine ⟨?_, by simpa using hown⟩
    exact ((Below.refl _ _).alloc (Nat.le_refl _) _).trans hg
end Go.Proofs.Ytamcoomkoenmcaa
