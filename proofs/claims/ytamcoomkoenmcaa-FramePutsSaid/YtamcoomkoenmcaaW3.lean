/- opens, makes, sameBytes: walks. -/
import Derived.Test.YtamcoomkoenmcaaW2
import Derived.Laws.BytesArg
set_option linter.unusedSimpArgs false
set_option linter.unusedVariables false
namespace Go.Proofs.Ytamcoomkoenmcaa
open Go.RowKit Go.Far
def openErr (c s : Int) : Int := if c < 0 ∨ 1023 < c then 2 else if s < 13 ∨ 2048 < s then 1 else 0
set_option maxRecDepth 100000 in
set_option maxHeartbeats 400000 in
theorem opens_any (c s : Int) (w : World) : Calls Try.prog 46 #[iv c, iv s] w (Ret fun v w' => v = iv (openErr c s) ∧ w = w') := by
  go_enter Try.func46, Try.ntmps46
  go_wp2
  all_goals (go_ret; refine ⟨congrArg iv ?_, rfl⟩; unfold openErr; repeat (first | rfl | omega | split))
set_option maxRecDepth 100000 in
set_option maxHeartbeats 400000 in
theorem makes_any (c s : Int) (w : World) : Calls Try.prog 47 #[iv c, iv s] w (Ret fun v w' => v = iv (openErr c s) ∧ w = w') := by
  by_cases hi : inB c 1023 = true
  · have h1 := inB_iff.1 hi
    go_enter Try.func47, Try.ntmps47
    go_wp2_with (go_at_call 26; refine calls_ret (in_any _ _ _) ?_; rintro _ _ ⟨rfl, rfl⟩)
    all_goals (go_ret; refine ⟨congrArg iv ?_, rfl⟩; unfold openErr; repeat (first | rfl | omega | split))
  · have hi' : inB c 1023 = false := by simpa using hi
    have h1 := inB_not.1 hi'
    clear hi
    go_enter Try.func47, Try.ntmps47
    go_wp2_with (go_at_call 26; refine calls_ret (in_any _ _ _) ?_; rintro _ _ ⟨rfl, rfl⟩)
    all_goals (go_ret; refine ⟨congrArg iv ?_, rfl⟩; unfold openErr; repeat (first | rfl | omega | split))
theorem strOfNums_bytes (l : List UInt8) : strOfNums (l.map fun x => (x.toNat : Int)) = ⟨l.toArray⟩ := by
  simp only [strOfNums, List.map_map]
  rw [show (l.map ((fun n => UInt8.ofNat n.toNat) ∘ fun x : UInt8 => (x.toNat : Int))) = l from (List.map_congr_left (g := id) (fun x _ => by simp [Function.comp])).trans (List.map_id l)]
theorem run_bytes_row {P : Program} {w : World} {lo hi : Nat} {v : Value} {l : List UInt8} (h : Row w lo hi v l.length (l.map bv)) (src dst e : TypeId) (hs : P.underlying src = some (.slice e)) (he : P.underlying e = some (.int .u8)) (hd : P.underlying dst = some .string) :
    (convert src dst v).run P w = .ok (.string ⟨l.toArray⟩) w := by
  obtain ⟨p, cap, rfl, h1, h2, h3, h4⟩ := h
  cases hl : l with
  | nil =>
    subst hl
    cases p with
    | none => rw [run_convert_bytes_nil w src e hs he _ _ dst hd]; rfl
    | some a =>
      rw [run_convert_bytes_string w src dst e _ _ _ hs he hd, run_bytesToString w a _ cap [] (by simp [loadCells, loadCellsFrom, Sem.run_pure])]
      rfl
  | cons x t =>
    obtain ⟨b, off, rfl, _, _, hr⟩ := h4 (by rw [hl]; simp)
    rw [← hl]
    have := run_convert_bytes_arg w src e hs he b off l.length cap (l.map fun x => (x.toNat : Int)) (by simp) (fun i hi => by
      have := hr i _ (at8_cast l i hi)
      rw [this]; simp [at8, hi]) dst hd
    rw [this, strOfNums_bytes]
set_option maxRecDepth 100000 in
set_option maxHeartbeats 400000 in
theorem sameBytes_any (va vb : Value) (lo hi lo' hi' : Nat) (la lb : List UInt8) (w : World) (ha : Row w lo hi va la.length (la.map bv)) (hb : Row w lo' hi' vb lb.length (lb.map bv)) :
    Calls Try.prog 40 #[va, vb] w (Ret fun v w' => v = .bool (decide (la = lb)) ∧ w = w') := by
  have r1 := run_bytes_row ha _ _ _ Try.underlying25 Try.underlying5 Try.underlying9
  have r2 := run_bytes_row hb _ _ _ Try.underlying25 Try.underlying5 Try.underlying9
  clear ha hb
  go_enter Try.func40, Try.ntmps40
  go_wp2
  go_ret
  refine ⟨congrArg Value.bool ?_, rfl⟩
  rw [Bool.eq_iff_iff]
  simp [ByteArray.ext_iff]
end Go.Proofs.Ytamcoomkoenmcaa
