/- A packet at the beginning of a row of bytes, in plain Lean. -/
import Derived.Test.YtamcoomkoenmcaaBase
set_option linter.unusedSimpArgs false
set_option linter.unusedVariables false
namespace Go.Far
def at8 (l : List UInt8) (i : Nat) : Nat := (l.getD i 0).toNat
theorem at8_lt (l : List UInt8) (i : Nat) : at8 l i < 256 := UInt8.toNat_lt _
theorem at8_cast (l : List UInt8) (i : Nat) (h : i < l.length) : (l.map bv)[i]? = some (.int .u8 ((at8 l i : Nat) : Int)) := by
  simp [at8, h]
/-- A byte of a row that is read. -/
theorem Row.bytes {w : World} {lo hi : Nat} {p : Option Addr} {n cap : Nat} {l : List UInt8} (h : Row w lo hi (.slice p n cap) n (l.map bv)) (hne : 0 < l.length) :
    ∃ b off, p = some ⟨b, off, none⟩ ∧ b < w.heap.size ∧ lo ≤ b ∧ b < hi ∧ ∀ i, i < l.length → w.cell? ⟨b, off + i, none⟩ = some (.int .u8 ((at8 l i : Nat) : Int)) := by
  obtain ⟨p', cap', hv, _, _, _, hx⟩ := h
  obtain ⟨b, off, hp, hlo, hhi, hr⟩ := hx (by intro e; rw [List.map_eq_nil_iff] at e; rw [e] at hne; simp at hne)
  injection hv with h1 h2 h3
  subst h1
  have hc : ∀ i, i < l.length → w.cell? ⟨b, off + i, none⟩ = some (.int .u8 ((at8 l i : Nat) : Int)) := fun i hi => hr i _ (at8_cast l i hi)
  exact ⟨b, off, hp, block_lt (hc 0 hne), hlo, hhi, hc⟩
def pkLen (l : List UInt8) : Nat := 7 + at8 l 4 * 256 + at8 l 5
def pkErr (l : List UInt8) : Int := if l.length < 6 then 7 else if at8 l 0 / 32 ≠ 0 then 8 else if l.length < pkLen l then 7 else 0
def pkOk (l : List UInt8) : Prop := 6 ≤ l.length ∧ at8 l 0 / 32 = 0 ∧ pkLen l ≤ l.length
theorem pkErr_zero {l : List UInt8} : pkErr l = 0 ↔ pkOk l := by
  unfold pkErr pkOk
  by_cases h1 : l.length < 6
  · simp [h1]; omega
  · by_cases h2 : at8 l 0 / 32 ≠ 0
    · rw [if_neg h1, if_pos h2]; simp; omega
    · rw [if_neg h1, if_neg h2]
      by_cases h3 : l.length < pkLen l
      · simp [h3]
      · simp [h3]; omega
def pkBits (l : List UInt8) : Bool × Bool := (at8 l 0 / 16 % 2 == 1, at8 l 0 / 8 % 2 == 1)
def pkApid (l : List UInt8) : Nat := at8 l 0 % 8 * 256 + at8 l 1
def pkPart (l : List UInt8) : Nat := at8 l 2 / 64
def pkCount (l : List UInt8) : Nat := at8 l 2 % 64 * 256 + at8 l 3
theorem up_eq (l : List UInt8) : (bits .and .u8 ((at8 l 0 : Int) / 16) 1 == 1) = (pkBits l).1 := by
  have h := at8_lt l 0
  have e : ((at8 l 0 : Int) / 16) = ((at8 l 0 / 16 : Nat) : Int) := by omega
  rw [e, low_u8 _ (by omega)]
  unfold pkBits
  rw [Bool.eq_iff_iff, beq_iff_eq, beq_iff_eq]; omega
theorem second_eq (l : List UInt8) : (bits .and .u8 ((at8 l 0 : Int) / 8) 1 == 1) = (pkBits l).2 := by
  have h := at8_lt l 0
  have e : ((at8 l 0 : Int) / 8) = ((at8 l 0 / 8 : Nat) : Int) := by omega
  rw [e, low_u8 _ (by omega)]
  unfold pkBits
  rw [Bool.eq_iff_iff, beq_iff_eq, beq_iff_eq]; omega
theorem apid_eq (l : List UInt8) : bits .or .i64 ((at8 l 0 : Int) % 8 * 256) (at8 l 1 : Int) = (pkApid l : Int) := by
  have h0 := at8_lt l 0
  have h1 := at8_lt l 1
  have := join_i64 8 (at8 l 0 % 8) (at8 l 1) (by omega) (by omega)
  rw [show ((at8 l 0 : Int) % 8 * 256) = ((at8 l 0 % 8 * 2 ^ 8 : Nat) : Int) by omega, this]; rfl
theorem count_eq (l : List UInt8) : bits .or .i64 ((at8 l 2 : Int) % 64 * 256) (at8 l 3 : Int) = (pkCount l : Int) := by
  have h0 := at8_lt l 2
  have h1 := at8_lt l 3
  have := join_i64 8 (at8 l 2 % 64) (at8 l 3) (by omega) (by omega)
  rw [show ((at8 l 2 : Int) % 64 * 256) = ((at8 l 2 % 64 * 2 ^ 8 : Nat) : Int) by omega, this]; rfl
def pkData (l : List UInt8) : List UInt8 := (l.take (pkLen l)).drop 6
/-- What the call hands back of a row that begins with a packet (d: its data, as a value). -/
def pkVal (l : List UInt8) (d : Value) : Value :=
  .tuple #[.agg #[.bool (pkBits l).1, .bool (pkBits l).2, iv (pkApid l), iv (pkPart l), iv (pkCount l), d], iv (pkLen l), iv 0]
def pkBad (e : Int) : Value := .tuple #[.agg #[.bool false, .bool false, iv 0, iv 0, iv 0, .slice none 0 0], iv 0, iv e]
/-- What either of both decoders hands back. -/
def PkRes (w : World) (l : List UInt8) (r : Value) (w' : World) : Prop :=
  New w w' ∧ ((pkErr l ≠ 0 ∧ r = pkBad (pkErr l)) ∨ (pkOk l ∧ ∃ d, r = pkVal l d ∧ w'.ownsRow w.heap.size 5 1 d (pkData l).length ((pkData l).map bv)))
end Go.Far
