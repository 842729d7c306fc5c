/- Slices, as the walks speak of them: rows of cells that are read, rows of the call's own, and what append, make and copy do to them. -/
import Derived.Test.YtamcoomkoenmcaaReg3
import Derived.WalkKit
import Derived.Deep.MidRow
import Derived.Lib.SliceRun
import Derived.Laws.AppendOwnNone
set_option linter.unusedSimpArgs false
set_option linter.unusedVariables false
namespace Go.Far
open Go.RowKit
abbrev bv (x : UInt8) : Value := .int .u8 (x.toNat : Int)
abbrev iv (n : Int) : Value := .int .i64 n
/-- The end of a call that returns. -/
def Ret (R : Value → World → Prop) : Ending → World → Prop
  | .returned v, w => R v w
  | _, _ => False
theorem calls_ret {P : Program} {f : FuncId} {args : Array Value} {w : World} {R : Value → World → Prop} {K : Ending → World → Prop} (h : Calls P f args w (Ret R))
    (hk : ∀ v w', R v w' → K (.returned v) w') : Calls P f args w K :=
  h.mono fun e w' he => by
    cases e with
    | returned v => exact hk v w' he
    | panicked c => exact he.elim
    | outgrown => exact he.elim
/-- Nothing that was there has turned. -/
abbrev New (w w' : World) : Prop := Below w.heap.size w w'
theorem New.trans {a b c : World} (h : New a b) (k : New b c) : New a c := Below.trans h (k.mono h.size)
theorem New.ext {a b : World} (h : New a b) : Ext a b := h.block
theorem ext_alloc {w0 w : World} (h : Ext w0 w) (o : Obj) : Ext w0 (w.alloc o) := fun k hk => by rw [Below.heap_alloc w o k (Nat.lt_of_lt_of_le hk h.size)]; exact h k hk
theorem ext_new {w0 w w' : World} (h : Ext w0 w) (k : New w w') : Ext w0 w' := h.trans k.block
theorem ext_dl {w0 w : World} (h : Ext w0 w) : Ext w0.drew w := h
theorem ext_dr {w0 w : World} (h : Ext w0 w) : Ext w0 w.drew := h
theorem _root_.Go.World.ownsRow.low {w : World} {base base' : Nat} {e : TypeId} {size : Nat} {v : Value} {n : Nat} {xs : List Value} (h : w.ownsRow base e size v n xs) (hb : base' ≤ base) : w.ownsRow base' e size v n xs := by
  obtain ⟨h1, h2 | ⟨g, cap, cur, h3, h4, h5⟩⟩ := h
  · exact ⟨h1, .inl h2⟩
  · exact ⟨h1, .inr ⟨g, cap, cur, h3, by omega, h5⟩⟩
theorem isSome_setCell (w : World) (a b : Addr) (v : Value) : ((w.setCell a v).cell? b).isSome = (w.cell? b).isSome := by
  by_cases h : a = b
  · subst h
    cases hc : w.cell? a with
    | some u => rw [World.cell?_setCell_same _ _ _ hc]; rfl
    | none =>
      simp only [World.setCell, World.cell?, Array.getElem?_modify, if_true] at hc ⊢
      cases hh : w.heap[a.block]? with
      | none => simp
      | some x =>
        rw [hh] at hc
        cases x with
        | cells c e f =>
          cases hs : a.spot with
          | some _ => simp
          | none => simp [hs] at hc ⊢; exact hc
        | _ => simp
  · rw [World.cell?_setCell_other _ _ _ _ h]
theorem block_lt {w : World} {a : Addr} {v : Value} (h : w.cell? a = some v) : a.block < w.heap.size := by
  rcases Nat.lt_or_ge a.block w.heap.size with hl | hl
  · exact hl
  · simp [World.cell?, Array.getElem?_eq_none hl] at h
/-! ### a row that is read -/
/-- v is a slice of n elements whose cells are xs; they lie in blocks from lo on, below hi. -/
def Row (w : World) (lo hi : Nat) (v : Value) (n : Nat) (xs : List Value) : Prop :=
  ∃ p cap, v = .slice p n cap ∧ n ≤ cap ∧ cap ≤ maxLen ∧ (p = none → cap = 0) ∧ (xs ≠ [] → ∃ b off, p = some ⟨b, off, none⟩ ∧ lo ≤ b ∧ b < hi ∧ w.rangeAt b off xs)
theorem rangeAt_of_block {w w' : World} {b off : Nat} {xs : List Value} (h : w.rangeAt b off xs) (hb : w'.heap[b]? = w.heap[b]?) : w'.rangeAt b off xs := fun j v hv => by
  have := h j v hv
  rw [← this]
  simp only [World.cell?, hb]
theorem Row.keep {w w' : World} {lo hi : Nat} {v : Value} {n : Nat} {xs : List Value} (h : Row w lo hi v n xs) (hk : ∀ k, lo ≤ k → k < hi → w'.heap[k]? = w.heap[k]?) : Row w' lo hi v n xs := by
  obtain ⟨p, cap, hv, h1, h2, h3, h4⟩ := h
  refine ⟨p, cap, hv, h1, h2, h3, fun hx => ?_⟩
  obtain ⟨b, off, hp, hlo, hhi, hr⟩ := h4 hx
  exact ⟨b, off, hp, hlo, hhi, rangeAt_of_block hr (hk b hlo hhi)⟩
theorem Row.ext {w w' : World} {lo hi : Nat} {v : Value} {n : Nat} {xs : List Value} (h : Row w lo hi v n xs) (hx : Ext w w') : Row w' lo hi v n xs := by
  obtain ⟨p, cap, hv, h1, h2, h3, h4⟩ := h
  refine ⟨p, cap, hv, h1, h2, h3, fun hne => ?_⟩
  obtain ⟨b, off, hp, hlo, hhi, hr⟩ := h4 hne
  refine ⟨b, off, hp, hlo, hhi, fun j u hu => ?_⟩
  exact Ext.cell hx (hr j u hu)
theorem Row.wide {w : World} {lo hi lo' hi' : Nat} {v : Value} {n : Nat} {xs : List Value} (h : Row w lo hi v n xs) (hl : lo' ≤ lo) (hh : hi ≤ hi') : Row w lo' hi' v n xs := by
  obtain ⟨p, cap, hv, h1, h2, h3, h4⟩ := h
  refine ⟨p, cap, hv, h1, h2, h3, fun hx => ?_⟩
  obtain ⟨b, off, hp, hlo, hhi, hr⟩ := h4 hx
  exact ⟨b, off, hp, by omega, by omega, hr⟩
theorem Row.of_own {w : World} {base : Nat} {e : TypeId} {size : Nat} {v : Value} {n : Nat} {xs : List Value} (h : w.ownsRow base e size v n xs) (_hs : 0 < size) : Row w base w.heap.size v n xs := by
  obtain ⟨hlen, ⟨rfl, rfl⟩ | ⟨g, cap, cur, rfl, hb, hg, hnc, hcm, hcs, htake⟩⟩ := h
  · exact ⟨none, 0, rfl, Nat.le_refl _, by simp [maxLen], fun _ => rfl, fun hx => by simp at hlen; exact absurd hlen hx⟩
  · refine ⟨_, cap, rfl, hnc, hcm, fun h => by simp at h, fun _ => ⟨g, 0, rfl, hb, (Array.getElem?_eq_some_iff.1 hg).1, fun j u hu => ?_⟩⟩
    rw [Nat.zero_add, cell_of_row w g j cur e (0, 0) hg]
    rw [← htake, List.getElem?_take] at hu
    split at hu
    · simpa using hu
    · cases hu
/-- A piece of a row of one-cell elements. -/
theorem Row.piece {w : World} {lo hi : Nat} {b off n cap : Nat} {xs : List Value} (h : Row w lo hi (.slice (some ⟨b, off, none⟩) n cap) n xs) (hl : xs.length = n) (i j : Nat) (hij : i ≤ j) (hj : j ≤ n) :
    Row w lo hi (.slice (some ⟨b, off + i, none⟩) (j - i) (cap - i)) (j - i) ((xs.take j).drop i) := by
  obtain ⟨p, cap', hv, h1, h2, h3, h4⟩ := h
  injection hv with e1 e2 e3
  subst e1 e3
  refine ⟨_, _, rfl, by omega, by omega, fun h => by simp at h, fun hne => ?_⟩
  have hne' : xs ≠ [] := by rintro rfl; simp at hne
  obtain ⟨b', off', hp, hlo, hhi, hr⟩ := h4 hne'
  injection hp with hp
  injection hp with e4 e5 _
  subst e4 e5
  refine ⟨b, off + i, rfl, hlo, hhi, fun k u hu => ?_⟩
  rw [List.getElem?_drop, List.getElem?_take] at hu
  split at hu
  · have := hr (i + k) u hu
    rw [Nat.add_assoc]; exact this
  · cases hu
/-! ### what is known of a slice type -/
/-- t is a slice type over e, whose elements take sz cells and so many bytes, at first z. -/
def ElemOk (P : Program) (t e : TypeId) (sz bytes : Nat) (z : Value) : Prop :=
  P.underlying t = some (.slice e) ∧ (∃ i, P.info? e = some i ∧ i.zero = some z ∧ i.size = sz ∧ i.bytes = bytes) ∧ z.cells.size = sz ∧ 0 < sz
theorem ElemOk.mk {P : Program} {t e : TypeId} {sz bytes : Nat} {z : Value} (h : P.underlying t = some (.slice e)) (hi : (P.info? e).map (fun i => (i.zero, i.size, i.bytes)) = some (some z, sz, bytes)) (hz : z.cells.size = sz) (hs : 0 < sz) : ElemOk P t e sz bytes z := by
  refine ⟨h, ?_, hz, hs⟩
  cases hie : P.info? e with
  | none => rw [hie] at hi; cases hi
  | some i =>
    rw [hie] at hi
    simp only [Option.map_some, Option.some.injEq, Prod.mk.injEq] at hi
    exact ⟨i, rfl, hi.1, hi.2.1, hi.2.2⟩
theorem run_eql_nil {P : Program} {t e : TypeId} (h : P.underlying t = some (.slice e)) (p : Option Addr) (n c : Nat) (w : World) : (binOp .eql t (.slice p n c) (.slice none 0 0)).run P w = .ok (.bool p.isNone) w := Lib.run_eql_slice_nil w t e p n c 0 0 h
theorem _root_.Go.World.ownsRow.slice {w : World} {base : Nat} {e : TypeId} {size : Nat} {v : Value} {n : Nat} {xs : List Value} (h : w.ownsRow base e size v n xs) : ∃ p c, v = .slice p n c := by
  rcases h.2 with ⟨rfl, rfl⟩ | ⟨g, cap, cur, rfl, _⟩
  · exact ⟨_, _, rfl⟩
  · exact ⟨_, _, rfl⟩
/-- What lies below is read as before. -/
theorem below_reads {B : Nat} {w w' : World} (h : Below B w w') : (∀ b o, b < B → w'.cell? ⟨b, o, none⟩ = w.cell? ⟨b, o, none⟩) ∧ (∀ b o, b < B → w'.frozen? ⟨b, o, none⟩ = w.frozen? ⟨b, o, none⟩) ∧ w.heap.size ≤ w'.heap.size :=
  ⟨fun b o hb => h.cell (p := ⟨b, o, none⟩) hb, fun b o hb => h.frozen (p := ⟨b, o, none⟩) hb, h.size⟩
section
variable {P : Program} {w : World} {ops : Array Oper} {rest : List Oper} {o : Oper} {a : Act} {Q : Exit → Act → World → Prop}
/-- append(own, src...), whatever src is. -/
theorem wl_append {t e : TypeId} {sz bytes : Nat} {z : Value} (T : ElemOk P t e sz bytes z) (hgd : o.guard = none) (s x : Operand)
    (ho : o.op = .call { callee := .builtin .append, args := #[s, x], argTypes := #[t, t] }) (base : Nat) {v u : Value} (hs : a.eval s = v) (hx : a.eval x = u)
    {n m lo hi : Nat} {xs news : List Value} (hown : w.ownsRow base e sz v n xs) (hrow : Row w lo hi u m news) (hl : news.length = m * sz) (h1 : ∀ y ∈ news, y.oneCell' = true)
    (hbytes : (n + m) * bytes ≤ 140737488355328) (hmax : n + m ≤ maxLen) (hbase : base ≤ w.heap.size)
    (h : ∀ p' c' w', w'.ownsRow base e sz (.slice p' (n + m) c') (n + m) (xs ++ news) → Below base w w' → wpList P ops Q rest (a.put o.dst (.slice p' (n + m) c')) w') : wpList P ops Q (o :: rest) a w := by
  obtain ⟨ht, ⟨i, hi', hz, hsz, hby⟩, hzs, hpos⟩ := T
  obtain ⟨p, cap, rfl, hmc, hcm, hnone, hcells⟩ := hrow
  cases p with
  | none =>
    have hc0 := hnone rfl
    subst hc0
    have hm0 : m = 0 := by omega
    subst hm0
    have hn0 : news = [] := List.eq_nil_of_length_eq_zero (by simpa using hl)
    subst hn0
    refine wpList_append_own_none hgd s x t ho base e i sz ht hi' v n xs hs hown hx ?_
    rcases hown.slice with ⟨p', c', rfl⟩
    have h2 := h p' c' w (by simpa using hown) (Below.refl _ _)
    simpa using h2
  | some ad =>
    refine wpList_append_own w hgd s x t ho base e i z sz bytes ht hi' hz hsz hby hzs hpos v n xs hs hown ad m cap news hx hl (fun j y hy => ?_) h1 hmax hbytes hbase (fun v' w' h2 h3 _ => by
      rcases h2.slice with ⟨p', c', rfl⟩
      exact h p' c' w' h2 (Below.grown (Below.refl _ _) h3 hbase (fun k hk => (hown.lt k hk).1)))
    have hne : news ≠ [] := by rintro rfl; simp at hy
    obtain ⟨b, off, hp, _, _, hr⟩ := hcells hne
    injection hp with hp
    subst hp
    rw [Addr.add_mid]
    exact hr j y hy
/-- append(own, bytes...). -/
theorem wl_append_bytes {t e : TypeId} {z : Value} (T : ElemOk P t e 1 1 z) (hgd : o.guard = none) (s x : Operand)
    (ho : o.op = .call { callee := .builtin .append, args := #[s, x], argTypes := #[t, t] }) (base : Nat) {v u : Value} (hs : a.eval s = v) (hx : a.eval x = u)
    {n m lo hi : Nat} {xs : List Value} {l : List UInt8} (hown : w.ownsRow base e 1 v n xs) (hrow : Row w lo hi u m (l.map bv)) (hl : l.length = m)
    (hbytes : n + m ≤ 140737488355328) (hbase : base ≤ w.heap.size)
    (h : ∀ p' c' w', w'.ownsRow base e 1 (.slice p' (n + m) c') (n + m) (xs ++ l.map bv) → Below base w w' → wpList P ops Q rest (a.put o.dst (.slice p' (n + m) c')) w') : wpList P ops Q (o :: rest) a w :=
  wl_append T hgd s x ho base hs hx hown hrow (by simp [hl]) (by intro y hy; obtain ⟨x, _, rfl⟩ := List.mem_map.1 hy; rfl) (by omega) (by simp only [maxLen]; omega) hbase h
/-- make([]T, n). -/
theorem wl_make {t e : TypeId} {sz bytes : Nat} {z : Value} (T : ElemOk P t e sz bytes z) (hgd : o.guard = none) (l c : Operand) (ho : o.op = .makeSlice t l c) (base : Nat) {n : Nat}
    (hl : a.eval l = .int .i64 (n : Int)) (hc : a.eval c = .int .i64 (n : Int)) (hb : bytes * n ≤ 281474976710656) (hm : n ≤ maxLen) (hbase : base ≤ w.heap.size)
    (h : ∀ w', w'.ownsRow base e sz (.slice (some ⟨w.heap.size, 0, none⟩) n n) n (madeCells z.cells (n * sz)).toList → Below w.heap.size w w' → w'.heap.size = w.heap.size + 1 → wpList P ops Q rest (a.put o.dst (.slice (some ⟨w.heap.size, 0, none⟩) n n)) w') : wpList P ops Q (o :: rest) a w := by
  obtain ⟨ht, ⟨i, hi', hz, hsz, hby⟩, hzs, hpos⟩ := T
  subst hsz hby
  have h63' : (n : Int) ≤ 9223372036854775807 := by have h := hm; simp [maxLen] at h; omega
  have hb' : (i.bytes : Int) * (n : Int) ≤ 281474976710656 := by
    have h : ((i.bytes * n : Nat) : Int) ≤ 281474976710656 := by omega
    rwa [Int.natCast_mul] at h
  have hr := run_make (P := P) w t e i z ht hi' hz .i64 .i64 n n (by omega) (Int.le_refl _) hb' h63'
  simp only [Int.toNat_natCast] at hr
  refine wpList_plain hgd fun K hK => ?_
  unfold Oper.wp
  simp only [execOp, ho, hl, hc, Sem.run_bind, Sem.run_pure, hr, Result.andThen_ok, Oper.upon_value]
  exact hK _ _ (h _ (World.ownsRow_lit w _ n hbase hm (size_madeCells _ _)) ((Below.refl _ _).alloc (Nat.le_refl _) _) (by simp))
end
section
variable {P : Program} {ops : Array Oper} {Q : Exit → Act → World → Prop} {l l' : List Oper} {w0 w : World} {mid : List (RKind × List (Nat × Nat))} {a : Act}
theorem seg_pre (h1 : plainAll P a l' = true) (h2 : wpSeg P ops Q l w0 mid a w) : plainAll P a l' = true ∧ wpSeg P ops Q l w0 mid a w := ⟨h1, h2⟩
theorem seg_nil (h : Q .normal a w) : wpSeg P ops Q l w0 [] a w := h
theorem seg_loud {m : List (Nat × Nat)} (h : ∀ K : Act → World → Prop, (∀ a' w', Ext w0 w' ∧ wpSeg P ops Q l w0 mid a' w' → K a' w') → wpList P ops (Exit.then K (NoP Q)) (pickR m l) a w) : wpSeg P ops Q l w0 ((.loud, m) :: mid) a w := h
theorem seg_act {m : List (Nat × Nat)} (h : ∀ K : Act → World → Prop, (∀ a' w', wpSeg P ops Q l w0 mid a' w' → K a' w') → wpList P ops (Exit.then K (NoP Q)) (pickR m l) a w) : wpSeg P ops Q l w0 ((.act, m) :: mid) a w := h
theorem seg_pure {m : List (Nat × Nat)} (h : ∀ K : Act → World → Prop, (∀ a' w', wpSeg P ops Q l w0 mid a' w' → K a' w') → wpList P ops (Exit.then K (NoP Q)) (pickR m l) a w) : wpSeg P ops Q l w0 ((.pure, m) :: mid) a w := h
theorem seg_ext (h1 : Ext w0 w) (h2 : wpSeg P ops Q l w0 mid a w) : Ext w0 w ∧ wpSeg P ops Q l w0 mid a w := ⟨h1, h2⟩
end
/-! ### bits -/
theorem wraps_i64 (n : Int) (h₀ : 0 ≤ n) (h₁ : n < 2 ^ 63) : IntKind.i64.wrap n = n := by rw [IntKind.wrap_i64]; omega
theorem wraps_u16 (n : Int) (h₀ : 0 ≤ n) (h₁ : n < 2 ^ 16) : IntKind.u16.wrap n = n := by
  have : IntKind.u16.wrap n = n % 65536 := by simp [IntKind.wrap, IntKind.bits, IntKind.signed]
  omega
theorem and_i64 (a b : Nat) (ha : a < 2 ^ 63) (hb : b < 2 ^ 63) : bits .and .i64 (a : Int) (b : Int) = ((a &&& b : Nat) : Int) := (bits_nat .i64 63 (by decide) wraps_i64 a b ha hb).1
theorem or_i64 (a b : Nat) (ha : a < 2 ^ 63) (hb : b < 2 ^ 63) : bits .or .i64 (a : Int) (b : Int) = ((a ||| b : Nat) : Int) := (bits_nat .i64 63 (by decide) wraps_i64 a b ha hb).2
theorem and_u8 (a b : Nat) (ha : a < 2 ^ 8) (hb : b < 2 ^ 8) : bits .and .u8 (a : Int) (b : Int) = ((a &&& b : Nat) : Int) := (bits_nat .u8 8 (by decide) wraps_u8 a b ha hb).1
theorem or_u8 (a b : Nat) (ha : a < 2 ^ 8) (hb : b < 2 ^ 8) : bits .or .u8 (a : Int) (b : Int) = ((a ||| b : Nat) : Int) := (bits_nat .u8 8 (by decide) wraps_u8 a b ha hb).2
/-- x * 2^i and what is below 2^i, joined. -/
theorem join_i64 (i : Nat) (a b : Nat) (hb : b < 2 ^ i) (ha : a * 2 ^ i + b < 2 ^ 63) : bits .or .i64 ((a * 2 ^ i : Nat) : Int) (b : Int) = ((a * 2 ^ i + b : Nat) : Int) := by
  rw [or_i64 _ _ (by omega) (by omega), Nat.mul_comm a, ← Nat.two_pow_add_eq_or_of_lt hb a]
theorem and_pow (n i : Nat) : n &&& 2 ^ i = (n / 2 ^ i % 2) * 2 ^ i := by
  have hb : n.testBit i = decide (n / 2 ^ i % 2 = 1) := Nat.testBit_eq_decide_div_mod_eq
  refine Nat.eq_of_testBit_eq fun j => ?_
  rcases Nat.mod_two_eq_zero_or_one (n / 2 ^ i) with h | h
  · rw [h, Nat.zero_mul, Nat.zero_testBit, Nat.testBit_and, Nat.testBit_two_pow]
    by_cases hij : i = j
    · subst hij; simp [hb, h]
    · simp [hij]
  · rw [h, Nat.one_mul, Nat.testBit_and, Nat.testBit_two_pow]
    by_cases hij : i = j
    · subst hij; simp [hb, h]
    · simp [hij]
/-- One bit. -/
theorem bit_i64 (i n : Nat) (hn : n < 2 ^ 63) (hi : i < 63) : bits .and .i64 (n : Int) ((2 ^ i : Nat) : Int) = (((n / 2 ^ i % 2) * 2 ^ i : Nat) : Int) := by
  rw [and_i64 n _ hn (Nat.pow_lt_pow_right (by decide) hi), and_pow]
theorem mask_i64 (i n : Nat) (hn : n < 2 ^ 63) (hi : i < 63) : bits .and .i64 (n : Int) ((2 ^ i - 1 : Nat) : Int) = ((n % 2 ^ i : Nat) : Int) := by
  have h1 : 2 ^ i ≤ 2 ^ 63 := Nat.pow_le_pow_right (by decide) (by omega)
  have h2 := Nat.two_pow_pos i
  rw [and_i64 n _ hn (by omega), Nat.and_two_pow_sub_one_eq_mod]
theorem low_u8 (n : Nat) (hn : n < 2 ^ 8) : bits .and .u8 (n : Int) 1 = ((n % 2 : Nat) : Int) := by
  have := and_u8 n 1 hn (by decide)
  rw [Nat.and_one_is_mod] at this
  exact this
end Go.Far
