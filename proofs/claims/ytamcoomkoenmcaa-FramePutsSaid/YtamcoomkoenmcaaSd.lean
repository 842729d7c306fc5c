/- Senders in plain Lean, and how they lie in memory. -/
import Derived.Test.YtamcoomkoenmcaaW4
set_option linter.unusedSimpArgs false
set_option linter.unusedVariables false
namespace Go.Proofs.Ytamcoomkoenmcaa
open Go.RowKit Go.Far
instance (l : List UInt8) : Decidable (pkOk l) := by unfold pkOk; infer_instance
def oneB (l : List UInt8) : Bool := decide (pkOk l ∧ pkLen l = l.length)
structure Qu where
  own : Int
  packs : List (List UInt8)
  gone : Int
deriving DecidableEq, Inhabited
structure Sd where
  craft : Int
  size : Int
  master : Int
  turn : Int
  queues : List Qu
deriving DecidableEq, Inhabited
def goneB (q : Qu) : Bool := if q.packs.length = 0 then q.gone == 0 else inB q.gone ((q.packs.getD 0 []).length - 1)
def quB (q : Qu) : Bool := inB q.own 255 && decide (q.packs.length ≤ 200) && q.packs.all oneB && goneB q
/-- Rows of bytes that are read. -/
def PR (w : World) (lo hi : Nat) (v : Value) (ps : List (List UInt8)) : Prop :=
  ∃ xs : List Value, xs.length = ps.length ∧ Row w lo hi v ps.length xs ∧ ∀ k, k < ps.length → Row w lo hi (xs.getD k undef) (ps.getD k []).length ((ps.getD k []).map bv)
def flat (qs : List Qu) (us : List Value) : List Value := (qs.zip us).flatMap fun x => [iv x.1.own, x.2, iv x.1.gone]
def QR (w : World) (lo hi : Nat) (v : Value) (qs : List Qu) : Prop :=
  ∃ us : List Value, us.length = qs.length ∧ Row w lo hi v qs.length (flat qs us) ∧ ∀ i, i < qs.length → PR w lo hi (us.getD i undef) (qs.getD i default).packs
def sdVal (s : Sd) (qv : Value) : Value := .agg #[iv s.craft, iv s.size, iv s.master, iv s.turn, qv]
def SR (w : World) (lo hi : Nat) (v : Value) (s : Sd) : Prop := ∃ qv, v = sdVal s qv ∧ QR w lo hi qv s.queues
theorem PR.keep {w w' : World} {lo hi : Nat} {v : Value} {ps : List (List UInt8)} (h : PR w lo hi v ps) (hk : ∀ k, lo ≤ k → k < hi → w'.heap[k]? = w.heap[k]?) : PR w' lo hi v ps := by
  obtain ⟨xs, h1, h2, h3⟩ := h
  exact ⟨xs, h1, h2.keep hk, fun k hkk => (h3 k hkk).keep hk⟩
theorem PR.ext {w w' : World} {lo hi : Nat} {v : Value} {ps : List (List UInt8)} (h : PR w lo hi v ps) (hk : Ext w w') : PR w' lo hi v ps := by
  obtain ⟨xs, h1, h2, h3⟩ := h
  exact ⟨xs, h1, h2.ext hk, fun k hkk => (h3 k hkk).ext hk⟩
theorem PR.wide {w : World} {lo hi lo' hi' : Nat} {v : Value} {ps : List (List UInt8)} (h : PR w lo hi v ps) (hl : lo' ≤ lo) (hh : hi ≤ hi') : PR w lo' hi' v ps := by
  obtain ⟨xs, h1, h2, h3⟩ := h
  exact ⟨xs, h1, h2.wide hl hh, fun k hkk => (h3 k hkk).wide hl hh⟩
theorem QR.keep {w w' : World} {lo hi : Nat} {v : Value} {qs : List Qu} (h : QR w lo hi v qs) (hk : ∀ k, lo ≤ k → k < hi → w'.heap[k]? = w.heap[k]?) : QR w' lo hi v qs := by
  obtain ⟨xs, h1, h2, h3⟩ := h
  exact ⟨xs, h1, h2.keep hk, fun k hkk => (h3 k hkk).keep hk⟩
theorem QR.ext {w w' : World} {lo hi : Nat} {v : Value} {qs : List Qu} (h : QR w lo hi v qs) (hk : Ext w w') : QR w' lo hi v qs := by
  obtain ⟨xs, h1, h2, h3⟩ := h
  exact ⟨xs, h1, h2.ext hk, fun k hkk => (h3 k hkk).ext hk⟩
theorem QR.wide {w : World} {lo hi lo' hi' : Nat} {v : Value} {qs : List Qu} (h : QR w lo hi v qs) (hl : lo' ≤ lo) (hh : hi ≤ hi') : QR w lo' hi' v qs := by
  obtain ⟨xs, h1, h2, h3⟩ := h
  exact ⟨xs, h1, h2.wide hl hh, fun k hkk => (h3 k hkk).wide hl hh⟩
theorem SR.keep {w w' : World} {lo hi : Nat} {v : Value} {s : Sd} (h : SR w lo hi v s) (hk : ∀ k, lo ≤ k → k < hi → w'.heap[k]? = w.heap[k]?) : SR w' lo hi v s := by
  obtain ⟨qv, h1, h2⟩ := h
  exact ⟨qv, h1, h2.keep hk⟩
theorem SR.ext {w w' : World} {lo hi : Nat} {v : Value} {s : Sd} (h : SR w lo hi v s) (hk : Ext w w') : SR w' lo hi v s := by
  obtain ⟨qv, h1, h2⟩ := h
  exact ⟨qv, h1, h2.ext hk⟩
theorem SR.wide {w : World} {lo hi lo' hi' : Nat} {v : Value} {s : Sd} (h : SR w lo hi v s) (hl : lo' ≤ lo) (hh : hi ≤ hi') : SR w lo' hi' v s := by
  obtain ⟨qv, h1, h2⟩ := h
  exact ⟨qv, h1, h2.wide hl hh⟩
theorem flat_length : ∀ (qs : List Qu) (us : List Value), us.length = qs.length → (flat qs us).length = qs.length * 3
  | [], us, _ => rfl
  | q :: qs, [], h => by simp at h
  | q :: qs, u :: us, h => by
    have := flat_length qs us (by simpa using h)
    simp only [flat, List.zip_cons_cons, List.flatMap_cons, List.length_append] at this ⊢
    simp only [List.length_cons, List.length_nil]
    omega
theorem flat_get : ∀ (qs : List Qu) (us : List Value), us.length = qs.length → ∀ i, i < qs.length →
    (flat qs us)[i * 3]? = some (iv (qs.getD i default).own) ∧ (flat qs us)[i * 3 + 1]? = some (us.getD i undef) ∧ (flat qs us)[i * 3 + 2]? = some (iv (qs.getD i default).gone)
  | [], us, _, i, h => by simp at h
  | q :: qs, [], h, _, _ => by simp at h
  | q :: qs, u :: us, h, 0, _ => by simp [flat]
  | q :: qs, u :: us, h, i + 1, hi => by
    have := flat_get qs us (by simpa using h) i (by simpa using hi)
    simp only [flat, List.zip_cons_cons, List.flatMap_cons] at this ⊢
    rw [show (i + 1) * 3 = i * 3 + 1 + 1 + 1 by omega]
    simpa using this
theorem flat_append (qs : List Qu) (us : List Value) (q : Qu) (u : Value) (h : us.length = qs.length) : flat (qs ++ [q]) (us ++ [u]) = flat qs us ++ [iv q.own, u, iv q.gone] := by
  simp [flat, List.zip_append h.symm]
theorem _root_.Go.Far.Row.cell {w : World} {lo hi : Nat} {p : Option Addr} {n cap : Nat} {xs : List Value} (h : Row w lo hi (.slice p n cap) n xs) (hne : 0 < xs.length) :
    ∃ b off, p = some ⟨b, off, none⟩ ∧ b < w.heap.size ∧ lo ≤ b ∧ b < hi ∧ ∀ i v, xs[i]? = some v → w.cell? ⟨b, off + i, none⟩ = some v := by
  obtain ⟨p', cap', hv, _, _, _, hx⟩ := h
  obtain ⟨b, off, hp, hlo, hhi, hr⟩ := hx (by intro e; rw [e] at hne; simp at hne)
  injection hv with h1 h2 h3
  subst h1
  have h0 : xs[0]? = some xs[0] := by simp
  exact ⟨b, off, hp, block_lt (hr 0 _ h0), hlo, hhi, fun i v hv => hr i v hv⟩
theorem getD_some {α : Type} {xs : List α} {k : Nat} {d : α} (h : k < xs.length) : xs[k]? = some (xs.getD k d) := by
  simp [h]
end Go.Proofs.Ytamcoomkoenmcaa
