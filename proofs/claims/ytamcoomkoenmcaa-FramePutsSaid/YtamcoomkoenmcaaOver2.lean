/- overSender: a walk. -/
import Derived.Test.YtamcoomkoenmcaaOver
set_option linter.unusedSimpArgs false
set_option linter.unusedVariables false
namespace Go.Proofs.Ytamcoomkoenmcaa
open Go.RowKit Go.Far
/-- overSender, at (i, k). -/
def OVI (base hi g c n : Nat) (qs : List Qu) (us : List Value) (i k : Nat) (w : World) : Prop :=
  g < hi ∧ ∃ cells : List Value, w.ownsRow base 61 3 (.slice (some ⟨g, 0, none⟩) n c) n cells ∧ (∀ j, i ≤ j → j < n → cells[j * 3 + 1]? = some (us.getD j undef)) ∧
    (∀ j, i < j → j < n → RowLive w base hi (us.getD j undef) (qs.getD j default).packs 0) ∧ (i < n → RowLive w base hi (us.getD i undef) (qs.getD i default).packs k)
theorem OVI.spoilt {base b2 hi hi2 g c n m : Nat} {qs : List Qu} {us : List Value} {i k : Nat} {w w' : World} {v : Value} (h : OVI base hi g c n qs us i k w) (hv : BOwn w b2 hi2 v m) (hs : Spoilt v w w') : OVI base hi g c n qs us i k w' := by
  obtain ⟨h0, cells, h1, h2, h3, h4⟩ := h
  exact ⟨h0, cells, own_spoilt h1 hv (by decide) hs, h2, fun j hj hjn => (h3 j hj hjn).spoilt hv hs, fun hi => (h4 hi).spoilt hv hs⟩
theorem OVI.new {base hi g c n : Nat} {qs : List Qu} {us : List Value} {i k : Nat} {w w' : World} (h : OVI base hi g c n qs us i k w) (hg : New w w') : OVI base hi g c n qs us i k w' := by
  obtain ⟨h0, cells, h1, h2, h3, h4⟩ := h
  exact ⟨h0, cells, h1.new hg, h2, fun j hj hjn => (h3 j hj hjn).new hg, fun hi => (h4 hi).new hg⟩
/-- The k-th row of the i-th queue is put away. -/
theorem OVI.next {base hi g c n gu cu m : Nat} {qs : List Qu} {us : List Value} {i k : Nat} {w : World} (h : OVI base hi g c n qs us i k w) (hin : i < n) (hu : us.getD i undef = .slice (some ⟨gu, 0, none⟩) m cu) (hm : m = (qs.getD i default).packs.length)
    (hsep : ∀ j, i < j → j < n → (us.getD j undef).ownBlock ≠ some gu) (x : Value) : OVI base hi g c n qs us i (k + 1) (w.setCell ⟨gu, k, none⟩ x) := by
  obtain ⟨h0, cells, h1, h2, h3, h4⟩ := h
  have h4' := h4 hin
  rw [hu] at h4'
  obtain ⟨p0, xs, p1, p2, p3⟩ := h4'
  rw [← hm] at p2
  obtain ⟨_, _, cur, hc⟩ := p2.elem (k := gu) rfl
  refine ⟨h0, cells, own_setCell (a := ⟨gu, k, none⟩) h1 (fun hk => own_ne h1 p2 (by decide) hk rfl) x, h2, fun j hj hjn => (h3 j hj hjn).set (a := ⟨gu, k, none⟩) hc (by decide) (hsep j hj hjn) x, fun _ => ?_⟩
  rw [hu]
  exact RowLive.next ⟨p0, xs, p1, by rw [← hm]; exact p2, p3⟩ hm x
/-- The i-th queue is put away. -/
theorem OVI.close {base hi g c n : Nat} {qs : List Qu} {us : List Value} {i k : Nat} {w : World} (h : OVI base hi g c n qs us i k w) (x y z : Value) : OVI base hi g c n qs us (i + 1) 0 (((w.setCell ⟨g, i * 3, none⟩ x).setCell ⟨g, i * 3 + 1, none⟩ y).setCell ⟨g, i * 3 + 2, none⟩ z) := by
  obtain ⟨h0, cells, h1, h2, h3, h4⟩ := h
  have s1 := (h1.stored (i * 3) x).1
  have s2 := (s1.stored (i * 3 + 1) y).1
  have s3 := (s2.stored (i * 3 + 2) z).1
  have hlive : ∀ j, i < j → j < n → RowLive (((w.setCell ⟨g, i * 3, none⟩ x).setCell ⟨g, i * 3 + 1, none⟩ y).setCell ⟨g, i * 3 + 2, none⟩ z) base hi (us.getD j undef) (qs.getD j default).packs 0 := fun j hj hjn => by
    have hl := h3 j hj hjn
    have hne : ∀ {w' : World} {cs : List Value}, RowLive w' base hi (us.getD j undef) (qs.getD j default).packs 0 → w'.ownsRow base 61 3 (.slice (some ⟨g, 0, none⟩) n c) n cs → (us.getD j undef).ownBlock ≠ some g := fun hl' ho hk => by
      obtain ⟨_, xs, _, p2, _⟩ := hl'
      exact own_ne p2 ho (by decide) hk rfl
    obtain ⟨_, _, c1, e1⟩ := h1.elem (k := g) rfl
    obtain ⟨_, _, c2, e2⟩ := s1.elem (k := g) rfl
    obtain ⟨_, _, c3, e3⟩ := s2.elem (k := g) rfl
    have l1 := hl.set (a := ⟨g, i * 3, none⟩) e1 (by decide) (hne hl h1) x
    have l2 := l1.set (a := ⟨g, i * 3 + 1, none⟩) e2 (by decide) (hne l1 s1) y
    exact l2.set (a := ⟨g, i * 3 + 2, none⟩) e3 (by decide) (hne l2 s2) z
  refine ⟨h0, _, s3, fun j hj hjn => ?_, fun j hj hjn => hlive j (by omega) hjn, fun hi => hlive (i + 1) (by omega) hi⟩
  rw [List.getElem?_set_ne (by omega), List.getElem?_set_ne (by omega), List.getElem?_set_ne (by omega)]
  exact h2 j (by omega) hjn
/-- A sender that overSender may write over: all of it lies from base on, below hi. -/
def SLive (w : World) (base hi : Nat) (v : Value) (s : Sd) : Prop :=
  ∃ us p c, v = sdVal s (.slice p s.queues.length c) ∧ us.length = s.queues.length ∧ s.queues.length ≤ 9223372036854775807 ∧ (∀ i j k, i < j → j < s.queues.length → (us.getD i undef).ownBlock = some k → (us.getD j undef).ownBlock ≠ some k) ∧
    (s.queues.length = 0 ∨ ∃ g, p = some ⟨g, 0, none⟩ ∧ OVI base hi g c s.queues.length s.queues us 0 0 w)
theorem SLive.of {w : World} {base : Nat} {v : Value} {s : Sd} (h : SOwn w base v s) : SLive w base w.heap.size v s := by
  obtain ⟨qv, rfl, us, hus, hown, hpo, hsep⟩ := h
  obtain ⟨p, c, rfl⟩ := hown.slice
  refine ⟨us, p, c, rfl, hus, ?_, hsep, ?_⟩
  · obtain ⟨_, _, h, h1, h2, _⟩ := Row.of_own hown (by decide)
    injection h with _ _ h3
    subst h3
    unfold maxLen at h2; omega
  · by_cases h0 : s.queues.length = 0
    · exact .inl h0
    · obtain ⟨g, c', e⟩ := ownsRow_form hown (by omega)
      injection e with e1 _ e3
      subst e1
      exact .inr ⟨g, rfl, (hown.elem (k := g) rfl).2.1, _, hown, fun j _ hj => (flat_get _ _ hus j hj).2.1, fun j _ hj => RowLive.of (hpo j hj), fun hi => RowLive.of (hpo 0 hi)⟩
theorem SLive.new {w w' : World} {base hi : Nat} {v : Value} {s : Sd} (h : SLive w base hi v s) (hg : New w w') : SLive w' base hi v s := by
  obtain ⟨us, p, c, h1, h2, h3, h4, h5⟩ := h
  refine ⟨us, p, c, h1, h2, h3, h4, ?_⟩
  rcases h5 with h | ⟨g, hp, h⟩
  · exact .inl h
  · exact .inr ⟨g, hp, h.new hg⟩
theorem SLive.spoilt {w w' : World} {base hi b2 hi2 m : Nat} {v u : Value} {s : Sd} (h : SLive w base hi v s) (hv : BOwn w b2 hi2 u m) (hs : Spoilt u w w') : SLive w' base hi v s := by
  obtain ⟨us, p, c, h1, h2, h3, h4, h5⟩ := h
  refine ⟨us, p, c, h1, h2, h3, h4, ?_⟩
  rcases h5 with h | ⟨g, hp, h⟩
  · exact .inl h
  · exact .inr ⟨g, hp, h.spoilt hv hs⟩
theorem BOwn.touch {w w' : World} {base hi lo2 hi2 n : Nat} {u : Value} (h : BOwn w base hi u n) (ht : Turned lo2 hi2 w w') (hb : hi ≤ lo2) : BOwn w' base hi u n := by
  obtain ⟨l, h1, h2, h0⟩ := h
  exact ⟨l, h1, h2.same fun k hk => ht.block k (h2.elem hk).2.1 (.inl (Nat.lt_of_lt_of_le (h0 k hk) hb)), h0⟩
theorem RowLive.touch {w w' : World} {base hi lo2 hi2 k : Nat} {u : Value} {ps : List (List UInt8)} (h : RowLive w base hi u ps k) (ht : Turned lo2 hi2 w w') (hb : hi ≤ lo2) : RowLive w' base hi u ps k := by
  obtain ⟨h0, xs, h1, h2, h3⟩ := h
  exact ⟨h0, xs, h1, h2.same fun k hk => ht.block k (h2.elem hk).2.1 (.inl (Nat.lt_of_lt_of_le (h0 k hk) hb)), fun j hj hjl => (h3 j hj hjl).touch ht hb⟩
theorem SLive.touch {w w' : World} {base hi lo2 hi2 : Nat} {v : Value} {s : Sd} (h : SLive w base hi v s) (ht : Turned lo2 hi2 w w') (hb : hi ≤ lo2) : SLive w' base hi v s := by
  obtain ⟨us, p, c, h1, h2, h3, h4, h5⟩ := h
  refine ⟨us, p, c, h1, h2, h3, h4, ?_⟩
  rcases h5 with h | ⟨g, hp, h0, cells, o1, o2, o3, o4⟩
  · exact .inl h
  · refine .inr ⟨g, hp, h0, cells, o1.same fun k hk => ht.block k (o1.elem hk).2.1 (.inl ?_), o2, fun j hj hjn => (o3 j hj hjn).touch ht hb, fun hi => (o4 hi).touch ht hb⟩
    have : g = k := by simpa [Value.ownBlock] using hk
    omega
end Go.Proofs.Ytamcoomkoenmcaa
