/- The region theorem: one walk in one order serves every order that the tape may draw. -/
import Derived.Test.YtamcoomkoenmcaaReg
set_option linter.unusedSimpArgs false
set_option linter.unusedVariables false
namespace Go.Far
/-- quiet: it looks at memory and nothing more; pure: it does not even look; loud: it acts, and what was there stays as it was; act: it acts. -/
inductive RKind where
  | quiet | pure | loud | act
  deriving DecidableEq
section
variable {P : Program} {ops : Array Oper} {Q : Exit → Act → World → Prop} {S : World → Prop}
def wpX (P : Program) (ops : Array Oper) (Q : Exit → Act → World → Prop) (S : World → Prop) : List (Nat × RKind) → Act → World → Prop
  | [], a, w => Q .normal a w
  | (i, .quiet) :: rest, a, w => ∃ o v, ops[i]? = some o ∧ YieldsX P ops S o v a ∧ wpX P ops Q S rest (a.put o.dst v) w
  | (i, .pure) :: rest, a, w => ∃ o v, ops[i]? = some o ∧ YieldsX P ops (fun _ => True) o v a ∧ wpX P ops Q S rest (a.put o.dst v) w
  | (i, .loud) :: rest, a, w => wpOp P ops Q i (fun a' w' => S w' ∧ wpX P ops Q S rest a' w') a w
  | (i, .act) :: rest, a, w => wpOp P ops Q i (wpX P ops Q S rest) a w
def RKind.acts : RKind → Bool
  | .loud | .act => true
  | _ => false
def RKind.apart : RKind → RKind → Bool
  | .loud, .loud | .loud, .act | .act, .loud | .act, .act | .quiet, .act | .act, .quiet => false
  | _, _ => true
theorem acts_not_apart : ∀ (j k : RKind), j.acts = true → k.acts = true → ¬ RKind.apart j k = true := by
  intro j k; cases j <;> cases k <;> decide
def okPair (ops : Array Oper) (j i : Nat × RKind) : Bool :=
  (match ops[j.1]?, ops[i.1]? with | some oj, some oi => oj.apart ops oi && oi.apart ops oj | _, _ => false) && RKind.apart j.2 i.2
theorem okPair_spec {j i : Nat × RKind} (h : okPair ops j i = true) : (∃ oj oi, ops[j.1]? = some oj ∧ ops[i.1]? = some oi ∧ oj.apart ops oi = true ∧ oi.apart ops oj = true) ∧ RKind.apart j.2 i.2 = true := by
  simp only [okPair, Bool.and_eq_true] at h
  obtain ⟨h1, h2⟩ := h
  refine ⟨?_, h2⟩
  revert h1
  cases hj : ops[j.1]? <;> cases hi : ops[i.1]? <;> intro h1 <;> first | cases h1 | exact ⟨_, _, rfl, rfl, (Bool.and_eq_true _ _ ▸ h1 : _ ∧ _)⟩
/-- A value in every world of T is taken first. -/
theorem yield_pull {T : World → Prop} (hsel : Region.noSelect ops = true) (hQ : ∀ c a w, ¬ Q (.panic c) a w) (hO : ∀ a w, ¬ Q .outgrown a w) (i : Nat) (k : RKind) (R2 : List (Nat × RKind))
    (hT : (∀ w, T w) ∧ k = .pure ∨ (∀ w, S w → T w) ∧ k = .quiet) (h0 : ∀ a w, wpX P ops Q S ((i, k) :: R2) a w → ∃ o v, ops[i]? = some o ∧ YieldsX P ops T o v a ∧ wpX P ops Q S R2 (a.put o.dst v) w) :
    ∀ (R1 : List (Nat × RKind)) (a : Act) (w : World), (∀ j ∈ R1, okPair ops j (i, k) = true) → wpX P ops Q S (R1 ++ (i, k) :: R2) a w →
      ∃ o v, ops[i]? = some o ∧ YieldsX P ops T o v a ∧ wpX P ops Q S (R1 ++ R2) (a.put o.dst v) w
  | [], a, w, _, h => h0 a w h
  | (j, kj) :: R1, a, w, hp, h => by
    obtain ⟨⟨oj, oi, hj, hi, hap, hap'⟩, hk⟩ := okPair_spec (hp (j, kj) (by simp))
    have hsj := Region.noSelect_spec hsel j oj
    have hsi := Region.noSelect_spec hsel i oi
    obtain ⟨h1, h2, h3⟩ := Oper.apart_spec hap
    have hp' : ∀ j ∈ R1, okPair ops j (i, k) = true := fun x hx => hp x (by simp [hx])
    have IH := fun a w => yield_pull hsel hQ hO i k R2 hT h0 R1 a w hp'
    have back : ∀ d u v, YieldsX P ops T oi v (({ a with defers := d } : Act).put oj.dst u) → YieldsX P ops T oi v a := fun d u v hy =>
      (hy.of_same (a' := { a with defers := d }) ((execOp_put oi (fun cs b => hsi cs b hi) _ oj.dst u h1).symm) ((wanted_put oi _ oj.dst u h1).symm)).of_same rfl rfl
    have yielding : ∀ (T' : World → Prop) (oj' : Oper) (vj : Value), ops[j]? = some oj' → YieldsX P ops T' oj' vj a → wpX P ops Q S (R1 ++ (i, k) :: R2) (a.put oj'.dst vj) w →
        ∃ o v, ops[i]? = some o ∧ YieldsX P ops T o v a ∧ YieldsX P ops T' oj' vj (a.put o.dst v) ∧ wpX P ops Q S (R1 ++ R2) ((a.put o.dst v).put oj'.dst vj) w := by
      intro T' oj' vj hj' hyj h
      have : oj' = oj := Option.some.inj (hj'.symm.trans hj)
      subst this
      obtain ⟨o, v, hi', hy, hx⟩ := IH _ w h
      have : o = oi := Option.some.inj (hi'.symm.trans hi)
      subst this
      refine ⟨o, v, hi, hy.of_same ((execOp_put o (fun cs b => hsi cs b hi) a oj'.dst vj h1).symm) ((wanted_put o a oj'.dst vj h1).symm), hyj.of_same (execOp_put oj' (fun cs b => hsj cs b hj) a o.dst v h3) (wanted_put oj' a o.dst v h3), ?_⟩
      rw [← Act.put_comm a vj v h2]; exact hx
    have acting : ∀ (C : World → Prop), (∀ w', C w' → T w') → wpOp P ops Q j (fun a' w' => C w' ∧ wpX P ops Q S (R1 ++ (i, k) :: R2) a' w') a w →
        ∃ o v, ops[i]? = some o ∧ YieldsX P ops T o v a ∧ wpOp P ops Q j (fun a' w' => C w' ∧ wpX P ops Q S (R1 ++ R2) a' w') (a.put o.dst v) w := by
      intro C hC h
      obtain ⟨d, u, w', hS', hr⟩ := wpOp_reach hj hQ hO h
      obtain ⟨o, v, hi', hy, _⟩ := IH _ w' hr
      have : o = oi := Option.some.inj (hi'.symm.trans hi)
      subst this
      refine ⟨o, v, hi, back d u v hy, ?_⟩
      refine wpOp_lay (oi := o) hj hap' (fun cs b => hsj cs b hj) hQ (fun a' w' ha hk => ?_) h
      obtain ⟨d', u', rfl⟩ := ha
      obtain ⟨hSw, hk⟩ := hk
      obtain ⟨o', v', hi'', hy', hx⟩ := IH _ w' hk
      have : o' = o := Option.some.inj (hi''.symm.trans hi)
      subst this
      have : v' = v := YieldsX.uniq (hC _ hSw) (back d' u' v' hy') (back d u v hy)
      subst this
      exact ⟨hSw, hx⟩
    cases kj with
    | quiet =>
      obtain ⟨oj', vj, hj', hyj, h⟩ := h
      obtain ⟨o, v, h4, h5, h6, h7⟩ := yielding S oj' vj hj' hyj h
      exact ⟨o, v, h4, h5, oj', vj, hj', h6, h7⟩
    | pure =>
      obtain ⟨oj', vj, hj', hyj, h⟩ := h
      obtain ⟨o, v, h4, h5, h6, h7⟩ := yielding _ oj' vj hj' hyj h
      exact ⟨o, v, h4, h5, oj', vj, hj', h6, h7⟩
    | loud =>
      obtain ⟨o, v, h4, h5, h6⟩ := acting S (fun w' hw => hT.elim (fun hT => hT.1 w') (fun hT => hT.1 w' hw)) h
      exact ⟨o, v, h4, h5, h6⟩
    | act =>
      have hT' : ∀ w, T w := by
        rcases hT with ⟨hT, _⟩ | ⟨_, rfl⟩
        · exact hT
        · cases hk
      obtain ⟨o, v, h4, h5, h6⟩ := acting (fun _ => True) (fun w' _ => hT' w') (wpOp_mono (fun a' w' h => ⟨trivial, h⟩) h)
      exact ⟨o, v, h4, h5, wpOp_mono (fun a' w' h => h.2) h6⟩
/-- What acts is taken first. -/
theorem act_pull {C : World → Prop} (hsel : Region.noSelect ops = true) (hQ : ∀ c a w, ¬ Q (.panic c) a w) (i : Nat) (k : RKind) (R2 : List (Nat × RKind)) (hka : k.acts = true)
    (h0 : ∀ a w, wpX P ops Q S ((i, k) :: R2) a w → wpOp P ops Q i (fun a' w' => C w' ∧ wpX P ops Q S R2 a' w') a w) :
    ∀ (R1 : List (Nat × RKind)) (a : Act) (w : World), (∀ j ∈ R1, okPair ops j (i, k) = true) → wpX P ops Q S (R1 ++ (i, k) :: R2) a w →
      wpOp P ops Q i (fun a' w' => C w' ∧ wpX P ops Q S (R1 ++ R2) a' w') a w
  | [], a, w, _, h => h0 a w h
  | (j, kj) :: R1, a, w, hp, h => by
    obtain ⟨⟨oj, oi, hj, hi, hap, hap'⟩, hk⟩ := okPair_spec (hp (j, kj) (by simp))
    have hp' : ∀ j ∈ R1, okPair ops j (i, k) = true := fun x hx => hp x (by simp [hx])
    have yielding : ∀ (T' : World → Prop) (oj' : Oper) (vj : Value), ops[j]? = some oj' → YieldsX P ops T' oj' vj a → wpX P ops Q S (R1 ++ (i, k) :: R2) (a.put oj'.dst vj) w →
        wpOp P ops Q i (fun a' w' => YieldsX P ops T' oj' vj a' ∧ C w' ∧ wpX P ops Q S (R1 ++ R2) (a'.put oj'.dst vj) w') a w := by
      intro T' oj' vj hj' hyj h
      have : oj' = oj := Option.some.inj (hj'.symm.trans hj)
      subst this
      exact wpOp_putX hi hap (Region.noSelect_spec hsel j oj' · · hj) (Region.noSelect_spec hsel i oi · · hi) (fun c a w hq => absurd hq (hQ _ _ _)) hyj (act_pull hsel hQ i k R2 hka h0 R1 _ w hp' h)
    cases kj with
    | loud => exact absurd hk (acts_not_apart _ _ rfl hka)
    | act => exact absurd hk (acts_not_apart _ _ rfl hka)
    | quiet =>
      obtain ⟨oj', vj, hj', hyj, h⟩ := h
      exact wpOp_mono (fun a' w' h3 => ⟨h3.2.1, oj', vj, hj', h3.1, h3.2.2⟩) (yielding S oj' vj hj' hyj h)
    | pure =>
      obtain ⟨oj', vj, hj', hyj, h⟩ := h
      exact wpOp_mono (fun a' w' h3 => ⟨h3.2.1, oj', vj, hj', h3.1, h3.2.2⟩) (yielding _ oj' vj hj' hyj h)
/-- Is there a way from j to i by the edges? -/
def reach (ops : Array Oper) : Nat → Nat → Nat → Bool
  | 0, _, _ => false
  | f + 1, j, i => match ops[i]? with
    | some o => o.after.any fun e => Region.binds .any e && (e.on == j || reach ops f j e.on)
    | none => false
def Closed (ops : Array Oper) (listed : Array Bool) : Prop :=
  ∀ j oj, ops[j]? = some oj → listed.getD j false = true → ∀ e ∈ oj.after, Region.binds .any e = true → listed.getD e.on false = true
theorem reach_spec {listed : Array Bool} (hc : Closed ops listed) : ∀ (f j i : Nat) (o : Oper), ops[i]? = some o → (∀ e ∈ o.after, Region.binds .any e = true → listed.getD e.on false = true) →
    reach ops f j i = true → listed.getD j false = true
  | 0, _, _, _, _, _, h => by cases h
  | f + 1, j, i, o, hi, hall, h => by
    simp only [reach, hi] at h
    obtain ⟨e, he, hb⟩ := Array.any_eq_true'.1 h
    simp only [Bool.and_eq_true, Bool.or_eq_true, beq_iff_eq] at hb
    obtain ⟨hb, hon⟩ := hb
    have hl := hall e he hb
    rcases hon with hon | hon
    · rw [← hon]; exact hl
    · cases ho : ops[e.on]? with
      | none => cases f <;> simp [reach, ho] at hon
      | some oe => exact reach_spec hc f j e.on oe ho (fun e' he' hb' => hc e.on oe ho hl e' he' hb') hon
/-- x stands ahead of y. -/
def pairB (ops : Array Oper) (x y : Nat × RKind) : Bool :=
  (okPair ops x y || reach ops 12 x.1 y.1) && (match ops[x.1]? with | some o => o.after.all fun e => !Region.binds .any e || e.on != y.1 | none => false) && !(x.2 == .act && (y.2 == .quiet || y.2 == .loud))
def pairsB (ops : Array Oper) : List (Nat × RKind) → Bool
  | [] => true
  | x :: l => l.all (pairB ops x) && pairsB ops l
theorem pairsB_spec : ∀ {l : List (Nat × RKind)}, pairsB ops l = true → l.Pairwise fun x y => pairB ops x y = true
  | [], _ => .nil
  | x :: l, h => by
    simp only [pairsB, Bool.and_eq_true, List.all_eq_true] at h
    exact .cons h.1 (pairsB_spec h.2)
structure RInv (ops : Array Oper) (listed : Array Bool) (R : List (Nat × RKind)) : Prop where
  size : listed.size = ops.size
  closed : Closed ops listed
  pw : R.Pairwise fun x y => pairB ops x y = true
  nodup : (R.map (·.1)).Nodup
  un : ∀ x ∈ R, listed.getD x.1 true = false
  all : ∀ i, i < ops.size → listed.getD i true = false → ∃ x ∈ R, x.1 = i
  self : ∀ x ∈ R, ∃ o, ops[x.1]? = some o ∧ ∀ e ∈ o.after, Region.binds .any e = true → e.on < ops.size ∧ e.on ≠ x.1
theorem getD_sz {listed : Array Bool} {i : Nat} (hi : i < listed.size) : listed.getD i true = listed.getD i false := by simp [hi]
theorem wpX_any (hsel : Region.noSelect ops = true) (hQ : ∀ c a w, ¬ Q (.panic c) a w) (hO : ∀ a w, ¬ Q .outgrown a w) :
    ∀ (fuel : Nat) (R : List (Nat × RKind)) (listed : Array Bool) (a : Act) (w : World), R.length = fuel → RInv ops listed R → (S w ∨ ∀ x ∈ R, x.2 = .pure ∨ x.2 = .act) →
      wpX P ops Q S R a w → wpAny P .any ops Q fuel listed a w
  | 0, R, listed, a, w, hlen, inv, _, h => by
    have : R = [] := List.eq_nil_of_length_eq_zero hlen
    subst this
    refine ⟨?_, h⟩
    cases hr : Region.ready .any ops listed with
    | nil => rfl
    | cons i rs =>
      have hi : i ∈ Region.ready .any ops listed := by rw [hr]; simp
      obtain ⟨h0, o, ho, _⟩ := mem_ready.1 hi
      obtain ⟨x, hx, _⟩ := inv.all i (Array.getElem?_eq_some_iff.1 ho).1 h0
      cases hx
  | fuel + 1, R, listed, a, w, hlen, inv, hS, h => by
    refine ⟨fun h0 => ?_, fun i hi => ?_⟩
    · -- the first of R is ready
      exfalso
      cases R with
      | nil => cases hlen
      | cons x R =>
        have : x.1 ∈ Region.ready .any ops listed := by
          obtain ⟨o, ho, hall⟩ := inv.self x (by simp)
          refine mem_ready.2 ⟨inv.un x (by simp), o, ho, fun e he hb => ?_⟩
          obtain ⟨hlt, hne⟩ := hall e he hb
          cases hl : listed.getD e.on false with
          | true => rfl
          | false =>
            exfalso
            obtain ⟨y, hy, hye⟩ := inv.all e.on hlt (by rw [getD_sz (by rw [inv.size]; exact hlt)]; exact hl)
            rcases List.mem_cons.1 hy with rfl | hy
            · exact hne hye.symm
            · have hp := (List.pairwise_cons.1 inv.pw).1 y hy
              simp only [pairB, ho, Bool.and_eq_true, Array.all_eq_true_iff_forall_mem, Bool.or_eq_true, Bool.not_eq_true', bne_iff_ne] at hp
              rcases hp.1.2 e he with hp' | hp'
              · rw [hb] at hp'; cases hp'
              · exact hp' hye.symm
        rw [h0] at this; cases this
    · obtain ⟨h0, o, ho, hall⟩ := mem_ready.1 hi
      obtain ⟨⟨i', k⟩, hx, hxe⟩ := inv.all i (Array.getElem?_eq_some_iff.1 ho).1 h0
      simp only at hxe
      subst hxe
      obtain ⟨R1, R2, rfl⟩ := List.append_of_mem hx
      have hsub : (R1 ++ R2).Sublist (R1 ++ (i', k) :: R2) := List.Sublist.append_left (List.sublist_cons_self _ _) _
      have hne : ∀ x ∈ R1 ++ R2, x.1 ≠ i' := by
        have hn := inv.nodup
        rw [List.map_append, List.map_cons, List.nodup_append] at hn
        obtain ⟨_, hn2, hn3⟩ := hn
        intro x hx he
        rcases List.mem_append.1 hx with hx | hx
        · exact hn3 x.1 (List.mem_map_of_mem hx) i' (by simp) he
        · exact (List.nodup_cons.1 hn2).1 (List.mem_map.2 ⟨x, hx, he⟩)
      have hok : ∀ j ∈ R1, okPair ops j (i', k) = true := by
        intro j hj
        have hp := (List.pairwise_append.1 inv.pw).2.2 j hj (i', k) (by simp)
        simp only [pairB, Bool.and_eq_true, Bool.or_eq_true] at hp
        rcases hp.1.1 with hp | hp
        · exact hp
        · have h1 := reach_spec inv.closed 12 j.1 i' o ho hall hp
          have h2 := inv.un j (by simp [hj])
          exfalso
          rcases Nat.lt_or_ge j.1 listed.size with hl | hl
          · rw [getD_sz hl, h1] at h2; cases h2
          · simp [Array.getElem?_eq_none hl] at h1
      have inv' : RInv ops (listed.setIfInBounds i' true) (R1 ++ R2) := by
        refine ⟨by simp [inv.size], ?_, inv.pw.sublist hsub, inv.nodup.sublist (hsub.map _), fun x hx => ?_, fun j hj hl => ?_, fun x hx => inv.self x (hsub.subset hx)⟩
        · intro j oj hj hl e he hb
          by_cases hij : i' = j
          · subst hij
            have : oj = o := Option.some.inj (hj.symm.trans ho)
            subst this
            exact getD_set_true (hall e he hb)
          · rw [getD_set_ne false hij] at hl
            exact getD_set_true (inv.closed j oj hj hl e he hb)
        · rw [getD_set_ne true (Ne.symm (hne x hx))]; exact inv.un x (hsub.subset hx)
        · by_cases hij : i' = j
          · subst hij; simp [inv.size, hj] at hl
          · rw [getD_set_ne true hij] at hl
            obtain ⟨x, hx, hxe⟩ := inv.all j hj hl
            rcases List.mem_append.1 hx with hx | hx
            · exact ⟨x, by simp [hx], hxe⟩
            · rcases List.mem_cons.1 hx with rfl | hx
              · exact absurd hxe hij
              · exact ⟨x, by simp [hx], hxe⟩
      have hlen' : (R1 ++ R2).length = fuel := by simp at hlen ⊢; omega
      have hsub' : ∀ x ∈ R1 ++ R2, x ∈ R1 ++ (i', k) :: R2 := fun x hx => hsub.subset hx
      cases k with
      | act =>
        -- behind an act nothing looks any more
        have hlast : ∀ x ∈ R1 ++ R2, x.2 = .pure ∨ x.2 = .act := by
          intro x hx
          rcases List.mem_append.1 hx with hx | hx
          · have := (okPair_spec (hok x hx)).2
            revert this
            cases x.2 <;> simp [RKind.apart]
          · have hp := (List.pairwise_cons.1 (List.pairwise_append.1 inv.pw).2.1).1 x hx
            simp only [pairB, Bool.and_eq_true, Bool.not_eq_true'] at hp
            have := hp.2
            revert this
            cases x.2 <;> simp
        have h1 := act_pull (C := fun _ => True) hsel hQ i' .act R2 rfl (fun a w h => wpOp_mono (fun a' w' h => ⟨trivial, h⟩) h) R1 a w hok h
        exact wpOp_mono (fun a' w' h' => wpX_any hsel hQ hO fuel (R1 ++ R2) _ a' w' hlen' inv' (.inr hlast) h'.2) h1
      | quiet =>
        have hSw : S w := hS.resolve_right fun h => by have := h (i', .quiet) (by simp); simp at this
        obtain ⟨o', v, hi', hy, hx⟩ := yield_pull (T := S) hsel hQ hO i' .quiet R2 (.inr ⟨fun _ h => h, rfl⟩) (fun a w h => h) R1 a w hok h
        exact hy.wpOp hi' hSw (wpX_any hsel hQ hO fuel (R1 ++ R2) _ _ w hlen' inv' (.inl hSw) hx)
      | pure =>
        obtain ⟨o', v, hi', hy, hx⟩ := yield_pull (T := fun _ => True) hsel hQ hO i' .pure R2 (.inl ⟨fun _ => trivial, rfl⟩) (fun a w h => h) R1 a w hok h
        refine hy.wpOp hi' trivial (wpX_any hsel hQ hO fuel (R1 ++ R2) _ _ w hlen' inv' ?_ hx)
        rcases hS with hS | hS
        · exact .inl hS
        · exact .inr fun x hx => hS x (hsub' x hx)
      | loud => exact wpOp_mono (fun a' w' h' => wpX_any hsel hQ hO fuel (R1 ++ R2) _ a' w' hlen' inv' (.inl h'.1) h'.2) (act_pull (C := S) hsel hQ i' .loud R2 rfl (fun a w h => h) R1 a w hok h)
end
end Go.Far
