/- The region theorem, as a walk uses it: masks say which operations come first, which act, which are the tail. -/
import Derived.Test.YtamcoomkoenmcaaReg2
import Derived.StillTail
set_option linter.unusedSimpArgs false
set_option linter.unusedVariables false
namespace Go.Far
/-- Neither a panic nor an outgrown memory is allowed. -/
def NoP (Q : Exit → Act → World → Prop) : Exit → Act → World → Prop
  | .panic _, _, _ => False
  | .outgrown, _, _ => False
  | e, a, w => Q e a w
theorem NoP.imp {Q : Exit → Act → World → Prop} : ∀ (e : Exit) (a : Act) (w : World), NoP Q e a w → Q e a w := fun e a w h => by cases e <;> first | exact h | exact (h : False).elim
def pickB : List Oper → List Bool → List Oper
  | o :: l, true :: m => o :: pickB l m
  | _ :: l, false :: m => pickB l m
  | _, _ => []
def maskIdx : Nat → List Bool → List Nat
  | _, [] => []
  | k, true :: m => k :: maskIdx (k + 1) m
  | k, false :: m => maskIdx (k + 1) m
def plainAll (P : Program) (a : Act) : List Oper → Bool
  | [] => true
  | o :: l => plainOp P a.eval o && plainAll P a l
section
variable {P : Program} {ops : Array Oper}
theorem wpOps_mask {Q : Exit → Act → World → Prop} : ∀ (l : List Oper) (m : List Bool) (k : Nat), m.length ≤ l.length → (∀ j, l[j]? = ops[k + j]?) → wpOps P ops Q (maskIdx k m) = wpList P ops Q (pickB l m)
  | [], [], _, _, _ => by funext a w; simp [maskIdx, pickB, wpOps, wpList]
  | _ :: _, [], _, _, _ => by funext a w; simp [maskIdx, pickB, wpOps, wpList]
  | [], _ :: _, _, h, _ => by simp at h
  | o :: l, b :: m, k, hlen, h => by
    have h0 : ops[k]? = some o := by simpa using (h 0).symm
    have ih := wpOps_mask (Q := Q) l m (k + 1) (by simpa using hlen) (fun j => by have := h (j + 1); simpa [Nat.add_assoc, Nat.add_comm 1 j] using this)
    funext a w
    cases b with
    | true => simp only [maskIdx, pickB, wpOps, h0, wpList, ih]
    | false => simp only [maskIdx, pickB, ih]
theorem pickB_idx : ∀ (l : List Oper) (m : List Bool) (k : Nat), m.length ≤ l.length → (∀ j, l[j]? = ops[k + j]?) → (maskIdx k m).filterMap (ops[·]?) = pickB l m
  | [], [], _, _, _ => by simp [maskIdx, pickB]
  | _ :: _, [], _, _, _ => by simp [maskIdx, pickB]
  | [], _ :: _, _, h, _ => by simp at h
  | o :: l, b :: m, k, hlen, h => by
    have h0 : ops[k]? = some o := by simpa using (h 0).symm
    have ih := pickB_idx l m (k + 1) (by simpa using hlen) (fun j => by have := h (j + 1); simpa [Nat.add_assoc, Nat.add_comm 1 j] using this)
    cases b with
    | true => simp only [maskIdx, pickB, List.filterMap_cons, h0, ih]
    | false => simp only [maskIdx, pickB, ih]
/-- Its operands are not written over behind it. -/
def needsPlain (o : Oper) : Bool := match o.op with | .binOp .. | .convert .. | .nilCheck _ => true | _ => false
def stableB (ops : Array Oper) : List Oper → Bool
  | [] => true
  | o :: l => (!needsPlain o || (o :: l).all fun x => match x.dst with | some d => !(o.looksAt ops).contains d | none => true) && stableB ops l
theorem plainOp_congr {ρ ρ' : Operand → Value} {o : Oper} (h : ∀ x ∈ o.op.operands, ρ x = ρ' x) : plainOp P ρ o = plainOp P ρ' o := by
  obtain ⟨dst, op, type, pos, after, guard⟩ := o
  cases op <;> simp only [plainOp] <;> simp only [Op.operands] at h
  case nilCheck x => rw [h x (by simp)]
  case binOp op t x y ty => rw [h x (by simp), h y (by simp)]
  case convert s d x => rw [h x (by simp)]
/-- A quiet run comes to an end, and leaves alone what it does not write. -/
theorem wpOps_end {Q : Exit → Act → World → Prop} {K : Act → World → Prop} (hQ : ∀ c a w, ¬ Q (.panic c) a w) (hO : ∀ a w, ¬ Q .outgrown a w) :
    ∀ (is : List Nat) (l : List Oper) (a : Act) (w : World), is.map (ops[·]?) = l.map some → wpOps P ops (Exit.then K Q) is a w →
      ∃ a1 w1, K a1 w1 ∧ ∀ t, (∀ o ∈ l, o.dst ≠ some t) → a1.tmps.getD t undef = a.tmps.getD t undef
  | [], l, a, w, hl, h => ⟨a, w, h, fun _ _ => rfl⟩
  | i :: is, [], a, w, hl, h => by simp at hl
  | i :: is, o :: l, a, w, hl, h => by
    simp only [List.map_cons, List.cons.injEq] at hl
    obtain ⟨hi, hl⟩ := hl
    rw [wpOps_cons] at h
    obtain ⟨d, u, w', h⟩ := wpOp_reach (Q := Exit.then K Q) hi (fun c a w hq => hQ c a w hq) (fun a w hq => hO a w hq) h
    obtain ⟨a1, w1, hK, ht⟩ := wpOps_end hQ hO is l _ w' hl h
    refine ⟨a1, w1, hK, fun t hn => (ht t fun o' ho' => hn o' (by simp [ho'])).trans ?_⟩
    have hne := hn o (by simp)
    cases hd : o.dst with
    | none => rfl
    | some d' =>
      have : d' ≠ t := fun e => hne (by rw [hd, e])
      simp [Act.put, Array.getElem?_setIfInBounds_ne this]
theorem plainAll_mem {a : Act} : ∀ (l : List Oper), plainAll P a l = true → ∀ o ∈ l, plainOp P a.eval o = true
  | [], _, _, h => by cases h
  | x :: l, h, o, ho => by
    simp only [plainAll, Bool.and_eq_true] at h
    rcases List.mem_cons.1 ho with rfl | ho
    · exact h.1
    · exact plainAll_mem l h.2 o ho
theorem eval_of_tmps {a a1 : Act} {x : Operand} (h : ∀ t, x = .tmp t → a1.tmps.getD t undef = a.tmps.getD t undef) : a1.eval x = a.eval x := by
  cases x with
  | tmp t => exact h t rfl
  | _ => rfl
/-- A quiet stretch, walked in one order, becomes a row of values. -/
theorem wpX_quiet (k : RKind) {T : World → Prop} {Q : Exit → Act → World → Prop} {S : World → Prop} {K : Act → World → Prop} {rest : List (Nat × RKind)} {rd : Bool} {w : World} (hQ : ∀ c a w, ¬ Q (.panic c) a w) (hO : ∀ a w, ¬ Q .outgrown a w)
    (hk : ∀ (i : Nat) (o : Oper) (v : Value) (rest : List (Nat × RKind)) (a : Act), ops[i]? = some o → YieldsX P ops T o v a → wpX P ops Q S rest (a.put o.dst v) w → wpX P ops Q S ((i, k) :: rest) a w)
    (hS : ∀ w', T w' → rd = true → Ext w w') (last : List Oper)
    (hK : ∀ a1, K a1 w → wpX P ops Q S rest a1 w) (hp : ∀ a1 w1, K a1 w1 → plainAll P a1 last = true) :
    ∀ (is : List Nat) (l : List Oper) (a : Act), is.map (ops[·]?) = l.map some → (∀ o ∈ l, quietB rd P o = true) → (∀ o ∈ l, needsPlain o = true → o ∈ last) → stableB ops l = true → wpOps P ops (Exit.then K Q) is a w → wpX P ops Q S (is.map (·, k) ++ rest) a w
  | [], l, a, hl, _, _, _, h => hK a h
  | i :: is, [], a, hl, _, _, _, h => by simp at hl
  | i :: is, o :: l, a, hl, hq, hlast, hst, h => by
    have hl0 := hl
    simp only [List.map_cons, List.cons.injEq] at hl
    obtain ⟨hi, hl⟩ := hl
    simp only [stableB, Bool.and_eq_true, Bool.or_eq_true, Bool.not_eq_true', List.all_eq_true] at hst
    have ih := wpX_quiet k hQ hO hk hS last hK hp is l
    have hpl : plainOp P a.eval o = true := by
      by_cases hn : needsPlain o = true
      · obtain ⟨a1, w1, hk, ht⟩ := wpOps_end hQ hO (i :: is) (o :: l) a w hl0 h
        have hpa := hp a1 w1 hk
        have hmem := hlast o (by simp) hn
        have h1 : plainOp P a1.eval o = true := plainAll_mem last hpa o hmem
        have hsl : ∀ x ∈ o :: l, ∀ d, x.dst = some d → d ∉ o.looksAt ops := by
          intro x hx d hd
          have := (hst.1.resolve_left (by simp [hn])) x hx
          simp only [hd] at this
          simpa using this
        rw [← h1]
        refine plainOp_congr fun x hx => (eval_of_tmps fun t ht' => ht t fun o' ho' e => hsl o' ho' t e ?_).symm
        subst ht'
        exact List.mem_append_left _ (List.mem_filterMap.2 ⟨.tmp t, by simpa using hx, rfl⟩)
      · obtain ⟨dst, op, type, pos, after, guard⟩ := o
        cases op <;> simp [needsPlain] at hn <;> rfl
    rw [wpOps_cons] at h
    unfold wpOp at h
    simp only [hi] at h
    by_cases hw : Region.wanted o (yielded ops a.tmps) = true
    · simp only [hw, if_true] at h
      rcases h with h | ⟨_, a₀, w₀, h⟩
      case inr => exact absurd h (hO _ _)
      obtain ⟨e, he, hm⟩ := mild_exec (hq o (by simp)) hpl
      unfold Oper.wp at h
      rw [he, Sem.run_bind] at h
      cases hr : e.run P w with
      | halt x w1 =>
        rw [hr] at h
        cases x <;> simp only [Result.andThen, Oper.upon] at h
        exact absurd h (hQ _ _ _)
      | ok v w1 =>
        rw [hr] at h
        obtain ⟨rfl, hall⟩ := mild_run e w w1 v hm hr
        refine hk i o v _ a hi (.inl ⟨hw, fun w' hw' => ?_⟩) (ih _ hl (fun x hx => hq x (by simp [hx])) (fun x hx => hlast x (by simp [hx])) hst.2 h)
        rw [he, Sem.run_bind, hall w' (hS w' hw')]
        rfl
    · simp only [hw] at h
      exact hk i o undef _ a hi (.inr ⟨by simpa using hw, rfl⟩) (ih _ hl (fun x hx => hq x (by simp [hx])) (fun x hx => hlast x (by simp [hx])) hst.2 h)
theorem wpOp_exit {Q Q' : Exit → Act → World → Prop} {K : Act → World → Prop} (hQ : ∀ c a w, Q (.panic c) a w → Q' (.panic c) a w) (hO : ∀ a w, Q .outgrown a w → Q' .outgrown a w) {i : Nat} {a : Act} {w : World}
    (h : wpOp P ops Q i K a w) : wpOp P ops Q' i K a w := by
  unfold wpOp at *
  split
  · rename_i hi; simp only [hi] at h; exact h
  · rename_i o hi
    simp only [hi] at h
    split
    · rename_i hw
      simp only [hw, if_true] at h
      rcases h with h | ⟨hasks, a₀, w₀, h⟩
      · refine .inl ?_
        unfold Oper.wp at *
        generalize (execOp a.eval o).run P w = r at *
        cases r with
        | ok n w' =>
          cases n <;> simp only [Oper.upon] at h ⊢ <;> try exact h
          exact Calls.mono h fun e w'' he => by
            cases e with
            | returned u => exact he
            | panicked c => exact hQ _ _ _ he
            | outgrown => obtain ⟨a₀, w₀, h0⟩ := he; exact ⟨a₀, w₀, hO _ _ h0⟩
        | halt x w' => cases x <;> simp only [Oper.upon] at h ⊢; exact hQ _ _ _ h
      · exact .inr ⟨hasks, a₀, w₀, hO _ _ h⟩
    · rename_i hw; simp only [hw] at h; exact h
theorem wpX_act {Q : Exit → Act → World → Prop} {S : World → Prop} {K : Act → World → Prop} {rest : List (Nat × RKind)} (hK : ∀ a w, K a w → wpX P ops Q S rest a w) :
    ∀ (is : List Nat) (a : Act) (w : World), wpOps P ops (Exit.then K Q) is a w → wpX P ops Q S (is.map (·, .act) ++ rest) a w
  | [], a, w, h => hK a w h
  | i :: is, a, w, h => by
    rw [wpOps_cons] at h
    exact wpOp_mono (fun a' w' h' => wpX_act hK is a' w' h') (wpOp_exit (Q' := Q) (fun _ _ _ h => h) (fun _ _ h => h) h)
/-- What acts, one after another; between them what does not even look. -/
def wpMid (P : Program) (ops : Array Oper) (Q : Exit → Act → World → Prop) (l : List Oper) (w0 : World) : List (RKind × List Bool) → Act → World → Prop
  | [], a, w => Q .normal a w
  | (.loud, m) :: more, a, w => wpList P ops (Exit.then (fun a' w' => Ext w0 w' ∧ wpMid P ops Q l w0 more a' w') (NoP Q)) (pickB l m) a w
  | (.act, m) :: more, a, w => wpList P ops (Exit.then (fun a' w' => wpMid P ops Q l w0 more a' w') (NoP Q)) (pickB l m) a w
  | (.pure, m) :: more, a, w => wpList P ops (Exit.then (fun a' w' => wpMid P ops Q l w0 more a' w') (NoP Q)) (pickB l m) a w
  | (.quiet, _) :: _, _, _ => False
def midBase : List (RKind × List Bool) → List (Nat × RKind)
  | [] => []
  | (k, m) :: more => (maskIdx 0 m).map (·, k) ++ midBase more
def midOk (P : Program) (l : List Oper) : List (RKind × List Bool) → Bool
  | [] => true
  | (.loud, m) :: more => decide (m.length ≤ l.length) && decide ((maskIdx 0 m).length = 1) && midOk P l more
  | (.act, m) :: more => decide (m.length ≤ l.length) && midOk P l more
  | (.pure, m) :: more => decide (m.length ≤ l.length) && (pickB l m).all (fun o => quietB false P o && !needsPlain o) && stableB l.toArray (pickB l m) && midOk P l more
  | (.quiet, _) :: _ => false
def selfB (ops : Array Oper) (base : List (Nat × RKind)) : Bool :=
  base.all fun x => match ops[x.1]? with
    | some o => o.after.all fun e => !Region.binds .any e || (decide (e.on < ops.size) && e.on != x.1)
    | none => false
def nodupB : List Nat → Bool
  | [] => true
  | x :: l => !l.contains x && nodupB l
theorem nodupB_spec : ∀ {l : List Nat}, nodupB l = true → l.Nodup
  | [], _ => .nil
  | x :: l, h => by
    simp only [nodupB, Bool.and_eq_true, Bool.not_eq_true'] at h
    exact List.nodup_cons.2 ⟨by simpa using h.1, nodupB_spec h.2⟩
/-- The closed facts on a region and a plan. -/
def planB (P : Program) (l : List Oper) (pre : List Bool) (mid : List (RKind × List Bool)) : Bool :=
  let base := (maskIdx 0 pre).map (·, RKind.quiet) ++ midBase mid
  Region.noSelect l.toArray && decide (pre.length ≤ l.length) && (pickB l pre).all (quietB true P) && stableB l.toArray (pickB l pre) && midOk P l mid &&
    decide (base.length = l.length) && nodupB (base.map (·.1)) && (List.range l.length).all (fun i => (base.map (·.1)).contains i) && selfB l.toArray base && pairsB l.toArray base
theorem mask_map (l : List Oper) (m : List Bool) (h : m.length ≤ l.length) : ∀ (k : Nat), (∀ j, l[j]? = ops[k + j]?) → (maskIdx k m).map (ops[·]?) = (pickB l m).map some := by
  induction l generalizing m with
  | nil => intro k _; cases m with
    | nil => simp [maskIdx, pickB]
    | cons b m => simp at h
  | cons o l ih =>
    intro k hk
    cases m with
    | nil => simp [maskIdx, pickB]
    | cons b m =>
      have h0 : ops[k]? = some o := by simpa using (hk 0).symm
      have ih' := ih m (by simpa using h) (k + 1) (fun j => by have := hk (j + 1); simpa [Nat.add_assoc, Nat.add_comm 1 j] using this)
      cases b with
      | true => simp only [maskIdx, pickB, List.map_cons, h0, ih']
      | false => simp only [maskIdx, pickB, ih']
theorem wpX_mid {Q : Exit → Act → World → Prop} {l : List Oper} {w0 : World} :
    ∀ (mid : List (RKind × List Bool)) (a : Act) (w : World), midOk P l mid = true → wpMid P l.toArray Q l w0 mid a w → wpX P l.toArray (NoP Q) (Ext w0) (midBase mid) a w
  | [], a, w, _, h => h
  | (.quiet, m) :: more, a, w, hok, h => h.elim
  | (.loud, m) :: more, a, w, hok, h => by
    simp only [midOk, Bool.and_eq_true, decide_eq_true_eq] at hok
    obtain ⟨⟨hlen, h1⟩, hmore⟩ := hok
    simp only [wpMid] at h
    rw [← wpOps_mask l m 0 hlen (by simp)] at h
    simp only [midBase]
    match hm : maskIdx 0 m, h1 with
    | [i], _ =>
      rw [hm] at h
      rw [wpOps_cons] at h
      refine wpOp_mono (fun a' w' h' => ⟨h'.1, wpX_mid more a' w' hmore h'.2⟩) (wpOp_exit (Q := Exit.then (fun a' w' => Ext w0 w' ∧ wpMid P l.toArray Q l w0 more a' w') (NoP Q)) (fun _ _ _ h => h) (fun _ _ h => h) h)
  | (.act, m) :: more, a, w, hok, h => by
    simp only [midOk, Bool.and_eq_true, decide_eq_true_eq] at hok
    obtain ⟨hlen, hmore⟩ := hok
    simp only [wpMid] at h
    rw [← wpOps_mask l m 0 hlen (by simp)] at h
    exact wpX_act (K := fun a' w' => wpMid P l.toArray Q l w0 more a' w') (fun a' w' h' => wpX_mid more a' w' hmore h') _ a w h
  | (.pure, m) :: more, a, w, hok, h => by
    simp only [midOk, Bool.and_eq_true, decide_eq_true_eq, List.all_eq_true, Bool.not_eq_true'] at hok
    obtain ⟨⟨⟨hlen, hq⟩, hst⟩, hmore⟩ := hok
    simp only [wpMid] at h
    rw [← wpOps_mask l m 0 hlen (by simp)] at h
    exact wpX_quiet .pure (Q := NoP Q) (T := fun _ => True) (rd := false) (K := fun a' w' => wpMid P l.toArray Q l w0 more a' w') (fun _ _ _ h => h) (fun _ _ h => h) (fun i o v rest a hi hy hx => ⟨o, v, hi, hy, hx⟩) (fun _ _ h => by cases h) [] (fun a1 h1 => wpX_mid more a1 w hmore h1) (fun _ _ _ => rfl)
      (maskIdx 0 m) (pickB l m) a (mask_map l m hlen 0 (by simp)) (fun o ho => (hq o ho).1) (fun o ho hn => by rw [(hq o ho).2] at hn; cases hn) hst h
theorem wp_region_x {id : Nat} {l : List Oper} {Q : Exit → Act → World → Prop} {a : Act} {w : World} (pre : List Bool) (mid : List (RKind × List Bool))
    (hm : P.follows .mixedOrders = true) (hB : planB P l pre mid = true)
    (h : wpList P l.toArray (Exit.then (fun a1 w1 => plainAll P a1 (pickB l pre) = true ∧ wpMid P l.toArray Q l w.drew mid a1 w1) (NoP Q)) (pickB l pre) a w.drew) : (Code.region id l.toArray true).wp P Q a w := by
  refine Code.wp_mono (Q := NoP Q) NoP.imp ?_
  simp only [planB, Bool.and_eq_true, decide_eq_true_eq, List.all_eq_true] at hB
  obtain ⟨⟨⟨⟨⟨⟨⟨⟨⟨hsel, hpl⟩, hq⟩, hst⟩, hmid⟩, hlen⟩, hnd⟩, hall⟩, hself⟩, hpairs⟩ := hB
  refine wp_region_any hm ?_
  rw [← wpOps_mask l pre 0 hpl (by simp)] at h
  have hx := wpX_quiet .quiet (Q := NoP Q) (S := Ext w.drew) (T := Ext w.drew) (rd := true) (rest := midBase mid) (fun _ _ _ h => h) (fun _ _ h => h) (fun i o v rest a hi hy hx => ⟨o, v, hi, hy, hx⟩) (fun _ h _ => h) (pickB l pre) (fun a1 h1 => wpX_mid mid a1 w.drew hmid h1.2) (fun a1 w1 h1 => h1.1)
    (maskIdx 0 pre) (pickB l pre) a (mask_map l pre hpl 0 (by simp)) hq (fun o ho _ => ho) hst h
  refine wpX_any (S := Ext w.drew) hsel (fun _ _ _ h => h) (fun _ _ h => h) _ _ _ a _ (by simpa using hlen) ⟨by simp, ?_, pairsB_spec hpairs, nodupB_spec hnd, fun x hx => ?_, fun i hi _ => ?_, fun x hx => ?_⟩ (.inl (Ext.refl _)) hx
  · intro j oj _ hl
    rw [getD_replicate_false] at hl; cases hl
  · have hs := (List.all_eq_true.1 hself) x hx
    cases ho : l.toArray[x.1]? with
    | none => rw [ho] at hs; cases hs
    | some o => exact getD_in (by simpa using (Array.getElem?_eq_some_iff.1 ho).1) (getD_replicate_false _ _)
  · have := hall i (List.mem_range.2 (by simpa using hi))
    simp only [List.contains_iff_mem, List.mem_map] at this
    exact this
  · have := (List.all_eq_true.1 hself) x hx
    cases ho : l.toArray[x.1]? with
    | none => rw [ho] at this; cases this
    | some o =>
      rw [ho] at this
      refine ⟨o, rfl, fun e he hb => ?_⟩
      have h1 := Array.all_eq_true_iff_forall_mem.1 this e he
      simp only [hb, Bool.not_true, Bool.false_or, Bool.and_eq_true, decide_eq_true_eq, bne_iff_ne] at h1
      exact h1
/-! ### the same, with masks by runs (so many not, so many), and every continuation behind a name -/
def expand : List (Nat × Nat) → List Bool
  | [] => []
  | (a, b) :: m => List.replicate a false ++ (List.replicate b true ++ expand m)
def pickR : List (Nat × Nat) → List Oper → List Oper
  | [], _ => []
  | (a, b) :: m, l => (l.drop a).take b ++ pickR m ((l.drop a).drop b)
theorem pickB_false : ∀ (a : Nat) (l : List Oper) (m : List Bool), pickB l (List.replicate a false ++ m) = pickB (l.drop a) m
  | 0, l, m => by simp
  | a + 1, [], m => by cases m <;> simp [pickB]
  | a + 1, o :: l, m => by simp [List.replicate_succ, pickB, pickB_false a l m]
theorem pickB_true : ∀ (b : Nat) (l : List Oper) (m : List Bool), pickB l (List.replicate b true ++ m) = l.take b ++ pickB (l.drop b) m
  | 0, l, m => by simp
  | b + 1, [], m => by cases m <;> simp [pickB]
  | b + 1, o :: l, m => by simp [List.replicate_succ, pickB, pickB_true b l m]
theorem pickB_expand : ∀ (m : List (Nat × Nat)) (l : List Oper), pickB l (expand m) = pickR m l
  | [], l => by cases l <;> simp [expand, pickB, pickR]
  | (a, b) :: m, l => by rw [expand, pickB_false, pickB_true, pickB_expand m, pickR]
def wpSeg (P : Program) (ops : Array Oper) (Q : Exit → Act → World → Prop) (l : List Oper) (w0 : World) : List (RKind × List (Nat × Nat)) → Act → World → Prop
  | [], a, w => Q .normal a w
  | (.loud, m) :: more, a, w => ∀ K : Act → World → Prop, (∀ a' w', Ext w0 w' ∧ wpSeg P ops Q l w0 more a' w' → K a' w') → wpList P ops (Exit.then K (NoP Q)) (pickR m l) a w
  | (.act, m) :: more, a, w => ∀ K : Act → World → Prop, (∀ a' w', wpSeg P ops Q l w0 more a' w' → K a' w') → wpList P ops (Exit.then K (NoP Q)) (pickR m l) a w
  | (.pure, m) :: more, a, w => ∀ K : Act → World → Prop, (∀ a' w', wpSeg P ops Q l w0 more a' w' → K a' w') → wpList P ops (Exit.then K (NoP Q)) (pickR m l) a w
  | (.quiet, _) :: _, _, _ => False
theorem wpList_exit {Q : Exit → Act → World → Prop} {K K' : Act → World → Prop} (h : ∀ a w, K a w → K' a w) (l : List Oper) (a : Act) (w : World) (hh : wpList P ops (Exit.then K Q) l a w) : wpList P ops (Exit.then K' Q) l a w := by
  induction l generalizing a w with
  | nil => exact h a w hh
  | cons o l ih =>
    unfold wpList at hh ⊢
    split
    · rename_i hw
      rw [if_pos hw] at hh
      rcases hh with hh | ⟨hasks, a₀, w₀, hq⟩
      · refine .inl ?_
        exact Oper.wp_mono (Q := Exit.then K Q) (fun a w => ih a w) hh
      · exact .inr ⟨hasks, a₀, w₀, hq⟩
    · rename_i hw
      rw [if_neg hw] at hh
      exact ih _ _ hh
theorem wpMid_of_seg {Q : Exit → Act → World → Prop} {l : List Oper} {w0 : World} : ∀ (mid : List (RKind × List (Nat × Nat))) (a : Act) (w : World), wpSeg P ops Q l w0 mid a w → wpMid P ops Q l w0 (mid.map fun x => (x.1, expand x.2)) a w
  | [], a, w, h => h
  | (.quiet, _) :: _, _, _, h => h.elim
  | (.loud, m) :: more, a, w, h => by
    simp only [List.map_cons, wpMid, pickB_expand]
    exact h _ fun a' w' h' => ⟨h'.1, wpMid_of_seg more a' w' h'.2⟩
  | (.act, m) :: more, a, w, h => by
    simp only [List.map_cons, wpMid, pickB_expand]
    exact h _ fun a' w' h' => wpMid_of_seg more a' w' h'
  | (.pure, m) :: more, a, w, h => by
    simp only [List.map_cons, wpMid, pickB_expand]
    exact h _ fun a' w' h' => wpMid_of_seg more a' w' h'
theorem wp_region_r {id : Nat} {l : List Oper} {Q : Exit → Act → World → Prop} {a : Act} {w : World} (pre : List (Nat × Nat)) (mid : List (RKind × List (Nat × Nat)))
    (hm : P.follows .mixedOrders = true) (hB : planB P l (expand pre) (mid.map fun x => (x.1, expand x.2)) = true)
    (h : ∀ K : Act → World → Prop, (∀ a1 w1, plainAll P a1 (pickR pre l) = true ∧ wpSeg P l.toArray Q l w.drew mid a1 w1 → K a1 w1) → wpList P l.toArray (Exit.then K (NoP Q)) (pickR pre l) a w.drew) : (Code.region id l.toArray true).wp P Q a w := by
  refine wp_region_x (expand pre) (mid.map fun x => (x.1, expand x.2)) hm hB ?_
  rw [pickB_expand]
  exact h _ fun a1 w1 h1 => ⟨h1.1, wpMid_of_seg mid a1 w1 h1.2⟩
end
end Go.Far
