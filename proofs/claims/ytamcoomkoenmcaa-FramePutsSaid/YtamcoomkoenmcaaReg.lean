/- A region whose order is drawn: what only looks, first and in the order of the text; then what acts, in its one order; then the tail. One walk serves every order. -/
import Derived.Test.YtamcoomkoenmcaaMild
import Derived.Tactics
set_option linter.unusedSimpArgs false
set_option linter.unusedVariables false
namespace Go.Far
theorem mild_mapM_list {α β : Type} {rd : Bool} {P : Program} (f : α → Sem β) (h : ∀ a, mild rd P (f a)) : ∀ l : List α, mild rd P (l.mapM f)
  | [] => by rw [List.mapM_nil]; exact mild_pure _
  | a :: l => by rw [List.mapM_cons]; exact mild_bind' (h a) fun b => mild_bind' (mild_mapM_list f h l) fun _ => mild_pure _
theorem mild_mapM {α β : Type} {rd : Bool} {P : Program} (f : α → Sem β) (h : ∀ a, mild rd P (f a)) (xs : Array α) : mild rd P (xs.mapM f) := by
  rw [Array.mapM_eq_mapM_toList]
  have := mild_mapM_list (rd := rd) (P := P) f h xs.toList
  rw [← bind_pure_comp]
  exact mild_bind' this fun _ => mild_pure _
theorem mild_build {rd : Bool} {P : Program} (t : TypeId) (parts : Array (Nat × Value)) : mild rd P (Instr.build t parts) := by
  unfold Instr.build
  refine mild_bind' (mild_zeroValue t) fun z => mild_bind' (mild_underlying t) fun d => ?_
  split
  · refine mild_bind' (mild_mapM _ (fun f => mild_bind' (mild_sizeOf _) fun _ => mild_pure _) _) fun places => ?_
    split <;> trivial
  · refine mild_bind' (mild_sizeOf _) fun places => ?_
    split <;> trivial
  · trivial
/-- The operations that may come first: they only look (rd), or do not even look. -/
def quietB (rd : Bool) (P : Program) (o : Oper) : Bool :=
  match o.op with
  | .move _ | .assign _ | .pick .. | .makeFunc .. | .extract .. | .unOp .. | .slice .. | .index .. | .indexAddr .. | .field .. | .makeInterface .. | .nilCheck _ => true
  | .load .. => rd
  | .fieldAddr t _ i => fieldSized P t i
  | .binOp _ t _ _ _ => match P.underlying t with | some .bool | some (.int _) | some .string => true | _ => false
  | .convert s d _ => match P.underlying s, P.underlying d with
    | some (.int _), some (.int _) => true
    | some (.slice e), some .string => rd && (match P.underlying e with | some (.int .u8) => true | _ => false)
    | _, _ => false
  | .call { callee := .builtin .len, .. } => rd
  | .build .. => true
  | _ => false
/-- What has to be known of the operands. -/
def plainOp (P : Program) (ρ : Operand → Value) (o : Oper) : Bool :=
  match o.op with
  | .binOp _ _ x y _ => plainV (ρ x) && plainV (ρ y)
  | .convert _ d x => match P.underlying d with
    | some .string => (match ρ x with | .slice .. | .tuple _ => true | _ => false)
    | _ => plainV (ρ x)
  | .nilCheck x => match ρ x with | .pointer (some _) | .tuple _ => true | _ => false
  | _ => true
theorem mild_exec {rd : Bool} {P : Program} {ρ : Operand → Value} {o : Oper} (hq : quietB rd P o = true) (hp : plainOp P ρ o = true) :
    ∃ e : Sem Value, execOp ρ o = (do let v ← e; pure (.value v)) ∧ mild rd P e := by
  obtain ⟨dst, op, type, pos, after, guard⟩ := o
  cases op <;> simp only [quietB] at hq <;> try (cases hq)
  case move x => exact ⟨pure (ρ x), rfl, mild_pure _⟩
  case assign x => exact ⟨pure (ρ x), rfl, mild_pure _⟩
  case pick c a b => exact ⟨do let t ← asBool (ρ c); pure (if t then ρ a else ρ b), by simp [execOp], mild_bind' (mild_asBool _) fun _ => mild_pure _⟩
  case load t x => exact ⟨Instr.loadAt t (ρ x), rfl, mild_loadAt t (ρ x)⟩
  case nilCheck x =>
    refine ⟨pure (ρ x), ?_, mild_pure _⟩
    simp only [plainOp] at hp
    unfold execOp
    simp only
    cases hx : ρ x <;> rw [hx] at hp <;> try (cases hp)
    all_goals first | rfl | (rename_i a; cases a with | none => cases hp | some a => rfl)
  case binOp op t x y ty =>
    simp only [plainOp, Bool.and_eq_true] at hp
    refine ⟨do eqGuard op t x y (ρ x) (ρ y); binOp op t (ρ x) (ρ y), rfl, mild_bind' (mild_eqGuard _ _ _ _ _ _ hp.1) fun _ => mild_binOp _ _ _ _ hp.1 hp.2 ?_⟩
    revert hq
    split <;> intro hq <;> first | exact .inl ‹_› | exact .inr (.inl ⟨_, ‹_›⟩) | exact .inr (.inr ‹_›) | cases hq
  case unOp op t x => exact ⟨Op.unary op (ρ x), rfl, mild_unary _ _⟩
  case convert s d x =>
    refine ⟨convert s d (ρ x), rfl, ?_⟩
    simp only [plainOp] at hp
    revert hq
    split <;> intro hq
    · rename_i k k' hs hd
      rw [hd] at hp
      exact mild_convertInt _ _ _ _ _ hs hd hp
    · rename_i e hs hd
      rw [hd] at hp
      simp only [Bool.and_eq_true] at hq
      obtain ⟨rfl, he⟩ := hq
      revert he
      split <;> intro he
      · rename_i heu
        exact mild_convertBytes _ _ _ _ hs heu hd (fun k n h => by rw [h] at hp; cases hp) (fun b h => by rw [h] at hp; cases hp)
      · cases he
    · cases hq
  case makeInterface t x => exact ⟨Instr.makeInterface t (ρ x), rfl, mild_makeInterface _ _⟩
  case makeFunc f a b => exact ⟨_, rfl, mild_pure _⟩
  case slice t x l h m => exact ⟨_, rfl, mild_sliceAt _ _ _ _ _⟩
  case fieldAddr t x i => exact ⟨Instr.fieldAt t (ρ x) i, rfl, mild_fieldAt _ _ _ hq⟩
  case field t x i => exact ⟨Instr.field t (ρ x) i, rfl, mild_field _ _ _⟩
  case indexAddr t x i => exact ⟨Instr.indexAt t (ρ x) (ρ i), rfl, mild_indexAt _ _ _⟩
  case index t x i => exact ⟨Instr.index t (ρ x) (ρ i), rfl, mild_index _ _ _⟩
  case extract x i => exact ⟨Instr.extract (ρ x) i, rfl, mild_extract _ _⟩
  case build t parts => exact ⟨Instr.build t (parts.map fun (i, x) => (i, ρ x)), rfl, mild_build _ _⟩
  case call c =>
    obtain ⟨callee, args, ts⟩ := c
    cases callee <;> try (cases hq)
    rename_i b
    cases b <;> try (cases hq)
    exact ⟨Builtin.len_ ts type (args.map ρ), rfl, mild_len _ _ _⟩

/-! ### One value in every later world -/
section
variable {P : Program} {ops : Array Oper} {Q : Exit → Act → World → Prop} {S : World → Prop}
/-- In every world of S this operation yields v. -/
def YieldsX (P : Program) (ops : Array Oper) (S : World → Prop) (o : Oper) (v : Value) (a : Act) : Prop :=
  (Region.wanted o (yielded ops a.tmps) = true ∧ ∀ w, S w → (execOp a.eval o).run P w = .ok (.value v) w) ∨ (Region.wanted o (yielded ops a.tmps) = false ∧ v = undef)
theorem YieldsX.of_same {o : Oper} {v : Value} {a a' : Act} (hy : YieldsX P ops S o v a) (he : execOp a'.eval o = execOp a.eval o)
    (hw : Region.wanted o (yielded ops a'.tmps) = Region.wanted o (yielded ops a.tmps)) : YieldsX P ops S o v a' := by
  unfold YieldsX at *; rw [he, hw]; exact hy
theorem YieldsX.uniq {o : Oper} {v v' : Value} {a : Act} {w : World} (hw : S w) (h : YieldsX P ops S o v a) (h' : YieldsX P ops S o v' a) : v = v' := by
  rcases h with ⟨h1, h2⟩ | ⟨h1, h2⟩ <;> rcases h' with ⟨h3, h4⟩ | ⟨h3, h4⟩
  · have := (h2 w hw).symm.trans (h4 w hw); injection this with e _; injection e
  · rw [h1] at h3; cases h3
  · rw [h1] at h3; cases h3
  · rw [h2, h4]
theorem YieldsX.wpOp {i : Nat} {o : Oper} {v : Value} {a : Act} (hi : ops[i]? = some o) (hy : YieldsX P ops S o v a) {w : World} (hS : S w)
    {K : Act → World → Prop} (h : K (a.put o.dst v) w) : wpOp P ops Q i K a w := by
  unfold Go.wpOp
  simp only [hi]
  rcases hy with ⟨hw, hv⟩ | ⟨hw, rfl⟩
  · simp only [hw, if_true, Oper.wp, hv w hS, Oper.upon]; exact .inl h
  · simp only [hw, Bool.false_eq_true, if_false]; exact h
/-- Operation j, which has nothing to do with i, may come ahead of i. -/
theorem wpOp_putX {j : Nat} {oi oj : Oper} {v : Value} (hj : ops[j]? = some oj) (hap : oi.apart ops oj = true)
    (hsi : ∀ cs b, oi.op ≠ .select cs b) (hsj : ∀ cs b, oj.op ≠ .select cs b)
    (hQ : ∀ c a w, Q (.panic c) (a.put oi.dst v) w → Q (.panic c) a w) {K : Act → World → Prop} {a : Act} {w : World}
    (hy : YieldsX P ops S oi v a) (h : wpOp P ops Q j K (a.put oi.dst v) w) :
    wpOp P ops Q j (fun a' w' => YieldsX P ops S oi v a' ∧ K (a'.put oi.dst v) w') a w := by
  obtain ⟨h1, h2, h3⟩ := Oper.apart_spec hap
  have keep : ∀ (a : Act), YieldsX P ops S oi v a → ∀ u, YieldsX P ops S oi v (a.put oj.dst u) := fun a hy u =>
    hy.of_same (execOp_put oi hsi a oj.dst u h3) (wanted_put oi a oj.dst u h3)
  have keepD : ∀ d, YieldsX P ops S oi v { a with defers := d :: a.defers } := fun d => hy.of_same rfl rfl
  unfold wpOp at *
  simp only [hj] at *
  rw [wanted_put oj a oi.dst v h1] at h
  split
  · rename_i hw
    simp only [hw, if_true] at h
    rcases h with h | ⟨hasks, hlets⟩
    case inr => exact .inr ⟨by unfold Oper.asks at *; rw [execOp_put oj hsj a oi.dst v h1] at hasks; exact hasks, hlets⟩
    refine .inl ?_
    unfold Oper.wp at *
    rw [execOp_put oj hsj a oi.dst v h1] at h
    generalize (execOp a.eval oj).run P w = r at *
    cases r with
    | ok n w' =>
      cases n <;> simp only [Oper.upon] at h ⊢
      case value u => exact ⟨keep a hy u, by rw [← Act.put_comm a v u h2]; exact h⟩
      case skip => exact ⟨keep a hy _, by rw [← Act.put_comm a v undef h2]; exact h⟩
      case defer d =>
        refine ⟨keep _ (keepD d) _, ?_⟩
        rw [← Act.put_comm _ v undef h2, ← Act.put_defers]
        exact h
      case enter f args =>
        refine Calls.mono h fun e w'' he => ?_
        cases e with
        | returned u => exact ⟨keep a hy u, by rw [← Act.put_comm a v u h2]; exact he⟩
        | panicked c => exact hQ _ _ _ he
        | outgrown => exact he
      case row row args => exact Rows.mono h fun u w'' he => ⟨keep a hy u, by rw [← Act.put_comm a v u h2]; exact he⟩
    | halt x w' =>
      cases x <;> simp only [Oper.upon] at h ⊢
      case panic u => exact hQ _ _ _ h
  · rename_i hw
    simp only [hw] at h
    exact ⟨keep a hy _, by rw [← Act.put_comm a v undef h2]; exact h⟩
/-- The other way round: what stands behind j in the frame may be laid ahead of it. -/
theorem wpOp_lay {j : Nat} {oi oj : Oper} {v : Value} (hj : ops[j]? = some oj) (hap : oi.apart ops oj = true) (hsj : ∀ cs b, oj.op ≠ .select cs b)
    (hQ : ∀ c a w, ¬ Q (.panic c) a w) {K K' : Act → World → Prop} {a : Act} {w : World}
    (hK : ∀ a' w', (∃ d u, a' = ({ a with defers := d } : Act).put oj.dst u) → K a' w' → K' (a'.put oi.dst v) w')
    (h : wpOp P ops Q j K a w) : wpOp P ops Q j K' (a.put oi.dst v) w := by
  obtain ⟨h1, h2, _⟩ := Oper.apart_spec hap
  have e1 : ∀ u, (a.put oi.dst v).put oj.dst u = (a.put oj.dst u).put oi.dst v := fun u => Act.put_comm a v u h2
  have hh : ∀ u w', K (a.put oj.dst u) w' → K' ((a.put oi.dst v).put oj.dst u) w' := fun u w' hk => by rw [e1]; exact hK _ _ ⟨a.defers, u, rfl⟩ hk
  unfold wpOp at *
  simp only [hj] at *
  rw [wanted_put oj a oi.dst v h1]
  split
  · rename_i hw
    simp only [hw, if_true] at h
    rcases h with h | ⟨hasks, hlets⟩
    case inr => exact .inr ⟨by unfold Oper.asks at *; rw [execOp_put oj hsj a oi.dst v h1]; exact hasks, hlets⟩
    refine .inl ?_
    unfold Oper.wp at *
    rw [execOp_put oj hsj a oi.dst v h1]
    generalize (execOp a.eval oj).run P w = r at *
    cases r with
    | ok n w' =>
      cases n <;> simp only [Oper.upon] at h ⊢
      case value u => exact hh u w' h
      case skip => exact hh _ w' h
      case defer d =>
        have e2 : ({ a.put oi.dst v with defers := d :: (a.put oi.dst v).defers } : Act).put oj.dst undef = (({ a with defers := d :: a.defers } : Act).put oj.dst undef).put oi.dst v := by
          rw [Act.put_defers, Act.put_comm _ v undef h2]
        rw [e2]
        exact hK _ _ ⟨d :: a.defers, undef, rfl⟩ h
      case enter f args =>
        refine Calls.mono h fun e w'' he => ?_
        cases e with
        | returned u => exact hh u w'' he
        | panicked c => exact absurd he (hQ _ _ _)
        | outgrown => exact he
      case row row args => exact Rows.mono h fun u w'' he => hh u w'' he
    | halt x w' =>
      cases x <;> simp only [Oper.upon] at h ⊢
      case panic u => exact absurd h (hQ _ _ _)
  · rename_i hw
    simp only [hw] at h
    exact hh _ w h
/-- Somewhere it goes on. -/
theorem wpOp_reach {j : Nat} {oj : Oper} (hj : ops[j]? = some oj) (hQ : ∀ c a w, ¬ Q (.panic c) a w) (hO : ∀ a w, ¬ Q .outgrown a w)
    {K : Act → World → Prop} {a : Act} {w : World} (h : wpOp P ops Q j K a w) : ∃ d u w', K (({ a with defers := d } : Act).put oj.dst u) w' := by
  unfold wpOp at h
  simp only [hj] at h
  split at h
  · rcases h with h | ⟨_, a₀, w₀, h⟩
    case inr => exact absurd h (hO _ _)
    unfold Oper.wp at h
    generalize (execOp a.eval oj).run P w = r at *
    cases r with
    | ok n w' =>
      cases n <;> simp only [Oper.upon] at h
      case value u => exact ⟨a.defers, u, w', h⟩
      case skip => exact ⟨a.defers, undef, w', h⟩
      case defer d => exact ⟨d :: a.defers, undef, w', h⟩
      case enter f args =>
        obtain ⟨e, w'', fr, he, _⟩ := h []
        cases e with
        | returned u => exact ⟨a.defers, u, w'', he⟩
        | panicked c => exact absurd he (hQ _ _ _)
        | outgrown => obtain ⟨a₀, w₀, h0⟩ := he; exact absurd h0 (hO _ _)
      case row row args => obtain ⟨u, w'', hr, _⟩ := h { (default : Frame) with fn := 0 } []; exact ⟨a.defers, u, w'', hr⟩
    | halt x w' =>
      cases x <;> simp only [Oper.upon] at h
      case panic u => exact absurd h (hQ _ _ _)
  · exact ⟨a.defers, undef, w, h⟩
end
end Go.Far
