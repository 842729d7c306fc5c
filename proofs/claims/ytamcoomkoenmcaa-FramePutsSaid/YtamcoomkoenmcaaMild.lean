/- Which operations of a region only look at memory: such an operation yields the same value in every later world in which the old blocks are as they were. -/
import Derived.Orders
import Derived.Laws.Sem
set_option linter.unusedSimpArgs false
set_option linter.unusedVariables false
namespace Go.Far
/-- Every block of w is in w' as it was. -/
def Ext (w w' : World) : Prop := ∀ k, k < w.heap.size → w'.heap[k]? = w.heap[k]?
theorem Ext.refl (w : World) : Ext w w := fun _ _ => rfl
theorem Ext.size {w w' : World} (h : Ext w w') : w.heap.size ≤ w'.heap.size := by
  rcases Nat.lt_or_ge w'.heap.size w.heap.size with hl | hl
  · have h1 := h w'.heap.size hl
    rw [Array.getElem?_eq_none (Nat.le_refl _)] at h1
    simp [hl] at h1
  · exact hl
theorem Ext.trans {a b c : World} (h : Ext a b) (k : Ext b c) : Ext a c := fun i hi => (k i (Nat.lt_of_lt_of_le hi h.size)).trans (h i hi)
theorem Ext.block {w w' : World} (h : Ext w w') {k : Nat} {o : Obj} (hk : w.heap[k]? = some o) : w'.heap[k]? = some o := by
  rw [h k (Array.getElem?_eq_some_iff.1 hk).1]; exact hk
theorem Ext.cell {w w' : World} (h : Ext w w') {a : Addr} {v : Value} (hk : w.cell? a = some v) : w'.cell? a = some v := by
  have hl : a.block < w.heap.size := by
    rcases Nat.lt_or_ge a.block w.heap.size with hl | hl
    · exact hl
    · simp [World.cell?, Array.getElem?_eq_none hl] at hk
  rw [← hk]
  simp only [World.cell?, h _ hl]

/-- A tree that never comes to a good end. -/
def dead {α : Type} (P : Program) (e : Sem α) : Prop := ∀ w v w1, e.run P w ≠ .ok v w1
/-- A tree of steps that writes nothing, makes nothing, freezes nothing, asks nothing of the outside; rd: may it look at memory? -/
def mild {α : Type} (rd : Bool) (P : Program) : Sem α → Prop
  | .pure _ => True
  | .load _ _ k => rd = true ∧ ∀ v, mild rd P (k v)
  | .store .. => False
  | .new .. => False
  | .shape .. => False
  | .freeze .. => False
  | .frozen .. => False
  | .getObj _ k => rd = true ∧ ∀ o, mild rd P (k o)
  | .setObj .. => False
  | .choose _ k => ∀ n, dead P (k n)
  | .sys .. => False
  | .program k => mild rd P (k P)
  | .mark _ k => mild rd P k
  | .halt _ => True

theorem dead_bind {α β : Type} {P : Program} {e : Sem α} {f : α → Sem β} (h : dead P e) : dead P (e.bind f) := by
  intro w v w1 hr
  have hb : (e >>= f).run P w = (e.bind f).run P w := rfl
  rw [← hb, Sem.run_bind] at hr
  cases he : e.run P w with
  | ok a w2 => exact h _ _ _ he
  | halt x w2 => rw [he] at hr; cases hr
theorem dead_bind_all {α β : Type} {P : Program} {e : Sem α} {f : α → Sem β} (h : ∀ a, dead P (f a)) : dead P (e.bind f) := by
  intro w v w1 hr
  have hb : (e >>= f).run P w = (e.bind f).run P w := rfl
  rw [← hb, Sem.run_bind] at hr
  cases he : e.run P w with
  | ok a w2 => rw [he] at hr; exact h a _ _ _ hr
  | halt x w2 => rw [he] at hr; cases hr
theorem dead_halt {α : Type} {P : Program} (x : Halt) : dead P (.halt x : Sem α) := fun w v w1 h => by simp only [Sem.run] at h; cases h
theorem dead_goPanic {α : Type} {P : Program} (v : Value) : dead P (goPanic v : Sem α) := dead_halt _
theorem mild_halt {α : Type} {rd : Bool} {P : Program} (x : Halt) : mild rd P (.halt x : Sem α) := trivial

theorem mild_bind {α β : Type} {rd : Bool} {P : Program} {e : Sem α} {f : α → Sem β} (h : mild rd P e) (hf : ∀ a, mild rd P (f a)) : mild rd P (e.bind f) := by
  induction e with
  | pure a => exact hf a
  | load m a k ih => exact ⟨h.1, fun v => ih v (h.2 v)⟩
  | store m a v k ih => exact h.elim
  | new o k ih => exact h.elim
  | shape r k ih => exact h.elim
  | freeze a n k ih => exact h.elim
  | frozen a k ih => exact h.elim
  | getObj r k ih => exact ⟨h.1, fun v => ih v (h.2 v)⟩
  | setObj r o k ih => exact h.elim
  | choose q k ih => exact fun n => dead_bind (h n)
  | sys c k ih => exact h.elim
  | program k ih => exact ih P h
  | mark m k ih => exact ih h
  | halt x => trivial
theorem mild_bind' {α β : Type} {rd : Bool} {P : Program} {e : Sem α} {f : α → Sem β} (h : mild rd P e) (hf : ∀ a, mild rd P (f a)) : mild rd P (e >>= f) := mild_bind h hf
theorem mild_pure {α : Type} {rd : Bool} {P : Program} (a : α) : mild rd P (pure a : Sem α) := trivial

theorem seen_ext {P : Program} {w w' : World} (h : Ext w w') {at_ k : Addr} {u : TypeId} {m : Bool} {r} (hs : w.seen P at_ u k m = .ok r) : w'.seen P at_ u k m = .ok r := by
  rcases Nat.lt_or_ge at_.block w.heap.size with hl | hl
  · rw [← hs]; unfold World.seen; rw [h _ hl]
  · exfalso
    unfold World.seen at hs
    rw [Array.getElem?_eq_none hl] at hs
    simp only [bind, Except.bind] at hs
    repeat' (split at hs <;> try (cases hs))
theorem farLoad_ext {P : Program} {w w' : World} (h : Ext w w') {a : Addr} {m : Bool} {r} (hs : w.farLoad P a m = .ok r) : w'.farLoad P a m = .ok r := by
  unfold World.farLoad at hs ⊢
  cases hb : w.heap[a.block]? with
  | none => rw [hb] at hs; cases hs
  | some o =>
    rw [hb] at hs
    rw [h.block hb]
    cases o <;> simp only at hs ⊢ <;> try (cases hs)
    rename_i at_ u
    cases hv : w.viewLoad P at_ u a m with
    | error e => rw [hv] at hs; cases hs
    | ok x =>
      rw [hv] at hs
      have : w'.viewLoad P at_ u a m = .ok x := by
        unfold World.viewLoad at hv ⊢
        cases hse : w.seen P at_ u a m with
        | error e => rw [hse] at hv; cases hv
        | ok y => rw [hse] at hv; rw [seen_ext h hse]; exact hv
      rw [this]; exact hs

/-- What a mild tree gives in a world, it gives in every later one; the world stays the same. -/
theorem mild_run {α : Type} {rd : Bool} {P : Program} (e : Sem α) : ∀ (w w1 : World) (v : α), mild rd P e → e.run P w = .ok v w1 →
    w1 = w ∧ ∀ w', (rd = true → Ext w w') → e.run P w' = .ok v w' := by
  induction e with
  | pure a => intro w w1 v _ hr; simp only [Sem.run] at hr; injection hr with h1 h2; subst h1; subst h2; exact ⟨rfl, fun w' _ => rfl⟩
  | load m a k ih =>
    intro w w1 v ⟨hrd, hm⟩ hr
    simp only [Sem.run] at hr ⊢
    cases hc : w.cell? a with
    | some x =>
      rw [hc] at hr
      have h3 := ih x w w1 v (hm x) hr
      refine ⟨h3.1, fun w' hx => ?_⟩
      rw [Ext.cell (hx hrd) hc]; exact h3.2 w' hx
    | none =>
      rw [hc] at hr
      cases hf : w.farLoad P a (m == .atomic) with
      | error x => simp only [hf] at hr; cases hr
      | ok x =>
        simp only [hf] at hr
        have h3 := ih x.1 w w1 v (hm _) hr
        refine ⟨h3.1, fun w' hx => ?_⟩
        have hn : w'.cell? a = none := by
          unfold World.farLoad at hf
          cases hb : w.heap[a.block]? with
          | none => rw [hb] at hf; cases hf
          | some o =>
            rw [hb] at hf
            cases o <;> simp only at hf <;> try (cases hf)
            simp [World.cell?, (hx hrd).block hb]
        rw [hn, farLoad_ext (hx hrd) hf]
        exact h3.2 w' hx
  | store m a v k ih => intro w w1 v hm; exact hm.elim
  | new o k ih => intro w w1 v hm; exact hm.elim
  | shape r k ih => intro w w1 v hm; exact hm.elim
  | freeze a n k ih => intro w w1 v hm; exact hm.elim
  | frozen a k ih => intro w w1 v hm; exact hm.elim
  | getObj r k ih =>
    intro w w1 v ⟨hrd, hm⟩ hr
    simp only [Sem.run] at hr ⊢
    cases hb : w.heap[r]? with
    | none => rw [hb] at hr; cases hr
    | some o =>
      rw [hb] at hr
      have hr' : (k o).run P w = .ok v w1 := by cases o <;> first | exact hr | cases hr
      have h3 := ih o w w1 v (hm o) hr'
      refine ⟨h3.1, fun w' hx => ?_⟩
      rw [(hx hrd).block hb]
      have h4 := h3.2 w' hx
      cases o <;> first | exact h4 | cases hr
  | setObj r o k ih => intro w w1 v hm; exact hm.elim
  | choose q k ih =>
    intro w w1 v hm hr
    simp only [Sem.run] at hr
    split at hr
    · exact absurd hr (hm _ _ _ _)
    · exact absurd hr (hm _ _ _ _)
  | sys c k ih => intro w w1 v hm; exact hm.elim
  | program k ih =>
    intro w w1 v hm hr
    simp only [Sem.run] at hr ⊢
    exact ih P w w1 v hm hr
  | mark m k ih =>
    intro w w1 v hm hr
    simp only [Sem.run] at hr ⊢
    exact ih w w1 v hm hr
  | halt x => intro w w1 v _ hr; simp only [Sem.run] at hr; cases hr

section
variable {rd : Bool} {P : Program}
theorem mild_program : mild rd P program := trivial
theorem mild_underlying (t : TypeId) : mild rd P (underlying t) := by
  show mild rd P ((program).bind _)
  refine mild_bind trivial fun p => ?_
  split <;> trivial
theorem mild_typeInfo (t : TypeId) : mild rd P (typeInfo t) := by
  refine mild_bind trivial fun p => ?_
  split <;> trivial
theorem mild_sizeOf (t : TypeId) : mild rd P (sizeOf t) := mild_bind (mild_typeInfo t) fun _ => trivial
theorem mild_zeroValue (t : TypeId) : mild rd P (zeroValue t) := by
  refine mild_bind (mild_typeInfo t) fun i => ?_
  split <;> trivial
theorem mild_isAgg (t : TypeId) : mild rd P (isAgg t) := by
  refine mild_bind (mild_underlying t) fun d => ?_
  split <;> trivial
theorem mild_part (t : TypeId) (cs : Array Value) (off : Nat) : mild rd P (part t cs off) := by
  refine mild_bind (mild_isAgg t) fun b => ?_
  split
  · exact mild_bind (mild_sizeOf t) fun _ => trivial
  · split <;> trivial
theorem mild_loadCellsFrom (a : Addr) : ∀ (n i : Nat) (acc : Array Value), mild true P (loadCellsFrom a i n acc)
  | 0, _, _ => trivial
  | n + 1, i, acc => mild_bind ⟨rfl, fun _ => trivial⟩ fun v => mild_loadCellsFrom a n (i + 1) (acc.push v)
theorem mild_loadVar (t : TypeId) (a : Addr) : mild true P (loadVar t a) := by
  refine mild_bind (mild_isAgg t) fun b => ?_
  split
  · exact mild_bind (mild_sizeOf t) fun n => mild_bind (mild_loadCellsFrom a n 0 #[]) fun _ => trivial
  · exact ⟨rfl, fun _ => trivial⟩
theorem dead_runtimePanic {α : Type} (e : RuntimeError) : dead P (runtimePanic e : Sem α) := by
  refine dead_bind_all fun p => ?_
  cases e <;> first | exact dead_halt _ | (exact dead_bind_all fun _ => dead_halt _) | (exact dead_bind_all fun _ => dead_bind_all fun _ => dead_halt _)
theorem mild_panicBounds {α : Type} (x y : Int) (b : Bool) (c : BoundsCode) : mild rd P (runtimePanic (.bounds x y b c) : Sem α) := trivial
theorem mild_panicError {α : Type} (m : String) : mild rd P (runtimePanic (.error m) : Sem α) := trivial
theorem mild_nilDeref {α : Type} : mild rd P (runtimePanic .nilDeref : Sem α) := trivial
theorem mild_boundsPanic {α : Type} (k : IntKind) (x y : Int) (c : BoundsCode) : mild rd P (boundsPanic k x y c : Sem α) := by
  unfold boundsPanic
  by_cases h : (k != .u64 && decide (0 ≤ x) && decide (x ≤ 31)) = true
  · rw [if_pos h]; exact fun n => dead_bind_all fun _ => dead_runtimePanic _
  · rw [if_neg h]; exact mild_panicBounds _ _ _ _
theorem mild_asIntOf (v : Value) : mild rd P (asIntOf v) := by unfold asIntOf; split <;> trivial
theorem mild_asInt (v : Value) : mild rd P (asInt v) := mild_bind (mild_asIntOf v) fun _ => trivial
theorem mild_asBool (v : Value) : mild rd P (asBool v) := by unfold asBool; split <;> trivial
theorem mild_asAgg (v : Value) : mild rd P (asAgg v) := by unfold asAgg; split <;> trivial
theorem mild_asAddr (v : Value) : mild rd P (asAddr v) := by unfold asAddr; split <;> trivial
theorem mild_sureAddr (v : Value) : mild rd P (Instr.sureAddr v) := by unfold Instr.sureAddr; split <;> trivial
theorem mild_sliceBound (x : Value) (y : Nat) (c : BoundsCode) : mild rd P (Instr.sliceBound x y c) := by
  unfold Instr.sliceBound
  repeat' (first | exact mild_pure _ | exact mild_halt _ | exact mild_boundsPanic _ _ _ _ | exact mild_underlying _ | exact mild_sizeOf _ | exact mild_asIntOf _ | exact mild_asAddr _ | exact mild_sureAddr _ | exact mild_asAgg _ | exact mild_part _ _ _ | exact mild_zeroValue _ | refine mild_bind' ?_ (fun _ => ?_) | split)
theorem mild_sliceBounds (b : Bool) (len cap : Nat) (lo hi mx : Option Value) : mild rd P (Instr.sliceBounds b len cap lo hi mx) := by
  unfold Instr.sliceBounds
  dsimp only
  repeat' (first | exact mild_pure _ | exact mild_halt _ | exact mild_boundsPanic _ _ _ _ | exact mild_underlying _ | exact mild_sizeOf _ | exact mild_asIntOf _ | exact mild_asAddr _ | exact mild_sureAddr _ | exact mild_asAgg _ | exact mild_part _ _ _ | exact mild_zeroValue _ | exact mild_sliceBound _ _ _ | refine mild_bind' ?_ (fun _ => ?_) | split)
theorem mild_slice (t : TypeId) (x : Value) (lo hi mx : Option Value) : mild rd P (Instr.slice t x lo hi mx) := by
  unfold Instr.slice
  dsimp only
  repeat' (first | exact mild_pure _ | exact mild_halt _ | exact mild_boundsPanic _ _ _ _ | exact mild_underlying _ | exact mild_sizeOf _ | exact mild_asIntOf _ | exact mild_asAddr _ | exact mild_sureAddr _ | exact mild_asAgg _ | exact mild_part _ _ _ | exact mild_zeroValue _ | exact mild_sliceBounds _ _ _ _ _ _ | refine mild_bind' ?_ (fun _ => ?_) | split)
theorem mild_sliceAt (t : TypeId) (x : Value) (lo hi mx : Option Value) : mild rd P (Instr.sliceAt t x lo hi mx) := by
  unfold Instr.sliceAt
  repeat' (first | exact mild_pure _ | exact mild_halt _ | exact mild_boundsPanic _ _ _ _ | exact mild_underlying _ | exact mild_sizeOf _ | exact mild_asIntOf _ | exact mild_asAddr _ | exact mild_sureAddr _ | exact mild_asAgg _ | exact mild_part _ _ _ | exact mild_zeroValue _ | exact mild_sliceBounds _ _ _ _ _ _ | exact mild_slice _ _ _ _ _ | refine mild_bind' ?_ (fun _ => ?_) | split)
theorem mild_indexAt (t : TypeId) (x i : Value) : mild rd P (Instr.indexAt t x i) := by
  unfold Instr.indexAt
  dsimp only
  repeat' (first | exact mild_pure _ | exact mild_halt _ | exact mild_boundsPanic _ _ _ _ | exact mild_underlying _ | exact mild_sizeOf _ | exact mild_asIntOf _ | exact mild_asAddr _ | exact mild_sureAddr _ | exact mild_asAgg _ | exact mild_part _ _ _ | exact mild_zeroValue _ | refine mild_bind' ?_ (fun _ => ?_) | split)
theorem mild_index (t : TypeId) (x i : Value) : mild rd P (Instr.index t x i) := by
  unfold Instr.index
  dsimp only
  repeat' (first | exact mild_pure _ | exact mild_halt _ | exact mild_boundsPanic _ _ _ _ | exact mild_underlying _ | exact mild_sizeOf _ | exact mild_asIntOf _ | exact mild_asAddr _ | exact mild_sureAddr _ | exact mild_asAgg _ | exact mild_part _ _ _ | exact mild_zeroValue _ | refine mild_bind' ?_ (fun _ => ?_) | split)
theorem mild_field (t : TypeId) (x : Value) (i : Nat) : mild rd P (Instr.field t x i) := by
  unfold Instr.field
  repeat' (first | exact mild_pure _ | exact mild_halt _ | exact mild_boundsPanic _ _ _ _ | exact mild_underlying _ | exact mild_sizeOf _ | exact mild_asIntOf _ | exact mild_asAddr _ | exact mild_sureAddr _ | exact mild_asAgg _ | exact mild_part _ _ _ | exact mild_zeroValue _ | refine mild_bind' ?_ (fun _ => ?_) | split)
theorem mild_extract (x : Value) (i : Nat) : mild rd P (Instr.extract x i) := by
  unfold Instr.extract; split
  · split <;> trivial
  · trivial
theorem mild_loadAt (t : TypeId) (x : Value) : mild true P (Instr.loadAt t x) := mild_bind' (mild_sureAddr x) fun a => mild_loadVar t a
/-- A field of a size. -/
def fieldSized (P : Program) (t : TypeId) (i : Nat) : Bool :=
  match P.underlying t with
  | some (.struct fs) => match fs[i]? with
    | some f => match P.info? f.type with
      | some j => j.size != 0
      | none => true
    | none => true
  | _ => true
theorem mild_fieldAt (t : TypeId) (x : Value) (i : Nat) (h : fieldSized P t i = true) : mild rd P (Instr.fieldAt t x i) := by
  unfold Instr.fieldAt
  show mild rd P (Sem.bind (Sem.bind program _) _)
  unfold fieldSized at h
  show mild rd P (Sem.bind ((match P.underlying t with | some d => (pure d : Sem TypeDesc) | none => stuck "no such type")) _)
  cases hu : P.underlying t with
  | none => trivial
  | some d =>
    rw [hu] at h
    show mild rd P (match d with | .struct fields => _ | _ => _)
    cases d <;> try trivial
    rename_i fs
    simp only at h ⊢
    cases hf : fs[i]? with
    | none => trivial
    | some f =>
      rw [hf] at h
      simp only at h ⊢
      refine mild_bind' (mild_sureAddr _) fun a => mild_bind' ?_ fun _ => mild_pure _
      unfold fieldPlace sizeOf typeInfo
      show mild rd P (Sem.bind (Sem.bind (match P.info? f.type with | some i => (pure i : Sem TypeInfo) | none => stuck "no such type") _) _)
      cases hi : P.info? f.type with
      | none => trivial
      | some j =>
        rw [hi] at h
        have hj : j.size ≠ 0 := by simpa using h
        show mild rd P (if j.size = 0 then _ else _)
        rw [if_neg hj]
        trivial
theorem mild_makeInterface (t : TypeId) (x : Value) : mild rd P (Instr.makeInterface t x) := by
  refine mild_bind' (mild_underlying t) fun d => ?_
  split <;> trivial
/-- Over these types a comparison looks at nothing. -/
def plainB (P : Program) (t : TypeId) : Bool :=
  match P.underlying t with
  | some .bool | some (.int _) | some .string | some (.float _) => true
  | _ => false
theorem mild_intArith (op : BinOp) (k : IntKind) (x y : Int) : mild rd P (Op.intArith op k x y) := by unfold Op.intArith; split <;> trivial
theorem mild_intDiv (op : BinOp) (k : IntKind) (x y : Int) : mild rd P (Op.intDiv op k x y) := by
  unfold Op.intDiv; split
  · trivial
  · split <;> trivial
theorem mild_intBits (op : BinOp) (k : IntKind) (x y : Int) : mild rd P (Op.intBits op k x y) := by unfold Op.intBits; split <;> trivial
theorem mild_intCmp (op : BinOp) (x y : Int) : mild rd P (Op.intCmp op x y) := by unfold Op.intCmp; split <;> trivial
theorem mild_shift (op : BinOp) (k : IntKind) (x : Int) (yk : IntKind) (y : Int) : mild rd P (Op.shift op k x yk y) := by
  unfold Op.shift; split
  · trivial
  · dsimp only; split <;> trivial
theorem mild_stringOp (op : BinOp) (x y : ByteArray) : mild rd P (Op.stringOp op x y) := by
  unfold Op.stringOp; dsimp only; split
  · split <;> trivial
  all_goals trivial
theorem mild_equal (t : TypeId) (x y : Value) (h : P.underlying t = some .bool ∨ (∃ k, P.underlying t = some (.int k)) ∨ P.underlying t = some .string) (hx : ∀ a, x ≠ .pointer a) (hy : ∀ a, y ≠ .pointer a) : mild rd P (Op.equal t x y) := by
  unfold Op.equal Op.maxDepth
  unfold Op.equalIn
  show mild rd P (Sem.bind (match P.underlying t with | some d => (pure d : Sem TypeDesc) | none => stuck "no such type") _)
  rcases h with h | ⟨k, h⟩ | h
  · rw [h]
    show mild rd P (match TypeDesc.bool, x, y with | _, _, _ => _)
    cases x <;> cases y <;> trivial
  · rw [h]
    show mild rd P (match TypeDesc.int k, x, y with | _, _, _ => _)
    cases x <;> first | exact absurd rfl (hx _) | (cases y <;> first | exact absurd rfl (hy _) | trivial | (show mild rd P (if _ then _ else _); split <;> trivial))
  · rw [h]
    show mild rd P (match TypeDesc.string, x, y with | _, _, _ => _)
    cases x <;> cases y <;> trivial
/-- A number, a bool or a string. -/
def plainV : Value → Bool
  | .int .. | .bool _ | .string _ | .tuple _ => true
  | _ => false
theorem mild_binOp (op : BinOp) (t : TypeId) (x y : Value) (hx : plainV x = true) (hy : plainV y = true)
    (ht : P.underlying t = some .bool ∨ (∃ k, P.underlying t = some (.int k)) ∨ P.underlying t = some .string) : mild rd P (binOp op t x y) := by
  have he : mild rd P (Op.equal t x y) := mild_equal t x y ht (fun a e => by subst e; cases hx) (fun a e => by subst e; cases hy)
  cases x <;> cases hx <;> cases y <;> cases hy <;> cases op <;>
    first
    | exact mild_shift _ _ _ _ _
    | exact mild_stringOp _ _ _
    | exact mild_bind' he fun _ => mild_pure _
    | trivial
    | (refine (show mild rd P (if _ then _ else _) from ?_); split
       · trivial
       · first | exact mild_pure _ | exact mild_intArith _ _ _ _ | exact mild_intDiv _ _ _ _ | exact mild_intBits _ _ _ _ | exact mild_intCmp _ _ _)
theorem mild_eqGuard (op : BinOp) (t : TypeId) (x y : Operand) (a b : Value) (ha : plainV a = true) : mild rd P (eqGuard op t x y a b) := by
  cases a <;> cases ha <;> (unfold eqGuard; split <;> trivial)
theorem mild_convertInt (s d : TypeId) (x : Value) (k k' : IntKind) (hs : P.underlying s = some (.int k)) (hd : P.underlying d = some (.int k')) (hx : plainV x = true) : mild rd P (convert s d x) := by
  unfold convert
  show mild rd P (Sem.bind (match P.underlying s with | some d => (pure d : Sem TypeDesc) | none => stuck "no such type") _)
  rw [hs]
  show mild rd P (Sem.bind (match P.underlying d with | some d => (pure d : Sem TypeDesc) | none => stuck "no such type") _)
  rw [hd]
  cases x <;> cases hx <;> trivial
theorem mild_forIn_list {α β : Type} (f : α → β → Sem (ForInStep β)) (h : ∀ a b, mild rd P (f a b)) : ∀ (l : List α) (b : β), mild rd P (forIn l b f)
  | [], b => trivial
  | a :: l, b => by
    rw [List.forIn_cons]
    refine mild_bind' (h a b) fun s => ?_
    cases s with
    | done b' => trivial
    | yield b' => exact mild_forIn_list f h l b'
theorem mild_bytesToString (x : Value) : mild true P (Conv.bytesToString x) := by
  unfold Conv.bytesToString
  split
  · trivial
  · refine mild_bind' (mild_loadCellsFrom _ _ _ _) fun cs => mild_bind' ?_ fun _ => mild_pure _
    rw [← Array.forIn_toList]
    refine mild_forIn_list _ (fun a b => ?_) _ _
    dsimp only
    split <;> trivial
  · trivial
theorem mild_convertBytes (s d e : TypeId) (x : Value) (hs : P.underlying s = some (.slice e)) (he : P.underlying e = some (.int .u8)) (hd : P.underlying d = some .string) (hx : ∀ k n, x ≠ .int k n) (hx' : ∀ b, x ≠ .string b) : mild true P (convert s d x) := by
  unfold convert
  show mild true P (Sem.bind (match P.underlying s with | some d => (pure d : Sem TypeDesc) | none => stuck "no such type") _)
  rw [hs]
  show mild true P (Sem.bind (match P.underlying d with | some d => (pure d : Sem TypeDesc) | none => stuck "no such type") _)
  rw [hd]
  have hm : mild true P (do let __do_lift ← underlying e; match __do_lift with | TypeDesc.int IntKind.u8 => Conv.bytesToString x | TypeDesc.int IntKind.i32 => Conv.runesToString x | _ => stuck "Convert: a slice of what to string?") := by
    show mild true P (Sem.bind (match P.underlying e with | some d => (pure d : Sem TypeDesc) | none => stuck "no such type") _)
    rw [he]
    exact mild_bytesToString x
  cases x <;> first | exact absurd rfl (hx _ _) | exact absurd rfl (hx' _) | exact hm
theorem mild_unary (op : UnOp) (x : Value) : mild rd P (Op.unary op x) := by
  cases op <;> cases x <;> first | trivial | exact mild_intArith _ _ _ _ | exact mild_intBits _ _ _ _ | (rename_i a; cases a <;> trivial)
theorem mild_len (ts : Array TypeId) (t : TypeId) (xs : Array Value) : mild true P (Builtin.len_ ts t xs) := by
  unfold Builtin.len_
  repeat' (first | exact mild_pure _ | exact mild_halt _ | exact mild_underlying _ | exact ⟨rfl, fun _ => trivial⟩ | refine mild_bind' ?_ (fun _ => ?_) | split)
end
end Go.Far
