/- A packet is put into the call's own queues. -/
import Derived.Test.YtamcoomkoenmcaaW7
import Derived.Deep.AppendLies
set_option linter.unusedSimpArgs false
set_option linter.unusedVariables false
namespace Go.Proofs.Ytamcoomkoenmcaa
open Go.RowKit Go.Far
def putErr (s : Sd) (ch : Int) (l : List UInt8) : Int :=
  if sdB s = false then 11 else if inB ch 6 = false then 2 else if oneB l = false then 8 else if 200 ≤ (s.queues.getD ch.toNat default).packs.length then 12 else 0
def quPut (q : Qu) (l : List UInt8) : Qu := { q with packs := q.packs ++ [l] }
def putS (s : Sd) (ch : Int) (l : List UInt8) : Sd :=
  if sdB s = false then sd0 else if putErr s ch l = 0 then { s with queues := s.queues.set ch.toNat (quPut (s.queues.getD ch.toNat default) l) } else s
def PutRes (w : World) (s : Sd) (ch : Int) (l : List UInt8) (r : Value) (w' : World) : Prop :=
  New w w' ∧ ∃ sv, r = .tuple #[sv, iv (putErr s ch l)] ∧ SOwn w' w.heap.size sv (putS s ch l)
theorem QOwn.grow {w wa wf : World} {B g cap n : Nat} {qs : List Qu} {us : List Value} {c : Nat} {u' : Value} {q' : Qu} (hn : n = qs.length) (hus : us.length = qs.length)
    (hpo : ∀ i, i < qs.length → POwn w B (us.getD i undef) (qs.getD i default).packs) (hsep : ∀ i j k, i < j → j < qs.length → (us.getD i undef).ownBlock = some k → (us.getD j undef).ownBlock ≠ some k) (hc : c < qs.length)
    (hkeep : ∀ b, b < w.heap.size → (us.getD c undef).ownBlock ≠ some b → b ≠ g → wf.heap[b]? = w.heap[b]?) (hg : ∃ cur, w.heap[g]? = some (.cells cur 61 (0, 0)))
    (hnew : ∀ k, u'.ownBlock = some k → (us.getD c undef).ownBlock = some k ∨ w.heap.size ≤ k) (hu' : POwn wf B u' q'.packs)
    (hf : wf.ownsRow B 61 3 (.slice (some ⟨g, 0, none⟩) n cap) n (flat (qs.set c q') (us.set c u'))) : QOwn wf B (.slice (some ⟨g, 0, none⟩) n cap) (qs.set c q') := by
  subst hn
  obtain ⟨cur, hcur⟩ := hg
  have hother : ∀ i, i < qs.length → i ≠ c → POwn wf B (us.getD i undef) (qs.getD i default).packs := fun i hi hic => by
    obtain ⟨xs, p1, p2, p3⟩ := hpo i hi
    have hsep' : ∀ k, (us.getD i undef).ownBlock = some k → (us.getD c undef).ownBlock ≠ some k := fun k hk hk' => by
      rcases Nat.lt_or_gt_of_ne hic with h | h
      · exact hsep i c k h hc hk hk'
      · exact hsep c i k h hi hk' hk
    refine ⟨xs, p1, p2.same fun k hk => hkeep k (p2.elem hk).2.1 (hsep' k hk) ?_, fun j hj => (p3 j hj).same fun k hk => hkeep k ((p3 j hj).elem hk).2.1 ?_ ?_⟩
    · rintro rfl
      obtain ⟨_, _, c', hc'⟩ := p2.elem hk
      rw [hcur] at hc'; injection hc' with hc'; injection hc' with _ he _; exact absurd he (by decide)
    · intro hk'
      obtain ⟨_, _, c', hc'⟩ := (p3 j hj).elem hk
      obtain ⟨_, _, c'', hc''⟩ := (hpo c hc).block hk'
      rw [hc'] at hc''; injection hc'' with hc''; injection hc'' with _ he _; exact absurd he (by decide)
    · rintro rfl
      obtain ⟨_, _, c', hc'⟩ := (p3 j hj).elem hk
      rw [hcur] at hc'; injection hc' with hc'; injection hc' with _ he _; exact absurd he (by decide)
  refine ⟨us.set c u', by simpa using hus, by simpa using hf, fun i hi => ?_, fun i j k hij hj hk => ?_⟩
  · simp only [List.length_set] at hi
    by_cases hic : i = c
    · subst hic
      rw [getD_set_eq _ _ _ _ (by omega), getD_set_eq _ _ _ _ hi]; exact hu'
    · rw [getD_set_ne _ _ _ _ _ (Ne.symm hic), getD_set_ne _ _ _ _ _ (Ne.symm hic)]; exact hother i hi hic
  · simp only [List.length_set] at hj
    by_cases hic : i = c
    · subst hic
      rw [getD_set_eq _ _ _ _ (by omega)] at hk
      rw [getD_set_ne _ _ _ _ _ (by omega)]
      rcases hnew k hk with h | h
      · exact hsep i j k hij hj h
      · intro hk'; have := ((hpo j hj).block hk').2.1; omega
    · rw [getD_set_ne _ _ _ _ _ (Ne.symm hic)] at hk
      by_cases hjc : j = c
      · subst hjc
        rw [getD_set_eq _ _ _ _ (by omega)]
        intro hk'
        rcases hnew k hk' with h | h
        · exact hsep i j k hij hj hk h
        · have := ((hpo i (by omega)).block hk).2.1; omega
      · rw [getD_set_ne _ _ _ _ _ (Ne.symm hjc)]; exact hsep i j k hij hj hk
theorem flat_put1 : ∀ (qs : List Qu) (us : List Value), us.length = qs.length → ∀ i q u, i < qs.length → q.own = (qs.getD i default).own → q.gone = (qs.getD i default).gone → flat (qs.set i q) (us.set i u) = (flat qs us).set (i * 3 + 1) u
  | [], us, _, i, q, u, h, _, _ => by simp at h
  | q :: qs, [], h, _, _, _, _, _, _ => by simp at h
  | q :: qs, x :: us, h, 0, q', u, _, h1, h2 => by
    simp at h1 h2
    simp [flat, h1, h2]
  | q :: qs, x :: us, h, i + 1, q', u, hi, h1, h2 => by
    have := flat_put1 qs us (by simpa using h) i q' u (by simpa using hi) (by simpa using h1) (by simpa using h2)
    simp only [flat, List.set_cons_succ, List.zip_cons_cons, List.flatMap_cons] at this ⊢
    rw [this, show (i + 1) * 3 + 1 = i * 3 + 1 + 1 + 1 + 1 by omega]
    simp
/-- A row of bytes more. -/
theorem POwn.more {w wa : World} {B : Nat} {u u' r : Value} {ps : List (List UInt8)} {l : List UInt8} {xs : List Value} (h1 : xs.length = ps.length) (h2 : w.ownsRow B 25 1 u ps.length xs) (h3 : ∀ k, k < ps.length → w.ownsRow B 5 1 (xs.getD k undef) (ps.getD k []).length ((ps.getD k []).map bv))
    (hr : w.ownsRow B 5 1 r l.length (l.map bv)) (hkeep : ∀ b, b < w.heap.size → u.ownBlock ≠ some b → wa.heap[b]? = w.heap[b]?) (hu : wa.ownsRow B 25 1 u' (ps.length + 1) (xs ++ [r])) : POwn wa B u' (ps ++ [l]) := by
  have hsame : ∀ {v : Value} {n : Nat} {ys : List Value}, w.ownsRow B 5 1 v n ys → wa.ownsRow B 5 1 v n ys := fun h => h.same fun k hk => hkeep k (h.elem hk).2.1 fun hk' => own_ne h h2 (by decide) hk hk'
  refine ⟨xs ++ [r], by simp [h1], by simpa using hu, fun k hk => ?_⟩
  simp only [List.length_append, List.length_cons, List.length_nil] at hk
  by_cases hkl : k < ps.length
  · have e1 : (xs ++ [r]).getD k undef = xs.getD k undef := by simp [List.getElem?_append_left, h1, hkl]
    have e2 : (ps ++ [l]).getD k [] = ps.getD k [] := by simp [List.getElem?_append_left, hkl]
    rw [e1, e2]; exact hsame (h3 k hkl)
  · have hke : k = ps.length := by omega
    subst hke
    have e1 : (xs ++ [r]).getD ps.length undef = r := by simp [← h1]
    have e2 : (ps ++ [l]).getD ps.length [] = l := by simp
    rw [e1, e2]; exact hsame hr
section
variable {P : Program} {w : World} {ops : Array Oper} {rest : List Oper} {o : Oper} {a : Act} {Q : Exit → Act → World → Prop}
/-- append(own, one). -/
theorem wl_append_one {t e : TypeId} {bytes : Nat} {z : Value} (T : ElemOk P t e 1 bytes z) (hgd : o.guard = none) (s x : Operand)
    (ho : o.op = .call { callee := .builtin .append, args := #[s, x], argTypes := #[t, t] }) (base : Nat) {v : Value} (hs : a.eval s = v) {ad : Addr} (hx : a.eval x = .slice (some ad) 1 1)
    {n : Nat} {xs : List Value} {y : Value} (hown : w.ownsRow base e 1 v n xs) (hy : w.cell? ad = some y) (h1 : y.oneCell' = true)
    (hbytes : (n + 1) * bytes ≤ 140737488355328) (hmax : n + 1 ≤ maxLen) (hbase : base ≤ w.heap.size)
    (h : ∀ g c' w', w'.ownsRow base e 1 (.slice (some ⟨g, 0, none⟩) (n + 1) c') (n + 1) (xs ++ [y]) → w.grownBy w' v.ownBlock → (v.ownBlock = some g ∨ g = w.heap.size) → wpList P ops Q rest (a.put o.dst (.slice (some ⟨g, 0, none⟩) (n + 1) c')) w') : wpList P ops Q (o :: rest) a w := by
  obtain ⟨ht, ⟨i, hi', hz, hsz, hby⟩, hzs, hpos⟩ := T
  refine wpList_plain hgd fun _ hK => wp_append_lies w s x t ho base e i z 1 bytes ht hi' hz hsz hby hzs hpos v n xs hs hown ad 1 1 [y] hx rfl (fun j u hu => ?_) (fun u hu => ?_) (by decide) hmax hbytes hbase w.heap.size rfl (fun g c' w' h2 h3 h4 _ => hK _ _ (h g c' w' h2 h3 h4))
  · cases j with
    | zero =>
      simp at hu
      subst hu
      have : ad.add 0 = ad := by cases ad; simp [Addr.add]
      rw [this]; exact hy
    | succ j => simp at hu
  · simp at hu; subst hu; exact h1
end
end Go.Proofs.Ytamcoomkoenmcaa
