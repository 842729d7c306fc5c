/- Queues are laid one behind another. -/
import Derived.Test.YtamcoomkoenmcaaW9
set_option linter.unusedSimpArgs false
set_option linter.unusedVariables false
namespace Go.Proofs.Ytamcoomkoenmcaa
open Go.RowKit Go.Far
theorem POwn.nil (w : World) (base : Nat) : POwn w base (.slice none 0 0) [] := ⟨[], rfl, World.ownsRow_nil _ _ _ _, fun k hk => absurd hk (Nat.not_lt_zero k)⟩
theorem take_more {α : Type} (l : List α) (k : Nat) (d : α) (h : k < l.length) : l.take (k + 1) = l.take k ++ [l.getD k d] := by
  rw [List.take_add_one]; simp [h]
theorem POwn.setLow {w : World} {base : Nat} {v : Value} {ps : List (List UInt8)} (h : POwn w base v ps) {a : Addr} (ha : a.block < base) (u : Value) : POwn (w.setCell a u) base v ps := by
  obtain ⟨xs, p1, p2, p3⟩ := h
  exact ⟨xs, p1, ownsRow_setCell_below p2 ha u, fun k hk => ownsRow_setCell_below (p3 k hk) ha u⟩
theorem lit_cells (W : World) (cs : Array Value) (T : TypeId) (j : Nat) (u : Value) (h : cs[j]? = some u) : (W.alloc (.cells cs T)).cell? ((⟨W.heap.size, 0, none⟩ : Addr).add j) = some u := by
  have hadd : (⟨W.heap.size, 0, none⟩ : Addr).add j = ⟨W.heap.size, j, none⟩ := by unfold Addr.add; split <;> simp_all
  rw [hadd, World.cell?_alloc_new, h]
/-- No row takes more than an address space has. -/
def SB (s : Sd) : Prop := s.queues.length * 40 ≤ 140737488355328 ∧ ∀ i, i < s.queues.length → (s.queues.getD i default).packs.length * 24 ≤ 140737488355328 ∧ ∀ k, k < (s.queues.getD i default).packs.length → ((s.queues.getD i default).packs.getD k []).length ≤ 140737488355328
theorem SB_of {s : Sd} (h : sdB s = true) : SB s := by
  have h1 := h
  simp only [sdB, headB, Bool.and_eq_true, beq_iff_eq, List.all_eq_true] at h1
  refine ⟨by omega, fun i hi => ?_⟩
  have e : s.queues.getD i default = s.queues[i] := by simp [hi]
  have h2 := quB_packs (h1.2 _ (List.getElem_mem hi))
  rw [e]
  exact ⟨by omega, fun k hk => by have := h2.2 k hk; omega⟩
theorem QOwn.push {wr w wf : World} {B : Nat} {lv lv' pv : Value} {qs : List Qu} {q : Qu} {us : List Value} (hus : us.length = qs.length) (hown : wr.ownsRow B 61 3 lv qs.length (flat qs us))
    (hpo : ∀ i, i < qs.length → POwn wr B (us.getD i undef) (qs.getD i default).packs) (hsep : ∀ i j k, i < j → j < qs.length → (us.getD i undef).ownBlock = some k → (us.getD j undef).ownBlock ≠ some k)
    (hg : New wr w) (hB : B ≤ wr.heap.size) (hp : POwn w wr.heap.size pv q.packs) (hgr : ∀ b, b < w.heap.size → lv.ownBlock ≠ some b → wf.heap[b]? = w.heap[b]?)
    (hf : wf.ownsRow B 61 3 lv' (qs.length + 1) (flat qs us ++ [iv q.own, pv, iv q.gone])) : QOwn wf B lv' (qs ++ [q]) := by
  have hown2 := hown.new hg
  -- whatever is no row of queues is as it was
  have hother : ∀ {v : Value} {ps : List (List UInt8)} {base : Nat}, POwn w base v ps → POwn wf base v ps := fun {v ps base} h => by
    obtain ⟨xs, p1, p2, p3⟩ := h
    exact ⟨xs, p1, p2.same fun k hk => hgr k (p2.elem hk).2.1 fun hk' => own_ne p2 hown2 (by decide) hk hk', fun j hj => (p3 j hj).same fun k hk => hgr k ((p3 j hj).elem hk).2.1 fun hk' => own_ne (p3 j hj) hown2 (by decide) hk hk'⟩
  refine ⟨us ++ [pv], by simp [hus], ?_, fun i hi => ?_, fun i j k hij hj hk => ?_⟩
  · rw [flat_append _ _ _ _ hus, List.length_append]; exact hf
  · simp only [List.length_append, List.length_cons, List.length_nil] at hi
    by_cases hiq : i < qs.length
    · have e1 : (us ++ [pv]).getD i undef = us.getD i undef := by simp [List.getElem?_append_left, hus, hiq]
      have e2 : (qs ++ [q]).getD i default = qs.getD i default := by simp [List.getElem?_append_left, hiq]
      rw [e1, e2]; exact hother ((hpo i hiq).new hg)
    · have hie : i = qs.length := by omega
      subst hie
      have e1 : (us ++ [pv]).getD qs.length undef = pv := by simp [← hus]
      have e2 : (qs ++ [q]).getD qs.length default = q := by simp
      rw [e1, e2]; exact (hother hp).low hB
  · simp only [List.length_append, List.length_cons, List.length_nil] at hj
    have e1 : (us ++ [pv]).getD i undef = us.getD i undef := by simp [List.getElem?_append_left, hus, show i < qs.length by omega]
    rw [e1] at hk
    by_cases hjq : j < qs.length
    · have e2 : (us ++ [pv]).getD j undef = us.getD j undef := by simp [List.getElem?_append_left, hus, hjq]
      rw [e2]; exact hsep i j k hij hjq hk
    · have hje : j = qs.length := by omega
      subst hje
      have e2 : (us ++ [pv]).getD qs.length undef = pv := by simp [← hus]
      rw [e2]
      intro hk'
      have h1 := (hp.block hk').1
      have h2 := ((hpo i (by omega)).block hk).2.1
      omega
section
variable {P : Program} {w : World} {ops : Array Oper} {rest : List Oper} {o : Oper} {a : Act} {Q : Exit → Act → World → Prop}
/-- append(own, an element of some cells). -/
theorem wl_append_elem {t e : TypeId} {sz bytes : Nat} {z : Value} (T : ElemOk P t e sz bytes z) (hgd : o.guard = none) (s x : Operand)
    (ho : o.op = .call { callee := .builtin .append, args := #[s, x], argTypes := #[t, t] }) (base : Nat) {v : Value} (hs : a.eval s = v) {ad : Addr} (hx : a.eval x = .slice (some ad) 1 1)
    {n : Nat} {xs news : List Value} (hown : w.ownsRow base e sz v n xs) (hl : news.length = sz) (hnews : ∀ j u, news[j]? = some u → w.cell? (ad.add j) = some u) (h1 : ∀ u ∈ news, u.oneCell' = true)
    (hbytes : (n + 1) * bytes ≤ 140737488355328) (hmax : n + 1 ≤ maxLen) (hbase : base ≤ w.heap.size)
    (h : ∀ g c' w', w'.ownsRow base e sz (.slice (some ⟨g, 0, none⟩) (n + 1) c') (n + 1) (xs ++ news) → w.grownBy w' v.ownBlock → (v.ownBlock = some g ∨ g = w.heap.size) → wpList P ops Q rest (a.put o.dst (.slice (some ⟨g, 0, none⟩) (n + 1) c')) w') : wpList P ops Q (o :: rest) a w := by
  obtain ⟨ht, ⟨i, hi', hz, hsz, hby⟩, hzs, hpos⟩ := T
  exact wpList_plain hgd fun _ hK => wp_append_lies w s x t ho base e i z sz bytes ht hi' hz hsz hby hzs hpos v n xs hs hown ad 1 1 news hx (by omega) hnews h1 (by decide) hmax hbytes hbase w.heap.size rfl (fun g c' w' h2 h3 h4 _ => hK _ _ (h g c' w' h2 h3 h4))
end
end Go.Proofs.Ytamcoomkoenmcaa
