/- What comes in, read as data: opened, of whatever type; each row's reach is kept. -/
import Derived.Test.YtamcoomkoenmcaaBase
import Derived.ProofKit
import Derived.SizedLaws
import Derived.ChangeOld
import Derived.Deep.Slices
set_option linter.unusedSimpArgs false
set_option linter.unusedVariables false
namespace Go.Far
open Go.ChangeShapes Go.WideShapes Go.RowKit Go.Deep
/-- The cells cs read as d at type t; no row in d is longer than an address space. -/
def RT (P : Program) (w : World) (t : TypeId) (cs : List Value) : Prop :=
  ∃ (H : Type) (enc : TypeId × Value → H) (fuel : Nat) (d : DataW H) (ps : List MemPlace), DataW.trod enc P w 0 (fun _ => true) true fuel t cs = some (d, ps) ∧ ∀ n ∈ d.weights P t, n ≤ reachBytes
section
variable {P : Program} {w : World} {t e : TypeId} {cs : List Value}
theorem rt_int {k : IntKind} (ht : P.underlying t = some (.int k)) (h : RT P w t cs) : ∃ n, cs = [.int k n] ∧ (Lit.int k n).wf = true := by
  obtain ⟨H, enc, fuel, d, ps, h, _⟩ := h
  obtain ⟨n, h1, _, h2⟩ := DataW.trod_int ht h
  exact ⟨n, h1, h2⟩
theorem rt_bool (ht : P.underlying t = some .bool) (h : RT P w t cs) : ∃ b, cs = [.bool b] := by
  obtain ⟨H, enc, fuel, d, ps, h, _⟩ := h
  obtain ⟨b, h1, _⟩ := DataW.trod_bool ht h
  exact ⟨b, h1⟩
theorem rt_string (ht : P.underlying t = some .string) (h : RT P w t cs) : ∃ s : ByteArray, cs = [.string s] ∧ s.size ≤ reachBytes := by
  obtain ⟨H, enc, fuel, d, ps, h, hw⟩ := h
  obtain ⟨s, h1, h2, _⟩ := DataW.trod_string ht h
  injection h2 with h2 _
  subst h2
  exact ⟨s, h1, hw _ (by simp [DataW.weights])⟩
theorem weightsEach_mem {H : Type} {P : Program} : ∀ {ts : List TypeId} {ds : List (DataW H)} {i : Nat} {t : TypeId} {d : DataW H}, ts[i]? = some t → ds[i]? = some d → ∀ n ∈ d.weights P t, n ∈ DataW.weightsEach P ts ds := fun ht hd n hn => DataW.weights_mem_each ht hd n hn
theorem weightsAll_mem {H : Type} {P : Program} {e : TypeId} : ∀ {ds : List (DataW H)} {d : DataW H}, d ∈ ds → ∀ n ∈ d.weights P e, n ∈ DataW.weightsAll P e ds
  | x :: r, d, hd, n, hn => by
    simp only [DataW.weightsAll, List.mem_append]
    rcases List.mem_cons.1 hd with rfl | h
    · exact .inl hn
    · exact .inr (weightsAll_mem h n hn)
theorem rt_struct {fs : Array Field} (ht : P.underlying t = some (.struct fs)) (h : RT P w t cs) :
    cs.length = P.cellsOf t ∧ ∀ (i : Nat) (f : Field), fs[i]? = some f → RT P w f.type ((cs.drop f.offset).take (P.cellsOf f.type)) := by
  obtain ⟨H, enc, fuel, d, ps, h, hw⟩ := h
  obtain ⟨xs, n, _, hx, hl, hlen, hf⟩ := DataW.trod_struct ht h
  injection hx with h1 h2
  subst h1
  refine ⟨hl, fun i f hi => ?_⟩
  have hlt : i < fs.size := (Array.getElem?_eq_some_iff.1 hi).1
  have hxi := hf i f hi
  rw [List.getElem?_eq_getElem (by omega)] at hxi
  refine ⟨H, enc, n, (xs[i]'(by omega)).1, (xs[i]'(by omega)).2, hxi, fun m hm => hw m ?_⟩
  simp only [DataW.weights, ht]
  exact weightsEach_mem (i := i) (by rw [List.getElem?_map, Array.getElem?_toList, hi]; rfl) (by rw [List.getElem?_map, List.getElem?_eq_getElem (by omega)]; rfl) m hm
theorem rt_array {n : Nat} (ht : P.underlying t = some (.array n e)) (h : RT P w t cs) :
    cs.length = P.cellsOf t ∧ ∀ i, i < n → RT P w e ((cs.drop (i * P.cellsOf e)).take (P.cellsOf e)) := by
  obtain ⟨H, enc, fuel, d, ps, h, hw⟩ := h
  cases fuel with
  | zero => simp [DataW.trod] at h
  | succ m =>
    unfold DataW.trod at h
    simp only [ht] at h
    split at h
    · rename_i hl
      refine ⟨hl, fun i hi => ?_⟩
      obtain ⟨xs, hxs, hx⟩ := Option.map_eq_some_iff.1 h
      injection hx with h1 h2
      subst h1
      have hlen := mapM_some_length hxs
      rw [List.length_range] at hlen
      have hg := mapM_some_get hxs i i (by simp [hi])
      rw [List.getElem?_eq_getElem (by omega)] at hg
      refine ⟨H, enc, m, (xs[i]'(by omega)).1, (xs[i]'(by omega)).2, hg, fun q hq => hw q ?_⟩
      simp only [DataW.weights, ht]
      exact weightsAll_mem (List.mem_map.2 ⟨_, List.getElem_mem (by omega), rfl⟩) q hq
    · cases h
/-- A slice, opened at every element. -/
theorem rt_slice {sz : Nat} (ht : P.underlying t = some (.slice e)) (hc : P.cellsOf e = sz) (h : RT P w t cs) :
    ∃ p n cap, ∃ V : Nat → List Value, cs = [.slice p n cap] ∧ n ≤ cap ∧ cap ≤ maxLen ∧ (p = none → cap = 0) ∧ cap * P.bytesOf e ≤ reachBytes ∧ (∀ i, i < n → (V i).length = sz ∧ RT P w e (V i)) ∧
      (0 < n → 0 < sz → ∃ b off, p = some ⟨b, off, none⟩ ∧ ∀ i, i < n → ∀ j, j < sz → w.cell? ⟨b, off + i * sz + j, none⟩ = (V i)[j]?) := by
  obtain ⟨H, enc, fuel, d, ps, h, hw⟩ := h
  subst hc
  rcases DataW.trod_slice ht h with ⟨rfl, _⟩ | ⟨a, len, cap, elems, rest, m, _, rfl, hx, _, hl, hm, hlen, hel, hsp, _⟩
  · exact ⟨none, 0, 0, fun _ => [], rfl, Nat.le_refl _, by simp [maxLen], fun _ => rfl, by simp, fun i hi => absurd hi (Nat.not_lt_zero i), fun h => absurd h (Nat.lt_irrefl 0)⟩
  · injection hx with h1 h2
    subst h1
    have hr := (hsp rfl).1
    have hbytes := hw ((elems.length + rest.length) * P.bytesOf e) (by simp [DataW.weights, ht])
    have hE : ∀ i, i < len → ∃ v, w.cells? 0 (a.add (i * P.cellsOf e)) (P.cellsOf e) = some v ∧ RT P w e v := fun i hi => by
      have := hel i hi
      rw [List.getElem?_eq_getElem (by omega)] at this
      obtain ⟨v, k1, k2⟩ := Option.bind_eq_some_iff.1 this
      refine ⟨v, k1, H, enc, m, _, _, k2, fun q hq => hw q ?_⟩
      simp only [DataW.weights, ht, List.mem_cons, List.mem_append]
      exact .inr (.inl (weightsAll_mem (List.mem_map.2 ⟨_, List.getElem_mem (by omega), rfl⟩) q hq))
    obtain ⟨V, hV⟩ := choose_lt (α := List Value) (p := fun i v => w.cells? 0 (a.add (i * P.cellsOf e)) (P.cellsOf e) = some v ∧ RT P w e v) hE
    refine ⟨some a, len, cap, V, rfl, hl, hm, (fun h => by cases h), ?_, fun i hi => ⟨(World.cells?_some (hV i hi).1).2.1, (hV i hi).2⟩, fun hn hs => ?_⟩
    · rw [hlen, hr] at hbytes
      rwa [show len + (cap - len) = cap by omega] at hbytes
    · obtain ⟨b, off, s⟩ := a
      have hs' : s = none := by
        obtain ⟨_, k2, k3⟩ := World.cells?_some (hV 0 hn).1
        have := k3 0 hs
        rw [List.getElem?_eq_getElem (by omega)] at this
        have hs := World.cell?_spot this
        simpa [Addr.add] using hs
      subst hs'
      refine ⟨b, off, rfl, fun i hi j hj => ?_⟩
      obtain ⟨_, k2, k3⟩ := World.cells?_some (hV i hi).1
      have := k3 j hj
      rw [Addr.add_mid, Addr.add_mid] at this
      exact this
theorem flatMap_get {V : Nat → List Value} {sz : Nat} : ∀ {n : Nat}, (∀ i, i < n → (V i).length = sz) → ((List.range n).flatMap V).length = n * sz ∧ ∀ i j, i < n → j < sz → ((List.range n).flatMap V)[i * sz + j]? = (V i)[j]?
  | 0, _ => ⟨by simp, fun i j hi => absurd hi (Nat.not_lt_zero i)⟩
  | n + 1, h => by
    obtain ⟨h1, h2⟩ := flatMap_get (V := V) (sz := sz) (n := n) fun i hi => h i (by omega)
    have hn := h n (by omega)
    rw [List.range_succ, List.flatMap_append, List.flatMap_singleton]
    refine ⟨by rw [List.length_append, h1, hn, Nat.succ_mul], fun i j hi hj => ?_⟩
    by_cases hin : i < n
    · have : i * sz + j < n * sz := by
        have := Nat.mul_le_mul_right sz (show i + 1 ≤ n by omega)
        rw [Nat.succ_mul] at this; omega
      rw [List.getElem?_append_left (by rw [h1]; exact this)]
      exact h2 i j hin hj
    · have : i = n := by omega
      subst this
      rw [List.getElem?_append_right (by rw [h1]; omega), h1, Nat.add_sub_cancel_left]
/-- A slice that came in, as a row that is read. -/
theorem rt_row {sz : Nat} (ht : P.underlying t = some (.slice e)) (hc : P.cellsOf e = sz) (hpos : 0 < sz) (h : RT P w t cs) :
    ∃ v n, ∃ V : Nat → List Value, cs = [v] ∧ Row w 0 w.heap.size v n ((List.range n).flatMap V) ∧ n * P.bytesOf e ≤ reachBytes ∧ (∀ i, i < n → (V i).length = sz ∧ RT P w e (V i)) := by
  obtain ⟨p, n, cap, V, rfl, h1, h2, h3, h4, h5, h7⟩ := rt_slice ht hc h
  have hfm := flatMap_get (V := V) (sz := sz) (n := n) fun i hi => (h5 i hi).1
  refine ⟨_, n, V, rfl, ⟨p, cap, rfl, h1, h2, h3, fun hne => ?_⟩, Nat.le_trans (Nat.mul_le_mul_right _ h1) h4, h5⟩
  have hn : 0 < n := by
    rcases Nat.eq_zero_or_pos n with rfl | h
    · simp at hne
    · exact h
  obtain ⟨b, off, hp, hcell⟩ := h7 hn hpos
  have hget : ∀ k v, ((List.range n).flatMap V)[k]? = some v → w.cell? ⟨b, off + k, none⟩ = some v := fun k v hk => by
    have hkl : k < n * sz := by rw [← hfm.1]; exact (List.getElem?_eq_some_iff.1 hk).1
    have hd := Nat.div_add_mod k sz
    have hm := Nat.mod_lt k hpos
    have hi : k / sz < n := Nat.div_lt_of_lt_mul (by rw [Nat.mul_comm]; exact hkl)
    rw [Nat.mul_comm] at hd
    have e1 := hfm.2 (k / sz) (k % sz) hi hm
    have e2 := hcell (k / sz) hi (k % sz) hm
    rw [Nat.add_assoc, hd] at e2
    rw [hd] at e1
    rw [e2, ← e1]; exact hk
  obtain ⟨v0, hv0⟩ : ∃ v, ((List.range n).flatMap V)[0]? = some v := by
    rw [List.getElem?_eq_getElem (by rw [hfm.1]; exact Nat.mul_pos hn hpos)]; exact ⟨_, rfl⟩
  have hb : b < w.heap.size := block_lt (hget 0 v0 hv0)
  exact ⟨b, off, hp, Nat.zero_le _, hb, hget⟩
theorem wf_u8 {n : Int} (h : (Lit.int .u8 n).wf = true) : ∃ x : UInt8, n = (x.toNat : Int) := by
  have h1 : IntKind.u8.min = 0 := rfl
  have h2 : IntKind.u8.max = 255 := rfl
  simp only [Lit.wf, Bool.and_eq_true, decide_eq_true_eq, h1, h2] at h
  refine ⟨UInt8.ofNat n.toNat, ?_⟩
  rw [UInt8.toNat_ofNat']
  omega
/-- A slice's elements, one after the other. -/
theorem exists_list {α : Type} {n : Nat} {p : Nat → α → Prop} (h : ∀ i, i < n → ∃ x, p i x) : ∃ l : List α, l.length = n ∧ ∀ i x, l[i]? = some x → p i x := by
  induction n with
  | zero => exact ⟨[], rfl, fun i x hx => by simp at hx⟩
  | succ n ih =>
    obtain ⟨l, h1, h2⟩ := ih fun i hi => h i (by omega)
    obtain ⟨x, hx⟩ := h n (by omega)
    refine ⟨l ++ [x], by simp [h1], fun i y hy => ?_⟩
    by_cases hi : i < n
    · rw [List.getElem?_append_left (by omega)] at hy; exact h2 i y hy
    · rw [List.getElem?_append_right (by omega), h1] at hy
      have : i - n = 0 := by
        have := (List.getElem?_eq_some_iff.1 hy).1
        simp at this; omega
      rw [this] at hy
      have hin : i = n := by omega
      subst hin
      simp at hy; subst hy; exact hx
theorem rt_bytes (ht : P.underlying t = some (.slice e)) (he : P.underlying e = some (.int .u8)) (hc : P.cellsOf e = 1) (hb : P.bytesOf e = 1) (h : RT P w t cs) :
    ∃ v, ∃ l : List UInt8, cs = [v] ∧ Row w 0 w.heap.size v l.length (l.map bv) ∧ l.length ≤ reachBytes := by
  obtain ⟨v, n, V, h1, h2, h3, h4⟩ := rt_row ht hc (by decide) h
  obtain ⟨l, hl, hx⟩ := exists_list (n := n) (p := fun i (x : UInt8) => V i = [bv x]) fun i hi => by
    obtain ⟨m, hm, hw⟩ := rt_int he (h4 i hi).2
    obtain ⟨x, rfl⟩ := wf_u8 hw
    exact ⟨x, hm⟩
  subst hl
  refine ⟨v, l, h1, ?_, by rw [hb] at h3; omega⟩
  have : (List.range l.length).flatMap V = l.map bv := by
    refine List.ext_getElem? fun i => ?_
    have hf := flatMap_get (V := V) (sz := 1) (n := l.length) fun i hi => (h4 i hi).1
    by_cases hi : i < l.length
    · have := hf.2 i 0 hi (by decide)
      rw [Nat.mul_one, Nat.add_zero] at this
      rw [this, hx i l[i] (by simp [hi])]; simp [hi]
    · rw [List.getElem?_eq_none (by rw [hf.1]; omega), List.getElem?_eq_none (by simp; omega)]
  rw [this] at h2
  exact h2
theorem rt_of_trod {H : Type} {enc : TypeId × Value → H} {v : Value} {d : DataW H} {ps : List MemPlace} {ts : List TypeId} {ds : List (DataW H)} (h : DataW.Trod enc P w 0 (fun _ => true) true t v d ps)
    (hsz : (DataW.weightsEach P ts ds).all (· ≤ reachBytes) = true) {j : Nat} (ht : ts[j]? = some t) (hd : ds[j]? = some d) : RT P w t v.cells.toList := by
  obtain ⟨fuel, hf⟩ := h
  refine ⟨H, enc, fuel, d, ps, hf, fun n hn => ?_⟩
  have := List.all_eq_true.1 hsz _ (DataW.weights_mem_each ht hd n hn)
  simpa using this
end
end Go.Far
