/-
  Rows of askers that are written over, cut, cleared.
-/
import Derived.Test.YtigjipjkollohaaClientThose
import Derived.Lib.SliceRun
namespace Go.Proofs.Ytigjipjkollohaa
open Go.RowKit

def setL (xs : List Value) : Nat → List Value → List Value
  | _, [] => xs
  | o, v :: r => setL (xs.set o v) (o + 1) r
theorem setL_at : ∀ (vs xs : List Value) (o : Nat), o + vs.length ≤ xs.length → ∀ j, (setL xs o vs)[j]? = if o ≤ j ∧ j < o + vs.length then vs[j - o]? else xs[j]?
  | [], xs, o, _, j => by simp [setL]; omega
  | v :: r, xs, o, h, j => by
    simp only [List.length_cons] at h
    rw [setL, setL_at r (xs.set o v) (o + 1) (by rw [List.length_set]; omega) j]
    by_cases h1 : o + 1 ≤ j ∧ j < o + 1 + r.length
    · rw [if_pos h1, if_pos ⟨by omega, by simp only [List.length_cons]; omega⟩, show j - o = (j - (o + 1)) + 1 by omega, List.getElem?_cons_succ]
    · rw [if_neg h1]
      by_cases h2 : j = o
      · subst h2
        rw [List.getElem?_set_self (by omega), if_pos ⟨Nat.le_refl _, by simp only [List.length_cons]; omega⟩, Nat.sub_self]
        rfl
      · rw [List.getElem?_set_ne (fun e => h2 e.symm), if_neg (by simp only [List.length_cons]; omega)]
theorem setL_length : ∀ (vs xs : List Value) (o : Nat), (setL xs o vs).length = xs.length
  | [], xs, o => rfl
  | v :: r, xs, o => by rw [setL, setL_length r, List.length_set]
theorem own_setCells {B n cap size g : Nat} {e : TypeId} : ∀ (vs : List Value) (o : Nat) (xs : List Value) (w : World), w.ownsRow B e size (.slice (some ⟨g, 0, none⟩) n cap) n xs → (w.setCells g o vs).ownsRow B e size (.slice (some ⟨g, 0, none⟩) n cap) n (setL xs o vs)
  | [], _, _, _, h => h
  | v :: r, o, _, _, h => own_setCells r (o + 1) _ _ (h.stored o v).1
theorem own_shrink {w : World} {B n cap size g : Nat} {e : TypeId} {xs : List Value} (h : w.ownsRow B e size (.slice (some ⟨g, 0, none⟩) n cap) n xs) {m : Nat} (hm : m ≤ n) : w.ownsRow B e size (.slice (some ⟨g, 0, none⟩) m cap) m (xs.take (m * size)) := by
  have hmn : m * size ≤ n * size := Nat.mul_le_mul_right _ hm
  obtain ⟨h1, h2⟩ := h
  refine ⟨by rw [List.length_take, h1]; omega, ?_⟩
  rcases h2 with ⟨h2, _⟩ | ⟨g', cap', cur, hv, hb, hh, hn, hc, hs, ht⟩
  · injection h2 with h2; cases h2
  · injection hv with hv _ hv2
    injection hv with hv
    injection hv with hv
    subst hv hv2
    exact Or.inr ⟨g, cap, cur, rfl, hb, hh, by omega, hc, hs, by rw [← ht, List.take_take, Nat.min_eq_left hmn]⟩
theorem flat_ext {xs ys : List Value} {n : Nat} (hx : xs.length = n) (hy : ys.length = n) (h : ∀ j, j < n → xs[j]? = ys[j]?) : xs = ys := by
  apply List.ext_getElem?
  intro j
  rcases Nat.lt_or_ge j n with hj | hj
  · exact h j hj
  · rw [List.getElem?_eq_none (by omega), List.getElem?_eq_none (by omega)]
theorem flat_set (l : List (Array Value)) (hl : ∀ x ∈ l, AskX x) (i : Nat) (hi : i < l.length) (x : Array Value) (hx : AskX x) : setL (l.flatMap Array.toList) (i * 18) x.toList = (l.set i x).flatMap Array.toList := by
  have hl2 : ∀ y ∈ l.set i x, AskX y := fun y hy => by
    rcases List.mem_or_eq_of_mem_set hy with hy | rfl
    · exact hl y hy
    · exact hx
  have hlen := flat_len l hl
  have hxl : x.toList.length = 18 := by rw [Array.length_toList]; exact hx.size
  refine flat_ext (n := l.length * 18) (by rw [setL_length, hlen]) (by rw [flat_len _ hl2, List.length_set]) (fun j hj => ?_)
  rw [setL_at _ _ _ (by rw [hxl, hlen]; omega)]
  have hk : j / 18 < l.length := by omega
  have hjj : j = j / 18 * 18 + j % 18 := by omega
  have h2 := flat_at (l.set i x) (j / 18) (j % 18) hl2 (by rw [List.length_set]; exact hk) (by omega)
  have h1 := flat_at l (j / 18) (j % 18) hl hk (by omega)
  rw [← hjj] at h1 h2
  rw [h2, hxl]
  by_cases hji : j / 18 = i
  · rw [if_pos (by omega), List.getElem_set]
    rw [if_pos hji.symm, ← Array.getElem?_toList]
    congr 1
    omega
  · rw [if_neg (by omega), h1, List.getElem_set_ne (fun e => hji e.symm)]
theorem only_setCells {S : Nat → Prop} {a : World} {g : Nat} (hg : S g) : ∀ (vs : List Value) (o : Nat) (w : World), Only S a w → Only S a (w.setCells g o vs)
  | [], _, _, h => h
  | v :: r, o, _, h => only_setCells hg r (o + 1) _ (h.setCell (p := ⟨g, o, none⟩) (Or.inl hg) v)
theorem blk_setCells {g g' : Nat} {t : TypeId} {cs : Array Value} (hne : g' ≠ g) : ∀ (vs : List Value) (o : Nat) (w : World), Blk w g' t cs → Blk (w.setCells g o vs) g' t cs
  | [], _, _, h => h
  | v :: r, o, _, h => blk_setCells hne r (o + 1) _ (h.far (p := ⟨g, o, none⟩) hne v)
theorem flat_take (l : List (Array Value)) (hl : ∀ x ∈ l, AskX x) (m : Nat) (hm : m ≤ l.length) (zs : List Value) (hz : m * 18 + zs.length ≤ l.length * 18) : (setL (l.flatMap Array.toList) (m * 18) zs).take (m * 18) = (l.take m).flatMap Array.toList := by
  have hlen := flat_len l hl
  have hl2 : ∀ x ∈ l.take m, AskX x := fun x hx => hl x (List.mem_of_mem_take hx)
  refine flat_ext (n := m * 18) (by rw [List.length_take, setL_length, hlen]; omega) (by rw [flat_len _ hl2, List.length_take, Nat.min_eq_left hm]) (fun j hj => ?_)
  rw [List.getElem?_take, if_pos hj, setL_at _ _ _ (by rw [hlen]; exact hz), if_neg (by omega)]
  have hjj : j = j / 18 * 18 + j % 18 := by omega
  have h1 := flat_at l (j / 18) (j % 18) hl (by omega) (by omega)
  have h2 := flat_at (l.take m) (j / 18) (j % 18) hl2 (by rw [List.length_take]; omega) (by omega)
  rw [← hjj] at h1 h2
  rw [h1, h2, List.getElem_take]

/-- 'clear(s)': nothing but the cells of s turns. -/
theorem run_clear_row {P : Program} {n : Nat} (w : World) (t e ty : TypeId) (z : Value) (ht : P.underlying t = some (.slice e)) (hv : ∀ w, (zeroValue e).run P w = .ok z w) (h1 : ∀ v ∈ (Builtin.zeroCells z.cells n).toList, v.oneCell' = true) (b o c k : Nat) (hn : 0 < n) (hk : (Builtin.zeroCells z.cells n).toList.length = k)
    (hc : ∀ j, j < k → (w.cell? ⟨b, o + j, none⟩).isSome = true) (hf : ∀ j, j < k → w.frozen? ⟨b, o + j, none⟩ = false) :
    (Builtin.clear_ #[t] ty #[.slice (some ⟨b, o, none⟩) n c]).run P w = .ok (.tuple #[]) (w.setCells b o (Builtin.zeroCells z.cells n).toList) := by
  subst hk
  have hst := run_storeCells_cells (P := P) b o (Builtin.zeroCells z.cells n).toList 0 w (by simpa using hc) (by simpa using hf) h1
  simp only [Nat.add_zero] at hst
  obtain ⟨m, rfl⟩ : ∃ m, n = m + 1 := ⟨n - 1, by omega⟩
  simp [Builtin.clear_, run_underlying ht, hv, hst]
end Go.Proofs.Ytigjipjkollohaa
