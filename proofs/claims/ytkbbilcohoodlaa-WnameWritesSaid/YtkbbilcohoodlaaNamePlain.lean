/-
  PLAIN LEAN: what follows of nameW: what is kept stays; a name that was never met is written whole; one that was met takes two bytes.
-/
import Derived.Test.YtkbbilcohoodlaaMade
namespace Go.Proofs.Ytkbbilcohoodlaa

theorem ptrB_length (a : Nat) : (ptrB a).length = 2 := rfl
theorem upd_keeps {f : Met} {k x : List UInt8} {v y : Nat} (h : f x = some y) (hk : f k = none) : upd f k v x = some y := by
  unfold upd
  split
  · rename_i e; subst e; rw [hk] at h; cases h
  · exact h
theorem nameW_keeps (sq : Bool) : ∀ (ls : List (List UInt8)) (b : List UInt8) (f : Met) (x : List UInt8) (y : Nat), f x = some y → (nameW sq ls b f).2 x = some y
  | [], b, f, x, y, h => by rw [nameW]; exact h
  | l :: r, b, f, x, y, h => by
    rw [nameW]
    cases sq with
    | false => simp only [Bool.false_eq_true, if_false, Bool.false_and]; exact nameW_keeps false r _ f x y h
    | true =>
      simp only [if_true, Bool.true_and]
      cases hf : f (made (l :: r)) with
      | some a => exact h
      | none =>
        simp only
        split
        · exact nameW_keeps true r _ _ x y (upd_keeps h hf)
        · exact nameW_keeps true r _ f x y h
theorem nameW_le (sq : Bool) : ∀ (ls : List (List UInt8)) (b : List UInt8) (f : Met), (nameW sq ls b f).1.length ≤ b.length + (made ls).length
  | [], b, f => by rw [nameW]; simp [made]
  | l :: r, b, f => by
    rw [nameW]
    have hm := made_cons_length l r
    have hp := made_pos r
    split
    · show (b ++ ptrB _).length ≤ _
      rw [List.length_append, ptrB_length]; omega
    · have h := nameW_le sq r (b ++ (UInt8.ofNat l.length :: l)) (if sq && decide (b.length < 16384) then upd f (made (l :: r)) b.length else f)
      simp only [List.length_append, List.length_cons] at h ⊢
      omega
/-- A name whose parts were never met is written whole, and met from then on. -/
theorem nameW_fresh : ∀ (ls : List (List UInt8)) (b : List UInt8) (f : Met), b.length + (made ls).length ≤ 16384 → (∀ k, k.length ≤ (made ls).length → f k = none) →
    (nameW true ls b f).1 = b ++ made ls ∧ (ls ≠ [] → (nameW true ls b f).2 (made ls) = some b.length)
  | [], b, f, _, _ => by rw [nameW]; exact ⟨rfl, fun h => absurd rfl h⟩
  | l :: r, b, f, hb, hf => by
    have hm := made_cons_length l r
    have hp := made_pos r
    have h0 := hf (made (l :: r)) (Nat.le_refl _)
    have hlt : b.length < 16384 := by omega
    have hfr : ∀ k, k.length ≤ (made r).length → upd f (made (l :: r)) b.length k = none := by
      intro k hk
      unfold upd
      rw [if_neg (by rintro rfl; omega)]
      exact hf k (by omega)
    obtain ⟨i1, _⟩ := nameW_fresh r (b ++ (UInt8.ofNat l.length :: l)) (upd f (made (l :: r)) b.length) (by simp only [List.length_append, List.length_cons]; omega) hfr
    rw [nameW]
    simp only [if_true, h0, Bool.true_and, hlt, decide_true]
    refine ⟨by rw [i1]; simp [made], fun _ => nameW_keeps true r _ _ _ _ (by unfold upd; rw [if_pos rfl])⟩
/-- A name ahead of one that was met: its label and two bytes at most; and it is met from then on. -/
theorem nameW_under (l : List UInt8) (r : List (List UInt8)) (b : List UInt8) (f : Met) (hb : b.length < 16384) (a : Nat) (hr : r ≠ []) (hf : f (made r) = some a) :
    (nameW true (l :: r) b f).1.length ≤ b.length + 1 + l.length + 2 ∧ ∃ a', (nameW true (l :: r) b f).2 (made (l :: r)) = some a' := by
  rw [nameW]
  simp only [if_true, Bool.true_and, hb, decide_true]
  cases h0 : f (made (l :: r)) with
  | some a' => exact ⟨by simp only [List.length_append, ptrB_length]; omega, a', h0⟩
  | none =>
    simp only
    cases r with
    | nil => exact absurd rfl hr
    | cons l2 r2 =>
      have hne : upd f (made (l :: l2 :: r2)) b.length (made (l2 :: r2)) = some a := upd_keeps hf h0
      rw [nameW]
      simp only [if_true, hne]
      refine ⟨by simp only [List.length_append, ptrB_length, List.length_cons]; omega, b.length, by unfold upd; rw [if_pos rfl]⟩
theorem labs_ne_nil {l : List UInt8} (hv : validB l = true) (h : l ≠ [0]) : labsFrom l 0 ≠ [] := by
  intro hn
  have := (made_of_valid hv).1
  rw [hn] at this
  exact h this.symm
theorem labs_cons (m : List UInt8) (l : List UInt8) (h1 : 1 ≤ m.length) (h6 : m.length ≤ 63) : labsFrom (UInt8.ofNat m.length :: (m ++ l)) 0 = m :: labsFrom l 0 := by
  rw [labsFrom, ofNat_toNat _ (by omega), if_neg (by omega), labsFrom_skip]
  simp
theorem valid_cons (m : List UInt8) (l : List UInt8) (h1 : 1 ≤ m.length) (h6 : m.length ≤ 63) (hv : validB l = true) (hl : 1 + m.length + l.length ≤ 255) : validB (UInt8.ofNat m.length :: (m ++ l)) = true := by
  obtain ⟨e, hg⟩ := made_of_valid hv
  have : UInt8.ofNat m.length :: (m ++ l) = made (m :: labsFrom l 0) := by rw [made, e]
  rw [this]
  refine valid_made _ (fun x hx => ?_) (by rw [made_cons_length, e]; omega)
  rcases List.mem_cons.1 hx with rfl | hx
  · exact ⟨h1, h6⟩
  · exact hg x hx
end Go.Proofs.Ytkbbilcohoodlaa
