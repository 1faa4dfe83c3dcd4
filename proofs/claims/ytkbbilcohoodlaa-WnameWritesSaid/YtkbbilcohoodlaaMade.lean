/-
  PLAIN LEAN: a name out of its labels; what the writer's Name does to what was written and to the places that it keeps.
-/
import Derived.Test.YtkbbilcohoodlaaName
namespace Go.Proofs.Ytkbbilcohoodlaa

def made : List (List UInt8) → List UInt8
  | [] => [0]
  | l :: r => UInt8.ofNat l.length :: (l ++ made r)
def GoodL (ls : List (List UInt8)) : Prop := ∀ l ∈ ls, 1 ≤ l.length ∧ l.length ≤ 63
theorem made_pos (ls : List (List UInt8)) : 1 ≤ (made ls).length := by cases ls <;> simp [made]
theorem made_cons_length (l : List UInt8) (r : List (List UInt8)) : (made (l :: r)).length = 1 + l.length + (made r).length := by simp [made]; omega
theorem ofNat_toNat (n : Nat) (h : n < 256) : (UInt8.ofNat n).toNat = n := UInt8.toNat_ofNat_of_lt' (by show n < 256; exact h)
theorem drop_append_len (l r : List UInt8) : (l ++ r).drop l.length = r := by simp

theorem leadEnd_made : ∀ (ls : List (List UInt8)) (a : Nat), GoodL ls → a + (made ls).length ≤ 255 → leadEnd (made ls) 0 a = some (a + (made ls).length)
  | [], a, _, h => by
    simp only [made, List.length_cons, List.length_nil] at h
    rw [made, leadEnd, if_neg (by omega), if_pos (by rfl)]
    simp
  | l :: r, a, hg, h => by
    obtain ⟨h1, h2⟩ := hg l (by simp)
    have hl := made_cons_length l r
    have hp := made_pos r
    rw [hl] at h
    rw [hl, made, leadEnd, if_neg (by omega), ofNat_toNat _ (by omega), if_neg (by omega), if_neg (by omega), leadEnd_skip, drop_append_len,
      leadEnd_made r (a + 1 + l.length) (fun x hx => hg x (by simp [hx])) (by omega)]
    congr 1; omega
theorem valid_made (ls : List (List UInt8)) (hg : GoodL ls) (h : (made ls).length ≤ 255) : validB (made ls) = true := by
  unfold validB
  rw [leadEnd_made ls 0 hg (by omega)]
  simp

theorem made_labs : ∀ (n : Nat) (l : List UInt8), l.length ≤ n → refEnd l 0 = true → made (labsFrom l 0) = l ∧ GoodL (labsFrom l 0)
  | n, [], _, h => by simp [refEnd] at h
  | 0, c :: r, hn, _ => by simp at hn
  | n + 1, c :: r, hn, h => by
    rw [refEnd] at h
    rw [labsFrom]
    by_cases h0 : c.toNat = 0
    · rw [if_pos h0] at h ⊢
      have hr : r = [] := by simpa using h
      subst hr
      have hc : c = 0 := UInt8.toNat_inj.1 h0
      subst hc
      exact ⟨rfl, fun l hl => by cases hl⟩
    · rw [if_neg h0] at h ⊢
      by_cases hb : 63 < c.toNat ∨ r.length < c.toNat
      · rw [if_pos hb] at h; cases h
      · rw [if_neg hb, refEnd_skip] at h
        rw [labsFrom_skip]
        obtain ⟨i1, i2⟩ := made_labs n (r.drop c.toNat) (by simp at hn ⊢; omega) h
        refine ⟨?_, ?_⟩
        · rw [made, i1, List.length_take, Nat.min_eq_left (by omega), List.take_append_drop]
          congr 1
          exact UInt8.toNat_inj.1 (ofNat_toNat _ c.toNat_lt)
        · intro l hl
          rcases List.mem_cons.1 hl with rfl | hl
          · rw [List.length_take]; omega
          · exact i2 l hl
theorem made_of_valid {l : List UInt8} (h : validB l = true) : made (labsFrom l 0) = l ∧ GoodL (labsFrom l 0) := by
  have h1 : refB l = true := by rw [refB_valid]; exact h
  unfold refB at h1
  simp only [Bool.and_eq_true] at h1
  exact made_labs _ l (Nat.le_refl _) h1.2

/-- The places that are kept: of a name, where it was written first. -/
abbrev Met := List UInt8 → Option Nat
def upd (f : Met) (k : List UInt8) (v : Nat) : Met := fun x => if x = k then some v else f x
def none_ : Met := fun _ => none
/-- The two bytes of a pointer to a place. -/
def ptrB (a : Nat) : List UInt8 := [UInt8.ofNat (192 + a / 256), UInt8.ofNat (a % 256)]
/-- Name: what was written, and the places, behind it. -/
def nameW (sq : Bool) : List (List UInt8) → List UInt8 → Met → List UInt8 × Met
  | [], b, f => (b ++ [0], f)
  | l :: r, b, f =>
    match (if sq then f (made (l :: r)) else none) with
    | some a => (b ++ ptrB a, f)
    | none => nameW sq r (b ++ (UInt8.ofNat l.length :: l)) (if sq && decide (b.length < 16384) then upd f (made (l :: r)) b.length else f)
/-- Places are small. -/
def SmallM (f : Met) : Prop := ∀ k v, f k = some v → v < 16384
theorem smallM_upd {f : Met} (h : SmallM f) (k : List UInt8) (v : Nat) (hv : v < 16384) : SmallM (upd f k v) := by
  intro x y hx
  unfold upd at hx
  split at hx
  · injection hx with hx; omega
  · exact h x y hx
theorem made_ne_root (l : List UInt8) (r : List (List UInt8)) : made (l :: r) ≠ [0] := by
  intro h
  have := congrArg List.length h
  rw [made_cons_length] at this
  have := made_pos r
  simp at *
  omega
end Go.Proofs.Ytkbbilcohoodlaa
