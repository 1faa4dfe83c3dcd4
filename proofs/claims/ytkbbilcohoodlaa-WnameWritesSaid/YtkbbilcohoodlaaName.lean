/-
  PLAIN LEAN, no program: names as lists of bytes: where the name that a text begins with ends; whether a text is a name; its labels.
-/
import Derived.KernelRfl
namespace Go.Proofs.Ytkbbilcohoodlaa

/-- The place behind the name that begins a text (the rest of it, how many bytes are passed over, the place); none: it begins with none. -/
def leadEnd : List UInt8 → Nat → Nat → Option Nat
  | [], _, _ => none
  | c :: r, 0, a => if 255 ≤ a then none else if c.toNat = 0 then some (a + 1) else if 63 < c.toNat then none else leadEnd r c.toNat (a + 1)
  | _ :: r, k + 1, a => leadEnd r k (a + 1)

def leadK (l : List UInt8) : Int := match leadEnd l 0 0 with | some k => k | none => 0
def leadB (l : List UInt8) : Bool := (leadEnd l 0 0).isSome
/-- Is it a name? -/
def validB (l : List UInt8) : Bool := leadEnd l 0 0 == some l.length

theorem leadEnd_skip : ∀ (l : List UInt8) (k a : Nat), leadEnd l k a = leadEnd (l.drop k) 0 (a + k)
  | [], k, a => by simp [leadEnd]
  | c :: r, 0, a => by simp
  | c :: r, k + 1, a => by rw [leadEnd, leadEnd_skip r k (a + 1)]; simp; congr 1; omega

theorem leadEnd_far : ∀ (l : List UInt8) (k a : Nat), 255 ≤ a → leadEnd l k a = none
  | [], _, _, _ => by simp [leadEnd]
  | c :: r, 0, a, h => by simp [leadEnd, h]
  | c :: r, k + 1, a, h => by rw [leadEnd]; exact leadEnd_far r k (a + 1) (by omega)

theorem leadEnd_nil (l : List UInt8) (k a : Nat) (h : l.length ≤ k) : leadEnd (l.drop k) 0 a = none := by
  rw [List.drop_of_length_le h, leadEnd]

theorem drop_cons (l : List UInt8) (k : Nat) (h : k < l.length) : l.drop k = l[k] :: l.drop (k + 1) := by
  rw [List.drop_eq_getElem_cons h]

theorem leadEnd_zero (l : List UInt8) (k : Nat) (h : k < l.length) (h5 : k < 255) (h0 : l[k].toNat = 0) : leadEnd (l.drop k) 0 k = some (k + 1) := by
  rw [drop_cons l k h, leadEnd, if_neg (by omega), if_pos h0]

theorem leadEnd_big (l : List UInt8) (k : Nat) (h : k < l.length) (h0 : 63 < l[k].toNat) : leadEnd (l.drop k) 0 k = none := by
  rw [drop_cons l k h, leadEnd, if_neg (show ¬ l[k].toNat = 0 by omega), if_pos h0, ite_self]

theorem leadEnd_on (l : List UInt8) (k : Nat) (h : k < l.length) (h5 : k < 255) (h0 : l[k].toNat ≠ 0) (h6 : l[k].toNat ≤ 63) :
    leadEnd (l.drop (k + 1 + l[k].toNat)) 0 (k + 1 + l[k].toNat) = leadEnd (l.drop k) 0 k := by
  rw [drop_cons l k h, leadEnd, if_neg (by omega), if_neg h0, if_neg (by omega), leadEnd_skip (l.drop (k + 1)), List.drop_drop]

/-- As the reference asks: is what is left of a name (how many bytes are passed over) one? -/
def refEnd : List UInt8 → Nat → Bool
  | [], _ => false
  | c :: r, 0 => if c.toNat = 0 then r.isEmpty else if 63 < c.toNat ∨ r.length < c.toNat then false else refEnd r c.toNat
  | _ :: r, k + 1 => refEnd r k
/-- The labels of what is left of a name. -/
def labsFrom : List UInt8 → Nat → List (List UInt8)
  | [], _ => []
  | c :: r, 0 => if c.toNat = 0 then [] else r.take c.toNat :: labsFrom r c.toNat
  | _ :: r, k + 1 => labsFrom r k

theorem refEnd_skip : ∀ (l : List UInt8) (k : Nat), refEnd l k = refEnd (l.drop k) 0
  | [], k => by simp [refEnd]
  | c :: r, 0 => by simp
  | c :: r, k + 1 => by rw [refEnd, refEnd_skip r k]; simp
theorem labsFrom_skip : ∀ (l : List UInt8) (k : Nat), labsFrom l k = labsFrom (l.drop k) 0
  | [], k => by simp [labsFrom]
  | c :: r, 0 => by simp
  | c :: r, k + 1 => by rw [labsFrom, labsFrom_skip r k]; simp

/-- The reference's question is the program's, of texts of at most 255 bytes. -/
theorem refEnd_lead : ∀ (l : List UInt8) (k a : Nat), a + l.length ≤ 255 → refEnd l k = (leadEnd l k a == some (a + l.length))
  | [], k, a, _ => by simp [refEnd, leadEnd]
  | c :: r, 0, a, h => by
    simp only [List.length_cons] at h
    rw [refEnd, leadEnd, if_neg (show ¬ 255 ≤ a by omega)]
    by_cases h0 : c.toNat = 0
    · rw [if_pos h0, if_pos h0]
      cases r <;> simp
    · rw [if_neg h0, if_neg h0]
      by_cases h6 : 63 < c.toNat
      · rw [if_pos (Or.inl h6), if_pos h6]; rfl
      · rw [if_neg h6]
        by_cases hr : r.length < c.toNat
        · rw [if_pos (Or.inr hr), leadEnd_skip, leadEnd_nil r _ _ (by omega)]; rfl
        · rw [if_neg (by omega), refEnd_lead r c.toNat (a + 1) (by omega)]
          congr 1; simp; omega
  | c :: r, k + 1, a, h => by
    rw [refEnd, leadEnd, refEnd_lead r k (a + 1) (by simp at h; omega)]
    congr 1; simp; omega

theorem leadEnd_le : ∀ (l : List UInt8) (k a n : Nat), leadEnd l k a = some n → n ≤ 255
  | [], _, _, _, h => by simp [leadEnd] at h
  | c :: r, 0, a, n, h => by
    rw [leadEnd] at h
    split at h
    · simp at h
    · split at h
      · simp at h; omega
      · split at h
        · simp at h
        · exact leadEnd_le r _ _ n h
  | c :: r, k + 1, a, n, h => leadEnd_le r k (a + 1) n (by rw [leadEnd] at h; exact h)

/-- As the reference asks of a whole text. -/
def refB (l : List UInt8) : Bool := decide (l.length ≤ 255) && refEnd l 0
theorem refB_valid (l : List UInt8) : refB l = validB l := by
  unfold refB validB
  by_cases h : l.length ≤ 255
  · simp only [h, decide_true, Bool.true_and]
    rw [refEnd_lead l 0 0 (by omega)]; simp
  · simp only [h, decide_false, Bool.false_and]
    symm
    rw [beq_eq_false_iff_ne]
    intro hc
    exact h (leadEnd_le l 0 0 _ hc)
theorem validB_le {l : List UInt8} (h : validB l = true) : l.length ≤ 255 := by
  unfold validB at h; exact leadEnd_le l 0 0 _ (by simpa using h)
end Go.Proofs.Ytkbbilcohoodlaa
