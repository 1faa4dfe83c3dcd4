/-
  PLAIN LEAN: the name that begins at a place of some bytes, and the place behind it (pointers followed), by steps.
-/
import Derived.Test.YtkbbilcohoodlaaName
namespace Go.Proofs.Ytkbbilcohoodlaa

/-- From place a on; b: where the part began that is read; e: behind the first pointer; l: what was read. -/
def getF (bs : List UInt8) : Nat → Nat → Nat → Option Nat → List UInt8 → Option (List UInt8 × Nat)
  | 0, _, _, _, _ => none
  | f + 1, a, b, e, l =>
    match bs[a]? with
    | none => none
    | some c =>
      if c.toNat = 0 then (if 255 < l.length + 1 then none else some (l ++ [0], e.getD (a + 1)))
      else if c.toNat ≤ 63 then (if bs.length < a + 1 + c.toNat ∨ 255 < l.length then none else getF bs f (a + 1 + c.toNat) b e (l ++ (bs.drop a).take (1 + c.toNat)))
      else if c.toNat < 192 then none
      else match bs[a + 1]? with
        | none => none
        | some d => if b ≤ (c.toNat - 192) * 256 + d.toNat then none else getF bs f ((c.toNat - 192) * 256 + d.toNat) ((c.toNat - 192) * 256 + d.toNat) (some (e.getD (a + 2))) l

/-- How many steps there may be yet. -/
def getM (n a b : Nat) : Nat := b * (n + 1) + (n - a)
def getL (bs : List UInt8) (at_ : Int) : Option (List UInt8 × Nat) :=
  if 0 ≤ at_ then getF bs (getM bs.length at_.toNat at_.toNat + 1) at_.toNat at_.toNat none [] else none
def getN (o : Option (List UInt8 × Nat)) : List UInt8 := match o with | some p => p.1 | none => []
def getK (o : Option (List UInt8 × Nat)) : Int := match o with | some p => (p.2 : Int) | none => 0
def getE (o : Option (List UInt8 × Nat)) : Int := match o with | some _ => 0 | none => 2
def getB (o : Option (List UInt8 × Nat)) : Bool := o.isSome
/-- The place behind the first pointer, as a number: below 0: there was none. -/
def endI (e : Option Nat) : Int := match e with | some k => (k : Int) | none => -1

section
variable {bs : List UInt8} {f a b : Nat} {e : Option Nat} {l : List UInt8}

theorem getF_out (h : bs.length ≤ a) : getF bs f a b e l = none := by
  cases f with
  | zero => rfl
  | succ f => rw [getF, List.getElem?_eq_none h]
theorem getF_zero (hm : getM bs.length a b < f) (h : a < bs.length) (h0 : bs[a].toNat = 0) :
    getF bs f a b e l = if 255 < l.length + 1 then none else some (l ++ [0], e.getD (a + 1)) := by
  cases f with
  | zero => omega
  | succ f => rw [getF, List.getElem?_eq_getElem h]; simp only [h0, if_true]
theorem getF_bad (h : a < bs.length) (h0 : bs[a].toNat ≠ 0) (h6 : bs[a].toNat ≤ 63) (hb : bs.length < a + 1 + bs[a].toNat ∨ 255 < l.length) : getF bs f a b e l = none := by
  cases f with
  | zero => rfl
  | succ f => rw [getF, List.getElem?_eq_getElem h]; simp only [if_neg h0, if_pos h6, if_pos hb]
theorem getF_label (hm : getM bs.length a b < f) (h : a < bs.length) (h0 : bs[a].toNat ≠ 0) (h6 : bs[a].toNat ≤ 63) (hb : ¬ (bs.length < a + 1 + bs[a].toNat ∨ 255 < l.length)) :
    ∃ f', getF bs f a b e l = getF bs f' (a + 1 + bs[a].toNat) b e (l ++ (bs.drop a).take (1 + bs[a].toNat)) ∧ getM bs.length (a + 1 + bs[a].toNat) b < f' := by
  cases f with
  | zero => omega
  | succ f =>
    refine ⟨f, ?_, ?_⟩
    · rw [getF, List.getElem?_eq_getElem h]; simp only [if_neg h0, if_pos h6, if_neg hb]
    · unfold getM at *; omega
theorem getF_mid (h : a < bs.length) (h6 : ¬ bs[a].toNat ≤ 63) (h9 : bs[a].toNat < 192) : getF bs f a b e l = none := by
  cases f with
  | zero => rfl
  | succ f => rw [getF, List.getElem?_eq_getElem h]; simp only [if_neg (show ¬ bs[a].toNat = 0 by omega), if_neg h6, if_pos h9]
theorem getF_cut (h : a < bs.length) (h9 : ¬ bs[a].toNat < 192) (hc : bs.length ≤ a + 1) : getF bs f a b e l = none := by
  cases f with
  | zero => rfl
  | succ f => rw [getF, List.getElem?_eq_getElem h]; simp only [if_neg (show ¬ bs[a].toNat = 0 by omega), if_neg (show ¬ bs[a].toNat ≤ 63 by omega), if_neg h9, List.getElem?_eq_none hc]
theorem getF_far (h : a < bs.length) (h9 : ¬ bs[a].toNat < 192) (hc : a + 1 < bs.length) (hb : b ≤ (bs[a].toNat - 192) * 256 + bs[a + 1].toNat) : getF bs f a b e l = none := by
  cases f with
  | zero => rfl
  | succ f =>
    rw [getF, List.getElem?_eq_getElem h]
    simp only [if_neg (show ¬ bs[a].toNat = 0 by omega), if_neg (show ¬ bs[a].toNat ≤ 63 by omega), if_neg h9, List.getElem?_eq_getElem hc, if_pos hb]
theorem getM_pointer (n a b t : Nat) (hb : t < b) : getM n t t < getM n a b := by
  unfold getM
  have h1 : (t + 1) * (n + 1) ≤ b * (n + 1) := Nat.mul_le_mul_right _ hb
  rw [Nat.add_mul] at h1
  omega
theorem getF_pointer (hm : getM bs.length a b < f) (h : a < bs.length) (h9 : ¬ bs[a].toNat < 192) (hc : a + 1 < bs.length) (hb : ¬ b ≤ (bs[a].toNat - 192) * 256 + bs[a + 1].toNat) :
    ∃ f', getF bs f a b e l = getF bs f' ((bs[a].toNat - 192) * 256 + bs[a + 1].toNat) ((bs[a].toNat - 192) * 256 + bs[a + 1].toNat) (some (e.getD (a + 2))) l ∧
      getM bs.length ((bs[a].toNat - 192) * 256 + bs[a + 1].toNat) ((bs[a].toNat - 192) * 256 + bs[a + 1].toNat) < f' := by
  cases f with
  | zero => omega
  | succ f =>
    refine ⟨f, ?_, ?_⟩
    · rw [getF, List.getElem?_eq_getElem h]
      simp only [if_neg (show ¬ bs[a].toNat = 0 by omega), if_neg (show ¬ bs[a].toNat ≤ 63 by omega), if_neg h9, List.getElem?_eq_getElem hc, if_neg hb]
    · have := getM_pointer bs.length a b ((bs[a].toNat - 192) * 256 + bs[a + 1].toNat) (by omega)
      omega
end
end Go.Proofs.Ytkbbilcohoodlaa
