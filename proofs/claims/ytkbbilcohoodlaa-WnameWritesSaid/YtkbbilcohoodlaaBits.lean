/-
  BITS, no program: '|' on int, both sides not below 0 (the kit's page 'extra-small', given for copying); a pointer's place out of its two bytes.
-/
import Derived.Laws.BitsAllLaws
import Derived.Laws.BitsLemmas
import Derived.IntWalk
namespace Go.Proofs.Ytkbbilcohoodlaa

theorem ofInt_i64 (a : Nat) (ha : a < 9223372036854775808) : (BitVec.ofInt 64 (a : Int)).toNat = a := by
  rw [BitVec.ofInt_natCast, BitVec.toNat_ofNat]; exact Nat.mod_eq_of_lt (by omega)
theorem i64_or_nat (a b : Nat) (ha : a < 9223372036854775808) (hb : b < 9223372036854775808) : bits .or .i64 (a : Int) (b : Int) = ((a ||| b : Nat) : Int) := by
  have hx : a ||| b < 2 ^ 63 := Nat.or_lt_two_pow (by omega) (by omega)
  show IntKind.i64.wrap ((BitVec.ofInt 64 (a : Int) ||| BitVec.ofInt 64 (b : Int)).toNat : Int) = _
  rw [BitVec.toNat_or, ofInt_i64 a ha, ofInt_i64 b hb, IntKind.wrap_i64]
  omega

theorem andNot_192 : ∀ x : Nat, x < 256 → 192 ≤ x → bits .andNot .i64 (x : Int) 192 = (x : Int) - 192 := by decide +kernel
theorem pointer_or (x y : Nat) (hx : x < 256) (h9 : 192 ≤ x) (hy : y < 256) : bits .or .i64 (((x : Int) - 192) * 256) (y : Int) = (((x - 192) * 256 + y : Nat) : Int) := by
  rw [show ((x : Int) - 192) * 256 = (((x - 192) * 256 : Nat) : Int) by omega, i64_or_nat _ _ (by omega) (by omega)]
  congr 1
  have := Nat.two_pow_add_eq_or_of_lt (i := 8) (b := y) (by omega) (x - 192)
  rw [show 2 ^ 8 = 256 from rfl, Nat.mul_comm 256] at this
  exact this.symm
theorem ptr_or (a : Nat) (ha : a < 16384) : bits .or .i64 49152 (a : Int) = ((49152 + a : Nat) : Int) := by
  rw [show (49152 : Int) = ((49152 : Nat) : Int) from rfl, i64_or_nat _ _ (by omega) (by omega)]
  congr 1
  have := Nat.two_pow_add_eq_or_of_lt (i := 14) (b := a) (by omega) 3
  exact this.symm
end Go.Proofs.Ytkbbilcohoodlaa
