/-
  BYTES IN MEMORY, over any program: a slice of bytes that reads as a list; its cuts; as a text.
-/
import Derived.Test.YtigjipjkollohaaWords
import Derived.Laws.BytesArg
import Derived.Laws.Slices
namespace Go.Proofs.Ytigjipjkollohaa
open Go.RowKit

def byteV (c : UInt8) : Value := .int .u8 (c.toNat : Int)
def bytesV (l : List UInt8) : List Value := l.map byteV
theorem bytesV_length (l : List UInt8) : (bytesV l).length = l.length := by simp [bytesV]
theorem bytesV_append (l k : List UInt8) : bytesV (l ++ k) = bytesV l ++ bytesV k := by simp [bytesV]
theorem bytesV_one (l : List UInt8) : ∀ u ∈ bytesV l, u.oneCell' = true := by
  intro u hu
  simp only [bytesV, List.mem_map] at hu
  obtain ⟨c, _, rfl⟩ := hu
  rfl
theorem bytesV_at (l : List UInt8) (k : Nat) (h : k < l.length) : (bytesV l)[k]? = some (.int .u8 (l[k].toNat : Int)) := by
  simp [bytesV, byteV, List.getElem?_eq_getElem h]

theorem reads_byte {w : World} {B n : Nat} {A : Option Addr} {l : List UInt8} (h : Reads w B 1 A n (bytesV l)) {k : Nat} (hk : k < l.length) :
    ∃ ad x, A = some ad ∧ ad.block < B ∧ w.cell? (ad.add k) = some (.int .u8 ((x : Nat) : Int)) ∧ x < 256 ∧ x = l[k].toNat := by
  have hl := h.1
  rw [bytesV_length] at hl
  obtain ⟨ad, u, hA, hb, hx, hc⟩ := h.at_ (k := k) (by omega)
  rw [bytesV_at l k hk] at hx
  injection hx with hx
  subst hx
  exact ⟨ad, _, hA, hb, hc, l[k].toNat_lt, rfl⟩

theorem own_slice {w : World} {base e size n : Nat} {v : Value} {xs : List Value} (h : w.ownsRow base e size v n xs) : ∃ A c, v = .slice A n c := by
  rcases h.2 with ⟨rfl, rfl⟩ | ⟨g, cap, _, rfl, _⟩
  · exact ⟨none, 0, rfl⟩
  · exact ⟨_, cap, rfl⟩

/-- Where a slice's cut begins. -/
def cutA (A : Option Addr) (k c : Nat) : Option Addr := if c = k then A else A.map (·.add k)
theorem Reads.cutTo {w : World} {B n : Nat} {A : Option Addr} {xs : List Value} (h : Reads w B 1 A n xs) {k j c : Nat} (hk : k ≤ j) (hj : j ≤ n) (hc : n ≤ c) :
    Reads w B 1 (cutA A k c) (j - k) ((xs.drop k).take (j - k)) := by
  have hl := h.1
  refine ⟨by rw [List.length_take, List.length_drop]; omega, fun hn => ?_⟩
  obtain ⟨ad, rfl, hb, hcell⟩ := h.2 (by omega)
  unfold cutA
  rw [if_neg (by omega)]
  refine ⟨ad.add k, rfl, by rw [block_of_add]; exact hb, fun i u hu => ?_⟩
  rw [add_of_add]
  rw [List.getElem?_take] at hu
  split at hu
  · rw [List.getElem?_drop] at hu; exact hcell _ u hu
  · cases hu

section
variable {P : Program}
theorem run_slice_cut (t e : TypeId) (ht : P.underlying t = some (.slice e)) (hE : ∀ w, (sizeOf (P.elem t)).run P w = .ok 1 w) (hel : P.elem t = e) (A : Option Addr) (n c lo hi : Nat) (h1 : lo ≤ hi) (h2 : hi ≤ c) (w : World) :
    (Instr.slice t (.slice A n c) (some (.int .i64 (lo : Int))) (some (.int .i64 (hi : Int))) none).run P w = .ok (.slice (cutA A lo c) (hi - lo) (c - lo)) w := by
  have ht' : P.underlying t = some (.slice (P.elem t)) := by rw [hel]; exact ht
  rw [run_slice_lh w t A n c ht' .i64 .i64 lo hi (by omega) (by omega) (by omega), hE w]
  simp only [Result.andThen, sliced, Int.toNat_natCast, Nat.mul_one, cutA]
theorem run_slice_to (t e : TypeId) (ht : P.underlying t = some (.slice e)) (hE : ∀ w, (sizeOf (P.elem t)).run P w = .ok 1 w) (hel : P.elem t = e) (A : Option Addr) (n c hi : Nat) (h2 : hi ≤ c) (w : World) :
    (Instr.slice t (.slice A n c) none (some (.int .i64 (hi : Int))) none).run P w = .ok (.slice (cutA A 0 c) hi c) w := by
  have ht' : P.underlying t = some (.slice (P.elem t)) := by rw [hel]; exact ht
  rw [run_slice_h w t A n c ht' .i64 hi (by omega) (by omega), hE w]
  simp only [Result.andThen, sliced, Int.toNat_natCast, Nat.zero_mul, cutA, Nat.sub_zero]

/-- 'string(b)'. -/
theorem run_string_of (src e dst : TypeId) (hs : P.underlying src = some (.slice e)) (he : P.underlying e = some (.int .u8)) (hd : P.underlying dst = some .string) {w : World} {B n c : Nat} {A : Option Addr} {l : List UInt8}
    (h : Reads w B 1 A n (bytesV l)) : (convert src dst (.slice A n c)).run P w = .ok (.string ⟨l.toArray⟩) w := by
  have hl := h.1
  rw [bytesV_length] at hl
  rcases A with _ | ad
  · have hn : n = 0 := by
      rcases Nat.eq_zero_or_pos n with h0 | h0
      · exact h0
      · obtain ⟨_, h', _⟩ := h.2 h0
        cases h'
    subst hn
    obtain rfl : l = [] := List.eq_nil_of_length_eq_zero (by omega)
    exact run_convert_bytes_nil w src e hs he _ _ dst hd
  · have hload := run_loadCells_list (P := P) w ad (bytesV l) (fun j v hj => by
      have hjl : j < (bytesV l).length := by
        rcases Nat.lt_or_ge j (bytesV l).length with h' | h'
        · exact h'
        · rw [List.getElem?_eq_none h'] at hj; cases hj
      rw [bytesV_length] at hjl
      obtain ⟨ad', h', _, hc⟩ := h.2 (by omega)
      injection h' with h'
      subst h'
      exact hc j v hj)
    rw [bytesV_length] at hload
    obtain rfl : n = l.length := by omega
    rw [run_convert_bytes_string w src dst e _ _ c hs he hd, run_bytesToString w ad l.length c (l.map fun c => (c.toNat : Int)) (by rw [hload]; simp [bytesV, byteV]), foldl_push_bytes]
    congr 2
    simp [ByteArray.empty, ByteArray.emptyWithCapacity, Function.comp_def]
    rfl
end
end Go.Proofs.Ytigjipjkollohaa
