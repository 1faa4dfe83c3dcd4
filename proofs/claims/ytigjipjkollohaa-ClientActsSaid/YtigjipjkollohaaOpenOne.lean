/-
  A SLICE THAT CAME IN, of elements of one cell (bytes, ints, bools, texts): as a list that it reads.
-/
import Derived.Test.YtigjipjkollohaaOpen
import Derived.Test.YtigjipjkollohaaBytes
import Derived.WalkKit
namespace Go.Proofs.Ytigjipjkollohaa
open Go.RowKit Go.ChangeShapes Go.WideShapes Go.Deep

section
variable {H : Type} {enc : TypeId × Value → H} {P : Program} {w : World}

theorem open_one {α : Type} (f : α → Value) {t e : TypeId} {fuel : Nat} {v : Value} {y : DataW H × List MemPlace} (ht : P.underlying t = some (.slice e)) (hC : P.cellsOf e = 1)
    (h : DataW.trod enc P w 0 (fun _ => true) true fuel t [v] = some y) (Q : α → Prop) (hel : ∀ n u z, DataW.trod enc P w 0 (fun _ => true) true n e [u] = some z → ∃ x, u = f x ∧ Q x) :
    ∃ (A : Option Addr) (n c : Nat) (xs : List α), v = .slice A n c ∧ n = xs.length ∧ n ≤ c ∧ c ≤ maxLen ∧ (A = none → c = 0) ∧ Reads w w.heap.size 1 A n (xs.map f) ∧ ∀ x ∈ xs, Q x := by
  rcases open_slice ht h with ⟨hcs, _⟩ | ⟨a, len, cap, m, n, D, Pl, hcs, _, hl, hm, hmm, _, hi⟩
  · obtain rfl : v = .slice none 0 0 := by simpa using hcs
    exact ⟨none, 0, 0, [], rfl, rfl, by omega, by omega, fun _ => rfl, Reads.none_, fun x hx => by cases hx⟩
  · obtain rfl : v = .slice (some a) len cap := by simpa using hcs
    have hle : len ≤ m := by rw [hmm]; simpa using hl
    have hx : ∀ i, i < len → ∃ x : α, w.cell? (a.add i) = some (f x) ∧ Q x := by
      intro i hil
      obtain ⟨cs', hc, ht'⟩ := hi i (by omega)
      rw [hC] at hc
      obtain ⟨_, hcl, hat⟩ := World.cells?_some hc
      have h0 := hat 0 (by omega)
      obtain ⟨u, rfl⟩ : ∃ u, cs' = [u] := by
        match cs', hcl with
        | [u], _ => exact ⟨u, rfl⟩
      obtain ⟨x, rfl, hq⟩ := hel _ _ _ ht'
      refine ⟨x, ?_, hq⟩
      rw [Nat.mul_one] at h0
      simpa [Addr.add] using h0
    obtain ⟨xs, hlen, hR⟩ := list_of (R := fun i (x : α) => w.cell? (a.add i) = some (f x) ∧ Q x) len hx
    refine ⟨some a, len, cap, xs, rfl, hlen.symm, hl, hm, (fun h => by cases h), ⟨by simp [hlen], fun h0 => ⟨a, rfl, ?_, fun j u hu => ?_⟩⟩, fun x hx => ?_⟩
    · have := World.block_lt_of_cell? _ _ (hR 0 (by omega)).1
      rwa [block_of_add] at this
    · have hj : j < xs.length := by
        rcases Nat.lt_or_ge j xs.length with hj | hj
        · exact hj
        · rw [List.getElem?_eq_none (by simpa using hj)] at hu; cases hu
      rw [List.getElem?_map, List.getElem?_eq_getElem hj] at hu
      simp only [Option.map_some, Option.some.injEq] at hu
      subst hu
      exact (hR j hj).1
    · obtain ⟨k, hk, rfl⟩ := List.mem_iff_getElem.1 hx
      exact (hR k hk).2

theorem byte_of_wf {n : Int} (h : (Lit.int .u8 n).wf = true) : ∃ x : UInt8, n = (x.toNat : Int) := by
  have h1 : IntKind.u8.min = 0 := rfl
  have h2 : IntKind.u8.max = 255 := rfl
  simp only [Lit.wf, Bool.and_eq_true, decide_eq_true_eq, h1, h2] at h
  refine ⟨UInt8.ofNat n.toNat, ?_⟩
  rw [UInt8.toNat_ofNat_of_lt' (by show n.toNat < 256; omega)]
  omega

/-- A '[]byte' that came in. -/
theorem open_bytes {t e : TypeId} {fuel : Nat} {v : Value} {y : DataW H × List MemPlace} (ht : P.underlying t = some (.slice e)) (he : P.underlying e = some (.int .u8)) (hC : P.cellsOf e = 1)
    (h : DataW.trod enc P w 0 (fun _ => true) true fuel t [v] = some y) :
    ∃ (A : Option Addr) (n c : Nat) (xs : List UInt8), v = .slice A n c ∧ n = xs.length ∧ n ≤ c ∧ (A = none → c = 0) ∧ Reads w w.heap.size 1 A n (bytesV xs) := by
  obtain ⟨A, n, c, xs, h1, h2, h3, _, h4, h5, _⟩ := open_one (fun x : UInt8 => byteV x) ht hC h (fun _ => True) (fun m u z hz => by
    obtain ⟨k, hk, _, hw⟩ := DataW.trod_int he hz
    obtain ⟨x, rfl⟩ := byte_of_wf hw
    refine ⟨x, ?_, trivial⟩
    simpa [byteV] using hk)
  exact ⟨A, n, c, xs, h1, h2, h3, h4, h5⟩
/-- A '[]int' that came in. -/
theorem open_intlist {t e : TypeId} {fuel : Nat} {v : Value} {y : DataW H × List MemPlace} (ht : P.underlying t = some (.slice e)) (he : P.underlying e = some (.int .i64)) (hC : P.cellsOf e = 1)
    (h : DataW.trod enc P w 0 (fun _ => true) true fuel t [v] = some y) :
    ∃ (A : Option Addr) (n c : Nat) (xs : List Int), v = .slice A n c ∧ n = xs.length ∧ n ≤ c ∧ c ≤ maxLen ∧ Reads w w.heap.size 1 A n (xs.map (Value.int .i64)) ∧ ∀ x ∈ xs, (Lit.int .i64 x).wf = true := by
  obtain ⟨A, n, c, xs, h1, h2, h3, h4, _, h5, h6⟩ := open_one (fun x : Int => Value.int .i64 x) ht hC h (fun x => (Lit.int .i64 x).wf = true) (fun m u z hz => by
    obtain ⟨k, hk, _, hw⟩ := DataW.trod_int he hz
    exact ⟨k, by simpa using hk, hw⟩)
  exact ⟨A, n, c, xs, h1, h2, h3, h4, h5, h6⟩
/-- A '[]bool' that came in. -/
theorem open_boollist {t e : TypeId} {fuel : Nat} {v : Value} {y : DataW H × List MemPlace} (ht : P.underlying t = some (.slice e)) (he : P.underlying e = some .bool) (hC : P.cellsOf e = 1)
    (h : DataW.trod enc P w 0 (fun _ => true) true fuel t [v] = some y) :
    ∃ (A : Option Addr) (n c : Nat) (xs : List Bool), v = .slice A n c ∧ n = xs.length ∧ n ≤ c ∧ c ≤ maxLen ∧ Reads w w.heap.size 1 A n (xs.map Value.bool) := by
  obtain ⟨A, n, c, xs, h1, h2, h3, h4, _, h5, _⟩ := open_one (fun x : Bool => Value.bool x) ht hC h (fun _ => True) (fun m u z hz => by
    obtain ⟨k, hk, _⟩ := DataW.trod_bool he hz
    exact ⟨k, by simpa using hk, trivial⟩)
  exact ⟨A, n, c, xs, h1, h2, h3, h4, h5⟩
/-- A '[]string' that came in. -/
theorem open_strlist {t e : TypeId} {fuel : Nat} {v : Value} {y : DataW H × List MemPlace} (ht : P.underlying t = some (.slice e)) (he : P.underlying e = some .string) (hC : P.cellsOf e = 1)
    (h : DataW.trod enc P w 0 (fun _ => true) true fuel t [v] = some y) :
    ∃ (A : Option Addr) (n c : Nat) (xs : List (List UInt8)), v = .slice A n c ∧ n = xs.length ∧ n ≤ c ∧ c ≤ maxLen ∧ Reads w w.heap.size 1 A n (xs.map fun l => .string ⟨l.toArray⟩) ∧ ∀ x ∈ xs, x.length ≤ maxLen := by
  obtain ⟨A, n, c, xs, h1, h2, h3, h4, _, h5, h6⟩ := open_one (fun l : List UInt8 => Value.string ⟨l.toArray⟩) ht hC h (fun l => l.length ≤ maxLen) (fun m u z hz => by
    obtain ⟨s, hs, _, hl⟩ := DataW.trod_string he hz
    refine ⟨s.data.toList, by simpa using hs, ?_⟩
    have : s.data.toList.length = s.size := by simp
    show s.data.toList.length ≤ maxLen
    omega)
  exact ⟨A, n, c, xs, h1, h2, h3, h4, h5, h6⟩
end
end Go.Proofs.Ytigjipjkollohaa
