/-
  PARTS for LeastHints: what a round of its loop does to memory; the hints that are then there.
-/
import Derived.Test.YtofffkhipmoojaaLeastMore
namespace Go.Proofs.Ytofffkhipmoojaa
open Go.RowKit

/-- The law's config behind a pointer, its hints' slice open. -/
def cfgCells (v : Value) : Array Value := #[v, .int .i64 4096, .int .i64 100, .int .i64 100, .int .i64 3, .int .i64 20, .int .i64 8, .int .i64 4, .int .i64 6]
def hintCells (k : Nat) : List Value := (List.range k).flatMap fun (i : Nat) => [.string ⟨#[1, 97, 0]⟩, .int .i64 (i : Int)]
def HintRel (w1 : World) (k : Nat) (v : Value) (wr : World) : Prop :=
  Blk wr w1.heap.size 24 (cfgCells v) ∧ wr.ownsRow (w1.heap.size + 1) 27 2 v k (hintCells k) ∧ Below w1.heap.size w1 wr

theorem hintCells_succ (k : Nat) : hintCells (k + 1) = hintCells k ++ [.string ⟨#[1, 97, 0]⟩, .int .i64 (k : Int)] := by
  unfold hintCells
  rw [List.range_succ, List.flatMap_append]
  simp
theorem hintCells_length (k : Nat) : (hintCells k).length = k * 2 := by
  induction k with
  | zero => rfl
  | succ k ih => rw [hintCells_succ, List.length_append, ih]; simp; omega
theorem hintCells_at : ∀ (n k : Nat), k < n → (hintCells n)[k * 2]? = some (.string ⟨#[1, 97, 0]⟩) ∧ (hintCells n)[k * 2 + 1]? = some (.int .i64 (k : Int))
  | 0, k, h => absurd h (by omega)
  | n + 1, k, h => by
    rw [hintCells_succ]
    have hl := hintCells_length n
    by_cases hk : k < n
    · rw [List.getElem?_append_left (by omega), List.getElem?_append_left (by omega)]
      exact hintCells_at n k hk
    · obtain rfl : k = n := by omega
      rw [List.getElem?_append_right (by omega), List.getElem?_append_right (by omega), hl]
      simp

theorem hintRel_step {w1 wr w2 : World} {k : Nat} {v v' : Value} {o : Obj} (h : HintRel w1 k v wr) (hown : w2.ownsRow (w1.heap.size + 1) 27 2 v' (k + 1) (hintCells k ++ [.string ⟨#[1, 97, 0]⟩, .int .i64 (k : Int)]))
    (hgrow : (wr.alloc o).grownBy w2 v.ownBlock) :
    Blk w2 w1.heap.size 24 (cfgCells v) ∧ HintRel w1 (k + 1) v' (w2.setCell ⟨w1.heap.size, 0, none⟩ v') := by
  obtain ⟨hb, ho, hbel⟩ := h
  have hne : some w1.heap.size ≠ v.ownBlock := fun e => by have := (ho.lt _ e.symm).1; omega
  have hb2 : Blk w2 w1.heap.size 24 (cfgCells v) := (hb.alloc o).grown hgrow hne
  have hbel2 : Below w1.heap.size w1 w2 := (hbel.alloc hbel.size o).grown hgrow (by simp; have := hbel.size; omega) (fun j hj => by have := (ho.lt j hj).1; omega)
  refine ⟨hb2, hb2.set_ 0 v', ?_, hbel2.setCell (Nat.le_refl _) _⟩
  rw [hintCells_succ]
  exact ownsRow_setCell_below hown (by simp) v'

theorem hints_of_own {w : World} {base n c : Nat} {A : Option Addr} {xs : List Value} {hs : List (List UInt8 × Int)} (h : w.ownsRow base 27 2 (.slice A n c) n xs) (hl : hs.length = n)
    (hx : ∀ k (hk : k < hs.length), xs[k * 2]? = some (strV hs[k].1) ∧ xs[k * 2 + 1]? = some (.int .i64 hs[k].2)) : Hints w w.heap.size A hs := by
  intro h0
  obtain ⟨_, hr⟩ := Reads.of_own h
  obtain ⟨ad, hA, hb, hc⟩ := hr (by omega)
  exact ⟨ad, hA, hb, fun k hk => ⟨hc _ _ (hx k hk).1, hc _ _ (hx k hk).2⟩⟩

theorem own_slice {w : World} {base e size n : Nat} {v : Value} {xs : List Value} (h : w.ownsRow base e size v n xs) : ∃ A c, v = .slice A n c := by
  rcases h.2 with ⟨rfl, rfl⟩ | ⟨g, cap, _, rfl, _⟩
  · exact ⟨none, 0, rfl⟩
  · exact ⟨_, cap, rfl⟩

/-- The hints, as the law leaves them: the i-th one's address, but for one's; the first one's name, if it is spoilt. -/
def hintsOf (n : Nat) (bad addr : Int) : List (List UInt8 × Int) :=
  (List.range n).map fun (i : Nat) => (if bad = 100 ∧ i = 0 then [97] else [1, 97, 0], if (i : Int) = bad then addr else (i : Int))
theorem hintsOf_length (n : Nat) (bad addr : Int) : (hintsOf n bad addr).length = n := by simp [hintsOf]
theorem hintsOf_size (n : Nat) (bad addr : Int) : ∀ h ∈ hintsOf n bad addr, h.1.length ≤ maxLen := by
  intro h hh
  simp only [hintsOf, List.mem_map, List.mem_range] at hh
  obtain ⟨i, _, rfl⟩ := hh
  unfold maxLen
  split <;> simp

theorem valid_a : validB [1, 97, 0] = true := by decide
theorem valid_not : validB [97] = false := by decide

/-- What the law says of them: may they be? -/
def goodB (n : Nat) (bad addr : Int) : Bool :=
  decide (1 ≤ n ∧ n ≤ 16) && (!decide (0 ≤ bad ∧ bad < n) || decide (0 ≤ addr ∧ addr < 4294967296)) && !decide (bad = 100 ∧ 0 < n)

theorem check_hintsOf (n : Nat) (bad addr : Int) (hn : n ≤ 20) : checkB (hintsOf n bad addr) 4096 100 100 3 20 8 4 6 = goodB n bad addr := by
  have hc : checkB (hintsOf n bad addr) 4096 100 100 3 20 8 4 6 = ((hintsOf n bad addr).all hintB && withinB (n : Int) 1 16) := by
    unfold checkB
    rw [hintsOf_length]
    have h1 : timesB 100 100 3 20 = true := by decide
    have h2 : withinB 4096 2048 1048576 = true := by decide
    have h3 : withinB 8 1 24 = true := by decide
    have h4 : withinB 4 1 64 = true := by decide
    have h5 : withinB 6 1 64 = true := by decide
    rw [h1, h2, h3, h4, h5]
    simp
  rw [hc, Bool.eq_iff_iff]
  have hall : (hintsOf n bad addr).all hintB = true ↔ ∀ i, i < n → (¬ (bad = 100 ∧ i = 0)) ∧ ((i : Int) = bad → 0 ≤ addr ∧ addr ≤ 4294967295) := by
    rw [List.all_eq_true]
    constructor
    · intro h i hi
      have := h (if bad = 100 ∧ i = 0 then [97] else [1, 97, 0], if (i : Int) = bad then addr else (i : Int)) (by simp only [hintsOf, List.mem_map, List.mem_range]; exact ⟨i, hi, rfl⟩)
      simp only [hintB, Bool.and_eq_true] at this
      obtain ⟨h1, h2⟩ := this
      refine ⟨fun hb => ?_, fun hb => ?_⟩
      · rw [if_pos hb, valid_not] at h1; cases h1
      · rw [if_pos hb] at h2; simpa [withinB] using h2
    · intro h x hx
      simp only [hintsOf, List.mem_map, List.mem_range] at hx
      obtain ⟨i, hi, rfl⟩ := hx
      obtain ⟨h1, h2⟩ := h i hi
      simp only [hintB, Bool.and_eq_true]
      refine ⟨by rw [if_neg h1]; exact valid_a, ?_⟩
      split
      · rename_i hb; simpa [withinB] using h2 hb
      · simp [withinB]; omega
  simp only [Bool.and_eq_true, hall, goodB, withinB, decide_eq_true_eq, Bool.or_eq_true, Bool.not_eq_true', decide_eq_false_iff_not]
  constructor
  · rintro ⟨h, h1, h2⟩
    refine ⟨⟨by omega, ?_⟩, ?_⟩
    · by_cases hb : 0 ≤ bad ∧ bad < (n : Int)
      · right
        have := (h bad.toNat (by omega)).2 (by omega)
        omega
      · exact Or.inl hb
    · rintro ⟨h3, h4⟩
      exact (h 0 h4).1 ⟨h3, rfl⟩
  · rintro ⟨⟨h1, h2⟩, h3⟩
    refine ⟨fun i hi => ⟨fun h => h3 ⟨h.1, by omega⟩, fun h => ?_⟩, by omega, by omega⟩
    rcases h2 with h2 | h2
    · exact absurd ⟨by omega, by omega⟩ h2
    · omega
theorem hintsOf_get (n : Nat) (bad addr : Int) (i : Nat) (h : i < (hintsOf n bad addr).length) :
    (hintsOf n bad addr)[i] = (if bad = 100 ∧ i = 0 then [97] else [1, 97, 0], if (i : Int) = bad then addr else (i : Int)) := by
  simp [hintsOf]
theorem hints_set (n b : Nat) (addr : Int) (hb : b < n) (hn : n ≤ 20) : ∀ i (h : i < (hintsOf n b addr).length),
    ((hintCells n).set (b * 2 + 1) (.int .i64 addr))[i * 2]? = some (strV (hintsOf n b addr)[i].1) ∧ ((hintCells n).set (b * 2 + 1) (.int .i64 addr))[i * 2 + 1]? = some (.int .i64 (hintsOf n b addr)[i].2) := by
  intro i h
  rw [hintsOf_get]
  rw [hintsOf_length] at h
  obtain ⟨h1, h2⟩ := hintCells_at n i h
  have hl := hintCells_length n
  constructor
  · rw [List.getElem?_set_ne (by omega), h1, if_neg (by omega)]; rfl
  · by_cases hi : i = b
    · subst hi; rw [List.getElem?_set_self (by omega), if_pos rfl]
    · rw [List.getElem?_set_ne (by omega), h2]
      show _ = some (Value.int .i64 (if (i : Int) = b then addr else (i : Int)))
      rw [if_neg (by omega)]
theorem hints_name (n : Nat) (addr : Int) (h0 : 0 < n) (hn : n ≤ 20) : ∀ i (h : i < (hintsOf n 100 addr).length),
    ((hintCells n).set 0 (.string ⟨#[97]⟩))[i * 2]? = some (strV (hintsOf n 100 addr)[i].1) ∧ ((hintCells n).set 0 (.string ⟨#[97]⟩))[i * 2 + 1]? = some (.int .i64 (hintsOf n 100 addr)[i].2) := by
  intro i h
  rw [hintsOf_get]
  rw [hintsOf_length] at h
  obtain ⟨h1, h2⟩ := hintCells_at n i h
  have hl := hintCells_length n
  constructor
  · by_cases hi : i = 0
    · subst hi; rw [List.getElem?_set_self (by omega), if_pos ⟨rfl, rfl⟩]; rfl
    · rw [List.getElem?_set_ne (by omega), h1, if_neg (by omega)]; rfl
  · rw [List.getElem?_set_ne (by omega), h2]
    show _ = some (Value.int .i64 (if (i : Int) = 100 then addr else (i : Int)))
    rw [if_neg (by omega)]
theorem hints_same (n : Nat) (bad addr : Int) (h : bad < 0 ∨ (n : Int) ≤ bad) (h100 : bad ≠ 100 ∨ n = 0) : ∀ i (h : i < (hintsOf n bad addr).length),
    (hintCells n)[i * 2]? = some (strV (hintsOf n bad addr)[i].1) ∧ (hintCells n)[i * 2 + 1]? = some (.int .i64 (hintsOf n bad addr)[i].2) := by
  intro i hi
  rw [hintsOf_get]
  rw [hintsOf_length] at hi
  obtain ⟨h1, h2⟩ := hintCells_at n i hi
  exact ⟨by rw [h1, if_neg (by omega)]; rfl, by rw [h2]; show _ = some (Value.int .i64 (if (i : Int) = bad then addr else (i : Int))); rw [if_neg (by omega)]⟩

theorem Try.infoSrv : (Try.prog.info? 27).map (fun i => (i.zero, i.size, i.bytes)) = some (some (.agg #[.string ByteArray.empty, .int .i64 0]), 2, 24) := by kernel_rfl
theorem hintRel_start (w1 : World) {o : Obj} (ho : o = .cells (cfgCells (.slice none 0 0)) 24 := by rfl) : HintRel w1 0 (.slice none 0 0) (w1.alloc o) := by
  subst ho
  exact ⟨Blk.new w1 _ _, World.ownsRow_nil _ _ _ _, (Below.refl _ _).alloc (Nat.le_refl _) _⟩
end Go.Proofs.Ytofffkhipmoojaa
