/-
  THE WRITER IN MEMORY: its block, its row of bytes, its map; what a call on it leaves alone.
-/
import Derived.Test.YtkbbilcohoodlaaRows
import Derived.Test.YtkbbilcohoodlaaBytes
import Derived.Maps.Own
import Derived.Maps.OwnOps
import Derived.Maps.OwnSet
import Derived.Maps.Views
import Derived.WalkKit
import Derived.Lib.Hide
namespace Go.Proofs.Ytkbbilcohoodlaa
open Go.RowKit

/-- Nothing that was there has turned but the blocks in S. -/
structure Only (S : Nat → Prop) (w w' : World) : Prop where
  os : w'.os = w.os
  tape : w'.tape = w.tape
  output : w'.output = w.output
  size : w.heap.size ≤ w'.heap.size
  block : ∀ k, k < w.heap.size → ¬ S k → w'.heap[k]? = w.heap[k]?

section
variable {S T : Nat → Prop} {a b w w' : World}
theorem Only.refl (S : Nat → Prop) (w : World) : Only S w w := ⟨rfl, rfl, rfl, Nat.le_refl _, fun _ _ _ => rfl⟩
theorem Only.trans (h : Only S a b) (k : Only T b w) (hT : ∀ i, i < a.heap.size → T i → S i) : Only S a w :=
  ⟨k.os.trans h.os, k.tape.trans h.tape, k.output.trans h.output, Nat.le_trans h.size k.size, fun i hi hn => (k.block i (Nat.lt_of_lt_of_le hi h.size) (fun ht => hn (hT i hi ht))).trans (h.block i hi hn)⟩
theorem Only.drew (h : Only S a w) : Only S a w.drew := ⟨h.os, h.tape, h.output, h.size, h.block⟩
theorem Only.drewN (h : Only S a w) (n : Nat) : Only S a (w.drewN n) := ⟨h.os, h.tape, h.output, h.size, h.block⟩
theorem Only.alloc (h : Only S a w) (o : Obj) : Only S a (w.alloc o) :=
  ⟨h.os, h.tape, h.output, Nat.le_trans h.size (by simp), fun i hi hn => (Below.heap_alloc w o i (Nat.lt_of_lt_of_le hi h.size)).trans (h.block i hi hn)⟩
theorem Only.setCell (h : Only S a w) {p : Addr} (hp : S p.block ∨ a.heap.size ≤ p.block) (u : Value) : Only S a (w.setCell p u) :=
  ⟨h.os, h.tape, h.output, by simpa [World.setCell] using h.size, fun i hi hn => (Below.heap_setCell w p u i (by
    rintro rfl
    rcases hp with hp | hp
    · exact hn hp
    · omega)).trans (h.block i hi hn)⟩
theorem Only.grown {row : Option Nat} (h : Only S a w) (hg : w.grownBy w' row) (hr : ∀ k, row = some k → S k ∨ a.heap.size ≤ k) : Only S a w' :=
  ⟨hg.os.trans h.os, hg.tape.trans h.tape, hg.output.trans h.output, Nat.le_trans h.size hg.size, fun i hi hn => (hg.block i (Nat.lt_of_lt_of_le hi h.size) (fun e => by
    rcases hr i e.symm with h1 | h1
    · exact hn h1
    · omega)).trans (h.block i hi hn)⟩
theorem Only.of_below (h : Below a.heap.size a w) (S : Nat → Prop) : Only S a w := ⟨h.os, h.tape, h.output, h.size, fun i hi _ => h.block i hi⟩
theorem Only.below (h : Only S a w) {B : Nat} (hB : B ≤ a.heap.size) (hS : ∀ i, i < B → ¬ S i) : Below B a w := ⟨h.os, h.tape, h.output, h.size, fun i hi => h.block i (by omega) (hS i hi)⟩
theorem Only.more (h : Only S a w) (hT : ∀ i, i < a.heap.size → S i → T i) : Only T a w := ⟨h.os, h.tape, h.output, h.size, fun i hi hn => h.block i hi (fun hs => hn (hT i hi hs))⟩
theorem Only.cell (h : Only S a w) {p : Addr} (hp : p.block < a.heap.size) (hn : ¬ S p.block) : w.cell? p = a.cell? p := World.cell?_of_block (h.block _ hp hn)
theorem Blk.only {g : Nat} {t : TypeId} {cs : Array Value} (h : Blk a g t cs) (ho : Only S a w) (hn : ¬ S g) : Blk w g t cs := (ho.block g h.lt hn).trans h
theorem own_only {base e size n : Nat} {v : Value} {xs : List Value} (h : a.ownsRow base e size v n xs) (ho : Only S a w) (hn : ∀ k, v.ownBlock = some k → ¬ S k) : w.ownsRow base e size v n xs := by
  obtain ⟨h1, h2⟩ := h
  refine ⟨h1, ?_⟩
  rcases h2 with h2 | ⟨g, cap, cur, rfl, hg, hh, r⟩
  · exact Or.inl h2
  · refine Or.inr ⟨g, cap, cur, rfl, hg, ?_, r⟩
    have hlt : g < a.heap.size := by
      rcases Nat.lt_or_ge g a.heap.size with h | h
      · exact h
      · rw [Array.getElem?_eq_none h] at hh; cases hh
    rw [ho.block g hlt (hn g rfl)]; exact hh
theorem Reads.only {B size n : Nat} {A : Option Addr} {xs : List Value} (h : Reads a B size A n xs) (ho : Only S a w) (hB : B ≤ a.heap.size) (hn : ∀ i, i < B → ¬ S i) : Reads w B size A n xs :=
  h.keep fun _ hp => ho.cell (by omega) (hn _ hp)
end

section
variable {H : Type} {P : Program} {k : TypeId} {R : Value → Option (DataW H × List MemPlace)}
theorem map_setCell {w : World} {b n : Nat} {D : DataW H} (h : w.ownsMap P k R b n D) {a : Addr} (ha : b ≠ a.block) (u : Value) : (w.setCell a u).ownsMap P k R b n D := by
  obtain ⟨es, clock, hb, r⟩ := h
  exact ⟨es, clock, by rw [Below.heap_setCell _ _ _ _ ha]; exact hb, r⟩
theorem map_only {S : Nat → Prop} {a w : World} {b n : Nat} {D : DataW H} (h : a.ownsMap P k R b n D) (ho : Only S a w) (hn : ¬ S b) : w.ownsMap P k R b n D := by
  have hlt := h.lt
  obtain ⟨es, clock, hb, r⟩ := h
  exact ⟨es, clock, by rw [ho.block b hlt hn]; exact hb, r⟩
theorem map_ne_own {w : World} {b n m base e size : Nat} {D : DataW H} {v : Value} {xs : List Value} (h : w.ownsMap P k R b n D) (ho : w.ownsRow base e size v m xs) : v.ownBlock ≠ some b := by
  obtain ⟨es, clock, hb, _⟩ := h
  rcases ho.2 with ⟨rfl, _⟩ | ⟨g, cap, cur, rfl, _, hh, _⟩
  · simp [Value.ownBlock]
  · intro he
    have : g = b := by simpa [Value.ownBlock] using he
    subst this
    rw [hb] at hh; cases hh
theorem map_ne_blk {w : World} {b n g : Nat} {t : TypeId} {cs : Array Value} {D : DataW H} (h : w.ownsMap P k R b n D) (hb : Blk w g t cs) : b ≠ g := by
  rintro rfl
  obtain ⟨es, clock, hh, _⟩ := h
  unfold Blk at hb
  rw [hh] at hb; cases hb
end

/-- The writer at block g: its row, its map at block mb of at most n entries. -/
def WrAt (w : World) (g mb : Nat) (bv : Value) (most : Int) (b : List UInt8) (D : DataW Unit) (n : Nat) (wrong : Bool) : Prop :=
  Blk w g 64 #[.int .i64 most, bv, .map (some mb), .bool wrong] ∧ w.ownsRow 0 5 1 bv b.length (bytesV b) ∧ w.ownsMap Try.prog 9 (Go.plainElem Try.prog 3) mb n D
/-- The blocks that a writer may write. -/
def fpW (g mb : Nat) (bv : Value) (i : Nat) : Prop := i = g ∨ i = mb ∨ bv.ownBlock = some i
/-- A step of the writer: nothing else turns; its row is where it was, or new. -/
def WrStep (g mb : Nat) (bv bv' : Value) (w w' : World) : Prop := Only (fpW g mb bv) w w' ∧ (bv'.ownBlock = bv.ownBlock ∨ ∃ k, bv'.ownBlock = some k ∧ w.heap.size ≤ k)

section
variable {w w' w2 : World} {g mb n : Nat} {bv bv' bv2 : Value} {most : Int} {b : List UInt8} {D : DataW Unit} {wrong : Bool}
theorem WrStep.refl (g mb : Nat) (bv : Value) (w : World) : WrStep g mb bv bv w w := ⟨Only.refl _ _, Or.inl rfl⟩
theorem WrStep.trans (h : WrStep g mb bv bv' w w') (k : WrStep g mb bv' bv2 w' w2) : WrStep g mb bv bv2 w w2 := by
  obtain ⟨h1, h2⟩ := h
  obtain ⟨k1, k2⟩ := k
  refine ⟨h1.trans k1 (fun i hi hf => ?_), ?_⟩
  · rcases hf with hf | hf | hf
    · exact Or.inl hf
    · exact Or.inr (Or.inl hf)
    · rcases h2 with h2 | ⟨j, h2, h3⟩
      · rw [h2] at hf; exact Or.inr (Or.inr hf)
      · rw [h2] at hf
        injection hf with hf
        omega
  · rcases k2 with k2 | ⟨j, k2, k3⟩
    · rw [k2]; exact h2
    · exact Or.inr ⟨j, k2, Nat.le_trans h1.size k3⟩
theorem WrAt.lt (h : WrAt w g mb bv most b D n wrong) : g < w.heap.size ∧ mb < w.heap.size ∧ ∀ i, bv.ownBlock = some i → i < w.heap.size :=
  ⟨h.1.lt, h.2.2.lt, fun i hi => (h.2.1.lt i hi).2⟩
theorem WrAt.only {S : Nat → Prop} (h : WrAt w g mb bv most b D n wrong) (ho : Only S w w') (hS : ∀ i, fpW g mb bv i → ¬ S i) : WrAt w' g mb bv most b D n wrong :=
  ⟨h.1.only ho (hS _ (Or.inl rfl)), own_only h.2.1 ho (fun _ hk => hS _ (Or.inr (Or.inr hk))), map_only h.2.2 ho (hS _ (Or.inr (Or.inl rfl)))⟩
theorem WrAt.drew (h : WrAt w g mb bv most b D n wrong) : WrAt w.drew g mb bv most b D n wrong := h
theorem WrAt.drewN (h : WrAt w g mb bv most b D n wrong) (k : Nat) : WrAt (w.drewN k) g mb bv most b D n wrong := h
theorem WrAt.alloc (h : WrAt w g mb bv most b D n wrong) (o : Obj) : WrAt (w.alloc o) g mb bv most b D n wrong :=
  h.only ((Only.refl (fun _ => False) w).alloc o) (fun _ _ hf => hf)
theorem WrAt.below (h : WrAt w g mb bv most b D n wrong) (hb : Below w.heap.size w w') : WrAt w' g mb bv most b D n wrong :=
  h.only (Only.of_below hb (fun _ => False)) (fun _ _ hf => hf)
theorem WrAt.slice (h : WrAt w g mb bv most b D n wrong) : ∃ A c, bv = .slice A b.length c := by
  rcases h.2.1.2 with ⟨rfl, h0⟩ | ⟨gg, cap, _, rfl, _⟩
  · exact ⟨none, 0, by rw [h0]⟩
  · exact ⟨_, cap, rfl⟩
end
end Go.Proofs.Ytkbbilcohoodlaa
