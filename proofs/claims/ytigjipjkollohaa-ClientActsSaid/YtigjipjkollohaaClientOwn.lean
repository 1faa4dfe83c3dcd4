/-
  The contract of client's own, where the message is empty.
-/
import Derived.Test.YtigjipjkollohaaFrame
namespace Go.Proofs.Ytigjipjkollohaa
open Go.RowKit

set_option maxRecDepth 20000 in
theorem cloneQ_nil (w : World) : Calls Try.prog 32 #[.slice none 0 0] w fun e w' => e = .returned (.slice none 0 0) ∧ w = w' := by
  have hq := Lib.run_eql_slice_nil (P := Try.prog)
  go_enter Try.func32, Try.ntmps32
  go_wp2
  go_ret
  exact ⟨rfl, rfl⟩
set_option maxRecDepth 20000 in
theorem cloneR_nil (w : World) : Calls Try.prog 33 #[.slice none 0 0] w fun e w' => e = .returned (.slice none 0 0) ∧ w = w' := by
  have hq := Lib.run_eql_slice_nil (P := Try.prog)
  go_enter Try.func33, Try.ntmps33
  go_wp2
  go_ret
  exact ⟨rfl, rfl⟩

/-- An Asker's cells, its message empty. -/
structure AskX (x : Array Value) : Prop where
  size : x.size = 18
  one : x.all (·.oneCell') = true
  q : x[12]? = some (.slice none 0 0)
  a : x[13]? = some (.slice none 0 0)
  s : x[14]? = some (.slice none 0 0)
  d : x[15]? = some (.slice none 0 0)
/-- The cells of no asker. -/
def zeroA : Array Value := #[.int .i64 0, .int .i64 0, .int .i64 0, .int .i64 0, .int .i64 0, .bool false, .int .i64 0, .bool false, .bool false, .bool false, .bool false, .int .i64 0, .slice none 0 0, .slice none 0 0, .slice none 0 0, .slice none 0 0, .bool false, .int .i64 0]
theorem Try.size35 : (Try.prog.info? 35).map (·.size) = some 18 := by kernel_rfl
theorem AskX.info {x : Array Value} (h : AskX x) : (Try.prog.info? 35).map (·.size) = some x.size := by rw [h.size]; exact Try.size35
theorem set_same {x : Array Value} {i : Nat} {v : Value} (h : x[i]? = some v) : x.setIfInBounds i v = x := by
  apply Array.ext_getElem?
  intro j
  rw [Array.getElem?_setIfInBounds]
  split
  · rename_i e; subst e
    split
    · exact h.symm
    · rename_i hn; rw [Array.getElem?_eq_none (by omega)] at h; cases h
  · rfl
theorem Blk.stay {w : World} {g i : Nat} {t : TypeId} {x : Array Value} {v : Value} (h : Blk w g t x) (hv : x[i]? = some v) : Blk (w.setCell ⟨g, i, none⟩ v) g t x := by
  have := h.set_ i v
  rwa [set_same hv] at this
theorem Blk.setRow {w : World} {g : Nat} {t : TypeId} {x y : Array Value} (h : Blk w g t x) : Blk (w.setRow g y) g t y := by
  unfold Blk at h ⊢
  unfold World.setRow
  simp [Array.getElem?_modify, h]
theorem Blk.rowFar {w : World} {g g' : Nat} {t : TypeId} {x y : Array Value} (h : Blk w g t x) (hne : g' ≠ g) : Blk (w.setRow g' y) g t x := by
  unfold Blk at h ⊢
  unfold World.setRow
  simp [Array.getElem?_modify, h, hne]
theorem below_row {B g : Nat} {w0 w : World} (hb : Below B w0 w) (h : B ≤ g) (cs : Array Value) : Below B w0 (w.setRow g cs) :=
  ⟨hb.os, hb.tape, hb.output, by simpa [World.setRow] using hb.size, fun i hi => by
    rw [← hb.block i hi]
    unfold World.setRow
    rw [Array.getElem?_modify, if_neg (by omega)]⟩
theorem ownS_of {b : Nat} {x : Array Value} {w : World} (hx : AskX x) (h : Blk w b 35 x) :
    Blk w b 35 x ∧ w.cell? ⟨b, 12, none⟩ = some (.slice none 0 0) ∧ w.cell? ⟨b, 13, none⟩ = some (.slice none 0 0) ∧ w.cell? ⟨b, 14, none⟩ = some (.slice none 0 0) ∧ w.cell? ⟨b, 15, none⟩ = some (.slice none 0 0) ∧
      w.frozen? ⟨b, 12, none⟩ = false ∧ w.frozen? ⟨b, 13, none⟩ = false ∧ w.frozen? ⟨b, 14, none⟩ = false ∧ w.frozen? ⟨b, 15, none⟩ = false :=
  ⟨h, (h.cell 12).trans hx.q, (h.cell 13).trans hx.a, (h.cell 14).trans hx.s, (h.cell 15).trans hx.d, h.frozen 12, h.frozen 13, h.frozen 14, h.frozen 15⟩

set_option maxRecDepth 200000 in
set_option maxHeartbeats 4000000 in
theorem own_nil (x : Array Value) (hx : AskX x) (w : World) : Calls Try.prog 23 #[.agg x] w fun e w' => e = .returned (.agg x) ∧ Below w.heap.size w w' := by
  go_enter Try.func23, Try.ntmps23
  go_wp2_with fail
  obtain ⟨wA, hwA⟩ : ∃ wA, ((w.alloc (.cells x 35)).alloc (.cells zeroA 35)) = wA := ⟨_, rfl⟩
  have hb1 : Below w.heap.size w wA := by rw [← hwA]; exact ((Below.refl _ _).alloc (Nat.le_refl _) _).alloc (by simp) _
  have blk1 : Blk wA w.heap.size 35 x := by rw [← hwA]; exact (Blk.new w _ _).alloc _
  have blk2 : Blk wA (w.heap.size + 1) 35 zeroA := by rw [← hwA]; have := Blk.new (w.alloc (.cells x 35)) 35 zeroA; simpa using this
  unfold zeroA at hwA
  rw [hwA]
  clear hwA
  obtain ⟨b, hb⟩ : ∃ b, w.heap.size = b := ⟨_, rfl⟩
  rw [hb] at blk1 blk2 hb1 ⊢
  have h1 : Blk (wA.setCell ⟨b, 12, none⟩ (.slice none 0 0)) b 35 x := blk1.stay hx.q
  have h2 : Blk ((wA.setCell ⟨b, 12, none⟩ (.slice none 0 0)).setCell ⟨b, 13, none⟩ (.slice none 0 0)) b 35 x := h1.stay hx.a
  have h3 : Blk (((wA.setCell ⟨b, 12, none⟩ (.slice none 0 0)).setCell ⟨b, 13, none⟩ (.slice none 0 0)).setCell ⟨b, 14, none⟩ (.slice none 0 0)) b 35 x := h2.stay hx.s
  have h4 : Blk ((((wA.setCell ⟨b, 12, none⟩ (.slice none 0 0)).setCell ⟨b, 13, none⟩ (.slice none 0 0)).setCell ⟨b, 14, none⟩ (.slice none 0 0)).setCell ⟨b, 15, none⟩ (.slice none 0 0)) b 35 x := h3.stay hx.d
  have k0 := ownS_of hx blk1.drew
  have k1 := ownS_of hx h1.drew
  have k2 := ownS_of hx h2.drew
  have k3 := ownS_of hx h3.drew
  have k4 := ownS_of hx h4.drew
  go_region_held3 (fun w' => Blk w' b 35 x ∧ w'.cell? ⟨b, 12, none⟩ = some (.slice none 0 0) ∧ w'.cell? ⟨b, 13, none⟩ = some (.slice none 0 0) ∧ w'.cell? ⟨b, 14, none⟩ = some (.slice none 0 0) ∧ w'.cell? ⟨b, 15, none⟩ = some (.slice none 0 0) ∧ w'.frozen? ⟨b, 12, none⟩ = false ∧ w'.frozen? ⟨b, 13, none⟩ = false ∧ w'.frozen? ⟨b, 14, none⟩ = false ∧ w'.frozen? ⟨b, 15, none⟩ = false)
    (first | with_reducible exact k0 | with_reducible exact k1 | with_reducible exact k2 | with_reducible exact k3 | with_reducible exact k4)
    (first | (go_at_call 32; refine (cloneQ_nil _).mono ?_; rintro e w' ⟨rfl, rfl⟩) | (go_at_call 33; refine (cloneR_nil _).mono ?_; rintro e w' ⟨rfl, rfl⟩))
  have hB4 : Below b w ((((wA.setCell ⟨b, 12, none⟩ (.slice none 0 0)).setCell ⟨b, 13, none⟩ (.slice none 0 0)).setCell ⟨b, 14, none⟩ (.slice none 0 0)).setCell ⟨b, 15, none⟩ (.slice none 0 0)).drew :=
    ((((hb1.setCell (p := ⟨b, 12, none⟩) (Nat.le_refl b) (.slice none 0 0)).setCell (p := ⟨b, 13, none⟩) (Nat.le_refl b) (.slice none 0 0)).setCell (p := ⟨b, 14, none⟩) (Nat.le_refl b) (.slice none 0 0)).setCell (p := ⟨b, 15, none⟩) (Nat.le_refl b) (.slice none 0 0)).drew
  have hR4 : Blk ((((wA.setCell ⟨b, 12, none⟩ (.slice none 0 0)).setCell ⟨b, 13, none⟩ (.slice none 0 0)).setCell ⟨b, 14, none⟩ (.slice none 0 0)).setCell ⟨b, 15, none⟩ (.slice none 0 0)).drew (b + 1) 35 zeroA :=
    ((((blk2.far (p := ⟨b, 12, none⟩) (by show b + 1 ≠ b; omega) (.slice none 0 0)).far (p := ⟨b, 13, none⟩) (by show b + 1 ≠ b; omega) (.slice none 0 0)).far (p := ⟨b, 14, none⟩) (by show b + 1 ≠ b; omega) (.slice none 0 0)).far (p := ⟨b, 15, none⟩) (by show b + 1 ≠ b; omega) (.slice none 0 0)).drew
  have h5 := h4.drew
  obtain ⟨wB, hwB⟩ : ∃ wB, ((((wA.setCell ⟨b, 12, none⟩ (.slice none 0 0)).setCell ⟨b, 13, none⟩ (.slice none 0 0)).setCell ⟨b, 14, none⟩ (.slice none 0 0)).setCell ⟨b, 15, none⟩ (.slice none 0 0)).drew = wB := ⟨_, rfl⟩
  rw [hwB] at hB4 hR4 h5 ⊢
  clear hwB k0 k1 k2 k3 k4 h1 h2 h3 h4 blk1 blk2 hb1
  go_wp2_with (first | refine wpList_load_row rfl 35 _ rfl b rfl 35 x _ _ h5 Try.underlying35 rfl hx.info ?_ | refine wpList_store_row rfl 35 _ _ rfl (b + 1) x rfl rfl 35 zeroA hR4 hx.info hx.size.symm hx.one ?_)
  have hR5 : Blk (wB.setRow (b + 1) x) (b + 1) 35 x := hR4.setRow
  refine bodyPost_ret (results_cell_row rfl _ _ (b + 1) 35 x _ _ rfl hR5 Try.underlying35 rfl hx.info) rfl ?_
  rw [hb]
  exact ⟨rfl, below_row hB4 (Nat.le_succ b) x⟩
end Go.Proofs.Ytigjipjkollohaa
