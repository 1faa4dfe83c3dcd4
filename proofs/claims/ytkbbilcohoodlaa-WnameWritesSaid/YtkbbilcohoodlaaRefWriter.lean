/-
  THE REFERENCE'S WRITER IN MEMORY, and the contracts of its small methods.
-/
import Derived.Test.YtkbbilcohoodlaaWnameSqueezes
namespace Go.Proofs.Ytkbbilcohoodlaa
open Go.RowKit Go.Maps

theorem own_apart {w : World} {base base' e e' size size' n n' : Nat} {v v' : Value} {xs xs' : List Value} (h : w.ownsRow base e size v n xs) (h' : w.ownsRow base' e' size' v' n' xs') (hne : e ≠ e') {i : Nat} (hi : v.ownBlock = some i) : v'.ownBlock ≠ some i := by
  intro hi'
  rcases h.2 with ⟨rfl, _⟩ | ⟨g, cap, cur, rfl, _, hh, _⟩
  · cases hi
  · rcases h'.2 with ⟨rfl, _⟩ | ⟨g', cap', cur', rfl, _, hh', _⟩
    · cases hi'
    · injection hi with hi
      injection hi' with hi'
      have e1 : g = i := hi
      have e2 : g' = i := hi'
      subst e1 e2
      rw [hh] at hh'
      injection hh' with hh'
      injection hh' with _ hh'
      exact hne hh'

/-- The reference's writer at block g: its two rows. -/
def RAt (w : World) (g : Nat) (most : Int) (bv : Value) (b : List UInt8) (pv : Value) (pl : List (List UInt8)) (bad : Bool) : Prop :=
  Blk w g 44 #[.int .i64 most, bv, pv, .bool bad] ∧ w.ownsRow 0 5 1 bv b.length (bytesV b) ∧ w.ownsRow 0 9 1 pv pl.length (pl.map strV)
def fpR (g : Nat) (bv pv : Value) (i : Nat) : Prop := i = g ∨ bv.ownBlock = some i ∨ pv.ownBlock = some i
/-- A row is where it was, or new. -/
def Moved (w : World) (v v' : Value) : Prop := v'.ownBlock = v.ownBlock ∨ ∃ k, v'.ownBlock = some k ∧ w.heap.size ≤ k
def RStep (g : Nat) (bv pv bv' pv' : Value) (w w' : World) : Prop := Only (fpR g bv pv) w w' ∧ Moved w bv bv' ∧ Moved w pv pv'

section
variable {w w' w1 w2 : World} {g : Nat} {bv pv bv' pv' bv2 pv2 v' : Value} {most : Int} {b xs : List UInt8} {pl ys : List (List UInt8)} {bad : Bool}
theorem Moved.trans (h : Moved w bv bv') (k : Moved w' bv' bv2) (hs : w.heap.size ≤ w'.heap.size) : Moved w bv bv2 := by
  rcases k with k | ⟨j, k, k2⟩
  · rcases h with h | ⟨j, h, h2⟩
    · exact Or.inl (k.trans h)
    · exact Or.inr ⟨j, k.trans h, h2⟩
  · exact Or.inr ⟨j, k, Nat.le_trans hs k2⟩
theorem RStep.refl (g : Nat) (bv pv : Value) (w : World) : RStep g bv pv bv pv w w := ⟨Only.refl _ _, Or.inl rfl, Or.inl rfl⟩
theorem RStep.trans (h : RStep g bv pv bv' pv' w w') (k : RStep g bv' pv' bv2 pv2 w' w2) : RStep g bv pv bv2 pv2 w w2 := by
  obtain ⟨h1, h2, h3⟩ := h
  obtain ⟨k1, k2, k3⟩ := k
  refine ⟨h1.trans k1 (fun i hi hf => ?_), h2.trans k2 h1.size, h3.trans k3 h1.size⟩
  rcases hf with hf | hf | hf
  · exact Or.inl hf
  · rcases h2 with h2 | ⟨j, h2, h4⟩
    · rw [h2] at hf; exact Or.inr (Or.inl hf)
    · rw [h2] at hf; injection hf with hf; omega
  · rcases h3 with h3 | ⟨j, h3, h4⟩
    · rw [h3] at hf; exact Or.inr (Or.inr hf)
    · rw [h3] at hf; injection hf with hf; omega
theorem rstep_below (h : Below w.heap.size w w1) : RStep g bv pv bv pv w w1 := ⟨Only.of_below h _, Or.inl rfl, Or.inl rfl⟩
theorem rstep_alloc {o : Obj} (h : RStep g bv pv bv' pv' (w.alloc o) w1) : RStep g bv pv bv' pv' w w1 :=
  RStep.trans ⟨(Only.refl _ _).alloc o, Or.inl rfl, Or.inl rfl⟩ h
theorem RAt.lt (h : RAt w g most bv b pv pl bad) : g < w.heap.size ∧ (∀ i, bv.ownBlock = some i → i < w.heap.size) ∧ ∀ i, pv.ownBlock = some i → i < w.heap.size :=
  ⟨h.1.lt, fun i hi => (h.2.1.lt i hi).2, fun i hi => (h.2.2.lt i hi).2⟩
theorem RAt.fp_lt (h : RAt w g most bv b pv pl bad) {i : Nat} (hi : fpR g bv pv i) : i < w.heap.size := by
  obtain ⟨h1, h2, h3⟩ := h.lt
  rcases hi with rfl | hi | hi
  · exact h1
  · exact h2 _ hi
  · exact h3 _ hi
theorem RAt.only {S : Nat → Prop} (h : RAt w g most bv b pv pl bad) (ho : Only S w w') (hS : ∀ i, fpR g bv pv i → ¬ S i) : RAt w' g most bv b pv pl bad :=
  ⟨h.1.only ho (hS _ (Or.inl rfl)), own_only h.2.1 ho (fun _ hk => hS _ (Or.inr (Or.inl hk))), own_only h.2.2 ho (fun _ hk => hS _ (Or.inr (Or.inr hk)))⟩
theorem RAt.drew (h : RAt w g most bv b pv pl bad) : RAt w.drew g most bv b pv pl bad := h
theorem RAt.drewN (h : RAt w g most bv b pv pl bad) (k : Nat) : RAt (w.drewN k) g most bv b pv pl bad := h
theorem RAt.below (h : RAt w g most bv b pv pl bad) (hb : Below w.heap.size w w') : RAt w' g most bv b pv pl bad :=
  h.only (Only.of_below hb (fun _ => False)) (fun _ _ hf => hf)
theorem RAt.alloc (h : RAt w g most bv b pv pl bad) (o : Obj) : RAt (w.alloc o) g most bv b pv pl bad := h.below ((Below.refl _ _).alloc (Nat.le_refl _) o)
theorem r_bytes (h : RAt w g most bv b pv pl bad) (hown : w1.ownsRow 0 5 1 v' (b.length + xs.length) (bytesV b ++ bytesV xs)) (hgrow : w.grownBy w1 bv.ownBlock) (hat : v'.ownBlock = bv.ownBlock ∨ v'.ownBlock = some w.heap.size) :
    Blk w1 g 44 #[.int .i64 most, bv, pv, .bool bad] ∧ RAt (w1.setCell ⟨g, 1, none⟩ v') g most v' (b ++ xs) pv pl bad ∧ RStep g bv pv v' pv w (w1.setCell ⟨g, 1, none⟩ v') := by
  obtain ⟨hb, hr, hm⟩ := h
  have hng : bv.ownBlock ≠ some g := own_blk_ne hr hb (by decide)
  have hnp : pv.ownBlock ≠ some g := own_blk_ne hm hb (by decide)
  have hb1 := hb.grown hgrow (Ne.symm hng)
  have hng' : v'.ownBlock ≠ some g := own_blk_ne hown hb1 (by decide)
  have hm1 : w1.ownsRow 0 9 1 pv pl.length (pl.map strV) := own_only hm ((Only.refl (fun i => bv.ownBlock = some i) _).grown hgrow (fun i hi => Or.inl hi)) (fun i hi hf => own_apart hr hm (by decide) hf hi)
  refine ⟨hb1, ⟨hb1.set_ 1 v', ?_, ownsRow_setCell_other hm1 (by simpa using hnp) v'⟩, ?_, ?_, Or.inl rfl⟩
  · rw [List.length_append, bytesV_append]
    exact ownsRow_setCell_other hown (by simpa using hng') v'
  · exact ((Only.refl (fpR g bv pv) w).grown hgrow (fun k hk => Or.inl (Or.inr (Or.inl hk)))).setCell (Or.inl (Or.inl rfl)) _
  · rcases hat with hat | hat
    · exact Or.inl hat
    · exact Or.inr ⟨_, hat, Nat.le_refl _⟩
theorem r_texts (h : RAt w g most bv b pv pl bad) (hown : w1.ownsRow 0 9 1 v' (pl.length + ys.length) (pl.map strV ++ ys.map strV)) (hgrow : w.grownBy w1 pv.ownBlock) (hat : v'.ownBlock = pv.ownBlock ∨ v'.ownBlock = some w.heap.size) :
    Blk w1 g 44 #[.int .i64 most, bv, pv, .bool bad] ∧ RAt (w1.setCell ⟨g, 2, none⟩ v') g most bv b v' (pl ++ ys) bad ∧ RStep g bv pv bv v' w (w1.setCell ⟨g, 2, none⟩ v') := by
  obtain ⟨hb, hr, hm⟩ := h
  have hng : bv.ownBlock ≠ some g := own_blk_ne hr hb (by decide)
  have hnp : pv.ownBlock ≠ some g := own_blk_ne hm hb (by decide)
  have hb1 := hb.grown hgrow (Ne.symm hnp)
  have hng' : v'.ownBlock ≠ some g := own_blk_ne hown hb1 (by decide)
  have hm1 : w1.ownsRow 0 5 1 bv b.length (bytesV b) := own_only hr ((Only.refl (fun i => pv.ownBlock = some i) _).grown hgrow (fun i hi => Or.inl hi)) (fun i hi hf => own_apart hr hm (by decide) hi hf)
  refine ⟨hb1, ⟨hb1.set_ 2 v', ownsRow_setCell_other hm1 (by simpa using hng) v', ?_⟩, ?_, Or.inl rfl, ?_⟩
  · rw [List.length_append, List.map_append]
    exact ownsRow_setCell_other hown (by simpa using hng') v'
  · exact ((Only.refl (fpR g bv pv) w).grown hgrow (fun k hk => Or.inl (Or.inr (Or.inr hk)))).setCell (Or.inl (Or.inl rfl)) _
  · rcases hat with hat | hat
    · exact Or.inl hat
    · exact Or.inr ⟨_, hat, Nat.le_refl _⟩
end

def PutPost (g : Nat) (most : Int) (bv : Value) (b : List UInt8) (pv : Value) (pl : List (List UInt8)) (bad : Bool) (xs : List UInt8) (w : World) (e : Ending) (w' : World) : Prop :=
  e = .returned (.tuple #[]) ∧ ∃ bv' pv', RAt w' g most bv' (b ++ xs) pv' (pl ++ List.replicate xs.length []) bad ∧ RStep g bv pv bv' pv' w w'
def PutRel (g : Nat) (most : Int) (bv pv v' : Value) (c : List UInt8) (pl : List (List UInt8)) (bad : Bool) (m : Nat) (w wr : World) : Prop :=
  ∃ j pv1, j ≤ m ∧ RAt wr g most v' c pv1 (pl ++ List.replicate j []) bad ∧ RStep g bv pv v' pv1 w wr
def placesN (v : Option Value) : Nat := match v with | some (.slice _ n _) => n | _ => 0
theorem strV_one (l : List (List UInt8)) : ∀ u ∈ l.map strV, u.oneCell' = true := by
  intro u hu
  obtain ⟨x, _, rfl⟩ := List.mem_map.1 hu
  rfl

set_option maxRecDepth 20000 in
set_option maxHeartbeats 1000000 in
theorem put_any (g : Nat) (most : Int) (bv : Value) (b : List UInt8) (pv : Value) (pl : List (List UInt8)) (bad : Bool) (A : Option Addr) (m c : Nat) (xs : List UInt8) (w : World) (h : RAt w g most bv b pv pl bad)
    (hpl : pl.length = b.length) (hx : Reads w w.heap.size 1 A m (bytesV xs)) (hb : b.length + xs.length ≤ 1000000) :
    Calls Try.prog 31 #[.pointer (some ⟨g, 0, none⟩), .slice A m c] w (PutPost g most bv b pv pl bad xs w) := by
  have hm : m = xs.length := by have := hx.1; rw [bytesV_length] at this; omega
  subst hm
  obtain ⟨i0, hi, hz0, hz1, hz2⟩ := info_parts Try.infoU8
  obtain ⟨i1, gi, gz0, gz1, gz2⟩ := info_parts Try.infoStr
  obtain ⟨A1, c1, rfl⟩ := own_slice h.2.1
  have hc1 : w.cell? ⟨g, 1, none⟩ = some (.slice A1 b.length c1) := h.1.cell 1
  have hown := h.2.1
  go_enter Try.func31, Try.ntmps31
  go_wp2_with (at_builtin; refine wpList_append_any _ rfl _ _ 22 rfl 0 5 i0 (.int .u8 0) 1 1 Try.underlying22 hi hz0 hz1 hz2 rfl (by decide) _ _ _ rfl hown _ _ _ _ _ rfl hx (bytesV_one _) ?c6 ?c7 ?c8 ?_)
  case c6 => unfold maxLen; omega
  case c7 => omega
  case c8 => exact Nat.zero_le _
  intro v' w1 hown' hgrow hat
  obtain ⟨A2, c2, rfl⟩ := own_slice hown'
  obtain ⟨hb1, hw1, hs1⟩ := r_bytes h hown' hgrow hat
  have hc2 : w1.cell? ⟨g, 1, none⟩ = some (.slice A1 b.length c1) := hb1.cell 1
  have hf2 : w1.frozen? ⟨g, 1, none⟩ = false := hb1.frozen 1
  have hlen : (b ++ xs).length = b.length + xs.length := List.length_append
  have HLEN := Lib.hid hlen
  clear hown' hgrow hat hown hx h hb1 hlen
  go_wp2
  go_loopw [] (fun wr => PutRel g most (.slice A1 b.length c1) pv (.slice A2 (b.length + xs.length) c2) (b ++ xs) pl bad xs.length w wr) (fun wr => b.length + xs.length - placesN (wr.cell? ⟨g, 2, none⟩))
  case atStart => exact ⟨0, pv, Nat.zero_le _, by simpa using hw1, hs1⟩
  case round =>
    obtain ⟨j, pv1, hj, hw2, hs2⟩ := hrel
    obtain ⟨A3, c3, rfl⟩ := own_slice hw2.2.2
    have hpn : (pl ++ List.replicate j ([] : List UInt8)).length = b.length + j := by simp [hpl]
    rw [hpn] at hw2 hs2
    have hk1 : wr.cell? ⟨g, 1, none⟩ = some (.slice A2 (b.length + xs.length) c2) := hw2.1.cell 1
    have hk2 : wr.cell? ⟨g, 2, none⟩ = some (.slice A3 (b.length + j) c3) := hw2.1.cell 2
    by_cases hlt : j < xs.length
    · go_wp2_with fail
      go_quiet (fail)
      obtain ⟨wr', hwr⟩ : ∃ wr', wr.drewN nq = wr' := ⟨_, rfl⟩
      have hw3 : RAt wr' g most (.slice A2 (b.length + xs.length) c2) (b ++ xs) (.slice A3 (b.length + j) c3) (pl ++ List.replicate j []) bad := by rw [← hwr]; exact hw2
      have hs3 : RStep g (.slice A1 b.length c1) pv (.slice A2 (b.length + xs.length) c2) (.slice A3 (b.length + j) c3) w wr' := by rw [← hwr]; exact ⟨hs2.1.drewN _, hs2.2⟩
      have hk3 : wr'.cell? ⟨g, 2, none⟩ = some (.slice A3 (b.length + j) c3) := hw3.1.cell 2
      rw [hwr]
      clear hwr hk1
      have hown := (hw3.alloc (.cells #[.string ⟨#[]⟩] 9)).2.2
      rw [hpn] at hown
      have hr := reads_new wr' 9 [strV []] #[.string ⟨#[]⟩] rfl
      go_wp2_with (at_builtin; refine wpList_append_any _ rfl _ _ 42 rfl 0 9 i1 (.string ByteArray.empty) 1 16 Try.underlying42 gi gz0 gz1 gz2 rfl (by decide) _ _ _ rfl hown _ _ _ _ _ rfl hr (strV_one [[]]) ?c6 ?c7 ?c8 ?_)
      case c6 => unfold maxLen; show b.length + j + 1 ≤ _; omega
      case c7 => show (b.length + j + 1) * 16 ≤ _; omega
      case c8 => exact Nat.zero_le _
      intro v4 w4 hown4 hgrow4 hat4
      obtain ⟨A4, c4, rfl⟩ := own_slice hown4
      obtain ⟨hb4, hw4, hs4⟩ := r_texts (ys := [[]]) (hw3.alloc _) (by rw [hpn]; simpa using hown4) hgrow4 (by simpa using hat4)
      have hk4 : w4.cell? ⟨g, 2, none⟩ = some (.slice A3 (b.length + j) c3) := hb4.cell 2
      have hf4 : w4.frozen? ⟨g, 2, none⟩ = false := hb4.frozen 2
      clear hown4 hgrow4 hat4 hown hr hb4
      go_wp2
      go_roundw
      case rel => exact ⟨j + 1, _, by omega, by rw [List.replicate_succ', ← List.append_assoc]; exact hw4, hs3.trans (rstep_alloc hs4)⟩
      case measure =>
        have := hw4.1.cell 2
        rw [hk2, this]
        simp [placesN]
        omega
    · obtain rfl : j = xs.length := by omega
      go_wp2_with fail
      go_quiet (fail)
      go_wp2
      go_end0
      exact ⟨rfl, _, _, hw2, hs2.1.drewN _, hs2.2⟩

set_option maxRecDepth 20000 in
set_option maxHeartbeats 400000 in
theorem rtwo_any (g : Nat) (most : Int) (bv : Value) (b : List UInt8) (pv : Value) (pl : List (List UInt8)) (bad : Bool) (x : Int) (w : World) (h : RAt w g most bv b pv pl bad) (hpl : pl.length = b.length) (hb : b.length ≤ 900000) :
    Calls Try.prog 20 #[.pointer (some ⟨g, 0, none⟩), .int .i64 x] w (PutPost g most bv b pv pl bad (twoB x) w) := by
  have hr := reads_new w 5 (bytesV (twoB x)) #[.int .u8 (x / 256 % 256), .int .u8 (x % 256)] (by simp [bytesV, twoB, byteV_byI])
  go_enter Try.func20, Try.ntmps20
  go_wp2_with fail
  refine (put_any g most bv b pv pl bad _ 2 2 (twoB x) _ (h.alloc _) hpl hr (by simp [twoB]; omega)).mono ?_
  rintro e w1 ⟨rfl, bv', pv', hw1, hs1⟩
  go_wp2
  go_end0
  exact ⟨rfl, bv', pv', hw1, rstep_alloc hs1⟩
set_option maxRecDepth 20000 in
set_option maxHeartbeats 400000 in
theorem rfour_any (g : Nat) (most : Int) (bv : Value) (b : List UInt8) (pv : Value) (pl : List (List UInt8)) (bad : Bool) (x : Int) (w : World) (h : RAt w g most bv b pv pl bad) (hpl : pl.length = b.length) (hb : b.length ≤ 900000) :
    Calls Try.prog 22 #[.pointer (some ⟨g, 0, none⟩), .int .i64 x] w (PutPost g most bv b pv pl bad (fourB x) w) := by
  have hr := reads_new w 5 (bytesV (fourB x)) #[.int .u8 (x / 16777216 % 256), .int .u8 (x / 65536 % 256), .int .u8 (x / 256 % 256), .int .u8 (x % 256)] (by simp [bytesV, fourB, byteV_byI])
  go_enter Try.func22, Try.ntmps22
  go_wp2_with fail
  refine (put_any g most bv b pv pl bad _ 4 4 (fourB x) _ (h.alloc _) hpl hr (by simp [fourB]; omega)).mono ?_
  rintro e w1 ⟨rfl, bv', pv', hw1, hs1⟩
  go_wp2
  go_end0
  exact ⟨rfl, bv', pv', hw1, rstep_alloc hs1⟩
end Go.Proofs.Ytkbbilcohoodlaa
