/-
  The contracts of the Writer's small methods.
-/
import Derived.Test.YtkbbilcohoodlaaWriter
import Derived.WalkSpells
import Derived.Deep.QuietTactic
import Derived.BigQuiet
import Derived.BigRegion
import Derived.ChangeAlike
namespace Go.Proofs.Ytkbbilcohoodlaa
open Go.RowKit

theorem Try.infoU8 : (Try.prog.info? 5).map (fun i => (i.zero, i.size, i.bytes)) = some (some (.int .u8 0), 1, 1) := by kernel_rfl

def BytesPost (g mb : Nat) (bv : Value) (most : Int) (b : List UInt8) (D : DataW Unit) (n : Nat) (wrong : Bool) (xs : List UInt8) (w : World) (e : Ending) (w' : World) : Prop :=
  e = .returned (.tuple #[]) ∧ ∃ bv', WrAt w' g mb bv' most (b ++ xs) D n wrong ∧ WrStep g mb bv bv' w w'

theorem bytes_step {w w1 : World} {g mb n : Nat} {bv v' : Value} {most : Int} {b xs : List UInt8} {D : DataW Unit} {wrong : Bool} (h : WrAt w g mb bv most b D n wrong)
    (hown : w1.ownsRow 0 5 1 v' (b.length + xs.length) (bytesV b ++ bytesV xs)) (hgrow : w.grownBy w1 bv.ownBlock) (hat : v'.ownBlock = bv.ownBlock ∨ v'.ownBlock = some w.heap.size) :
    Blk w1 g 64 #[.int .i64 most, bv, .map (some mb), .bool wrong] ∧ WrAt (w1.setCell ⟨g, 1, none⟩ v') g mb v' most (b ++ xs) D n wrong ∧ WrStep g mb bv v' w (w1.setCell ⟨g, 1, none⟩ v') := by
  obtain ⟨hb, hr, hm⟩ := h
  have hng : bv.ownBlock ≠ some g := own_blk_ne hr hb (by decide)
  have hnm : bv.ownBlock ≠ some mb := map_ne_own hm hr
  have hmg : mb ≠ g := map_ne_blk hm hb
  have hb1 : Blk w1 g 64 #[.int .i64 most, bv, .map (some mb), .bool wrong] := hb.grown hgrow (Ne.symm hng)
  have hng' : v'.ownBlock ≠ some g := own_blk_ne hown hb1 (by decide)
  refine ⟨hb1, ⟨hb1.set_ 1 v', ?_, ?_⟩, ?_, ?_⟩
  · rw [List.length_append, bytesV_append]
    exact ownsRow_setCell_other hown (by simpa using hng') v'
  · exact map_setCell (hm.kept hgrow (Ne.symm hnm)) (by simpa using hmg) v'
  · exact ((Only.refl (fpW g mb bv) w).grown hgrow (fun k hk => Or.inl (Or.inr (Or.inr hk)))).setCell (Or.inl (Or.inl rfl)) _
  · rcases hat with hat | hat
    · exact Or.inl hat
    · exact Or.inr ⟨_, hat, Nat.le_refl _⟩

theorem step_alloc {w w1 : World} {g mb : Nat} {bv bv' : Value} {o : Obj} (hs : WrStep g mb bv bv' (w.alloc o) w1) : WrStep g mb bv bv' w w1 :=
  WrStep.trans (bv' := bv) ⟨(Only.refl _ _).alloc o, Or.inl rfl⟩ hs

set_option maxRecDepth 20000 in
set_option maxHeartbeats 1000000 in
theorem bytes_any (g mb n : Nat) (bv : Value) (most : Int) (b : List UInt8) (D : DataW Unit) (wrong : Bool) (A : Option Addr) (m c : Nat) (xs : List UInt8) (w : World) (h : WrAt w g mb bv most b D n wrong)
    (hx : Reads w w.heap.size 1 A m (bytesV xs)) (hb : b.length + xs.length ≤ 1000000000) :
    Calls Try.prog 18 #[.pointer (some ⟨g, 0, none⟩), .slice A m c] w (BytesPost g mb bv most b D n wrong xs w) := by
  have hm : m = xs.length := by have := hx.1; rw [bytesV_length] at this; omega
  subst hm
  obtain ⟨i0, hi, hz0, hz1, hz2⟩ := info_parts Try.infoU8
  obtain ⟨A1, c1, rfl⟩ := h.slice
  have hc1 : w.cell? ⟨g, 1, none⟩ = some (.slice A1 b.length c1) := h.1.cell 1
  have hown := h.2.1
  go_enter Try.func18, Try.ntmps18
  go_wp2_with (at_builtin; refine wpList_append_any _ rfl (.tmp 10) (.tmp 11) 22 rfl 0 5 i0 (.int .u8 0) 1 1 Try.underlying22 hi hz0 hz1 hz2 rfl (by decide) _ _ _ rfl hown _ _ _ _ _ rfl hx (bytesV_one _) ?c6 ?c7 ?c8 ?_)
  case c6 => unfold maxLen; omega
  case c7 => omega
  case c8 => exact Nat.zero_le _
  intro v' w1 hown' hgrow hat
  obtain ⟨A2, c2, rfl⟩ := own_slice hown'
  obtain ⟨hb1, hw1, hs1⟩ := bytes_step h hown' hgrow hat
  have hc2 : w1.cell? ⟨g, 1, none⟩ = some (.slice A1 b.length c1) := hb1.cell 1
  have hf2 : w1.frozen? ⟨g, 1, none⟩ = false := hb1.frozen 1
  clear hown' hgrow hat hown hx h hb1
  go_wp2
  go_end0
  exact ⟨rfl, _, hw1, hs1⟩

set_option maxRecDepth 20000 in
set_option maxHeartbeats 400000 in
theorem bytes_nil (v : Value) (w : World) :
    Calls Try.prog 18 #[.pointer none, v] w fun e w' => e = .returned (.tuple #[]) ∧ w = w' := by
  go_enter Try.func18, Try.ntmps18
  go_wp2
  go_end0
  exact ⟨rfl, rfl⟩

set_option maxRecDepth 20000 in
set_option maxHeartbeats 400000 in
theorem len_any (g mb n : Nat) (bv : Value) (most : Int) (b : List UInt8) (D : DataW Unit) (wrong : Bool) (w : World) (h : WrAt w g mb bv most b D n wrong) :
    Calls Try.prog 16 #[.pointer (some ⟨g, 0, none⟩)] w fun e w' => e = .returned (.int .i64 (b.length : Int)) ∧ w = w' := by
  obtain ⟨A1, c1, rfl⟩ := h.slice
  have hc1 : w.cell? ⟨g, 1, none⟩ = some (.slice A1 b.length c1) := h.1.cell 1
  clear h
  go_enter Try.func16, Try.ntmps16
  go_wp2
  go_ret
  exact ⟨rfl, rfl⟩
set_option maxRecDepth 20000 in
set_option maxHeartbeats 400000 in
theorem len_nil (w : World) :
    Calls Try.prog 16 #[.pointer none] w fun e w' => e = .returned (.int .i64 0) ∧ w = w' := by
  go_enter Try.func16, Try.ntmps16
  go_wp2
  go_ret
  exact ⟨rfl, rfl⟩

/-- A new writer. -/
def NewPost (most : Int) (w : World) (e : Ending) (w' : World) : Prop :=
  ∃ g mb, e = .returned (.pointer (some ⟨g, 0, none⟩)) ∧ WrAt w' g mb (.slice none 0 0) most [] (.map []) 0 false ∧ Below w.heap.size w w' ∧ w.heap.size ≤ g ∧ w.heap.size ≤ mb
set_option maxRecDepth 20000 in
set_option maxHeartbeats 400000 in
theorem new_any (most : Int) (w : World) :
    Calls Try.prog 14 #[.int .i64 most] w (NewPost most w) := by
  have hmm := @run_makeMap Try.prog
  go_enter Try.func14, Try.ntmps14
  go_wp2
  go_ret
  have hm : (w.alloc (.map #[] 0)).ownsMap Try.prog 9 (Go.plainElem (H := Unit) Try.prog 3) w.heap.size 0 (.map []) := World.ownsMap_made _ _ _ _
  refine ⟨w.heap.size + 1, w.heap.size, rfl, ⟨?_, World.ownsRow_nil _ _ _ _, hm.alloc _⟩, ((Below.refl _ _).alloc (Nat.le_refl _) _).alloc (by simp) _, by omega, by omega⟩
  have := Blk.new (w.alloc (.map #[] 0)) 64 #[.int .i64 most, .slice none 0 0, .map (some w.heap.size), .bool false]
  simpa using this

/-- A number's lowest byte. -/
def byI (x : Int) : UInt8 := UInt8.ofNat (x % 256).toNat
def twoB (x : Int) : List UInt8 := [byI (x / 256), byI x]
def fourB (x : Int) : List UInt8 := [byI (x / 16777216), byI (x / 65536), byI (x / 256), byI x]
theorem byteV_byI (x : Int) : byteV (byI x) = .int .u8 (x % 256) := by
  unfold byteV byI
  have h1 : 0 ≤ x % 256 := Int.emod_nonneg _ (by omega)
  have h2 : x % 256 < 256 := Int.emod_lt_of_pos _ (by omega)
  rw [UInt8.toNat_ofNat_of_lt' (by show (x % 256).toNat < 256; omega)]
  congr 1; omega
theorem reads_new (w : World) (e : TypeId) (l : List Value) (cs : Array Value) (h : cs.toList = l) : Reads (w.alloc (.cells cs e)) (w.alloc (.cells cs e)).heap.size 1 (some ⟨w.heap.size, 0, none⟩) l.length l := by
  subst h
  refine ⟨by simp, fun _ => ⟨_, rfl, by simp, fun j u hu => ?_⟩⟩
  have : (⟨w.heap.size, 0, none⟩ : Addr).add j = ⟨w.heap.size, j, none⟩ := by unfold Addr.add; split <;> simp_all
  rw [this, cell_of_row _ _ j _ _ (0, 0) (heap_alloc_new w _)]
  simpa using hu

set_option maxRecDepth 20000 in
set_option maxHeartbeats 400000 in
theorem two_any (g mb n : Nat) (bv : Value) (most : Int) (b : List UInt8) (D : DataW Unit) (wrong : Bool) (x : Int) (w : World) (h : WrAt w g mb bv most b D n wrong) (hb : b.length ≤ 999999000) :
    Calls Try.prog 19 #[.pointer (some ⟨g, 0, none⟩), .int .i64 x] w (BytesPost g mb bv most b D n wrong (twoB x) w) := by
  have hr := reads_new w 5 (bytesV (twoB x)) #[.int .u8 (x / 256 % 256), .int .u8 (x % 256)] (by simp [bytesV, twoB, byteV_byI])
  go_enter Try.func19, Try.ntmps19
  go_wp2_with fail
  refine (bytes_any g mb n bv most b D wrong _ 2 2 (twoB x) _ (h.alloc _) hr (by simp [twoB]; omega)).mono ?_
  rintro e w1 ⟨rfl, bv', hw1, hs1⟩
  go_wp2
  go_end0
  exact ⟨rfl, bv', hw1, step_alloc hs1⟩

set_option maxRecDepth 20000 in
set_option maxHeartbeats 400000 in
theorem four_any (g mb n : Nat) (bv : Value) (most : Int) (b : List UInt8) (D : DataW Unit) (wrong : Bool) (x : Int) (w : World) (h : WrAt w g mb bv most b D n wrong) (hb : b.length ≤ 999999000) :
    Calls Try.prog 21 #[.pointer (some ⟨g, 0, none⟩), .int .i64 x] w (BytesPost g mb bv most b D n wrong (fourB x) w) := by
  have hr := reads_new w 5 (bytesV (fourB x)) #[.int .u8 (x / 16777216 % 256), .int .u8 (x / 65536 % 256), .int .u8 (x / 256 % 256), .int .u8 (x % 256)] (by simp [bytesV, fourB, byteV_byI])
  go_enter Try.func21, Try.ntmps21
  go_wp2_with fail
  refine (bytes_any g mb n bv most b D wrong _ 4 4 (fourB x) _ (h.alloc _) hr (by simp [fourB]; omega)).mono ?_
  rintro e w1 ⟨rfl, bv', hw1, hs1⟩
  go_wp2
  go_end0
  exact ⟨rfl, bv', hw1, step_alloc hs1⟩

set_option maxRecDepth 20000 in
set_option maxHeartbeats 400000 in
theorem two_nil (x : Int) (w : World) :
    Calls Try.prog 19 #[.pointer none, .int .i64 x] w fun e w' => e = .returned (.tuple #[]) ∧ Below w.heap.size w w' := by
  go_enter Try.func19, Try.ntmps19
  go_wp2_with fail
  refine (bytes_nil _ _).mono ?_
  rintro e w1 ⟨rfl, rfl⟩
  go_wp2
  go_end0
  exact ⟨rfl, (Below.refl _ _).alloc (Nat.le_refl _) _⟩

/-- A clone. -/
def ClonePost (xs : List UInt8) (w : World) (e : Ending) (w' : World) : Prop :=
  ∃ v, e = .returned v ∧ w'.ownsRow w.heap.size 5 1 v xs.length (bytesV xs) ∧ Below w.heap.size w w'
set_option maxRecDepth 20000 in
set_option maxHeartbeats 400000 in
theorem clone_any (A : Option Addr) (m c : Nat) (xs : List UInt8) (w : World) (hx : Reads w w.heap.size 1 A m (bytesV xs)) (hb : xs.length ≤ 1000000000) (hnil : A = none → c = 0) :
    Calls Try.prog 33 #[.slice A m c] w (ClonePost xs w) := by
  have hm : m = xs.length := by have := hx.1; rw [bytesV_length] at this; omega
  subst hm
  obtain ⟨i0, hi, hz0, hz1, hz2⟩ := info_parts Try.infoU8
  rcases A with _ | ad
  · have h0 : xs.length = 0 := by
      rcases Nat.eq_zero_or_pos xs.length with h | h
      · exact h
      · obtain ⟨_, h', _⟩ := hx.2 h; cases h'
    obtain rfl : xs = [] := List.eq_nil_of_length_eq_zero h0
    obtain rfl := hnil rfl
    have hq := Lib.run_eql_slice_nil (P := Try.prog)
    go_enter Try.func33, Try.ntmps33
    go_wp2
    go_ret
    exact ⟨_, rfl, World.ownsRow_nil _ _ _ _, Below.refl _ _⟩
  · have hq := fun wx => Lib.run_eql_slice_nil (P := Try.prog) wx 22 5 (some ad) xs.length c 0 0 Try.underlying22
    have hx1 : Reads (w.alloc (.cells #[] 5)) (w.alloc (.cells #[] 5)).heap.size 1 (some ad) xs.length (bytesV xs) := (hx.alloc (Nat.le_refl _) _).more (by simp)
    have hown : (w.alloc (.cells #[] 5)).ownsRow w.heap.size 5 1 (.slice (some ⟨w.heap.size, 0, none⟩) 0 0) 0 [] := World.ownsRow_lit w #[] 0 (Nat.le_refl _) (by simp [maxLen]) rfl
    clear hx
    go_enter Try.func33, Try.ntmps33
    go_wp2_with (at_builtin; refine wpList_append_any _ rfl (.tmp 5) (.tmp 6) 22 rfl w.heap.size 5 i0 (.int .u8 0) 1 1 Try.underlying22 hi hz0 hz1 hz2 rfl (by decide) _ _ _ rfl hown _ _ _ _ _ rfl hx1 (bytesV_one _) ?c6 ?c7 ?c8 ?_)
    case c6 => unfold maxLen; omega
    case c7 => omega
    case c8 => simp
    intro v' w1 hown' hgrow _
    have hb1 : Below w.heap.size w w1 := ((Below.refl _ _).alloc (Nat.le_refl _) _).grown hgrow (by simp) (fun k hk => by simp [Value.ownBlock] at hk; omega)
    obtain ⟨A2, c2, rfl⟩ := own_slice hown'
    clear hgrow hown hx1
    go_wp2
    go_ret
    exact ⟨_, rfl, hown', hb1⟩

/-- What Out answers. -/
def OutPost (most : Int) (b : List UInt8) (wrong : Bool) (w : World) (e : Ending) (w' : World) : Prop :=
  Below w.heap.size w w' ∧ if wrong = true ∨ most < b.length then e = .returned (.tuple #[.slice none 0 0, .int .i64 3])
    else ∃ v, e = .returned (.tuple #[v, .int .i64 0]) ∧ w'.ownsRow w.heap.size 5 1 v b.length (bytesV b)
theorem own_cap {w : World} {base e size n c : Nat} {xs : List Value} {A : Option Addr} (h : w.ownsRow base e size (.slice A n c) n xs) : A = none → c = 0 := by
  intro hA
  subst hA
  rcases h.2 with ⟨h, _⟩ | ⟨g, cap, _, h, _⟩
  · injection h
  · injection h with h; cases h

set_option maxRecDepth 20000 in
set_option maxHeartbeats 1000000 in
theorem out_any (g mb n : Nat) (bv : Value) (most : Int) (b : List UInt8) (D : DataW Unit) (wrong : Bool) (w : World) (h : WrAt w g mb bv most b D n wrong) (hb : b.length ≤ 1000000000) :
    Calls Try.prog 24 #[.pointer (some ⟨g, 0, none⟩)] w (OutPost most b wrong w) := by
  obtain ⟨A1, c1, rfl⟩ := h.slice
  have hc0 : w.cell? ⟨g, 0, none⟩ = some (.int .i64 most) := h.1.cell 0
  have hc1 : w.cell? ⟨g, 1, none⟩ = some (.slice A1 b.length c1) := h.1.cell 1
  have hc3 : w.cell? ⟨g, 3, none⟩ = some (.bool wrong) := h.1.cell 3
  have hr := Reads.of_own h.2.1
  have hcap := own_cap h.2.1
  have HR := Lib.hid hr
  have HC := Lib.hid hcap
  clear hr hcap h
  cases wrong
  · by_cases hm : most < b.length
    · go_enter Try.func24, Try.ntmps24
      go_wp2_with fail
      go_quiet (fail)
      go_wp2
      go_ret2
      exact ⟨below_drewN (Below.refl _ _) _, by rw [if_pos (Or.inr hm)]; rfl⟩
    · go_enter Try.func24, Try.ntmps24
      go_wp2_with fail
      go_quiet (fail)
      go_wp2_with fail
      refine (clone_any _ _ _ b _ (HR.out.drewN _) hb HC.out).mono ?_
      rintro e w1 ⟨v, rfl, hv, hb1⟩
      go_wp2
      go_ret2
      exact ⟨(below_drewN (Below.refl _ _) _).trans hb1, by rw [if_neg (by simp [hm])]; exact ⟨_, rfl, hv⟩⟩
  · go_enter Try.func24, Try.ntmps24
    go_wp2_with fail
    go_quiet (fail)
    go_wp2
    go_ret2
    exact ⟨below_drewN (Below.refl _ _) _, by rw [if_pos (Or.inl rfl)]; rfl⟩
set_option maxRecDepth 20000 in
set_option maxHeartbeats 400000 in
theorem out_nil (w : World) :
    Calls Try.prog 24 #[.pointer none] w fun e w' => e = .returned (.tuple #[.slice none 0 0, .int .i64 3]) ∧ Below w.heap.size w w' := by
  go_enter Try.func24, Try.ntmps24
  go_wp2_with fail
  go_quiet (fail)
  go_wp2
  go_ret2
  exact ⟨rfl, below_drewN (Below.refl _ _) _⟩

/-- Two bytes set over. -/
def setB (b : List UInt8) (at_ x : Int) : List UInt8 := if 0 ≤ at_ ∧ at_ < (b.length : Int) - 1 then (b.set at_.toNat (byI (x / 256))).set (at_.toNat + 1) (byI x) else b
def SetPost (g mb : Nat) (bv : Value) (most : Int) (b : List UInt8) (D : DataW Unit) (n : Nat) (wrong : Bool) (w : World) (e : Ending) (w' : World) : Prop :=
  e = .returned (.tuple #[]) ∧ WrAt w' g mb bv most b D n wrong ∧ Only (fpW g mb bv) w w'

theorem bytesV_set (b : List UInt8) (k : Nat) (c : UInt8) : bytesV (b.set k c) = (bytesV b).set k (byteV c) := by
  unfold bytesV; rw [List.map_set]

theorem WrAt.poke {w : World} {g mb n rb cap k : Nat} {most : Int} {b : List UInt8} {D : DataW Unit} {wrong : Bool} (h : WrAt w g mb (.slice (some ⟨rb, 0, none⟩) b.length cap) most b D n wrong) (c : UInt8) (v : Value) (hv : v = byteV c) :
    WrAt (w.setCell ⟨rb, k, none⟩ v) g mb (.slice (some ⟨rb, 0, none⟩) b.length cap) most (b.set k c) D n wrong := by
  subst hv
  have hng : rb ≠ g := fun e => own_blk_ne h.2.1 h.1 (by decide) (by simp [Value.ownBlock, e])
  have hnm : mb ≠ rb := fun e => map_ne_own h.2.2 h.2.1 (by simp [Value.ownBlock, e])
  refine ⟨h.1.far (p := ⟨rb, k, none⟩) (Ne.symm hng) _, ?_, map_setCell h.2.2 hnm _⟩
  rw [List.length_set, bytesV_set]
  exact (h.2.1.stored k (byteV c)).1

set_option maxRecDepth 20000 in
set_option maxHeartbeats 1000000 in
theorem set_any (g mb n : Nat) (bv : Value) (most : Int) (b : List UInt8) (D : DataW Unit) (wrong : Bool) (at_ x : Int) (w : World) (h : WrAt w g mb bv most b D n wrong) (hb : b.length ≤ 1000000000) :
    Calls Try.prog 27 #[.pointer (some ⟨g, 0, none⟩), .int .i64 at_, .int .i64 x] w (SetPost g mb bv most (setB b at_ x) D n wrong w) := by
  by_cases h0 : 0 ≤ at_
  · by_cases h1 : at_ < (b.length : Int) - 1
    · obtain ⟨k, rfl⟩ := Int.eq_ofNat_of_zero_le h0
      have hk : k + 1 < b.length := by omega
      have hset : setB b k x = (b.set k (byI (x / 256))).set (k + 1) (byI x) := by unfold setB; rw [if_pos ⟨h0, h1⟩]; rfl
      obtain ⟨rb, cap, rfl, _, hlt⟩ := h.2.1.form (by omega)
      have hng : rb ≠ g := fun e => own_blk_ne h.2.1 h.1 (by decide) (by simp [Value.ownBlock, e])
      have hc1 : w.cell? ⟨g, 1, none⟩ = some (.slice (some ⟨rb, 0, none⟩) b.length cap) := h.1.cell 1
      have hx1 : w.cell? ⟨rb, k, none⟩ = some (.int .u8 (b[k].toNat : Int)) := by rw [h.2.1.cellAt _ (by omega)]; exact bytesV_at b k (by omega)
      have hx2 : w.cell? ⟨rb, k + 1, none⟩ = some (.int .u8 (b[k + 1].toNat : Int)) := by rw [h.2.1.cellAt _ (by omega)]; exact bytesV_at b (k + 1) (by omega)
      have hf1 := h.2.1.frozenAt k
      have hf2 := h.2.1.frozenAt (k + 1)
      have hi0 : (0 : Int) ≤ (k : Int) := by omega
      have hi1 : (k : Int) < (b.length : Int) := by omega
      have hi2 : (k : Int) + 1 < (b.length : Int) := by omega
      go_enter Try.func27, Try.ntmps27
      go_wp2_with (go_at_call 16; refine (len_any g mb n _ most b D wrong _ h).mono ?_; rintro e w1 ⟨rfl, rfl⟩)
      go_region
      go_end0
      refine ⟨rfl, ?_, ?_⟩
      · rw [hset]
        have h2 := (h.poke (k := k) (byI (x / 256)) _ (byteV_byI _).symm)
        rw [show b.length = (b.set k (byI (x / 256))).length by simp] at h2
        have h3 := h2.poke (k := k + 1) (byI x) _ (byteV_byI _).symm
        rw [List.length_set] at h3
        exact h3
      · exact (((Only.refl _ w).setCell (Or.inl (Or.inr (Or.inr (by simp [Value.ownBlock])))) _).setCell (Or.inl (Or.inr (Or.inr (by simp [Value.ownBlock])))) _).drew
    · have hset : Hid (setB b at_ x = b) := by show setB b at_ x = b; unfold setB; rw [if_neg (by omega)]
      go_enter Try.func27, Try.ntmps27
      go_wp2_with (go_at_call 16; refine (len_any g mb n _ most b D wrong _ h).mono ?_; rintro e w1 ⟨rfl, rfl⟩)
      go_end0
      exact ⟨rfl, by rw [hset.out]; exact h, Only.refl _ _⟩
  · have hset : Hid (setB b at_ x = b) := by show setB b at_ x = b; unfold setB; rw [if_neg (by omega)]
    go_enter Try.func27, Try.ntmps27
    go_wp2
    go_end0
    exact ⟨rfl, by rw [hset.out]; exact h, Only.refl _ _⟩
end Go.Proofs.Ytkbbilcohoodlaa
