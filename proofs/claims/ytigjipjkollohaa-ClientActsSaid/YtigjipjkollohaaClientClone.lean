/-
  The contracts of slices.Clone, of questions and of records.
-/
import Derived.Test.YtigjipjkollohaaClientOwn
namespace Go.Proofs.Ytigjipjkollohaa
open Go.RowKit

theorem own_cap {w : World} {base e size n c : Nat} {xs : List Value} {A : Option Addr} (h : w.ownsRow base e size (.slice A n c) n xs) : A = none → c = 0 := by
  intro hA
  subst hA
  rcases h.2 with ⟨h, _⟩ | ⟨g, cap, _, h, _⟩
  · injection h
  · injection h with h; cases h
/-- The cells of no NAME. -/
def zeroQn : Value := .agg #[.string ByteArray.empty, .int .i64 0, .int .i64 0]
theorem Try.infoQn : (Try.prog.info? 61).map (fun i => (i.zero, i.size, i.bytes)) = some (some zeroQn, 3, 32) := by kernel_rfl
set_option maxRecDepth 20000 in
set_option maxHeartbeats 400000 in
theorem cloneQn_any (A : Option Addr) (m c : Nat) (xs : List Value) (w : World) (hx : Reads w w.heap.size 3 A m xs) (h1 : ∀ u ∈ xs, u.oneCell' = true) (hb : m ≤ 1000000) (hnil : A = none → c = 0) :
    Calls Try.prog 32 #[.slice A m c] w fun e w' => ∃ v, e = .returned v ∧ w'.ownsRow w.heap.size 61 3 v m xs ∧ Below w.heap.size w w' := by
  obtain ⟨i0, hi, hz0, hz1, hz2⟩ := info_parts Try.infoQn
  rcases A with _ | ad
  · have h0 : m = 0 := by
      rcases Nat.eq_zero_or_pos m with h | h
      · exact h
      · obtain ⟨_, h', _⟩ := hx.2 h; cases h'
    subst h0
    obtain rfl : xs = [] := List.eq_nil_of_length_eq_zero (by simpa using hx.1)
    obtain rfl := hnil rfl
    have hq := Lib.run_eql_slice_nil (P := Try.prog)
    go_enter Try.func32, Try.ntmps32
    go_wp2
    go_ret
    exact ⟨_, rfl, World.ownsRow_nil _ _ _ _, Below.refl _ _⟩
  · have hq := fun wx => Lib.run_eql_slice_nil (P := Try.prog) wx 30 61 (some ad) m c 0 0 Try.underlying30
    have hx1 : Reads (w.alloc (.cells #[] 61)) (w.alloc (.cells #[] 61)).heap.size 3 (some ad) m xs := (hx.alloc (Nat.le_refl _) _).more (by simp)
    have hown : (w.alloc (.cells #[] 61)).ownsRow w.heap.size 61 3 (.slice (some ⟨w.heap.size, 0, none⟩) 0 0) 0 [] := World.ownsRow_lit w #[] 0 (Nat.le_refl _) (by simp [maxLen]) rfl
    clear hx
    go_enter Try.func32, Try.ntmps32
    go_wp2_with (at_builtin; refine wpList_append_any _ rfl _ _ 30 rfl w.heap.size 61 i0 zeroQn 3 32 Try.underlying30 hi hz0 hz1 hz2 rfl (by decide) _ _ _ rfl hown _ _ _ _ _ rfl hx1 h1 ?c6 ?c7 ?c8 ?_)
    case c6 => unfold maxLen; omega
    case c7 => omega
    case c8 => simp
    intro v' w1 hown' hgrow _
    have hb1 : Below w.heap.size w w1 := ((Below.refl _ _).alloc (Nat.le_refl _) _).grown hgrow (by simp) (fun k hk => by simp [Value.ownBlock] at hk; omega)
    obtain ⟨A2, c2, rfl⟩ := own_slice hown'
    clear hgrow hown hx1
    go_wp2
    go_ret
    exact ⟨_, rfl, hown', hb1⟩
/-- The cells of no NAME. -/
def zeroRr : Value := .agg #[.string ByteArray.empty, .int .i64 0, .int .i64 0, .int .i64 0, .string ByteArray.empty]
theorem Try.infoRr : (Try.prog.info? 69).map (fun i => (i.zero, i.size, i.bytes)) = some (some zeroRr, 5, 56) := by kernel_rfl
set_option maxRecDepth 20000 in
set_option maxHeartbeats 400000 in
theorem cloneRr_any (A : Option Addr) (m c : Nat) (xs : List Value) (w : World) (hx : Reads w w.heap.size 5 A m xs) (h1 : ∀ u ∈ xs, u.oneCell' = true) (hb : m ≤ 1000000) (hnil : A = none → c = 0) :
    Calls Try.prog 33 #[.slice A m c] w fun e w' => ∃ v, e = .returned v ∧ w'.ownsRow w.heap.size 69 5 v m xs ∧ Below w.heap.size w w' := by
  obtain ⟨i0, hi, hz0, hz1, hz2⟩ := info_parts Try.infoRr
  rcases A with _ | ad
  · have h0 : m = 0 := by
      rcases Nat.eq_zero_or_pos m with h | h
      · exact h
      · obtain ⟨_, h', _⟩ := hx.2 h; cases h'
    subst h0
    obtain rfl : xs = [] := List.eq_nil_of_length_eq_zero (by simpa using hx.1)
    obtain rfl := hnil rfl
    have hq := Lib.run_eql_slice_nil (P := Try.prog)
    go_enter Try.func33, Try.ntmps33
    go_wp2
    go_ret
    exact ⟨_, rfl, World.ownsRow_nil _ _ _ _, Below.refl _ _⟩
  · have hq := fun wx => Lib.run_eql_slice_nil (P := Try.prog) wx 31 69 (some ad) m c 0 0 Try.underlying31
    have hx1 : Reads (w.alloc (.cells #[] 69)) (w.alloc (.cells #[] 69)).heap.size 5 (some ad) m xs := (hx.alloc (Nat.le_refl _) _).more (by simp)
    have hown : (w.alloc (.cells #[] 69)).ownsRow w.heap.size 69 5 (.slice (some ⟨w.heap.size, 0, none⟩) 0 0) 0 [] := World.ownsRow_lit w #[] 0 (Nat.le_refl _) (by simp [maxLen]) rfl
    clear hx
    go_enter Try.func33, Try.ntmps33
    go_wp2_with (at_builtin; refine wpList_append_any _ rfl _ _ 31 rfl w.heap.size 69 i0 zeroRr 5 56 Try.underlying31 hi hz0 hz1 hz2 rfl (by decide) _ _ _ rfl hown _ _ _ _ _ rfl hx1 h1 ?c6 ?c7 ?c8 ?_)
    case c6 => unfold maxLen; omega
    case c7 => omega
    case c8 => simp
    intro v' w1 hown' hgrow _
    have hb1 : Below w.heap.size w w1 := ((Below.refl _ _).alloc (Nat.le_refl _) _).grown hgrow (by simp) (fun k hk => by simp [Value.ownBlock] at hk; omega)
    obtain ⟨A2, c2, rfl⟩ := own_slice hown'
    clear hgrow hown hx1
    go_wp2
    go_ret
    exact ⟨_, rfl, hown', hb1⟩
end Go.Proofs.Ytigjipjkollohaa
