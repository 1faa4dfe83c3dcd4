/-
  The contracts of package least.
-/
import Derived.Test.YtofffkhipmoojaaNameValid
import Derived.Test.YtofffkhipmoojaaLeast
import Derived.WalkSpells
import Derived.Deep.Light
namespace Go.Proofs.Ytofffkhipmoojaa
open Go.RowKit

/-- A slice of hints that lies below a block. -/
def Hints (w : World) (B : Nat) (A : Option Addr) (hs : List (List UInt8 × Int)) : Prop :=
  0 < hs.length → ∃ ad, A = some ad ∧ ad.block < B ∧ ∀ (k : Nat) (h : k < hs.length), w.cell? (ad.add (k * 2)) = some (strV hs[k].1) ∧ w.cell? (ad.add (k * 2 + 1)) = some (.int .i64 hs[k].2)

theorem add_next (ad : Addr) (k : Nat) : ad.add (k * 2 + 1) = ⟨(ad.add (k * 2)).block, (ad.add (k * 2)).off + 1, none⟩ := by
  rw [← add_of_add]; rfl
theorem Hints.at_ {w wr : World} {B : Nat} {A : Option Addr} {hs : List (List UInt8 × Int)} (h : Hints w B A hs) (hk : ∀ p : Addr, p.block < B → wr.cell? p = w.cell? p) {k : Nat} (hlt : k < hs.length) :
    ∃ ad, A = some ad ∧ wr.cell? (ad.add (k * 2)) = some (.string ⟨hs[k].1.toArray⟩) ∧ wr.cell? ⟨(ad.add (k * 2)).block, (ad.add (k * 2)).off + 1, none⟩ = some (.int .i64 hs[k].2) := by
  obtain ⟨ad, hA, hb, hc⟩ := h (by omega)
  obtain ⟨h1, h2⟩ := hc k hlt
  refine ⟨ad, hA, (hk _ (by rw [block_of_add]; exact hb)).trans h1, ?_⟩
  rw [← add_next]
  exact (hk _ (by rw [block_of_add]; exact hb)).trans h2
theorem take_all_succ {hs : List (List UInt8 × Int)} {q : Nat} (hq : q < hs.length) (h : (hs.take q).all hintB = true) (h1 : hintB hs[q] = true) : (hs.take (q + 1)).all hintB = true := by
  rw [List.take_succ_eq_append_getElem hq, List.all_append, h]
  simp [h1]
theorem all_bad {hs : List (List UInt8 × Int)} {q : Nat} (hq : q < hs.length) (h1 : hintB hs[q] = false) : hs.all hintB = false := by
  rw [List.all_eq_false]
  exact ⟨hs[q], List.getElem_mem hq, by simp [h1]⟩

set_option maxRecDepth 20000 in
set_option maxHeartbeats 400000 in
theorem within_any (n lo hi : Int) (w : World) :
    Calls Try.prog 17 #[.int .i64 n, .int .i64 lo, .int .i64 hi] w fun e w' => e = .returned (.bool (withinB n lo hi)) ∧ w = w' := by
  go_enter Try.func17, Try.ntmps17
  go_wp2
  all_goals (go_ret; exact ⟨ret_bool (by rw [Bool.eq_iff_iff]; simp_all [withinB]; try omega), rfl⟩)

set_option maxRecDepth 20000 in
set_option maxHeartbeats 400000 in
theorem check_any (A : Option Addr) (n c : Nat) (hs : List (List UInt8 × Int)) (a t g m d s j k : Int) (w : World) (hn : n = hs.length) (hn2 : n ≤ 140737488355328) (hH : Hints w w.heap.size A hs) (hsz : ∀ h ∈ hs, h.1.length ≤ maxLen) :
    Calls Try.prog 9 #[.agg #[.slice A n c, .int .i64 a, .int .i64 t, .int .i64 g, .int .i64 m, .int .i64 d, .int .i64 s, .int .i64 j, .int .i64 k]] w
      fun e w' => e = .returned (.int .i64 (errOf (checkB hs a t g m d s j k))) ∧ Below w.heap.size w w' := by
  have HN := Lib.hid hn
  clear hn
  have HH := Lib.hid hH
  clear hH
  have HS := Lib.hid hsz
  clear hsz
  go_enter Try.func9, Try.ntmps9
  go_wp2
  go_loopw [9] (fun i wr => ∃ q : Nat, q ≤ n ∧ i = .int .i64 q ∧ Below (w.heap.size + 1) (w.alloc (.cells #[.slice A n c, .int .i64 a, .int .i64 t, .int .i64 g, .int .i64 m, .int .i64 d, .int .i64 s, .int .i64 j, .int .i64 k] 24)) wr ∧ (hs.take q).all hintB = true) (fun i _ => n - (intOf i).toNat)
  case atStart => exact ⟨0, by omega, rfl, Below.refl _ _, by simp⟩
  case round =>
    obtain ⟨q, hq, rfl, hbel, hall⟩ := hrel
    have HA := Lib.hid hall
    clear hall
    have hsz := hbel.size
    have hbox : ∀ i, wr.cell? ⟨w.heap.size, i, none⟩ = (#[.slice A n c, .int .i64 a, .int .i64 t, .int .i64 g, .int .i64 m, .int .i64 d, .int .i64 s, .int .i64 j, .int .i64 k] : Array Value)[i]? := fun i => by
      rw [hbel.cell (p := ⟨w.heap.size, i, none⟩) (by simp)]
      exact cell_of_row _ _ i _ _ (0, 0) (heap_alloc_new w _)
    by_cases hlt : q < n
    · have HQ : Hid (q < hs.length) := by have := HN.out; show q < hs.length; omega
      have hx := Hints.at_ (wr := wr) HH.out (fun p hp => (hbel.cell (by omega)).trans (World.cell?_alloc_lt w _ p hp)) HQ.out
      obtain ⟨ad, rfl, hc1, hc2⟩ := hx
      have hss := HS.out _ (List.getElem_mem HQ.out)
      generalize hh : hs[q]'HQ.out = h at hc1 hc2 hss
      obtain ⟨hn1, hn2⟩ := h
      have HHH := Lib.hid hh
      clear hh
      cases hv : validB hn1
      · go_wp2_with (first | (go_at_call 16; refine (valid_l _ _ hss).mono ?_; rintro e w1 ⟨rfl, rfl⟩) | (go_at_call 17; refine (within_any _ _ _ _).mono ?_; rintro e w1 ⟨rfl, rfl⟩))
        go_ret
        have hbad : hintB (hs[q]'HQ.out) = false := by rw [HHH.out]; simp [hintB, hv]
        exact ⟨ret_int (by simp [checkB, all_bad HQ.out hbad, errOf]), (((Below.refl _ _).alloc (Nat.le_refl _) _).trans (hbel.mono (by simp))).alloc (by simp at hsz; omega) _⟩
      · cases hw : withinB hn2 0 4294967295
        · go_wp2_with (first | (go_at_call 16; refine (valid_l _ _ hss).mono ?_; rintro e w1 ⟨rfl, rfl⟩) | (go_at_call 17; refine (within_any _ _ _ _).mono ?_; rintro e w1 ⟨rfl, rfl⟩))
          go_ret
          have hbad : hintB (hs[q]'HQ.out) = false := by rw [HHH.out]; simp [hintB, hw]
          exact ⟨ret_int (by simp [checkB, all_bad HQ.out hbad, errOf]), (((Below.refl _ _).alloc (Nat.le_refl _) _).trans (hbel.mono (by simp))).alloc (by simp at hsz; omega) _⟩
        · have HR := Lib.hid (take_all_succ HQ.out HA.out (by rw [HHH.out]; simp [hintB, hw, hv]))
          go_wp2_with (first | (go_at_call 16; refine (valid_l _ _ hss).mono ?_; rintro e w1 ⟨rfl, rfl⟩) | (go_at_call 17; refine (within_any _ _ _ _).mono ?_; rintro e w1 ⟨rfl, rfl⟩))
          go_roundw
          case rel => exact ⟨q + 1, by omega, by go_num, hbel.alloc (by simp at hsz; omega) _, HR.out⟩
          case measure => simp [intOf]; omega
    · have HX : Hid (hs.all hintB = true) := by
        have h1 := HA.out
        have h2 := HN.out
        rw [List.take_of_length_le (by omega)] at h1
        exact h1
      go_wp2_with (first | (go_at_call 16; refine (valid_l _ _ hss).mono ?_; rintro e w1 ⟨rfl, rfl⟩) | (go_at_call 17; refine (within_any _ _ _ _).mono ?_; rintro e w1 ⟨rfl, rfl⟩))
      all_goals (go_ret; exact ⟨ret_int (by go_light; simp only [checkB, timesB, HX.out, ← HN.out]; simp_all [errOf]), ((Below.refl _ _).alloc (Nat.le_refl _) _).trans (hbel.mono (by simp))⟩)
end Go.Proofs.Ytofffkhipmoojaa
