/-
  The contracts of least.Sends, least.Wait, the law's config, its awake.
-/
import Derived.Test.YtofffkhipmoojaaLeastWalks
namespace Go.Proofs.Ytofffkhipmoojaa
open Go.RowKit

theorem Hints.keep {w wr : World} {B B' : Nat} {A : Option Addr} {hs : List (List UInt8 × Int)} (h : Hints w B A hs) (hk : ∀ p : Addr, p.block < B → wr.cell? p = w.cell? p) (hB : B ≤ B') : Hints wr B' A hs := by
  intro hn
  obtain ⟨ad, hA, hb, hc⟩ := h hn
  refine ⟨ad, hA, by omega, fun k hk' => ?_⟩
  obtain ⟨h1, h2⟩ := hc k hk'
  exact ⟨(hk _ (by rw [block_of_add]; exact hb)).trans h1, (hk _ (by rw [block_of_add]; exact hb)).trans h2⟩
theorem Hints.alloc {w : World} {A : Option Addr} {hs : List (List UInt8 × Int)} (h : Hints w w.heap.size A hs) (o : Obj) : Hints (w.alloc o) (w.alloc o).heap.size A hs :=
  h.keep (fun p hp => World.cell?_alloc_lt w o p hp) (by simp)
theorem Hints.below {w wr : World} {A : Option Addr} {hs : List (List UInt8 × Int)} (h : Hints w w.heap.size A hs) (hb : Below w.heap.size w wr) : Hints wr wr.heap.size A hs :=
  h.keep (fun _ hp => hb.cell hp) hb.size
theorem Hints.nil (w : World) (B : Nat) (A : Option Addr) : Hints w B A [] := fun h => absurd h (by simp)

set_option maxRecDepth 20000 in
set_option maxHeartbeats 400000 in
theorem sends_any (A : Option Addr) (n c : Nat) (hs : List (List UInt8 × Int)) (a t g m d s j k : Int) (w : World) (hn : n = hs.length) (hn2 : n ≤ 140737488355328) (hH : Hints w w.heap.size A hs) (hsz : ∀ h ∈ hs, h.1.length ≤ maxLen) :
    Calls Try.prog 10 #[.agg #[.slice A n c, .int .i64 a, .int .i64 t, .int .i64 g, .int .i64 m, .int .i64 d, .int .i64 s, .int .i64 j, .int .i64 k]] w
      fun e w' => e = .returned (.int .i64 (if checkB hs a t g m d s j k then s else 0)) ∧ Below w.heap.size w w' := by
  have HN := Lib.hid hn
  have HH := Lib.hid hH
  have HS := Lib.hid hsz
  clear hn hH hsz
  have e1 : errOf true = 0 := rfl
  have e2 : errOf false = 1 := rfl
  cases hb : checkB hs a t g m d s j k
  all_goals
    go_enter Try.func10, Try.ntmps10
    go_wp2_with fail
    refine (check_any A n c hs a t g m d s j k _ HN.out hn2 (HH.out.alloc _) HS.out).mono ?_
    rintro e w1 ⟨rfl, hb1⟩
    have hc1 : w1.cell? ⟨w.heap.size, 6, none⟩ = some (.int .i64 s) := by
      rw [hb1.cell (p := ⟨w.heap.size, 6, none⟩) (by simp)]
      exact cell_of_row _ _ 6 _ _ (0, 0) (heap_alloc_new w _)
    go_wp2
    go_ret
    exact ⟨ret_int (by simp), ((Below.refl _ _).alloc (Nat.le_refl _) _).trans (hb1.mono (by simp))⟩

set_option maxRecDepth 20000 in
set_option maxHeartbeats 400000 in
theorem wait_any (A : Option Addr) (n c : Nat) (hs : List (List UInt8 × Int)) (a t g m d s j k : Int) (w : World) (hn : n = hs.length) (hn2 : n ≤ 140737488355328) (hH : Hints w w.heap.size A hs) (hsz : ∀ h ∈ hs, h.1.length ≤ maxLen) :
    Calls Try.prog 11 #[.agg #[.slice A n c, .int .i64 a, .int .i64 t, .int .i64 g, .int .i64 m, .int .i64 d, .int .i64 s, .int .i64 j, .int .i64 k]] w
      fun e w' => e = .returned (.int .i64 (if checkB hs a t g m d s j k then d else 0)) ∧ Below w.heap.size w w' := by
  have HN := Lib.hid hn
  have HH := Lib.hid hH
  have HS := Lib.hid hsz
  clear hn hH hsz
  have e1 : errOf true = 0 := rfl
  have e2 : errOf false = 1 := rfl
  cases hb : checkB hs a t g m d s j k
  all_goals
    go_enter Try.func11, Try.ntmps11
    go_wp2_with fail
    refine (check_any A n c hs a t g m d s j k _ HN.out hn2 (HH.out.alloc _) HS.out).mono ?_
    rintro e w1 ⟨rfl, hb1⟩
    have hc1 : w1.cell? ⟨w.heap.size, 5, none⟩ = some (.int .i64 d) := by
      rw [hb1.cell (p := ⟨w.heap.size, 5, none⟩) (by simp)]
      exact cell_of_row _ _ 5 _ _ (0, 0) (heap_alloc_new w _)
    go_wp2
    go_ret
    exact ⟨ret_int (by simp), ((Below.refl _ _).alloc (Nat.le_refl _) _).trans (hb1.mono (by simp))⟩

theorem cell_new (W : World) (cs : Array Value) (t : TypeId) (g i : Nat) (hg : g = W.heap.size) : (W.alloc (.cells cs t)).cell? ⟨g, i, none⟩ = cs[i]? := by
  subst hg
  exact cell_of_row _ _ i _ _ (0, 0) (heap_alloc_new W _)

theorem box_kept {W w2 : World} {cs : Array Value} {t : TypeId} (hb : Below (W.heap.size + 1) (W.alloc (.cells cs t)) w2) (i : Nat) : w2.cell? ⟨W.heap.size, i, none⟩ = cs[i]? := by
  rw [hb.cell (p := ⟨W.heap.size, i, none⟩) (by simp)]
  exact cell_new W cs t _ i rfl
theorem below_more {W u u' : World} {o : Obj} (hB : Below (W.heap.size + 1) (W.alloc o) u) (hc : Below u.heap.size u u') : Below (W.heap.size + 1) (W.alloc o) u' :=
  hB.trans (hc.mono (by have := hB.size; simp at this; omega))
theorem below_box {W w1 w2 : World} {o : Obj} (h : Below W.heap.size W w1) (hb : Below (w1.heap.size + 1) (w1.alloc o) w2) : Below W.heap.size W w2 :=
  (h.alloc h.size o).trans (hb.mono (by have := h.size; omega))

/-- The law's config, as it lies behind a call of 'one'. -/
def OnePost (w : World) (e : Ending) (w' : World) : Prop :=
  ∃ A, e = .returned (.agg #[.slice A 1 1, .int .i64 4096, .int .i64 100, .int .i64 100, .int .i64 3, .int .i64 20, .int .i64 8, .int .i64 4, .int .i64 6]) ∧ Hints w' w'.heap.size A [([0], 1)] ∧ Below w.heap.size w w'

set_option maxRecDepth 20000 in
set_option maxHeartbeats 400000 in
theorem one_any (w : World) : Calls Try.prog 12 #[] w (OnePost w) := by
  go_enter Try.func12, Try.ntmps12
  go_wp2
  refine bodyPost_ret (v := .agg #[.slice (some ⟨w.heap.size + 1, 0, none⟩) 1 1, .int .i64 4096, .int .i64 100, .int .i64 100, .int .i64 3, .int .i64 20, .int .i64 8, .int .i64 4, .int .i64 6]) (by simp [results, Try.results12, go_sem]) rfl ⟨_, rfl, ?_, ((Below.refl _ _).alloc (Nat.le_refl _) _).alloc (by simp) _⟩
  intro _
  refine ⟨_, rfl, by simp, fun k hk => ?_⟩
  obtain rfl : k = 0 := by simpa using hk
  exact ⟨cell_new _ _ _ _ 0 (by simp), cell_new _ _ _ _ 1 (by simp)⟩

theorem tmod_round (k n : Int) : (k.tmod n + n) % n = k % n := by
  rw [Int.tmod_def, show k - n * k.tdiv n + n = k + n * (1 - k.tdiv n) by rw [Int.mul_sub]; omega, Int.add_mul_emod_self_left]

set_option maxRecDepth 20000 in
set_option maxHeartbeats 400000 in
theorem round_any (k n : Int) (w : World) (h0 : 0 < n) (h1 : n ≤ 1000000) :
    Calls Try.prog 13 #[.int .i64 k, .int .i64 n] w fun e w' => e = .returned (.int .i64 (k % n)) ∧ w = w' := by
  have HT := Lib.hid (tmod_round k n)
  have h2 := Int.tmod_lt_of_pos k h0
  have h3 := Int.lt_tmod_of_pos k h0
  have hn0 : (n == 0) = false := by simp; omega
  go_enter Try.func13, Try.ntmps13
  go_wp2
  go_ret
  exact ⟨ret_int (by rw [← HT.out]), rfl⟩

theorem one_check : checkB [([0], 1)] 4096 100 100 3 20 8 4 6 = true := by decide
theorem none_check : checkB [] 0 0 0 0 0 0 0 0 = false := by decide
theorem one_size : ∀ h ∈ [(([0], 1) : List UInt8 × Int)], h.1.length ≤ maxLen := by
  intro h hh
  obtain rfl : h = ([0], 1) := by simpa using hh
  simp [maxLen]
theorem nil_size : ∀ h ∈ ([] : List (List UInt8 × Int)), h.1.length ≤ maxLen := by intro h hh; cases hh

/-- The checks at the two configs, in the walk's spelling. -/
theorem check_one (A : Option Addr) (w : World) (hH : Hints w w.heap.size A [([0], 1)]) :
    Calls Try.prog 9 #[.agg #[.slice A 1 1, .int .i64 4096, .int .i64 100, .int .i64 100, .int .i64 3, .int .i64 20, .int .i64 8, .int .i64 4, .int .i64 6]] w
      fun e w' => e = .returned (.int .i64 0) ∧ Below w.heap.size w w' :=
  (check_any A 1 1 [([0], 1)] 4096 100 100 3 20 8 4 6 w rfl (by omega) hH one_size).mono fun _ _ ⟨he, hb⟩ => ⟨by rw [he, one_check]; rfl, hb⟩
theorem check_lit (r : Int) (A : Option Addr) (a t g m d s j k : Int) (w : World) (hr : errOf (checkB [([0], 1)] a t g m d s j k) = r) (hH : Hints w w.heap.size A [([0], 1)]) :
    Calls Try.prog 9 #[.agg #[.slice A 1 1, .int .i64 a, .int .i64 t, .int .i64 g, .int .i64 m, .int .i64 d, .int .i64 s, .int .i64 j, .int .i64 k]] w
      fun e w' => e = .returned (.int .i64 r) ∧ Below w.heap.size w w' :=
  (check_any A 1 1 [([0], 1)] a t g m d s j k w rfl (by omega) hH one_size).mono fun _ _ ⟨he, hb⟩ => ⟨by rw [he, hr], hb⟩
theorem check_none (w : World) :
    Calls Try.prog 9 #[.agg #[.slice none 0 0, .int .i64 0, .int .i64 0, .int .i64 0, .int .i64 0, .int .i64 0, .int .i64 0, .int .i64 0, .int .i64 0]] w
      fun e w' => e = .returned (.int .i64 1) ∧ Below w.heap.size w w' :=
  (check_any none 0 0 [] 0 0 0 0 0 0 0 0 w rfl (by omega) (Hints.nil _ _ _) nil_size).mono fun _ _ ⟨he, hb⟩ => ⟨by rw [he, none_check]; rfl, hb⟩
theorem sends_one (A : Option Addr) (w : World) (hH : Hints w w.heap.size A [([0], 1)]) :
    Calls Try.prog 10 #[.agg #[.slice A 1 1, .int .i64 4096, .int .i64 100, .int .i64 100, .int .i64 3, .int .i64 20, .int .i64 8, .int .i64 4, .int .i64 6]] w
      fun e w' => e = .returned (.int .i64 8) ∧ Below w.heap.size w w' :=
  (sends_any A 1 1 [([0], 1)] 4096 100 100 3 20 8 4 6 w rfl (by omega) hH one_size).mono fun _ _ ⟨he, hb⟩ => ⟨by rw [he, one_check]; rfl, hb⟩
theorem wait_one (A : Option Addr) (w : World) (hH : Hints w w.heap.size A [([0], 1)]) :
    Calls Try.prog 11 #[.agg #[.slice A 1 1, .int .i64 4096, .int .i64 100, .int .i64 100, .int .i64 3, .int .i64 20, .int .i64 8, .int .i64 4, .int .i64 6]] w
      fun e w' => e = .returned (.int .i64 20) ∧ Below w.heap.size w w' :=
  (wait_any A 1 1 [([0], 1)] 4096 100 100 3 20 8 4 6 w rfl (by omega) hH one_size).mono fun _ _ ⟨he, hb⟩ => ⟨by rw [he, one_check]; rfl, hb⟩
theorem sends_none (w : World) :
    Calls Try.prog 10 #[.agg #[.slice none 0 0, .int .i64 0, .int .i64 0, .int .i64 0, .int .i64 0, .int .i64 0, .int .i64 0, .int .i64 0, .int .i64 0]] w
      fun e w' => e = .returned (.int .i64 0) ∧ Below w.heap.size w w' :=
  (sends_any none 0 0 [] 0 0 0 0 0 0 0 0 w rfl (by omega) (Hints.nil _ _ _) nil_size).mono fun _ _ ⟨he, hb⟩ => ⟨by rw [he, none_check]; rfl, hb⟩

set_option maxRecDepth 20000 in
set_option maxHeartbeats 400000 in
theorem awake_any (w : World) : Calls Try.prog 7 #[] w fun e w' => e = .returned (.bool true) ∧ Below w.heap.size w w' := by
  go_enter Try.func7, Try.ntmps7
  go_wp2_with fail
  refine (one_any _).mono ?_
  rintro e w1 ⟨A1, rfl, hH1, hb1⟩
  go_wp2_with fail
  refine (check_one A1 _ hH1).mono ?_
  rintro e w2 ⟨rfl, hb2⟩
  go_wp2_with fail
  refine (check_none _).mono ?_
  rintro e w3 ⟨rfl, hb3⟩
  go_wp2_with fail
  refine (one_any _).mono ?_
  rintro e w4 ⟨A4, rfl, hH4, hb4⟩
  go_wp2_with fail
  refine (sends_one A4 _ hH4).mono ?_
  rintro e w5 ⟨rfl, hb5⟩
  go_wp2_with fail
  refine (one_any _).mono ?_
  rintro e w6 ⟨A6, rfl, hH6, hb6⟩
  go_wp2_with fail
  refine (wait_one A6 _ hH6).mono ?_
  rintro e w7 ⟨rfl, hb7⟩
  go_wp2_with fail
  refine (sends_none _).mono ?_
  rintro e w8 ⟨rfl, hb8⟩
  go_wp2
  go_ret
  refine ⟨rfl, ?_⟩
  have h12 := hb1.trans (hb2.mono hb1.size)
  have h13 := h12.trans (hb3.mono h12.size)
  have h14 := h13.trans (hb4.mono h13.size)
  have h15 := h14.trans (hb5.mono h14.size)
  have h16 := h15.trans (hb6.mono h15.size)
  have h17 := h16.trans (hb7.mono h16.size)
  exact h17.trans (hb8.mono h17.size)
end Go.Proofs.Ytofffkhipmoojaa
