/-
  The contract of the reference's CheckConfig: it asks what least.Check asks.
-/
import Derived.Test.YtofffkhipmoojaaLeastWalks
namespace Go.Proofs.Ytofffkhipmoojaa
open Go.RowKit

set_option maxRecDepth 20000 in
set_option maxHeartbeats 400000 in
theorem mayStore_any (n : Int) (w : World) :
    Calls Try.prog 15 #[.int .i64 n] w fun e w' => e = .returned (.bool (withinB n 2048 1048576)) ∧ w = w' := by
  go_enter Try.func15, Try.ntmps15
  go_wp2
  all_goals (go_ret; exact ⟨ret_bool (by rw [Bool.eq_iff_iff]; simp_all [withinB]; try omega), rfl⟩)

set_option maxRecDepth 20000 in
set_option maxHeartbeats 20000000 in
theorem checkConfig_any (A : Option Addr) (n c : Nat) (hs : List (List UInt8 × Int)) (a t g m d s j k : Int) (w : World) (hn : n = hs.length) (hn2 : n ≤ 140737488355328) (hH : Hints w w.heap.size A hs) (hsz : ∀ h ∈ hs, h.1.length ≤ maxLen) :
    Calls Try.prog 8 #[.agg #[.slice A n c, .int .i64 a, .int .i64 t, .int .i64 g, .int .i64 m, .int .i64 d, .int .i64 s, .int .i64 j, .int .i64 k]] w
      fun e w' => e = .returned (.bool (checkB hs a t g m d s j k)) ∧ Below w.heap.size w w' := by
  have HN := Lib.hid hn
  clear hn
  have HH := Lib.hid hH
  clear hH
  have HS := Lib.hid hsz
  clear hsz
  by_cases hr : 1 ≤ n ∧ n ≤ 16
  · obtain ⟨hr1, hr2⟩ := hr
    go_enter Try.func8, Try.ntmps8
    go_wp2
    go_loopw [3] (fun i wr => ∃ q : Nat, q ≤ n ∧ i = .int .i64 q ∧ Below (w.heap.size + 1) (w.alloc (.cells #[.slice A n c, .int .i64 a, .int .i64 t, .int .i64 g, .int .i64 m, .int .i64 d, .int .i64 s, .int .i64 j, .int .i64 k] 24)) wr ∧ (hs.take q).all hintB = true) (fun i _ => n - (intOf i).toNat)
    case atStart => exact ⟨0, by omega, rfl, Below.refl _ _, by simp⟩
    case round =>
      obtain ⟨q, hq, rfl, hbel, hall⟩ := hrel
      have HA := Lib.hid hall
      clear hall
      have hsz := hbel.size
      have hbox : ∀ i, wr.cell? ⟨w.heap.size, i, none⟩ = (#[.slice A n c, .int .i64 a, .int .i64 t, .int .i64 g, .int .i64 m, .int .i64 d, .int .i64 s, .int .i64 j, .int .i64 k] : Array Value)[i]? := fun i => by
        rw [hbel.cell (p := ⟨w.heap.size, i, none⟩) (by simp)]
        exact cell_of_row _ _ i _ _ (0, 0) (heap_alloc_new w _)
      have hend : Below w.heap.size w wr := ((Below.refl _ _).alloc (Nat.le_refl _) _).trans (hbel.mono (by simp))
      by_cases hlt : q < n
      · have HQ : Hid (q < hs.length) := by have := HN.out; show q < hs.length; omega
        have hx := Hints.at_ (wr := wr) HH.out (fun p hp => (hbel.cell (by omega)).trans (World.cell?_alloc_lt w _ p hp)) HQ.out
        obtain ⟨ad, rfl, hc1, hc2⟩ := hx
        have hss := HS.out _ (List.getElem_mem HQ.out)
        have hab : (ad.add (q * 2)).block < w.heap.size := by
          obtain ⟨ad', he, hb, _⟩ := HH.out (by have := HQ.out; omega)
          rw [block_of_add]; injection he with he; rw [he]; exact hb
        generalize hh : hs[q]'HQ.out = h at hc1 hc2 hss
        obtain ⟨hn1, hn2⟩ := h
        have HHH := Lib.hid hh
        clear hh
        go_wp2_with fail
        refine (refValid_l hn1 _ hss).mono ?_
        rintro e w1 ⟨rfl, hb1⟩
        have hbox1 : ∀ i, w1.cell? ⟨w.heap.size, i, none⟩ = (#[.slice (some ad) n c, .int .i64 a, .int .i64 t, .int .i64 g, .int .i64 m, .int .i64 d, .int .i64 s, .int .i64 j, .int .i64 k] : Array Value)[i]? := fun i =>
          (hb1.cell (p := ⟨w.heap.size, i, none⟩) (by simp at hsz; show w.heap.size < _; omega)).trans (hbox i)
        have hc3 : w1.cell? ⟨(ad.add (q * 2)).block, (ad.add (q * 2)).off + 1, none⟩ = some (.int .i64 hn2) := (hb1.cell (p := ⟨(ad.add (q * 2)).block, (ad.add (q * 2)).off + 1, none⟩) (by simp at hsz; show (ad.add (q * 2)).block < _; omega)).trans hc2
        have hend1 : Below w.heap.size w w1 := hend.trans (hb1.mono (by simp at hsz; omega))
        have hbel1 := hbel.trans (hb1.mono (by simp at hsz; omega))
        clear hc1 hc2 hbox hend hbel hb1
        have hfin : hintB (hs[q]'HQ.out) = false → checkB hs a t g m d s j k = false := fun h => by simp [checkB, all_bad HQ.out h]
        have HF := Lib.hid hfin
        clear hfin
        cases hv : validB hn1
        · go_wp2
          go_ret
          exact ⟨ret_bool (HF.out (by rw [HHH.out]; simp [hintB, hv])).symm, hend1⟩
        · by_cases h0 : hn2 < 0
          · go_wp2
            go_ret
            exact ⟨ret_bool (HF.out (by rw [HHH.out]; simp [hintB, withinB]; omega)).symm, hend1⟩
          · by_cases h1 : 4294967296 ≤ hn2
            · go_wp2
              go_ret
              exact ⟨ret_bool (HF.out (by rw [HHH.out]; simp [hintB, withinB]; omega)).symm, hend1⟩
            · have HR := Lib.hid (take_all_succ HQ.out HA.out (by rw [HHH.out]; simp [hintB, withinB, hv]; omega))
              go_wp2
              go_roundw
              case rel => exact ⟨q + 1, by omega, by go_num, hbel1, HR.out⟩
              case measure => simp [intOf]; omega
      · have HX : Hid (hs.all hintB = true) := by
          have h1 := HA.out
          have h2 := HN.out
          rw [List.take_of_length_le (by omega)] at h1
          exact h1
        clear HH HS hbel HA
        go_wp2_with (go_at_call 15; refine (mayStore_any _ _).mono ?_; rintro e w1 ⟨rfl, rfl⟩)
        all_goals (go_ret; exact ⟨ret_bool (by go_light; rw [Bool.eq_iff_iff]; simp only [checkB, timesB, HX.out, ← HN.out]; simp_all [withinB]; try omega), hend⟩)
  · have hf : checkB hs a t g m d s j k = false := by
      have h2 := HN.out
      have : withinB (hs.length : Int) 1 16 = false := by unfold withinB; simp; omega
      simp [checkB, this]
    have HF := Lib.hid hf
    clear hf
    by_cases h1 : 1 ≤ n
    all_goals
      go_enter Try.func8, Try.ntmps8
      go_wp2
      go_ret
      exact ⟨ret_bool HF.out.symm, (Below.refl _ _).alloc (Nat.le_refl _) _⟩
end Go.Proofs.Ytofffkhipmoojaa
