/-
  The walk of LeastTells: whatever the config, it returns true, and nothing that was there has turned.
-/
import Derived.Test.YtofffkhipmoojaaLeastMore
import Derived.Test.YtofffkhipmoojaaLeastRef
import Derived.Deep.RegionHeld3
import Derived.Deep.DrawnRows
namespace Go.Proofs.Ytofffkhipmoojaa
open Go.RowKit

attribute [local go_sem ↓] Go.wp_at_zero Go.wp_at_succ

theorem boxes9 {W w2 : World} {v0 v1 v2 v3 v4 v5 v6 v7 v8 : Value} {t : TypeId} (hb : Below (W.heap.size + 1) (W.alloc (.cells #[v0, v1, v2, v3, v4, v5, v6, v7, v8] t)) w2) :
    w2.cell? ⟨W.heap.size, 0, none⟩ = some v0 ∧ w2.cell? ⟨W.heap.size, 1, none⟩ = some v1 ∧ w2.cell? ⟨W.heap.size, 2, none⟩ = some v2 ∧ w2.cell? ⟨W.heap.size, 3, none⟩ = some v3 ∧ w2.cell? ⟨W.heap.size, 4, none⟩ = some v4 ∧
      w2.cell? ⟨W.heap.size, 5, none⟩ = some v5 ∧ w2.cell? ⟨W.heap.size, 6, none⟩ = some v6 ∧ w2.cell? ⟨W.heap.size, 7, none⟩ = some v7 ∧ w2.cell? ⟨W.heap.size, 8, none⟩ = some v8 :=
  ⟨box_kept hb 0, box_kept hb 1, box_kept hb 2, box_kept hb 3, box_kept hb 4, box_kept hb 5, box_kept hb 6, box_kept hb 7, box_kept hb 8⟩

set_option maxRecDepth 20000 in
set_option maxHeartbeats 2000000 in
theorem tells_any (A : Option Addr) (n c : Nat) (hs : List (List UInt8 × Int)) (a t g m d s j k : Int) (w : World) (hn : n = hs.length) (hH : Hints w w.heap.size A hs) (hsz : ∀ h ∈ hs, h.1.length ≤ maxLen) :
    Calls Try.prog 3 #[.agg #[.slice A n c, .int .i64 a, .int .i64 t, .int .i64 g, .int .i64 m, .int .i64 d, .int .i64 s, .int .i64 j, .int .i64 k]] w
      fun e w' => e = .returned (.bool true) ∧ Below w.heap.size w w' := by
  have HN := Lib.hid hn
  have HH := Lib.hid hH
  have HS := Lib.hid hsz
  clear hn hH hsz
  have hbx : Below w.heap.size w (w.alloc (.cells #[.slice A n c, .int .i64 a, .int .i64 t, .int .i64 g, .int .i64 m, .int .i64 d, .int .i64 s, .int .i64 j, .int .i64 k] 24)) := (Below.refl _ _).alloc (Nat.le_refl _) _
  by_cases h30 : 30 < n
  · go_enter Try.func3, Try.ntmps3
    go_wp2_with fail
    refine (awake_any _).mono ?_
    rintro e v ⟨rfl, hv⟩
    go_wp2
    go_ret
    exact ⟨rfl, hbx.trans (hv.mono (by simp))⟩
  · have hn2 : n ≤ 140737488355328 := by omega
    go_enter Try.func3, Try.ntmps3
    go_wp2
    go_loop [3] (fun i => ∃ q : Nat, q ≤ n ∧ i = .int .i64 q) (fun i => n - (intOf i).toNat)
    case atStart => exact ⟨0, by omega, rfl⟩
    case round =>
      obtain ⟨q, hq, rfl⟩ := hrel
      by_cases hlt : q < n
      · have HQ : Hid (q < hs.length) := by have := HN.out; show q < hs.length; omega
        have hx := Hints.at_ (wr := w.alloc (.cells #[.slice A n c, .int .i64 a, .int .i64 t, .int .i64 g, .int .i64 m, .int .i64 d, .int .i64 s, .int .i64 j, .int .i64 k] 24)) HH.out (fun p hp => World.cell?_alloc_lt w _ p hp) HQ.out
        obtain ⟨ad, rfl, hc1, hc2⟩ := hx
        have hss := HS.out _ (List.getElem_mem HQ.out)
        generalize hh : hs[q]'HQ.out = h at hc1 hc2 hss
        obtain ⟨hn1, hn2⟩ := h
        have HHH := Lib.hid hh
        clear hh hc2
        unfold maxLen at hss
        by_cases h3 : 300 < hn1.length
        · go_wp2_with fail
          refine (awake_any _).mono ?_
          rintro e v ⟨rfl, hv⟩
          go_wp2
          go_ret
          exact ⟨rfl, hbx.trans (hv.mono (by simp))⟩
        · go_wp2
          go_round
          case rel => exact ⟨q + 1, by omega, by go_num⟩
          case measure => simp [intOf]; omega
      · go_wp2_with fail
        refine (checkConfig_any A n c hs a t g m d s j k _ HN.out hn2 (HH.out.alloc _) HS.out).mono ?_
        rintro e u1 ⟨rfl, hc1⟩
        have hB1 : Below (w.heap.size + 1) (w.alloc (.cells #[.slice A n c, .int .i64 a, .int .i64 t, .int .i64 g, .int .i64 m, .int .i64 d, .int .i64 s, .int .i64 j, .int .i64 k] 24)) u1 := by simpa using hc1
        have hbox1 := box_kept hB1
        have hH1 := (HH.out.alloc _).below hc1
        clear hc1
        have e1 : errOf true = 0 := rfl
        have e2 : errOf false = 1 := rfl
        cases hck : checkB hs a t g m d s j k
        · go_wp2_with fail
          refine (check_any A n c hs a t g m d s j k _ HN.out hn2 hH1 HS.out).mono ?_
          rintro e u2 ⟨rfl, hc2⟩
          have hB2 := below_more hB1 hc2
          have hbox2 := box_kept hB2
          have hH2 := hH1.below hc2
          clear hH1 hc2 hB1 hbox1
          go_wp2_with fail
          refine (sends_any A n c hs a t g m d s j k _ HN.out hn2 hH2 HS.out).mono ?_
          rintro e u3 ⟨rfl, hc3⟩
          have hB3 := below_more hB2 hc3
          have hbox3 := box_kept hB3
          have hH3 := hH2.below hc3
          clear hH2 hc3 hB2 hbox2
          go_wp2_with fail
          refine (wait_any A n c hs a t g m d s j k _ HN.out hn2 hH3 HS.out).mono ?_
          rintro e u4 ⟨rfl, hc4⟩
          have hB4 := below_more hB3 hc4
          have hbox4 := box_kept hB4
          have hH4 := hH3.below hc4
          clear hH3 hc4 hB3 hbox3
          go_wp2_with fail
          refine (awake_any _).mono ?_
          rintro e v ⟨rfl, hv⟩
          go_wp2
          go_ret
          have hz := below_box (Below.refl w.heap.size w) hB4
          exact ⟨rfl, hz.trans (hv.mono hz.size)⟩
        · have l0 : u1.cell? ⟨w.heap.size, 0, none⟩ = some (.slice A n c) := hbox1 0
          have l1 : u1.cell? ⟨w.heap.size, 1, none⟩ = some (.int .i64 a) := hbox1 1
          have l2 : u1.cell? ⟨w.heap.size, 2, none⟩ = some (.int .i64 t) := hbox1 2
          have l3 : u1.cell? ⟨w.heap.size, 3, none⟩ = some (.int .i64 g) := hbox1 3
          have l4 : u1.cell? ⟨w.heap.size, 4, none⟩ = some (.int .i64 m) := hbox1 4
          have l5 : u1.cell? ⟨w.heap.size, 5, none⟩ = some (.int .i64 d) := hbox1 5
          have l6 : u1.cell? ⟨w.heap.size, 6, none⟩ = some (.int .i64 s) := hbox1 6
          have l7 : u1.cell? ⟨w.heap.size, 7, none⟩ = some (.int .i64 j) := hbox1 7
          have l8 : u1.cell? ⟨w.heap.size, 8, none⟩ = some (.int .i64 k) := hbox1 8
          clear hbox1
          go_wp2_with fail
          go_region_held3 (fun w' => w'.cell? ⟨w.heap.size, 0, none⟩ = some (.slice A n c) ∧ w'.cell? ⟨w.heap.size, 1, none⟩ = some (.int .i64 a) ∧ w'.cell? ⟨w.heap.size, 2, none⟩ = some (.int .i64 t) ∧ w'.cell? ⟨w.heap.size, 3, none⟩ = some (.int .i64 g) ∧ w'.cell? ⟨w.heap.size, 4, none⟩ = some (.int .i64 m) ∧ w'.cell? ⟨w.heap.size, 5, none⟩ = some (.int .i64 d) ∧ w'.cell? ⟨w.heap.size, 6, none⟩ = some (.int .i64 s) ∧ w'.cell? ⟨w.heap.size, 7, none⟩ = some (.int .i64 j) ∧ w'.cell? ⟨w.heap.size, 8, none⟩ = some (.int .i64 k))
            (first | exact L5 | exact L4 | exact L3 | exact L2 | go_keep)
            (first | (go_at_call 9; refine (check_any A n c hs a t g m d s j k _ HN.out hn2 (by exact hH1) HS.out).mono ?_; rintro e u2 ⟨rfl, hc2⟩; have hd2 : Below u1.heap.size u1 u2 := (Below.refl _ _).drew.trans hc2; have hB2 := below_more hB1 hd2; have hH2 := hH1.below hd2; have L2 := boxes9 hB2) | (go_at_call 10; refine (sends_any A n c hs a t g m d s j k _ HN.out hn2 (by exact hH2) HS.out).mono ?_; rintro e u3 ⟨rfl, hc3⟩; have hd3 : Below u2.heap.size u2 u3 := hc3; have hB3 := below_more hB2 hd3; have hH3 := hH2.below hd3; have L3 := boxes9 hB3) | (go_at_call 11; refine (wait_any A n c hs a t g m d s j k _ HN.out hn2 (by exact hH3) HS.out).mono ?_; rintro e u4 ⟨rfl, hc4⟩; have hd4 : Below u3.heap.size u3 u4 := hc4; have hB4 := below_more hB3 hd4; have hH4 := hH3.below hd4; have L4 := boxes9 hB4) | (go_at_call 7; refine (awake_any _).mono ?_; rintro e v ⟨rfl, hv⟩; have hB5 := below_more hB4 hv; have L5 := boxes9 hB5))
          go_wp2
          go_ret
          exact ⟨rfl, below_box (Below.refl w.heap.size w) hB5⟩
end Go.Proofs.Ytofffkhipmoojaa
