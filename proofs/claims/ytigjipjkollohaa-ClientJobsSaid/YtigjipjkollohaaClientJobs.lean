/-
  The walk of ClientJobs.
-/
import Derived.Test.YtigjipjkollohaaClientLate
namespace Go.Proofs.Ytigjipjkollohaa
open Go.RowKit

/-- The askers of numbers, each with its job. -/
def asksJ (c : Nat → Int) (is : List Nat) : List (Array Value) := is.map fun (i : Nat) => askA (i : Int) (c i) 0
theorem asksJ_filter (c : Nat → Int) (q : Array Value → Bool) (is : List Nat) : (asksJ c is).filter q = asksJ c (is.filter fun (i : Nat) => q (askA (i : Int) (c i) 0)) := by
  unfold asksJ; rw [List.filter_map]; rfl
theorem asksJ_snoc (c : Nat → Int) (k : Nat) : asksJ c (List.range k) ++ [askA (k : Int) (c k) 0] = asksJ c (List.range (k + 1)) := by
  unfold asksJ; rw [List.range_succ, List.map_append]; rfl
theorem asksJ_X (c : Nat → Int) (is : List Nat) : ∀ x ∈ asksJ c is, AskX x := by
  intro x hx
  obtain ⟨i, _, rfl⟩ := List.mem_map.1 hx
  exact askX _ _ _
theorem asksJ_num (c : Nat → Int) (is : List Nat) (hc : ∀ i, 0 ≤ c i ∧ c i < 1000) : ∀ x ∈ asksJ c is, Num x := by
  intro x hx
  obtain ⟨i, hm, rfl⟩ := List.mem_map.1 hx
  have h2 := hc i
  exact askNum (wf_small (by omega) (by omega)) rfl
theorem asksJ_length (c : Nat → Int) (is : List Nat) : (asksJ c is).length = is.length := by simp [asksJ]
theorem asksJ_at (c : Nat → Int) (is : List Nat) (k : Nat) (h : k < is.length) : (asksJ c is)[k]'(by rw [asksJ_length]; exact h) = askA (is[k] : Int) (c is[k]) 0 := by simp [asksJ]
def leftJ (c : Nat → Int) (h j : Nat) : List Nat := (List.range h).filter fun i => decide ((j : Int) ≤ c i)
def ofJ (c : Nat → Int) (h j : Nat) : List Nat := (List.range h).filter fun i => decide (c i = (j : Int))
theorem left_zero (c : Nat → Int) (h : Nat) (hc : ∀ i, 0 ≤ c i) : leftJ c h 0 = List.range h := List.filter_eq_self.2 (fun i _ => by simpa using hc i)
theorem left_five (c : Nat → Int) (h : Nat) (hc : ∀ i, c i < 4) : leftJ c h 5 = [] := List.filter_eq_nil_iff.2 (fun i _ => by have := hc i; simp; omega)
theorem left_of (c : Nat → Int) (h j : Nat) : (asksJ c (leftJ c h j)).filter (fun x => decide (jobOf x = (j : Int))) = asksJ c (ofJ c h j) := by
  rw [asksJ_filter]
  unfold leftJ ofJ
  rw [List.filter_filter]
  congr 1
  apply List.filter_congr
  intro i _
  rw [askJob, Bool.eq_iff_iff]
  simp
  omega
theorem left_next (c : Nat → Int) (h j : Nat) : (asksJ c (leftJ c h j)).filter (fun x => !decide (jobOf x = (j : Int))) = asksJ c (leftJ c h (j + 1)) := by
  rw [asksJ_filter]
  unfold leftJ
  rw [List.filter_filter]
  congr 1
  apply List.filter_congr
  intro i _
  rw [askJob, Bool.eq_iff_iff]
  simp
  omega
theorem next_of (c : Nat → Int) (h j : Nat) : (asksJ c (leftJ c h (j + 1))).filter (fun x => decide (jobOf x = (j : Int))) = [] := by
  rw [← left_next]; exact filter_twice (fun x => decide (jobOf x = (j : Int))) _
theorem next_next (c : Nat → Int) (h j : Nat) : (asksJ c (leftJ c h (j + 1))).filter (fun x => !decide (jobOf x = (j : Int))) = asksJ c (leftJ c h (j + 1)) := by
  have h1 := filter_both (fun x => decide (jobOf x = (j : Int))) (asksJ c (leftJ c h (j + 1)))
  rw [next_of] at h1
  exact List.filter_eq_self.2 (List.length_filter_eq_length_iff.1 (by simpa using h1))
theorem left_length (c : Nat → Int) (h j : Nat) : (ofJ c h j).length + (leftJ c h (j + 1)).length = (leftJ c h j).length := by
  have h1 := filter_both (fun x => decide (jobOf x = (j : Int))) (asksJ c (leftJ c h j))
  rw [left_of, left_next, asksJ_length, asksJ_length, asksJ_length] at h1
  exact h1
theorem left_le (c : Nat → Int) (h j : Nat) : (leftJ c h j).length ≤ h := by have := List.length_filter_le (fun i => decide ((j : Int) ≤ c i)) (List.range h); rw [List.length_range] at this; exact this
theorem of_snoc (c : Nat → Int) (k j : Nat) : ofJ c (k + 1) j = ofJ c k j ++ (if decide (c k = (j : Int)) then [k] else []) := filter_range _ _
theorem of_le (c : Nat → Int) (h j : Nat) : (ofJ c h j).length ≤ h := by have := List.length_filter_le (fun i => decide (c i = (j : Int))) (List.range h); rw [List.length_range] at this; exact this

theorem law_append {w0 w w5 : World} {g n : Nat} {most : Int} {v : Value} {l : List (Array Value)} {A : Option Addr} {c : Nat} {ys : List Value} {o : Obj} (hL : TLaw w0 g most v l w) (hownA : (w.alloc o).ownsRow w0.heap.size 3 1 (.slice A n c) n ys) (hgr : (w.alloc o).grownBy w5 (Value.slice A n c).ownBlock) :
    TLaw w0 g most v l w5 := by
  have hLA := hL.below ((Below.refl w.heap.size w).alloc (Nat.le_refl _) o)
  have hO : Only (fun i => (Value.slice A n c).ownBlock = some i) (w.alloc o) w5 := (Only.refl _ _).grown hgr (fun i hi => Or.inl hi)
  refine ⟨⟨hLA.1.1.only hO (fun hf => own_blk_ne hownA hLA.1.1 (by decide) hf), own_only hLA.1.2.1 hO (fun i hi hf => own_apart hownA hLA.1.2.1 (by decide) hf hi), hLA.1.2.2⟩, ?_, hLA.2.2⟩
  exact hLA.2.1.trans (hO.below hLA.size (fun i hi hf => by have := (hownA.lt i hf).1; omega))
set_option maxRecDepth 200000 in
set_option maxHeartbeats 4000000 in
theorem walkClientJobs (A : Option Addr) (n c0 : Nat) (xs : List Int) (most : Int) (w : World) (hl : n = xs.length) (_hc : n ≤ c0) (_hn : c0 ≤ maxLen) (hr : Reads w w.heap.size 1 A n (xs.map (Value.int .i64))) (_hw : ∀ x ∈ xs, (Lit.int .i64 x).wf = true)
    (_hm : (Lit.int .i64 most).wf = true) :
    Calls Try.prog 6 #[.slice A n c0, .int .i64 most] w fun e w' => e = .returned (.bool true) ∧ Below w.heap.size w w' := by
  subst hl
  clear _hc _hn _hw _hm
  obtain ⟨i0, hi, hz0, hz1, hz2⟩ := info_parts Try.infoInt
  by_cases hok : xs.length ≤ 30 ∧ 0 ≤ most ∧ most ≤ 30
  · obtain ⟨q1, q2, q3⟩ := hok
    obtain ⟨m, rfl⟩ := Int.eq_ofNat_of_zero_le q2
    have hm30 : m ≤ 30 := by omega
    obtain ⟨c, hcf⟩ : ∃ c, c = cf xs 4 := ⟨_, rfl⟩
    have hc4 : Hid (∀ i, 0 ≤ c i ∧ c i < 4) := by intro i; rw [hcf]; exact cf_small xs (by omega) i
    have hnum : Hid (∀ is, ∀ x ∈ asksJ c is, Num x) := fun is => asksJ_num c is (fun i => by have := hc4.out i; omega)
    have HCF := Lib.hid hcf
    clear hcf
    go_enter Try.func6, Try.ntmps6
    go_wp2_with fail
    refine (new_any (m : Int) _).mono ?_
    rintro e w1 ⟨g, rfl, hT1, hB1, hg⟩
    rw [if_neg (by omega)] at hT1
    have hL1 := tlaw_new hT1 hB1 hg
    clear hT1 hB1 hg
    go_wp2
    go_loopw [6] (fun iv wr => ∃ k : Nat, k ≤ xs.length ∧ iv = .int .i64 (k : Int) ∧ ∃ vt, TLaw w g (m : Int) vt (asksJ c (List.range (min k m))) wr) (fun iv _ => xs.length - (intOf iv).toNat)
    case atStart => exact ⟨0, by omega, rfl, _, by rw [Nat.zero_min]; exact hL1⟩
    case round =>
      obtain ⟨k, hk, rfl, vt, hL⟩ := hrel
      by_cases hlt : k < xs.length
      · obtain ⟨ad, rfl, hcx⟩ := nums_at hr hlt hL.2.1
        have bi0 : (0 : Int) ≤ (k : Int) := by omega
        have bi1 : (k : Int) < (xs.length : Int) := by omega
        have HCK := Lib.hid (show xs[k] % 4 = c k by rw [HCF.out]; exact cf_at xs 4 k hlt)
        go_wp2_with fail
        refine (roundL _ 4 _ (by omega) (by omega)).mono ?_
        rw [HCK.out]
        rintro e w2 ⟨rfl, rfl⟩
        by_cases hkm : k < m
        · go_wp2_with fail
          refine (add_ok w.heap.size g m _ _ (askA k (c k) 0) _ hL.1 (askX _ _ _) (by rw [asksJ_length, List.length_range]; omega) hL.size (by rw [asksJ_length, List.length_range]; omega)).mono ?_
          rintro e w3 ⟨v3, rfl, hT3, hs3⟩
          rw [Nat.min_eq_left (by omega), asksJ_snoc] at hT3
          have hL3 := hL.step hT3 hs3
          clear hT3 hs3 hL
          go_wp2
          go_roundw
          case rel => exact ⟨k + 1, by omega, by go_num, _, by rw [Nat.min_eq_left (by omega)]; exact hL3⟩
          case measure => simp [intOf]; omega
        · go_wp2_with fail
          refine (add_full w.heap.size g m _ _ (askA k (c k) 0) _ hL.1 (askX _ _ _) (by rw [asksJ_length, List.length_range]; omega) hL.size (by rw [asksJ_length, List.length_range]; omega)).mono ?_
          rintro e w3 ⟨rfl, hB3⟩
          have hL3 := hL.below hB3
          clear hL hB3
          go_wp2
          go_roundw
          case rel => exact ⟨k + 1, by omega, by go_num, _, by rw [show min (k + 1) m = min k m by omega]; exact hL3⟩
          case measure => simp [intOf]; omega
      · obtain rfl : k = xs.length := by omega
        by_cases hmn : xs.length ≤ m
        · rw [Nat.min_eq_left hmn] at hL
          have hLH : TLaw w g (m : Int) vt (asksJ c (leftJ c xs.length 0)) wr := by rw [left_zero c xs.length (fun i => (hc4.out i).1)]; exact hL
          clear hL
          go_wp2
          go_loopw [8] (fun jv wr => ∃ (j : Nat) (vt : Value), j ≤ 5 ∧ jv = .int .i64 (j : Int) ∧ TLaw w g (m : Int) vt (asksJ c (leftJ c xs.length j)) wr) (fun jv _ => 5 - (intOf jv).toNat)
          case atStart => exact ⟨0, _, by omega, rfl, hLH⟩
          case round =>
            clear hLH
            obtain ⟨j, vj, hj, rfl, hLj⟩ := hrel
            by_cases hj5 : j < 5
            · have hj5b : decide ((j : Int) < 5) = true := decide_eq_true (by omega)
              go_wp2
              go_loopw [9, 10] (fun v iv wr => ∃ i : Nat, i ≤ xs.length ∧ iv = .int .i64 (i : Int) ∧ TLaw w g (m : Int) vj (asksJ c (leftJ c xs.length j)) wr ∧ wr.ownsRow w.heap.size 3 1 v (ofJ c i j).length (numsV (ofJ c i j))) (fun _ iv _ => xs.length - (intOf iv).toNat)
              case atStart => exact ⟨0, by omega, rfl, hLj, World.ownsRow_nil _ w.heap.size 3 1⟩
              case round =>
                clear hLj
                obtain ⟨i, hi3, rfl, hL3, hown⟩ := hrel
                by_cases hilt : i < xs.length
                · obtain ⟨ad, rfl, hcx⟩ := nums_at hr (show i < xs.length by omega) hL3.2.1
                  have bi0 : (0 : Int) ≤ (i : Int) := by omega
                  have bi1 : (i : Int) < (xs.length : Int) := by omega
                  have HCK := Lib.hid (show xs[i] % 4 = c i by rw [HCF.out]; exact cf_at xs 4 i (by omega))
                  have HOS := Lib.hid (of_snoc c i j)
                  have hole := of_le c i j
                  obtain ⟨A5, c5, rfl⟩ := own_slice hown
                  go_wp2_with fail
                  refine (roundL _ 4 _ (by omega) (by omega)).mono ?_
                  rw [HCK.out]
                  rintro e w2 ⟨rfl, rfl⟩
                  by_cases hcj : c i = (j : Int)
                  · rw [decide_eq_true hcj] at HOS
                    have hrz := reads_new wr 3 (numsV [i]) #[.int .i64 (i : Int)] rfl
                    have hownA := own_stays' hown ((Below.refl wr.heap.size wr).alloc (Nat.le_refl _) (.cells #[.int .i64 (i : Int)] 3))
                    go_wp2_with (at_builtin; refine wpList_append_any _ rfl _ _ 53 rfl w.heap.size 3 i0 (.int .i64 0) 1 8 Try.underlying53 hi hz0 hz1 hz2 rfl (by decide) _ _ _ rfl hownA _ _ _ _ _ rfl hrz (numsV_one [i]) ?c6 ?c7 ?c8 ?_)
                    case c6 => unfold maxLen; show (ofJ c i j).length + 1 ≤ _; omega
                    case c7 => show ((ofJ c i j).length + 1) * 8 ≤ _; omega
                    case c8 => have := hL3.size; simp; omega
                    intro v' w5 hown5 hgr _
                    have hL5 := law_append hL3 hownA hgr
                    obtain ⟨A6, c6, rfl⟩ := own_slice hown5
                    clear hownA hgr hown hL3 hrz
                    go_wp2
                    go_roundw
                    case rel => exact ⟨i + 1, by omega, by go_num, hL5, by rw [HOS.out]; simpa [numsV] using hown5⟩
                    case measure => simp [intOf]; omega
                  · rw [decide_eq_false hcj] at HOS
                    go_wp2
                    go_roundw
                    case rel => exact ⟨i + 1, by omega, by go_num, hL3, by rw [HOS.out]; simpa using hown⟩
                    case measure => simp [intOf]; omega
                · obtain rfl : xs.length = i := by omega
                  have hol := of_le c xs.length j
                  have hll := left_le c xs.length j
                  have hll1 := left_le c xs.length (j + 1)
                  have hlen := left_length c xs.length j
                  obtain ⟨W, hW⟩ : ∃ W, ofJ c xs.length j = W := ⟨_, rfl⟩
                  have E1 := Lib.hid (left_of c xs.length j)
                  have E2 := Lib.hid (left_next c xs.length j)
                  have E3 := Lib.hid (next_of c xs.length j)
                  have E4 := Lib.hid (next_next c xs.length j)
                  have EL := Lib.hid (asksJ_length c (leftJ c xs.length j))
                  have EL1 := Lib.hid (asksJ_length c (leftJ c xs.length (j + 1)))
                  rw [hW] at hown E1 hlen hol
                  clear hW
                  obtain ⟨A5, c5, rfl⟩ := own_slice hown
                  go_wp2_with fail
                  refine (of_any w.heap.size g m (j : Int) vj _ _ hL3.1 (hnum.out _) (by rw [EL.out]; omega)).mono ?_
                  rintro e w2 ⟨va, rfl, ha2, hB2⟩
                  rw [E1.out, asksJ_length] at ha2
                  have hL2 := hL3.below hB2
                  have hW2 := own_stays' hown hB2
                  obtain ⟨Aa, ca, rfl⟩ := own_slice ha2
                  have HA2 := Lib.hid ha2
                  have HW2 := Lib.hid hW2
                  have HT3 := Lib.hid hL3.1
                  clear hown hB2 hL3 ha2 hW2
                  go_wp2_with fail
                  refine (tlen_any w.heap.size g m vj _ _ hL2.1).mono ?_
                  rw [EL.out]
                  rintro e w3 ⟨rfl, rfl⟩
                  have hnum2 : Hid (decide (0 < ((asksJ c (leftJ c xs.length j)).filter fun x => decide (jobOf x = (j : Int))).length) = decide (0 < W.length)) := by show _ = _; rw [E1.out, asksJ_length]
                  go_wp2_with fail
                  refine (has_any w.heap.size g m (j : Int) vj _ _ hL2.1 (hnum.out _) (by rw [EL.out]; omega)).mono ?_
                  rw [hnum2.out]
                  rintro e w4 ⟨rfl, hB4⟩
                  have hL4 := hL2.below hB4
                  have hlw : ((0 : Int) < (W.length : Int)) = (0 < W.length) := by rw [eq_iff_iff]; omega
                  go_wp2_with fail
                  refine (done_any w.heap.size g m (j : Int) vj _ _ hL4.1 (hnum.out _) (by rw [EL.out]; omega)).mono ?_
                  rintro e w5 ⟨vb, v5, rfl, hb5, hT5, hs5, hv5⟩
                  rw [E1.out, asksJ_length] at hb5
                  rw [E2.out] at hT5
                  have hL5 := hL4.step hT5 hs5
                  obtain ⟨Ab, cb, rfl⟩ := own_slice hb5
                  have HB5 := Lib.hid hb5
                  have HA5 : Hid (w5.ownsRow wr.heap.size 35 18 (.slice Aa W.length ca) W.length ((asksJ c W).flatMap Array.toList)) := told_stays HT3.out (own_stays HA2.out hB4) rfl hs5
                  have HW5 : Hid (w5.ownsRow w.heap.size 3 1 (.slice A5 W.length c5) W.length (numsV W)) := own_only (own_stays' HW2.out hB4) hs5.1 (fun j hj hf => by
                    rcases hf with hf | hf
                    · rw [hf] at hj; exact own_blk_ne (own_stays' HW2.out hB4) hL4.1.1 (by decide) hj
                    · exact own_apart (own_stays' HW2.out hB4) hL4.1.2.1 (by decide) hj hf)
                  have HT4 := Lib.hid hL4.1
                  have hsub : IntKind.i64.wrap (((leftJ c xs.length j).length : Int) - (W.length : Int)) = ((leftJ c xs.length (j + 1)).length : Int) := by rw [IntWalk.i64_in _ (by omega)]; omega
                  clear hT5 hs5 hb5 hL4 hL2 hB4
                  go_wp2_with fail
                  refine (tlen_any w.heap.size g m v5 _ _ hL5.1).mono ?_
                  rw [EL1.out]
                  rintro e w6 ⟨rfl, rfl⟩
                  go_wp2_with fail
                  refine (has_not w.heap.size g m (j : Int) v5 _ _ hL5.1 (hnum.out _) (by rw [EL1.out]; omega) E3.out).mono ?_
                  rintro e w7 ⟨rfl, hB7⟩
                  have hL7 := hL5.below hB7
                  go_wp2_with fail
                  refine (done_any w.heap.size g m (j : Int) v5 _ _ hL7.1 (hnum.out _) (by rw [EL1.out]; omega)).mono ?_
                  rintro e w8 ⟨vc, v8, rfl, hc8, hT8, hs8, hv8⟩
                  rw [E3.out] at hc8
                  rw [E4.out] at hT8
                  have hL8 := hL7.step hT8 hs8
                  obtain ⟨Ac, cc, rfl⟩ := own_slice hc8
                  have HA8 : Hid (w8.ownsRow wr.heap.size 35 18 (.slice Aa W.length ca) W.length ((asksJ c W).flatMap Array.toList)) := told_stays HT3.out (own_stays HA5.out hB7) hv5 hs8
                  have HB8 : Hid (w8.ownsRow w4.heap.size 35 18 (.slice Ab W.length cb) W.length ((asksJ c W).flatMap Array.toList)) := told_stays HT4.out (own_stays HB5.out hB7) hv5 hs8
                  have HW8 : Hid (w8.ownsRow w.heap.size 3 1 (.slice A5 W.length c5) W.length (numsV W)) := own_only (own_stays' HW5.out hB7) hs8.1 (fun j hj hf => by
                    rcases hf with hf | hf
                    · rw [hf] at hj; exact own_blk_ne (own_stays' HW5.out hB7) hL7.1.1 (by decide) hj
                    · exact own_apart (own_stays' HW5.out hB7) hL7.1.2.1 (by decide) hj hf)
                  have hn0 : ([] : List (Array Value)).length = 0 := rfl
                  clear hsub hT8 hs8 hc8 hL7 hL5 hB7
                  go_wp2
                  obtain ⟨wz, rfl⟩ : ∃ wz, wz = wr := ⟨wr, rfl⟩
                  go_loopw [14] (fun iv wi => ∃ i r : Nat, i ≤ W.length ∧ iv = .int .i64 (i : Int) ∧ wi = w8.drewN r) (fun iv _ => W.length - (intOf iv).toNat)
                  case atStart => exact ⟨0, 0, by omega, rfl, rfl⟩
                  case round =>
                    obtain ⟨i, r, hiW, rfl, hwr⟩ := hrel
                    have hB : Below w8.heap.size w8 wr := by rw [hwr]; exact below_drewN (Below.refl _ _) _
                    have HWR := Lib.hid hwr
                    clear hwr
                    by_cases hlt2 : i < W.length
                    · obtain ⟨ra, rfl, hca⟩ := told_cell (k := i) (j := 0) HA8.out (asksJ_length _ _).symm (asksJ_X _ _) (by rw [asksJ_length]; exact hlt2) (by omega) hB
                      obtain ⟨rb, rfl, hcb⟩ := told_cell (k := i) (j := 0) HB8.out (asksJ_length _ _).symm (asksJ_X _ _) (by rw [asksJ_length]; exact hlt2) (by omega) hB
                      obtain ⟨rw5, rfl, hcw⟩ := want_cell HW8.out rfl hlt2 hB
                      rw [asksJ_at _ _ _ hlt2] at hca hcb
                      replace hca : wr.cell? ⟨ra, i * 18, none⟩ = some (.int .i64 (W[i] : Int)) := hca
                      replace hcb : wr.cell? ⟨rb, i * 18, none⟩ = some (.int .i64 (W[i] : Int)) := hcb
                      obtain ⟨q, hq⟩ : ∃ q, W[i] = q := ⟨_, rfl⟩
                      rw [hq] at hca hcb hcw
                      clear hq
                      have bi0 : (0 : Int) ≤ (i : Int) := by omega
                      have bi1 : (i : Int) < (W.length : Int) := by omega
                      go_wp2_with fail
                      go_quiet (fail)
                      go_wp2
                      go_roundw
                      case rel => exact ⟨i + 1, r + nq, by omega, by go_num, by rw [HWR.out, World.drewN_drewN]⟩
                      case measure => simp [intOf]; omega
                    · have hL9 := hL8.below hB
                      clear hL8 hB
                      go_wp2
                      go_roundw
                      case rel => exact ⟨j + 1, v8, by omega, by go_num, hL9⟩
                      case measure => simp [intOf]; omega
            · obtain rfl : j = 5 := by omega
              rw [left_five c xs.length (fun i => (hc4.out i).2)] at hLj
              have hn0 : (asksJ c []).length = 0 := rfl
              go_wp2_with fail
              refine (tlen_any w.heap.size g m vj _ _ hLj.1).mono ?_
              rw [hn0]
              rintro e w2 ⟨rfl, rfl⟩
              by_cases hm0 : 0 < m
              · go_wp2_with fail
                refine (add_ok w.heap.size g m _ _ (askA 0 0 0) _ hLj.1 (askX _ _ _) (by simp [asksJ]) hLj.size (by simp [asksJ]; omega)).mono ?_
                rintro e w3 ⟨v3, rfl, hT3, hs3⟩
                have hL3 := hLj.step hT3 hs3
                go_wp2_with fail
                refine (awake_any _).mono ?_
                rintro e v ⟨rfl, hv⟩
                go_wp2
                go_ret
                exact ⟨rfl, hL3.2.1.trans (hv.mono hL3.size)⟩
              · obtain rfl : m = 0 := by omega
                go_wp2_with fail
                refine (add_full w.heap.size g _ _ _ (askA 0 0 0) _ hLj.1 (askX _ _ _) (by simp [asksJ]) hLj.size (by simp [asksJ])).mono ?_
                rintro e w3 ⟨rfl, hB3⟩
                have hL3 := hLj.below hB3
                go_wp2_with fail
                refine (awake_any _).mono ?_
                rintro e v ⟨rfl, hv⟩
                go_wp2
                go_ret
                exact ⟨rfl, hL3.2.1.trans (hv.mono hL3.size)⟩
        · rw [Nat.min_eq_right (by omega)] at hL
          have hLH : TLaw w g (m : Int) vt (asksJ c (leftJ c m 0)) wr := by rw [left_zero c m (fun i => (hc4.out i).1)]; exact hL
          clear hL
          go_wp2
          go_loopw [8] (fun jv wr => ∃ (j : Nat) (vt : Value), j ≤ 5 ∧ jv = .int .i64 (j : Int) ∧ TLaw w g (m : Int) vt (asksJ c (leftJ c m j)) wr) (fun jv _ => 5 - (intOf jv).toNat)
          case atStart => exact ⟨0, _, by omega, rfl, hLH⟩
          case round =>
            clear hLH
            obtain ⟨j, vj, hj, rfl, hLj⟩ := hrel
            by_cases hj5 : j < 5
            · have hj5b : decide ((j : Int) < 5) = true := decide_eq_true (by omega)
              go_wp2
              go_loopw [9, 10] (fun v iv wr => ∃ i : Nat, i ≤ m ∧ iv = .int .i64 (i : Int) ∧ TLaw w g (m : Int) vj (asksJ c (leftJ c m j)) wr ∧ wr.ownsRow w.heap.size 3 1 v (ofJ c i j).length (numsV (ofJ c i j))) (fun _ iv _ => m - (intOf iv).toNat)
              case atStart => exact ⟨0, by omega, rfl, hLj, World.ownsRow_nil _ w.heap.size 3 1⟩
              case round =>
                clear hLj
                obtain ⟨i, hi3, rfl, hL3, hown⟩ := hrel
                by_cases hilt : i < m
                · obtain ⟨ad, rfl, hcx⟩ := nums_at hr (show i < xs.length by omega) hL3.2.1
                  have bi0 : (0 : Int) ≤ (i : Int) := by omega
                  have bi1 : (i : Int) < (xs.length : Int) := by omega
                  have HCK := Lib.hid (show xs[i] % 4 = c i by rw [HCF.out]; exact cf_at xs 4 i (by omega))
                  have HOS := Lib.hid (of_snoc c i j)
                  have hole := of_le c i j
                  obtain ⟨A5, c5, rfl⟩ := own_slice hown
                  go_wp2_with fail
                  refine (roundL _ 4 _ (by omega) (by omega)).mono ?_
                  rw [HCK.out]
                  rintro e w2 ⟨rfl, rfl⟩
                  by_cases hcj : c i = (j : Int)
                  · rw [decide_eq_true hcj] at HOS
                    have hrz := reads_new wr 3 (numsV [i]) #[.int .i64 (i : Int)] rfl
                    have hownA := own_stays' hown ((Below.refl wr.heap.size wr).alloc (Nat.le_refl _) (.cells #[.int .i64 (i : Int)] 3))
                    go_wp2_with (at_builtin; refine wpList_append_any _ rfl _ _ 53 rfl w.heap.size 3 i0 (.int .i64 0) 1 8 Try.underlying53 hi hz0 hz1 hz2 rfl (by decide) _ _ _ rfl hownA _ _ _ _ _ rfl hrz (numsV_one [i]) ?c6 ?c7 ?c8 ?_)
                    case c6 => unfold maxLen; show (ofJ c i j).length + 1 ≤ _; omega
                    case c7 => show ((ofJ c i j).length + 1) * 8 ≤ _; omega
                    case c8 => have := hL3.size; simp; omega
                    intro v' w5 hown5 hgr _
                    have hL5 := law_append hL3 hownA hgr
                    obtain ⟨A6, c6, rfl⟩ := own_slice hown5
                    clear hownA hgr hown hL3 hrz
                    go_wp2
                    go_roundw
                    case rel => exact ⟨i + 1, by omega, by go_num, hL5, by rw [HOS.out]; simpa [numsV] using hown5⟩
                    case measure => simp [intOf]; omega
                  · rw [decide_eq_false hcj] at HOS
                    go_wp2
                    go_roundw
                    case rel => exact ⟨i + 1, by omega, by go_num, hL3, by rw [HOS.out]; simpa using hown⟩
                    case measure => simp [intOf]; omega
                · obtain rfl : m = i := by omega
                  have hol := of_le c m j
                  have hll := left_le c m j
                  have hll1 := left_le c m (j + 1)
                  have hlen := left_length c m j
                  obtain ⟨W, hW⟩ : ∃ W, ofJ c m j = W := ⟨_, rfl⟩
                  have E1 := Lib.hid (left_of c m j)
                  have E2 := Lib.hid (left_next c m j)
                  have E3 := Lib.hid (next_of c m j)
                  have E4 := Lib.hid (next_next c m j)
                  have EL := Lib.hid (asksJ_length c (leftJ c m j))
                  have EL1 := Lib.hid (asksJ_length c (leftJ c m (j + 1)))
                  rw [hW] at hown E1 hlen hol
                  clear hW
                  obtain ⟨A5, c5, rfl⟩ := own_slice hown
                  go_wp2_with fail
                  refine (of_any w.heap.size g m (j : Int) vj _ _ hL3.1 (hnum.out _) (by rw [EL.out]; omega)).mono ?_
                  rintro e w2 ⟨va, rfl, ha2, hB2⟩
                  rw [E1.out, asksJ_length] at ha2
                  have hL2 := hL3.below hB2
                  have hW2 := own_stays' hown hB2
                  obtain ⟨Aa, ca, rfl⟩ := own_slice ha2
                  have HA2 := Lib.hid ha2
                  have HW2 := Lib.hid hW2
                  have HT3 := Lib.hid hL3.1
                  clear hown hB2 hL3 ha2 hW2
                  go_wp2_with fail
                  refine (tlen_any w.heap.size g m vj _ _ hL2.1).mono ?_
                  rw [EL.out]
                  rintro e w3 ⟨rfl, rfl⟩
                  have hnum2 : Hid (decide (0 < ((asksJ c (leftJ c m j)).filter fun x => decide (jobOf x = (j : Int))).length) = decide (0 < W.length)) := by show _ = _; rw [E1.out, asksJ_length]
                  go_wp2_with fail
                  refine (has_any w.heap.size g m (j : Int) vj _ _ hL2.1 (hnum.out _) (by rw [EL.out]; omega)).mono ?_
                  rw [hnum2.out]
                  rintro e w4 ⟨rfl, hB4⟩
                  have hL4 := hL2.below hB4
                  have hlw : ((0 : Int) < (W.length : Int)) = (0 < W.length) := by rw [eq_iff_iff]; omega
                  go_wp2_with fail
                  refine (done_any w.heap.size g m (j : Int) vj _ _ hL4.1 (hnum.out _) (by rw [EL.out]; omega)).mono ?_
                  rintro e w5 ⟨vb, v5, rfl, hb5, hT5, hs5, hv5⟩
                  rw [E1.out, asksJ_length] at hb5
                  rw [E2.out] at hT5
                  have hL5 := hL4.step hT5 hs5
                  obtain ⟨Ab, cb, rfl⟩ := own_slice hb5
                  have HB5 := Lib.hid hb5
                  have HA5 : Hid (w5.ownsRow wr.heap.size 35 18 (.slice Aa W.length ca) W.length ((asksJ c W).flatMap Array.toList)) := told_stays HT3.out (own_stays HA2.out hB4) rfl hs5
                  have HW5 : Hid (w5.ownsRow w.heap.size 3 1 (.slice A5 W.length c5) W.length (numsV W)) := own_only (own_stays' HW2.out hB4) hs5.1 (fun j hj hf => by
                    rcases hf with hf | hf
                    · rw [hf] at hj; exact own_blk_ne (own_stays' HW2.out hB4) hL4.1.1 (by decide) hj
                    · exact own_apart (own_stays' HW2.out hB4) hL4.1.2.1 (by decide) hj hf)
                  have HT4 := Lib.hid hL4.1
                  have hsub : IntKind.i64.wrap (((leftJ c m j).length : Int) - (W.length : Int)) = ((leftJ c m (j + 1)).length : Int) := by rw [IntWalk.i64_in _ (by omega)]; omega
                  clear hT5 hs5 hb5 hL4 hL2 hB4
                  go_wp2_with fail
                  refine (tlen_any w.heap.size g m v5 _ _ hL5.1).mono ?_
                  rw [EL1.out]
                  rintro e w6 ⟨rfl, rfl⟩
                  go_wp2_with fail
                  refine (has_not w.heap.size g m (j : Int) v5 _ _ hL5.1 (hnum.out _) (by rw [EL1.out]; omega) E3.out).mono ?_
                  rintro e w7 ⟨rfl, hB7⟩
                  have hL7 := hL5.below hB7
                  go_wp2_with fail
                  refine (done_any w.heap.size g m (j : Int) v5 _ _ hL7.1 (hnum.out _) (by rw [EL1.out]; omega)).mono ?_
                  rintro e w8 ⟨vc, v8, rfl, hc8, hT8, hs8, hv8⟩
                  rw [E3.out] at hc8
                  rw [E4.out] at hT8
                  have hL8 := hL7.step hT8 hs8
                  obtain ⟨Ac, cc, rfl⟩ := own_slice hc8
                  have HA8 : Hid (w8.ownsRow wr.heap.size 35 18 (.slice Aa W.length ca) W.length ((asksJ c W).flatMap Array.toList)) := told_stays HT3.out (own_stays HA5.out hB7) hv5 hs8
                  have HB8 : Hid (w8.ownsRow w4.heap.size 35 18 (.slice Ab W.length cb) W.length ((asksJ c W).flatMap Array.toList)) := told_stays HT4.out (own_stays HB5.out hB7) hv5 hs8
                  have HW8 : Hid (w8.ownsRow w.heap.size 3 1 (.slice A5 W.length c5) W.length (numsV W)) := own_only (own_stays' HW5.out hB7) hs8.1 (fun j hj hf => by
                    rcases hf with hf | hf
                    · rw [hf] at hj; exact own_blk_ne (own_stays' HW5.out hB7) hL7.1.1 (by decide) hj
                    · exact own_apart (own_stays' HW5.out hB7) hL7.1.2.1 (by decide) hj hf)
                  have hn0 : ([] : List (Array Value)).length = 0 := rfl
                  clear hsub hT8 hs8 hc8 hL7 hL5 hB7
                  go_wp2
                  obtain ⟨wz, rfl⟩ : ∃ wz, wz = wr := ⟨wr, rfl⟩
                  go_loopw [14] (fun iv wi => ∃ i r : Nat, i ≤ W.length ∧ iv = .int .i64 (i : Int) ∧ wi = w8.drewN r) (fun iv _ => W.length - (intOf iv).toNat)
                  case atStart => exact ⟨0, 0, by omega, rfl, rfl⟩
                  case round =>
                    obtain ⟨i, r, hiW, rfl, hwr⟩ := hrel
                    have hB : Below w8.heap.size w8 wr := by rw [hwr]; exact below_drewN (Below.refl _ _) _
                    have HWR := Lib.hid hwr
                    clear hwr
                    by_cases hlt2 : i < W.length
                    · obtain ⟨ra, rfl, hca⟩ := told_cell (k := i) (j := 0) HA8.out (asksJ_length _ _).symm (asksJ_X _ _) (by rw [asksJ_length]; exact hlt2) (by omega) hB
                      obtain ⟨rb, rfl, hcb⟩ := told_cell (k := i) (j := 0) HB8.out (asksJ_length _ _).symm (asksJ_X _ _) (by rw [asksJ_length]; exact hlt2) (by omega) hB
                      obtain ⟨rw5, rfl, hcw⟩ := want_cell HW8.out rfl hlt2 hB
                      rw [asksJ_at _ _ _ hlt2] at hca hcb
                      replace hca : wr.cell? ⟨ra, i * 18, none⟩ = some (.int .i64 (W[i] : Int)) := hca
                      replace hcb : wr.cell? ⟨rb, i * 18, none⟩ = some (.int .i64 (W[i] : Int)) := hcb
                      obtain ⟨q, hq⟩ : ∃ q, W[i] = q := ⟨_, rfl⟩
                      rw [hq] at hca hcb hcw
                      clear hq
                      have bi0 : (0 : Int) ≤ (i : Int) := by omega
                      have bi1 : (i : Int) < (W.length : Int) := by omega
                      go_wp2_with fail
                      go_quiet (fail)
                      go_wp2
                      go_roundw
                      case rel => exact ⟨i + 1, r + nq, by omega, by go_num, by rw [HWR.out, World.drewN_drewN]⟩
                      case measure => simp [intOf]; omega
                    · have hL9 := hL8.below hB
                      clear hL8 hB
                      go_wp2
                      go_roundw
                      case rel => exact ⟨j + 1, v8, by omega, by go_num, hL9⟩
                      case measure => simp [intOf]; omega
            · obtain rfl : j = 5 := by omega
              rw [left_five c m (fun i => (hc4.out i).2)] at hLj
              have hn0 : (asksJ c []).length = 0 := rfl
              go_wp2_with fail
              refine (tlen_any w.heap.size g m vj _ _ hLj.1).mono ?_
              rw [hn0]
              rintro e w2 ⟨rfl, rfl⟩
              by_cases hm0 : 0 < m
              · go_wp2_with fail
                refine (add_ok w.heap.size g m _ _ (askA 0 0 0) _ hLj.1 (askX _ _ _) (by simp [asksJ]) hLj.size (by simp [asksJ]; omega)).mono ?_
                rintro e w3 ⟨v3, rfl, hT3, hs3⟩
                have hL3 := hLj.step hT3 hs3
                go_wp2_with fail
                refine (awake_any _).mono ?_
                rintro e v ⟨rfl, hv⟩
                go_wp2
                go_ret
                exact ⟨rfl, hL3.2.1.trans (hv.mono hL3.size)⟩
              · obtain rfl : m = 0 := by omega
                go_wp2_with fail
                refine (add_full w.heap.size g _ _ _ (askA 0 0 0) _ hLj.1 (askX _ _ _) (by simp [asksJ]) hLj.size (by simp [asksJ])).mono ?_
                rintro e w3 ⟨rfl, hB3⟩
                have hL3 := hLj.below hB3
                go_wp2_with fail
                refine (awake_any _).mono ?_
                rintro e v ⟨rfl, hv⟩
                go_wp2
                go_ret
                exact ⟨rfl, hL3.2.1.trans (hv.mono hL3.size)⟩
  · clear hr hi hz0 hz1 hz2
    by_cases e1 : 30 < xs.length
    · clear hok
      go_enter Try.func6, Try.ntmps6
      go_wp2_with fail
      refine (awake_any _).mono ?_
      rintro e v ⟨rfl, hv⟩
      go_wp2
      go_ret
      exact ⟨rfl, hv⟩
    · by_cases e2 : most < 0
      · clear hok
        go_enter Try.func6, Try.ntmps6
        go_wp2_with fail
        refine (awake_any _).mono ?_
        rintro e v ⟨rfl, hv⟩
        go_wp2
        go_ret
        exact ⟨rfl, hv⟩
      · have e3 : 30 < most := by omega
        clear hok
        go_enter Try.func6, Try.ntmps6
        go_wp2_with fail
        refine (awake_any _).mono ?_
        rintro e v ⟨rfl, hv⟩
        go_wp2
        go_ret
        exact ⟨rfl, hv⟩
end Go.Proofs.Ytigjipjkollohaa
