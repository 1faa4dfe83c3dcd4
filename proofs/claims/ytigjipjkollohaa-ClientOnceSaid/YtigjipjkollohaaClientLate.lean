/-
  The walk of ClientLate.
-/
import Derived.Test.YtigjipjkollohaaClientAwake
namespace Go.Proofs.Ytigjipjkollohaa
open Go.RowKit

theorem own_apart {w : World} {base base' e e' size size' n n' : Nat} {v v' : Value} {xs xs' : List Value} (h : w.ownsRow base e size v n xs) (h' : w.ownsRow base' e' size' v' n' xs') (hne : e ≠ e') {i : Nat} (hi : v.ownBlock = some i) : v'.ownBlock ≠ some i := by
  intro hi'
  rcases h.2 with ⟨rfl, _⟩ | ⟨g, cap, cur, rfl, _, hh, _⟩
  · cases hi
  · rcases h'.2 with ⟨rfl, _⟩ | ⟨g', cap', cur', rfl, _, hh', _⟩
    · cases hi'
    · injection hi with hi
      injection hi' with hi'
      have e1 : g = i := hi
      have e2 : g' = i := hi'
      subst e1 e2
      rw [hh] at hh'
      injection hh' with hh'
      injection hh' with _ hh'
      exact hne hh'
theorem ret_int {a b : Int} (h : a = b) : Ending.returned (.int .i64 a) = .returned (.int .i64 b) := by rw [h]
theorem tmod_roundL (k n : Int) : (k.tmod n + n) % n = k % n := by
  rw [Int.tmod_def, show k - n * k.tdiv n + n = k + n * (1 - k.tdiv n) by rw [Int.mul_sub]; omega, Int.add_mul_emod_self_left]
set_option maxRecDepth 20000 in
set_option maxHeartbeats 400000 in
theorem roundL (k n : Int) (w : World) (h0 : 0 < n) (h1 : n ≤ 1000000) :
    Calls Try.prog 21 #[.int .i64 k, .int .i64 n] w fun e w' => e = .returned (.int .i64 (k % n)) ∧ w = w' := by
  have HT := Lib.hid (tmod_roundL k n)
  have h2 := Int.tmod_lt_of_pos k h0
  have h3 := Int.lt_tmod_of_pos k h0
  have hn0 : (n == 0) = false := by simp; omega
  go_enter Try.func21, Try.ntmps21
  go_wp2
  go_ret
  exact ⟨ret_int (by rw [← HT.out]), rfl⟩
theorem nums_at {W w : World} {A : Option Addr} {n k : Nat} {xs : List Int} (hr : Reads W W.heap.size 1 A n (xs.map (Value.int .i64))) (hk : k < xs.length) (hb : Below W.heap.size W w) :
    ∃ ad, A = some ad ∧ w.cell? (ad.add k) = some (.int .i64 xs[k]) := by
  have hn := hr.1
  rw [List.length_map] at hn
  obtain ⟨ad, u, rfl, had, hx, hc⟩ := (hr.below hb).at_ (show k < n by omega)
  rw [List.getElem?_map, List.getElem?_eq_getElem hk] at hx
  injection hx with hx
  subst hx
  exact ⟨ad, rfl, hc⟩
theorem Try.infoInt : (Try.prog.info? 3).map (fun i => (i.zero, i.size, i.bytes)) = some (some (.int .i64 0), 1, 8) := by kernel_rfl
/-- What Round makes of a list's number. -/
def cf (xs : List Int) (m : Int) (i : Nat) : Int := xs.getD i 0 % m
theorem cf_at (xs : List Int) (m : Int) (i : Nat) (h : i < xs.length) : xs[i] % m = cf xs m i := by unfold cf; rw [List.getD_eq_getElem?_getD, List.getElem?_eq_getElem h]; rfl
theorem cf_small (xs : List Int) {m : Int} (h0 : 0 < m) (i : Nat) : 0 ≤ cf xs m i ∧ cf xs m i < m := ⟨Int.emod_nonneg _ (by omega), Int.emod_lt_of_pos _ h0⟩
/-- Numbers, as the row holds them. -/
def numsV (is : List Nat) : List Value := is.map fun (i : Nat) => .int .i64 (i : Int)
theorem numsV_one (is : List Nat) : ∀ u ∈ numsV is, u.oneCell' = true := by
  intro u hu
  obtain ⟨x, _, rfl⟩ := List.mem_map.1 hu
  rfl
theorem filter_range (p : Nat → Bool) (k : Nat) : (List.range (k + 1)).filter p = (List.range k).filter p ++ (if p k then [k] else []) := by
  rw [List.range_succ, List.filter_append]
  simp [List.filter_cons]
theorem want_cell {w w' : World} {B n c k : Nat} {A : Option Addr} {is : List Nat} (ho : w.ownsRow B 3 1 (.slice A n c) n (numsV is)) (hn : n = is.length) (hk : k < is.length) (hb : Below w.heap.size w w') :
    ∃ rb, A = some ⟨rb, 0, none⟩ ∧ w'.cell? ⟨rb, k, none⟩ = some (.int .i64 (is[k] : Int)) := by
  subst hn
  obtain ⟨rb, cap, hA, _, hlt⟩ := ho.form (by omega)
  injection hA with hA _ _
  subst hA
  refine ⟨rb, rfl, ?_⟩
  rw [hb.cell hlt, ho.cellAt k (by omega)]
  unfold numsV
  rw [List.getElem?_map, List.getElem?_eq_getElem hk]
  rfl
/-- The askers of numbers: each its own job. -/
def asksL (c : Nat → Int) (is : List Nat) : List (Array Value) := is.map fun (i : Nat) => askA (i : Int) (i : Int) (c i)
theorem asksL_filter (c : Nat → Int) (q : Array Value → Bool) (is : List Nat) : (asksL c is).filter q = asksL c (is.filter fun (i : Nat) => q (askA (i : Int) (i : Int) (c i))) := by
  unfold asksL; rw [List.filter_map]; rfl
theorem asksL_snoc (c : Nat → Int) (k : Nat) : asksL c (List.range k) ++ [askA k k (c k)] = asksL c (List.range (k + 1)) := by
  unfold asksL; rw [List.range_succ, List.map_append]; rfl
theorem asksL_X (c : Nat → Int) (is : List Nat) : ∀ x ∈ asksL c is, AskX x := by
  intro x hx
  obtain ⟨i, _, rfl⟩ := List.mem_map.1 hx
  exact askX _ _ _
theorem asksL_num (c : Nat → Int) (is : List Nat) (hi : ∀ i ∈ is, i < 1000) (hc : ∀ i, 0 ≤ c i ∧ c i < 1000) : ∀ x ∈ asksL c is, Num x := by
  intro x hx
  obtain ⟨i, hm, rfl⟩ := List.mem_map.1 hx
  have h1 := hi i hm
  have h2 := hc i
  exact askNum (wf_small (by omega) (by omega)) (wf_small (by omega) (by omega))
theorem asksL_length (c : Nat → Int) (is : List Nat) : (asksL c is).length = is.length := by simp [asksL]
theorem asksL_at (c : Nat → Int) (is : List Nat) (k : Nat) (h : k < is.length) : (asksL c is)[k]'(by rw [asksL_length]; exact h) = askA is[k] is[k] (c is[k]) := by simp [asksL]
theorem own_stays' {w w' : World} {B n : Nat} {e : TypeId} {vo : Value} {xs : List Value} (ho : w.ownsRow B e 1 vo n xs) (hb : Below w.heap.size w w') : w'.ownsRow B e 1 vo n xs := own_only ho (Only.of_below hb (fun _ => False)) (fun _ _ hf => hf)
theorem reads_new (w : World) (e : TypeId) (l : List Value) (cs : Array Value) (h : cs.toList = l) : Reads (w.alloc (.cells cs e)) (w.alloc (.cells cs e)).heap.size 1 (some ⟨w.heap.size, 0, none⟩) l.length l := by
  subst h
  refine ⟨by simp, fun _ => ⟨_, rfl, by simp, fun j u hu => ?_⟩⟩
  have : (⟨w.heap.size, 0, none⟩ : Addr).add j = ⟨w.heap.size, j, none⟩ := by unfold Addr.add; split <;> simp_all
  rw [this, cell_of_row _ _ j _ _ (0, 0) (heap_alloc_new w _)]
  simpa using hu
theorem filter_both {α : Type} (p : α → Bool) : ∀ l : List α, (l.filter p).length + (l.filter fun x => !p x).length = l.length
  | [] => rfl
  | x :: r => by
    have h := filter_both p r
    cases hx : p x <;> simp [hx] <;> omega
theorem filter_twice {α : Type} (p : α → Bool) (l : List α) : (l.filter fun x => !p x).filter p = [] := by
  rw [List.filter_filter, List.filter_eq_nil_iff]
  intro x _
  cases p x <;> simp
theorem has_not (B g : Nat) (most job : Int) (v : Value) (l : List (Array Value)) (w : World) (h : TAt B w g most v l) (hok : ∀ x ∈ l, Num x) (hl : l.length ≤ 1000) (hno : (l.filter fun x => decide (jobOf x = job)) = []) :
    Calls Try.prog 19 #[.pointer (some ⟨g, 0, none⟩), .int .i64 job] w fun e w' => e = .returned (.bool false) ∧ Below w.heap.size w w' := by
  refine (has_any B g most job v l w h hok hl).mono ?_
  rintro e w' ⟨he, hb⟩
  rw [hno] at he
  exact ⟨he, hb⟩
def LateRel (w : World) (g : Nat) (n : Nat) (c : Nat → Int) (p : Nat → Bool) (k : Nat) (v : Value) (wr : World) : Prop :=
  (∃ vt, TLaw w g n vt (asksL c (List.range k)) wr) ∧ wr.ownsRow w.heap.size 3 1 v ((List.range k).filter p).length (numsV ((List.range k).filter p))

set_option maxRecDepth 200000 in
set_option maxHeartbeats 4000000 in
theorem walkClientLate (A : Option Addr) (n c : Nat) (xs : List Int) (now dl : Int) (w : World) (hl : n = xs.length) (_hc : n ≤ c) (_hn : c ≤ maxLen) (hr : Reads w w.heap.size 1 A n (xs.map (Value.int .i64))) (_hw : ∀ x ∈ xs, (Lit.int .i64 x).wf = true)
    (hnow : (Lit.int .i64 now).wf = true) (hdl : (Lit.int .i64 dl).wf = true) :
    Calls Try.prog 5 #[.slice A n c, .int .i64 now, .int .i64 dl] w fun e w' => e = .returned (.bool true) ∧ Below w.heap.size w w' := by
  subst hl
  clear _hc _hn _hw
  obtain ⟨i0, hi, hz0, hz1, hz2⟩ := info_parts Try.infoInt
  by_cases hok : xs.length ≤ 30 ∧ 0 ≤ dl ∧ dl ≤ 1000 ∧ 0 ≤ now ∧ now ≤ 1099511627776
  · obtain ⟨q1, q2, q3, q4, q5⟩ := hok
    go_enter Try.func5, Try.ntmps5
    go_wp2_with fail
    refine (new_any (xs.length : Int) _).mono ?_
    rintro e w1 ⟨g, rfl, hT1, hB1, hg⟩
    rw [if_neg (by omega)] at hT1
    have hL1 := tlaw_new hT1 hB1 hg
    clear hT1 hB1 hg
    obtain ⟨p, hp⟩ : ∃ p : Nat → Bool, p = fun i => decide (cf xs 60 i + dl ≤ now) := ⟨_, rfl⟩
    have HP := Lib.hid hp
    clear hp
    go_wp2
    go_loopw [8, 9] (fun v iv wr => ∃ k : Nat, k ≤ xs.length ∧ iv = .int .i64 (k : Int) ∧ LateRel w g xs.length (cf xs 60) p k v wr) (fun _ iv _ => xs.length - (intOf iv).toNat)
    case atStart => exact ⟨0, by omega, rfl, ⟨_, hL1⟩, World.ownsRow_nil w1 _ _ _⟩
    case round =>
      obtain ⟨k, hk, rfl, ⟨vt, hL⟩, hown⟩ := hrel
      by_cases hlt : k < xs.length
      · obtain ⟨ad, rfl, hcx⟩ := nums_at hr hlt hL.2.1
        have bi0 : (0 : Int) ≤ (k : Int) := by omega
        have bi1 : (k : Int) < (xs.length : Int) := by omega
        obtain ⟨f1, f2⟩ := cf_small xs (show (0 : Int) < 60 by omega) k
        have HCF := Lib.hid (cf_at xs 60 k hlt)
        go_wp2_with fail
        refine (roundL _ 60 _ (by omega) (by omega)).mono ?_
        rw [HCF.out]
        rintro e w2 ⟨rfl, rfl⟩
        go_wp2_with fail
        refine (add_ok w.heap.size g xs.length _ _ (askA k k (cf xs 60 k)) _ hL.1 (askX _ _ _) (by rw [asksL_length, List.length_range]; omega) hL.size (by rw [asksL_length, List.length_range]; omega)).mono ?_
        rintro e w3 ⟨v3, rfl, hT3, hs3⟩
        rw [asksL_snoc] at hT3
        have hL3 := hL.step hT3 hs3
        have hown3 := own_only hown hs3.1 (fun j hj hf => by
          rcases hf with hf | hf
          · rw [hf] at hj; exact own_blk_ne hown hL.1.1 (by decide) hj
          · exact own_apart hown hL.1.2.1 (by decide) hj hf)
        have HFR := Lib.hid (filter_range p k)
        have hwr : IntKind.i64.wrap (cf xs 60 k + dl) = cf xs 60 k + dl := IntWalk.i64_in _ (by omega)
        have hple : ((List.range k).filter p).length ≤ k := by have := List.length_filter_le p (List.range k); rw [List.length_range] at this; exact this
        obtain ⟨A5, c5, rfl⟩ := own_slice hown3
        clear hown hT3 hs3 hL
        cases hpk : p k
        · have hno : ¬ (cf xs 60 k + dl ≤ now) := by rw [HP.out] at hpk; simpa using hpk
          rw [hpk] at HFR
          go_wp2
          go_roundw
          case rel => exact ⟨k + 1, by omega, by go_num, ⟨_, hL3⟩, by rw [HFR.out]; simpa using hown3⟩
          case measure => simp [intOf]; omega
        · have hyes : cf xs 60 k + dl ≤ now := by rw [HP.out] at hpk; simpa using hpk
          rw [hpk] at HFR
          have hrz := reads_new w3 3 (numsV [k]) #[.int .i64 (k : Int)] rfl
          have hownA := own_stays' hown3 ((Below.refl w3.heap.size w3).alloc (Nat.le_refl _) (.cells #[.int .i64 (k : Int)] 3))
          go_wp2_with (at_builtin; refine wpList_append_any _ rfl _ _ 53 rfl w.heap.size 3 i0 (.int .i64 0) 1 8 Try.underlying53 hi hz0 hz1 hz2 rfl (by decide) _ _ _ rfl hownA _ _ _ _ _ rfl hrz (numsV_one [k]) ?c6 ?c7 ?c8 ?_)
          case c6 => unfold maxLen; show ((List.range k).filter p).length + 1 ≤ _; omega
          case c7 => show (((List.range k).filter p).length + 1) * 8 ≤ _; omega
          case c8 => have := hL3.size; simp; omega
          intro v' w5 hown5 hgr _
          have hL5 : TLaw w g xs.length v3 (asksL (cf xs 60) (List.range (k + 1))) w5 := by
            have hLA := hL3.below ((Below.refl w3.heap.size w3).alloc (Nat.le_refl _) (.cells #[.int .i64 (k : Int)] 3))
            have hO : Only (fun i => (Value.slice A5 ((List.range k).filter p).length c5).ownBlock = some i) (w3.alloc (.cells #[.int .i64 (k : Int)] 3)) w5 := (Only.refl _ _).grown hgr (fun i hi => Or.inl hi)
            refine ⟨⟨hLA.1.1.only hO (fun hf => own_blk_ne hownA hLA.1.1 (by decide) hf), own_only hLA.1.2.1 hO (fun i hi hf => own_apart hownA hLA.1.2.1 (by decide) hf hi), hLA.1.2.2⟩, ?_, hLA.2.2⟩
            exact hLA.2.1.trans (hO.below hLA.size (fun i hi hf => by have := (hownA.lt i hf).1; omega))
          obtain ⟨A6, c6, rfl⟩ := own_slice hown5
          clear hownA hgr hown3 hL3 hrz
          go_wp2
          go_roundw
          case rel => exact ⟨k + 1, by omega, by go_num, ⟨_, hL5⟩, by rw [HFR.out]; simpa [numsV] using hown5⟩
          case measure => simp [intOf]; omega
      · obtain rfl : k = xs.length := by omega
        have hcs : ∀ i, 0 ≤ cf xs 60 i ∧ cf xs 60 i < 1000 := fun i => by have := cf_small xs (show (0 : Int) < 60 by omega) i; omega
        obtain ⟨W, hW⟩ : ∃ W, (List.range xs.length).filter p = W := ⟨_, rfl⟩
        obtain ⟨R, hR⟩ : ∃ R, (List.range xs.length).filter (fun i => !p i) = R := ⟨_, rfl⟩
        have hWR : W.length + R.length = xs.length := by rw [← hW, ← hR, filter_both, List.length_range]
        have hRp : R.filter p = [] := by rw [← hR]; exact filter_twice p _
        have hWp : ∀ i ∈ W, p i = true := fun i hi => by rw [← hW] at hi; exact (List.mem_filter.1 hi).2
        have hRn : ∀ i ∈ R, p i = false := fun i hi => by rw [← hR] at hi; simpa using (List.mem_filter.1 hi).2
        have hRs : ∀ i ∈ R, i < 1000 := fun i hi => by rw [← hR] at hi; have := List.mem_range.1 (List.mem_filter.1 hi).1; omega
        have e1 : (asksL (cf xs 60) (List.range xs.length)).filter (fun x => decide (cameOf x + dl ≤ now)) = asksL (cf xs 60) W := by rw [asksL_filter, ← hW, HP.out]; rfl
        have e2 : (asksL (cf xs 60) (List.range xs.length)).filter (fun x => !decide (cameOf x + dl ≤ now)) = asksL (cf xs 60) R := by rw [asksL_filter, ← hR, HP.out]; rfl
        have e3 : (asksL (cf xs 60) R).filter (fun x => decide (cameOf x + dl ≤ now)) = [] := by rw [asksL_filter, show (fun i : Nat => decide (cameOf (askA (i : Int) (i : Int) (cf xs 60 i)) + dl ≤ now)) = p from HP.out.symm, hRp]; rfl
        have hnumL := asksL_num (cf xs 60) (List.range xs.length) (fun i hi => by have := List.mem_range.1 hi; omega) hcs
        have hnumR := asksL_num (cf xs 60) R hRs hcs
        have hlenR := asksL_length (cf xs 60) R
        rw [hW] at hown
        have E1 := Lib.hid e1
        have E2 := Lib.hid e2
        have E3 := Lib.hid e3
        have HWP := Lib.hid hWp
        have HRN := Lib.hid hRn
        have HNR := Lib.hid hnumR
        have HLR := Lib.hid hlenR
        clear hW hR hRp e1 e2 e3 hWp hRn hnumR hRs hlenR
        go_wp2_with fail
        refine (tlate_any w.heap.size g xs.length now dl vt _ _ hL.1 hnumL (by rw [asksL_length, List.length_range]; omega) hnow hdl).mono ?_
        rintro e w2 ⟨vo, v2, rfl, ho2, hT2, hs2, hv2⟩
        rw [E1.out, asksL_length] at ho2
        rw [E2.out] at hT2
        have hL2 := hL.step hT2 hs2
        have hown2 := own_only hown hs2.1 (fun j hj hf => by
          rcases hf with hf | hf
          · rw [hf] at hj; exact own_blk_ne hown hL.1.1 (by decide) hj
          · exact own_apart hown hL.1.2.1 (by decide) hj hf)
        obtain ⟨A7, c7, rfl⟩ := own_slice ho2
        obtain ⟨A5, c5, rfl⟩ := own_slice hown
        have hsub : IntKind.i64.wrap ((xs.length : Int) - (W.length : Int)) = (R.length : Int) := by rw [IntWalk.i64_in _ (by omega)]; omega
        have HO2 := Lib.hid ho2
        have HW2 := Lib.hid hown2
        clear hT2 hs2 hnumL hown hcs ho2 hown2
        go_wp2_with fail
        refine (tlen_any w.heap.size g xs.length v2 _ _ hL2.1).mono ?_
        rw [HLR.out]
        rintro e w3 ⟨rfl, rfl⟩
        go_wp2_with fail
        refine (tlate_any w.heap.size g xs.length now dl v2 _ _ hL2.1 HNR.out (by rw [HLR.out]; omega) hnow hdl).mono ?_
        rintro e w4 ⟨vo4, v4, rfl, ho4, hT4, hs4, hv4⟩
        rw [E3.out] at ho4
        have hL4 : TLaw w g xs.length v4 (asksL (cf xs 60) R) w4 := hL2.step (by
          rw [show ((asksL (cf xs 60) R).filter fun x => !decide (cameOf x + dl ≤ now)) = asksL (cf xs 60) R from by
            have h := filter_both (fun x => decide (cameOf x + dl ≤ now)) (asksL (cf xs 60) R)
            rw [E3.out] at h
            exact List.filter_eq_self.2 (List.length_filter_eq_length_iff.1 (by simpa using h))] at hT4
          exact hT4) hs4
        have HO4 : Hid (w4.ownsRow _ 35 18 (.slice A7 W.length c7) W.length ((asksL (cf xs 60) W).flatMap Array.toList)) := told_stays hL.1 HO2.out hv2 hs4
        have HW4 : Hid (w4.ownsRow w.heap.size 3 1 (.slice A5 W.length c5) W.length (numsV W)) := own_only HW2.out hs4.1 (fun j hj hf => by
          rcases hf with hf | hf
          · rw [hf] at hj; exact own_blk_ne HW2.out hL2.1.1 (by decide) hj
          · exact own_apart HW2.out hL2.1.2.1 (by decide) hj hf)
        obtain ⟨A8, c8, rfl⟩ := own_slice ho4
        have hn8 : ([] : List (Array Value)).length = 0 := rfl
        clear ho4 hT4 hs4 hL2 hL hsub
        go_wp2
        go_loopw [12] (fun iv wr => ∃ i : Nat, i ≤ W.length ∧ iv = .int .i64 (i : Int) ∧ Below w4.heap.size w4 wr) (fun iv _ => W.length - (intOf iv).toNat)
        case atStart => exact ⟨0, by omega, rfl, Below.refl _ _⟩
        case round =>
          obtain ⟨i, hi2, rfl, hB⟩ := hrel
          have hLr := hL4.below hB
          by_cases hlt2 : i < W.length
          · obtain ⟨rb7, rfl, hc7⟩ := told_cell (k := i) (j := 0) HO4.out (asksL_length _ _).symm (asksL_X _ _) (by rw [asksL_length]; exact hlt2) (by omega) hB
            obtain ⟨rb5, rfl, hc5⟩ := want_cell HW4.out rfl hlt2 hB
            rw [asksL_at _ _ _ hlt2] at hc7
            replace hc7 : wr.cell? ⟨rb7, i * 18, none⟩ = some (.int .i64 (W[i] : Int)) := hc7
            obtain ⟨q, hq⟩ : ∃ q, W[i] = q := ⟨_, rfl⟩
            rw [hq] at hc5 hc7
            have hno : ((asksL (cf xs 60) R).filter fun x => decide (jobOf x = (q : Int))) = [] := by
              rw [List.filter_eq_nil_iff]
              intro x hx
              obtain ⟨j, hj, rfl⟩ := List.mem_map.1 hx
              have h1 := HRN.out j hj
              have h2 := HWP.out q (by rw [← hq]; exact List.getElem_mem hlt2)
              rw [askJob]
              simp only [decide_eq_true_eq]
              intro he
              have : j = q := by omega
              rw [this, h2] at h1
              cases h1
            have HNO := Lib.hid hno
            clear hq hno
            have bi0 : (0 : Int) ≤ (i : Int) := by omega
            have bi1 : (i : Int) < (W.length : Int) := by omega
            have hS := And.intro hc7 hc5
            go_wp2_with fail
            go_region_held3 (fun w' => w'.cell? ⟨rb7, i * 18, none⟩ = some (.int .i64 (q : Int)) ∧ w'.cell? ⟨rb5, i, none⟩ = some (.int .i64 (q : Int)))
              (first | exact L6 | exact hS | go_keep)
              (first | (go_at_call 19; refine (has_not w.heap.size g xs.length (q : Int) v4 _ _ (by exact hLr.1) HNR.out (by rw [HLR.out]; omega) HNO.out).mono ?_; rintro e w6 ⟨rfl, hB6⟩; have L6 := And.intro ((hB6.cell (World.block_lt_of_cell? _ _ hc7)).trans hc7) ((hB6.cell (World.block_lt_of_cell? _ _ hc5)).trans hc5)))
            have hB7 : Below w4.heap.size w4 w6 := hB.drew.trans (Below.mono hB6 hB.size)
            clear hS L6
            go_wp2
            go_roundw
            case rel => exact ⟨i + 1, by omega, by go_num, hB7⟩
            case measure => simp [intOf]; omega
          · go_wp2_with fail
            refine (awake_any _).mono ?_
            rintro e v ⟨rfl, hv⟩
            go_wp2
            go_ret
            exact ⟨rfl, hLr.2.1.trans (hv.mono hLr.size)⟩
  · clear hr hi hz0 hz1 hz2 hnow hdl
    by_cases e1 : 30 < xs.length
    · clear hok
      go_enter Try.func5, Try.ntmps5
      go_wp2_with fail
      refine (awake_any _).mono ?_
      rintro e v ⟨rfl, hv⟩
      go_wp2
      go_ret
      exact ⟨rfl, hv⟩
    · by_cases e2 : dl < 0
      · clear hok
        go_enter Try.func5, Try.ntmps5
        go_wp2_with fail
        refine (awake_any _).mono ?_
        rintro e v ⟨rfl, hv⟩
        go_wp2
        go_ret
        exact ⟨rfl, hv⟩
      · by_cases e3 : 1000 < dl
        · clear hok
          go_enter Try.func5, Try.ntmps5
          go_wp2_with fail
          refine (awake_any _).mono ?_
          rintro e v ⟨rfl, hv⟩
          go_wp2
          go_ret
          exact ⟨rfl, hv⟩
        · by_cases e4 : now < 0
          · clear hok
            go_enter Try.func5, Try.ntmps5
            go_wp2_with fail
            refine (awake_any _).mono ?_
            rintro e v ⟨rfl, hv⟩
            go_wp2
            go_ret
            exact ⟨rfl, hv⟩
          · have e5 : 1099511627776 < now := by omega
            clear hok
            go_enter Try.func5, Try.ntmps5
            go_wp2_with fail
            refine (awake_any _).mono ?_
            rintro e v ⟨rfl, hv⟩
            go_wp2
            go_ret
            exact ⟨rfl, hv⟩
end Go.Proofs.Ytigjipjkollohaa
