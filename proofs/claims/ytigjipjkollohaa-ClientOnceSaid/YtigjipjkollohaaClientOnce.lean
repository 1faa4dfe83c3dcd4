/-
  The walk of ClientOnce.
-/
import Derived.Test.YtigjipjkollohaaClientLate
import Derived.OwnWalk
namespace Go.Proofs.Ytigjipjkollohaa
open Go.RowKit

/-- The askers of numbers, each with its job, each come at its number. -/
def asksO (c : Nat → Int) (is : List Nat) : List (Array Value) := is.map fun (i : Nat) => askA (i : Int) (c i) (i : Int)
theorem asksO_filter (c : Nat → Int) (q : Array Value → Bool) (is : List Nat) : (asksO c is).filter q = asksO c (is.filter fun (i : Nat) => q (askA (i : Int) (c i) (i : Int))) := by
  unfold asksO; rw [List.filter_map]; rfl
theorem asksO_snoc (c : Nat → Int) (k : Nat) : asksO c (List.range k) ++ [askA (k : Int) (c k) (k : Int)] = asksO c (List.range (k + 1)) := by
  unfold asksO; rw [List.range_succ, List.map_append]; rfl
theorem asksO_X (c : Nat → Int) (is : List Nat) : ∀ x ∈ asksO c is, AskX x := by
  intro x hx
  obtain ⟨i, _, rfl⟩ := List.mem_map.1 hx
  exact askX _ _ _
theorem asksO_num (c : Nat → Int) (is : List Nat) (hi : ∀ i ∈ is, i < 1000) (hc : ∀ i, 0 ≤ c i ∧ c i < 1000) : ∀ x ∈ asksO c is, Num x := by
  intro x hx
  obtain ⟨i, hm, rfl⟩ := List.mem_map.1 hx
  have h2 := hc i
  have h1 := hi i hm
  exact askNum (wf_small (by omega) (by omega)) (wf_small (by omega) (by omega))
theorem asksO_length (c : Nat → Int) (is : List Nat) : (asksO c is).length = is.length := by simp [asksO]
theorem asksO_at (c : Nat → Int) (is : List Nat) (k : Nat) (h : k < is.length) : (asksO c is)[k]'(by rw [asksO_length]; exact h) = askA (is[k] : Int) (c is[k]) (is[k] : Int) := by simp [asksO]
/-- Who was told, U being those who were not. -/
def toldV (U : List Nat) (n : Nat) : List Value := (List.range n).map fun (x : Nat) => .int .i64 (if x ∈ U then 0 else 1)
theorem toldV_at (U : List Nat) (n x : Nat) (h : x < n) : (toldV U n)[x]? = some (.int .i64 (if x ∈ U then 0 else 1)) := by
  unfold toldV
  rw [List.getElem?_map, List.getElem?_range h]
  rfl
theorem toldV_all (n : Nat) : toldV (List.range n) n = List.replicate n (.int .i64 0) := by
  apply List.ext_getElem?
  intro j
  rcases Nat.lt_or_ge j n with h | h
  · rw [toldV_at _ _ _ h, List.getElem?_replicate, if_pos h, if_pos (List.mem_range.2 h)]
  · rw [List.getElem?_eq_none (by simp [toldV]; exact h), List.getElem?_eq_none (by simp; exact h)]
theorem toldV_congr (U V : List Nat) (n : Nat) (h : ∀ x, x < n → (x ∈ U ↔ x ∈ V)) : toldV U n = toldV V n := by
  unfold toldV
  apply List.map_congr_left
  intro x hx
  simp only [h x (List.mem_range.1 hx)]
theorem toldV_set (x : Nat) (U : List Nat) (n : Nat) (hx : x ∉ U) : toldV U n = (toldV (x :: U) n).set x (.int .i64 1) := by
  apply List.ext_getElem?
  intro j
  rcases Nat.lt_or_ge j n with h | h
  · by_cases hj : j = x
    · subst hj
      rw [toldV_at _ _ _ h, List.getElem?_set_self (by simp [toldV]; exact h), if_neg hx]
    · rw [List.getElem?_set_ne (fun e => hj e.symm), toldV_at _ _ _ h, toldV_at _ _ _ h]
      simp only [List.mem_cons, hj, false_or]
  · rw [List.getElem?_eq_none (by simp [toldV]; exact h), List.getElem?_eq_none (by simp [toldV]; exact h)]
theorem made_zeros (n : Nat) : (madeCells (Value.int .i64 0).cells (n * 1)).toList = List.replicate n (.int .i64 0) := by
  apply List.ext_getElem
  · simp [size_madeCells]
  · intro i h1 h2
    simp [madeCells, Value.cells, Nat.mod_one]
/-- Those that are left, and how they lie. -/
def Lies (n : Nat) (L : List Nat) : Prop := L.Pairwise (· < ·) ∧ (∀ x ∈ L, x < n) ∧ L.length ≤ n
theorem lies_range (n : Nat) : Lies n (List.range n) := ⟨List.pairwise_lt_range, fun _ h => List.mem_range.1 h, by rw [List.length_range]; exact Nat.le_refl _⟩
theorem Lies.filter {n : Nat} {L : List Nat} (h : Lies n L) (q : Nat → Bool) : Lies n (L.filter q) := ⟨h.1.filter q, fun x hx => h.2.1 x (List.mem_filter.1 hx).1, Nat.le_trans (List.length_filter_le _ _) h.2.2⟩
theorem lies_len {n : Nat} {L : List Nat} (h : Lies n L) : L.length ≤ n := h.2.2
theorem roundC (k y : Int) (w : World) (h : k % 5 = y) :
    Calls Try.prog 21 #[.int .i64 k, .int .i64 5] w fun e w' => e = .returned (.int .i64 y) ∧ w = w' := by
  subst h; exact roundL k 5 w (by omega) (by omega)
def OnceRel (w : World) (g rt n : Nat) (c : Nat → Int) (L : List Nat) (vt : Value) (wr : World) : Prop :=
  TLaw w g 40 vt (asksO c L) wr ∧ Lies n L ∧ wr.ownsRow w.heap.size 3 1 (.slice (some ⟨rt, 0, none⟩) n n) n (toldV L n)

set_option maxRecDepth 200000 in
set_option maxHeartbeats 20000000 in
theorem walkClientOnce (A : Option Addr) (n c0 : Nat) (xs : List Int) (A1 : Option Addr) (n1 c1 : Nat) (ys : List Int) (dl : Int) (w : World) (hl : n = xs.length) (_hc : n ≤ c0) (_hn : c0 ≤ maxLen) (hr : Reads w w.heap.size 1 A n (xs.map (Value.int .i64))) (_hw : ∀ x ∈ xs, (Lit.int .i64 x).wf = true)
    (hl1 : n1 = ys.length) (_hc1 : n1 ≤ c1) (_hn1 : c1 ≤ maxLen) (hr1 : Reads w w.heap.size 1 A1 n1 (ys.map (Value.int .i64))) (hw1 : ∀ x ∈ ys, (Lit.int .i64 x).wf = true) (_hm : (Lit.int .i64 dl).wf = true) :
    Calls Try.prog 4 #[.slice A n c0, .slice A1 n1 c1, .int .i64 dl] w fun e w' => e = .returned (.bool true) ∧ Below w.heap.size w w' := by
  subst hl hl1
  clear _hc _hn _hw _hc1 _hn1 _hm
  obtain ⟨i0, hi, hz0, hz1, hz2⟩ := info_parts Try.infoInt
  by_cases hok : xs.length ≤ 30 ∧ ys.length ≤ 30 ∧ 1 ≤ dl ∧ dl ≤ 50
  · obtain ⟨q1, q2, q3, q4⟩ := hok
    obtain ⟨c, hcf⟩ : ∃ c, c = cf xs 5 := ⟨_, rfl⟩
    have hc5 : Hid (∀ i, 0 ≤ c i ∧ c i < 5) := by intro i; rw [hcf]; exact cf_small xs (by omega) i
    have hnum : Hid (∀ is, Lies xs.length is → ∀ x ∈ asksO c is, Num x) := fun is hl => asksO_num c is (fun i hi => by have := hl.2.1 i hi; omega) (fun i => by have := hc5.out i; omega)
    have HCF := Lib.hid hcf
    have hdl : (Lit.int .i64 dl).wf = true := wf_small (by omega) (by omega)
    clear hcf
    go_enter Try.func4, Try.ntmps4
    go_wp2_with fail
    refine (new_any 40 _).mono ?_
    rintro e w1 ⟨g, rfl, hT1, hB1, hg⟩
    have hL1 : TLaw w g 40 _ (asksO c (List.range 0)) w1 := tlaw_new hT1 hB1 hg
    clear hT1 hB1 hg
    go_wp2
    go_loopw [8] (fun iv wr => ∃ k : Nat, k ≤ xs.length ∧ iv = .int .i64 (k : Int) ∧ ∃ vt, TLaw w g 40 vt (asksO c (List.range k)) wr) (fun iv _ => xs.length - (intOf iv).toNat)
    case atStart => exact ⟨0, by omega, rfl, _, hL1⟩
    case round =>
      obtain ⟨k, hk, rfl, vt, hL⟩ := hrel
      by_cases hlt : k < xs.length
      · obtain ⟨ad, rfl, hcx⟩ := nums_at hr hlt hL.2.1
        have bi0 : (0 : Int) ≤ (k : Int) := by omega
        have bi1 : (k : Int) < (xs.length : Int) := by omega
        have HCK := Lib.hid (show xs[k] % 5 = c k by rw [HCF.out]; exact cf_at xs 5 k hlt)
        go_wp2_with fail
        refine (roundL _ 5 _ (by omega) (by omega)).mono ?_
        rw [HCK.out]
        rintro e w2 ⟨rfl, rfl⟩
        go_wp2_with fail
        refine (add_ok w.heap.size g 40 _ _ (askA k (c k) k) _ hL.1 (askX _ _ _) (by rw [asksO_length, List.length_range]; omega) hL.size (by rw [asksO_length, List.length_range]; omega)).mono ?_
        rintro e w3 ⟨v3, rfl, hT3, hs3⟩
        rw [asksO_snoc] at hT3
        have hL3 := hL.step hT3 hs3
        clear hT3 hs3 hL
        go_wp2
        go_roundw
        case rel => exact ⟨k + 1, by omega, by go_num, _, hL3⟩
        case measure => simp [intOf]; omega
      · obtain rfl : k = xs.length := by omega
        go_wp2_with (at_make; refine wpList_make_full _ rfl _ _ 53 rfl w.heap.size 3 i0 (.int .i64 0) 1 Try.underlying53 hi hz0 hz1 .i64 .i64 _ _ xs.length rfl rfl rfl rfl (by rw [hz2]; omega) (by unfold maxLen; omega) hL.size ?_; intro w3 hown3 hgr3)
        have hL3 : TLaw w g 40 vt (asksO c (List.range xs.length)) w3 := hL.below ⟨hgr3.os, hgr3.tape, hgr3.output, hgr3.size, fun i hi => hgr3.block i hi (by simp)⟩
        rw [made_zeros, ← toldV_all] at hown3
        have hR3 : OnceRel w g wr.heap.size xs.length c (List.range xs.length) vt w3 := ⟨hL3, lies_range _, hown3⟩
        obtain ⟨rt, hrt⟩ : ∃ rt, wr.heap.size = rt := ⟨_, rfl⟩
        rw [hrt] at hR3 ⊢
        clear hrt hgr3 hown3 hL3 hL
        go_loopw [10] (fun iv wr => ∃ (i : Nat) (L : List Nat) (vt : Value), i ≤ ys.length + 1 ∧ iv = .int .i64 (i : Int) ∧ OnceRel w g rt xs.length c L vt wr ∧ (i = ys.length + 1 → L = [])) (fun iv _ => ys.length + 1 - (intOf iv).toNat)
        case atStart => exact ⟨0, _, _, by omega, rfl, hR3, fun h => by omega⟩
        case round =>
          clear hR3
          obtain ⟨i, L, vl, hi1, rfl, ⟨hLt, hLies, hTold⟩, hend⟩ := hrel
          have hLn : L.length ≤ 1000 := by
            have h1 := lies_len hLies
            omega
          by_cases hi2 : i ≤ ys.length
          · by_cases hilast : i = ys.length
            · have hi3 : ((i : Int) == (ys.length : Int)) = true := by simp; omega
              go_wp2_with fail
              refine (tlate_any w.heap.size g 40 1000 dl vl _ _ hLt.1 (hnum.out _ hLies) (by rw [asksO_length]; exact hLn) rfl hdl).mono ?_
              rintro e w2 ⟨vo, v2, rfl, ho2, hT2, hs2, _⟩
              rw [asksO_filter, asksO_length] at ho2
              rw [asksO_filter] at hT2
              have hTo2 := own_only hTold hs2.1 (fun j hj hf => by
                rcases hf with hf | hf
                · rw [hf] at hj; exact own_blk_ne hTold hLt.1.1 (by decide) hj
                · exact own_apart hTold hLt.1.2.1 (by decide) hj hf)
              have hL2 := hLt.step hT2 hs2
              obtain ⟨q, hq⟩ : ∃ q : Nat → Bool, (fun (i : Nat) => decide (cameOf (askA (i : Int) (c i) (i : Int)) + dl ≤ 1000)) = q := ⟨_, rfl⟩
              have hq' : (fun (i : Nat) => !decide (cameOf (askA (i : Int) (c i) (i : Int)) + dl ≤ 1000)) = fun i => !q i := by rw [← hq]
              rw [hq] at ho2
              rw [hq'] at hL2
              have hll := hLies.filter q
              have hlL := hLies.filter (fun i => !q i)
              have hdis : ∀ x ∈ L.filter q, x ∉ L.filter (fun i => !q i) := by
                intro x h1 h2
                have h3 := (List.mem_filter.1 h1).2
                have h4 := (List.mem_filter.1 h2).2
                rw [h3] at h4
                cases h4
              have htold : toldV L xs.length = toldV ((L.filter q).drop 0 ++ L.filter (fun i => !q i)) xs.length := toldV_congr _ _ _ (fun x _ => by
                rw [List.drop_zero, List.mem_append, List.mem_filter, List.mem_filter]
                cases q x <;> simp)
              have HEND : Hid (i = ys.length → L.filter (fun i => !q i) = []) := by
                intro _
                rw [List.filter_eq_nil_iff]
                intro x hx
                have := hLies.2.1 x hx
                rw [← hq]
                show ¬ ((!decide (cameOf (askA (x : Int) (c x) (x : Int)) + dl ≤ 1000)) = true)
                rw [decide_eq_true (show cameOf (askA (x : Int) (c x) (x : Int)) + dl ≤ 1000 by rw [askCame]; omega)]
                decide
              obtain ⟨l, hl⟩ : ∃ l, L.filter q = l := ⟨_, rfl⟩
              obtain ⟨L', hL'⟩ : ∃ L', L.filter (fun i => !q i) = L' := ⟨_, rfl⟩
              rw [hl] at ho2 hll hdis htold
              rw [hL'] at hL2 hlL hdis htold HEND
              rw [htold] at hTo2
              obtain ⟨A7, c7, rfl⟩ := own_slice ho2
              have HO2 := Lib.hid ho2
              have HDIS := Lib.hid hdis
              have HLL := Lib.hid hll
              have HLL2 := Lib.hid hlL
              have HT2 := Lib.hid hTo2
              have HL2 := Lib.hid hL2
              have hll30 : l.length ≤ L.length := by rw [← hl]; exact List.length_filter_le _ _
              clear hl hL' hq hq' htold ho2 hdis hll hlL hT2 hs2 hTold hLt hLies hL2 hTo2 hend
              go_wp2
              go_loopw [12] (fun kv wi => ∃ k : Nat, k ≤ l.length ∧ kv = .int .i64 (k : Int) ∧ wi.ownsRow w.heap.size 3 1 (.slice (some ⟨rt, 0, none⟩) xs.length xs.length) xs.length (toldV (l.drop k ++ L') xs.length) ∧ Only (fun j => j = rt) w2 wi) (fun kv _ => l.length - (intOf kv).toNat)
              case atStart => exact ⟨0, by omega, rfl, HT2.out, Only.refl _ _⟩
              case round =>
                obtain ⟨k, hk, rfl, hrow, hO⟩ := hrel
                by_cases hkl : k < l.length
                · have hrowA := own_only HO2.out hO (fun j hj hf => own_apart HO2.out HT2.out (by decide) hj (by rw [hf]; rfl))
                  obtain ⟨rb, rfl, hcl⟩ := told_cell (k := k) (j := 0) hrowA (asksO_length _ _).symm (asksO_X _ _) (by rw [asksO_length]; exact hkl) (by omega) (Below.refl _ _)
                  obtain ⟨_, h, hcj⟩ := told_cell (k := k) (j := 2) hrowA (asksO_length _ _).symm (asksO_X _ _) (by rw [asksO_length]; exact hkl) (by omega) (Below.refl _ _)
                  injection h with h; injection h with h; subst h
                  obtain ⟨_, h, hcc⟩ := told_cell (k := k) (j := 3) hrowA (asksO_length _ _).symm (asksO_X _ _) (by rw [asksO_length]; exact hkl) (by omega) (Below.refl _ _)
                  injection h with h; injection h with h; subst h
                  rw [asksO_at _ _ _ hkl] at hcl hcj hcc
                  replace hcl : wr.cell? ⟨rb, k * 18, none⟩ = some (.int .i64 (l[k] : Int)) := hcl
                  replace hcj : wr.cell? ⟨rb, k * 18 + 2, none⟩ = some (.int .i64 (c l[k])) := hcj
                  replace hcc : wr.cell? ⟨rb, k * 18 + 3, none⟩ = some (.int .i64 (l[k] : Int)) := hcc
                  have hxn : l[k] < xs.length := HLL.out.2.1 _ (List.getElem_mem hkl)
                  have hdrop : l.drop k = l[k] :: l.drop (k + 1) := List.drop_eq_getElem_cons hkl
                  have hnotin : l[k] ∉ l.drop (k + 1) ++ L' := by
                    rw [List.mem_append]
                    rintro (h | h)
                    · have hp := HLL.out.1.sublist (List.drop_sublist k l)
                      rw [hdrop] at hp
                      have := (List.pairwise_cons.1 hp).1 _ h
                      omega
                    · exact HDIS.out _ (List.getElem_mem hkl) h
                  have hprev : ∀ k', k = k' + 1 → ∃ y : Nat, wr.cell? ⟨rb, k' * 18, none⟩ = some (.int .i64 (y : Int)) ∧ (y : Int) < (l[k] : Int) := by
                    intro k' hk'
                    obtain ⟨_, h, hcp⟩ := told_cell (k := k') (j := 0) hrowA (asksO_length _ _).symm (asksO_X _ _) (by rw [asksO_length]; omega) (by omega) (Below.refl _ _)
                    injection h with h; injection h with h; subst h
                    rw [asksO_at _ _ _ (show k' < l.length by omega)] at hcp
                    refine ⟨l[k']'(by omega), hcp, ?_⟩
                    have := List.pairwise_iff_getElem.1 HLL.out.1 k' k (by omega) hkl (by omega)
                    omega
                  obtain ⟨x, hx⟩ : ∃ x, l[k] = x := ⟨_, rfl⟩
                  rw [hx] at hcl hcj hcc hxn hdrop hnotin hprev
                  clear hx
                  rw [hdrop, List.cons_append] at hrow
                  have hcx : wr.cell? ⟨rt, x, none⟩ = some (.int .i64 0) := by
                    rw [hrow.cellAt x (by omega), toldV_at _ _ _ hxn, if_pos (by simp)]
                  have hfx : wr.frozen? ⟨rt, x, none⟩ = false := hrow.frozenAt x
                  have hsto := (hrow.stored x (.int .i64 1)).1
                  rw [← toldV_set x _ xs.length hnotin] at hsto
                  have HSTO := Lib.hid hsto
                  have hOn : ∀ nq, Only (fun j => j = rt) w2 ((wr.drewN nq).setCell ⟨rt, x, none⟩ (.int .i64 1)) := fun nq => (hO.drewN nq).setCell (Or.inl rfl) _
                  have HON := Lib.hid hOn
                  obtain ⟨adx, rfl, hjx⟩ := nums_at hr hxn ((HL2.out.2.1).trans (hO.below HL2.out.size (fun j hj hf => by have := (HT2.out.lt rt rfl).1; omega)))
                  have HRC := Lib.hid (show xs[x] % 5 = c x by rw [HCF.out]; exact cf_at xs 5 x hxn)
                  obtain ⟨jx, hjx'⟩ : ∃ jx, xs[x] = jx := ⟨_, rfl⟩
                  rw [hjx'] at hjx HRC
                  have bi0 : (0 : Int) ≤ (k : Int) := by omega
                  have bi1 : (k : Int) < (l.length : Int) := by omega
                  have bi2 : (0 : Int) ≤ (x : Int) := by omega
                  have bi3 : (x : Int) < (xs.length : Int) := by omega
                  have hl30 : l.length ≤ 1000 := by omega
                  clear hjx' hsto hOn hrow hdrop hnotin hrowA hO HO2 HDIS HLL HLL2 HT2 HL2 HEND hll30 hr hr1 hw1 hnum hc5 HCF hdl hi hz0 hz1 hz2
                  cases k with
                  | zero =>
                    clear hprev
                    rw [Nat.zero_mul] at hcl
                    rw [Nat.zero_mul, Nat.zero_add] at hcj hcc
                    go_wp2_with fail
                    have gb1 : decide ((x : Int) < 0) = false := decide_eq_false (by omega)
                    have gb2 : decide ((xs.length : Int) ≤ (x : Int)) = false := decide_eq_false (by omega)
                    have gb5 : decide (xs.length ≤ x) = false := decide_eq_false (by omega)
                    have gb6 : (!(c x == c x)) = false := by simp
                    have gb7 : (!((x : Int) == (x : Int))) = false := by simp
                    go_big_quiet (exact quiet_left (roundC jx (c x) _ (by exact HRC.out)))
                    go_wp2
                    go_roundw
                    case rel => exact ⟨1, by omega, by go_num, HSTO.out, HON.out _⟩
                    case measure => simp [intOf]; omega
                  | succ k' =>
                    obtain ⟨y, hcp, hyx⟩ := hprev k' rfl
                    clear hprev
                    have hsb : IntKind.i64.wrap ((k' : Int) + 1 - 1) = (k' : Int) := by rw [IntWalk.i64_in _ (by omega)]; omega
                    have bi4 : (0 : Int) ≤ (k' : Int) := by omega
                    have bi5 : (k' : Int) < (l.length : Int) := by omega
                    have bi6 : (0 : Int) < (k' : Int) + 1 := by omega
                    go_wp2_with fail
                    have gb1 : decide ((x : Int) < 0) = false := decide_eq_false (by omega)
                    have gb2 : decide ((xs.length : Int) ≤ (x : Int)) = false := decide_eq_false (by omega)
                    have gb5 : decide (xs.length ≤ x) = false := decide_eq_false (by omega)
                    have gb6 : (!(c x == c x)) = false := by simp
                    have gb7 : (!((x : Int) == (x : Int))) = false := by simp
                    have gb3 : decide ((0 : Int) < (k' : Int) + 1) = true := decide_eq_true bi6
                    have gb4 : decide ((x : Int) ≤ (y : Int)) = false := decide_eq_false (by omega)
                    have gb8 : decide (x ≤ y) = false := decide_eq_false (by omega)
                    go_big_quiet (exact quiet_left (roundC jx (c x) _ (by exact HRC.out)))
                    clear hsb
                    go_wp2
                    go_roundw
                    case rel => exact ⟨k' + 2, by omega, by go_num, HSTO.out, HON.out _⟩
                    case measure => simp [intOf]; omega
                · obtain rfl : k = l.length := by omega
                  rw [List.drop_length, List.nil_append] at hrow
                  have hrl := HT2.out.lt rt rfl
                  have hL9 : TLaw w g 40 v2 (asksO c L') wr := ⟨⟨HL2.out.1.1.only hO (fun hf => own_blk_ne HT2.out HL2.out.1.1 (by decide) (by rw [hf]; rfl)), own_only HL2.out.1.2.1 hO (fun j hj hf => own_apart HL2.out.1.2.1 HT2.out (by decide) hj (by rw [hf]; rfl)), HL2.out.1.2.2⟩, HL2.out.2.1.trans (hO.below HL2.out.size (fun j hj hf => by omega)), HL2.out.2.2⟩
                  clear hO
                  go_wp2
                  go_roundw
                  case rel => exact ⟨i + 1, L', v2, by omega, by go_num, ⟨hL9, HLL2.out, hrow⟩, fun h => HEND.out (by omega)⟩
                  case measure => simp [intOf]; omega
            · obtain ⟨ad1, rfl, hcy⟩ := nums_at hr1 (show i < ys.length by omega) hLt.2.1
              have hi3 : ((i : Int) == (ys.length : Int)) = false := by simp; omega
              have ci0 : (0 : Int) ≤ (i : Int) := by omega
              have ci1 : (i : Int) < (ys.length : Int) := by omega
              have hwy := hw1 _ (List.getElem_mem (show i < ys.length by omega))
              obtain ⟨y, hy⟩ : ∃ y, ys[i]'(by omega) = y := ⟨_, rfl⟩
              rw [hy] at hcy hwy
              clear hy
              have hmin : IntKind.i64.min = -9223372036854775808 := rfl
              have hmax : IntKind.i64.max = 9223372036854775807 := rfl
              simp only [Lit.wf, Bool.and_eq_true, decide_eq_true_eq, hmin, hmax] at hwy
              clear hmin hmax
              by_cases hev : y.tmod 2 = 0
              · go_wp2_with fail
                refine (roundL _ 5 _ (by omega) (by omega)).mono ?_
                rintro e w0 ⟨rfl, rfl⟩
                go_wp2_with fail
                refine (done_any w.heap.size g 40 _ vl _ _ hLt.1 (hnum.out _ hLies) (by rw [asksO_length]; exact hLn)).mono ?_
                obtain ⟨jb, hjb⟩ : ∃ jb, y.tdiv 2 % 5 = jb := ⟨_, rfl⟩
                rw [hjb]
                clear hjb
                rintro e w2 ⟨vo, v2, rfl, ho2, hT2, hs2, _⟩
                rw [asksO_filter, asksO_length] at ho2
                rw [asksO_filter] at hT2
                have hTo2 := own_only hTold hs2.1 (fun j hj hf => by
                  rcases hf with hf | hf
                  · rw [hf] at hj; exact own_blk_ne hTold hLt.1.1 (by decide) hj
                  · exact own_apart hTold hLt.1.2.1 (by decide) hj hf)
                have hL2 := hLt.step hT2 hs2
                obtain ⟨q, hq⟩ : ∃ q : Nat → Bool, (fun (i : Nat) => decide (jobOf (askA (i : Int) (c i) (i : Int)) = jb)) = q := ⟨_, rfl⟩
                have hq' : (fun (i : Nat) => !decide (jobOf (askA (i : Int) (c i) (i : Int)) = jb)) = fun i => !q i := by rw [← hq]
                rw [hq] at ho2
                rw [hq'] at hL2
                have hll := hLies.filter q
                have hlL := hLies.filter (fun i => !q i)
                have hdis : ∀ x ∈ L.filter q, x ∉ L.filter (fun i => !q i) := by
                  intro x h1 h2
                  have h3 := (List.mem_filter.1 h1).2
                  have h4 := (List.mem_filter.1 h2).2
                  rw [h3] at h4
                  cases h4
                have htold : toldV L xs.length = toldV ((L.filter q).drop 0 ++ L.filter (fun i => !q i)) xs.length := toldV_congr _ _ _ (fun x _ => by
                  rw [List.drop_zero, List.mem_append, List.mem_filter, List.mem_filter]
                  cases q x <;> simp)
                have HEND : Hid (i = ys.length → L.filter (fun i => !q i) = []) := by
                  intro h
                  omega
                obtain ⟨l, hl⟩ : ∃ l, L.filter q = l := ⟨_, rfl⟩
                obtain ⟨L', hL'⟩ : ∃ L', L.filter (fun i => !q i) = L' := ⟨_, rfl⟩
                rw [hl] at ho2 hll hdis htold
                rw [hL'] at hL2 hlL hdis htold HEND
                rw [htold] at hTo2
                obtain ⟨A7, c7, rfl⟩ := own_slice ho2
                have HO2 := Lib.hid ho2
                have HDIS := Lib.hid hdis
                have HLL := Lib.hid hll
                have HLL2 := Lib.hid hlL
                have HT2 := Lib.hid hTo2
                have HL2 := Lib.hid hL2
                have hll30 : l.length ≤ L.length := by rw [← hl]; exact List.length_filter_le _ _
                clear hl hL' hq hq' htold ho2 hdis hll hlL hT2 hs2 hTold hLt hLies hL2 hTo2 hend
                go_wp2
                go_loopw [12] (fun kv wi => ∃ k : Nat, k ≤ l.length ∧ kv = .int .i64 (k : Int) ∧ wi.ownsRow w.heap.size 3 1 (.slice (some ⟨rt, 0, none⟩) xs.length xs.length) xs.length (toldV (l.drop k ++ L') xs.length) ∧ Only (fun j => j = rt) w2 wi) (fun kv _ => l.length - (intOf kv).toNat)
                case atStart => exact ⟨0, by omega, rfl, HT2.out, Only.refl _ _⟩
                case round =>
                  obtain ⟨k, hk, rfl, hrow, hO⟩ := hrel
                  by_cases hkl : k < l.length
                  · have hrowA := own_only HO2.out hO (fun j hj hf => own_apart HO2.out HT2.out (by decide) hj (by rw [hf]; rfl))
                    obtain ⟨rb, rfl, hcl⟩ := told_cell (k := k) (j := 0) hrowA (asksO_length _ _).symm (asksO_X _ _) (by rw [asksO_length]; exact hkl) (by omega) (Below.refl _ _)
                    obtain ⟨_, h, hcj⟩ := told_cell (k := k) (j := 2) hrowA (asksO_length _ _).symm (asksO_X _ _) (by rw [asksO_length]; exact hkl) (by omega) (Below.refl _ _)
                    injection h with h; injection h with h; subst h
                    obtain ⟨_, h, hcc⟩ := told_cell (k := k) (j := 3) hrowA (asksO_length _ _).symm (asksO_X _ _) (by rw [asksO_length]; exact hkl) (by omega) (Below.refl _ _)
                    injection h with h; injection h with h; subst h
                    rw [asksO_at _ _ _ hkl] at hcl hcj hcc
                    replace hcl : wr.cell? ⟨rb, k * 18, none⟩ = some (.int .i64 (l[k] : Int)) := hcl
                    replace hcj : wr.cell? ⟨rb, k * 18 + 2, none⟩ = some (.int .i64 (c l[k])) := hcj
                    replace hcc : wr.cell? ⟨rb, k * 18 + 3, none⟩ = some (.int .i64 (l[k] : Int)) := hcc
                    have hxn : l[k] < xs.length := HLL.out.2.1 _ (List.getElem_mem hkl)
                    have hdrop : l.drop k = l[k] :: l.drop (k + 1) := List.drop_eq_getElem_cons hkl
                    have hnotin : l[k] ∉ l.drop (k + 1) ++ L' := by
                      rw [List.mem_append]
                      rintro (h | h)
                      · have hp := HLL.out.1.sublist (List.drop_sublist k l)
                        rw [hdrop] at hp
                        have := (List.pairwise_cons.1 hp).1 _ h
                        omega
                      · exact HDIS.out _ (List.getElem_mem hkl) h
                    have hprev : ∀ k', k = k' + 1 → ∃ y : Nat, wr.cell? ⟨rb, k' * 18, none⟩ = some (.int .i64 (y : Int)) ∧ (y : Int) < (l[k] : Int) := by
                      intro k' hk'
                      obtain ⟨_, h, hcp⟩ := told_cell (k := k') (j := 0) hrowA (asksO_length _ _).symm (asksO_X _ _) (by rw [asksO_length]; omega) (by omega) (Below.refl _ _)
                      injection h with h; injection h with h; subst h
                      rw [asksO_at _ _ _ (show k' < l.length by omega)] at hcp
                      refine ⟨l[k']'(by omega), hcp, ?_⟩
                      have := List.pairwise_iff_getElem.1 HLL.out.1 k' k (by omega) hkl (by omega)
                      omega
                    obtain ⟨x, hx⟩ : ∃ x, l[k] = x := ⟨_, rfl⟩
                    rw [hx] at hcl hcj hcc hxn hdrop hnotin hprev
                    clear hx
                    rw [hdrop, List.cons_append] at hrow
                    have hcx : wr.cell? ⟨rt, x, none⟩ = some (.int .i64 0) := by
                      rw [hrow.cellAt x (by omega), toldV_at _ _ _ hxn, if_pos (by simp)]
                    have hfx : wr.frozen? ⟨rt, x, none⟩ = false := hrow.frozenAt x
                    have hsto := (hrow.stored x (.int .i64 1)).1
                    rw [← toldV_set x _ xs.length hnotin] at hsto
                    have HSTO := Lib.hid hsto
                    have hOn : ∀ nq, Only (fun j => j = rt) w2 ((wr.drewN nq).setCell ⟨rt, x, none⟩ (.int .i64 1)) := fun nq => (hO.drewN nq).setCell (Or.inl rfl) _
                    have HON := Lib.hid hOn
                    obtain ⟨adx, rfl, hjx⟩ := nums_at hr hxn ((HL2.out.2.1).trans (hO.below HL2.out.size (fun j hj hf => by have := (HT2.out.lt rt rfl).1; omega)))
                    have HRC := Lib.hid (show xs[x] % 5 = c x by rw [HCF.out]; exact cf_at xs 5 x hxn)
                    obtain ⟨jx, hjx'⟩ : ∃ jx, xs[x] = jx := ⟨_, rfl⟩
                    rw [hjx'] at hjx HRC
                    have bi0 : (0 : Int) ≤ (k : Int) := by omega
                    have bi1 : (k : Int) < (l.length : Int) := by omega
                    have bi2 : (0 : Int) ≤ (x : Int) := by omega
                    have bi3 : (x : Int) < (xs.length : Int) := by omega
                    have hl30 : l.length ≤ 1000 := by omega
                    clear hjx' hsto hOn hrow hdrop hnotin hrowA hO HO2 HDIS HLL HLL2 HT2 HL2 HEND hll30 hr hr1 hw1 hnum hc5 HCF hdl hi hz0 hz1 hz2
                    cases k with
                    | zero =>
                      clear hprev
                      rw [Nat.zero_mul] at hcl
                      rw [Nat.zero_mul, Nat.zero_add] at hcj hcc
                      go_wp2_with fail
                      have gb1 : decide ((x : Int) < 0) = false := decide_eq_false (by omega)
                      have gb2 : decide ((xs.length : Int) ≤ (x : Int)) = false := decide_eq_false (by omega)
                      have gb5 : decide (xs.length ≤ x) = false := decide_eq_false (by omega)
                      have gb6 : (!(c x == c x)) = false := by simp
                      have gb7 : (!((x : Int) == (x : Int))) = false := by simp
                      go_big_quiet (exact quiet_left (roundC jx (c x) _ (by exact HRC.out)))
                      go_wp2
                      go_roundw
                      case rel => exact ⟨1, by omega, by go_num, HSTO.out, HON.out _⟩
                      case measure => simp [intOf]; omega
                    | succ k' =>
                      obtain ⟨y, hcp, hyx⟩ := hprev k' rfl
                      clear hprev
                      have hsb : IntKind.i64.wrap ((k' : Int) + 1 - 1) = (k' : Int) := by rw [IntWalk.i64_in _ (by omega)]; omega
                      have bi4 : (0 : Int) ≤ (k' : Int) := by omega
                      have bi5 : (k' : Int) < (l.length : Int) := by omega
                      have bi6 : (0 : Int) < (k' : Int) + 1 := by omega
                      go_wp2_with fail
                      have gb1 : decide ((x : Int) < 0) = false := decide_eq_false (by omega)
                      have gb2 : decide ((xs.length : Int) ≤ (x : Int)) = false := decide_eq_false (by omega)
                      have gb5 : decide (xs.length ≤ x) = false := decide_eq_false (by omega)
                      have gb6 : (!(c x == c x)) = false := by simp
                      have gb7 : (!((x : Int) == (x : Int))) = false := by simp
                      have gb3 : decide ((0 : Int) < (k' : Int) + 1) = true := decide_eq_true bi6
                      have gb4 : decide ((x : Int) ≤ (y : Int)) = false := decide_eq_false (by omega)
                      have gb8 : decide (x ≤ y) = false := decide_eq_false (by omega)
                      go_big_quiet (exact quiet_left (roundC jx (c x) _ (by exact HRC.out)))
                      clear hsb
                      go_wp2
                      go_roundw
                      case rel => exact ⟨k' + 2, by omega, by go_num, HSTO.out, HON.out _⟩
                      case measure => simp [intOf]; omega
                  · obtain rfl : k = l.length := by omega
                    rw [List.drop_length, List.nil_append] at hrow
                    have hrl := HT2.out.lt rt rfl
                    have hL9 : TLaw w g 40 v2 (asksO c L') wr := ⟨⟨HL2.out.1.1.only hO (fun hf => own_blk_ne HT2.out HL2.out.1.1 (by decide) (by rw [hf]; rfl)), own_only HL2.out.1.2.1 hO (fun j hj hf => own_apart HL2.out.1.2.1 HT2.out (by decide) hj (by rw [hf]; rfl)), HL2.out.1.2.2⟩, HL2.out.2.1.trans (hO.below HL2.out.size (fun j hj hf => by omega)), HL2.out.2.2⟩
                    clear hO
                    go_wp2
                    go_roundw
                    case rel => exact ⟨i + 1, L', v2, by omega, by go_num, ⟨hL9, HLL2.out, hrow⟩, fun h => HEND.out (by omega)⟩
                    case measure => simp [intOf]; omega
              · go_wp2_with fail
                refine (roundL _ 60 _ (by omega) (by omega)).mono ?_
                have hy60 : (Lit.int .i64 (y % 60)).wf = true := wf_small (by have := Int.emod_nonneg y (show (60 : Int) ≠ 0 by omega); omega) (by have := Int.emod_lt_of_pos y (show (0 : Int) < 60 by omega); omega)
                obtain ⟨nw, hnw⟩ : ∃ nw, y % 60 = nw := ⟨_, rfl⟩
                rw [hnw] at hy60 ⊢
                clear hnw
                rintro e w0 ⟨rfl, rfl⟩
                go_wp2_with fail
                refine (tlate_any w.heap.size g 40 nw dl vl _ _ hLt.1 (hnum.out _ hLies) (by rw [asksO_length]; exact hLn) hy60 hdl).mono ?_
                rintro e w2 ⟨vo, v2, rfl, ho2, hT2, hs2, _⟩
                rw [asksO_filter, asksO_length] at ho2
                rw [asksO_filter] at hT2
                have hTo2 := own_only hTold hs2.1 (fun j hj hf => by
                  rcases hf with hf | hf
                  · rw [hf] at hj; exact own_blk_ne hTold hLt.1.1 (by decide) hj
                  · exact own_apart hTold hLt.1.2.1 (by decide) hj hf)
                have hL2 := hLt.step hT2 hs2
                obtain ⟨q, hq⟩ : ∃ q : Nat → Bool, (fun (i : Nat) => decide (cameOf (askA (i : Int) (c i) (i : Int)) + dl ≤ nw)) = q := ⟨_, rfl⟩
                have hq' : (fun (i : Nat) => !decide (cameOf (askA (i : Int) (c i) (i : Int)) + dl ≤ nw)) = fun i => !q i := by rw [← hq]
                rw [hq] at ho2
                rw [hq'] at hL2
                have hll := hLies.filter q
                have hlL := hLies.filter (fun i => !q i)
                have hdis : ∀ x ∈ L.filter q, x ∉ L.filter (fun i => !q i) := by
                  intro x h1 h2
                  have h3 := (List.mem_filter.1 h1).2
                  have h4 := (List.mem_filter.1 h2).2
                  rw [h3] at h4
                  cases h4
                have htold : toldV L xs.length = toldV ((L.filter q).drop 0 ++ L.filter (fun i => !q i)) xs.length := toldV_congr _ _ _ (fun x _ => by
                  rw [List.drop_zero, List.mem_append, List.mem_filter, List.mem_filter]
                  cases q x <;> simp)
                have HEND : Hid (i = ys.length → L.filter (fun i => !q i) = []) := by
                  intro h
                  omega
                obtain ⟨l, hl⟩ : ∃ l, L.filter q = l := ⟨_, rfl⟩
                obtain ⟨L', hL'⟩ : ∃ L', L.filter (fun i => !q i) = L' := ⟨_, rfl⟩
                rw [hl] at ho2 hll hdis htold
                rw [hL'] at hL2 hlL hdis htold HEND
                rw [htold] at hTo2
                obtain ⟨A7, c7, rfl⟩ := own_slice ho2
                have HO2 := Lib.hid ho2
                have HDIS := Lib.hid hdis
                have HLL := Lib.hid hll
                have HLL2 := Lib.hid hlL
                have HT2 := Lib.hid hTo2
                have HL2 := Lib.hid hL2
                have hll30 : l.length ≤ L.length := by rw [← hl]; exact List.length_filter_le _ _
                clear hl hL' hq hq' htold ho2 hdis hll hlL hT2 hs2 hTold hLt hLies hL2 hTo2 hend
                go_wp2
                go_loopw [12] (fun kv wi => ∃ k : Nat, k ≤ l.length ∧ kv = .int .i64 (k : Int) ∧ wi.ownsRow w.heap.size 3 1 (.slice (some ⟨rt, 0, none⟩) xs.length xs.length) xs.length (toldV (l.drop k ++ L') xs.length) ∧ Only (fun j => j = rt) w2 wi) (fun kv _ => l.length - (intOf kv).toNat)
                case atStart => exact ⟨0, by omega, rfl, HT2.out, Only.refl _ _⟩
                case round =>
                  obtain ⟨k, hk, rfl, hrow, hO⟩ := hrel
                  by_cases hkl : k < l.length
                  · have hrowA := own_only HO2.out hO (fun j hj hf => own_apart HO2.out HT2.out (by decide) hj (by rw [hf]; rfl))
                    obtain ⟨rb, rfl, hcl⟩ := told_cell (k := k) (j := 0) hrowA (asksO_length _ _).symm (asksO_X _ _) (by rw [asksO_length]; exact hkl) (by omega) (Below.refl _ _)
                    obtain ⟨_, h, hcj⟩ := told_cell (k := k) (j := 2) hrowA (asksO_length _ _).symm (asksO_X _ _) (by rw [asksO_length]; exact hkl) (by omega) (Below.refl _ _)
                    injection h with h; injection h with h; subst h
                    obtain ⟨_, h, hcc⟩ := told_cell (k := k) (j := 3) hrowA (asksO_length _ _).symm (asksO_X _ _) (by rw [asksO_length]; exact hkl) (by omega) (Below.refl _ _)
                    injection h with h; injection h with h; subst h
                    rw [asksO_at _ _ _ hkl] at hcl hcj hcc
                    replace hcl : wr.cell? ⟨rb, k * 18, none⟩ = some (.int .i64 (l[k] : Int)) := hcl
                    replace hcj : wr.cell? ⟨rb, k * 18 + 2, none⟩ = some (.int .i64 (c l[k])) := hcj
                    replace hcc : wr.cell? ⟨rb, k * 18 + 3, none⟩ = some (.int .i64 (l[k] : Int)) := hcc
                    have hxn : l[k] < xs.length := HLL.out.2.1 _ (List.getElem_mem hkl)
                    have hdrop : l.drop k = l[k] :: l.drop (k + 1) := List.drop_eq_getElem_cons hkl
                    have hnotin : l[k] ∉ l.drop (k + 1) ++ L' := by
                      rw [List.mem_append]
                      rintro (h | h)
                      · have hp := HLL.out.1.sublist (List.drop_sublist k l)
                        rw [hdrop] at hp
                        have := (List.pairwise_cons.1 hp).1 _ h
                        omega
                      · exact HDIS.out _ (List.getElem_mem hkl) h
                    have hprev : ∀ k', k = k' + 1 → ∃ y : Nat, wr.cell? ⟨rb, k' * 18, none⟩ = some (.int .i64 (y : Int)) ∧ (y : Int) < (l[k] : Int) := by
                      intro k' hk'
                      obtain ⟨_, h, hcp⟩ := told_cell (k := k') (j := 0) hrowA (asksO_length _ _).symm (asksO_X _ _) (by rw [asksO_length]; omega) (by omega) (Below.refl _ _)
                      injection h with h; injection h with h; subst h
                      rw [asksO_at _ _ _ (show k' < l.length by omega)] at hcp
                      refine ⟨l[k']'(by omega), hcp, ?_⟩
                      have := List.pairwise_iff_getElem.1 HLL.out.1 k' k (by omega) hkl (by omega)
                      omega
                    obtain ⟨x, hx⟩ : ∃ x, l[k] = x := ⟨_, rfl⟩
                    rw [hx] at hcl hcj hcc hxn hdrop hnotin hprev
                    clear hx
                    rw [hdrop, List.cons_append] at hrow
                    have hcx : wr.cell? ⟨rt, x, none⟩ = some (.int .i64 0) := by
                      rw [hrow.cellAt x (by omega), toldV_at _ _ _ hxn, if_pos (by simp)]
                    have hfx : wr.frozen? ⟨rt, x, none⟩ = false := hrow.frozenAt x
                    have hsto := (hrow.stored x (.int .i64 1)).1
                    rw [← toldV_set x _ xs.length hnotin] at hsto
                    have HSTO := Lib.hid hsto
                    have hOn : ∀ nq, Only (fun j => j = rt) w2 ((wr.drewN nq).setCell ⟨rt, x, none⟩ (.int .i64 1)) := fun nq => (hO.drewN nq).setCell (Or.inl rfl) _
                    have HON := Lib.hid hOn
                    obtain ⟨adx, rfl, hjx⟩ := nums_at hr hxn ((HL2.out.2.1).trans (hO.below HL2.out.size (fun j hj hf => by have := (HT2.out.lt rt rfl).1; omega)))
                    have HRC := Lib.hid (show xs[x] % 5 = c x by rw [HCF.out]; exact cf_at xs 5 x hxn)
                    obtain ⟨jx, hjx'⟩ : ∃ jx, xs[x] = jx := ⟨_, rfl⟩
                    rw [hjx'] at hjx HRC
                    have bi0 : (0 : Int) ≤ (k : Int) := by omega
                    have bi1 : (k : Int) < (l.length : Int) := by omega
                    have bi2 : (0 : Int) ≤ (x : Int) := by omega
                    have bi3 : (x : Int) < (xs.length : Int) := by omega
                    have hl30 : l.length ≤ 1000 := by omega
                    clear hjx' hsto hOn hrow hdrop hnotin hrowA hO HO2 HDIS HLL HLL2 HT2 HL2 HEND hll30 hr hr1 hw1 hnum hc5 HCF hdl hi hz0 hz1 hz2
                    cases k with
                    | zero =>
                      clear hprev
                      rw [Nat.zero_mul] at hcl
                      rw [Nat.zero_mul, Nat.zero_add] at hcj hcc
                      go_wp2_with fail
                      have gb1 : decide ((x : Int) < 0) = false := decide_eq_false (by omega)
                      have gb2 : decide ((xs.length : Int) ≤ (x : Int)) = false := decide_eq_false (by omega)
                      have gb5 : decide (xs.length ≤ x) = false := decide_eq_false (by omega)
                      have gb6 : (!(c x == c x)) = false := by simp
                      have gb7 : (!((x : Int) == (x : Int))) = false := by simp
                      go_big_quiet (exact quiet_left (roundC jx (c x) _ (by exact HRC.out)))
                      go_wp2
                      go_roundw
                      case rel => exact ⟨1, by omega, by go_num, HSTO.out, HON.out _⟩
                      case measure => simp [intOf]; omega
                    | succ k' =>
                      obtain ⟨y, hcp, hyx⟩ := hprev k' rfl
                      clear hprev
                      have hsb : IntKind.i64.wrap ((k' : Int) + 1 - 1) = (k' : Int) := by rw [IntWalk.i64_in _ (by omega)]; omega
                      have bi4 : (0 : Int) ≤ (k' : Int) := by omega
                      have bi5 : (k' : Int) < (l.length : Int) := by omega
                      have bi6 : (0 : Int) < (k' : Int) + 1 := by omega
                      go_wp2_with fail
                      have gb1 : decide ((x : Int) < 0) = false := decide_eq_false (by omega)
                      have gb2 : decide ((xs.length : Int) ≤ (x : Int)) = false := decide_eq_false (by omega)
                      have gb5 : decide (xs.length ≤ x) = false := decide_eq_false (by omega)
                      have gb6 : (!(c x == c x)) = false := by simp
                      have gb7 : (!((x : Int) == (x : Int))) = false := by simp
                      have gb3 : decide ((0 : Int) < (k' : Int) + 1) = true := decide_eq_true bi6
                      have gb4 : decide ((x : Int) ≤ (y : Int)) = false := decide_eq_false (by omega)
                      have gb8 : decide (x ≤ y) = false := decide_eq_false (by omega)
                      go_big_quiet (exact quiet_left (roundC jx (c x) _ (by exact HRC.out)))
                      clear hsb
                      go_wp2
                      go_roundw
                      case rel => exact ⟨k' + 2, by omega, by go_num, HSTO.out, HON.out _⟩
                      case measure => simp [intOf]; omega
                  · obtain rfl : k = l.length := by omega
                    rw [List.drop_length, List.nil_append] at hrow
                    have hrl := HT2.out.lt rt rfl
                    have hL9 : TLaw w g 40 v2 (asksO c L') wr := ⟨⟨HL2.out.1.1.only hO (fun hf => own_blk_ne HT2.out HL2.out.1.1 (by decide) (by rw [hf]; rfl)), own_only HL2.out.1.2.1 hO (fun j hj hf => own_apart HL2.out.1.2.1 HT2.out (by decide) hj (by rw [hf]; rfl)), HL2.out.1.2.2⟩, HL2.out.2.1.trans (hO.below HL2.out.size (fun j hj hf => by omega)), HL2.out.2.2⟩
                    clear hO
                    go_wp2
                    go_roundw
                    case rel => exact ⟨i + 1, L', v2, by omega, by go_num, ⟨hL9, HLL2.out, hrow⟩, fun h => HEND.out (by omega)⟩
                    case measure => simp [intOf]; omega
          · obtain rfl : L = [] := hend (by omega)
            clear hend
            go_wp2
            go_loopw [14] (fun kv wi => ∃ k : Nat, k ≤ xs.length ∧ kv = .int .i64 (k : Int) ∧ wr = wi) (fun kv _ => xs.length - (intOf kv).toNat)
            case atStart => exact ⟨0, by omega, rfl, rfl⟩
            case round =>
              obtain ⟨k, hk, rfl, rfl⟩ := hrel
              by_cases hkx : k < xs.length
              · have hcx := hTold.cellAt k (by omega)
                rw [toldV_at _ _ _ hkx, if_neg (by simp)] at hcx
                have bi0 : (0 : Int) ≤ (k : Int) := by omega
                have bi1 : (k : Int) < (xs.length : Int) := by omega
                go_wp2
                go_roundw
                case rel => exact ⟨k + 1, by omega, by go_num, trivial⟩
                case measure => simp [intOf]; omega
              · have hn0 : (asksO c []).length = 0 := rfl
                go_wp2_with fail
                refine (tlen_any w.heap.size g 40 vl _ _ hLt.1).mono ?_
                rw [hn0]
                rintro e w2 ⟨rfl, rfl⟩
                go_wp2_with fail
                refine (awake_any _).mono ?_
                rintro e v ⟨rfl, hv⟩
                go_wp2
                go_ret
                exact ⟨rfl, hLt.2.1.trans (hv.mono hLt.size)⟩
  · clear hr hr1 hw1 hi hz0 hz1 hz2
    by_cases e1 : 30 < xs.length
    · clear hok
      go_enter Try.func4, Try.ntmps4
      go_wp2_with fail
      refine (awake_any _).mono ?_
      rintro e v ⟨rfl, hv⟩
      go_wp2
      go_ret
      exact ⟨rfl, hv⟩
    · by_cases e2 : 30 < ys.length
      · clear hok
        go_enter Try.func4, Try.ntmps4
        go_wp2_with fail
        refine (awake_any _).mono ?_
        rintro e v ⟨rfl, hv⟩
        go_wp2
        go_ret
        exact ⟨rfl, hv⟩
      · by_cases e3 : dl < 1
        · clear hok
          go_enter Try.func4, Try.ntmps4
          go_wp2_with fail
          refine (awake_any _).mono ?_
          rintro e v ⟨rfl, hv⟩
          go_wp2
          go_ret
          exact ⟨rfl, hv⟩
        · have e4 : 50 < dl := by omega
          clear hok
          go_enter Try.func4, Try.ntmps4
          go_wp2_with fail
          refine (awake_any _).mono ?_
          rintro e v ⟨rfl, hv⟩
          go_wp2
          go_ret
          exact ⟨rfl, hv⟩
end Go.Proofs.Ytigjipjkollohaa
