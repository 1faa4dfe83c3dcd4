/-
  The walk of WnameBack.
-/
import Derived.Test.YtkbbilcohoodlaaWnameNumbers
import Derived.Test.YtkbbilcohoodlaaBackPlain
import Derived.Deep.Onto
namespace Go.Proofs.Ytkbbilcohoodlaa
open Go.RowKit Go.Maps

/-- How many bytes texts have. -/
def sumL (xs : List (List UInt8)) : Nat := (xs.map List.length).sum
theorem sumL_snoc (xs : List (List UInt8)) (k : Nat) (h : k < xs.length) : sumL (xs.take (k + 1)) = sumL (xs.take k) + xs[k].length := by
  unfold sumL; rw [List.take_add_one, List.map_append, List.sum_append, List.getElem?_eq_getElem h]; simp
theorem sumL_le (xs : List (List UInt8)) (k : Nat) : sumL (xs.take k) ≤ sumL xs := by
  have h : sumL xs = sumL (xs.take k ++ xs.drop k) := by rw [List.take_append_drop]
  rw [h]; unfold sumL; rw [List.map_append, List.sum_append]; omega
theorem strs_at {W w : World} {A : Option Addr} {n k : Nat} {xs : List (List UInt8)} (hr : Reads W W.heap.size 1 A n (xs.map fun l => Value.string ⟨l.toArray⟩)) (hk : k < xs.length) (hb : Below W.heap.size W w) :
    ∃ ad, A = some ad ∧ w.cell? (ad.add k) = some (.string ⟨(xs[k]).toArray⟩) := by
  have hn := hr.1
  simp at hn
  obtain ⟨ad, u, rfl, had, hx, hc⟩ := (hr.below hb).at_ (show k < n by omega)
  rw [List.getElem?_map, List.getElem?_eq_getElem hk] at hx
  injection hx with hx
  subst hx
  exact ⟨ad, rfl, hc⟩

def ShortPost (xs : List (List UInt8)) (w : World) (e : Ending) (w' : World) : Prop := ∃ b : Bool, e = .returned (.bool b) ∧ w = w' ∧ (b = true → sumL xs ≤ 2500)

set_option maxRecDepth 20000 in
set_option maxHeartbeats 1000000 in
theorem short_any (A : Option Addr) (n c : Nat) (xs : List (List UInt8)) (w : World) (hl : n = xs.length) (hn : n ≤ 20) (hr : Reads w w.heap.size 1 A n (xs.map fun l => Value.string ⟨l.toArray⟩)) (hw : ∀ x ∈ xs, x.length ≤ maxLen) :
    Calls Try.prog 26 #[.slice A n c, .int .i64 2500] w (ShortPost xs w) := by
  subst hl
  go_enter Try.func26, Try.ntmps26
  go_wp2
  go_loop [5, 6] (fun m i => ∃ k : Nat, k ≤ xs.length ∧ i = .int .i64 (k : Int) ∧ m = .int .i64 ((xs.length + sumL (xs.take k) : Nat) : Int) ∧ xs.length + sumL (xs.take k) ≤ 5000) (fun _ i => xs.length - (intOf i).toNat)
  case atStart => exact ⟨0, by omega, rfl, by simp [sumL], by simp [sumL]; omega⟩
  case round =>
    obtain ⟨k, hk, rfl, rfl, hs⟩ := hrel
    obtain ⟨t, ht⟩ : ∃ t, xs.length + sumL (xs.take k) = t := ⟨_, rfl⟩
    rw [ht] at hs ⊢
    have HT := Lib.hid ht
    clear ht
    by_cases hlt : k < xs.length
    · by_cases ht2 : t ≤ 2500
      · obtain ⟨ad, rfl, hc⟩ := strs_at hr hlt (Below.refl _ _)
        have hx := hw _ (List.getElem_mem hlt)
        have HSN := Lib.hid (sumL_snoc xs k hlt)
        obtain ⟨l, hl⟩ : ∃ l, xs[k] = l := ⟨_, rfl⟩
        rw [hl] at hc hx HSN
        clear hl
        unfold maxLen at hx
        have hsz : (ByteArray.mk l.toArray).size = l.length := by simp [ByteArray.size]
        by_cases hb : 2500 < l.length
        · go_wp2
          go_ret
          exact ⟨false, by first | rfl | exact ret_bool (by simp; omega), rfl, fun h => by cases h⟩
        · go_wp2
          go_round
          case rel => exact ⟨k + 1, by omega, by go_num, by rw [HSN.out, ← Nat.add_assoc, HT.out]; go_num, by rw [HSN.out, ← Nat.add_assoc, HT.out]; omega⟩
          case measure => simp [intOf]; omega
      · go_wp2
        go_ret
        exact ⟨false, by first | rfl | exact ret_bool (by simp; omega), rfl, fun h => by cases h⟩
    · go_wp2
      go_ret
      refine ⟨decide (t ≤ 2500), ret_bool (by rw [decide_eq_decide]; omega), rfl, fun h => ?_⟩
      have h1 := HT.out
      rw [List.take_of_length_le (by omega)] at h1
      simp at h
      omega

theorem bools_at {W w : World} {A : Option Addr} {n k : Nat} {ys : List Bool} (hr : Reads W W.heap.size 1 A n (ys.map Value.bool)) (hk : k < ys.length) (hb : Below W.heap.size W w) :
    ∃ ad, A = some ad ∧ w.cell? (ad.add k) = some (.bool ys[k]) := by
  have hn := hr.1
  simp at hn
  obtain ⟨ad, u, rfl, had, hx, hc⟩ := (hr.below hb).at_ (show k < n by omega)
  rw [List.getElem?_map, List.getElem?_eq_getElem hk] at hx
  injection hx with hx
  subst hx
  exact ⟨ad, rfl, hc⟩
theorem own_ne_own {w : World} {base base' e e' size size' n n' : Nat} {v v' : Value} {xs xs' : List Value} (h : w.ownsRow base e size v n xs) (h' : w.ownsRow base' e' size' v' n' xs') (hne : e ≠ e') {i : Nat} (hi : v.ownBlock = some i) : v'.ownBlock ≠ some i := by
  intro hi'
  rcases h.2 with ⟨rfl, _⟩ | ⟨g, cap, cur, rfl, _, hh, _⟩
  · cases hi
  · rcases h'.2 with ⟨rfl, _⟩ | ⟨g', cap', cur', rfl, _, hh', _⟩
    · cases hi'
    · injection hi with hi
      injection hi' with hi'
      have e1 : g = i := hi
      have e2 : g' = i := hi'
      subst e1 e2
      rw [hh] at hh'
      injection hh' with hh'
      injection hh' with _ hh'
      exact hne hh'
/-- The places, as the row holds them. -/
def intsV (p : Nat → Nat) (k : Nat) : List Value := (List.range k).map fun j => .int .i64 (p j : Int)
theorem intsV_snoc (p : Nat → Nat) (k : Nat) : intsV p (k + 1) = intsV p k ++ [.int .i64 (p k : Int)] := by unfold intsV; rw [List.range_succ, List.map_append]; rfl
theorem intsV_same (p q : Nat → Nat) (k : Nat) (h : ∀ j, j < k → p j = q j) : intsV p k = intsV q k := by
  unfold intsV; apply List.map_congr_left; intro j hj; rw [h j (List.mem_range.1 hj)]
theorem intsV_at (p : Nat → Nat) (k j : Nat) (h : j < k) : (intsV p k)[j]? = some (.int .i64 (p j : Int)) := by
  unfold intsV; rw [List.getElem?_map, List.getElem?_range h]; rfl
theorem ints_at {w w' : World} {base n k c : Nat} {A : Option Addr} {p : Nat → Nat} (ho : w.ownsRow base 3 1 (.slice A n c) n (intsV p n)) (hk : k < n) (hb : Below w.heap.size w w') :
    ∃ ad, A = some ad ∧ w'.cell? (ad.add k) = some (.int .i64 (p k : Int)) := by
  obtain ⟨ad, u, rfl, had, hx, hc⟩ := ((Reads.of_own ho).below hb).at_ hk
  rw [intsV_at p n k hk] at hx
  injection hx with hx
  subst hx
  exact ⟨ad, rfl, hc⟩
/-- What stays of what was got ready: the names got again. -/
def Gets (xs : List (List UInt8)) (b : List UInt8) (p : Nat → Nat) (k : Nat) : Prop := ∀ j (h : j < xs.length), j < k → xs[j].length ≤ 255 ∧ Sp b (p j) (p j) xs[j] (p (j + 1))
def BackRel (xs : List (List UInt8)) (g mb : Nat) (u : World) (k : Nat) (v : Value) (wr : World) : Prop :=
  ∃ bv D nn b f p, WrAt wr g mb bv 4000 b D nn false ∧ WrStep g mb (.slice none 0 0) bv u wr ∧ MetIs D f ∧ SmallM f ∧ nn ≤ b.length ∧ Inv b f ∧ 2 ≤ b.length ∧ b.length ≤ 2 + sumL (xs.take k) ∧ p k = b.length ∧
    wr.ownsRow u.heap.size 3 1 v k (intsV p k) ∧ Gets xs b p k

theorem len_int2 (g mb n : Nat) (bv : Value) (most : Int) (b : List UInt8) (D : DataW Unit) (wrong : Bool) (x : Int) (w : World) (h : WrAt w g mb bv most b D n wrong) (hx : (b.length : Int) = x) :
    Calls Try.prog 16 #[.pointer (some ⟨g, 0, none⟩)] w fun e w' => e = .returned (.int .i64 x) ∧ w = w' := by
  subst hx; exact len_any g mb n bv most b D wrong w h
theorem backRel_start {xs : List (List UInt8)} {g mb : Nat} {u1 u2 : World} {bv : Value} (h : WrAt u2 g mb bv 4000 ([] ++ twoB 7) (.map []) 0 false) (hs : WrStep g mb (.slice none 0 0) bv u1 u2) : BackRel xs g mb u1 0 (.slice none 0 0) u2 :=
  ⟨bv, .map [], 0, _, none_, fun _ => 2, h, hs, metIs_new, (fun k v h => by cases h), Nat.zero_le _, inv_none _, by simp [twoB], by simp [twoB], by simp [twoB], World.ownsRow_nil _ _ _ _, fun j _ h => by omega⟩
theorem BackRel.below {xs : List (List UInt8)} {g mb k : Nat} {u w wr : World} {v : Value} (h : BackRel xs g mb u k v wr) (hb : Below w.heap.size w u) (hg : w.heap.size ≤ g) (hm : w.heap.size ≤ mb) : Below w.heap.size w wr := by
  obtain ⟨bv, D, nn, b, f, p, _, hs, _⟩ := h
  exact step_below hb hg hm hs
theorem BackRel.later {xs : List (List UInt8)} {g mb k : Nat} {u wr w' : World} {v : Value} (h : BackRel xs g mb u k v wr) (hb : Below wr.heap.size wr w') : BackRel xs g mb u k v w' := by
  obtain ⟨bv, D, nn, b, f, p, h1, h2, h3, h4, h5, h6, h7, h8, h9, h10, h11⟩ := h
  exact ⟨bv, D, nn, b, f, p, h1.below hb, h2.trans ⟨Only.of_below hb _, Or.inl rfl⟩, h3, h4, h5, h6, h7, h8, h9, own_only h10 (Only.of_below hb (fun _ => False)) (fun _ _ h => h), h11⟩

theorem Try.infoInt : (Try.prog.info? 3).map (fun i => (i.zero, i.size, i.bytes)) = some (some (.int .i64 0), 1, 8) := by kernel_rfl
section
variable {g mb n : Nat} {u wr w2 : World} {bv v : Value} {b : List UInt8} {D : DataW Unit} {base k : Nat} {l : List Value}
theorem own_not_fp (hw : WrAt wr g mb bv 4000 b D n false) (ho : wr.ownsRow base 3 1 v k l) (i : Nat) (hi : v.ownBlock = some i) : ¬ fpW g mb bv i := by
  rintro (rfl | rfl | h)
  · exact own_blk_ne ho hw.1 (by decide) hi
  · exact map_ne_own hw.2.2 ho hi
  · exact own_ne_own ho hw.2.1 (by decide) hi h
theorem back_appended (hw : WrAt wr g mb bv 4000 b D n false) (hs : WrStep g mb (.slice none 0 0) bv u wr) (ho : wr.ownsRow u.heap.size 3 1 v k l) (o : Obj) (hgr : (wr.alloc o).grownBy w2 v.ownBlock) :
    WrAt w2 g mb bv 4000 b D n false ∧ WrStep g mb (.slice none 0 0) bv u w2 := by
  refine ⟨(hw.alloc o).only ((Only.refl (fun i => v.ownBlock = some i) _).grown hgr (fun i hi => Or.inl hi)) (fun i hf hi => own_not_fp hw ho i hi hf), (hs.1.alloc o).grown hgr (fun i hi => Or.inr (ho.lt i hi).1), hs.2⟩
end
theorem gets_step {xs : List (List UInt8)} {b b' : List UInt8} {f f' : Met} {k : Nat} {p : Nat → Nat} {l : List UInt8} {sq : Bool} (hlt : k < xs.length) (hl : xs[k] = l) (hv : validB l = true) (hi : Inv b f) (h2 : 2 ≤ b.length) (hpk : p k = b.length)
    (hg : Gets xs b p k) (hres : nameW sq (labsFrom l 0) b f = (b', f')) :
    Inv b' f' ∧ 2 ≤ b'.length ∧ b'.length ≤ b.length + l.length ∧ (sq = false → b'.length = b.length + l.length) ∧ Gets xs b' (fun j => if j ≤ k then p j else b'.length) (k + 1) := by
  obtain ⟨hmd, hgd⟩ := made_of_valid hv
  obtain ⟨h1, h3⟩ := nameW_back sq (labsFrom l 0) b f hgd h2 hi
  obtain ⟨x, hx⟩ := nameW_prefix sq (labsFrom l 0) b f
  have hle := nameW_le sq (labsFrom l 0) b f
  rw [hres, hmd] at h3
  rw [hres] at h1 hx
  rw [hres, hmd] at hle
  refine ⟨h1, ?_, hle, ?_, ?_⟩
  · show 2 ≤ b'.length
    rw [show b' = b ++ x from hx, List.length_append]; omega
  · rintro rfl
    have h := nameW_whole (labsFrom l 0) b f
    rw [hres, hmd] at h
    rw [show b' = b ++ l from h, List.length_append]
  · intro j hj hjk
    by_cases hjk2 : j < k
    · obtain ⟨g1, g2⟩ := hg j hj hjk2
      refine ⟨g1, ?_⟩
      simp only [if_pos (show j ≤ k by omega), if_pos (show j + 1 ≤ k by omega)]
      rw [show b' = b ++ x from hx]
      exact g2.agree (agree_append _ _)
    · obtain rfl : j = k := by omega
      simp only [Nat.le_refl, if_true, if_neg (show ¬ j + 1 ≤ j by omega)]
      rw [hl, hpk]
      exact ⟨validB_le hv, h3⟩

theorem ints_cell {w w' : World} {base n k c g : Nat} {p : Nat → Nat} (ho : w.ownsRow base 3 1 (.slice (some ⟨g, 0, none⟩) n c) n (intsV p n)) (hk : k < n) (hb : Below w.heap.size w w') :
    w'.cell? ⟨g, k, none⟩ = some (.int .i64 (p k : Int)) := by
  obtain ⟨ad, h, hc⟩ := ints_at ho hk hb
  injection h with h
  subst h
  have e : (⟨g, 0, none⟩ : Addr).add k = ⟨g, k, none⟩ := by unfold Addr.add; split <;> simp_all
  rw [e] at hc
  exact hc
/-- What Set writes at the front. -/
theorem set_zero {b b8 : List UInt8} {x : Int} (h : setB b 0 x = b8) (h2 : 2 ≤ b.length) : b8.length = b.length ∧ b8[0]? = some (byI (x / 256)) ∧ b8[1]? = some (byI x) ∧ Agree b b8 := by
  subst h
  unfold setB
  rw [if_pos (by omega)]
  refine ⟨by simp, ?_, ?_, ?_⟩
  · rw [List.getElem?_set_ne (by decide)]; exact List.getElem?_set_self (by omega)
  · exact List.getElem?_set_self (by rw [List.length_set]; omega)
  · intro i c hi h
    rw [List.getElem?_set_ne (by simp; omega), List.getElem?_set_ne (by simp; omega)]; exact h
theorem gets_agree {xs : List (List UInt8)} {b b8 : List UInt8} {p : Nat → Nat} {k : Nat} (h : Gets xs b p k) (ha : Agree b b8) : Gets xs b8 p k := fun j hj hk => ⟨(h j hj hk).1, (h j hj hk).2.agree ha⟩
theorem byte_int {k : Nat} {b : List UInt8} {x : Int} (hc : b[k]? = some (byI x)) : (bytesV b)[k]? = some (.int .u8 (x % 256)) := by
  have hlt := at_lt hc
  unfold bytesV
  rw [List.getElem?_map, hc, Option.map_some, byteV_byI]

theorem mask_byte (x : Int) : bits .and .i64 x 255 = x % 256 := by
  show IntKind.i64.wrap ((BitVec.ofInt 64 x &&& BitVec.ofInt 64 255).toNat : Int) = _
  have h : (BitVec.ofInt 64 255).toNat = 255 := by decide
  rw [BitVec.toNat_and, h, BitVec.toNat_ofInt, nat_mask8, IntWalk.i64_in _ (by omega)]
  omega

set_option maxRecDepth 200000 in
set_option maxHeartbeats 4000000 in
theorem walkWnameBack (A : Option Addr) (n c : Nat) (xs : List (List UInt8)) (A1 : Option Addr) (n1 c1 : Nat) (ys : List Bool) (a2 : Int) (w : World)
    (hl : n = xs.length) (_hc : n ≤ c) (_hn : c ≤ maxLen) (hr : Reads w w.heap.size 1 A n (xs.map fun l => .string ⟨l.toArray⟩)) (hw : ∀ x ∈ xs, x.length ≤ maxLen)
    (hl1 : n1 = ys.length) (_hc1 : n1 ≤ c1) (_hn1 : c1 ≤ maxLen) (hr1 : Reads w w.heap.size 1 A1 n1 (ys.map Value.bool)) (_w2 : (Lit.int .i64 a2).wf = true) :
    Calls Try.prog 7 #[.slice A n c, .slice A1 n1 c1, .int .i64 a2] w fun e w' => e = .returned (.bool true) ∧ Below w.heap.size w w' := by
  subst hl hl1
  clear _hc _hn _hc1 _hn1 _w2
  obtain ⟨i0, hi, hz0, hz1, hz2⟩ := info_parts Try.infoInt
  by_cases hok : xs.length ≤ 20 ∧ xs.length ≤ ys.length ∧ ys.length ≤ 60
  · obtain ⟨q1, q2, q3⟩ := hok
    go_enter Try.func7, Try.ntmps7
    go_wp2_with fail
    refine (short_any A _ c xs _ rfl q1 hr hw).mono ?_
    rintro e w0 ⟨sb, rfl, rfl, hsb⟩
    cases sb
    · go_wp2_with fail
      refine (awake_any _).mono ?_
      rintro e v ⟨rfl, hv⟩
      go_wp2
      go_ret
      exact ⟨rfl, hv⟩
    · have HSB := Lib.hid (hsb rfl)
      clear hsb
      go_wp2_with fail
      refine (new_any 4000 _).mono ?_
      rintro e u1 ⟨g, mb, rfl, hw1, hb1, hg, hmb⟩
      go_wp2_with fail
      refine (two_any g mb _ _ 4000 [] _ false 7 _ hw1 (by simp)).mono ?_
      rintro e u2 ⟨rfl, bv2, hw2, hs2⟩
      go_wp2_with fail
      go_loopw [8, 9] (fun v i wr => ∃ k : Nat, k ≤ xs.length ∧ i = .int .i64 (k : Int) ∧ BackRel xs g mb u1 k v wr) (fun _ i _ => xs.length - (intOf i).toNat)
      case atStart => exact ⟨0, by omega, rfl, backRel_start hw2 hs2⟩
      case round =>
        obtain ⟨k, hk, rfl, hR⟩ := hrel
        have hbw := hR.below hb1 hg hmb
        by_cases hlt : k < xs.length
        · obtain ⟨ad, rfl, hcx⟩ := strs_at hr hlt hbw
          obtain ⟨ad1, rfl, hcy⟩ := bools_at hr1 (show k < ys.length by omega) hbw
          have hxl := hw _ (List.getElem_mem hlt)
          obtain ⟨l, hl⟩ : ∃ l, xs[k] = l := ⟨_, rfl⟩
          obtain ⟨q, hq⟩ : ∃ q, ys[k]'(by omega) = q := ⟨_, rfl⟩
          rw [hl] at hcx hxl
          rw [hq] at hcy
          have HL := Lib.hid hl
          have HQ := Lib.hid hq
          clear hl hq
          unfold maxLen at hxl
          cases hv : validB l
          · go_wp2_with fail
            refine (refValid_l l _ (by unfold maxLen; omega)).mono ?_
            rw [hv]
            rintro e u3 ⟨rfl, hu3⟩
            go_wp2_with fail
            refine (awake_any _).mono ?_
            rintro e v ⟨rfl, hv⟩
            go_wp2
            go_ret
            have hz := hbw.trans (hu3.mono hbw.size)
            exact ⟨rfl, hz.trans (hv.mono hz.size)⟩
          · have HV := Lib.hid hv
            go_wp2_with fail
            refine (refValid_l l _ (by unfold maxLen; omega)).mono ?_
            rw [hv]
            rintro e u3 ⟨rfl, hu3⟩
            clear hv
            have hR3 := hR.later hu3
            have hbw3 := hbw.trans (hu3.mono hbw.size)
            have HCX : Hid (∀ w' : World, Below w.heap.size w w' → w'.cell? (ad.add k) = some (.string ⟨l.toArray⟩)) := by
              intro w' hb'
              obtain ⟨ad', h, hc⟩ := strs_at hr hlt hb'
              injection h with h; subst h
              rw [HL.out] at hc; exact hc
            have HCY : Hid (∀ w' : World, Below w.heap.size w w' → w'.cell? (ad1.add k) = some (.bool q)) := by
              intro w' hb'
              obtain ⟨ad', h, hc⟩ := bools_at hr1 (show k < ys.length by omega) hb'
              injection h with h; subst h
              rw [HQ.out] at hc; exact hc
            clear hR hcx hcy hbw hu3
            obtain ⟨bv, D, nn, b, f, p, hw3, hs3, hm3, hsm3, hn3, hi3, h23, hbl3, hp3, hown3, hgt3⟩ := hR3
            have HI3 := Lib.hid hi3
            have HGT3 := Lib.hid hgt3
            have hsl := sumL_le xs k
            have hsb := HSB.out
            clear hi3 hgt3
            go_wp2_with fail
            refine (len_any g mb _ _ 4000 b D false _ hw3).mono ?_
            rintro e u4 ⟨rfl, rfl⟩
            go_wp2_with (at_builtin; refine wpList_append_own _ rfl (.tmp 55) (.tmp 58) 30 rfl u1.heap.size 3 i0 (.int .i64 0) 1 8 Try.underlying30 hi hz0 hz1 hz2 rfl (by decide) _ _ _ rfl (hown3.alloc _) ⟨u3.heap.size, 0, none⟩ 1 1 [.int .i64 (b.length : Int)] rfl rfl ?c1 ?c2 ?c3 ?c4 ?c5 ?_)
            case c1 =>
              intro j u hj
              match j, hj with
              | 0, hj => simp at hj; subst hj; simp [Addr.add]
            case c2 => intro u hu; simp at hu; subst hu; rfl
            case c3 => unfold maxLen; omega
            case c4 => omega
            case c5 => have := hs3.1.size; simp; omega
            intro v' u5 hown5 hgr _
            obtain ⟨hw5, hs5⟩ := back_appended hw3 hs3 hown3 _ hgr
            clear hw3 hs3 hown3 hgr
            obtain ⟨⟨b6, f6⟩, hres⟩ : ∃ r, nameW q (labsFrom l 0) b f = r := ⟨_, rfl⟩
            obtain ⟨g1, g2, g3, g4, g5⟩ := gets_step hlt HL.out HV.out HI3.out h23 hp3 HGT3.out hres
            obtain ⟨P, hP⟩ : ∃ P : Nat → Nat, (fun j => if j ≤ k then p j else b6.length) = P := ⟨_, rfl⟩
            rw [hP] at g5
            have hPk : P k = b.length := by rw [← hP]; simp [hp3]
            have hPk1 : P (k + 1) = b6.length := by rw [← hP]; exact if_neg (by omega)
            obtain ⟨A2, c2, rfl⟩ := own_slice hown5
            have hown6 : u5.ownsRow u1.heap.size 3 1 (.slice A2 (k + 1) c2) (k + 1) (intsV P (k + 1)) := by
              rw [intsV_snoc, intsV_same P p k (by intro j hj; rw [← hP]; simp; omega), hPk]; exact hown5
            have HG1 := Lib.hid g1
            have HG5 := Lib.hid g5
            clear hP hown5
            have HRES := Lib.hid hres
            clear g1 g5 hres
            have hbw5 := step_below hb1 hg hmb hs5
            have hcx5 := HCX.out _ hbw5
            have hcy5 := HCY.out _ hbw5
            have hL5 : u5.cell? (ad.add k) = some (.string ⟨l.toArray⟩) ∧ u5.cell? (ad1.add k) = some (.bool q) := ⟨hcx5, hcy5⟩
            have bi0 : (0 : Int) ≤ (k : Int) := by omega
            have bi1 : (k : Int) < (xs.length : Int) := by omega
            have bi2 : (k : Int) < (ys.length : Int) := by omega
            have bi3 : (k : Int) < (k : Int) + 1 := by omega
            go_wp2_with fail
            go_region_held3 (fun w' => w'.cell? (ad.add k) = some (.string ⟨l.toArray⟩) ∧ w'.cell? (ad1.add k) = some (.bool q))
              (first | exact L6 | exact hL5 | go_keep)
              (first | (go_at_call 15; refine (name_ok g mb nn bv 4000 b D false f l q (b6, f6) _ (by exact hw5) hm3 hsm3 hn3 (by omega) HV.out HRES.out).mono ?_; rintro e u6 ⟨rfl, bv6, D6, n6, hw6, hs6, hm6, hsm6, hn6⟩; have hst6 := (show WrStep g mb (.slice none 0 0) bv u1 u5.drew from ⟨hs5.1.drew, hs5.2⟩).trans hs6; have hbw6 := step_below hb1 hg hmb hst6; have hown7 := own_only (World.ownsRow.drew hown6) hs6.1 (own_not_fp hw5.drew (World.ownsRow.drew hown6)); have L6 := And.intro (HCX.out _ hbw6) (HCY.out _ hbw6)))
            obtain ⟨ad2, rfl, hca⟩ := ints_at hown7 (show k < k + 1 by omega) (Below.refl _ _)
            rw [hPk] at hca
            obtain ⟨lc1, lc2⟩ := L6
            have hL6 : u6.cell? (ad.add k) = some (.string ⟨l.toArray⟩) ∧ u6.cell? (ad1.add k) = some (.bool q) ∧ u6.cell? (ad2.add k) = some (.int .i64 (b.length : Int)) := ⟨lc1, lc2, hca⟩
            have hsn := sumL_snoc xs k hlt
            rw [HL.out] at hsn
            have hR6 : BackRel xs g mb u1 (k + 1) (.slice (some ad2) (k + 1) c2) u6 := ⟨bv6, D6, n6, b6, f6, P, hw6, hst6, hm6, hsm6, hn6, HG1.out, g2, by show b6.length ≤ _; omega, hPk1, hown7, HG5.out⟩
            have HR6 := Lib.hid hR6
            have e1 : ¬ ((b.length : Int) + (l.length : Int) < (b6.length : Int)) := by have : b6.length ≤ b.length + l.length := g3; omega
            clear hR6 hown7 hst6 hown6 hs5 hs6 hcx5 hcy5 hL5 hsn hw5
            have hsz : (ByteArray.mk l.toArray).size = l.length := by simp [ByteArray.size]
            have hl255 := validB_le HV.out
            have e4 : IntKind.i64.wrap ((b.length : Int) + (l.length : Int)) = (b.length : Int) + (l.length : Int) := IntWalk.i64_in _ (by omega)
            cases q
            · have e2 : (b6.length : Int) = (b.length : Int) + (l.length : Int) := by have : b6.length = b.length + l.length := g4 rfl; omega
              go_wp2_with fail
              go_region_held3 (fun w' => w'.cell? (ad.add k) = some (.string ⟨l.toArray⟩) ∧ w'.cell? (ad1.add k) = some (.bool false) ∧ w'.cell? (ad2.add k) = some (.int .i64 (b.length : Int)))
                (first | exact hL6 | go_keep)
                (first | (go_at_call 16; refine (len_int2 g mb n6 bv6 4000 b6 D6 false ((b.length : Int) + (l.length : Int)) _ (by exact hw6) e2).mono ?_; rintro e u7 ⟨rfl, rfl⟩))
              clear e4
              go_wp2
              go_roundw
              case rel => exact ⟨k + 1, by omega, by go_num, HR6.out.later (by first | exact Below.refl _ _ | exact (Below.refl _ _).drew | exact (Below.refl _ _).drew.drew | exact below_drewN (Below.refl _ _) _)⟩
              case measure => simp [intOf]; omega
            ·
              go_wp2_with fail
              have e7 : (!true) = false := rfl
              have e5 : decide ((b.length : Int) + (l.length : Int) < (b6.length : Int)) = false := by rw [decide_eq_false_iff_not]; omega
              have e6 : ((b.length : Int) + (l.length : Int) < (b6.length : Int)) = False := by rw [eq_iff_iff, iff_false]; omega
              go_quiet (exact quiet_left (len_int2 g mb n6 bv6 4000 b6 D6 false (b6.length : Int) _ (by exact hw6.drewN _) rfl))
              clear e4
              go_wp2
              go_roundw
              case rel => exact ⟨k + 1, by omega, by go_num, HR6.out.later (by first | exact Below.refl _ _ | exact (Below.refl _ _).drew | exact (Below.refl _ _).drew.drew | exact below_drewN (Below.refl _ _) _)⟩
              case measure => simp [intOf]; omega
        · obtain rfl : k = xs.length := by omega
          obtain ⟨bv, D, nn, b, f, p, hw3, hs3, _, _, _, _, h23, hbl3, hp3, hown3, hgt3⟩ := hR
          have hsl := sumL_le xs xs.length
          have hsb := HSB.out
          have HGT3 := Lib.hid hgt3
          clear hgt3 hbw hlt hk
          go_wp2_with fail
          refine (len_any g mb _ _ 4000 b D false _ hw3).mono ?_
          rintro e u4 ⟨rfl, rfl⟩
          go_wp2_with (at_builtin; refine wpList_append_own _ rfl (.tmp 105) (.tmp 108) 30 rfl u1.heap.size 3 i0 (.int .i64 0) 1 8 Try.underlying30 hi hz0 hz1 hz2 rfl (by decide) _ _ _ rfl (hown3.alloc _) ⟨wr.heap.size, 0, none⟩ 1 1 [.int .i64 (b.length : Int)] rfl rfl ?c1 ?c2 ?c3 ?c4 ?c5 ?_)
          case c1 =>
            intro j u hj
            match j, hj with
            | 0, hj => simp at hj; subst hj; simp [Addr.add]
          case c2 => intro u hu; simp at hu; subst hu; rfl
          case c3 => unfold maxLen; omega
          case c4 => omega
          case c5 => have := hs3.1.size; simp; omega
          intro v' u5 hown5 hgr _
          obtain ⟨hw5, hs5⟩ := back_appended hw3 hs3 hown3 _ hgr
          clear hw3 hs3 hown3 hgr
          obtain ⟨A2, c2, rfl⟩ := own_slice hown5
          have hown6 : u5.ownsRow u1.heap.size 3 1 (.slice A2 (xs.length + 1) c2) (xs.length + 1) (intsV p (xs.length + 1)) := by
            rw [intsV_snoc, hp3]; exact hown5
          clear hown5
          go_wp2_with fail
          refine (set_any g mb _ _ 4000 b D false 0 a2 _ hw5 (by omega)).mono ?_
          rintro e u6 ⟨rfl, hw6, ho6⟩
          have hown7 := own_only hown6 ho6 (own_not_fp hw5 hown6)
          have hst6 := hs5.trans ⟨ho6, Or.inl rfl⟩
          have hbw6 := step_below hb1 hg hmb hst6
          obtain ⟨b8, hb8⟩ : ∃ b8, setB b 0 a2 = b8 := ⟨_, rfl⟩
          rw [hb8] at hw6
          obtain ⟨s1, s2, s3, s4⟩ := set_zero hb8 h23
          have HGT8 := Lib.hid (gets_agree HGT3.out s4)
          clear hown6 hw5 hs5 ho6 hst6 hb8 s4
          have HO := Lib.hid hown7
          have HW := Lib.hid hbw6
          clear hown7 hbw6
          go_wp2_with fail
          refine (out_ok g mb _ _ 4000 b8 D _ hw6 (by omega) (by omega)).mono ?_
          rintro e u7 ⟨A7, c7, rfl, ho7, hb7⟩
          obtain ⟨rb, cap, hA, _, _⟩ := ho7.form (by omega)
          injection hA with hA _ hcc
          subst hA hcc
          have hc0 : u7.cell? ⟨rb, 0, none⟩ = some (.int .u8 (a2 / 256 % 256)) := by rw [ho7.cellAt _ (by omega)]; exact byte_int s2
          have hc1 : u7.cell? ⟨rb, 1, none⟩ = some (.int .u8 (a2 % 256)) := by rw [ho7.cellAt _ (by omega)]; exact byte_int s3
          have hm0 := mask_byte (a2 / 256)
          have hm1 := mask_byte a2
          have hbw7 := HW.out.trans (hb7.mono HW.out.size)
          have hr7 := Reads.of_own ho7
          have hcap7 := own_le_cap ho7
          rw [s1] at hr7 hcap7
          have hl8 : b.length ≤ 1000000 := by omega
          have HR7 := Lib.hid hr7
          have HO7 := Lib.hid (own_only HO.out (Only.of_below hb7 (fun _ => False)) (fun _ _ h => h))
          obtain ⟨rb2, cap2, hA2, _, _⟩ := HO7.out.form (by omega)
          injection hA2 with hA2 _ hcc2
          subst hA2 hcc2
          clear ho7 hr7
          go_wp2_with fail
          clear hc0 hc1 hm0 hm1 hsl hsb h23 hbl3 s2 s3
          go_loopw [12] (fun i wr => ∃ k : Nat, k ≤ xs.length ∧ i = .int .i64 (k : Int) ∧ Below u7.heap.size u7 wr) (fun i _ => xs.length - (intOf i).toNat)
          case atStart => exact ⟨0, by omega, rfl, Below.refl _ _⟩
          case round =>
            obtain ⟨k, hk, rfl, hB⟩ := hrel
            have hbwr := hbw7.trans (hB.mono hbw7.size)
            by_cases hlt : k < xs.length
            · obtain ⟨ad, rfl, hcx⟩ := strs_at hr hlt hbwr
              have hca := ints_cell HO7.out (show k < xs.length + 1 by omega) hB
              obtain ⟨g1, g2⟩ := HGT8.out k hlt hlt
              have HX := Lib.hid (g2.getL g1)
              obtain ⟨l, hl⟩ : ∃ l, xs[k] = l := ⟨_, rfl⟩
              obtain ⟨pk, hpk⟩ : ∃ pk, p k = pk := ⟨_, rfl⟩
              obtain ⟨pk1, hpk1⟩ : ∃ pk1, p (k + 1) = pk1 := ⟨_, rfl⟩
              have HL := Lib.hid hl
              have HP := Lib.hid hpk1
              rw [hl, hpk, hpk1] at HX
              rw [hpk] at hca
              clear g1 g2 hl hpk hpk1 hcx
              have bi0 : (0 : Int) ≤ (k : Int) := by omega
              have bi1 : (k : Int) < (xs.length : Int) := by omega
              have bi2 : (k : Int) + 1 < (xs.length : Int) + 1 := by omega
              go_wp2_with fail
              refine (get_ok _ _ _ b8 _ l pk1 _ ((HR7.out.below hB).more hB.size) hcap7 hl8 HX.out).mono ?_
              rintro e u9 ⟨rfl, hb9⟩
              have hB9 := hB.trans (hb9.mono hB.size)
              have hbw9 := hbw7.trans (hB9.mono hbw7.size)
              obtain ⟨ad', h, hcx⟩ := strs_at hr hlt hbw9
              injection h with h
              subst h
              rw [HL.out] at hcx
              have hca := ints_cell HO7.out (show k + 1 < xs.length + 1 by omega) hB9
              rw [HP.out] at hca
              go_wp2
              go_roundw
              case rel => exact ⟨k + 1, by omega, by go_num, hB9⟩
              case measure => simp [intOf]; omega
            · obtain rfl : k = xs.length := by omega
              go_wp2_with fail
              refine (awake_any _).mono ?_
              rintro e v ⟨rfl, hv⟩
              go_wp2
              go_ret
              exact ⟨rfl, hbwr.trans (hv.mono hbwr.size)⟩
  · clear hr hw hr1 hi hz0 hz1 hz2
    by_cases e1 : 20 < xs.length
    · clear hok
      go_enter Try.func7, Try.ntmps7
      go_wp2_with fail
      refine (awake_any _).mono ?_
      rintro e v ⟨rfl, hv⟩
      go_wp2
      go_ret
      exact ⟨rfl, hv⟩
    · by_cases e2 : ys.length < xs.length
      · clear hok
        go_enter Try.func7, Try.ntmps7
        go_wp2_with fail
        refine (awake_any _).mono ?_
        rintro e v ⟨rfl, hv⟩
        go_wp2
        go_ret
        exact ⟨rfl, hv⟩
      · have e3 : 60 < ys.length := by omega
        clear hok
        go_enter Try.func7, Try.ntmps7
        go_wp2_with fail
        refine (awake_any _).mono ?_
        rintro e v ⟨rfl, hv⟩
        go_wp2
        go_ret
        exact ⟨rfl, hv⟩
end Go.Proofs.Ytkbbilcohoodlaa
