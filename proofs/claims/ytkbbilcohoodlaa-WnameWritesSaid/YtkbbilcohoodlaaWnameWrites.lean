/-
  The walk of WnameWrites.
-/
import Derived.Test.YtkbbilcohoodlaaRefName
import Derived.Deep.RegionLaw
namespace Go.Proofs.Ytkbbilcohoodlaa
open Go.RowKit Go.Maps

/-- An Act that came in. -/
structure ActD where
  kind : Int
  A : Option Addr
  m : Nat
  c : Nat
  bs : List UInt8
  n : Int
  s : List UInt8
def ActD.ok (W : World) (x : ActD) : Prop := x.m = x.bs.length ∧ Reads W W.heap.size 1 x.A x.m (bytesV x.bs) ∧ x.m ≤ maxLen ∧ x.s.length ≤ maxLen
def ActD.vals (x : ActD) : List Value := [.int .i64 x.kind, .slice x.A x.m x.c, .int .i64 x.n, .string ⟨x.s.toArray⟩]
def actsV (l : List ActD) : List Value := l.flatMap ActD.vals
def sumA (l : List ActD) : Nat := (l.map fun x => x.m + x.s.length).sum
theorem sumA_snoc (l : List ActD) (k : Nat) (h : k < l.length) : sumA (l.take (k + 1)) = sumA (l.take k) + (l[k].m + l[k].s.length) := by
  unfold sumA; rw [List.take_add_one, List.map_append, List.sum_append, List.getElem?_eq_getElem h]; simp
theorem sumA_le (l : List ActD) (k : Nat) : sumA (l.take k) ≤ sumA l := by
  have h : sumA l = sumA (l.take k ++ l.drop k) := by rw [List.take_append_drop]
  rw [h]; unfold sumA; rw [List.map_append, List.sum_append]; omega
theorem actsV_at : ∀ (l : List ActD) (k j : Nat), k < l.length → j < 4 → (actsV l)[4 * k + j]? = (l[k]?.bind fun x => x.vals[j]?)
  | [], k, j, h, _ => by simp at h
  | x :: r, 0, j, _, hj => by
    show (x.vals ++ actsV r)[4 * 0 + j]? = _
    rw [List.getElem?_append_left (by simp [ActD.vals]; omega)]
    simp
  | x :: r, k + 1, j, h, hj => by
    have hv : x.vals.length = 4 := rfl
    show (x.vals ++ actsV r)[4 * (k + 1) + j]? = _
    rw [List.getElem?_append_right (by omega), hv, show 4 * (k + 1) + j - 4 = 4 * k + j by omega, actsV_at r k j (by simpa using h) hj]
    simp
/-- An Act's cells. -/
def ActAt (w : World) (q : Addr) (x : ActD) : Prop :=
  w.cell? q = some (.int .i64 x.kind) ∧ w.cell? ⟨q.block, q.off + 1, none⟩ = some (.slice x.A x.m x.c) ∧ w.cell? ⟨q.block, q.off + 2, none⟩ = some (.int .i64 x.n) ∧ w.cell? ⟨q.block, q.off + 3, none⟩ = some (.string ⟨x.s.toArray⟩)
theorem act_at {W w : World} {A : Option Addr} {n k : Nat} {l : List ActD} (hr : Reads W W.heap.size 4 A n (actsV l)) (hn : n = l.length) (hk : k < l.length) (hb : Below W.heap.size W w) :
    ∃ ad, A = some ad ∧ ActAt w (ad.add (k * 4)) l[k] := by
  subst hn
  obtain ⟨ad, rfl, _, hc⟩ := (hr.below hb).2 (by omega)
  have h : ∀ j, j < 4 → w.cell? ((ad.add (k * 4)).add j) = l[k].vals[j]? := by
    intro j hj
    have h4 : l[k].vals.length = 4 := rfl
    have h := actsV_at l k j hk hj
    rw [List.getElem?_eq_getElem hk] at h
    rw [add_of_add, Nat.mul_comm k 4, hc _ (l[k].vals[j]'(by omega)) (by rw [h]; exact List.getElem?_eq_getElem _)]
    exact (List.getElem?_eq_getElem _).symm
  exact ⟨ad, rfl, h 0 (by omega), h 1 (by omega), h 2 (by omega), h 3 (by omega)⟩

def FewPost (l : List ActD) (w : World) (e : Ending) (w' : World) : Prop := ∃ b : Bool, e = .returned (.bool b) ∧ (∃ m, w' = w.drewN m) ∧ (b = true → l.length ≤ 40 ∧ sumA l ≤ 3000)

set_option maxRecDepth 20000 in
set_option maxHeartbeats 1000000 in
theorem few_any (A : Option Addr) (n c : Nat) (l : List ActD) (w : World) (hl : n = l.length) (hr : Reads w w.heap.size 4 A n (actsV l)) (hx : ∀ x ∈ l, x.ok w) (hn : n ≤ maxLen) :
    Calls Try.prog 17 #[.slice A n c] w (FewPost l w) := by
  subst hl
  unfold maxLen at hn
  go_enter Try.func17, Try.ntmps17
  go_wp2
  go_loopw [3, 4] (fun m i wr => ∃ k r : Nat, k ≤ l.length ∧ k ≤ 50 ∧ i = .int .i64 (k : Int) ∧ m = .int .i64 ((sumA (l.take k) : Nat) : Int) ∧ sumA (l.take k) ≤ 600 * k ∧ wr = w.drewN r) (fun _ i _ => l.length - (intOf i).toNat)
  case atStart => exact ⟨0, 0, by omega, by omega, rfl, by simp [sumA], by simp [sumA], rfl⟩
  case round =>
    obtain ⟨k, r, hk, hk5, rfl, rfl, hs, hwr⟩ := hrel
    have HWR := Lib.hid hwr
    obtain ⟨t, ht⟩ : ∃ t, sumA (l.take k) = t := ⟨_, rfl⟩
    rw [ht] at hs ⊢
    have HT := Lib.hid ht
    by_cases hlt : k < l.length
    · by_cases h5 : k < 50
      · obtain ⟨ad, rfl, hc⟩ := act_at hr rfl hlt (show Below w.heap.size w wr by rw [hwr]; exact below_drewN (Below.refl _ _) _)
        obtain ⟨o1, o2, o3, o4⟩ := hx _ (List.getElem_mem hlt)
        have HSN := Lib.hid (sumA_snoc l k hlt)
        obtain ⟨x, hx'⟩ : ∃ x, l[k] = x := ⟨_, rfl⟩
        rw [hx'] at hc o3 o4 HSN
        clear hx' o1 o2 hwr ht
        unfold maxLen at o3 o4
        obtain ⟨_, hc1, _, hc3⟩ := hc
        have hsz : (ByteArray.mk x.s.toArray).size = x.s.length := by simp [ByteArray.size]
        have bi0 : (0 : Int) ≤ (k : Int) := by omega
        have bi1 : (k : Int) < (l.length : Int) := by omega
        by_cases h1 : 300 < x.m
        · go_wp2
          go_ret
          exact ⟨false, by first | rfl | exact ret_bool (by simp; omega), ⟨r, HWR.out⟩, fun h => by cases h⟩
        · by_cases h2 : 300 < x.s.length
          · go_wp2
            go_ret
            exact ⟨false, by first | rfl | exact ret_bool (by simp; omega), ⟨r, HWR.out⟩, fun h => by cases h⟩
          · have w1 : IntKind.i64.wrap ((t : Int) + (x.m : Int)) = (t : Int) + (x.m : Int) := IntWalk.i64_in _ (by omega)
            have w2 : IntKind.i64.wrap ((t : Int) + (x.m : Int) + (x.s.length : Int)) = (t : Int) + (x.m : Int) + (x.s.length : Int) := IntWalk.i64_in _ (by omega)
            go_wp2_with fail
            go_quiet (fail)
            clear w1 w2
            go_wp2
            go_roundw
            case rel => exact ⟨k + 1, r + nq, by omega, by omega, by go_num, by rw [HSN.out, ← Nat.add_assoc, HT.out]; go_num, by rw [HSN.out, ← Nat.add_assoc, HT.out]; omega, by rw [HWR.out, World.drewN_drewN]⟩
            case measure => simp [intOf]; omega
      · clear hwr ht
        go_wp2
        go_ret
        exact ⟨false, by first | rfl | exact ret_bool (by simp; omega), ⟨r, HWR.out⟩, fun h => by cases h⟩
    · clear hwr ht
      by_cases h40 : l.length ≤ 40
      · go_wp2
        go_ret
        refine ⟨decide (t ≤ 3000), ret_bool (by simp; omega), ⟨r, HWR.out⟩, fun h => ?_⟩
        have h1 := HT.out
        rw [List.take_of_length_le (by omega)] at h1
        simp at h
        omega
      · go_wp2
        go_ret
        exact ⟨false, by first | rfl | exact ret_bool (by simp; omega), ⟨r, HWR.out⟩, fun h => by cases h⟩

theorem data_of (l : List UInt8) : (⟨l.toArray⟩ : ByteArray).data.toList = l := rfl
/-- Both writers, alike, apart from one another, in new memory. -/
def Both (w0 : World) (g mb g2 : Nat) (most : Int) (b : List UInt8) (bad : Bool) (wr : World) : Prop :=
  ∃ bv D nn f rb rp pl, WrAt wr g mb bv most b D nn bad ∧ MetIs D f ∧ SmallM f ∧ nn ≤ b.length ∧ RAt wr g2 most rb b rp pl bad ∧ pl.length = b.length ∧ Fit f pl ∧ Below w0.heap.size w0 wr ∧
    (∀ i, fpW g mb bv i → w0.heap.size ≤ i) ∧ (∀ i, fpR g2 rb rp i → w0.heap.size ≤ i) ∧ ∀ i, fpW g mb bv i → ¬ fpR g2 rb rp i
section
variable {w0 w w' : World} {g mb g2 nn : Nat} {bv bv' rb rp rb' rp' : Value} {most : Int} {b : List UInt8} {pl : List (List UInt8)} {D : DataW Unit} {bad : Bool}
theorem wrstep_fp (h : WrStep g mb bv bv' w w') (i : Nat) (hf : fpW g mb bv' i) : fpW g mb bv i ∨ w.heap.size ≤ i := by
  rcases hf with hf | hf | hf
  · exact Or.inl (Or.inl hf)
  · exact Or.inl (Or.inr (Or.inl hf))
  · rcases h.2 with h2 | ⟨j, h2, h4⟩
    · rw [h2] at hf; exact Or.inl (Or.inr (Or.inr hf))
    · rw [h2] at hf; injection hf with hf; subst hf; exact Or.inr h4
theorem rstep_fp2 (h : RStep g bv rb bv' rb' w w') (i : Nat) (hf : fpR g bv' rb' i) : fpR g bv rb i ∨ w.heap.size ≤ i := by
  rcases Nat.lt_or_ge i w.heap.size with hi | hi
  · exact Or.inl (rstep_fp h i hi hf)
  · exact Or.inr hi
/-- A step of the program's writer: the other one stays. -/
theorem both_w (h : WrAt w g mb bv most b D nn bad) (hs : WrStep g mb bv bv' w w') (hr : RAt w g2 most rb b rp pl bad) (hB : Below w0.heap.size w0 w) (hw : ∀ i, fpW g mb bv i → w0.heap.size ≤ i) (hd : ∀ i, fpW g mb bv i → ¬ fpR g2 rb rp i) :
    RAt w' g2 most rb b rp pl bad ∧ Below w0.heap.size w0 w' ∧ (∀ i, fpW g mb bv' i → w0.heap.size ≤ i) ∧ ∀ i, fpW g mb bv' i → ¬ fpR g2 rb rp i := by
  have _ := h
  refine ⟨hr.only hs.1 (fun i hi hf => hd i hf hi), hB.trans (hs.1.below hB.size (fun i hi hf => by have := hw i hf; omega)), fun i hi => ?_, fun i hi hf => ?_⟩
  · rcases wrstep_fp hs i hi with h | h
    · exact hw i h
    · have := hB.size; omega
  · rcases wrstep_fp hs i hi with h | h
    · exact hd i h hf
    · have := hr.fp_lt hf; omega
/-- A step of the reference's. -/
theorem both_r (h : WrAt w g mb bv most b D nn bad) (hs : RStep g2 rb rp rb' rp' w w') (hB : Below w0.heap.size w0 w) (hw : ∀ i, fpR g2 rb rp i → w0.heap.size ≤ i) (hd : ∀ i, fpW g mb bv i → ¬ fpR g2 rb rp i) :
    WrAt w' g mb bv most b D nn bad ∧ Below w0.heap.size w0 w' ∧ (∀ i, fpR g2 rb' rp' i → w0.heap.size ≤ i) ∧ ∀ i, fpW g mb bv i → ¬ fpR g2 rb' rp' i := by
  refine ⟨h.only hs.1 (fun i hi hf => hd i hi hf), hB.trans (hs.1.below hB.size (fun i hi hf => by have := hw i hf; omega)), fun i hi => ?_, fun i hi hf => ?_⟩
  · rcases rstep_fp2 hs i hi with h | h
    · exact hw i h
    · have := hB.size; omega
  · rcases rstep_fp2 hs i hf with h' | h'
    · exact hd i hi h'
    · obtain ⟨l1, l2, l3⟩ := h.lt
      rcases hi with hi | hi | hi
      · omega
      · omega
      · have := l3 i hi; omega
end

theorem both_new {w0 u1 : World} {g mb : Nat} {most : Int} (h : WrAt u1 g mb (.slice none 0 0) most [] (.map []) 0 false) (hb : Below w0.heap.size w0 u1) (hg : w0.heap.size ≤ g) (hm : w0.heap.size ≤ mb) :
    Both w0 g mb u1.heap.size most [] false (u1.alloc (.cells #[.int .i64 most, .slice none 0 0, .slice none 0 0, .bool false] 44)) := by
  obtain ⟨l1, l2, _⟩ := h.lt
  refine ⟨_, _, _, none_, .slice none 0 0, .slice none 0 0, [], h.alloc _, metIs_new, (fun k v h => by cases h), Nat.le_refl _, ⟨Blk.new _ _ _, World.ownsRow_nil _ _ _ _, World.ownsRow_nil _ _ _ _⟩, rfl, fit_none, hb.alloc hb.size _, ?_, ?_, ?_⟩
  · rintro i (rfl | rfl | hi)
    · exact hg
    · exact hm
    · cases hi
  · rintro i (rfl | hi | hi)
    · exact hb.size
    · cases hi
    · cases hi
  · rintro i hi (rfl | hf | hf)
    · rcases hi with hi | hi | hi
      · omega
      · omega
      · cases hi
    · cases hf
    · cases hf
set_option maxRecDepth 200000 in
set_option maxHeartbeats 4000000 in
theorem walkWnameWrites (a0 : Int) (A : Option Addr) (n c : Nat) (l : List ActD) (w : World) (_w0 : (Lit.int .i64 a0).wf = true)
    (hl : n = l.length) (hn : n ≤ maxLen) (hr : Reads w w.heap.size 4 A n (actsV l)) (hx : ∀ x ∈ l, x.ok w) :
    Calls Try.prog 6 #[.int .i64 a0, .slice A n c] w fun e w' => e = .returned (.bool true) ∧ Below w.heap.size w w' := by
  clear _w0
  subst hl
  obtain ⟨i0, hi, hz0, hz1, hz2⟩ := info_parts Try.infoU8
  obtain ⟨i1, gi, gz0, gz1, gz2⟩ := info_parts Try.infoStr
  go_enter Try.func6, Try.ntmps6
  go_wp2_with fail
  refine (few_any A _ c l _ rfl hr hx hn).mono ?_
  rintro e w1 ⟨fb, rfl, ⟨mm, rfl⟩, hfew⟩
  cases fb
  · go_wp2_with fail
    refine (awake_any _).mono ?_
    rintro e v ⟨rfl, hv⟩
    go_wp2
    go_ret
    exact ⟨rfl, (below_drewN (Below.refl _ _) _).trans hv⟩
  · obtain ⟨hl40, hsum⟩ := hfew rfl
    clear hfew
    have HB1 : Hid (Below w.heap.size w (w.drewN mm)) := below_drewN (Below.refl _ _) _
    obtain ⟨w1, hw1⟩ : ∃ w1, w.drewN mm = w1 := ⟨_, rfl⟩
    rw [hw1] at HB1 ⊢
    clear hw1
    go_wp2_with fail
    refine (new_any a0 _).mono ?_
    rintro e u1 ⟨g, mb, rfl, hw1, hb1, hg, hmb⟩
    go_wp2
    go_loopw [7] (fun i wr => ∃ (k : Nat) (b : List UInt8) (bad : Bool), k ≤ l.length ∧ i = .int .i64 (k : Int) ∧ Both w g mb u1.heap.size a0 b bad wr ∧ b.length ≤ 4 * k + sumA (l.take k)) (fun i _ => l.length - (intOf i).toNat)
    case atStart => exact ⟨0, [], false, by omega, rfl, both_new hw1 (HB1.out.trans (hb1.mono HB1.out.size)) (Nat.le_trans HB1.out.size hg) (Nat.le_trans HB1.out.size hmb), by simp⟩
    case round =>
      obtain ⟨k, b, bad, hk, rfl, hBoth, hbl⟩ := hrel
      obtain ⟨bv, D, nn, f, rb, rp, pl, hw2, hm2, hsm2, hn2, hr2, hpl2, hf2, hB2, hfw, hfr, hd⟩ := hBoth
      by_cases hlt : k < l.length
      · obtain ⟨ad, rfl, hc⟩ := act_at hr rfl hlt hB2
        obtain ⟨o1, o2, o3, o4⟩ := hx _ (List.getElem_mem hlt)
        have HSN := Lib.hid (sumA_snoc l k hlt)
        obtain ⟨x, hx'⟩ : ∃ x, l[k] = x := ⟨_, rfl⟩
        rw [hx'] at hc o1 o2 o3 o4 HSN
        have hc' : ActAt wr (ad.add (k * 4)) x := hc
        obtain ⟨c0, c1, c2, c3⟩ := hc
        rw [o1] at c1 o2 HSN
        have hsumk := sumA_le l (k + 1)
        have HCL : Hid (b.length ≤ 4 * k + sumA (l.take k)) := hbl
        have hbl2 : b.length + x.bs.length + x.s.length ≤ 4000 := by have h1 := HSN.out; omega
        have HFW : Hid (∀ i, fpW g mb bv i → i < wr.heap.size) := by
          obtain ⟨l1, l2, l3⟩ := hw2.lt
          rintro i (rfl | rfl | hi)
          · exact l1
          · exact l2
          · exact l3 _ hi
        have hszz : (ByteArray.mk x.s.toArray).size = x.s.length := by simp [ByteArray.size]
        have hwA := hw2.alloc (.cells #[.int .i64 x.kind, .slice x.A x.bs.length x.c, .int .i64 x.n, .string ⟨x.s.toArray⟩] 46)
        have hrA := hr2.alloc (.cells #[.int .i64 x.kind, .slice x.A x.bs.length x.c, .int .i64 x.n, .string ⟨x.s.toArray⟩] 46)
        have hBA := hB2.alloc hB2.size (.cells #[.int .i64 x.kind, .slice x.A x.bs.length x.c, .int .i64 x.n, .string ⟨x.s.toArray⟩] 46)
        have blkA := Blk.new wr 46 #[.int .i64 x.kind, .slice x.A x.bs.length x.c, .int .i64 x.n, .string ⟨x.s.toArray⟩]
        clear hw2 hbl hx' o1
        have bi0 : (0 : Int) ≤ (k : Int) := by omega
        have bi1 : (k : Int) < (l.length : Int) := by omega
        by_cases k1 : x.kind = 1
        · rw [k1] at c0 hwA hrA hBA blkA
          obtain ⟨wq, rfl⟩ : ∃ wq, wq = wr := ⟨wr, rfl⟩
          have HFR : Hid (∀ i, fpR u1.heap.size rb rp i → i < wq.heap.size) := fun i hi => hr2.fp_lt hi
          go_wp2_with fail
          refine (bytes_any g mb nn bv a0 b D bad x.A _ x.c x.bs _ hwA ((o2.below hBA).more hBA.size) (by omega)).mono ?_
          rintro e u3 ⟨rfl, bv3, hw3, hs3⟩
          obtain ⟨hr3, hB3, hfw3, hd3⟩ := both_w hwA hs3 hrA hBA hfw hd
          have blk3 := blkA.only hs3.1 (fun hf => by have := HFW.out _ hf; omega)
          clear hs3 hrA hwA hBA blkA hr2
          go_wp2
          go_loopw [9] (fun i wi => ∃ (j : Nat) (rb4 rp4 : Value), j ≤ x.bs.length ∧ i = .int .i64 (j : Int) ∧ RAt wi u1.heap.size a0 rb4 (b ++ x.bs.take j) rp4 (pl ++ List.replicate j []) bad ∧ RStep u1.heap.size rb rp rb4 rp4 u3 wi) (fun i _ => x.bs.length - (intOf i).toNat)
          case atStart => exact ⟨0, rb, rp, by omega, rfl, by simpa using hr3, RStep.refl _ _ _ _⟩
          case round =>
            obtain ⟨j, rb4, rp4, hj, rfl, hr4, hs4⟩ := hrel
            obtain ⟨hw4, hB4, hfr4, hd4⟩ := both_r hw3 hs4 hB3 hfr hd3
            have blk4 := blk3.only hs4.1 (fun hf => by have := HFR.out _ hf; omega)
            by_cases hj2 : j < x.bs.length
            · obtain ⟨adb, y, hA, _, hcb, hy, hye⟩ := reads_byte (o2.below hB4) hj2
              have hcB : wr.cell? ⟨wq.heap.size, 1, none⟩ = some (.slice (some adb) x.bs.length x.c) := by rw [← hA]; exact blk4.cell 1
              have HX := Lib.hid (by rw [List.take_add_one, List.getElem?_eq_getElem hj2]; rfl : x.bs.take (j + 1) = x.bs.take j ++ [x.bs[j]])
              have hyv : byteV x.bs[j] = .int .u8 (y : Int) := by rw [hye]; rfl
              have hlb : (b ++ x.bs.take j).length = b.length + j := by rw [List.length_append, List.length_take, Nat.min_eq_left hj]
              have hlp : (pl ++ List.replicate j ([] : List UInt8)).length = b.length + j := by rw [List.length_append, List.length_replicate, hpl2]
              have hownA := (hr4.alloc (.cells #[.int .u8 (y : Int)] 5)).2.1
              have hrz := reads_new wr 5 (bytesV [x.bs[j]]) #[.int .u8 (y : Int)] (by rw [← hyv]; rfl)
              have HHY := Lib.hid hye
              have HPX := Lib.hid hyv
              obtain ⟨A5, c5, rfl⟩ := own_slice hr4.2.1
              obtain ⟨A7, c7, rfl⟩ := own_slice hr4.2.2
              have hk1 : wr.cell? ⟨u1.heap.size, 1, none⟩ = some (.slice A5 (b ++ x.bs.take j).length c5) := hr4.1.cell 1
              rw [hlb] at hk1 hownA hs4
              clear hye hyv hw4 hA
              have bj0 : (0 : Int) ≤ (j : Int) := by omega
              have bj1 : (j : Int) < (x.bs.length : Int) := by omega
              have hrA4 := (hr4.alloc (.cells #[.int .u8 (y : Int)] 5)).drew
              have hownB : (wr.alloc (.cells #[.int .u8 (y : Int)] 5)).drew.ownsRow 0 5 1 (.slice A5 (b.length + j) c5) (b.length + j) (bytesV (b ++ x.bs.take j)) := hownA.drew
              have hrzB := hrz.drew
              have hkA : (wr.alloc (.cells #[.int .u8 (y : Int)] 5)).drew.cell? ⟨u1.heap.size, 1, none⟩ = some (.slice A5 (b.length + j) c5) := by rw [← hlb]; exact hrA4.1.cell 1
              rw [hlb] at hrA4
              go_wp2_with fail
              go_region_law (refine step_append_any _ rfl _ _ 22 rfl 0 5 i0 (.int .u8 0) 1 1 Try.underlying22 hi hz0 hz1 hz2 rfl (by decide) _ _ _ rfl hownB _ _ _ _ _ rfl hrzB (bytesV_one _) (by unfold maxLen; show b.length + j + 1 ≤ _; omega) (by show (b.length + j + 1) * 1 ≤ _; omega) (Nat.zero_le _) ?_; intro v5 w5 hown5 hgr5 hat5; obtain ⟨A6, c6, rfl⟩ := own_slice hown5; obtain ⟨hb5, hr5, hs5⟩ := r_bytes (xs := [x.bs[j]]) hrA4 (by rw [hlb]; exact hown5) hgr5 hat5; have hc5 : w5.cell? ⟨u1.heap.size, 1, none⟩ = some (.slice A5 (b.length + j) c5) := hb5.cell 1; have hf5 := hb5.frozen 1)
              all_goals
                obtain ⟨w6, hw6⟩ : ∃ w6, w5.setCell ⟨u1.heap.size, 1, none⟩ (.slice A6 (b.length + j + 1) c6) = w6 := ⟨_, rfl⟩
                rw [hw6] at hr5 hs5 ⊢
                have hs6 := hs4.trans ((rstep_below ((Below.refl wr.heap.size wr).alloc (Nat.le_refl _) (.cells #[.int .u8 (y : Int)] 5)).drew).trans hs5)
                have hk6 : w6.cell? ⟨u1.heap.size, 2, none⟩ = some (.slice A7 (pl ++ List.replicate j ([] : List UInt8)).length c7) := hr5.1.cell 2
                have hownC := (hr5.alloc (.cells #[.string ⟨#[]⟩] 9)).2.2
                have hrzC := reads_new w6 9 [strV []] #[.string ⟨#[]⟩] rfl
                rw [hlp] at hk6 hownC hr5 hs6
                clear hw6 hc5 hf5 hb5 hown5 hgr5 hat5 hs5 hr4 hs4 hrA4 hownB hrzB hkA hk1 hcB hcb blk4 hownA hrz hB4 hfr4 hd4
                go_wp2_with (at_builtin; refine wpList_append_any _ rfl _ _ 42 rfl 0 9 i1 (.string ByteArray.empty) 1 16 Try.underlying42 gi gz0 gz1 gz2 rfl (by decide) _ _ _ rfl hownC _ _ _ _ _ rfl hrzC (strV_one [[]]) ?c6 ?c7 ?c8 ?_)
                case c6 => unfold maxLen; show b.length + j + 1 ≤ _; omega
                case c7 => show (b.length + j + 1) * 16 ≤ _; omega
                case c8 => exact Nat.zero_le _
                intro v8 w8 hown8 hgr8 hat8
                obtain ⟨A8, c8, rfl⟩ := own_slice hown8
                obtain ⟨hb8, hr8, hs8⟩ := r_texts (ys := [[]]) (hr5.alloc _) (by rw [hlp]; simpa using hown8) hgr8 (by simpa using hat8)
                have hk8 : w8.cell? ⟨u1.heap.size, 2, none⟩ = some (.slice A7 (b.length + j) c7) := hb8.cell 2
                have hf8 : w8.frozen? ⟨u1.heap.size, 2, none⟩ = false := hb8.frozen 2
                clear hown8 hgr8 hat8 hownC hrzC hb8 hr5
                go_wp2
                go_roundw
                case rel => exact ⟨j + 1, _, _, by omega, by go_num, by rw [HX.out, List.replicate_succ', ← List.append_assoc, ← List.append_assoc]; exact hr8, hs6.trans (rstep_alloc hs8)⟩
                case measure => simp [intOf]; omega
            · obtain rfl : j = x.bs.length := by omega
              rw [List.take_length] at hr4
              have hcB : wr.cell? ⟨wq.heap.size, 1, none⟩ = some (.slice x.A x.bs.length x.c) := blk4.cell 1
              clear hs4 hr3 hw3 blk3 blk4
              go_wp2
              go_roundw
              case rel => exact ⟨k + 1, b ++ x.bs, bad, by omega, by go_num, ⟨bv3, D, nn, f, rb4, rp4, _, hw4, hm2, hsm2, by rw [List.length_append]; omega, hr4, by simp [hpl2], fit_pad hf2 _, hB4, hfw3, hfr4, hd4⟩, by have := HSN.out; have := HCL.out; rw [List.length_append]; omega⟩
              case measure => simp [intOf]; omega
        by_cases k2 : x.kind = 2
        · rw [k2] at c0 hwA hrA hBA blkA
          go_wp2_with fail
          refine (two_any g mb nn bv a0 b D bad x.n _ hwA (by omega)).mono ?_
          rintro e u3 ⟨rfl, bv3, hw3, hs3⟩
          obtain ⟨hr3, hB3, hfw3, hd3⟩ := both_w hwA hs3 hrA hBA hfw hd
          have blk3 := blkA.only hs3.1 (fun hf => by have := HFW.out _ hf; omega)
          have hc3 : u3.cell? ⟨wr.heap.size, 2, none⟩ = some (.int .i64 x.n) := blk3.cell 2
          clear hs3 hrA hwA hBA blk3
          go_wp2_with fail
          refine (rtwo_any u1.heap.size a0 rb b rp pl bad x.n _ hr3 hpl2 (by omega)).mono ?_
          rintro e u4 ⟨rfl, rb4, rp4, hr4, hs4⟩
          obtain ⟨hw4, hB4, hfr4, hd4⟩ := both_r hw3 hs4 hB3 hfr hd3
          clear hs4 hr3 hw3
          go_wp2
          go_roundw
          case rel => exact ⟨k + 1, b ++ twoB x.n, bad, by omega, by go_num, ⟨bv3, D, nn, f, rb4, rp4, _, hw4, hm2, hsm2, by rw [List.length_append]; omega, hr4, by simp [hpl2], fit_pad hf2 _, hB4, hfw3, hfr4, hd4⟩, by have := HSN.out; have := HCL.out; rw [List.length_append, show (twoB x.n).length = 2 from rfl]; omega⟩
          case measure => simp [intOf]; omega
        by_cases k3 : x.kind = 3
        · rw [k3] at c0 hwA hrA hBA blkA
          go_wp2_with fail
          refine (four_any g mb nn bv a0 b D bad x.n _ hwA (by omega)).mono ?_
          rintro e u3 ⟨rfl, bv3, hw3, hs3⟩
          obtain ⟨hr3, hB3, hfw3, hd3⟩ := both_w hwA hs3 hrA hBA hfw hd
          have blk3 := blkA.only hs3.1 (fun hf => by have := HFW.out _ hf; omega)
          have hc3 : u3.cell? ⟨wr.heap.size, 2, none⟩ = some (.int .i64 x.n) := blk3.cell 2
          clear hs3 hrA hwA hBA blk3
          go_wp2_with fail
          refine (rfour_any u1.heap.size a0 rb b rp pl bad x.n _ hr3 hpl2 (by omega)).mono ?_
          rintro e u4 ⟨rfl, rb4, rp4, hr4, hs4⟩
          obtain ⟨hw4, hB4, hfr4, hd4⟩ := both_r hw3 hs4 hB3 hfr hd3
          clear hs4 hr3 hw3
          go_wp2
          go_roundw
          case rel => exact ⟨k + 1, b ++ fourB x.n, bad, by omega, by go_num, ⟨bv3, D, nn, f, rb4, rp4, _, hw4, hm2, hsm2, by rw [List.length_append]; omega, hr4, by simp [hpl2], fit_pad hf2 _, hB4, hfw3, hfr4, hd4⟩, by have := HSN.out; have := HCL.out; rw [List.length_append, show (fourB x.n).length = 4 from rfl]; omega⟩
          case measure => simp [intOf]; omega
        by_cases k4 : x.kind = 4
        · rw [k4] at c0 hwA hrA hBA blkA
          cases hv : validB x.s
          · go_wp2_with fail
            refine (name_any g mb nn bv a0 b D bad f ⟨x.s.toArray⟩ true _ hwA hm2 hsm2 hn2 (by omega) (by rw [hszz]; exact o4)).mono ?_
            rintro e u3 ⟨rfl, _, hno⟩
            obtain ⟨hw3, hs3⟩ := hno (by rw [data_of]; exact hv)
            obtain ⟨hr3, hB3, hfw3, hd3⟩ := both_w hwA hs3 hrA hBA hfw hd
            have blk3 := blkA.only hs3.1 (fun hf => by have := HFW.out _ hf; omega)
            have hc3 : u3.cell? ⟨wr.heap.size, 3, none⟩ = some (.string ⟨x.s.toArray⟩) := blk3.cell 3
            have hc0 : u3.cell? ⟨wr.heap.size, 0, none⟩ = some (.int .i64 4) := blk3.cell 0
            have HV := Lib.hid hv
            clear hs3 hrA hwA hBA blk3 hno hv
            go_wp2_with fail
            refine (rname_any u1.heap.size a0 rb b rp pl bad f ⟨x.s.toArray⟩ true _ hr3 hpl2 hf2 (by omega) (by rw [hszz]; exact o4)).mono ?_
            rintro e u4 ⟨rfl, _, hno⟩
            obtain ⟨hr4, hs4⟩ := hno (by rw [data_of]; exact HV.out)
            obtain ⟨hw4, hB4, hfr4, hd4⟩ := both_r hw3 hs4 hB3 hfr hd3
            clear hs4 hr3 hw3 hno
            go_wp2
            go_roundw
            case rel => exact ⟨k + 1, b, true, by omega, by go_num, ⟨bv, D, nn, f, rb, rp, pl, hw4, hm2, hsm2, hn2, hr4, hpl2, hf2, hB4, hfw3, hfr4, hd4⟩, by have := HSN.out; have := HCL.out; omega⟩
            case measure => simp [intOf]; omega
          · obtain ⟨hmd, _⟩ := made_of_valid hv
            have hle := nameW_le true (labsFrom x.s 0) b f
            rw [hmd] at hle
            obtain ⟨⟨b5, f5⟩, hres⟩ : ∃ r, nameW true (labsFrom x.s 0) b f = r := ⟨_, rfl⟩
            rw [hres] at hle
            replace hle : b5.length ≤ b.length + x.s.length := hle
            have HRES := Lib.hid hres
            have HV := Lib.hid hv
            clear hres hv hmd
            go_wp2_with fail
            refine (name_any g mb nn bv a0 b D bad f ⟨x.s.toArray⟩ true _ hwA hm2 hsm2 hn2 (by omega) (by rw [hszz]; exact o4)).mono ?_
            rintro e u3 ⟨rfl, hno, _⟩
            obtain ⟨bv3, D3, n3, hw3, hs3, hm3, hsm3, hn3⟩ := hno (by rw [data_of]; exact HV.out)
            rw [data_of, HRES.out] at hw3 hm3 hsm3 hn3
            obtain ⟨hr3, hB3, hfw3, hd3⟩ := both_w hwA hs3 hrA hBA hfw hd
            have blk3 := blkA.only hs3.1 (fun hf => by have := HFW.out _ hf; omega)
            have hc3 : u3.cell? ⟨wr.heap.size, 3, none⟩ = some (.string ⟨x.s.toArray⟩) := blk3.cell 3
            have hc0 : u3.cell? ⟨wr.heap.size, 0, none⟩ = some (.int .i64 4) := blk3.cell 0
            clear hs3 hrA hwA hBA blk3 hno
            go_wp2_with fail
            refine (rname_any u1.heap.size a0 rb b rp pl bad f ⟨x.s.toArray⟩ true _ hr3 hpl2 hf2 (by omega) (by rw [hszz]; exact o4)).mono ?_
            rintro e u4 ⟨rfl, hno, _⟩
            obtain ⟨rb4, rp4, pl4, hr4, hs4, hpl4, hf4⟩ := hno (by rw [data_of]; exact HV.out)
            rw [data_of, HRES.out] at hr4 hpl4 hf4
            obtain ⟨hw4, hB4, hfr4, hd4⟩ := both_r hw3 hs4 hB3 hfr hd3
            clear hs4 hr3 hw3 hno
            go_wp2
            go_roundw
            case rel => exact ⟨k + 1, b5, bad, by omega, by go_num, ⟨bv3, D3, n3, f5, rb4, rp4, pl4, hw4, hm3, hsm3, hn3, hr4, hpl4, hf4, hB4, hfw3, hfr4, hd4⟩, by have := HSN.out; have := HCL.out; omega⟩
            case measure => simp [intOf]; omega
        by_cases k5 : x.kind = 5
        · rw [k5] at c0 hwA hrA hBA blkA
          cases hv : validB x.s
          · go_wp2_with fail
            refine (name_any g mb nn bv a0 b D bad f ⟨x.s.toArray⟩ false _ hwA hm2 hsm2 hn2 (by omega) (by rw [hszz]; exact o4)).mono ?_
            rintro e u3 ⟨rfl, _, hno⟩
            obtain ⟨hw3, hs3⟩ := hno (by rw [data_of]; exact hv)
            obtain ⟨hr3, hB3, hfw3, hd3⟩ := both_w hwA hs3 hrA hBA hfw hd
            have blk3 := blkA.only hs3.1 (fun hf => by have := HFW.out _ hf; omega)
            have hc3 : u3.cell? ⟨wr.heap.size, 3, none⟩ = some (.string ⟨x.s.toArray⟩) := blk3.cell 3
            have hc0 : u3.cell? ⟨wr.heap.size, 0, none⟩ = some (.int .i64 5) := blk3.cell 0
            have HV := Lib.hid hv
            clear hs3 hrA hwA hBA blk3 hno hv
            go_wp2_with fail
            refine (rname_any u1.heap.size a0 rb b rp pl bad f ⟨x.s.toArray⟩ false _ hr3 hpl2 hf2 (by omega) (by rw [hszz]; exact o4)).mono ?_
            rintro e u4 ⟨rfl, _, hno⟩
            obtain ⟨hr4, hs4⟩ := hno (by rw [data_of]; exact HV.out)
            obtain ⟨hw4, hB4, hfr4, hd4⟩ := both_r hw3 hs4 hB3 hfr hd3
            clear hs4 hr3 hw3 hno
            go_wp2
            go_roundw
            case rel => exact ⟨k + 1, b, true, by omega, by go_num, ⟨bv, D, nn, f, rb, rp, pl, hw4, hm2, hsm2, hn2, hr4, hpl2, hf2, hB4, hfw3, hfr4, hd4⟩, by have := HSN.out; have := HCL.out; omega⟩
            case measure => simp [intOf]; omega
          · obtain ⟨hmd, _⟩ := made_of_valid hv
            have hle := nameW_le false (labsFrom x.s 0) b f
            rw [hmd] at hle
            obtain ⟨⟨b5, f5⟩, hres⟩ : ∃ r, nameW false (labsFrom x.s 0) b f = r := ⟨_, rfl⟩
            rw [hres] at hle
            replace hle : b5.length ≤ b.length + x.s.length := hle
            have HRES := Lib.hid hres
            have HV := Lib.hid hv
            clear hres hv hmd
            go_wp2_with fail
            refine (name_any g mb nn bv a0 b D bad f ⟨x.s.toArray⟩ false _ hwA hm2 hsm2 hn2 (by omega) (by rw [hszz]; exact o4)).mono ?_
            rintro e u3 ⟨rfl, hno, _⟩
            obtain ⟨bv3, D3, n3, hw3, hs3, hm3, hsm3, hn3⟩ := hno (by rw [data_of]; exact HV.out)
            rw [data_of, HRES.out] at hw3 hm3 hsm3 hn3
            obtain ⟨hr3, hB3, hfw3, hd3⟩ := both_w hwA hs3 hrA hBA hfw hd
            have blk3 := blkA.only hs3.1 (fun hf => by have := HFW.out _ hf; omega)
            have hc3 : u3.cell? ⟨wr.heap.size, 3, none⟩ = some (.string ⟨x.s.toArray⟩) := blk3.cell 3
            have hc0 : u3.cell? ⟨wr.heap.size, 0, none⟩ = some (.int .i64 5) := blk3.cell 0
            clear hs3 hrA hwA hBA blk3 hno
            go_wp2_with fail
            refine (rname_any u1.heap.size a0 rb b rp pl bad f ⟨x.s.toArray⟩ false _ hr3 hpl2 hf2 (by omega) (by rw [hszz]; exact o4)).mono ?_
            rintro e u4 ⟨rfl, hno, _⟩
            obtain ⟨rb4, rp4, pl4, hr4, hs4, hpl4, hf4⟩ := hno (by rw [data_of]; exact HV.out)
            rw [data_of, HRES.out] at hr4 hpl4 hf4
            obtain ⟨hw4, hB4, hfr4, hd4⟩ := both_r hw3 hs4 hB3 hfr hd3
            clear hs4 hr3 hw3 hno
            go_wp2
            go_roundw
            case rel => exact ⟨k + 1, b5, bad, by omega, by go_num, ⟨bv3, D3, n3, f5, rb4, rp4, pl4, hw4, hm3, hsm3, hn3, hr4, hpl4, hf4, hB4, hfw3, hfr4, hd4⟩, by have := HSN.out; have := HCL.out; omega⟩
            case measure => simp [intOf]; omega
        · go_wp2
          go_roundw
          case rel => exact ⟨k + 1, b, bad, by omega, by go_num, ⟨bv, D, nn, f, rb, rp, pl, hwA, hm2, hsm2, hn2, hrA, hpl2, hf2, hBA, hfw, hfr, hd⟩, by have := HSN.out; have := HCL.out; omega⟩
          case measure => simp [intOf]; omega
      · obtain rfl : k = l.length := by omega
        have hsumk := sumA_le l l.length
        have hbl3 : b.length ≤ 4000 := by omega
        clear hm2 hsm2 hn2 hpl2 hf2 hfw hfr hd hbl
        go_wp2_with fail
        refine (out_any g mb nn bv a0 b D bad _ hw2 (by omega)).mono ?_
        rintro e u3 ⟨hb3, hout⟩
        by_cases hbad : bad = true ∨ a0 < b.length
        · rw [if_pos hbad] at hout
          subst hout
          go_wp2_with fail
          refine (rout_any u1.heap.size a0 rb b rp pl bad _ (hr2.below hb3) (by omega)).mono ?_
          rintro e u4 ⟨hb4, hrout⟩
          rw [if_pos hbad] at hrout
          subst hrout
          have hq4 := (hB2.trans (hb3.mono hB2.size)).trans (hb4.mono (Nat.le_trans hB2.size hb3.size))
          go_wp2_with fail
          refine (awake_any _).mono ?_
          rintro e v ⟨rfl, hv⟩
          go_wp2
          go_ret
          exact ⟨rfl, hq4.trans (hv.mono hq4.size)⟩
        · rw [if_neg hbad] at hout
          obtain ⟨v3, rfl, ho3⟩ := hout
          go_wp2_with fail
          refine (rout_any u1.heap.size a0 rb b rp pl bad _ (hr2.below hb3) (by omega)).mono ?_
          rintro e u4 ⟨hb4, hrout⟩
          rw [if_neg hbad] at hrout
          obtain ⟨v4, rfl, ho4⟩ := hrout
          have hq4 := (hB2.trans (hb3.mono hB2.size)).trans (hb4.mono (Nat.le_trans hB2.size hb3.size))
          obtain ⟨A3, c3, rfl⟩ := own_slice ho3
          obtain ⟨A4, c4, rfl⟩ := own_slice ho4
          obtain ⟨z, hz⟩ : ∃ z : ByteArray, z.data.toList = b := ⟨⟨b.toArray⟩, rfl⟩
          have hr3 := (Reads.of_own ho3).below hb4
          have hcv1 := sq_string (P := Try.prog) 22 5 9 Try.underlying22 Try.underlying5 Try.underlying9 (c := c3) hr3 hz
          have hcv2 := sq_string (P := Try.prog) 22 5 9 Try.underlying22 Try.underlying5 Try.underlying9 (c := c4) (Reads.of_own ho4) hz
          have hw4 := (hw2.below hb3).below hb4
          clear hz ho3 ho4 hr3 hw2 hr2
          go_wp2_with fail
          refine (len_any g mb _ _ a0 b _ _ _ hw4).mono ?_
          rintro e w9 ⟨rfl, rfl⟩
          go_wp2_with fail
          refine (awake_any _).mono ?_
          rintro e v ⟨rfl, hv⟩
          go_wp2
          go_ret
          exact ⟨rfl, hq4.trans (hv.mono hq4.size)⟩
end Go.Proofs.Ytkbbilcohoodlaa
