/-
  The walk of WnameNumbers.
-/
import Derived.Test.YtkbbilcohoodlaaWAwake
namespace Go.Proofs.Ytkbbilcohoodlaa
open Go.RowKit Go.Maps

theorem reads_blk {w : World} {g : Nat} {t : TypeId} {cs : Array Value} {l : List UInt8} (h : Blk w g t cs) (hl : cs.toList = bytesV l) : Reads w w.heap.size 1 (some ⟨g, 0, none⟩) l.length (bytesV l) := by
  refine ⟨by rw [bytesV_length]; omega, fun _ => ⟨_, rfl, h.lt, fun j u hu => ?_⟩⟩
  have : (⟨g, 0, none⟩ : Addr).add j = ⟨g, j, none⟩ := by unfold Addr.add; split <;> simp_all
  rw [this, h.cell j, ← Array.getElem?_toList, hl]
  exact hu
/-- What was written: two, four bytes, x and y. -/
def numB (a b : Int) : List UInt8 := twoB a ++ fourB b ++ [120, 121]
theorem numB_length (a b : Int) : (numB a b).length = 8 := rfl

theorem byteV_x : byteV 120 = .int .u8 120 := rfl
theorem byteV_y : byteV 121 = .int .u8 121 := rfl
theorem setB_length (b : List UInt8) (at_ x : Int) : (setB b at_ x).length = b.length := by unfold setB; split <;> simp
theorem out_len (g mb n k : Nat) (bv : Value) (most : Int) (b : List UInt8) (D : DataW Unit) (w : World) (h : WrAt w g mb bv most b D n false) (hk : k = b.length) (hb : b.length ≤ 1000000000) (hm : (b.length : Int) ≤ most) :
    Calls Try.prog 24 #[.pointer (some ⟨g, 0, none⟩)] w fun e w' => ∃ A c, e = .returned (.tuple #[.slice A k c, .int .i64 0]) ∧ w'.ownsRow w.heap.size 5 1 (.slice A k c) b.length (bytesV b) ∧ Below w.heap.size w w' := by
  subst hk; exact out_ok g mb n bv most b D w h hb hm
theorem string_named {P : Program} (src e dst : TypeId) (hs : P.underlying src = some (.slice e)) (he : P.underlying e = some (.int .u8)) (hd : P.underlying dst = some .string) {w : World} {B n c : Nat} {A : Option Addr} {l : List UInt8} {z : ByteArray}
    (h : Reads w B 1 A n (bytesV l)) (hz : z = ⟨l.toArray⟩) : (convert src dst (.slice A n c)).run P w = .ok (.string z) w := by
  rw [hz]; exact run_string_of src e dst hs he hd h
theorem not_fp {w : World} {g mb n : Nat} {bv : Value} {most : Int} {b : List UInt8} {D : DataW Unit} {wrong : Bool} (h : WrAt w g mb bv most b D n wrong) : ¬ fpW g mb bv w.heap.size := by
  obtain ⟨h1, h2, h3⟩ := h.lt
  intro hf
  rcases hf with hf | hf | hf
  · omega
  · omega
  · have := h3 _ hf; omega

set_option maxRecDepth 200000 in
set_option maxHeartbeats 4000000 in
theorem numbers0 (a0 a1 a3 : Int) (w : World) :
    Calls Try.prog 8 #[.int .i64 a0, .int .i64 a1, .int .i64 0, .int .i64 a3] w fun e w' => e = .returned (.bool true) ∧ Below w.heap.size w w' := by
  go_enter Try.func8, Try.ntmps8
  go_wp2_with fail
  refine (new_any 100 _).mono ?_
  rintro e w1 ⟨g, mb, rfl, hw1, hb1, hg, hmb⟩
  go_wp2_with fail
  refine (two_any g mb _ _ 100 [] _ false a0 _ hw1 (by simp)).mono ?_
  rintro e w2 ⟨rfl, bv2, hw2, hs2⟩
  go_wp2_with fail
  refine (four_any g mb _ _ 100 _ _ false a1 _ hw2 (by simp [twoB])).mono ?_
  rintro e w3 ⟨rfl, bv3, hw3, hs3⟩
  have hr3 := reads_new w3 5 (bytesV [120, 121]) #[.int .u8 120, .int .u8 121] (by simp [bytesV, byteV])
  go_wp2_with fail
  refine (bytes_any g mb _ _ 100 _ _ false _ 2 2 [120, 121] _ (hw3.alloc _) hr3 (by simp [twoB, fourB])).mono ?_
  rintro e w4 ⟨rfl, bv4, hw4, hs4⟩
  rw [List.nil_append] at hw4
  have hst4 := hs2.trans (hs3.trans (step_alloc hs4))
  have HN4 := Lib.hid (not_fp hw4)
  clear hs2 hs3 hs4 hr3 hw3 hw2 hw1
  go_wp2_with fail
  refine (set_any g mb _ _ 100 (numB a0 a1) _ false 0 a3 _ (hw4.alloc _) (by simp [numB_length])).mono ?_
  rintro e w5 ⟨rfl, hw5, ho5⟩
  have hk5 := (Blk.new w4 5 _).only ho5 HN4.out
  have hbw5 := step_below hb1 hg hmb (hst4.trans (step_alloc ⟨ho5, Or.inl rfl⟩))
  obtain ⟨l8, hl8⟩ : ∃ l8, l8 = setB (numB a0 a1) 0 a3 := ⟨_, rfl⟩
  have hlen : 8 = l8.length := by rw [hl8, setB_length]; rfl
  rw [← hl8] at hw5
  have HL8 := Lib.hid hl8
  have HLEN := Lib.hid hlen
  clear hl8 hlen ho5 hst4 hb1
  go_wp2_with fail
  refine (out_len g mb _ 8 _ 100 l8 _ _ hw5 HLEN.out (by rw [← HLEN.out]; omega) (by rw [← HLEN.out]; omega)).mono ?_
  rintro e w6 ⟨A6, c6, rfl, ho6, hb6⟩
  obtain ⟨z, hz⟩ : ∃ z : ByteArray, z = ⟨l8.toArray⟩ := ⟨_, rfl⟩
  rw [← HLEN.out] at ho6
  have hcv1 := string_named (P := Try.prog) 22 5 9 Try.underlying22 Try.underlying5 Try.underlying9 (c := c6) (Reads.of_own ho6) hz
  have hr6 := reads_blk (l := l8) (hk5.below hb6 hk5.lt) (by rw [HL8.out]; simp [setB, numB, twoB, fourB, bytesV, byteV_byI, byteV_x, byteV_y])
  rw [← HLEN.out] at hr6
  have hcv2 := string_named (P := Try.prog) 22 5 9 Try.underlying22 Try.underlying5 Try.underlying9 (c := 8) hr6 hz
  have hw6 := hw5.below hb6
  clear hz ho6 hr6 hk5
  go_wp2_with fail
  refine (len_any g mb _ _ 100 l8 _ _ _ hw6).mono ?_
  rw [← HLEN.out]
  rintro e w9 ⟨rfl, rfl⟩
  go_wp2_with fail
  refine (awake_any _).mono ?_
  rintro e v ⟨rfl, hv⟩
  go_wp2
  go_ret
  have hq := hbw5.trans (hb6.mono hbw5.size)
  exact ⟨rfl, hq.trans (hv.mono hq.size)⟩

set_option maxRecDepth 200000 in
set_option maxHeartbeats 4000000 in
theorem numbers1 (a0 a1 a3 : Int) (w : World) :
    Calls Try.prog 8 #[.int .i64 a0, .int .i64 a1, .int .i64 1, .int .i64 a3] w fun e w' => e = .returned (.bool true) ∧ Below w.heap.size w w' := by
  go_enter Try.func8, Try.ntmps8
  go_wp2_with fail
  refine (new_any 100 _).mono ?_
  rintro e w1 ⟨g, mb, rfl, hw1, hb1, hg, hmb⟩
  go_wp2_with fail
  refine (two_any g mb _ _ 100 [] _ false a0 _ hw1 (by simp)).mono ?_
  rintro e w2 ⟨rfl, bv2, hw2, hs2⟩
  go_wp2_with fail
  refine (four_any g mb _ _ 100 _ _ false a1 _ hw2 (by simp [twoB])).mono ?_
  rintro e w3 ⟨rfl, bv3, hw3, hs3⟩
  have hr3 := reads_new w3 5 (bytesV [120, 121]) #[.int .u8 120, .int .u8 121] (by simp [bytesV, byteV])
  go_wp2_with fail
  refine (bytes_any g mb _ _ 100 _ _ false _ 2 2 [120, 121] _ (hw3.alloc _) hr3 (by simp [twoB, fourB])).mono ?_
  rintro e w4 ⟨rfl, bv4, hw4, hs4⟩
  rw [List.nil_append] at hw4
  have hst4 := hs2.trans (hs3.trans (step_alloc hs4))
  have HN4 := Lib.hid (not_fp hw4)
  clear hs2 hs3 hs4 hr3 hw3 hw2 hw1
  go_wp2_with fail
  refine (set_any g mb _ _ 100 (numB a0 a1) _ false 1 a3 _ (hw4.alloc _) (by simp [numB_length])).mono ?_
  rintro e w5 ⟨rfl, hw5, ho5⟩
  have hk5 := (Blk.new w4 5 _).only ho5 HN4.out
  have hbw5 := step_below hb1 hg hmb (hst4.trans (step_alloc ⟨ho5, Or.inl rfl⟩))
  obtain ⟨l8, hl8⟩ : ∃ l8, l8 = setB (numB a0 a1) 1 a3 := ⟨_, rfl⟩
  have hlen : 8 = l8.length := by rw [hl8, setB_length]; rfl
  rw [← hl8] at hw5
  have HL8 := Lib.hid hl8
  have HLEN := Lib.hid hlen
  clear hl8 hlen ho5 hst4 hb1
  go_wp2_with fail
  refine (out_len g mb _ 8 _ 100 l8 _ _ hw5 HLEN.out (by rw [← HLEN.out]; omega) (by rw [← HLEN.out]; omega)).mono ?_
  rintro e w6 ⟨A6, c6, rfl, ho6, hb6⟩
  obtain ⟨z, hz⟩ : ∃ z : ByteArray, z = ⟨l8.toArray⟩ := ⟨_, rfl⟩
  rw [← HLEN.out] at ho6
  have hcv1 := string_named (P := Try.prog) 22 5 9 Try.underlying22 Try.underlying5 Try.underlying9 (c := c6) (Reads.of_own ho6) hz
  have hr6 := reads_blk (l := l8) (hk5.below hb6 hk5.lt) (by rw [HL8.out]; simp [setB, numB, twoB, fourB, bytesV, byteV_byI, byteV_x, byteV_y])
  rw [← HLEN.out] at hr6
  have hcv2 := string_named (P := Try.prog) 22 5 9 Try.underlying22 Try.underlying5 Try.underlying9 (c := 8) hr6 hz
  have hw6 := hw5.below hb6
  clear hz ho6 hr6 hk5
  go_wp2_with fail
  refine (len_any g mb _ _ 100 l8 _ _ _ hw6).mono ?_
  rw [← HLEN.out]
  rintro e w9 ⟨rfl, rfl⟩
  go_wp2_with fail
  refine (awake_any _).mono ?_
  rintro e v ⟨rfl, hv⟩
  go_wp2
  go_ret
  have hq := hbw5.trans (hb6.mono hbw5.size)
  exact ⟨rfl, hq.trans (hv.mono hq.size)⟩

set_option maxRecDepth 200000 in
set_option maxHeartbeats 4000000 in
theorem numbers2 (a0 a1 a3 : Int) (w : World) :
    Calls Try.prog 8 #[.int .i64 a0, .int .i64 a1, .int .i64 2, .int .i64 a3] w fun e w' => e = .returned (.bool true) ∧ Below w.heap.size w w' := by
  go_enter Try.func8, Try.ntmps8
  go_wp2_with fail
  refine (new_any 100 _).mono ?_
  rintro e w1 ⟨g, mb, rfl, hw1, hb1, hg, hmb⟩
  go_wp2_with fail
  refine (two_any g mb _ _ 100 [] _ false a0 _ hw1 (by simp)).mono ?_
  rintro e w2 ⟨rfl, bv2, hw2, hs2⟩
  go_wp2_with fail
  refine (four_any g mb _ _ 100 _ _ false a1 _ hw2 (by simp [twoB])).mono ?_
  rintro e w3 ⟨rfl, bv3, hw3, hs3⟩
  have hr3 := reads_new w3 5 (bytesV [120, 121]) #[.int .u8 120, .int .u8 121] (by simp [bytesV, byteV])
  go_wp2_with fail
  refine (bytes_any g mb _ _ 100 _ _ false _ 2 2 [120, 121] _ (hw3.alloc _) hr3 (by simp [twoB, fourB])).mono ?_
  rintro e w4 ⟨rfl, bv4, hw4, hs4⟩
  rw [List.nil_append] at hw4
  have hst4 := hs2.trans (hs3.trans (step_alloc hs4))
  have HN4 := Lib.hid (not_fp hw4)
  clear hs2 hs3 hs4 hr3 hw3 hw2 hw1
  go_wp2_with fail
  refine (set_any g mb _ _ 100 (numB a0 a1) _ false 2 a3 _ (hw4.alloc _) (by simp [numB_length])).mono ?_
  rintro e w5 ⟨rfl, hw5, ho5⟩
  have hk5 := (Blk.new w4 5 _).only ho5 HN4.out
  have hbw5 := step_below hb1 hg hmb (hst4.trans (step_alloc ⟨ho5, Or.inl rfl⟩))
  obtain ⟨l8, hl8⟩ : ∃ l8, l8 = setB (numB a0 a1) 2 a3 := ⟨_, rfl⟩
  have hlen : 8 = l8.length := by rw [hl8, setB_length]; rfl
  rw [← hl8] at hw5
  have HL8 := Lib.hid hl8
  have HLEN := Lib.hid hlen
  clear hl8 hlen ho5 hst4 hb1
  go_wp2_with fail
  refine (out_len g mb _ 8 _ 100 l8 _ _ hw5 HLEN.out (by rw [← HLEN.out]; omega) (by rw [← HLEN.out]; omega)).mono ?_
  rintro e w6 ⟨A6, c6, rfl, ho6, hb6⟩
  obtain ⟨z, hz⟩ : ∃ z : ByteArray, z = ⟨l8.toArray⟩ := ⟨_, rfl⟩
  rw [← HLEN.out] at ho6
  have hcv1 := string_named (P := Try.prog) 22 5 9 Try.underlying22 Try.underlying5 Try.underlying9 (c := c6) (Reads.of_own ho6) hz
  have hr6 := reads_blk (l := l8) (hk5.below hb6 hk5.lt) (by rw [HL8.out]; simp [setB, numB, twoB, fourB, bytesV, byteV_byI, byteV_x, byteV_y])
  rw [← HLEN.out] at hr6
  have hcv2 := string_named (P := Try.prog) 22 5 9 Try.underlying22 Try.underlying5 Try.underlying9 (c := 8) hr6 hz
  have hw6 := hw5.below hb6
  clear hz ho6 hr6 hk5
  go_wp2_with fail
  refine (len_any g mb _ _ 100 l8 _ _ _ hw6).mono ?_
  rw [← HLEN.out]
  rintro e w9 ⟨rfl, rfl⟩
  go_wp2_with fail
  refine (awake_any _).mono ?_
  rintro e v ⟨rfl, hv⟩
  go_wp2
  go_ret
  have hq := hbw5.trans (hb6.mono hbw5.size)
  exact ⟨rfl, hq.trans (hv.mono hq.size)⟩

set_option maxRecDepth 200000 in
set_option maxHeartbeats 4000000 in
theorem numbers3 (a0 a1 a3 : Int) (w : World) :
    Calls Try.prog 8 #[.int .i64 a0, .int .i64 a1, .int .i64 3, .int .i64 a3] w fun e w' => e = .returned (.bool true) ∧ Below w.heap.size w w' := by
  go_enter Try.func8, Try.ntmps8
  go_wp2_with fail
  refine (new_any 100 _).mono ?_
  rintro e w1 ⟨g, mb, rfl, hw1, hb1, hg, hmb⟩
  go_wp2_with fail
  refine (two_any g mb _ _ 100 [] _ false a0 _ hw1 (by simp)).mono ?_
  rintro e w2 ⟨rfl, bv2, hw2, hs2⟩
  go_wp2_with fail
  refine (four_any g mb _ _ 100 _ _ false a1 _ hw2 (by simp [twoB])).mono ?_
  rintro e w3 ⟨rfl, bv3, hw3, hs3⟩
  have hr3 := reads_new w3 5 (bytesV [120, 121]) #[.int .u8 120, .int .u8 121] (by simp [bytesV, byteV])
  go_wp2_with fail
  refine (bytes_any g mb _ _ 100 _ _ false _ 2 2 [120, 121] _ (hw3.alloc _) hr3 (by simp [twoB, fourB])).mono ?_
  rintro e w4 ⟨rfl, bv4, hw4, hs4⟩
  rw [List.nil_append] at hw4
  have hst4 := hs2.trans (hs3.trans (step_alloc hs4))
  have HN4 := Lib.hid (not_fp hw4)
  clear hs2 hs3 hs4 hr3 hw3 hw2 hw1
  go_wp2_with fail
  refine (set_any g mb _ _ 100 (numB a0 a1) _ false 3 a3 _ (hw4.alloc _) (by simp [numB_length])).mono ?_
  rintro e w5 ⟨rfl, hw5, ho5⟩
  have hk5 := (Blk.new w4 5 _).only ho5 HN4.out
  have hbw5 := step_below hb1 hg hmb (hst4.trans (step_alloc ⟨ho5, Or.inl rfl⟩))
  obtain ⟨l8, hl8⟩ : ∃ l8, l8 = setB (numB a0 a1) 3 a3 := ⟨_, rfl⟩
  have hlen : 8 = l8.length := by rw [hl8, setB_length]; rfl
  rw [← hl8] at hw5
  have HL8 := Lib.hid hl8
  have HLEN := Lib.hid hlen
  clear hl8 hlen ho5 hst4 hb1
  go_wp2_with fail
  refine (out_len g mb _ 8 _ 100 l8 _ _ hw5 HLEN.out (by rw [← HLEN.out]; omega) (by rw [← HLEN.out]; omega)).mono ?_
  rintro e w6 ⟨A6, c6, rfl, ho6, hb6⟩
  obtain ⟨z, hz⟩ : ∃ z : ByteArray, z = ⟨l8.toArray⟩ := ⟨_, rfl⟩
  rw [← HLEN.out] at ho6
  have hcv1 := string_named (P := Try.prog) 22 5 9 Try.underlying22 Try.underlying5 Try.underlying9 (c := c6) (Reads.of_own ho6) hz
  have hr6 := reads_blk (l := l8) (hk5.below hb6 hk5.lt) (by rw [HL8.out]; simp [setB, numB, twoB, fourB, bytesV, byteV_byI, byteV_x, byteV_y])
  rw [← HLEN.out] at hr6
  have hcv2 := string_named (P := Try.prog) 22 5 9 Try.underlying22 Try.underlying5 Try.underlying9 (c := 8) hr6 hz
  have hw6 := hw5.below hb6
  clear hz ho6 hr6 hk5
  go_wp2_with fail
  refine (len_any g mb _ _ 100 l8 _ _ _ hw6).mono ?_
  rw [← HLEN.out]
  rintro e w9 ⟨rfl, rfl⟩
  go_wp2_with fail
  refine (awake_any _).mono ?_
  rintro e v ⟨rfl, hv⟩
  go_wp2
  go_ret
  have hq := hbw5.trans (hb6.mono hbw5.size)
  exact ⟨rfl, hq.trans (hv.mono hq.size)⟩

set_option maxRecDepth 200000 in
set_option maxHeartbeats 4000000 in
theorem numbers4 (a0 a1 a3 : Int) (w : World) :
    Calls Try.prog 8 #[.int .i64 a0, .int .i64 a1, .int .i64 4, .int .i64 a3] w fun e w' => e = .returned (.bool true) ∧ Below w.heap.size w w' := by
  go_enter Try.func8, Try.ntmps8
  go_wp2_with fail
  refine (new_any 100 _).mono ?_
  rintro e w1 ⟨g, mb, rfl, hw1, hb1, hg, hmb⟩
  go_wp2_with fail
  refine (two_any g mb _ _ 100 [] _ false a0 _ hw1 (by simp)).mono ?_
  rintro e w2 ⟨rfl, bv2, hw2, hs2⟩
  go_wp2_with fail
  refine (four_any g mb _ _ 100 _ _ false a1 _ hw2 (by simp [twoB])).mono ?_
  rintro e w3 ⟨rfl, bv3, hw3, hs3⟩
  have hr3 := reads_new w3 5 (bytesV [120, 121]) #[.int .u8 120, .int .u8 121] (by simp [bytesV, byteV])
  go_wp2_with fail
  refine (bytes_any g mb _ _ 100 _ _ false _ 2 2 [120, 121] _ (hw3.alloc _) hr3 (by simp [twoB, fourB])).mono ?_
  rintro e w4 ⟨rfl, bv4, hw4, hs4⟩
  rw [List.nil_append] at hw4
  have hst4 := hs2.trans (hs3.trans (step_alloc hs4))
  have HN4 := Lib.hid (not_fp hw4)
  clear hs2 hs3 hs4 hr3 hw3 hw2 hw1
  go_wp2_with fail
  refine (set_any g mb _ _ 100 (numB a0 a1) _ false 4 a3 _ (hw4.alloc _) (by simp [numB_length])).mono ?_
  rintro e w5 ⟨rfl, hw5, ho5⟩
  have hk5 := (Blk.new w4 5 _).only ho5 HN4.out
  have hbw5 := step_below hb1 hg hmb (hst4.trans (step_alloc ⟨ho5, Or.inl rfl⟩))
  obtain ⟨l8, hl8⟩ : ∃ l8, l8 = setB (numB a0 a1) 4 a3 := ⟨_, rfl⟩
  have hlen : 8 = l8.length := by rw [hl8, setB_length]; rfl
  rw [← hl8] at hw5
  have HL8 := Lib.hid hl8
  have HLEN := Lib.hid hlen
  clear hl8 hlen ho5 hst4 hb1
  go_wp2_with fail
  refine (out_len g mb _ 8 _ 100 l8 _ _ hw5 HLEN.out (by rw [← HLEN.out]; omega) (by rw [← HLEN.out]; omega)).mono ?_
  rintro e w6 ⟨A6, c6, rfl, ho6, hb6⟩
  obtain ⟨z, hz⟩ : ∃ z : ByteArray, z = ⟨l8.toArray⟩ := ⟨_, rfl⟩
  rw [← HLEN.out] at ho6
  have hcv1 := string_named (P := Try.prog) 22 5 9 Try.underlying22 Try.underlying5 Try.underlying9 (c := c6) (Reads.of_own ho6) hz
  have hr6 := reads_blk (l := l8) (hk5.below hb6 hk5.lt) (by rw [HL8.out]; simp [setB, numB, twoB, fourB, bytesV, byteV_byI, byteV_x, byteV_y])
  rw [← HLEN.out] at hr6
  have hcv2 := string_named (P := Try.prog) 22 5 9 Try.underlying22 Try.underlying5 Try.underlying9 (c := 8) hr6 hz
  have hw6 := hw5.below hb6
  clear hz ho6 hr6 hk5
  go_wp2_with fail
  refine (len_any g mb _ _ 100 l8 _ _ _ hw6).mono ?_
  rw [← HLEN.out]
  rintro e w9 ⟨rfl, rfl⟩
  go_wp2_with fail
  refine (awake_any _).mono ?_
  rintro e v ⟨rfl, hv⟩
  go_wp2
  go_ret
  have hq := hbw5.trans (hb6.mono hbw5.size)
  exact ⟨rfl, hq.trans (hv.mono hq.size)⟩

set_option maxRecDepth 200000 in
set_option maxHeartbeats 4000000 in
theorem numbers5 (a0 a1 a3 : Int) (w : World) :
    Calls Try.prog 8 #[.int .i64 a0, .int .i64 a1, .int .i64 5, .int .i64 a3] w fun e w' => e = .returned (.bool true) ∧ Below w.heap.size w w' := by
  go_enter Try.func8, Try.ntmps8
  go_wp2_with fail
  refine (new_any 100 _).mono ?_
  rintro e w1 ⟨g, mb, rfl, hw1, hb1, hg, hmb⟩
  go_wp2_with fail
  refine (two_any g mb _ _ 100 [] _ false a0 _ hw1 (by simp)).mono ?_
  rintro e w2 ⟨rfl, bv2, hw2, hs2⟩
  go_wp2_with fail
  refine (four_any g mb _ _ 100 _ _ false a1 _ hw2 (by simp [twoB])).mono ?_
  rintro e w3 ⟨rfl, bv3, hw3, hs3⟩
  have hr3 := reads_new w3 5 (bytesV [120, 121]) #[.int .u8 120, .int .u8 121] (by simp [bytesV, byteV])
  go_wp2_with fail
  refine (bytes_any g mb _ _ 100 _ _ false _ 2 2 [120, 121] _ (hw3.alloc _) hr3 (by simp [twoB, fourB])).mono ?_
  rintro e w4 ⟨rfl, bv4, hw4, hs4⟩
  rw [List.nil_append] at hw4
  have hst4 := hs2.trans (hs3.trans (step_alloc hs4))
  have HN4 := Lib.hid (not_fp hw4)
  clear hs2 hs3 hs4 hr3 hw3 hw2 hw1
  go_wp2_with fail
  refine (set_any g mb _ _ 100 (numB a0 a1) _ false 5 a3 _ (hw4.alloc _) (by simp [numB_length])).mono ?_
  rintro e w5 ⟨rfl, hw5, ho5⟩
  have hk5 := (Blk.new w4 5 _).only ho5 HN4.out
  have hbw5 := step_below hb1 hg hmb (hst4.trans (step_alloc ⟨ho5, Or.inl rfl⟩))
  obtain ⟨l8, hl8⟩ : ∃ l8, l8 = setB (numB a0 a1) 5 a3 := ⟨_, rfl⟩
  have hlen : 8 = l8.length := by rw [hl8, setB_length]; rfl
  rw [← hl8] at hw5
  have HL8 := Lib.hid hl8
  have HLEN := Lib.hid hlen
  clear hl8 hlen ho5 hst4 hb1
  go_wp2_with fail
  refine (out_len g mb _ 8 _ 100 l8 _ _ hw5 HLEN.out (by rw [← HLEN.out]; omega) (by rw [← HLEN.out]; omega)).mono ?_
  rintro e w6 ⟨A6, c6, rfl, ho6, hb6⟩
  obtain ⟨z, hz⟩ : ∃ z : ByteArray, z = ⟨l8.toArray⟩ := ⟨_, rfl⟩
  rw [← HLEN.out] at ho6
  have hcv1 := string_named (P := Try.prog) 22 5 9 Try.underlying22 Try.underlying5 Try.underlying9 (c := c6) (Reads.of_own ho6) hz
  have hr6 := reads_blk (l := l8) (hk5.below hb6 hk5.lt) (by rw [HL8.out]; simp [setB, numB, twoB, fourB, bytesV, byteV_byI, byteV_y])
  rw [← HLEN.out] at hr6
  have hcv2 := string_named (P := Try.prog) 22 5 9 Try.underlying22 Try.underlying5 Try.underlying9 (c := 8) hr6 hz
  have hw6 := hw5.below hb6
  clear hz ho6 hr6 hk5
  go_wp2_with fail
  refine (len_any g mb _ _ 100 l8 _ _ _ hw6).mono ?_
  rw [← HLEN.out]
  rintro e w9 ⟨rfl, rfl⟩
  go_wp2_with fail
  refine (awake_any _).mono ?_
  rintro e v ⟨rfl, hv⟩
  go_wp2
  go_ret
  have hq := hbw5.trans (hb6.mono hbw5.size)
  exact ⟨rfl, hq.trans (hv.mono hq.size)⟩

set_option maxRecDepth 200000 in
set_option maxHeartbeats 4000000 in
theorem numbers6 (a0 a1 a3 : Int) (w : World) :
    Calls Try.prog 8 #[.int .i64 a0, .int .i64 a1, .int .i64 6, .int .i64 a3] w fun e w' => e = .returned (.bool true) ∧ Below w.heap.size w w' := by
  go_enter Try.func8, Try.ntmps8
  go_wp2_with fail
  refine (new_any 100 _).mono ?_
  rintro e w1 ⟨g, mb, rfl, hw1, hb1, hg, hmb⟩
  go_wp2_with fail
  refine (two_any g mb _ _ 100 [] _ false a0 _ hw1 (by simp)).mono ?_
  rintro e w2 ⟨rfl, bv2, hw2, hs2⟩
  go_wp2_with fail
  refine (four_any g mb _ _ 100 _ _ false a1 _ hw2 (by simp [twoB])).mono ?_
  rintro e w3 ⟨rfl, bv3, hw3, hs3⟩
  have hr3 := reads_new w3 5 (bytesV [120, 121]) #[.int .u8 120, .int .u8 121] (by simp [bytesV, byteV])
  go_wp2_with fail
  refine (bytes_any g mb _ _ 100 _ _ false _ 2 2 [120, 121] _ (hw3.alloc _) hr3 (by simp [twoB, fourB])).mono ?_
  rintro e w4 ⟨rfl, bv4, hw4, hs4⟩
  rw [List.nil_append] at hw4
  have hst4 := hs2.trans (hs3.trans (step_alloc hs4))
  have HN4 := Lib.hid (not_fp hw4)
  clear hs2 hs3 hs4 hr3 hw3 hw2 hw1
  go_wp2_with fail
  refine (set_any g mb _ _ 100 (numB a0 a1) _ false 6 a3 _ (hw4.alloc _) (by simp [numB_length])).mono ?_
  rintro e w5 ⟨rfl, hw5, ho5⟩
  have hk5 := (Blk.new w4 5 _).only ho5 HN4.out
  have hbw5 := step_below hb1 hg hmb (hst4.trans (step_alloc ⟨ho5, Or.inl rfl⟩))
  obtain ⟨l8, hl8⟩ : ∃ l8, l8 = setB (numB a0 a1) 6 a3 := ⟨_, rfl⟩
  have hlen : 8 = l8.length := by rw [hl8, setB_length]; rfl
  rw [← hl8] at hw5
  have HL8 := Lib.hid hl8
  have HLEN := Lib.hid hlen
  clear hl8 hlen ho5 hst4 hb1
  go_wp2_with fail
  refine (out_len g mb _ 8 _ 100 l8 _ _ hw5 HLEN.out (by rw [← HLEN.out]; omega) (by rw [← HLEN.out]; omega)).mono ?_
  rintro e w6 ⟨A6, c6, rfl, ho6, hb6⟩
  obtain ⟨z, hz⟩ : ∃ z : ByteArray, z = ⟨l8.toArray⟩ := ⟨_, rfl⟩
  rw [← HLEN.out] at ho6
  have hcv1 := string_named (P := Try.prog) 22 5 9 Try.underlying22 Try.underlying5 Try.underlying9 (c := c6) (Reads.of_own ho6) hz
  have hr6 := reads_blk (l := l8) (hk5.below hb6 hk5.lt) (by rw [HL8.out]; simp [setB, numB, twoB, fourB, bytesV, byteV_byI])
  rw [← HLEN.out] at hr6
  have hcv2 := string_named (P := Try.prog) 22 5 9 Try.underlying22 Try.underlying5 Try.underlying9 (c := 8) hr6 hz
  have hw6 := hw5.below hb6
  clear hz ho6 hr6 hk5
  go_wp2_with fail
  refine (len_any g mb _ _ 100 l8 _ _ _ hw6).mono ?_
  rw [← HLEN.out]
  rintro e w9 ⟨rfl, rfl⟩
  go_wp2_with fail
  refine (awake_any _).mono ?_
  rintro e v ⟨rfl, hv⟩
  go_wp2
  go_ret
  have hq := hbw5.trans (hb6.mono hbw5.size)
  exact ⟨rfl, hq.trans (hv.mono hq.size)⟩

set_option maxRecDepth 200000 in
set_option maxHeartbeats 4000000 in
theorem numbersLow (a0 a1 a2 a3 : Int) (w : World) (ha : a2 < 0) :
    Calls Try.prog 8 #[.int .i64 a0, .int .i64 a1, .int .i64 a2, .int .i64 a3] w fun e w' => e = .returned (.bool true) ∧ Below w.heap.size w w' := by
  go_enter Try.func8, Try.ntmps8
  go_wp2_with fail
  refine (new_any 100 _).mono ?_
  rintro e w1 ⟨g, mb, rfl, hw1, hb1, hg, hmb⟩
  go_wp2_with fail
  refine (two_any g mb _ _ 100 [] _ false a0 _ hw1 (by simp)).mono ?_
  rintro e w2 ⟨rfl, bv2, hw2, hs2⟩
  go_wp2_with fail
  refine (four_any g mb _ _ 100 _ _ false a1 _ hw2 (by simp [twoB])).mono ?_
  rintro e w3 ⟨rfl, bv3, hw3, hs3⟩
  have hr3 := reads_new w3 5 (bytesV [120, 121]) #[.int .u8 120, .int .u8 121] (by simp [bytesV, byteV])
  go_wp2_with fail
  refine (bytes_any g mb _ _ 100 _ _ false _ 2 2 [120, 121] _ (hw3.alloc _) hr3 (by simp [twoB, fourB])).mono ?_
  rintro e w4 ⟨rfl, bv4, hw4, hs4⟩
  rw [List.nil_append] at hw4
  have hst4 := hs2.trans (hs3.trans (step_alloc hs4))
  have HN4 := Lib.hid (not_fp hw4)
  clear hs2 hs3 hs4 hr3 hw3 hw2 hw1
  go_wp2_with fail
  refine (set_any g mb _ _ 100 (numB a0 a1) _ false a2 a3 _ (hw4.alloc _) (by simp [numB_length])).mono ?_
  rintro e w5 ⟨rfl, hw5, ho5⟩
  have hk5 := (Blk.new w4 5 _).only ho5 HN4.out
  have hbw5 := step_below hb1 hg hmb (hst4.trans (step_alloc ⟨ho5, Or.inl rfl⟩))
  obtain ⟨l8, hl8⟩ : ∃ l8, l8 = setB (numB a0 a1) a2 a3 := ⟨_, rfl⟩
  have hlen : 8 = l8.length := by rw [hl8, setB_length]; rfl
  rw [← hl8] at hw5
  have HL8 := Lib.hid hl8
  have HLEN := Lib.hid hlen
  clear hl8 hlen ho5 hst4 hb1
  go_wp2_with fail
  refine (out_len g mb _ 8 _ 100 l8 _ _ hw5 HLEN.out (by rw [← HLEN.out]; omega) (by rw [← HLEN.out]; omega)).mono ?_
  rintro e w6 ⟨A6, c6, rfl, ho6, hb6⟩
  obtain ⟨z, hz⟩ : ∃ z : ByteArray, z = ⟨l8.toArray⟩ := ⟨_, rfl⟩
  rw [← HLEN.out] at ho6
  have hcv1 := string_named (P := Try.prog) 22 5 9 Try.underlying22 Try.underlying5 Try.underlying9 (c := c6) (Reads.of_own ho6) hz
  have hr6 := reads_blk (l := l8) (hk5.below hb6 hk5.lt) (by rw [HL8.out]; rw [setB, if_neg (by omega)]; simp [numB, twoB, fourB, bytesV, byteV_byI, byteV_x, byteV_y])
  rw [← HLEN.out] at hr6
  have hcv2 := string_named (P := Try.prog) 22 5 9 Try.underlying22 Try.underlying5 Try.underlying9 (c := 8) hr6 hz
  have hw6 := hw5.below hb6
  clear hz ho6 hr6 hk5
  go_wp2_with fail
  refine (len_any g mb _ _ 100 l8 _ _ _ hw6).mono ?_
  rw [← HLEN.out]
  rintro e w9 ⟨rfl, rfl⟩
  go_wp2_with fail
  refine (awake_any _).mono ?_
  rintro e v ⟨rfl, hv⟩
  go_wp2
  go_ret
  have hq := hbw5.trans (hb6.mono hbw5.size)
  exact ⟨rfl, hq.trans (hv.mono hq.size)⟩

set_option maxRecDepth 200000 in
set_option maxHeartbeats 4000000 in
theorem numbersHigh (a0 a1 a2 a3 : Int) (w : World) (ha : 6 < a2) :
    Calls Try.prog 8 #[.int .i64 a0, .int .i64 a1, .int .i64 a2, .int .i64 a3] w fun e w' => e = .returned (.bool true) ∧ Below w.heap.size w w' := by
  go_enter Try.func8, Try.ntmps8
  go_wp2_with fail
  refine (new_any 100 _).mono ?_
  rintro e w1 ⟨g, mb, rfl, hw1, hb1, hg, hmb⟩
  go_wp2_with fail
  refine (two_any g mb _ _ 100 [] _ false a0 _ hw1 (by simp)).mono ?_
  rintro e w2 ⟨rfl, bv2, hw2, hs2⟩
  go_wp2_with fail
  refine (four_any g mb _ _ 100 _ _ false a1 _ hw2 (by simp [twoB])).mono ?_
  rintro e w3 ⟨rfl, bv3, hw3, hs3⟩
  have hr3 := reads_new w3 5 (bytesV [120, 121]) #[.int .u8 120, .int .u8 121] (by simp [bytesV, byteV])
  go_wp2_with fail
  refine (bytes_any g mb _ _ 100 _ _ false _ 2 2 [120, 121] _ (hw3.alloc _) hr3 (by simp [twoB, fourB])).mono ?_
  rintro e w4 ⟨rfl, bv4, hw4, hs4⟩
  rw [List.nil_append] at hw4
  have hst4 := hs2.trans (hs3.trans (step_alloc hs4))
  have HN4 := Lib.hid (not_fp hw4)
  clear hs2 hs3 hs4 hr3 hw3 hw2 hw1
  go_wp2_with fail
  refine (set_any g mb _ _ 100 (numB a0 a1) _ false a2 a3 _ (hw4.alloc _) (by simp [numB_length])).mono ?_
  rintro e w5 ⟨rfl, hw5, ho5⟩
  have hk5 := (Blk.new w4 5 _).only ho5 HN4.out
  have hbw5 := step_below hb1 hg hmb (hst4.trans (step_alloc ⟨ho5, Or.inl rfl⟩))
  obtain ⟨l8, hl8⟩ : ∃ l8, l8 = setB (numB a0 a1) a2 a3 := ⟨_, rfl⟩
  have hlen : 8 = l8.length := by rw [hl8, setB_length]; rfl
  rw [← hl8] at hw5
  have HL8 := Lib.hid hl8
  have HLEN := Lib.hid hlen
  clear hl8 hlen ho5 hst4 hb1
  go_wp2_with fail
  refine (out_len g mb _ 8 _ 100 l8 _ _ hw5 HLEN.out (by rw [← HLEN.out]; omega) (by rw [← HLEN.out]; omega)).mono ?_
  rintro e w6 ⟨A6, c6, rfl, ho6, hb6⟩
  obtain ⟨z, hz⟩ : ∃ z : ByteArray, z = ⟨l8.toArray⟩ := ⟨_, rfl⟩
  rw [← HLEN.out] at ho6
  have hcv1 := string_named (P := Try.prog) 22 5 9 Try.underlying22 Try.underlying5 Try.underlying9 (c := c6) (Reads.of_own ho6) hz
  have hr6 := reads_blk (l := l8) (hk5.below hb6 hk5.lt) (by rw [HL8.out]; rw [setB, if_neg (by rw [numB_length]; omega)]; simp [numB, twoB, fourB, bytesV, byteV_byI, byteV_x, byteV_y])
  rw [← HLEN.out] at hr6
  have hcv2 := string_named (P := Try.prog) 22 5 9 Try.underlying22 Try.underlying5 Try.underlying9 (c := 8) hr6 hz
  have hw6 := hw5.below hb6
  clear hz ho6 hr6 hk5
  go_wp2_with fail
  refine (len_any g mb _ _ 100 l8 _ _ _ hw6).mono ?_
  rw [← HLEN.out]
  rintro e w9 ⟨rfl, rfl⟩
  go_wp2_with fail
  refine (awake_any _).mono ?_
  rintro e v ⟨rfl, hv⟩
  go_wp2
  go_ret
  have hq := hbw5.trans (hb6.mono hbw5.size)
  exact ⟨rfl, hq.trans (hv.mono hq.size)⟩

theorem walkWnameNumbers (a0 a1 a2 a3 : Int) (w : World) (_w0 : (Lit.int .i64 a0).wf = true) (_w1 : (Lit.int .i64 a1).wf = true) (_w2 : (Lit.int .i64 a2).wf = true) (_w3 : (Lit.int .i64 a3).wf = true) :
    Calls Try.prog 8 #[.int .i64 a0, .int .i64 a1, .int .i64 a2, .int .i64 a3] w fun e w' => e = .returned (.bool true) ∧ Below w.heap.size w w' := by
  have hcase : a2 < 0 ∨ 6 < a2 ∨ a2 = 0 ∨ a2 = 1 ∨ a2 = 2 ∨ a2 = 3 ∨ a2 = 4 ∨ a2 = 5 ∨ a2 = 6 := by omega
  rcases hcase with ha | ha | rfl | rfl | rfl | rfl | rfl | rfl | rfl
  · exact numbersLow a0 a1 a2 a3 w ha
  · exact numbersHigh a0 a1 a2 a3 w ha
  · exact numbers0 a0 a1 a3 w
  · exact numbers1 a0 a1 a3 w
  · exact numbers2 a0 a1 a3 w
  · exact numbers3 a0 a1 a3 w
  · exact numbers4 a0 a1 a3 w
  · exact numbers5 a0 a1 a3 w
  · exact numbers6 a0 a1 a3 w
end Go.Proofs.Ytkbbilcohoodlaa
