/- For every input LeastHints returns true, and each argument reads behind the call as it read before. No condition beyond the given row. -/
import Derived.Test.YtofffkhipmoojaaLeastHintsParts
import Derived.Test.YtofffkhipmoojaaLaw
import Derived.WalkKit
import Derived.ProofKit
import Derived.OpenShut
namespace Go.Proofs.Ytofffkhipmoojaa.leastHints
open Go.ChangeShapes Go.WideShapes Go.ChangeAt Go.RowKit

set_option linter.unusedVariables false      -- a walk need not use every fact that an integer fits its kind
theorem own : ownKnob Try.prog.godebug = none := by kernel_rfl
theorem laidOut : laidOutB Try.prog = true := by kernel_rfl

set_option maxRecDepth 20000 in
set_option maxHeartbeats 20000000 in
theorem walk (a0 a1 a2 : Int) (w0 : (Lit.int .i64 a0).wf = true) (w1 : (Lit.int .i64 a1).wf = true) (w2 : (Lit.int .i64 a2).wf = true) (w : World) :
    Calls Try.prog 5 #[.int .i64 a0, .int .i64 a1, .int .i64 a2] w fun e w' => e = .returned (.bool true) ∧ Below w.heap.size w w' := by
  clear w0 w1 w2
  obtain ⟨i0, hi, hz0, hz1, hz2⟩ := info_parts Try.infoSrv
  by_cases hneg : a0 < 0
  · go_enter Try.func5, Try.ntmps5
    go_wp2_with fail
    refine (awake_any _).mono ?_
    rintro e v ⟨rfl, hv⟩
    go_wp2
    go_ret
    exact ⟨rfl, hv⟩
  · by_cases h20 : 20 < a0
    · go_enter Try.func5, Try.ntmps5
      go_wp2_with fail
      refine (awake_any _).mono ?_
      rintro e v ⟨rfl, hv⟩
      go_wp2
      go_ret
      exact ⟨rfl, hv⟩
    · obtain ⟨n, rfl⟩ := Int.eq_ofNat_of_zero_le (show 0 ≤ a0 by omega)
      have hn : n ≤ 20 := by omega
      clear hneg h20
      go_enter Try.func5, Try.ntmps5
      go_wp2_with fail
      refine (one_any _).mono ?_
      rintro e w1 ⟨A1, rfl, hH0, hb1⟩
      clear hH0
      go_wp2_with fail
      go_loopw [8] (fun i wr => ∃ (k : Nat) (v : Value), k ≤ n ∧ i = .int .i64 k ∧ HintRel w1 k v wr) (fun i _ => n - (intOf i).toNat)
      case atStart => exact ⟨0, .slice none 0 0, by omega, rfl, hintRel_start w1⟩
      case round =>
        obtain ⟨k, v, hk, rfl, hR⟩ := hrel
        have hc0 : wr.cell? ⟨w1.heap.size, 0, none⟩ = some v := hR.1.cell 0
        by_cases hlt : k < n
        · obtain ⟨A, c, rfl⟩ := own_slice hR.2.1
          go_wp2_with (at_builtin; refine wpList_append_own _ rfl _ _ 22 rfl (w1.heap.size + 1) 27 i0 (.agg #[.string ByteArray.empty, .int .i64 0]) 2 24 Try.underlying22 hi hz0 hz1 hz2 rfl (by decide) _ _ _ rfl (hR.2.1.alloc _) ⟨wr.heap.size, 0, none⟩ 1 1 [.string ⟨#[1, 97, 0]⟩, .int .i64 (k : Int)] rfl rfl ?c1 ?c2 ?c3 ?c4 ?c5 ?_)
          case c1 =>
            intro j u hj
            match j, hj with
            | 0, hj => simp at hj; subst hj; simp [Addr.add]
            | 1, hj => simp at hj; subst hj; simp [Addr.add]
          case c2 => intro u hu; simp at hu; rcases hu with rfl | rfl <;> rfl
          case c3 => unfold maxLen; omega
          case c4 => omega
          case c5 => have := hR.1.lt; simp; omega
          intro v' w2 hown' hgrow _
          obtain ⟨hb2, hR2⟩ := hintRel_step hR hown' hgrow
          have hc2 : w2.cell? ⟨w1.heap.size, 0, none⟩ = some (.slice A k c) := hb2.cell 0
          have hf2 : w2.frozen? ⟨w1.heap.size, 0, none⟩ = false := hb2.frozen 0
          obtain ⟨A2, c2, rfl⟩ := own_slice hown'
          clear hown' hgrow hR hb2
          go_wp2
          go_roundw
          case rel => exact ⟨k + 1, _, by omega, by go_num, hR2⟩
          case measure => simp [intOf]; omega
        · obtain rfl : k = n := by omega
          obtain ⟨A, c, rfl⟩ := own_slice hR.2.1
          obtain ⟨hblk, hown, hbel⟩ := hR
          have hbox : ∀ i, wr.cell? ⟨w1.heap.size, i, none⟩ = (#[.slice A k c, .int .i64 4096, .int .i64 100, .int .i64 100, .int .i64 3, .int .i64 20, .int .i64 8, .int .i64 4, .int .i64 6] : Array Value)[i]? := hblk.cell
          have e1 : errOf true = 0 := rfl
          have e2 : errOf false = 1 := rfl
          have hend : Below w.heap.size w wr := hb1.trans (hbel.mono hb1.size)
          clear hc0
          by_cases hb0 : 0 ≤ a1
          · by_cases hbk : a1 < (k : Int)
            · obtain ⟨b, rfl⟩ := Int.eq_ofNat_of_zero_le hb0
              have hbk2 : b < k := by omega
              have h100 : ((b : Int) == 100) = false := by simp; omega
              clear hb0 hbk
              obtain ⟨g, cap, hv, hg, hgl⟩ := hown.form (by omega)
              injection hv with hA _ hcc
              subst hA hcc
              have hc1 : wr.cell? ⟨g, b * 2 + 1, none⟩ = some (.int .i64 (b : Int)) := by
                rw [hown.cellAt _ (by omega)]; exact (hintCells_at k b hbk2).2
              have hf1 := hown.frozenAt (b * 2 + 1)
              obtain ⟨hown2, hgr2⟩ := hown.stored (b * 2 + 1) (.int .i64 a2)
              have hbox2 : ∀ i, (wr.setCell ⟨g, b * 2 + 1, none⟩ (.int .i64 a2)).cell? ⟨w1.heap.size, i, none⟩ = (#[.slice (some ⟨g, 0, none⟩) k c, .int .i64 4096, .int .i64 100, .int .i64 100, .int .i64 3, .int .i64 20, .int .i64 8, .int .i64 4, .int .i64 6] : Array Value)[i]? := (hblk.far (p := ⟨g, b * 2 + 1, none⟩) (by show w1.heap.size ≠ g; omega) _).cell
              have HH : Hid (Hints (wr.setCell ⟨g, b * 2 + 1, none⟩ (.int .i64 a2)) (wr.setCell ⟨g, b * 2 + 1, none⟩ (.int .i64 a2)).heap.size (some ⟨g, 0, none⟩) (hintsOf k b a2)) := hints_of_own hown2 (hintsOf_length _ _ _) (hints_set k b a2 hbk2 hn)
              have HE : Hid (Below w.heap.size w (wr.setCell ⟨g, b * 2 + 1, none⟩ (.int .i64 a2))) := hend.setCell (by show w.heap.size ≤ g; have := hb1.size; omega) _
              clear hown2 hgr2 hown hblk hbel hend hb1
              by_cases q1 : 0 ≤ a2
              · by_cases q2 : a2 < 4294967296
                · by_cases r1 : 1 ≤ k
                  · by_cases r2 : k ≤ 16
                    · have hck : checkB (hintsOf k b a2) 4096 100 100 3 20 8 4 6 = true := by rw [check_hintsOf k b a2 hn]; simp [goodB]; try omega
                      go_wp2_with fail
                      refine (check_any _ k c (hintsOf k b a2) 4096 100 100 3 20 8 4 6 _ (hintsOf_length _ _ _).symm (by omega) (by exact HH.out) (hintsOf_size _ _ _)).mono ?_
                      rintro e u ⟨rfl, hu⟩
                      go_wp2_with fail
                      refine (awake_any _).mono ?_
                      rintro e v ⟨rfl, hv⟩
                      go_wp2
                      go_ret
                      have hz := HE.out.trans (hu.mono HE.out.size)
                      exact ⟨ret_bool (by first | rfl | (simp; omega)), hz.trans (hv.mono hz.size)⟩
                    · have hck : checkB (hintsOf k b a2) 4096 100 100 3 20 8 4 6 = false := by rw [check_hintsOf k b a2 hn]; simp [goodB]; try omega
                      go_wp2_with fail
                      refine (check_any _ k c (hintsOf k b a2) 4096 100 100 3 20 8 4 6 _ (hintsOf_length _ _ _).symm (by omega) (by exact HH.out) (hintsOf_size _ _ _)).mono ?_
                      rintro e u ⟨rfl, hu⟩
                      go_wp2_with fail
                      refine (awake_any _).mono ?_
                      rintro e v ⟨rfl, hv⟩
                      go_wp2
                      go_ret
                      have hz := HE.out.trans (hu.mono HE.out.size)
                      exact ⟨ret_bool (by first | rfl | (simp; omega)), hz.trans (hv.mono hz.size)⟩
                  · exact absurd hbk2 (by omega)
                · by_cases r1 : 1 ≤ k
                  · by_cases r2 : k ≤ 16
                    · have hck : checkB (hintsOf k b a2) 4096 100 100 3 20 8 4 6 = false := by rw [check_hintsOf k b a2 hn]; simp [goodB]; try omega
                      go_wp2_with fail
                      refine (check_any _ k c (hintsOf k b a2) 4096 100 100 3 20 8 4 6 _ (hintsOf_length _ _ _).symm (by omega) (by exact HH.out) (hintsOf_size _ _ _)).mono ?_
                      rintro e u ⟨rfl, hu⟩
                      go_wp2_with fail
                      refine (awake_any _).mono ?_
                      rintro e v ⟨rfl, hv⟩
                      go_wp2
                      go_ret
                      have hz := HE.out.trans (hu.mono HE.out.size)
                      exact ⟨ret_bool (by first | rfl | (simp; omega)), hz.trans (hv.mono hz.size)⟩
                    · have hck : checkB (hintsOf k b a2) 4096 100 100 3 20 8 4 6 = false := by rw [check_hintsOf k b a2 hn]; simp [goodB]; try omega
                      go_wp2_with fail
                      refine (check_any _ k c (hintsOf k b a2) 4096 100 100 3 20 8 4 6 _ (hintsOf_length _ _ _).symm (by omega) (by exact HH.out) (hintsOf_size _ _ _)).mono ?_
                      rintro e u ⟨rfl, hu⟩
                      go_wp2_with fail
                      refine (awake_any _).mono ?_
                      rintro e v ⟨rfl, hv⟩
                      go_wp2
                      go_ret
                      have hz := HE.out.trans (hu.mono HE.out.size)
                      exact ⟨ret_bool (by first | rfl | (simp; omega)), hz.trans (hv.mono hz.size)⟩
                  · exact absurd hbk2 (by omega)

              · by_cases r1 : 1 ≤ k
                · by_cases r2 : k ≤ 16
                  · have hck : checkB (hintsOf k b a2) 4096 100 100 3 20 8 4 6 = false := by rw [check_hintsOf k b a2 hn]; simp [goodB]; try omega
                    go_wp2_with fail
                    refine (check_any _ k c (hintsOf k b a2) 4096 100 100 3 20 8 4 6 _ (hintsOf_length _ _ _).symm (by omega) (by exact HH.out) (hintsOf_size _ _ _)).mono ?_
                    rintro e u ⟨rfl, hu⟩
                    go_wp2_with fail
                    refine (awake_any _).mono ?_
                    rintro e v ⟨rfl, hv⟩
                    go_wp2
                    go_ret
                    have hz := HE.out.trans (hu.mono HE.out.size)
                    exact ⟨ret_bool (by first | rfl | (simp; omega)), hz.trans (hv.mono hz.size)⟩
                  · have hck : checkB (hintsOf k b a2) 4096 100 100 3 20 8 4 6 = false := by rw [check_hintsOf k b a2 hn]; simp [goodB]; try omega
                    go_wp2_with fail
                    refine (check_any _ k c (hintsOf k b a2) 4096 100 100 3 20 8 4 6 _ (hintsOf_length _ _ _).symm (by omega) (by exact HH.out) (hintsOf_size _ _ _)).mono ?_
                    rintro e u ⟨rfl, hu⟩
                    go_wp2_with fail
                    refine (awake_any _).mono ?_
                    rintro e v ⟨rfl, hv⟩
                    go_wp2
                    go_ret
                    have hz := HE.out.trans (hu.mono HE.out.size)
                    exact ⟨ret_bool (by first | rfl | (simp; omega)), hz.trans (hv.mono hz.size)⟩
                · exact absurd hbk2 (by omega)

            · have HE : Hid (Below w.heap.size w wr) := hend
              by_cases h100 : a1 = 100
              · subst h100
                by_cases hk0 : 0 < k
                · obtain ⟨g, cap, hv, hg, hgl⟩ := hown.form (by omega)
                  injection hv with hA _ hcc
                  subst hA hcc
                  have hc1 : wr.cell? ⟨g, 0, none⟩ = some (.string ⟨#[1, 97, 0]⟩) := by
                    rw [hown.cellAt _ (by omega)]; exact (hintCells_at k 0 hk0).1
                  have hf1 := hown.frozenAt 0
                  obtain ⟨hown2, hgr2⟩ := hown.stored 0 (.string ⟨#[97]⟩)
                  have hbox2 : ∀ i, (wr.setCell ⟨g, 0, none⟩ (.string ⟨#[97]⟩)).cell? ⟨w1.heap.size, i, none⟩ = (#[.slice (some ⟨g, 0, none⟩) k c, .int .i64 4096, .int .i64 100, .int .i64 100, .int .i64 3, .int .i64 20, .int .i64 8, .int .i64 4, .int .i64 6] : Array Value)[i]? := (hblk.far (p := ⟨g, 0, none⟩) (by show w1.heap.size ≠ g; omega) _).cell
                  have HH : Hid (Hints (wr.setCell ⟨g, 0, none⟩ (.string ⟨#[97]⟩)) (wr.setCell ⟨g, 0, none⟩ (.string ⟨#[97]⟩)).heap.size (some ⟨g, 0, none⟩) (hintsOf k 100 a2)) := hints_of_own hown2 (hintsOf_length _ _ _) (hints_name k a2 hk0 hn)
                  have HE : Hid (Below w.heap.size w (wr.setCell ⟨g, 0, none⟩ (.string ⟨#[97]⟩))) := hend.setCell (by show w.heap.size ≤ g; have := hb1.size; omega) _
                  clear hown2 hgr2 hown hblk hbel hend hb1
                  have r1 : 1 ≤ k := hk0
                  by_cases r2 : k ≤ 16
                  · have hck : checkB (hintsOf k 100 a2) 4096 100 100 3 20 8 4 6 = false := by rw [check_hintsOf k 100 a2 hn]; simp [goodB]; try omega
                    go_wp2_with fail
                    refine (check_any _ k c (hintsOf k 100 a2) 4096 100 100 3 20 8 4 6 _ (hintsOf_length _ _ _).symm (by omega) (by exact HH.out) (hintsOf_size _ _ _)).mono ?_
                    rintro e u ⟨rfl, hu⟩
                    go_wp2_with fail
                    refine (awake_any _).mono ?_
                    rintro e v ⟨rfl, hv⟩
                    go_wp2
                    go_ret
                    have hz := HE.out.trans (hu.mono HE.out.size)
                    exact ⟨ret_bool (by first | rfl | (simp; omega)), hz.trans (hv.mono hz.size)⟩

                  · have hck : checkB (hintsOf k 100 a2) 4096 100 100 3 20 8 4 6 = false := by rw [check_hintsOf k 100 a2 hn]; simp [goodB]; try omega
                    go_wp2_with fail
                    refine (check_any _ k c (hintsOf k 100 a2) 4096 100 100 3 20 8 4 6 _ (hintsOf_length _ _ _).symm (by omega) (by exact HH.out) (hintsOf_size _ _ _)).mono ?_
                    rintro e u ⟨rfl, hu⟩
                    go_wp2_with fail
                    refine (awake_any _).mono ?_
                    rintro e v ⟨rfl, hv⟩
                    go_wp2
                    go_ret
                    have hz := HE.out.trans (hu.mono HE.out.size)
                    exact ⟨ret_bool (by first | rfl | (simp; omega)), hz.trans (hv.mono hz.size)⟩

                · obtain rfl : k = 0 := by omega
                  have HH : Hid (Hints wr wr.heap.size A (hintsOf 0 100 a2)) := hints_of_own hown (hintsOf_length _ _ _) (hints_same 0 100 a2 (Or.inr (by omega)) (Or.inr rfl))
                  clear hown hblk hbel hend hb1
                  have hck : checkB (hintsOf 0 100 a2) 4096 100 100 3 20 8 4 6 = false := by rw [check_hintsOf 0 100 a2 hn]; simp [goodB]; try omega
                  go_wp2_with fail
                  refine (check_any _ 0 c (hintsOf 0 100 a2) 4096 100 100 3 20 8 4 6 _ (hintsOf_length _ _ _).symm (by omega) (by exact HH.out) (hintsOf_size _ _ _)).mono ?_
                  rintro e u ⟨rfl, hu⟩
                  go_wp2_with fail
                  refine (awake_any _).mono ?_
                  rintro e v ⟨rfl, hv⟩
                  go_wp2
                  go_ret
                  have hz := HE.out.trans (hu.mono HE.out.size)
                  exact ⟨ret_bool (by first | rfl | (simp; omega)), hz.trans (hv.mono hz.size)⟩

              · have e100 : (a1 == 100) = false := by simp [h100]
                have HH : Hid (Hints wr wr.heap.size A (hintsOf k a1 a2)) := hints_of_own hown (hintsOf_length _ _ _) (hints_same k a1 a2 (Or.inr (by omega)) (Or.inl h100))
                clear hown hblk hbel hend hb1
                by_cases r1 : 1 ≤ k
                · by_cases r2 : k ≤ 16
                  · have hck : checkB (hintsOf k a1 a2) 4096 100 100 3 20 8 4 6 = true := by rw [check_hintsOf k a1 a2 hn]; simp [goodB]; try omega
                    go_wp2_with fail
                    refine (check_any _ k c (hintsOf k a1 a2) 4096 100 100 3 20 8 4 6 _ (hintsOf_length _ _ _).symm (by omega) (by exact HH.out) (hintsOf_size _ _ _)).mono ?_
                    rintro e u ⟨rfl, hu⟩
                    go_wp2_with fail
                    refine (awake_any _).mono ?_
                    rintro e v ⟨rfl, hv⟩
                    go_wp2
                    go_ret
                    have hz := HE.out.trans (hu.mono HE.out.size)
                    exact ⟨ret_bool (by first | rfl | (simp; omega)), hz.trans (hv.mono hz.size)⟩
                  · have hck : checkB (hintsOf k a1 a2) 4096 100 100 3 20 8 4 6 = false := by rw [check_hintsOf k a1 a2 hn]; simp [goodB]; try omega
                    go_wp2_with fail
                    refine (check_any _ k c (hintsOf k a1 a2) 4096 100 100 3 20 8 4 6 _ (hintsOf_length _ _ _).symm (by omega) (by exact HH.out) (hintsOf_size _ _ _)).mono ?_
                    rintro e u ⟨rfl, hu⟩
                    go_wp2_with fail
                    refine (awake_any _).mono ?_
                    rintro e v ⟨rfl, hv⟩
                    go_wp2
                    go_ret
                    have hz := HE.out.trans (hu.mono HE.out.size)
                    exact ⟨ret_bool (by first | rfl | (simp; omega)), hz.trans (hv.mono hz.size)⟩
                · have hck : checkB (hintsOf k a1 a2) 4096 100 100 3 20 8 4 6 = false := by rw [check_hintsOf k a1 a2 hn]; simp [goodB]; try omega
                  go_wp2_with fail
                  refine (check_any _ k c (hintsOf k a1 a2) 4096 100 100 3 20 8 4 6 _ (hintsOf_length _ _ _).symm (by omega) (by exact HH.out) (hintsOf_size _ _ _)).mono ?_
                  rintro e u ⟨rfl, hu⟩
                  go_wp2_with fail
                  refine (awake_any _).mono ?_
                  rintro e v ⟨rfl, hv⟩
                  go_wp2
                  go_ret
                  have hz := HE.out.trans (hu.mono HE.out.size)
                  exact ⟨ret_bool (by first | rfl | (simp; omega)), hz.trans (hv.mono hz.size)⟩

          · have HE : Hid (Below w.heap.size w wr) := hend
            have h100 : a1 ≠ 100 := by omega
            have e100 : (a1 == 100) = false := by simp [h100]
            have HH : Hid (Hints wr wr.heap.size A (hintsOf k a1 a2)) := hints_of_own hown (hintsOf_length _ _ _) (hints_same k a1 a2 (Or.inl (by omega)) (Or.inl h100))
            clear hown hblk hbel hend hb1
            by_cases r1 : 1 ≤ k
            · by_cases r2 : k ≤ 16
              · have hck : checkB (hintsOf k a1 a2) 4096 100 100 3 20 8 4 6 = true := by rw [check_hintsOf k a1 a2 hn]; simp [goodB]; try omega
                go_wp2_with fail
                refine (check_any _ k c (hintsOf k a1 a2) 4096 100 100 3 20 8 4 6 _ (hintsOf_length _ _ _).symm (by omega) (by exact HH.out) (hintsOf_size _ _ _)).mono ?_
                rintro e u ⟨rfl, hu⟩
                go_wp2_with fail
                refine (awake_any _).mono ?_
                rintro e v ⟨rfl, hv⟩
                go_wp2
                go_ret
                have hz := HE.out.trans (hu.mono HE.out.size)
                exact ⟨ret_bool (by first | rfl | (simp; omega)), hz.trans (hv.mono hz.size)⟩
              · have hck : checkB (hintsOf k a1 a2) 4096 100 100 3 20 8 4 6 = false := by rw [check_hintsOf k a1 a2 hn]; simp [goodB]; try omega
                go_wp2_with fail
                refine (check_any _ k c (hintsOf k a1 a2) 4096 100 100 3 20 8 4 6 _ (hintsOf_length _ _ _).symm (by omega) (by exact HH.out) (hintsOf_size _ _ _)).mono ?_
                rintro e u ⟨rfl, hu⟩
                go_wp2_with fail
                refine (awake_any _).mono ?_
                rintro e v ⟨rfl, hv⟩
                go_wp2
                go_ret
                have hz := HE.out.trans (hu.mono HE.out.size)
                exact ⟨ret_bool (by first | rfl | (simp; omega)), hz.trans (hv.mono hz.size)⟩
            · have hck : checkB (hintsOf k a1 a2) 4096 100 100 3 20 8 4 6 = false := by rw [check_hintsOf k a1 a2 hn]; simp [goodB]; try omega
              go_wp2_with fail
              refine (check_any _ k c (hintsOf k a1 a2) 4096 100 100 3 20 8 4 6 _ (hintsOf_length _ _ _).symm (by omega) (by exact HH.out) (hintsOf_size _ _ _)).mono ?_
              rintro e u ⟨rfl, hu⟩
              go_wp2_with fail
              refine (awake_any _).mono ?_
              rintro e v ⟨rfl, hv⟩
              go_wp2
              go_ret
              have hz := HE.out.trans (hu.mono HE.out.size)
              exact ⟨ret_bool (by first | rfl | (simp; omega)), hz.trans (hv.mono hz.size)⟩

set_option maxRecDepth 100000 in
theorem lifted (os : Os) (started : os.Started) (H : Type) (enc : TypeId × Value → H) :
    ReturnsInHanded {} Try.checked os 5 .any (Rows.leastHintsSpec.pre6 enc Try.prog Try.f5 Rows.leastHintsRow.domain false) (Rows.leastHintsSpec.post enc Try.prog Try.f5 false true false false) := by
  refine returnsInHanded_of_change (C := Try.checked) own started (by kernel_rfl) Try.func5
    (ChangeSpec.witness6 (enc := enc) (C := Try.checked) false ⟨#[], #[.int .i64 0, .int .i64 0, .int .i64 0], []⟩ 8 (by kernel_rfl) (by kernel_rfl) (by kernel_rfl) (by kernel_rfl)) ?_
  intro W base args ds gs before hval0 hW _ _
  have hval : ∀ (j : Nat) t v, Try.f5.params[j]? = some t → args[j]? = some v → Value.okWide Try.prog W .any base t v := hval0
  have hW' := hW
  obtain ⟨p, q, hA0, hV, rfl, _, _⟩ := hW
  have hA : DataW.TrodAll enc Try.prog W 0 (fun _ => true) true Try.f5.params.toList args.toList ds p := hA0
  rw [Try.params5] at hA hval
  obtain ⟨v0, vs0, d0, ds0, p0, q0, hargs, rfl, rfl, h0, r0⟩ := trodAll_cons hA
  obtain ⟨v1, vs1, d1, ds1, p1, q1, rfl, rfl, rfl, h1, r1⟩ := trodAll_cons r0
  obtain ⟨v2, vs2, d2, ds2, p2, q2, rfl, rfl, rfl, h2, r2⟩ := trodAll_cons r1
  obtain ⟨rfl, rfl, rfl⟩ := trodAll_nil r2
  obtain rfl : args = #[v0, v1, v2] := by cases args; simp_all
  obtain ⟨rfl, rfl⟩ := trodVars_none hV
  obtain ⟨a0, rfl, rfl, rfl, w0⟩ := open_int Try.underlying3 (hval 0 3 v0 rfl rfl) h0
  obtain ⟨a1, rfl, rfl, rfl, w1⟩ := open_int Try.underlying3 (hval 1 3 v1 rfl rfl) h1
  obtain ⟨a2, rfl, rfl, rfl, w2⟩ := open_int Try.underlying3 (hval 2 3 v2 rfl rfl) h2
  clear hA0 hval0
  refine (walk a0 a1 a2 w0 w1 w2 W).mono fun e W1 ⟨he, hg⟩ => ?_
  subst he
  exact ⟨_, rfl, law_end rfl rfl Try.underlying4 laidOut (readable_all (by rw [Try.params5]; kernel_rfl)) hW' rfl hg⟩

theorem proved : Rows.LeastHintsSaid :=
  OpenClaim.holds_of_wide 5 Try.f5 rfl rfl rfl rfl rfl rfl rfl ⟨rfl, rfl, rfl, rfl, rfl⟩ rfl rfl rfl rfl rfl (by kernel_rfl) Try.func5 (by kernel_rfl)
    (of_decide_eq_true (by kernel_rfl)) (by unfold Func.isWrapper; first | (rw [if_pos (by decide +kernel)]; kernel_rfl) | (rw [if_neg (by decide +kernel)]; exact ⟨rfl, rfl⟩))
    (fun os started H enc _ => lifted os started H enc)
#print axioms proved
end Go.Proofs.Ytofffkhipmoojaa.leastHints
