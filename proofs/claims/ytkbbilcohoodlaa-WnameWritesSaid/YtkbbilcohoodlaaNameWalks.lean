/-
  The contracts of name.Lead, name.Valid: each computes a plain function of the text and leaves the world as it was.
-/
import Derived.Test.YtkbbilcohoodlaaRows
import Derived.Test.YtkbbilcohoodlaaName
import Derived.Test.YtkbbilcohoodlaaWords
import Derived.WalkKit
import Derived.Lib.Hide
import Derived.Lib.Strings
namespace Go.Proofs.Ytkbbilcohoodlaa
open Go.RowKit

theorem ret_int {k : IntKind} {a b : Int} (h : a = b) : Ending.returned (.int k a) = .returned (.int k b) := by rw [h]
theorem ret_bool {a b : Bool} (h : a = b) : Ending.returned (.bool a) = .returned (.bool b) := by rw [h]
theorem byte_at (s : ByteArray) (k : Nat) (h : k < s.size) : s[k] = s.data.toList[k]'(by simpa using h) := rfl

set_option maxRecDepth 20000 in
set_option maxHeartbeats 400000 in
theorem lead_any (s : ByteArray) (w : World) (hs : s.size ≤ maxLen) :
    Calls Try.prog 34 #[.string s] w fun e w' => e = .returned (.tuple #[.int .i64 (leadK s.data.toList), .bool (leadB s.data.toList)]) ∧ w = w' := by
  unfold maxLen at hs
  have hL : s.data.toList.length = s.size := by simp
  have HL := Lib.hid hL
  clear hL
  go_enter Try.func34, Try.ntmps34
  go_wp2
  go_loop [4] (fun i => ∃ k : Nat, k ≤ s.size + 64 ∧ i = .int .i64 k ∧ leadEnd (s.data.toList.drop k) 0 k = leadEnd s.data.toList 0 0) (fun i => s.size + 64 - (intOf i).toNat)
  case atStart => exact ⟨0, by omega, rfl, by simp⟩
  case round =>
    obtain ⟨k, hk, rfl, he⟩ := hrel
    have HE := Lib.hid he
    clear he
    by_cases hlt : k < s.size
    · by_cases h5 : k < 255
      · have hb : s[k].toNat < 256 := s[k].toNat_lt
        by_cases h0 : s[k].toNat = 0
        · have H0 := Lib.hid h0
          have e0 : ((s[k].toNat : Int) == 0) = true := by simp [h0]
          clear h0
          go_wp2
          go_ret2
          have hz := leadEnd_zero s.data.toList k (by rw [HL.out]; exact hlt) h5 H0.out
          rw [HE.out] at hz
          exact ⟨by simp [leadK, leadB, hz], rfl⟩
        · have e0 : ((s[k].toNat : Int) == 0) = false := by simp; omega
          have H0 := Lib.hid h0
          clear h0
          by_cases h6 : 63 < s[k].toNat
          · go_wp2
            go_ret2
            have hz := leadEnd_big s.data.toList k (by rw [HL.out]; exact hlt) h6
            rw [HE.out] at hz
            exact ⟨by simp [leadK, leadB, hz], rfl⟩
          · go_wp2
            go_round
            case rel => 
              have hz := leadEnd_on s.data.toList k (by rw [HL.out]; exact hlt) h5 H0.out (by have := byte_at s k hlt; rw [← this]; omega)
              rw [HE.out] at hz
              exact ⟨k + 1 + s[k].toNat, by omega, by go_num, hz⟩
            case measure => simp [intOf]; omega
      · go_wp2
        go_ret2
        have hz := leadEnd_far (s.data.toList.drop k) 0 k (by omega)
        rw [HE.out] at hz
        exact ⟨by simp [leadK, leadB, hz], rfl⟩
    · go_wp2
      go_ret2
      have hz := leadEnd_nil s.data.toList k k (by rw [HL.out]; omega)
      rw [HE.out] at hz
      exact ⟨by simp [leadK, leadB, hz], rfl⟩

theorem Try.infoStr : (Try.prog.info? 9).map (fun i => (i.zero, i.size, i.bytes)) = some (some (.string ByteArray.empty), 1, 16) := by kernel_rfl

/-- A text as a value. -/
def strV (b : List UInt8) : Value := .string ⟨b.toArray⟩
theorem strV_extract (s : ByteArray) (a b : Nat) : Value.string (s.extract a b) = strV ((s.data.toList.drop a).take (b - a)) := by
  unfold strV
  rw [← Lib.extract_data s a b]

/-- What Labels leaves: new memory alone; the labels, if it is a name. -/
def LabelsPost (l : List UInt8) (w : World) (e : Ending) (w' : World) : Prop :=
  Below w.heap.size w w' ∧ ∃ v, e = .returned (.tuple #[v, .bool (refB l)]) ∧ (refB l = true → w'.ownsRow w.heap.size 9 1 v (labsFrom l 0).length ((labsFrom l 0).map strV))

/-- The labels met till a place, and the rest of them. -/
def LabRel (l : List UInt8) (w : World) (k : Nat) (v : Value) (wr : World) : Prop :=
  refEnd (l.drop k) 0 = refEnd l 0 ∧ Below w.heap.size w wr ∧ ∃ P : List (List UInt8), P.length ≤ k ∧ P ++ labsFrom (l.drop k) 0 = labsFrom l 0 ∧ wr.ownsRow w.heap.size 9 1 v P.length (P.map strV)

theorem labRel_start (l : List UInt8) (w : World) : LabRel l w 0 (.slice none 0 0) w :=
  ⟨by simp, Below.refl _ _, [], by simp, by simp, World.ownsRow_nil _ _ _ _⟩

theorem labRel_step {l : List UInt8} {w wr w1 : World} {k : Nat} {v v' : Value} {P : List (List UInt8)} {o : Obj} (hk : k < l.length) (h0 : l[k].toNat ≠ 0) (h6 : l[k].toNat ≤ 63) (hlen : k + 1 + l[k].toNat ≤ l.length)
    (hre : refEnd (l.drop k) 0 = refEnd l 0) (hbel : Below w.heap.size w wr) (hPl : P.length ≤ k) (hPe : P ++ labsFrom (l.drop k) 0 = labsFrom l 0)
    (hown : wr.ownsRow w.heap.size 9 1 v P.length (P.map strV))
    (hown' : w1.ownsRow w.heap.size 9 1 v' (P.length + 1) (P.map strV ++ [strV ((l.drop (k + 1)).take l[k].toNat)])) (hgrow : (wr.alloc o).grownBy w1 v.ownBlock) :
    LabRel l w (k + 1 + l[k].toNat) v' w1 := by
  rw [drop_cons l k hk] at hre hPe
  rw [refEnd, if_neg h0, if_neg (by simp only [List.length_drop]; omega), refEnd_skip, List.drop_drop] at hre
  rw [labsFrom, if_neg h0, labsFrom_skip, List.drop_drop] at hPe
  refine ⟨hre, (hbel.alloc hbel.size o).grown hgrow (by simp; have := hbel.size; omega) (fun j hj => (hown.lt j hj).1), P ++ [(l.drop (k + 1)).take l[k].toNat], by simp; omega, by simpa using hPe, by simpa using hown'⟩

theorem labRel_zero {l : List UInt8} {w wr : World} {k : Nat} {v : Value} (hk : k < l.length) (h5 : l.length ≤ 255) (h0 : l[k].toNat = 0) (hR : LabRel l w k v wr) {b : Bool} (hb : b = decide (k + 1 = l.length)) :
    LabelsPost l w (.returned (.tuple #[v, .bool b])) wr := by
  obtain ⟨hre, hbel, P, hPl, hPe, hown⟩ := hR
  rw [drop_cons l k hk] at hre hPe
  rw [refEnd, if_pos h0] at hre
  rw [labsFrom, if_pos h0] at hPe
  have hb2 : b = refB l := by
    unfold refB
    rw [← hre, hb]
    rw [Bool.eq_iff_iff]
    simp [h5]
    omega
  refine ⟨hbel, v, by rw [hb2], fun _ => ?_⟩
  rw [← hPe]
  simpa using hown

theorem labRel_none {l : List UInt8} {w wr : World} {k : Nat} {v : Value} (hR : LabRel l w k v wr) (hn : refEnd (l.drop k) 0 = false) :
    LabelsPost l w (.returned (.tuple #[.slice none 0 0, .bool false])) wr := by
  obtain ⟨hre, hbel, _⟩ := hR
  have hf : refB l = false := by unfold refB; rw [← hre, hn]; simp
  exact ⟨hbel, _, by rw [hf], fun h => by rw [hf] at h; cases h⟩

theorem refEnd_bad (l : List UInt8) (k : Nat) (hk : k < l.length) (h0 : l[k].toNat ≠ 0) (h6 : 63 < l[k].toNat ∨ l.length < k + 1 + l[k].toNat) : refEnd (l.drop k) 0 = false := by
  rw [drop_cons l k hk, refEnd, if_neg h0, if_pos]
  rcases h6 with h | h
  · exact Or.inl h
  · right; simp; omega

set_option maxRecDepth 20000 in
set_option maxHeartbeats 800000 in
theorem labels_any (s : ByteArray) (w : World) (hs : s.size ≤ maxLen) :
    Calls Try.prog 28 #[.string s] w (LabelsPost s.data.toList w) := by
  unfold maxLen at hs
  have hL : s.data.toList.length = s.size := by simp
  have HL := Lib.hid hL
  clear hL
  obtain ⟨i0, hi, hz0, hz1, hz2⟩ := info_parts Try.infoStr
  by_cases h5 : s.size ≤ 255
  · go_enter Try.func28, Try.ntmps28
    go_wp2
    go_loopw [4, 5] (fun v i wr => ∃ k : Nat, k ≤ s.size ∧ i = .int .i64 k ∧ LabRel s.data.toList w k v wr) (fun _ i _ => s.size - (intOf i).toNat)
    case atStart => exact ⟨0, by omega, rfl, labRel_start _ _⟩
    case round =>
      obtain ⟨k, hk, rfl, hR⟩ := hrel
      by_cases hlt : k < s.size
      · have hb : s[k].toNat < 256 := s[k].toNat_lt
        have HB := Lib.hid (byte_at s k hlt)
        by_cases h0 : s[k].toNat = 0
        · have H0 := Lib.hid h0
          have e0 : ((s[k].toNat : Int) == 0) = true := by simp [h0]
          clear h0
          go_wp2
          go_ret2
          exact labRel_zero (by rw [HL.out]; exact hlt) (by rw [HL.out]; exact h5) H0.out hR (by have h1 := HL.out; rw [Bool.eq_iff_iff]; simp; omega)
        · have e0 : ((s[k].toNat : Int) == 0) = false := by simp; omega
          have H0 := Lib.hid h0
          clear h0
          by_cases h6 : 63 < s[k].toNat
          · go_wp2
            go_ret2
            exact labRel_none hR (refEnd_bad _ k (by rw [HL.out]; exact hlt) H0.out (Or.inl h6))
          · by_cases h7 : s.size < k + 1 + s[k].toNat
            · go_wp2
              go_ret2
              exact labRel_none hR (refEnd_bad _ k (by rw [HL.out]; exact hlt) H0.out (Or.inr (by have h1 := HL.out; have h2 := congrArg UInt8.toNat (byte_at s k hlt); omega)))
            · obtain ⟨hre, hbel, P, hPl, hPe, hown⟩ := hR
              have HRE := Lib.hid hre
              have HPE := Lib.hid hPe
              clear hre hPe
              have hsz := hbel.size
              have hsl : ∀ wx : World, (Instr.slice 9 (.string s) (some (.int .i64 ((k : Int) + 1))) (some (.int .i64 ((k : Int) + 1 + (s[k].toNat : Int)))) none).run Try.prog wx = .ok (.string (s.extract (k + 1) (k + 1 + s[k].toNat))) wx := by
                intro wx
                have h := run_slice_string (P := Try.prog) wx 9 s .i64 .i64 ((k : Int) + 1) ((k : Int) + 1 + (s[k].toNat : Int)) Try.underlying9 (by omega) (by omega) (by omega)
                rw [h, show ((k : Int) + 1).toNat = k + 1 by omega, show ((k : Int) + 1 + (s[k].toNat : Int)).toNat = k + 1 + s[k].toNat by omega]
              go_wp2_with (at_builtin; refine wpList_append_own _ rfl _ _ 42 rfl w.heap.size 9 i0 (.string ByteArray.empty) 1 16 Try.underlying42 hi hz0 hz1 hz2 rfl (by decide) _ _ _ rfl (hown.alloc _) ⟨wr.heap.size, 0, none⟩ 1 1 [.string (s.extract (k + 1) (k + 1 + s[k].toNat))] rfl rfl ?c1 ?c2 ?c3 ?c4 ?c5 ?_)
              case c1 =>
                intro j u hj
                match j, hj with
                | 0, hj => simp at hj; subst hj; simp [Addr.add]
              case c2 => intro u hu; simp at hu; subst hu; rfl
              case c3 => unfold maxLen; omega
              case c4 => omega
              case c5 => simp; omega
              intro v' w1 hown' hgrow _
              rw [strV_extract, show k + 1 + s[k].toNat - (k + 1) = s[k].toNat by omega] at hown'
              have R := labRel_step (by rw [HL.out]; exact hlt) H0.out (by have h2 := congrArg UInt8.toNat (byte_at s k hlt); omega) (by have h1 := HL.out; have h2 := congrArg UInt8.toNat (byte_at s k hlt); omega) HRE.out hbel hPl HPE.out hown hown' hgrow
              clear hown' hgrow hown
              go_wp2
              go_roundw
              case rel => exact ⟨k + 1 + s[k].toNat, by omega, by go_num, R⟩
              case measure => simp [intOf]; omega
      · go_wp2
        go_ret2
        exact labRel_none hR (by rw [List.drop_of_length_le (by rw [HL.out]; omega)]; rfl)
  · go_enter Try.func28, Try.ntmps28
    go_wp2
    go_ret2
    have hf : refB s.data.toList = false := by unfold refB; simp; intro h; omega
    exact ⟨Below.refl _ _, _, by rw [hf]; rfl, fun h => by rw [hf] at h; cases h⟩
end Go.Proofs.Ytkbbilcohoodlaa
