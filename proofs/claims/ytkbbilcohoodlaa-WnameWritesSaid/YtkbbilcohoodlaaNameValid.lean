/-
  The contracts of name.Valid and of the reference's Valid.
-/
import Derived.Test.YtkbbilcohoodlaaNameWalks
namespace Go.Proofs.Ytkbbilcohoodlaa
open Go.RowKit

theorem valid_of_lead (l : List UInt8) (h : leadB l = true) : validB l = (leadK l == (l.length : Int)) := by
  unfold leadB at h
  obtain ⟨k, hk⟩ := Option.isSome_iff_exists.1 h
  unfold validB leadK
  rw [hk, Bool.eq_iff_iff]
  simp
  omega
theorem valid_of_not (l : List UInt8) (h : leadB l = false) : validB l = false := by
  unfold leadB at h
  unfold validB
  cases hl : leadEnd l 0 0 with
  | none => rfl
  | some k => rw [hl] at h; cases h

set_option maxRecDepth 20000 in
set_option maxHeartbeats 400000 in
theorem valid_any (s : ByteArray) (w : World) (hs : s.size ≤ maxLen) :
    Calls Try.prog 29 #[.string s] w fun e w' => e = .returned (.bool (validB s.data.toList)) ∧ w = w' := by
  have hL : s.data.toList.length = s.size := by simp
  have HL := Lib.hid hL
  clear hL
  cases hb : leadB s.data.toList
  · have HV := Lib.hid (valid_of_not _ hb)
    go_enter Try.func29, Try.ntmps29
    go_wp2_with (go_at_call 34; refine (lead_any _ _ hs).mono ?_; rintro e w' ⟨rfl, rfl⟩)
    go_ret
    exact ⟨ret_bool (by rw [HV.out]), rfl⟩
  · have HV := Lib.hid (valid_of_lead _ hb)
    go_enter Try.func29, Try.ntmps29
    go_wp2_with (go_at_call 34; refine (lead_any _ _ hs).mono ?_; rintro e w' ⟨rfl, rfl⟩)
    go_ret
    exact ⟨ret_bool (by rw [HV.out, HL.out]), rfl⟩

set_option maxRecDepth 20000 in
set_option maxHeartbeats 400000 in
theorem refValid_any (s : ByteArray) (w : World) (hs : s.size ≤ maxLen) :
    Calls Try.prog 13 #[.string s] w fun e w' => e = .returned (.bool (validB s.data.toList)) ∧ Below w.heap.size w w' := by
  have HV := Lib.hid (refB_valid s.data.toList)
  go_enter Try.func13, Try.ntmps13
  go_wp2_with (go_at_call 28; refine (labels_any _ _ hs).mono ?_; rintro e w1 ⟨hb1, v, rfl, _⟩)
  go_ret
  exact ⟨ret_bool HV.out, hb1⟩

theorem valid_l (l : List UInt8) (w : World) (hs : l.length ≤ maxLen) :
    Calls Try.prog 29 #[.string ⟨l.toArray⟩] w fun e w' => e = .returned (.bool (validB l)) ∧ w = w' :=
  valid_any ⟨l.toArray⟩ w (by show l.toArray.size ≤ maxLen; simpa using hs)
theorem refValid_l (l : List UInt8) (w : World) (hs : l.length ≤ maxLen) :
    Calls Try.prog 13 #[.string ⟨l.toArray⟩] w fun e w' => e = .returned (.bool (validB l)) ∧ Below w.heap.size w w' :=
  refValid_any ⟨l.toArray⟩ w (by show l.toArray.size ≤ maxLen; simpa using hs)
end Go.Proofs.Ytkbbilcohoodlaa
