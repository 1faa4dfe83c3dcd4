/-
  The contract of name.Parent at a name of one label or more; a name's first byte and its cuts, as equations on the operations.
-/
import Derived.Test.YtkbbilcohoodlaaNameValid
import Derived.Test.YtkbbilcohoodlaaMade
import Derived.Laws.IdiomStrings
import Derived.Test.YtkbbilcohoodlaaBytes
namespace Go.Proofs.Ytkbbilcohoodlaa
open Go.RowKit

theorem size_of_data {s : ByteArray} {l : List UInt8} (h : s.data.toList = l) : s.size = l.length := by rw [← h]; simp
theorem byte_of_data {s : ByteArray} {l : List UInt8} (h : s.data.toList = l) (k : Nat) (hk : k < s.size) : s[k].toNat = (l[k]'(by rw [← size_of_data h]; exact hk)).toNat := by
  subst h; rfl
theorem run_index_at {P : Program} (t : TypeId) (ht : P.underlying t = some .string) (s : ByteArray) (l : List UInt8) (h : s.data.toList = l) (k x : Nat) (hk : k < l.length) (hx : l[k].toNat = x) (w : World) :
    (Instr.index t (.string s) (.int .i64 (k : Int))).run P w = .ok (.int .u8 (x : Int)) w := by
  have hs := size_of_data h
  rw [run_index_string w t s .i64 k ht, dif_pos ⟨by omega, by omega⟩]
  have := byte_of_data h k (by omega)
  simp only [Int.toNat_natCast]
  rw [this, hx]
theorem run_from {P : Program} (t : TypeId) (ht : P.underlying t = some .string) (s : ByteArray) (l : List UInt8) (h : s.data.toList = l) (k : Nat) (hk : k ≤ l.length) :
    ∃ u : ByteArray, u.data.toList = l.drop k ∧ ∀ w : World, (Instr.slice t (.string s) (some (.int .i64 (k : Int))) none none).run P w = .ok (.string u) w := by
  have hs := size_of_data h
  refine ⟨s.extract k s.size, by rw [Lib.extract_data, h, List.take_of_length_le (by rw [List.length_drop]; omega)], fun w => ?_⟩
  rw [run_slice_string_from_if w t s .i64 k ht, if_pos ⟨by omega, by omega⟩]
  rfl
theorem run_to {P : Program} (t : TypeId) (ht : P.underlying t = some .string) (s : ByteArray) (l : List UInt8) (h : s.data.toList = l) (k : Nat) (hk : k ≤ l.length) :
    ∃ u : ByteArray, u.data.toList = l.take k ∧ ∀ w : World, (Instr.slice t (.string s) none (some (.int .i64 (k : Int))) none).run P w = .ok (.string u) w := by
  have hs := size_of_data h
  refine ⟨s.extract 0 k, by rw [Lib.extract_data, h]; simp, fun w => ?_⟩
  rw [run_slice_string_to_if w t s .i64 k ht, if_pos ⟨by omega, by omega⟩]
  rfl
/-- '[]byte(s)'. -/
theorem conv_bytes {P : Program} (src dst e : TypeId) (hs : P.underlying src = some .string) (hd : P.underlying dst = some (.slice e)) (he : P.underlying e = some (.int .u8)) (s : ByteArray) (l : List UInt8) (h : s.data.toList = l) (w : World) :
    ∃ (c : Nat) (w1 : World), (convert src dst (.string s)).run P w = .ok (.slice (some ⟨w.heap.size, 0, none⟩) l.length c) w1 ∧ Reads w1 w1.heap.size 1 (some ⟨w.heap.size, 0, none⟩) l.length (bytesV l) ∧ Below w.heap.size w w1 ∧ l.length ≤ c := by
  have hsz := size_of_data h
  refine ⟨_, _, by rw [← hsz]; exact run_bytes_of_string w src dst e s hs hd he, ⟨by rw [bytesV_length]; omega, fun _ => ⟨_, rfl, by simp, fun j u hu => ?_⟩⟩, ((Below.refl _ _).drew).alloc (Nat.le_refl _) _, by rw [← hsz]; exact grownCap_ge w s.size 0 e⟩
  have hj : j < l.length := by
    rcases Nat.lt_or_ge j l.length with hj | hj
    · exact hj
    · rw [List.getElem?_eq_none (by rw [bytesV_length]; exact hj)] at hu; cases hu
  rw [bytesV_at l j hj] at hu
  injection hu with hu
  subst hu
  have ha : (⟨w.heap.size, 0, none⟩ : Addr).add j = ⟨w.drew.heap.size, j, none⟩ := by
    have : w.drew.heap.size = w.heap.size := rfl
    rw [this]
    unfold Addr.add; split <;> simp_all
  rw [ha, World.cell?_alloc_mark, bytesRow_at s _ j (by show j < s.size; omega)]
  subst h
  rfl

/-- What Parent answers. -/
def ParentPost (l : List UInt8) (w : World) (e : Ending) (w' : World) : Prop := ∃ u : ByteArray, e = .returned (.string u) ∧ u.data.toList = l ∧ w = w'
set_option maxRecDepth 20000 in
set_option maxHeartbeats 400000 in
theorem parent_any (s : ByteArray) (l : List UInt8) (r : List (List UInt8)) (w : World) (h : s.data.toList = made (l :: r)) (hg : GoodL (l :: r)) (hl : (made (l :: r)).length ≤ 255) :
    Calls Try.prog 30 #[.string s] w (ParentPost (made r) w) := by
  have hv : validB s.data.toList = true := by rw [h]; exact valid_made _ hg hl
  have hs := size_of_data h
  have hml : s.size ≤ maxLen := by unfold maxLen; omega
  obtain ⟨g1, g2⟩ := hg l (by simp)
  have hmc := made_cons_length l r
  have hmp := made_pos r
  obtain ⟨x, hx⟩ : ∃ x, x = l.length := ⟨_, rfl⟩
  have hne : (s.toList == [0]) = false := by rw [Lib.toList_data, h]; exact beq_eq_false_iff_ne.2 (made_ne_root l r)
  have hidx := run_index_at (P := Try.prog) 9 Try.underlying9 s _ h 0 x (by omega) (by show (UInt8.ofNat l.length).toNat = x; rw [ofNat_toNat _ (by omega), hx])
  obtain ⟨u, hu, hsl⟩ := run_from (P := Try.prog) 9 Try.underlying9 s _ h (1 + x) (by omega)
  have HU : Hid (u.data.toList = made r) := by
    show u.data.toList = made r
    rw [hu, hx, made, Nat.add_comm, List.drop_succ_cons, drop_append_len]
  have hx1 : x ≤ 63 := by omega
  have hsl2 : ∀ w : World, (Instr.slice 9 (.string s) (some (.int .i64 (1 + (x : Int)))) none none).run Try.prog w = .ok (.string u) w := fun w => by
    have := hsl w
    rwa [show ((1 + x : Nat) : Int) = 1 + (x : Int) by omega] at this
  simp only [Int.natCast_zero] at hidx
  clear hu hsl hx hmc hmp h hg hl hs g1 g2
  go_enter Try.func30, Try.ntmps30
  go_wp2_with (go_at_call 29; refine (valid_any _ _ hml).mono ?_; rintro e w' ⟨rfl, rfl⟩)
  go_ret
  exact ⟨u, rfl, HU.out, rfl⟩
end Go.Proofs.Ytkbbilcohoodlaa
