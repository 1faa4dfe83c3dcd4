/-
  The contracts of the reference's Made and of its writer's Out.
-/
import Derived.Test.YtkbbilcohoodlaaRefWriter
import Derived.Deep.Onto
namespace Go.Proofs.Ytkbbilcohoodlaa
open Go.RowKit Go.Maps

def preM : List (List UInt8) → List UInt8
  | [] => []
  | l :: r => UInt8.ofNat l.length :: (l ++ preM r)
theorem made_pre : ∀ ls, made ls = preM ls ++ [0]
  | [] => rfl
  | l :: r => by simp [made, preM, made_pre r]
theorem preM_append : ∀ (a b : List (List UInt8)), preM (a ++ b) = preM a ++ preM b
  | [], _ => rfl
  | l :: r, b => by simp [preM, preM_append r b]
theorem preM_snoc (ls : List (List UInt8)) (k : Nat) (h : k < ls.length) : preM (ls.take (k + 1)) = preM (ls.take k) ++ (UInt8.ofNat ls[k].length :: ls[k]) := by
  rw [List.take_add_one, List.getElem?_eq_getElem h, preM_append]
  simp [preM]
theorem preM_le (ls : List (List UInt8)) (k : Nat) : (preM (ls.take k)).length ≤ (preM ls).length := by
  have h : preM ls = preM (ls.take k) ++ preM (ls.drop k) := by rw [← preM_append, List.take_append_drop]
  rw [h, List.length_append]; omega
theorem texts_at {W w : World} {A : Option Addr} {n k : Nat} {ls : List (List UInt8)} (hr : Reads W W.heap.size 1 A n (ls.map strV)) (hk : k < ls.length) (hb : Below W.heap.size W w) :
    ∃ ad, A = some ad ∧ w.cell? (ad.add k) = some (strV ls[k]) := by
  have hn := hr.1
  rw [List.length_map] at hn
  obtain ⟨ad, u, rfl, had, hx, hc⟩ := (hr.below hb).at_ (show k < n by omega)
  rw [List.getElem?_map, List.getElem?_eq_getElem hk] at hx
  injection hx with hx
  subst hx
  exact ⟨ad, rfl, hc⟩
def MadePost (ls : List (List UInt8)) (w : World) (e : Ending) (w' : World) : Prop := ∃ z : ByteArray, e = .returned (.string z) ∧ z.data.toList = made ls ∧ Below w.heap.size w w'

set_option maxRecDepth 20000 in
set_option maxHeartbeats 1000000 in
theorem made_any (A : Option Addr) (n c : Nat) (ls : List (List UInt8)) (w : World) (hr : Reads w w.heap.size 1 A n (ls.map strV)) (hg : ∀ l ∈ ls, l.length ≤ 63) (hl : (preM ls).length ≤ 1000) (hnn : ls.length ≤ 1000) :
    Calls Try.prog 32 #[.slice A n c] w (MadePost ls w) := by
  have hn := hr.1
  rw [List.length_map, Nat.mul_one] at hn
  subst hn
  go_enter Try.func32, Try.ntmps32
  go_wp2
  go_loopw [3, 4] (fun s i wr => ∃ (k : Nat) (z : ByteArray), k ≤ ls.length ∧ i = .int .i64 (k : Int) ∧ s = .string z ∧ z.data.toList = preM (ls.take k) ∧ Below w.heap.size w wr) (fun _ i _ => ls.length - (intOf i).toNat)
  case atStart => exact ⟨0, ByteArray.empty, by omega, rfl, rfl, by simp [preM], Below.refl _ _⟩
  case round =>
    obtain ⟨k, z, hk, rfl, rfl, hz, hB⟩ := hrel
    have hle := preM_le ls k
    have hzs := size_of_data hz
    have HZ := Lib.hid hz
    by_cases hlt : k < ls.length
    · obtain ⟨ad, rfl, hcx⟩ := texts_at hr hlt hB
      have h63 := hg _ (List.getElem_mem hlt)
      have HSN := Lib.hid (preM_snoc ls k hlt)
      have HX := fun (w' : World) (hb : Below w.heap.size w w') => texts_at hr hlt hb
      obtain ⟨l, hl⟩ : ∃ l, ls[k] = l := ⟨_, rfl⟩
      rw [hl] at hcx h63 HSN
      have HC : Hid (∀ w' : World, Below w.heap.size w w' → w'.cell? (ad.add k) = some (.string ⟨l.toArray⟩)) := by
        intro w' hb
        obtain ⟨ad', h, hc⟩ := HX w' hb
        injection h with h
        subst h
        rw [hl] at hc
        exact hc
      clear HX hl hz
      have hsz : (ByteArray.mk l.toArray).size = l.length := by simp [ByteArray.size]
      have hcx : wr.cell? (ad.add k) = some (.string ⟨l.toArray⟩) := hcx
      obtain ⟨z1, hz1⟩ : ∃ z : ByteArray, z.data.toList = [UInt8.ofNat l.length] := ⟨⟨#[UInt8.ofNat l.length]⟩, rfl⟩
      have hz1s : z1.size = 1 := by rw [size_of_data hz1]; rfl
      have hrz := reads_new wr 5 (bytesV [UInt8.ofNat l.length]) #[.int .u8 (l.length : Int)] (by simp only [bytesV, byteV, List.map_cons, List.map_nil]; rw [ofNat_toNat _ (by omega)])
      have e8 : IntKind.u8.wrap (l.length : Int) = (l.length : Int) := IntWalk.u8_in _ (by omega)
      have hcv := sq_string (P := Try.prog) 22 5 9 Try.underlying22 Try.underlying5 Try.underlying9 (c := 1) hrz.drew hz1
      have hcv2 : (convert 22 9 (.slice (some ⟨wr.heap.size, 0, none⟩) 1 1)).run Try.prog (wr.alloc (.cells #[.int .u8 (IntKind.u8.wrap (l.length : Int))] 5)).drew = .ok (.string z1) (wr.alloc (.cells #[.int .u8 (IntKind.u8.wrap (l.length : Int))] 5)).drew := by rw [e8]; exact hcv
      have HB2 := fun o => (hB.alloc hB.size o).drew
      obtain ⟨z2, hadd1, hz2s, hz2⟩ := sq_add (P := Try.prog) z z1 (by omega)
      obtain ⟨z3, hadd2, hz3s, hz3⟩ := sq_add (P := Try.prog) z2 ⟨l.toArray⟩ (by omega)
      have HZ3 : Hid (z3.data.toList = preM (ls.take (k + 1))) := by
        show z3.data.toList = _
        rw [hz3, hz2, hz1, HZ.out, HSN.out]; simp
      clear hz1 hz2 hz3 hrz hcv e8
      have bi0 : (0 : Int) ≤ (k : Int) := by omega
      have bi1 : (k : Int) < (ls.length : Int) := by omega
      go_wp2_with fail
      go_region_held (fun w' => w'.cell? (ad.add k) = some (.string ⟨l.toArray⟩)) (first | exact hcx | exact HC.out _ (HB2 _) | go_keep) (fail)
      go_wp2
      go_roundw
      case rel => exact ⟨k + 1, z3, by omega, by go_num, rfl, HZ3.out, HB2 _⟩
      case measure => simp [intOf]; omega
    · obtain rfl : k = ls.length := by omega
      obtain ⟨z2, hadd1, hz2s, hz2⟩ := sq_add (P := Try.prog) z ⟨#[0]⟩ (by show z.size + 1 ≤ _; omega)
      have HZ2 : Hid (z2.data.toList = made ls) := by
        show z2.data.toList = _
        rw [hz2, HZ.out, made_pre, List.take_length]
      clear hz2 hz
      go_wp2
      go_ret
      exact ⟨z2, rfl, HZ2.out, hB⟩

/-- What the reference's Out answers. -/
def ROutPost (most : Int) (b : List UInt8) (bad : Bool) (w : World) (e : Ending) (w' : World) : Prop :=
  Below w.heap.size w w' ∧ if bad = true ∨ most < b.length then e = .returned (.tuple #[.slice none 0 0, .bool false])
    else ∃ v, e = .returned (.tuple #[v, .bool true]) ∧ w'.ownsRow w.heap.size 5 1 v b.length (bytesV b)
set_option maxRecDepth 20000 in
set_option maxHeartbeats 1000000 in
theorem rout_any (g : Nat) (most : Int) (bv : Value) (b : List UInt8) (pv : Value) (pl : List (List UInt8)) (bad : Bool) (w : World) (h : RAt w g most bv b pv pl bad) (hb : b.length ≤ 1000000) :
    Calls Try.prog 25 #[.pointer (some ⟨g, 0, none⟩)] w (ROutPost most b bad w) := by
  obtain ⟨A1, c1, rfl⟩ := own_slice h.2.1
  obtain ⟨i0, hi, hz0, hz1, hz2⟩ := info_parts Try.infoU8
  have hc0 : w.cell? ⟨g, 0, none⟩ = some (.int .i64 most) := h.1.cell 0
  have hc1 : w.cell? ⟨g, 1, none⟩ = some (.slice A1 b.length c1) := h.1.cell 1
  have hc3 : w.cell? ⟨g, 3, none⟩ = some (.bool bad) := h.1.cell 3
  have HH := Lib.hid h
  clear h
  cases bad
  · by_cases hm : most < b.length
    · go_enter Try.func25, Try.ntmps25
      go_wp2_with fail
      go_quiet (fail)
      go_wp2
      go_ret2
      exact ⟨below_drewN (Below.refl _ _) _, by rw [if_pos (Or.inr hm)]; rfl⟩
    · go_enter Try.func25, Try.ntmps25
      go_wp2_with fail
      go_quiet (fail)
      obtain ⟨w2, hw2⟩ : ∃ w2, w.drewN nq = w2 := ⟨_, rfl⟩
      have h2 : RAt w2 g most (.slice A1 b.length c1) b pv pl false := by rw [← hw2]; exact HH.out
      have hb2 : Below w.heap.size w w2 := by rw [← hw2]; exact below_drewN (Below.refl _ _) _
      have hk1 : w2.cell? ⟨g, 1, none⟩ = some (.slice A1 b.length c1) := h2.1.cell 1
      rw [hw2]
      have hk2 : (w2.alloc (.cells #[] 5)).cell? ⟨g, 1, none⟩ = some (.slice A1 b.length c1) := (h2.alloc _).1.cell 1
      have hr2 := (Reads.of_own (h2.alloc (.cells #[] 5)).2.1)
      have hown : (w2.alloc (.cells #[] 5)).ownsRow w2.heap.size 5 1 (.slice (some ⟨w2.heap.size, 0, none⟩) 0 0) 0 [] := World.ownsRow_lit w2 #[] 0 (Nat.le_refl _) (by simp [maxLen]) rfl
      have hsz2 : w.heap.size ≤ w2.heap.size := hb2.size
      have HSZ := Lib.hid hsz2
      have HB2 := Lib.hid hb2
      clear hw2 h2 hc0 hc1 hc3 hb2 hsz2
      go_wp2_with (at_builtin; refine wpList_append_any _ rfl _ _ 22 rfl w2.heap.size 5 i0 (.int .u8 0) 1 1 Try.underlying22 hi hz0 hz1 hz2 rfl (by decide) _ _ _ rfl hown _ _ _ _ _ rfl hr2 (bytesV_one _) ?c6 ?c7 ?c8 ?_)
      case c6 => unfold maxLen; omega
      case c7 => omega
      case c8 => simp
      intro v' w3 hown' hgrow _
      have hb3 : Below w.heap.size w w3 := (HB2.out.alloc HSZ.out _).grown hgrow (by have := HSZ.out; simp; omega) (fun k hk => by simp [Value.ownBlock] at hk; have := HSZ.out; omega)
      obtain ⟨A2, c2, rfl⟩ := own_slice hown'
      clear hgrow hown hr2
      go_wp2
      go_ret2
      exact ⟨hb3, by rw [if_neg (by simp [hm])]; exact ⟨_, rfl, World.ownsRow.mono (by simpa using hown') HSZ.out⟩⟩
  · go_enter Try.func25, Try.ntmps25
    go_wp2_with fail
    go_quiet (fail)
    go_wp2
    go_ret2
    exact ⟨below_drewN (Below.refl _ _) _, by rw [if_pos (Or.inl rfl)]; rfl⟩
end Go.Proofs.Ytkbbilcohoodlaa
