/-
  The contract of the wname laws' awake.
-/
import Derived.Test.YtkbbilcohoodlaaNameW
import Derived.Test.YtkbbilcohoodlaaGetWalk
namespace Go.Proofs.Ytkbbilcohoodlaa
open Go.RowKit Go.Maps

theorem step_below {w w1 w' : World} {g mb : Nat} {bv' : Value} (hb : Below w.heap.size w w1) (hg : w.heap.size ≤ g) (hm : w.heap.size ≤ mb) (hs : WrStep g mb (.slice none 0 0) bv' w1 w') : Below w.heap.size w w' :=
  hb.trans (hs.1.below hb.size (fun i hi hf => by
    rcases hf with hf | hf | hf
    · omega
    · omega
    · simp [Value.ownBlock] at hf))

def NameOk (g mb : Nat) (bv : Value) (most : Int) (wrong : Bool) (res : List UInt8 × Met) (w : World) (e : Ending) (w' : World) : Prop := e = .returned (.tuple #[]) ∧ NameEnd g mb bv most wrong res w w'
theorem name_ok (g mb n : Nat) (bv : Value) (most : Int) (b : List UInt8) (D : DataW Unit) (wrong : Bool) (f : Met) (l : List UInt8) (sq : Bool) (res : List UInt8 × Met) (w : World) (h : WrAt w g mb bv most b D n wrong)
    (hm : MetIs D f) (hsm : SmallM f) (hn : n ≤ b.length) (hb : b.length ≤ 999990000) (hv : validB l = true) (hres : nameW sq (labsFrom l 0) b f = res) :
    Calls Try.prog 15 #[.pointer (some ⟨g, 0, none⟩), .string ⟨l.toArray⟩, .bool sq] w (NameOk g mb bv most wrong res w) := by
  subst hres
  have hl := validB_le hv
  refine (name_any g mb n bv most b D wrong f ⟨l.toArray⟩ sq w h hm hsm hn hb (by show l.toArray.size ≤ maxLen; unfold maxLen; simp; omega)).mono ?_
  rintro e w' ⟨he, h1, _⟩
  exact ⟨he, h1 hv⟩

/-- Out, where all is well. -/
theorem out_ok (g mb n : Nat) (bv : Value) (most : Int) (b : List UInt8) (D : DataW Unit) (w : World) (h : WrAt w g mb bv most b D n false) (hb : b.length ≤ 1000000000) (hm : (b.length : Int) ≤ most) :
    Calls Try.prog 24 #[.pointer (some ⟨g, 0, none⟩)] w fun e w' => ∃ A c, e = .returned (.tuple #[.slice A b.length c, .int .i64 0]) ∧ w'.ownsRow w.heap.size 5 1 (.slice A b.length c) b.length (bytesV b) ∧ Below w.heap.size w w' := by
  refine (out_any g mb n bv most b D false w h hb).mono ?_
  rintro e w' ⟨hb1, h2⟩
  rw [if_neg (by simp; omega)] at h2
  obtain ⟨v, he, hv⟩ := h2
  obtain ⟨A, c, rfl⟩ := own_slice hv
  exact ⟨A, c, he, hv, hb1⟩

theorem own_le_cap {w : World} {base e size n c : Nat} {xs : List Value} {A : Option Addr} (h : w.ownsRow base e size (.slice A n c) n xs) : n ≤ c := by
  rcases h.2 with ⟨h, h0⟩ | ⟨g, cap, _, h, _, _, hc, _⟩
  · omega
  · injection h with _ _ h; omega
theorem get_ok (A : Option Addr) (n c : Nat) (bs : List UInt8) (at_ : Int) (l : List UInt8) (k : Nat) (w : World) (hr : Reads w w.heap.size 1 A n (bytesV bs)) (hnc : n ≤ c) (hn : n ≤ 1000000) (hg : getL bs at_ = some (l, k)) :
    Calls Try.prog 10 #[.slice A n c, .int .i64 at_] w fun e w' => e = .returned (.tuple #[.string ⟨l.toArray⟩, .int .i64 (k : Int), .int .i64 0]) ∧ Below w.heap.size w w' :=
  (get_any A n c bs at_ w hr hnc hn).mono fun e w' ⟨he, hb⟩ => ⟨by rw [he, hg]; rfl, hb⟩
theorem get_not (A : Option Addr) (n c : Nat) (bs : List UInt8) (at_ : Int) (w : World) (hr : Reads w w.heap.size 1 A n (bytesV bs)) (hnc : n ≤ c) (hn : n ≤ 1000000) (hg : getL bs at_ = none) :
    Calls Try.prog 10 #[.slice A n c, .int .i64 at_] w fun e w' => e = .returned (.tuple #[.string ⟨#[]⟩, .int .i64 0, .int .i64 2]) ∧ Below w.heap.size w w' :=
  (get_any A n c bs at_ w hr hnc hn).mono fun e w' ⟨he, hb⟩ => ⟨by rw [he, hg]; rfl, hb⟩

theorem aw_valid1 : validB [3, 119, 119, 119, 1, 97, 0] = true := by decide
theorem aw_valid2 : validB [1, 97, 0] = true := by decide
def awF : Met := upd (upd none_ [3, 119, 119, 119, 1, 97, 0] 0) [1, 97, 0] 4
theorem aw_res1 : nameW true (labsFrom [3, 119, 119, 119, 1, 97, 0] 0) [] none_ = ([3, 119, 119, 119, 1, 97, 0], awF) := by rfl
theorem aw_res2 : nameW true (labsFrom [1, 97, 0] 0) [3, 119, 119, 119, 1, 97, 0] awF = ([3, 119, 119, 119, 1, 97, 0, 192, 4], awF) := by rfl
theorem aw_get1 : getL [3, 119, 119, 119, 1, 97, 0, 192, 4] 7 = some ([1, 97, 0], 9) := by decide
theorem aw_get2 : getL [192, 0] 0 = none := by decide

set_option maxRecDepth 200000 in
set_option maxHeartbeats 1000000 in
theorem awake_any (w : World) : Calls Try.prog 9 #[] w fun e w' => e = .returned (.bool true) ∧ Below w.heap.size w w' := by
  go_enter Try.func9, Try.ntmps9
  go_wp2_with fail
  refine (new_any 100 _).mono ?_
  rintro e w1 ⟨g, mb, rfl, hw1, hb1, hg, hmb⟩
  go_wp2_with fail
  refine (name_ok g mb 0 _ 100 [] _ false none_ _ true _ _ hw1 metIs_new (fun k v h => by cases h) (by simp) (by simp) aw_valid1 aw_res1).mono ?_
  rintro e w2 ⟨rfl, bv2, D2, n2, hw2, hs2, hm2, hsm2, hn2⟩
  go_wp2_with fail
  refine (name_ok g mb n2 _ 100 _ _ false awF _ true _ _ hw2 hm2 hsm2 hn2 (by simp) aw_valid2 aw_res2).mono ?_
  rintro e w3 ⟨rfl, bv3, D3, n3, hw3, hs3, hm3, hsm3, hn3⟩
  go_wp2_with fail
  refine (out_ok g mb n3 _ 100 _ _ _ hw3 (by simp) (by simp)).mono ?_
  rintro e w4 ⟨A4, c4, rfl, ho4, hb4⟩
  have hbw3 := step_below hb1 hg hmb (hs2.trans hs3)
  have hw4 := hw3.below hb4
  have hr4 := Reads.of_own ho4
  have hcap4 := own_le_cap ho4
  go_wp2_with fail
  refine (get_ok _ _ _ [3, 119, 119, 119, 1, 97, 0, 192, 4] 7 _ _ _ hr4 hcap4 (by simp) aw_get1).mono ?_
  rintro e w5 ⟨rfl, hb5⟩
  have hn5 := reads_new w5 5 (bytesV [192, 0]) #[.int .u8 192, .int .u8 0] (by simp [bytesV, byteV])
  go_wp2_with fail
  refine (get_not _ 2 2 [192, 0] 0 _ hn5 (by omega) (by omega) aw_get2).mono ?_
  rintro e w6 ⟨rfl, hb6⟩
  go_wp2_with fail
  refine (two_nil _ _).mono ?_
  rintro e w7 ⟨rfl, hb7⟩
  go_wp2_with fail
  refine (out_nil _).mono ?_
  rintro e w8 ⟨rfl, hb8⟩
  have h56 : Below w5.heap.size w5 w6 := ((Below.refl _ _).alloc (Nat.le_refl _) _).trans (hb6.mono (by simp))
  have h46 : Below w4.heap.size w4 w6 := hb5.trans (h56.mono hb5.size)
  have h47 := h46.trans (hb7.mono h46.size)
  have h48 := h47.trans (hb8.mono h47.size)
  have hr8 := (hr4.below h48).more h48.size
  have hcv : (convert 22 9 (.slice A4 9 c4)).run Try.prog w8 = .ok (.string ⟨#[3, 119, 119, 119, 1, 97, 0, 192, 4]⟩) w8 :=
    run_string_of (P := Try.prog) 22 5 9 Try.underlying22 Try.underlying5 Try.underlying9 (c := c4) (l := [3, 119, 119, 119, 1, 97, 0, 192, 4]) hr8
  have hw8 := hw4.below h48
  go_wp2_with fail
  refine (len_any g mb n3 _ 100 _ _ _ _ hw8).mono ?_
  rintro e w9 ⟨rfl, rfl⟩
  go_wp2_with fail
  refine (len_nil _).mono ?_
  rintro e w9 ⟨rfl, rfl⟩
  go_wp2
  go_ret
  have hz := (hbw3.trans (hb4.mono hbw3.size))
  exact ⟨rfl, hz.trans (h48.mono hz.size)⟩
end Go.Proofs.Ytkbbilcohoodlaa
