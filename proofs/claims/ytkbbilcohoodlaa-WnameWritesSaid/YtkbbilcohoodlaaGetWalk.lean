/-
  The contract of wname.Get: it computes getL of the bytes and the place; nothing that was there has turned.
-/
import Derived.Test.YtkbbilcohoodlaaRows
import Derived.Test.YtkbbilcohoodlaaGet
import Derived.Test.YtkbbilcohoodlaaBytes
import Derived.Test.YtkbbilcohoodlaaBits
import Derived.Test.YtkbbilcohoodlaaWriterWalks
import Derived.WalkKit
import Derived.Lib.Hide
namespace Go.Proofs.Ytkbbilcohoodlaa
open Go.RowKit

theorem Try.elemBytes : Try.prog.elem 22 = 5 := by kernel_rfl
theorem Try.sizeBytes : ∀ w, (sizeOf (Try.prog.elem 22)).run Try.prog w = .ok 1 w := fun w => by kernel_rfl

/-- What Get's loop keeps: the place, what was read, where the part began, behind the first pointer. -/
def GetRel (bs : List UInt8) (res : Option (List UInt8 × Nat)) (w : World) (at_ out began en : Value) (wr : World) : Prop :=
  ∃ (f a b : Nat) (e : Option Nat) (l : List UInt8), at_ = .int .i64 (a : Int) ∧ began = .int .i64 (b : Int) ∧ en = .int .i64 (endI e) ∧ a ≤ bs.length ∧ b ≤ bs.length ∧ l.length ≤ 400 ∧ (∀ k, e = some k → k ≤ bs.length) ∧
    wr.ownsRow w.heap.size 5 1 out l.length (bytesV l) ∧ Below w.heap.size w wr ∧ getM bs.length a b < f ∧ getF bs f a b e l = res
/-- How many rounds there may be yet. -/
def GetMu (n : Nat) (at_ began : Value) : Nat := getM n (intOf at_).toNat (intOf began).toNat

def GetPost (res : Option (List UInt8 × Nat)) (w : World) (e : Ending) (w' : World) : Prop :=
  e = .returned (.tuple #[.string ⟨(getN res).toArray⟩, .int .i64 (getK res), .int .i64 (getE res)]) ∧ Below w.heap.size w w'

theorem getPost_none {res : Option (List UInt8 × Nat)} {w w1 : World} (h : res = none) (hb : Below w.heap.size w w1) : GetPost res w (.returned (.tuple #[.string ⟨#[]⟩, .int .i64 0, .int .i64 2])) w1 := by
  subst h; exact ⟨rfl, hb⟩
theorem getPost_some {res : Option (List UInt8 × Nat)} {w w1 : World} {s : List UInt8} {k : Nat} (h : res = some (s, k)) (hb : Below w.heap.size w w1) :
    GetPost res w (.returned (.tuple #[.string ⟨s.toArray⟩, .int .i64 (k : Int), .int .i64 0])) w1 := by
  subst h; exact ⟨rfl, hb⟩
set_option maxRecDepth 20000 in
set_option maxHeartbeats 4000000 in
theorem get_any (A : Option Addr) (n c : Nat) (bs : List UInt8) (at_ : Int) (w : World) (hr : Reads w w.heap.size 1 A n (bytesV bs)) (hnc : n ≤ c) (hn : n ≤ 1000000) :
    Calls Try.prog 10 #[.slice A n c, .int .i64 at_] w (GetPost (getL bs at_) w) := by
  obtain rfl : n = bs.length := by have := hr.1; rw [bytesV_length] at this; omega
  obtain ⟨i0, hi, hz0, hz1, hz2⟩ := info_parts Try.infoU8
  have HR := Lib.hid hr
  clear hr
  have HE0 : endI none = -1 := rfl
  by_cases hat : 0 ≤ at_
  · obtain ⟨a0, rfl⟩ := Int.eq_ofNat_of_zero_le hat
    clear hat
    by_cases h1 : a0 < bs.length
    · go_enter Try.func10, Try.ntmps10
      go_wp2
      go_loopw [1, 7, 8, 9] (fun t out began en wr => GetRel bs (getL bs (a0 : Int)) w t out began en wr) (fun t _ began _ _ => GetMu bs.length t began)
      case atStart => exact ⟨getM bs.length a0 a0 + 1, a0, a0, none, [], rfl, rfl, rfl, by omega, by omega, by simp, (fun k hk => by cases hk), World.ownsRow_nil _ _ _ _, Below.refl _ _, by omega, by unfold getL; rw [if_pos (by omega)]; simp⟩
      case round =>
        obtain ⟨f, a, b, e, l, rfl, rfl, rfl, ha, hb, hll, hek, hown, hbel, hf, hres⟩ := hrel
        have HRES := Lib.hid hres
        have HEK := Lib.hid hek
        have HF := Lib.hid hf
        clear hres hek hf
        have hsz := hbel.size
        by_cases hlt : a < bs.length
        · obtain ⟨ad, x, rfl, had, hcx, hx, hxe⟩ := reads_byte (HR.out.below hbel) hlt
          have HX := Lib.hid hxe
          clear hxe had
          by_cases h0 : x = 0
          · subst h0
            have h00 : bs[a].toNat = 0 := HX.out.symm
            have HZ := Lib.hid (getF_zero (e := e) (l := l) HF.out hlt h00)
            clear h00
            go_wp2_with (at_builtin; refine wpList_append_own _ rfl _ _ 22 rfl w.heap.size 5 i0 (.int .u8 0) 1 1 Try.underlying22 hi hz0 hz1 hz2 rfl (by decide) _ _ _ rfl (hown.alloc _) ⟨wr.heap.size, 0, none⟩ 1 1 [.int .u8 0] rfl rfl ?c1 ?c2 ?c3 ?c4 ?c5 ?_)
            case c1 =>
              intro j u hj
              match j, hj with
              | 0, hj => simp at hj; subst hj; simp [Addr.add]
            case c2 => intro u hu; simp at hu; subst hu; rfl
            case c3 => unfold maxLen; omega
            case c4 => omega
            case c5 => simp; omega
            intro v' w1 hown' hgrow _
            have hbel1 : Below w.heap.size w w1 := (hbel.alloc hbel.size _).grown hgrow (by simp; omega) (fun j hj => (hown.lt j hj).1)
            obtain ⟨A1, c1, rfl⟩ := own_slice hown'
            have hcv := run_string_of (P := Try.prog) 22 5 9 Try.underlying22 Try.underlying5 Try.underlying9 (l := l ++ [0]) (c := c1) (Reads.of_own (by rw [bytesV_append]; exact hown'))
            clear hown' hgrow hown
            cases e with
            | none =>
              by_cases h255 : 255 < l.length + 1
              · go_wp2
                go_ret3
                exact getPost_none (by rw [← HRES.out, HZ.out, if_pos h255]) hbel1
              · go_wp2
                go_ret3
                exact getPost_some (s := l ++ [0]) (k := a + 1) (by rw [← HRES.out, HZ.out, if_neg h255]; rfl) hbel1
            | some k =>
              have HE1 : endI (some k) = (k : Int) := rfl
              by_cases h255 : 255 < l.length + 1
              · go_wp2
                go_ret3
                exact getPost_none (by rw [← HRES.out, HZ.out, if_pos h255]) hbel1
              · go_wp2
                go_ret3
                exact getPost_some (s := l ++ [0]) (k := k) (by rw [← HRES.out, HZ.out, if_neg h255]; rfl) hbel1
          · have e0 : ((x : Int) == 0) = false := by simp; omega
            have H0 := Lib.hid h0
            clear h0
            by_cases h6 : x ≤ 63
            · by_cases hbd : bs.length < a + 1 + x ∨ 255 < l.length
              · have HN : Hid (getF bs f a b e l = none) := getF_bad hlt (by rw [← HX.out]; exact H0.out) (by rw [← HX.out]; exact h6) (by rw [← HX.out]; exact hbd)
                by_cases hb1 : bs.length < a + 1 + x
                · go_wp2
                  go_ret3
                  exact getPost_none (by rw [← HRES.out, HN.out]) hbel
                · have hb2 : 255 < l.length := by omega
                  obtain ⟨A1, c1, rfl⟩ := own_slice hown
                  clear hbd
                  go_wp2
                  go_ret3
                  exact getPost_none (by rw [← HRES.out, HN.out]) hbel
              · have hbd1 : a + 1 + x ≤ bs.length := by omega
                have hbd2 : l.length ≤ 255 := by omega
                clear hbd
                obtain ⟨f', hs1, hs2⟩ := getF_label (e := e) (l := l) HF.out hlt (by rw [← HX.out]; exact H0.out) (by rw [← HX.out]; exact h6) (by rw [← HX.out]; omega)
                rw [← HX.out] at hs1 hs2
                have HS1 := Lib.hid hs1
                have HS2 := Lib.hid hs2
                clear hs1 hs2
                obtain ⟨A1, c1, rfl⟩ := own_slice hown
                have hsl : ∀ wx : World, (Instr.slice 22 (.slice (some ad) bs.length c) (some (.int .i64 (a : Int))) (some (.int .i64 ((a : Int) + 1 + (x : Int)))) none).run Try.prog wx = .ok (.slice (cutA (some ad) a c) (1 + x) (c - a)) wx := by
                  intro wx
                  have h := run_slice_cut (P := Try.prog) 22 5 Try.underlying22 Try.sizeBytes Try.elemBytes (some ad) bs.length c a (a + 1 + x) (by omega) (by omega) wx
                  rw [show ((a + 1 + x : Nat) : Int) = (a : Int) + 1 + (x : Int) by omega, show a + 1 + x - a = 1 + x by omega] at h
                  exact h
                have hcut := (HR.out.below hbel).cutTo (k := a) (j := a + 1 + x) (c := c) (by omega) (by omega) hnc
                rw [show a + 1 + x - a = 1 + x by omega] at hcut
                have hcut2 : Reads wr wr.heap.size 1 (cutA (some ad) a c) (1 + x) (bytesV ((bs.drop a).take (1 + x))) := by
                  have := hcut.more hsz
                  unfold bytesV at this ⊢
                  rw [List.map_take, List.map_drop]
                  exact this
                clear hcut
                go_wp2_with (at_builtin; refine wpList_append_any _ rfl (.tmp 85) (.tmp 92) 22 rfl w.heap.size 5 i0 (.int .u8 0) 1 1 Try.underlying22 hi hz0 hz1 hz2 rfl (by decide) _ _ _ rfl hown _ _ _ _ _ rfl hcut2 (bytesV_one _) ?c6 ?c7 ?c8 ?_)
                case c6 => unfold maxLen; omega
                case c7 => omega
                case c8 => exact hsz
                intro v' w1 hown' hgrow _
                have hbel1 : Below w.heap.size w w1 := hbel.grown hgrow hsz (fun j hj => (hown.lt j hj).1)
                rw [← bytesV_append] at hown'
                have hl2 : (l ++ (bs.drop a).take (1 + x)).length = l.length + (1 + x) := by
                  rw [List.length_append, List.length_take, List.length_drop]; omega
                rw [← hl2] at hown'
                have HL2 := Lib.hid hl2
                clear hl2 hgrow hown hcut2
                go_wp2
                go_roundw
                case rel => exact ⟨f', a + 1 + x, b, e, l ++ (bs.drop a).take (1 + x), by go_num, rfl, rfl, by omega, hb, by rw [HL2.out]; omega, HEK.out, hown', hbel1, HS2.out, by rw [← HS1.out]; exact HRES.out⟩
                case measure => unfold GetMu; simp [intOf]; unfold getM; omega
            · by_cases h9 : x < 192
              · have HN : Hid (getF bs f a b e l = none) := getF_mid hlt (by rw [← HX.out]; exact h6) (by rw [← HX.out]; exact h9)
                go_wp2
                go_ret3
                exact getPost_none (by rw [← HRES.out, HN.out]) hbel
              · by_cases hc2 : bs.length ≤ a + 1
                · have HN : Hid (getF bs f a b e l = none) := getF_cut hlt (by rw [← HX.out]; exact h9) hc2
                  go_wp2
                  go_ret3
                  exact getPost_none (by rw [← HRES.out, HN.out]) hbel
                · have hlt2 : a + 1 < bs.length := by omega
                  obtain ⟨ad2, y, had2, _, hcy, hy, hye⟩ := reads_byte (HR.out.below hbel) hlt2
                  injection had2 with had2
                  subst had2
                  have HY := Lib.hid hye
                  clear hye
                  have hcy2 : wr.cell? ⟨ad.block, ad.off + (a + 1), none⟩ = some (.int .u8 (y : Int)) := hcy
                  have hx9 : 192 ≤ x := by omega
                  have han := andNot_192 x hx hx9
                  obtain ⟨t, ht⟩ : ∃ t, t = (x - 192) * 256 + y := ⟨_, rfl⟩
                  have hor : bits .or .i64 (((x : Int) - 192) * 256) (y : Int) = (t : Int) := by rw [ht]; exact pointer_or x y hx hx9 hy
                  have htb : t < 16384 := by omega
                  have HT := Lib.hid ht
                  clear ht
                  by_cases hbt : b ≤ t
                  · have HN : Hid (getF bs f a b e l = none) := getF_far hlt (by rw [← HX.out]; exact h9) hlt2 (by rw [← HX.out, ← HY.out, ← HT.out]; exact hbt)
                    go_wp2
                    go_ret3
                    exact getPost_none (by rw [← HRES.out, HN.out]) hbel
                  · obtain ⟨f', hs1, hs2⟩ := getF_pointer (e := e) (l := l) HF.out hlt (by rw [← HX.out]; exact h9) hlt2 (by rw [← HX.out, ← HY.out, ← HT.out]; exact hbt)
                    rw [← HX.out, ← HY.out, ← HT.out] at hs1 hs2
                    have HS1 := Lib.hid hs1
                    have HS2 := Lib.hid hs2
                    have HM := Lib.hid (getM_pointer bs.length a b t (by omega))
                    clear hs1 hs2
                    cases e with
                    | none =>
                      go_wp2
                      go_roundw
                      case rel => exact ⟨f', t, t, some (a + 2), l, rfl, rfl, by show _ = Value.int .i64 ((a + 2 : Nat) : Int); go_num, by omega, by omega, hll, (fun k hk => by injection hk with hk; omega), hown, hbel, HS2.out, by rw [← HRES.out, HS1.out]; rfl⟩
                      case measure => exact HM.out
                    | some k =>
                      have HE1 : endI (some k) = (k : Int) := rfl
                      go_wp2
                      go_roundw
                      case rel => exact ⟨f', t, t, some k, l, rfl, rfl, rfl, by omega, by omega, hll, HEK.out, hown, hbel, HS2.out, by rw [← HRES.out, HS1.out]; rfl⟩
                      case measure => exact HM.out
        · go_wp2
          go_ret3
          exact getPost_none (by rw [← HRES.out]; exact getF_out (by omega)) hbel
    · have HN : Hid (getL bs (a0 : Int) = none) := by show getL bs (a0 : Int) = none; unfold getL; rw [if_pos (by omega)]; exact getF_out (by simpa using h1)
      go_enter Try.func10, Try.ntmps10
      go_wp2
      refine wp_loop_rounds 1 ?_
      rw [rounds_succ]
      go_wp2
      go_ret3
      exact getPost_none HN.out (Below.refl _ _)
  · have HN : Hid (getL bs at_ = none) := by show getL bs at_ = none; unfold getL; rw [if_neg hat]
    go_enter Try.func10, Try.ntmps10
    go_wp2
    refine wp_loop_rounds 1 ?_
    rw [rounds_succ]
    go_wp2
    go_ret3
    exact getPost_none HN.out (Below.refl _ _)
end Go.Proofs.Ytkbbilcohoodlaa
