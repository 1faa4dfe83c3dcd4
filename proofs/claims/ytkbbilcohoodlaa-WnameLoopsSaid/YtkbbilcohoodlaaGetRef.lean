/-
  The contract of the reference's Get: it computes getL of the bytes and the place, too.
-/
import Derived.Test.YtkbbilcohoodlaaGetWalk
namespace Go.Proofs.Ytkbbilcohoodlaa
open Go.RowKit

def GetRelR (bs : List UInt8) (res : Option (List UInt8 × Nat)) (at_ n en from_ : Value) : Prop :=
  ∃ (f a b : Nat) (e : Option Nat) (l : List UInt8) (s : ByteArray), at_ = .int .i64 (a : Int) ∧ n = .string s ∧ en = .int .i64 (endI e) ∧ from_ = .int .i64 (b : Int) ∧ a ≤ bs.length ∧ b ≤ bs.length ∧ l.length ≤ 400 ∧ s.data.toList = l ∧ (∀ k, e = some k → k ≤ bs.length) ∧
    getM bs.length a b < f ∧ getF bs f a b e l = res
def GetPostR (res : Option (List UInt8 × Nat)) (w : World) (e : Ending) (w' : World) : Prop :=
  e = .returned (.tuple #[.string ⟨(getN res).toArray⟩, .int .i64 (getK res), .bool (getB res)]) ∧ w = w'
theorem getPostR_none {res : Option (List UInt8 × Nat)} {w : World} (h : res = none) : GetPostR res w (.returned (.tuple #[.string ⟨#[]⟩, .int .i64 0, .bool false])) w := by
  subst h; exact ⟨rfl, rfl⟩
theorem getPostR_some {res : Option (List UInt8 × Nat)} {w : World} {s : List UInt8} {k : Nat} (h : res = some (s, k)) :
    GetPostR res w (.returned (.tuple #[.string ⟨s.toArray⟩, .int .i64 (k : Int), .bool true])) w := by
  subst h; exact ⟨rfl, rfl⟩
theorem getPostR_str {res : Option (List UInt8 × Nat)} {w : World} {l : List UInt8} {s : ByteArray} {k : Nat} (h : res = some (l, k)) (hs : s.data.toList = l) :
    GetPostR res w (.returned (.tuple #[.string s, .int .i64 (k : Int), .bool true])) w := by
  subst h hs; exact ⟨rfl, rfl⟩
/-- Two texts as one, under a name. -/
theorem add_named {P : Program} (s t : ByteArray) (h : s.size + t.size ≤ 9223372036854775807) :
    ∃ u : ByteArray, (∀ wx : World, (Op.stringOp .add s t).run P wx = .ok (.string u) wx) ∧ u.size = s.size + t.size ∧ u.data.toList = s.data.toList ++ t.data.toList :=
  ⟨s ++ t, fun wx => run_string_add_sum wx s t h, by simp, by simp⟩
theorem size_arr (l : List UInt8) : (ByteArray.mk l.toArray).size = l.length := by simp [ByteArray.size]

set_option maxRecDepth 20000 in
set_option maxHeartbeats 4000000 in
theorem refGet_any (A : Option Addr) (n c : Nat) (bs : List UInt8) (at_ : Int) (w : World) (hr : Reads w w.heap.size 1 A n (bytesV bs)) (hnc : n ≤ c) (hn : n ≤ 1000000) :
    Calls Try.prog 11 #[.slice A n c, .int .i64 at_] w (GetPostR (getL bs at_) w) := by
  obtain rfl : n = bs.length := by have := hr.1; rw [bytesV_length] at this; omega
  have HR := Lib.hid hr
  clear hr
  have HE0 : endI none = -1 := rfl
  by_cases hat : 0 ≤ at_
  · obtain ⟨a0, rfl⟩ := Int.eq_ofNat_of_zero_le hat
    clear hat
    by_cases h1 : a0 < bs.length
    · go_enter Try.func11, Try.ntmps11
      go_wp2
      go_loop [1, 7, 8, 9] (fun t n en fr => GetRelR bs (getL bs (a0 : Int)) t n en fr) (fun t _ _ fr => GetMu bs.length t fr)
      case atStart => exact ⟨getM bs.length a0 a0 + 1, a0, a0, none, [], _, rfl, rfl, rfl, rfl, by omega, by omega, by simp, rfl, (fun k hk => by cases hk), by omega, by unfold getL; rw [if_pos (by omega)]; simp⟩
      case round =>
        obtain ⟨f, a, b, e, l, s, rfl, rfl, rfl, rfl, ha, hb, hll, hsl, hek, hf, hres⟩ := hrel
        have hse : s.size = l.length := by rw [← hsl]; simp
        have hs1 : s.size ≤ l.length := by omega
        have hs2 : l.length ≤ s.size := by omega
        have HSL := Lib.hid hsl
        clear hsl hse
        have HRES := Lib.hid hres
        have HEK := Lib.hid hek
        have HF := Lib.hid hf
        clear hres hek hf
        by_cases hlt : a < bs.length
        · obtain ⟨ad, x, rfl, had, hcx, hx, hxe⟩ := reads_byte HR.out hlt
          have HX := Lib.hid hxe
          clear hxe had
          by_cases h0 : x = 0
          · subst h0
            have h00 : bs[a].toNat = 0 := HX.out.symm
            have HZ := Lib.hid (getF_zero (e := e) (l := l) HF.out hlt h00)
            clear h00
            obtain ⟨u, hadd, hu, hud⟩ := add_named (P := Try.prog) s ⟨#[0]⟩ (by show s.size + 1 ≤ _; omega)
            have hu1 : u.size ≤ s.size + 1 := by rw [hu]; exact Nat.le_refl _
            have hu2 : s.size + 1 ≤ u.size := by rw [hu]; exact Nat.le_refl _
            have HUD : Hid (u.data.toList = l ++ [0]) := by show u.data.toList = _; rw [hud, HSL.out]
            clear hu hud
            cases e with
            | none =>
              by_cases h255 : 255 < u.size
              · go_wp2
                go_ret3
                exact getPostR_none (by rw [← HRES.out, HZ.out, if_pos (by omega)])
              · go_wp2
                go_ret3
                exact getPostR_str (k := a + 1) (by rw [← HRES.out, HZ.out, if_neg (by omega)]; rfl) HUD.out
            | some k =>
              have HE1 : endI (some k) = (k : Int) := rfl
              by_cases h255 : 255 < u.size
              · go_wp2
                go_ret3
                exact getPostR_none (by rw [← HRES.out, HZ.out, if_pos (by omega)])
              · go_wp2
                go_ret3
                exact getPostR_str (k := k) (by rw [← HRES.out, HZ.out, if_neg (by omega)]; rfl) HUD.out
          · have e0 : ((x : Int) == 0) = false := by simp; omega
            have H0 := Lib.hid h0
            clear h0
            by_cases h9 : 192 ≤ x
            · by_cases hc2 : bs.length ≤ a + 1
              · have HN : Hid (getF bs f a b e l = none) := getF_cut hlt (by rw [← HX.out]; omega) hc2
                go_wp2
                go_ret3
                exact getPostR_none (by rw [← HRES.out, HN.out])
              · have hlt2 : a + 1 < bs.length := by omega
                obtain ⟨ad2, y, had2, _, hcy, hy, hye⟩ := reads_byte HR.out hlt2
                injection had2 with had2
                subst had2
                have HY := Lib.hid hye
                clear hye
                have hcy2 : w.cell? ⟨ad.block, ad.off + (a + 1), none⟩ = some (.int .u8 (y : Int)) := hcy
                obtain ⟨t, ht⟩ : ∃ t, t = (x - 192) * 256 + y := ⟨_, rfl⟩
                have hor : ((x : Int) - 192) * 256 + (y : Int) = (t : Int) := by omega
                have htb : t < 16384 := by omega
                have HT := Lib.hid ht
                clear ht
                by_cases hbt : b ≤ t
                · have HN : Hid (getF bs f a b e l = none) := getF_far hlt (by rw [← HX.out]; omega) hlt2 (by rw [← HX.out, ← HY.out, ← HT.out]; exact hbt)
                  cases e with
                  | none =>
                    go_wp2
                    go_ret3
                    exact getPostR_none (by rw [← HRES.out, HN.out])
                  | some k =>
                    have HE1 : endI (some k) = (k : Int) := rfl
                    go_wp2
                    go_ret3
                    exact getPostR_none (by rw [← HRES.out, HN.out])
                · obtain ⟨f', hq1, hq2⟩ := getF_pointer (e := e) (l := l) HF.out hlt (by rw [← HX.out]; omega) hlt2 (by rw [← HX.out, ← HY.out, ← HT.out]; exact hbt)
                  rw [← HX.out, ← HY.out, ← HT.out] at hq1 hq2
                  have HS1 := Lib.hid hq1
                  have HS2 := Lib.hid hq2
                  have HM := Lib.hid (getM_pointer bs.length a b t (by omega))
                  clear hq1 hq2
                  cases e with
                  | none =>
                    go_wp2
                    go_round
                    case rel => exact ⟨f', t, t, some (a + 2), l, s, rfl, rfl, by show _ = Value.int .i64 ((a + 2 : Nat) : Int); go_num, rfl, by omega, by omega, hll, HSL.out, (fun k hk => by injection hk with hk; omega), HS2.out, by rw [← HRES.out, HS1.out]; rfl⟩
                    case measure => exact HM.out
                  | some k =>
                    have HE1 : endI (some k) = (k : Int) := rfl
                    go_wp2
                    go_round
                    case rel => exact ⟨f', t, t, some k, l, s, rfl, rfl, rfl, rfl, by omega, by omega, hll, HSL.out, HEK.out, HS2.out, by rw [← HRES.out, HS1.out]; rfl⟩
                    case measure => exact HM.out
            · by_cases h6 : 63 < x
              · have HN : Hid (getF bs f a b e l = none) := getF_mid hlt (by rw [← HX.out]; omega) (by rw [← HX.out]; omega)
                go_wp2
                go_ret3
                exact getPostR_none (by rw [← HRES.out, HN.out])
              · by_cases hb1 : bs.length < a + 1 + x
                · have HN : Hid (getF bs f a b e l = none) := getF_bad hlt (by rw [← HX.out]; exact H0.out) (by rw [← HX.out]; omega) (by rw [← HX.out]; exact Or.inl hb1)
                  go_wp2
                  go_ret3
                  exact getPostR_none (by rw [← HRES.out, HN.out])
                · by_cases hb2 : 255 < s.size
                  · have HN : Hid (getF bs f a b e l = none) := getF_bad hlt (by rw [← HX.out]; exact H0.out) (by rw [← HX.out]; omega) (by right; omega)
                    go_wp2
                    go_ret3
                    exact getPostR_none (by rw [← HRES.out, HN.out])
                  · obtain ⟨f', hq1, hq2⟩ := getF_label (e := e) (l := l) HF.out hlt (by rw [← HX.out]; exact H0.out) (by rw [← HX.out]; omega) (by rw [← HX.out]; omega)
                    rw [← HX.out] at hq1 hq2
                    have HS1 := Lib.hid hq1
                    have HS2 := Lib.hid hq2
                    clear hq1 hq2
                    have hslc : ∀ wx : World, (Instr.slice 22 (.slice (some ad) bs.length c) (some (.int .i64 (a : Int))) (some (.int .i64 ((a : Int) + 1 + (x : Int)))) none).run Try.prog wx = .ok (.slice (cutA (some ad) a c) (1 + x) (c - a)) wx := by
                      intro wx
                      have h := run_slice_cut (P := Try.prog) 22 5 Try.underlying22 Try.sizeBytes Try.elemBytes (some ad) bs.length c a (a + 1 + x) (by omega) (by omega) wx
                      rw [show ((a + 1 + x : Nat) : Int) = (a : Int) + 1 + (x : Int) by omega, show a + 1 + x - a = 1 + x by omega] at h
                      exact h
                    have hcut := HR.out.cutTo (k := a) (j := a + 1 + x) (c := c) (by omega) (by omega) hnc
                    rw [show a + 1 + x - a = 1 + x by omega] at hcut
                    have hcut2 : Reads w w.heap.size 1 (cutA (some ad) a c) (1 + x) (bytesV ((bs.drop a).take (1 + x))) := by
                      unfold bytesV at hcut ⊢
                      rw [List.map_take, List.map_drop]
                      exact hcut
                    have hcv := run_string_of (P := Try.prog) 22 5 9 Try.underlying22 Try.underlying5 Try.underlying9 (c := c - a) hcut2
                    obtain ⟨z, hz⟩ : ∃ z : ByteArray, z = ⟨((bs.drop a).take (1 + x)).toArray⟩ := ⟨_, rfl⟩
                    rw [← hz] at hcv
                    have hzl : z.data.toList = (bs.drop a).take (1 + x) := by rw [hz]
                    have hzs : z.size = 1 + x := by
                      have h5 : z.data.toList.length = z.size := by simp
                      rw [← h5, hzl, List.length_take, List.length_drop]; omega
                    obtain ⟨u, hadd, hu, hud⟩ := add_named (P := Try.prog) s z (by omega)
                    have HUD : Hid (u.data.toList = l ++ (bs.drop a).take (1 + x)) := by show u.data.toList = _; rw [hud, HSL.out, hzl]
                    have HUL : Hid ((l ++ (bs.drop a).take (1 + x)).length ≤ 400) := by
                      show (l ++ (bs.drop a).take (1 + x)).length ≤ 400
                      rw [List.length_append, List.length_take]; omega
                    clear hcut hcut2 hz hzl hzs hu hud
                    go_wp2
                    go_round
                    case rel => exact ⟨f', a + 1 + x, b, e, l ++ (bs.drop a).take (1 + x), u, by go_num, rfl, rfl, rfl, by omega, hb, HUL.out, HUD.out, HEK.out, HS2.out, by rw [← HS1.out]; exact HRES.out⟩
                    case measure => unfold GetMu; simp [intOf]; unfold getM; omega
        · go_wp2
          go_ret3
          exact getPostR_none (by rw [← HRES.out]; exact getF_out (by omega))
    · have HN : Hid (getL bs (a0 : Int) = none) := by show getL bs (a0 : Int) = none; unfold getL; rw [if_pos (by omega)]; exact getF_out (by simpa using h1)
      go_enter Try.func11, Try.ntmps11
      go_wp2
      refine wp_loop_rounds 1 ?_
      rw [rounds_succ]
      go_wp2
      go_ret3
      exact getPostR_none HN.out
  · have HN : Hid (getL bs at_ = none) := by show getL bs at_ = none; unfold getL; rw [if_neg hat]
    go_enter Try.func11, Try.ntmps11
    go_wp2
    refine wp_loop_rounds 1 ?_
    rw [rounds_succ]
    go_wp2
    go_ret3
    exact getPostR_none HN.out
end Go.Proofs.Ytkbbilcohoodlaa
