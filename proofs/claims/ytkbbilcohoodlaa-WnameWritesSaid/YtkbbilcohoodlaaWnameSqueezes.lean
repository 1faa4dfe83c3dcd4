/-
  The walk of WnameSqueezes.
-/
import Derived.Test.YtkbbilcohoodlaaWAwake
import Derived.Test.YtkbbilcohoodlaaNamePlain
namespace Go.Proofs.Ytkbbilcohoodlaa
open Go.RowKit Go.Maps

theorem name_ok_s (g mb n : Nat) (bv : Value) (most : Int) (b : List UInt8) (D : DataW Unit) (wrong : Bool) (f : Met) (s : ByteArray) (l : List UInt8) (hs : s.data.toList = l) (sq : Bool) (res : List UInt8 × Met) (w : World) (h : WrAt w g mb bv most b D n wrong)
    (hm : MetIs D f) (hsm : SmallM f) (hn : n ≤ b.length) (hb : b.length ≤ 999990000) (hv : validB l = true) (hres : nameW sq (labsFrom l 0) b f = res) :
    Calls Try.prog 15 #[.pointer (some ⟨g, 0, none⟩), .string s, .bool sq] w (NameOk g mb bv most wrong res w) := by
  have e : s = ⟨l.toArray⟩ := by subst hs; rfl
  rw [e]
  exact name_ok g mb n bv most b D wrong f l sq res w h hm hsm hn hb hv hres
theorem len_int (g mb n : Nat) (bv : Value) (most : Int) (b : List UInt8) (D : DataW Unit) (wrong : Bool) (x : Int) (w : World) (h : WrAt w g mb bv most b D n wrong) (hx : x = (b.length : Int)) :
    Calls Try.prog 16 #[.pointer (some ⟨g, 0, none⟩)] w fun e w' => e = .returned (.int .i64 x) ∧ w = w' := by
  subst hx; exact len_any g mb n bv most b D wrong w h
theorem sq_add {P : Program} (s t : ByteArray) (h : s.size + t.size ≤ 9223372036854775807) :
    ∃ u : ByteArray, (∀ wx : World, (Op.stringOp .add s t).run P wx = .ok (.string u) wx) ∧ u.size = s.size + t.size ∧ u.data.toList = s.data.toList ++ t.data.toList :=
  ⟨s ++ t, fun wx => run_string_add_sum wx s t h, by simp, by simp⟩
theorem sq_string {P : Program} (src e dst : TypeId) (hs : P.underlying src = some (.slice e)) (he : P.underlying e = some (.int .u8)) (hd : P.underlying dst = some .string) {w : World} {B n c : Nat} {A : Option Addr} {l : List UInt8} {z : ByteArray}
    (h : Reads w B 1 A n (bytesV l)) (hz : z.data.toList = l) : (convert src dst (.slice A n c)).run P w = .ok (.string z) w := by
  have e : z = ⟨l.toArray⟩ := by subst hz; rfl
  rw [e]; exact run_string_of src _ dst hs he hd h
/-- The writer in the loop: k times two bytes more. -/
def SqRel (g mb : Nat) (len : Nat) (f : Met) (u2 : World) (k : Nat) (wr : World) : Prop :=
  ∃ bv D nn b, WrAt wr g mb bv 4000 b D nn false ∧ WrStep g mb (.slice none 0 0) bv u2 wr ∧ MetIs D f ∧ nn ≤ b.length ∧ b.length = len + 2 * k

set_option maxRecDepth 200000 in
set_option maxHeartbeats 4000000 in
theorem walkWnameSqueezes (s0 s1 : ByteArray) (a2 : Int) (w : World) (w0 : s0.size ≤ maxLen) (_w1 : s1.size ≤ maxLen) (_w2 : (Lit.int .i64 a2).wf = true) :
    Calls Try.prog 5 #[.string s0, .string s1, .int .i64 a2] w fun e w' => e = .returned (.bool true) ∧ Below w.heap.size w w' := by
  clear _w2
  by_cases h150 : 150 < s0.size
  · go_enter Try.func5, Try.ntmps5
    go_wp2_with fail
    refine (awake_any _).mono ?_
    rintro e v ⟨rfl, hv⟩
    go_wp2
    go_ret
    exact ⟨rfl, hv⟩
  · cases hv0 : validB s0.data.toList
    · go_enter Try.func5, Try.ntmps5
      go_wp2_with fail
      refine (refValid_any _ _ w0).mono ?_
      rintro e u1 ⟨rfl, hu1⟩
      go_wp2_with fail
      refine (awake_any _).mono ?_
      rintro e v ⟨rfl, hv⟩
      go_wp2
      go_ret
      exact ⟨rfl, hu1.trans (hv.mono hu1.size)⟩
    · by_cases hroot : s0.data.toList = [0]
      · have hq : (s0.toList == [0]) = true := by rw [Lib.toList_data, hroot]; rfl
        go_enter Try.func5, Try.ntmps5
        go_wp2_with fail
        refine (refValid_any _ _ w0).mono ?_
        rw [hv0]
        rintro e u1 ⟨rfl, hu1⟩
        go_wp2_with fail
        refine (awake_any _).mono ?_
        rintro e v ⟨rfl, hv⟩
        go_wp2
        go_ret
        exact ⟨rfl, hu1.trans (hv.mono hu1.size)⟩
      · have hq : (s0.toList == [0]) = false := by rw [Lib.toList_data]; exact beq_eq_false_iff_ne.2 hroot
        have HV := Lib.hid hv0
        have HROOT := Lib.hid hroot
        clear hv0 hroot
        by_cases hok : (1 ≤ s1.size ∧ s1.size ≤ 60) ∧ 1 ≤ a2 ∧ a2 ≤ 10
        · obtain ⟨⟨m1, m2⟩, t1, t2⟩ := hok
          obtain ⟨tm, rfl⟩ := Int.eq_ofNat_of_zero_le (show 0 ≤ a2 by omega)
          go_enter Try.func5, Try.ntmps5
          go_wp2_with fail
          refine (refValid_any _ _ w0).mono ?_
          rw [HV.out]
          rintro e u1 ⟨rfl, hu1⟩
          go_wp2_with fail
          refine (new_any 4000 _).mono ?_
          rintro e u2 ⟨g, mb, rfl, hw2, hb2, hg, hmb⟩
          go_wp2_with fail
          obtain ⟨⟨b1, f1⟩, hr1⟩ : ∃ p, nameW true (labsFrom s0.data.toList 0) [] none_ = p := ⟨_, rfl⟩
          have hl0 := size_of_data (rfl : s0.data.toList = s0.data.toList)
          have hmd := made_of_valid HV.out
          have hfr := nameW_fresh (labsFrom s0.data.toList 0) [] none_ (by rw [hmd.1]; simp; omega) (fun _ _ => rfl)
          rw [hr1, hmd.1] at hfr
          have hb1 : b1 = s0.data.toList := hfr.1
          have hf1 : f1 s0.data.toList = some 0 := hfr.2 (labs_ne_nil HV.out HROOT.out)
          have HR1 := Lib.hid hr1
          have HB1 : Hid (b1.length = s0.size) := by show b1.length = s0.size; rw [hb1, hl0]
          have HF1 := Lib.hid hf1
          have HMD := Lib.hid hmd
          clear hl0 hfr hb1 hf1 hr1 hmd
          refine (name_ok_s g mb 0 _ 4000 [] _ false none_ s0 _ rfl true _ _ hw2 metIs_new (fun k v h => by cases h) (by simp) (by simp) HV.out HR1.out).mono ?_
          rintro e u3 ⟨rfl, bv3, D3, n3, hw3, hs3, hm3, hsm3, hn3⟩
          go_wp2_with fail
          refine (len_int g mb n3 bv3 4000 b1 D3 false (s0.size : Int) _ hw3 (by rw [HB1.out])).mono ?_
          rintro e u4 ⟨rfl, rfl⟩
          go_wp2_with fail
          go_loopw [8] (fun i wr => ∃ k : Nat, k ≤ tm ∧ i = .int .i64 (k : Int) ∧ SqRel g mb s0.size f1 u2 k wr) (fun i _ => tm - (intOf i).toNat)
          case atStart => exact ⟨0, by omega, rfl, bv3, D3, n3, b1, hw3, hs3, hm3, hn3, by rw [HB1.out]; omega⟩
          case round =>
            obtain ⟨k, hk, rfl, bv5, D5, n5, b5, hw5, hs5, hm5, hn5, hl5⟩ := hrel
            have HL5 := Lib.hid hl5
            have hl5a : b5.length ≤ 200 := by omega
            clear hl5
            by_cases hlt : k < tm
            · go_wp2_with fail
              have hhit : nameW true (labsFrom s0.data.toList 0) b5 f1 = (b5 ++ ptrB 0, f1) := by
                cases hls : labsFrom s0.data.toList 0 with
                | nil => exact absurd hls (labs_ne_nil HV.out HROOT.out)
                | cons l r => exact nameW_hit rfl (by rw [← hls, HMD.out.1]; exact HF1.out)
              refine (name_ok_s g mb n5 bv5 4000 b5 D5 false f1 s0 _ rfl true _ _ hw5 hm5 hsm3 hn5 (by omega) HV.out hhit).mono ?_
              rintro e u6 ⟨rfl, bv6, D6, n6, hw6, hs6, hm6, hsm6, hn6⟩
              go_wp2
              go_roundw
              case rel => exact ⟨k + 1, by omega, by go_num, bv6, D6, n6, _, hw6, hs5.trans hs6, hm6, hn6, by rw [List.length_append, ptrB_length, HL5.out]; omega⟩
              case measure => simp [intOf]; omega
            · obtain rfl : k = tm := by omega
              go_wp2_with fail
              refine (len_int g mb n5 bv5 4000 b5 D5 false ((s0.size : Int) + 2 * (k : Int)) _ hw5 (by rw [HL5.out]; omega)).mono ?_
              rintro e u7 ⟨rfl, rfl⟩
              go_wp2_with fail
              obtain ⟨z1, hz1⟩ : ∃ z : ByteArray, z.data.toList = [UInt8.ofNat s1.size] := ⟨⟨#[UInt8.ofNat s1.size]⟩, rfl⟩
              have hz1s : z1.size = 1 := by rw [size_of_data hz1]; rfl
              have hrz := reads_new wr 5 (bytesV [UInt8.ofNat s1.size]) #[.int .u8 (s1.size : Int)] (by simp only [bytesV, byteV, List.map_cons, List.map_nil]; rw [ofNat_toNat _ (by omega)])
              have hcv := sq_string (P := Try.prog) 22 5 9 Try.underlying22 Try.underlying5 Try.underlying9 (c := 1) hrz hz1
              have hcv2 : (convert 22 9 (.slice (some ⟨wr.heap.size, 0, none⟩) 1 1)).run Try.prog (wr.alloc (.cells #[.int .u8 (s1.size : Int)] 5)) = .ok (.string z1) (wr.alloc (.cells #[.int .u8 (s1.size : Int)] 5)) := hcv
              obtain ⟨z2, hadd1, hz2s, hz2⟩ := sq_add (P := Try.prog) z1 s1 (by omega)
              obtain ⟨z3, hadd2, hz3s, hz3⟩ := sq_add (P := Try.prog) z2 s0 (by omega)
              have hl1 := size_of_data (rfl : s1.data.toList = s1.data.toList)
              have hl0 := size_of_data (rfl : s0.data.toList = s0.data.toList)
              have hzl : z3.data.toList = UInt8.ofNat s1.data.toList.length :: (s1.data.toList ++ s0.data.toList) := by rw [hz3, hz2, hz1, ← hl1]; rfl
              have HZ := Lib.hid hzl
              have HLO := Lib.hid (labs_cons s1.data.toList s0.data.toList (by omega) (by omega))
              have HVO := Lib.hid (valid_cons s1.data.toList s0.data.toList (by omega) (by omega) HV.out (by omega))
              obtain ⟨⟨b7, f7⟩, hr7⟩ : ∃ p, nameW true (labsFrom (UInt8.ofNat s1.data.toList.length :: (s1.data.toList ++ s0.data.toList)) 0) b5 f1 = p := ⟨_, rfl⟩
              have hun := nameW_under s1.data.toList (labsFrom s0.data.toList 0) b5 f1 (by omega) 0 (labs_ne_nil HV.out HROOT.out) (by rw [HMD.out.1]; exact HF1.out)
              rw [← HLO.out, hr7] at hun
              obtain ⟨hb7, a7, hf7⟩ := hun
              have hb7a : (b7.length : Int) ≤ (s0.size : Int) + 2 * (k : Int) + 1 + (s1.size : Int) + 2 := by
                have : b7.length ≤ b5.length + 1 + s1.data.toList.length + 2 := hb7
                have h5 := HL5.out
                omega
              have hb7b : b7.length ≤ 400 := by omega
              have HR7 := Lib.hid hr7
              have HF7 := Lib.hid hf7
              have HHIT : Hid (nameW true (labsFrom (UInt8.ofNat s1.data.toList.length :: (s1.data.toList ++ s0.data.toList)) 0) b7 f7 = (b7 ++ ptrB a7, f7)) := by
                show nameW true (labsFrom (UInt8.ofNat s1.data.toList.length :: (s1.data.toList ++ s0.data.toList)) 0) b7 f7 = _
                rw [HLO.out]; exact nameW_hit rfl (by rw [← HLO.out]; exact HF7.out)
              clear hz1 hz1s hrz hcv hz2s hz2 hz3s hz3 hl1 hl0 hzl hr7 hf7 hb7
              go_wp2_with fail
              refine (len_int g mb n5 bv5 4000 b5 D5 false ((s0.size : Int) + 2 * (k : Int)) _ (hw5.alloc _) (by rw [HL5.out]; omega)).mono ?_
              rintro e u8 ⟨rfl, rfl⟩
              go_wp2_with fail
              refine (name_ok_s g mb n5 bv5 4000 b5 D5 false f1 z3 _ HZ.out true _ _ (hw5.alloc _) hm5 hsm3 hn5 (by omega) HVO.out HR7.out).mono ?_
              rintro e u9 ⟨rfl, bv9, D9, n9, hw9, hs9, hm9, hsm9, hn9⟩
              go_wp2_with fail
              refine (len_int g mb n9 bv9 4000 b7 D9 false (b7.length : Int) _ hw9 rfl).mono ?_
              rintro e u10 ⟨rfl, rfl⟩
              go_wp2_with fail
              refine (len_int g mb n9 bv9 4000 b7 D9 false (b7.length : Int) _ hw9 rfl).mono ?_
              rintro e u10 ⟨rfl, rfl⟩
              go_wp2_with fail
              refine (name_ok_s g mb n9 bv9 4000 b7 D9 false f7 z3 _ HZ.out true _ _ hw9 hm9 hsm9 hn9 (by omega) HVO.out HHIT.out).mono ?_
              rintro e u11 ⟨rfl, bv11, D11, n11, hw11, hs11, hm11, hsm11, hn11⟩
              go_wp2_with fail
              refine (name_ok_s g mb n11 bv11 4000 _ D11 false f7 ⟨#[0]⟩ [0] rfl true _ _ hw11 hm11 hsm11 hn11 (by simp [ptrB_length]; omega) (by decide) rfl).mono ?_
              rintro e u12 ⟨rfl, bv12, D12, n12, hw12, hs12, hm12, hsm12, hn12⟩
              go_wp2_with fail
              refine (len_int g mb n12 bv12 4000 _ D12 false ((b7.length : Int) + 3) _ hw12 (by simp [labsFrom, nameW, ptrB_length]; try omega)).mono ?_
              rintro e u13 ⟨rfl, rfl⟩
              go_wp2_with fail
              refine (awake_any _).mono ?_
              rintro e v ⟨rfl, hv⟩
              go_wp2
              go_ret
              have hz := hu1.trans ((step_below hb2 hg hmb (hs5.trans ((step_alloc hs9).trans (hs11.trans hs12)))).mono hu1.size)
              exact ⟨rfl, hz.trans (hv.mono hz.size)⟩
        · by_cases q1 : 1 ≤ s1.size
          · by_cases q2 : s1.size ≤ 60
            · by_cases q3 : 1 ≤ a2
              all_goals
                go_enter Try.func5, Try.ntmps5
                go_wp2_with fail
                refine (refValid_any _ _ w0).mono ?_
                rw [HV.out]
                rintro e u1 ⟨rfl, hu1⟩
                go_wp2_with fail
                refine (awake_any _).mono ?_
                rintro e v ⟨rfl, hv⟩
                go_wp2
                go_ret
                exact ⟨rfl, hu1.trans (hv.mono hu1.size)⟩
            · go_enter Try.func5, Try.ntmps5
              go_wp2_with fail
              refine (refValid_any _ _ w0).mono ?_
              rw [HV.out]
              rintro e u1 ⟨rfl, hu1⟩
              go_wp2_with fail
              refine (awake_any _).mono ?_
              rintro e v ⟨rfl, hv⟩
              go_wp2
              go_ret
              exact ⟨rfl, hu1.trans (hv.mono hu1.size)⟩
          · go_enter Try.func5, Try.ntmps5
            go_wp2_with fail
            refine (refValid_any _ _ w0).mono ?_
            rw [HV.out]
            rintro e u1 ⟨rfl, hu1⟩
            go_wp2_with fail
            refine (awake_any _).mono ?_
            rintro e v ⟨rfl, hv⟩
            go_wp2
            go_ret
            exact ⟨rfl, hu1.trans (hv.mono hu1.size)⟩
end Go.Proofs.Ytkbbilcohoodlaa
