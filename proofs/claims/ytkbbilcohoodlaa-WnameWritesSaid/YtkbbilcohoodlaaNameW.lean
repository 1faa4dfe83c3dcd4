/-
  The contract of the Writer's Name: it does what nameW says.
-/
import Derived.Test.YtkbbilcohoodlaaWriterWalks
import Derived.Test.YtkbbilcohoodlaaParent
import Derived.Test.YtkbbilcohoodlaaBits
import Derived.Deep.RegionHeld3
namespace Go.Proofs.Ytkbbilcohoodlaa
open Go.RowKit Go.Maps

theorem Try.strKeyed : Keyed Try.prog 9 := string_keyed Try.underlying9
theorem Try.zeroInt (w : World) : (zeroValue 3).run Try.prog w = .ok (.int .i64 0) w := by kernel_rfl

/-- The map holds the places. -/
def MetIs (D : DataW Unit) (f : Met) : Prop :=
  IsMap D ∧ ∀ k, Maps.has D (.string k) = (f k).isSome ∧ ∀ v, f k = some v → D.atKey (.string k) (.lit (.int .i64 0)) = .lit (.int .i64 (v : Int))
theorem metIs_new : MetIs (.map []) none_ := ⟨isMap_empty, fun k => ⟨rfl, fun v hv => by cases hv⟩⟩
theorem metIs_upd {D : DataW Unit} {f : Met} (h : MetIs D f) (k : List UInt8) (v : Nat) : MetIs (D.put (.string k) (.lit (.int .i64 (v : Int)))) (upd f k v) := by
  obtain ⟨hm, hk⟩ := h
  have hkey : WideAt.IsKeyLit (.string k) := trivial
  refine ⟨hm.put _ _, fun x => ?_⟩
  unfold upd
  by_cases hx : x = k
  · subst hx
    rw [if_pos rfl, has_put_same hm hkey]
    exact ⟨rfl, fun y hy => by injection hy with hy; subst hy; exact atKey_put_same hm hkey _ _⟩
  · have hne : (Lit.string x) ≠ .string k := fun e => hx (by injection e)
    rw [if_neg hx, has_put_other hne]
    exact ⟨(hk x).1, fun y hy => (atKey_put_other hne _ _).trans ((hk x).2 y hy)⟩

def NameRel (g mb : Nat) (bv : Value) (most : Int) (wrong sq : Bool) (tot : Nat) (res : List UInt8 × Met) (w : World) (nv : Value) (wr : World) : Prop :=
  ∃ (s : ByteArray) (r : List (List UInt8)) (bv1 : Value) (b1 : List UInt8) (D1 : DataW Unit) (n1 : Nat) (f1 : Met), nv = .string s ∧ s.data.toList = made r ∧ GoodL r ∧ (made r).length ≤ 255 ∧
    WrAt wr g mb bv1 most b1 D1 n1 wrong ∧ WrStep g mb bv bv1 w wr ∧ MetIs D1 f1 ∧ SmallM f1 ∧ n1 ≤ b1.length ∧ b1.length + (made r).length = tot ∧ nameW sq r b1 f1 = res
def NamePost (g mb : Nat) (bv : Value) (most : Int) (b : List UInt8) (D : DataW Unit) (n : Nat) (wrong : Bool) (f : Met) (l : List UInt8) (sq : Bool) (w : World) (e : Ending) (w' : World) : Prop :=
  e = .returned (.tuple #[]) ∧
    (validB l = true → ∃ bv' D' n', WrAt w' g mb bv' most (nameW sq (labsFrom l 0) b f).1 D' n' wrong ∧ WrStep g mb bv bv' w w' ∧ MetIs D' (nameW sq (labsFrom l 0) b f).2 ∧ SmallM (nameW sq (labsFrom l 0) b f).2 ∧ n' ≤ (nameW sq (labsFrom l 0) b f).1.length) ∧
    (validB l = false → WrAt w' g mb bv most b D n true ∧ WrStep g mb bv bv w w')
def NameEnd (g mb : Nat) (bv : Value) (most : Int) (wrong : Bool) (res : List UInt8 × Met) (w w' : World) : Prop :=
  ∃ bv' D' n', WrAt w' g mb bv' most res.1 D' n' wrong ∧ WrStep g mb bv bv' w w' ∧ MetIs D' res.2 ∧ SmallM res.2 ∧ n' ≤ res.1.length
theorem nameEnd_post {g mb n : Nat} {bv : Value} {most : Int} {b : List UInt8} {D : DataW Unit} {wrong : Bool} {f : Met} {l : List UInt8} {sq : Bool} {w w' : World} (hv : validB l = true)
    (h : NameEnd g mb bv most wrong (nameW sq (labsFrom l 0) b f) w w') : NamePost g mb bv most b D n wrong f l sq w (.returned (.tuple #[])) w' :=
  ⟨rfl, fun _ => h, fun h' => by rw [hv] at h'; cases h'⟩

def strLen (v : Value) : Nat := match v with | .string s => s.size | _ => 0
theorem twoB_ptr (a : Nat) (ha : a < 16384) : twoB (49152 + (a : Int)) = ptrB a := by
  unfold twoB ptrB byI
  have h1 : ((49152 + (a : Int)) / 256 % 256).toNat = 192 + a / 256 := by omega
  have h2 : ((49152 + (a : Int)) % 256).toNat = a % 256 := by omega
  rw [h1, h2]
theorem nameW_hit {sq : Bool} {l : List UInt8} {r : List (List UInt8)} {b : List UInt8} {f : Met} {a : Nat} (hs : sq = true) (h : f (made (l :: r)) = some a) : nameW sq (l :: r) b f = (b ++ ptrB a, f) := by
  subst hs; rw [nameW]; simp [h]
theorem nameW_plain {l : List UInt8} {r : List (List UInt8)} {b : List UInt8} {f : Met} : nameW false (l :: r) b f = nameW false r (b ++ (UInt8.ofNat l.length :: l)) f := by
  rw [nameW]; simp
theorem nameW_new {l : List UInt8} {r : List (List UInt8)} {b : List UInt8} {f : Met} (h : f (made (l :: r)) = none) (hb : b.length < 16384) :
    nameW true (l :: r) b f = nameW true r (b ++ (UInt8.ofNat l.length :: l)) (upd f (made (l :: r)) b.length) := by
  rw [nameW]; simp [h, hb]
theorem nameW_far {l : List UInt8} {r : List (List UInt8)} {b : List UInt8} {f : Met} (h : f (made (l :: r)) = none) (hb : ¬ b.length < 16384) :
    nameW true (l :: r) b f = nameW true r (b ++ (UInt8.ofNat l.length :: l)) f := by
  rw [nameW]; simp [h, hb]

set_option maxRecDepth 200000 in
set_option maxHeartbeats 4000000 in
theorem name_any (g mb n : Nat) (bv : Value) (most : Int) (b : List UInt8) (D : DataW Unit) (wrong : Bool) (f : Met) (s : ByteArray) (sq : Bool) (w : World) (h : WrAt w g mb bv most b D n wrong)
    (hm : MetIs D f) (hsm : SmallM f) (hn : n ≤ b.length) (hb : b.length ≤ 999990000) (hsz : s.size ≤ maxLen) :
    Calls Try.prog 15 #[.pointer (some ⟨g, 0, none⟩), .string s, .bool sq] w (NamePost g mb bv most b D n wrong f s.data.toList sq w) := by
  cases hv : validB s.data.toList
  · have hc3 : w.cell? ⟨g, 3, none⟩ = some (.bool wrong) := h.1.cell 3
    have hf3 := h.1.frozen 3
    have hw : WrAt (w.setCell ⟨g, 3, none⟩ (.bool true)) g mb bv most b D n true :=
      ⟨h.1.set_ 3 _, ownsRow_setCell_other h.2.1 (own_blk_ne h.2.1 h.1 (by decide)) _, map_setCell h.2.2 (map_ne_blk h.2.2 h.1) _⟩
    go_enter Try.func15, Try.ntmps15
    go_wp2_with (go_at_call 29; refine (valid_any _ _ hsz).mono ?_; rintro e w' ⟨rfl, rfl⟩)
    refine bodyPost_ret (results_none rfl _ _ _) rfl ?_
    exact ⟨rfl, (fun h' => by rw [hv] at h'; cases h'), fun _ => ⟨hw, (Only.refl _ _).setCell (Or.inl (Or.inl rfl)) _, Or.inl rfl⟩⟩
  · obtain ⟨hmd, hgd⟩ := made_of_valid hv
    have hl255 := validB_le hv
    have HV := Lib.hid hv
    have HS := Lib.hid (hmd.symm)
    have hl2 : (made (labsFrom s.data.toList 0)).length ≤ 255 := by rw [hmd]; exact hl255
    clear hv hmd
    go_enter Try.func15, Try.ntmps15
    go_wp2_with (go_at_call 29; refine (valid_any _ _ hsz).mono ?_; rw [HV.out]; rintro e w' ⟨rfl, rfl⟩)
    go_loopw [1] (fun nv wr => NameRel g mb bv most wrong sq (b.length + (made (labsFrom s.data.toList 0)).length) (nameW sq (labsFrom s.data.toList 0) b f) w nv wr) (fun nv _ => strLen nv)
    case atStart => exact ⟨s, _, bv, b, D, n, f, rfl, HS.out, hgd, hl2, h, WrStep.refl _ _ _ _, hm, hsm, hn, rfl, rfl⟩
    case round =>
      obtain ⟨t, r, bv1, b1, D1, n1, f1, rfl, ht, hgr, hlr, hw1, hst1, hm1, hsm1, hn1, htot, hres⟩ := hrel
      have HT := Lib.hid ht
      have HRES := Lib.hid hres
      have HTOT := Lib.hid htot
      have hb1 : b1.length ≤ 999990300 := by have := made_pos r; omega
      clear ht hres htot h hm hsm
      have hc1 : ∀ i, wr.cell? ⟨g, i, none⟩ = (#[.int .i64 most, bv1, .map (some mb), .bool wrong] : Array Value)[i]? := hw1.1.cell
      cases r with
      | nil =>
        have hq : (t.toList == [0]) = true := by rw [Lib.toList_data, HT.out]; rfl
        have hr := fun (W : World) => reads_new W 5 (bytesV [0]) #[.int .u8 0] (by simp [bytesV, byteV])
        go_wp2_with fail
        refine (bytes_any g mb n1 bv1 most b1 D1 wrong _ 1 1 [0] _ (hw1.alloc _) (hr _) (by simp; omega)).mono ?_
        rintro e w2 ⟨rfl, bv2, hw2, hs2⟩
        go_wp2
        go_end0
        exact nameEnd_post HV.out (by rw [← HRES.out]; exact ⟨bv2, D1, n1, hw2, hst1.trans (step_alloc hs2), hm1, hsm1, by simp [nameW]; omega⟩)
      | cons l0 r0 =>
        obtain ⟨g1, g2⟩ := hgr l0 (by simp)
        have hmc := made_cons_length l0 r0
        have hmp := made_pos r0
        have hts := size_of_data HT.out
        have htl : t.size ≤ maxLen := by unfold maxLen; omega
        obtain ⟨x, hx⟩ : ∃ x, x = l0.length := ⟨_, rfl⟩
        have hq : (t.toList == [0]) = false := by rw [Lib.toList_data, HT.out]; exact beq_eq_false_iff_ne.2 (made_ne_root l0 r0)
        have hkey : keyOf Try.prog 9 (.string t) = some (.string (made (l0 :: r0))) := by
          have := WideMaps.keyOf_string_mk (P := Try.prog) Try.underlying9 htl
          rw [HT.out] at this
          exact this
        obtain ⟨hhas, hval⟩ := hm1.2 (made (l0 :: r0))
        have hidx := run_index_at (P := Try.prog) 9 Try.underlying9 t _ HT.out 0 x (by omega) (by show (UInt8.ofNat l0.length).toNat = x; rw [ofNat_toNat _ (by omega), hx])
        obtain ⟨u, hu, hsl⟩ := run_to (P := Try.prog) 9 Try.underlying9 t _ HT.out (1 + x) (by omega)
        have hsl2 : ∀ w : World, (Instr.slice 9 (.string t) none (some (.int .i64 (1 + (x : Int)))) none).run Try.prog w = .ok (.string u) w := fun w => by
          have := hsl w
          rwa [show ((1 + x : Nat) : Int) = 1 + (x : Int) by omega] at this
        simp only [Int.natCast_zero] at hidx
        have hu2 : u.data.toList = UInt8.ofNat l0.length :: l0 := by
          rw [hu, hx, made, Nat.add_comm, List.take_succ_cons, List.take_left]
        have hlen2 : (UInt8.ofNat l0.length :: l0).length = 1 + x := by rw [hx]; simp; omega
        have HU2 := Lib.hid hu2
        have HL2 := Lib.hid hlen2
        have hx1 : x ≤ 63 := by omega
        have HGR := Lib.hid hgr
        have HM : Hid (b1.length + (1 + x) + (made r0).length = b.length + (made (labsFrom s.data.toList 0)).length) := by
          show b1.length + (1 + x) + (made r0).length = _
          rw [← HTOT.out, hmc, hx]; omega
        have hlr0 : (made r0).length ≤ 255 := by omega
        have HX := Lib.hid hx
        have hstr : 1 + x + (made r0).length = t.size := by rw [hts, hmc, hx]
        have hstr2 : (made r0).length < t.size := by omega
        clear hu hu2 hlen2 hsl hx hmc hgr hts hstr
        cases hf : f1 (made (l0 :: r0)) with
        | some a =>
          rw [hf] at hhas
          have ha := hsm1 _ _ hf
          have hva := hval a hf
          have HVA := Lib.hid hva
          have hor : bits .or .i64 49152 (a : Int) = ((49152 + a : Nat) : Int) := ptr_or a ha
          have hor2 : ((49152 + a : Nat) : Int) = 49152 + (a : Int) := by omega
          rw [hor2] at hor
          simp only [Option.isSome_some] at hhas
          clear hor2 hval hva
          cases sq with
          | true =>
            go_wp2_with (at_lookup; refine wpList_lookup_own_ok_int _ rfl _ _ 62 rfl 9 3 .i64 Try.strKeyed Try.underlying62 Try.underlying3 (Try.zeroInt _) mb n1 D1 rfl hw1.2.2 _ _ rfl hkey ?_; intro c hat hwc; obtain rfl : (a : Int) = c := (by have := HVA.out.symm.trans hat; injection this with this; injection this))
            refine (two_any g mb n1 bv1 most b1 D1 wrong _ _ hw1 (by omega)).mono ?_
            rintro e w2 ⟨rfl, bv2, hw2, hs2⟩
            rw [twoB_ptr a ha] at hw2
            go_wp2
            refine bodyPost_ret (results_none rfl _ _ _) rfl ?_
            exact nameEnd_post HV.out (by rw [← HRES.out, nameW_hit rfl hf]; exact ⟨bv2, D1, n1, hw2, hst1.trans hs2, hm1, hsm1, by simp; omega⟩)
          | false =>
            obtain ⟨cc, W2, hcv, hrd, hbl, _⟩ := conv_bytes (P := Try.prog) 9 22 5 Try.underlying9 Try.underlying22 Try.underlying5 u _ HU2.out wr
            rw [HL2.out] at hcv hrd
            have hwY := hw1.below hbl
            have hsY : WrStep g mb bv1 bv1 wr W2 := ⟨Only.of_below hbl _, Or.inl rfl⟩
            go_wp2_with (at_lookup; refine wpList_lookup_own_ok_int _ rfl _ _ 62 rfl 9 3 .i64 Try.strKeyed Try.underlying62 Try.underlying3 (Try.zeroInt _) mb n1 D1 rfl hw1.2.2 _ _ rfl hkey ?_; intro c hat hwc)
            refine (bytes_any g mb n1 _ most b1 D1 wrong _ _ cc (UInt8.ofNat l0.length :: l0) W2 hwY hrd (by rw [HL2.out]; omega)).mono ?_
            rintro e w4 ⟨rfl, bv4, hw4, hs4⟩
            go_wp2_with fail
            refine (parent_any t l0 r0 _ HT.out HGR.out hlr).mono ?_
            rintro e w5 ⟨u5, rfl, hu5, rfl⟩
            have hu5s := size_of_data hu5
            have HU5S := Lib.hid hu5s
            have HU5 := Lib.hid hu5
            clear hu5s hu5
            go_wp2
            go_roundw
            case rel => exact ⟨u5, r0, bv4, b1 ++ (UInt8.ofNat l0.length :: l0), _, _, _, rfl, HU5.out, (fun y hy => HGR.out y (by simp [hy])), hlr0, hw4, hst1.trans (hsY.trans hs4), hm1, hsm1, (by rw [List.length_append, HL2.out]; omega), (by rw [List.length_append, HL2.out]; exact HM.out), (by rw [← HRES.out]; exact nameW_plain.symm)⟩
            case measure => show u5.size < t.size; rw [HU5S.out]; exact hstr2
        | none =>
          rw [hf] at hhas
          simp only [Option.isSome_none] at hhas
          clear hval
          cases sq with
          | false =>
            obtain ⟨cc, W2, hcv, hrd, hbl, _⟩ := conv_bytes (P := Try.prog) 9 22 5 Try.underlying9 Try.underlying22 Try.underlying5 u _ HU2.out wr
            rw [HL2.out] at hcv hrd
            have hwY := hw1.below hbl
            have hsY : WrStep g mb bv1 bv1 wr W2 := ⟨Only.of_below hbl _, Or.inl rfl⟩
            go_wp2_with (at_lookup; refine wpList_lookup_own_ok_int _ rfl _ _ 62 rfl 9 3 .i64 Try.strKeyed Try.underlying62 Try.underlying3 (Try.zeroInt _) mb n1 D1 rfl hw1.2.2 _ _ rfl hkey ?_; intro c hat hwc)
            refine (bytes_any g mb n1 _ most b1 D1 wrong _ _ cc (UInt8.ofNat l0.length :: l0) W2 hwY hrd (by rw [HL2.out]; omega)).mono ?_
            rintro e w4 ⟨rfl, bv4, hw4, hs4⟩
            go_wp2_with fail
            refine (parent_any t l0 r0 _ HT.out HGR.out hlr).mono ?_
            rintro e w5 ⟨u5, rfl, hu5, rfl⟩
            have hu5s := size_of_data hu5
            have HU5S := Lib.hid hu5s
            have HU5 := Lib.hid hu5
            clear hu5s hu5
            go_wp2
            go_roundw
            case rel => exact ⟨u5, r0, bv4, b1 ++ (UInt8.ofNat l0.length :: l0), _, _, _, rfl, HU5.out, (fun y hy => HGR.out y (by simp [hy])), hlr0, hw4, hst1.trans (hsY.trans hs4), hm1, hsm1, (by rw [List.length_append, HL2.out]; omega), (by rw [List.length_append, HL2.out]; exact HM.out), (by rw [← HRES.out]; exact nameW_plain.symm)⟩
            case measure => show u5.size < t.size; rw [HU5S.out]; exact hstr2
          | true =>
            obtain ⟨A1, c1, rfl⟩ := hw1.slice
            by_cases hfar : b1.length < 16384
            · obtain ⟨w2, hrun, hown2, hgrow2⟩ := World.ownsMap.update (w := wr.drew) (val := .int .i64 (b1.length : Int)) hw1.2.2.drew Try.strKeyed Try.underlying62 (show n1 < maxLen by unfold maxLen; omega) hkey (Go.plainElem_int Try.underlying3 (WalkArith.wf_i64 (by omega)))
              have hgm : mb ≠ g := map_ne_blk hw1.2.2 hw1.1
              have hgr2 : wr.grownBy w2 (some mb) := ⟨hgrow2.os, hgrow2.tape, hgrow2.output, hgrow2.size, hgrow2.block⟩
              have hwB : WrAt w2 g mb (.slice A1 b1.length c1) most b1 _ (n1 + 1) wrong := ⟨hw1.1.grown hgr2 (by simpa using Ne.symm hgm), hw1.2.1.kept hgr2 (Or.inr (map_ne_own hw1.2.2 hw1.2.1)), hown2⟩
              have hsB : WrStep g mb (.slice A1 b1.length c1) (.slice A1 b1.length c1) wr w2 := ⟨(Only.refl _ wr).grown hgr2 (fun k hk => Or.inl (Or.inr (Or.inl (by injection hk with hk; exact hk.symm)))), Or.inl rfl⟩
              have hmB := metIs_upd hm1 (made (l0 :: r0)) b1.length
              have hsmB := smallM_upd hsm1 (made (l0 :: r0)) b1.length hfar
              have L1 : wr.cell? ⟨g, 1, none⟩ = some (.slice A1 b1.length c1) := hc1 1
              have L2 : wr.cell? ⟨g, 2, none⟩ = some (.map (some mb)) := hc1 2
              have M2 : w2.cell? ⟨g, 1, none⟩ = some (.slice A1 b1.length c1) ∧ w2.cell? ⟨g, 2, none⟩ = some (.map (some mb)) := ⟨hwB.1.cell 1, hwB.1.cell 2⟩
              clear hown2 hgrow2 hgr2 hgm
              obtain ⟨cc, W2, hcv, hrd, hbl, _⟩ := conv_bytes (P := Try.prog) 9 22 5 Try.underlying9 Try.underlying22 Try.underlying5 u _ HU2.out w2
              rw [HL2.out] at hcv hrd
              have hwY := hwB.below hbl
              have hsY : WrStep g mb (.slice A1 b1.length c1) (.slice A1 b1.length c1) w2 W2 := ⟨Only.of_below hbl _, Or.inl rfl⟩
              go_wp2_with (at_lookup; refine wpList_lookup_own_ok_int _ rfl _ _ 62 rfl 9 3 .i64 Try.strKeyed Try.underlying62 Try.underlying3 (Try.zeroInt _) mb n1 D1 rfl hw1.2.2 _ _ rfl hkey ?_; intro c hat hwc)
              go_region_held3 (fun w' => w'.cell? ⟨g, 1, none⟩ = some (.slice A1 b1.length c1) ∧ w'.cell? ⟨g, 2, none⟩ = some (.map (some mb))) (first | exact M2 | go_keep) (fail)
              go_wp2_with fail
              refine (bytes_any g mb (n1 + 1) _ most b1 _ wrong _ _ cc (UInt8.ofNat l0.length :: l0) W2 hwY hrd (by rw [HL2.out]; omega)).mono ?_
              rintro e w4 ⟨rfl, bv4, hw4, hs4⟩
              go_wp2_with fail
              refine (parent_any t l0 r0 _ HT.out HGR.out hlr).mono ?_
              rintro e w5 ⟨u5, rfl, hu5, rfl⟩
              have hu5s := size_of_data hu5
              have HU5S := Lib.hid hu5s
              have HU5 := Lib.hid hu5
              clear hu5s hu5
              go_wp2
              go_roundw
              case rel => exact ⟨u5, r0, bv4, b1 ++ (UInt8.ofNat l0.length :: l0), _, _, _, rfl, HU5.out, (fun y hy => HGR.out y (by simp [hy])), hlr0, hw4, (hst1.trans hsB).trans (hsY.trans hs4), hmB, hsmB, (by rw [List.length_append, HL2.out]; omega), (by rw [List.length_append, HL2.out]; exact HM.out), (by rw [← HRES.out]; exact (nameW_new hf hfar).symm)⟩
              case measure => show u5.size < t.size; rw [HU5S.out]; exact hstr2
            · obtain ⟨cc, W2, hcv, hrd, hbl, _⟩ := conv_bytes (P := Try.prog) 9 22 5 Try.underlying9 Try.underlying22 Try.underlying5 u _ HU2.out wr
              rw [HL2.out] at hcv hrd
              have hwY := hw1.below hbl
              have hsY : WrStep g mb (.slice A1 b1.length c1) (.slice A1 b1.length c1) wr W2 := ⟨Only.of_below hbl _, Or.inl rfl⟩
              go_wp2_with (at_lookup; refine wpList_lookup_own_ok_int _ rfl _ _ 62 rfl 9 3 .i64 Try.strKeyed Try.underlying62 Try.underlying3 (Try.zeroInt _) mb n1 D1 rfl hw1.2.2 _ _ rfl hkey ?_; intro c hat hwc)
              refine (bytes_any g mb n1 _ most b1 D1 wrong _ _ cc (UInt8.ofNat l0.length :: l0) W2 hwY hrd (by rw [HL2.out]; omega)).mono ?_
              rintro e w4 ⟨rfl, bv4, hw4, hs4⟩
              go_wp2_with fail
              refine (parent_any t l0 r0 _ HT.out HGR.out hlr).mono ?_
              rintro e w5 ⟨u5, rfl, hu5, rfl⟩
              have hu5s := size_of_data hu5
              have HU5S := Lib.hid hu5s
              have HU5 := Lib.hid hu5
              clear hu5s hu5
              go_wp2
              go_roundw
              case rel => exact ⟨u5, r0, bv4, b1 ++ (UInt8.ofNat l0.length :: l0), _, _, _, rfl, HU5.out, (fun y hy => HGR.out y (by simp [hy])), hlr0, hw4, hst1.trans (hsY.trans hs4), hm1, hsm1, (by rw [List.length_append, HL2.out]; omega), (by rw [List.length_append, HL2.out]; exact HM.out), (by rw [← HRES.out]; exact (nameW_far hf hfar).symm)⟩
              case measure => show u5.size < t.size; rw [HU5S.out]; exact hstr2
end Go.Proofs.Ytkbbilcohoodlaa
