/-
  The contract of the reference's Name: it does what nameW says; its list of places fits.
-/
import Derived.Test.YtkbbilcohoodlaaRefMade
namespace Go.Proofs.Ytkbbilcohoodlaa
open Go.RowKit Go.Maps

/-- The reference's list finds a name where the places say. -/
def Fit (f : Met) (pl : List (List UInt8)) : Prop := ∀ key : List UInt8, key ≠ [] →
  (∀ a, f key = some a → a < 16384 ∧ pl[a]? = some key ∧ ∀ j, j < a → pl[j]? ≠ some key) ∧ (f key = none → ∀ j, j < 16384 → pl[j]? ≠ some key)
theorem pad_at (pl : List (List UInt8)) (n j : Nat) (key : List UInt8) (hk : key ≠ []) : (pl ++ List.replicate n [])[j]? = some key ↔ pl[j]? = some key := by
  by_cases hj : j < pl.length
  · rw [List.getElem?_append_left hj]
  · rw [List.getElem?_append_right (by omega), List.getElem?_eq_none (show pl.length ≤ j by omega), List.getElem?_replicate]
    constructor
    · intro h
      split at h
      · injection h with h; exact absurd h.symm hk
      · cases h
    · intro h; cases h
theorem fit_pad {f : Met} {pl : List (List UInt8)} (h : Fit f pl) (n : Nat) : Fit f (pl ++ List.replicate n []) := by
  intro key hk
  obtain ⟨h1, h2⟩ := h key hk
  refine ⟨fun a ha => ?_, fun hn j hj => ?_⟩
  · obtain ⟨g1, g2, g3⟩ := h1 a ha
    exact ⟨g1, (pad_at pl n a key hk).2 g2, fun j hj he => g3 j hj ((pad_at pl n j key hk).1 he)⟩
  · intro he
    exact h2 hn j hj ((pad_at pl n j key hk).1 he)
theorem fit_set {f : Met} {pl : List (List UInt8)} (h : Fit f pl) (n : Nat) (hn : 1 ≤ n) (key : List UInt8) (hk : key ≠ []) (hf : f key = none) (hl : pl.length < 16384) : Fit (upd f key pl.length) ((pl ++ List.replicate n []).set pl.length key) := by
  have hlen : pl.length < (pl ++ List.replicate n ([] : List UInt8)).length := by simp; omega
  intro x hx
  obtain ⟨h1, h2⟩ := fit_pad h n x hx
  unfold upd
  by_cases he : x = key
  · subst he
    rw [if_pos rfl]
    refine ⟨fun a ha => ?_, fun hn => by cases hn⟩
    injection ha with ha
    subst ha
    refine ⟨hl, by rw [List.getElem?_set_self hlen], fun j hj => ?_⟩
    rw [List.getElem?_set_ne (by omega)]
    exact h2 hf j (by omega)
  · rw [if_neg he]
    refine ⟨fun a ha => ?_, fun hn j hj => ?_⟩
    · obtain ⟨g1, g2, g3⟩ := h1 a ha
      have hne : pl.length ≠ a := by
        rintro rfl
        rw [pad_at pl n _ x hx, List.getElem?_eq_none (Nat.le_refl _)] at g2
        cases g2
      refine ⟨g1, by rw [List.getElem?_set_ne hne]; exact g2, fun j hj => ?_⟩
      by_cases hjl : pl.length = j
      · subst hjl
        rw [List.getElem?_set_self hlen]
        intro h; injection h with h; exact he h.symm
      · rw [List.getElem?_set_ne hjl]; exact g3 j hj
    · by_cases hjl : pl.length = j
      · subst hjl
        rw [List.getElem?_set_self hlen]
        intro h; injection h with h; exact he h.symm
      · rw [List.getElem?_set_ne hjl]; exact h2 hn j hj
theorem fit_none : Fit none_ [] := fun _ _ => ⟨fun a h => (by cases h), fun _ j _ => (by simp)⟩

theorem made_count : ∀ ls : List (List UInt8), ls.length ≤ (made ls).length
  | [] => Nat.zero_le _
  | l :: r => by have := made_count r; rw [made_cons_length, List.length_cons]; omega
theorem made_drop_le : ∀ (ls : List (List UInt8)) (k : Nat), (made (ls.drop k)).length ≤ (made ls).length
  | [], k => by simp
  | l :: r, 0 => Nat.le_refl _
  | l :: r, k + 1 => by have := made_drop_le r k; rw [List.drop_succ_cons, made_cons_length]; omega
theorem made_ne_nil (ls : List (List UInt8)) : made ls ≠ [] := by intro h; have := made_pos ls; rw [h] at this; simp at this
theorem at_ltL {α : Type} {xs : List α} {i : Nat} {x : α} (h : xs[i]? = some x) : i < xs.length := by
  rcases Nat.lt_or_ge i xs.length with h' | h'
  · exact h'
  · rw [List.getElem?_eq_none h'] at h; cases h
theorem rep_sum (x : UInt8) (l : List UInt8) : List.replicate [x].length ([] : List UInt8) ++ List.replicate l.length [] = List.replicate (1 + l.length) [] := by
  rw [List.replicate_append_replicate]; rfl
theorem rstep_fp {w w' : World} {g : Nat} {bv pv bv' pv' : Value} (h : RStep g bv pv bv' pv' w w') (i : Nat) (hi : i < w.heap.size) (hf : fpR g bv' pv' i) : fpR g bv pv i := by
  rcases hf with hf | hf | hf
  · exact Or.inl hf
  · rcases h.2.1 with h2 | ⟨j, h2, h4⟩
    · rw [h2] at hf; exact Or.inr (Or.inl hf)
    · rw [h2] at hf; injection hf with hf; omega
  · rcases h.2.2 with h3 | ⟨j, h3, h4⟩
    · rw [h3] at hf; exact Or.inr (Or.inr hf)
    · rw [h3] at hf; injection hf with hf; omega
theorem r_poke {w : World} {g rp cap : Nat} {bv : Value} {most : Int} {b : List UInt8} {pl : List (List UInt8)} {bad : Bool} (h : RAt w g most bv b (.slice (some ⟨rp, 0, none⟩) pl.length cap) pl bad) (k : Nat) (x : List UInt8) (v : Value) (hv : v = strV x) :
    RAt (w.setCell ⟨rp, k, none⟩ v) g most bv b (.slice (some ⟨rp, 0, none⟩) pl.length cap) (pl.set k x) bad := by
  subst hv
  have hng : rp ≠ g := fun e => own_blk_ne h.2.2 h.1 (by decide) (by simp [Value.ownBlock, e])
  refine ⟨h.1.far (p := ⟨rp, k, none⟩) (Ne.symm hng) _, ownsRow_setCell_other h.2.1 (fun hi => own_apart h.2.1 h.2.2 (by decide) hi (by simp [Value.ownBlock])) _, ?_⟩
  rw [List.length_set, List.map_set]
  exact (h.2.2.stored k (strV x)).1

def RNameEnd (g : Nat) (bv pv : Value) (most : Int) (bad : Bool) (res : List UInt8 × Met) (w w' : World) : Prop :=
  ∃ bv' pv' pl', RAt w' g most bv' res.1 pv' pl' bad ∧ RStep g bv pv bv' pv' w w' ∧ pl'.length = res.1.length ∧ Fit res.2 pl'
def RNamePost (g : Nat) (bv pv : Value) (most : Int) (b : List UInt8) (pl : List (List UInt8)) (bad : Bool) (f : Met) (l : List UInt8) (sq : Bool) (w : World) (e : Ending) (w' : World) : Prop :=
  e = .returned (.tuple #[]) ∧ (validB l = true → RNameEnd g bv pv most bad (nameW sq (labsFrom l 0) b f) w w') ∧ (validB l = false → RAt w' g most bv b pv pl true ∧ RStep g bv pv bv pv w w')
theorem rnameEnd_post {g : Nat} {bv pv : Value} {most : Int} {b : List UInt8} {pl : List (List UInt8)} {bad : Bool} {f : Met} {l : List UInt8} {sq : Bool} {w w' : World} (hv : validB l = true)
    (h : RNameEnd g bv pv most bad (nameW sq (labsFrom l 0) b f) w w') : RNamePost g bv pv most b pl bad f l sq w (.returned (.tuple #[])) w' :=
  ⟨rfl, fun _ => h, fun h' => by rw [hv] at h'; cases h'⟩
def RNameRel (g : Nat) (bv pv : Value) (most : Int) (bad sq : Bool) (ls : List (List UInt8)) (tot : Nat) (res : List UInt8 × Met) (w0 : World) (k : Nat) (wr : World) : Prop :=
  ∃ bv1 b1 pv1 pl1 f1, RAt wr g most bv1 b1 pv1 pl1 bad ∧ RStep g bv pv bv1 pv1 w0 wr ∧ pl1.length = b1.length ∧ Fit f1 pl1 ∧ b1.length + (made (ls.drop k)).length ≤ tot ∧ nameW sq (ls.drop k) b1 f1 = res

set_option maxRecDepth 200000 in
set_option maxHeartbeats 4000000 in
theorem rname_any (g : Nat) (most : Int) (bv : Value) (b : List UInt8) (pv : Value) (pl : List (List UInt8)) (bad : Bool) (f : Met) (s : ByteArray) (sq : Bool) (w : World) (h : RAt w g most bv b pv pl bad)
    (hpl : pl.length = b.length) (hfit : Fit f pl) (hb : b.length ≤ 800000) (hsz : s.size ≤ maxLen) :
    Calls Try.prog 23 #[.pointer (some ⟨g, 0, none⟩), .string s, .bool sq] w (RNamePost g bv pv most b pl bad f s.data.toList sq w) := by
  cases hv : validB s.data.toList
  · have HV := Lib.hid hv
    clear hv
    go_enter Try.func23, Try.ntmps23
    go_wp2_with fail
    refine (labels_any s _ hsz).mono ?_
    rintro e w1 ⟨hB, vL, rfl, _⟩
    rw [refB_valid, HV.out]
    have h1 := h.below hB
    have hc3 : w1.cell? ⟨g, 3, none⟩ = some (.bool bad) := h1.1.cell 3
    have hf3 := h1.1.frozen 3
    have hw : RAt (w1.setCell ⟨g, 3, none⟩ (.bool true)) g most bv b pv pl true :=
      ⟨h1.1.set_ 3 _, ownsRow_setCell_other h1.2.1 (by simpa using own_blk_ne h1.2.1 h1.1 (by decide)) _, ownsRow_setCell_other h1.2.2 (by simpa using own_blk_ne h1.2.2 h1.1 (by decide)) _⟩
    have hs : RStep g bv pv bv pv w (w1.setCell ⟨g, 3, none⟩ (.bool true)) := ⟨(Only.of_below hB _).setCell (Or.inl (Or.inl rfl)) _, Or.inl rfl, Or.inl rfl⟩
    clear h h1 hB
    go_wp2
    go_end0
    exact ⟨rfl, (fun h' => by rw [HV.out] at h'; cases h'), fun _ => ⟨hw, hs⟩⟩
  · obtain ⟨hmd, hgd⟩ := made_of_valid hv
    have hl255 := validB_le hv
    have HV := Lib.hid hv
    obtain ⟨ls, hls⟩ : ∃ ls, labsFrom s.data.toList 0 = ls := ⟨_, rfl⟩
    rw [hls] at hmd hgd
    have hml : (made ls).length ≤ 255 := by rw [hmd]; exact hl255
    have HLS := Lib.hid hls
    have hcl := made_count ls
    clear hmd hv hls
    go_enter Try.func23, Try.ntmps23
    go_wp2_with fail
    refine (labels_any s _ hsz).mono ?_
    rintro e w0 ⟨hB, vL, rfl, hL⟩
    rw [refB_valid, HV.out]
    have hL := hL (by rw [refB_valid, HV.out])
    rw [HLS.out] at hL
    have h0 := h.below hB
    obtain ⟨AL, cL, rfl⟩ := own_slice hL
    have HB0 := Lib.hid hB
    have HFP : Hid (∀ i, (Value.slice AL ls.length cL).ownBlock = some i → ¬ fpR g bv pv i) := fun i hi hf => by have := (hL.lt i hi).1; have := h.fp_lt hf; omega
    have HL := Lib.hid hL
    clear hL
    go_wp2
    go_loopw [8] (fun i wr => ∃ k : Nat, k ≤ ls.length ∧ i = .int .i64 (k : Int) ∧ RNameRel g bv pv most bad sq ls (b.length + (made ls).length) (nameW sq ls b f) w0 k wr) (fun i _ => ls.length - (intOf i).toNat)
    case atStart => exact ⟨0, by omega, rfl, bv, b, pv, pl, f, h0, RStep.refl _ _ _ _, hpl, hfit, by simp, by simp⟩
    case round =>
      obtain ⟨k, hk, rfl, bv1, b1, pv1, pl1, f1, hw1, hs1, hpl1, hfit1, htot1, hres1⟩ := hrel
      by_cases hlt : k < ls.length
      · obtain ⟨l0, hl0⟩ : ∃ l0, ls[k] = l0 := ⟨_, rfl⟩
        obtain ⟨r0, hr0⟩ : ∃ r0, ls.drop (k + 1) = r0 := ⟨_, rfl⟩
        have hdrop : ls.drop k = l0 :: r0 := by rw [← hl0, ← hr0]; exact List.drop_eq_getElem_cons hlt
        have hown1 := own_only HL.out hs1.1 HFP.out
        have hcap := own_le_cap hown1
        have hr1 := (Reads.of_own hown1).cut (Nat.le_of_lt hlt) hcap
        rw [Nat.mul_one, ← List.map_drop, hdrop, if_neg (by omega)] at hr1
        have hgd1 : ∀ l ∈ l0 :: r0, 1 ≤ l.length ∧ l.length ≤ 63 := fun l hl => hgd l (by rw [← hdrop] at hl; exact List.mem_of_mem_drop hl)
        have HL0 := Lib.hid hl0
        have HR0 := Lib.hid hr0
        have hdl := made_drop_le ls k
        rw [hdrop] at htot1 hres1 hdl
        have hmc := made_cons_length l0 r0
        have hmp := made_pos r0
        obtain ⟨g1, g2⟩ := hgd1 l0 (by simp)
        have bi0 : (0 : Int) ≤ (k : Int) := by omega
        have bi1 : (k : Int) < (ls.length : Int) := by omega
        have hgd1x : ∀ l ∈ l0 :: r0, l.length ≤ 63 := fun l hl => (hgd1 l hl).2
        have hpre : (preM (l0 :: r0)).length ≤ 1000 := by have h := congrArg List.length (made_pre (l0 :: r0)); rw [List.length_append] at h; omega
        have hcnt : (l0 :: r0).length ≤ 1000 := by have := made_count (l0 :: r0); omega
        have hb1 : b1.length ≤ 800255 := by omega
        have hlsz : (ByteArray.mk l0.toArray).size = l0.length := by simp [ByteArray.size]
        have hwr : IntKind.u8.wrap (l0.length : Int) = (l0.length : Int) := IntWalk.u8_in _ (by omega)
        have HS1 := Lib.hid hs1
        have HFIT := Lib.hid hfit1
        have HGD := Lib.hid hgd1
        have HRES := Lib.hid hres1
        have HTOT := Lib.hid htot1
        clear hgd1 hs1 hfit1 hres1 htot1 hown1
        go_wp2_with fail
        refine (made_any _ _ _ (l0 :: r0) _ hr1 hgd1x hpre hcnt).mono ?_
        rintro e w2 ⟨z, rfl, hz, hB2⟩
        have hw2 := hw1.below hB2
        have HS2 := Lib.hid (HS1.out.trans (rstep_below (bv := bv1) (pv := pv1) hB2))
        obtain ⟨A3, c3, rfl⟩ := own_slice hw2.2.1
        obtain ⟨A4, c4, rfl⟩ := own_slice hw2.2.2
        have hk1 : w2.cell? ⟨g, 1, none⟩ = some (.slice A3 b1.length c3) := hw2.1.cell 1
        have hk2 : w2.cell? ⟨g, 2, none⟩ = some (.slice A4 pl1.length c4) := hw2.1.cell 2
        have hown2 := own_only HL.out HS2.out.1 HFP.out
        obtain ⟨adL, rfl, hcL⟩ := texts_at (Reads.of_own hown2) hlt (Below.refl _ _)
        rw [hl0] at hcL
        replace hcL : w2.cell? (adL.add k) = some (.string ⟨l0.toArray⟩) := hcL
        have HZ := Lib.hid hz
        have HZ := Lib.hid hz
        clear hw1 hB2 hr1 hgd1x hpre hcnt hown2 hz
        cases sq with
        | false =>
          have hrz := reads_new w2 5 (bytesV [UInt8.ofNat l0.length]) #[.int .u8 (l0.length : Int)] (by simp only [bytesV, byteV, List.map_cons, List.map_nil]; rw [ofNat_toNat _ (by omega)])
          go_wp2_with fail
          refine (put_any g most _ b1 _ pl1 bad _ 1 1 [UInt8.ofNat l0.length] _ (hw2.alloc _) hpl1 hrz (by simp; omega)).mono ?_
          rintro e w3 ⟨rfl, bv3, pv3, hw3, hs3⟩
          have HS3 := Lib.hid (HS2.out.trans (rstep_alloc hs3))
          have hown3 := own_only HL.out HS3.out.1 HFP.out
          obtain ⟨ad', hA, hcL3⟩ := texts_at (Reads.of_own hown3) hlt (Below.refl _ _)
          injection hA with hA
          subst hA
          rw [HL0.out] at hcL3
          replace hcL3 : w3.cell? (adL.add k) = some (.string ⟨l0.toArray⟩) := hcL3
          obtain ⟨cc, w4, hcv, hrd, hbl, _⟩ := conv_bytes (P := Try.prog) 9 22 5 Try.underlying9 Try.underlying22 Try.underlying5 ⟨l0.toArray⟩ l0 (by simp) w3
          have hw4 := hw3.below hbl
          have HS4 := Lib.hid (HS3.out.trans (rstep_below (bv := bv3) (pv := pv3) hbl))
          clear hw3 hs3 hown3 hrz hw2 hbl hk1 hk2
          go_wp2_with fail
          refine (put_any g most _ _ _ _ bad _ _ cc l0 _ hw4 (by simp [hpl1]) hrd (by simp; omega)).mono ?_
          rintro e w5 ⟨rfl, bv5, pv5, hw5, hs5⟩
          have HS5 := Lib.hid (HS4.out.trans hs5)
          rw [List.append_assoc, List.append_assoc, rep_sum] at hw5
          replace hw5 : RAt w5 g most bv5 (b1 ++ (UInt8.ofNat l0.length :: l0)) pv5 (pl1 ++ List.replicate (1 + l0.length) []) bad := hw5
          have HPL := Lib.hid (by rw [List.length_append, List.length_replicate, List.length_append, List.length_cons, hpl1]; omega : (pl1 ++ List.replicate (1 + l0.length) ([] : List UInt8)).length = (b1 ++ (UInt8.ofNat l0.length :: l0)).length)
          have HT := Lib.hid (by have := HTOT.out; rw [List.length_append, List.length_cons, HR0.out]; omega : (b1 ++ (UInt8.ofNat l0.length :: l0)).length + (made (ls.drop (k + 1))).length ≤ b.length + (made ls).length)
          clear hs5 hw4 hrd hcv
          go_wp2
          go_roundw
          case rel => exact ⟨k + 1, by omega, by go_num, _, _, _, _, f1, hw5, HS5.out, HPL.out, fit_pad HFIT.out _, HT.out, by rw [← HRES.out, HR0.out]; exact nameW_plain.symm⟩
          case measure => simp [intOf]; omega
        | true =>
          cases hf : f1 (made (l0 :: r0)) with
          | some a =>
            obtain ⟨a1, a2, a3⟩ := (HFIT.out _ (made_ne_nil (l0 :: r0))).1 a hf
            have hapl := at_ltL a2
            have HA3 := Lib.hid a3
            have HA2 := Lib.hid a2
            clear a3 a2
            go_wp2
            go_loopw [10] (fun i wr => ∃ j : Nat, j ≤ a ∧ i = .int .i64 (j : Int) ∧ w2 = wr) (fun i _ => a - (intOf i).toNat)
            case atStart => exact ⟨0, by omega, rfl, rfl⟩
            case round =>
              obtain ⟨j, hj, rfl, rfl⟩ := hrel
              by_cases hja : j < a
              · have hne := HA3.out j hja
                obtain ⟨adp, rfl, hcp⟩ := texts_at (Reads.of_own hw2.2.2) (show j < pl1.length by omega) (Below.refl _ _)
                obtain ⟨p, hp⟩ : ∃ p, pl1[j] = p := ⟨_, rfl⟩
                rw [List.getElem?_eq_getElem (show j < pl1.length by omega), hp] at hne
                rw [hp] at hcp
                replace hcp : w2.cell? (adp.add j) = some (.string ⟨p.toArray⟩) := hcp
                have hq : (p == z.toList) = false := by
                  rw [Lib.toList_data, HZ.out, beq_eq_false_iff_ne]
                  intro h; exact hne (by rw [← h])
                clear hne hp
                have bj0 : (0 : Int) ≤ (j : Int) := by omega
                have bj1 : (j : Int) < (pl1.length : Int) := by omega
                have bj2 : (j : Int) < 16384 := by omega
                go_wp2
                go_roundw
                case rel => exact ⟨j + 1, by omega, by go_num, trivial⟩
                case measure => simp [intOf]; omega
              · obtain rfl : j = a := by omega
                obtain ⟨adp, rfl, hcp⟩ := texts_at (Reads.of_own hw2.2.2) (show j < pl1.length by omega) (Below.refl _ _)
                obtain ⟨p, hp⟩ : ∃ p, pl1[j] = p := ⟨_, rfl⟩
                have h2 := HA2.out
                rw [List.getElem?_eq_getElem hapl, hp] at h2
                injection h2 with h2
                rw [hp] at hcp
                replace hcp : w2.cell? (adp.add j) = some (.string ⟨p.toArray⟩) := hcp
                have hq : (p == z.toList) = true := by
                  rw [Lib.toList_data, HZ.out, h2, beq_self_eq_true]
                have hrz := reads_new w2 5 (bytesV (ptrB j)) #[.int .u8 (192 + (j : Int) / 256), .int .u8 ((j : Int) % 256)] (by simp only [bytesV, ptrB, byteV, List.map_cons, List.map_nil]; rw [ofNat_toNat _ (by omega), ofNat_toNat _ (by omega)]; simp)
                clear h2 hp
                have bj0 : (0 : Int) ≤ (j : Int) := by omega
                have bj1 : (j : Int) < (pl1.length : Int) := by omega
                have bj2 : (j : Int) < 16384 := by omega
                go_wp2_with fail
                refine (put_any g most _ b1 _ pl1 bad _ 2 2 (ptrB j) _ (hw2.alloc _) hpl1 hrz (by simp [ptrB]; omega)).mono ?_
                rintro e w3 ⟨rfl, bv3, pv3, hw3, hs3⟩
                go_wp2
                go_end0
                refine rnameEnd_post HV.out ?_
                rw [HLS.out, ← HRES.out, nameW_hit rfl hf]
                exact ⟨bv3, pv3, _, hw3, (rstep_below HB0.out).trans (HS2.out.trans (rstep_alloc hs3)), by simp [hpl1, ptrB], fit_pad HFIT.out _⟩
          | none =>
            have HNO := Lib.hid ((HFIT.out _ (made_ne_nil (l0 :: r0))).2 hf)
            go_wp2
            go_loopw [10] (fun i wr => ∃ j : Nat, j ≤ pl1.length ∧ j ≤ 16384 ∧ i = .int .i64 (j : Int) ∧ w2 = wr) (fun i _ => pl1.length - (intOf i).toNat)
            case atStart => exact ⟨0, by omega, by omega, rfl, rfl⟩
            case round =>
              obtain ⟨j, hj, hj6, rfl, rfl⟩ := hrel
              by_cases hja : j < pl1.length
              · by_cases hjb : j < 16384
                · have hne := HNO.out j hjb
                  obtain ⟨adp, rfl, hcp⟩ := texts_at (Reads.of_own hw2.2.2) hja (Below.refl _ _)
                  obtain ⟨p, hp⟩ : ∃ p, pl1[j] = p := ⟨_, rfl⟩
                  rw [List.getElem?_eq_getElem hja, hp] at hne
                  rw [hp] at hcp
                  replace hcp : w2.cell? (adp.add j) = some (.string ⟨p.toArray⟩) := hcp
                  have hq : (p == z.toList) = false := by
                    rw [Lib.toList_data, HZ.out, beq_eq_false_iff_ne]
                    intro h; exact hne (by rw [← h])
                  clear hne hp
                  have bj0 : (0 : Int) ≤ (j : Int) := by omega
                  have bj1 : (j : Int) < (pl1.length : Int) := by omega
                  have bj2 : (j : Int) < 16384 := by omega
                  go_wp2
                  go_roundw
                  case rel => exact ⟨j + 1, by omega, by omega, by go_num, trivial⟩
                  case measure => simp [intOf]; omega
                · have hfar : ¬ b1.length < 16384 := by omega
                  have hrz := reads_new w2 5 (bytesV [UInt8.ofNat l0.length]) #[.int .u8 (l0.length : Int)] (by simp only [bytesV, byteV, List.map_cons, List.map_nil]; rw [ofNat_toNat _ (by omega)])
                  go_wp2_with fail
                  refine (put_any g most _ b1 _ pl1 bad _ 1 1 [UInt8.ofNat l0.length] _ (hw2.alloc _) hpl1 hrz (by simp; omega)).mono ?_
                  rintro e w3 ⟨rfl, bv3, pv3, hw3, hs3⟩
                  have HS3 := Lib.hid (HS2.out.trans (rstep_alloc hs3))
                  have hown3 := own_only HL.out HS3.out.1 HFP.out
                  obtain ⟨ad', hA, hcL3⟩ := texts_at (Reads.of_own hown3) hlt (Below.refl _ _)
                  injection hA with hA
                  subst hA
                  rw [HL0.out] at hcL3
                  replace hcL3 : w3.cell? (adL.add k) = some (.string ⟨l0.toArray⟩) := hcL3
                  obtain ⟨cc, w4, hcv, hrd, hbl, _⟩ := conv_bytes (P := Try.prog) 9 22 5 Try.underlying9 Try.underlying22 Try.underlying5 ⟨l0.toArray⟩ l0 (by simp) w3
                  have hw4 := hw3.below hbl
                  have HS4 := Lib.hid (HS3.out.trans (rstep_below (bv := bv3) (pv := pv3) hbl))
                  clear hw3 hs3 hown3 hrz hw2 hbl hk1 hk2
                  go_wp2_with fail
                  refine (put_any g most _ _ _ _ bad _ _ cc l0 _ hw4 (by simp [hpl1]) hrd (by simp; omega)).mono ?_
                  rintro e w5 ⟨rfl, bv5, pv5, hw5, hs5⟩
                  have HS5 := Lib.hid (HS4.out.trans hs5)
                  rw [List.append_assoc, List.append_assoc, rep_sum] at hw5
                  replace hw5 : RAt w5 g most bv5 (b1 ++ (UInt8.ofNat l0.length :: l0)) pv5 (pl1 ++ List.replicate (1 + l0.length) []) bad := hw5
                  have HPL := Lib.hid (by rw [List.length_append, List.length_replicate, List.length_append, List.length_cons, hpl1]; omega : (pl1 ++ List.replicate (1 + l0.length) ([] : List UInt8)).length = (b1 ++ (UInt8.ofNat l0.length :: l0)).length)
                  have HT := Lib.hid (by have := HTOT.out; rw [List.length_append, List.length_cons, HR0.out]; omega : (b1 ++ (UInt8.ofNat l0.length :: l0)).length + (made (ls.drop (k + 1))).length ≤ b.length + (made ls).length)
                  clear hs5 hw4 hrd hcv
                  go_wp2
                  go_roundw
                  case rel => exact ⟨k + 1, by omega, by go_num, _, _, _, _, f1, hw5, HS5.out, HPL.out, fit_pad HFIT.out _, HT.out, by rw [← HRES.out, HR0.out]; exact (nameW_far hf hfar).symm⟩
                  case measure => simp [intOf]; omega
              · by_cases hfar : b1.length < 16384
                ·
                  have hrz := reads_new w2 5 (bytesV [UInt8.ofNat l0.length]) #[.int .u8 (l0.length : Int)] (by simp only [bytesV, byteV, List.map_cons, List.map_nil]; rw [ofNat_toNat _ (by omega)])
                  go_wp2_with fail
                  refine (put_any g most _ b1 _ pl1 bad _ 1 1 [UInt8.ofNat l0.length] _ (hw2.alloc _) hpl1 hrz (by simp; omega)).mono ?_
                  rintro e w3 ⟨rfl, bv3, pv3, hw3, hs3⟩
                  have HS3 := Lib.hid (HS2.out.trans (rstep_alloc hs3))
                  have hown3 := own_only HL.out HS3.out.1 HFP.out
                  obtain ⟨ad', hA, hcL3⟩ := texts_at (Reads.of_own hown3) hlt (Below.refl _ _)
                  injection hA with hA
                  subst hA
                  rw [HL0.out] at hcL3
                  replace hcL3 : w3.cell? (adL.add k) = some (.string ⟨l0.toArray⟩) := hcL3
                  obtain ⟨cc, w4, hcv, hrd, hbl, _⟩ := conv_bytes (P := Try.prog) 9 22 5 Try.underlying9 Try.underlying22 Try.underlying5 ⟨l0.toArray⟩ l0 (by simp) w3
                  have hw4 := hw3.below hbl
                  have HS4 := Lib.hid (HS3.out.trans (rstep_below (bv := bv3) (pv := pv3) hbl))
                  clear hw3 hs3 hown3 hrz hw2 hbl hk1 hk2
                  go_wp2_with fail
                  refine (put_any g most _ _ _ _ bad _ _ cc l0 _ hw4 (by simp [hpl1]) hrd (by simp; omega)).mono ?_
                  rintro e w5 ⟨rfl, bv5, pv5, hw5, hs5⟩
                  have HS5 := Lib.hid (HS4.out.trans hs5)
                  rw [List.append_assoc, List.append_assoc, rep_sum] at hw5
                  replace hw5 : RAt w5 g most bv5 (b1 ++ (UInt8.ofNat l0.length :: l0)) pv5 (pl1 ++ List.replicate (1 + l0.length) []) bad := hw5
                  have HPL := Lib.hid (by rw [List.length_append, List.length_replicate, List.length_append, List.length_cons, hpl1]; omega : (pl1 ++ List.replicate (1 + l0.length) ([] : List UInt8)).length = (b1 ++ (UInt8.ofNat l0.length :: l0)).length)
                  have HT := Lib.hid (by have := HTOT.out; rw [List.length_append, List.length_cons, HR0.out]; omega : (b1 ++ (UInt8.ofNat l0.length :: l0)).length + (made (ls.drop (k + 1))).length ≤ b.length + (made ls).length)
                  clear hs5 hw4 hrd hcv
                  have hl5 : (pl1 ++ List.replicate (1 + l0.length) ([] : List UInt8)).length = b1.length + (l0.length + 1) := by rw [List.length_append, List.length_replicate, hpl1]; omega
                  obtain ⟨rp, cp, rfl, _, hltp⟩ := hw5.2.2.form (by rw [hl5]; omega)
                  have hk5 : w5.cell? ⟨g, 2, none⟩ = some (.slice (some ⟨rp, 0, none⟩) (pl1 ++ List.replicate (1 + l0.length) ([] : List UInt8)).length cp) := hw5.1.cell 2
                  have hx5 : w5.cell? ⟨rp, b1.length, none⟩ = some (.string ⟨#[]⟩) := by
                    rw [hw5.2.2.cellAt _ (by rw [hl5]; omega), List.getElem?_map, List.getElem?_append_right (by omega), List.getElem?_replicate, if_pos (by omega)]; rfl
                  have hf5 := hw5.2.2.frozenAt b1.length
                  have hw6 := r_poke hw5 b1.length (made (l0 :: r0)) (.string z) (by rw [← HZ.out]; rfl)
                  have HS6 : Hid (RStep g bv pv bv5 (.slice (some ⟨rp, 0, none⟩) (pl1 ++ List.replicate (1 + l0.length) ([] : List UInt8)).length cp) w0 (w5.setCell ⟨rp, b1.length, none⟩ (.string z))) :=
                    ⟨HS5.out.1.trans ((Only.refl (fpR g bv5 (.slice (some ⟨rp, 0, none⟩) (pl1 ++ List.replicate (1 + l0.length) ([] : List UInt8)).length cp)) _).setCell (Or.inl (Or.inr (Or.inr (by simp [Value.ownBlock])))) _) (rstep_fp HS5.out), HS5.out.2⟩
                  have hi0 : (0 : Int) ≤ (b1.length : Int) := by omega
                  rw [hl5] at hk5
                  have hi1 : (b1.length : Int) < (b1.length : Int) + ((l0.length : Int) + 1) := by omega
                  have HW6 := Lib.hid hw6
                  clear hw5 hltp hw6
                  go_wp2
                  go_roundw
                  case rel => exact ⟨k + 1, by omega, by go_num, _, _, _, _, upd f1 (made (l0 :: r0)) b1.length, HW6.out, HS6.out, by rw [List.length_set]; exact HPL.out, by rw [← hpl1]; exact fit_set HFIT.out _ (by omega) _ (made_ne_nil _) hf (by omega), HT.out, by rw [← HRES.out, HR0.out]; exact (nameW_new hf hfar).symm⟩
                  case measure => simp [intOf]; omega
                ·
                  have hrz := reads_new w2 5 (bytesV [UInt8.ofNat l0.length]) #[.int .u8 (l0.length : Int)] (by simp only [bytesV, byteV, List.map_cons, List.map_nil]; rw [ofNat_toNat _ (by omega)])
                  go_wp2_with fail
                  refine (put_any g most _ b1 _ pl1 bad _ 1 1 [UInt8.ofNat l0.length] _ (hw2.alloc _) hpl1 hrz (by simp; omega)).mono ?_
                  rintro e w3 ⟨rfl, bv3, pv3, hw3, hs3⟩
                  have HS3 := Lib.hid (HS2.out.trans (rstep_alloc hs3))
                  have hown3 := own_only HL.out HS3.out.1 HFP.out
                  obtain ⟨ad', hA, hcL3⟩ := texts_at (Reads.of_own hown3) hlt (Below.refl _ _)
                  injection hA with hA
                  subst hA
                  rw [HL0.out] at hcL3
                  replace hcL3 : w3.cell? (adL.add k) = some (.string ⟨l0.toArray⟩) := hcL3
                  obtain ⟨cc, w4, hcv, hrd, hbl, _⟩ := conv_bytes (P := Try.prog) 9 22 5 Try.underlying9 Try.underlying22 Try.underlying5 ⟨l0.toArray⟩ l0 (by simp) w3
                  have hw4 := hw3.below hbl
                  have HS4 := Lib.hid (HS3.out.trans (rstep_below (bv := bv3) (pv := pv3) hbl))
                  clear hw3 hs3 hown3 hrz hw2 hbl hk1 hk2
                  go_wp2_with fail
                  refine (put_any g most _ _ _ _ bad _ _ cc l0 _ hw4 (by simp [hpl1]) hrd (by simp; omega)).mono ?_
                  rintro e w5 ⟨rfl, bv5, pv5, hw5, hs5⟩
                  have HS5 := Lib.hid (HS4.out.trans hs5)
                  rw [List.append_assoc, List.append_assoc, rep_sum] at hw5
                  replace hw5 : RAt w5 g most bv5 (b1 ++ (UInt8.ofNat l0.length :: l0)) pv5 (pl1 ++ List.replicate (1 + l0.length) []) bad := hw5
                  have HPL := Lib.hid (by rw [List.length_append, List.length_replicate, List.length_append, List.length_cons, hpl1]; omega : (pl1 ++ List.replicate (1 + l0.length) ([] : List UInt8)).length = (b1 ++ (UInt8.ofNat l0.length :: l0)).length)
                  have HT := Lib.hid (by have := HTOT.out; rw [List.length_append, List.length_cons, HR0.out]; omega : (b1 ++ (UInt8.ofNat l0.length :: l0)).length + (made (ls.drop (k + 1))).length ≤ b.length + (made ls).length)
                  clear hs5 hw4 hrd hcv
                  go_wp2
                  go_roundw
                  case rel => exact ⟨k + 1, by omega, by go_num, _, _, _, _, f1, hw5, HS5.out, HPL.out, fit_pad HFIT.out _, HT.out, by rw [← HRES.out, HR0.out]; exact (nameW_far hf hfar).symm⟩
                  case measure => simp [intOf]; omega
      · obtain rfl : k = ls.length := by omega
        have hd0 : ls.drop ls.length = [] := List.drop_length
        rw [hd0] at htot1 hres1
        have hmp := made_pos ls
        have hrz := reads_new wr 5 (bytesV [0]) #[.int .u8 0] (by simp [bytesV, byteV])
        have HRES := Lib.hid hres1
        clear hres1 hd0
        go_wp2_with fail
        refine (put_any g most _ b1 _ pl1 bad _ 1 1 [0] _ (hw1.alloc _) hpl1 hrz (by simp; omega)).mono ?_
        rintro e w3 ⟨rfl, bv3, pv3, hw3, hs3⟩
        go_wp2
        go_end0
        refine rnameEnd_post HV.out ?_
        rw [HLS.out, ← HRES.out, nameW]
        exact ⟨bv3, pv3, _, hw3, (rstep_below HB0.out).trans (hs1.trans (rstep_alloc hs3)), by simp [hpl1], fit_pad hfit1 _⟩
end Go.Proofs.Ytkbbilcohoodlaa
