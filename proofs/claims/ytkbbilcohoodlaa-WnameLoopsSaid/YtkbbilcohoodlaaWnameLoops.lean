/-
  The walk of WnameLoops.
-/
import Derived.Test.YtkbbilcohoodlaaWnameGets
import Derived.Lib.SlBytesConst
import Derived.ArgAppend
import Derived.Deep.Onto
namespace Go.Proofs.Ytkbbilcohoodlaa
open Go.RowKit

theorem tmod_roundL (k n : Int) : (k.tmod n + n) % n = k % n := by
  rw [Int.tmod_def, show k - n * k.tdiv n + n = k + n * (1 - k.tdiv n) by rw [Int.mul_sub]; omega, Int.add_mul_emod_self_left]
set_option maxRecDepth 20000 in
set_option maxHeartbeats 400000 in
theorem roundL (k n : Int) (w : World) (h0 : 0 < n) (h1 : n ≤ 1000000) :
    Calls Try.prog 12 #[.int .i64 k, .int .i64 n] w fun e w' => e = .returned (.int .i64 (k % n)) ∧ w = w' := by
  have HT := Lib.hid (tmod_roundL k n)
  have h2 := Int.tmod_lt_of_pos k h0
  have h3 := Int.lt_tmod_of_pos k h0
  have hn0 : (n == 0) = false := by simp; omega
  go_enter Try.func12, Try.ntmps12
  go_wp2
  go_ret
  exact ⟨ret_int (by rw [← HT.out]), rfl⟩

/-- The bytes: a name, and pointers to places below 220. -/
def ptrList (ks : List Nat) : List UInt8 := [1, 97, 0] ++ ks.flatMap fun k => [192, UInt8.ofNat k]
theorem ptrList_snoc (ks : List Nat) (k : Nat) : ptrList (ks ++ [k]) = ptrList ks ++ [192, UInt8.ofNat k] := by simp [ptrList]
theorem ptrList_length (ks : List Nat) : (ptrList ks).length = 3 + 2 * ks.length := by
  induction ks with
  | nil => rfl
  | cons k ks ih => simp [ptrList] at ih ⊢; omega

/-- The bytes that loop 1 makes. -/
def PtrRel (w : World) (k : Nat) (v : Value) (wr : World) : Prop :=
  (k = 0 ∧ v = .slice (some ⟨w.heap.size, 0, none⟩) 3 3 ∧ wr = w.alloc (.cells #[.int .u8 1, .int .u8 97, .int .u8 0] 5 (3, 4))) ∨
  ∃ ks : List Nat, ks.length = k ∧ 0 < k ∧ (∀ x ∈ ks, x < 220) ∧ wr.ownsRow w.heap.size 5 1 v (3 + 2 * k) (bytesV (ptrList ks)) ∧ Below w.heap.size w wr
theorem ptrRel_size {w : World} {k : Nat} {v : Value} {wr : World} (h : PtrRel w k v wr) : Below w.heap.size w wr := by
  rcases h with ⟨_, _, rfl⟩ | ⟨_, _, _, _, _, h⟩
  · exact (Below.refl _ _).alloc (by omega) _
  · exact h
theorem ptrRel_slice {w : World} {k : Nat} {v : Value} {wr : World} (h : PtrRel w k v wr) : ∃ A c, v = .slice A (3 + 2 * k) c := by
  rcases h with ⟨rfl, rfl, _⟩ | ⟨_, _, _, _, h, _⟩
  · exact ⟨_, _, rfl⟩
  · exact own_slice h
theorem bytesV_two (y : Nat) (h : y < 256) : bytesV [192, UInt8.ofNat y] = [.int .u8 192, .int .u8 (y : Int)] := by
  simp only [bytesV, byteV, List.map_cons, List.map_nil]; rw [ofNat_toNat _ h]; rfl
theorem ptr_step {ops : Array Oper} {rest : List Oper} {o : Oper} {a : Act} {Q : Exit → Act → World → Prop} (hgd : o.guard = none) (s x : Operand)
    (ho : o.op = .call { callee := .builtin .append, args := #[s, x], argTypes := #[22, 22] })
    (w wr : World) (k y : Nat) (v : Value) (hR : PtrRel w k v wr) (hy : y < 220) (hk : k ≤ 100) (hs : a.eval s = v) (hx : a.eval x = .slice (some ⟨wr.heap.size, 0, none⟩) 2 2)
    (hK : ∀ v' w', PtrRel w (k + 1) v' w' → wpList Try.prog ops Q rest (a.put o.dst v') w') :
    wpList Try.prog ops Q (o :: rest) a (wr.alloc (.cells #[.int .u8 192, .int .u8 (y : Int)] 5)) := by
  obtain ⟨i0, hi, hz0, hz1, hz2⟩ := info_parts Try.infoU8
  have hnews : ∀ j u, ([.int .u8 192, .int .u8 (y : Int)] : List Value)[j]? = some u → (wr.alloc (.cells #[.int .u8 192, .int .u8 (y : Int)] 5)).cell? ((⟨wr.heap.size, 0, none⟩ : Addr).add j) = some u := by
    intro j u hj
    match j, hj with
    | 0, hj => simp at hj; subst hj; simp [Addr.add]
    | 1, hj => simp at hj; subst hj; simp [Addr.add]
  have hone : ∀ u ∈ ([.int .u8 192, .int .u8 (y : Int)] : List Value), u.oneCell' = true := by
    intro u hu; simp at hu; rcases hu with rfl | rfl <;> rfl
  rcases hR with ⟨rfl, rfl, rfl⟩ | ⟨ks, hks, hk0, hall, hown, hbel⟩
  · refine wpList_append_grows _ hgd s x 22 ho 5 i0 (.int .u8 0) 1 1 Try.underlying22 hi hz0 hz1 hz2 rfl (by decide) _ 3 3 [.int .u8 1, .int .u8 97, .int .u8 0] hs (by intro h; cases h) rfl ?_ _ 2 2 _ hx rfl hnews hone (by omega) (by unfold maxLen; omega) (by omega) ?_
    · intro b hb j u hj
      injection hb with hb
      subst hb
      refine Lib.cell?_alloc_marked _ ?_
      match j, hj with
      | 0, hj => simp at hj; subst hj; simp [Addr.add]; rw [World.cell?_alloc_mark]; rfl
      | 1, hj => simp at hj; subst hj; simp [Addr.add]; rw [World.cell?_alloc_mark]; rfl
      | 2, hj => simp at hj; subst hj; simp [Addr.add]; rw [World.cell?_alloc_mark]; rfl
    · intro v' w' hown hgr
      refine hK v' w' (.inr ⟨[y], rfl, by omega, by intro z hz; simp at hz; omega, ?_, ?_⟩)
      · have e : bytesV (ptrList [y]) = [.int .u8 1, .int .u8 97, .int .u8 0] ++ [.int .u8 192, .int .u8 (y : Int)] := by
          rw [← bytesV_two y (by omega)]; rfl
        rw [e]
        exact World.ownsRow.mono hown (by simp; omega)
      · exact (((Below.refl _ _).alloc (by omega) _).alloc (by simp) _).grown hgr (by simp; omega) (by intro g hg; cases hg)
  · refine wpList_append_own _ hgd s x 22 ho w.heap.size 5 i0 (.int .u8 0) 1 1 Try.underlying22 hi hz0 hz1 hz2 rfl (by decide) _ _ _ hs (hown.alloc _) _ 2 2 _ hx rfl hnews hone (by unfold maxLen; omega) (by omega) (by have := hbel.size; simp; omega) ?_
    intro v' w' hown' hgr _
    refine hK v' w' (.inr ⟨ks ++ [y], by simp [hks], by omega, ?_, ?_, ?_⟩)
    · intro z hz
      rw [List.mem_append] at hz
      rcases hz with hz | hz
      · exact hall z hz
      · simp at hz; omega
    · rw [ptrList_snoc, bytesV_append, bytesV_two y (by omega)]
      exact hown'
    · exact (hbel.alloc (by have := hbel.size; omega) _).grown hgr (by have := hbel.size; simp; omega) (fun g hg => (hown.lt g hg).1)

theorem ptrList_at (ks : List Nat) (j : Nat) (h : j < ks.length) : (ptrList ks)[3 + 2 * j]? = some 192 ∧ (ptrList ks)[3 + 2 * j + 1]? = some (UInt8.ofNat ks[j]) := by
  have hg : ∀ (ks : List Nat) (j : Nat) (h : j < ks.length), (ks.flatMap fun k => [192, UInt8.ofNat k])[2 * j]? = some 192 ∧ (ks.flatMap fun k => [192, UInt8.ofNat k])[2 * j + 1]? = some (UInt8.ofNat ks[j]) := by
    intro ks
    induction ks with
    | nil => intro j h; simp at h
    | cons k ks ih =>
      intro j h
      cases j with
      | zero => exact ⟨rfl, rfl⟩
      | succ j => exact ih j (by simpa using h)
  have h3 := hg ks j h
  unfold ptrList
  rw [List.getElem?_append_right (by simp; try omega), List.getElem?_append_right (by simp; try omega), List.length_cons, List.length_cons, List.length_cons, List.length_nil, show 3 + 2 * j - (0 + 1 + 1 + 1) = 2 * j by omega, show 3 + 2 * j + 1 - (0 + 1 + 1 + 1) = 2 * j + 1 by omega]
  exact h3
/-- What the loop by hand keeps: the pointers lead on to the same end. -/
def HandRel (bs : List UInt8) (m : Nat) (res : Option (List UInt8 × Nat)) (p : Nat) : Prop :=
  ∃ (f : Nat) (e : Option Nat), getF bs f p p e [] = res ∧ getM bs.length p p < f ∧ p < bs.length ∧ (p = 3 + 2 * m ∧ e = none ∨ e = some (5 + 2 * m)) ∧ (3 ≤ p → (p - 3) % 2 = 0)
def handMu (p g : Value) : Nat := match g with | .bool true => (intOf p).toNat + 1 | _ => 0
theorem handRel_start (bs : List UInt8) (m : Nat) (h : 3 + 2 * m < bs.length) : HandRel bs m (getL bs ((3 + 2 * m : Nat) : Int)) (3 + 2 * m) :=
  ⟨getM bs.length (3 + 2 * m) (3 + 2 * m) + 1, none, by unfold getL; rw [if_pos (by omega), Int.toNat_natCast], by omega, h, .inl ⟨rfl, rfl⟩, by omega⟩
theorem handRel_step {ks : List Nat} {m p y : Nat} {res : Option (List UInt8 × Nat)} (h : HandRel (ptrList ks) m res p) (hp : 3 ≤ p) (hj : (p - 3) / 2 < ks.length) (hy : ks[(p - 3) / 2] = y) (hy2 : y < 220) (hlt : y < p)
    (hev : 3 ≤ y → (y - 3) % 2 = 0) : HandRel (ptrList ks) m res y := by
  obtain ⟨f, e, h1, h2, h3, h4, h5⟩ := h
  have hm := h5 hp
  have hat := ptrList_at ks _ hj
  rw [show 3 + 2 * ((p - 3) / 2) = p by omega, hy] at hat
  have hl := ptrList_length ks
  have g1 : ((ptrList ks)[p]'h3) = 192 := by have := hat.1; rw [List.getElem?_eq_getElem h3] at this; injection this
  have h3b : p + 1 < (ptrList ks).length := by omega
  have g2 : ((ptrList ks)[p + 1]'h3b) = UInt8.ofNat y := by have := hat.2; rw [List.getElem?_eq_getElem h3b] at this; injection this
  have g3 : (((ptrList ks)[p]'h3).toNat - 192) * 256 + ((ptrList ks)[p + 1]'h3b).toNat = y := by
    rw [g1, g2, show (UInt8.ofNat y).toNat = y from by simp; omega]; simp
  obtain ⟨f', e1, e2⟩ := getF_pointer (e := e) (l := []) h2 h3 (by rw [g1]; decide) h3b (by rw [g3]; omega)
  rw [g3] at e1 e2
  refine ⟨f', some (e.getD (p + 2)), by rw [← e1]; exact h1, e2, by omega, .inr ?_, hev⟩
  rcases h4 with ⟨rfl, rfl⟩ | rfl
  · simp; omega
  · rfl
theorem handRel_two {ks : List Nat} {m : Nat} {res : Option (List UInt8 × Nat)} (h : HandRel (ptrList ks) m res 2) : res = some ([0], 5 + 2 * m) := by
  obtain ⟨f, e, h1, h2, h3, h4, _⟩ := h
  have g : ((ptrList ks)[2]'h3) = 0 := rfl
  rw [getF_zero h2 h3 (by rw [g]; rfl)] at h1
  rcases h4 with ⟨h, _⟩ | rfl
  · omega
  · simpa using h1.symm
theorem handRel_zero {ks : List Nat} {m : Nat} {res : Option (List UInt8 × Nat)} (h : HandRel (ptrList ks) m res 0) : res = some ([1, 97, 0], 5 + 2 * m) := by
  obtain ⟨f, e, h1, h2, h3, h4, _⟩ := h
  have hl := ptrList_length ks
  have g : ((ptrList ks)[0]'h3) = 1 := rfl
  obtain ⟨f', e1, e2⟩ := getF_label (e := e) (l := []) h2 h3 (by rw [g]; decide) (by rw [g]; decide) (by rw [g]; simp; omega)
  rw [g] at e1 e2
  rw [h1] at e1
  have h32 : 2 < (ptrList ks).length := by omega
  rw [getF_zero (a := 0 + 1 + UInt8.toNat 1) e2 h32 rfl] at e1
  rcases h4 with ⟨h, _⟩ | rfl
  · omega
  · rw [e1]; rfl

set_option maxRecDepth 200000 in
set_option maxHeartbeats 4000000 in
theorem walkWnameLoops (a0 : Int) (A : Option Addr) (n c : Nat) (xs : List Int) (a2 : Int) (w : World) (_w0 : (Lit.int .i64 a0).wf = true) (hl : n = xs.length) (_hc : n ≤ c) (_hn : c ≤ maxLen) (hr : Reads w w.heap.size 1 A n (xs.map (Value.int .i64))) (_hw : ∀ x ∈ xs, (Lit.int .i64 x).wf = true) (_w2 : (Lit.int .i64 a2).wf = true) :
    Calls Try.prog 4 #[.int .i64 a0, .slice A n c, .int .i64 a2] w fun e w' => e = .returned (.bool true) ∧ Below w.heap.size w w' := by
  subst hl
  clear _w0 _hc _hn _hw _w2
  have kc := fun (w : World) (C : Array Value) (n c : Nat) => Lib.run_convert_bytes_const (P := Try.prog) w 22 5 C n c Try.underlying22 Try.underlying5
  by_cases hok : (1 ≤ a0 ∧ a0 ≤ 100) ∧ xs.length ≤ 100
  · obtain ⟨⟨q1, q2⟩, q3⟩ := hok
    obtain ⟨np, rfl⟩ := Int.eq_ofNat_of_zero_le (show 0 ≤ a0 by omega)
    go_enter Try.func4, Try.ntmps4
    go_wp2_with fail
    go_loopw [7, 8] (fun v i wr => ∃ k : Nat, k ≤ np ∧ i = .int .i64 (k : Int) ∧ PtrRel w k v wr) (fun _ i _ => np - (intOf i).toNat)
    case atStart => exact ⟨0, by omega, rfl, .inl ⟨rfl, rfl, rfl⟩⟩
    case round =>
      obtain ⟨k, hk, rfl, hR⟩ := hrel
      have hbel := ptrRel_size hR
      have hsz := hbel.size
      obtain ⟨A1, c1, rfl⟩ := ptrRel_slice hR
      by_cases hlt : k < np
      · by_cases hkn : k < xs.length
        · obtain ⟨ad, u, rfl, had, hx, hcx⟩ := (hr.below hbel).at_ hkn
          rw [List.getElem?_map, List.getElem?_eq_getElem hkn] at hx
          injection hx with hx
          subst hx
          go_wp2_with fail
          refine (roundL _ 220 _ (by omega) (by omega)).mono ?_
          rintro e w1 ⟨rfl, rfl⟩
          obtain ⟨y, hy⟩ := Int.eq_ofNat_of_zero_le (Int.emod_nonneg (xs[k]) (show (220 : Int) ≠ 0 by omega))
          have hy2 := Int.emod_lt_of_pos (xs[k]) (show (0 : Int) < 220 by omega)
          rw [hy] at hy2 ⊢
          have hy3 : y < 220 := by omega
          clear hy hy2
          have d1 : (y : Int).tdiv 256 = 0 := Int.tdiv_eq_zero_of_lt (by omega) (by omega)
          have d2 : (y : Int).tmod 256 = y := Int.tmod_eq_of_lt (by omega) (by omega)
          go_wp2_with (at_builtin; refine ptr_step rfl (.tmp 52) (.tmp 60) rfl w _ k y _ hR hy3 (by omega) rfl rfl ?_)
          intro v' w' hR'
          go_wp2
          go_roundw
          case rel => exact ⟨k + 1, by omega, by go_num, hR'⟩
          case measure => simp [intOf]; omega
        · go_wp2_with (at_builtin; refine ptr_step rfl (.tmp 52) (.tmp 60) rfl w _ k 0 _ hR (by omega) (by omega) rfl rfl ?_)
          intro v' w' hR'
          go_wp2
          go_roundw
          case rel => exact ⟨k + 1, by omega, by go_num, hR'⟩
          case measure => simp [intOf]; omega
      · obtain rfl : k = np := by omega
        go_wp2_with fail
        refine (roundL _ k _ (by omega) (by omega)).mono ?_
        rintro e w1 ⟨rfl, rfl⟩
        obtain ⟨m, hm⟩ := Int.eq_ofNat_of_zero_le (Int.emod_nonneg a2 (show (k : Int) ≠ 0 by omega))
        have hm2 := Int.emod_lt_of_pos a2 (show (0 : Int) < (k : Int) by omega)
        rw [hm] at hm2 ⊢
        have hm3 : m < k := by omega
        clear hm hm2
        obtain ⟨ks, hks, hk0, hall, hown⟩ : ∃ ks : List Nat, ks.length = k ∧ 0 < k ∧ (∀ x ∈ ks, x < 220) ∧ wr.ownsRow w.heap.size 5 1 (.slice A1 (3 + 2 * k) c1) (3 + 2 * k) (bytesV (ptrList ks)) := by
          rcases hR with ⟨h, _⟩ | ⟨ks, h1, h2, h3, h4, _⟩
          · omega
          · exact ⟨ks, h1, h2, h3, h4⟩
        have hr2 := Reads.of_own hown
        have hcap := own_le_cap hown
        have HALL := Lib.hid hall
        clear hR hown hall
        obtain ⟨res, hres⟩ : ∃ r, getL (ptrList ks) ((3 + 2 * m : Nat) : Int) = r := ⟨_, rfl⟩
        have HST := Lib.hid (handRel_start (ptrList ks) m (by rw [ptrList_length]; omega))
        rw [hres] at HST
        go_wp2_with fail
        obtain ⟨zs, zk, ze, zb, heb, hzw, hz1, hz2⟩ : ∃ (zs : ByteArray) (zk ze : Int) (zb : Bool), (ze == 0) = zb ∧ (∀ l j, res = some (l, j) → zs = ⟨l.toArray⟩ ∧ zk = (j : Int) ∧ ze = 0) ∧
            (∀ w e w', GetPost res w e w' → e = .returned (.tuple #[.string zs, .int .i64 zk, .int .i64 ze]) ∧ Below w.heap.size w w') ∧
            (∀ w e w', GetPostR res w e w' → e = .returned (.tuple #[.string zs, .int .i64 zk, .bool zb]) ∧ w = w') :=
          ⟨_, _, _, _, by cases res <;> rfl, by rintro l j rfl; exact ⟨rfl, rfl, rfl⟩, fun _ _ _ h => h, fun _ _ _ h => h⟩
        have HZW := Lib.hid hzw
        clear hzw
        have hge : Calls Try.prog 10 #[.slice A1 (3 + 2 * k) c1, .int .i64 (3 + 2 * (m : Int))] wr fun e w' => e = .returned (.tuple #[.string zs, .int .i64 zk, .int .i64 ze]) ∧ Below wr.heap.size wr w' := by
          have h := get_any A1 (3 + 2 * k) c1 (ptrList ks) ((3 + 2 * m : Nat) : Int) wr hr2 hcap (by omega)
          rw [hres] at h
          rw [show (3 : Int) + 2 * (m : Int) = ((3 + 2 * m : Nat) : Int) by omega]
          exact h.mono (hz1 _)
        refine hge.mono ?_
        clear hge hz1
        rintro e w2 ⟨rfl, hb2⟩
        have hHr : ∀ w' : World, Below wr.heap.size wr w' → Calls Try.prog 11 #[.slice A1 (3 + 2 * k) c1, .int .i64 (3 + 2 * (m : Int))] w' fun e w1 => e = .returned (.tuple #[.string zs, .int .i64 zk, .bool zb]) ∧ w' = w1 := by
          intro w' hb'
          have h := refGet_any A1 (3 + 2 * k) c1 (ptrList ks) ((3 + 2 * m : Nat) : Int) w' ((hr2.below hb').more hb'.size) hcap (by omega)
          rw [hres] at h
          rw [show (3 : Int) + 2 * (m : Int) = ((3 + 2 * m : Nat) : Int) by omega]
          exact h.mono (hz2 _)
        have HHR := Lib.hid hHr
        clear hHr hres hz2
        go_wp2_with fail
        go_loopw [14, 15] (fun p g wx => ∃ (q : Nat) (b : Bool), p = .int .i64 (q : Int) ∧ g = .bool b ∧ (b = true → HandRel (ptrList ks) m res q) ∧ Below wr.heap.size wr wx) (fun p g _ => handMu p g)
        case atStart => exact ⟨3 + 2 * m, true, by go_num, rfl, fun _ => HST.out, hb2⟩
        case round =>
          obtain ⟨q, b, rfl, rfl, hq, hbx⟩ := hrel
          have HQ := Lib.hid hq
          clear hq
          cases b
          · by_cases h3 : 3 ≤ q
            ·
              go_wp2_with fail
              refine (HHR.out _ hbx).mono ?_
              rintro e w4 ⟨rfl, rfl⟩
              go_wp2_with fail
              refine (awake_any _).mono ?_
              rintro e v ⟨rfl, hv⟩
              go_wp2
              go_ret
              exact ⟨rfl, (hbel.trans (Below.mono hbx hsz)).trans (hv.mono (by have := (Below.size hbx); omega))⟩
            ·
              go_wp2_with fail
              refine (HHR.out _ hbx).mono ?_
              rintro e w4 ⟨rfl, rfl⟩
              go_wp2_with fail
              refine (awake_any _).mono ?_
              rintro e v ⟨rfl, hv⟩
              go_wp2
              go_ret
              exact ⟨rfl, (hbel.trans (Below.mono hbx hsz)).trans (hv.mono (by have := (Below.size hbx); omega))⟩
          · by_cases h3 : 3 ≤ q
            · have hq2 := HQ.out rfl
              have hev : (q - 3) % 2 = 0 := by obtain ⟨_, _, _, _, _, _, h⟩ := hq2; exact h h3
              have hql : q < 3 + 2 * ks.length := by obtain ⟨_, _, _, _, h, _⟩ := hq2; rw [ptrList_length] at h; exact h
              have hj : (q - 3) / 2 < ks.length := by omega
              have hq9 : q + 1 < 3 + 2 * k := by omega
              obtain ⟨y, hy⟩ : ∃ y, ks[(q - 3) / 2] = y := ⟨_, rfl⟩
              have hy2 : y < 220 := by rw [← hy]; exact HALL.out _ (List.getElem_mem hj)
              have hat := ptrList_at ks _ hj
              rw [show 3 + 2 * ((q - 3) / 2) = q by omega, hy] at hat
              have hrx := hr2.below hbx
              obtain ⟨ad, u, rfl, _, hx, hcx⟩ := hrx.at_ (show q < 3 + 2 * k by omega)
              obtain ⟨ad2, u2, hadd, _, hx2, hcx2⟩ := hrx.at_ (show q + 1 < 3 + 2 * k by omega)
              injection hadd with hadd
              subst hadd
              have hu : u = .int .u8 192 := by
                unfold bytesV at hx; rw [List.getElem?_map, hat.1] at hx; injection hx with hx; rw [← hx]; rfl
              have hu2 : u2 = .int .u8 (y : Int) := by
                unfold bytesV at hx2; rw [List.getElem?_map, hat.2] at hx2; injection hx2 with hx2; rw [← hx2]; unfold byteV; rw [ofNat_toNat _ (by omega)]
              subst hu hu2
              have HSTEP := Lib.hid (handRel_step hq2 h3 hj hy hy2)
              clear hat hx hx2 hq2 hy hj hev
              have hcx3 : wr.cell? { block := ad.block, off := ad.off + (q + 1) } = some (.int .u8 (y : Int)) := by
                have h := hcx2; unfold Addr.add at h; rw [if_neg (by omega)] at h; exact h
              have qi0 : (0 : Int) ≤ (q : Int) := by omega
              have qi1 : (q : Int) < 3 + 2 * (k : Int) := by omega
              have qi2 : (q : Int) + 1 < 3 + 2 * (k : Int) := by omega
              have qi3 : (0 : Int) ≤ (q : Int) + 1 := by omega
              have qw0 : IntKind.u8.wrap 0 = 0 := by decide
              have qw1 : IntKind.i64.wrap 0 = 0 := by decide
              have qw2 : IntKind.i64.wrap ((q : Int) + 1) = (q : Int) + 1 := IntWalk.i64_in _ (by omega)
              have qw3 : IntKind.i64.wrap (y : Int) = (y : Int) := IntWalk.i64_in _ (by omega)
              by_cases hlt : y < q
              · by_cases hy3 : 3 ≤ y
                · by_cases hod : (y - 3) % 2 = 0
                  ·
                    have hm2 : ((y : Int) - 3).tmod 2 = 0 := by rw [Int.tmod_eq_emod_of_nonneg (by omega)]; omega
                    go_wp2_with fail
                    go_quiet (fail)
                    clear qw0 qw1 qw2 qw3
                    go_wp2
                    go_roundw
                    case rel => exact ⟨y, true, by go_num, rfl, fun _ => HSTEP.out hlt (fun _ => hod), below_drewN hbx _⟩
                    case measure => simp [handMu, intOf]; try omega
                  ·
                    have hm2 : ((y : Int) - 3).tmod 2 = 1 := by rw [Int.tmod_eq_emod_of_nonneg (by omega)]; omega
                    go_wp2_with fail
                    go_quiet (fail)
                    clear qw0 qw1 qw2 qw3
                    go_wp2_with fail
                    refine (HHR.out _ (below_drewN hbx _)).mono ?_
                    rintro e w4 ⟨rfl, rfl⟩
                    go_wp2_with fail
                    refine (awake_any _).mono ?_
                    rintro e v ⟨rfl, hv⟩
                    go_wp2
                    go_ret
                    exact ⟨rfl, (hbel.trans (Below.mono (below_drewN hbx _) hsz)).trans (hv.mono (by have := (Below.size hbx); show _ ≤ wr.heap.size; omega))⟩
                ·
                  go_wp2_with fail
                  go_quiet (fail)
                  clear qw0 qw1 qw2 qw3
                  go_wp2
                  go_roundw
                  case rel => exact ⟨y, true, by go_num, rfl, fun _ => HSTEP.out hlt (fun h => absurd h hy3), below_drewN hbx _⟩
                  case measure => simp [handMu, intOf]; try omega
              · by_cases hod : (y - 3) % 2 = 0
                ·
                  have hm2 : ((y : Int) - 3).tmod 2 = 0 := by rw [Int.tmod_eq_emod_of_nonneg (by omega)]; omega
                  go_wp2_with fail
                  go_quiet (fail)
                  clear qw0 qw1 qw2 qw3
                  go_wp2
                  go_roundw
                  case rel => exact ⟨y, false, by go_num, rfl, (fun h => by cases h), below_drewN hbx _⟩
                  case measure => simp [handMu, intOf]; try omega
                ·
                  have hm2 : ((y : Int) - 3).tmod 2 = 1 := by rw [Int.tmod_eq_emod_of_nonneg (by omega)]; omega
                  go_wp2_with fail
                  go_quiet (fail)
                  clear qw0 qw1 qw2 qw3
                  go_wp2_with fail
                  refine (HHR.out _ (below_drewN hbx _)).mono ?_
                  rintro e w4 ⟨rfl, rfl⟩
                  go_wp2_with fail
                  refine (awake_any _).mono ?_
                  rintro e v ⟨rfl, hv⟩
                  go_wp2
                  go_ret
                  exact ⟨rfl, (hbel.trans (Below.mono (below_drewN hbx _) hsz)).trans (hv.mono (by have := (Below.size hbx); show _ ≤ wr.heap.size; omega))⟩
            · by_cases hq1 : q = 1
              · subst hq1
                go_wp2_with fail
                refine (HHR.out _ hbx).mono ?_
                rintro e w4 ⟨rfl, rfl⟩
                go_wp2_with fail
                refine (awake_any _).mono ?_
                rintro e v ⟨rfl, hv⟩
                go_wp2
                go_ret
                exact ⟨rfl, (hbel.trans (Below.mono hbx hsz)).trans (hv.mono (by have := (Below.size hbx); omega))⟩
              · by_cases hq2 : q = 2
                · subst hq2
                  obtain ⟨rfl, rfl, rfl⟩ := HZW.out _ _ (handRel_two (HQ.out rfl))
                  go_wp2_with fail
                  refine (awake_any _).mono ?_
                  rintro e v ⟨rfl, hv⟩
                  go_wp2
                  go_ret
                  exact ⟨rfl, (hbel.trans (hbx.mono hsz)).trans (hv.mono (by have := hbx.size; omega))⟩
                · obtain rfl : q = 0 := by omega
                  obtain ⟨rfl, rfl, rfl⟩ := HZW.out _ _ (handRel_zero (HQ.out rfl))
                  go_wp2_with fail
                  refine (awake_any _).mono ?_
                  rintro e v ⟨rfl, hv⟩
                  go_wp2
                  go_ret
                  exact ⟨rfl, (hbel.trans (hbx.mono hsz)).trans (hv.mono (by have := hbx.size; omega))⟩
  · clear kc hr
    by_cases h1 : a0 < 1
    ·
      go_enter Try.func4, Try.ntmps4
      go_wp2_with fail
      refine (awake_any _).mono ?_
      rintro e v ⟨rfl, hv⟩
      go_wp2
      go_ret
      exact ⟨rfl, hv⟩
    · by_cases h2 : 100 < a0
      ·
        go_enter Try.func4, Try.ntmps4
        go_wp2_with fail
        refine (awake_any _).mono ?_
        rintro e v ⟨rfl, hv⟩
        go_wp2
        go_ret
        exact ⟨rfl, hv⟩
      · have h3 : (100 : Int) < (xs.length : Int) := by omega
        clear hok
        go_enter Try.func4, Try.ntmps4
        go_wp2_with fail
        refine (awake_any _).mono ?_
        rintro e v ⟨rfl, hv⟩
        go_wp2
        go_ret
        exact ⟨rfl, hv⟩
end Go.Proofs.Ytkbbilcohoodlaa
