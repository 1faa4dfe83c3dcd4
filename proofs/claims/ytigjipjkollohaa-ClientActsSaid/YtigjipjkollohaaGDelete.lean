/-
  The contracts of slices.IndexFunc and slices.DeleteFunc on askers.
-/
import Derived.Test.YtigjipjkollohaaGRows
namespace Go.Proofs.Ytigjipjkollohaa.G
open Go.RowKit

set_option maxRecDepth 200000 in
set_option maxHeartbeats 4000000 in
theorem index_any {f : FuncId} {caps : Array Value} {so : Array Value → Bool} {ok : Array Value → Prop} {cs : List (Nat × Int)} (hsays : Says f caps so ok cs)
    (hcall : ∀ (args : Array Value) (W : World), (callFunc f args).run Try.prog W = .ok (.enter f args) W) (B c : Nat) (A : Option Addr) (l : List (Array Value)) (w : World)
    (ho : w.ownsRow B 35 18 (.slice A l.length c) l.length (l.flatMap Array.toList)) (hax : ∀ x ∈ l, AskG x) (hok : ∀ x ∈ l, ok x) (hc : Caps w cs) (hl : l.length ≤ 1000) :
    Calls Try.prog 36 #[.slice A l.length c, .func (.func f) #[] caps] w (IndexPost l so w) := by
  go_enter Try.func36, Try.ntmps36
  go_wp2
  go_loopw [8] (fun i wr => ∃ k : Nat, k ≤ l.length ∧ i = .int .i64 (k : Int) ∧ (∀ j (h : j < l.length), j < k → so l[j] = false) ∧ Below w.heap.size w wr) (fun i _ => l.length - (intOf i).toNat)
  case atStart => exact ⟨0, by omega, rfl, fun j h hj => by omega, Below.refl _ _⟩
  case round =>
    obtain ⟨k, hk, rfl, hno, hB⟩ := hrel
    have HNO := Lib.hid hno
    clear hno
    by_cases hlt : k < l.length
    · obtain ⟨rb, cap, hA, _, _⟩ := ho.form (by omega)
      injection hA with hA _ hcc
      subst hA hcc
      have hrange := row_range ho hax hlt hB
      have hx := hax _ (List.getElem_mem hlt)
      have hokx := hok _ (List.getElem_mem hlt)
      obtain ⟨x, hx'⟩ : ∃ x, l[k] = x := ⟨_, rfl⟩
      rw [hx'] at hrange hx hokx
      have HX := Lib.hid hx'
      clear hx'
      have bi0 : (0 : Int) ≤ (k : Int) := by omega
      have bi1 : (k : Int) < (l.length : Int) := by omega
      go_wp2_with (first | refine wpList_load_mid rfl 35 _ rfl rb (k * 18) rfl x.toList _ hrange Try.underlying35 rfl hx.infoL ?_)
      refine (hsays _ x hx hokx (caps_below hc hB)).mono ?_
      rintro e w2 ⟨rfl, hB2⟩
      have hBw2 := hB.trans (hB2.mono hB.size)
      cases hso : so x
      · go_wp2
        go_roundw
        case rel =>
          refine ⟨k + 1, by omega, by go_num, fun j h hj => ?_, hBw2⟩
          by_cases hjk : j < k
          · exact HNO.out j h hjk
          · obtain rfl : j = k := by omega
            rw [HX.out]; exact hso
        case measure => simp [intOf]; omega
      · go_wp2
        go_ret
        exact ⟨k, hk, HNO.out, fun h => by rw [HX.out]; exact hso, by rw [if_pos hlt]; rfl, hBw2⟩
    · obtain rfl : k = l.length := by omega
      go_wp2
      go_ret
      exact ⟨l.length, hk, HNO.out, fun h => absurd h (Nat.lt_irrefl _), by rw [if_neg (Nat.lt_irrefl _)]; rfl, hB⟩

def DelRel (B rb n c : Nat) (l : List (Array Value)) (so : Array Value → Bool) (w : World) (i j : Nat) (wr : World) : Prop :=
  ∃ L : List (Array Value), L.length = n ∧ (∀ x ∈ L, AskG x) ∧ L.take i = (l.take j).filter (fun x => !so x) ∧ L.drop j = l.drop j ∧
    wr.ownsRow B 35 18 (.slice (some ⟨rb, 0, none⟩) n c) n (L.flatMap Array.toList) ∧ Only (fun i => (Value.slice (some ⟨rb, 0, none⟩) n c).ownBlock = some i) w wr
set_option maxRecDepth 200000 in
set_option maxHeartbeats 4000000 in
theorem delete_any {f : FuncId} {caps : Array Value} {so : Array Value → Bool} {ok : Array Value → Prop} {cs : List (Nat × Int)} (hsays : Says f caps so ok cs)
    (hcall : ∀ (args : Array Value) (W : World), (callFunc f args).run Try.prog W = .ok (.enter f args) W) (B : Nat) (v : Value) (l : List (Array Value)) (w : World)
    (ho : w.ownsRow B 35 18 v l.length (l.flatMap Array.toList)) (hax : ∀ x ∈ l, AskG x) (hok : ∀ x ∈ l, ok x) (hc : Caps w cs) (hl : l.length ≤ 1000) :
    Calls Try.prog 35 #[v, .func (.func f) #[] caps] w (DelPost B v l so w) := by
  obtain ⟨A, c, rfl⟩ := own_slice ho
  go_enter Try.func35, Try.ntmps35
  go_wp2_with fail
  refine (index_any hsays hcall B c A l _ ho hax hok hc hl).mono ?_
  rintro e w1 ⟨k, hk, hno, hyes, rfl, hB1⟩
  have ho1 := own_only ho (Only.of_below hB1 (fun _ => False)) (fun _ _ hf => hf)
  have hfp := first_part hno
  have hO1 : Only (fun i => (Value.slice A l.length c).ownBlock = some i) w w1 := Only.of_below hB1 _
  by_cases hlt : k < l.length
  · rw [if_pos hlt]
    have hyes' := hyes hlt
    have HO := Lib.hid ho
    obtain ⟨rb, cap, hA, _, _⟩ := ho.form (by omega)
    injection hA with hA _ hcc
    subst hA hcc
    have hcn := row_le_cap ho1
    have hsn := filter_snoc l (fun x => !so x) k hlt
    rw [hyes', hfp] at hsn
    have HFP : Hid (l.take k = (l.take (k + 1)).filter (fun x => !so x)) := by show _ = _; rw [hsn]; simp
    clear hno hyes hyes' hfp hsn ho
    have hkm : ((k : Int) == -1) = false := by simp
    go_wp2
    go_loopw [5, 6] (fun iv jv wr => ∃ i j : Nat, i < j ∧ j ≤ l.length ∧ iv = .int .i64 (i : Int) ∧ jv = .int .i64 (j : Int) ∧ DelRel B rb l.length c l so w i j wr) (fun _ jv _ => l.length - (intOf jv).toNat)
    case atStart => exact ⟨k, k + 1, by omega, by omega, by go_num, by go_num, l, rfl, hax, HFP.out, rfl, ho1, hO1⟩
    case round =>
      obtain ⟨i, j, hij, hj, rfl, rfl, L, hL, hLx, hti, hdj, hown, hO⟩ := hrel
      have hcw : Caps wr cs := fun p hp => (hc p hp).only hO (fun hf => own_blk_ne HO.out (hc p hp) (by decide) hf)
      have HTI := Lib.hid hti
      have HDJ := Lib.hid hdj
      clear hti hdj
      by_cases hlt2 : j < l.length
      · have hrange := row_range hown hLx (k := j) (by omega) (Below.refl _ _)
        have hx := hax _ (List.getElem_mem hlt2)
        have hokx := hok _ (List.getElem_mem hlt2)
        have HSN := Lib.hid (filter_snoc l (fun x => !so x) j hlt2)
        have hLj : L[j]'(by omega) = l[j] := by
          have h := congrArg (fun y => y[0]?) HDJ.out
          simp only [List.getElem?_drop, Nat.add_zero] at h
          rw [List.getElem?_eq_getElem (show j < L.length by omega), List.getElem?_eq_getElem hlt2] at h
          injection h
        rw [hLj] at hrange
        obtain ⟨x, hx'⟩ : ∃ x, l[j] = x := ⟨_, rfl⟩
        rw [hx'] at hrange hx hokx HSN
        have hdj1 : Hid (L.drop (j + 1) = l.drop (j + 1)) := by
          have h := congrArg List.tail HDJ.out
          rw [List.tail_drop, List.tail_drop] at h
          exact h
        clear hx' hLj
        have hzz := heap_alloc_new wr (.cells zeroA 35)
        have hxx := heap_alloc_new wr (.cells x 35)
        have hset := World.setRow_alloc_new wr zeroA x 35
        unfold zeroA at hset
        have bi0 : (0 : Int) ≤ (i : Int) := by omega
        have bi1 : (i : Int) < (l.length : Int) := by omega
        have bi2 : (0 : Int) ≤ (j : Int) := by omega
        have bi3 : (j : Int) < (l.length : Int) := by omega
        have hBA := (Below.refl wr.heap.size wr).alloc (Nat.le_refl _) (.cells x 35)
        go_wp2_with (first
          | refine wpList_load_mid rfl 35 _ rfl rb (j * 18) rfl x.toList _ hrange Try.underlying35 rfl hx.infoL ?_
          | (refine wpList_store_row rfl 35 _ _ rfl wr.heap.size x rfl rfl 35 zeroA hzz hx.info hx.size.symm hx.one ?_; rw [hset])
          | refine wpList_load_row rfl 35 _ rfl wr.heap.size rfl 35 x _ _ hxx Try.underlying35 rfl hx.info ?_)
        refine (hsays _ x hx hokx (caps_below hcw hBA)).mono ?_
        rintro e w2 ⟨rfl, hB2⟩
        have hx2 : Blk w2 wr.heap.size 35 x := (Blk.new wr _ x).below hB2 (by simp)
        have hown2 := own_only (own_only hown (Only.of_below hBA (fun _ => False)) (fun _ _ hf => hf)) (Only.of_below hB2 (fun _ => False)) (fun _ _ hf => hf)
        have hO2 := (hO.trans (Only.of_below hBA (fun _ => False)) (fun _ _ hf => hf.elim)).trans (Only.of_below hB2 (fun _ => False)) (fun _ _ hf => hf.elim)
        clear hzz hxx hset hrange hown hO hBA hB2
        cases hso : so x
        · rw [hso] at HSN
          have hthere : w2.there rb (i * 18) x.size := fun r hr => by
            rw [hx.size] at hr
            have hcell := hown2.cellAt (i * 18 + r) (by omega)
            have hlen := flat_len L hLx
            refine ⟨?_, hown2.frozenAt _⟩
            rw [hcell, List.getElem?_eq_getElem (by omega)]
            rfl
          go_wp2_with (first
            | refine wpList_load_row rfl 35 _ rfl wr.heap.size rfl 35 x _ _ hx2 Try.underlying35 rfl hx.info ?_
            | refine wpList_store_mid rfl 35 _ _ rfl rb (i * 18) x rfl rfl hthere hx.info hx.one ?_)
          go_roundw
          case rel =>
            refine ⟨i + 1, j + 1, by omega, by omega, by go_num, by go_num, L.set i x, by rw [List.length_set]; exact hL, fun y hy => ?_, ?_, ?_, ?_, ?_⟩
            · rcases List.mem_or_eq_of_mem_set hy with hy | rfl
              · exact hLx y hy
              · exact hx
            · rw [HSN.out, List.take_add_one, List.take_set_of_le (Nat.le_refl i), HTI.out, List.getElem?_set_self (by omega)]; rfl
            · rw [List.drop_set_of_lt (by omega)]; exact hdj1.out
            · rw [← flat_set L hLx i (by omega) x hx]; exact own_setCells _ _ _ _ hown2
            · exact only_setCells (S := fun i => (Value.slice (some ⟨rb, 0, none⟩) l.length c).ownBlock = some i) rfl _ _ _ hO2
          case measure => simp [intOf]; omega
        · rw [hso] at HSN
          go_wp2
          go_roundw
          case rel => exact ⟨i, j + 1, by omega, by omega, by go_num, by go_num, L, hL, hLx, by rw [HSN.out, HTI.out]; simp, hdj1.out, hown2, hO2⟩
          case measure => simp [intOf]; omega
      · obtain rfl : j = l.length := by omega
        have hti := HTI.out
        rw [List.take_length] at hti
        have hcell : ∀ r, r < (l.length - i) * 18 → (wr.cell? ⟨rb, i * 18 + r, none⟩).isSome = true := fun r hr => by
          have hlen := flat_len L hLx
          rw [hown.cellAt (i * 18 + r) (by omega), List.getElem?_eq_getElem (by omega)]
          rfl
        have hfz : ∀ r, r < (l.length - i) * 18 → wr.frozen? ⟨rb, i * 18 + r, none⟩ = false := fun r _ => hown.frozenAt _
        have hil : (l.filter fun x => !so x).length = i := by rw [← hti, List.length_take]; omega
        have bi0 : (0 : Int) ≤ (i : Int) := by omega
        have bi1 : (i : Int) < (l.length : Int) := by omega
        have bi2 : (i : Int) ≤ (c : Int) := by omega
        go_wp2_with (refine wpList_clear rfl _ 45 35 rfl Try.underlying45 Try.zeroAsk (zeros_one (l.length - i)) rb (i * 18) (c - i) ((l.length - i) * 18) (by omega) (zeros_length _) rfl hcell hfz ?_)
        go_ret
        refine ⟨_, rfl, ?_, only_setCells (S := fun i => (Value.slice (some ⟨rb, 0, none⟩) l.length c).ownBlock = some i) rfl _ _ _ hO, rfl⟩
        have h := own_shrink (own_setCells (Builtin.zeroCells (Value.agg zeroA).cells (l.length - i)).toList (i * 18) _ wr hown) (show i ≤ l.length by omega)
        rw [flat_take L hLx i (by omega) _ (by rw [zeros_length, hL]; omega), hti] at h
        rw [hil]
        exact h
  · obtain rfl : k = l.length := by omega
    rw [if_neg hlt]
    rw [List.take_length] at hfp
    go_wp2
    go_ret
    exact ⟨_, rfl, by rw [hfp]; exact ho1, hO1, rfl⟩
end Go.Proofs.Ytigjipjkollohaa.G
