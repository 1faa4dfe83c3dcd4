/-
  The contract of those: the askers that are so.
-/
import Derived.Test.YtigjipjkollohaaClientTab
import Derived.Deep.WholeRow
namespace Go.Proofs.Ytigjipjkollohaa
open Go.RowKit

theorem flat_len : ∀ l : List (Array Value), (∀ x ∈ l, AskX x) → (l.flatMap Array.toList).length = l.length * 18
  | [], _ => rfl
  | x :: r, h => by
    have h1 := (h x (by simp)).size
    have h2 := flat_len r (fun y hy => h y (by simp [hy]))
    rw [List.flatMap_cons, List.length_append, h2, Array.length_toList, h1, List.length_cons]
    omega
theorem flat_at : ∀ (l : List (Array Value)) (k j : Nat), (∀ x ∈ l, AskX x) → (hk : k < l.length) → j < 18 → (l.flatMap Array.toList)[k * 18 + j]? = l[k][j]?
  | x :: r, 0, j, h, _, hj => by
    have h1 := (h x (by simp)).size
    rw [List.flatMap_cons, Nat.zero_mul, Nat.zero_add, List.getElem?_append_left (by rw [Array.length_toList]; omega), Array.getElem?_toList]
    rfl
  | x :: r, k + 1, j, h, hk, hj => by
    have h1 := (h x (by simp)).size
    rw [List.flatMap_cons, List.getElem?_append_right (by rw [Array.length_toList]; omega), Array.length_toList, h1, show (k + 1) * 18 + j - 18 = k * 18 + j by omega,
      flat_at r k j (fun y hy => h y (by simp [hy])) (by simpa using hk) hj]
    rfl
/-- An asker in the table's row. -/
theorem row_range {w w' : World} {B n c rb : Nat} {l : List (Array Value)} (ho : w.ownsRow B 35 18 (.slice (some ⟨rb, 0, none⟩) n c) n (l.flatMap Array.toList)) (hl : ∀ x ∈ l, AskX x) {k : Nat} (hk : k < l.length)
    (hb : Below w.heap.size w w') : w'.rangeAt rb (k * 18) l[k].toList := by
  have hsz := (hl _ (List.getElem_mem hk)).size
  have hlen := flat_len l hl
  intro j u hu
  have hj : j < 18 := by
    have := (List.getElem?_eq_some_iff.1 hu).1
    rw [Array.length_toList] at this; omega
  have hu2 : (l.flatMap Array.toList)[k * 18 + j]? = some u := by rw [flat_at l k j hl hk hj, ← Array.getElem?_toList]; exact hu
  rw [hb.cell (by show rb < _; exact (ho.lt rb rfl).2), ho.cellAt _ (by rw [← ho.1]; exact (List.getElem?_eq_some_iff.1 hu2).1)]
  exact hu2
theorem one_all {x : Array Value} (h : AskX x) : ∀ u ∈ x.toList, u.oneCell' = true := fun u hu => (Array.all_eq_true_iff_forall_mem.1 h.one) u (by simpa using hu)
theorem AskX.infoL {x : Array Value} (h : AskX x) : (Try.prog.info? 35).map (·.size) = some x.toList.length := by rw [Array.length_toList]; exact h.info

theorem array18 {x : Array Value} (h : x.size = 18) : ∃ a b c d e f g i j k m n o p q r s t, x = #[a, b, c, d, e, f, g, i, j, k, m, n, o, p, q, r, s, t] := by
  obtain ⟨l⟩ := x
  match l, h with
  | [a, b, c, d, e, f, g, i, j, k, m, n, o, p, q, r, s, t], _ => exact ⟨a, b, c, d, e, f, g, i, j, k, m, n, o, p, q, r, s, t, rfl⟩
theorem fold_ask {x : Array Value} (h : AskX x) : Array.foldl (fun (cs : Array Value) (p : Value × Nat) => cs.setIfInBounds p.snd p.fst) #[.int .i64 0, .int .i64 0, .int .i64 0, .int .i64 0, .int .i64 0, .bool false, .int .i64 0, .bool false, .bool false, .bool false, .bool false, .int .i64 0, .slice none 0 0, .slice none 0 0, .slice none 0 0, .slice none 0 0, .bool false, .int .i64 0] x.zipIdx 0 x.size = x := by
  obtain ⟨a, b, c, d, e, f, g, i, j, k, m, n, o, p, q, r, s, t, rfl⟩ := array18 h.size
  kernel_rfl
theorem reads_ask {x : Array Value} (h : AskX x) (w : World) : Reads (w.alloc (.cells x 35)) (w.alloc (.cells x 35)).heap.size 18 (some ⟨w.heap.size, 0, none⟩) 1 x.toList := by
  refine ⟨by rw [Array.length_toList, h.size], fun _ => ⟨_, rfl, by simp, fun j u hu => ?_⟩⟩
  have : (⟨w.heap.size, 0, none⟩ : Addr).add j = ⟨w.heap.size, j, none⟩ := by unfold Addr.add; split <;> simp_all
  rw [this, (Blk.new w 35 x).cell j, ← Array.getElem?_toList]
  exact hu
def ThosePost (l : List (Array Value)) (so : Array Value → Bool) (w : World) (e : Ending) (w' : World) : Prop :=
  ∃ vo, e = .returned vo ∧ w'.ownsRow w.heap.size 35 18 vo (l.filter so).length ((l.filter so).flatMap Array.toList) ∧ Below w.heap.size w w'
def ThoseRel (l : List (Array Value)) (so : Array Value → Bool) (w : World) (k : Nat) (v : Value) (wr : World) : Prop :=
  wr.ownsRow w.heap.size 35 18 v ((l.take k).filter so).length (((l.take k).filter so).flatMap Array.toList) ∧ Below w.heap.size w wr
theorem filter_snoc (l : List (Array Value)) (so : Array Value → Bool) (k : Nat) (h : k < l.length) : (l.take (k + 1)).filter so = (l.take k).filter so ++ (if so l[k] then [l[k]] else []) := by
  rw [List.take_add_one, List.getElem?_eq_getElem h, List.filter_append]
  simp [List.filter_cons]
theorem caps_below {w w' : World} {cs : List (Nat × Int)} (h : Caps w cs) (hb : Below w.heap.size w w') : Caps w' cs := fun p hp => (h p hp).below hb (h p hp).lt
theorem Try.infoAsk : (Try.prog.info? 35).map (fun i => (i.zero, i.size, i.bytes)) = some (some (.agg zeroA), 18, 184) := by kernel_rfl

set_option maxRecDepth 200000 in
set_option maxHeartbeats 4000000 in
theorem those_any {f : FuncId} {caps : Array Value} {so : Array Value → Bool} {ok : Array Value → Prop} {cs : List (Nat × Int)} (hsays : Says f caps so ok cs) (B g : Nat) (most : Int) (v : Value) (l : List (Array Value)) (w : World)
    (hcall : ∀ (args : Array Value) (W : World), (callFunc f args).run Try.prog W = .ok (.enter f args) W) (h : TAt B w g most v l) (hok : ∀ x ∈ l, ok x) (hc : Caps w cs) (hl : l.length ≤ 1000) :
    Calls Try.prog 25 #[.pointer (some ⟨g, 0, none⟩), .func (.func f) #[] caps] w (ThosePost l so w) := by
  obtain ⟨hb, ho, hax⟩ := h
  obtain ⟨A, c, rfl⟩ := own_slice ho
  obtain ⟨i0, hi, hz0, hz1, hz2⟩ := info_parts Try.infoAsk
  have hc1 : w.cell? ⟨g, 1, none⟩ = some (.slice A l.length c) := hb.cell 1
  go_enter Try.func25, Try.ntmps25
  go_wp2
  clear hc1
  go_loopw [4, 14] (fun vo i wr => ∃ k : Nat, k ≤ l.length ∧ i = .int .i64 (k : Int) ∧ ThoseRel l so w k vo wr) (fun _ i _ => l.length - (intOf i).toNat)
  case atStart => exact ⟨0, by omega, rfl, World.ownsRow_nil _ _ _ _, Below.refl _ _⟩
  case round =>
    obtain ⟨k, hk, rfl, hown, hB⟩ := hrel
    by_cases hlt : k < l.length
    · obtain ⟨rb, cap, hA, _, _⟩ := ho.form (by omega)
      injection hA with hA _ hcc
      subst hA hcc
      have hrange := row_range ho hax hlt hB
      have hx := hax _ (List.getElem_mem hlt)
      have hokx := hok _ (List.getElem_mem hlt)
      have HSN := Lib.hid (filter_snoc l so k hlt)
      obtain ⟨A5, c5, rfl⟩ := own_slice hown
      obtain ⟨x, hx'⟩ : ∃ x, l[k] = x := ⟨_, rfl⟩
      rw [hx'] at hrange hx hokx HSN
      clear hx'
      have hzz := heap_alloc_new wr (.cells zeroA 35)
      have hxx := heap_alloc_new wr (.cells x 35)
      have hset := World.setRow_alloc_new wr zeroA x 35
      unfold zeroA at hset
      have bi0 : (0 : Int) ≤ (k : Int) := by omega
      have bi1 : (k : Int) < (l.length : Int) := by omega
      go_wp2_with (first
        | refine wpList_load_mid rfl 35 _ rfl rb (k * 18) rfl x.toList _ hrange Try.underlying35 rfl hx.infoL ?_
        | (refine wpList_store_row rfl 35 _ _ rfl wr.heap.size x rfl rfl 35 zeroA hzz hx.info hx.size.symm hx.one ?_; rw [hset])
        | refine wpList_load_row rfl 35 _ rfl wr.heap.size rfl 35 x _ _ hxx Try.underlying35 rfl hx.info ?_)
      refine (hsays _ x hx hokx (caps_below hc (hB.alloc hB.size _))).mono ?_
      rintro e w2 ⟨rfl, hB2⟩
      have hx2 : Blk w2 wr.heap.size 35 x := (Blk.new wr _ x).below hB2 (by simp)
      have hBw2 := (hB.alloc hB.size (.cells x 35)).trans (hB2.mono (by have := hB.size; simp; omega))
      have hown2 := own_only hown (Only.of_below ((Below.refl wr.heap.size wr).alloc (Nat.le_refl _) (.cells x 35)) (fun _ => False)) (fun _ _ hf => hf)
      have hown3 := own_only hown2 (Only.of_below hB2 (fun _ => False)) (fun _ _ hf => hf)
      clear hzz hxx hset hrange hown hown2 hB2
      cases hso : so x
      · rw [hso] at HSN
        go_wp2
        go_roundw
        case rel => exact ⟨k + 1, by omega, by go_num, by rw [HSN.out]; simpa using hown3, hBw2⟩
        case measure => simp [intOf]; omega
      · rw [hso] at HSN
        go_wp2_with (first | refine wpList_load_row rfl 35 _ rfl wr.heap.size rfl 35 x _ _ hx2 Try.underlying35 rfl hx.info ?_)
        refine (own_nil x hx _).mono ?_
        rintro e w4 ⟨rfl, hB4⟩
        have hBw4 := hBw2.trans (hB4.mono hBw2.size)
        have hown4 := own_only hown3 (Only.of_below hB4 (fun _ => False)) (fun _ _ hf => hf)
        have hownA := own_only hown4 (Only.of_below ((Below.refl w4.heap.size w4).alloc (Nat.le_refl _) (.cells x 35)) (fun _ => False)) (fun _ _ hf => hf)
        have hr := reads_ask hx w4
        have hle : ((l.take k).filter so).length ≤ k := Nat.le_trans (List.length_filter_le _ _) (by rw [List.length_take]; omega)
        clear hown3 hown4 hB4 hx2
        have hfold := fold_ask hx
        have hsz := hx.size
        rw [hsz] at hfold
        go_wp2_with (at_builtin; refine wpList_append_any _ rfl _ _ 45 rfl w.heap.size 35 i0 (.agg zeroA) 18 184 Try.underlying45 hi hz0 hz1 hz2 rfl (by decide) _ _ _ rfl hownA _ _ _ _ _ rfl hr (one_all hx) ?c6 ?c7 ?c8 ?_)
        case c6 => unfold maxLen; omega
        case c7 => omega
        case c8 => have := hBw4.size; simp; omega
        intro v' w5 hown5 hgr5 _
        have hBw5 := (hBw4.alloc hBw4.size (.cells x 35)).grown hgr5 (by have := hBw4.size; simp; omega) (fun j hj => (hownA.lt j hj).1)
        obtain ⟨A6, c6, rfl⟩ := own_slice hown5
        clear hownA hgr5 hr hfold hsz
        go_wp2
        go_roundw
        case rel => exact ⟨k + 1, by omega, by go_num, by rw [HSN.out]; simpa using hown5, hBw5⟩
        case measure => simp [intOf]; omega
    · obtain rfl : k = l.length := by omega
      rw [List.take_length] at hown
      obtain ⟨A5, c5, rfl⟩ := own_slice hown
      go_wp2
      go_ret
      exact ⟨_, rfl, hown, hB⟩
end Go.Proofs.Ytigjipjkollohaa
