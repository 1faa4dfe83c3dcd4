/-
  The contract of those: the askers that are so.
-/
import Derived.Test.YtigjipjkollohaaGTab
import Derived.Deep.WholeRow
namespace Go.Proofs.Ytigjipjkollohaa.G
open Go.RowKit

theorem flat_len : ∀ l : List (Array Value), (∀ x ∈ l, AskG x) → (l.flatMap Array.toList).length = l.length * 18
  | [], _ => rfl
  | x :: r, h => by
    have h1 := (h x (by simp)).size
    have h2 := flat_len r (fun y hy => h y (by simp [hy]))
    rw [List.flatMap_cons, List.length_append, h2, Array.length_toList, h1, List.length_cons]
    omega
theorem flat_at : ∀ (l : List (Array Value)) (k j : Nat), (∀ x ∈ l, AskG x) → (hk : k < l.length) → j < 18 → (l.flatMap Array.toList)[k * 18 + j]? = l[k][j]?
  | x :: r, 0, j, h, _, hj => by
    have h1 := (h x (by simp)).size
    rw [List.flatMap_cons, Nat.zero_mul, Nat.zero_add, List.getElem?_append_left (by rw [Array.length_toList]; omega), Array.getElem?_toList]
    rfl
  | x :: r, k + 1, j, h, hk, hj => by
    have h1 := (h x (by simp)).size
    rw [List.flatMap_cons, List.getElem?_append_right (by rw [Array.length_toList]; omega), Array.length_toList, h1, show (k + 1) * 18 + j - 18 = k * 18 + j by omega,
      flat_at r k j (fun y hy => h y (by simp [hy])) (by simpa using hk) hj]
    rfl
/-- An asker in the table's row. -/
theorem row_range {w w' : World} {B n c rb : Nat} {l : List (Array Value)} (ho : w.ownsRow B 35 18 (.slice (some ⟨rb, 0, none⟩) n c) n (l.flatMap Array.toList)) (hl : ∀ x ∈ l, AskG x) {k : Nat} (hk : k < l.length)
    (hb : Below w.heap.size w w') : w'.rangeAt rb (k * 18) l[k].toList := by
  have hsz := (hl _ (List.getElem_mem hk)).size
  have hlen := flat_len l hl
  intro j u hu
  have hj : j < 18 := by
    have := (List.getElem?_eq_some_iff.1 hu).1
    rw [Array.length_toList] at this; omega
  have hu2 : (l.flatMap Array.toList)[k * 18 + j]? = some u := by rw [flat_at l k j hl hk hj, ← Array.getElem?_toList]; exact hu
  rw [hb.cell (by show rb < _; exact (ho.lt rb rfl).2), ho.cellAt _ (by rw [← ho.1]; exact (List.getElem?_eq_some_iff.1 hu2).1)]
  exact hu2
theorem one_all {x : Array Value} (h : AskG x) : ∀ u ∈ x.toList, u.oneCell' = true := fun u hu => (Array.all_eq_true_iff_forall_mem.1 h.one) u (by simpa using hu)
theorem AskG.infoL {x : Array Value} (h : AskG x) : (Try.prog.info? 35).map (·.size) = some x.toList.length := by rw [Array.length_toList]; exact h.info

theorem fold_ask {x : Array Value} (h : AskG x) : Array.foldl (fun (cs : Array Value) (p : Value × Nat) => cs.setIfInBounds p.snd p.fst) #[.int .i64 0, .int .i64 0, .int .i64 0, .int .i64 0, .int .i64 0, .bool false, .int .i64 0, .bool false, .bool false, .bool false, .bool false, .int .i64 0, .slice none 0 0, .slice none 0 0, .slice none 0 0, .slice none 0 0, .bool false, .int .i64 0] x.zipIdx 0 x.size = x := by
  obtain ⟨a, b, c, d, e, f, g, i, j, k, m, n, o, p, q, r, s, t, rfl⟩ := array18 h.size
  kernel_rfl
theorem reads_ask {x : Array Value} (h : AskG x) (w : World) : Reads (w.alloc (.cells x 35)) (w.alloc (.cells x 35)).heap.size 18 (some ⟨w.heap.size, 0, none⟩) 1 x.toList := by
  refine ⟨by rw [Array.length_toList, h.size], fun _ => ⟨_, rfl, by simp, fun j u hu => ?_⟩⟩
  have : (⟨w.heap.size, 0, none⟩ : Addr).add j = ⟨w.heap.size, j, none⟩ := by unfold Addr.add; split <;> simp_all
  rw [this, (Blk.new w 35 x).cell j, ← Array.getElem?_toList]
  exact hu
theorem filter_snoc {α : Type} (l : List α) (so : α → Bool) (k : Nat) (h : k < l.length) : (l.take (k + 1)).filter so = (l.take k).filter so ++ (if so l[k] then [l[k]] else []) := by
  rw [List.take_add_one, List.getElem?_eq_getElem h, List.filter_append]
  simp [List.filter_cons]
def ThosePost (l : List Pr) (so : Array Value → Bool) (w : World) (e : Ending) (w' : World) : Prop :=
  ∃ vo l', e = .returned vo ∧ RowAt w.heap.size w' vo l' ∧ says l' = says (l.filter fun p => so p.1) ∧ Below w.heap.size w w'
def ThoseRel (l : List Pr) (so : Array Value → Bool) (w : World) (k : Nat) (v : Value) (wr : World) : Prop :=
  ∃ l', RowAt w.heap.size wr v l' ∧ says l' = says ((l.take k).filter fun p => so p.1) ∧ Below w.heap.size w wr
theorem says_le {l l' : List Pr} {so : Pr → Bool} {k : Nat} (h : says l' = says ((l.take k).filter so)) : l'.length ≤ k := by
  have h1 := congrArg List.length h
  rw [says_length, says_length] at h1
  have h2 := List.length_filter_le so (l.take k)
  rw [List.length_take] at h2
  omega
theorem row_grown {w w' : World} {B : Nat} {v v' : Value} {l : List Pr} {x : Array Value} {M : AskD} (hg : ∀ p ∈ l, Good B w p) (hx : Good B w (x, M)) (hown : w.ownsRow B 35 18 v l.length ((rows l).flatMap Array.toList))
    (h : w'.ownsRow B 35 18 v' (l.length + 1) ((rows l).flatMap Array.toList ++ x.toList)) (hgr : w.grownBy w' v.ownBlock) : RowAt B w' v' (l ++ [(x, M)]) := by
  have hO : Only (fun i => v.ownBlock = some i) w w' := (Only.refl _ _).grown hgr (fun i hi => Or.inl hi)
  have hal : ∀ k, k < w.heap.size → v.ownBlock = some k → Alien w k := fun k _ hk => alien_row hown (by decide) (by decide) hk
  refine ⟨?_, fun p hp => ?_⟩
  · rw [rows_app, List.length_append]
    simpa [rows] using h
  · rcases List.mem_append.1 hp with hp | hp
    · exact (hg p hp).only hO hal
    · rw [List.mem_singleton] at hp
      subst hp
      exact hx.only hO hal

set_option maxRecDepth 200000 in
set_option maxHeartbeats 4000000 in
theorem those_any {f : FuncId} {caps : Array Value} {so : Array Value → Bool} {ok : Array Value → Prop} {cs : List (Nat × Int)} (hsays : Says f caps so ok cs) (B g : Nat) (most : Int) (v : Value) (l : List Pr) (w : World)
    (hcall : ∀ (args : Array Value) (W : World), (callFunc f args).run Try.prog W = .ok (.enter f args) W) (h : TAt B w g most v l) (hok : ∀ x ∈ rows l, ok x) (hc : Caps w cs) (hl : l.length ≤ 1000) :
    Calls Try.prog 25 #[.pointer (some ⟨g, 0, none⟩), .func (.func f) #[] caps] w (ThosePost l so w) := by
  obtain ⟨hb, ho, hgd⟩ := h
  obtain ⟨A, c, rfl⟩ := own_slice ho
  have hax := rows_g hgd
  obtain ⟨i0, hi, hz0, hz1, hz2⟩ := info_parts Try.infoAsk
  have hc1 : w.cell? ⟨g, 1, none⟩ = some (.slice A l.length c) := hb.cell 1
  go_enter Try.func25, Try.ntmps25
  go_wp2
  clear hc1
  go_loopw [4, 14] (fun vo i wr => ∃ k : Nat, k ≤ l.length ∧ i = .int .i64 (k : Int) ∧ ThoseRel l so w k vo wr) (fun _ i _ => l.length - (intOf i).toNat)
  case atStart => exact ⟨0, by omega, rfl, [], ⟨World.ownsRow_nil _ _ _ _, fun p hp => by cases hp⟩, rfl, Below.refl _ _⟩
  case round =>
    obtain ⟨k, hk, rfl, l', ⟨hown, hgl⟩, hsy, hB⟩ := hrel
    have HGL := Lib.hid hgl
    have HSY := Lib.hid hsy
    have hle := says_le hsy
    clear hgl hsy
    by_cases hlt : k < l.length
    · obtain ⟨rb, cap, hA, _, _⟩ := ho.form (by omega)
      injection hA with hA _ hcc
      subst hA hcc
      have hrange := row_range ho hax (k := k) (by rw [rows_length]; exact hlt) hB
      rw [rows_at hlt] at hrange
      have hxg := hgd _ (List.getElem_mem hlt)
      have hokx := hok l[k].1 (List.mem_map.2 ⟨_, List.getElem_mem hlt, rfl⟩)
      have HSN := Lib.hid (filter_snoc l (fun p => so p.1) k hlt)
      obtain ⟨A5, c5, rfl⟩ := own_slice hown
      obtain ⟨p, hp'⟩ : ∃ p, l[k] = p := ⟨_, rfl⟩
      rw [hp'] at hrange hxg hokx HSN
      clear hp'
      obtain ⟨x, M⟩ := p
      obtain ⟨hx, hsc, hoa, hmo⟩ := hxg
      simp only at hrange hokx hx hsc hoa hmo
      have HOA := Lib.hid hoa
      have HSC := Lib.hid hsc
      have HMO := Lib.hid hmo
      clear hoa hsc hmo
      have hzz := heap_alloc_new wr (.cells zeroA 35)
      have hxx := heap_alloc_new wr (.cells x 35)
      have hset := World.setRow_alloc_new wr zeroA x 35
      unfold zeroA at hset
      have bi0 : (0 : Int) ≤ (k : Int) := by omega
      have bi1 : (k : Int) < (l.length : Int) := by omega
      go_wp2_with (first
        | refine wpList_load_mid rfl 35 _ rfl rb (k * 18) rfl x.toList _ hrange Try.underlying35 rfl hx.infoL ?_
        | (refine wpList_store_row rfl 35 _ _ rfl wr.heap.size x rfl rfl 35 zeroA hzz hx.info hx.size.symm hx.one ?_; rw [hset])
        | refine wpList_load_row rfl 35 _ rfl wr.heap.size rfl 35 x _ _ hxx Try.underlying35 rfl hx.info ?_)
      refine (hsays _ x hx hokx (caps_below hc (hB.alloc hB.size _))).mono ?_
      rintro e w2 ⟨rfl, hB2⟩
      have hx2 : Blk w2 wr.heap.size 35 x := (Blk.new wr _ x).below hB2 (by simp)
      have hBA : Below wr.heap.size wr (wr.alloc (.cells x 35)) := (Below.refl wr.heap.size wr).alloc (Nat.le_refl _) (.cells x 35)
      have hBr2 : Below wr.heap.size wr w2 := hBA.trans (hB2.mono (by simp))
      have hBw2 := hB.trans (hBr2.mono hB.size)
      have hown3 := own_stays2 hown hBr2
      have HGL3 : Hid (∀ p ∈ l', Good w.heap.size w2 p) := Lib.hid fun p hp => (HGL.out p hp).below hBr2
      clear hzz hxx hset hrange hown hB2 hBA
      cases hso : so x
      · rw [hso] at HSN
        go_wp2
        go_roundw
        case rel => exact ⟨k + 1, by omega, by go_num, l', ⟨hown3, HGL3.out⟩, by rw [HSN.out, HSY.out]; simp, hBw2⟩
        case measure => simp [intOf]; omega
      · rw [hso] at HSN
        go_wp2_with (first | refine wpList_load_row rfl 35 _ rfl wr.heap.size rfl 35 x _ _ hx2 Try.underlying35 rfl hx.info ?_)
        refine (own_any x M _ hx HSC.out ((HOA.out.in_.below hBw2).more hBw2.size) HMO.out).mono ?_
        rintro e w4 ⟨x', rfl, hx', hsc', hoa', hB4⟩
        have HSC' := Lib.hid hsc'
        have hBw4 := hBw2.trans (hB4.mono hBw2.size)
        have hBA4 : Below w4.heap.size w4 (w4.alloc (.cells x' 35)) := (Below.refl w4.heap.size w4).alloc (Nat.le_refl _) (.cells x' 35)
        have hBA2 := hB4.trans (hBA4.mono hB4.size)
        have hownA := own_stays2 hown3 hBA2
        have HGLA : Hid (∀ p ∈ l', Good w.heap.size (w4.alloc (.cells x' 35)) p) := Lib.hid fun p hp => (HGL3.out p hp).below hBA2
        have HXA : Hid (Good w.heap.size (w4.alloc (.cells x' 35)) (x', M)) := Lib.hid ⟨hx', hsc', (hoa'.mono hBw2.size).below hBA4, HMO.out⟩
        have hr := reads_ask hx' w4
        clear hown3 hB4 hx2 hsc' hoa' hBA2 hBA4
        have hfold := fold_ask hx'
        have hsz := hx'.size
        rw [hsz] at hfold
        go_wp2_with (at_builtin; refine wpList_append_any _ rfl _ _ 45 rfl w.heap.size 35 i0 (.agg zeroA) 18 184 Try.underlying45 hi hz0 hz1 hz2 rfl (by decide) _ _ _ rfl hownA _ _ _ _ _ rfl hr (one_all hx') ?c6 ?c7 ?c8 ?_)
        case c6 => unfold maxLen; omega
        case c7 => omega
        case c8 => have := hBw4.size; simp; omega
        intro v' w5 hown5 hgr5 _
        have hBw5 := (hBw4.alloc hBw4.size (.cells x' 35)).grown hgr5 (by have := hBw4.size; simp; omega) (fun j hj => (hownA.lt j hj).1)
        have hrow := row_grown HGLA.out HXA.out hownA hown5 hgr5
        obtain ⟨A6, c6, rfl⟩ := own_slice hown5
        have HROW := Lib.hid hrow
        clear hownA hgr5 hr hfold hsz hrow hown5
        go_wp2
        go_roundw
        case rel => exact ⟨k + 1, by omega, by go_num, l' ++ [(x', M)], HROW.out, by rw [HSN.out, says_app, says_app, HSY.out]; rfl, hBw5⟩
        case measure => simp [intOf]; omega
    · obtain rfl : k = l.length := by omega
      have hsy := HSY.out
      rw [List.take_length] at hsy
      obtain ⟨A5, c5, rfl⟩ := own_slice hown
      go_wp2
      go_ret
      exact ⟨_, l', rfl, ⟨hown, HGL.out⟩, hsy, hB⟩
end Go.Proofs.Ytigjipjkollohaa.G
