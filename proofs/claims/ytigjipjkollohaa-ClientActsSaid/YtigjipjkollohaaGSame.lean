/-
  The contract of the law's same: two rows that say the same are alike.
-/
import Derived.Test.YtigjipjkollohaaGMessage
import Derived.Deep.DeepCutAuto
namespace Go.Proofs.Ytigjipjkollohaa.G
open Go.RowKit

theorem wp_store_whole {P : Program} {op : Oper} {a : Act} {w : World} {K : Act → World → Prop} {Q : Exit → Act → World → Prop} (ty : TypeId) (x y : Operand) (ho : op.op = .store ty x y)
    (g : Nat) (cells : Array Value) (hx : a.eval x = .pointer (some ⟨g, 0, none⟩)) (hy : a.eval y = .agg cells) (t : TypeId) (old : Array Value) (hg : Blk w g t old)
    (hi : (P.info? ty).map (·.size) = some cells.size) (hs : old.size = cells.size) (h1 : cells.all (·.oneCell') = true)
    (h : K (a.put op.dst undef) (w.setRow g cells)) : op.wp P a w K Q := by
  unfold Oper.wp execOp
  simp only [ho, hx, hy, Instr.storeAt, Instr.sureAddr, Sem.run_bind, Sem.run_pure, Result.andThen_ok, run_storeVar_row w g t ty old cells hg hi hs h1]
  exact h
/-- A load under a guard that holds. -/
theorem wpList_load_guard {P : Program} {ops : Array Oper} {rest : List Oper} {op : Oper} {a : Act} {w : World} {Q : Exit → Act → World → Prop} (hgd : Region.wanted op (yielded ops a.tmps) = true) (ty : TypeId) (x : Operand) (ho : op.op = .load ty x)
    (b o : Nat) (hx : a.eval x = .pointer (some ⟨b, o, none⟩)) (cs : List Value) (d : TypeDesc) (hc : w.rangeAt b o cs)
    (hu : P.underlying ty = some d) (hd : d.isRow = true) (hi : (P.info? ty).map (·.size) = some cs.length)
    (h : wpList P ops Q rest (a.put op.dst (.agg cs.toArray)) w) : wpList P ops Q (op :: rest) a w :=
  wpList_step fun K hK => by
    rw [if_pos hgd]
    exact wp_load_mid ty x ho b o hx cs d hc hu hd hi (hK _ _ h)
theorem range_below {w u : World} {b o : Nat} {cs : List Value} (h : w.rangeAt b o cs) (hb : b < w.heap.size) (hB : Below w.heap.size w u) : u.rangeAt b o cs := by
  intro j v hv
  rw [hB.cell hb]
  exact h j v hv
theorem below_set {B g : Nat} {w0 w : World} (hb : Below B w0 w) (h : B ≤ g) (cs : Array Value) : Below B w0 (w.setRow g cs) := below_row hb h cs
theorem says_at {l r : List Pr} (h : says l = says r) {k : Nat} (hk : k < l.length) (hk' : k < r.length) : l[k].2 = r[k].2 := by
  have h1 := congrArg (fun z => z[k]?) h
  simp only [says, List.getElem?_map, List.getElem?_eq_getElem hk, List.getElem?_eq_getElem hk', Option.map_some] at h1
  injection h1
/-- One of the reference's askers: its lists lie below B. -/
structure RGood (B : Nat) (w : World) (p : Pr) : Prop where
  g : AskG p.1
  sc : Scal p.1 p.2
  in_ : InAt B w p.1 p.2
  ok : p.2.Ok
theorem RGood.below {B : Nat} {w w' : World} {p : Pr} (h : RGood B w p) (hb : Below B w w') : RGood B w' p := ⟨h.g, h.sc, h.in_.below hb, h.ok⟩
theorem RGood.more {B B' : Nat} {w : World} {p : Pr} (h : RGood B w p) (hb : B ≤ B') : RGood B' w p := ⟨h.g, h.sc, h.in_.more hb, h.ok⟩
theorem rrows_g {l : List Pr} {B : Nat} {w : World} (h : ∀ p ∈ l, RGood B w p) : ∀ x ∈ rows l, AskG x := by
  intro x hx
  obtain ⟨p, hp, rfl⟩ := List.mem_map.1 hx
  exact (h p hp).g
theorem Try.callFlat (args : Array Value) (w : World) : (callFunc 12 args).run Try.prog w = .ok (.enter 12 args) w := run_enter Try.func12 (by kernel_rfl) rfl args w
/-- Behind the two variables: both hold their asker. -/
def TwoVars (x y : Array Value) (w : World) (p6 p7 : Value) (wx : World) : Prop :=
  ∃ b6 b7, p6 = .pointer (some ⟨b6, 0, none⟩) ∧ p7 = .pointer (some ⟨b7, 0, none⟩) ∧ Blk wx b6 42 x ∧ Blk wx b7 42 y ∧ Below w.heap.size w wx

set_option maxRecDepth 200000 in
set_option maxHeartbeats 8000000 in
theorem same_any (B B' : Nat) (va vb : Value) (l r : List Pr) (w : World) (ha : RowAt B w va l) (hb : RRow B' w vb (rows r)) (hr : ∀ p ∈ r, RGood w.heap.size w p) (hs : says l = says r) (hl : l.length ≤ 1000) :
    Calls Try.prog 13 #[va, vb] w fun e w' => e = .returned (.bool true) ∧ Below w.heap.size w w' := by
  obtain ⟨ho, hgd⟩ := ha
  obtain ⟨A, c, rfl⟩ := own_slice ho
  have hlen : l.length = r.length := by rw [← says_length l, hs, says_length]
  unfold RRow at hb
  rw [rows_length] at hb
  obtain ⟨A', c', rfl⟩ := own_slice hb
  rw [← hlen] at hb ⊢
  have hag := rows_g hgd
  have hbg := rrows_g hr
  have HLEN := Lib.hid hlen
  clear hlen
  go_enter Try.func13, Try.ntmps13
  go_wp2
  go_loopw [5] (fun i wr => ∃ k : Nat, k ≤ l.length ∧ i = .int .i64 (k : Int) ∧ Below w.heap.size w wr) (fun i _ => l.length - (intOf i).toNat)
  case atStart => exact ⟨0, by omega, rfl, Below.refl _ _⟩
  case round =>
    obtain ⟨k, hk, rfl, hB⟩ := hrel
    by_cases hlt : k < l.length
    · obtain ⟨ra, cap, hA, _, hra⟩ := ho.form (by omega)
      injection hA with hA _ hcc
      subst hA hcc
      obtain ⟨rb, cap', hA', _, hrb⟩ := hb.form (by omega)
      injection hA' with hA' _ hcc'
      subst hA' hcc'
      have hlt' : k < r.length := by rw [← HLEN.out]; exact hlt
      have r1 := row_rangeT (w' := w) ho hag (k := k) (by rw [rows_length]; exact hlt) (fun p _ => rfl)
      rw [rows_at hlt] at r1
      have r2 := row_rangeT (w' := w) hb hbg (k := k) (by rw [rows_length]; exact hlt') (fun p _ => rfl)
      rw [rows_at hlt'] at r2
      have hxg := hgd _ (List.getElem_mem hlt)
      have hyg := hr _ (List.getElem_mem hlt')
      have hM := says_at hs hlt hlt'
      obtain ⟨p, hp⟩ : ∃ p, l[k] = p := ⟨_, rfl⟩
      obtain ⟨q, hq⟩ : ∃ q, r[k] = q := ⟨_, rfl⟩
      rw [hp] at r1 hxg hM
      rw [hq] at r2 hyg hM
      obtain ⟨x, M⟩ := p
      obtain ⟨y, M'⟩ := q
      obtain rfl : M = M' := hM
      obtain ⟨hx, hsx, hox, hm⟩ := hxg
      obtain ⟨hy, hsy, hoy, _⟩ := hyg
      simp only at r1 r2 hx hsx hox hm hy hsy hoy
      have HX := Lib.hid (msg_of hsx hox.in_)
      have HY := Lib.hid (msg_of hsy hoy)
      have HSX := Lib.hid hsx
      have HSY := Lib.hid hsy
      have HM := Lib.hid hm
      have hra1 := Nat.lt_of_lt_of_le hra hB.size
      have hrb1 := Nat.lt_of_lt_of_le hrb hB.size
      have k1 : wr.rangeAt ra (k * 18) x.toList := range_below r1 hra hB
      have k2 : wr.rangeAt rb (k * 18) y.toList := range_below r2 hrb hB
      clear hp hq hsx hsy hox hoy hm r1 r2 hra hrb
      have bi0 : (0 : Int) ≤ (k : Int) := by omega
      have bi1 : (k : Int) < (l.length : Int) := by omega
      go_wp2_with fail
      go_cut [6, 7] (fun p6 p7 wx => TwoVars x y wr p6 p7 wx)
      case first =>
        have D0 : Below wr.heap.size wr wr.drew := (Below.refl _ _).drew
        have S0 : wr.drew.rangeAt ra (k * 18) x.toList ∧ wr.drew.rangeAt rb (k * 18) y.toList := ⟨range_below k1 hra1 D0, range_below k2 hrb1 D0⟩
        obtain ⟨ud, hud⟩ : ∃ u, wr.drew = u := ⟨_, rfl⟩
        refine wp_region_gate (gate := [4, 12]) (S := fun w' => w'.rangeAt ra (k * 18) x.toList ∧ w'.rangeAt rb (k * 18) y.toList) (by kernel_rfl) ?_
        rw [hud] at D0 S0 ⊢
        clear hud
        have le0 := D0.size
        -- GEN
        refine wpAnyG_take (i := 0) (v := ?vv1) rfl (by decide) (by kernel_rfl) (by kernel_rfl) (by kernel_rfl) (fun _ _ _ h => h) (Or.inl ⟨by rfl, ?hy1⟩) (GateS.of S0) (fun _ => ?_)
        case hy1 => intro w; go_simp; try with_reducible rfl
        try simp only [List.getElem_toArray, List.getElem_cons_zero, Act.put, List.setIfInBounds_toArray, List.set_cons_zero, List.set_cons_succ]
        refine wpAnyG_take (i := 1) (v := ?vv2) rfl (by decide) (by kernel_rfl) (by kernel_rfl) (by kernel_rfl) (fun _ _ _ h => h) (Or.inl ⟨by rfl, ?hy2⟩) (GateS.of S0) (fun _ => ?_)
        case hy2 => intro w; go_simp; try with_reducible rfl
        try simp only [List.getElem_toArray, List.getElem_cons_zero, List.getElem_cons_succ, Act.put, List.setIfInBounds_toArray, List.set_cons_zero, List.set_cons_succ]
        refine wpAnyG_take (i := 2) (v := ?vv3) rfl (by decide) (by kernel_rfl) (by kernel_rfl) (by kernel_rfl) (fun _ _ _ h => h) (Or.inl ⟨by rfl, ?hy3⟩) (GateS.of S0) (fun _ => ?_)
        case hy3 => intro w; go_simp; try with_reducible rfl
        try simp only [List.getElem_toArray, List.getElem_cons_zero, List.getElem_cons_succ, Act.put, List.setIfInBounds_toArray, List.set_cons_zero, List.set_cons_succ]
        refine wpAnyG_load (i := 3) (c := 4) (v := .agg x) rfl (by decide) ⟨by decide, by kernel_rfl⟩ (by kernel_rfl) (by kernel_rfl) (by kernel_rfl) (by kernel_rfl) (fun _ _ _ h => h) (yieldsIf_load_mid (by rfl) 35 _ rfl ra (k * 18) rfl x.toList _ (fun w hSw => hSw.1) Try.underlying35 rfl (by rw [Array.length_toList]; exact hx.info)) (GateS.of S0) (fun _ => ?_)
        try simp only [List.getElem_toArray, List.getElem_cons_zero, List.getElem_cons_succ, Act.put, List.setIfInBounds_toArray, List.set_cons_zero, List.set_cons_succ]
        refine wpAnyG_take (i := 5) (v := ?vv4) rfl (by decide) (by kernel_rfl) (by kernel_rfl) (by kernel_rfl) (fun _ _ _ h => h) (Or.inl ⟨by rfl, ?hy4⟩) (GateS.of S0) (fun _ => ?_)
        case hy4 => intro w; go_simp; try with_reducible rfl
        try simp only [List.getElem_toArray, List.getElem_cons_zero, List.getElem_cons_succ, Act.put, List.setIfInBounds_toArray, List.set_cons_zero, List.set_cons_succ]
        refine wpAnyG_take (i := 6) (v := ?vv5) rfl (by decide) (by kernel_rfl) (by kernel_rfl) (by kernel_rfl) (fun _ _ _ h => h) (Or.inl ⟨by rfl, ?hy5⟩) (GateS.of S0) (fun _ => ?_)
        case hy5 => intro w; go_simp; try with_reducible rfl
        try simp only [List.getElem_toArray, List.getElem_cons_zero, List.getElem_cons_succ, Act.put, List.setIfInBounds_toArray, List.set_cons_zero, List.set_cons_succ]
        refine wpAnyG_take (i := 7) (v := ?vv6) rfl (by decide) (by kernel_rfl) (by kernel_rfl) (by kernel_rfl) (fun _ _ _ h => h) (Or.inl ⟨by rfl, ?hy6⟩) (GateS.of S0) (fun _ => ?_)
        case hy6 => intro w; go_simp; try with_reducible rfl
        try simp only [List.getElem_toArray, List.getElem_cons_zero, List.getElem_cons_succ, Act.put, List.setIfInBounds_toArray, List.set_cons_zero, List.set_cons_succ]
        refine wpAnyG_load (i := 8) (c := 12) (v := .agg y) rfl (by decide) ⟨by decide, by kernel_rfl⟩ (by kernel_rfl) (by kernel_rfl) (by kernel_rfl) (by kernel_rfl) (fun _ _ _ h => h) (yieldsIf_load_mid (by rfl) 42 _ rfl rb (k * 18) rfl y.toList _ (fun w hSw => hSw.2) Try.underlying42 rfl (by rw [Array.length_toList]; exact hy.infoR)) (GateS.of S0) (fun _ => ?_)
        try simp only [List.getElem_toArray, List.getElem_cons_zero, List.getElem_cons_succ, Act.put, List.setIfInBounds_toArray, List.set_cons_zero, List.set_cons_succ]
        refine wpAnyG_three (i := 4) (j := 9) (k := 10) (by kernel_rfl) rfl rfl rfl (fun K' hK => ?_) (fun K' hK => ?_) (fun K' hK => ?_)
        · refine step_call rfl 12 (.tmp 22) 35 rfl Try.callFlat (y := .agg x) rfl (flat_any x M _ hx HSX.out) ?_
          rintro e au1 ⟨rfl, blau1⟩
          have Dau1 := D0.trans (blau1.mono le0)
          have Sau1 : au1.rangeAt ra (k * 18) x.toList ∧ au1.rangeAt rb (k * 18) y.toList := ⟨range_below k1 hra1 Dau1, range_below k2 hrb1 Dau1⟩
          have leau1 := Dau1.size
          refine ⟨_, rfl, hK.out _ _ (GateS.of Sau1) (fun _ => ?_)⟩
          clear hK K'
          try simp only [List.getElem_toArray, List.getElem_cons_zero, List.getElem_cons_succ, Act.put, List.setIfInBounds_toArray, List.set_cons_zero, List.set_cons_succ]
          refine wpAnyG_two (i := 9) (j := 10) (by kernel_rfl) rfl rfl (fun K' hK => ?_) (fun K' hK => ?_)
          · simp only [List.getElem_toArray, List.getElem_cons_zero, List.getElem_cons_succ]
            go_simp
            obtain ⟨aau2, haau2⟩ : ∃ u', au1.alloc (.cells #[.int .i64 0, .int .i64 0, .int .i64 0, .int .i64 0, .int .i64 0, .bool false, .int .i64 0, .bool false, .bool false, .bool false, .bool false, .int .i64 0, .slice none 0 0, .slice none 0 0, .slice none 0 0, .slice none 0 0, .bool false, .int .i64 0] 42) = u' := ⟨_, rfl⟩
            have blaau2 : Below au1.heap.size au1 aau2 := by rw [← haau2]; exact (Below.refl au1.heap.size au1).alloc (Nat.le_refl _) _
            have kb6aau2 : Blk aau2 au1.heap.size 42 zeroA := by rw [← haau2]; exact Blk.new au1 _ _
            rw [haau2]
            clear haau2
            have Daau2 := Dau1.trans (blaau2.mono leau1)
            have Saau2 : aau2.rangeAt ra (k * 18) x.toList ∧ aau2.rangeAt rb (k * 18) y.toList := ⟨range_below k1 hra1 Daau2, range_below k2 hrb1 Daau2⟩
            have leaau2 := Daau2.size
            refine hK.out _ _ (GateS.of Saau2) (fun _ => ?_)
            clear hK K'
            try simp only [List.getElem_toArray, List.getElem_cons_zero, List.getElem_cons_succ, Act.put, List.setIfInBounds_toArray, List.set_cons_zero, List.set_cons_succ]
            refine wpAnyG_one (i := 10) (by kernel_rfl) rfl (fun K' hK => ?_)
            simp only [List.getElem_toArray, List.getElem_cons_zero, List.getElem_cons_succ]
            go_simp
            obtain ⟨aau3, haau3⟩ : ∃ u', aau2.alloc (.cells #[.int .i64 0, .int .i64 0, .int .i64 0, .int .i64 0, .int .i64 0, .bool false, .int .i64 0, .bool false, .bool false, .bool false, .bool false, .int .i64 0, .slice none 0 0, .slice none 0 0, .slice none 0 0, .slice none 0 0, .bool false, .int .i64 0] 42) = u' := ⟨_, rfl⟩
            have blaau3 : Below aau2.heap.size aau2 aau3 := by rw [← haau3]; exact (Below.refl aau2.heap.size aau2).alloc (Nat.le_refl _) _
            have kb7aau3 : Blk aau3 aau2.heap.size 42 zeroA := by rw [← haau3]; exact Blk.new aau2 _ _
            rw [haau3]
            clear haau3
            have Daau3 := Daau2.trans (blaau3.mono leaau2)
            have Saau3 : aau3.rangeAt ra (k * 18) x.toList ∧ aau3.rangeAt rb (k * 18) y.toList := ⟨range_below k1 hra1 Daau3, range_below k2 hrb1 Daau3⟩
            have leaau3 := Daau3.size
            have kb6aau3 := kb6aau2.below blaau3 kb6aau2.lt
            have knaau3 : aau2.heap.size ≠ au1.heap.size := by have := kb6aau2.lt; omega
            refine hK.out _ _ (GateS.of Saau3) (fun _ => ?_)
            clear hK K'
            try simp only [List.getElem_toArray, List.getElem_cons_zero, List.getElem_cons_succ, Act.put, List.setIfInBounds_toArray, List.set_cons_zero, List.set_cons_succ]
            refine wpAnyG_one (i := 11) (by kernel_rfl) rfl (fun K' hK => ?_)
            rw [if_pos (by rfl)]
            refine wp_store_whole 42 (.tmp 6) (.tmp 23) rfl au1.heap.size x rfl rfl 42 zeroA kb6aau3 hx.infoR hx.size.symm hx.one ?_
            have Taau4 := below_set Daau3 leau1 x
            have kb6aau4 := kb6aau3.setRow (y := x)
            have kb7aau4 := kb7aau3.rowFar (y := x) (g' := au1.heap.size) (by omega)
            obtain ⟨aau4, haau4⟩ : ∃ u', aau3.setRow (au1.heap.size) x = u' := ⟨_, rfl⟩
            rw [haau4] at Taau4 kb6aau4 kb7aau4 ⊢
            clear haau4
            have Daau4 := Taau4
            have Saau4 : aau4.rangeAt ra (k * 18) x.toList ∧ aau4.rangeAt rb (k * 18) y.toList := ⟨range_below k1 hra1 Daau4, range_below k2 hrb1 Daau4⟩
            have leaau4 := Daau4.size
            refine hK.out _ _ (GateS.of Saau4) (fun _ => ?_)
            clear hK K'
            try simp only [List.getElem_toArray, List.getElem_cons_zero, List.getElem_cons_succ, Act.put]
            refine wpAnyG_one (i := 12) (by kernel_rfl) rfl (fun K' hK => ?_)
            rw [if_pos (by rfl)]
            refine wp_store_whole 42 (.tmp 7) (.tmp 27) rfl aau2.heap.size y rfl rfl 42 zeroA kb7aau4 hy.infoR hy.size.symm hy.one ?_
            have Taau5 := below_set Daau4 leaau2 y
            have kb7aau5 := kb7aau4.setRow (y := y)
            have kb6aau5 := kb6aau4.rowFar (y := y) (g' := aau2.heap.size) (by omega)
            obtain ⟨aau5, haau5⟩ : ∃ u', aau4.setRow (aau2.heap.size) y = u' := ⟨_, rfl⟩
            rw [haau5] at Taau5 kb7aau5 kb6aau5 ⊢
            clear haau5
            have Daau5 := Taau5
            have Saau5 : aau5.rangeAt ra (k * 18) x.toList ∧ aau5.rangeAt rb (k * 18) y.toList := ⟨range_below k1 hra1 Daau5, range_below k2 hrb1 Daau5⟩
            have leaau5 := Daau5.size
            refine hK.out _ _ (GateS.of Saau5) (fun _ => ?_)
            clear hK K'
            try simp only [List.getElem_toArray, List.getElem_cons_zero, List.getElem_cons_succ, Act.put]
            refine wpAnyG_open _ _ _ _ (of_decide_eq_true (by kernel_rfl)) ?_
            refine wpAny_done (by kernel_rfl) ?_ _
            go_wp2_with fail
            go_meet
            case rel => exact ⟨_, _, rfl, rfl, kb6aau5, kb7aau5, Daau5⟩
          · simp only [List.getElem_toArray, List.getElem_cons_zero, List.getElem_cons_succ]
            go_simp
            obtain ⟨abu2, habu2⟩ : ∃ u', au1.alloc (.cells #[.int .i64 0, .int .i64 0, .int .i64 0, .int .i64 0, .int .i64 0, .bool false, .int .i64 0, .bool false, .bool false, .bool false, .bool false, .int .i64 0, .slice none 0 0, .slice none 0 0, .slice none 0 0, .slice none 0 0, .bool false, .int .i64 0] 42) = u' := ⟨_, rfl⟩
            have blabu2 : Below au1.heap.size au1 abu2 := by rw [← habu2]; exact (Below.refl au1.heap.size au1).alloc (Nat.le_refl _) _
            have kb7abu2 : Blk abu2 au1.heap.size 42 zeroA := by rw [← habu2]; exact Blk.new au1 _ _
            rw [habu2]
            clear habu2
            have Dabu2 := Dau1.trans (blabu2.mono leau1)
            have Sabu2 : abu2.rangeAt ra (k * 18) x.toList ∧ abu2.rangeAt rb (k * 18) y.toList := ⟨range_below k1 hra1 Dabu2, range_below k2 hrb1 Dabu2⟩
            have leabu2 := Dabu2.size
            refine hK.out _ _ (GateS.of Sabu2) (fun _ => ?_)
            clear hK K'
            try simp only [List.getElem_toArray, List.getElem_cons_zero, List.getElem_cons_succ, Act.put, List.setIfInBounds_toArray, List.set_cons_zero, List.set_cons_succ]
            refine wpAnyG_one (i := 9) (by kernel_rfl) rfl (fun K' hK => ?_)
            simp only [List.getElem_toArray, List.getElem_cons_zero, List.getElem_cons_succ]
            go_simp
            obtain ⟨abu3, habu3⟩ : ∃ u', abu2.alloc (.cells #[.int .i64 0, .int .i64 0, .int .i64 0, .int .i64 0, .int .i64 0, .bool false, .int .i64 0, .bool false, .bool false, .bool false, .bool false, .int .i64 0, .slice none 0 0, .slice none 0 0, .slice none 0 0, .slice none 0 0, .bool false, .int .i64 0] 42) = u' := ⟨_, rfl⟩
            have blabu3 : Below abu2.heap.size abu2 abu3 := by rw [← habu3]; exact (Below.refl abu2.heap.size abu2).alloc (Nat.le_refl _) _
            have kb6abu3 : Blk abu3 abu2.heap.size 42 zeroA := by rw [← habu3]; exact Blk.new abu2 _ _
            rw [habu3]
            clear habu3
            have Dabu3 := Dabu2.trans (blabu3.mono leabu2)
            have Sabu3 : abu3.rangeAt ra (k * 18) x.toList ∧ abu3.rangeAt rb (k * 18) y.toList := ⟨range_below k1 hra1 Dabu3, range_below k2 hrb1 Dabu3⟩
            have leabu3 := Dabu3.size
            have kb7abu3 := kb7abu2.below blabu3 kb7abu2.lt
            have knabu3 : abu2.heap.size ≠ au1.heap.size := by have := kb7abu2.lt; omega
            refine hK.out _ _ (GateS.of Sabu3) (fun _ => ?_)
            clear hK K'
            try simp only [List.getElem_toArray, List.getElem_cons_zero, List.getElem_cons_succ, Act.put, List.setIfInBounds_toArray, List.set_cons_zero, List.set_cons_succ]
            refine wpAnyG_one (i := 11) (by kernel_rfl) rfl (fun K' hK => ?_)
            rw [if_pos (by rfl)]
            refine wp_store_whole 42 (.tmp 6) (.tmp 23) rfl abu2.heap.size x rfl rfl 42 zeroA kb6abu3 hx.infoR hx.size.symm hx.one ?_
            have Tabu4 := below_set Dabu3 leabu2 x
            have kb6abu4 := kb6abu3.setRow (y := x)
            have kb7abu4 := kb7abu3.rowFar (y := x) (g' := abu2.heap.size) (by omega)
            obtain ⟨abu4, habu4⟩ : ∃ u', abu3.setRow (abu2.heap.size) x = u' := ⟨_, rfl⟩
            rw [habu4] at Tabu4 kb6abu4 kb7abu4 ⊢
            clear habu4
            have Dabu4 := Tabu4
            have Sabu4 : abu4.rangeAt ra (k * 18) x.toList ∧ abu4.rangeAt rb (k * 18) y.toList := ⟨range_below k1 hra1 Dabu4, range_below k2 hrb1 Dabu4⟩
            have leabu4 := Dabu4.size
            refine hK.out _ _ (GateS.of Sabu4) (fun _ => ?_)
            clear hK K'
            try simp only [List.getElem_toArray, List.getElem_cons_zero, List.getElem_cons_succ, Act.put]
            refine wpAnyG_one (i := 12) (by kernel_rfl) rfl (fun K' hK => ?_)
            rw [if_pos (by rfl)]
            refine wp_store_whole 42 (.tmp 7) (.tmp 27) rfl au1.heap.size y rfl rfl 42 zeroA kb7abu4 hy.infoR hy.size.symm hy.one ?_
            have Tabu5 := below_set Dabu4 leau1 y
            have kb7abu5 := kb7abu4.setRow (y := y)
            have kb6abu5 := kb6abu4.rowFar (y := y) (g' := au1.heap.size) (by omega)
            obtain ⟨abu5, habu5⟩ : ∃ u', abu4.setRow (au1.heap.size) y = u' := ⟨_, rfl⟩
            rw [habu5] at Tabu5 kb7abu5 kb6abu5 ⊢
            clear habu5
            have Dabu5 := Tabu5
            have Sabu5 : abu5.rangeAt ra (k * 18) x.toList ∧ abu5.rangeAt rb (k * 18) y.toList := ⟨range_below k1 hra1 Dabu5, range_below k2 hrb1 Dabu5⟩
            have leabu5 := Dabu5.size
            refine hK.out _ _ (GateS.of Sabu5) (fun _ => ?_)
            clear hK K'
            try simp only [List.getElem_toArray, List.getElem_cons_zero, List.getElem_cons_succ, Act.put]
            refine wpAnyG_open _ _ _ _ (of_decide_eq_true (by kernel_rfl)) ?_
            refine wpAny_done (by kernel_rfl) ?_ _
            go_wp2_with fail
            go_meet
            case rel => exact ⟨_, _, rfl, rfl, kb6abu5, kb7abu5, Dabu5⟩
        · simp only [List.getElem_toArray, List.getElem_cons_zero, List.getElem_cons_succ]
          go_simp
          obtain ⟨bu1, hbu1⟩ : ∃ u', ud.alloc (.cells #[.int .i64 0, .int .i64 0, .int .i64 0, .int .i64 0, .int .i64 0, .bool false, .int .i64 0, .bool false, .bool false, .bool false, .bool false, .int .i64 0, .slice none 0 0, .slice none 0 0, .slice none 0 0, .slice none 0 0, .bool false, .int .i64 0] 42) = u' := ⟨_, rfl⟩
          have blbu1 : Below ud.heap.size ud bu1 := by rw [← hbu1]; exact (Below.refl ud.heap.size ud).alloc (Nat.le_refl _) _
          have kb6bu1 : Blk bu1 ud.heap.size 42 zeroA := by rw [← hbu1]; exact Blk.new ud _ _
          rw [hbu1]
          clear hbu1
          have Dbu1 := D0.trans (blbu1.mono le0)
          have Sbu1 : bu1.rangeAt ra (k * 18) x.toList ∧ bu1.rangeAt rb (k * 18) y.toList := ⟨range_below k1 hra1 Dbu1, range_below k2 hrb1 Dbu1⟩
          have lebu1 := Dbu1.size
          refine hK.out _ _ (GateS.of Sbu1) (fun _ => ?_)
          clear hK K'
          try simp only [List.getElem_toArray, List.getElem_cons_zero, List.getElem_cons_succ, Act.put, List.setIfInBounds_toArray, List.set_cons_zero, List.set_cons_succ]
          refine wpAnyG_two (i := 4) (j := 10) (by kernel_rfl) rfl rfl (fun K' hK => ?_) (fun K' hK => ?_)
          · refine step_call rfl 12 (.tmp 22) 35 rfl Try.callFlat (y := .agg x) rfl (flat_any x M _ hx HSX.out) ?_
            rintro e bau2 ⟨rfl, blbau2⟩
            have Dbau2 := Dbu1.trans (blbau2.mono lebu1)
            have Sbau2 : bau2.rangeAt ra (k * 18) x.toList ∧ bau2.rangeAt rb (k * 18) y.toList := ⟨range_below k1 hra1 Dbau2, range_below k2 hrb1 Dbau2⟩
            have lebau2 := Dbau2.size
            have kb6bau2 := kb6bu1.below blbau2 kb6bu1.lt
            refine ⟨_, rfl, hK.out _ _ (GateS.of Sbau2) (fun _ => ?_)⟩
            clear hK K'
            try simp only [List.getElem_toArray, List.getElem_cons_zero, List.getElem_cons_succ, Act.put, List.setIfInBounds_toArray, List.set_cons_zero, List.set_cons_succ]
            refine wpAnyG_one (i := 10) (by kernel_rfl) rfl (fun K' hK => ?_)
            simp only [List.getElem_toArray, List.getElem_cons_zero, List.getElem_cons_succ]
            go_simp
            obtain ⟨bau3, hbau3⟩ : ∃ u', bau2.alloc (.cells #[.int .i64 0, .int .i64 0, .int .i64 0, .int .i64 0, .int .i64 0, .bool false, .int .i64 0, .bool false, .bool false, .bool false, .bool false, .int .i64 0, .slice none 0 0, .slice none 0 0, .slice none 0 0, .slice none 0 0, .bool false, .int .i64 0] 42) = u' := ⟨_, rfl⟩
            have blbau3 : Below bau2.heap.size bau2 bau3 := by rw [← hbau3]; exact (Below.refl bau2.heap.size bau2).alloc (Nat.le_refl _) _
            have kb7bau3 : Blk bau3 bau2.heap.size 42 zeroA := by rw [← hbau3]; exact Blk.new bau2 _ _
            rw [hbau3]
            clear hbau3
            have Dbau3 := Dbau2.trans (blbau3.mono lebau2)
            have Sbau3 : bau3.rangeAt ra (k * 18) x.toList ∧ bau3.rangeAt rb (k * 18) y.toList := ⟨range_below k1 hra1 Dbau3, range_below k2 hrb1 Dbau3⟩
            have lebau3 := Dbau3.size
            have kb6bau3 := kb6bau2.below blbau3 kb6bau2.lt
            have knbau3 : bau2.heap.size ≠ ud.heap.size := by have := kb6bau2.lt; omega
            refine hK.out _ _ (GateS.of Sbau3) (fun _ => ?_)
            clear hK K'
            try simp only [List.getElem_toArray, List.getElem_cons_zero, List.getElem_cons_succ, Act.put, List.setIfInBounds_toArray, List.set_cons_zero, List.set_cons_succ]
            refine wpAnyG_one (i := 11) (by kernel_rfl) rfl (fun K' hK => ?_)
            rw [if_pos (by rfl)]
            refine wp_store_whole 42 (.tmp 6) (.tmp 23) rfl ud.heap.size x rfl rfl 42 zeroA kb6bau3 hx.infoR hx.size.symm hx.one ?_
            have Tbau4 := below_set Dbau3 le0 x
            have kb6bau4 := kb6bau3.setRow (y := x)
            have kb7bau4 := kb7bau3.rowFar (y := x) (g' := ud.heap.size) (by omega)
            obtain ⟨bau4, hbau4⟩ : ∃ u', bau3.setRow (ud.heap.size) x = u' := ⟨_, rfl⟩
            rw [hbau4] at Tbau4 kb6bau4 kb7bau4 ⊢
            clear hbau4
            have Dbau4 := Tbau4
            have Sbau4 : bau4.rangeAt ra (k * 18) x.toList ∧ bau4.rangeAt rb (k * 18) y.toList := ⟨range_below k1 hra1 Dbau4, range_below k2 hrb1 Dbau4⟩
            have lebau4 := Dbau4.size
            refine hK.out _ _ (GateS.of Sbau4) (fun _ => ?_)
            clear hK K'
            try simp only [List.getElem_toArray, List.getElem_cons_zero, List.getElem_cons_succ, Act.put]
            refine wpAnyG_one (i := 12) (by kernel_rfl) rfl (fun K' hK => ?_)
            rw [if_pos (by rfl)]
            refine wp_store_whole 42 (.tmp 7) (.tmp 27) rfl bau2.heap.size y rfl rfl 42 zeroA kb7bau4 hy.infoR hy.size.symm hy.one ?_
            have Tbau5 := below_set Dbau4 lebau2 y
            have kb7bau5 := kb7bau4.setRow (y := y)
            have kb6bau5 := kb6bau4.rowFar (y := y) (g' := bau2.heap.size) (by omega)
            obtain ⟨bau5, hbau5⟩ : ∃ u', bau4.setRow (bau2.heap.size) y = u' := ⟨_, rfl⟩
            rw [hbau5] at Tbau5 kb7bau5 kb6bau5 ⊢
            clear hbau5
            have Dbau5 := Tbau5
            have Sbau5 : bau5.rangeAt ra (k * 18) x.toList ∧ bau5.rangeAt rb (k * 18) y.toList := ⟨range_below k1 hra1 Dbau5, range_below k2 hrb1 Dbau5⟩
            have lebau5 := Dbau5.size
            refine hK.out _ _ (GateS.of Sbau5) (fun _ => ?_)
            clear hK K'
            try simp only [List.getElem_toArray, List.getElem_cons_zero, List.getElem_cons_succ, Act.put]
            refine wpAnyG_open _ _ _ _ (of_decide_eq_true (by kernel_rfl)) ?_
            refine wpAny_done (by kernel_rfl) ?_ _
            go_wp2_with fail
            go_meet
            case rel => exact ⟨_, _, rfl, rfl, kb6bau5, kb7bau5, Dbau5⟩
          · simp only [List.getElem_toArray, List.getElem_cons_zero, List.getElem_cons_succ]
            go_simp
            obtain ⟨bbu2, hbbu2⟩ : ∃ u', bu1.alloc (.cells #[.int .i64 0, .int .i64 0, .int .i64 0, .int .i64 0, .int .i64 0, .bool false, .int .i64 0, .bool false, .bool false, .bool false, .bool false, .int .i64 0, .slice none 0 0, .slice none 0 0, .slice none 0 0, .slice none 0 0, .bool false, .int .i64 0] 42) = u' := ⟨_, rfl⟩
            have blbbu2 : Below bu1.heap.size bu1 bbu2 := by rw [← hbbu2]; exact (Below.refl bu1.heap.size bu1).alloc (Nat.le_refl _) _
            have kb7bbu2 : Blk bbu2 bu1.heap.size 42 zeroA := by rw [← hbbu2]; exact Blk.new bu1 _ _
            rw [hbbu2]
            clear hbbu2
            have Dbbu2 := Dbu1.trans (blbbu2.mono lebu1)
            have Sbbu2 : bbu2.rangeAt ra (k * 18) x.toList ∧ bbu2.rangeAt rb (k * 18) y.toList := ⟨range_below k1 hra1 Dbbu2, range_below k2 hrb1 Dbbu2⟩
            have lebbu2 := Dbbu2.size
            have kb6bbu2 := kb6bu1.below blbbu2 kb6bu1.lt
            have knbbu2 : bu1.heap.size ≠ ud.heap.size := by have := kb6bu1.lt; omega
            refine hK.out _ _ (GateS.of Sbbu2) (fun _ => ?_)
            clear hK K'
            try simp only [List.getElem_toArray, List.getElem_cons_zero, List.getElem_cons_succ, Act.put, List.setIfInBounds_toArray, List.set_cons_zero, List.set_cons_succ]
            refine wpAnyG_one (i := 4) (by kernel_rfl) rfl (fun K' hK => ?_)
            refine step_call rfl 12 (.tmp 22) 35 rfl Try.callFlat (y := .agg x) rfl (flat_any x M _ hx HSX.out) ?_
            rintro e bbu3 ⟨rfl, blbbu3⟩
            have Dbbu3 := Dbbu2.trans (blbbu3.mono lebbu2)
            have Sbbu3 : bbu3.rangeAt ra (k * 18) x.toList ∧ bbu3.rangeAt rb (k * 18) y.toList := ⟨range_below k1 hra1 Dbbu3, range_below k2 hrb1 Dbbu3⟩
            have lebbu3 := Dbbu3.size
            have kb6bbu3 := kb6bbu2.below blbbu3 kb6bbu2.lt
            have kb7bbu3 := kb7bbu2.below blbbu3 kb7bbu2.lt
            refine ⟨_, rfl, hK.out _ _ (GateS.of Sbbu3) (fun _ => ?_)⟩
            clear hK K'
            try simp only [List.getElem_toArray, List.getElem_cons_zero, List.getElem_cons_succ, Act.put, List.setIfInBounds_toArray, List.set_cons_zero, List.set_cons_succ]
            refine wpAnyG_one (i := 11) (by kernel_rfl) rfl (fun K' hK => ?_)
            rw [if_pos (by rfl)]
            refine wp_store_whole 42 (.tmp 6) (.tmp 23) rfl ud.heap.size x rfl rfl 42 zeroA kb6bbu3 hx.infoR hx.size.symm hx.one ?_
            have Tbbu4 := below_set Dbbu3 le0 x
            have kb6bbu4 := kb6bbu3.setRow (y := x)
            have kb7bbu4 := kb7bbu3.rowFar (y := x) (g' := ud.heap.size) (by omega)
            obtain ⟨bbu4, hbbu4⟩ : ∃ u', bbu3.setRow (ud.heap.size) x = u' := ⟨_, rfl⟩
            rw [hbbu4] at Tbbu4 kb6bbu4 kb7bbu4 ⊢
            clear hbbu4
            have Dbbu4 := Tbbu4
            have Sbbu4 : bbu4.rangeAt ra (k * 18) x.toList ∧ bbu4.rangeAt rb (k * 18) y.toList := ⟨range_below k1 hra1 Dbbu4, range_below k2 hrb1 Dbbu4⟩
            have lebbu4 := Dbbu4.size
            refine hK.out _ _ (GateS.of Sbbu4) (fun _ => ?_)
            clear hK K'
            try simp only [List.getElem_toArray, List.getElem_cons_zero, List.getElem_cons_succ, Act.put]
            refine wpAnyG_one (i := 12) (by kernel_rfl) rfl (fun K' hK => ?_)
            rw [if_pos (by rfl)]
            refine wp_store_whole 42 (.tmp 7) (.tmp 27) rfl bu1.heap.size y rfl rfl 42 zeroA kb7bbu4 hy.infoR hy.size.symm hy.one ?_
            have Tbbu5 := below_set Dbbu4 lebu1 y
            have kb7bbu5 := kb7bbu4.setRow (y := y)
            have kb6bbu5 := kb6bbu4.rowFar (y := y) (g' := bu1.heap.size) (by omega)
            obtain ⟨bbu5, hbbu5⟩ : ∃ u', bbu4.setRow (bu1.heap.size) y = u' := ⟨_, rfl⟩
            rw [hbbu5] at Tbbu5 kb7bbu5 kb6bbu5 ⊢
            clear hbbu5
            have Dbbu5 := Tbbu5
            have Sbbu5 : bbu5.rangeAt ra (k * 18) x.toList ∧ bbu5.rangeAt rb (k * 18) y.toList := ⟨range_below k1 hra1 Dbbu5, range_below k2 hrb1 Dbbu5⟩
            have lebbu5 := Dbbu5.size
            refine hK.out _ _ (GateS.of Sbbu5) (fun _ => ?_)
            clear hK K'
            try simp only [List.getElem_toArray, List.getElem_cons_zero, List.getElem_cons_succ, Act.put]
            refine wpAnyG_open _ _ _ _ (of_decide_eq_true (by kernel_rfl)) ?_
            refine wpAny_done (by kernel_rfl) ?_ _
            go_wp2_with fail
            go_meet
            case rel => exact ⟨_, _, rfl, rfl, kb6bbu5, kb7bbu5, Dbbu5⟩
        · simp only [List.getElem_toArray, List.getElem_cons_zero, List.getElem_cons_succ]
          go_simp
          obtain ⟨cu1, hcu1⟩ : ∃ u', ud.alloc (.cells #[.int .i64 0, .int .i64 0, .int .i64 0, .int .i64 0, .int .i64 0, .bool false, .int .i64 0, .bool false, .bool false, .bool false, .bool false, .int .i64 0, .slice none 0 0, .slice none 0 0, .slice none 0 0, .slice none 0 0, .bool false, .int .i64 0] 42) = u' := ⟨_, rfl⟩
          have blcu1 : Below ud.heap.size ud cu1 := by rw [← hcu1]; exact (Below.refl ud.heap.size ud).alloc (Nat.le_refl _) _
          have kb7cu1 : Blk cu1 ud.heap.size 42 zeroA := by rw [← hcu1]; exact Blk.new ud _ _
          rw [hcu1]
          clear hcu1
          have Dcu1 := D0.trans (blcu1.mono le0)
          have Scu1 : cu1.rangeAt ra (k * 18) x.toList ∧ cu1.rangeAt rb (k * 18) y.toList := ⟨range_below k1 hra1 Dcu1, range_below k2 hrb1 Dcu1⟩
          have lecu1 := Dcu1.size
          refine hK.out _ _ (GateS.of Scu1) (fun _ => ?_)
          clear hK K'
          try simp only [List.getElem_toArray, List.getElem_cons_zero, List.getElem_cons_succ, Act.put, List.setIfInBounds_toArray, List.set_cons_zero, List.set_cons_succ]
          refine wpAnyG_two (i := 4) (j := 9) (by kernel_rfl) rfl rfl (fun K' hK => ?_) (fun K' hK => ?_)
          · refine step_call rfl 12 (.tmp 22) 35 rfl Try.callFlat (y := .agg x) rfl (flat_any x M _ hx HSX.out) ?_
            rintro e cau2 ⟨rfl, blcau2⟩
            have Dcau2 := Dcu1.trans (blcau2.mono lecu1)
            have Scau2 : cau2.rangeAt ra (k * 18) x.toList ∧ cau2.rangeAt rb (k * 18) y.toList := ⟨range_below k1 hra1 Dcau2, range_below k2 hrb1 Dcau2⟩
            have lecau2 := Dcau2.size
            have kb7cau2 := kb7cu1.below blcau2 kb7cu1.lt
            refine ⟨_, rfl, hK.out _ _ (GateS.of Scau2) (fun _ => ?_)⟩
            clear hK K'
            try simp only [List.getElem_toArray, List.getElem_cons_zero, List.getElem_cons_succ, Act.put, List.setIfInBounds_toArray, List.set_cons_zero, List.set_cons_succ]
            refine wpAnyG_one (i := 9) (by kernel_rfl) rfl (fun K' hK => ?_)
            simp only [List.getElem_toArray, List.getElem_cons_zero, List.getElem_cons_succ]
            go_simp
            obtain ⟨cau3, hcau3⟩ : ∃ u', cau2.alloc (.cells #[.int .i64 0, .int .i64 0, .int .i64 0, .int .i64 0, .int .i64 0, .bool false, .int .i64 0, .bool false, .bool false, .bool false, .bool false, .int .i64 0, .slice none 0 0, .slice none 0 0, .slice none 0 0, .slice none 0 0, .bool false, .int .i64 0] 42) = u' := ⟨_, rfl⟩
            have blcau3 : Below cau2.heap.size cau2 cau3 := by rw [← hcau3]; exact (Below.refl cau2.heap.size cau2).alloc (Nat.le_refl _) _
            have kb6cau3 : Blk cau3 cau2.heap.size 42 zeroA := by rw [← hcau3]; exact Blk.new cau2 _ _
            rw [hcau3]
            clear hcau3
            have Dcau3 := Dcau2.trans (blcau3.mono lecau2)
            have Scau3 : cau3.rangeAt ra (k * 18) x.toList ∧ cau3.rangeAt rb (k * 18) y.toList := ⟨range_below k1 hra1 Dcau3, range_below k2 hrb1 Dcau3⟩
            have lecau3 := Dcau3.size
            have kb7cau3 := kb7cau2.below blcau3 kb7cau2.lt
            have kncau3 : cau2.heap.size ≠ ud.heap.size := by have := kb7cau2.lt; omega
            refine hK.out _ _ (GateS.of Scau3) (fun _ => ?_)
            clear hK K'
            try simp only [List.getElem_toArray, List.getElem_cons_zero, List.getElem_cons_succ, Act.put, List.setIfInBounds_toArray, List.set_cons_zero, List.set_cons_succ]
            refine wpAnyG_one (i := 11) (by kernel_rfl) rfl (fun K' hK => ?_)
            rw [if_pos (by rfl)]
            refine wp_store_whole 42 (.tmp 6) (.tmp 23) rfl cau2.heap.size x rfl rfl 42 zeroA kb6cau3 hx.infoR hx.size.symm hx.one ?_
            have Tcau4 := below_set Dcau3 lecau2 x
            have kb6cau4 := kb6cau3.setRow (y := x)
            have kb7cau4 := kb7cau3.rowFar (y := x) (g' := cau2.heap.size) (by omega)
            obtain ⟨cau4, hcau4⟩ : ∃ u', cau3.setRow (cau2.heap.size) x = u' := ⟨_, rfl⟩
            rw [hcau4] at Tcau4 kb6cau4 kb7cau4 ⊢
            clear hcau4
            have Dcau4 := Tcau4
            have Scau4 : cau4.rangeAt ra (k * 18) x.toList ∧ cau4.rangeAt rb (k * 18) y.toList := ⟨range_below k1 hra1 Dcau4, range_below k2 hrb1 Dcau4⟩
            have lecau4 := Dcau4.size
            refine hK.out _ _ (GateS.of Scau4) (fun _ => ?_)
            clear hK K'
            try simp only [List.getElem_toArray, List.getElem_cons_zero, List.getElem_cons_succ, Act.put]
            refine wpAnyG_one (i := 12) (by kernel_rfl) rfl (fun K' hK => ?_)
            rw [if_pos (by rfl)]
            refine wp_store_whole 42 (.tmp 7) (.tmp 27) rfl ud.heap.size y rfl rfl 42 zeroA kb7cau4 hy.infoR hy.size.symm hy.one ?_
            have Tcau5 := below_set Dcau4 le0 y
            have kb7cau5 := kb7cau4.setRow (y := y)
            have kb6cau5 := kb6cau4.rowFar (y := y) (g' := ud.heap.size) (by omega)
            obtain ⟨cau5, hcau5⟩ : ∃ u', cau4.setRow (ud.heap.size) y = u' := ⟨_, rfl⟩
            rw [hcau5] at Tcau5 kb7cau5 kb6cau5 ⊢
            clear hcau5
            have Dcau5 := Tcau5
            have Scau5 : cau5.rangeAt ra (k * 18) x.toList ∧ cau5.rangeAt rb (k * 18) y.toList := ⟨range_below k1 hra1 Dcau5, range_below k2 hrb1 Dcau5⟩
            have lecau5 := Dcau5.size
            refine hK.out _ _ (GateS.of Scau5) (fun _ => ?_)
            clear hK K'
            try simp only [List.getElem_toArray, List.getElem_cons_zero, List.getElem_cons_succ, Act.put]
            refine wpAnyG_open _ _ _ _ (of_decide_eq_true (by kernel_rfl)) ?_
            refine wpAny_done (by kernel_rfl) ?_ _
            go_wp2_with fail
            go_meet
            case rel => exact ⟨_, _, rfl, rfl, kb6cau5, kb7cau5, Dcau5⟩
          · simp only [List.getElem_toArray, List.getElem_cons_zero, List.getElem_cons_succ]
            go_simp
            obtain ⟨cbu2, hcbu2⟩ : ∃ u', cu1.alloc (.cells #[.int .i64 0, .int .i64 0, .int .i64 0, .int .i64 0, .int .i64 0, .bool false, .int .i64 0, .bool false, .bool false, .bool false, .bool false, .int .i64 0, .slice none 0 0, .slice none 0 0, .slice none 0 0, .slice none 0 0, .bool false, .int .i64 0] 42) = u' := ⟨_, rfl⟩
            have blcbu2 : Below cu1.heap.size cu1 cbu2 := by rw [← hcbu2]; exact (Below.refl cu1.heap.size cu1).alloc (Nat.le_refl _) _
            have kb6cbu2 : Blk cbu2 cu1.heap.size 42 zeroA := by rw [← hcbu2]; exact Blk.new cu1 _ _
            rw [hcbu2]
            clear hcbu2
            have Dcbu2 := Dcu1.trans (blcbu2.mono lecu1)
            have Scbu2 : cbu2.rangeAt ra (k * 18) x.toList ∧ cbu2.rangeAt rb (k * 18) y.toList := ⟨range_below k1 hra1 Dcbu2, range_below k2 hrb1 Dcbu2⟩
            have lecbu2 := Dcbu2.size
            have kb7cbu2 := kb7cu1.below blcbu2 kb7cu1.lt
            have kncbu2 : cu1.heap.size ≠ ud.heap.size := by have := kb7cu1.lt; omega
            refine hK.out _ _ (GateS.of Scbu2) (fun _ => ?_)
            clear hK K'
            try simp only [List.getElem_toArray, List.getElem_cons_zero, List.getElem_cons_succ, Act.put, List.setIfInBounds_toArray, List.set_cons_zero, List.set_cons_succ]
            refine wpAnyG_one (i := 4) (by kernel_rfl) rfl (fun K' hK => ?_)
            refine step_call rfl 12 (.tmp 22) 35 rfl Try.callFlat (y := .agg x) rfl (flat_any x M _ hx HSX.out) ?_
            rintro e cbu3 ⟨rfl, blcbu3⟩
            have Dcbu3 := Dcbu2.trans (blcbu3.mono lecbu2)
            have Scbu3 : cbu3.rangeAt ra (k * 18) x.toList ∧ cbu3.rangeAt rb (k * 18) y.toList := ⟨range_below k1 hra1 Dcbu3, range_below k2 hrb1 Dcbu3⟩
            have lecbu3 := Dcbu3.size
            have kb6cbu3 := kb6cbu2.below blcbu3 kb6cbu2.lt
            have kb7cbu3 := kb7cbu2.below blcbu3 kb7cbu2.lt
            refine ⟨_, rfl, hK.out _ _ (GateS.of Scbu3) (fun _ => ?_)⟩
            clear hK K'
            try simp only [List.getElem_toArray, List.getElem_cons_zero, List.getElem_cons_succ, Act.put, List.setIfInBounds_toArray, List.set_cons_zero, List.set_cons_succ]
            refine wpAnyG_one (i := 11) (by kernel_rfl) rfl (fun K' hK => ?_)
            rw [if_pos (by rfl)]
            refine wp_store_whole 42 (.tmp 6) (.tmp 23) rfl cu1.heap.size x rfl rfl 42 zeroA kb6cbu3 hx.infoR hx.size.symm hx.one ?_
            have Tcbu4 := below_set Dcbu3 lecu1 x
            have kb6cbu4 := kb6cbu3.setRow (y := x)
            have kb7cbu4 := kb7cbu3.rowFar (y := x) (g' := cu1.heap.size) (by omega)
            obtain ⟨cbu4, hcbu4⟩ : ∃ u', cbu3.setRow (cu1.heap.size) x = u' := ⟨_, rfl⟩
            rw [hcbu4] at Tcbu4 kb6cbu4 kb7cbu4 ⊢
            clear hcbu4
            have Dcbu4 := Tcbu4
            have Scbu4 : cbu4.rangeAt ra (k * 18) x.toList ∧ cbu4.rangeAt rb (k * 18) y.toList := ⟨range_below k1 hra1 Dcbu4, range_below k2 hrb1 Dcbu4⟩
            have lecbu4 := Dcbu4.size
            refine hK.out _ _ (GateS.of Scbu4) (fun _ => ?_)
            clear hK K'
            try simp only [List.getElem_toArray, List.getElem_cons_zero, List.getElem_cons_succ, Act.put]
            refine wpAnyG_one (i := 12) (by kernel_rfl) rfl (fun K' hK => ?_)
            rw [if_pos (by rfl)]
            refine wp_store_whole 42 (.tmp 7) (.tmp 27) rfl ud.heap.size y rfl rfl 42 zeroA kb7cbu4 hy.infoR hy.size.symm hy.one ?_
            have Tcbu5 := below_set Dcbu4 le0 y
            have kb7cbu5 := kb7cbu4.setRow (y := y)
            have kb6cbu5 := kb6cbu4.rowFar (y := y) (g' := ud.heap.size) (by omega)
            obtain ⟨cbu5, hcbu5⟩ : ∃ u', cbu4.setRow (ud.heap.size) y = u' := ⟨_, rfl⟩
            rw [hcbu5] at Tcbu5 kb7cbu5 kb6cbu5 ⊢
            clear hcbu5
            have Dcbu5 := Tcbu5
            have Scbu5 : cbu5.rangeAt ra (k * 18) x.toList ∧ cbu5.rangeAt rb (k * 18) y.toList := ⟨range_below k1 hra1 Dcbu5, range_below k2 hrb1 Dcbu5⟩
            have lecbu5 := Dcbu5.size
            refine hK.out _ _ (GateS.of Scbu5) (fun _ => ?_)
            clear hK K'
            try simp only [List.getElem_toArray, List.getElem_cons_zero, List.getElem_cons_succ, Act.put]
            refine wpAnyG_open _ _ _ _ (of_decide_eq_true (by kernel_rfl)) ?_
            refine wpAny_done (by kernel_rfl) ?_ _
            go_wp2_with fail
            go_meet
            case rel => exact ⟨_, _, rfl, rfl, kb6cbu5, kb7cbu5, Dcbu5⟩
        -- NEG
      case rest =>
        obtain ⟨b6, b7, rfl, rfl, k6, k7, hBx⟩ := hcut
        have c60 : wc.cell? ⟨b6, 0, none⟩ = some (.int .i64 M.client) := (k6.cell 0).trans HSX.out.c0
        have c61 : wc.cell? ⟨b6, 1, none⟩ = some (.int .i64 M.port) := (k6.cell 1).trans HSX.out.c1
        have c62 : wc.cell? ⟨b6, 2, none⟩ = some (.int .i64 M.job) := (k6.cell 2).trans HSX.out.c2
        have c63 : wc.cell? ⟨b6, 3, none⟩ = some (.int .i64 M.came) := (k6.cell 3).trans HSX.out.c3
        have q6 : wc.rangeAt b6 4 (x.toList.drop 4) := by have := ask_range (Blk.range k6); rwa [Nat.zero_add] at this
        have c70 : wc.cell? ⟨b7, 0, none⟩ = some (.int .i64 M.client) := (k7.cell 0).trans HSY.out.c0
        have c71 : wc.cell? ⟨b7, 1, none⟩ = some (.int .i64 M.port) := (k7.cell 1).trans HSY.out.c1
        have c72 : wc.cell? ⟨b7, 2, none⟩ = some (.int .i64 M.job) := (k7.cell 2).trans HSY.out.c2
        have c73 : wc.cell? ⟨b7, 3, none⟩ = some (.int .i64 M.came) := (k7.cell 3).trans HSY.out.c3
        have q7 : wc.rangeAt b7 4 (y.toList.drop 4) := by have := ask_range (Blk.range k7); rwa [Nat.zero_add] at this
        have hBc := hB.trans (hBx.mono hB.size)
        clear k6 k7 k1 k2
        go_wp2_with (first | refine wpList_load_guard (by rfl) 33 _ rfl b6 4 rfl (x.toList.drop 4) _ q6 Try.underlying33 rfl (ask_info hx) ?_ | refine wpList_load_guard (by rfl) 33 _ rfl b7 4 rfl (y.toList.drop 4) _ q7 Try.underlying33 rfl (ask_info hy) ?_)
        refine (message_same (askOf x) (askOf y) M _ ((HX.out.below hBc).more hBc.size) ((HY.out.below hBc).more hBc.size) HM.out).mono ?_
        rintro e w9 ⟨rfl, hB9⟩
        clear c60 c61 c62 c63 c70 c71 c72 c73 q6 q7
        go_wp2
        go_roundw
        case rel => exact ⟨k + 1, by omega, by go_num, hBc.trans (hB9.mono hBc.size)⟩
        case measure => simp [intOf]; omega
    · go_wp2
      go_ret
      exact ⟨rfl, hB⟩
end Go.Proofs.Ytigjipjkollohaa.G
