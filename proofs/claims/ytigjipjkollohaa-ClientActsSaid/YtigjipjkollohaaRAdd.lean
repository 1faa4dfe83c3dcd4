/-
  The contract of the reference's Add.
-/
import Derived.Test.YtigjipjkollohaaRClients
namespace Go.Proofs.Ytigjipjkollohaa.G
open Go.RowKit

/-- A row of new memory grows: the table is as it was. -/
theorem radd_far {B W0 g : Nat} {most : Int} {v v1 : Value} {l : List (Array Value)} {u u' : World} (h : RAt B u g most v l) (hg : g < W0) (hv : ∀ k, v.ownBlock = some k → k < W0) (h1 : ∀ k, v1.ownBlock = some k → W0 ≤ k) (hgr : u.grownBy u' v1.ownBlock) : RAt B u' g most v l := by
  have hO : Only (fun i => v1.ownBlock = some i) u u' := (Only.refl _ _).grown hgr (fun i hi => Or.inl hi)
  exact ⟨h.1.only hO (fun hf => by have := h1 g hf; omega), own_only h.2.1 hO (fun k hk hf => by have := hv k hk; have := h1 k hf; omega), h.2.2⟩
def RAddPost (B g : Nat) (most : Int) (l : List (Array Value)) (x : Array Value) (w : World) (e : Ending) (w' : World) : Prop :=
  if most ≤ (l.length : Int) then e = .returned (.int .i64 4) ∧ Below w.heap.size w w' else ∃ v', e = .returned (.int .i64 0) ∧ RAt B w' g most v' (l ++ [x]) ∧ Only (fun i => i = g) w w'
theorem radd_end {w u : World} {B g : Nat} {most : Int} {v v' : Value} {l : List (Array Value)} {x : Array Value} (h : RAt B u g most v l) (hx : AskG x) (hg : g < w.heap.size) (hB : Below w.heap.size w u) (hBB : B ≤ w.heap.size)
    (ho : u.ownsRow w.heap.size 42 18 v' (l.length + 1) (l.flatMap Array.toList ++ x.toList)) :
    RAt B (u.setCell ⟨g, 1, none⟩ v') g most v' (l ++ [x]) ∧ Only (fun i => i = g) w (u.setCell ⟨g, 1, none⟩ v') := by
  refine ⟨⟨h.1.set_ 1 v', World.ownsRow.mono (ownsRow_setCell_other (row_snoc ho) (fun hk => by have := (ho.lt g hk).1; omega) _) hBB, fun y hy => ?_⟩, (Only.of_below hB (fun i => i = g)).setCell (p := ⟨g, 1, none⟩) (Or.inl rfl) _⟩
  rcases List.mem_append.1 hy with hy | hy
  · exact h.2.2 y hy
  · rw [List.mem_singleton] at hy
    subst hy
    exact hx
theorem flat_one (l : List (Array Value)) (hl : ∀ x ∈ l, AskG x) : ∀ u ∈ l.flatMap Array.toList, u.oneCell' = true := by
  intro u hu
  obtain ⟨x, hx, hux⟩ := List.mem_flatMap.1 hu
  exact one_all (hl x hx) u hux

set_option maxRecDepth 200000 in
set_option maxHeartbeats 2000000 in
theorem radd_any (B g : Nat) (most : Int) (v : Value) (l : List (Array Value)) (x : Array Value) (w : World) (h : RAt B w g most v l) (hx : AskG x) (hl : l.length ≤ 1000) (hBB : B ≤ w.heap.size) :
    Calls Try.prog 11 #[.pointer (some ⟨g, 0, none⟩), .agg x] w (RAddPost B g most l x w) := by
  obtain ⟨A, c, rfl⟩ := own_slice h.2.1
  have hBA := (Below.refl w.heap.size w).alloc (Nat.le_refl _) (.cells x 42)
  have h1 := h.below hBA
  have hc0 : (w.alloc (.cells x 42)).cell? ⟨g, 0, none⟩ = some (.int .i64 most) := h1.1.cell 0
  have hc1 : (w.alloc (.cells x 42)).cell? ⟨g, 1, none⟩ = some (.slice A l.length c) := h1.1.cell 1
  have hgw : g < w.heap.size := h.1.lt
  have hvw : ∀ k, (Value.slice A l.length c).ownBlock = some k → k < w.heap.size := fun k hk => (h.2.1.lt k hk).2
  by_cases hfull : most ≤ (l.length : Int)
  · clear h1 h
    go_enter Try.func11, Try.ntmps11
    go_wp2_with fail
    go_quiet (fail)
    go_wp2
    go_ret
    unfold RAddPost
    rw [if_pos hfull]
    exact ⟨rfl, below_drewN hBA _⟩
  · obtain ⟨i0, hi, hz0, hz1, hz2⟩ := info_parts Try.infoRef
    have H := Lib.hid h
    clear h1 h
    go_enter Try.func11, Try.ntmps11
    go_wp2_with fail
    go_quiet (fail)
    obtain ⟨w1, hw1⟩ : ∃ w1, (w.alloc (.cells x 42)).drewN nq = w1 := ⟨_, rfl⟩
    have hB1 : Below w.heap.size w w1 := by rw [← hw1]; exact below_drewN hBA _
    have hxb : Blk w1 w.heap.size 42 x := by rw [← hw1]; exact (Blk.new w _ x).drewN _
    rw [hw1]
    have h1 := H.out.below hB1
    clear hw1 hc0 hc1 hBA
    go_wp2_with fail
    obtain ⟨b, hb⟩ : ∃ b, w.heap.size = b := ⟨_, rfl⟩
    have hbw : b ≤ w1.drew.heap.size := by rw [← hb]; exact hB1.size
    rw [hb] at hxb hB1 hgw hvw ⊢
    have hT1 : RAt B w1.drew g most (.slice A l.length c) l := h1.below (Below.refl w1.heap.size w1).drew
    have hBd : Below b w w1.drew := hB1.drew
    have hS1 : Blk w1.drew b 42 x ∧ w1.drew.cell? ⟨g, 1, none⟩ = some (.slice A l.length c) := ⟨hxb.drew, hT1.1.cell 1⟩
    clear h1 hB1 hxb
    obtain ⟨ud, hud⟩ : ∃ u, w1.drew = u := ⟨_, rfl⟩
    refine wp_region_gate (gate := [6, 8]) (S := fun w' => Blk w' b 42 x ∧ w'.cell? ⟨g, 1, none⟩ = some (.slice A l.length c)) (by kernel_rfl) ?_
    rw [hud] at hT1 hBd hS1 hbw ⊢
    have hfold := fold_ask hx
    have hsz := hx.size
    rw [hsz] at hfold
    -- GEN
    refine wpAnyG_take (i := 0) (v := ?vv1) rfl (by decide) (by kernel_rfl) (by kernel_rfl) (by kernel_rfl) (fun _ _ _ h => h) (Or.inl ⟨by rfl, ?hy1⟩) (GateS.of hS1) (fun _ => ?_)
    case hy1 => intro w; go_simp; try with_reducible rfl
    try simp only [List.getElem_toArray, List.getElem_cons_zero, Act.put, List.setIfInBounds_toArray, List.set_cons_zero, List.set_cons_succ]
    refine wpAnyG_take (i := 2) (v := ?vv2) rfl (by decide) (by kernel_rfl) (by kernel_rfl) (by kernel_rfl) (fun _ _ _ h => h) (Or.inl ⟨by rfl, ?hy2⟩) (GateS.of hS1) (fun _ => ?_)
    case hy2 => intro w; go_simp; try with_reducible rfl
    try simp only [List.getElem_toArray, List.getElem_cons_zero, List.getElem_cons_succ, Act.put, List.setIfInBounds_toArray, List.set_cons_zero, List.set_cons_succ]
    refine wpAnyG_take (i := 3) (v := ?vv3) rfl (by decide) (by kernel_rfl) (by kernel_rfl) (by kernel_rfl) (fun _ _ _ h => h) (Or.inl ⟨by rfl, ?hy3⟩) (GateS.of hS1) (fun _ => ?_)
    case hy3 => intro w; go_simp; try with_reducible rfl
    try simp only [List.getElem_toArray, List.getElem_cons_zero, List.getElem_cons_succ, Act.put, List.setIfInBounds_toArray, List.set_cons_zero, List.set_cons_succ]
    refine wpAnyG_take (i := 4) (v := ?vv4) rfl (by decide) (by kernel_rfl) (by kernel_rfl) (by kernel_rfl) (fun _ _ _ h => h) (Or.inl ⟨by rfl, ?hy4⟩) (GateS.of hS1) (fun _ => ?_)
    case hy4 => intro w; go_simp; try with_reducible rfl
    try simp only [List.getElem_toArray, List.getElem_cons_zero, List.getElem_cons_succ, Act.put, List.setIfInBounds_toArray, List.set_cons_zero, List.set_cons_succ]
    refine wpAnyG_load (i := 5) (c := 6) (v := ?vv5) rfl (by decide) ⟨by decide, by kernel_rfl⟩ (by kernel_rfl) (by kernel_rfl) (by kernel_rfl) (by kernel_rfl) (fun _ _ _ h => h) (Or.inl ⟨by rfl, ?hy5⟩) (GateS.of hS1) (fun _ => ?_)
    case hy5 => intro w hSw; have hcell := hSw.2; clear hSw; go_simp; try with_reducible rfl
    try simp only [List.getElem_toArray, List.getElem_cons_zero, List.getElem_cons_succ, Act.put, List.setIfInBounds_toArray, List.set_cons_zero, List.set_cons_succ]
    refine wpAnyG_load (i := 7) (c := 8) (v := .agg x) rfl (by decide) ⟨by decide, by kernel_rfl⟩ (by kernel_rfl) (by kernel_rfl) (by kernel_rfl) (by kernel_rfl) (fun _ _ _ h => h) (yieldsIf_load_mid (by rfl) 42 _ rfl b 0 rfl x.toList _ (fun w hSw => Blk.range hSw.1) Try.underlying42 rfl (by rw [Array.length_toList]; exact hx.infoR)) (GateS.of hS1) (fun _ => ?_)
    try simp only [List.getElem_toArray, List.getElem_cons_zero, List.getElem_cons_succ, Act.put, List.setIfInBounds_toArray, List.set_cons_zero, List.set_cons_succ]
    refine wpAnyG_two (i := 1) (j := 8) (by kernel_rfl) rfl rfl (fun K' hK => ?_) (fun K' hK => ?_)
    · simp only [List.getElem_toArray, List.getElem_cons_zero, List.getElem_cons_succ]
      go_simp
      have hblau1 : Below ud.heap.size ud (ud.alloc (.cells #[] 42)) := (Below.refl ud.heap.size ud).alloc (Nat.le_refl _) _
      have ownau1 : (ud.alloc (.cells #[] 42)).ownsRow b 42 18 (.slice (some ⟨ud.heap.size, 0, none⟩) 0 0) 0 [] := World.ownsRow.mono (World.ownsRow_lit ud #[] 0 (Nat.le_refl _) (by simp [maxLen]) rfl) hbw
      obtain ⟨au1, hau1⟩ : ∃ u', ud.alloc (.cells #[] 42) = u' := ⟨_, rfl⟩
      rw [hau1] at hblau1 ownau1 ⊢
      clear hau1
      have Tau1 := hT1.below hblau1
      have Sau1 : Blk au1 b 42 x ∧ au1.cell? ⟨g, 1, none⟩ = some (.slice A l.length c) := ⟨hS1.1.below hblau1 hS1.1.lt, Tau1.1.cell 1⟩
      have Dau1 := hBd.trans (hblau1.mono hbw)
      have leau1 := Nat.le_trans hbw hblau1.size
      have kaau1 : b < ud.heap.size := hS1.1.lt
      refine hK.out _ _ (GateS.of Sau1) (fun _ => ?_)
      clear hK K'
      try simp only [List.getElem_toArray, List.getElem_cons_zero, List.getElem_cons_succ, Act.put, List.setIfInBounds_toArray, List.set_cons_zero, List.set_cons_succ]
      refine wpAnyG_two (i := 6) (j := 8) (by kernel_rfl) rfl rfl (fun K' hK => ?_) (fun K' hK => ?_)
      · refine step_append_any _ rfl _ _ 27 rfl b 42 i0 (.agg zeroA) 18 184 Try.underlying27 hi hz0 hz1 hz2 rfl (by decide) _ _ _ rfl ownau1 _ _ _ _ _ rfl (Reads.of_own Tau1.2.1) (flat_one l Tau1.2.2) (by unfold maxLen; omega) (by omega) leau1 ?_
        intro vaau2 aau2 ownaau2 graau2 _
        rw [Nat.zero_add, List.nil_append] at ownaau2
        obtain ⟨Aaau2, caau2, rfl⟩ := own_slice ownaau2
        have Taau2 := radd_far (W0 := b) Tau1 hgw hvw (fun k hk => (ownau1.lt k hk).1) graau2
        have hOaau2 : Only (fun i => (Value.slice (some ⟨ud.heap.size, 0, none⟩) 0 0).ownBlock = some i) au1 aau2 := (Only.refl _ _).grown graau2 (fun i hi => Or.inl hi)
        have Saau2 : Blk aau2 b 42 x ∧ aau2.cell? ⟨g, 1, none⟩ = some (.slice A l.length c) := ⟨Sau1.1.only hOaau2 (fun hf => by have hf' : ud.heap.size = b := (by injection hf); omega), Taau2.1.cell 1⟩
        have Daau2 := Dau1.trans (hOaau2.below leau1 (fun i hi hf => by have := (ownau1.lt i hf).1; omega))
        have leaau2 := Nat.le_trans leau1 graau2.size
        refine hK.out _ _ (GateS.of Saau2) (fun _ => ?_)
        clear hK K' graau2 hOaau2
        try simp only [List.getElem_toArray, List.getElem_cons_zero, List.getElem_cons_succ, Act.put, List.setIfInBounds_toArray, List.set_cons_zero, List.set_cons_succ]
        refine wpAnyG_one (i := 8) (by kernel_rfl) rfl (fun K' hK => ?_)
        simp only [List.getElem_toArray, List.getElem_cons_zero, List.getElem_cons_succ]
        go_simp
        have hblaau3 : Below aau2.heap.size aau2 (aau2.alloc (.cells x 42)) := (Below.refl aau2.heap.size aau2).alloc (Nat.le_refl _) _
        have blkaau3 : Blk (aau2.alloc (.cells x 42)) aau2.heap.size 42 x := Blk.new aau2 _ x
        obtain ⟨aau3, haau3⟩ : ∃ u', aau2.alloc (.cells x 42) = u' := ⟨_, rfl⟩
        rw [haau3] at hblaau3 blkaau3 ⊢
        clear haau3
        have Taau3 := Taau2.below hblaau3
        have Saau3 : Blk aau3 b 42 x ∧ aau3.cell? ⟨g, 1, none⟩ = some (.slice A l.length c) := ⟨Saau2.1.below hblaau3 Saau2.1.lt, Taau3.1.cell 1⟩
        have Daau3 := Daau2.trans (hblaau3.mono leaau2)
        have leaau3 := Nat.le_trans leaau2 hblaau3.size
        have ownaau3 := own_stays2 ownaau2 hblaau3
        refine hK.out _ _ (GateS.of Saau3) (fun _ => ?_)
        clear hK K'
        try simp only [List.getElem_toArray, List.getElem_cons_zero, List.getElem_cons_succ, Act.put, List.setIfInBounds_toArray, List.set_cons_zero, List.set_cons_succ]
        refine wpAnyG_one (i := 9) (by kernel_rfl) rfl (fun K' hK => ?_)
        have hraau4 := reads_blk blkaau3 hx
        refine step_append_any _ rfl _ _ 27 rfl b 42 i0 (.agg zeroA) 18 184 Try.underlying27 hi hz0 hz1 hz2 rfl (by decide) _ _ _ rfl ownaau3 _ _ _ _ _ rfl hraau4 (one_all hx) (by unfold maxLen; omega) (by omega) leaau3 ?_
        intro vaau4 aau4 ownaau4 graau4 _
        have Taau4 := radd_far (W0 := b) Taau3 hgw hvw (fun k hk => (ownaau3.lt k hk).1) graau4
        have Daau4 := Daau3.trans (((Only.refl (fun i => _ = some i) _).grown graau4 (fun i hi => Or.inl hi)).below leaau3 (fun i hi hf => by have := (ownaau3.lt i hf).1; omega))
        obtain ⟨Aaau4, caau4, rfl⟩ := own_slice ownaau4
        rw [← hb] at Daau4 ownaau4 hgw
        have hend := radd_end Taau4 hx hgw Daau4 hBB ownaau4
        have hc4 : aau4.cell? ⟨g, 1, none⟩ = some (.slice A l.length c) := Taau4.1.cell 1
        have hf4 := Taau4.1.frozen 1
        have HEND := Lib.hid hend
        clear hend
        refine hK.out _ _ (GateS.vac (of_decide_eq_true (by kernel_rfl))) (fun _ => ?_)
        clear hK K' hraau4 graau4 hi hz0 hz1 hz2 Taau4 ownaau4 hfold hsz Taau3 Saau3 ownaau3
        try simp only [List.getElem_toArray, List.getElem_cons_zero, List.getElem_cons_succ, Act.put, List.setIfInBounds_toArray, List.set_cons_zero, List.set_cons_succ]
        refine wpAnyG_open _ _ _ _ (of_decide_eq_true (by kernel_rfl)) ?_
        refine wpAny_take (i := 10) (v := ?vv6) rfl (by kernel_rfl) (by kernel_rfl) (by kernel_rfl) (fun _ _ _ h => h) (Or.inl ⟨by rfl, ?hy6⟩) ?_
        case hy6 => intro w; go_simp; try with_reducible rfl
        try simp only [List.getElem_toArray, List.getElem_cons_zero, List.getElem_cons_succ, Act.put, List.setIfInBounds_toArray, List.set_cons_zero, List.set_cons_succ]
        refine wpAny_take (i := 11) (v := ?vv7) rfl (by kernel_rfl) (by kernel_rfl) (by kernel_rfl) (fun _ _ _ h => h) (Or.inl ⟨by rfl, ?hy7⟩) ?_
        case hy7 => intro w; go_simp; try with_reducible rfl
        try simp only [List.getElem_toArray, List.getElem_cons_zero, List.getElem_cons_succ, Act.put, List.setIfInBounds_toArray, List.set_cons_zero, List.set_cons_succ]
        refine wpAny_ready (rs := [12]) (by kernel_rfl) (by simp) ?_
        refine AllReady.cons rfl (fun K hK => ?_) AllReady.nil
        simp only [List.getElem_toArray, List.getElem_cons_zero, List.getElem_cons_succ]
        go_simp
        refine hK _ _ ?_
        clear hK K hc4 hf4
        try simp only [List.getElem_toArray, List.getElem_cons_zero, List.getElem_cons_succ, Act.put, List.setIfInBounds_toArray, List.set_cons_zero, List.set_cons_succ]
        refine wpAny_done (by kernel_rfl) ?_ _
        go_wp2
        go_ret
        unfold RAddPost
        rw [if_neg (by omega)]
        exact ⟨_, rfl, HEND.out.1, HEND.out.2⟩
      · simp only [List.getElem_toArray, List.getElem_cons_zero, List.getElem_cons_succ]
        go_simp
        have hblabu2 : Below au1.heap.size au1 (au1.alloc (.cells x 42)) := (Below.refl au1.heap.size au1).alloc (Nat.le_refl _) _
        have blkabu2 : Blk (au1.alloc (.cells x 42)) au1.heap.size 42 x := Blk.new au1 _ x
        obtain ⟨abu2, habu2⟩ : ∃ u', au1.alloc (.cells x 42) = u' := ⟨_, rfl⟩
        rw [habu2] at hblabu2 blkabu2 ⊢
        clear habu2
        have Tabu2 := Tau1.below hblabu2
        have Sabu2 : Blk abu2 b 42 x ∧ abu2.cell? ⟨g, 1, none⟩ = some (.slice A l.length c) := ⟨Sau1.1.below hblabu2 Sau1.1.lt, Tabu2.1.cell 1⟩
        have Dabu2 := Dau1.trans (hblabu2.mono leau1)
        have leabu2 := Nat.le_trans leau1 hblabu2.size
        have ownabu2 := own_stays2 ownau1 hblabu2
        have knabu2 : au1.heap.size ≠ ud.heap.size := by have := (ownau1.lt ud.heap.size rfl).2; omega
        refine hK.out _ _ (GateS.of Sabu2) (fun _ => ?_)
        clear hK K'
        try simp only [List.getElem_toArray, List.getElem_cons_zero, List.getElem_cons_succ, Act.put, List.setIfInBounds_toArray, List.set_cons_zero, List.set_cons_succ]
        refine wpAnyG_one (i := 6) (by kernel_rfl) rfl (fun K' hK => ?_)
        refine step_append_any _ rfl _ _ 27 rfl b 42 i0 (.agg zeroA) 18 184 Try.underlying27 hi hz0 hz1 hz2 rfl (by decide) _ _ _ rfl ownabu2 _ _ _ _ _ rfl (Reads.of_own Tabu2.2.1) (flat_one l Tabu2.2.2) (by unfold maxLen; omega) (by omega) leabu2 ?_
        intro vabu3 abu3 ownabu3 grabu3 _
        rw [Nat.zero_add, List.nil_append] at ownabu3
        obtain ⟨Aabu3, cabu3, rfl⟩ := own_slice ownabu3
        have Tabu3 := radd_far (W0 := b) Tabu2 hgw hvw (fun k hk => (ownabu2.lt k hk).1) grabu3
        have hOabu3 : Only (fun i => (Value.slice (some ⟨ud.heap.size, 0, none⟩) 0 0).ownBlock = some i) abu2 abu3 := (Only.refl _ _).grown grabu3 (fun i hi => Or.inl hi)
        have Sabu3 : Blk abu3 b 42 x ∧ abu3.cell? ⟨g, 1, none⟩ = some (.slice A l.length c) := ⟨Sabu2.1.only hOabu3 (fun hf => by have hf' : ud.heap.size = b := (by injection hf); omega), Tabu3.1.cell 1⟩
        have Dabu3 := Dabu2.trans (hOabu3.below leabu2 (fun i hi hf => by have := (ownabu2.lt i hf).1; omega))
        have leabu3 := Nat.le_trans leabu2 grabu3.size
        have blkabu3 := blkabu2.only hOabu3 (fun hf => knabu2 (by injection hf with hf; exact hf.symm))
        refine hK.out _ _ (GateS.of Sabu3) (fun _ => ?_)
        clear hK K' grabu3 hOabu3
        try simp only [List.getElem_toArray, List.getElem_cons_zero, List.getElem_cons_succ, Act.put, List.setIfInBounds_toArray, List.set_cons_zero, List.set_cons_succ]
        refine wpAnyG_one (i := 9) (by kernel_rfl) rfl (fun K' hK => ?_)
        have hrabu4 := reads_blk blkabu3 hx
        refine step_append_any _ rfl _ _ 27 rfl b 42 i0 (.agg zeroA) 18 184 Try.underlying27 hi hz0 hz1 hz2 rfl (by decide) _ _ _ rfl ownabu3 _ _ _ _ _ rfl hrabu4 (one_all hx) (by unfold maxLen; omega) (by omega) leabu3 ?_
        intro vabu4 abu4 ownabu4 grabu4 _
        have Tabu4 := radd_far (W0 := b) Tabu3 hgw hvw (fun k hk => (ownabu3.lt k hk).1) grabu4
        have Dabu4 := Dabu3.trans (((Only.refl (fun i => _ = some i) _).grown grabu4 (fun i hi => Or.inl hi)).below leabu3 (fun i hi hf => by have := (ownabu3.lt i hf).1; omega))
        obtain ⟨Aabu4, cabu4, rfl⟩ := own_slice ownabu4
        rw [← hb] at Dabu4 ownabu4 hgw
        have hend := radd_end Tabu4 hx hgw Dabu4 hBB ownabu4
        have hc4 : abu4.cell? ⟨g, 1, none⟩ = some (.slice A l.length c) := Tabu4.1.cell 1
        have hf4 := Tabu4.1.frozen 1
        have HEND := Lib.hid hend
        clear hend
        refine hK.out _ _ (GateS.vac (of_decide_eq_true (by kernel_rfl))) (fun _ => ?_)
        clear hK K' hrabu4 grabu4 hi hz0 hz1 hz2 Tabu4 ownabu4 hfold hsz Tabu3 Sabu3 ownabu3
        try simp only [List.getElem_toArray, List.getElem_cons_zero, List.getElem_cons_succ, Act.put, List.setIfInBounds_toArray, List.set_cons_zero, List.set_cons_succ]
        refine wpAnyG_open _ _ _ _ (of_decide_eq_true (by kernel_rfl)) ?_
        refine wpAny_take (i := 10) (v := ?vv8) rfl (by kernel_rfl) (by kernel_rfl) (by kernel_rfl) (fun _ _ _ h => h) (Or.inl ⟨by rfl, ?hy8⟩) ?_
        case hy8 => intro w; go_simp; try with_reducible rfl
        try simp only [List.getElem_toArray, List.getElem_cons_zero, List.getElem_cons_succ, Act.put, List.setIfInBounds_toArray, List.set_cons_zero, List.set_cons_succ]
        refine wpAny_take (i := 11) (v := ?vv9) rfl (by kernel_rfl) (by kernel_rfl) (by kernel_rfl) (fun _ _ _ h => h) (Or.inl ⟨by rfl, ?hy9⟩) ?_
        case hy9 => intro w; go_simp; try with_reducible rfl
        try simp only [List.getElem_toArray, List.getElem_cons_zero, List.getElem_cons_succ, Act.put, List.setIfInBounds_toArray, List.set_cons_zero, List.set_cons_succ]
        refine wpAny_ready (rs := [12]) (by kernel_rfl) (by simp) ?_
        refine AllReady.cons rfl (fun K hK => ?_) AllReady.nil
        simp only [List.getElem_toArray, List.getElem_cons_zero, List.getElem_cons_succ]
        go_simp
        refine hK _ _ ?_
        clear hK K hc4 hf4
        try simp only [List.getElem_toArray, List.getElem_cons_zero, List.getElem_cons_succ, Act.put, List.setIfInBounds_toArray, List.set_cons_zero, List.set_cons_succ]
        refine wpAny_done (by kernel_rfl) ?_ _
        go_wp2
        go_ret
        unfold RAddPost
        rw [if_neg (by omega)]
        exact ⟨_, rfl, HEND.out.1, HEND.out.2⟩
    · simp only [List.getElem_toArray, List.getElem_cons_zero, List.getElem_cons_succ]
      go_simp
      have hblbu1 : Below ud.heap.size ud (ud.alloc (.cells x 42)) := (Below.refl ud.heap.size ud).alloc (Nat.le_refl _) _
      have blkbu1 : Blk (ud.alloc (.cells x 42)) ud.heap.size 42 x := Blk.new ud _ x
      obtain ⟨bu1, hbu1⟩ : ∃ u', ud.alloc (.cells x 42) = u' := ⟨_, rfl⟩
      rw [hbu1] at hblbu1 blkbu1 ⊢
      clear hbu1
      have Tbu1 := hT1.below hblbu1
      have Sbu1 : Blk bu1 b 42 x ∧ bu1.cell? ⟨g, 1, none⟩ = some (.slice A l.length c) := ⟨hS1.1.below hblbu1 hS1.1.lt, Tbu1.1.cell 1⟩
      have Dbu1 := hBd.trans (hblbu1.mono hbw)
      have lebu1 := Nat.le_trans hbw hblbu1.size
      refine hK.out _ _ (GateS.of Sbu1) (fun _ => ?_)
      clear hK K'
      try simp only [List.getElem_toArray, List.getElem_cons_zero, List.getElem_cons_succ, Act.put, List.setIfInBounds_toArray, List.set_cons_zero, List.set_cons_succ]
      refine wpAnyG_one (i := 1) (by kernel_rfl) rfl (fun K' hK => ?_)
      simp only [List.getElem_toArray, List.getElem_cons_zero, List.getElem_cons_succ]
      go_simp
      have hblbu2 : Below bu1.heap.size bu1 (bu1.alloc (.cells #[] 42)) := (Below.refl bu1.heap.size bu1).alloc (Nat.le_refl _) _
      have ownbu2 : (bu1.alloc (.cells #[] 42)).ownsRow b 42 18 (.slice (some ⟨bu1.heap.size, 0, none⟩) 0 0) 0 [] := World.ownsRow.mono (World.ownsRow_lit bu1 #[] 0 (Nat.le_refl _) (by simp [maxLen]) rfl) lebu1
      obtain ⟨bu2, hbu2⟩ : ∃ u', bu1.alloc (.cells #[] 42) = u' := ⟨_, rfl⟩
      rw [hbu2] at hblbu2 ownbu2 ⊢
      clear hbu2
      have Tbu2 := Tbu1.below hblbu2
      have Sbu2 : Blk bu2 b 42 x ∧ bu2.cell? ⟨g, 1, none⟩ = some (.slice A l.length c) := ⟨Sbu1.1.below hblbu2 Sbu1.1.lt, Tbu2.1.cell 1⟩
      have Dbu2 := Dbu1.trans (hblbu2.mono lebu1)
      have lebu2 := Nat.le_trans lebu1 hblbu2.size
      have kabu2 : b < bu1.heap.size := Sbu1.1.lt
      have blkbu2 := blkbu1.below hblbu2 blkbu1.lt
      have knbu2 : ud.heap.size ≠ bu1.heap.size := by have := blkbu1.lt; omega
      refine hK.out _ _ (GateS.of Sbu2) (fun _ => ?_)
      clear hK K'
      try simp only [List.getElem_toArray, List.getElem_cons_zero, List.getElem_cons_succ, Act.put, List.setIfInBounds_toArray, List.set_cons_zero, List.set_cons_succ]
      refine wpAnyG_one (i := 6) (by kernel_rfl) rfl (fun K' hK => ?_)
      refine step_append_any _ rfl _ _ 27 rfl b 42 i0 (.agg zeroA) 18 184 Try.underlying27 hi hz0 hz1 hz2 rfl (by decide) _ _ _ rfl ownbu2 _ _ _ _ _ rfl (Reads.of_own Tbu2.2.1) (flat_one l Tbu2.2.2) (by unfold maxLen; omega) (by omega) lebu2 ?_
      intro vbu3 bu3 ownbu3 grbu3 _
      rw [Nat.zero_add, List.nil_append] at ownbu3
      obtain ⟨Abu3, cbu3, rfl⟩ := own_slice ownbu3
      have Tbu3 := radd_far (W0 := b) Tbu2 hgw hvw (fun k hk => (ownbu2.lt k hk).1) grbu3
      have hObu3 : Only (fun i => (Value.slice (some ⟨bu1.heap.size, 0, none⟩) 0 0).ownBlock = some i) bu2 bu3 := (Only.refl _ _).grown grbu3 (fun i hi => Or.inl hi)
      have Sbu3 : Blk bu3 b 42 x ∧ bu3.cell? ⟨g, 1, none⟩ = some (.slice A l.length c) := ⟨Sbu2.1.only hObu3 (fun hf => by have hf' : bu1.heap.size = b := (by injection hf); omega), Tbu3.1.cell 1⟩
      have Dbu3 := Dbu2.trans (hObu3.below lebu2 (fun i hi hf => by have := (ownbu2.lt i hf).1; omega))
      have lebu3 := Nat.le_trans lebu2 grbu3.size
      have blkbu3 := blkbu2.only hObu3 (fun hf => knbu2 (by injection hf with hf; exact hf.symm))
      refine hK.out _ _ (GateS.of Sbu3) (fun _ => ?_)
      clear hK K' grbu3 hObu3
      try simp only [List.getElem_toArray, List.getElem_cons_zero, List.getElem_cons_succ, Act.put, List.setIfInBounds_toArray, List.set_cons_zero, List.set_cons_succ]
      refine wpAnyG_one (i := 9) (by kernel_rfl) rfl (fun K' hK => ?_)
      have hrbu4 := reads_blk blkbu3 hx
      refine step_append_any _ rfl _ _ 27 rfl b 42 i0 (.agg zeroA) 18 184 Try.underlying27 hi hz0 hz1 hz2 rfl (by decide) _ _ _ rfl ownbu3 _ _ _ _ _ rfl hrbu4 (one_all hx) (by unfold maxLen; omega) (by omega) lebu3 ?_
      intro vbu4 bu4 ownbu4 grbu4 _
      have Tbu4 := radd_far (W0 := b) Tbu3 hgw hvw (fun k hk => (ownbu3.lt k hk).1) grbu4
      have Dbu4 := Dbu3.trans (((Only.refl (fun i => _ = some i) _).grown grbu4 (fun i hi => Or.inl hi)).below lebu3 (fun i hi hf => by have := (ownbu3.lt i hf).1; omega))
      obtain ⟨Abu4, cbu4, rfl⟩ := own_slice ownbu4
      rw [← hb] at Dbu4 ownbu4 hgw
      have hend := radd_end Tbu4 hx hgw Dbu4 hBB ownbu4
      have hc4 : bu4.cell? ⟨g, 1, none⟩ = some (.slice A l.length c) := Tbu4.1.cell 1
      have hf4 := Tbu4.1.frozen 1
      have HEND := Lib.hid hend
      clear hend
      refine hK.out _ _ (GateS.vac (of_decide_eq_true (by kernel_rfl))) (fun _ => ?_)
      clear hK K' hrbu4 grbu4 hi hz0 hz1 hz2 Tbu4 ownbu4 hfold hsz Tbu3 Sbu3 ownbu3
      try simp only [List.getElem_toArray, List.getElem_cons_zero, List.getElem_cons_succ, Act.put, List.setIfInBounds_toArray, List.set_cons_zero, List.set_cons_succ]
      refine wpAnyG_open _ _ _ _ (of_decide_eq_true (by kernel_rfl)) ?_
      refine wpAny_take (i := 10) (v := ?vv10) rfl (by kernel_rfl) (by kernel_rfl) (by kernel_rfl) (fun _ _ _ h => h) (Or.inl ⟨by rfl, ?hy10⟩) ?_
      case hy10 => intro w; go_simp; try with_reducible rfl
      try simp only [List.getElem_toArray, List.getElem_cons_zero, List.getElem_cons_succ, Act.put, List.setIfInBounds_toArray, List.set_cons_zero, List.set_cons_succ]
      refine wpAny_take (i := 11) (v := ?vv11) rfl (by kernel_rfl) (by kernel_rfl) (by kernel_rfl) (fun _ _ _ h => h) (Or.inl ⟨by rfl, ?hy11⟩) ?_
      case hy11 => intro w; go_simp; try with_reducible rfl
      try simp only [List.getElem_toArray, List.getElem_cons_zero, List.getElem_cons_succ, Act.put, List.setIfInBounds_toArray, List.set_cons_zero, List.set_cons_succ]
      refine wpAny_ready (rs := [12]) (by kernel_rfl) (by simp) ?_
      refine AllReady.cons rfl (fun K hK => ?_) AllReady.nil
      simp only [List.getElem_toArray, List.getElem_cons_zero, List.getElem_cons_succ]
      go_simp
      refine hK _ _ ?_
      clear hK K hc4 hf4
      try simp only [List.getElem_toArray, List.getElem_cons_zero, List.getElem_cons_succ, Act.put, List.setIfInBounds_toArray, List.set_cons_zero, List.set_cons_succ]
      refine wpAny_done (by kernel_rfl) ?_ _
      go_wp2
      go_ret
      unfold RAddPost
      rw [if_neg (by omega)]
      exact ⟨_, rfl, HEND.out.1, HEND.out.2⟩
    -- NEG
end Go.Proofs.Ytigjipjkollohaa.G
