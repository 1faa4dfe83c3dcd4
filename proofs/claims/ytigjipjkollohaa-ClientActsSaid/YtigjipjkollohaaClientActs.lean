/-
  The walk of ClientActs.
-/
import Derived.Test.YtigjipjkollohaaActs
namespace Go.Proofs.Ytigjipjkollohaa.G
open Go.RowKit

theorem Try.callTAdd (args : Array Value) (w : World) : (callFunc 10 args).run Try.prog w = .ok (.enter 10 args) w := run_enter Try.func10 (by kernel_rfl) rfl args w
theorem Try.callMAdd (args : Array Value) (w : World) : (callFunc 11 args).run Try.prog w = .ok (.enter 11 args) w := run_enter Try.func11 (by kernel_rfl) rfl args w
theorem Try.callOf (args : Array Value) (w : World) : (callFunc 14 args).run Try.prog w = .ok (.enter 14 args) w := run_enter Try.func14 (by kernel_rfl) rfl args w
theorem Try.callTDone (args : Array Value) (w : World) : (callFunc 16 args).run Try.prog w = .ok (.enter 16 args) w := run_enter Try.func16 (by kernel_rfl) rfl args w
theorem Try.callMDone (args : Array Value) (w : World) : (callFunc 15 args).run Try.prog w = .ok (.enter 15 args) w := run_enter Try.func15 (by kernel_rfl) rfl args w
theorem Try.callTLate (args : Array Value) (w : World) : (callFunc 17 args).run Try.prog w = .ok (.enter 17 args) w := run_enter Try.func17 (by kernel_rfl) rfl args w
theorem Try.callMLate (args : Array Value) (w : World) : (callFunc 18 args).run Try.prog w = .ok (.enter 18 args) w := run_enter Try.func18 (by kernel_rfl) rfl args w
theorem Try.callHas (args : Array Value) (w : World) : (callFunc 19 args).run Try.prog w = .ok (.enter 19 args) w := run_enter Try.func19 (by kernel_rfl) rfl args w
theorem Try.callLen (args : Array Value) (w : World) : (callFunc 20 args).run Try.prog w = .ok (.enter 20 args) w := run_enter Try.func20 (by kernel_rfl) rfl args w
theorem Try.callSame (args : Array Value) (w : World) : (callFunc 13 args).run Try.prog w = .ok (.enter 13 args) w := run_enter Try.func13 (by kernel_rfl) rfl args w

set_option maxRecDepth 200000 in
set_option maxHeartbeats 20000000 in
theorem walkClientActs (most : Int) (A : Option Addr) (n c : Nat) (zs : List (Array Value)) (w : World) (hl : n = zs.length) (hr : Reads w w.heap.size 21 A n (zs.flatMap Array.toList))
    (hz : ∀ z ∈ zs, ∃ kind nn dd x M, ActIn w z kind nn dd x M) :
    Calls Try.prog 3 #[.int .i64 most, .slice A n c] w fun e w' => e = .returned (.bool true) ∧ Below w.heap.size w w' := by
  subst hl
  by_cases h60 : 60 < zs.length
  · go_enter Try.func3, Try.ntmps3
    go_wp2_with fail
    refine (awake_any _).mono ?_
    rintro e w1 ⟨rfl, hB⟩
    go_wp2
    go_ret
    exact ⟨rfl, hB⟩
  · go_enter Try.func3, Try.ntmps3
    go_wp2_with fail
    refine (new_any most _).mono ?_
    rintro e w1 ⟨g, rfl, hT1, hB1, hg⟩
    have hBA : Below w1.heap.size w1 (w1.alloc (.cells #[.int .i64 most, .slice none 0 0] 29)) := (Below.refl _ _).alloc (Nat.le_refl _) _
    have hA0 : ActsAt w (w1.alloc (.cells #[.int .i64 most, .slice none 0 0] 29)) g w1.heap.size most (.slice none 0 0) (.slice none 0 0) [] [] :=
      ⟨hT1.below hBA, ⟨Blk.new w1 _ _, World.ownsRow_nil _ _ _ _, (fun x hx => by cases hx)⟩, (fun p hp => by cases hp), hB1.trans (hBA.mono hB1.size), hg, hB1.size⟩
    obtain ⟨gm, hgm⟩ : ∃ gm, w1.heap.size = gm := ⟨_, rfl⟩
    obtain ⟨wA, hwA⟩ : ∃ wA, w1.alloc (.cells #[.int .i64 most, .slice none 0 0] 29) = wA := ⟨_, rfl⟩
    rw [hgm, hwA] at hA0
    have HA0 := Lib.hid hA0
    clear hT1 hB1 hg hBA hA0
    go_wp2
    go_loopw [7] (fun i wr => ∃ (k : Nat) (v vm : Value) (l r : List Pr), k ≤ zs.length ∧ i = .int .i64 (k : Int) ∧ ActsAt w wr g gm most v vm l r ∧ says l = says r ∧ l.length ≤ k) (fun i _ => zs.length - (intOf i).toNat)
    case atStart => exact ⟨0, _, _, [], [], by omega, rfl, HA0.out, rfl, by simp⟩
    case round =>
      obtain ⟨k, v, vm, l, r, hk, rfl, hA, hsy, hlk⟩ := hrel
      clear hwA HA0 hgm
      by_cases hlt : k < zs.length
      · obtain ⟨ad, rfl, hcell⟩ := act_at hr rfl (fun z hz' => by obtain ⟨_, _, _, _, _, h⟩ := hz z hz'; exact h.size) hlt hA.below
        obtain ⟨kind, nn, dd, x, M, hact⟩ := hz _ (List.getElem_mem hlt)
        obtain ⟨z, hzk⟩ : ∃ z, zs[k] = z := ⟨_, rfl⟩
        rw [hzk] at hcell hact
        clear hzk
        have hzs := hact.size
        have hone := hact.one
        have hBA8 : Below wr.heap.size wr (wr.alloc (.cells z 37)) := (Below.refl _ _).alloc (Nat.le_refl _) _
        have hA8 := hA.keep hBA8
        have hblk := Blk.new wr 37 z
        have hmr := ask_range (act_range hact (Blk.range hblk))
        have hzz := heap_alloc_new wr (.cells zeroAct 37)
        have hset := World.setRow_alloc_new wr zeroAct z 37
        unfold zeroAct at hset
        have bi0 : (0 : Int) ≤ (k : Int) := by omega
        have bi1 : (k : Int) < (zs.length : Int) := by omega
        have HACT := Lib.hid hact
        have hxg := hact.g
        clear hact
        go_wp2_with (first | refine wpList_load_any rfl 37 _ rfl (ad.add (k * 21)) rfl z.toList _ hcell Try.underlying37 rfl (act_infoL hzs) ?_ | (refine wpList_store_row rfl 37 _ _ rfl wr.heap.size z rfl rfl 37 zeroAct hzz (act_info hzs) hzs.symm hone ?_; rw [hset]) | refine wpList_load_mid rfl 33 _ rfl wr.heap.size 5 rfl (x.toList.drop 4) _ hmr Try.underlying33 rfl (ask_info hxg) ?_)
        refine (small_any (askOf x) M.q M.a M.s M.d _ (msgIn_of HACT.out hA8.below)).mono ?_
        rintro e w2 ⟨b, rfl, hB2, hsm⟩
        have hA2 := hA8.keep hB2
        have hz2 := hblk.below hB2 hblk.lt
        obtain ⟨a8, ha8⟩ : ∃ a8, wr.heap.size = a8 := ⟨_, rfl⟩
        rw [ha8] at hz2 ⊢
        clear hA hA8 hblk hmr hzz hset hcell hBA8 hB2 ha8
        cases b
        · go_wp2_with fail
          refine (awake_any _).mono ?_
          rintro e w3 ⟨rfl, hB3⟩
          go_wp2
          go_ret
          exact ⟨rfl, hA2.below.trans (hB3.mono hA2.size)⟩
        · have hok : M.Ok := ⟨(hsm rfl).1, (hsm rfl).2.1, (hsm rfl).2.2.1, (hsm rfl).2.2.2, HACT.out.wfj, HACT.out.wfc⟩
          clear hsm
          have hck : w2.cell? ⟨a8, 0, none⟩ = some (.int .i64 kind) := (hz2.cell 0).trans HACT.out.kind
          have hl60 : l.length ≤ 60 := by omega
          have hlr := len_of_says hsy
          have HLR := Lib.hid hlr
          have HSY := Lib.hid hsy
          clear hlr hsy
          by_cases h1 : kind = 1
          · subst h1
            by_cases hfull : most ≤ (l.length : Int)
            · go_wp2_with fail
              have hA3 := hA2.keep (Below.refl w2.heap.size w2).drew
              have hS3 : Blk w2.drew a8 37 z := hz2.drew
              obtain ⟨u0, hu0⟩ : ∃ u, w2.drew = u := ⟨_, rfl⟩
              refine wp_region_gate (gate := [3, 7]) (S := fun w' => Blk w' a8 37 z) (by kernel_rfl) ?_
              rw [hu0] at hA3 hS3 ⊢
              clear hu0 hck hA2 hz2
              refine wpAnyG_take (i := 0) (v := ?vv1) rfl (by decide) (by kernel_rfl) (by kernel_rfl) (by kernel_rfl) (fun _ _ _ h => h) (Or.inl ⟨by rfl, ?hy1⟩) (GateS.of hS3) (fun _ => ?_)
              case hy1 => intro w; go_simp; try with_reducible rfl
              try simp only [List.getElem_toArray, List.getElem_cons_zero, Act.put, List.setIfInBounds_toArray, List.set_cons_zero, List.set_cons_succ]
              refine wpAnyG_take (i := 1) (v := ?vv2) rfl (by decide) (by kernel_rfl) (by kernel_rfl) (by kernel_rfl) (fun _ _ _ h => h) (Or.inl ⟨by rfl, ?hy2⟩) (GateS.of hS3) (fun _ => ?_)
              case hy2 => intro w; go_simp; try with_reducible rfl
              try simp only [List.getElem_toArray, List.getElem_cons_zero, List.getElem_cons_succ, Act.put, List.setIfInBounds_toArray, List.set_cons_zero, List.set_cons_succ]
              refine wpAnyG_load (i := 2) (c := 3) (v := .agg x) rfl (by decide) ⟨by decide, by kernel_rfl⟩ (by kernel_rfl) (by kernel_rfl) (by kernel_rfl) (by kernel_rfl) (fun _ _ _ h => h) (yieldsIf_load_mid (by rfl) 35 _ rfl a8 1 rfl x.toList _ (fun w hSw => act_range HACT.out (Blk.range hSw)) Try.underlying35 rfl (by rw [Array.length_toList]; exact hxg.info)) (GateS.of hS3) (fun _ => ?_)
              try simp only [List.getElem_toArray, List.getElem_cons_zero, List.getElem_cons_succ, Act.put, List.setIfInBounds_toArray, List.set_cons_zero, List.set_cons_succ]
              refine wpAnyG_take (i := 4) (v := ?vv3) rfl (by decide) (by kernel_rfl) (by kernel_rfl) (by kernel_rfl) (fun _ _ _ h => h) (Or.inl ⟨by rfl, ?hy3⟩) (GateS.of hS3) (fun _ => ?_)
              case hy3 => intro w; go_simp; try with_reducible rfl
              try simp only [List.getElem_toArray, List.getElem_cons_zero, List.getElem_cons_succ, Act.put, List.setIfInBounds_toArray, List.set_cons_zero, List.set_cons_succ]
              refine wpAnyG_take (i := 5) (v := ?vv4) rfl (by decide) (by kernel_rfl) (by kernel_rfl) (by kernel_rfl) (fun _ _ _ h => h) (Or.inl ⟨by rfl, ?hy4⟩) (GateS.of hS3) (fun _ => ?_)
              case hy4 => intro w; go_simp; try with_reducible rfl
              try simp only [List.getElem_toArray, List.getElem_cons_zero, List.getElem_cons_succ, Act.put, List.setIfInBounds_toArray, List.set_cons_zero, List.set_cons_succ]
              refine wpAnyG_load (i := 6) (c := 7) (v := .agg x) rfl (by decide) ⟨by decide, by kernel_rfl⟩ (by kernel_rfl) (by kernel_rfl) (by kernel_rfl) (by kernel_rfl) (fun _ _ _ h => h) (yieldsIf_load_mid (by rfl) 35 _ rfl a8 1 rfl x.toList _ (fun w hSw => act_range HACT.out (Blk.range hSw)) Try.underlying35 rfl (by rw [Array.length_toList]; exact hxg.info)) (GateS.of hS3) (fun _ => ?_)
              try simp only [List.getElem_toArray, List.getElem_cons_zero, List.getElem_cons_succ, Act.put, List.setIfInBounds_toArray, List.set_cons_zero, List.set_cons_succ]
              refine wpAnyG_one (i := 3) (by kernel_rfl) rfl (fun K' hK => ?_)
              refine step_call2 rfl 10 (.tmp 40) (.tmp 42) 24 35 rfl Try.callTAdd (y1 := .pointer (some ⟨g, 0, none⟩)) (y2 := .agg x) rfl rfl (add_any w.heap.size g (most0 most) v l x M u0 hA3.t hxg HACT.out.sc ((HACT.out.in_.below hA3.below).more hA3.size) hok (by omega) hA3.size) ?_
              intro e u1 hp
              unfold AddPost at hp
              rw [if_pos ((most0_le most l.length).2 hfull)] at hp
              obtain ⟨rfl, hB4⟩ := hp
              have hA4 := hA3.keep hB4
              have hS4 := hS3.below hB4 hS3.lt
              refine ⟨_, rfl, hK.out _ _ (GateS.of hS4) (fun _ => ?_)⟩
              clear hK K'
              try simp only [List.getElem_toArray, List.getElem_cons_zero, List.getElem_cons_succ, Act.put, List.setIfInBounds_toArray, List.set_cons_zero, List.set_cons_succ]
              clear hA3 hS3
              refine wpAnyG_one (i := 7) (by kernel_rfl) rfl (fun K' hK => ?_)
              refine step_call rfl 12 (.tmp 46) 35 rfl Try.callFlat (y := .agg x) rfl (flat_any x M u1 hxg HACT.out.sc) ?_
              rintro e u2 ⟨rfl, hB5⟩
              have hA5 := hA4.keep hB5
              refine ⟨_, rfl, hK.out _ _ (GateS.vac (of_decide_eq_true (by kernel_rfl))) (fun _ => ?_)⟩
              clear hK K'
              try simp only [List.getElem_toArray, List.getElem_cons_zero, List.getElem_cons_succ, Act.put, List.setIfInBounds_toArray, List.set_cons_zero, List.set_cons_succ]
              clear hA4 hS4 hB5
              refine wpAnyG_one (i := 8) (by kernel_rfl) rfl (fun K' hK => ?_)
              refine step_call2 rfl 11 (.tmp 44) (.tmp 47) 26 42 rfl Try.callMAdd (y1 := .pointer (some ⟨gm, 0, none⟩)) (y2 := .agg x) rfl rfl (radd_any w.heap.size gm most vm (rows r) x u2 hA5.m hxg (by rw [rows_length, ← HLR.out]; omega) hA5.size) ?_
              intro e u3 hp
              unfold RAddPost at hp
              rw [rows_length, ← HLR.out] at hp
              rw [if_pos hfull] at hp
              obtain ⟨rfl, hB6⟩ := hp
              have hA6 := hA5.keep hB6
              refine ⟨_, rfl, hK.out _ _ (GateS.vac (of_decide_eq_true (by kernel_rfl))) (fun _ => ?_)⟩
              clear hK K'
              try simp only [List.getElem_toArray, List.getElem_cons_zero, List.getElem_cons_succ, Act.put, List.setIfInBounds_toArray, List.set_cons_zero, List.set_cons_succ]
              clear hA5
              refine wpAnyG_open _ _ _ _ (of_decide_eq_true (by kernel_rfl)) ?_
              refine wpAny_take (i := 9) (v := ?vv5) rfl (by kernel_rfl) (by kernel_rfl) (by kernel_rfl) (fun _ _ _ h => h) (Or.inl ⟨by rfl, ?hy5⟩) ?_
              case hy5 => intro w; go_simp; try with_reducible rfl
              try simp only [List.getElem_toArray, List.getElem_cons_zero, List.getElem_cons_succ, Act.put, List.setIfInBounds_toArray, List.set_cons_zero, List.set_cons_succ]
              refine wpAny_done (by kernel_rfl) ?_ _
              have hfin := hA6
              have hsame : says (l) = says (r) := HSY.out
              have hle : (l).length ≤ k + 1 := by omega
              obtain ⟨lf, hlf⟩ : ∃ lf, (l) = lf := ⟨_, rfl⟩
              obtain ⟨rf, hrf⟩ : ∃ rf, (r) = rf := ⟨_, rfl⟩
              rw [hlf, hrf] at hfin hsame
              rw [hlf] at hle
              have hlen := len_of_says hsame
              obtain ⟨Am, cm, hvm⟩ := own_slice hfin.m.2.1
              rw [hvm, rows_length, ← hlen] at hfin
              have HF := Lib.hid hfin
              have HSAME := Lib.hid hsame
              clear hfin hsame hlen hlf hrf hvm
              go_wp2_with fail
              have hF3 := HF.out.keep (Below.refl (u3).heap.size (u3)).drew
              obtain ⟨uf, huf⟩ : ∃ u', (u3).drew = u' := ⟨_, rfl⟩
              have hcg : uf.cell? ⟨gm, 1, none⟩ = some (.slice Am lf.length cm) := by rw [← huf]; exact hF3.m.1.cell 1
              refine wp_region_gate (gate := [6]) (S := fun w' => w'.cell? ⟨gm, 1, none⟩ = some (.slice Am lf.length cm)) (by kernel_rfl) ?_
              rw [huf] at hF3 ⊢
              clear huf HF
              refine wpAnyG_take (i := 0) (v := ?vv6) rfl (by decide) (by kernel_rfl) (by kernel_rfl) (by kernel_rfl) (fun _ _ _ h => h) (Or.inl ⟨by rfl, ?hy6⟩) (GateS.of hcg) (fun _ => ?_)
              case hy6 => intro w; go_simp; try with_reducible rfl
              try simp only [List.getElem_toArray, List.getElem_cons_zero, Act.put, List.setIfInBounds_toArray, List.set_cons_zero, List.set_cons_succ]
              refine wpAnyG_take (i := 2) (v := ?vv7) rfl (by decide) (by kernel_rfl) (by kernel_rfl) (by kernel_rfl) (fun _ _ _ h => h) (Or.inl ⟨by rfl, ?hy7⟩) (GateS.of hcg) (fun _ => ?_)
              case hy7 => intro w; go_simp; try with_reducible rfl
              try simp only [List.getElem_toArray, List.getElem_cons_zero, List.getElem_cons_succ, Act.put, List.setIfInBounds_toArray, List.set_cons_zero, List.set_cons_succ]
              refine wpAnyG_take (i := 3) (v := ?vv8) rfl (by decide) (by kernel_rfl) (by kernel_rfl) (by kernel_rfl) (fun _ _ _ h => h) (Or.inl ⟨by rfl, ?hy8⟩) (GateS.of hcg) (fun _ => ?_)
              case hy8 => intro w; go_simp; try with_reducible rfl
              try simp only [List.getElem_toArray, List.getElem_cons_zero, List.getElem_cons_succ, Act.put, List.setIfInBounds_toArray, List.set_cons_zero, List.set_cons_succ]
              refine wpAnyG_take (i := 4) (v := ?vv9) rfl (by decide) (by kernel_rfl) (by kernel_rfl) (by kernel_rfl) (fun _ _ _ h => h) (Or.inl ⟨by rfl, ?hy9⟩) (GateS.of hcg) (fun _ => ?_)
              case hy9 => intro w; go_simp; try with_reducible rfl
              try simp only [List.getElem_toArray, List.getElem_cons_zero, List.getElem_cons_succ, Act.put, List.setIfInBounds_toArray, List.set_cons_zero, List.set_cons_succ]
              refine wpAnyG_load (i := 5) (c := 6) (v := ?vv10) rfl (by decide) ⟨by decide, by kernel_rfl⟩ (by kernel_rfl) (by kernel_rfl) (by kernel_rfl) (by kernel_rfl) (fun _ _ _ h => h) (Or.inl ⟨by rfl, ?hy10⟩) (GateS.of hcg) (fun _ => ?_)
              case hy10 => intro w hSw; go_simp; try with_reducible rfl
              try simp only [List.getElem_toArray, List.getElem_cons_zero, List.getElem_cons_succ, Act.put, List.setIfInBounds_toArray, List.set_cons_zero, List.set_cons_succ]
              refine wpAnyG_two (i := 1) (j := 6) (by kernel_rfl) rfl rfl (fun K' hK => ?_) (fun K' hK => ?_)
              · refine step_call rfl 20 (.tmp 103) 24 rfl Try.callLen (y := .pointer (some ⟨g, 0, none⟩)) rfl (tlen_any w.heap.size g (most0 most) _ lf uf hF3.t) ?_
                rintro e u9 ⟨rfl, rfl⟩
                refine ⟨_, rfl, hK.out _ _ (GateS.of hcg) (fun _ => ?_)⟩
                clear hK K'
                try simp only [List.getElem_toArray, List.getElem_cons_zero, List.getElem_cons_succ, Act.put, List.setIfInBounds_toArray, List.set_cons_zero, List.set_cons_succ]
                refine wpAnyG_one (i := 6) (by kernel_rfl) rfl (fun K' hK => ?_)
                simp only [List.getElem_toArray, List.getElem_cons_zero, List.getElem_cons_succ]
                go_simp
                refine hK.out _ _ (GateS.vac (of_decide_eq_true (by kernel_rfl))) (fun _ => ?_)
                clear hK K'
                try simp only [List.getElem_toArray, List.getElem_cons_zero, List.getElem_cons_succ, Act.put, List.setIfInBounds_toArray, List.set_cons_zero, List.set_cons_succ]
                refine wpAnyG_open _ _ _ _ (of_decide_eq_true (by kernel_rfl)) ?_
                refine wpAny_take (i := 7) (v := ?vv11) rfl (by kernel_rfl) (by kernel_rfl) (by kernel_rfl) (fun _ _ _ h => h) (Or.inl ⟨by rfl, ?hy11⟩) ?_
                case hy11 => intro w; go_simp; try with_reducible rfl
                try simp only [List.getElem_toArray, List.getElem_cons_zero, List.getElem_cons_succ, Act.put, List.setIfInBounds_toArray, List.set_cons_zero, List.set_cons_succ]
                refine wpAny_done (by kernel_rfl) ?_ _
                go_wp2
                go_roundw
                case rel => exact ⟨k + 1, _, _, lf, rf, by omega, by go_num, hF3, HSAME.out, hle⟩
                case measure => simp [intOf]; omega
              · simp only [List.getElem_toArray, List.getElem_cons_zero, List.getElem_cons_succ]
                go_simp
                refine hK.out _ _ (GateS.vac (of_decide_eq_true (by kernel_rfl))) (fun _ => ?_)
                clear hK K'
                try simp only [List.getElem_toArray, List.getElem_cons_zero, List.getElem_cons_succ, Act.put, List.setIfInBounds_toArray, List.set_cons_zero, List.set_cons_succ]
                refine wpAnyG_one (i := 1) (by kernel_rfl) rfl (fun K' hK => ?_)
                refine step_call rfl 20 (.tmp 103) 24 rfl Try.callLen (y := .pointer (some ⟨g, 0, none⟩)) rfl (tlen_any w.heap.size g (most0 most) _ lf uf hF3.t) ?_
                rintro e u9 ⟨rfl, rfl⟩
                refine ⟨_, rfl, hK.out _ _ (GateS.vac (of_decide_eq_true (by kernel_rfl))) (fun _ => ?_)⟩
                clear hK K'
                try simp only [List.getElem_toArray, List.getElem_cons_zero, List.getElem_cons_succ, Act.put, List.setIfInBounds_toArray, List.set_cons_zero, List.set_cons_succ]
                refine wpAnyG_open _ _ _ _ (of_decide_eq_true (by kernel_rfl)) ?_
                refine wpAny_take (i := 7) (v := ?vv12) rfl (by kernel_rfl) (by kernel_rfl) (by kernel_rfl) (fun _ _ _ h => h) (Or.inl ⟨by rfl, ?hy12⟩) ?_
                case hy12 => intro w; go_simp; try with_reducible rfl
                try simp only [List.getElem_toArray, List.getElem_cons_zero, List.getElem_cons_succ, Act.put, List.setIfInBounds_toArray, List.set_cons_zero, List.set_cons_succ]
                refine wpAny_done (by kernel_rfl) ?_ _
                go_wp2
                go_roundw
                case rel => exact ⟨k + 1, _, _, lf, rf, by omega, by go_num, hF3, HSAME.out, hle⟩
                case measure => simp [intOf]; omega
            · go_wp2_with fail
              have hA3 := hA2.keep (Below.refl w2.heap.size w2).drew
              have hS3 : Blk w2.drew a8 37 z := hz2.drew
              obtain ⟨u0, hu0⟩ : ∃ u, w2.drew = u := ⟨_, rfl⟩
              refine wp_region_gate (gate := [3, 7]) (S := fun w' => Blk w' a8 37 z) (by kernel_rfl) ?_
              rw [hu0] at hA3 hS3 ⊢
              clear hu0 hck hA2 hz2
              refine wpAnyG_take (i := 0) (v := ?vv13) rfl (by decide) (by kernel_rfl) (by kernel_rfl) (by kernel_rfl) (fun _ _ _ h => h) (Or.inl ⟨by rfl, ?hy13⟩) (GateS.of hS3) (fun _ => ?_)
              case hy13 => intro w; go_simp; try with_reducible rfl
              try simp only [List.getElem_toArray, List.getElem_cons_zero, Act.put, List.setIfInBounds_toArray, List.set_cons_zero, List.set_cons_succ]
              refine wpAnyG_take (i := 1) (v := ?vv14) rfl (by decide) (by kernel_rfl) (by kernel_rfl) (by kernel_rfl) (fun _ _ _ h => h) (Or.inl ⟨by rfl, ?hy14⟩) (GateS.of hS3) (fun _ => ?_)
              case hy14 => intro w; go_simp; try with_reducible rfl
              try simp only [List.getElem_toArray, List.getElem_cons_zero, List.getElem_cons_succ, Act.put, List.setIfInBounds_toArray, List.set_cons_zero, List.set_cons_succ]
              refine wpAnyG_load (i := 2) (c := 3) (v := .agg x) rfl (by decide) ⟨by decide, by kernel_rfl⟩ (by kernel_rfl) (by kernel_rfl) (by kernel_rfl) (by kernel_rfl) (fun _ _ _ h => h) (yieldsIf_load_mid (by rfl) 35 _ rfl a8 1 rfl x.toList _ (fun w hSw => act_range HACT.out (Blk.range hSw)) Try.underlying35 rfl (by rw [Array.length_toList]; exact hxg.info)) (GateS.of hS3) (fun _ => ?_)
              try simp only [List.getElem_toArray, List.getElem_cons_zero, List.getElem_cons_succ, Act.put, List.setIfInBounds_toArray, List.set_cons_zero, List.set_cons_succ]
              refine wpAnyG_take (i := 4) (v := ?vv15) rfl (by decide) (by kernel_rfl) (by kernel_rfl) (by kernel_rfl) (fun _ _ _ h => h) (Or.inl ⟨by rfl, ?hy15⟩) (GateS.of hS3) (fun _ => ?_)
              case hy15 => intro w; go_simp; try with_reducible rfl
              try simp only [List.getElem_toArray, List.getElem_cons_zero, List.getElem_cons_succ, Act.put, List.setIfInBounds_toArray, List.set_cons_zero, List.set_cons_succ]
              refine wpAnyG_take (i := 5) (v := ?vv16) rfl (by decide) (by kernel_rfl) (by kernel_rfl) (by kernel_rfl) (fun _ _ _ h => h) (Or.inl ⟨by rfl, ?hy16⟩) (GateS.of hS3) (fun _ => ?_)
              case hy16 => intro w; go_simp; try with_reducible rfl
              try simp only [List.getElem_toArray, List.getElem_cons_zero, List.getElem_cons_succ, Act.put, List.setIfInBounds_toArray, List.set_cons_zero, List.set_cons_succ]
              refine wpAnyG_load (i := 6) (c := 7) (v := .agg x) rfl (by decide) ⟨by decide, by kernel_rfl⟩ (by kernel_rfl) (by kernel_rfl) (by kernel_rfl) (by kernel_rfl) (fun _ _ _ h => h) (yieldsIf_load_mid (by rfl) 35 _ rfl a8 1 rfl x.toList _ (fun w hSw => act_range HACT.out (Blk.range hSw)) Try.underlying35 rfl (by rw [Array.length_toList]; exact hxg.info)) (GateS.of hS3) (fun _ => ?_)
              try simp only [List.getElem_toArray, List.getElem_cons_zero, List.getElem_cons_succ, Act.put, List.setIfInBounds_toArray, List.set_cons_zero, List.set_cons_succ]
              refine wpAnyG_one (i := 3) (by kernel_rfl) rfl (fun K' hK => ?_)
              refine step_call2 rfl 10 (.tmp 40) (.tmp 42) 24 35 rfl Try.callTAdd (y1 := .pointer (some ⟨g, 0, none⟩)) (y2 := .agg x) rfl rfl (add_any w.heap.size g (most0 most) v l x M u0 hA3.t hxg HACT.out.sc ((HACT.out.in_.below hA3.below).more hA3.size) hok (by omega) hA3.size) ?_
              intro e u1 hp
              unfold AddPost at hp
              rw [if_neg (fun h => by have := (most0_le most l.length).1 h; omega)] at hp
              obtain ⟨v4, x', rfl, hT4, hs4⟩ := hp
              have hA4 := hA3.tstep hT4 hs4
              have hS4 := hA3.act_t hS3 hs4
              clear hT4 hs4
              refine ⟨_, rfl, hK.out _ _ (GateS.of hS4) (fun _ => ?_)⟩
              clear hK K'
              try simp only [List.getElem_toArray, List.getElem_cons_zero, List.getElem_cons_succ, Act.put, List.setIfInBounds_toArray, List.set_cons_zero, List.set_cons_succ]
              clear hA3 hS3
              refine wpAnyG_one (i := 7) (by kernel_rfl) rfl (fun K' hK => ?_)
              refine step_call rfl 12 (.tmp 46) 35 rfl Try.callFlat (y := .agg x) rfl (flat_any x M u1 hxg HACT.out.sc) ?_
              rintro e u2 ⟨rfl, hB5⟩
              have hA5 := hA4.keep hB5
              refine ⟨_, rfl, hK.out _ _ (GateS.vac (of_decide_eq_true (by kernel_rfl))) (fun _ => ?_)⟩
              clear hK K'
              try simp only [List.getElem_toArray, List.getElem_cons_zero, List.getElem_cons_succ, Act.put, List.setIfInBounds_toArray, List.set_cons_zero, List.set_cons_succ]
              clear hA4 hS4 hB5
              refine wpAnyG_one (i := 8) (by kernel_rfl) rfl (fun K' hK => ?_)
              refine step_call2 rfl 11 (.tmp 44) (.tmp 47) 26 42 rfl Try.callMAdd (y1 := .pointer (some ⟨gm, 0, none⟩)) (y2 := .agg x) rfl rfl (radd_any w.heap.size gm most vm (rows r) x u2 hA5.m hxg (by rw [rows_length, ← HLR.out]; omega) hA5.size) ?_
              intro e u3 hp
              unfold RAddPost at hp
              rw [rows_length, ← HLR.out] at hp
              rw [if_neg (by omega)] at hp
              obtain ⟨vm6, rfl, hR6, hO6⟩ := hp
              have hR6' : RAt w.heap.size u3 gm most vm6 (rows (r ++ [(x, M)])) := by rw [rows_app]; exact hR6
              have hA6 := hA5.mstep hR6' hO6 (fun p hp => mem_snoc hp ⟨hxg, HACT.out.sc, HACT.out.in_, hok⟩)
              clear hR6 hR6' hO6
              refine ⟨_, rfl, hK.out _ _ (GateS.vac (of_decide_eq_true (by kernel_rfl))) (fun _ => ?_)⟩
              clear hK K'
              try simp only [List.getElem_toArray, List.getElem_cons_zero, List.getElem_cons_succ, Act.put, List.setIfInBounds_toArray, List.set_cons_zero, List.set_cons_succ]
              clear hA5
              refine wpAnyG_open _ _ _ _ (of_decide_eq_true (by kernel_rfl)) ?_
              refine wpAny_take (i := 9) (v := ?vv17) rfl (by kernel_rfl) (by kernel_rfl) (by kernel_rfl) (fun _ _ _ h => h) (Or.inl ⟨by rfl, ?hy17⟩) ?_
              case hy17 => intro w; go_simp; try with_reducible rfl
              try simp only [List.getElem_toArray, List.getElem_cons_zero, List.getElem_cons_succ, Act.put, List.setIfInBounds_toArray, List.set_cons_zero, List.set_cons_succ]
              refine wpAny_done (by kernel_rfl) ?_ _
              have hfin := hA6
              have hsame : says (l ++ [(x', M)]) = says (r ++ [(x, M)]) := by rw [says_app, says_app, HSY.out]; rfl
              have hle : (l ++ [(x', M)]).length ≤ k + 1 := by rw [List.length_append]; simp; omega
              obtain ⟨lf, hlf⟩ : ∃ lf, (l ++ [(x', M)]) = lf := ⟨_, rfl⟩
              obtain ⟨rf, hrf⟩ : ∃ rf, (r ++ [(x, M)]) = rf := ⟨_, rfl⟩
              rw [hlf, hrf] at hfin hsame
              rw [hlf] at hle
              have hlen := len_of_says hsame
              obtain ⟨Am, cm, hvm⟩ := own_slice hfin.m.2.1
              rw [hvm, rows_length, ← hlen] at hfin
              have HF := Lib.hid hfin
              have HSAME := Lib.hid hsame
              clear hfin hsame hlen hlf hrf hvm
              go_wp2_with fail
              have hF3 := HF.out.keep (Below.refl (u3).heap.size (u3)).drew
              obtain ⟨uf, huf⟩ : ∃ u', (u3).drew = u' := ⟨_, rfl⟩
              have hcg : uf.cell? ⟨gm, 1, none⟩ = some (.slice Am lf.length cm) := by rw [← huf]; exact hF3.m.1.cell 1
              refine wp_region_gate (gate := [6]) (S := fun w' => w'.cell? ⟨gm, 1, none⟩ = some (.slice Am lf.length cm)) (by kernel_rfl) ?_
              rw [huf] at hF3 ⊢
              clear huf HF
              refine wpAnyG_take (i := 0) (v := ?vv18) rfl (by decide) (by kernel_rfl) (by kernel_rfl) (by kernel_rfl) (fun _ _ _ h => h) (Or.inl ⟨by rfl, ?hy18⟩) (GateS.of hcg) (fun _ => ?_)
              case hy18 => intro w; go_simp; try with_reducible rfl
              try simp only [List.getElem_toArray, List.getElem_cons_zero, Act.put, List.setIfInBounds_toArray, List.set_cons_zero, List.set_cons_succ]
              refine wpAnyG_take (i := 2) (v := ?vv19) rfl (by decide) (by kernel_rfl) (by kernel_rfl) (by kernel_rfl) (fun _ _ _ h => h) (Or.inl ⟨by rfl, ?hy19⟩) (GateS.of hcg) (fun _ => ?_)
              case hy19 => intro w; go_simp; try with_reducible rfl
              try simp only [List.getElem_toArray, List.getElem_cons_zero, List.getElem_cons_succ, Act.put, List.setIfInBounds_toArray, List.set_cons_zero, List.set_cons_succ]
              refine wpAnyG_take (i := 3) (v := ?vv20) rfl (by decide) (by kernel_rfl) (by kernel_rfl) (by kernel_rfl) (fun _ _ _ h => h) (Or.inl ⟨by rfl, ?hy20⟩) (GateS.of hcg) (fun _ => ?_)
              case hy20 => intro w; go_simp; try with_reducible rfl
              try simp only [List.getElem_toArray, List.getElem_cons_zero, List.getElem_cons_succ, Act.put, List.setIfInBounds_toArray, List.set_cons_zero, List.set_cons_succ]
              refine wpAnyG_take (i := 4) (v := ?vv21) rfl (by decide) (by kernel_rfl) (by kernel_rfl) (by kernel_rfl) (fun _ _ _ h => h) (Or.inl ⟨by rfl, ?hy21⟩) (GateS.of hcg) (fun _ => ?_)
              case hy21 => intro w; go_simp; try with_reducible rfl
              try simp only [List.getElem_toArray, List.getElem_cons_zero, List.getElem_cons_succ, Act.put, List.setIfInBounds_toArray, List.set_cons_zero, List.set_cons_succ]
              refine wpAnyG_load (i := 5) (c := 6) (v := ?vv22) rfl (by decide) ⟨by decide, by kernel_rfl⟩ (by kernel_rfl) (by kernel_rfl) (by kernel_rfl) (by kernel_rfl) (fun _ _ _ h => h) (Or.inl ⟨by rfl, ?hy22⟩) (GateS.of hcg) (fun _ => ?_)
              case hy22 => intro w hSw; go_simp; try with_reducible rfl
              try simp only [List.getElem_toArray, List.getElem_cons_zero, List.getElem_cons_succ, Act.put, List.setIfInBounds_toArray, List.set_cons_zero, List.set_cons_succ]
              refine wpAnyG_two (i := 1) (j := 6) (by kernel_rfl) rfl rfl (fun K' hK => ?_) (fun K' hK => ?_)
              · refine step_call rfl 20 (.tmp 103) 24 rfl Try.callLen (y := .pointer (some ⟨g, 0, none⟩)) rfl (tlen_any w.heap.size g (most0 most) _ lf uf hF3.t) ?_
                rintro e u9 ⟨rfl, rfl⟩
                refine ⟨_, rfl, hK.out _ _ (GateS.of hcg) (fun _ => ?_)⟩
                clear hK K'
                try simp only [List.getElem_toArray, List.getElem_cons_zero, List.getElem_cons_succ, Act.put, List.setIfInBounds_toArray, List.set_cons_zero, List.set_cons_succ]
                refine wpAnyG_one (i := 6) (by kernel_rfl) rfl (fun K' hK => ?_)
                simp only [List.getElem_toArray, List.getElem_cons_zero, List.getElem_cons_succ]
                go_simp
                refine hK.out _ _ (GateS.vac (of_decide_eq_true (by kernel_rfl))) (fun _ => ?_)
                clear hK K'
                try simp only [List.getElem_toArray, List.getElem_cons_zero, List.getElem_cons_succ, Act.put, List.setIfInBounds_toArray, List.set_cons_zero, List.set_cons_succ]
                refine wpAnyG_open _ _ _ _ (of_decide_eq_true (by kernel_rfl)) ?_
                refine wpAny_take (i := 7) (v := ?vv23) rfl (by kernel_rfl) (by kernel_rfl) (by kernel_rfl) (fun _ _ _ h => h) (Or.inl ⟨by rfl, ?hy23⟩) ?_
                case hy23 => intro w; go_simp; try with_reducible rfl
                try simp only [List.getElem_toArray, List.getElem_cons_zero, List.getElem_cons_succ, Act.put, List.setIfInBounds_toArray, List.set_cons_zero, List.set_cons_succ]
                refine wpAny_done (by kernel_rfl) ?_ _
                go_wp2
                go_roundw
                case rel => exact ⟨k + 1, _, _, lf, rf, by omega, by go_num, hF3, HSAME.out, hle⟩
                case measure => simp [intOf]; omega
              · simp only [List.getElem_toArray, List.getElem_cons_zero, List.getElem_cons_succ]
                go_simp
                refine hK.out _ _ (GateS.vac (of_decide_eq_true (by kernel_rfl))) (fun _ => ?_)
                clear hK K'
                try simp only [List.getElem_toArray, List.getElem_cons_zero, List.getElem_cons_succ, Act.put, List.setIfInBounds_toArray, List.set_cons_zero, List.set_cons_succ]
                refine wpAnyG_one (i := 1) (by kernel_rfl) rfl (fun K' hK => ?_)
                refine step_call rfl 20 (.tmp 103) 24 rfl Try.callLen (y := .pointer (some ⟨g, 0, none⟩)) rfl (tlen_any w.heap.size g (most0 most) _ lf uf hF3.t) ?_
                rintro e u9 ⟨rfl, rfl⟩
                refine ⟨_, rfl, hK.out _ _ (GateS.vac (of_decide_eq_true (by kernel_rfl))) (fun _ => ?_)⟩
                clear hK K'
                try simp only [List.getElem_toArray, List.getElem_cons_zero, List.getElem_cons_succ, Act.put, List.setIfInBounds_toArray, List.set_cons_zero, List.set_cons_succ]
                refine wpAnyG_open _ _ _ _ (of_decide_eq_true (by kernel_rfl)) ?_
                refine wpAny_take (i := 7) (v := ?vv24) rfl (by kernel_rfl) (by kernel_rfl) (by kernel_rfl) (fun _ _ _ h => h) (Or.inl ⟨by rfl, ?hy24⟩) ?_
                case hy24 => intro w; go_simp; try with_reducible rfl
                try simp only [List.getElem_toArray, List.getElem_cons_zero, List.getElem_cons_succ, Act.put, List.setIfInBounds_toArray, List.set_cons_zero, List.set_cons_succ]
                refine wpAny_done (by kernel_rfl) ?_ _
                go_wp2
                go_roundw
                case rel => exact ⟨k + 1, _, _, lf, rf, by omega, by go_num, hF3, HSAME.out, hle⟩
                case measure => simp [intOf]; omega
          · by_cases h2 : kind = 2
            · subst h2
              go_wp2_with fail
              have hA3 := hA2.keep (Below.refl w2.heap.size w2).drew
              have hS3 : Blk w2.drew a8 37 z := hz2.drew
              obtain ⟨u0, hu0⟩ : ∃ u, w2.drew = u := ⟨_, rfl⟩
              refine wp_region_gate (gate := [3, 7]) (S := fun w' => Blk w' a8 37 z) (by kernel_rfl) ?_
              rw [hu0] at hA3 hS3 ⊢
              clear hu0 hck hA2 hz2
              refine wpAnyG_take (i := 0) (v := ?vv25) rfl (by decide) (by kernel_rfl) (by kernel_rfl) (by kernel_rfl) (fun _ _ _ h => h) (Or.inl ⟨by rfl, ?hy25⟩) (GateS.of hS3) (fun _ => ?_)
              case hy25 => intro w; go_simp; try with_reducible rfl
              try simp only [List.getElem_toArray, List.getElem_cons_zero, Act.put, List.setIfInBounds_toArray, List.set_cons_zero, List.set_cons_succ]
              refine wpAnyG_take (i := 1) (v := ?vv26) rfl (by decide) (by kernel_rfl) (by kernel_rfl) (by kernel_rfl) (fun _ _ _ h => h) (Or.inl ⟨by rfl, ?hy26⟩) (GateS.of hS3) (fun _ => ?_)
              case hy26 => intro w; go_simp; try with_reducible rfl
              try simp only [List.getElem_toArray, List.getElem_cons_zero, List.getElem_cons_succ, Act.put, List.setIfInBounds_toArray, List.set_cons_zero, List.set_cons_succ]
              refine wpAnyG_load (i := 2) (c := 3) (v := ?vv27) rfl (by decide) ⟨by decide, by kernel_rfl⟩ (by kernel_rfl) (by kernel_rfl) (by kernel_rfl) (by kernel_rfl) (fun _ _ _ h => h) (Or.inl ⟨by rfl, ?hy27⟩) (GateS.of hS3) (fun _ => ?_)
              case hy27 => intro w hSw; have hcell := (hSw.cell 19).trans HACT.out.cn; clear hSw; go_simp; try with_reducible rfl
              try simp only [List.getElem_toArray, List.getElem_cons_zero, List.getElem_cons_succ, Act.put, List.setIfInBounds_toArray, List.set_cons_zero, List.set_cons_succ]
              refine wpAnyG_take (i := 4) (v := ?vv28) rfl (by decide) (by kernel_rfl) (by kernel_rfl) (by kernel_rfl) (fun _ _ _ h => h) (Or.inl ⟨by rfl, ?hy28⟩) (GateS.of hS3) (fun _ => ?_)
              case hy28 => intro w; go_simp; try with_reducible rfl
              try simp only [List.getElem_toArray, List.getElem_cons_zero, List.getElem_cons_succ, Act.put, List.setIfInBounds_toArray, List.set_cons_zero, List.set_cons_succ]
              refine wpAnyG_take (i := 5) (v := ?vv29) rfl (by decide) (by kernel_rfl) (by kernel_rfl) (by kernel_rfl) (fun _ _ _ h => h) (Or.inl ⟨by rfl, ?hy29⟩) (GateS.of hS3) (fun _ => ?_)
              case hy29 => intro w; go_simp; try with_reducible rfl
              try simp only [List.getElem_toArray, List.getElem_cons_zero, List.getElem_cons_succ, Act.put, List.setIfInBounds_toArray, List.set_cons_zero, List.set_cons_succ]
              refine wpAnyG_load (i := 6) (c := 7) (v := ?vv30) rfl (by decide) ⟨by decide, by kernel_rfl⟩ (by kernel_rfl) (by kernel_rfl) (by kernel_rfl) (by kernel_rfl) (fun _ _ _ h => h) (Or.inl ⟨by rfl, ?hy30⟩) (GateS.of hS3) (fun _ => ?_)
              case hy30 => intro w hSw; have hcell := (hSw.cell 19).trans HACT.out.cn; clear hSw; go_simp; try with_reducible rfl
              try simp only [List.getElem_toArray, List.getElem_cons_zero, List.getElem_cons_succ, Act.put, List.setIfInBounds_toArray, List.set_cons_zero, List.set_cons_succ]
              refine wpAnyG_one (i := 3) (by kernel_rfl) rfl (fun K' hK => ?_)
              refine step_call2 rfl 14 (.tmp 52) (.tmp 54) 24 3 rfl Try.callOf (y1 := .pointer (some ⟨g, 0, none⟩)) (y2 := .int .i64 nn) rfl rfl (of_any w.heap.size g (most0 most) nn v l u0 hA3.t (by omega)) ?_
              rintro e u1 ⟨vo, lo, rfl, hto, hsyo, hB4⟩
              have hA4 := hA3.keep hB4
              have hS4 := hS3.below hB4 hS3.lt
              refine ⟨_, rfl, hK.out _ _ (GateS.of hS4) (fun _ => ?_)⟩
              clear hK K'
              try simp only [List.getElem_toArray, List.getElem_cons_zero, List.getElem_cons_succ, Act.put, List.setIfInBounds_toArray, List.set_cons_zero, List.set_cons_succ]
              clear hA3 hS3
              refine wpAnyG_one (i := 7) (by kernel_rfl) rfl (fun K' hK => ?_)
              refine step_call3 rfl 15 (.tmp 56) (.tmp 58) (.const (.bool true)) 26 3 4 rfl Try.callMDone (y1 := .pointer (some ⟨gm, 0, none⟩)) (y2 := .int .i64 nn) (y3 := .bool true) rfl rfl rfl (rdone_loop true w.heap.size gm most nn vm (rows r) u1 hA4.m hA4.nums (by rw [rows_length, ← HLR.out]; omega) hA4.size) ?_
              rintro e u2 ⟨vo2, rfl, hro, hB5⟩
              have hA5 := hA4.keep hB5
              have hto := hto.below hB5
              rw [(hA4.filter (job_says nn)).1] at hro
              refine ⟨_, rfl, hK.out _ _ (GateS.vac (of_decide_eq_true (by kernel_rfl))) (fun _ => ?_)⟩
              clear hK K'
              try simp only [List.getElem_toArray, List.getElem_cons_zero, List.getElem_cons_succ, Act.put, List.setIfInBounds_toArray, List.set_cons_zero, List.set_cons_succ]
              clear hA4 hS4 hB4 hB5
              refine wpAnyG_one (i := 8) (by kernel_rfl) rfl (fun K' hK => ?_)
              refine step_call2 rfl 13 (.tmp 55) (.tmp 59) 45 27 rfl Try.callSame (y1 := _) (y2 := _) rfl rfl (same_any _ _ _ _ lo (r.filter fun p => (fun x => decide (jobOf x = nn)) p.1) u2 hto hro (fun p hp => (hA5.good p (List.mem_filter.1 hp).1).more hA5.size) (by rw [hsyo, (hA5.filter (job_says nn)).2, HSY.out]) (Nat.le_trans (by rw [← says_length, hsyo]; exact Nat.le_trans (List.length_filter_le _ _) (by rw [says_length]; exact hl60)) (by omega))) ?_
              rintro e u3 ⟨rfl, hB6⟩
              have hA6 := hA5.keep hB6
              refine ⟨_, rfl, hK.out _ _ (GateS.vac (of_decide_eq_true (by kernel_rfl))) (fun _ => ?_)⟩
              clear hK K'
              try simp only [List.getElem_toArray, List.getElem_cons_zero, List.getElem_cons_succ, Act.put, List.setIfInBounds_toArray, List.set_cons_zero, List.set_cons_succ]
              clear hA5 hto hro hsyo hB6
              refine wpAnyG_open _ _ _ _ (of_decide_eq_true (by kernel_rfl)) ?_
              refine wpAny_take (i := 9) (v := ?vv31) rfl (by kernel_rfl) (by kernel_rfl) (by kernel_rfl) (fun _ _ _ h => h) (Or.inl ⟨by rfl, ?hy31⟩) ?_
              case hy31 => intro w; go_simp; try with_reducible rfl
              try simp only [List.getElem_toArray, List.getElem_cons_zero, List.getElem_cons_succ, Act.put, List.setIfInBounds_toArray, List.set_cons_zero, List.set_cons_succ]
              refine wpAny_done (by kernel_rfl) ?_ _
              have hfin := hA6
              have hsame : says (l) = says (r) := HSY.out
              have hle : (l).length ≤ k + 1 := by omega
              obtain ⟨lf, hlf⟩ : ∃ lf, (l) = lf := ⟨_, rfl⟩
              obtain ⟨rf, hrf⟩ : ∃ rf, (r) = rf := ⟨_, rfl⟩
              rw [hlf, hrf] at hfin hsame
              rw [hlf] at hle
              have hlen := len_of_says hsame
              obtain ⟨Am, cm, hvm⟩ := own_slice hfin.m.2.1
              rw [hvm, rows_length, ← hlen] at hfin
              have HF := Lib.hid hfin
              have HSAME := Lib.hid hsame
              clear hfin hsame hlen hlf hrf hvm
              go_wp2_with fail
              have hF3 := HF.out.keep (Below.refl (u3).heap.size (u3)).drew
              obtain ⟨uf, huf⟩ : ∃ u', (u3).drew = u' := ⟨_, rfl⟩
              have hcg : uf.cell? ⟨gm, 1, none⟩ = some (.slice Am lf.length cm) := by rw [← huf]; exact hF3.m.1.cell 1
              refine wp_region_gate (gate := [6]) (S := fun w' => w'.cell? ⟨gm, 1, none⟩ = some (.slice Am lf.length cm)) (by kernel_rfl) ?_
              rw [huf] at hF3 ⊢
              clear huf HF
              refine wpAnyG_take (i := 0) (v := ?vv32) rfl (by decide) (by kernel_rfl) (by kernel_rfl) (by kernel_rfl) (fun _ _ _ h => h) (Or.inl ⟨by rfl, ?hy32⟩) (GateS.of hcg) (fun _ => ?_)
              case hy32 => intro w; go_simp; try with_reducible rfl
              try simp only [List.getElem_toArray, List.getElem_cons_zero, Act.put, List.setIfInBounds_toArray, List.set_cons_zero, List.set_cons_succ]
              refine wpAnyG_take (i := 2) (v := ?vv33) rfl (by decide) (by kernel_rfl) (by kernel_rfl) (by kernel_rfl) (fun _ _ _ h => h) (Or.inl ⟨by rfl, ?hy33⟩) (GateS.of hcg) (fun _ => ?_)
              case hy33 => intro w; go_simp; try with_reducible rfl
              try simp only [List.getElem_toArray, List.getElem_cons_zero, List.getElem_cons_succ, Act.put, List.setIfInBounds_toArray, List.set_cons_zero, List.set_cons_succ]
              refine wpAnyG_take (i := 3) (v := ?vv34) rfl (by decide) (by kernel_rfl) (by kernel_rfl) (by kernel_rfl) (fun _ _ _ h => h) (Or.inl ⟨by rfl, ?hy34⟩) (GateS.of hcg) (fun _ => ?_)
              case hy34 => intro w; go_simp; try with_reducible rfl
              try simp only [List.getElem_toArray, List.getElem_cons_zero, List.getElem_cons_succ, Act.put, List.setIfInBounds_toArray, List.set_cons_zero, List.set_cons_succ]
              refine wpAnyG_take (i := 4) (v := ?vv35) rfl (by decide) (by kernel_rfl) (by kernel_rfl) (by kernel_rfl) (fun _ _ _ h => h) (Or.inl ⟨by rfl, ?hy35⟩) (GateS.of hcg) (fun _ => ?_)
              case hy35 => intro w; go_simp; try with_reducible rfl
              try simp only [List.getElem_toArray, List.getElem_cons_zero, List.getElem_cons_succ, Act.put, List.setIfInBounds_toArray, List.set_cons_zero, List.set_cons_succ]
              refine wpAnyG_load (i := 5) (c := 6) (v := ?vv36) rfl (by decide) ⟨by decide, by kernel_rfl⟩ (by kernel_rfl) (by kernel_rfl) (by kernel_rfl) (by kernel_rfl) (fun _ _ _ h => h) (Or.inl ⟨by rfl, ?hy36⟩) (GateS.of hcg) (fun _ => ?_)
              case hy36 => intro w hSw; go_simp; try with_reducible rfl
              try simp only [List.getElem_toArray, List.getElem_cons_zero, List.getElem_cons_succ, Act.put, List.setIfInBounds_toArray, List.set_cons_zero, List.set_cons_succ]
              refine wpAnyG_two (i := 1) (j := 6) (by kernel_rfl) rfl rfl (fun K' hK => ?_) (fun K' hK => ?_)
              · refine step_call rfl 20 (.tmp 103) 24 rfl Try.callLen (y := .pointer (some ⟨g, 0, none⟩)) rfl (tlen_any w.heap.size g (most0 most) _ lf uf hF3.t) ?_
                rintro e u9 ⟨rfl, rfl⟩
                refine ⟨_, rfl, hK.out _ _ (GateS.of hcg) (fun _ => ?_)⟩
                clear hK K'
                try simp only [List.getElem_toArray, List.getElem_cons_zero, List.getElem_cons_succ, Act.put, List.setIfInBounds_toArray, List.set_cons_zero, List.set_cons_succ]
                refine wpAnyG_one (i := 6) (by kernel_rfl) rfl (fun K' hK => ?_)
                simp only [List.getElem_toArray, List.getElem_cons_zero, List.getElem_cons_succ]
                go_simp
                refine hK.out _ _ (GateS.vac (of_decide_eq_true (by kernel_rfl))) (fun _ => ?_)
                clear hK K'
                try simp only [List.getElem_toArray, List.getElem_cons_zero, List.getElem_cons_succ, Act.put, List.setIfInBounds_toArray, List.set_cons_zero, List.set_cons_succ]
                refine wpAnyG_open _ _ _ _ (of_decide_eq_true (by kernel_rfl)) ?_
                refine wpAny_take (i := 7) (v := ?vv37) rfl (by kernel_rfl) (by kernel_rfl) (by kernel_rfl) (fun _ _ _ h => h) (Or.inl ⟨by rfl, ?hy37⟩) ?_
                case hy37 => intro w; go_simp; try with_reducible rfl
                try simp only [List.getElem_toArray, List.getElem_cons_zero, List.getElem_cons_succ, Act.put, List.setIfInBounds_toArray, List.set_cons_zero, List.set_cons_succ]
                refine wpAny_done (by kernel_rfl) ?_ _
                go_wp2
                go_roundw
                case rel => exact ⟨k + 1, _, _, lf, rf, by omega, by go_num, hF3, HSAME.out, hle⟩
                case measure => simp [intOf]; omega
              · simp only [List.getElem_toArray, List.getElem_cons_zero, List.getElem_cons_succ]
                go_simp
                refine hK.out _ _ (GateS.vac (of_decide_eq_true (by kernel_rfl))) (fun _ => ?_)
                clear hK K'
                try simp only [List.getElem_toArray, List.getElem_cons_zero, List.getElem_cons_succ, Act.put, List.setIfInBounds_toArray, List.set_cons_zero, List.set_cons_succ]
                refine wpAnyG_one (i := 1) (by kernel_rfl) rfl (fun K' hK => ?_)
                refine step_call rfl 20 (.tmp 103) 24 rfl Try.callLen (y := .pointer (some ⟨g, 0, none⟩)) rfl (tlen_any w.heap.size g (most0 most) _ lf uf hF3.t) ?_
                rintro e u9 ⟨rfl, rfl⟩
                refine ⟨_, rfl, hK.out _ _ (GateS.vac (of_decide_eq_true (by kernel_rfl))) (fun _ => ?_)⟩
                clear hK K'
                try simp only [List.getElem_toArray, List.getElem_cons_zero, List.getElem_cons_succ, Act.put, List.setIfInBounds_toArray, List.set_cons_zero, List.set_cons_succ]
                refine wpAnyG_open _ _ _ _ (of_decide_eq_true (by kernel_rfl)) ?_
                refine wpAny_take (i := 7) (v := ?vv38) rfl (by kernel_rfl) (by kernel_rfl) (by kernel_rfl) (fun _ _ _ h => h) (Or.inl ⟨by rfl, ?hy38⟩) ?_
                case hy38 => intro w; go_simp; try with_reducible rfl
                try simp only [List.getElem_toArray, List.getElem_cons_zero, List.getElem_cons_succ, Act.put, List.setIfInBounds_toArray, List.set_cons_zero, List.set_cons_succ]
                refine wpAny_done (by kernel_rfl) ?_ _
                go_wp2
                go_roundw
                case rel => exact ⟨k + 1, _, _, lf, rf, by omega, by go_num, hF3, HSAME.out, hle⟩
                case measure => simp [intOf]; omega
            · by_cases h3 : kind = 3
              · subst h3
                go_wp2_with fail
                have hA3 := hA2.keep (Below.refl w2.heap.size w2).drew
                have hS3 : Blk w2.drew a8 37 z := hz2.drew
                obtain ⟨u0, hu0⟩ : ∃ u, w2.drew = u := ⟨_, rfl⟩
                refine wp_region_gate (gate := [3, 7]) (S := fun w' => Blk w' a8 37 z) (by kernel_rfl) ?_
                rw [hu0] at hA3 hS3 ⊢
                clear hu0 hck hA2 hz2
                refine wpAnyG_take (i := 0) (v := ?vv39) rfl (by decide) (by kernel_rfl) (by kernel_rfl) (by kernel_rfl) (fun _ _ _ h => h) (Or.inl ⟨by rfl, ?hy39⟩) (GateS.of hS3) (fun _ => ?_)
                case hy39 => intro w; go_simp; try with_reducible rfl
                try simp only [List.getElem_toArray, List.getElem_cons_zero, Act.put, List.setIfInBounds_toArray, List.set_cons_zero, List.set_cons_succ]
                refine wpAnyG_take (i := 1) (v := ?vv40) rfl (by decide) (by kernel_rfl) (by kernel_rfl) (by kernel_rfl) (fun _ _ _ h => h) (Or.inl ⟨by rfl, ?hy40⟩) (GateS.of hS3) (fun _ => ?_)
                case hy40 => intro w; go_simp; try with_reducible rfl
                try simp only [List.getElem_toArray, List.getElem_cons_zero, List.getElem_cons_succ, Act.put, List.setIfInBounds_toArray, List.set_cons_zero, List.set_cons_succ]
                refine wpAnyG_load (i := 2) (c := 3) (v := ?vv41) rfl (by decide) ⟨by decide, by kernel_rfl⟩ (by kernel_rfl) (by kernel_rfl) (by kernel_rfl) (by kernel_rfl) (fun _ _ _ h => h) (Or.inl ⟨by rfl, ?hy41⟩) (GateS.of hS3) (fun _ => ?_)
                case hy41 => intro w hSw; have hcell := (hSw.cell 19).trans HACT.out.cn; clear hSw; go_simp; try with_reducible rfl
                try simp only [List.getElem_toArray, List.getElem_cons_zero, List.getElem_cons_succ, Act.put, List.setIfInBounds_toArray, List.set_cons_zero, List.set_cons_succ]
                refine wpAnyG_take (i := 4) (v := ?vv42) rfl (by decide) (by kernel_rfl) (by kernel_rfl) (by kernel_rfl) (fun _ _ _ h => h) (Or.inl ⟨by rfl, ?hy42⟩) (GateS.of hS3) (fun _ => ?_)
                case hy42 => intro w; go_simp; try with_reducible rfl
                try simp only [List.getElem_toArray, List.getElem_cons_zero, List.getElem_cons_succ, Act.put, List.setIfInBounds_toArray, List.set_cons_zero, List.set_cons_succ]
                refine wpAnyG_take (i := 5) (v := ?vv43) rfl (by decide) (by kernel_rfl) (by kernel_rfl) (by kernel_rfl) (fun _ _ _ h => h) (Or.inl ⟨by rfl, ?hy43⟩) (GateS.of hS3) (fun _ => ?_)
                case hy43 => intro w; go_simp; try with_reducible rfl
                try simp only [List.getElem_toArray, List.getElem_cons_zero, List.getElem_cons_succ, Act.put, List.setIfInBounds_toArray, List.set_cons_zero, List.set_cons_succ]
                refine wpAnyG_load (i := 6) (c := 7) (v := ?vv44) rfl (by decide) ⟨by decide, by kernel_rfl⟩ (by kernel_rfl) (by kernel_rfl) (by kernel_rfl) (by kernel_rfl) (fun _ _ _ h => h) (Or.inl ⟨by rfl, ?hy44⟩) (GateS.of hS3) (fun _ => ?_)
                case hy44 => intro w hSw; have hcell := (hSw.cell 19).trans HACT.out.cn; clear hSw; go_simp; try with_reducible rfl
                try simp only [List.getElem_toArray, List.getElem_cons_zero, List.getElem_cons_succ, Act.put, List.setIfInBounds_toArray, List.set_cons_zero, List.set_cons_succ]
                refine wpAnyG_one (i := 3) (by kernel_rfl) rfl (fun K' hK => ?_)
                refine step_call2 rfl 16 (.tmp 64) (.tmp 66) 24 3 rfl Try.callTDone (y1 := .pointer (some ⟨g, 0, none⟩)) (y2 := .int .i64 nn) rfl rfl (done_any w.heap.size g (most0 most) nn v l u0 hA3.t (by omega)) ?_
                rintro e u1 ⟨vo, v4, lo, l2, rfl, hto, hsyo, hT4, hsy2, hs4, _⟩
                have hA4 := hA3.tstep hT4 hs4
                have hS4 := hA3.act_t hS3 hs4
                have hgm0 : gm < u0.heap.size := hA3.m.1.lt
                refine ⟨_, rfl, hK.out _ _ (GateS.of hS4) (fun _ => ?_)⟩
                clear hK K'
                try simp only [List.getElem_toArray, List.getElem_cons_zero, List.getElem_cons_succ, Act.put, List.setIfInBounds_toArray, List.set_cons_zero, List.set_cons_succ]
                clear hA3 hS3 hT4 hs4
                refine wpAnyG_one (i := 7) (by kernel_rfl) rfl (fun K' hK => ?_)
                refine step_call3 rfl 15 (.tmp 68) (.tmp 70) (.const (.bool false)) 26 3 4 rfl Try.callMDone (y1 := .pointer (some ⟨gm, 0, none⟩)) (y2 := .int .i64 nn) (y3 := .bool false) rfl rfl rfl (rdone_loop false w.heap.size gm most nn vm (rows r) u1 hA4.m hA4.nums (by rw [rows_length, ← HLR.out]; omega) hA4.size) ?_
                rintro e u2 ⟨vo2, vm5, rfl, hro, hR5, hO5⟩
                rw [(hA4.filter (job_says nn)).1] at hro
                rw [(hA4.filter (job_nsays nn)).1] at hR5
                have hsyr := (hA4.filter (job_nsays nn)).2
                have hsyt := (hA4.filter (job_says nn)).2
                have hto := told_stays hA4 hto hgm0 hO5
                have hA5 := hA4.mstep hR5 hO5 (fun p hp => Or.inl (List.mem_filter.1 hp).1)
                have hgood : ∀ p ∈ r, RGood u2.heap.size u2 p := fun p hp => ((hA4.good p hp).below (hO5.below hA4.size (fun i hi hf => by have := hA4.hgm; omega))).more hA5.size
                refine ⟨_, rfl, hK.out _ _ (GateS.vac (of_decide_eq_true (by kernel_rfl))) (fun _ => ?_)⟩
                clear hK K'
                try simp only [List.getElem_toArray, List.getElem_cons_zero, List.getElem_cons_succ, Act.put, List.setIfInBounds_toArray, List.set_cons_zero, List.set_cons_succ]
                clear hA4 hS4 hR5 hO5 hgm0
                refine wpAnyG_one (i := 8) (by kernel_rfl) rfl (fun K' hK => ?_)
                refine step_call2 rfl 13 (.tmp 67) (.tmp 71) 45 27 rfl Try.callSame (y1 := _) (y2 := _) rfl rfl (same_any _ _ _ _ lo (r.filter fun p => (fun x => decide (jobOf x = nn)) p.1) u2 hto hro (fun p hp => hgood p (List.mem_filter.1 hp).1) (by rw [hsyo, hsyt, HSY.out]) (Nat.le_trans (by rw [← says_length, hsyo]; exact Nat.le_trans (List.length_filter_le _ _) (by rw [says_length]; exact hl60)) (by omega))) ?_
                rintro e u3 ⟨rfl, hB6⟩
                have hA6 := hA5.keep hB6
                refine ⟨_, rfl, hK.out _ _ (GateS.vac (of_decide_eq_true (by kernel_rfl))) (fun _ => ?_)⟩
                clear hK K'
                try simp only [List.getElem_toArray, List.getElem_cons_zero, List.getElem_cons_succ, Act.put, List.setIfInBounds_toArray, List.set_cons_zero, List.set_cons_succ]
                have hll : l2.length ≤ l.length := by rw [← says_length, hsy2]; exact Nat.le_trans (List.length_filter_le _ _) (by rw [says_length]; exact Nat.le_refl _)
                have hss : says l2 = says (r.filter fun p => (fun x => !decide (jobOf x = nn)) p.1) := by rw [hsy2, hsyr, HSY.out]
                have HSS := Lib.hid hss
                clear hA5 hto hro hsyo hB6 hgood hsy2 hsyr hsyt hss
                refine wpAnyG_open _ _ _ _ (of_decide_eq_true (by kernel_rfl)) ?_
                refine wpAny_take (i := 9) (v := ?vv45) rfl (by kernel_rfl) (by kernel_rfl) (by kernel_rfl) (fun _ _ _ h => h) (Or.inl ⟨by rfl, ?hy45⟩) ?_
                case hy45 => intro w; go_simp; try with_reducible rfl
                try simp only [List.getElem_toArray, List.getElem_cons_zero, List.getElem_cons_succ, Act.put, List.setIfInBounds_toArray, List.set_cons_zero, List.set_cons_succ]
                refine wpAny_done (by kernel_rfl) ?_ _
                have hfin := hA6
                have hsame : says (l2) = says (r.filter fun p => (fun x => !decide (jobOf x = nn)) p.1) := HSS.out
                have hle : (l2).length ≤ k + 1 := by omega
                obtain ⟨lf, hlf⟩ : ∃ lf, (l2) = lf := ⟨_, rfl⟩
                obtain ⟨rf, hrf⟩ : ∃ rf, (r.filter fun p => (fun x => !decide (jobOf x = nn)) p.1) = rf := ⟨_, rfl⟩
                rw [hlf, hrf] at hfin hsame
                rw [hlf] at hle
                have hlen := len_of_says hsame
                obtain ⟨Am, cm, hvm⟩ := own_slice hfin.m.2.1
                rw [hvm, rows_length, ← hlen] at hfin
                have HF := Lib.hid hfin
                have HSAME := Lib.hid hsame
                clear hfin hsame hlen hlf hrf hvm
                go_wp2_with fail
                have hF3 := HF.out.keep (Below.refl (u3).heap.size (u3)).drew
                obtain ⟨uf, huf⟩ : ∃ u', (u3).drew = u' := ⟨_, rfl⟩
                have hcg : uf.cell? ⟨gm, 1, none⟩ = some (.slice Am lf.length cm) := by rw [← huf]; exact hF3.m.1.cell 1
                refine wp_region_gate (gate := [6]) (S := fun w' => w'.cell? ⟨gm, 1, none⟩ = some (.slice Am lf.length cm)) (by kernel_rfl) ?_
                rw [huf] at hF3 ⊢
                clear huf HF
                refine wpAnyG_take (i := 0) (v := ?vv46) rfl (by decide) (by kernel_rfl) (by kernel_rfl) (by kernel_rfl) (fun _ _ _ h => h) (Or.inl ⟨by rfl, ?hy46⟩) (GateS.of hcg) (fun _ => ?_)
                case hy46 => intro w; go_simp; try with_reducible rfl
                try simp only [List.getElem_toArray, List.getElem_cons_zero, Act.put, List.setIfInBounds_toArray, List.set_cons_zero, List.set_cons_succ]
                refine wpAnyG_take (i := 2) (v := ?vv47) rfl (by decide) (by kernel_rfl) (by kernel_rfl) (by kernel_rfl) (fun _ _ _ h => h) (Or.inl ⟨by rfl, ?hy47⟩) (GateS.of hcg) (fun _ => ?_)
                case hy47 => intro w; go_simp; try with_reducible rfl
                try simp only [List.getElem_toArray, List.getElem_cons_zero, List.getElem_cons_succ, Act.put, List.setIfInBounds_toArray, List.set_cons_zero, List.set_cons_succ]
                refine wpAnyG_take (i := 3) (v := ?vv48) rfl (by decide) (by kernel_rfl) (by kernel_rfl) (by kernel_rfl) (fun _ _ _ h => h) (Or.inl ⟨by rfl, ?hy48⟩) (GateS.of hcg) (fun _ => ?_)
                case hy48 => intro w; go_simp; try with_reducible rfl
                try simp only [List.getElem_toArray, List.getElem_cons_zero, List.getElem_cons_succ, Act.put, List.setIfInBounds_toArray, List.set_cons_zero, List.set_cons_succ]
                refine wpAnyG_take (i := 4) (v := ?vv49) rfl (by decide) (by kernel_rfl) (by kernel_rfl) (by kernel_rfl) (fun _ _ _ h => h) (Or.inl ⟨by rfl, ?hy49⟩) (GateS.of hcg) (fun _ => ?_)
                case hy49 => intro w; go_simp; try with_reducible rfl
                try simp only [List.getElem_toArray, List.getElem_cons_zero, List.getElem_cons_succ, Act.put, List.setIfInBounds_toArray, List.set_cons_zero, List.set_cons_succ]
                refine wpAnyG_load (i := 5) (c := 6) (v := ?vv50) rfl (by decide) ⟨by decide, by kernel_rfl⟩ (by kernel_rfl) (by kernel_rfl) (by kernel_rfl) (by kernel_rfl) (fun _ _ _ h => h) (Or.inl ⟨by rfl, ?hy50⟩) (GateS.of hcg) (fun _ => ?_)
                case hy50 => intro w hSw; go_simp; try with_reducible rfl
                try simp only [List.getElem_toArray, List.getElem_cons_zero, List.getElem_cons_succ, Act.put, List.setIfInBounds_toArray, List.set_cons_zero, List.set_cons_succ]
                refine wpAnyG_two (i := 1) (j := 6) (by kernel_rfl) rfl rfl (fun K' hK => ?_) (fun K' hK => ?_)
                · refine step_call rfl 20 (.tmp 103) 24 rfl Try.callLen (y := .pointer (some ⟨g, 0, none⟩)) rfl (tlen_any w.heap.size g (most0 most) _ lf uf hF3.t) ?_
                  rintro e u9 ⟨rfl, rfl⟩
                  refine ⟨_, rfl, hK.out _ _ (GateS.of hcg) (fun _ => ?_)⟩
                  clear hK K'
                  try simp only [List.getElem_toArray, List.getElem_cons_zero, List.getElem_cons_succ, Act.put, List.setIfInBounds_toArray, List.set_cons_zero, List.set_cons_succ]
                  refine wpAnyG_one (i := 6) (by kernel_rfl) rfl (fun K' hK => ?_)
                  simp only [List.getElem_toArray, List.getElem_cons_zero, List.getElem_cons_succ]
                  go_simp
                  refine hK.out _ _ (GateS.vac (of_decide_eq_true (by kernel_rfl))) (fun _ => ?_)
                  clear hK K'
                  try simp only [List.getElem_toArray, List.getElem_cons_zero, List.getElem_cons_succ, Act.put, List.setIfInBounds_toArray, List.set_cons_zero, List.set_cons_succ]
                  refine wpAnyG_open _ _ _ _ (of_decide_eq_true (by kernel_rfl)) ?_
                  refine wpAny_take (i := 7) (v := ?vv51) rfl (by kernel_rfl) (by kernel_rfl) (by kernel_rfl) (fun _ _ _ h => h) (Or.inl ⟨by rfl, ?hy51⟩) ?_
                  case hy51 => intro w; go_simp; try with_reducible rfl
                  try simp only [List.getElem_toArray, List.getElem_cons_zero, List.getElem_cons_succ, Act.put, List.setIfInBounds_toArray, List.set_cons_zero, List.set_cons_succ]
                  refine wpAny_done (by kernel_rfl) ?_ _
                  go_wp2
                  go_roundw
                  case rel => exact ⟨k + 1, _, _, lf, rf, by omega, by go_num, hF3, HSAME.out, hle⟩
                  case measure => simp [intOf]; omega
                · simp only [List.getElem_toArray, List.getElem_cons_zero, List.getElem_cons_succ]
                  go_simp
                  refine hK.out _ _ (GateS.vac (of_decide_eq_true (by kernel_rfl))) (fun _ => ?_)
                  clear hK K'
                  try simp only [List.getElem_toArray, List.getElem_cons_zero, List.getElem_cons_succ, Act.put, List.setIfInBounds_toArray, List.set_cons_zero, List.set_cons_succ]
                  refine wpAnyG_one (i := 1) (by kernel_rfl) rfl (fun K' hK => ?_)
                  refine step_call rfl 20 (.tmp 103) 24 rfl Try.callLen (y := .pointer (some ⟨g, 0, none⟩)) rfl (tlen_any w.heap.size g (most0 most) _ lf uf hF3.t) ?_
                  rintro e u9 ⟨rfl, rfl⟩
                  refine ⟨_, rfl, hK.out _ _ (GateS.vac (of_decide_eq_true (by kernel_rfl))) (fun _ => ?_)⟩
                  clear hK K'
                  try simp only [List.getElem_toArray, List.getElem_cons_zero, List.getElem_cons_succ, Act.put, List.setIfInBounds_toArray, List.set_cons_zero, List.set_cons_succ]
                  refine wpAnyG_open _ _ _ _ (of_decide_eq_true (by kernel_rfl)) ?_
                  refine wpAny_take (i := 7) (v := ?vv52) rfl (by kernel_rfl) (by kernel_rfl) (by kernel_rfl) (fun _ _ _ h => h) (Or.inl ⟨by rfl, ?hy52⟩) ?_
                  case hy52 => intro w; go_simp; try with_reducible rfl
                  try simp only [List.getElem_toArray, List.getElem_cons_zero, List.getElem_cons_succ, Act.put, List.setIfInBounds_toArray, List.set_cons_zero, List.set_cons_succ]
                  refine wpAny_done (by kernel_rfl) ?_ _
                  go_wp2
                  go_roundw
                  case rel => exact ⟨k + 1, _, _, lf, rf, by omega, by go_num, hF3, HSAME.out, hle⟩
                  case measure => simp [intOf]; omega
              · by_cases h4 : kind = 4
                · subst h4
                  go_wp2_with fail
                  have hA3 := hA2.keep (Below.refl w2.heap.size w2).drew
                  have hS3 : Blk w2.drew a8 37 z := hz2.drew
                  obtain ⟨u0, hu0⟩ : ∃ u, w2.drew = u := ⟨_, rfl⟩
                  refine wp_region_gate (gate := [5, 11]) (S := fun w' => Blk w' a8 37 z) (by kernel_rfl) ?_
                  rw [hu0] at hA3 hS3 ⊢
                  clear hu0 hck hA2 hz2
                  refine wpAnyG_take (i := 0) (v := ?vv53) rfl (by decide) (by kernel_rfl) (by kernel_rfl) (by kernel_rfl) (fun _ _ _ h => h) (Or.inl ⟨by rfl, ?hy53⟩) (GateS.of hS3) (fun _ => ?_)
                  case hy53 => intro w; go_simp; try with_reducible rfl
                  try simp only [List.getElem_toArray, List.getElem_cons_zero, Act.put, List.setIfInBounds_toArray, List.set_cons_zero, List.set_cons_succ]
                  refine wpAnyG_take (i := 1) (v := ?vv54) rfl (by decide) (by kernel_rfl) (by kernel_rfl) (by kernel_rfl) (fun _ _ _ h => h) (Or.inl ⟨by rfl, ?hy54⟩) (GateS.of hS3) (fun _ => ?_)
                  case hy54 => intro w; go_simp; try with_reducible rfl
                  try simp only [List.getElem_toArray, List.getElem_cons_zero, List.getElem_cons_succ, Act.put, List.setIfInBounds_toArray, List.set_cons_zero, List.set_cons_succ]
                  refine wpAnyG_load (i := 2) (c := 5) (v := ?vv55) rfl (by decide) ⟨by decide, by kernel_rfl⟩ (by kernel_rfl) (by kernel_rfl) (by kernel_rfl) (by kernel_rfl) (fun _ _ _ h => h) (Or.inl ⟨by rfl, ?hy55⟩) (GateS.of hS3) (fun _ => ?_)
                  case hy55 => intro w hSw; have hcell := (hSw.cell 19).trans HACT.out.cn; clear hSw; go_simp; try with_reducible rfl
                  try simp only [List.getElem_toArray, List.getElem_cons_zero, List.getElem_cons_succ, Act.put, List.setIfInBounds_toArray, List.set_cons_zero, List.set_cons_succ]
                  refine wpAnyG_take (i := 3) (v := ?vv56) rfl (by decide) (by kernel_rfl) (by kernel_rfl) (by kernel_rfl) (fun _ _ _ h => h) (Or.inl ⟨by rfl, ?hy56⟩) (GateS.of hS3) (fun _ => ?_)
                  case hy56 => intro w; go_simp; try with_reducible rfl
                  try simp only [List.getElem_toArray, List.getElem_cons_zero, List.getElem_cons_succ, Act.put, List.setIfInBounds_toArray, List.set_cons_zero, List.set_cons_succ]
                  refine wpAnyG_load (i := 4) (c := 5) (v := ?vv57) rfl (by decide) ⟨by decide, by kernel_rfl⟩ (by kernel_rfl) (by kernel_rfl) (by kernel_rfl) (by kernel_rfl) (fun _ _ _ h => h) (Or.inl ⟨by rfl, ?hy57⟩) (GateS.of hS3) (fun _ => ?_)
                  case hy57 => intro w hSw; have hcell := (hSw.cell 20).trans HACT.out.cd; clear hSw; go_simp; try with_reducible rfl
                  try simp only [List.getElem_toArray, List.getElem_cons_zero, List.getElem_cons_succ, Act.put, List.setIfInBounds_toArray, List.set_cons_zero, List.set_cons_succ]
                  refine wpAnyG_take (i := 6) (v := ?vv58) rfl (by decide) (by kernel_rfl) (by kernel_rfl) (by kernel_rfl) (fun _ _ _ h => h) (Or.inl ⟨by rfl, ?hy58⟩) (GateS.of hS3) (fun _ => ?_)
                  case hy58 => intro w; go_simp; try with_reducible rfl
                  try simp only [List.getElem_toArray, List.getElem_cons_zero, List.getElem_cons_succ, Act.put, List.setIfInBounds_toArray, List.set_cons_zero, List.set_cons_succ]
                  refine wpAnyG_take (i := 7) (v := ?vv59) rfl (by decide) (by kernel_rfl) (by kernel_rfl) (by kernel_rfl) (fun _ _ _ h => h) (Or.inl ⟨by rfl, ?hy59⟩) (GateS.of hS3) (fun _ => ?_)
                  case hy59 => intro w; go_simp; try with_reducible rfl
                  try simp only [List.getElem_toArray, List.getElem_cons_zero, List.getElem_cons_succ, Act.put, List.setIfInBounds_toArray, List.set_cons_zero, List.set_cons_succ]
                  refine wpAnyG_load (i := 8) (c := 11) (v := ?vv60) rfl (by decide) ⟨by decide, by kernel_rfl⟩ (by kernel_rfl) (by kernel_rfl) (by kernel_rfl) (by kernel_rfl) (fun _ _ _ h => h) (Or.inl ⟨by rfl, ?hy60⟩) (GateS.of hS3) (fun _ => ?_)
                  case hy60 => intro w hSw; have hcell := (hSw.cell 19).trans HACT.out.cn; clear hSw; go_simp; try with_reducible rfl
                  try simp only [List.getElem_toArray, List.getElem_cons_zero, List.getElem_cons_succ, Act.put, List.setIfInBounds_toArray, List.set_cons_zero, List.set_cons_succ]
                  refine wpAnyG_take (i := 9) (v := ?vv61) rfl (by decide) (by kernel_rfl) (by kernel_rfl) (by kernel_rfl) (fun _ _ _ h => h) (Or.inl ⟨by rfl, ?hy61⟩) (GateS.of hS3) (fun _ => ?_)
                  case hy61 => intro w; go_simp; try with_reducible rfl
                  try simp only [List.getElem_toArray, List.getElem_cons_zero, List.getElem_cons_succ, Act.put, List.setIfInBounds_toArray, List.set_cons_zero, List.set_cons_succ]
                  refine wpAnyG_load (i := 10) (c := 11) (v := ?vv62) rfl (by decide) ⟨by decide, by kernel_rfl⟩ (by kernel_rfl) (by kernel_rfl) (by kernel_rfl) (by kernel_rfl) (fun _ _ _ h => h) (Or.inl ⟨by rfl, ?hy62⟩) (GateS.of hS3) (fun _ => ?_)
                  case hy62 => intro w hSw; have hcell := (hSw.cell 20).trans HACT.out.cd; clear hSw; go_simp; try with_reducible rfl
                  try simp only [List.getElem_toArray, List.getElem_cons_zero, List.getElem_cons_succ, Act.put, List.setIfInBounds_toArray, List.set_cons_zero, List.set_cons_succ]
                  refine wpAnyG_one (i := 5) (by kernel_rfl) rfl (fun K' hK => ?_)
                  refine step_call3 rfl 17 (.tmp 76) (.tmp 78) (.tmp 80) 24 3 3 rfl Try.callTLate (y1 := .pointer (some ⟨g, 0, none⟩)) (y2 := .int .i64 nn) (y3 := .int .i64 dd) rfl rfl rfl (tlate_any w.heap.size g (most0 most) nn dd v l u0 hA3.t (by omega) HACT.out.wfn HACT.out.wfd) ?_
                  rintro e u1 ⟨vo, v4, lo, l2, rfl, hto, hsyo, hT4, hsy2, hs4, _⟩
                  have hA4 := hA3.tstep hT4 hs4
                  have hS4 := hA3.act_t hS3 hs4
                  have hgm0 : gm < u0.heap.size := hA3.m.1.lt
                  refine ⟨_, rfl, hK.out _ _ (GateS.of hS4) (fun _ => ?_)⟩
                  clear hK K'
                  try simp only [List.getElem_toArray, List.getElem_cons_zero, List.getElem_cons_succ, Act.put, List.setIfInBounds_toArray, List.set_cons_zero, List.set_cons_succ]
                  clear hA3 hS3 hT4 hs4
                  refine wpAnyG_one (i := 11) (by kernel_rfl) rfl (fun K' hK => ?_)
                  refine step_call3 rfl 18 (.tmp 82) (.tmp 84) (.tmp 86) 26 3 3 rfl Try.callMLate (y1 := .pointer (some ⟨gm, 0, none⟩)) (y2 := .int .i64 nn) (y3 := .int .i64 dd) rfl rfl rfl (rlate_loop w.heap.size gm most nn dd vm (rows r) u1 hA4.m hA4.nums (by rw [rows_length, ← HLR.out]; omega) hA4.size HACT.out.wfn HACT.out.wfd) ?_
                  rintro e u2 ⟨vo2, vm5, rfl, hro, hR5, hO5⟩
                  rw [(hA4.filter (came_says dd nn)).1] at hro
                  rw [(hA4.filter (came_nsays dd nn)).1] at hR5
                  have hsyr := (hA4.filter (came_nsays dd nn)).2
                  have hsyt := (hA4.filter (came_says dd nn)).2
                  have hto := told_stays hA4 hto hgm0 hO5
                  have hA5 := hA4.mstep hR5 hO5 (fun p hp => Or.inl (List.mem_filter.1 hp).1)
                  have hgood : ∀ p ∈ r, RGood u2.heap.size u2 p := fun p hp => ((hA4.good p hp).below (hO5.below hA4.size (fun i hi hf => by have := hA4.hgm; omega))).more hA5.size
                  refine ⟨_, rfl, hK.out _ _ (GateS.vac (of_decide_eq_true (by kernel_rfl))) (fun _ => ?_)⟩
                  clear hK K'
                  try simp only [List.getElem_toArray, List.getElem_cons_zero, List.getElem_cons_succ, Act.put, List.setIfInBounds_toArray, List.set_cons_zero, List.set_cons_succ]
                  clear hA4 hS4 hR5 hO5 hgm0
                  refine wpAnyG_one (i := 12) (by kernel_rfl) rfl (fun K' hK => ?_)
                  refine step_call2 rfl 13 (.tmp 81) (.tmp 87) 45 27 rfl Try.callSame (y1 := _) (y2 := _) rfl rfl (same_any _ _ _ _ lo (r.filter fun p => (fun x => decide (cameOf x + dd ≤ nn)) p.1) u2 hto hro (fun p hp => hgood p (List.mem_filter.1 hp).1) (by rw [hsyo, hsyt, HSY.out]) (Nat.le_trans (by rw [← says_length, hsyo]; exact Nat.le_trans (List.length_filter_le _ _) (by rw [says_length]; exact hl60)) (by omega))) ?_
                  rintro e u3 ⟨rfl, hB6⟩
                  have hA6 := hA5.keep hB6
                  refine ⟨_, rfl, hK.out _ _ (GateS.vac (of_decide_eq_true (by kernel_rfl))) (fun _ => ?_)⟩
                  clear hK K'
                  try simp only [List.getElem_toArray, List.getElem_cons_zero, List.getElem_cons_succ, Act.put, List.setIfInBounds_toArray, List.set_cons_zero, List.set_cons_succ]
                  have hll : l2.length ≤ l.length := by rw [← says_length, hsy2]; exact Nat.le_trans (List.length_filter_le _ _) (by rw [says_length]; exact Nat.le_refl _)
                  have hss : says l2 = says (r.filter fun p => (fun x => !decide (cameOf x + dd ≤ nn)) p.1) := by rw [hsy2, hsyr, HSY.out]
                  have HSS := Lib.hid hss
                  clear hA5 hto hro hsyo hB6 hgood hsy2 hsyr hsyt hss
                  refine wpAnyG_open _ _ _ _ (of_decide_eq_true (by kernel_rfl)) ?_
                  refine wpAny_take (i := 13) (v := ?vv63) rfl (by kernel_rfl) (by kernel_rfl) (by kernel_rfl) (fun _ _ _ h => h) (Or.inl ⟨by rfl, ?hy63⟩) ?_
                  case hy63 => intro w; go_simp; try with_reducible rfl
                  try simp only [List.getElem_toArray, List.getElem_cons_zero, List.getElem_cons_succ, Act.put, List.setIfInBounds_toArray, List.set_cons_zero, List.set_cons_succ]
                  refine wpAny_done (by kernel_rfl) ?_ _
                  have hfin := hA6
                  have hsame : says (l2) = says (r.filter fun p => (fun x => !decide (cameOf x + dd ≤ nn)) p.1) := HSS.out
                  have hle : (l2).length ≤ k + 1 := by omega
                  obtain ⟨lf, hlf⟩ : ∃ lf, (l2) = lf := ⟨_, rfl⟩
                  obtain ⟨rf, hrf⟩ : ∃ rf, (r.filter fun p => (fun x => !decide (cameOf x + dd ≤ nn)) p.1) = rf := ⟨_, rfl⟩
                  rw [hlf, hrf] at hfin hsame
                  rw [hlf] at hle
                  have hlen := len_of_says hsame
                  obtain ⟨Am, cm, hvm⟩ := own_slice hfin.m.2.1
                  rw [hvm, rows_length, ← hlen] at hfin
                  have HF := Lib.hid hfin
                  have HSAME := Lib.hid hsame
                  clear hfin hsame hlen hlf hrf hvm
                  go_wp2_with fail
                  have hF3 := HF.out.keep (Below.refl (u3).heap.size (u3)).drew
                  obtain ⟨uf, huf⟩ : ∃ u', (u3).drew = u' := ⟨_, rfl⟩
                  have hcg : uf.cell? ⟨gm, 1, none⟩ = some (.slice Am lf.length cm) := by rw [← huf]; exact hF3.m.1.cell 1
                  refine wp_region_gate (gate := [6]) (S := fun w' => w'.cell? ⟨gm, 1, none⟩ = some (.slice Am lf.length cm)) (by kernel_rfl) ?_
                  rw [huf] at hF3 ⊢
                  clear huf HF
                  refine wpAnyG_take (i := 0) (v := ?vv64) rfl (by decide) (by kernel_rfl) (by kernel_rfl) (by kernel_rfl) (fun _ _ _ h => h) (Or.inl ⟨by rfl, ?hy64⟩) (GateS.of hcg) (fun _ => ?_)
                  case hy64 => intro w; go_simp; try with_reducible rfl
                  try simp only [List.getElem_toArray, List.getElem_cons_zero, Act.put, List.setIfInBounds_toArray, List.set_cons_zero, List.set_cons_succ]
                  refine wpAnyG_take (i := 2) (v := ?vv65) rfl (by decide) (by kernel_rfl) (by kernel_rfl) (by kernel_rfl) (fun _ _ _ h => h) (Or.inl ⟨by rfl, ?hy65⟩) (GateS.of hcg) (fun _ => ?_)
                  case hy65 => intro w; go_simp; try with_reducible rfl
                  try simp only [List.getElem_toArray, List.getElem_cons_zero, List.getElem_cons_succ, Act.put, List.setIfInBounds_toArray, List.set_cons_zero, List.set_cons_succ]
                  refine wpAnyG_take (i := 3) (v := ?vv66) rfl (by decide) (by kernel_rfl) (by kernel_rfl) (by kernel_rfl) (fun _ _ _ h => h) (Or.inl ⟨by rfl, ?hy66⟩) (GateS.of hcg) (fun _ => ?_)
                  case hy66 => intro w; go_simp; try with_reducible rfl
                  try simp only [List.getElem_toArray, List.getElem_cons_zero, List.getElem_cons_succ, Act.put, List.setIfInBounds_toArray, List.set_cons_zero, List.set_cons_succ]
                  refine wpAnyG_take (i := 4) (v := ?vv67) rfl (by decide) (by kernel_rfl) (by kernel_rfl) (by kernel_rfl) (fun _ _ _ h => h) (Or.inl ⟨by rfl, ?hy67⟩) (GateS.of hcg) (fun _ => ?_)
                  case hy67 => intro w; go_simp; try with_reducible rfl
                  try simp only [List.getElem_toArray, List.getElem_cons_zero, List.getElem_cons_succ, Act.put, List.setIfInBounds_toArray, List.set_cons_zero, List.set_cons_succ]
                  refine wpAnyG_load (i := 5) (c := 6) (v := ?vv68) rfl (by decide) ⟨by decide, by kernel_rfl⟩ (by kernel_rfl) (by kernel_rfl) (by kernel_rfl) (by kernel_rfl) (fun _ _ _ h => h) (Or.inl ⟨by rfl, ?hy68⟩) (GateS.of hcg) (fun _ => ?_)
                  case hy68 => intro w hSw; go_simp; try with_reducible rfl
                  try simp only [List.getElem_toArray, List.getElem_cons_zero, List.getElem_cons_succ, Act.put, List.setIfInBounds_toArray, List.set_cons_zero, List.set_cons_succ]
                  refine wpAnyG_two (i := 1) (j := 6) (by kernel_rfl) rfl rfl (fun K' hK => ?_) (fun K' hK => ?_)
                  · refine step_call rfl 20 (.tmp 103) 24 rfl Try.callLen (y := .pointer (some ⟨g, 0, none⟩)) rfl (tlen_any w.heap.size g (most0 most) _ lf uf hF3.t) ?_
                    rintro e u9 ⟨rfl, rfl⟩
                    refine ⟨_, rfl, hK.out _ _ (GateS.of hcg) (fun _ => ?_)⟩
                    clear hK K'
                    try simp only [List.getElem_toArray, List.getElem_cons_zero, List.getElem_cons_succ, Act.put, List.setIfInBounds_toArray, List.set_cons_zero, List.set_cons_succ]
                    refine wpAnyG_one (i := 6) (by kernel_rfl) rfl (fun K' hK => ?_)
                    simp only [List.getElem_toArray, List.getElem_cons_zero, List.getElem_cons_succ]
                    go_simp
                    refine hK.out _ _ (GateS.vac (of_decide_eq_true (by kernel_rfl))) (fun _ => ?_)
                    clear hK K'
                    try simp only [List.getElem_toArray, List.getElem_cons_zero, List.getElem_cons_succ, Act.put, List.setIfInBounds_toArray, List.set_cons_zero, List.set_cons_succ]
                    refine wpAnyG_open _ _ _ _ (of_decide_eq_true (by kernel_rfl)) ?_
                    refine wpAny_take (i := 7) (v := ?vv69) rfl (by kernel_rfl) (by kernel_rfl) (by kernel_rfl) (fun _ _ _ h => h) (Or.inl ⟨by rfl, ?hy69⟩) ?_
                    case hy69 => intro w; go_simp; try with_reducible rfl
                    try simp only [List.getElem_toArray, List.getElem_cons_zero, List.getElem_cons_succ, Act.put, List.setIfInBounds_toArray, List.set_cons_zero, List.set_cons_succ]
                    refine wpAny_done (by kernel_rfl) ?_ _
                    go_wp2
                    go_roundw
                    case rel => exact ⟨k + 1, _, _, lf, rf, by omega, by go_num, hF3, HSAME.out, hle⟩
                    case measure => simp [intOf]; omega
                  · simp only [List.getElem_toArray, List.getElem_cons_zero, List.getElem_cons_succ]
                    go_simp
                    refine hK.out _ _ (GateS.vac (of_decide_eq_true (by kernel_rfl))) (fun _ => ?_)
                    clear hK K'
                    try simp only [List.getElem_toArray, List.getElem_cons_zero, List.getElem_cons_succ, Act.put, List.setIfInBounds_toArray, List.set_cons_zero, List.set_cons_succ]
                    refine wpAnyG_one (i := 1) (by kernel_rfl) rfl (fun K' hK => ?_)
                    refine step_call rfl 20 (.tmp 103) 24 rfl Try.callLen (y := .pointer (some ⟨g, 0, none⟩)) rfl (tlen_any w.heap.size g (most0 most) _ lf uf hF3.t) ?_
                    rintro e u9 ⟨rfl, rfl⟩
                    refine ⟨_, rfl, hK.out _ _ (GateS.vac (of_decide_eq_true (by kernel_rfl))) (fun _ => ?_)⟩
                    clear hK K'
                    try simp only [List.getElem_toArray, List.getElem_cons_zero, List.getElem_cons_succ, Act.put, List.setIfInBounds_toArray, List.set_cons_zero, List.set_cons_succ]
                    refine wpAnyG_open _ _ _ _ (of_decide_eq_true (by kernel_rfl)) ?_
                    refine wpAny_take (i := 7) (v := ?vv70) rfl (by kernel_rfl) (by kernel_rfl) (by kernel_rfl) (fun _ _ _ h => h) (Or.inl ⟨by rfl, ?hy70⟩) ?_
                    case hy70 => intro w; go_simp; try with_reducible rfl
                    try simp only [List.getElem_toArray, List.getElem_cons_zero, List.getElem_cons_succ, Act.put, List.setIfInBounds_toArray, List.set_cons_zero, List.set_cons_succ]
                    refine wpAny_done (by kernel_rfl) ?_ _
                    go_wp2
                    go_roundw
                    case rel => exact ⟨k + 1, _, _, lf, rf, by omega, by go_num, hF3, HSAME.out, hle⟩
                    case measure => simp [intOf]; omega
                · by_cases h5 : kind = 5
                  · subst h5
                    go_wp2_with fail
                    have hA3 := hA2.keep (Below.refl w2.heap.size w2).drew
                    have hS3 : Blk w2.drew a8 37 z := hz2.drew
                    obtain ⟨u0, hu0⟩ : ∃ u, w2.drew = u := ⟨_, rfl⟩
                    refine wp_region_gate (gate := [3, 7]) (S := fun w' => Blk w' a8 37 z) (by kernel_rfl) ?_
                    rw [hu0] at hA3 hS3 ⊢
                    clear hu0 hck hA2 hz2
                    refine wpAnyG_take (i := 0) (v := ?vv71) rfl (by decide) (by kernel_rfl) (by kernel_rfl) (by kernel_rfl) (fun _ _ _ h => h) (Or.inl ⟨by rfl, ?hy71⟩) (GateS.of hS3) (fun _ => ?_)
                    case hy71 => intro w; go_simp; try with_reducible rfl
                    try simp only [List.getElem_toArray, List.getElem_cons_zero, Act.put, List.setIfInBounds_toArray, List.set_cons_zero, List.set_cons_succ]
                    refine wpAnyG_take (i := 1) (v := ?vv72) rfl (by decide) (by kernel_rfl) (by kernel_rfl) (by kernel_rfl) (fun _ _ _ h => h) (Or.inl ⟨by rfl, ?hy72⟩) (GateS.of hS3) (fun _ => ?_)
                    case hy72 => intro w; go_simp; try with_reducible rfl
                    try simp only [List.getElem_toArray, List.getElem_cons_zero, List.getElem_cons_succ, Act.put, List.setIfInBounds_toArray, List.set_cons_zero, List.set_cons_succ]
                    refine wpAnyG_load (i := 2) (c := 3) (v := ?vv73) rfl (by decide) ⟨by decide, by kernel_rfl⟩ (by kernel_rfl) (by kernel_rfl) (by kernel_rfl) (by kernel_rfl) (fun _ _ _ h => h) (Or.inl ⟨by rfl, ?hy73⟩) (GateS.of hS3) (fun _ => ?_)
                    case hy73 => intro w hSw; have hcell := (hSw.cell 19).trans HACT.out.cn; clear hSw; go_simp; try with_reducible rfl
                    try simp only [List.getElem_toArray, List.getElem_cons_zero, List.getElem_cons_succ, Act.put, List.setIfInBounds_toArray, List.set_cons_zero, List.set_cons_succ]
                    refine wpAnyG_take (i := 4) (v := ?vv74) rfl (by decide) (by kernel_rfl) (by kernel_rfl) (by kernel_rfl) (fun _ _ _ h => h) (Or.inl ⟨by rfl, ?hy74⟩) (GateS.of hS3) (fun _ => ?_)
                    case hy74 => intro w; go_simp; try with_reducible rfl
                    try simp only [List.getElem_toArray, List.getElem_cons_zero, List.getElem_cons_succ, Act.put, List.setIfInBounds_toArray, List.set_cons_zero, List.set_cons_succ]
                    refine wpAnyG_take (i := 5) (v := ?vv75) rfl (by decide) (by kernel_rfl) (by kernel_rfl) (by kernel_rfl) (fun _ _ _ h => h) (Or.inl ⟨by rfl, ?hy75⟩) (GateS.of hS3) (fun _ => ?_)
                    case hy75 => intro w; go_simp; try with_reducible rfl
                    try simp only [List.getElem_toArray, List.getElem_cons_zero, List.getElem_cons_succ, Act.put, List.setIfInBounds_toArray, List.set_cons_zero, List.set_cons_succ]
                    refine wpAnyG_load (i := 6) (c := 7) (v := ?vv76) rfl (by decide) ⟨by decide, by kernel_rfl⟩ (by kernel_rfl) (by kernel_rfl) (by kernel_rfl) (by kernel_rfl) (fun _ _ _ h => h) (Or.inl ⟨by rfl, ?hy76⟩) (GateS.of hS3) (fun _ => ?_)
                    case hy76 => intro w hSw; have hcell := (hSw.cell 19).trans HACT.out.cn; clear hSw; go_simp; try with_reducible rfl
                    try simp only [List.getElem_toArray, List.getElem_cons_zero, List.getElem_cons_succ, Act.put, List.setIfInBounds_toArray, List.set_cons_zero, List.set_cons_succ]
                    refine wpAnyG_one (i := 3) (by kernel_rfl) rfl (fun K' hK => ?_)
                    refine step_call2 rfl 19 (.tmp 92) (.tmp 94) 24 3 rfl Try.callHas (y1 := .pointer (some ⟨g, 0, none⟩)) (y2 := .int .i64 nn) rfl rfl (has_any w.heap.size g (most0 most) nn v l u0 hA3.t (by omega)) ?_
                    rintro e u1 ⟨rfl, hB4⟩
                    have hA4 := hA3.keep hB4
                    have hS4 := hS3.below hB4 hS3.lt
                    obtain ⟨m, hm⟩ : ∃ m, ((says l).filter fun M => decide (M.job = nn)).length = m := ⟨_, rfl⟩
                    rw [hm]
                    refine ⟨_, rfl, hK.out _ _ (GateS.of hS4) (fun _ => ?_)⟩
                    clear hK K'
                    try simp only [List.getElem_toArray, List.getElem_cons_zero, List.getElem_cons_succ, Act.put, List.setIfInBounds_toArray, List.set_cons_zero, List.set_cons_succ]
                    clear hA3 hS3
                    refine wpAnyG_one (i := 7) (by kernel_rfl) rfl (fun K' hK => ?_)
                    refine step_call3 rfl 15 (.tmp 96) (.tmp 98) (.const (.bool true)) 26 3 4 rfl Try.callMDone (y1 := .pointer (some ⟨gm, 0, none⟩)) (y2 := .int .i64 nn) (y3 := .bool true) rfl rfl rfl (rdone_loop true w.heap.size gm most nn vm (rows r) u1 hA4.m hA4.nums (by rw [rows_length, ← HLR.out]; omega) hA4.size) ?_
                    rintro e u2 ⟨vo2, rfl, hro, hB5⟩
                    have hA5 := hA4.keep hB5
                    rw [(hA4.filter (job_says nn)).1] at hro
                    unfold RRow at hro
                    have hmm : (rows (r.filter fun p => (fun x => decide (jobOf x = nn)) p.1)).length = m := by rw [rows_length, ← says_length, (hA4.filter (job_says nn)).2, ← HSY.out]; exact hm
                    rw [hmm] at hro
                    obtain ⟨A5, c5, rfl⟩ := own_slice hro
                    refine ⟨_, rfl, hK.out _ _ (GateS.vac (of_decide_eq_true (by kernel_rfl))) (fun _ => ?_)⟩
                    clear hK K'
                    try simp only [List.getElem_toArray, List.getElem_cons_zero, List.getElem_cons_succ, Act.put, List.setIfInBounds_toArray, List.set_cons_zero, List.set_cons_succ]
                    clear hA4 hS4 hB4 hB5 hro hmm hm
                    refine wpAnyG_open _ _ _ _ (of_decide_eq_true (by kernel_rfl)) ?_
                    refine wpAny_take (i := 8) (v := ?vv77) rfl (by kernel_rfl) (by kernel_rfl) (by kernel_rfl) (fun _ _ _ h => h) (Or.inl ⟨by rfl, ?hy77⟩) ?_
                    case hy77 => intro w; go_simp; try with_reducible rfl
                    try simp only [List.getElem_toArray, List.getElem_cons_zero, List.getElem_cons_succ, Act.put, List.setIfInBounds_toArray, List.set_cons_zero, List.set_cons_succ]
                    refine wpAny_take (i := 9) (v := ?vv78) rfl (by kernel_rfl) (by kernel_rfl) (by kernel_rfl) (fun _ _ _ h => h) (Or.inl ⟨by rfl, ?hy78⟩) ?_
                    case hy78 => intro w; go_simp; try with_reducible rfl
                    try simp only [List.getElem_toArray, List.getElem_cons_zero, List.getElem_cons_succ, Act.put, List.setIfInBounds_toArray, List.set_cons_zero, List.set_cons_succ]
                    refine wpAny_take (i := 10) (v := ?vv79) rfl (by kernel_rfl) (by kernel_rfl) (by kernel_rfl) (fun _ _ _ h => h) (Or.inl ⟨by rfl, ?hy79⟩) ?_
                    case hy79 => intro w; go_simp; try with_reducible rfl
                    try simp only [List.getElem_toArray, List.getElem_cons_zero, List.getElem_cons_succ, Act.put, List.setIfInBounds_toArray, List.set_cons_zero, List.set_cons_succ]
                    refine wpAny_done (by kernel_rfl) ?_ _
                    have hfin := hA5
                    have hsame : says (l) = says (r) := HSY.out
                    have hle : (l).length ≤ k + 1 := by omega
                    obtain ⟨lf, hlf⟩ : ∃ lf, (l) = lf := ⟨_, rfl⟩
                    obtain ⟨rf, hrf⟩ : ∃ rf, (r) = rf := ⟨_, rfl⟩
                    rw [hlf, hrf] at hfin hsame
                    rw [hlf] at hle
                    have hlen := len_of_says hsame
                    obtain ⟨Am, cm, hvm⟩ := own_slice hfin.m.2.1
                    rw [hvm, rows_length, ← hlen] at hfin
                    have HF := Lib.hid hfin
                    have HSAME := Lib.hid hsame
                    clear hfin hsame hlen hlf hrf hvm
                    go_wp2_with fail
                    have hF3 := HF.out.keep (Below.refl (u2).heap.size (u2)).drew
                    obtain ⟨uf, huf⟩ : ∃ u', (u2).drew = u' := ⟨_, rfl⟩
                    have hcg : uf.cell? ⟨gm, 1, none⟩ = some (.slice Am lf.length cm) := by rw [← huf]; exact hF3.m.1.cell 1
                    refine wp_region_gate (gate := [6]) (S := fun w' => w'.cell? ⟨gm, 1, none⟩ = some (.slice Am lf.length cm)) (by kernel_rfl) ?_
                    rw [huf] at hF3 ⊢
                    clear huf HF
                    refine wpAnyG_take (i := 0) (v := ?vv80) rfl (by decide) (by kernel_rfl) (by kernel_rfl) (by kernel_rfl) (fun _ _ _ h => h) (Or.inl ⟨by rfl, ?hy80⟩) (GateS.of hcg) (fun _ => ?_)
                    case hy80 => intro w; go_simp; try with_reducible rfl
                    try simp only [List.getElem_toArray, List.getElem_cons_zero, Act.put, List.setIfInBounds_toArray, List.set_cons_zero, List.set_cons_succ]
                    refine wpAnyG_take (i := 2) (v := ?vv81) rfl (by decide) (by kernel_rfl) (by kernel_rfl) (by kernel_rfl) (fun _ _ _ h => h) (Or.inl ⟨by rfl, ?hy81⟩) (GateS.of hcg) (fun _ => ?_)
                    case hy81 => intro w; go_simp; try with_reducible rfl
                    try simp only [List.getElem_toArray, List.getElem_cons_zero, List.getElem_cons_succ, Act.put, List.setIfInBounds_toArray, List.set_cons_zero, List.set_cons_succ]
                    refine wpAnyG_take (i := 3) (v := ?vv82) rfl (by decide) (by kernel_rfl) (by kernel_rfl) (by kernel_rfl) (fun _ _ _ h => h) (Or.inl ⟨by rfl, ?hy82⟩) (GateS.of hcg) (fun _ => ?_)
                    case hy82 => intro w; go_simp; try with_reducible rfl
                    try simp only [List.getElem_toArray, List.getElem_cons_zero, List.getElem_cons_succ, Act.put, List.setIfInBounds_toArray, List.set_cons_zero, List.set_cons_succ]
                    refine wpAnyG_take (i := 4) (v := ?vv83) rfl (by decide) (by kernel_rfl) (by kernel_rfl) (by kernel_rfl) (fun _ _ _ h => h) (Or.inl ⟨by rfl, ?hy83⟩) (GateS.of hcg) (fun _ => ?_)
                    case hy83 => intro w; go_simp; try with_reducible rfl
                    try simp only [List.getElem_toArray, List.getElem_cons_zero, List.getElem_cons_succ, Act.put, List.setIfInBounds_toArray, List.set_cons_zero, List.set_cons_succ]
                    refine wpAnyG_load (i := 5) (c := 6) (v := ?vv84) rfl (by decide) ⟨by decide, by kernel_rfl⟩ (by kernel_rfl) (by kernel_rfl) (by kernel_rfl) (by kernel_rfl) (fun _ _ _ h => h) (Or.inl ⟨by rfl, ?hy84⟩) (GateS.of hcg) (fun _ => ?_)
                    case hy84 => intro w hSw; go_simp; try with_reducible rfl
                    try simp only [List.getElem_toArray, List.getElem_cons_zero, List.getElem_cons_succ, Act.put, List.setIfInBounds_toArray, List.set_cons_zero, List.set_cons_succ]
                    refine wpAnyG_two (i := 1) (j := 6) (by kernel_rfl) rfl rfl (fun K' hK => ?_) (fun K' hK => ?_)
                    · refine step_call rfl 20 (.tmp 103) 24 rfl Try.callLen (y := .pointer (some ⟨g, 0, none⟩)) rfl (tlen_any w.heap.size g (most0 most) _ lf uf hF3.t) ?_
                      rintro e u9 ⟨rfl, rfl⟩
                      refine ⟨_, rfl, hK.out _ _ (GateS.of hcg) (fun _ => ?_)⟩
                      clear hK K'
                      try simp only [List.getElem_toArray, List.getElem_cons_zero, List.getElem_cons_succ, Act.put, List.setIfInBounds_toArray, List.set_cons_zero, List.set_cons_succ]
                      refine wpAnyG_one (i := 6) (by kernel_rfl) rfl (fun K' hK => ?_)
                      simp only [List.getElem_toArray, List.getElem_cons_zero, List.getElem_cons_succ]
                      go_simp
                      refine hK.out _ _ (GateS.vac (of_decide_eq_true (by kernel_rfl))) (fun _ => ?_)
                      clear hK K'
                      try simp only [List.getElem_toArray, List.getElem_cons_zero, List.getElem_cons_succ, Act.put, List.setIfInBounds_toArray, List.set_cons_zero, List.set_cons_succ]
                      refine wpAnyG_open _ _ _ _ (of_decide_eq_true (by kernel_rfl)) ?_
                      refine wpAny_take (i := 7) (v := ?vv85) rfl (by kernel_rfl) (by kernel_rfl) (by kernel_rfl) (fun _ _ _ h => h) (Or.inl ⟨by rfl, ?hy85⟩) ?_
                      case hy85 => intro w; go_simp; try with_reducible rfl
                      try simp only [List.getElem_toArray, List.getElem_cons_zero, List.getElem_cons_succ, Act.put, List.setIfInBounds_toArray, List.set_cons_zero, List.set_cons_succ]
                      refine wpAny_done (by kernel_rfl) ?_ _
                      go_wp2
                      go_roundw
                      case rel => exact ⟨k + 1, _, _, lf, rf, by omega, by go_num, hF3, HSAME.out, hle⟩
                      case measure => simp [intOf]; omega
                    · simp only [List.getElem_toArray, List.getElem_cons_zero, List.getElem_cons_succ]
                      go_simp
                      refine hK.out _ _ (GateS.vac (of_decide_eq_true (by kernel_rfl))) (fun _ => ?_)
                      clear hK K'
                      try simp only [List.getElem_toArray, List.getElem_cons_zero, List.getElem_cons_succ, Act.put, List.setIfInBounds_toArray, List.set_cons_zero, List.set_cons_succ]
                      refine wpAnyG_one (i := 1) (by kernel_rfl) rfl (fun K' hK => ?_)
                      refine step_call rfl 20 (.tmp 103) 24 rfl Try.callLen (y := .pointer (some ⟨g, 0, none⟩)) rfl (tlen_any w.heap.size g (most0 most) _ lf uf hF3.t) ?_
                      rintro e u9 ⟨rfl, rfl⟩
                      refine ⟨_, rfl, hK.out _ _ (GateS.vac (of_decide_eq_true (by kernel_rfl))) (fun _ => ?_)⟩
                      clear hK K'
                      try simp only [List.getElem_toArray, List.getElem_cons_zero, List.getElem_cons_succ, Act.put, List.setIfInBounds_toArray, List.set_cons_zero, List.set_cons_succ]
                      refine wpAnyG_open _ _ _ _ (of_decide_eq_true (by kernel_rfl)) ?_
                      refine wpAny_take (i := 7) (v := ?vv86) rfl (by kernel_rfl) (by kernel_rfl) (by kernel_rfl) (fun _ _ _ h => h) (Or.inl ⟨by rfl, ?hy86⟩) ?_
                      case hy86 => intro w; go_simp; try with_reducible rfl
                      try simp only [List.getElem_toArray, List.getElem_cons_zero, List.getElem_cons_succ, Act.put, List.setIfInBounds_toArray, List.set_cons_zero, List.set_cons_succ]
                      refine wpAny_done (by kernel_rfl) ?_ _
                      go_wp2
                      go_roundw
                      case rel => exact ⟨k + 1, _, _, lf, rf, by omega, by go_num, hF3, HSAME.out, hle⟩
                      case measure => simp [intOf]; omega
                  · have hfin := hA2
                    have hsame : says (l) = says (r) := HSY.out
                    have hle : (l).length ≤ k + 1 := by omega
                    obtain ⟨lf, hlf⟩ : ∃ lf, (l) = lf := ⟨_, rfl⟩
                    obtain ⟨rf, hrf⟩ : ∃ rf, (r) = rf := ⟨_, rfl⟩
                    rw [hlf, hrf] at hfin hsame
                    rw [hlf] at hle
                    have hlen := len_of_says hsame
                    obtain ⟨Am, cm, hvm⟩ := own_slice hfin.m.2.1
                    rw [hvm, rows_length, ← hlen] at hfin
                    have HF := Lib.hid hfin
                    have HSAME := Lib.hid hsame
                    clear hfin hsame hlen hlf hrf hvm
                    go_wp2_with fail
                    have hF3 := HF.out.keep (Below.refl (w2).heap.size (w2)).drew
                    obtain ⟨uf, huf⟩ : ∃ u', (w2).drew = u' := ⟨_, rfl⟩
                    have hcg : uf.cell? ⟨gm, 1, none⟩ = some (.slice Am lf.length cm) := by rw [← huf]; exact hF3.m.1.cell 1
                    refine wp_region_gate (gate := [6]) (S := fun w' => w'.cell? ⟨gm, 1, none⟩ = some (.slice Am lf.length cm)) (by kernel_rfl) ?_
                    rw [huf] at hF3 ⊢
                    clear huf HF
                    refine wpAnyG_take (i := 0) (v := ?vv87) rfl (by decide) (by kernel_rfl) (by kernel_rfl) (by kernel_rfl) (fun _ _ _ h => h) (Or.inl ⟨by rfl, ?hy87⟩) (GateS.of hcg) (fun _ => ?_)
                    case hy87 => intro w; go_simp; try with_reducible rfl
                    try simp only [List.getElem_toArray, List.getElem_cons_zero, Act.put, List.setIfInBounds_toArray, List.set_cons_zero, List.set_cons_succ]
                    refine wpAnyG_take (i := 2) (v := ?vv88) rfl (by decide) (by kernel_rfl) (by kernel_rfl) (by kernel_rfl) (fun _ _ _ h => h) (Or.inl ⟨by rfl, ?hy88⟩) (GateS.of hcg) (fun _ => ?_)
                    case hy88 => intro w; go_simp; try with_reducible rfl
                    try simp only [List.getElem_toArray, List.getElem_cons_zero, List.getElem_cons_succ, Act.put, List.setIfInBounds_toArray, List.set_cons_zero, List.set_cons_succ]
                    refine wpAnyG_take (i := 3) (v := ?vv89) rfl (by decide) (by kernel_rfl) (by kernel_rfl) (by kernel_rfl) (fun _ _ _ h => h) (Or.inl ⟨by rfl, ?hy89⟩) (GateS.of hcg) (fun _ => ?_)
                    case hy89 => intro w; go_simp; try with_reducible rfl
                    try simp only [List.getElem_toArray, List.getElem_cons_zero, List.getElem_cons_succ, Act.put, List.setIfInBounds_toArray, List.set_cons_zero, List.set_cons_succ]
                    refine wpAnyG_take (i := 4) (v := ?vv90) rfl (by decide) (by kernel_rfl) (by kernel_rfl) (by kernel_rfl) (fun _ _ _ h => h) (Or.inl ⟨by rfl, ?hy90⟩) (GateS.of hcg) (fun _ => ?_)
                    case hy90 => intro w; go_simp; try with_reducible rfl
                    try simp only [List.getElem_toArray, List.getElem_cons_zero, List.getElem_cons_succ, Act.put, List.setIfInBounds_toArray, List.set_cons_zero, List.set_cons_succ]
                    refine wpAnyG_load (i := 5) (c := 6) (v := ?vv91) rfl (by decide) ⟨by decide, by kernel_rfl⟩ (by kernel_rfl) (by kernel_rfl) (by kernel_rfl) (by kernel_rfl) (fun _ _ _ h => h) (Or.inl ⟨by rfl, ?hy91⟩) (GateS.of hcg) (fun _ => ?_)
                    case hy91 => intro w hSw; go_simp; try with_reducible rfl
                    try simp only [List.getElem_toArray, List.getElem_cons_zero, List.getElem_cons_succ, Act.put, List.setIfInBounds_toArray, List.set_cons_zero, List.set_cons_succ]
                    refine wpAnyG_two (i := 1) (j := 6) (by kernel_rfl) rfl rfl (fun K' hK => ?_) (fun K' hK => ?_)
                    · refine step_call rfl 20 (.tmp 103) 24 rfl Try.callLen (y := .pointer (some ⟨g, 0, none⟩)) rfl (tlen_any w.heap.size g (most0 most) _ lf uf hF3.t) ?_
                      rintro e u9 ⟨rfl, rfl⟩
                      refine ⟨_, rfl, hK.out _ _ (GateS.of hcg) (fun _ => ?_)⟩
                      clear hK K'
                      try simp only [List.getElem_toArray, List.getElem_cons_zero, List.getElem_cons_succ, Act.put, List.setIfInBounds_toArray, List.set_cons_zero, List.set_cons_succ]
                      refine wpAnyG_one (i := 6) (by kernel_rfl) rfl (fun K' hK => ?_)
                      simp only [List.getElem_toArray, List.getElem_cons_zero, List.getElem_cons_succ]
                      go_simp
                      refine hK.out _ _ (GateS.vac (of_decide_eq_true (by kernel_rfl))) (fun _ => ?_)
                      clear hK K'
                      try simp only [List.getElem_toArray, List.getElem_cons_zero, List.getElem_cons_succ, Act.put, List.setIfInBounds_toArray, List.set_cons_zero, List.set_cons_succ]
                      refine wpAnyG_open _ _ _ _ (of_decide_eq_true (by kernel_rfl)) ?_
                      refine wpAny_take (i := 7) (v := ?vv92) rfl (by kernel_rfl) (by kernel_rfl) (by kernel_rfl) (fun _ _ _ h => h) (Or.inl ⟨by rfl, ?hy92⟩) ?_
                      case hy92 => intro w; go_simp; try with_reducible rfl
                      try simp only [List.getElem_toArray, List.getElem_cons_zero, List.getElem_cons_succ, Act.put, List.setIfInBounds_toArray, List.set_cons_zero, List.set_cons_succ]
                      refine wpAny_done (by kernel_rfl) ?_ _
                      go_wp2
                      go_roundw
                      case rel => exact ⟨k + 1, _, _, lf, rf, by omega, by go_num, hF3, HSAME.out, hle⟩
                      case measure => simp [intOf]; omega
                    · simp only [List.getElem_toArray, List.getElem_cons_zero, List.getElem_cons_succ]
                      go_simp
                      refine hK.out _ _ (GateS.vac (of_decide_eq_true (by kernel_rfl))) (fun _ => ?_)
                      clear hK K'
                      try simp only [List.getElem_toArray, List.getElem_cons_zero, List.getElem_cons_succ, Act.put, List.setIfInBounds_toArray, List.set_cons_zero, List.set_cons_succ]
                      refine wpAnyG_one (i := 1) (by kernel_rfl) rfl (fun K' hK => ?_)
                      refine step_call rfl 20 (.tmp 103) 24 rfl Try.callLen (y := .pointer (some ⟨g, 0, none⟩)) rfl (tlen_any w.heap.size g (most0 most) _ lf uf hF3.t) ?_
                      rintro e u9 ⟨rfl, rfl⟩
                      refine ⟨_, rfl, hK.out _ _ (GateS.vac (of_decide_eq_true (by kernel_rfl))) (fun _ => ?_)⟩
                      clear hK K'
                      try simp only [List.getElem_toArray, List.getElem_cons_zero, List.getElem_cons_succ, Act.put, List.setIfInBounds_toArray, List.set_cons_zero, List.set_cons_succ]
                      refine wpAnyG_open _ _ _ _ (of_decide_eq_true (by kernel_rfl)) ?_
                      refine wpAny_take (i := 7) (v := ?vv93) rfl (by kernel_rfl) (by kernel_rfl) (by kernel_rfl) (fun _ _ _ h => h) (Or.inl ⟨by rfl, ?hy93⟩) ?_
                      case hy93 => intro w; go_simp; try with_reducible rfl
                      try simp only [List.getElem_toArray, List.getElem_cons_zero, List.getElem_cons_succ, Act.put, List.setIfInBounds_toArray, List.set_cons_zero, List.set_cons_succ]
                      refine wpAny_done (by kernel_rfl) ?_ _
                      go_wp2
                      go_roundw
                      case rel => exact ⟨k + 1, _, _, lf, rf, by omega, by go_num, hF3, HSAME.out, hle⟩
                      case measure => simp [intOf]; omega
      · go_wp2_with fail
        refine (awake_any _).mono ?_
        rintro e w3 ⟨rfl, hB3⟩
        go_wp2
        go_ret
        exact ⟨rfl, hA.below.trans (hB3.mono hA.size)⟩
end Go.Proofs.Ytigjipjkollohaa.G
