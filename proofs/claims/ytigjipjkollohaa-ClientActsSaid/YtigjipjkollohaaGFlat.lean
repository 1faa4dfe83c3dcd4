/-
  The contract of the law's flat.
-/
import Derived.Test.YtigjipjkollohaaRAdd
namespace Go.Proofs.Ytigjipjkollohaa.G
open Go.RowKit

/-- The last fourteen cells: what was asked. -/
def askOf (x : Array Value) : Array Value := (x.toList.drop 4).toArray
theorem askOf_at (x : Array Value) (j : Nat) : (askOf x)[j]? = x[j + 4]? := by
  unfold askOf
  rw [List.getElem?_toArray, List.getElem?_drop, Array.getElem?_toList, Nat.add_comm]
theorem askOf_size {x : Array Value} (h : AskG x) : (askOf x).size = 14 := by
  unfold askOf
  rw [List.size_toArray, List.length_drop, Array.length_toList, h.size]
theorem ask_range {w : World} {b o : Nat} {x : Array Value} (h : w.rangeAt b o x.toList) : w.rangeAt b (o + 4) (x.toList.drop 4) := by
  intro j u hu
  rw [List.getElem?_drop] at hu
  rw [Nat.add_assoc]
  exact h _ _ hu
theorem Try.sizeMsg : (Try.prog.info? 33).map (·.size) = some 14 := by kernel_rfl
theorem ask_info {x : Array Value} (h : AskG x) : (Try.prog.info? 33).map (·.size) = some (x.toList.drop 4).length := by
  rw [List.length_drop, Array.length_toList, h.size]; exact Try.sizeMsg

theorem fold_asks (a b c d e f g i j k m n o p q r s t : Value) : List.foldl (fun (cs : Array Value) (p : Value × Nat) => cs.setIfInBounds (4 + p.snd) p.fst) #[a, b, c, d, .int .i64 0, .bool false, .int .i64 0, .bool false, .bool false, .bool false, .bool false, .int .i64 0, .slice none 0 0, .slice none 0 0, .slice none 0 0, .slice none 0 0, .bool false, .int .i64 0] (List.drop 4 (#[a, b, c, d, e, f, g, i, j, k, m, n, o, p, q, r, s, t] : Array Value).toList).zipIdx = #[a, b, c, d, e, f, g, i, j, k, m, n, o, p, q, r, s, t] := by
  kernel_rfl
theorem fold_flat0 {x : Array Value} (h : AskG x) {a b c d : Value} (h0 : x[0]? = some a) (h1 : x[1]? = some b) (h2 : x[2]? = some c) (h3 : x[3]? = some d) : List.foldl (fun (cs : Array Value) (p : Value × Nat) => cs.setIfInBounds (4 + p.snd) p.fst) #[a, b, c, d, .int .i64 0, .bool false, .int .i64 0, .bool false, .bool false, .bool false, .bool false, .int .i64 0, .slice none 0 0, .slice none 0 0, .slice none 0 0, .slice none 0 0, .bool false, .int .i64 0] (List.drop 4 x.toList).zipIdx = x := by
  obtain ⟨a', b', c', d', e, f, g, i, j, k, m, n, o, p, q, r, s, t, hx⟩ := array18 h.size
  rw [hx] at h0 h1 h2 h3 ⊢
  obtain rfl : a' = a := by injection h0
  obtain rfl : b' = b := by injection h1
  obtain rfl : c' = c := by injection h2
  obtain rfl : d' = d := by injection h3
  exact fold_asks a' b' c' d' e f g i j k m n o p q r s t
theorem fold_flat {x : Array Value} {M : AskD} (h : AskG x) (hs : Scal x M) : List.foldl (fun (cs : Array Value) (p : Value × Nat) => cs.setIfInBounds (4 + p.snd) p.fst) #[.int .i64 M.client, .int .i64 M.port, .int .i64 M.job, .int .i64 M.came, .int .i64 0, .bool false, .int .i64 0, .bool false, .bool false, .bool false, .bool false, .int .i64 0, .slice none 0 0, .slice none 0 0, .slice none 0 0, .slice none 0 0, .bool false, .int .i64 0] (List.drop 4 x.toList).zipIdx = x :=
  fold_flat0 h hs.c0 hs.c1 hs.c2 hs.c3

set_option maxRecDepth 200000 in
set_option maxHeartbeats 1000000 in
theorem flat_any (x : Array Value) (M : AskD) (w : World) (hx : AskG x) (hs : Scal x M) : Calls Try.prog 12 #[.agg x] w fun e w' => e = .returned (.agg x) ∧ Below w.heap.size w w' := by
  have hA := Blk.new w 35 x
  have hr := ask_range (Blk.range (hA.alloc (.cells zeroA 42)))
  rw [Nat.zero_add] at hr
  have h0 : ((w.alloc (.cells x 35)).alloc (.cells zeroA 42)).cell? ⟨w.heap.size, 0, none⟩ = some (.int .i64 M.client) := ((hA.alloc _).cell 0).trans hs.c0
  have h1 : ((w.alloc (.cells x 35)).alloc (.cells zeroA 42)).cell? ⟨w.heap.size, 1, none⟩ = some (.int .i64 M.port) := ((hA.alloc _).cell 1).trans hs.c1
  have h2 : ((w.alloc (.cells x 35)).alloc (.cells zeroA 42)).cell? ⟨w.heap.size, 2, none⟩ = some (.int .i64 M.job) := ((hA.alloc _).cell 2).trans hs.c2
  have h3 : ((w.alloc (.cells x 35)).alloc (.cells zeroA 42)).cell? ⟨w.heap.size, 3, none⟩ = some (.int .i64 M.came) := ((hA.alloc _).cell 3).trans hs.c3
  obtain ⟨wA, hwA⟩ : ∃ wA, ((w.alloc (.cells x 35)).alloc (.cells zeroA 42)) = wA := ⟨_, rfl⟩
  rw [hwA] at hr h0 h1 h2 h3
  have hB : Below w.heap.size w wA := by rw [← hwA]; exact ((Below.refl _ _).alloc (Nat.le_refl _) _).alloc (by simp) _
  have hR : Blk wA (w.heap.size + 1) 42 zeroA := by rw [← hwA]; have := Blk.new (w.alloc (.cells x 35)) 42 zeroA; simpa using this
  unfold zeroA at hwA
  have hfold := fold_flat hx hs
  have hsz := hx.size
  clear hs hA
  go_enter Try.func12, Try.ntmps12
  go_wp2_with (first | refine wpList_load_mid rfl 33 _ rfl w.heap.size 4 rfl (x.toList.drop 4) _ hr Try.underlying33 rfl (ask_info hx) ?_ | refine wpList_store_row rfl 42 _ _ rfl (w.heap.size + 1) x rfl rfl 42 zeroA hR hx.infoR hx.size.symm hx.one ?_)
  have hR5 : Blk (wA.setRow (w.heap.size + 1) x) (w.heap.size + 1) 42 x := hR.setRow
  refine bodyPost_ret (results_cell_row rfl _ _ (w.heap.size + 1) 42 x _ _ rfl hR5 Try.underlying42 rfl hx.infoR) rfl ?_
  exact ⟨rfl, below_row hB (Nat.le_succ _) x⟩
end Go.Proofs.Ytigjipjkollohaa.G
