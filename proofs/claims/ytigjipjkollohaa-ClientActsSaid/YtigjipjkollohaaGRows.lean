/-
  Rows of askers that are written over, cut, cleared.
-/
import Derived.Test.YtigjipjkollohaaGThose
import Derived.Lib.SliceRun
namespace Go.Proofs.Ytigjipjkollohaa.G
open Go.RowKit

theorem flat_set (l : List (Array Value)) (hl : ∀ x ∈ l, AskG x) (i : Nat) (hi : i < l.length) (x : Array Value) (hx : AskG x) : setL (l.flatMap Array.toList) (i * 18) x.toList = (l.set i x).flatMap Array.toList := by
  have hl2 : ∀ y ∈ l.set i x, AskG y := fun y hy => by
    rcases List.mem_or_eq_of_mem_set hy with hy | rfl
    · exact hl y hy
    · exact hx
  have hlen := flat_len l hl
  have hxl : x.toList.length = 18 := by rw [Array.length_toList]; exact hx.size
  refine flat_ext (n := l.length * 18) (by rw [setL_length, hlen]) (by rw [flat_len _ hl2, List.length_set]) (fun j hj => ?_)
  rw [setL_at _ _ _ (by rw [hxl, hlen]; omega)]
  have hk : j / 18 < l.length := by omega
  have hjj : j = j / 18 * 18 + j % 18 := by omega
  have h2 := flat_at (l.set i x) (j / 18) (j % 18) hl2 (by rw [List.length_set]; exact hk) (by omega)
  have h1 := flat_at l (j / 18) (j % 18) hl hk (by omega)
  rw [← hjj] at h1 h2
  rw [h2, hxl]
  by_cases hji : j / 18 = i
  · rw [if_pos (by omega), List.getElem_set]
    rw [if_pos hji.symm, ← Array.getElem?_toList]
    congr 1
    omega
  · rw [if_neg (by omega), h1, List.getElem_set_ne (fun e => hji e.symm)]
theorem flat_take (l : List (Array Value)) (hl : ∀ x ∈ l, AskG x) (m : Nat) (hm : m ≤ l.length) (zs : List Value) (hz : m * 18 + zs.length ≤ l.length * 18) : (setL (l.flatMap Array.toList) (m * 18) zs).take (m * 18) = (l.take m).flatMap Array.toList := by
  have hlen := flat_len l hl
  have hl2 : ∀ x ∈ l.take m, AskG x := fun x hx => hl x (List.mem_of_mem_take hx)
  refine flat_ext (n := m * 18) (by rw [List.length_take, setL_length, hlen]; omega) (by rw [flat_len _ hl2, List.length_take, Nat.min_eq_left hm]) (fun j hj => ?_)
  rw [List.getElem?_take, if_pos hj, setL_at _ _ _ (by rw [hlen]; exact hz), if_neg (by omega)]
  have hjj : j = j / 18 * 18 + j % 18 := by omega
  have h1 := flat_at l (j / 18) (j % 18) hl (by omega) (by omega)
  have h2 := flat_at (l.take m) (j / 18) (j % 18) hl2 (by rw [List.length_take]; omega) (by omega)
  rw [← hjj] at h1 h2
  rw [h1, h2, List.getElem_take]
end Go.Proofs.Ytigjipjkollohaa.G
