/-
  What chapter 18's laws call awake; askers by their numbers.
-/
import Derived.Test.YtigjipjkollohaaClientAdd
namespace Go.Proofs.Ytigjipjkollohaa
open Go.RowKit

/-- An asker of an empty message. -/
def askA (cl job came : Int) : Array Value :=
  #[.int .i64 cl, .int .i64 0, .int .i64 job, .int .i64 came, .int .i64 0, .bool false, .int .i64 0, .bool false, .bool false, .bool false, .bool false, .int .i64 0, .slice none 0 0, .slice none 0 0, .slice none 0 0, .slice none 0 0, .bool false, .int .i64 0]
theorem askX (cl job came : Int) : AskX (askA cl job came) := ⟨rfl, by kernel_rfl, rfl, rfl, rfl, rfl⟩
theorem askJob (cl job came : Int) : jobOf (askA cl job came) = job := rfl
theorem askCame (cl job came : Int) : cameOf (askA cl job came) = came := rfl
theorem askNum {cl job came : Int} (hj : (Lit.int .i64 job).wf = true) (hc : (Lit.int .i64 came).wf = true) : Num (askA cl job came) := ⟨⟨rfl, hj⟩, rfl, hc⟩
theorem wf_small {n : Int} (h1 : -9223372036854775808 ≤ n) (h2 : n ≤ 9223372036854775807) : (Lit.int .i64 n).wf = true := by
  have hmin : IntKind.i64.min = -9223372036854775808 := rfl
  have hmax : IntKind.i64.max = 9223372036854775807 := rfl
  simp only [Lit.wf, Bool.and_eq_true, decide_eq_true_eq, hmin, hmax]
  exact ⟨h1, h2⟩
def AddOk (B g : Nat) (most : Int) (v : Value) (l : List (Array Value)) (x : Array Value) (w : World) (e : Ending) (w' : World) : Prop :=
  ∃ v', e = .returned (.int .i64 0) ∧ TAt B w' g most v' (l ++ [x]) ∧ TStep g v v' w w'
theorem add_ok (B g : Nat) (most : Int) (v : Value) (l : List (Array Value)) (x : Array Value) (w : World) (h : TAt B w g most v l) (hx : AskX x) (hl : l.length ≤ 1000) (hB : B ≤ w.heap.size) (hm : (l.length : Int) < most) :
    Calls Try.prog 10 #[.pointer (some ⟨g, 0, none⟩), .agg x] w (AddOk B g most v l x w) := by
  refine (add_any B g most v l x w h hx hl hB).mono ?_
  intro e w' hp
  unfold AddPost at hp
  rw [if_neg (by omega)] at hp
  exact hp
theorem add_full (B g : Nat) (most : Int) (v : Value) (l : List (Array Value)) (x : Array Value) (w : World) (h : TAt B w g most v l) (hx : AskX x) (hl : l.length ≤ 1000) (hB : B ≤ w.heap.size) (hm : most ≤ (l.length : Int)) :
    Calls Try.prog 10 #[.pointer (some ⟨g, 0, none⟩), .agg x] w fun e w' => e = .returned (.int .i64 4) ∧ Below w.heap.size w w' := by
  refine (add_any B g most v l x w h hx hl hB).mono ?_
  intro e w' hp
  unfold AddPost at hp
  rw [if_pos hm] at hp
  exact hp
/-- What a law keeps of its table: it is in new memory; what was there is as it was. -/
def TLaw (w0 : World) (g : Nat) (most : Int) (v : Value) (l : List (Array Value)) (w : World) : Prop :=
  TAt w0.heap.size w g most v l ∧ Below w0.heap.size w0 w ∧ w0.heap.size ≤ g
section
variable {w0 w w' : World} {g : Nat} {most : Int} {v v' : Value} {l l' : List (Array Value)}
theorem TLaw.size (h : TLaw w0 g most v l w) : w0.heap.size ≤ w.heap.size := h.2.1.size
theorem TLaw.below (h : TLaw w0 g most v l w) (hb : Below w.heap.size w w') : TLaw w0 g most v l w' := ⟨h.1.below hb, h.2.1.trans (hb.mono h.2.1.size), h.2.2⟩
theorem TLaw.step (h : TLaw w0 g most v l w) (hT : TAt w0.heap.size w' g most v' l') (hs : TStep g v v' w w') : TLaw w0 g most v' l' w' :=
  ⟨hT, tstep_mem h.2.1 h.2.1.size h.2.2 (fun i hi => (h.1.2.1.lt i hi).1) hs, h.2.2⟩
theorem tlaw_new {g : Nat} (hT : TAt w0.heap.size w g most v l) (hb : Below w0.heap.size w0 w) (hg : w0.heap.size ≤ g) : TLaw w0 g most v l w := ⟨hT, hb, hg⟩
end
/-- A cell of an asker that was told. -/
theorem told_cell {w w' : World} {B n c k j : Nat} {A : Option Addr} {l : List (Array Value)} (ho : w.ownsRow B 35 18 (.slice A n c) n (l.flatMap Array.toList)) (hn : n = l.length) (hl : ∀ x ∈ l, AskX x) (hk : k < l.length) (hj : j < 18)
    (hb : Below w.heap.size w w') : ∃ rb, A = some ⟨rb, 0, none⟩ ∧ w'.cell? ⟨rb, k * 18 + j, none⟩ = l[k][j]? := by
  subst hn
  obtain ⟨rb, cap, hA, _, _⟩ := ho.form (by omega)
  injection hA with hA _ _
  subst hA
  refine ⟨rb, rfl, ?_⟩
  have hsz := (hl _ (List.getElem_mem hk)).size
  have h := row_range ho hl hk hb j (l[k][j]'(by omega)) (by rw [Array.getElem?_toList]; exact Array.getElem?_eq_getElem _)
  rw [h]
  exact (Array.getElem?_eq_getElem _).symm

/-- What was told stays, whatever the table does. -/
theorem told_stays {wA w w' : World} {B g n : Nat} {most : Int} {v v' v2 vo : Value} {l : List (Array Value)} {xs : List Value} (hA : TAt B wA g most v l) (ho : w.ownsRow wA.heap.size 35 18 vo n xs) (hv : v'.ownBlock = v.ownBlock) (hs : TStep g v' v2 w w') :
    w'.ownsRow wA.heap.size 35 18 vo n xs :=
  own_only ho hs.1 (fun k hk hf => by
    have h1 := (ho.lt k hk).1
    rcases hf with hf | hf
    · have := hA.1.lt; omega
    · rw [hv] at hf; have := (hA.2.1.lt k hf).2; omega)
theorem own_stays {w w' : World} {B n : Nat} {vo : Value} {xs : List Value} (ho : w.ownsRow B 35 18 vo n xs) (hb : Below w.heap.size w w') : w'.ownsRow B 35 18 vo n xs := own_only ho (Only.of_below hb (fun _ => False)) (fun _ _ hf => hf)

set_option maxRecDepth 200000 in
set_option maxHeartbeats 4000000 in
theorem awake_any (w : World) : Calls Try.prog 7 #[] w fun e w' => e = .returned (.bool true) ∧ Below w.heap.size w w' := by
  go_enter Try.func7, Try.ntmps7
  go_wp2_with fail
  refine (new_any 2 _).mono ?_
  rintro e w1 ⟨g, rfl, hT1, hB1, hg⟩
  have hL1 := tlaw_new hT1 hB1 hg
  go_wp2_with fail
  refine (add_ok w.heap.size g 2 _ [] (askA 1 7 0) _ hL1.1 (askX _ _ _) (by simp) hL1.size (by simp)).mono ?_
  rintro e w2 ⟨v2, rfl, hT2, hs2⟩
  have hL2 := hL1.step hT2 hs2
  go_wp2_with fail
  refine (add_ok w.heap.size g 2 _ [askA 1 7 0] (askA 2 7 5) _ hL2.1 (askX _ _ _) (by simp) hL2.size (by simp)).mono ?_
  rintro e w3 ⟨v3, rfl, hT3, hs3⟩
  have hL3 := hL2.step hT3 hs3
  go_wp2_with fail
  refine (add_full w.heap.size g 2 _ [askA 1 7 0, askA 2 7 5] (askA 0 0 0) _ hL3.1 (askX _ _ _) (by simp) hL3.size (by simp)).mono ?_
  rintro e w4 ⟨rfl, hB4⟩
  have hL4 := hL3.below hB4
  have hnum : ∀ x ∈ [askA 1 7 0, askA 2 7 5], Num x := by
    intro x hx
    rcases List.mem_cons.1 hx with rfl | hx
    · exact askNum rfl rfl
    · rw [List.mem_singleton] at hx; subst hx; exact askNum rfl rfl
  clear hL1 hL2 hL3 hT1 hT2 hT3 hs2 hs3 hB1 hB4
  go_wp2_with fail
  refine (tlate_any w.heap.size g 2 10 10 _ _ _ hL4.1 hnum (by simp) rfl rfl).mono ?_
  rintro e w5 ⟨vo5, v5, rfl, ho5, hT5, hs5, hv5⟩
  have ho5 : w5.ownsRow w4.heap.size 35 18 vo5 1 ([askA 1 7 0].flatMap Array.toList) := ho5
  have hT5 : TAt w.heap.size w5 g _ v5 [askA 2 7 5] := hT5
  have hL5 := hL4.step hT5 hs5
  have hnum5 : ∀ x ∈ [askA 2 7 5], Num x := fun x hx => hnum x (by simp at hx ⊢; exact Or.inr hx)
  obtain ⟨A5, c5, rfl⟩ := own_slice ho5
  go_wp2_with fail
  refine (done_any w.heap.size g _ 7 _ [askA 2 7 5] _ hL5.1 hnum5 (by simp)).mono ?_
  rintro e w6 ⟨vo6, v6, rfl, ho6, hT6, hs6, hv6⟩
  have ho6 : w6.ownsRow w5.heap.size 35 18 vo6 1 ([askA 2 7 5].flatMap Array.toList) := ho6
  have hT6 : TAt w.heap.size w6 g _ v6 [] := hT6
  have hL6 := hL5.step hT6 hs6
  have ho56 := told_stays hL4.1 ho5 hv5 hs6
  obtain ⟨A6, c6, rfl⟩ := own_slice ho6
  obtain ⟨rb5, rfl, hc5⟩ := told_cell (k := 0) (j := 0) ho56 rfl (by intro x hx; rw [List.mem_singleton] at hx; subst hx; exact askX _ _ _) (by simp) (by omega) (Below.refl _ _)
  obtain ⟨rb6, rfl, hc6⟩ := told_cell (k := 0) (j := 0) ho6 rfl (by intro x hx; rw [List.mem_singleton] at hx; subst hx; exact askX _ _ _) (by simp) (by omega) (Below.refl _ _)
  have hc5' : w6.cell? ⟨rb5, 0, none⟩ = some (.int .i64 1) := hc5
  have hc6' : w6.cell? ⟨rb6, 0, none⟩ = some (.int .i64 2) := hc6
  clear hc5 hc6 ho5 ho6 ho56 hT5 hT6 hs5 hs6 hL4 hL5 hnum hnum5
  go_wp2_with fail
  refine (tlen_any w.heap.size g _ _ [] _ hL6.1).mono ?_
  rintro e w7 ⟨rfl, rfl⟩
  go_wp2_with fail
  refine (has_any w.heap.size g _ 7 _ [] _ hL6.1 (fun x hx => by cases hx) (by simp)).mono ?_
  rintro e w8 ⟨rfl, hB8⟩
  go_wp2_with fail
  refine (add_nil (askA 0 0 0) _).mono ?_
  rintro e w9 ⟨rfl, hB9⟩
  go_wp2_with fail
  refine (tlen_nil _).mono ?_
  rintro e w10 ⟨rfl, rfl⟩
  go_wp2
  go_ret
  have hq := hL6.2.1.trans (hB8.mono hL6.size)
  exact ⟨rfl, hq.trans (hB9.mono hq.size)⟩
end Go.Proofs.Ytigjipjkollohaa
