/-
  client's Table in memory, its askers' messages whatever they hold; the contracts of New and of the functions that are handed in.
-/
import Derived.Test.YtigjipjkollohaaGOwn
namespace Go.Proofs.Ytigjipjkollohaa.G
open Go.RowKit

/-- An asker's cells, and what they say. -/
abbrev Pr := Array Value × AskD
def rows (l : List Pr) : List (Array Value) := l.map (·.1)
def says (l : List Pr) : List AskD := l.map (·.2)
structure Good (B : Nat) (w : World) (p : Pr) : Prop where
  g : AskG p.1
  sc : Scal p.1 p.2
  own : OwnAt B w p.1 p.2
  ok : p.2.Ok
theorem rows_length (l : List Pr) : (rows l).length = l.length := by simp [rows]
theorem rows_at {l : List Pr} {k : Nat} (h : k < l.length) : (rows l)[k]'(by rw [rows_length]; exact h) = l[k].1 := by simp [rows]
theorem rows_app (l k : List Pr) : rows (l ++ k) = rows l ++ rows k := by simp [rows]
theorem says_app (l k : List Pr) : says (l ++ k) = says l ++ says k := by simp [says]
theorem says_length (l : List Pr) : (says l).length = l.length := by simp [says]
theorem rows_filter (l : List Pr) (so : Array Value → Bool) : (rows l).filter so = rows (l.filter fun p => so p.1) := by
  unfold rows; rw [List.filter_map]; rfl
theorem rows_g {l : List Pr} {B : Nat} {w : World} (h : ∀ p ∈ l, Good B w p) : ∀ x ∈ rows l, AskG x := by
  intro x hx
  obtain ⟨p, hp, rfl⟩ := List.mem_map.1 hx
  exact (h p hp).g
theorem jobOf_of {x : Array Value} {M : AskD} (h : Scal x M) : jobOf x = M.job := by unfold jobOf; rw [h.c2]
theorem cameOf_of {x : Array Value} {M : AskD} (h : Scal x M) : cameOf x = M.came := by unfold cameOf; rw [h.c3]
theorem num_of {x : Array Value} {M : AskD} (h : Scal x M) (hm : M.Ok) : Num x := by
  refine ⟨⟨?_, ?_⟩, ?_, ?_⟩
  · rw [jobOf_of h]; exact h.c2
  · rw [jobOf_of h]; exact hm.job
  · rw [cameOf_of h]; exact h.c3
  · rw [cameOf_of h]; exact hm.came
theorem rows_num {l : List Pr} {B : Nat} {w : World} (h : ∀ p ∈ l, Good B w p) : ∀ x ∈ rows l, Num x := by
  intro x hx
  obtain ⟨p, hp, rfl⟩ := List.mem_map.1 hx
  exact num_of (h p hp).sc (h p hp).ok
theorem Good.below {B : Nat} {w w' : World} {p : Pr} (h : Good B w p) (hb : Below w.heap.size w w') : Good B w' p := ⟨h.g, h.sc, h.own.below hb, h.ok⟩
/-- A block that holds neither questions nor records. -/
def Alien (w : World) (k : Nat) : Prop := ∃ t cs, Blk w k t cs ∧ 61 ≠ t ∧ 69 ≠ t
theorem OwnAt.only {B : Nat} {w w' : World} {x : Array Value} {M : AskD} {S : Nat → Prop} (h : OwnAt B w x M) (ho : Only S w w') (hS : ∀ k, k < w.heap.size → S k → Alien w k) : OwnAt B w' x M := by
  have key : ∀ {e : TypeId} {size n : Nat} {vs : List Value}, (e = 61 ∨ e = 69) → ∀ (v : Value) (k : Nat), v.ownBlock = some k → w.ownsRow B e size v n vs → ¬ S k := by
    intro e size n vs he v k hk hr hs
    obtain ⟨t, cs, hb, h1, h2⟩ := hS k (hr.lt k hk).2 hs
    rcases he with rfl | rfl
    · exact own_blk_ne hr hb h1 hk
    · exact own_blk_ne hr hb h2 hk
  exact ⟨h.q.only ho (key (Or.inl rfl)), h.a.only ho (key (Or.inr rfl)), h.s.only ho (key (Or.inr rfl)), h.d.only ho (key (Or.inr rfl))⟩
theorem Good.only {B : Nat} {w w' : World} {p : Pr} {S : Nat → Prop} (h : Good B w p) (ho : Only S w w') (hS : ∀ k, k < w.heap.size → S k → Alien w k) : Good B w' p := ⟨h.g, h.sc, h.own.only ho hS, h.ok⟩
theorem OwnAt.mono {B B' : Nat} {w : World} {x : Array Value} {M : AskD} (h : OwnAt B w x M) (hB : B' ≤ B) : OwnAt B' w x M := by
  obtain ⟨⟨v1, a1, b1⟩, ⟨v2, a2, b2⟩, ⟨v3, a3, b3⟩, v4, a4, b4⟩ := h
  exact ⟨⟨v1, a1, World.ownsRow.mono b1 hB⟩, ⟨v2, a2, World.ownsRow.mono b2 hB⟩, ⟨v3, a3, World.ownsRow.mono b3 hB⟩, v4, a4, World.ownsRow.mono b4 hB⟩
theorem Good.mono {B B' : Nat} {w : World} {p : Pr} (h : Good B w p) (hB : B' ≤ B) : Good B' w p := ⟨h.g, h.sc, h.own.mono hB, h.ok⟩
/-- A row of askers, all in memory from B on. -/
def RowAt (B : Nat) (w : World) (v : Value) (l : List Pr) : Prop := w.ownsRow B 35 18 v l.length ((rows l).flatMap Array.toList) ∧ ∀ p ∈ l, Good B w p
theorem alien_row {B size n k : Nat} {w : World} {v : Value} {e : TypeId} {xs : List Value} (h : w.ownsRow B e size v n xs) (h1 : 61 ≠ e) (h2 : 69 ≠ e) (hk : v.ownBlock = some k) : Alien w k := by
  rcases h.2 with ⟨rfl, _⟩ | ⟨g, cap, cur, rfl, _, hh, _⟩
  · cases hk
  · injection hk with hk
    have hk' : g = k := hk
    subst hk'
    exact ⟨_, cur, hh, h1, h2⟩
theorem alien_blk {w : World} {k : Nat} {t : TypeId} {cs : Array Value} (h : Blk w k t cs) (h1 : 61 ≠ t) (h2 : 69 ≠ t) : Alien w k := ⟨t, cs, h, h1, h2⟩
/-- The table at block g: its row holds the askers. -/
def TAt (B : Nat) (w : World) (g : Nat) (most : Int) (v : Value) (l : List Pr) : Prop :=
  Blk w g 59 #[.int .i64 most, v] ∧ RowAt B w v l

def NewPost (most : Int) (w : World) (e : Ending) (w' : World) : Prop :=
  ∃ g, e = .returned (.pointer (some ⟨g, 0, none⟩)) ∧ TAt w.heap.size w' g (if most < 0 then 0 else most) (.slice none 0 0) [] ∧ Below w.heap.size w w' ∧ w.heap.size ≤ g
set_option maxRecDepth 20000 in
theorem new_any (most : Int) (w : World) : Calls Try.prog 8 #[.int .i64 most] w (NewPost most w) := by
  by_cases h : most < 0
  · go_enter Try.func8, Try.ntmps8
    go_wp2
    go_ret
    refine ⟨w.heap.size, rfl, ⟨?_, World.ownsRow_nil _ _ _ _, fun x hx => by cases hx⟩, (Below.refl _ _).alloc (Nat.le_refl _) _, Nat.le_refl _⟩
    rw [if_pos h]; exact Blk.new _ _ _
  · go_enter Try.func8, Try.ntmps8
    go_wp2
    go_ret
    refine ⟨w.heap.size, rfl, ⟨?_, World.ownsRow_nil _ _ _ _, fun x hx => by cases hx⟩, (Below.refl _ _).alloc (Nat.le_refl _) _, Nat.le_refl _⟩
    rw [if_neg (by omega)]; exact Blk.new _ _ _

/-- It tells of each asker whether it is so. -/
def Says (f : FuncId) (caps : Array Value) (so : Array Value → Bool) (ok : Array Value → Prop) (cs : List (Nat × Int)) : Prop :=
  ∀ (w : World) (x : Array Value), AskG x → ok x → Caps w cs → Calls Try.prog f (#[.agg x] ++ caps) w fun e w' => e = .returned (.bool (so x)) ∧ Below w.heap.size w w'
set_option maxRecDepth 20000 in
set_option maxHeartbeats 1000000 in
theorem says_of (b : Nat) (job : Int) : Says 26 #[.pointer (some ⟨b, 0, none⟩)] (fun x => decide (jobOf x = job)) Num [(b, job)] := by
  intro w x hx hn hc
  have hb : Blk w b 3 #[.int .i64 job] := hc (b, job) (by simp)
  have hj := hn.1.1
  clear hn hc
  obtain ⟨j, hj'⟩ : ∃ j, jobOf x = j := ⟨_, rfl⟩
  rw [hj'] at hj
  have h1 := hb.alloc (.cells x 35)
  have hc2 : (w.alloc (.cells x 35)).cell? ⟨w.heap.size, 2, none⟩ = some (.int .i64 j) := ((Blk.new w 35 x).cell 2).trans hj
  have hc0 : (w.alloc (.cells x 35)).cell? ⟨b, 0, none⟩ = some (.int .i64 job) := h1.cell 0
  show Calls Try.prog 26 #[.agg x, .pointer (some ⟨b, 0, none⟩)] w _
  simp only [hj']
  clear hj' hb h1
  go_enter Try.func26, Try.ntmps26
  go_wp2
  go_ret
  exact ⟨by first | rfl | exact ret_bool (by simp), (Below.refl _ _).alloc (Nat.le_refl _) _⟩
set_option maxRecDepth 20000 in
set_option maxHeartbeats 1000000 in
theorem says_done (b : Nat) (job : Int) : Says 28 #[.pointer (some ⟨b, 0, none⟩)] (fun x => decide (jobOf x = job)) Num [(b, job)] := by
  intro w x hx hn hc
  have hb : Blk w b 3 #[.int .i64 job] := hc (b, job) (by simp)
  have hj := hn.1.1
  clear hn hc
  obtain ⟨j, hj'⟩ : ∃ j, jobOf x = j := ⟨_, rfl⟩
  rw [hj'] at hj
  have h1 := hb.alloc (.cells x 35)
  have hc2 : (w.alloc (.cells x 35)).cell? ⟨w.heap.size, 2, none⟩ = some (.int .i64 j) := ((Blk.new w 35 x).cell 2).trans hj
  have hc0 : (w.alloc (.cells x 35)).cell? ⟨b, 0, none⟩ = some (.int .i64 job) := h1.cell 0
  show Calls Try.prog 28 #[.agg x, .pointer (some ⟨b, 0, none⟩)] w _
  simp only [hj']
  clear hj' hb h1
  go_enter Try.func28, Try.ntmps28
  go_wp2
  go_ret
  exact ⟨by first | rfl | exact ret_bool (by simp), (Below.refl _ _).alloc (Nat.le_refl _) _⟩
set_option maxRecDepth 20000 in
set_option maxHeartbeats 1000000 in
theorem says_late (b c : Nat) (now dl : Int) (hnow : (Lit.int .i64 now).wf = true) (hdl : (Lit.int .i64 dl).wf = true) :
    Says 29 #[.pointer (some ⟨c, 0, none⟩), .pointer (some ⟨b, 0, none⟩)] (fun x => decide (cameOf x + dl ≤ now)) Num [(b, now), (c, dl)] := by
  intro w x hx hn hc
  have hb : Blk w b 3 #[.int .i64 now] := hc (b, now) (by simp)
  have hd : Blk w c 3 #[.int .i64 dl] := hc (c, dl) (by simp)
  obtain ⟨hj, hjw⟩ := hn.2
  clear hn hc
  obtain ⟨j, hj'⟩ : ∃ j, cameOf x = j := ⟨_, rfl⟩
  rw [hj'] at hj hjw
  have hc2 : (w.alloc (.cells x 35)).cell? ⟨w.heap.size, 3, none⟩ = some (.int .i64 j) := ((Blk.new w 35 x).cell 3).trans hj
  have hc0 : (w.alloc (.cells x 35)).cell? ⟨b, 0, none⟩ = some (.int .i64 now) := (hb.alloc _).cell 0
  have hc1 : (w.alloc (.cells x 35)).cell? ⟨c, 0, none⟩ = some (.int .i64 dl) := (hd.alloc _).cell 0
  show Calls Try.prog 29 #[.agg x, .pointer (some ⟨c, 0, none⟩), .pointer (some ⟨b, 0, none⟩)] w _
  simp only [hj']
  clear hj' hb hd
  go_enter Try.func29, Try.ntmps29
  go_wp2_with fail
  refine (late_any j dl now _ hjw hdl hnow).mono ?_
  rintro e w' ⟨rfl, rfl⟩
  go_wp2
  go_ret
  exact ⟨rfl, (Below.refl _ _).alloc (Nat.le_refl _) _⟩
end Go.Proofs.Ytigjipjkollohaa.G
