/-
  PLAIN LEAN: names that Name wrote are got again: what is kept of a name points at bytes that spell it.
-/
import Derived.Test.YtkbbilcohoodlaaNamePlain
import Derived.Test.YtkbbilcohoodlaaGet
namespace Go.Proofs.Ytkbbilcohoodlaa

/-- From place a on (the part began at b) the bytes spell a name; k: the place behind it. -/
inductive Sp (bs : List UInt8) : Nat → Nat → List UInt8 → Nat → Prop
  | zero {a b : Nat} (h2 : 2 ≤ a) (h : bs[a]? = some 0) : Sp bs a b [0] (a + 1)
  | label {a b k : Nat} {l nm : List UInt8} (h2 : 2 ≤ a) (h1 : 1 ≤ l.length) (h6 : l.length ≤ 63) (h : ∀ j c, (UInt8.ofNat l.length :: l)[j]? = some c → bs[a + j]? = some c)
      (r : Sp bs (a + 1 + l.length) b nm k) : Sp bs a b (UInt8.ofNat l.length :: (l ++ nm)) k
  | ptr {a b t k : Nat} {nm : List UInt8} (h2 : 2 ≤ a) (ht : t < b) (hs : t < 16384) (h0 : bs[a]? = some (UInt8.ofNat (192 + t / 256))) (h1 : bs[a + 1]? = some (UInt8.ofNat (t % 256)))
      (r : Sp bs t t nm k) : Sp bs a b nm (a + 2)
/-- From place 2 on the bytes are there too. -/
def Agree (bs cs : List UInt8) : Prop := ∀ i c, 2 ≤ i → bs[i]? = some c → cs[i]? = some c
theorem agree_append (bs x : List UInt8) : Agree bs (bs ++ x) := by
  intro i c _ h
  have hlt : i < bs.length := by
    rcases Nat.lt_or_ge i bs.length with h' | h'
    · exact h'
    · rw [List.getElem?_eq_none h'] at h; cases h
  rw [List.getElem?_append_left hlt]; exact h

section
variable {bs cs : List UInt8} {a b k : Nat} {nm : List UInt8}
theorem Sp.agree (h : Sp bs a b nm k) (hag : Agree bs cs) : Sp cs a b nm k := by
  induction h with
  | zero h2 h => exact .zero h2 (hag _ _ h2 h)
  | label h2 h1 h6 h r ih => exact .label h2 h1 h6 (fun j c hj => hag _ _ (by omega) (h j c hj)) ih
  | ptr h2 ht hs h0 h1 r ih => exact .ptr h2 ht hs (hag _ _ h2 h0) (hag _ _ (by omega) h1) ih
theorem Sp.wider (h : Sp bs a b nm k) {b' : Nat} (hb : b ≤ b') : Sp bs a b' nm k := by
  induction h generalizing b' with
  | zero h2 h => exact .zero h2 h
  | label h2 h1 h6 h r ih => exact .label h2 h1 h6 h (ih hb)
  | ptr h2 ht hs h0 h1 r ih => exact .ptr h2 (by omega) hs h0 h1 r
theorem at_lt {i : Nat} {c : UInt8} (h : bs[i]? = some c) : i < bs.length := by
  rcases Nat.lt_or_ge i bs.length with h' | h'
  · exact h'
  · rw [List.getElem?_eq_none h'] at h; cases h
theorem at_is {i : Nat} {c : UInt8} (h : bs[i]? = some c) (hi : i < bs.length) : bs[i] = c := by
  rw [List.getElem?_eq_getElem hi] at h; injection h
theorem Sp.lt (h : Sp bs a b nm k) : a < bs.length := by
  cases h with
  | zero _ h => exact at_lt h
  | label _ _ _ h _ => exact at_lt (h 0 _ rfl)
  | ptr _ _ _ h _ _ => exact at_lt h
theorem Sp.get (h : Sp bs a b nm k) : ∀ (f : Nat) (e : Option Nat) (l : List UInt8), getM bs.length a b < f → l.length + nm.length ≤ 255 → getF bs f a b e l = some (l ++ nm, e.getD k) := by
  induction h with
  | zero h2 h =>
    intro f e l hf hl
    have hlt := at_lt h
    rw [getF_zero hf hlt (by rw [at_is h hlt]; rfl), if_neg (by simp at hl; omega)]
  | @label a b k l0 nm h2 h1 h6 h r ih =>
    intro f e l hf hl
    have h0 : bs[a]? = some (UInt8.ofNat l0.length) := h 0 _ rfl
    have hlt := at_lt h0
    have hx := at_is h0 hlt
    have hn : bs[a].toNat = l0.length := by rw [hx, ofNat_toNat _ (by omega)]
    have hr := r.lt
    have htk : (bs.drop a).take (1 + l0.length) = UInt8.ofNat l0.length :: l0 := by
      apply List.ext_getElem?
      intro j
      rw [List.getElem?_take]
      by_cases hj : j < 1 + l0.length
      · rw [if_pos hj, List.getElem?_drop]
        have hj2 : j < (UInt8.ofNat l0.length :: l0).length := by simp; omega
        rw [List.getElem?_eq_getElem hj2]
        exact h j _ (List.getElem?_eq_getElem hj2)
      · rw [if_neg hj, List.getElem?_eq_none (by simp; omega)]
    obtain ⟨f', e1, e2⟩ := getF_label (e := e) (l := l) hf hlt (by omega) (by omega) (by simp at hl; omega)
    rw [hn, htk] at e1
    rw [hn] at e2
    rw [e1, ih f' e _ e2 (by simp at hl ⊢; omega)]
    simp
  | @ptr a b t k nm h2 ht hs h0 h1 r ih =>
    intro f e l hf hl
    have hlt := at_lt h0
    have hlt1 := at_lt h1
    have hx := at_is h0 hlt
    have hx1 := at_is h1 hlt1
    have hv0 : bs[a].toNat = 192 + t / 256 := by rw [hx, ofNat_toNat _ (by omega)]
    have hv1 : bs[a + 1].toNat = t % 256 := by rw [hx1, ofNat_toNat _ (by omega)]
    have hv : (bs[a].toNat - 192) * 256 + bs[a + 1].toNat = t := by rw [hv0, hv1]; omega
    obtain ⟨f', e1, e2⟩ := getF_pointer (e := e) (l := l) hf hlt (by omega) hlt1 (by rw [hv]; omega)
    rw [hv] at e1 e2
    rw [e1, ih f' _ l e2 hl]
    rfl
theorem Sp.getL (h : Sp bs a a nm k) (hl : nm.length ≤ 255) : getL bs (a : Int) = some (nm, k) := by
  unfold Go.Proofs.Ytkbbilcohoodlaa.getL
  rw [if_pos (by omega), Int.toNat_natCast, h.get _ none [] (by omega) (by simpa using hl)]
  rfl
end

/-- What is kept of names no longer than n bytes points below s at bytes that spell them. -/
def InvTo (n s : Nat) (b : List UInt8) (f : Met) : Prop := ∀ key v, f key = some v → key.length ≤ n → v < s ∧ v < 16384 ∧ ∃ k, Sp b v v key k
theorem nameW_prefix (sq : Bool) : ∀ (ls : List (List UInt8)) (b : List UInt8) (f : Met), ∃ x, (nameW sq ls b f).1 = b ++ x
  | [], b, f => ⟨_, rfl⟩
  | l :: r, b, f => by
    rw [nameW]
    split
    · exact ⟨_, rfl⟩
    · obtain ⟨x, hx⟩ := nameW_prefix sq r (b ++ (UInt8.ofNat l.length :: l)) (if sq && decide (b.length < 16384) then upd f (made (l :: r)) b.length else f)
      rw [hx]; exact ⟨_, List.append_assoc _ _ _⟩
theorem nameW_spells (sq : Bool) : ∀ (ls : List (List UInt8)) (b : List UInt8) (f : Met) (s : Nat), GoodL ls → 2 ≤ b.length → s ≤ b.length → InvTo (made ls).length s b f →
    Sp (nameW sq ls b f).1 b.length s (made ls) (nameW sq ls b f).1.length ∧
    ∀ key v, (nameW sq ls b f).2 key = some v → f key = some v ∨ (s ≤ v ∧ v < (nameW sq ls b f).1.length ∧ v < 16384 ∧ ∃ k, Sp (nameW sq ls b f).1 v s key k)
  | [], b, f, s, _, h2, _, _ => by
    rw [nameW]
    refine ⟨?_, fun key v h => .inl h⟩
    have : Sp (b ++ [0]) b.length s [0] (b.length + 1) := .zero h2 (by simp)
    simpa [made] using this
  | l :: r, b, f, s, hg, h2, hs, hinv => by
    obtain ⟨l1, l6⟩ := hg l (by simp)
    have hgr : GoodL r := fun x hx => hg x (by simp [hx])
    have hml := made_cons_length l r
    rw [nameW]
    split
    · rename_i a ha
      have hf : f (made (l :: r)) = some a := by
        split at ha
        · exact ha
        · cases ha
      obtain ⟨i1, i2, k, i3⟩ := hinv _ _ hf (Nat.le_refl _)
      refine ⟨?_, fun key v h => .inl h⟩
      have := Sp.ptr (bs := b ++ ptrB a) (a := b.length) (b := s) (t := a) h2 i1 i2 (by simp [ptrB]) (by simp [ptrB]) (i3.agree (agree_append b _))
      rw [List.length_append, ptrB_length]
      exact this
    · have hb1 : (b ++ (UInt8.ofNat l.length :: l)).length = b.length + 1 + l.length := by simp; omega
      have hfk : ∀ key v, (if sq && decide (b.length < 16384) then upd f (made (l :: r)) b.length else f) key = some v → f key = some v ∨ (key = made (l :: r) ∧ v = b.length ∧ v < 16384) := by
        intro key v hk
        split at hk
        · rename_i hc
          unfold upd at hk
          split at hk
          · rename_i he
            injection hk with hk
            simp at hc
            exact .inr ⟨he, hk.symm, by omega⟩
          · exact .inl hk
        · exact .inl hk
      have hi : InvTo (made r).length s (b ++ (UInt8.ofNat l.length :: l)) (if sq && decide (b.length < 16384) then upd f (made (l :: r)) b.length else f) := by
        intro key v hk hkl
        rcases hfk key v hk with hk | ⟨rfl, _⟩
        · obtain ⟨i1, i2, k, i3⟩ := hinv key v hk (by omega)
          exact ⟨i1, i2, k, i3.agree (agree_append _ _)⟩
        · omega
      generalize (if sq && decide (b.length < 16384) then upd f (made (l :: r)) b.length else f) = f1 at hfk hi ⊢
      obtain ⟨j1, j2⟩ := nameW_spells sq r (b ++ (UInt8.ofNat l.length :: l)) f1 s hgr (by omega) (by omega) hi
      obtain ⟨x, hx⟩ := nameW_prefix sq r (b ++ (UInt8.ofNat l.length :: l)) f1
      have hle : b.length + 1 + l.length ≤ (nameW sq r (b ++ (UInt8.ofNat l.length :: l)) f1).1.length := by rw [hx, List.length_append, hb1]; omega
      have hsp : Sp (nameW sq r (b ++ (UInt8.ofNat l.length :: l)) f1).1 b.length s (made (l :: r)) (nameW sq r (b ++ (UInt8.ofNat l.length :: l)) f1).1.length := by
        rw [hb1] at j1
        refine .label h2 l1 l6 (fun j c hj => ?_) j1
        rw [hx, List.append_assoc, List.getElem?_append_right (by omega), show b.length + j - b.length = j by omega, List.getElem?_append_left (at_lt hj)]
        exact hj
      refine ⟨hsp, fun key v h => ?_⟩
      rcases j2 key v h with h | ⟨p1, p2, p3, p4⟩
      · rcases hfk key v h with h | ⟨rfl, rfl, hv⟩
        · exact .inl h
        · exact .inr ⟨hs, by omega, hv, _, hsp⟩
      · exact .inr ⟨p1, p2, p3, p4⟩
/-- Whatever is kept points at bytes that spell it. -/
def Inv (b : List UInt8) (f : Met) : Prop := ∀ key v, f key = some v → v < b.length ∧ v < 16384 ∧ ∃ k, Sp b v v key k
theorem inv_none (b : List UInt8) : Inv b none_ := fun _ _ h => by cases h
theorem nameW_back (sq : Bool) (ls : List (List UInt8)) (b : List UInt8) (f : Met) (hg : GoodL ls) (h2 : 2 ≤ b.length) (hi : Inv b f) :
    Inv (nameW sq ls b f).1 (nameW sq ls b f).2 ∧ Sp (nameW sq ls b f).1 b.length b.length (made ls) (nameW sq ls b f).1.length := by
  obtain ⟨h1, hn⟩ := nameW_spells sq ls b f b.length hg h2 (Nat.le_refl _) (fun key v h _ => hi key v h)
  obtain ⟨x, hx⟩ := nameW_prefix sq ls b f
  refine ⟨fun key v h => ?_, h1⟩
  rcases hn key v h with h | ⟨p1, p2, p3, k, p4⟩
  · obtain ⟨i1, i2, k, i3⟩ := hi key v h
    refine ⟨by rw [hx, List.length_append]; omega, i2, k, ?_⟩
    rw [hx]; exact i3.agree (agree_append _ _)
  · exact ⟨p2, p3, k, p4.wider p1⟩
theorem nameW_whole : ∀ (ls : List (List UInt8)) (b : List UInt8) (f : Met), (nameW false ls b f).1 = b ++ made ls
  | [], b, f => rfl
  | l :: r, b, f => by
    rw [nameW]
    simp only [Bool.false_eq_true, if_false, Bool.false_and]
    rw [nameW_whole r]; simp [made]
end Go.Proofs.Ytkbbilcohoodlaa
