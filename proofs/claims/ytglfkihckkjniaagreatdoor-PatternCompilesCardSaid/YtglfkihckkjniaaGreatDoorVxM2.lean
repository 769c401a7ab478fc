/-
What 'Compile' answers: which places and which code points occur. Plain Lean, no program in sight. No statement of the seat is proved here.
-/
import Derived.Test.YtglfkihckkjniaaGreatDoorVxF14
set_option maxRecDepth 100000
set_option linter.unusedVariables false
set_option linter.unusedSimpArgs false
namespace Go.Proofs.YtglfkihckkjniaaGreatDoor.Vx
open Go Go.RowKit
theorem scanStep_in {l : List Int} (hl : Scalars l) (hne : l ≠ []) (a o : Int) :
    (scanStep l a o).2.1 + (encs (scanStep l a o).1).length = a + (encs l).length ∧ ((scanStep l a o).2.2.1 = o ∨ (scanStep l a o).2.2.1 = a ∨ (scanStep l a o).2.2.1 = -1) ∧
    (∀ y ∈ (scanStep l a o).2.2.2, y.tok.p = a ∧ scalar y.tok.r = true) := by
  obtain ⟨r, m, rfl⟩ := List.exists_cons_of_ne_nil hne
  have e8 := enc39
  have hr : scalar r = true := hl r (by simp)
  by_cases h39 : r = 39
  · subst h39
    cases m with
    | nil => by_cases ho : o < 0 <;> simp [scanStep, ho, encs_cons, e8] <;> omega
    | cons x m =>
      by_cases hx : x = 39
      · subst hx
        simp [scanStep, encs_cons, e8, Iv.tok, hr]; omega
      · by_cases ho : o < 0 <;> simp [scanStep, ho, hx, encs_cons, e8] <;> omega
  · by_cases ho : o < 0 <;> simp [scanStep, ho, h39, encs_cons, Iv.tok, hr] <;> omega
theorem scanN_in : ∀ (n : Nat) (l : List Int) (a o N : Int), Scalars l → l.length ≤ n → 0 ≤ a → o < a → N = a + (encs l).length →
    (∀ y ∈ (scanN n l a o).2, 0 ≤ y.tok.p ∧ y.tok.p < N ∧ scalar y.tok.r = true) ∧ (scanN n l a o).1 < N := by
  intro n
  induction n with
  | zero =>
    intro l a o N hl hn ha ho hN
    have : l = [] := List.eq_nil_of_length_eq_zero (by omega)
    subst this
    exact ⟨fun y hy => (by cases hy), by show o < N; rw [hN]; simp [encs]; omega⟩
  | succ n ih =>
    intro l a o N hl hn ha ho hN
    cases l with
    | nil => exact ⟨fun y hy => (by cases hy), by show o < N; rw [hN]; simp [encs]; omega⟩
    | cons r m =>
      obtain ⟨h1, h2, h3, _, _, _⟩ := scanStep_facts hl (by simp) a o
      obtain ⟨k1, k2, k3⟩ := scanStep_in hl (by simp) a o
      obtain ⟨g1, g2⟩ := ih (scanStep (r :: m) a o).1 (scanStep (r :: m) a o).2.1 (scanStep (r :: m) a o).2.2.1 N h1 (by simp at hn h2 ⊢; omega) (by omega) (by rcases k2 with k | k | k <;> omega) (by omega)
      refine ⟨fun y hy => ?_, g2⟩
      rcases List.mem_append.1 hy with hy | hy
      · obtain ⟨e1, e2⟩ := k3 y hy
        have : 1 ≤ (encs (r :: m)).length := by have := (encs_len (r :: m)).1; simp at this; omega
        exact ⟨by omega, by omega, e2⟩
      · exact g1 y hy
theorem scanT_in (s : List UInt8) : (∀ t ∈ (scanT s).1, 0 ≤ t.p ∧ t.p < s.length ∧ scalar t.r = true) ∧ 0 ≤ (scanT s).2.2 ∧ (scanT s).2.2 ≤ s.length ∧ (scanT s).1.length ≤ 400 ∧ ((scanT s).2.1 = 0 → (scanT s).2.2 = 0) := by
  have hd := decomp_ok s
  have hlen : (encs (decomp s).1).length ≤ s.length := by
    have := congrArg List.length hd.1
    rw [List.length_append] at this; omega
  obtain ⟨g1, g2⟩ := scanN_in (decomp s).1.length (decomp s).1 0 (-1) _ hd.2.1 (Nat.le_refl _) (by omega) (by omega) rfl
  unfold scanT
  split
  · refine ⟨fun t ht => (by cases ht), by assumption, ?_, Nat.zero_le _, fun h => absurd h (show ¬ (2 : Int) = 0 by decide)⟩
    show badAt s ≤ _
    unfold badAt; split <;> omega
  · split
    · refine ⟨fun t ht => (by cases ht), by assumption, ?_, Nat.zero_le _, fun h => absurd h (show ¬ (3 : Int) = 0 by decide)⟩
      have g2 : (scanF s).1 < _ := g2
      show (scanF s).1 ≤ _
      omega
    · split
      · exact ⟨fun t ht => (by cases ht), Int.le_refl _, by show (0 : Int) ≤ _; omega, Nat.zero_le _, fun h => rfl⟩
      · refine ⟨fun t ht => ?_, Int.le_refl _, by show (0 : Int) ≤ _; omega, by show ((scanF s).2.map Iv.tok).length ≤ 400; rw [List.length_map]; omega, fun h => rfl⟩
        obtain ⟨y, hy, rfl⟩ := List.mem_map.1 ht
        obtain ⟨a, b, c⟩ := g1 y hy
        exact ⟨a, by omega, c⟩
/-- Elements at places of a sort. -/
def EP (P : Int → Prop) (l : List Iv) : Prop := ∀ y ∈ l, (y.isE = true ∧ (y.isS = true → scalar y.sR = true)) ∧ P y.at_
theorem EP.eok {P : Int → Prop} {l : List Iv} (h : EP P l) : EOK l := fun y hy => (h y hy).1
theorem EP.take {P : Int → Prop} {l : List Iv} (h : EP P l) (n : Nat) : EP P (l.take n) := fun y hy => h y (List.mem_of_mem_take hy)
theorem EP.drop {P : Int → Prop} {l : List Iv} (h : EP P l) (n : Nat) : EP P (l.drop n) := fun y hy => h y (List.mem_of_mem_drop hy)
theorem EP.get {P : Int → Prop} {l : List Iv} (h : EP P l) {n : Nat} (hn : n < l.length) : P (l.getD n default).at_ := by
  rw [List.getD_eq_getElem?_getD, List.getElem?_eq_getElem hn]
  exact (h _ (List.getElem_mem hn)).2
theorem elemsL_in (P : Int → Prop) : ∀ (n : Nat) (l : List Tok), l.length ≤ n → (∀ t ∈ l, P t.p ∧ scalar t.r = true) → EP P (elemsL l).1 ∧ (∀ p, (elemsL l).2 = some p → P p) ∧ (elemsL l).1.length ≤ l.length := by
  intro n
  induction n with
  | zero =>
    intro l hn _
    have : l = [] := List.eq_nil_of_length_eq_zero (by omega)
    subst this
    exact ⟨fun y hy => (by cases hy), fun p hp => (by cases hp), Nat.le_refl _⟩
  | succ n ih =>
    intro l hn h
    match l, hn, h with
    | [], _, _ => exact ⟨fun y hy => (by cases hy), fun p hp => (by cases hp), Nat.le_refl _⟩
    | [t], hn, h =>
      unfold elemsL
      split
      · exact ⟨fun y hy => (by cases hy), fun p hp => (by cases hp; exact (h t (by simp)).1), Nat.zero_le _⟩
      · refine ⟨fun y hy => ?_, fun p hp => (by cases hp), Nat.le_refl _⟩
        rw [List.mem_singleton] at hy
        subst hy
        exact ⟨⟨rfl, fun _ => (h t (by simp)).2⟩, (h t (by simp)).1⟩
    | t :: x :: m, hn, h =>
      have ht := h t (by simp)
      unfold elemsL
      split
      · obtain ⟨h1, h2, h3⟩ := ih m (by simp at hn; omega) fun t ht => h t (by simp [ht])
        refine ⟨fun y hy => ?_, h2, by simp; omega⟩
        rcases List.mem_cons.1 hy with hy | hy
        · subst hy; exact ⟨⟨rfl, fun h => (by cases h)⟩, ht.1⟩
        · exact h1 y hy
      · obtain ⟨h1, h2, h3⟩ := ih (x :: m) (by simp at hn ⊢; omega) fun t ht => h t (by simp at ht ⊢; right; exact ht)
        refine ⟨fun y hy => ?_, h2, by simp at h3 ⊢; omega⟩
        rcases List.mem_cons.1 hy with hy | hy
        · subst hy; exact ⟨⟨rfl, fun _ => ht.2⟩, ht.1⟩
        · exact h1 y hy
theorem elemsR_in (P : Int → Prop) (l : List Tok) (h : ∀ t ∈ l, P t.p ∧ scalar t.r = true) : EP P (elemsR l).1 ∧ ((elemsR l).2.1 ≠ 0 → P (elemsR l).2.2) ∧ (elemsR l).1.length ≤ l.length := by
  obtain ⟨h1, h2, h3⟩ := elemsL_in P l.length l (Nat.le_refl _) h
  unfold elemsR
  split
  · exact ⟨h1, fun h => absurd rfl h, h3⟩
  · rename_i p hp
    exact ⟨fun y hy => (by cases hy), fun _ => h2 p hp, Nat.zero_le _⟩
theorem spotsN_in {P : Int → Prop} (N : Nat) (a b : Int) : ∀ (l : List Iv) (n : Nat), EP P l → ∀ x ∈ spotsN N a b n l, P x.p := by
  intro l
  induction l with
  | nil => intro n _ x hx; cases hx
  | cons y l ih =>
    intro n h x hx
    unfold spotsN at hx
    rcases List.mem_append.1 hx with hx | hx
    · split at hx
      · rename_i hy
        rw [List.mem_singleton] at hx
        subst hx
        have := (h y (by simp)).2
        cases y <;> simp [Iv.isP] at hy
        exact this
      · cases hx
    · exact ih (n + 1) (fun z hz => h z (by simp [hz])) x hx
theorem paddedT_in {P : Int → Prop} (l : List Spot) (first : Bool) (h : ∀ x ∈ l, P x.p) (h0 : P 0) : P (paddedT l first).2.2 ∧ ((paddedT l first).2.1 = 0 → (paddedT l first).2.2 = 0) := by
  unfold paddedT
  split
  · exact ⟨h0, fun _ => rfl⟩
  · rename_i x m
    split
    · exact ⟨h x (by simp), fun h => absurd h (show ¬ (7 : Int) = 0 by decide)⟩
    · cases m with
      | nil => exact ⟨h0, fun _ => rfl⟩
      | cons y m => exact ⟨h y (by simp), fun h => absurd h (show ¬ (7 : Int) = 0 by decide)⟩
theorem itemsL_in {P : Int → Prop} : ∀ (l : List Tok), (∀ t ∈ l, P t.p) → ∀ p, (itemsL l).2 = some p → P p := by
  intro l
  induction l with
  | nil => intro _ p hp; cases hp
  | cons t l ih =>
    intro h p hp
    unfold itemsL at hp
    split at hp
    · cases hp; exact h t (by simp)
    · exact ih (fun t ht => h t (by simp [ht])) p hp
theorem itemsR_in {P : Int → Prop} (l : List Tok) (h : ∀ t ∈ l, P t.p) (h0 : P 0) : P (itemsR l).2.2 ∧ ((itemsR l).2.1 = 0 → (itemsR l).2.2 = 0) := by
  unfold itemsR
  split
  · rename_i p hp
    exact ⟨itemsL_in l h p hp, fun h => absurd h (show ¬ (4 : Int) = 0 by decide)⟩
  · split
    · exact ⟨h0, fun _ => rfl⟩
    · exact ⟨h0, fun _ => rfl⟩
theorem plainT_in {P : Int → Prop} {l : List Iv} (h : EP P l) : ∀ t ∈ plainT l, P t.p := by
  intro t ht
  obtain ⟨y, hy, rfl⟩ := List.mem_map.1 ht
  have h1 := List.mem_filter.1 hy
  have := (h y h1.1).2
  cases y <;> simp [Iv.isS] at h1 <;> exact this
theorem readT_in {P Q : Int → Prop} (hPQ : ∀ x, P x → Q x) {l : List Iv} (h : EP P l) {b : Int} (hb : Q b) (h0 : Q 0) (first : Bool) : Q (readT l b first).2.2 ∧ ((readT l b first).2.1 = 0 → (readT l b first).2.2 = 0) := by
  have hq : EP Q l := fun y hy => ⟨(h y hy).1, hPQ _ (h y hy).2⟩
  have hp : EP Q (cutT l b).1.p := by
    unfold cutT; split
    · exact hq.take _
    · intro y hy; cases hy
  have hs : EP Q (cutT l b).1.s := by
    unfold cutT; split
    · exact hq.drop _
    · intro y hy; cases hy
  have ha : (cutT l b).2 = true → Q (cutT l b).1.a := by
    unfold cutT; split
    · rename_i h1; intro _; exact hq.get h1
    · intro h; cases h
  have hsp : ∀ x ∈ spotsT (cutT l b).1.p (cutT l b).1.s, Q x.p := by
    intro x hx
    unfold spotsT at hx
    rcases List.mem_append.1 hx with hx | hx
    · exact spotsN_in _ _ _ _ _ hp x hx
    · exact spotsN_in _ _ _ _ _ hs x hx
  have k1 := paddedT_in _ first hsp h0
  have k2 := itemsR_in _ (plainT_in hp) h0
  have k3 := itemsR_in _ (plainT_in hs) h0
  unfold readT
  split
  · exact ⟨hb, fun h => absurd h (show ¬ (4 : Int) = 0 by decide)⟩
  · rename_i hc
    have hc : (cutT l b).2 = true := by simpa using hc
    split
    · exact k1
    · split
      · exact k2
      · split
        · rename_i h4; exact ⟨ha hc, fun h => absurd h h4⟩
        · split
          · exact k3
          · exact ⟨h0, fun _ => rfl⟩
/-! ### Compile -/
def p0 : Pat := ⟨[], [], false, [], [], z0, 0, 0, 0⟩
def aheadN (l : List Iv) : Nat := l.findIdx (isIn [59])
def behindL (l : List Iv) : List Iv := l.drop (min (aheadN l + 1) l.length)
def PT.pa (t : PT) : PA := ⟨t.px, t.sx, ⟨[], [], false, [], [], t.n, 0, 0, t.w⟩, t.sp⟩
def bothH (p : Pat) : Bool := hasItm 4 (p.pre ++ p.suf ++ p.npre ++ p.nsuf) && hasItm 5 (p.pre ++ p.suf ++ p.npre ++ p.nsuf)
/-- A pattern's elements, as a pattern. -/
def compE (l : List Iv) : Pat × Int × Int :=
  if aheadN (behindL l) < (behindL l).length then (p0, 4, ((behindL l).getD (aheadN (behindL l)) default).at_)
  else if (readT (l.take (aheadN l)) 0 true).2.1 ≠ 0 then (p0, (readT (l.take (aheadN l)) 0 true).2)
  else if aheadN l < l.length then
    if (readT (behindL l) ((l.getD (aheadN l) default).at_ + 1) false).2.1 ≠ 0 then (p0, (readT (behindL l) ((l.getD (aheadN l) default).at_ + 1) false).2)
    else if bothH { madeT (readT (l.take (aheadN l)) 0 true).1.pa with hn := true, npre := (readT (behindL l) ((l.getD (aheadN l) default).at_ + 1) false).1.px, nsuf := (readT (behindL l) ((l.getD (aheadN l) default).at_ + 1) false).1.sx } = true then (p0, 6, 0)
    else ({ madeT (readT (l.take (aheadN l)) 0 true).1.pa with hn := true, npre := (readT (behindL l) ((l.getD (aheadN l) default).at_ + 1) false).1.px, nsuf := (readT (behindL l) ((l.getD (aheadN l) default).at_ + 1) false).1.sx }, 0, 0)
  else if bothH (madeT (readT (l.take (aheadN l)) 0 true).1.pa) = true then (p0, 6, 0)
  else (madeT (readT (l.take (aheadN l)) 0 true).1.pa, 0, 0)
/-- What 'Compile' answers. -/
def compileT (s : List UInt8) : Pat × Int × Int :=
  if (scanT s).2.1 ≠ 0 then (p0, (scanT s).2)
  else if (elemsR (scanT s).1).2.1 ≠ 0 then (p0, (elemsR (scanT s).1).2)
  else compE (elemsR (scanT s).1).1

theorem compE_in {N : Int} (hN : 0 ≤ N) {l : List Iv} (h : EP (fun x => 0 ≤ x ∧ x < N) l) : (0 ≤ (compE l).2.2 ∧ (compE l).2.2 ≤ N) ∧ ((compE l).2.1 = 0 → (compE l).2.2 = 0) ∧ ((compE l).2.1 ≠ 0 → (compE l).1 = p0) := by
  have hb : EP (fun x => 0 ≤ x ∧ x < N) (behindL l) := h.drop _
  have r1 := readT_in (Q := fun x => 0 ≤ x ∧ x ≤ N) (fun x hx => ⟨hx.1, by omega⟩) (h.take (aheadN l)) (b := 0) ⟨by omega, hN⟩ ⟨by omega, hN⟩ true
  unfold compE
  split
  · rename_i h1
    have := hb.get h1
    exact ⟨⟨this.1, Int.le_of_lt this.2⟩, fun h => absurd h (show ¬ (4 : Int) = 0 by decide), fun _ => rfl⟩
  · split
    · rename_i h2
      exact ⟨r1.1, r1.2, fun _ => rfl⟩
    · split
      · rename_i h3
        have hg := h.get h3
        have r2 := readT_in (Q := fun x => 0 ≤ x ∧ x ≤ N) (fun x hx => ⟨hx.1, by omega⟩) hb (b := (l.getD (aheadN l) default).at_ + 1) ⟨by omega, by omega⟩ ⟨by omega, hN⟩ false
        split
        · exact ⟨r2.1, r2.2, fun _ => rfl⟩
        · split
          · exact ⟨⟨Int.le_refl _, hN⟩, fun _ => rfl, fun _ => rfl⟩
          · exact ⟨⟨Int.le_refl _, hN⟩, fun _ => rfl, fun h => absurd rfl h⟩
      · split
        · exact ⟨⟨Int.le_refl _, hN⟩, fun _ => rfl, fun _ => rfl⟩
        · exact ⟨⟨Int.le_refl _, hN⟩, fun _ => rfl, fun h => absurd rfl h⟩
theorem elems_in (s : List UInt8) : EP (fun x => 0 ≤ x ∧ x < (s.length : Int)) (elemsR (scanT s).1).1 ∧ ((elemsR (scanT s).1).2.1 ≠ 0 → 0 ≤ (elemsR (scanT s).1).2.2 ∧ (elemsR (scanT s).1).2.2 < (s.length : Int)) ∧ (elemsR (scanT s).1).1.length ≤ 400 := by
  obtain ⟨h1, h2, h3, h4, h5⟩ := scanT_in s
  obtain ⟨k1, k2, k3⟩ := elemsR_in (fun x => 0 ≤ x ∧ x < (s.length : Int)) (scanT s).1 fun t ht => ⟨⟨(h1 t ht).1, (h1 t ht).2.1⟩, (h1 t ht).2.2⟩
  exact ⟨k1, k2, by omega⟩
theorem compileT_in (s : List UInt8) : (0 ≤ (compileT s).2.2 ∧ (compileT s).2.2 ≤ s.length) ∧ ((compileT s).2.1 = 0 → (compileT s).2.2 = 0) ∧ ((compileT s).2.1 ≠ 0 → (compileT s).1 = p0) := by
  obtain ⟨h1, h2, h3, h4, h5⟩ := scanT_in s
  obtain ⟨k1, k2, k3⟩ := elems_in s
  unfold compileT
  split
  · rename_i h; exact ⟨⟨h2, h3⟩, fun h' => absurd h' h, fun _ => rfl⟩
  · split
    · rename_i h; exact ⟨⟨(k2 h).1, Int.le_of_lt (k2 h).2⟩, fun h' => absurd h' h, fun _ => rfl⟩
    · exact compE_in (by omega) k1
end Go.Proofs.YtglfkihckkjniaaGreatDoor.Vx
