/-
  A row that grows, as a local block of the call's own.
-/
import Derived.Test.YtbnoebdpbpjbkaaGreatMP11
import Derived.Maps.AppendAt
namespace Go.Lz
open Go.RowKit

/-- v is a slice of n elements of the type E (of size cells) in a local block of its own; the others are L. -/
def OwnRow (w0 w : World) (T : World → (Nat → Prop) → Prop) (L : Locals) (E : TypeId) (size : Nat) (v : Value) (n : Nat) (xs : List Value) : Prop :=
  ∃ g cap cur, v = .slice (some ⟨g, 0, none⟩) n cap ∧ Own w0 w T (upd L g (some (.cells cur E (0, 0)))) ∧ L g = none ∧ n ≤ cap ∧ cap ≤ maxLen ∧ cur.size = cap * size ∧ cur.toList.take (n * size) = xs ∧ xs.length = n * size

section
variable {w0 w w' : World} {T T' : World → (Nat → Prop) → Prop} {L : Locals} {E : TypeId} {size n n' : Nat} {v v' : Value} {xs xs' : List Value}

theorem OwnRow.rest (h : OwnRow w0 w T L E size v n xs) : Own w0 w T L := by
  obtain ⟨g, cap, cur, _, hO, hg, _⟩ := h
  exact hO.drop hg
theorem OwnRow.row (h : OwnRow w0 w T L E size v n xs) : w.ownsRow w0.heap.size E size v n xs := by
  obtain ⟨g, cap, cur, h1, hO, hg, h2, h3, h4, h5, h6⟩ := h
  exact ⟨h6, .inr ⟨g, cap, cur, h1, hO.loc_ge (upd_same _ _ _), hO.loc (upd_same _ _ _), h2, h3, h4, h5⟩⟩
theorem OwnRow.addr (h : OwnRow w0 w T L E size v n xs) : ∃ g cap, v = .slice (some ⟨g, 0, none⟩) n cap ∧ g < w.heap.size ∧ w0.heap.size ≤ g ∧ L g = none ∧ n ≤ cap ∧ ∀ j x, xs[j]? = some x → w.cell? ⟨g, j, none⟩ = some x := by
  obtain ⟨g, cap, cur, h1, hO, hg, h2, h3, h4, h5, h6⟩ := h
  refine ⟨g, cap, h1, hO.loc_lt (upd_same _ _ _), hO.loc_ge (upd_same _ _ _), hg, h2, fun j x hx => ?_⟩
  rw [cell_of (hO.loc (upd_same _ _ _))]
  rw [← h5, List.getElem?_take] at hx
  split at hx
  · simpa using hx
  · cases hx

/-- What is done to the rest. -/
theorem OwnRow.next (h : OwnRow w0 w T L E size v n xs) : ∃ L', Own w0 w T L' ∧ (∀ b o, L b = some o → L' b = some o) ∧ ∀ {w' : World} {T' : World → (Nat → Prop) → Prop}, Own w0 w' T' L' → OwnRow w0 w' T' L E size v n xs := by
  obtain ⟨g, cap, cur, h1, hO, hg, h2⟩ := h
  refine ⟨_, hO, fun b o hb => ?_, fun hO' => ⟨g, cap, cur, h1, hO', hg, h2⟩⟩
  by_cases e : b = g
  · subst e
    rw [hg] at hb
    cases hb
  · rw [upd_other _ e]
    exact hb

/-- The row has grown. -/
theorem OwnRow.grown (h : OwnRow w0 w T L E size v n xs) (hk : Keeps T) (hr : w'.ownsRow w0.heap.size E size v' n' xs') (hg : w.grownBy w' v.ownBlock) (hn : v' ≠ .slice none 0 0) (hat : v'.ownBlock = v.ownBlock ∨ v'.ownBlock = some w.heap.size) : OwnRow w0 w' T L E size v' n' xs' := by
  obtain ⟨g, cap, cur, rfl, hO, hLg, _⟩ := h
  obtain ⟨hl, h | ⟨g', cap', cur', rfl, h1, h2, h3, h4, h5, h6⟩⟩ := hr
  · exact absurd h.1 hn
  have hs := hO.size
  have hlt := hO.loc_lt (upd_same L g _)
  obtain ⟨F, hT, hF, hb, hL⟩ := hO
  have hgF : ¬ F g := (hL g _ (upd_same _ _ _)).2.1
  have hc : Chg (· = g) w w' := (Chg.refl _ w).grown hg (fun k e _ => by cases e; rfl)
  have hat' : g' = g ∨ g' = w.heap.size := hat.imp (fun e => by cases e; rfl) (fun e => by cases e; rfl)
  refine ⟨g', cap', cur', rfl, ⟨F, hk _ _ _ _ hT hc (fun k hk e => hgF (e ▸ hk)), fun k hk => ⟨(hF k hk).1, Nat.lt_of_lt_of_le (hF k hk).2 hc.size⟩, hb.trans (hc.belowB hb.size (fun j hj e => by have := (hL g _ (upd_same _ _ _)).1; omega)), fun b o ho => ?_⟩, ?_, h3, h4, h5, h6, hl⟩
  · by_cases e : b = g'
    · subst e
      rw [upd_same] at ho
      cases ho
      refine ⟨h1, ?_, h2⟩
      rcases hat' with e | e
      · rw [e]; exact hgF
      · intro hf; have := (hF _ hf).2; omega
    · rw [upd_other _ e] at ho
      have hbg : b ≠ g := fun e2 => by subst e2; rw [hLg] at ho; cases ho
      obtain ⟨k1, k2, k3⟩ := hL b o (by rw [upd_other _ hbg]; exact ho)
      exact ⟨k1, k2, (hc.block b (lt_of_heap k3) hbg).trans k3⟩
  · rcases hat' with e | e
    · rw [e]; exact hLg
    · cases hx : L g' with
      | none => rfl
      | some o =>
        have hbg : g' ≠ g := fun e2 => by rw [e2, hLg] at hx; cases hx
        have := lt_of_heap (hL g' o (by rw [upd_other _ hbg]; exact hx)).2.2
        omega

theorem upd_swap {α : Type} {f : Nat → α} {a b : Nat} (h : a ≠ b) (x y : α) : upd (upd f a x) b y = upd (upd f b y) a x := by
  funext j
  unfold upd
  by_cases h1 : j = b
  · subst h1
    rw [if_pos rfl, if_neg (by omega), if_pos rfl]
  · rw [if_neg h1]
    by_cases h2 : j = a
    · rw [if_pos h2, if_pos h2]
    · rw [if_neg h2, if_neg h2, if_neg h1]
theorem OwnRow.below (h : OwnRow w0 w T L E size v n xs) (hk : Keeps T) (hb : Below w.heap.size w w') : OwnRow w0 w' T L E size v n xs := by
  obtain ⟨g, cap, cur, h1, hO, h2⟩ := h
  exact ⟨g, cap, cur, h1, hO.below hk hb, h2⟩
theorem OwnRow.local_ (h : OwnRow w0 w T L E size v n xs) (hk : Keeps T) {b : Nat} {o : Obj} (hb : Below w.heap.size w w') (hge : w.heap.size ≤ b) (ho : w'.heap[b]? = some o) : OwnRow w0 w' T (upd L b (some o)) E size v n xs := by
  obtain ⟨g, cap, cur, h1, hO, hLg, h2⟩ := h
  have hgb : g ≠ b := by have := hO.loc_lt (upd_same L g _); omega
  exact ⟨g, cap, cur, h1, by rw [upd_swap (fun e => hgb e.symm)]; exact hO.local_ hk hb hge ho, by rw [upd_other _ hgb]; exact hLg, h2⟩
theorem OwnRow.set (h : OwnRow w0 w T L E size v n xs) (hk : Keeps T) {b : Nat} {o o' : Obj} (hb : L b = some o) (hc : Chg (· = b) w w') (ho : w'.heap[b]? = some o') : OwnRow w0 w' T (upd L b (some o')) E size v n xs := by
  obtain ⟨g, cap, cur, h1, hO, hLg, h2⟩ := h
  have hgb : g ≠ b := fun e => by subst e; rw [hLg] at hb; cases hb
  exact ⟨g, cap, cur, h1, by rw [upd_swap (fun e => hgb e.symm)]; exact hO.set hk (by rw [upd_other _ (fun e => hgb e.symm)]; exact hb) hc ho, by rw [upd_other _ hgb]; exact hLg, h2⟩
theorem OwnRow.drop {b : Nat} {o : Obj} (h : OwnRow w0 w T (upd L b (some o)) E size v n xs) (hb : L b = none) : OwnRow w0 w T L E size v n xs := by
  obtain ⟨g, cap, cur, h1, hO, hLg, h2⟩ := h
  have hgb : g ≠ b := fun e => by subst e; rw [upd_same] at hLg; cases hLg
  refine ⟨g, cap, cur, h1, ?_, by rw [upd_other _ hgb] at hLg; exact hLg, h2⟩
  rw [upd_swap (fun e => hgb e.symm)] at hO
  exact hO.drop (by rw [upd_other _ (fun e => hgb e.symm)]; exact hb)

/-- A new row. -/
theorem OwnRow.make (hO : Own w0 w T L) (hk : Keeps T) {cur : Array Value} (hn : n ≤ maxLen) (hs : cur.size = n * size) : OwnRow w0 (w.alloc (.cells cur E (0, 0))) T L E size (.slice (some ⟨w.heap.size, 0, none⟩) n n) n cur.toList :=
  ⟨w.heap.size, n, cur, rfl, hO.local_ hk ((Below.refl _ w).alloc (Nat.le_refl _) _) (Nat.le_refl _) (heap_alloc_new w _), hO.none_ (Nat.le_refl _), Nat.le_refl _, hn, hs, by rw [← hs]; exact List.take_of_length_le (by simp), by simpa using hs⟩
end
end Go.Lz
