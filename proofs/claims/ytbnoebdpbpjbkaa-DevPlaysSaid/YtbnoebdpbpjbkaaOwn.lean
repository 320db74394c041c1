/-
  What a statement's function owns: one thing over blocks of its own, and local blocks beside it; nothing that was there has turned.
-/
import Derived.Test.YtbnoebdpbpjbkaaDevS
namespace Go.Lz
open Go.RowKit

/-- v is a slice of the bools l; its cells lie in a block of F. -/
def BoolsAt (w : World) (F : Nat → Prop) (v : Value) (l : List Bool) : Prop :=
  ∃ a n c, v = .slice a n c ∧ l.length = n ∧ n ≤ 9223372036854775807 ∧ (n = 0 ∨ ∃ b off, a = some ⟨b, off, none⟩ ∧ F b ∧ b < w.heap.size ∧ ∀ j, j < n → w.cell? ⟨b, off + j, none⟩ = some (.bool (l.getD j false)))

/-- Local blocks. -/
abbrev Locals := Nat → Option Obj
def noLocals : Locals := fun _ => none

/-- Since w0: T lies over blocks F of the call's own; L are other blocks; nothing of w0 has turned. -/
def Own (w0 w : World) (T : World → (Nat → Prop) → Prop) (L : Locals) : Prop :=
  ∃ F, T w F ∧ (∀ k, F k → w0.heap.size ≤ k ∧ k < w.heap.size) ∧ Below w0.heap.size w0 w ∧ ∀ b o, L b = some o → w0.heap.size ≤ b ∧ ¬ F b ∧ w.heap[b]? = some o

/-- T stands where its blocks have not turned. -/
def Keeps (T : World → (Nat → Prop) → Prop) : Prop := ∀ w w' F M, T w F → Chg M w w' → (∀ k, F k → ¬ M k) → T w' F

section
variable {w0 w w' : World} {T T' : World → (Nat → Prop) → Prop} {L : Locals}

theorem Own.base (h : Own w0 w T L) : Below w0.heap.size w0 w := by
  obtain ⟨F, _, _, hb, _⟩ := h
  exact hb
theorem Own.size (h : Own w0 w T L) : w0.heap.size ≤ w.heap.size := h.base.size
theorem Own.loc (h : Own w0 w T L) {b : Nat} {o : Obj} (hb : L b = some o) : w.heap[b]? = some o := by
  obtain ⟨F, _, _, _, hL⟩ := h
  exact (hL b o hb).2.2
theorem Own.loc_lt (h : Own w0 w T L) {b : Nat} {o : Obj} (hb : L b = some o) : b < w.heap.size := lt_of_heap (h.loc hb)
theorem Own.loc_ge (h : Own w0 w T L) {b : Nat} {o : Obj} (hb : L b = some o) : w0.heap.size ≤ b := by
  obtain ⟨F, _, _, _, hL⟩ := h
  exact (hL b o hb).1

/-- A call works on the thing. -/
theorem Own.step (h : Own w0 w T L) : ∃ F, T w F ∧ (∀ k, F k → w0.heap.size ≤ k ∧ k < w.heap.size) ∧ ∀ {w' : World} {T' : World → (Nat → Prop) → Prop}, T' w' (ext F w w') → Chg F w w' → Own w0 w' T' L := by
  obtain ⟨F, hT, hF, hb, hL⟩ := h
  refine ⟨F, hT, hF, fun {w' T'} hT' hc => ⟨_, hT', fun k hk => ?_, hb.trans (hc.belowB hb.size (fun j hj h => by have := (hF j h).1; omega)), fun b o ho => ?_⟩⟩
  · have := hb.size
    rcases hk with hk | hk
    · exact ⟨(hF k hk).1, Nat.lt_of_lt_of_le (hF k hk).2 hc.size⟩
    · exact ⟨Nat.le_trans this hk.1, hk.2⟩
  · obtain ⟨h1, h2, h3⟩ := hL b o ho
    refine ⟨h1, fun h => h.elim h2 (fun h => ?_), (hc.block b (lt_of_heap h3) h2).trans h3⟩
    have := lt_of_heap h3
    omega

/-- New blocks; nothing has turned. -/
theorem Own.below (h : Own w0 w T L) (hk : Keeps T) (hb : Below w.heap.size w w') : Own w0 w' T L := by
  obtain ⟨F, hT, hF, hb0, hL⟩ := h
  have hc : Chg (fun _ => False) w w' := Chg.of_below hb
  exact ⟨F, hk _ _ _ _ hT hc (fun _ _ h => h), fun k hk => ⟨(hF k hk).1, Nat.lt_of_lt_of_le (hF k hk).2 hb.size⟩, hb0.trans (hb.mono hb0.size), fun b o ho => ⟨(hL b o ho).1, (hL b o ho).2.1, (hc.block b (lt_of_heap (hL b o ho).2.2) (fun h => h)).trans (hL b o ho).2.2⟩⟩

/-- A new local block. -/
theorem Own.local_ (h : Own w0 w T L) {b : Nat} {o : Obj} (hk : Keeps T) (hb : Below w.heap.size w w') (hge : w.heap.size ≤ b) (ho : w'.heap[b]? = some o) : Own w0 w' T (upd L b (some o)) := by
  have hs := h.size
  obtain ⟨F, hT, hF, hb0, hL⟩ := h
  have hc : Chg (fun _ => False) w w' := Chg.of_below hb
  refine ⟨F, hk _ _ _ _ hT hc (fun _ _ h => h), fun k hk => ⟨(hF k hk).1, Nat.lt_of_lt_of_le (hF k hk).2 hb.size⟩, hb0.trans (hb.mono hb0.size), fun b' o' ho' => ?_⟩
  by_cases e : b' = b
  · subst e
    rw [upd_same] at ho'
    cases ho'
    exact ⟨by omega, fun hf => by have := (hF _ hf).2; omega, ho⟩
  · rw [upd_other _ e] at ho'
    exact ⟨(hL b' o' ho').1, (hL b' o' ho').2.1, (hc.block b' (lt_of_heap (hL b' o' ho').2.2) (fun h => h)).trans (hL b' o' ho').2.2⟩

/-- A local block is written. -/
theorem Own.set (h : Own w0 w T L) {b : Nat} {o o' : Obj} (hk : Keeps T) (hb : L b = some o) (hc : Chg (· = b) w w') (ho : w'.heap[b]? = some o') : Own w0 w' T (upd L b (some o')) := by
  have hge := h.loc_ge hb
  obtain ⟨F, hT, hF, hb0, hL⟩ := h
  refine ⟨F, hk _ _ _ _ hT hc (fun k hk e => (hL b o hb).2.1 (e ▸ hk)), fun k hk => ⟨(hF k hk).1, Nat.lt_of_lt_of_le (hF k hk).2 hc.size⟩, hb0.trans (hc.belowB hb0.size (fun j hj e => by omega)), fun b' o2 ho2 => ?_⟩
  by_cases e : b' = b
  · subst e
    rw [upd_same] at ho2
    cases ho2
    exact ⟨hge, (hL _ o hb).2.1, ho⟩
  · rw [upd_other _ e] at ho2
    exact ⟨(hL b' o2 ho2).1, (hL b' o2 ho2).2.1, (hc.block b' (lt_of_heap (hL b' o2 ho2).2.2) e).trans (hL b' o2 ho2).2.2⟩

/-- A block of the call's own that is none of the thing's and no local one is written. -/
theorem Own.free (h : Own w0 w T L) {M : Nat → Prop} (hk : Keeps T) (hc : Chg M w w') (hM : ∀ k, M k → w.heap.size ≤ k) : Own w0 w' T L := by
  have hs := h.size
  obtain ⟨F, hT, hF, hb0, hL⟩ := h
  exact ⟨F, hk _ _ _ _ hT hc (fun k hk hm => by have := (hF k hk).2; have := hM k hm; omega), fun k hk => ⟨(hF k hk).1, Nat.lt_of_lt_of_le (hF k hk).2 hc.size⟩, hb0.trans (hc.belowB hb0.size (fun j hj e => by have := hM j e; omega)), fun b o ho => ⟨(hL b o ho).1, (hL b o ho).2.1, (hc.block b (lt_of_heap (hL b o ho).2.2) (fun e => by have := lt_of_heap (hL b o ho).2.2; have := hM b e; omega)).trans (hL b o ho).2.2⟩⟩

/-- A local block is forgotten. -/
theorem Own.forget (h : Own w0 w T L) {L' : Locals} (hL : ∀ b o, L' b = some o → L b = some o) : Own w0 w T L' := by
  obtain ⟨F, hT, hF, hb, hl⟩ := h
  exact ⟨F, hT, hF, hb, fun b o ho => hl b o (hL b o ho)⟩

theorem Own.none_ (h : Own w0 w T L) {g : Nat} (hg : w.heap.size ≤ g) : L g = none := by
  cases e : L g with
  | none => rfl
  | some o => have := h.loc_lt e; omega
theorem Own.drop {g : Nat} {o : Obj} (h : Own w0 w T (upd L g (some o))) (hg : L g = none) : Own w0 w T L :=
  h.forget fun b o' hb => by
    have e : b ≠ g := fun e => by subst e; rw [hg] at hb; cases hb
    rw [upd_other _ e]
    exact hb

/-- The thing is seen otherwise. -/
theorem Own.view (h : Own w0 w T L) (hv : ∀ F, T w F → (∀ k, F k → k < w.heap.size) → T' w F) : Own w0 w T' L := by
  obtain ⟨F, hT, hF, hb, hl⟩ := h
  exact ⟨F, hv F hT (fun k hk => (hF k hk).2), hF, hb, hl⟩

/-- The first thing. -/
theorem Own.start {F : Nat → Prop} (hT : T w F) (hF : ∀ k, F k → w0.heap.size ≤ k ∧ k < w.heap.size) (hb : Below w0.heap.size w0 w) : Own w0 w T noLocals := ⟨F, hT, hF, hb, fun _ _ h => by cases h⟩

/-- A row of bytes of the caller's, or one made since, stands. -/
theorem Own.cells {F : Nat → Prop} (h : Own w0 w T L) {p : Addr} (hp : p.block < w0.heap.size) (_hF : F = F) : w.cell? p = w0.cell? p := h.base.cell hp
end
end Go.Lz
