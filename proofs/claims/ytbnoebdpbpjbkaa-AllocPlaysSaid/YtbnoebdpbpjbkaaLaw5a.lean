/-
  The map's calls, as a statement's function meets them: it owns the store; the map is a local block.
-/
import Derived.Test.YtbnoebdpbpjbkaaAlP
namespace Go.Lz
open Go.RowKit
/-- A call works on the thing; local blocks are none of its. -/
theorem Own.stepL {w0 w : World} {T : World → (Nat → Prop) → Prop} {L : Locals} (h : Own w0 w T L) : ∃ F, T w F ∧ (∀ k, F k → w0.heap.size ≤ k ∧ k < w.heap.size) ∧ (∀ b o, L b = some o → ¬ F b ∧ w.heap[b]? = some o) ∧
    ∀ {w' : World} {T' : World → (Nat → Prop) → Prop}, T' w' (ext F w w') → Chg F w w' → Own w0 w' T' L := by
  obtain ⟨F, hT, hF, hb, hL⟩ := h
  refine ⟨F, hT, hF, fun b o e => (hL b o e).2, fun {w' T'} hT' hc => ⟨_, hT', fun k hk => ?_, hb.trans (hc.belowB hb.size (fun j hj h => by have := (hF j h).1; omega)), fun b o ho => ?_⟩⟩
  · have := hb.size
    rcases hk with hk | hk
    · exact ⟨(hF k hk).1, Nat.lt_of_lt_of_le (hF k hk).2 hc.size⟩
    · exact ⟨Nat.le_trans this hk.1, hk.2⟩
  · obtain ⟨h1, h2, h3⟩ := hL b o ho
    refine ⟨h1, fun h => h.elim h2 (fun h => ?_), (hc.block b (lt_of_heap h3) h2).trans h3⟩
    have := lt_of_heap h3
    omega
end Go.Lz
namespace Go.Proofs.Ytbnoebdpbpjbkaa
open Go.RowKit Go.Lz
section
variable {w0 w : World} {p q pm : Nat} {S : WalS} {L : Locals} {N a n cc : Nat} {done is : Nat → Bool}

/-- A map's block. -/
def mapObj (p a n : Nat) : Obj := .cells #[Dptr p, .int .i64 (a : Int), .int .i64 (n : Int)] 126 (0, 0)

/-- The call hands back v; the map is such a one. -/
def ADid (w0 w : World) (p q : Nat) (L : Locals) (N a n cc : Nat) (done is : Nat → Bool) (v : Value) (e : Ending) (w' : World) : Prop :=
  ∃ S, e = .returned v ∧ Own w0 w' (TStore p q S) L ∧ AM S N a n cc done is ∧ w.heap.size ≤ w'.heap.size

theorem map5 (h : Own w0 w (TStore p q S) L) (hL : L pm = some (mapObj p a n)) : ∃ F, StoreAt Try.prog w p q S F ∧ MapO w pm p a n ∧ ¬ F pm ∧
    ∀ {w' : World} {S' : WalS}, StoreAt Try.prog w' p q S' (ext F w w') → Chg F w w' → Own w0 w' (TStore p q S') L := by
  obtain ⟨F, hS, hF, hl, hgo⟩ := h.stepL
  exact ⟨F, hS, (hl _ _ hL).2, (hl _ _ hL).1, fun hS' hc => hgo hS' hc⟩

theorem same5 {F : Nat → Prop} {v : Value} {e : Ending} {w' : World} (A : AM S N a n cc done is) (hgo : ∀ {w' : World} {S' : WalS}, StoreAt Try.prog w' p q S' (ext F w w') → Chg F w w' → Own w0 w' (TStore p q S') L) (h : Same w p q S F v e w') : ADid w0 w p q L N a n cc done is v e w' := by
  obtain ⟨j, h1, h2, h3⟩ := h
  exact ⟨_, h1, hgo h2 h3, A.cnt j, h3.size⟩

theorem take5_full (h : Own w0 w (TStore p q S) L) (hL : L pm = some (mapObj p a n)) (A : AM S N a n cc done is) (hall : ∀ i, i < n → is i = true) : Calls Try.prog 54 #[Dptr pm] w (ADid w0 w p q L N a n cc done is (.tuple #[.int .i64 0, .int .i64 60])) := by
  obtain ⟨F, hS, hM, hn, hgo⟩ := map5 h hL
  refine (take_ok hM hn hS A.isDead A.hn A.fits').mono ?_
  rintro e w' (⟨_, h2⟩ | ⟨i, hi, hb, _⟩)
  · exact same5 A hgo h2
  · rw [A.bit i (sectorsOf_lt hi), hall i hi] at hb
    cases hb

theorem take5_at (h : Own w0 w (TStore p q S) L) (hL : L pm = some (mapObj p a n)) (A : AM S N a n cc done is) {i : Nat} (hi : i < n) (h0 : is i = false) (h1 : ∀ k, k < i → is k = true) : Calls Try.prog 54 #[Dptr pm] w (ADid w0 w p q L N a n cc done (upd is i true) (.tuple #[.int .i64 (i : Int), .int .i64 0])) := by
  obtain ⟨F, hS, hM, hn, hgo⟩ := map5 h hL
  refine (take_ok hM hn hS A.isDead A.hn A.fits').mono ?_
  rintro e w' (⟨hall, _⟩ | ⟨k, hk, hb, hlow, j, he, h2, h3⟩)
  · have := hall i hi
    rw [A.bit i (sectorsOf_lt hi), h0] at this
    cases this
  · obtain rfl : k = i := by
      rcases Nat.lt_trichotomy k i with hlt | rfl | hlt
      · rw [A.bit k (sectorsOf_lt hk), h1 k hlt] at hb
        cases hb
      · rfl
      · have := hlow i hlt
        rw [A.bit i (sectorsOf_lt hi), h0] at this
        cases this
    obtain ⟨e0, A'⟩ := A.set hi true
    rw [if_pos e0] at he
    exact ⟨_, he, hgo h2 h3, A'.cnt j, h3.size⟩

theorem give5_out (h : Own w0 w (TStore p q S) L) (hL : L pm = some (mapObj p a n)) {i : Int} (hi : i < 0 ∨ (n : Int) ≤ i) : Calls Try.prog 55 #[Dptr pm, .int .i64 i] w fun e w' => e = .returned (.int .i64 1) ∧ w = w' := by
  obtain ⟨F, hS, hM, hn, hgo⟩ := map5 h hL
  exact give_out hM hi
theorem give5_free (h : Own w0 w (TStore p q S) L) (hL : L pm = some (mapObj p a n)) (A : AM S N a n cc done is) {i : Nat} (hi : i < n) (h0 : is i = false) : Calls Try.prog 55 #[Dptr pm, .int .i64 (i : Int)] w (ADid w0 w p q L N a n cc done is (.int .i64 1)) := by
  obtain ⟨F, hS, hM, hn, hgo⟩ := map5 h hL
  exact (give_free hM hS A.isDead (A.at_ hi) hi A.hn ((A.bit i (sectorsOf_lt hi)).trans h0)).mono fun e w' h2 => same5 A hgo h2
theorem give5_ok (h : Own w0 w (TStore p q S) L) (hL : L pm = some (mapObj p a n)) (A : AM S N a n cc done is) {i : Nat} (hi : i < n) (h0 : is i = true) : Calls Try.prog 55 #[Dptr pm, .int .i64 (i : Int)] w (ADid w0 w p q L N a n cc done (upd is i false) (.int .i64 0)) := by
  obtain ⟨F, hS, hM, hn, hgo⟩ := map5 h hL
  refine (give_ok hM hn hS A.isDead (A.at_ hi) hi A.hn ((A.bit i (sectorsOf_lt hi)).trans h0)).mono ?_
  rintro e w' ⟨j, h1, h2, h3⟩
  obtain ⟨e0, A'⟩ := A.set hi false
  rw [e0] at h1
  exact ⟨_, h1, hgo h2 h3, A'.cnt j, h3.size⟩
theorem taken5_out (h : Own w0 w (TStore p q S) L) (hL : L pm = some (mapObj p a n)) {i : Int} (hi : i < 0 ∨ (n : Int) ≤ i) : Calls Try.prog 57 #[Dptr pm, .int .i64 i] w fun e w' => e = .returned (.tuple #[.bool false, .int .i64 1]) ∧ w = w' := by
  obtain ⟨F, hS, hM, hn, hgo⟩ := map5 h hL
  exact taken_out hM hi
theorem taken5_ok (h : Own w0 w (TStore p q S) L) (hL : L pm = some (mapObj p a n)) (A : AM S N a n cc done is) {i : Nat} (hi : i < n) : Calls Try.prog 57 #[Dptr pm, .int .i64 (i : Int)] w (ADid w0 w p q L N a n cc done is (.tuple #[.bool (is i), .int .i64 0])) := by
  obtain ⟨F, hS, hM, hn, hgo⟩ := map5 h hL
  refine (taken_ok hM hS A.isDead (A.at_ hi) hi A.hn).mono ?_
  rintro e w' ⟨j, h1, h2, h3⟩
  rw [A.bit i (sectorsOf_lt hi)] at h1
  exact ⟨_, h1, hgo (wat_ext h2) h3, A.cnt j, h3.size⟩
theorem count5 (h : Own w0 w (TStore p q S) L) (hL : L pm = some (mapObj p a n)) (A : AM S N a n cc done is) : Calls Try.prog 56 #[Dptr pm] w (ADid w0 w p q L N a n cc done is (.tuple #[.int .i64 (cntI is n : Int), .int .i64 0])) := by
  obtain ⟨F, hS, hM, hn, hgo⟩ := map5 h hL
  refine (count_ok hM hn hS A.isDead A.hn A.fits').mono fun e w' h2 => ?_
  rw [A.count] at h2
  exact same5 A hgo h2
theorem commit5 (h : Own w0 w (TStore p q S) L) (A : AM S N a n cc done is) (hc : cc < 1000000) : Calls Try.prog 42 #[Dptr p] w (ADid w0 w p q L N a n (cc + 1) is is (.int .i64 0)) := by
  obtain ⟨e0, A'⟩ := A.commit hc
  refine (commit4 h).mono ?_
  rintro e w' ⟨h1, h2, h3⟩
  rw [e0] at h1
  exact ⟨_, h1, h2, A', h3⟩
theorem abort5 (h : Own w0 w (TStore p q S) L) (A : AM S N a n cc done is) : Calls Try.prog 48 #[Dptr p] w (ADid w0 w p q L N a n cc done done (.tuple #[])) := by
  refine (abort4 h).mono ?_
  rintro e w' ⟨h1, h2, h3⟩
  exact ⟨_, h1, h2, A.aborted, h3⟩

/-- A new map on a store. -/
theorem new5 (h : Own w0 w (TStore p q S) L) (a n : Nat) (hf : mapFits S.size a n = true) : Calls Try.prog 37 #[Dptr p, .int .i64 (a : Int), .int .i64 (n : Int)] w fun e w' => ∃ pm, e = .returned (.tuple #[Dptr pm, .int .i64 0]) ∧ Own w0 w' (TStore p q S) (upd L pm (some (mapObj p a n))) ∧ L pm = none ∧ w.heap.size ≤ w'.heap.size := by
  obtain ⟨F, hS, _⟩ := h.step
  refine (anew_any hS a n).mono ?_
  rintro e w' (⟨_, h1, h2⟩ | ⟨h1, _⟩)
  · subst h2
    exact ⟨w.heap.size, h1, h.local_ (keepsStore p q S) ((Below.refl _ w).alloc (Nat.le_refl _) _) (Nat.le_refl _) (heap_alloc_new w _), h.none_ (Nat.le_refl _), by simp⟩
  · rw [hf] at h1
    cases h1
end
end Go.Proofs.Ytbnoebdpbpjbkaa
