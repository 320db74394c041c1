/-
  What a log says, plain.
-/
import Derived.Test.YtbnoebdpbpjbkaaWalP
namespace Go.Lz
open Go.RowKit

/-- n reads, counted. -/
def DevS.countedN (D : DevS) : Nat → DevS
  | 0 => D
  | n + 1 => (D.countedN n).counted

section
variable (D : DevS)
@[simp] theorem DevS.countedN_n (k : Nat) : (D.countedN k).n = D.n := by
  induction k with
  | zero => rfl
  | succ k ih => exact ih
@[simp] theorem DevS.countedN_dead (k : Nat) : (D.countedN k).dead = D.dead := by
  induction k with
  | zero => rfl
  | succ k ih => exact ih
@[simp] theorem DevS.countedN_fuse (k : Nat) : (D.countedN k).fuse = D.fuse := by
  induction k with
  | zero => rfl
  | succ k ih => exact ih
@[simp] theorem DevS.countedN_last (k : Nat) : (D.countedN k).last = D.last := by
  induction k with
  | zero => rfl
  | succ k ih => exact ih
@[simp] theorem DevS.countedN_wait (k : Nat) : (D.countedN k).wait = D.wait := by
  induction k with
  | zero => rfl
  | succ k ih => exact ih
@[simp] theorem DevS.countedN_now (k : Nat) : (D.countedN k).now = D.now := by
  induction k with
  | zero => rfl
  | succ k ih => exact ih
end

/-- How many sectors the log has. -/
def numL (L : Nat → Bytes) : Nat := if 256 < numB (L 0) then 0 else (numB (L 0)).toNat
/-- Where the i-th of them belongs. -/
def atL (L : Nat → Bytes) (i : Nat) : Int := numB ((L (1 + i / 16)).drop (4 * (i % 16)))
/-- What the first i of them say, in a store of n sectors. -/
def logFL (L : Nat → Bytes) (n : Nat) : Nat → Nat → Option Bytes
  | 0 => fun _ => none
  | i + 1 => if atL L i < (n : Int) then upd (logFL L n i) (atL L i).toNat (some (L (17 + i))) else logFL L n i
/-- The store that is there behind an opening. -/
def storL (L : Nat → Bytes) (n : Nat) (k : Nat) : Bytes := (logFL L n (numL L) k).getD (L (300 + k))

theorem numB_nonneg (b : Bytes) : 0 ≤ numB b := by unfold numB; omega
theorem numL_le (L : Nat → Bytes) : numL L ≤ 256 := by
  unfold numL
  split
  · omega
  · omega

theorem logFL_ok {L : Nat → Bytes} (hL : ∀ k, (L k).length = 64) {n i k : Nat} {b : Bytes} (hk : logFL L n i k = some b) : b.length = 64 ∧ k < n := by
  induction i with
  | zero => cases hk
  | succ i ih =>
    simp only [logFL] at hk
    split at hk
    · rename_i hlt
      by_cases e : k = (atL L i).toNat
      · subst e
        rw [upd_same] at hk
        cases hk
        have := numB_nonneg ((L (1 + i / 16)).drop (4 * (i % 16)))
        exact ⟨hL _, by unfold atL at hlt ⊢; omega⟩
      · rw [upd_other _ e] at hk
        exact ih hk
    · exact ih hk

theorem numL_congr {L L' : Nat → Bytes} (h : L 0 = L' 0) : numL L = numL L' := by unfold numL; rw [h]
theorem logFL_congr {L L' : Nat → Bytes} (h : ∀ j, 1 ≤ j → j < 300 → L j = L' j) (n : Nat) {i : Nat} (hi : i ≤ 256) : logFL L n i = logFL L' n i := by
  induction i with
  | zero => rfl
  | succ i ih =>
    have e : atL L i = atL L' i := by unfold atL; rw [h _ (by omega) (by omega)]
    simp only [logFL, ih (by omega), e, h (17 + i) (by omega) (by omega)]

/-! ### what was written into a log is what it says -/
theorem numB_congr {b c : Bytes} (h : ∀ t, t < 4 → b.getD t 0 = c.getD t 0) : numB b = numB c := by
  unfold numB
  rw [h 0 (by omega), h 1 (by omega), h 2 (by omega), h 3 (by omega)]

theorem numB_four (x : Int) (h0 : 0 ≤ x) (h1 : x < 4294967296) : numB (fourB x) = x := by
  unfold numB fourB
  simp only [List.getD_eq_getElem?_getD, List.getElem?_cons_zero, List.getElem?_cons_succ, Option.getD_some]
  have a := lowByte_toNat (x / 16777216)
  have b := lowByte_toNat (x / 65536)
  have c := lowByte_toNat (x / 256)
  have d := lowByte_toNat x
  omega

theorem numsB_getD (l : List Nat) (j t k : Nat) (ht : t < 4) (hj : l[j]? = some k) : (numsB l)[4 * j + t]? = (fourB (k : Int))[t]? := by
  induction l generalizing j with
  | nil => cases hj
  | cons x l ih =>
    have e : numsB (x :: l) = fourB (x : Int) ++ numsB l := rfl
    have e4 : ∀ y : Int, (fourB y).length = 4 := fun _ => rfl
    rw [e]
    cases j with
    | zero =>
      simp only [List.getElem?_cons_zero, Option.some.injEq] at hj
      subst hj
      rw [List.getElem?_append_left (by rw [e4]; omega)]
      congr 1
      omega
    | succ j =>
      rw [List.getElem?_cons_succ] at hj
      rw [List.getElem?_append_right (by rw [e4]; omega), e4, ← ih j hj]
      congr 1
      omega

theorem pieceB_get (b : Bytes) (i t : Nat) (ht : t < 64) : (pieceB b i).getD t 0 = b.getD (64 * i + t) 0 := by
  unfold pieceB
  simp only [List.getD_eq_getElem?_getD]
  by_cases h : t < ((b.drop (64 * i)).take 64).length
  · rw [List.getElem?_append_left h, List.getElem?_take, if_pos ht, List.getElem?_drop]
  · rw [List.getElem?_append_right (by omega), List.getElem?_replicate]
    have hb : b[64 * i + t]? = none := by
      rw [List.getElem?_eq_none_iff]
      simp at h
      omega
    rw [hb]
    split <;> rfl

theorem drop_getD (b : Bytes) (m t : Nat) : (b.drop m).getD t 0 = b.getD (m + t) 0 := by
  simp only [List.getD_eq_getElem?_getD, List.getElem?_drop]

/-- A log that was written. -/
structure Logged (L : Nat → Bytes) (f : Nat → Option Bytes) (n : Nat) : Prop where
  dat : ∀ j k, (keysF f n)[j]? = some k → L (17 + j) = (f k).getD []
  idx : ∀ i, i < (4 * (keysF f n).length + 63) / 64 → L (1 + i) = pieceB (numsB (keysF f n)) i

theorem Logged.at_ {L : Nat → Bytes} {f : Nat → Option Bytes} {n : Nat} (h : Logged L f n) {j k : Nat} (hj : (keysF f n)[j]? = some k) (hk : k < 4294967296) : atL L j = (k : Int) := by
  unfold atL
  have hl : j < (keysF f n).length := (List.getElem?_eq_some_iff.1 hj).1
  rw [h.idx (j / 16) (by omega)]
  rw [numB_congr (c := fourB (k : Int)) (fun t ht => ?_), numB_four _ (by omega) (by omega)]
  rw [drop_getD, pieceB_get _ _ _ (by omega), show 64 * (j / 16) + (4 * (j % 16) + t) = 4 * j + t from by omega, List.getD_eq_getElem?_getD, numsB_getD _ _ _ _ ht hj, List.getD_eq_getElem?_getD]

theorem Logged.says {L : Nat → Bytes} {f : Nat → Option Bytes} {n : Nat} (h : Logged L f n) (hn : n ≤ 1000000) (hf : ∀ k, (f k).isSome = true → k < n) : logFL L n (keysF f n).length = f := by
  have hi : ∀ i, i ≤ (keysF f n).length → logFL L n i = fun k => if k ∈ (keysF f n).take i then f k else none := by
    intro i hi
    induction i with
    | zero => funext k; simp [logFL]
    | succ i ih =>
      obtain ⟨k, hk⟩ : ∃ k, (keysF f n)[i]? = some k := ⟨_, List.getElem?_eq_getElem (by omega)⟩
      have hm : k ∈ keysF f n := List.mem_of_getElem? hk
      obtain ⟨hkn, hks⟩ := (by simpa [keysF] using hm : k < n ∧ (f k).isSome = true)
      have ha := h.at_ hk (by omega)
      have hd := h.dat i k hk
      simp only [logFL, ha, hd]
      rw [if_pos (by omega), ih (by omega), Int.toNat_natCast]
      funext x
      rw [List.take_add_one, hk]
      by_cases e : x = k
      · subst e
        obtain ⟨b, hb⟩ := Option.isSome_iff_exists.1 hks
        simp [hb]
      · rw [upd_other _ e]
        simp [e]
  rw [hi _ (Nat.le_refl _)]
  funext k
  rw [List.take_length]
  by_cases hk : (f k).isSome = true
  · rw [if_pos (by simp [keysF, hk, hf k hk])]
  · rw [if_neg (by simp [keysF]; intro; simpa using hk)]
    simp at hk
    exact hk.symm

theorem numL_head {L : Nat → Bytes} {K : Nat} (h : L 0 = headB (K : Int)) (hK : K ≤ 256) : numL L = K := by
  have e : numB (L 0) = (K : Int) := by
    rw [h, numB_congr (c := fourB (K : Int)) (fun t ht => ?_), numB_four _ (by omega) (by omega)]
    unfold headB
    rw [List.getD_eq_getElem?_getD, List.getElem?_append_left (by exact ht), List.getD_eq_getElem?_getD]
  unfold numL
  rw [e, if_neg (by omega), Int.toNat_natCast]
end Go.Lz
