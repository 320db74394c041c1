/-
  The texts WalP WalL WalT WalG WalH Wal1 Law1d, one behind the other.
-/
import Derived.Test.YtjngphffgdjcfaaGreatDoorME0
import Derived.Test.YtjngphffgdjcfaaGreatDoorMExWal3
import Derived.Test.YtjngphffgdjcfaaGreatDoorME3
/-
  Rows of device calls, one behind the other: the store's log and its way home, plain.
-/
namespace Go.Lz
open Go.RowKit

/-- One call, then (if it went well) more. -/
def seqD (r : Int × DevS) (k : DevS → Int × DevS) : Int × DevS := if r.1 = 0 then k r.2 else r

theorem seqD_zero (D : DevS) (k : DevS → Int × DevS) : seqD (0, D) k = k D := rfl
theorem seqD_fail {r : Int × DevS} (h : r.1 ≠ 0) (k : DevS → Int × DevS) : seqD r k = r := if_neg h
theorem seqD_ok {r : Int × DevS} (h : r.1 = 0) (k : DevS → Int × DevS) : seqD r k = k r.2 := if_pos h

/-- Sectors written one behind the other. -/
def DevS.writeL (D : DevS) : List (Int × Bytes) → Int × DevS
  | [] => (0, D)
  | x :: l => seqD (D.write x.1 x.2) fun D' => D'.writeL l

theorem DevS.writeL_append (D : DevS) (l m : List (Int × Bytes)) : D.writeL (l ++ m) = seqD (D.writeL l) fun D' => D'.writeL m := by
  induction l generalizing D with
  | nil => rfl
  | cons x l ih =>
    show seqD (D.write x.1 x.2) _ = seqD (seqD (D.write x.1 x.2) _) _
    by_cases h : (D.write x.1 x.2).1 = 0
    · rw [seqD_ok h, seqD_ok h]
      exact ih _
    · rw [seqD_fail h, seqD_fail h, seqD_fail h]

theorem DevS.writeL_step {D D' : DevS} {l : List (Int × Bytes)} {j : Nat} (h : D.writeL (l.take j) = (0, D')) {x : Int × Bytes} (hx : l[j]? = some x) : D.writeL (l.take (j + 1)) = D'.write x.1 x.2 := by
  rw [List.take_add_one, hx, DevS.writeL_append, h]
  show seqD (D'.write x.1 x.2) (fun D' => (0, D')) = _
  by_cases h2 : (D'.write x.1 x.2).1 = 0
  · rw [seqD_ok h2]
    exact Prod.ext h2.symm rfl
  · rw [seqD_fail h2]

theorem DevS.writeL_stop {D D' : DevS} {l : List (Int × Bytes)} {j : Nat} (h : D.writeL (l.take j) = (0, D')) {x : Int × Bytes} (hx : l[j]? = some x) (hr : (D'.write x.1 x.2).1 ≠ 0) : D.writeL l = D'.write x.1 x.2 := by
  have h1 := DevS.writeL_step h hx
  have h2 : l = l.take (j + 1) ++ l.drop (j + 1) := (List.take_append_drop _ _).symm
  rw [h2, DevS.writeL_append, h1, seqD_fail hr]

/-- Where the sectors of f go home. -/
def homeL (f : Nat → Option Bytes) (n : Nat) : List (Int × Bytes) := (keysF f n).map fun (k : Nat) => (300 + (k : Int), (f k).getD [])
def DevS.home (D : DevS) (f : Nat → Option Bytes) (n : Nat) : Int × DevS :=
  seqD (seqD (seqD (D.writeL (homeL f n)) DevS.flush) fun D => D.write 0 (headB 0)) DevS.flush

/-- The numbers as bytes; the i-th sector of them. -/
def numsB (l : List Nat) : Bytes := l.flatMap fun (k : Nat) => fourB (k : Int)
def pieceB (b : Bytes) (i : Nat) : Bytes := ((b.drop (64 * i)).take 64) ++ List.replicate (64 - ((b.drop (64 * i)).take 64).length) 0
def logL (f : Nat → Option Bytes) (n : Nat) : List (Int × Bytes) :=
  ((keysF f n).zipIdx.map fun (x : Nat × Nat) => (17 + (x.2 : Int), (f x.1).getD [])) ++ (List.range ((4 * (keysF f n).length + 63) / 64)).map fun (i : Nat) => (1 + (i : Int), pieceB (numsB (keysF f n)) i)
def DevS.log (D : DevS) (f : Nat → Option Bytes) (n : Nat) : Int × DevS :=
  seqD (seqD (seqD (D.writeL (logL f n)) DevS.flush) fun D => D.write 0 (headB ((keysF f n).length : Int))) DevS.flush
end Go.Lz
/-
  What a log says, plain.
-/
namespace Go.Lz
open Go.RowKit

/-- n reads, counted. -/
def DevS.countedN (D : DevS) : Nat → DevS
  | 0 => D
  | n + 1 => (D.countedN n).counted

section
variable (D : DevS)
@[simp] theorem DevS.countedN_n (k : Nat) : (D.countedN k).n = D.n := by
  induction k with
  | zero => rfl
  | succ k ih => exact ih
@[simp] theorem DevS.countedN_dead (k : Nat) : (D.countedN k).dead = D.dead := by
  induction k with
  | zero => rfl
  | succ k ih => exact ih
@[simp] theorem DevS.countedN_fuse (k : Nat) : (D.countedN k).fuse = D.fuse := by
  induction k with
  | zero => rfl
  | succ k ih => exact ih
@[simp] theorem DevS.countedN_last (k : Nat) : (D.countedN k).last = D.last := by
  induction k with
  | zero => rfl
  | succ k ih => exact ih
@[simp] theorem DevS.countedN_wait (k : Nat) : (D.countedN k).wait = D.wait := by
  induction k with
  | zero => rfl
  | succ k ih => exact ih
@[simp] theorem DevS.countedN_now (k : Nat) : (D.countedN k).now = D.now := by
  induction k with
  | zero => rfl
  | succ k ih => exact ih
end

/-- How many sectors the log has. -/
def numL (L : Nat → Bytes) : Nat := if 256 < numB (L 0) then 0 else (numB (L 0)).toNat
/-- Where the i-th of them belongs. -/
def atL (L : Nat → Bytes) (i : Nat) : Int := numB ((L (1 + i / 16)).drop (4 * (i % 16)))
/-- What the first i of them say, in a store of n sectors. -/
def logFL (L : Nat → Bytes) (n : Nat) : Nat → Nat → Option Bytes
  | 0 => fun _ => none
  | i + 1 => if atL L i < (n : Int) then upd (logFL L n i) (atL L i).toNat (some (L (17 + i))) else logFL L n i
/-- The store that is there behind an opening. -/
def storL (L : Nat → Bytes) (n : Nat) (k : Nat) : Bytes := (logFL L n (numL L) k).getD (L (300 + k))

theorem numB_nonneg (b : Bytes) : 0 ≤ numB b := by unfold numB; omega
theorem numL_le (L : Nat → Bytes) : numL L ≤ 256 := by
  unfold numL
  split
  · omega
  · omega

theorem logFL_ok {L : Nat → Bytes} (hL : ∀ k, (L k).length = 64) {n i k : Nat} {b : Bytes} (hk : logFL L n i k = some b) : b.length = 64 ∧ k < n := by
  induction i with
  | zero => cases hk
  | succ i ih =>
    simp only [logFL] at hk
    split at hk
    · rename_i hlt
      by_cases e : k = (atL L i).toNat
      · subst e
        rw [upd_same] at hk
        cases hk
        have := numB_nonneg ((L (1 + i / 16)).drop (4 * (i % 16)))
        exact ⟨hL _, by unfold atL at hlt ⊢; omega⟩
      · rw [upd_other _ e] at hk
        exact ih hk
    · exact ih hk

theorem numL_congr {L L' : Nat → Bytes} (h : L 0 = L' 0) : numL L = numL L' := by unfold numL; rw [h]
theorem logFL_congr {L L' : Nat → Bytes} (h : ∀ j, 1 ≤ j → j < 300 → L j = L' j) (n : Nat) {i : Nat} (hi : i ≤ 256) : logFL L n i = logFL L' n i := by
  induction i with
  | zero => rfl
  | succ i ih =>
    have e : atL L i = atL L' i := by unfold atL; rw [h _ (by omega) (by omega)]
    simp only [logFL, ih (by omega), e, h (17 + i) (by omega) (by omega)]

/-! ### what was written into a log is what it says -/
theorem numB_congr {b c : Bytes} (h : ∀ t, t < 4 → b.getD t 0 = c.getD t 0) : numB b = numB c := by
  unfold numB
  rw [h 0 (by omega), h 1 (by omega), h 2 (by omega), h 3 (by omega)]

theorem numB_four (x : Int) (h0 : 0 ≤ x) (h1 : x < 4294967296) : numB (fourB x) = x := by
  unfold numB fourB
  simp only [List.getD_eq_getElem?_getD, List.getElem?_cons_zero, List.getElem?_cons_succ, Option.getD_some]
  have a := lowByte_toNat (x / 16777216)
  have b := lowByte_toNat (x / 65536)
  have c := lowByte_toNat (x / 256)
  have d := lowByte_toNat x
  omega

theorem numsB_getD (l : List Nat) (j t k : Nat) (ht : t < 4) (hj : l[j]? = some k) : (numsB l)[4 * j + t]? = (fourB (k : Int))[t]? := by
  induction l generalizing j with
  | nil => cases hj
  | cons x l ih =>
    have e : numsB (x :: l) = fourB (x : Int) ++ numsB l := rfl
    have e4 : ∀ y : Int, (fourB y).length = 4 := fun _ => rfl
    rw [e]
    cases j with
    | zero =>
      simp only [List.getElem?_cons_zero, Option.some.injEq] at hj
      subst hj
      rw [List.getElem?_append_left (by rw [e4]; omega)]
      congr 1
      omega
    | succ j =>
      rw [List.getElem?_cons_succ] at hj
      rw [List.getElem?_append_right (by rw [e4]; omega), e4, ← ih j hj]
      congr 1
      omega

theorem pieceB_get (b : Bytes) (i t : Nat) (ht : t < 64) : (pieceB b i).getD t 0 = b.getD (64 * i + t) 0 := by
  unfold pieceB
  simp only [List.getD_eq_getElem?_getD]
  by_cases h : t < ((b.drop (64 * i)).take 64).length
  · rw [List.getElem?_append_left h, List.getElem?_take, if_pos ht, List.getElem?_drop]
  · rw [List.getElem?_append_right (by omega), List.getElem?_replicate]
    have hb : b[64 * i + t]? = none := by
      rw [List.getElem?_eq_none_iff]
      simp at h
      omega
    rw [hb]
    split <;> rfl

theorem drop_getD (b : Bytes) (m t : Nat) : (b.drop m).getD t 0 = b.getD (m + t) 0 := by
  simp only [List.getD_eq_getElem?_getD, List.getElem?_drop]

/-- A log that was written. -/
structure Logged (L : Nat → Bytes) (f : Nat → Option Bytes) (n : Nat) : Prop where
  dat : ∀ j k, (keysF f n)[j]? = some k → L (17 + j) = (f k).getD []
  idx : ∀ i, i < (4 * (keysF f n).length + 63) / 64 → L (1 + i) = pieceB (numsB (keysF f n)) i

theorem Logged.at_ {L : Nat → Bytes} {f : Nat → Option Bytes} {n : Nat} (h : Logged L f n) {j k : Nat} (hj : (keysF f n)[j]? = some k) (hk : k < 4294967296) : atL L j = (k : Int) := by
  unfold atL
  have hl : j < (keysF f n).length := (List.getElem?_eq_some_iff.1 hj).1
  rw [h.idx (j / 16) (by omega)]
  rw [numB_congr (c := fourB (k : Int)) (fun t ht => ?_), numB_four _ (by omega) (by omega)]
  rw [drop_getD, pieceB_get _ _ _ (by omega), show 64 * (j / 16) + (4 * (j % 16) + t) = 4 * j + t from by omega, List.getD_eq_getElem?_getD, numsB_getD _ _ _ _ ht hj, List.getD_eq_getElem?_getD]

theorem Logged.says {L : Nat → Bytes} {f : Nat → Option Bytes} {n : Nat} (h : Logged L f n) (hn : n ≤ 1000000) (hf : ∀ k, (f k).isSome = true → k < n) : logFL L n (keysF f n).length = f := by
  have hi : ∀ i, i ≤ (keysF f n).length → logFL L n i = fun k => if k ∈ (keysF f n).take i then f k else none := by
    intro i hi
    induction i with
    | zero => funext k; simp [logFL]
    | succ i ih =>
      obtain ⟨k, hk⟩ : ∃ k, (keysF f n)[i]? = some k := ⟨_, List.getElem?_eq_getElem (by omega)⟩
      have hm : k ∈ keysF f n := List.mem_of_getElem? hk
      obtain ⟨hkn, hks⟩ := (by simpa [keysF] using hm : k < n ∧ (f k).isSome = true)
      have ha := h.at_ hk (by omega)
      have hd := h.dat i k hk
      simp only [logFL, ha, hd]
      rw [if_pos (by omega), ih (by omega), Int.toNat_natCast]
      funext x
      rw [List.take_add_one, hk]
      by_cases e : x = k
      · subst e
        obtain ⟨b, hb⟩ := Option.isSome_iff_exists.1 hks
        simp [hb]
      · rw [upd_other _ e]
        simp [e]
  rw [hi _ (Nat.le_refl _)]
  funext k
  rw [List.take_length]
  by_cases hk : (f k).isSome = true
  · rw [if_pos (by simp [keysF, hk, hf k hk])]
  · rw [if_neg (by simp [keysF]; intro; simpa using hk)]
    simp at hk
    exact hk.symm

theorem numL_head {L : Nat → Bytes} {K : Nat} (h : L 0 = headB (K : Int)) (hK : K ≤ 256) : numL L = K := by
  have e : numB (L 0) = (K : Int) := by
    rw [h, numB_congr (c := fourB (K : Int)) (fun t ht => ?_), numB_four _ (by omega) (by omega)]
    unfold headB
    rw [List.getD_eq_getElem?_getD, List.getElem?_append_left (by exact ht), List.getD_eq_getElem?_getD]
  unfold numL
  rw [e, if_neg (by omega), Int.toNat_natCast]
end Go.Lz
/-
  What lasts of a device behind a crash, whatever it keeps, while a store's log is written and brought home. Plain.
-/
namespace Go.Lz
open Go.RowKit

/-- What lasts behind a crash that keeps some. -/
def DevS.kept (D : DevS) (keep : Nat → Bool) : Nat → Bytes := fun k => if keep k then D.now k else D.last k
theorem DevS.crashed_last (D : DevS) (flip : Bool) (l : List Int) : (D.crashed flip l).last = D.kept fun k => (decide ((k : Int) ∈ l)) != flip := rfl
/-- A log of which nothing is to be brought home is none. -/
def Sane (L : Nat → Bytes) (n : Nat) : Prop := logFL L n (numL L) = (fun _ => none) → numL L = 0
/-- The store that these sectors say is g. -/
def Reads (L : Nat → Bytes) (n : Nat) (g : Nat → Bytes) : Prop := Sane L n ∧ ∀ k, k < n → storL L n k = g k
/-- Whatever a crash keeps, the store is g; g or h. -/
def Dur (D : DevS) (g : Nat → Bytes) : Prop := ∀ keep, Reads (D.kept keep) (D.n - 300) g
def Dur2 (D : DevS) (g h : Nat → Bytes) : Prop := ∀ keep, Reads (D.kept keep) (D.n - 300) g ∨ Reads (D.kept keep) (D.n - 300) h
/-- Nothing waits, no log: the store is g. -/
structure Quiet (D : DevS) (g : Nat → Bytes) : Prop where
  wait : ∀ k, D.wait k = none
  num : numL D.last = 0
  at_ : ∀ k, k < D.n - 300 → D.last (300 + k) = g k

/-- f over c. -/
def over (f : Nat → Option Bytes) (c : Nat → Bytes) (k : Nat) : Bytes := (f k).getD (c k)

section
variable {D D' : DevS} {g h c : Nat → Bytes} {f : Nat → Option Bytes}

theorem DevS.kept_core (hl : D'.last = D.last) (hw : D'.wait = D.wait) (keep : Nat → Bool) : D'.kept keep = D.kept keep := by
  unfold DevS.kept DevS.now; rw [hl, hw]
theorem Dur.core (hd : Dur D g) (hn : D'.n = D.n) (hl : D'.last = D.last) (hw : D'.wait = D.wait) : Dur D' g := fun keep => by rw [DevS.kept_core hl hw, hn]; exact hd keep
theorem Dur2.core (hd : Dur2 D g h) (hn : D'.n = D.n) (hl : D'.last = D.last) (hw : D'.wait = D.wait) : Dur2 D' g h := fun keep => by rw [DevS.kept_core hl hw, hn]; exact hd keep
theorem Quiet.core (hq : Quiet D g) (hn : D'.n = D.n) (hl : D'.last = D.last) (hw : D'.wait = D.wait) : Quiet D' g := ⟨by rw [hw]; exact hq.wait, by rw [hl]; exact hq.num, by rw [hn, hl]; exact hq.at_⟩
theorem Dur.left (hd : Dur D g) : Dur2 D g h := fun keep => .inl (hd keep)
theorem Dur.right (hd : Dur D h) : Dur2 D g h := fun keep => .inr (hd keep)

theorem DevS.kept_still (hw : ∀ k, D.wait k = none) (keep : Nat → Bool) : D.kept keep = D.last := by
  funext k
  simp [DevS.kept, DevS.now, hw k]
theorem DevS.now_still (hw : ∀ k, D.wait k = none) : D.now = D.last := by
  funext k
  simp [DevS.now, hw k]

theorem reads_nolog {L : Nat → Bytes} {n : Nat} (h0 : numL L = 0) (ha : ∀ k, k < n → L (300 + k) = g k) : Reads L n g := by
  refine ⟨fun _ => h0, fun k hk => ?_⟩
  unfold storL
  rw [h0]
  exact ha k hk

theorem reads_log {L : Nat → Bytes} {n : Nat} (hf : logFL L n (numL L) = f) (hne : f ≠ fun _ => none) (ha : ∀ k, k < n → over f (fun k => L (300 + k)) k = g k) : Reads L n g := by
  refine ⟨fun e => absurd (hf.symm.trans e) hne, fun k hk => ?_⟩
  unfold storL
  rw [hf]
  exact ha k hk

theorem Quiet.dur (hq : Quiet D g) : Dur D g := fun keep => by
  rw [DevS.kept_still hq.wait]
  exact reads_nolog hq.num hq.at_
theorem Quiet.now (hq : Quiet D g) {k : Nat} (hk : k < D.n - 300) : D.now (300 + k) = g k := by
  rw [DevS.now_still hq.wait]; exact hq.at_ k hk

/-! ### rows of writes -/
/-- What a row of writes does to a device, whatever happens; P: what holds behind j of them. -/
theorem writeL_ind {ws : List (Int × Bytes)} (P : Nat → DevS → Prop) (h0 : P 0 D) (hcore : ∀ j D D', P j D → D'.n = D.n → D'.last = D.last → D'.wait = D.wait → P j D')
    (hstep : ∀ j x D', ws[j]? = some x → P j D' → P (j + 1) (D'.put x.1.toNat x.2)) (hv : ∀ x ∈ ws, 0 ≤ x.1 ∧ x.1 < (D.n : Int) ∧ x.2.length = 64) :
    ∃ j, j ≤ ws.length ∧ P j (D.writeL ws).2 ∧ (D.writeL ws).2.n = D.n ∧ ((D.writeL ws).1 = 0 ∧ j = ws.length ∨ (D.writeL ws).1 = 50 ∧ (D.writeL ws).2.dead = true) := by
  induction ws generalizing D P with
  | nil => exact ⟨0, Nat.le_refl _, h0, rfl, .inl ⟨rfl, rfl⟩⟩
  | cons x ws ih =>
    obtain ⟨v1, v2, v3⟩ := hv x (by simp)
    have e : D.writeL (x :: ws) = seqD (D.write x.1 x.2) fun D' => D'.writeL ws := rfl
    by_cases hd : D.dead = true
    · have hw : D.write x.1 x.2 = (50, D) := by simp [DevS.write, DevS.wrong, hd]
      rw [e, hw, seqD_fail (show (50 : Int) ≠ 0 by decide)]
      exact ⟨0, Nat.zero_le _, h0, rfl, .inr ⟨rfl, hd⟩⟩
    · simp only [Bool.not_eq_true] at hd
      have hwr : D.wrong x.1 = 0 := by simp [DevS.wrong, hd]; omega
      by_cases hf : D.fuse = 0
      · have hw : D.write x.1 x.2 = (50, D.killed) := by simp [DevS.write, hwr, v3, hf]
        rw [e, hw, seqD_fail (show (50 : Int) ≠ 0 by decide)]
        exact ⟨0, Nat.zero_le _, hcore _ _ _ h0 rfl rfl rfl, rfl, .inr ⟨rfl, rfl⟩⟩
      · have hw : D.write x.1 x.2 = (0, D.burned.put x.1.toNat x.2) := by simp [DevS.write, hwr, v3, hf]
        rw [e, hw, seqD_zero]
        obtain ⟨j, hj, hP, hn, hr⟩ := ih (D := D.burned.put x.1.toNat x.2) (fun j D => P (j + 1) D) (hstep 0 x _ rfl (hcore _ _ _ h0 rfl rfl rfl)) (fun j D D' => hcore (j + 1) D D') (fun j y D' hy hP => hstep (j + 1) y D' (by simpa using hy) hP) (fun y hy => hv y (by simp [hy]))
        exact ⟨j + 1, by simpa using hj, hP, hn, hr.imp (fun h => ⟨h.1, by rw [h.2]; rfl⟩) id⟩

theorem write_cases {i : Int} {b : Bytes} (h0 : 0 ≤ i) (hi : i < (D.n : Int)) (hb : b.length = 64) : (D.write i b).2.n = D.n ∧
    (((D.write i b).1 = 0 ∧ ∃ D0 : DevS, D0.n = D.n ∧ D0.last = D.last ∧ D0.wait = D.wait ∧ (D.write i b).2 = D0.put i.toNat b) ∨ ((D.write i b).1 = 50 ∧ (D.write i b).2.dead = true ∧ (D.write i b).2.last = D.last ∧ (D.write i b).2.wait = D.wait)) := by
  by_cases hd : D.dead = true
  · have hw : D.write i b = (50, D) := by simp [DevS.write, DevS.wrong, hd]
    rw [hw]
    exact ⟨rfl, .inr ⟨rfl, hd, rfl, rfl⟩⟩
  · simp only [Bool.not_eq_true] at hd
    have hwr : D.wrong i = 0 := by simp [DevS.wrong, hd]; omega
    by_cases hf : D.fuse = 0
    · have hw : D.write i b = (50, D.killed) := by simp [DevS.write, hwr, hb, hf]
      rw [hw]
      exact ⟨rfl, .inr ⟨rfl, rfl, rfl, rfl⟩⟩
    · have hw : D.write i b = (0, D.burned.put i.toNat b) := by simp [DevS.write, hwr, hb, hf]
      rw [hw]
      exact ⟨rfl, .inl ⟨rfl, D.burned, rfl, rfl, rfl, rfl⟩⟩

theorem flush_cases : D.flush.2.n = D.n ∧ ((D.flush.1 = 0 ∧ D.flush.2.last = D.now ∧ ∀ k, D.flush.2.wait k = none) ∨ (D.flush.1 = 50 ∧ D.flush.2.dead = true ∧ D.flush.2.last = D.last ∧ D.flush.2.wait = D.wait)) := by
  unfold DevS.flush
  by_cases hd : D.dead = true
  · rw [if_pos hd]
    exact ⟨rfl, .inr ⟨rfl, hd, rfl, rfl⟩⟩
  · rw [if_neg hd]
    by_cases hf : D.fuse = 0
    · rw [if_pos hf]
      exact ⟨rfl, .inr ⟨rfl, rfl, rfl, rfl⟩⟩
    · rw [if_neg hf]
      exact ⟨rfl, .inl ⟨rfl, rfl, fun _ => rfl⟩⟩

/-! ### the way home -/
theorem mem_homeL {n : Nat} {x : Int × Bytes} (hx : x ∈ homeL f n) : ∃ k, k < n ∧ x.1 = 300 + (k : Int) ∧ f k = some x.2 := by
  unfold homeL at hx
  obtain ⟨k, hk, rfl⟩ := List.mem_map.1 hx
  obtain ⟨h1, h2⟩ := (by simpa [keysF] using hk : k < n ∧ (f k).isSome = true)
  obtain ⟨b, hb⟩ := Option.isSome_iff_exists.1 h2
  exact ⟨k, h1, rfl, by simp [hb]⟩

theorem homeL_key {n j k : Nat} (hk : (keysF f n)[j]? = some k) : ∃ b, f k = some b ∧ (homeL f n)[j]? = some (300 + (k : Int), b) := by
  have hm := List.mem_of_getElem? hk
  obtain ⟨h1, h2⟩ := (by simpa [keysF] using hm : k < n ∧ (f k).isSome = true)
  obtain ⟨b, hb⟩ := Option.isSome_iff_exists.1 h2
  exact ⟨b, hb, by simp [homeL, hk, hb]⟩

/-- Behind j of the writes home: what waits is f's, and the first j wait. -/
structure HomeP (D0 : DevS) (f : Nat → Option Bytes) (j : Nat) (D : DevS) : Prop where
  n : D.n = D0.n
  last : D.last = D0.last
  wait : ∀ i b, D.wait i = some b → ∃ k, i = 300 + k ∧ f k = some b
  there : ∀ i k, i < j → (keysF f (D0.n - 300))[i]? = some k → D.wait (300 + k) = f k

theorem home_writes (hn : 300 < D.n) (hw : ∀ k, D.wait k = none) (hf : ∀ k b, f k = some b → b.length = 64 ∧ k < D.n - 300) :
    ∃ j, HomeP D f j (D.writeL (homeL f (D.n - 300))).2 ∧ ((D.writeL (homeL f (D.n - 300))).1 = 0 ∧ j = (homeL f (D.n - 300)).length ∨ (D.writeL (homeL f (D.n - 300))).1 = 50 ∧ (D.writeL (homeL f (D.n - 300))).2.dead = true) := by
  have key := writeL_ind (D := D) (ws := homeL f (D.n - 300)) (fun j D' => HomeP D f j D') ⟨rfl, rfl, fun i b h => (by rw [hw i] at h; cases h), fun i k h => (by omega)⟩
    (fun j D1 D2 h h1 h2 h3 => ⟨h1.trans h.n, h2.trans h.last, by rw [h3]; exact h.wait, by rw [h3]; exact h.there⟩)
    (by
      intro j x D' hx h
      have hjl : j < (keysF f (D.n - 300)).length := by
        have := (List.getElem?_eq_some_iff.1 hx).1
        simpa [homeL] using this
      obtain ⟨k, hk⟩ : ∃ k, (keysF f (D.n - 300))[j]? = some k := ⟨_, List.getElem?_eq_getElem hjl⟩
      obtain ⟨b, hb, hx'⟩ := homeL_key hk
      obtain rfl : x = (300 + (k : Int), b) := Option.some.inj (hx.symm.trans hx')
      have e3 : (300 + (k : Int)).toNat = 300 + k := by omega
      refine ⟨h.n, h.last, fun i b' h' => ?_, fun i k' hi hk' => ?_⟩
      · simp only [DevS.put, e3] at h'
        by_cases e : i = 300 + k
        · subst e
          rw [upd_same] at h'
          cases h'
          exact ⟨k, rfl, hb⟩
        · rw [upd_other _ e] at h'
          exact h.wait i b' h'
      · simp only [DevS.put, e3]
        by_cases e : k' = k
        · subst e
          rw [upd_same, hb]
        · rw [upd_other _ (by omega)]
          refine h.there i k' ?_ hk'
          have : i ≠ j := fun e2 => e (by subst e2; exact Option.some.inj (hk'.symm.trans hk))
          omega)
    (by
      intro x hx
      obtain ⟨k, h1, h2, h3⟩ := mem_homeL hx
      exact ⟨by omega, by omega, (hf k _ h3).1⟩)
  obtain ⟨j, hj, hP, hn', hr⟩ := key
  exact ⟨j, hP, hr⟩

/-- While sectors are on their way home, the log says what it said. -/
theorem HomeP.reads {D0 : DevS} {j : Nat} (h : HomeP D0 f j D) (hlog : logFL D0.last (D0.n - 300) (numL D0.last) = f) (hne : f ≠ fun _ => none) : Dur D (over f fun k => D0.last (300 + k)) := by
  intro keep
  have hlow : ∀ i, i < 300 → D.kept keep i = D0.last i := by
    intro i hi
    have hwi : D.wait i = none := by
      cases e : D.wait i with
      | none => rfl
      | some b =>
        obtain ⟨k, hk, _⟩ := h.wait i b e
        omega
    simp [DevS.kept, DevS.now, hwi, h.last]
  have h1 : numL (D.kept keep) = numL D0.last := numL_congr (hlow 0 (by omega))
  have h2 : logFL (D.kept keep) (D.n - 300) (numL (D.kept keep)) = f := by
    rw [h1, h.n, ← hlog]
    exact logFL_congr (fun i _ hi => hlow i hi) _ (numL_le _)
  refine reads_log h2 hne fun k hk => ?_
  unfold over
  cases hfk : f k with
  | some b => rfl
  | none =>
    have hwi : D.wait (300 + k) = none := by
      cases e : D.wait (300 + k) with
      | none => rfl
      | some b =>
        obtain ⟨k', hk', hb⟩ := h.wait _ b e
        obtain rfl : k = k' := by omega
        rw [hfk] at hb
        cases hb
    simp [DevS.kept, DevS.now, hwi, h.last]

/-- The way home: it goes well, and the store stands by itself; or it does not, and the store is what the log says. -/
theorem home_way (hn : 300 < D.n) (hw : ∀ k, D.wait k = none) (hlog : logFL D.last (D.n - 300) (numL D.last) = f) (hf : ∀ k b, f k = some b → b.length = 64 ∧ k < D.n - 300) (hne : f ≠ fun _ => none) :
    (D.home f (D.n - 300)).2.n = D.n ∧ ((D.home f (D.n - 300)).1 = 0 ∧ Quiet (D.home f (D.n - 300)).2 (over f fun k => D.last (300 + k)) ∨ (D.home f (D.n - 300)).1 = 50 ∧ (D.home f (D.n - 300)).2.dead = true ∧ Dur (D.home f (D.n - 300)).2 (over f fun k => D.last (300 + k))) := by
  obtain ⟨j, hP, hr⟩ := home_writes hn hw hf
  have hD := hP.reads hlog hne
  unfold DevS.home
  generalize hR : D.writeL (homeL f (D.n - 300)) = R at *
  rcases hr with ⟨hr, hj⟩ | ⟨hr, hdd⟩
  rotate_left
  · have hr' : R.1 ≠ 0 := by rw [hr]; decide
    rw [seqD_fail hr', seqD_fail hr', seqD_fail hr']
    exact ⟨hP.n, .inr ⟨hr, hdd, hD⟩⟩
  rw [seqD_ok hr]
  obtain ⟨n1, ⟨f1, f2, f3⟩ | ⟨f1, f2, f3, f4⟩⟩ := flush_cases (D := R.2)
  rotate_left
  · have hr' : R.2.flush.1 ≠ 0 := by rw [f1]; decide
    rw [seqD_fail hr', seqD_fail hr']
    exact ⟨n1.trans hP.n, .inr ⟨f1, f2, hD.core n1 f3 f4⟩⟩
  rw [seqD_ok f1]
  have hjl : (homeL f (D.n - 300)).length = (keysF f (D.n - 300)).length := by simp [homeL]
  have hnow : ∀ k, k < D.n - 300 → R.2.now (300 + k) = over f (fun k => D.last (300 + k)) k := by
    intro k hk
    unfold over DevS.now
    cases hfk : f k with
    | some b =>
      have hm : k ∈ keysF f (D.n - 300) := by simp [keysF, hk, hfk]
      obtain ⟨i, hi⟩ := List.mem_iff_getElem?.1 hm
      have hil := (List.getElem?_eq_some_iff.1 hi).1
      rw [hP.there i k (by omega) hi, hfk]
      rfl
    | none =>
      have hwi : R.2.wait (300 + k) = none := by
        cases e : R.2.wait (300 + k) with
        | none => rfl
        | some b =>
          obtain ⟨k', hk', hb⟩ := hP.wait _ b e
          obtain rfl : k = k' := by omega
          rw [hfk] at hb
          cases hb
      simp [hwi, hP.last]
  have hlow : ∀ i, i < 300 → R.2.now i = D.last i := by
    intro i hi
    have hwi : R.2.wait i = none := by
      cases e : R.2.wait i with
      | none => rfl
      | some b =>
        obtain ⟨k, hk, _⟩ := hP.wait i b e
        omega
    simp [DevS.now, hwi, hP.last]
  generalize hR2 : R.2.flush = R2 at *
  -- any kept row between the log and the store
  have hmid : ∀ L : Nat → Bytes, (∀ i, 1 ≤ i → i < 300 → L i = D.last i) → (∀ k, k < D.n - 300 → L (300 + k) = over f (fun k => D.last (300 + k)) k) → L 0 = D.last 0 → Reads L (D.n - 300) (over f fun k => D.last (300 + k)) := by
    intro L h1 h2 h3
    have e1 : numL L = numL D.last := numL_congr h3
    refine reads_log (f := f) (by rw [e1, ← hlog]; exact logFL_congr h1 _ (numL_le _)) hne fun k hk => ?_
    unfold over
    cases hfk : f k with
    | some b => rfl
    | none =>
      show L (300 + k) = D.last (300 + k)
      rw [h2 k hk]
      simp [over, hfk]
  obtain ⟨n2, hw2⟩ := write_cases (D := R2.2) (i := 0) (b := headB 0) (by omega) (by rw [n1, hP.n]; omega) (by simp)
  have hn2 : R2.2.n = D.n := n1.trans hP.n
  rcases hw2 with ⟨w1, D0, d1, d2, d3, d4⟩ | ⟨w1, w2, w3, w4⟩
  rotate_left
  · have hr' : (R2.2.write 0 (headB 0)).1 ≠ 0 := by rw [w1]; decide
    rw [seqD_fail hr']
    refine ⟨n2.trans hn2, .inr ⟨w1, w2, fun keep => ?_⟩⟩
    rw [DevS.kept_core w3 w4, n2, hn2, DevS.kept_still f3, f2]
    exact hmid _ (fun i _ hi => hlow i hi) hnow (hlow 0 (by omega))
  rw [seqD_ok w1]
  generalize hR3 : R2.2.write 0 (headB 0) = R3 at *
  have hn3 : R3.2.n = D.n := n2.trans hn2
  have hz : numL R3.2.now = 0 := by
    rw [d4]
    exact numL_head (K := 0) (by simp [DevS.now, DevS.put]) (by omega)
  have hk3 : ∀ i, i ≠ 0 → R3.2.now i = R.2.now i := by
    intro i hi
    rw [d4]
    simp [DevS.now, DevS.put, upd_other _ hi, d3, f3, d2, f2]
  have hl3 : R3.2.last = R.2.now := by rw [d4]; show D0.last = _; rw [d2, f2]
  have hdur : Dur R3.2 (over f fun k => D.last (300 + k)) := by
    intro keep
    rw [hn3]
    have hk : ∀ i, i ≠ 0 → R3.2.kept keep i = R.2.now i := by
      intro i hi
      unfold DevS.kept
      rw [hk3 i hi, hl3]
      split <;> rfl
    by_cases hk0 : keep 0 = true
    · refine reads_nolog ?_ fun k hkn => ?_
      · rw [← hz]
        exact numL_congr (by simp [DevS.kept, hk0])
      · rw [hk _ (by omega)]
        exact hnow k hkn
    · refine hmid _ (fun i h1 hi => by rw [hk i (by omega)]; exact hlow i hi) (fun k hkn => by rw [hk _ (by omega)]; exact hnow k hkn) ?_
      simp only [DevS.kept, hk0, hl3]
      exact hlow 0 (by omega)
  obtain ⟨n4, ⟨g1, g2, g3⟩ | ⟨g1, g2, g3, g4⟩⟩ := flush_cases (D := R3.2)
  rotate_left
  · exact ⟨n4.trans hn3, .inr ⟨g1, g2, hdur.core n4 g3 g4⟩⟩
  refine ⟨n4.trans hn3, .inl ⟨g1, g3, by rw [g2]; exact hz, fun k hk => ?_⟩⟩
  rw [n4, hn3] at hk
  rw [g2, hk3 _ (by omega)]
  exact hnow k hk

/-! ### the log -/
theorem logL_at {n i : Nat} {x : Int × Bytes} (hx : (logL f n)[i]? = some x) :
    (i < (keysF f n).length ∧ ∃ k, (keysF f n)[i]? = some k ∧ x = (17 + (i : Int), (f k).getD [])) ∨
    (∃ t, i = (keysF f n).length + t ∧ t < (4 * (keysF f n).length + 63) / 64 ∧ x = (1 + (t : Int), pieceB (numsB (keysF f n)) t)) := by
  unfold logL at hx
  by_cases h : i < (keysF f n).length
  · rw [List.getElem?_append_left (by simpa using h)] at hx
    obtain ⟨k, hk⟩ : ∃ k, (keysF f n)[i]? = some k := ⟨_, List.getElem?_eq_getElem h⟩
    rw [List.getElem?_map, List.getElem?_zipIdx, hk] at hx
    simp at hx
    exact .inl ⟨h, k, hk, hx.symm⟩
  · rw [List.getElem?_append_right (by simpa using h)] at hx
    simp only [List.length_map, List.length_zipIdx, List.getElem?_map] at hx
    by_cases ht : i - (keysF f n).length < (4 * (keysF f n).length + 63) / 64
    · rw [List.getElem?_range ht] at hx
      simp at hx
      exact .inr ⟨i - (keysF f n).length, by omega, ht, hx.symm⟩
    · rw [List.getElem?_eq_none (by simpa using ht)] at hx
      cases hx

theorem logL_dat {n i k : Nat} (hk : (keysF f n)[i]? = some k) : (logL f n)[i]? = some (17 + (i : Int), (f k).getD []) := by
  have h := (List.getElem?_eq_some_iff.1 hk).1
  unfold logL
  rw [List.getElem?_append_left (by simpa using h), List.getElem?_map, List.getElem?_zipIdx, hk]
  simp

theorem logL_idx {n t : Nat} (ht : t < (4 * (keysF f n).length + 63) / 64) : (logL f n)[(keysF f n).length + t]? = some (1 + (t : Int), pieceB (numsB (keysF f n)) t) := by
  unfold logL
  rw [List.getElem?_append_right (by simp)]
  simp [List.getElem?_range ht]

theorem logL_length (n : Nat) : (logL f n).length = (keysF f n).length + (4 * (keysF f n).length + 63) / 64 := by simp [logL]

/-- Behind j of the log's writes. -/
structure LogP (D0 : DevS) (f : Nat → Option Bytes) (j : Nat) (D : DevS) : Prop where
  n : D.n = D0.n
  last : D.last = D0.last
  wait : ∀ i b, D.wait i = some b → 1 ≤ i ∧ i < 300
  there : ∀ i x, i < j → (logL f (D0.n - 300))[i]? = some x → D.wait x.1.toNat = some x.2

theorem log_writes (hn : 300 < D.n) (hw : ∀ k, D.wait k = none) (hf : ∀ k b, f k = some b → b.length = 64 ∧ k < D.n - 300) (hK : (keysF f (D.n - 300)).length ≤ 256) :
    ∃ j, LogP D f j (D.writeL (logL f (D.n - 300))).2 ∧ ((D.writeL (logL f (D.n - 300))).1 = 0 ∧ j = (logL f (D.n - 300)).length ∨ (D.writeL (logL f (D.n - 300))).1 = 50 ∧ (D.writeL (logL f (D.n - 300))).2.dead = true) := by
  have key := writeL_ind (D := D) (ws := logL f (D.n - 300)) (fun j D' => LogP D f j D') ⟨rfl, rfl, fun i b h => (by rw [hw i] at h; cases h), fun i x h => (by omega)⟩
    (fun j D1 D2 h h1 h2 h3 => ⟨h1.trans h.n, h2.trans h.last, by rw [h3]; exact h.wait, by rw [h3]; exact h.there⟩)
    (by
      intro j x D' hx h
      have hr : 1 ≤ x.1.toNat ∧ x.1.toNat < 300 := by
        rcases logL_at hx with ⟨h1, k, hk, rfl⟩ | ⟨t, h1, h2, rfl⟩ <;> simp only <;> omega
      refine ⟨h.n, h.last, fun i b' h' => ?_, fun i y hi hy => ?_⟩
      · simp only [DevS.put] at h'
        by_cases e : i = x.1.toNat
        · omega
        · rw [upd_other _ e] at h'
          exact h.wait i b' h'
      · simp only [DevS.put]
        by_cases e : i = j
        · subst e
          obtain rfl : x = y := Option.some.inj (hx.symm.trans hy)
          rw [upd_same]
        · have hne : y.1.toNat ≠ x.1.toNat := by
            rcases logL_at hx with ⟨h1, k, hk, rfl⟩ | ⟨t, h1, h2, rfl⟩ <;> rcases logL_at hy with ⟨h3, k', hk', rfl⟩ | ⟨t', h3, h4, rfl⟩ <;> simp only <;> omega
          rw [upd_other _ hne]
          exact h.there i y (by omega) hy)
    (by
      intro x hx
      obtain ⟨i, hi⟩ := List.mem_iff_getElem?.1 hx
      rcases logL_at hi with ⟨h1, k, hk, rfl⟩ | ⟨t, h1, h2, rfl⟩
      · have hm := List.mem_of_getElem? hk
        obtain ⟨h3, h4⟩ := (by simpa [keysF] using hm : k < D.n - 300 ∧ (f k).isSome = true)
        obtain ⟨b, hb⟩ := Option.isSome_iff_exists.1 h4
        refine ⟨by simp only; omega, by simp only; omega, ?_⟩
        simp only [hb, Option.getD_some]
        exact (hf k b hb).1
      · refine ⟨by simp only; omega, by simp only; omega, ?_⟩
        simp only [pieceB, List.length_append, List.length_replicate, List.length_take, List.length_drop]
        omega)
  obtain ⟨j, hj, hP, hn', hr⟩ := key
  exact ⟨j, hP, hr⟩

theorem LogP.logged {D0 : DevS} (h : LogP D0 f (logL f (D0.n - 300)).length D) (hn : D.n - 300 = D0.n - 300) : Logged D.now f (D.n - 300) := by
  rw [hn]
  refine ⟨fun j k hk => ?_, fun i hi => ?_⟩
  · have hx := logL_dat hk
    have hl := (List.getElem?_eq_some_iff.1 hx).1
    have := h.there j _ hl hx
    unfold DevS.now
    rw [show (17 + (j : Int)).toNat = 17 + j from by omega] at this
    rw [this]
    rfl
  · have hx := logL_idx (f := f) hi
    have hl := (List.getElem?_eq_some_iff.1 hx).1
    have := h.there _ _ hl hx
    unfold DevS.now
    rw [show (1 + (i : Int)).toNat = 1 + i from by omega] at this
    rw [this]
    rfl

/-- The log: it is laid; or the store is the old one, or the new one. -/
theorem log_way (hn : 300 < D.n) (hn2 : D.n ≤ 8192) (hq : Quiet D c) (hf : ∀ k b, f k = some b → b.length = 64 ∧ k < D.n - 300) (hK0 : 0 < (keysF f (D.n - 300)).length) (hK : (keysF f (D.n - 300)).length ≤ 256) :
    (D.log f (D.n - 300)).2.n = D.n ∧
    ((D.log f (D.n - 300)).1 = 0 ∧ (∀ k, (D.log f (D.n - 300)).2.wait k = none) ∧ logFL (D.log f (D.n - 300)).2.last (D.n - 300) (numL (D.log f (D.n - 300)).2.last) = f ∧ (∀ k, k < D.n - 300 → (D.log f (D.n - 300)).2.last (300 + k) = c k) ∨
     (D.log f (D.n - 300)).1 = 50 ∧ (D.log f (D.n - 300)).2.dead = true ∧ Dur2 (D.log f (D.n - 300)).2 c (over f c)) := by
  have hfs : ∀ k, (f k).isSome = true → k < D.n - 300 := fun k hk => by
    obtain ⟨b, hb⟩ := Option.isSome_iff_exists.1 hk
    exact (hf k b hb).2
  have hne : f ≠ fun _ => none := by
    rintro rfl
    simp [keysF] at hK0
  obtain ⟨j, hP, hr⟩ := log_writes hn hq.wait hf hK
  unfold DevS.log
  generalize hR : D.writeL (logL f (D.n - 300)) = R at *
  -- while the log is written
  have hold : ∀ D' : DevS, D'.n = D.n → (∀ i, i = 0 ∨ 300 ≤ i → ∀ keep, D'.kept keep i = D.last i) → Dur D' c := by
    intro D' h1 h2 keep
    rw [h1]
    refine reads_nolog ?_ fun k hk => ?_
    · rw [← hq.num]
      exact numL_congr (h2 0 (.inl rfl) keep)
    · rw [h2 _ (.inr (by omega)) keep]
      exact hq.at_ k hk
  have hside : ∀ i, i = 0 ∨ 300 ≤ i → R.2.now i = D.last i := by
    intro i hi
    have hwi : R.2.wait i = none := by
      cases e : R.2.wait i with
      | none => rfl
      | some b => have := hP.wait i b e; omega
    simp [DevS.now, hwi, hP.last]
  have hD : Dur R.2 c := hold R.2 hP.n fun i hi keep => by
    unfold DevS.kept
    rw [hside i hi, hP.last]
    split <;> rfl
  rcases hr with ⟨hr, hj⟩ | ⟨hr, hdd⟩
  rotate_left
  · have hr' : R.1 ≠ 0 := by rw [hr]; decide
    rw [seqD_fail hr', seqD_fail hr', seqD_fail hr']
    exact ⟨hP.n, .inr ⟨hr, hdd, hD.left⟩⟩
  rw [seqD_ok hr]
  have hlogged := (hj ▸ hP : LogP D f (logL f (D.n - 300)).length R.2).logged (by rw [hP.n])
  rw [hP.n] at hlogged
  obtain ⟨n1, ⟨f1, f2, f3⟩ | ⟨f1, f2, f3, f4⟩⟩ := flush_cases (D := R.2)
  rotate_left
  · have hr' : R.2.flush.1 ≠ 0 := by rw [f1]; decide
    rw [seqD_fail hr', seqD_fail hr']
    exact ⟨n1.trans hP.n, .inr ⟨f1, f2, (hD.core n1 f3 f4).left⟩⟩
  rw [seqD_ok f1]
  generalize hR2 : R.2.flush = R2 at *
  have hn2' : R2.2.n = D.n := n1.trans hP.n
  obtain ⟨n2, hw2⟩ := write_cases (D := R2.2) (i := 0) (b := headB ((keysF f (D.n - 300)).length : Int)) (by omega) (by rw [hn2']; omega) (by simp)
  rcases hw2 with ⟨w1, D0, d1, d2, d3, d4⟩ | ⟨w1, w2, w3, w4⟩
  rotate_left
  · have hr' : (R2.2.write 0 (headB ((keysF f (D.n - 300)).length : Int))).1 ≠ 0 := by rw [w1]; decide
    rw [seqD_fail hr']
    refine ⟨n2.trans hn2', .inr ⟨w1, w2, ((hold R2.2 hn2' fun i hi keep => ?_).core n2 w3 w4).left⟩⟩
    rw [DevS.kept_still f3, f2]
    exact hside i hi
  rw [seqD_ok w1]
  generalize hR3 : R2.2.write 0 (headB ((keysF f (D.n - 300)).length : Int)) = R3 at *
  have hn3 : R3.2.n = D.n := n2.trans hn2'
  have hk3 : ∀ i, i ≠ 0 → R3.2.now i = R.2.now i := by
    intro i hi
    rw [d4]
    simp [DevS.now, DevS.put, upd_other _ hi, d3, f3, d2, f2]
  have hl3 : R3.2.last = R.2.now := by rw [d4]; show D0.last = _; rw [d2, f2]
  have hz : numL R3.2.now = (keysF f (D.n - 300)).length := by
    rw [d4]
    exact numL_head (by simp [DevS.now, DevS.put]) hK
  have hnew : ∀ L : Nat → Bytes, L 0 = R3.2.now 0 → (∀ i, i ≠ 0 → L i = R.2.now i) → logFL L (D.n - 300) (numL L) = f := by
    intro L h0 h1
    have e0 : numL L = (keysF f (D.n - 300)).length := (numL_congr h0).trans hz
    have e1 : Logged L f (D.n - 300) := ⟨fun j k hk => (h1 _ (by omega)).trans (hlogged.dat j k hk), fun i hi => (h1 _ (by omega)).trans (hlogged.idx i hi)⟩
    rw [e0]
    exact e1.says (by omega) hfs
  have hdur : Dur2 R3.2 c (over f c) := by
    intro keep
    rw [hn3]
    have hk : ∀ i, i ≠ 0 → R3.2.kept keep i = R.2.now i := by
      intro i hi
      unfold DevS.kept
      rw [hk3 i hi, hl3]
      split <;> rfl
    by_cases hk0 : keep 0 = true
    · refine .inr (reads_log (hnew _ (by simp [DevS.kept, hk0]) hk) hne fun k hkn => ?_)
      unfold over
      simp only [hk (300 + k) (by omega), hside (300 + k) (.inr (by omega)), hq.at_ k hkn]
    · refine .inl (reads_nolog ?_ fun k hkn => ?_)
      · rw [← hq.num]
        refine numL_congr ?_
        simp only [DevS.kept, hk0, hl3]
        exact hside 0 (.inl rfl)
      · rw [hk _ (by omega), hside _ (.inr (by omega))]
        exact hq.at_ k hkn
  obtain ⟨n4, ⟨g1, g2, g3⟩ | ⟨g1, g2, g3, g4⟩⟩ := flush_cases (D := R3.2)
  rotate_left
  · exact ⟨n4.trans hn3, .inr ⟨g1, g2, hdur.core n4 g3 g4⟩⟩
  refine ⟨n4.trans hn3, .inl ⟨g1, g3, ?_, fun k hk => ?_⟩⟩
  · rw [g2]
    exact hnew _ rfl hk3
  · rw [g2, hk3 _ (by omega), hside _ (.inr (by omega))]
    exact hq.at_ k hk

/-! ### a device that goes well -/
structure Well (D : DevS) : Prop where
  dead : D.dead = false
  fuse : D.fuse = -1

theorem Well.write (h : Well D) {i : Int} {b : Bytes} (h0 : 0 ≤ i) (hi : i < (D.n : Int)) (hb : b.length = 64) : (D.write i b).1 = 0 ∧ Well (D.write i b).2 ∧ (D.write i b).2.n = D.n := by
  have hwr : D.wrong i = 0 := by simp [DevS.wrong, h.dead]; omega
  have hw : D.write i b = (0, D.burned.put i.toNat b) := by simp [DevS.write, hwr, hb, h.fuse]
  rw [hw]
  exact ⟨rfl, ⟨h.dead, by show max (D.fuse - 1) (-1) = -1; rw [h.fuse]; rfl⟩, rfl⟩
theorem Well.flush (h : Well D) : D.flush.1 = 0 ∧ Well D.flush.2 ∧ D.flush.2.n = D.n := by
  have hw : D.flush = (0, D.burned.flushed) := by simp [DevS.flush, h.dead, h.fuse]
  rw [hw]
  exact ⟨rfl, ⟨h.dead, by show max (D.fuse - 1) (-1) = -1; rw [h.fuse]; rfl⟩, rfl⟩
theorem Well.writeL (h : Well D) {ws : List (Int × Bytes)} (hv : ∀ x ∈ ws, 0 ≤ x.1 ∧ x.1 < (D.n : Int) ∧ x.2.length = 64) : (D.writeL ws).1 = 0 ∧ Well (D.writeL ws).2 ∧ (D.writeL ws).2.n = D.n := by
  induction ws generalizing D with
  | nil => exact ⟨rfl, h, rfl⟩
  | cons x ws ih =>
    obtain ⟨v1, v2, v3⟩ := hv x (by simp)
    obtain ⟨h1, h2, h3⟩ := h.write v1 v2 v3
    have e : D.writeL (x :: ws) = seqD (D.write x.1 x.2) fun D' => D'.writeL ws := rfl
    rw [e, seqD_ok h1]
    obtain ⟨i1, i2, i3⟩ := ih h2 (fun y hy => by rw [h3]; exact hv y (by simp [hy]))
    exact ⟨i1, i2, i3.trans h3⟩
theorem Well.tail {r : Int × DevS} (hr : r.1 = 0) (hw : Well r.2) (hn : r.2.n = D.n) (h300 : 300 < D.n) (n : Int) :
    (seqD (seqD (seqD r DevS.flush) fun D => D.write 0 (headB n)) DevS.flush).1 = 0 ∧ Well (seqD (seqD (seqD r DevS.flush) fun D => D.write 0 (headB n)) DevS.flush).2 := by
  obtain ⟨f1, f2, f3⟩ := hw.flush
  rw [seqD_ok hr, seqD_ok f1]
  obtain ⟨w1, w2, w3⟩ := f2.write (i := 0) (b := headB n) (by omega) (by omega) (by simp)
  rw [seqD_ok w1]
  obtain ⟨g1, g2, g3⟩ := w2.flush
  exact ⟨g1, g2⟩
theorem Well.home (h : Well D) (hn : 300 < D.n) (hf : ∀ k b, f k = some b → b.length = 64 ∧ k < D.n - 300) : (D.home f (D.n - 300)).1 = 0 ∧ Well (D.home f (D.n - 300)).2 := by
  obtain ⟨h1, h2, h3⟩ := h.writeL (ws := homeL f (D.n - 300)) (fun x hx => by
    obtain ⟨k, h1, h2, h3⟩ := mem_homeL hx
    exact ⟨by omega, by omega, (hf k _ h3).1⟩)
  exact Well.tail h1 h2 h3 hn 0
theorem Well.log (h : Well D) (hn : 300 < D.n) (hf : ∀ k b, f k = some b → b.length = 64 ∧ k < D.n - 300) (hK : (keysF f (D.n - 300)).length ≤ 256) : (D.log f (D.n - 300)).1 = 0 ∧ Well (D.log f (D.n - 300)).2 := by
  obtain ⟨h1, h2, h3⟩ := h.writeL (ws := logL f (D.n - 300)) (fun x hx => by
    obtain ⟨i, hi⟩ := List.mem_iff_getElem?.1 hx
    rcases logL_at hi with ⟨h1, k, hk, rfl⟩ | ⟨t, h1, h2, rfl⟩
    · have hm := List.mem_of_getElem? hk
      obtain ⟨h3, h4⟩ := (by simpa [keysF] using hm : k < D.n - 300 ∧ (f k).isSome = true)
      obtain ⟨b, hb⟩ := Option.isSome_iff_exists.1 h4
      refine ⟨by simp only; omega, by simp only; omega, ?_⟩
      simp only [hb, Option.getD_some]
      exact (hf k b hb).1
    · refine ⟨by simp only; omega, by simp only; omega, ?_⟩
      simp only [pieceB, List.length_append, List.length_replicate, List.length_take, List.length_drop]
      omega)
  exact Well.tail h1 h2 h3 hn _
end
end Go.Lz
/-
  The plain store: opened, synced, committed.
-/
namespace Go.Lz
open Go.RowKit

/-- The device that an opening leaves, and the error. -/
def DevS.opened (D : DevS) : Int × DevS :=
  if D.n ≤ 300 then (1, D) else if D.dead = true then (50, D) else
  if keysF (logFL D.now (D.n - 300) (numL D.now)) (D.n - 300) = [] then (0, D.countedN (1 + 2 * numL D.now)) else (D.countedN (1 + 2 * numL D.now)).home (logFL D.now (D.n - 300) (numL D.now)) (D.n - 300)
def WalS.new (D : DevS) : WalS := ⟨D, fun _ => none, fun _ => none, 0, 0, false⟩

namespace WalS
def synced (S : WalS) (r : Int × DevS) : Int × WalS := if r.1 = 0 then (0, { S with dev := r.2, wait := fun _ => none, lasting := S.all }) else (r.1, { S with dev := r.2, dead := true })
def sync (S : WalS) : Int × WalS :=
  if S.isDead = true then (50, { S with dead := true }) else
  if S.waitN = 0 then (0, { S with wait := fun _ => none, lasting := S.all }) else
  S.synced (seqD (S.dev.log S.wait S.size) fun D => D.home S.wait S.size)
def both (S : WalS) (k : Nat) : Option Bytes := (S.now k).or (S.wait k)
def done (S : WalS) : WalS := { S with wait := S.both, now := fun _ => none, all := wrap64 (S.all + 1), lasting := if keysF S.both S.size = [] then wrap64 (S.all + 1) else S.lasting }
def commit (S : WalS) : Int × WalS :=
  if S.isDead = true then (50, S) else
  if 256 < S.waitN + S.nowN then (if S.sync.1 = 0 then (0, S.sync.2.done) else S.sync) else (0, S.done)
end WalS

theorem keysF_none (n : Nat) : keysF (fun _ => none) n = [] := by simp [keysF]
theorem waitN_none {S : WalS} (h : S.wait = fun _ => none) : S.waitN = 0 := by unfold WalS.waitN; rw [h, keysF_none]; rfl
theorem nowN_none {S : WalS} (h : S.now = fun _ => none) : S.nowN = 0 := by unfold WalS.nowN; rw [h, keysF_none]; rfl
theorem keysF_nil {f : Nat → Option Bytes} {n : Nat} (h : keysF f n = []) (hf : ∀ k, (f k).isSome = true → k < n) : f = fun _ => none := by
  funext k
  cases hk : f k with
  | none => rfl
  | some b =>
    have : k ∈ keysF f n := by simp [keysF, hf k (by rw [hk]; rfl), hk]
    rw [h] at this
    cases this

section
variable {D : DevS} {g g0 : Nat → Bytes} {S : WalS}

theorem Well.countedN (h : Well D) (k : Nat) : Well (D.countedN k) := ⟨by simpa using h.dead, by simpa using h.fuse⟩
theorem Well.crashed (flip : Bool) (l : List Int) : Well (D.crashed flip l) := ⟨rfl, rfl⟩
theorem Dur.crashed (h : Dur D g) (flip : Bool) (l : List Int) : Reads (D.crashed flip l).last ((D.crashed flip l).n - 300) g := h _
theorem Dur2.crashed {h' : Nat → Bytes} (h : Dur2 D g h') (flip : Bool) (l : List Int) : Reads (D.crashed flip l).last ((D.crashed flip l).n - 300) g ∨ Reads (D.crashed flip l).last ((D.crashed flip l).n - 300) h' := h _

theorem Reads.quiet (hw : ∀ k, D.wait k = none) (h : Reads D.last (D.n - 300) g) (hnone : logFL D.last (D.n - 300) (numL D.last) = fun _ => none) : Quiet D g := by
  refine ⟨hw, h.1 hnone, fun k hk => ?_⟩
  have := h.2 k hk
  unfold storL at this
  rw [hnone] at this
  exact this

/-- An opening: the store stands by itself; or power failed, and it is what it was. -/
theorem opened_way (hok : D.ok) (hn : 300 < D.n) (hd : D.dead = false) (hw : ∀ k, D.wait k = none) (h : Reads D.last (D.n - 300) g) :
    D.opened.2.n = D.n ∧ (D.opened.1 = 0 ∧ Quiet D.opened.2 g ∨ D.opened.1 = 50 ∧ D.opened.2.dead = true ∧ Dur D.opened.2 g) := by
  have hf : ∀ k b, logFL D.last (D.n - 300) (numL D.last) k = some b → b.length = 64 ∧ k < D.n - 300 := fun k b e => logFL_ok hok.last e
  unfold DevS.opened
  rw [if_neg (by omega), if_neg (by simp [hd]), DevS.now_still hw]
  by_cases hk : keysF (logFL D.last (D.n - 300) (numL D.last)) (D.n - 300) = []
  · rw [if_pos hk]
    have hnone := keysF_nil hk (fun k e => by
      obtain ⟨b, hb⟩ := Option.isSome_iff_exists.1 e
      exact (hf k b hb).2)
    exact ⟨by simp, .inl ⟨rfl, (Reads.quiet hw h hnone).core (by simp) (by simp) (by simp)⟩⟩
  · rw [if_neg hk]
    have hne : logFL D.last (D.n - 300) (numL D.last) ≠ fun _ => none := by
      intro e
      rw [e] at hk
      simp [keysF] at hk
    obtain ⟨q, hq⟩ : ∃ q, q = 1 + 2 * numL D.last := ⟨_, rfl⟩
    rw [← hq]
    have hh := home_way (D := D.countedN q) (f := logFL D.last (D.n - 300) (numL D.last)) (by rw [DevS.countedN_n]; exact hn) (by rw [DevS.countedN_wait]; exact hw) (by rw [DevS.countedN_n, DevS.countedN_last]) (by rw [DevS.countedN_n]; exact hf) hne
    rw [DevS.countedN_n, DevS.countedN_last] at hh
    have hg : ∀ k, k < D.n - 300 → over (logFL D.last (D.n - 300) (numL D.last)) (fun k => D.last (300 + k)) k = g k := fun k hk => h.2 k hk
    generalize (D.countedN q).home (logFL D.last (D.n - 300) (numL D.last)) (D.n - 300) = H at hh ⊢
    obtain ⟨h1, ⟨h2, h3⟩ | ⟨h2, h3, h4⟩⟩ := hh
    · exact ⟨h1, .inl ⟨h2, h3.wait, h3.num, fun k hk => (h3.at_ k hk).trans (hg k (by rw [h1] at hk; exact hk))⟩⟩
    · refine ⟨h1, .inr ⟨h2, h3, fun keep => ⟨(h4 keep).1, fun k hk => ((h4 keep).2 k hk).trans (hg k (by rw [h1] at hk; exact hk))⟩⟩⟩

theorem Well.opened (h : Well D) (hok : D.ok) (hn : 300 < D.n) : D.opened.1 = 0 ∧ Well D.opened.2 := by
  unfold DevS.opened
  rw [if_neg (by omega), if_neg (by simp [h.dead])]
  split
  · exact ⟨rfl, h.countedN _⟩
  · have := (h.countedN (1 + 2 * numL D.now)).home (f := logFL D.now (D.n - 300) (numL D.now)) (by simpa using hn) (fun k b e => by simpa using logFL_ok (fun k => hok.now k) e)
    simpa using this

/-- A store that lives; g0: what lasts. -/
structure Live (S : WalS) (g0 : Nat → Bytes) : Prop where
  ok : S.ok
  dok : S.dev.ok
  dead : S.dead = false
  ddead : S.dev.dead = false
  quiet : Quiet S.dev g0
  waitN : S.waitN ≤ 256
  nowN : S.nowN ≤ 128

theorem Live.isDead (h : Live S g0) : S.isDead = false := by simp [WalS.isDead, h.dead, h.ddead]

theorem WalS.ok_dev {D : DevS} (h : S.ok) (hn : D.n = S.dev.n) : ({ S with dev := D } : WalS).ok := by
  have hs : ({ S with dev := D } : WalS).size = S.size := congrArg (fun n => n - 300) hn
  exact ⟨Nat.lt_of_lt_of_le h.n (Nat.le_of_eq hn.symm), fun k b e => by rw [hs]; exact h.now k b e, fun k b e => by rw [hs]; exact h.wait k b e⟩

theorem seqD_n {r : Int × DevS} {k : DevS → Int × DevS} {n : Nat} (h : r.2.n = n) (hk : ∀ D, D.n = n → (k D).2.n = n) : (seqD r k).2.n = n := by
  unfold seqD
  split
  · exact hk _ h
  · exact h

theorem Live.opened (hok : D.opened.2.ok) (hn : 300 < D.opened.2.n) (hd : D.opened.2.dead = false) (hq : Quiet D.opened.2 g) : Live (WalS.new D.opened.2) g :=
  ⟨⟨hn, fun _ _ h => (by cases h), fun _ _ h => (by cases h)⟩, hok, rfl, hd, hq, by rw [waitN_none rfl]; omega, by rw [nowN_none rfl]; omega⟩

end

/-! ### the device stays well formed -/
section
variable {D : DevS} {f : Nat → Option Bytes}
theorem DevS.ok.write (h : D.ok) (i : Int) (b : Bytes) : (D.write i b).2.ok := by
  unfold DevS.write
  split
  · exact h
  · split
    · exact h
    · split
      · exact h.killed
      · rename_i h1 h2 h3
        simp only [ne_eq, Decidable.not_not] at h1 h2
        unfold DevS.wrong at h1
        split at h1
        · cases h1
        · split at h1
          · cases h1
          · exact h.burned.put (by show i.toNat < D.n; omega) h2
theorem DevS.ok.flush (h : D.ok) : D.flush.2.ok := by
  unfold DevS.flush
  split
  · exact h
  · split
    · exact h.killed
    · exact h.burned.flushed
theorem DevS.ok.seq {r : Int × DevS} {k : DevS → Int × DevS} (h : r.2.ok) (hk : ∀ D : DevS, D.ok → (k D).2.ok) : (seqD r k).2.ok := by
  unfold seqD
  split
  · exact hk _ h
  · exact h
theorem DevS.ok.writeL (h : D.ok) (ws : List (Int × Bytes)) : (D.writeL ws).2.ok := by
  induction ws generalizing D with
  | nil => exact h
  | cons x ws ih => exact DevS.ok.seq (h.write _ _) fun _ hD => ih hD
theorem DevS.ok.home (h : D.ok) (n : Nat) : (D.home f n).2.ok := DevS.ok.seq (DevS.ok.seq (DevS.ok.seq (h.writeL _) fun _ hD => hD.flush) fun _ hD => hD.write _ _) fun _ hD => hD.flush
theorem DevS.ok.log (h : D.ok) (n : Nat) : (D.log f n).2.ok := DevS.ok.seq (DevS.ok.seq (DevS.ok.seq (h.writeL _) fun _ hD => hD.flush) fun _ hD => hD.write _ _) fun _ hD => hD.flush
theorem DevS.ok.countedN (h : D.ok) (k : Nat) : (D.countedN k).ok := by
  induction k with
  | zero => exact h
  | succ k ih => exact ih.counted
theorem DevS.ok.opened (h : D.ok) : D.opened.2.ok := by
  unfold DevS.opened
  split
  · exact h
  · split
    · exact h
    · split
      · exact h.countedN _
      · exact (h.countedN _).home _

/-- A call of the device that goes well leaves it alive. -/
theorem flush_alive (h : D.flush.1 = 0) : D.flush.2.dead = false := by
  unfold DevS.flush at h ⊢
  split
  · rename_i h1; rw [if_pos h1] at h; cases h
  · rename_i h1
    rw [if_neg h1] at h
    split
    · rename_i h2; rw [if_pos h2] at h; cases h
    · show D.dead = false
      simpa using h1
theorem seqD_flush_alive {r : Int × DevS} (h : (seqD r DevS.flush).1 = 0) : (seqD r DevS.flush).2.dead = false := by
  by_cases hr : r.1 = 0
  · rw [seqD_ok hr] at h ⊢
    exact flush_alive h
  · rw [seqD_fail hr] at h
    exact absurd h hr
theorem home_alive {n : Nat} (h : (D.home f n).1 = 0) : (D.home f n).2.dead = false := seqD_flush_alive h
theorem log_alive {n : Nat} (h : (D.log f n).1 = 0) : (D.log f n).2.dead = false := seqD_flush_alive h
theorem opened_alive (h : D.opened.1 = 0) : D.opened.2.dead = false := by
  unfold DevS.opened at h ⊢
  split
  · rename_i h1; rw [if_pos h1] at h; cases h
  · rename_i h1
    rw [if_neg h1] at h
    split
    · rename_i h2; rw [if_pos h2] at h; cases h
    · rename_i h2
      rw [if_neg h2] at h
      split
      · simpa using h2
      · rename_i h3
        rw [if_neg h3] at h
        exact home_alive h
end

/-! ### Sync and Commit -/
section
variable {g0 : Nat → Bytes} {S : WalS}

/-- Sync: all that was committed lasts; or power failed, and what lasts is the old or the new. -/
theorem Live.sync (h : Live S g0) :
    (S.sync.1 = 0 ∧ Live S.sync.2 (over S.wait g0) ∧ S.sync.2.now = S.now ∧ (∀ k, S.sync.2.wait k = none) ∧ S.sync.2.all = S.all ∧ S.sync.2.lasting = S.all ∧ S.sync.2.dev.n = S.dev.n ∧ (Well S.dev → Well S.sync.2.dev)) ∨
    (S.sync.1 = 50 ∧ S.sync.2.dead = true ∧ S.sync.2.dev.dead = true ∧ S.sync.2.dev.n = S.dev.n ∧ Dur2 S.sync.2.dev g0 (over S.wait g0) ∧ S.sync.2.ok ∧ S.sync.2.dev.ok ∧ S.sync.2.all = S.all ∧ S.sync.2.lasting = S.lasting ∧ ¬ Well S.dev) := by
  unfold WalS.sync
  rw [if_neg (by simp [h.isDead])]
  have hn := h.ok.n
  have hn2 := h.dok.n
  have hf : ∀ k b, S.wait k = some b → b.length = 64 ∧ k < S.dev.n - 300 := h.ok.wait
  by_cases h0 : S.waitN = 0
  · rw [if_pos h0]
    have hnone : S.wait = fun _ => none := keysF_nil (List.length_eq_zero_iff.1 h0) h.ok.waitB
    have hov : over S.wait g0 = g0 := by funext k; simp [over, hnone]
    refine .inl ⟨rfl, ?_, rfl, fun _ => rfl, rfl, rfl, rfl, id⟩
    rw [hov]
    exact ⟨⟨hn, h.ok.now, fun _ _ e => (by cases e)⟩, h.dok, h.dead, h.ddead, h.quiet, by rw [waitN_none rfl]; omega, h.nowN⟩
  · rw [if_neg h0]
    have hK0 : 0 < (keysF S.wait (S.dev.n - 300)).length := Nat.pos_of_ne_zero h0
    have hK : (keysF S.wait (S.dev.n - 300)).length ≤ 256 := h.waitN
    have hne : S.wait ≠ fun _ => none := by
      intro e
      rw [e] at hK0
      simp [keysF] at hK0
    have hlw : Well S.dev → (S.dev.log S.wait (S.dev.n - 300)).1 = 0 ∧ Well (S.dev.log S.wait (S.dev.n - 300)).2 := fun hw => hw.log hn hf hK
    have ho := h.dok.log (f := S.wait) (S.dev.n - 300)
    have hal := log_alive (D := S.dev) (f := S.wait) (n := S.dev.n - 300)
    have hlx := log_way hn hn2 h.quiet hf hK0 hK
    have hsz : S.size = S.dev.n - 300 := rfl
    rw [hsz]
    generalize hL : S.dev.log S.wait (S.dev.n - 300) = L at ho hal hlx hlw ⊢
    obtain ⟨ln, ⟨l1, l2, l3, l4⟩ | ⟨l1, l2, l3⟩⟩ := hlx
    rotate_left
    · have hl1 : L.1 ≠ 0 := by rw [l1]; decide
      rw [seqD_fail hl1]
      have e2 : S.synced L = (50, { S with dev := L.2, dead := true }) := by
        unfold WalS.synced
        rw [if_neg hl1, l1]
      rw [e2]
      refine .inr ⟨rfl, rfl, l2, ln, l3, ?_, ho, rfl, rfl, fun hw => absurd ((hlw hw).1.symm.trans l1) (by decide)⟩
      have := WalS.ok_dev h.ok ln
      exact ⟨this.n, this.now, this.wait⟩
    rw [seqD_ok l1]
    have hal := hal l1
    have hw := home_way (D := L.2) (f := S.wait) (by omega) l2 (by rw [ln]; exact l3) (by rw [ln]; exact hf) hne
    rw [ln] at hw
    have hov : ∀ k, k < S.dev.n - 300 → over S.wait (fun k => L.2.last (300 + k)) k = over S.wait g0 k := fun k hk => by
      show (S.wait k).getD (L.2.last (300 + k)) = (S.wait k).getD (g0 k)
      rw [l4 k hk]
    have hww : Well S.dev → (L.2.home S.wait (S.dev.n - 300)).1 = 0 ∧ Well (L.2.home S.wait (S.dev.n - 300)).2 := fun hw => by
      have := (hlw hw).2.home (f := S.wait) (by omega) (by rw [ln]; exact hf)
      rwa [ln] at this
    have hao := ho.home (f := S.wait) (S.dev.n - 300)
    obtain ⟨h1, ⟨h2, h3⟩ | ⟨h2, h3, h4⟩⟩ := hw
    · have hah := home_alive h2
      generalize hH : L.2.home S.wait (S.dev.n - 300) = H at *
      have e2 : S.synced H = (0, { S with dev := H.2, wait := fun _ => none, lasting := S.all }) := by unfold WalS.synced; rw [if_pos h2]
      rw [e2]
      refine .inl ⟨rfl, ?_, rfl, fun _ => rfl, rfl, rfl, h1, fun hw => (hww hw).2⟩
      have hok := WalS.ok_dev h.ok h1
      have hs : ({ S with dev := H.2, wait := fun _ => none, lasting := S.all } : WalS).size = S.size := congrArg (fun n => n - 300) h1
      refine ⟨⟨hok.n, hok.now, fun _ _ e => (by cases e)⟩, hao, h.dead, hah, ⟨h3.wait, h3.num, fun k hk => (h3.at_ k hk).trans (hov k (by rw [h1] at hk; exact hk))⟩, by rw [waitN_none rfl]; omega, ?_⟩
      have := h.nowN
      unfold WalS.nowN at this ⊢
      rw [hs]
      exact this
    · generalize hH : L.2.home S.wait (S.dev.n - 300) = H at *
      have e2 : S.synced H = (50, { S with dev := H.2, dead := true }) := by unfold WalS.synced; rw [if_neg (by rw [h2]; decide), h2]
      rw [e2]
      have hok := WalS.ok_dev h.ok h1
      refine .inr ⟨rfl, rfl, h3, h1, fun keep => .inr ⟨(h4 keep).1, fun k hk => ((h4 keep).2 k hk).trans (hov k (by rw [h1] at hk; exact hk))⟩, ⟨hok.n, hok.now, hok.wait⟩, hao, rfl, rfl, fun hw => absurd ((hww hw).1.symm.trans h2) (by decide)⟩

theorem keysF_or_length (f g : Nat → Option Bytes) (n : Nat) : (keysF (fun k => (f k).or (g k)) n).length ≤ (keysF f n).length + (keysF g n).length := by
  unfold keysF
  have e : (fun k => ((f k).or (g k)).isSome) = fun k => (f k).isSome || (g k).isSome := by funext k; simp
  show ((List.range n).filter fun k => ((f k).or (g k)).isSome).length ≤ _
  rw [e]
  generalize List.range n = l
  induction l with
  | nil => simp
  | cons x l ih =>
    simp only [List.filter_cons]
    cases hf : f x <;> cases hg : g x <;> simp <;> omega

/-- What a store that lives is behind its transaction. -/
theorem Live.done (h : Live S g0) (hN : S.waitN + S.nowN ≤ 256) : Live S.done g0 := by
  refine ⟨⟨h.ok.n, fun _ _ e => (by cases e), fun k b e => ?_⟩, h.dok, h.dead, h.ddead, h.quiet, ?_, by rw [nowN_none rfl]; omega⟩
  · simp only [WalS.done, WalS.both] at e
    cases hn : S.now k with
    | none => rw [hn] at e; exact h.ok.wait k b (by simpa using e)
    | some b' => rw [hn] at e; exact h.ok.now k b (by rw [hn]; simpa using e)
  · have := keysF_or_length S.now S.wait S.size
    have e : S.done.waitN = (keysF (fun k => (S.now k).or (S.wait k)) S.size).length := rfl
    rw [e]
    unfold WalS.waitN WalS.nowN at hN
    omega

theorem over_or (f g : Nat → Option Bytes) (c : Nat → Bytes) : over (fun k => (f k).or (g k)) c = over f (over g c) := by
  funext k
  show ((f k).or (g k)).getD (c k) = (f k).getD ((g k).getD (c k))
  cases f k <;> simp

/-- Commit: the transaction is committed, by itself or behind a Sync; or power failed. -/
theorem Live.commit (h : Live S g0) :
    (S.commit.1 = 0 ∧ (∃ S1 g1, Live S1 g1 ∧ S.commit.2 = S1.done ∧ S1.now = S.now ∧ S1.all = S.all ∧ S1.dev.n = S.dev.n ∧ S1.waitN + S1.nowN ≤ 256 ∧ (Well S.dev → Well S1.dev) ∧ (S1 = S ∧ g1 = g0 ∨ g1 = over S.wait g0 ∧ (∀ k, S1.wait k = none) ∧ S1.lasting = S.all))) ∨
    (S.commit.1 = 50 ∧ S.commit.2.dead = true ∧ S.commit.2.dev.dead = true ∧ S.commit.2.dev.n = S.dev.n ∧ Dur2 S.commit.2.dev g0 (over S.wait g0) ∧ S.commit.2.ok ∧ S.commit.2.dev.ok ∧ S.commit.2.all = S.all ∧ S.commit.2.lasting = S.lasting ∧ ¬ Well S.dev) := by
  unfold WalS.commit
  rw [if_neg (by simp [h.isDead])]
  by_cases hN : 256 < S.waitN + S.nowN
  · rw [if_pos hN]
    rcases h.sync with ⟨s1, s2, s3, s4, s5, s6, s7, s8⟩ | ⟨s1, s2⟩
    · rw [if_pos s1]
      have hw0 : S.sync.2.waitN = 0 := by
        have : S.sync.2.wait = fun _ => none := funext s4
        exact waitN_none this
      exact .inl ⟨rfl, S.sync.2, over S.wait g0, s2, rfl, s3, s5, s7, by have := s2.nowN; omega, s8, .inr ⟨rfl, s4, s6⟩⟩
    · rw [if_neg (by rw [s1]; decide)]
      exact .inr ⟨s1, s2⟩
  · rw [if_neg hN]
    exact .inl ⟨rfl, S, g0, h, rfl, rfl, rfl, rfl, by omega, id, .inl ⟨rfl, rfl⟩⟩
end
end Go.Lz
/-
  A store that lives, call by call: what it tells and what lasts. Plain.
-/
namespace Go.Lz
open Go.RowKit

theorem filter_one (n k : Nat) : ((List.range n).filter fun j => decide (j = k)).length ≤ if k < n then 1 else 0 := by
  induction n with
  | zero => simp
  | succ n ih =>
    rw [List.range_succ, List.filter_append, List.length_append]
    by_cases e : n = k
    · subst e
      simp at ih ⊢
      exact ih
    · simp [e]
      split at ih <;> split <;> omega

theorem keysF_upd_some {f : Nat → Option Bytes} {n k : Nat} {b : Bytes} (h : (f k).isSome = true) : keysF (upd f k (some b)) n = keysF f n := by
  unfold keysF
  congr 1
  funext j
  by_cases e : j = k
  · subst e; simp [h]
  · rw [upd_other _ e]

theorem keysF_upd_le (f : Nat → Option Bytes) (n k : Nat) (b : Bytes) : (keysF (upd f k (some b)) n).length ≤ (keysF f n).length + 1 := by
  have e : upd f k (some b) = fun j => ((if j = k then some b else none : Option Bytes)).or (f j) := by
    funext j
    by_cases e : j = k
    · subst e; simp
    · rw [upd_other _ e]; simp [e]
  have h := keysF_or_length (fun j => (if j = k then some b else none : Option Bytes)) f n
  rw [← e] at h
  have h1 : (keysF (fun j => (if j = k then some b else none : Option Bytes)) n).length ≤ 1 := by
    have e2 : (fun j => ((if j = k then some b else none : Option Bytes)).isSome) = fun j => decide (j = k) := by
      funext j
      by_cases e : j = k <;> simp [e]
    have := filter_one n k
    unfold keysF
    rw [e2]
    split at this <;> omega
  omega

section
variable {S : WalS} {g0 : Nat → Bytes} {n c : Nat}

theorem Live.wrong (h : Live S g0) {i : Int} (h0 : 0 ≤ i) (hi : i < S.size) : S.wrong i = 0 := by
  unfold WalS.wrong
  rw [if_neg (by simp [h.isDead]), if_neg (by omega)]
theorem Live.wrong_arg (h : Live S g0) {i : Int} (hi : i < 0 ∨ (S.size : Int) ≤ i) : S.wrong i = 1 := by
  unfold WalS.wrong
  rw [if_neg (by simp [h.isDead]), if_pos hi]

theorem Live.setNow (h : Live S g0) {now : Nat → Option Bytes} (hb : ∀ k b, now k = some b → b.length = 64 ∧ k < S.size) (hn : (keysF now S.size).length ≤ 128) : Live { S with now := now } g0 :=
  ⟨⟨h.ok.n, hb, h.ok.wait⟩, h.dok, h.dead, h.ddead, h.quiet, h.waitN, hn⟩

/-- A write that may be. -/
theorem Live.write (h : Live S g0) {k : Nat} {b : Bytes} (hk : k < S.size) (hb : b.length = 64) (hm : (S.now k).isSome = true ∨ S.nowN < 128) :
    S.write (k : Int) b = (0, { S with now := upd S.now k (some b) }) ∧ Live { S with now := upd S.now k (some b) } g0 := by
  have hw := h.wrong (i := (k : Int)) (by omega) (by omega)
  refine ⟨?_, h.setNow (fun j c hj => ?_) ?_⟩
  · unfold WalS.write
    rw [if_neg (by simp [hw]), if_neg (by simp [hb]), Int.toNat_natCast, if_neg (fun h1 => hm.elim (fun h2 => by rw [h2] at h1; cases h1.1) (fun h2 => by omega))]
  · by_cases e : j = k
    · subst e
      rw [upd_same] at hj
      cases hj
      exact ⟨hb, hk⟩
    · rw [upd_other _ e] at hj
      exact h.ok.now j c hj
  · rcases hm with hm | hm
    · rw [keysF_upd_some hm]
      exact h.nowN
    · have := keysF_upd_le S.now S.size k b
      unfold WalS.nowN at hm
      omega
theorem Live.write_arg (h : Live S g0) {i : Int} {b : Bytes} (hi : i < 0 ∨ (S.size : Int) ≤ i ∨ b.length ≠ 64) : S.write i b = (1, S) := by
  unfold WalS.write
  by_cases hi' : i < 0 ∨ (S.size : Int) ≤ i
  · rw [h.wrong_arg hi', if_pos (by decide)]
  · rw [h.wrong (by omega) (by omega), if_neg (by decide), if_pos (by omega)]
theorem Live.write_big (h : Live S g0) {k : Nat} {b : Bytes} (hk : k < S.size) (hb : b.length = 64) (hm : (S.now k).isSome = false) (hn : 128 ≤ S.nowN) : S.write (k : Int) b = (5, S) := by
  unfold WalS.write
  rw [h.wrong (by omega) (by omega), if_neg (by decide), if_neg (by simp [hb]), Int.toNat_natCast, if_pos ⟨hm, hn⟩]

theorem Live.get (h : Live S g0) {k : Nat} (hk : k < S.size) : S.get k = over S.now (over S.wait g0) k := by
  unfold WalS.get over
  rw [h.quiet.now hk]

theorem Live.counted (h : Live S g0) : Live { S with dev := S.dev.counted } g0 :=
  ⟨⟨h.ok.n, h.ok.now, h.ok.wait⟩, h.dok.counted, h.dead, h.ddead, h.quiet.core rfl rfl rfl, h.waitN, h.nowN⟩
theorem Live.asked (h : Live S g0) (k : Nat) : Live (S.asked k) g0 := by
  unfold WalS.asked
  split
  · exact h
  · exact h.counted
theorem Live.aborted (h : Live S g0) : Live S.aborted g0 := h.setNow (fun _ _ e => by cases e) (by rw [keysF_none]; simp)
end

@[simp] theorem WalS.asked_now (S : WalS) (k : Nat) : (S.asked k).now = S.now := by unfold WalS.asked; split <;> rfl
@[simp] theorem WalS.asked_wait (S : WalS) (k : Nat) : (S.asked k).wait = S.wait := by unfold WalS.asked; split <;> rfl
@[simp] theorem WalS.asked_all (S : WalS) (k : Nat) : (S.asked k).all = S.all := by unfold WalS.asked; split <;> rfl
@[simp] theorem WalS.asked_lasting (S : WalS) (k : Nat) : (S.asked k).lasting = S.lasting := by unfold WalS.asked; split <;> rfl
@[simp] theorem WalS.asked_size (S : WalS) (k : Nat) : (S.asked k).size = S.size := by unfold WalS.asked; split <;> rfl
theorem WalS.asked_well {S : WalS} (h : Well S.dev) (k : Nat) : Well (S.asked k).dev := by
  unfold WalS.asked
  split
  · exact h
  · exact ⟨h.dead, h.fuse⟩
@[simp] theorem WalS.asked_fuse (S : WalS) (k : Nat) : (S.asked k).dev.fuse = S.dev.fuse := by unfold WalS.asked; split <;> rfl

/-! ### a store and its history -/
/-- c transactions were committed; 'h i' is what the store was behind i of them; what lasts is one of these, no less than what is told as lasting. -/
structure Rec (S : WalS) (n c d : Nat) (h : Nat → Nat → Bytes) : Prop where
  ex : ∃ g0, Live S g0 ∧ (∀ k, k < n → g0 k = h d k) ∧ (∀ k, k < n → over S.wait g0 k = h c k)
  size : S.size = n
  all : S.all = (c : Int)
  last : 0 ≤ S.lasting ∧ S.lasting ≤ (d : Int)
  le : d ≤ c
  small : c ≤ 1000000

section
variable {S : WalS} {n c d : Nat} {h : Nat → Nat → Bytes}

theorem Rec.live (r : Rec S n c d h) : ∃ g0, Live S g0 := by
  obtain ⟨g0, hl, _⟩ := r.ex
  exact ⟨g0, hl⟩
theorem Rec.get (r : Rec S n c d h) {k : Nat} (hk : k < n) : S.get k = over S.now (h c) k := by
  obtain ⟨g0, hl, h1, h2⟩ := r.ex
  rw [hl.get (by rw [r.size]; exact hk)]
  show (S.now k).getD (over S.wait g0 k) = (S.now k).getD (h c k)
  rw [h2 k hk]
theorem Rec.write (r : Rec S n c d h) {k : Nat} {b : Bytes} (hk : k < n) (hb : b.length = 64) (hm : (S.now k).isSome = true ∨ (keysF S.now n).length < 128) :
    S.write (k : Int) b = (0, { S with now := upd S.now k (some b) }) ∧ Rec { S with now := upd S.now k (some b) } n c d h := by
  obtain ⟨g0, hl, h1, h2⟩ := r.ex
  obtain ⟨h3, h4⟩ := hl.write (b := b) (by rw [r.size]; exact hk) hb (by unfold WalS.nowN; rw [r.size]; exact hm)
  exact ⟨h3, ⟨⟨g0, h4, h1, h2⟩, r.size, r.all, r.last, r.le, r.small⟩⟩
theorem Rec.asked (r : Rec S n c d h) (k : Nat) : Rec (S.asked k) n c d h := by
  obtain ⟨g0, hl, h1, h2⟩ := r.ex
  exact ⟨⟨g0, hl.asked k, h1, by simpa using h2⟩, by simpa using r.size, by simpa using r.all, by simpa using r.last, r.le, r.small⟩
theorem Rec.aborted (r : Rec S n c d h) : Rec S.aborted n c d h := by
  obtain ⟨g0, hl, h1, h2⟩ := r.ex
  exact ⟨⟨g0, hl.aborted, h1, h2⟩, r.size, r.all, r.last, r.le, r.small⟩

/-- Sync: all lasts; or power failed. -/
theorem Rec.sync (r : Rec S n c d h) :
    (S.sync.1 = 0 ∧ Rec S.sync.2 n c c h ∧ S.sync.2.now = S.now ∧ S.sync.2.lasting = (c : Int) ∧ (∀ k, S.sync.2.wait k = none) ∧ (Well S.dev → Well S.sync.2.dev)) ∨
    (S.sync.1 = 50 ∧ S.sync.2.dev.dead = true ∧ S.sync.2.dead = true ∧ S.sync.2.dev.n = S.dev.n ∧ S.sync.2.dev.ok ∧ Dur2 S.sync.2.dev (h d) (h c) ∧ S.sync.2.all = (c : Int) ∧ S.sync.2.lasting = S.lasting ∧ ¬ Well S.dev) := by
  obtain ⟨g0, hl, h1, h2⟩ := r.ex
  rcases hl.sync with ⟨s1, s2, s3, s4, s5, s6, s7, s8⟩ | ⟨s1, s2, s3, s4, s5, s6, s7, s8, s9, s10⟩
  · refine .inl ⟨s1, ⟨⟨_, s2, h2, fun k hk => ?_⟩, ?_, s5.trans r.all, ?_, Nat.le_refl _, r.small⟩, s3, s6.trans r.all, s4, s8⟩
    · show (S.sync.2.wait k).getD (over S.wait g0 k) = h c k
      rw [s4 k]
      exact h2 k hk
    · have : S.sync.2.size = S.size := congrArg (fun n => n - 300) s7
      rw [this, r.size]
    · rw [s6, r.all]
      omega
  · refine .inr ⟨s1, s3, s2, s4, s7, fun keep => ?_, s8.trans r.all, s9, s10⟩
    have hn : S.sync.2.dev.n - 300 = n := by rw [s4]; exact r.size
    have := s5 keep
    rw [hn] at this ⊢
    exact this.imp (fun h3 => ⟨h3.1, fun k hk => (h3.2 k hk).trans (h1 k hk)⟩) (fun h3 => ⟨h3.1, fun k hk => (h3.2 k hk).trans (h2 k hk)⟩)

/-- Commit. -/
theorem Rec.commit (r : Rec S n c d h) (hs : c < 1000000) (h' : Nat → Nat → Bytes) (hold : ∀ i, i ≤ c → h' i = h i) (hnew : ∀ k, k < n → h' (c + 1) k = over S.now (h c) k) :
    (S.commit.1 = 0 ∧ (∃ d', d ≤ d' ∧ Rec S.commit.2 n (c + 1) d' h') ∧ S.commit.2.now = (fun _ => none) ∧ (Well S.dev → Well S.commit.2.dev)) ∨
    (S.commit.1 = 50 ∧ S.commit.2.dev.dead = true ∧ S.commit.2.dead = true ∧ S.commit.2.dev.n = S.dev.n ∧ S.commit.2.dev.ok ∧ Dur2 S.commit.2.dev (h d) (h c) ∧ S.commit.2.all = (c : Int) ∧ S.commit.2.lasting = S.lasting ∧ ¬ Well S.dev) := by
  obtain ⟨g0, hl, h1, h2⟩ := r.ex
  rcases hl.commit with ⟨s1, S1, g1, l1, e1, n1, a1, dn1, w1, wl1, ho⟩ | ⟨s1, s2, s3, s4, s5, s6, s7, s8, s9, s10⟩
  · refine .inl ⟨s1, ?_, by rw [e1]; rfl, fun hw => by rw [e1]; exact wl1 hw⟩
    rw [e1]
    have hwr : wrap64 (S1.all + 1) = ((c + 1 : Nat) : Int) := by
      rw [a1, r.all]
      unfold wrap64
      omega
    have hsz : S1.size = n := by
      have : S1.size = S.size := congrArg (fun n => n - 300) dn1
      rw [this, r.size]
    have hld := l1.done w1
    -- what lasts below S1, and how much is told
    obtain ⟨d1, hd1, hd1c, hg1, hlast, hov⟩ : ∃ d1, d ≤ d1 ∧ d1 ≤ c ∧ (∀ k, k < n → g1 k = h d1 k) ∧ (0 ≤ S1.lasting ∧ S1.lasting ≤ (d1 : Int)) ∧ (∀ k, k < n → over S1.wait g1 k = h c k) := by
      rcases ho with ⟨rfl, rfl⟩ | ⟨rfl, hw0, hls⟩
      · exact ⟨d, Nat.le_refl _, r.le, h1, r.last, h2⟩
      · refine ⟨c, r.le, Nat.le_refl _, h2, by rw [hls, r.all]; omega, fun k hk => ?_⟩
        show (S1.wait k).getD _ = _
        rw [hw0 k]
        exact h2 k hk
    have hbov : ∀ k, k < n → over S1.both g1 k = h' (c + 1) k := by
      intro k hk
      have e : over S1.both g1 k = over S1.now (over S1.wait g1) k := congrFun (over_or S1.now S1.wait g1) k
      rw [e, hnew k hk, n1]
      show (S.now k).getD (over S1.wait g1 k) = (S.now k).getD (h c k)
      rw [hov k hk]
    by_cases hk : keysF S1.both S1.size = []
    · have hnone : S1.both = fun _ => none := keysF_nil hk (fun k hk => by
        have hb := (l1.done w1).ok.waitB
        exact hb k hk)
      refine ⟨c + 1, by omega, ⟨⟨g1, hld, fun k hkn => ?_, hbov⟩, hsz, hwr, ?_, Nat.le_refl _, by omega⟩⟩
      · rw [← hbov k hkn]
        show g1 k = (S1.both k).getD (g1 k)
        rw [hnone]
        rfl
      · have e : S1.done.lasting = wrap64 (S1.all + 1) := by unfold WalS.done; simp only [if_pos hk]
        rw [e, hwr]
        omega
    · refine ⟨d1, hd1, ⟨⟨g1, hld, fun k hkn => (hg1 k hkn).trans (by rw [hold d1 hd1c]), hbov⟩, hsz, hwr, ?_, by omega, by omega⟩⟩
      have e : S1.done.lasting = S1.lasting := by unfold WalS.done; simp only [if_neg hk]
      rw [e]
      exact hlast
  · refine .inr ⟨s1, s3, s2, s4, s7, fun keep => ?_, s8.trans r.all, s9, s10⟩
    have hn : S.commit.2.dev.n - 300 = n := by rw [s4]; exact r.size
    have := s5 keep
    rw [hn] at this ⊢
    exact this.imp (fun h3 => ⟨h3.1, fun k hk => (h3.2 k hk).trans (h1 k hk)⟩) (fun h3 => ⟨h3.1, fun k hk => (h3.2 k hk).trans (h2 k hk)⟩)

/-- The store of a device that was opened. -/
theorem Rec.opened {D : DevS} {g : Nat → Bytes} (hok : D.ok) (hn : 300 < D.n) (hd : D.dead = false) (hw : ∀ k, D.wait k = none) (hr : Reads D.last (D.n - 300) g) (hh : ∀ k, k < D.n - 300 → h 0 k = g k) :
    (D.opened.1 = 0 ∧ Rec (WalS.new D.opened.2) (D.n - 300) 0 0 h ∧ (Well D → Well D.opened.2)) ∨ (D.opened.1 = 50 ∧ D.opened.2.dead = true ∧ D.opened.2.n = D.n ∧ D.opened.2.ok ∧ Dur D.opened.2 g ∧ ¬ Well D) := by
  obtain ⟨o1, ⟨o2, o3⟩ | ⟨o2, o3, o4⟩⟩ := opened_way hok hn hd hw hr
  · refine .inl ⟨o2, ⟨⟨g, Live.opened hok.opened (by rw [o1]; exact hn) (opened_alive o2) o3, fun k hk => (hh k hk).symm, fun k hk => (hh k hk).symm⟩, ?_, rfl, by simp [WalS.new], Nat.le_refl _, by omega⟩, fun hw' => (hw'.opened hok hn).2⟩
    show (WalS.new D.opened.2).dev.n - 300 = _
    rw [show (WalS.new D.opened.2).dev.n = D.opened.2.n from rfl, o1]
  · exact .inr ⟨o2, o3, o1, hok.opened, o4, fun hw' => absurd ((hw'.opened hok hn).1.symm.trans o2) (by decide)⟩

/-- A new device's store is noughts. -/
theorem new_reads (n m : Nat) : Reads (DevS.new n).last m (fun _ => zero64) := by
  refine reads_nolog ?_ fun _ _ => rfl
  have : numB zero64 = 0 := by decide
  show numL (fun _ => zero64) = 0
  unfold numL
  rw [this]
  rfl
end
end Go.Lz
/-
  The store's small methods.
-/
namespace Go.Proofs.YtjngphffgdjcfaaGreatDoor
open Go.RowKit Go.Lz

theorem room_any (w : World) (n : Nat) (hn : n ≤ 1000000) : Calls Tryz.prog 79 #[.int .i64 (n : Int)] w fun e w' => e = .returned (.int .i64 ((n - 300 : Nat) : Int)) ∧ w = w' := by
  go_enter Tryz.func79, Tryz.ntmps79
  by_cases h : n ≤ 300
  · have h1 : max (n : Int) 300 = 300 := by omega
    have h2 : ((n - 300 : Nat) : Int) = 0 := by omega
    rw [h2]
    go_wp2
    go_ret
    exact ⟨rfl, rfl⟩
  · have h1 : max (n : Int) 300 = n := by omega
    have h2 : ((n - 300 : Nat) : Int) = (n : Int) - 300 := by omega
    rw [h2]
    go_wp2
    go_ret
    exact ⟨rfl, rfl⟩

section
variable {w : World} {p q : Nat} {S : WalS} {Fd Fs F : Nat → Prop} {mn mw : Nat} {vn vw : Nat → Option Value} {cn cw : Nat}

theorem wsize_any (h : StoreIn Tryz.prog w p q S Fd Fs mn mw vn vw cn cw) : Calls Tryz.prog 52 #[Dptr p] w fun e w' => e = .returned (.int .i64 (S.size : Int)) ∧ w = w' := by
  have h0 : w.cell? ⟨p, 0, none⟩ = some (Dp q) := cell_of h.blk 0
  have hn : S.dev.n ≤ 1000000 := Nat.le_trans h.dev.ok.n (by omega)
  go_enter Tryz.func52, Tryz.ntmps52
  go_wp2_with (first
    | (go_at_call 80; refine (size_any h.dev).mono ?_; rintro e w' ⟨rfl, rfl⟩)
    | (go_at_call 79; refine (room_any _ _ hn).mono ?_; rintro e w' ⟨rfl, rfl⟩))
  go_ret
  exact ⟨rfl, rfl⟩

set_option maxHeartbeats 400000 in
theorem wwrong_any (h : StoreIn Tryz.prog w p q S Fd Fs mn mw vn vw cn cw) (i : Int) : Calls Tryz.prog 66 #[Dptr p, .int .i64 i] w fun e w' => e = .returned (.int .i64 (S.wrong i)) ∧ w = w' := by
  have h0 : w.cell? ⟨p, 0, none⟩ = some (Dp q) := cell_of h.blk 0
  have h5 : w.cell? ⟨p, 5, none⟩ = some (.bool S.dead) := cell_of h.blk 5
  go_enter Tryz.func66, Tryz.ntmps66
  cases hd : S.dead
  · rw [hd] at h5
    cases hdd : S.dev.dead
    · by_cases hi : i < 0
      · go_wp2_with (go_at_call 90; refine (dead_any h.dev).mono ?_; rw [hdd]; rintro e w' ⟨rfl, rfl⟩)
        go_ret
        exact ⟨by simp [WalS.wrong, WalS.isDead, hd, hdd, hi], rfl⟩
      · by_cases hj : (S.size : Int) ≤ i
        all_goals
          go_wp2_with (first
            | (go_at_call 90; refine (dead_any h.dev).mono ?_; rw [hdd]; rintro e w' ⟨rfl, rfl⟩)
            | (go_at_call 52; refine (wsize_any h).mono ?_; rintro e w' ⟨rfl, rfl⟩))
          go_ret
          exact ⟨by simp [WalS.wrong, WalS.isDead, hd, hdd, hi]; omega, rfl⟩
    · go_wp2_with (go_at_call 90; refine (dead_any h.dev).mono ?_; rw [hdd]; rintro e w' ⟨rfl, rfl⟩)
      go_ret
      exact ⟨by simp [WalS.wrong, WalS.isDead, hd, hdd], rfl⟩
  · rw [hd] at h5
    go_wp2
    go_ret
    exact ⟨by simp [WalS.wrong, WalS.isDead, hd], rfl⟩

/-- The transaction under way is another one: a new map. -/
theorem _root_.Go.Lz.StoreIn.newNow {w' : World} {m' : Nat} (h : StoreIn Tryz.prog w p q S Fd Fs mn mw vn vw cn cw) (hc : Chg (· = p) w w') (hm : MapAt Tryz.prog 3 w' m' (fun _ => none) 0) (hml : w.heap.size ≤ m') {all lasting : Int}
    (hb : w'.heap[p]? = some (.cells #[Dp q, .map (some m'), .map (some mw), .int .i64 all, .int .i64 lasting, .bool S.dead] 127 (0, 0))) :
    StoreIn Tryz.prog w' p q { S with now := fun _ => none, all := all, lasting := lasting } Fd (fun k => Fs k ∨ k = m') m' mw (fun _ => none) vw 0 cw := by
  obtain ⟨es, cl, hmw⟩ := h.wait.map.isMap
  refine ⟨hb, h.dev.chg hc (fun k hk e => h.dis p h.Fp (e ▸ hk)), ⟨hm, fun _ _ e => (by cases e), fun _ _ => rfl, .inr rfl⟩, ?_, ?_, .inl h.Fp, ?_, ?_, ⟨h.ok.n, fun k b e => (by cases e), h.ok.wait⟩⟩
  · refine (h.wait.mono fun k hk => Or.inl hk).heap (hc.block mw h.wait.map.lt (fun e => ne_of_map h.blk hmw e.symm)) (fun k cs hk e => (hc.block k (lt_of_heap e) (fun e2 => by subst e2; exact ne_of_elem h.blk e (by decide) rfl)).trans e)
  · have := h.wait.map.lt
    omega
  · intro k hk
    rcases hk with hk | rfl
    · exact Nat.lt_of_lt_of_le (h.Flt k hk) hc.size
    · exact hm.lt
  · intro k hk e
    rcases hk with hk | rfl
    · exact h.dis k hk e
    · have := h.dev.lt _ e; omega

/-- Nothing is handed back; the store is S'. -/
def WDone (w : World) (p q : Nat) (S : WalS) (F : Nat → Prop) (v : Value) (e : Ending) (w' : World) : Prop := e = .returned v ∧ StoreAt Tryz.prog w' p q S (ext F w w') ∧ Chg F w w'

end
end Go.Proofs.YtjngphffgdjcfaaGreatDoor
/-
  What the document fixes of layer 1: awake answers true.
-/
namespace Go.Proofs.YtjngphffgdjcfaaGreatDoor
open Go.RowKit Go.Lz

theorem bytes64 (w : World) (k : Int) : Buf 5 (w.alloc (bobj w (bytesOf k 64))).drew w.heap.size (.slice (some ⟨w.heap.size, 0, none⟩) 64 (bcap w (bytesOf k 64))) (bytesOf k 64) := by
  have h := bytes_buf w (bytesOf k 64) (by simp)
  rw [bytesOf_length] at h
  exact h

theorem bytes_chg (w : World) (b : Bytes) (M : Nat → Prop) : Chg M w (w.alloc (bobj w b)).drew := ((Chg.refl M w).alloc _).drew

theorem _root_.Go.Lz.DevAt.below {P : Program} {w w' : World} {p : Nat} {S : DevS} {F : Nat → Prop} (h : DevAt P w p S F) (hb : Below w.heap.size w w') : DevAt P w' p S F := h.chg (M := fun _ => False) (Chg.of_below hb) (fun _ _ h => h)

theorem write_good {S : DevS} {k : Nat} {b : Bytes} (hd : S.dead = false) (hk : k < S.n) (hf : S.fuse ≠ 0) (hb : b.length = 64) : S.write (k : Int) b = (0, S.burned.put k b) := by
  have h1 : S.wrong (k : Int) = 0 := by simp [DevS.wrong, hd]; omega
  simp [DevS.write, h1, hb, hf]

/-- One number in a new row. -/
theorem ints_one (w : World) (x : Int) (F : Nat → Prop) (hF : F w.heap.size) : IntsAt (w.alloc (.cells #[.int .i64 x] 3)) F (.slice (some ⟨w.heap.size, 0, none⟩) 1 1) [x] :=
  ⟨_, 1, 1, rfl, rfl, by omega, .inr ⟨w.heap.size, 0, rfl, hF, by simp, fun j hj => by
    obtain rfl : j = 0 := by omega
    rw [cell_of (heap_alloc_new w _)]
    rfl⟩⟩

/-- A read that goes well. -/
def ReadGood (w : World) (p : Nat) (S : DevS) (F : Nat → Prop) (b : Bytes) (e : Ending) (w' : World) : Prop :=
  ∃ v g, e = .returned (.tuple #[v, .int .i64 0]) ∧ Buf 5 w' g v b ∧ w.heap.size ≤ g ∧ DevAt Tryz.prog w' p S.counted F ∧ Chg F w w'

theorem read_good {w : World} {p : Nat} {S : DevS} {F : Nat → Prop} (h : DevAt Tryz.prog w p S F) (hd : S.dead = false) {k : Nat} (hk : k < S.n) {b : Bytes} (hb : S.now k = b) : Calls Tryz.prog 68 #[Dptr p, .int .i64 (k : Int)] w (ReadGood w p S F b) := by
  subst hb
  obtain ⟨lv, m, vs, vf, c, hD⟩ := h
  refine (read_ok hD hd hk).mono ?_
  rintro e w' ⟨v, g, rfl, h2, h3, h4, h5⟩
  obtain ⟨g', rfl, h6⟩ := h2.buf
  exact ⟨v, g', rfl, h6, h3, h4.at_, h5.mono fun j _ e => by subst e; exact hD.Fp⟩

end Go.Proofs.YtjngphffgdjcfaaGreatDoor
