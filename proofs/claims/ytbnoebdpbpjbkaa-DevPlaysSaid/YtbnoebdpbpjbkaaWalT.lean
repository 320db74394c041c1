/-
  What lasts of a device behind a crash, whatever it keeps, while a store's log is written and brought home. Plain.
-/
import Derived.Test.YtbnoebdpbpjbkaaWalL
import Derived.Test.YtbnoebdpbpjbkaaLaw1b
namespace Go.Lz
open Go.RowKit

/-- What lasts behind a crash that keeps some. -/
def DevS.kept (D : DevS) (keep : Nat → Bool) : Nat → Bytes := fun k => if keep k then D.now k else D.last k
theorem DevS.crashed_last (D : DevS) (flip : Bool) (l : List Int) : (D.crashed flip l).last = D.kept fun k => (decide ((k : Int) ∈ l)) != flip := rfl
/-- A log of which nothing is to be brought home is none. -/
def Sane (L : Nat → Bytes) (n : Nat) : Prop := logFL L n (numL L) = (fun _ => none) → numL L = 0
/-- The store that these sectors say is g. -/
def Reads (L : Nat → Bytes) (n : Nat) (g : Nat → Bytes) : Prop := Sane L n ∧ ∀ k, k < n → storL L n k = g k
/-- Whatever a crash keeps, the store is g; g or h. -/
def Dur (D : DevS) (g : Nat → Bytes) : Prop := ∀ keep, Reads (D.kept keep) (D.n - 300) g
def Dur2 (D : DevS) (g h : Nat → Bytes) : Prop := ∀ keep, Reads (D.kept keep) (D.n - 300) g ∨ Reads (D.kept keep) (D.n - 300) h
/-- Nothing waits, no log: the store is g. -/
structure Quiet (D : DevS) (g : Nat → Bytes) : Prop where
  wait : ∀ k, D.wait k = none
  num : numL D.last = 0
  at_ : ∀ k, k < D.n - 300 → D.last (300 + k) = g k

/-- f over c. -/
def over (f : Nat → Option Bytes) (c : Nat → Bytes) (k : Nat) : Bytes := (f k).getD (c k)

section
variable {D D' : DevS} {g h c : Nat → Bytes} {f : Nat → Option Bytes}

theorem DevS.kept_core (hl : D'.last = D.last) (hw : D'.wait = D.wait) (keep : Nat → Bool) : D'.kept keep = D.kept keep := by
  unfold DevS.kept DevS.now; rw [hl, hw]
theorem Dur.core (hd : Dur D g) (hn : D'.n = D.n) (hl : D'.last = D.last) (hw : D'.wait = D.wait) : Dur D' g := fun keep => by rw [DevS.kept_core hl hw, hn]; exact hd keep
theorem Dur2.core (hd : Dur2 D g h) (hn : D'.n = D.n) (hl : D'.last = D.last) (hw : D'.wait = D.wait) : Dur2 D' g h := fun keep => by rw [DevS.kept_core hl hw, hn]; exact hd keep
theorem Quiet.core (hq : Quiet D g) (hn : D'.n = D.n) (hl : D'.last = D.last) (hw : D'.wait = D.wait) : Quiet D' g := ⟨by rw [hw]; exact hq.wait, by rw [hl]; exact hq.num, by rw [hn, hl]; exact hq.at_⟩
theorem Dur.left (hd : Dur D g) : Dur2 D g h := fun keep => .inl (hd keep)
theorem Dur.right (hd : Dur D h) : Dur2 D g h := fun keep => .inr (hd keep)

theorem DevS.kept_still (hw : ∀ k, D.wait k = none) (keep : Nat → Bool) : D.kept keep = D.last := by
  funext k
  simp [DevS.kept, DevS.now, hw k]
theorem DevS.now_still (hw : ∀ k, D.wait k = none) : D.now = D.last := by
  funext k
  simp [DevS.now, hw k]

theorem reads_nolog {L : Nat → Bytes} {n : Nat} (h0 : numL L = 0) (ha : ∀ k, k < n → L (300 + k) = g k) : Reads L n g := by
  refine ⟨fun _ => h0, fun k hk => ?_⟩
  unfold storL
  rw [h0]
  exact ha k hk

theorem reads_log {L : Nat → Bytes} {n : Nat} (hf : logFL L n (numL L) = f) (hne : f ≠ fun _ => none) (ha : ∀ k, k < n → over f (fun k => L (300 + k)) k = g k) : Reads L n g := by
  refine ⟨fun e => absurd (hf.symm.trans e) hne, fun k hk => ?_⟩
  unfold storL
  rw [hf]
  exact ha k hk

theorem Quiet.dur (hq : Quiet D g) : Dur D g := fun keep => by
  rw [DevS.kept_still hq.wait]
  exact reads_nolog hq.num hq.at_
theorem Quiet.now (hq : Quiet D g) {k : Nat} (hk : k < D.n - 300) : D.now (300 + k) = g k := by
  rw [DevS.now_still hq.wait]; exact hq.at_ k hk

/-! ### rows of writes -/
/-- What a row of writes does to a device, whatever happens; P: what holds behind j of them. -/
theorem writeL_ind {ws : List (Int × Bytes)} (P : Nat → DevS → Prop) (h0 : P 0 D) (hcore : ∀ j D D', P j D → D'.n = D.n → D'.last = D.last → D'.wait = D.wait → P j D')
    (hstep : ∀ j x D', ws[j]? = some x → P j D' → P (j + 1) (D'.put x.1.toNat x.2)) (hv : ∀ x ∈ ws, 0 ≤ x.1 ∧ x.1 < (D.n : Int) ∧ x.2.length = 64) :
    ∃ j, j ≤ ws.length ∧ P j (D.writeL ws).2 ∧ (D.writeL ws).2.n = D.n ∧ ((D.writeL ws).1 = 0 ∧ j = ws.length ∨ (D.writeL ws).1 = 50 ∧ (D.writeL ws).2.dead = true) := by
  induction ws generalizing D P with
  | nil => exact ⟨0, Nat.le_refl _, h0, rfl, .inl ⟨rfl, rfl⟩⟩
  | cons x ws ih =>
    obtain ⟨v1, v2, v3⟩ := hv x (by simp)
    have e : D.writeL (x :: ws) = seqD (D.write x.1 x.2) fun D' => D'.writeL ws := rfl
    by_cases hd : D.dead = true
    · have hw : D.write x.1 x.2 = (50, D) := by simp [DevS.write, DevS.wrong, hd]
      rw [e, hw, seqD_fail (show (50 : Int) ≠ 0 by decide)]
      exact ⟨0, Nat.zero_le _, h0, rfl, .inr ⟨rfl, hd⟩⟩
    · simp only [Bool.not_eq_true] at hd
      have hwr : D.wrong x.1 = 0 := by simp [DevS.wrong, hd]; omega
      by_cases hf : D.fuse = 0
      · have hw : D.write x.1 x.2 = (50, D.killed) := by simp [DevS.write, hwr, v3, hf]
        rw [e, hw, seqD_fail (show (50 : Int) ≠ 0 by decide)]
        exact ⟨0, Nat.zero_le _, hcore _ _ _ h0 rfl rfl rfl, rfl, .inr ⟨rfl, rfl⟩⟩
      · have hw : D.write x.1 x.2 = (0, D.burned.put x.1.toNat x.2) := by simp [DevS.write, hwr, v3, hf]
        rw [e, hw, seqD_zero]
        obtain ⟨j, hj, hP, hn, hr⟩ := ih (D := D.burned.put x.1.toNat x.2) (fun j D => P (j + 1) D) (hstep 0 x _ rfl (hcore _ _ _ h0 rfl rfl rfl)) (fun j D D' => hcore (j + 1) D D') (fun j y D' hy hP => hstep (j + 1) y D' (by simpa using hy) hP) (fun y hy => hv y (by simp [hy]))
        exact ⟨j + 1, by simpa using hj, hP, hn, hr.imp (fun h => ⟨h.1, by rw [h.2]; rfl⟩) id⟩

theorem write_cases {i : Int} {b : Bytes} (h0 : 0 ≤ i) (hi : i < (D.n : Int)) (hb : b.length = 64) : (D.write i b).2.n = D.n ∧
    (((D.write i b).1 = 0 ∧ ∃ D0 : DevS, D0.n = D.n ∧ D0.last = D.last ∧ D0.wait = D.wait ∧ (D.write i b).2 = D0.put i.toNat b) ∨ ((D.write i b).1 = 50 ∧ (D.write i b).2.dead = true ∧ (D.write i b).2.last = D.last ∧ (D.write i b).2.wait = D.wait)) := by
  by_cases hd : D.dead = true
  · have hw : D.write i b = (50, D) := by simp [DevS.write, DevS.wrong, hd]
    rw [hw]
    exact ⟨rfl, .inr ⟨rfl, hd, rfl, rfl⟩⟩
  · simp only [Bool.not_eq_true] at hd
    have hwr : D.wrong i = 0 := by simp [DevS.wrong, hd]; omega
    by_cases hf : D.fuse = 0
    · have hw : D.write i b = (50, D.killed) := by simp [DevS.write, hwr, hb, hf]
      rw [hw]
      exact ⟨rfl, .inr ⟨rfl, rfl, rfl, rfl⟩⟩
    · have hw : D.write i b = (0, D.burned.put i.toNat b) := by simp [DevS.write, hwr, hb, hf]
      rw [hw]
      exact ⟨rfl, .inl ⟨rfl, D.burned, rfl, rfl, rfl, rfl⟩⟩

theorem flush_cases : D.flush.2.n = D.n ∧ ((D.flush.1 = 0 ∧ D.flush.2.last = D.now ∧ ∀ k, D.flush.2.wait k = none) ∨ (D.flush.1 = 50 ∧ D.flush.2.dead = true ∧ D.flush.2.last = D.last ∧ D.flush.2.wait = D.wait)) := by
  unfold DevS.flush
  by_cases hd : D.dead = true
  · rw [if_pos hd]
    exact ⟨rfl, .inr ⟨rfl, hd, rfl, rfl⟩⟩
  · rw [if_neg hd]
    by_cases hf : D.fuse = 0
    · rw [if_pos hf]
      exact ⟨rfl, .inr ⟨rfl, rfl, rfl, rfl⟩⟩
    · rw [if_neg hf]
      exact ⟨rfl, .inl ⟨rfl, rfl, fun _ => rfl⟩⟩

/-! ### the way home -/
theorem mem_homeL {n : Nat} {x : Int × Bytes} (hx : x ∈ homeL f n) : ∃ k, k < n ∧ x.1 = 300 + (k : Int) ∧ f k = some x.2 := by
  unfold homeL at hx
  obtain ⟨k, hk, rfl⟩ := List.mem_map.1 hx
  obtain ⟨h1, h2⟩ := (by simpa [keysF] using hk : k < n ∧ (f k).isSome = true)
  obtain ⟨b, hb⟩ := Option.isSome_iff_exists.1 h2
  exact ⟨k, h1, rfl, by simp [hb]⟩

theorem homeL_key {n j k : Nat} (hk : (keysF f n)[j]? = some k) : ∃ b, f k = some b ∧ (homeL f n)[j]? = some (300 + (k : Int), b) := by
  have hm := List.mem_of_getElem? hk
  obtain ⟨h1, h2⟩ := (by simpa [keysF] using hm : k < n ∧ (f k).isSome = true)
  obtain ⟨b, hb⟩ := Option.isSome_iff_exists.1 h2
  exact ⟨b, hb, by simp [homeL, hk, hb]⟩

/-- Behind j of the writes home: what waits is f's, and the first j wait. -/
structure HomeP (D0 : DevS) (f : Nat → Option Bytes) (j : Nat) (D : DevS) : Prop where
  n : D.n = D0.n
  last : D.last = D0.last
  wait : ∀ i b, D.wait i = some b → ∃ k, i = 300 + k ∧ f k = some b
  there : ∀ i k, i < j → (keysF f (D0.n - 300))[i]? = some k → D.wait (300 + k) = f k

theorem home_writes (hn : 300 < D.n) (hw : ∀ k, D.wait k = none) (hf : ∀ k b, f k = some b → b.length = 64 ∧ k < D.n - 300) :
    ∃ j, HomeP D f j (D.writeL (homeL f (D.n - 300))).2 ∧ ((D.writeL (homeL f (D.n - 300))).1 = 0 ∧ j = (homeL f (D.n - 300)).length ∨ (D.writeL (homeL f (D.n - 300))).1 = 50 ∧ (D.writeL (homeL f (D.n - 300))).2.dead = true) := by
  have key := writeL_ind (D := D) (ws := homeL f (D.n - 300)) (fun j D' => HomeP D f j D') ⟨rfl, rfl, fun i b h => (by rw [hw i] at h; cases h), fun i k h => (by omega)⟩
    (fun j D1 D2 h h1 h2 h3 => ⟨h1.trans h.n, h2.trans h.last, by rw [h3]; exact h.wait, by rw [h3]; exact h.there⟩)
    (by
      intro j x D' hx h
      have hjl : j < (keysF f (D.n - 300)).length := by
        have := (List.getElem?_eq_some_iff.1 hx).1
        simpa [homeL] using this
      obtain ⟨k, hk⟩ : ∃ k, (keysF f (D.n - 300))[j]? = some k := ⟨_, List.getElem?_eq_getElem hjl⟩
      obtain ⟨b, hb, hx'⟩ := homeL_key hk
      obtain rfl : x = (300 + (k : Int), b) := Option.some.inj (hx.symm.trans hx')
      have e3 : (300 + (k : Int)).toNat = 300 + k := by omega
      refine ⟨h.n, h.last, fun i b' h' => ?_, fun i k' hi hk' => ?_⟩
      · simp only [DevS.put, e3] at h'
        by_cases e : i = 300 + k
        · subst e
          rw [upd_same] at h'
          cases h'
          exact ⟨k, rfl, hb⟩
        · rw [upd_other _ e] at h'
          exact h.wait i b' h'
      · simp only [DevS.put, e3]
        by_cases e : k' = k
        · subst e
          rw [upd_same, hb]
        · rw [upd_other _ (by omega)]
          refine h.there i k' ?_ hk'
          have : i ≠ j := fun e2 => e (by subst e2; exact Option.some.inj (hk'.symm.trans hk))
          omega)
    (by
      intro x hx
      obtain ⟨k, h1, h2, h3⟩ := mem_homeL hx
      exact ⟨by omega, by omega, (hf k _ h3).1⟩)
  obtain ⟨j, hj, hP, hn', hr⟩ := key
  exact ⟨j, hP, hr⟩

/-- While sectors are on their way home, the log says what it said. -/
theorem HomeP.reads {D0 : DevS} {j : Nat} (h : HomeP D0 f j D) (hlog : logFL D0.last (D0.n - 300) (numL D0.last) = f) (hne : f ≠ fun _ => none) : Dur D (over f fun k => D0.last (300 + k)) := by
  intro keep
  have hlow : ∀ i, i < 300 → D.kept keep i = D0.last i := by
    intro i hi
    have hwi : D.wait i = none := by
      cases e : D.wait i with
      | none => rfl
      | some b =>
        obtain ⟨k, hk, _⟩ := h.wait i b e
        omega
    simp [DevS.kept, DevS.now, hwi, h.last]
  have h1 : numL (D.kept keep) = numL D0.last := numL_congr (hlow 0 (by omega))
  have h2 : logFL (D.kept keep) (D.n - 300) (numL (D.kept keep)) = f := by
    rw [h1, h.n, ← hlog]
    exact logFL_congr (fun i _ hi => hlow i hi) _ (numL_le _)
  refine reads_log h2 hne fun k hk => ?_
  unfold over
  cases hfk : f k with
  | some b => rfl
  | none =>
    have hwi : D.wait (300 + k) = none := by
      cases e : D.wait (300 + k) with
      | none => rfl
      | some b =>
        obtain ⟨k', hk', hb⟩ := h.wait _ b e
        obtain rfl : k = k' := by omega
        rw [hfk] at hb
        cases hb
    simp [DevS.kept, DevS.now, hwi, h.last]

/-- The way home: it goes well, and the store stands by itself; or it does not, and the store is what the log says. -/
theorem home_way (hn : 300 < D.n) (hw : ∀ k, D.wait k = none) (hlog : logFL D.last (D.n - 300) (numL D.last) = f) (hf : ∀ k b, f k = some b → b.length = 64 ∧ k < D.n - 300) (hne : f ≠ fun _ => none) :
    (D.home f (D.n - 300)).2.n = D.n ∧ ((D.home f (D.n - 300)).1 = 0 ∧ Quiet (D.home f (D.n - 300)).2 (over f fun k => D.last (300 + k)) ∨ (D.home f (D.n - 300)).1 = 50 ∧ (D.home f (D.n - 300)).2.dead = true ∧ Dur (D.home f (D.n - 300)).2 (over f fun k => D.last (300 + k))) := by
  obtain ⟨j, hP, hr⟩ := home_writes hn hw hf
  have hD := hP.reads hlog hne
  unfold DevS.home
  generalize hR : D.writeL (homeL f (D.n - 300)) = R at *
  rcases hr with ⟨hr, hj⟩ | ⟨hr, hdd⟩
  rotate_left
  · have hr' : R.1 ≠ 0 := by rw [hr]; decide
    rw [seqD_fail hr', seqD_fail hr', seqD_fail hr']
    exact ⟨hP.n, .inr ⟨hr, hdd, hD⟩⟩
  rw [seqD_ok hr]
  obtain ⟨n1, ⟨f1, f2, f3⟩ | ⟨f1, f2, f3, f4⟩⟩ := flush_cases (D := R.2)
  rotate_left
  · have hr' : R.2.flush.1 ≠ 0 := by rw [f1]; decide
    rw [seqD_fail hr', seqD_fail hr']
    exact ⟨n1.trans hP.n, .inr ⟨f1, f2, hD.core n1 f3 f4⟩⟩
  rw [seqD_ok f1]
  have hjl : (homeL f (D.n - 300)).length = (keysF f (D.n - 300)).length := by simp [homeL]
  have hnow : ∀ k, k < D.n - 300 → R.2.now (300 + k) = over f (fun k => D.last (300 + k)) k := by
    intro k hk
    unfold over DevS.now
    cases hfk : f k with
    | some b =>
      have hm : k ∈ keysF f (D.n - 300) := by simp [keysF, hk, hfk]
      obtain ⟨i, hi⟩ := List.mem_iff_getElem?.1 hm
      have hil := (List.getElem?_eq_some_iff.1 hi).1
      rw [hP.there i k (by omega) hi, hfk]
      rfl
    | none =>
      have hwi : R.2.wait (300 + k) = none := by
        cases e : R.2.wait (300 + k) with
        | none => rfl
        | some b =>
          obtain ⟨k', hk', hb⟩ := hP.wait _ b e
          obtain rfl : k = k' := by omega
          rw [hfk] at hb
          cases hb
      simp [hwi, hP.last]
  have hlow : ∀ i, i < 300 → R.2.now i = D.last i := by
    intro i hi
    have hwi : R.2.wait i = none := by
      cases e : R.2.wait i with
      | none => rfl
      | some b =>
        obtain ⟨k, hk, _⟩ := hP.wait i b e
        omega
    simp [DevS.now, hwi, hP.last]
  generalize hR2 : R.2.flush = R2 at *
  -- any kept row between the log and the store
  have hmid : ∀ L : Nat → Bytes, (∀ i, 1 ≤ i → i < 300 → L i = D.last i) → (∀ k, k < D.n - 300 → L (300 + k) = over f (fun k => D.last (300 + k)) k) → L 0 = D.last 0 → Reads L (D.n - 300) (over f fun k => D.last (300 + k)) := by
    intro L h1 h2 h3
    have e1 : numL L = numL D.last := numL_congr h3
    refine reads_log (f := f) (by rw [e1, ← hlog]; exact logFL_congr h1 _ (numL_le _)) hne fun k hk => ?_
    unfold over
    cases hfk : f k with
    | some b => rfl
    | none =>
      show L (300 + k) = D.last (300 + k)
      rw [h2 k hk]
      simp [over, hfk]
  obtain ⟨n2, hw2⟩ := write_cases (D := R2.2) (i := 0) (b := headB 0) (by omega) (by rw [n1, hP.n]; omega) (by simp)
  have hn2 : R2.2.n = D.n := n1.trans hP.n
  rcases hw2 with ⟨w1, D0, d1, d2, d3, d4⟩ | ⟨w1, w2, w3, w4⟩
  rotate_left
  · have hr' : (R2.2.write 0 (headB 0)).1 ≠ 0 := by rw [w1]; decide
    rw [seqD_fail hr']
    refine ⟨n2.trans hn2, .inr ⟨w1, w2, fun keep => ?_⟩⟩
    rw [DevS.kept_core w3 w4, n2, hn2, DevS.kept_still f3, f2]
    exact hmid _ (fun i _ hi => hlow i hi) hnow (hlow 0 (by omega))
  rw [seqD_ok w1]
  generalize hR3 : R2.2.write 0 (headB 0) = R3 at *
  have hn3 : R3.2.n = D.n := n2.trans hn2
  have hz : numL R3.2.now = 0 := by
    rw [d4]
    exact numL_head (K := 0) (by simp [DevS.now, DevS.put]) (by omega)
  have hk3 : ∀ i, i ≠ 0 → R3.2.now i = R.2.now i := by
    intro i hi
    rw [d4]
    simp [DevS.now, DevS.put, upd_other _ hi, d3, f3, d2, f2]
  have hl3 : R3.2.last = R.2.now := by rw [d4]; show D0.last = _; rw [d2, f2]
  have hdur : Dur R3.2 (over f fun k => D.last (300 + k)) := by
    intro keep
    rw [hn3]
    have hk : ∀ i, i ≠ 0 → R3.2.kept keep i = R.2.now i := by
      intro i hi
      unfold DevS.kept
      rw [hk3 i hi, hl3]
      split <;> rfl
    by_cases hk0 : keep 0 = true
    · refine reads_nolog ?_ fun k hkn => ?_
      · rw [← hz]
        exact numL_congr (by simp [DevS.kept, hk0])
      · rw [hk _ (by omega)]
        exact hnow k hkn
    · refine hmid _ (fun i h1 hi => by rw [hk i (by omega)]; exact hlow i hi) (fun k hkn => by rw [hk _ (by omega)]; exact hnow k hkn) ?_
      simp only [DevS.kept, hk0, hl3]
      exact hlow 0 (by omega)
  obtain ⟨n4, ⟨g1, g2, g3⟩ | ⟨g1, g2, g3, g4⟩⟩ := flush_cases (D := R3.2)
  rotate_left
  · exact ⟨n4.trans hn3, .inr ⟨g1, g2, hdur.core n4 g3 g4⟩⟩
  refine ⟨n4.trans hn3, .inl ⟨g1, g3, by rw [g2]; exact hz, fun k hk => ?_⟩⟩
  rw [n4, hn3] at hk
  rw [g2, hk3 _ (by omega)]
  exact hnow k hk

/-! ### the log -/
theorem logL_at {n i : Nat} {x : Int × Bytes} (hx : (logL f n)[i]? = some x) :
    (i < (keysF f n).length ∧ ∃ k, (keysF f n)[i]? = some k ∧ x = (17 + (i : Int), (f k).getD [])) ∨
    (∃ t, i = (keysF f n).length + t ∧ t < (4 * (keysF f n).length + 63) / 64 ∧ x = (1 + (t : Int), pieceB (numsB (keysF f n)) t)) := by
  unfold logL at hx
  by_cases h : i < (keysF f n).length
  · rw [List.getElem?_append_left (by simpa using h)] at hx
    obtain ⟨k, hk⟩ : ∃ k, (keysF f n)[i]? = some k := ⟨_, List.getElem?_eq_getElem h⟩
    rw [List.getElem?_map, List.getElem?_zipIdx, hk] at hx
    simp at hx
    exact .inl ⟨h, k, hk, hx.symm⟩
  · rw [List.getElem?_append_right (by simpa using h)] at hx
    simp only [List.length_map, List.length_zipIdx, List.getElem?_map] at hx
    by_cases ht : i - (keysF f n).length < (4 * (keysF f n).length + 63) / 64
    · rw [List.getElem?_range ht] at hx
      simp at hx
      exact .inr ⟨i - (keysF f n).length, by omega, ht, hx.symm⟩
    · rw [List.getElem?_eq_none (by simpa using ht)] at hx
      cases hx

theorem logL_dat {n i k : Nat} (hk : (keysF f n)[i]? = some k) : (logL f n)[i]? = some (17 + (i : Int), (f k).getD []) := by
  have h := (List.getElem?_eq_some_iff.1 hk).1
  unfold logL
  rw [List.getElem?_append_left (by simpa using h), List.getElem?_map, List.getElem?_zipIdx, hk]
  simp

theorem logL_idx {n t : Nat} (ht : t < (4 * (keysF f n).length + 63) / 64) : (logL f n)[(keysF f n).length + t]? = some (1 + (t : Int), pieceB (numsB (keysF f n)) t) := by
  unfold logL
  rw [List.getElem?_append_right (by simp)]
  simp [List.getElem?_range ht]

theorem logL_length (n : Nat) : (logL f n).length = (keysF f n).length + (4 * (keysF f n).length + 63) / 64 := by simp [logL]

/-- Behind j of the log's writes. -/
structure LogP (D0 : DevS) (f : Nat → Option Bytes) (j : Nat) (D : DevS) : Prop where
  n : D.n = D0.n
  last : D.last = D0.last
  wait : ∀ i b, D.wait i = some b → 1 ≤ i ∧ i < 300
  there : ∀ i x, i < j → (logL f (D0.n - 300))[i]? = some x → D.wait x.1.toNat = some x.2

theorem log_writes (hn : 300 < D.n) (hw : ∀ k, D.wait k = none) (hf : ∀ k b, f k = some b → b.length = 64 ∧ k < D.n - 300) (hK : (keysF f (D.n - 300)).length ≤ 256) :
    ∃ j, LogP D f j (D.writeL (logL f (D.n - 300))).2 ∧ ((D.writeL (logL f (D.n - 300))).1 = 0 ∧ j = (logL f (D.n - 300)).length ∨ (D.writeL (logL f (D.n - 300))).1 = 50 ∧ (D.writeL (logL f (D.n - 300))).2.dead = true) := by
  have key := writeL_ind (D := D) (ws := logL f (D.n - 300)) (fun j D' => LogP D f j D') ⟨rfl, rfl, fun i b h => (by rw [hw i] at h; cases h), fun i x h => (by omega)⟩
    (fun j D1 D2 h h1 h2 h3 => ⟨h1.trans h.n, h2.trans h.last, by rw [h3]; exact h.wait, by rw [h3]; exact h.there⟩)
    (by
      intro j x D' hx h
      have hr : 1 ≤ x.1.toNat ∧ x.1.toNat < 300 := by
        rcases logL_at hx with ⟨h1, k, hk, rfl⟩ | ⟨t, h1, h2, rfl⟩ <;> simp only <;> omega
      refine ⟨h.n, h.last, fun i b' h' => ?_, fun i y hi hy => ?_⟩
      · simp only [DevS.put] at h'
        by_cases e : i = x.1.toNat
        · omega
        · rw [upd_other _ e] at h'
          exact h.wait i b' h'
      · simp only [DevS.put]
        by_cases e : i = j
        · subst e
          obtain rfl : x = y := Option.some.inj (hx.symm.trans hy)
          rw [upd_same]
        · have hne : y.1.toNat ≠ x.1.toNat := by
            rcases logL_at hx with ⟨h1, k, hk, rfl⟩ | ⟨t, h1, h2, rfl⟩ <;> rcases logL_at hy with ⟨h3, k', hk', rfl⟩ | ⟨t', h3, h4, rfl⟩ <;> simp only <;> omega
          rw [upd_other _ hne]
          exact h.there i y (by omega) hy)
    (by
      intro x hx
      obtain ⟨i, hi⟩ := List.mem_iff_getElem?.1 hx
      rcases logL_at hi with ⟨h1, k, hk, rfl⟩ | ⟨t, h1, h2, rfl⟩
      · have hm := List.mem_of_getElem? hk
        obtain ⟨h3, h4⟩ := (by simpa [keysF] using hm : k < D.n - 300 ∧ (f k).isSome = true)
        obtain ⟨b, hb⟩ := Option.isSome_iff_exists.1 h4
        refine ⟨by simp only; omega, by simp only; omega, ?_⟩
        simp only [hb, Option.getD_some]
        exact (hf k b hb).1
      · refine ⟨by simp only; omega, by simp only; omega, ?_⟩
        simp only [pieceB, List.length_append, List.length_replicate, List.length_take, List.length_drop]
        omega)
  obtain ⟨j, hj, hP, hn', hr⟩ := key
  exact ⟨j, hP, hr⟩

theorem LogP.logged {D0 : DevS} (h : LogP D0 f (logL f (D0.n - 300)).length D) (hn : D.n - 300 = D0.n - 300) : Logged D.now f (D.n - 300) := by
  rw [hn]
  refine ⟨fun j k hk => ?_, fun i hi => ?_⟩
  · have hx := logL_dat hk
    have hl := (List.getElem?_eq_some_iff.1 hx).1
    have := h.there j _ hl hx
    unfold DevS.now
    rw [show (17 + (j : Int)).toNat = 17 + j from by omega] at this
    rw [this]
    rfl
  · have hx := logL_idx (f := f) hi
    have hl := (List.getElem?_eq_some_iff.1 hx).1
    have := h.there _ _ hl hx
    unfold DevS.now
    rw [show (1 + (i : Int)).toNat = 1 + i from by omega] at this
    rw [this]
    rfl

/-- The log: it is laid; or the store is the old one, or the new one. -/
theorem log_way (hn : 300 < D.n) (hn2 : D.n ≤ 8192) (hq : Quiet D c) (hf : ∀ k b, f k = some b → b.length = 64 ∧ k < D.n - 300) (hK0 : 0 < (keysF f (D.n - 300)).length) (hK : (keysF f (D.n - 300)).length ≤ 256) :
    (D.log f (D.n - 300)).2.n = D.n ∧
    ((D.log f (D.n - 300)).1 = 0 ∧ (∀ k, (D.log f (D.n - 300)).2.wait k = none) ∧ logFL (D.log f (D.n - 300)).2.last (D.n - 300) (numL (D.log f (D.n - 300)).2.last) = f ∧ (∀ k, k < D.n - 300 → (D.log f (D.n - 300)).2.last (300 + k) = c k) ∨
     (D.log f (D.n - 300)).1 = 50 ∧ (D.log f (D.n - 300)).2.dead = true ∧ Dur2 (D.log f (D.n - 300)).2 c (over f c)) := by
  have hfs : ∀ k, (f k).isSome = true → k < D.n - 300 := fun k hk => by
    obtain ⟨b, hb⟩ := Option.isSome_iff_exists.1 hk
    exact (hf k b hb).2
  have hne : f ≠ fun _ => none := by
    rintro rfl
    simp [keysF] at hK0
  obtain ⟨j, hP, hr⟩ := log_writes hn hq.wait hf hK
  unfold DevS.log
  generalize hR : D.writeL (logL f (D.n - 300)) = R at *
  -- while the log is written
  have hold : ∀ D' : DevS, D'.n = D.n → (∀ i, i = 0 ∨ 300 ≤ i → ∀ keep, D'.kept keep i = D.last i) → Dur D' c := by
    intro D' h1 h2 keep
    rw [h1]
    refine reads_nolog ?_ fun k hk => ?_
    · rw [← hq.num]
      exact numL_congr (h2 0 (.inl rfl) keep)
    · rw [h2 _ (.inr (by omega)) keep]
      exact hq.at_ k hk
  have hside : ∀ i, i = 0 ∨ 300 ≤ i → R.2.now i = D.last i := by
    intro i hi
    have hwi : R.2.wait i = none := by
      cases e : R.2.wait i with
      | none => rfl
      | some b => have := hP.wait i b e; omega
    simp [DevS.now, hwi, hP.last]
  have hD : Dur R.2 c := hold R.2 hP.n fun i hi keep => by
    unfold DevS.kept
    rw [hside i hi, hP.last]
    split <;> rfl
  rcases hr with ⟨hr, hj⟩ | ⟨hr, hdd⟩
  rotate_left
  · have hr' : R.1 ≠ 0 := by rw [hr]; decide
    rw [seqD_fail hr', seqD_fail hr', seqD_fail hr']
    exact ⟨hP.n, .inr ⟨hr, hdd, hD.left⟩⟩
  rw [seqD_ok hr]
  have hlogged := (hj ▸ hP : LogP D f (logL f (D.n - 300)).length R.2).logged (by rw [hP.n])
  rw [hP.n] at hlogged
  obtain ⟨n1, ⟨f1, f2, f3⟩ | ⟨f1, f2, f3, f4⟩⟩ := flush_cases (D := R.2)
  rotate_left
  · have hr' : R.2.flush.1 ≠ 0 := by rw [f1]; decide
    rw [seqD_fail hr', seqD_fail hr']
    exact ⟨n1.trans hP.n, .inr ⟨f1, f2, (hD.core n1 f3 f4).left⟩⟩
  rw [seqD_ok f1]
  generalize hR2 : R.2.flush = R2 at *
  have hn2' : R2.2.n = D.n := n1.trans hP.n
  obtain ⟨n2, hw2⟩ := write_cases (D := R2.2) (i := 0) (b := headB ((keysF f (D.n - 300)).length : Int)) (by omega) (by rw [hn2']; omega) (by simp)
  rcases hw2 with ⟨w1, D0, d1, d2, d3, d4⟩ | ⟨w1, w2, w3, w4⟩
  rotate_left
  · have hr' : (R2.2.write 0 (headB ((keysF f (D.n - 300)).length : Int))).1 ≠ 0 := by rw [w1]; decide
    rw [seqD_fail hr']
    refine ⟨n2.trans hn2', .inr ⟨w1, w2, ((hold R2.2 hn2' fun i hi keep => ?_).core n2 w3 w4).left⟩⟩
    rw [DevS.kept_still f3, f2]
    exact hside i hi
  rw [seqD_ok w1]
  generalize hR3 : R2.2.write 0 (headB ((keysF f (D.n - 300)).length : Int)) = R3 at *
  have hn3 : R3.2.n = D.n := n2.trans hn2'
  have hk3 : ∀ i, i ≠ 0 → R3.2.now i = R.2.now i := by
    intro i hi
    rw [d4]
    simp [DevS.now, DevS.put, upd_other _ hi, d3, f3, d2, f2]
  have hl3 : R3.2.last = R.2.now := by rw [d4]; show D0.last = _; rw [d2, f2]
  have hz : numL R3.2.now = (keysF f (D.n - 300)).length := by
    rw [d4]
    exact numL_head (by simp [DevS.now, DevS.put]) hK
  have hnew : ∀ L : Nat → Bytes, L 0 = R3.2.now 0 → (∀ i, i ≠ 0 → L i = R.2.now i) → logFL L (D.n - 300) (numL L) = f := by
    intro L h0 h1
    have e0 : numL L = (keysF f (D.n - 300)).length := (numL_congr h0).trans hz
    have e1 : Logged L f (D.n - 300) := ⟨fun j k hk => (h1 _ (by omega)).trans (hlogged.dat j k hk), fun i hi => (h1 _ (by omega)).trans (hlogged.idx i hi)⟩
    rw [e0]
    exact e1.says (by omega) hfs
  have hdur : Dur2 R3.2 c (over f c) := by
    intro keep
    rw [hn3]
    have hk : ∀ i, i ≠ 0 → R3.2.kept keep i = R.2.now i := by
      intro i hi
      unfold DevS.kept
      rw [hk3 i hi, hl3]
      split <;> rfl
    by_cases hk0 : keep 0 = true
    · refine .inr (reads_log (hnew _ (by simp [DevS.kept, hk0]) hk) hne fun k hkn => ?_)
      unfold over
      simp only [hk (300 + k) (by omega), hside (300 + k) (.inr (by omega)), hq.at_ k hkn]
    · refine .inl (reads_nolog ?_ fun k hkn => ?_)
      · rw [← hq.num]
        refine numL_congr ?_
        simp only [DevS.kept, hk0, hl3]
        exact hside 0 (.inl rfl)
      · rw [hk _ (by omega), hside _ (.inr (by omega))]
        exact hq.at_ k hkn
  obtain ⟨n4, ⟨g1, g2, g3⟩ | ⟨g1, g2, g3, g4⟩⟩ := flush_cases (D := R3.2)
  rotate_left
  · exact ⟨n4.trans hn3, .inr ⟨g1, g2, hdur.core n4 g3 g4⟩⟩
  refine ⟨n4.trans hn3, .inl ⟨g1, g3, ?_, fun k hk => ?_⟩⟩
  · rw [g2]
    exact hnew _ rfl hk3
  · rw [g2, hk3 _ (by omega), hside _ (.inr (by omega))]
    exact hq.at_ k hk

/-! ### a device that goes well -/
structure Well (D : DevS) : Prop where
  dead : D.dead = false
  fuse : D.fuse = -1

theorem Well.write (h : Well D) {i : Int} {b : Bytes} (h0 : 0 ≤ i) (hi : i < (D.n : Int)) (hb : b.length = 64) : (D.write i b).1 = 0 ∧ Well (D.write i b).2 ∧ (D.write i b).2.n = D.n := by
  have hwr : D.wrong i = 0 := by simp [DevS.wrong, h.dead]; omega
  have hw : D.write i b = (0, D.burned.put i.toNat b) := by simp [DevS.write, hwr, hb, h.fuse]
  rw [hw]
  exact ⟨rfl, ⟨h.dead, by show max (D.fuse - 1) (-1) = -1; rw [h.fuse]; rfl⟩, rfl⟩
theorem Well.flush (h : Well D) : D.flush.1 = 0 ∧ Well D.flush.2 ∧ D.flush.2.n = D.n := by
  have hw : D.flush = (0, D.burned.flushed) := by simp [DevS.flush, h.dead, h.fuse]
  rw [hw]
  exact ⟨rfl, ⟨h.dead, by show max (D.fuse - 1) (-1) = -1; rw [h.fuse]; rfl⟩, rfl⟩
theorem Well.writeL (h : Well D) {ws : List (Int × Bytes)} (hv : ∀ x ∈ ws, 0 ≤ x.1 ∧ x.1 < (D.n : Int) ∧ x.2.length = 64) : (D.writeL ws).1 = 0 ∧ Well (D.writeL ws).2 ∧ (D.writeL ws).2.n = D.n := by
  induction ws generalizing D with
  | nil => exact ⟨rfl, h, rfl⟩
  | cons x ws ih =>
    obtain ⟨v1, v2, v3⟩ := hv x (by simp)
    obtain ⟨h1, h2, h3⟩ := h.write v1 v2 v3
    have e : D.writeL (x :: ws) = seqD (D.write x.1 x.2) fun D' => D'.writeL ws := rfl
    rw [e, seqD_ok h1]
    obtain ⟨i1, i2, i3⟩ := ih h2 (fun y hy => by rw [h3]; exact hv y (by simp [hy]))
    exact ⟨i1, i2, i3.trans h3⟩
theorem Well.tail {r : Int × DevS} (hr : r.1 = 0) (hw : Well r.2) (hn : r.2.n = D.n) (h300 : 300 < D.n) (n : Int) :
    (seqD (seqD (seqD r DevS.flush) fun D => D.write 0 (headB n)) DevS.flush).1 = 0 ∧ Well (seqD (seqD (seqD r DevS.flush) fun D => D.write 0 (headB n)) DevS.flush).2 := by
  obtain ⟨f1, f2, f3⟩ := hw.flush
  rw [seqD_ok hr, seqD_ok f1]
  obtain ⟨w1, w2, w3⟩ := f2.write (i := 0) (b := headB n) (by omega) (by omega) (by simp)
  rw [seqD_ok w1]
  obtain ⟨g1, g2, g3⟩ := w2.flush
  exact ⟨g1, g2⟩
theorem Well.home (h : Well D) (hn : 300 < D.n) (hf : ∀ k b, f k = some b → b.length = 64 ∧ k < D.n - 300) : (D.home f (D.n - 300)).1 = 0 ∧ Well (D.home f (D.n - 300)).2 := by
  obtain ⟨h1, h2, h3⟩ := h.writeL (ws := homeL f (D.n - 300)) (fun x hx => by
    obtain ⟨k, h1, h2, h3⟩ := mem_homeL hx
    exact ⟨by omega, by omega, (hf k _ h3).1⟩)
  exact Well.tail h1 h2 h3 hn 0
theorem Well.log (h : Well D) (hn : 300 < D.n) (hf : ∀ k b, f k = some b → b.length = 64 ∧ k < D.n - 300) (hK : (keysF f (D.n - 300)).length ≤ 256) : (D.log f (D.n - 300)).1 = 0 ∧ Well (D.log f (D.n - 300)).2 := by
  obtain ⟨h1, h2, h3⟩ := h.writeL (ws := logL f (D.n - 300)) (fun x hx => by
    obtain ⟨i, hi⟩ := List.mem_iff_getElem?.1 hx
    rcases logL_at hi with ⟨h1, k, hk, rfl⟩ | ⟨t, h1, h2, rfl⟩
    · have hm := List.mem_of_getElem? hk
      obtain ⟨h3, h4⟩ := (by simpa [keysF] using hm : k < D.n - 300 ∧ (f k).isSome = true)
      obtain ⟨b, hb⟩ := Option.isSome_iff_exists.1 h4
      refine ⟨by simp only; omega, by simp only; omega, ?_⟩
      simp only [hb, Option.getD_some]
      exact (hf k b hb).1
    · refine ⟨by simp only; omega, by simp only; omega, ?_⟩
      simp only [pieceB, List.length_append, List.length_replicate, List.length_take, List.length_drop]
      omega)
  exact Well.tail h1 h2 h3 hn _
end
end Go.Lz
