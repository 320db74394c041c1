/-
  The device's methods, each for every device: what they answer and what the device is then.
-/
import Derived.Test.YtbnoebdpbpjbkaaLaw1a
namespace Go.Proofs.Ytbnoebdpbpjbkaa
open Go.RowKit Go.Lz

def _root_.Go.Lz.DevS.write (S : DevS) (i : Int) (b : Bytes) : Int × DevS :=
  if S.wrong i ≠ 0 then (S.wrong i, S) else if b.length ≠ 64 then (1, S) else if S.fuse = 0 then (50, S.killed) else (0, S.burned.put i.toNat b)
def _root_.Go.Lz.DevS.flush (S : DevS) : Int × DevS :=
  if S.dead = true then (50, S) else if S.fuse = 0 then (50, S.killed) else (0, S.burned.flushed)

/-- An error's number, and the device. -/
def ErrPost (w : World) (p : Nat) (r : Int × DevS) (F : Nat → Prop) (e : Ending) (w' : World) : Prop :=
  e = .returned (.int .i64 r.1) ∧ DevAt Try.prog w' p r.2 (ext F w w') ∧ Chg F w w'
/-- The same, and no plain byte row of the device has turned. -/
def ErrOwn (w : World) (p : Nat) (r : Int × DevS) (F : Nat → Prop) (e : Ending) (w' : World) : Prop :=
  e = .returned (.int .i64 r.1) ∧ DevAt Try.prog w' p r.2 (ext F w w') ∧ Chg (ownF F w) w w'
def DonePost (w : World) (p : Nat) (S : DevS) (F : Nat → Prop) (v : Value) (e : Ending) (w' : World) : Prop :=
  e = .returned v ∧ DevAt Try.prog w' p S (ext F w w') ∧ Chg F w w'

section
variable {w : World} {p : Nat} {S : DevS} {F : Nat → Prop}

theorem wrong_zero {i : Int} (h : S.wrong i = 0) : S.dead = false ∧ 0 ≤ i ∧ i < S.n := by
  unfold DevS.wrong at h
  split at h
  · cases h
  · split at h
    · cases h
    · rename_i h1 h2
      simp at h1
      exact ⟨h1, by omega, by omega⟩

theorem at_ext {w' : World} (h' : DevAt Try.prog w' p S F) (_hs : w.heap.size ≤ w'.heap.size) : DevAt Try.prog w' p S (ext F w w') :=
  h'.mono (fun _ hj => .inl hj) fun j hj => hj.elim (h'.lt j) (·.2)

theorem write_own (h : DevAt Try.prog w p S F) {v : Value} {b : Bytes} {G : Nat → Prop} (hv : Src 5 w G v b) (i : Int) :
    Calls Try.prog 22 #[Dptr p, .int .i64 i, v] w (ErrOwn w p (S.write i b) F) := by
  obtain ⟨lv, m, vs, vf, c, hD⟩ := h
  have h0 := hD.at_
  unfold DevS.write
  by_cases h1 : S.wrong i = 0
  · rw [if_neg (by simpa using h1)]
    by_cases h2 : b.length = 64
    · rw [if_neg (by simpa using h2)]
      by_cases h3 : S.fuse = 0
      · rw [if_pos h3]
        obtain ⟨g, off, cap, cur, fr, rfl, _⟩ := hv
        rw [h2]
        refine (write_burnt hD i h1 h3 _ cap).mono ?_
        rintro e w' ⟨rfl, h4, h5⟩
        exact ⟨rfl, (at_ext (w := w') h4.at_ (Nat.le_refl _)).mono (fun j hj => hj.elim .inl (fun h => absurd h.2 (by omega))) (fun j hj => hj.elim (h4.Flt j) (·.2)), h5.mono fun j _ e => by subst e; exact hD.own_p⟩
      · rw [if_neg h3]
        obtain ⟨hd, hi, hn⟩ := wrong_zero h1
        obtain ⟨k, rfl⟩ := Int.eq_ofNat_of_zero_le hi
        exact (write_ok hD hd (by omega) h3 hv h2).mono fun e w' h => h
    · rw [if_pos h2]
      obtain ⟨g, off, cap, cur, fr, rfl, _⟩ := hv
      refine (write_len hD i h1 _ _ cap h2).mono ?_
      rintro e w' ⟨rfl, rfl⟩
      exact ⟨rfl, at_ext h0 (Nat.le_refl _), Chg.refl _ _⟩
  · rw [if_pos h1]
    refine (write_wrong hD i h1 v).mono ?_
    rintro e w' ⟨rfl, rfl⟩
    exact ⟨rfl, at_ext h0 (Nat.le_refl _), Chg.refl _ _⟩

/-- What a read hands back: nothing and an error; or a new slice. -/
def ReadOwn (w : World) (p : Nat) (S : DevS) (F : Nat → Prop) (i : Int) (e : Ending) (w' : World) : Prop :=
  (S.wrong i ≠ 0 ∧ e = .returned (.tuple #[.slice none 0 0, .int .i64 (S.wrong i)]) ∧ DevAt Try.prog w' p S F ∧ w = w') ∨
  (S.wrong i = 0 ∧ ∃ v g, e = .returned (.tuple #[v, .int .i64 0]) ∧ Dat 5 w' (· = g) v (S.now i.toNat) ∧ w.heap.size ≤ g ∧ DevAt Try.prog w' p S.counted F ∧ Chg (ownF F w) w w')

theorem read_own (h : DevAt Try.prog w p S F) (i : Int) : Calls Try.prog 19 #[Dptr p, .int .i64 i] w (ReadOwn w p S F i) := by
  obtain ⟨lv, m, vs, vf, c, hD⟩ := h
  by_cases h1 : S.wrong i = 0
  · obtain ⟨hd, hi, hn⟩ := wrong_zero h1
    obtain ⟨k, rfl⟩ := Int.eq_ofNat_of_zero_le hi
    refine (read_ok hD hd (k := k) (by omega)).mono ?_
    rintro e w' ⟨v, g, rfl, h2, h3, h4, h5⟩
    exact .inr ⟨h1, v, g, rfl, h2, h3, h4.at_, h5.mono fun j _ e => by subst e; exact hD.own_p⟩
  · refine (read_bad hD i h1).mono ?_
    rintro e w' ⟨rfl, rfl⟩
    exact .inl ⟨h1, rfl, hD.at_, rfl⟩

set_option maxHeartbeats 400000 in
theorem flush_bad (hd : S.dead = true) (h : DevAt Try.prog w p S F) : Calls Try.prog 21 #[Dptr p] w fun e w' => e = .returned (.int .i64 50) ∧ w = w' := by
  obtain ⟨lv, m, vs, vf, c, hD⟩ := h
  have h4 : w.cell? ⟨p, 4, none⟩ = some (.bool true) := hd ▸ cell_of hD.blk 4
  go_enter Try.func21, Try.ntmps21
  go_wp2
  go_ret
  exact ⟨rfl, rfl⟩

set_option maxHeartbeats 400000 in
theorem flush_burnt (hd : S.dead = false) (hf : S.fuse = 0) {lv : Value} {m : Nat} {vs : List Value} {vf : Nat → Option Value} {c : Nat} (hD : DevIn Try.prog w p S F lv m vs vf c) : Calls Try.prog 21 #[Dptr p] w fun e w' => e = .returned (.int .i64 50) ∧ DevIn Try.prog w' p S.killed F lv m vs vf c ∧ Chg (· = p) w w' := by
  have h4 : w.cell? ⟨p, 4, none⟩ = some (.bool false) := hd ▸ cell_of hD.blk 4
  have hf' : Hid (S.fuse = 0) := hf
  clear hf hd
  go_enter Try.func21, Try.ntmps21
  go_wp2_with (go_at_call 64; refine (burn_dead hD hf'.out).mono ?_; rintro e w1 ⟨rfl, hD1, hc1⟩)
  go_ret
  exact ⟨rfl, hD1, hc1⟩

theorem flush_own (h : DevAt Try.prog w p S F) : Calls Try.prog 21 #[Dptr p] w (ErrOwn w p S.flush F) := by
  obtain ⟨lv, m, vs, vf, c, hD⟩ := h
  have h0 := hD.at_
  unfold DevS.flush
  by_cases hd : S.dead = true
  · rw [if_pos hd]
    refine (flush_bad hd h0).mono ?_
    rintro e w' ⟨rfl, rfl⟩
    exact ⟨rfl, at_ext h0 (Nat.le_refl _), Chg.refl _ _⟩
  · rw [if_neg hd]
    simp only [Bool.not_eq_true] at hd
    by_cases hf : S.fuse = 0
    · rw [if_pos hf]
      refine (flush_burnt hd hf hD).mono ?_
      rintro e w' ⟨rfl, h4, h5⟩
      exact ⟨rfl, h4.at_.mono (fun j hj => .inl hj) (fun j hj => hj.elim (h4.Flt j) (·.2)), h5.mono fun j _ e => by subst e; exact hD.own_p⟩
    · rw [if_neg hf]
      exact (flush_ok hD hd hf).mono fun e w' h => h

theorem crash_own (h : DevAt Try.prog w p S F) (flip : Bool) {G : Nat → Prop} {v : Value} {l : List Int} (hv : IntsAt w G v l) (hG : ∀ k, G k → ¬ F k) :
    Calls Try.prog 24 #[Dptr p, .bool flip, v] w (DoneOwn w p (S.crashed flip l) F (.tuple #[])) := by
  obtain ⟨lv, m, vs, vf, c, hD⟩ := h
  exact crash_any hD flip hv hG

theorem write_any (h : DevAt Try.prog w p S F) {v : Value} {b : Bytes} {G : Nat → Prop} (hv : Src 5 w G v b) (i : Int) : Calls Try.prog 22 #[Dptr p, .int .i64 i, v] w (ErrPost w p (S.write i b) F) :=
  (write_own h hv i).mono fun _ _ h => ⟨h.1, h.2.1, h.2.2.mono fun _ _ e => e.1⟩
theorem flush_any (h : DevAt Try.prog w p S F) : Calls Try.prog 21 #[Dptr p] w (ErrPost w p S.flush F) :=
  (flush_own h).mono fun _ _ h => ⟨h.1, h.2.1, h.2.2.mono fun _ _ e => e.1⟩
theorem crash_any' (h : DevAt Try.prog w p S F) (flip : Bool) {G : Nat → Prop} {v : Value} {l : List Int} (hv : IntsAt w G v l) (hG : ∀ k, G k → ¬ F k) : Calls Try.prog 24 #[Dptr p, .bool flip, v] w (DonePost w p (S.crashed flip l) F (.tuple #[])) :=
  (crash_own h flip hv hG).mono fun _ _ h => ⟨h.1, h.2.1, h.2.2.mono fun _ _ e => e.1⟩

/-- What a read hands back: nothing and an error; or a new slice. -/
def ReadAny (w : World) (p : Nat) (S : DevS) (F : Nat → Prop) (i : Int) (e : Ending) (w' : World) : Prop :=
  (S.wrong i ≠ 0 ∧ e = .returned (.tuple #[.slice none 0 0, .int .i64 (S.wrong i)]) ∧ DevAt Try.prog w' p S F ∧ w = w') ∨
  (S.wrong i = 0 ∧ ∃ v g, e = .returned (.tuple #[v, .int .i64 0]) ∧ Dat 5 w' (· = g) v (S.now i.toNat) ∧ w.heap.size ≤ g ∧ DevAt Try.prog w' p S.counted F ∧ Chg F w w')

theorem read_any (h : DevAt Try.prog w p S F) (i : Int) : Calls Try.prog 19 #[Dptr p, .int .i64 i] w (ReadAny w p S F i) :=
  (read_own h i).mono fun _ _ h => h.imp id fun ⟨h0, v, g, h1, h2, h3, h4, h5⟩ => ⟨h0, v, g, h1, h2, h3, h4, h5.mono fun _ _ e => e.1⟩
end
end Go.Proofs.Ytbnoebdpbpjbkaa
