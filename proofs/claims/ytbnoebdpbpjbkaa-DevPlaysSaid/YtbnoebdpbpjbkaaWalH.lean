/-
  A store that lives, call by call: what it tells and what lasts. Plain.
-/
import Derived.Test.YtbnoebdpbpjbkaaWalG
namespace Go.Lz
open Go.RowKit

theorem filter_one (n k : Nat) : ((List.range n).filter fun j => decide (j = k)).length ≤ if k < n then 1 else 0 := by
  induction n with
  | zero => simp
  | succ n ih =>
    rw [List.range_succ, List.filter_append, List.length_append]
    by_cases e : n = k
    · subst e
      simp at ih ⊢
      exact ih
    · simp [e]
      split at ih <;> split <;> omega

theorem keysF_upd_some {f : Nat → Option Bytes} {n k : Nat} {b : Bytes} (h : (f k).isSome = true) : keysF (upd f k (some b)) n = keysF f n := by
  unfold keysF
  congr 1
  funext j
  by_cases e : j = k
  · subst e; simp [h]
  · rw [upd_other _ e]

theorem keysF_upd_le (f : Nat → Option Bytes) (n k : Nat) (b : Bytes) : (keysF (upd f k (some b)) n).length ≤ (keysF f n).length + 1 := by
  have e : upd f k (some b) = fun j => ((if j = k then some b else none : Option Bytes)).or (f j) := by
    funext j
    by_cases e : j = k
    · subst e; simp
    · rw [upd_other _ e]; simp [e]
  have h := keysF_or_length (fun j => (if j = k then some b else none : Option Bytes)) f n
  rw [← e] at h
  have h1 : (keysF (fun j => (if j = k then some b else none : Option Bytes)) n).length ≤ 1 := by
    have e2 : (fun j => ((if j = k then some b else none : Option Bytes)).isSome) = fun j => decide (j = k) := by
      funext j
      by_cases e : j = k <;> simp [e]
    have := filter_one n k
    unfold keysF
    rw [e2]
    split at this <;> omega
  omega

section
variable {S : WalS} {g0 : Nat → Bytes} {n c : Nat}

theorem Live.wrong (h : Live S g0) {i : Int} (h0 : 0 ≤ i) (hi : i < S.size) : S.wrong i = 0 := by
  unfold WalS.wrong
  rw [if_neg (by simp [h.isDead]), if_neg (by omega)]
theorem Live.wrong_arg (h : Live S g0) {i : Int} (hi : i < 0 ∨ (S.size : Int) ≤ i) : S.wrong i = 1 := by
  unfold WalS.wrong
  rw [if_neg (by simp [h.isDead]), if_pos hi]

theorem Live.setNow (h : Live S g0) {now : Nat → Option Bytes} (hb : ∀ k b, now k = some b → b.length = 64 ∧ k < S.size) (hn : (keysF now S.size).length ≤ 128) : Live { S with now := now } g0 :=
  ⟨⟨h.ok.n, hb, h.ok.wait⟩, h.dok, h.dead, h.ddead, h.quiet, h.waitN, hn⟩

/-- A write that may be. -/
theorem Live.write (h : Live S g0) {k : Nat} {b : Bytes} (hk : k < S.size) (hb : b.length = 64) (hm : (S.now k).isSome = true ∨ S.nowN < 128) :
    S.write (k : Int) b = (0, { S with now := upd S.now k (some b) }) ∧ Live { S with now := upd S.now k (some b) } g0 := by
  have hw := h.wrong (i := (k : Int)) (by omega) (by omega)
  refine ⟨?_, h.setNow (fun j c hj => ?_) ?_⟩
  · unfold WalS.write
    rw [if_neg (by simp [hw]), if_neg (by simp [hb]), Int.toNat_natCast, if_neg (fun h1 => hm.elim (fun h2 => by rw [h2] at h1; cases h1.1) (fun h2 => by omega))]
  · by_cases e : j = k
    · subst e
      rw [upd_same] at hj
      cases hj
      exact ⟨hb, hk⟩
    · rw [upd_other _ e] at hj
      exact h.ok.now j c hj
  · rcases hm with hm | hm
    · rw [keysF_upd_some hm]
      exact h.nowN
    · have := keysF_upd_le S.now S.size k b
      unfold WalS.nowN at hm
      omega
theorem Live.write_arg (h : Live S g0) {i : Int} {b : Bytes} (hi : i < 0 ∨ (S.size : Int) ≤ i ∨ b.length ≠ 64) : S.write i b = (1, S) := by
  unfold WalS.write
  by_cases hi' : i < 0 ∨ (S.size : Int) ≤ i
  · rw [h.wrong_arg hi', if_pos (by decide)]
  · rw [h.wrong (by omega) (by omega), if_neg (by decide), if_pos (by omega)]
theorem Live.write_big (h : Live S g0) {k : Nat} {b : Bytes} (hk : k < S.size) (hb : b.length = 64) (hm : (S.now k).isSome = false) (hn : 128 ≤ S.nowN) : S.write (k : Int) b = (5, S) := by
  unfold WalS.write
  rw [h.wrong (by omega) (by omega), if_neg (by decide), if_neg (by simp [hb]), Int.toNat_natCast, if_pos ⟨hm, hn⟩]

theorem Live.get (h : Live S g0) {k : Nat} (hk : k < S.size) : S.get k = over S.now (over S.wait g0) k := by
  unfold WalS.get over
  rw [h.quiet.now hk]

theorem Live.counted (h : Live S g0) : Live { S with dev := S.dev.counted } g0 :=
  ⟨⟨h.ok.n, h.ok.now, h.ok.wait⟩, h.dok.counted, h.dead, h.ddead, h.quiet.core rfl rfl rfl, h.waitN, h.nowN⟩
theorem Live.asked (h : Live S g0) (k : Nat) : Live (S.asked k) g0 := by
  unfold WalS.asked
  split
  · exact h
  · exact h.counted
theorem Live.aborted (h : Live S g0) : Live S.aborted g0 := h.setNow (fun _ _ e => by cases e) (by rw [keysF_none]; simp)
end

@[simp] theorem WalS.asked_now (S : WalS) (k : Nat) : (S.asked k).now = S.now := by unfold WalS.asked; split <;> rfl
@[simp] theorem WalS.asked_wait (S : WalS) (k : Nat) : (S.asked k).wait = S.wait := by unfold WalS.asked; split <;> rfl
@[simp] theorem WalS.asked_all (S : WalS) (k : Nat) : (S.asked k).all = S.all := by unfold WalS.asked; split <;> rfl
@[simp] theorem WalS.asked_lasting (S : WalS) (k : Nat) : (S.asked k).lasting = S.lasting := by unfold WalS.asked; split <;> rfl
@[simp] theorem WalS.asked_size (S : WalS) (k : Nat) : (S.asked k).size = S.size := by unfold WalS.asked; split <;> rfl
theorem WalS.asked_well {S : WalS} (h : Well S.dev) (k : Nat) : Well (S.asked k).dev := by
  unfold WalS.asked
  split
  · exact h
  · exact ⟨h.dead, h.fuse⟩
@[simp] theorem WalS.asked_fuse (S : WalS) (k : Nat) : (S.asked k).dev.fuse = S.dev.fuse := by unfold WalS.asked; split <;> rfl

/-! ### a store and its history -/
/-- c transactions were committed; 'h i' is what the store was behind i of them; what lasts is one of these, no less than what is told as lasting. -/
structure Rec (S : WalS) (n c d : Nat) (h : Nat → Nat → Bytes) : Prop where
  ex : ∃ g0, Live S g0 ∧ (∀ k, k < n → g0 k = h d k) ∧ (∀ k, k < n → over S.wait g0 k = h c k)
  size : S.size = n
  all : S.all = (c : Int)
  last : 0 ≤ S.lasting ∧ S.lasting ≤ (d : Int)
  le : d ≤ c
  small : c ≤ 1000000

section
variable {S : WalS} {n c d : Nat} {h : Nat → Nat → Bytes}

theorem Rec.live (r : Rec S n c d h) : ∃ g0, Live S g0 := by
  obtain ⟨g0, hl, _⟩ := r.ex
  exact ⟨g0, hl⟩
theorem Rec.get (r : Rec S n c d h) {k : Nat} (hk : k < n) : S.get k = over S.now (h c) k := by
  obtain ⟨g0, hl, h1, h2⟩ := r.ex
  rw [hl.get (by rw [r.size]; exact hk)]
  show (S.now k).getD (over S.wait g0 k) = (S.now k).getD (h c k)
  rw [h2 k hk]
theorem Rec.write (r : Rec S n c d h) {k : Nat} {b : Bytes} (hk : k < n) (hb : b.length = 64) (hm : (S.now k).isSome = true ∨ (keysF S.now n).length < 128) :
    S.write (k : Int) b = (0, { S with now := upd S.now k (some b) }) ∧ Rec { S with now := upd S.now k (some b) } n c d h := by
  obtain ⟨g0, hl, h1, h2⟩ := r.ex
  obtain ⟨h3, h4⟩ := hl.write (b := b) (by rw [r.size]; exact hk) hb (by unfold WalS.nowN; rw [r.size]; exact hm)
  exact ⟨h3, ⟨⟨g0, h4, h1, h2⟩, r.size, r.all, r.last, r.le, r.small⟩⟩
theorem Rec.asked (r : Rec S n c d h) (k : Nat) : Rec (S.asked k) n c d h := by
  obtain ⟨g0, hl, h1, h2⟩ := r.ex
  exact ⟨⟨g0, hl.asked k, h1, by simpa using h2⟩, by simpa using r.size, by simpa using r.all, by simpa using r.last, r.le, r.small⟩
theorem Rec.aborted (r : Rec S n c d h) : Rec S.aborted n c d h := by
  obtain ⟨g0, hl, h1, h2⟩ := r.ex
  exact ⟨⟨g0, hl.aborted, h1, h2⟩, r.size, r.all, r.last, r.le, r.small⟩

/-- Sync: all lasts; or power failed. -/
theorem Rec.sync (r : Rec S n c d h) :
    (S.sync.1 = 0 ∧ Rec S.sync.2 n c c h ∧ S.sync.2.now = S.now ∧ S.sync.2.lasting = (c : Int) ∧ (∀ k, S.sync.2.wait k = none) ∧ (Well S.dev → Well S.sync.2.dev)) ∨
    (S.sync.1 = 50 ∧ S.sync.2.dev.dead = true ∧ S.sync.2.dead = true ∧ S.sync.2.dev.n = S.dev.n ∧ S.sync.2.dev.ok ∧ Dur2 S.sync.2.dev (h d) (h c) ∧ S.sync.2.all = (c : Int) ∧ S.sync.2.lasting = S.lasting ∧ ¬ Well S.dev) := by
  obtain ⟨g0, hl, h1, h2⟩ := r.ex
  rcases hl.sync with ⟨s1, s2, s3, s4, s5, s6, s7, s8⟩ | ⟨s1, s2, s3, s4, s5, s6, s7, s8, s9, s10⟩
  · refine .inl ⟨s1, ⟨⟨_, s2, h2, fun k hk => ?_⟩, ?_, s5.trans r.all, ?_, Nat.le_refl _, r.small⟩, s3, s6.trans r.all, s4, s8⟩
    · show (S.sync.2.wait k).getD (over S.wait g0 k) = h c k
      rw [s4 k]
      exact h2 k hk
    · have : S.sync.2.size = S.size := congrArg (fun n => n - 300) s7
      rw [this, r.size]
    · rw [s6, r.all]
      omega
  · refine .inr ⟨s1, s3, s2, s4, s7, fun keep => ?_, s8.trans r.all, s9, s10⟩
    have hn : S.sync.2.dev.n - 300 = n := by rw [s4]; exact r.size
    have := s5 keep
    rw [hn] at this ⊢
    exact this.imp (fun h3 => ⟨h3.1, fun k hk => (h3.2 k hk).trans (h1 k hk)⟩) (fun h3 => ⟨h3.1, fun k hk => (h3.2 k hk).trans (h2 k hk)⟩)

/-- Commit. -/
theorem Rec.commit (r : Rec S n c d h) (hs : c < 1000000) (h' : Nat → Nat → Bytes) (hold : ∀ i, i ≤ c → h' i = h i) (hnew : ∀ k, k < n → h' (c + 1) k = over S.now (h c) k) :
    (S.commit.1 = 0 ∧ (∃ d', d ≤ d' ∧ Rec S.commit.2 n (c + 1) d' h') ∧ S.commit.2.now = (fun _ => none) ∧ (Well S.dev → Well S.commit.2.dev)) ∨
    (S.commit.1 = 50 ∧ S.commit.2.dev.dead = true ∧ S.commit.2.dead = true ∧ S.commit.2.dev.n = S.dev.n ∧ S.commit.2.dev.ok ∧ Dur2 S.commit.2.dev (h d) (h c) ∧ S.commit.2.all = (c : Int) ∧ S.commit.2.lasting = S.lasting ∧ ¬ Well S.dev) := by
  obtain ⟨g0, hl, h1, h2⟩ := r.ex
  rcases hl.commit with ⟨s1, S1, g1, l1, e1, n1, a1, dn1, w1, wl1, ho⟩ | ⟨s1, s2, s3, s4, s5, s6, s7, s8, s9, s10⟩
  · refine .inl ⟨s1, ?_, by rw [e1]; rfl, fun hw => by rw [e1]; exact wl1 hw⟩
    rw [e1]
    have hwr : wrap64 (S1.all + 1) = ((c + 1 : Nat) : Int) := by
      rw [a1, r.all]
      unfold wrap64
      omega
    have hsz : S1.size = n := by
      have : S1.size = S.size := congrArg (fun n => n - 300) dn1
      rw [this, r.size]
    have hld := l1.done w1
    -- what lasts below S1, and how much is told
    obtain ⟨d1, hd1, hd1c, hg1, hlast, hov⟩ : ∃ d1, d ≤ d1 ∧ d1 ≤ c ∧ (∀ k, k < n → g1 k = h d1 k) ∧ (0 ≤ S1.lasting ∧ S1.lasting ≤ (d1 : Int)) ∧ (∀ k, k < n → over S1.wait g1 k = h c k) := by
      rcases ho with ⟨rfl, rfl⟩ | ⟨rfl, hw0, hls⟩
      · exact ⟨d, Nat.le_refl _, r.le, h1, r.last, h2⟩
      · refine ⟨c, r.le, Nat.le_refl _, h2, by rw [hls, r.all]; omega, fun k hk => ?_⟩
        show (S1.wait k).getD _ = _
        rw [hw0 k]
        exact h2 k hk
    have hbov : ∀ k, k < n → over S1.both g1 k = h' (c + 1) k := by
      intro k hk
      have e : over S1.both g1 k = over S1.now (over S1.wait g1) k := congrFun (over_or S1.now S1.wait g1) k
      rw [e, hnew k hk, n1]
      show (S.now k).getD (over S1.wait g1 k) = (S.now k).getD (h c k)
      rw [hov k hk]
    by_cases hk : keysF S1.both S1.size = []
    · have hnone : S1.both = fun _ => none := keysF_nil hk (fun k hk => by
        have hb := (l1.done w1).ok.waitB
        exact hb k hk)
      refine ⟨c + 1, by omega, ⟨⟨g1, hld, fun k hkn => ?_, hbov⟩, hsz, hwr, ?_, Nat.le_refl _, by omega⟩⟩
      · rw [← hbov k hkn]
        show g1 k = (S1.both k).getD (g1 k)
        rw [hnone]
        rfl
      · have e : S1.done.lasting = wrap64 (S1.all + 1) := by unfold WalS.done; simp only [if_pos hk]
        rw [e, hwr]
        omega
    · refine ⟨d1, hd1, ⟨⟨g1, hld, fun k hkn => (hg1 k hkn).trans (by rw [hold d1 hd1c]), hbov⟩, hsz, hwr, ?_, by omega, by omega⟩⟩
      have e : S1.done.lasting = S1.lasting := by unfold WalS.done; simp only [if_neg hk]
      rw [e]
      exact hlast
  · refine .inr ⟨s1, s3, s2, s4, s7, fun keep => ?_, s8.trans r.all, s9, s10⟩
    have hn : S.commit.2.dev.n - 300 = n := by rw [s4]; exact r.size
    have := s5 keep
    rw [hn] at this ⊢
    exact this.imp (fun h3 => ⟨h3.1, fun k hk => (h3.2 k hk).trans (h1 k hk)⟩) (fun h3 => ⟨h3.1, fun k hk => (h3.2 k hk).trans (h2 k hk)⟩)

/-- The store of a device that was opened. -/
theorem Rec.opened {D : DevS} {g : Nat → Bytes} (hok : D.ok) (hn : 300 < D.n) (hd : D.dead = false) (hw : ∀ k, D.wait k = none) (hr : Reads D.last (D.n - 300) g) (hh : ∀ k, k < D.n - 300 → h 0 k = g k) :
    (D.opened.1 = 0 ∧ Rec (WalS.new D.opened.2) (D.n - 300) 0 0 h ∧ (Well D → Well D.opened.2)) ∨ (D.opened.1 = 50 ∧ D.opened.2.dead = true ∧ D.opened.2.n = D.n ∧ D.opened.2.ok ∧ Dur D.opened.2 g ∧ ¬ Well D) := by
  obtain ⟨o1, ⟨o2, o3⟩ | ⟨o2, o3, o4⟩⟩ := opened_way hok hn hd hw hr
  · refine .inl ⟨o2, ⟨⟨g, Live.opened hok.opened (by rw [o1]; exact hn) (opened_alive o2) o3, fun k hk => (hh k hk).symm, fun k hk => (hh k hk).symm⟩, ?_, rfl, by simp [WalS.new], Nat.le_refl _, by omega⟩, fun hw' => (hw'.opened hok hn).2⟩
    show (WalS.new D.opened.2).dev.n - 300 = _
    rw [show (WalS.new D.opened.2).dev.n = D.opened.2.n from rfl, o1]
  · exact .inr ⟨o2, o3, o1, hok.opened, o4, fun hw' => absurd ((hw'.opened hok hn).1.symm.trans o2) (by decide)⟩

/-- A new device's store is noughts. -/
theorem new_reads (n m : Nat) : Reads (DevS.new n).last m (fun _ => zero64) := by
  refine reads_nolog ?_ fun _ _ => rfl
  have : numB zero64 = 0 := by decide
  show numL (fun _ => zero64) = 0
  unfold numL
  rw [this]
  rfl
end
end Go.Lz
