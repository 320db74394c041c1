/-
  The plain store: opened, synced, committed.
-/
import Derived.Test.YtbnoebdpbpjbkaaWalT
namespace Go.Lz
open Go.RowKit

/-- The device that an opening leaves, and the error. -/
def DevS.opened (D : DevS) : Int × DevS :=
  if D.n ≤ 300 then (1, D) else if D.dead = true then (50, D) else
  if keysF (logFL D.now (D.n - 300) (numL D.now)) (D.n - 300) = [] then (0, D.countedN (1 + 2 * numL D.now)) else (D.countedN (1 + 2 * numL D.now)).home (logFL D.now (D.n - 300) (numL D.now)) (D.n - 300)
def WalS.new (D : DevS) : WalS := ⟨D, fun _ => none, fun _ => none, 0, 0, false⟩

namespace WalS
def synced (S : WalS) (r : Int × DevS) : Int × WalS := if r.1 = 0 then (0, { S with dev := r.2, wait := fun _ => none, lasting := S.all }) else (r.1, { S with dev := r.2, dead := true })
def sync (S : WalS) : Int × WalS :=
  if S.isDead = true then (50, { S with dead := true }) else
  if S.waitN = 0 then (0, { S with wait := fun _ => none, lasting := S.all }) else
  S.synced (seqD (S.dev.log S.wait S.size) fun D => D.home S.wait S.size)
def both (S : WalS) (k : Nat) : Option Bytes := (S.now k).or (S.wait k)
def done (S : WalS) : WalS := { S with wait := S.both, now := fun _ => none, all := wrap64 (S.all + 1), lasting := if keysF S.both S.size = [] then wrap64 (S.all + 1) else S.lasting }
def commit (S : WalS) : Int × WalS :=
  if S.isDead = true then (50, S) else
  if 256 < S.waitN + S.nowN then (if S.sync.1 = 0 then (0, S.sync.2.done) else S.sync) else (0, S.done)
end WalS

theorem keysF_none (n : Nat) : keysF (fun _ => none) n = [] := by simp [keysF]
theorem waitN_none {S : WalS} (h : S.wait = fun _ => none) : S.waitN = 0 := by unfold WalS.waitN; rw [h, keysF_none]; rfl
theorem nowN_none {S : WalS} (h : S.now = fun _ => none) : S.nowN = 0 := by unfold WalS.nowN; rw [h, keysF_none]; rfl
theorem keysF_nil {f : Nat → Option Bytes} {n : Nat} (h : keysF f n = []) (hf : ∀ k, (f k).isSome = true → k < n) : f = fun _ => none := by
  funext k
  cases hk : f k with
  | none => rfl
  | some b =>
    have : k ∈ keysF f n := by simp [keysF, hf k (by rw [hk]; rfl), hk]
    rw [h] at this
    cases this

section
variable {D : DevS} {g g0 : Nat → Bytes} {S : WalS}

theorem Well.countedN (h : Well D) (k : Nat) : Well (D.countedN k) := ⟨by simpa using h.dead, by simpa using h.fuse⟩
theorem Well.crashed (flip : Bool) (l : List Int) : Well (D.crashed flip l) := ⟨rfl, rfl⟩
theorem Dur.crashed (h : Dur D g) (flip : Bool) (l : List Int) : Reads (D.crashed flip l).last ((D.crashed flip l).n - 300) g := h _
theorem Dur2.crashed {h' : Nat → Bytes} (h : Dur2 D g h') (flip : Bool) (l : List Int) : Reads (D.crashed flip l).last ((D.crashed flip l).n - 300) g ∨ Reads (D.crashed flip l).last ((D.crashed flip l).n - 300) h' := h _

theorem Reads.quiet (hw : ∀ k, D.wait k = none) (h : Reads D.last (D.n - 300) g) (hnone : logFL D.last (D.n - 300) (numL D.last) = fun _ => none) : Quiet D g := by
  refine ⟨hw, h.1 hnone, fun k hk => ?_⟩
  have := h.2 k hk
  unfold storL at this
  rw [hnone] at this
  exact this

/-- An opening: the store stands by itself; or power failed, and it is what it was. -/
theorem opened_way (hok : D.ok) (hn : 300 < D.n) (hd : D.dead = false) (hw : ∀ k, D.wait k = none) (h : Reads D.last (D.n - 300) g) :
    D.opened.2.n = D.n ∧ (D.opened.1 = 0 ∧ Quiet D.opened.2 g ∨ D.opened.1 = 50 ∧ D.opened.2.dead = true ∧ Dur D.opened.2 g) := by
  have hf : ∀ k b, logFL D.last (D.n - 300) (numL D.last) k = some b → b.length = 64 ∧ k < D.n - 300 := fun k b e => logFL_ok hok.last e
  unfold DevS.opened
  rw [if_neg (by omega), if_neg (by simp [hd]), DevS.now_still hw]
  by_cases hk : keysF (logFL D.last (D.n - 300) (numL D.last)) (D.n - 300) = []
  · rw [if_pos hk]
    have hnone := keysF_nil hk (fun k e => by
      obtain ⟨b, hb⟩ := Option.isSome_iff_exists.1 e
      exact (hf k b hb).2)
    exact ⟨by simp, .inl ⟨rfl, (Reads.quiet hw h hnone).core (by simp) (by simp) (by simp)⟩⟩
  · rw [if_neg hk]
    have hne : logFL D.last (D.n - 300) (numL D.last) ≠ fun _ => none := by
      intro e
      rw [e] at hk
      simp [keysF] at hk
    obtain ⟨q, hq⟩ : ∃ q, q = 1 + 2 * numL D.last := ⟨_, rfl⟩
    rw [← hq]
    have hh := home_way (D := D.countedN q) (f := logFL D.last (D.n - 300) (numL D.last)) (by rw [DevS.countedN_n]; exact hn) (by rw [DevS.countedN_wait]; exact hw) (by rw [DevS.countedN_n, DevS.countedN_last]) (by rw [DevS.countedN_n]; exact hf) hne
    rw [DevS.countedN_n, DevS.countedN_last] at hh
    have hg : ∀ k, k < D.n - 300 → over (logFL D.last (D.n - 300) (numL D.last)) (fun k => D.last (300 + k)) k = g k := fun k hk => h.2 k hk
    generalize (D.countedN q).home (logFL D.last (D.n - 300) (numL D.last)) (D.n - 300) = H at hh ⊢
    obtain ⟨h1, ⟨h2, h3⟩ | ⟨h2, h3, h4⟩⟩ := hh
    · exact ⟨h1, .inl ⟨h2, h3.wait, h3.num, fun k hk => (h3.at_ k hk).trans (hg k (by rw [h1] at hk; exact hk))⟩⟩
    · refine ⟨h1, .inr ⟨h2, h3, fun keep => ⟨(h4 keep).1, fun k hk => ((h4 keep).2 k hk).trans (hg k (by rw [h1] at hk; exact hk))⟩⟩⟩

theorem Well.opened (h : Well D) (hok : D.ok) (hn : 300 < D.n) : D.opened.1 = 0 ∧ Well D.opened.2 := by
  unfold DevS.opened
  rw [if_neg (by omega), if_neg (by simp [h.dead])]
  split
  · exact ⟨rfl, h.countedN _⟩
  · have := (h.countedN (1 + 2 * numL D.now)).home (f := logFL D.now (D.n - 300) (numL D.now)) (by simpa using hn) (fun k b e => by simpa using logFL_ok (fun k => hok.now k) e)
    simpa using this

/-- A store that lives; g0: what lasts. -/
structure Live (S : WalS) (g0 : Nat → Bytes) : Prop where
  ok : S.ok
  dok : S.dev.ok
  dead : S.dead = false
  ddead : S.dev.dead = false
  quiet : Quiet S.dev g0
  waitN : S.waitN ≤ 256
  nowN : S.nowN ≤ 128

theorem Live.isDead (h : Live S g0) : S.isDead = false := by simp [WalS.isDead, h.dead, h.ddead]

theorem WalS.ok_dev {D : DevS} (h : S.ok) (hn : D.n = S.dev.n) : ({ S with dev := D } : WalS).ok := by
  have hs : ({ S with dev := D } : WalS).size = S.size := congrArg (fun n => n - 300) hn
  exact ⟨Nat.lt_of_lt_of_le h.n (Nat.le_of_eq hn.symm), fun k b e => by rw [hs]; exact h.now k b e, fun k b e => by rw [hs]; exact h.wait k b e⟩

theorem seqD_n {r : Int × DevS} {k : DevS → Int × DevS} {n : Nat} (h : r.2.n = n) (hk : ∀ D, D.n = n → (k D).2.n = n) : (seqD r k).2.n = n := by
  unfold seqD
  split
  · exact hk _ h
  · exact h

theorem Live.opened (hok : D.opened.2.ok) (hn : 300 < D.opened.2.n) (hd : D.opened.2.dead = false) (hq : Quiet D.opened.2 g) : Live (WalS.new D.opened.2) g :=
  ⟨⟨hn, fun _ _ h => (by cases h), fun _ _ h => (by cases h)⟩, hok, rfl, hd, hq, by rw [waitN_none rfl]; omega, by rw [nowN_none rfl]; omega⟩

end

/-! ### the device stays well formed -/
section
variable {D : DevS} {f : Nat → Option Bytes}
theorem DevS.ok.write (h : D.ok) (i : Int) (b : Bytes) : (D.write i b).2.ok := by
  unfold DevS.write
  split
  · exact h
  · split
    · exact h
    · split
      · exact h.killed
      · rename_i h1 h2 h3
        simp only [ne_eq, Decidable.not_not] at h1 h2
        unfold DevS.wrong at h1
        split at h1
        · cases h1
        · split at h1
          · cases h1
          · exact h.burned.put (by show i.toNat < D.n; omega) h2
theorem DevS.ok.flush (h : D.ok) : D.flush.2.ok := by
  unfold DevS.flush
  split
  · exact h
  · split
    · exact h.killed
    · exact h.burned.flushed
theorem DevS.ok.seq {r : Int × DevS} {k : DevS → Int × DevS} (h : r.2.ok) (hk : ∀ D : DevS, D.ok → (k D).2.ok) : (seqD r k).2.ok := by
  unfold seqD
  split
  · exact hk _ h
  · exact h
theorem DevS.ok.writeL (h : D.ok) (ws : List (Int × Bytes)) : (D.writeL ws).2.ok := by
  induction ws generalizing D with
  | nil => exact h
  | cons x ws ih => exact DevS.ok.seq (h.write _ _) fun _ hD => ih hD
theorem DevS.ok.home (h : D.ok) (n : Nat) : (D.home f n).2.ok := DevS.ok.seq (DevS.ok.seq (DevS.ok.seq (h.writeL _) fun _ hD => hD.flush) fun _ hD => hD.write _ _) fun _ hD => hD.flush
theorem DevS.ok.log (h : D.ok) (n : Nat) : (D.log f n).2.ok := DevS.ok.seq (DevS.ok.seq (DevS.ok.seq (h.writeL _) fun _ hD => hD.flush) fun _ hD => hD.write _ _) fun _ hD => hD.flush
theorem DevS.ok.countedN (h : D.ok) (k : Nat) : (D.countedN k).ok := by
  induction k with
  | zero => exact h
  | succ k ih => exact ih.counted
theorem DevS.ok.opened (h : D.ok) : D.opened.2.ok := by
  unfold DevS.opened
  split
  · exact h
  · split
    · exact h
    · split
      · exact h.countedN _
      · exact (h.countedN _).home _

/-- A call of the device that goes well leaves it alive. -/
theorem flush_alive (h : D.flush.1 = 0) : D.flush.2.dead = false := by
  unfold DevS.flush at h ⊢
  split
  · rename_i h1; rw [if_pos h1] at h; cases h
  · rename_i h1
    rw [if_neg h1] at h
    split
    · rename_i h2; rw [if_pos h2] at h; cases h
    · show D.dead = false
      simpa using h1
theorem seqD_flush_alive {r : Int × DevS} (h : (seqD r DevS.flush).1 = 0) : (seqD r DevS.flush).2.dead = false := by
  by_cases hr : r.1 = 0
  · rw [seqD_ok hr] at h ⊢
    exact flush_alive h
  · rw [seqD_fail hr] at h
    exact absurd h hr
theorem home_alive {n : Nat} (h : (D.home f n).1 = 0) : (D.home f n).2.dead = false := seqD_flush_alive h
theorem log_alive {n : Nat} (h : (D.log f n).1 = 0) : (D.log f n).2.dead = false := seqD_flush_alive h
theorem opened_alive (h : D.opened.1 = 0) : D.opened.2.dead = false := by
  unfold DevS.opened at h ⊢
  split
  · rename_i h1; rw [if_pos h1] at h; cases h
  · rename_i h1
    rw [if_neg h1] at h
    split
    · rename_i h2; rw [if_pos h2] at h; cases h
    · rename_i h2
      rw [if_neg h2] at h
      split
      · simpa using h2
      · rename_i h3
        rw [if_neg h3] at h
        exact home_alive h
end

/-! ### Sync and Commit -/
section
variable {g0 : Nat → Bytes} {S : WalS}

/-- Sync: all that was committed lasts; or power failed, and what lasts is the old or the new. -/
theorem Live.sync (h : Live S g0) :
    (S.sync.1 = 0 ∧ Live S.sync.2 (over S.wait g0) ∧ S.sync.2.now = S.now ∧ (∀ k, S.sync.2.wait k = none) ∧ S.sync.2.all = S.all ∧ S.sync.2.lasting = S.all ∧ S.sync.2.dev.n = S.dev.n ∧ (Well S.dev → Well S.sync.2.dev)) ∨
    (S.sync.1 = 50 ∧ S.sync.2.dead = true ∧ S.sync.2.dev.dead = true ∧ S.sync.2.dev.n = S.dev.n ∧ Dur2 S.sync.2.dev g0 (over S.wait g0) ∧ S.sync.2.ok ∧ S.sync.2.dev.ok ∧ S.sync.2.all = S.all ∧ S.sync.2.lasting = S.lasting ∧ ¬ Well S.dev) := by
  unfold WalS.sync
  rw [if_neg (by simp [h.isDead])]
  have hn := h.ok.n
  have hn2 := h.dok.n
  have hf : ∀ k b, S.wait k = some b → b.length = 64 ∧ k < S.dev.n - 300 := h.ok.wait
  by_cases h0 : S.waitN = 0
  · rw [if_pos h0]
    have hnone : S.wait = fun _ => none := keysF_nil (List.length_eq_zero_iff.1 h0) h.ok.waitB
    have hov : over S.wait g0 = g0 := by funext k; simp [over, hnone]
    refine .inl ⟨rfl, ?_, rfl, fun _ => rfl, rfl, rfl, rfl, id⟩
    rw [hov]
    exact ⟨⟨hn, h.ok.now, fun _ _ e => (by cases e)⟩, h.dok, h.dead, h.ddead, h.quiet, by rw [waitN_none rfl]; omega, h.nowN⟩
  · rw [if_neg h0]
    have hK0 : 0 < (keysF S.wait (S.dev.n - 300)).length := Nat.pos_of_ne_zero h0
    have hK : (keysF S.wait (S.dev.n - 300)).length ≤ 256 := h.waitN
    have hne : S.wait ≠ fun _ => none := by
      intro e
      rw [e] at hK0
      simp [keysF] at hK0
    have hlw : Well S.dev → (S.dev.log S.wait (S.dev.n - 300)).1 = 0 ∧ Well (S.dev.log S.wait (S.dev.n - 300)).2 := fun hw => hw.log hn hf hK
    have ho := h.dok.log (f := S.wait) (S.dev.n - 300)
    have hal := log_alive (D := S.dev) (f := S.wait) (n := S.dev.n - 300)
    have hlx := log_way hn hn2 h.quiet hf hK0 hK
    have hsz : S.size = S.dev.n - 300 := rfl
    rw [hsz]
    generalize hL : S.dev.log S.wait (S.dev.n - 300) = L at ho hal hlx hlw ⊢
    obtain ⟨ln, ⟨l1, l2, l3, l4⟩ | ⟨l1, l2, l3⟩⟩ := hlx
    rotate_left
    · have hl1 : L.1 ≠ 0 := by rw [l1]; decide
      rw [seqD_fail hl1]
      have e2 : S.synced L = (50, { S with dev := L.2, dead := true }) := by
        unfold WalS.synced
        rw [if_neg hl1, l1]
      rw [e2]
      refine .inr ⟨rfl, rfl, l2, ln, l3, ?_, ho, rfl, rfl, fun hw => absurd ((hlw hw).1.symm.trans l1) (by decide)⟩
      have := WalS.ok_dev h.ok ln
      exact ⟨this.n, this.now, this.wait⟩
    rw [seqD_ok l1]
    have hal := hal l1
    have hw := home_way (D := L.2) (f := S.wait) (by omega) l2 (by rw [ln]; exact l3) (by rw [ln]; exact hf) hne
    rw [ln] at hw
    have hov : ∀ k, k < S.dev.n - 300 → over S.wait (fun k => L.2.last (300 + k)) k = over S.wait g0 k := fun k hk => by
      show (S.wait k).getD (L.2.last (300 + k)) = (S.wait k).getD (g0 k)
      rw [l4 k hk]
    have hww : Well S.dev → (L.2.home S.wait (S.dev.n - 300)).1 = 0 ∧ Well (L.2.home S.wait (S.dev.n - 300)).2 := fun hw => by
      have := (hlw hw).2.home (f := S.wait) (by omega) (by rw [ln]; exact hf)
      rwa [ln] at this
    have hao := ho.home (f := S.wait) (S.dev.n - 300)
    obtain ⟨h1, ⟨h2, h3⟩ | ⟨h2, h3, h4⟩⟩ := hw
    · have hah := home_alive h2
      generalize hH : L.2.home S.wait (S.dev.n - 300) = H at *
      have e2 : S.synced H = (0, { S with dev := H.2, wait := fun _ => none, lasting := S.all }) := by unfold WalS.synced; rw [if_pos h2]
      rw [e2]
      refine .inl ⟨rfl, ?_, rfl, fun _ => rfl, rfl, rfl, h1, fun hw => (hww hw).2⟩
      have hok := WalS.ok_dev h.ok h1
      have hs : ({ S with dev := H.2, wait := fun _ => none, lasting := S.all } : WalS).size = S.size := congrArg (fun n => n - 300) h1
      refine ⟨⟨hok.n, hok.now, fun _ _ e => (by cases e)⟩, hao, h.dead, hah, ⟨h3.wait, h3.num, fun k hk => (h3.at_ k hk).trans (hov k (by rw [h1] at hk; exact hk))⟩, by rw [waitN_none rfl]; omega, ?_⟩
      have := h.nowN
      unfold WalS.nowN at this ⊢
      rw [hs]
      exact this
    · generalize hH : L.2.home S.wait (S.dev.n - 300) = H at *
      have e2 : S.synced H = (50, { S with dev := H.2, dead := true }) := by unfold WalS.synced; rw [if_neg (by rw [h2]; decide), h2]
      rw [e2]
      have hok := WalS.ok_dev h.ok h1
      refine .inr ⟨rfl, rfl, h3, h1, fun keep => .inr ⟨(h4 keep).1, fun k hk => ((h4 keep).2 k hk).trans (hov k (by rw [h1] at hk; exact hk))⟩, ⟨hok.n, hok.now, hok.wait⟩, hao, rfl, rfl, fun hw => absurd ((hww hw).1.symm.trans h2) (by decide)⟩

theorem keysF_or_length (f g : Nat → Option Bytes) (n : Nat) : (keysF (fun k => (f k).or (g k)) n).length ≤ (keysF f n).length + (keysF g n).length := by
  unfold keysF
  have e : (fun k => ((f k).or (g k)).isSome) = fun k => (f k).isSome || (g k).isSome := by funext k; simp
  show ((List.range n).filter fun k => ((f k).or (g k)).isSome).length ≤ _
  rw [e]
  generalize List.range n = l
  induction l with
  | nil => simp
  | cons x l ih =>
    simp only [List.filter_cons]
    cases hf : f x <;> cases hg : g x <;> simp <;> omega

/-- What a store that lives is behind its transaction. -/
theorem Live.done (h : Live S g0) (hN : S.waitN + S.nowN ≤ 256) : Live S.done g0 := by
  refine ⟨⟨h.ok.n, fun _ _ e => (by cases e), fun k b e => ?_⟩, h.dok, h.dead, h.ddead, h.quiet, ?_, by rw [nowN_none rfl]; omega⟩
  · simp only [WalS.done, WalS.both] at e
    cases hn : S.now k with
    | none => rw [hn] at e; exact h.ok.wait k b (by simpa using e)
    | some b' => rw [hn] at e; exact h.ok.now k b (by rw [hn]; simpa using e)
  · have := keysF_or_length S.now S.wait S.size
    have e : S.done.waitN = (keysF (fun k => (S.now k).or (S.wait k)) S.size).length := rfl
    rw [e]
    unfold WalS.waitN WalS.nowN at hN
    omega

theorem over_or (f g : Nat → Option Bytes) (c : Nat → Bytes) : over (fun k => (f k).or (g k)) c = over f (over g c) := by
  funext k
  show ((f k).or (g k)).getD (c k) = (f k).getD ((g k).getD (c k))
  cases f k <;> simp

/-- Commit: the transaction is committed, by itself or behind a Sync; or power failed. -/
theorem Live.commit (h : Live S g0) :
    (S.commit.1 = 0 ∧ (∃ S1 g1, Live S1 g1 ∧ S.commit.2 = S1.done ∧ S1.now = S.now ∧ S1.all = S.all ∧ S1.dev.n = S.dev.n ∧ S1.waitN + S1.nowN ≤ 256 ∧ (Well S.dev → Well S1.dev) ∧ (S1 = S ∧ g1 = g0 ∨ g1 = over S.wait g0 ∧ (∀ k, S1.wait k = none) ∧ S1.lasting = S.all))) ∨
    (S.commit.1 = 50 ∧ S.commit.2.dead = true ∧ S.commit.2.dev.dead = true ∧ S.commit.2.dev.n = S.dev.n ∧ Dur2 S.commit.2.dev g0 (over S.wait g0) ∧ S.commit.2.ok ∧ S.commit.2.dev.ok ∧ S.commit.2.all = S.all ∧ S.commit.2.lasting = S.lasting ∧ ¬ Well S.dev) := by
  unfold WalS.commit
  rw [if_neg (by simp [h.isDead])]
  by_cases hN : 256 < S.waitN + S.nowN
  · rw [if_pos hN]
    rcases h.sync with ⟨s1, s2, s3, s4, s5, s6, s7, s8⟩ | ⟨s1, s2⟩
    · rw [if_pos s1]
      have hw0 : S.sync.2.waitN = 0 := by
        have : S.sync.2.wait = fun _ => none := funext s4
        exact waitN_none this
      exact .inl ⟨rfl, S.sync.2, over S.wait g0, s2, rfl, s3, s5, s7, by have := s2.nowN; omega, s8, .inr ⟨rfl, s4, s6⟩⟩
    · rw [if_neg (by rw [s1]; decide)]
      exact .inr ⟨s1, s2⟩
  · rw [if_neg hN]
    exact .inl ⟨rfl, S, g0, h, rfl, rfl, rfl, rfl, by omega, id, .inl ⟨rfl, rfl⟩⟩
end
end Go.Lz
