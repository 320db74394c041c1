/-
  A life of a store, its fall, and how it rises again, plain.
-/
import Derived.Test.YtbnoebdpbpjbkaaPlaysW
namespace Go.Lz
open Go.RowKit

/-- What the store was behind i transactions: sixteen sectors of kinds, else noughts. -/
def kindsB (f : Nat → Int) (k : Nat) : Bytes := if k < 16 then wantB (f k) else zero64
def hist (st : List (Nat → Int)) (i : Nat) : Nat → Bytes := kindsB (st.getD i fun _ => 0)

theorem hist_app (st : List (Nat → Int)) (f : Nat → Int) {i : Nat} (hi : i < st.length) : hist (st ++ [f]) i = hist st i := by
  unfold hist
  rw [List.getD_eq_getElem?_getD, List.getElem?_append_left hi, ← List.getD_eq_getElem?_getD]
theorem hist_new (st : List (Nat → Int)) (f : Nat → Int) : hist (st ++ [f]) st.length = kindsB f := by
  unfold hist
  rw [List.getD_eq_getElem?_getD, List.getElem?_append_right (Nat.le_refl _), Nat.sub_self]
  rfl

/-- A device whose power may fail now: what lasts is one of the states, no less than 'least'. -/
structure Fallen (D : DevS) (st : List (Nat → Int)) (least : Nat) : Prop where
  n : D.n = 340
  ok : D.ok
  ex : ∃ d c, least ≤ d ∧ d ≤ c ∧ c < st.length ∧ Dur2 D (hist st d) (hist st c)

/-- Power failed: what lasts is state e. -/
structure Lain (D : DevS) (st : List (Nat → Int)) (least e : Nat) : Prop where
  n : D.n = 340
  ok : D.ok
  wait : ∀ k, D.wait k = none
  well : Well D
  le : least ≤ e
  lt : e < st.length
  reads : Reads D.last (D.n - 300) (hist st e)

section
variable {D : DevS} {st : List (Nat → Int)} {least e : Nat}

theorem Fallen.crash (h : Fallen D st least) (flip : Bool) (l : List Int) : ∃ e, Lain (D.crashed flip l) st least e := by
  obtain ⟨d, c, h1, h2, h3, h4⟩ := h.ex
  rcases h4.crashed flip l with h5 | h5
  · exact ⟨d, h.n, h.ok.crashed flip l, fun _ => rfl, Well.crashed flip l, h1, by omega, h5⟩
  · exact ⟨c, h.n, h.ok.crashed flip l, fun _ => rfl, Well.crashed flip l, by omega, h3, h5⟩

/-- Opened again, and power fails again, at any call. -/
theorem Lain.again (h : Lain D st least e) {k : Int} (hk : k ≤ 9223372036854775807) (flip : Bool) (l : List Int) : Lain (((D.fused k).opened.2).crashed flip l) st least e := by
  have hn := h.n
  have hok := h.ok.fused hk
  obtain ⟨o1, ho⟩ := opened_way (D := D.fused k) (g := hist st e) hok (by show 300 < D.n; omega) h.well.dead h.wait h.reads
  have hd : Dur (D.fused k).opened.2 (hist st e) := ho.elim (fun h => h.2.dur) (fun h => h.2.2)
  exact ⟨o1.trans hn, hok.opened.crashed flip l, fun _ => rfl, Well.crashed flip l, h.le, h.lt, hd.crashed flip l⟩

/-- All is carried to a new device, and opened there. -/
theorem Lain.carried (h : Lain D st least e) (j : Nat) (c : Int) : ((D.countedN j).carried c).opened.1 = 0 ∧ Rec (WalS.new ((D.countedN j).carried c).opened.2) 40 0 0 (fun _ => hist st e) ∧ Well (WalS.new ((D.countedN j).carried c).opened.2).dev := by
  have hn := h.n
  have := Reads.carried (D := D.countedN j) (g := hist st e) (h.ok.countedN j) (by simp; omega) (by simpa using h.wait) (by simpa using h.reads) c (fun _ => hist st e) (fun _ _ => rfl)
  simpa [hn] using this

/-- A well store is opened once more, on the same device. -/
theorem Rec.open2 {S : WalS} {n c d : Nat} {h h' : Nat → Nat → Bytes} (r : Rec S n c d h) (hw : Well S.dev) (hh : ∀ k, k < n → h' 0 k = h d k) :
    S.dev.opened.1 = 0 ∧ Rec (WalS.new S.dev.opened.2) n 0 0 h' ∧ Well (WalS.new S.dev.opened.2).dev := by
  obtain ⟨g0, hl, h1, h2⟩ := r.ex
  have hn : S.dev.n - 300 = n := r.size
  rcases Rec.opened (D := S.dev) (h := h') (g := g0) hl.dok hl.ok.n hw.dead hl.quiet.wait (reads_nolog hl.quiet.num hl.quiet.at_) (fun k hk => by rw [hn] at hk; rw [hh k hk, h1 k hk]) with ⟨o1, o2, o3⟩ | ⟨_, _, _, _, _, h6⟩
  · rw [hn] at o2
    exact ⟨o1, o2, o3 hw⟩
  · exact absurd hw h6

/-- A store in its life: the states that there were, what is under way, the least that lasts. -/
structure Living (S : WalS) (st : List (Nat → Int)) (f : Nat → Int) (least : Nat) : Prop where
  ex : ∃ d, Rec S 40 (st.length - 1) d (hist st) ∧ least ≤ d
  pos : 0 < st.length
  n : S.dev.n = 340
  now : ∀ k, k < 40 → over S.now (hist st (st.length - 1)) k = kindsB f k
  supp : ∀ k, (S.now k).isSome = true → k < 16

section
variable {S : WalS} {f : Nat → Int}
theorem Living.isDead (h : Living S st f least) : S.isDead = false := by
  obtain ⟨d, r, _⟩ := h.ex
  obtain ⟨g0, hl⟩ := r.live
  exact hl.isDead
theorem Living.devDead (h : Living S st f least) : S.dev.dead = false := by
  obtain ⟨d, r, _⟩ := h.ex
  obtain ⟨g0, hl⟩ := r.live
  exact hl.ddead
theorem Living.fallen (h : Living S st f least) : Fallen S.dev st least := by
  obtain ⟨d, r, hd⟩ := h.ex
  obtain ⟨g0, hl, h1, h2⟩ := r.ex
  have hle := r.le
  have hpos := h.pos
  refine ⟨h.n, hl.dok, d, d, hd, Nat.le_refl _, by omega, ?_⟩
  refine Dur.left fun keep => ?_
  have := hl.quiet.dur keep
  exact ⟨this.1, fun k hk => (this.2 k hk).trans (h1 k (by have := h.n; omega))⟩

theorem over_upd (now : Nat → Option Bytes) (g : Nat → Bytes) (k j : Nat) (b : Bytes) : over (upd now k (some b)) g j = if j = k then b else over now g j := by
  unfold over
  by_cases e : j = k
  · subst e; simp
  · simp [upd_other _ e, e]

theorem Living.write (h : Living S st f least) {k : Nat} (hk : k < 16) {x : Int} (hx : 0 < x) : ∃ S', S.write (k : Int) (bytesOf x 64) = (0, S') ∧ Living S' st (upd f k x) least := by
  obtain ⟨d, r, hd⟩ := h.ex
  obtain ⟨e1, r1⟩ := r.write (k := k) (b := bytesOf x 64) (by omega) (bytesOf_length _ _) (.inr (Nat.lt_of_le_of_lt (keysF_supp h.supp 40) (by omega)))
  refine ⟨_, e1, ⟨d, r1, hd⟩, h.pos, h.n, fun j hj => ?_, fun j hj => ?_⟩
  · show over (upd S.now k (some (bytesOf x 64))) _ j = _
    rw [over_upd]
    unfold kindsB
    by_cases e : j = k
    · subst e
      rw [if_pos rfl, if_pos hk, upd_same]
      simp [wantB, hx]
    · rw [if_neg e, upd_other _ e]
      exact h.now j hj
  · by_cases e : j = k
    · omega
    · exact h.supp j (by rw [show ({ S with now := upd S.now k (some (bytesOf x 64)) } : WalS).now j = S.now j from upd_other _ e] at hj; exact hj)

theorem Living.commit (h : Living S st f least) (hlen : st.length < 1000) :
    (S.commit.1 = 0 ∧ Living S.commit.2 (st ++ [f]) f least) ∨ (S.commit.1 = 50 ∧ S.commit.2.dev.dead = true ∧ Fallen S.commit.2.dev (st ++ [f]) least) := by
  obtain ⟨d, r, hd⟩ := h.ex
  have hpos := h.pos
  have hle := r.le
  have e1 : st.length - 1 + 1 = st.length := by omega
  rcases r.commit (by omega) (hist (st ++ [f])) (fun i hi => hist_app st f (by omega)) (fun k hk => by rw [e1, hist_new, h.now k hk]) with ⟨c1, ⟨d', hd', r'⟩, n1, _⟩ | ⟨c1, c2, _, c4, c5, c6, _⟩
  · left
    rw [e1] at r'
    have el : (st ++ [f]).length - 1 = st.length := by simp
    refine ⟨c1, ⟨d', by rw [el]; exact r', by omega⟩, by simp, ?_, fun k hk => ?_, fun k hk => by rw [n1] at hk; cases hk⟩
    · have h1 : S.commit.2.dev.n - 300 = 40 := r'.size
      omega
    · rw [n1, el, hist_new]
      rfl
  · refine .inr ⟨c1, c2, c4.trans h.n, c5, d, st.length - 1, hd, hle, by simp; omega, ?_⟩
    rw [hist_app st f (by omega), hist_app st f (by omega)]
    exact c6

theorem Living.abort (h : Living S st f least) : Living S.aborted st (st.getD (st.length - 1) fun _ => 0) least := by
  obtain ⟨d, r, hd⟩ := h.ex
  exact ⟨⟨d, r.aborted, hd⟩, h.pos, h.n, fun k hk => rfl, fun k hk => by cases hk⟩

theorem Living.sync (h : Living S st f least) :
    (S.sync.1 = 0 ∧ Living S.sync.2 st f (st.length - 1)) ∨ (S.sync.1 = 50 ∧ S.sync.2.dev.dead = true ∧ Fallen S.sync.2.dev st least) := by
  obtain ⟨d, r, hd⟩ := h.ex
  have hpos := h.pos
  have hle := r.le
  rcases r.sync with ⟨s1, r', n1, _⟩ | ⟨s1, s2, _, s4, s5, s6, _⟩
  · refine .inl ⟨s1, ⟨_, r', Nat.le_refl _⟩, hpos, ?_, fun k hk => by rw [n1]; exact h.now k hk, fun k hk => h.supp k (by rw [n1] at hk; exact hk)⟩
    have h1 : S.sync.2.dev.n - 300 = 40 := r'.size
    omega
  · exact .inr ⟨s1, s2, s4.trans h.n, s5, d, st.length - 1, hd, hle, by omega, s6⟩

/-- What is told as lasting lasts. -/
theorem Living.told (h : Living S st f least) : ∃ k : Nat, S.lasting = (k : Int) ∧ k ≤ st.length - 1 ∧ Living S st f (max least k) := by
  obtain ⟨d, r, hd⟩ := h.ex
  have hl := r.last
  have hle := r.le
  exact ⟨S.lasting.toNat, by omega, by omega, ⟨d, r, by omega⟩, h.pos, h.n, h.now, h.supp⟩

theorem Living.start (r : Rec S 40 0 0 fun _ => kindsB f) (hn : S.now = fun _ => none) {k : Int} (hk : k ≤ 9223372036854775807) : Living { S with dev := S.dev.fused k } [f] f 0 := by
  have r' : Rec S 40 0 0 (hist [f]) := by
    obtain ⟨g0, hl, h1, h2⟩ := r.ex
    exact ⟨⟨g0, hl, h1, h2⟩, r.size, r.all, r.last, r.le, r.small⟩
  obtain ⟨g0, hl⟩ := r.live
  have h1 : S.dev.n - 300 = 40 := r.size
  have h2 := hl.ok.n
  exact ⟨⟨0, r'.fused hk, Nat.le_refl _⟩, by simp, by show S.dev.n = 340; omega, fun k hk => by show over S.now _ k = _; rw [hn]; rfl, fun k hk => by
    rw [show ({ S with dev := S.dev.fused _ } : WalS).now = S.now from rfl, hn] at hk
    cases hk⟩

/-- A store that rose tells the state that lasts, and no other. -/
theorem rose_tells (r : Rec S 40 0 0 fun _ => hist st e) (hn : S.now = fun _ => none) (f : Nat → Int) : tellsB S f = true ↔ kindsB f = hist st e := by
  have hg : ∀ k, k < 40 → S.get k = hist st e k := fun k hk => by
    rw [r.get hk, hn]
    rfl
  rw [tellsB_iff]
  constructor
  · intro h
    funext k
    by_cases hk : k < 16
    · rw [← hg k (by omega), h k hk]
      simp [kindsB, hk]
    · simp [kindsB, hist, hk]
  · intro h k hk
    rw [hg k (by omega), ← h]
    simp [kindsB, hk]
end
end
end Go.Lz
