/-
  A store whose power never failed, plain: what it holds, what was committed; the items' bits in it.
-/
import Derived.Test.YtbnoebdpbpjbkaaAl3
namespace Go.Lz
open Go.RowKit Go.Proofs.Ytbnoebdpbpjbkaa

/-- The store lives and is well; g: what was committed; no more than cc times. -/
structure Kp (S : WalS) (n : Nat) (g : Nat → Bytes) (cc : Nat) : Prop where
  ex : ∃ h c d, Rec S n c d h ∧ c ≤ cc ∧ ∀ k, k < n → h c k = g k
  well : Well S.dev

section
variable {S : WalS} {n cc : Nat} {g : Nat → Bytes}

theorem Kp.isDead (K : Kp S n g cc) : S.isDead = false := by
  obtain ⟨h, c, d, r, _⟩ := K.ex
  obtain ⟨g0, hl⟩ := r.live
  exact hl.isDead
theorem Kp.size (K : Kp S n g cc) : S.size = n := by
  obtain ⟨h, c, d, r, _⟩ := K.ex
  exact r.size
theorem Kp.n_le (K : Kp S n g cc) : n ≤ 7892 := by
  obtain ⟨h, c, d, r, _⟩ := K.ex
  obtain ⟨g0, hl⟩ := r.live
  have h1 := hl.dok.n
  have h2 : S.dev.n - 300 = n := r.size
  omega
theorem Kp.get (K : Kp S n g cc) {k : Nat} (hk : k < n) : S.get k = over S.now g k := by
  obtain ⟨h, c, d, r, _, hg⟩ := K.ex
  rw [r.get hk]
  show (S.now k).getD (h c k) = (S.now k).getD (g k)
  rw [hg k hk]
theorem Kp.len (K : Kp S n g cc) (k : Nat) : (S.get k).length = 64 := by
  obtain ⟨h, c, d, r, _⟩ := K.ex
  obtain ⟨g0, hl⟩ := r.live
  exact hl.ok.get_len hl.dok k
theorem Kp.wrong (K : Kp S n g cc) {k : Nat} (hk : k < n) : S.wrong (k : Int) = 0 := WalS.wrong_ok K.isDead (by rw [K.size]; exact hk)
theorem Kp.write (K : Kp S n g cc) {k : Nat} {b : Bytes} (hk : k < n) (hb : b.length = 64) (hm : (S.now k).isSome = true ∨ (keysF S.now n).length < 128) :
    S.write (k : Int) b = (0, { S with now := upd S.now k (some b) }) ∧ Kp { S with now := upd S.now k (some b) } n g cc := by
  obtain ⟨h, c, d, r, hc, hg⟩ := K.ex
  obtain ⟨e1, r1⟩ := r.write hk hb hm
  exact ⟨e1, ⟨h, c, d, r1, hc, hg⟩, K.well⟩
theorem Kp.mono (K : Kp S n g cc) {cc' : Nat} (h : cc ≤ cc') : Kp S n g cc' := by
  obtain ⟨h', c, d, r, hc, hg⟩ := K.ex
  exact ⟨⟨h', c, d, r, by omega, hg⟩, K.well⟩
theorem well_counted {D : DevS} (h : Well D) (j : Nat) : Well (D.countedN j) := h.countedN j
theorem Kp.cnt (K : Kp S n g cc) (j : Nat) : Kp (S.cnt j) n g cc := by
  obtain ⟨h, c, d, r, hc, hg⟩ := K.ex
  exact ⟨⟨h, c, d, r.cnt j, hc, hg⟩, K.well.countedN j⟩
theorem Kp.aborted (K : Kp S n g cc) : Kp S.aborted n g cc := by
  obtain ⟨h, c, d, r, hc, hg⟩ := K.ex
  exact ⟨⟨h, c, d, r.aborted, hc, hg⟩, K.well⟩
theorem Kp.commit (K : Kp S n g cc) (hcc : cc < 1000000) {g' : Nat → Bytes} (hg' : ∀ k, k < n → g' k = S.get k) : S.commit.1 = 0 ∧ Kp S.commit.2 n g' (cc + 1) ∧ S.commit.2.now = (fun _ => none) := by
  obtain ⟨h, c, d, r, hc, hg⟩ := K.ex
  rcases r.commit (by omega) (fun i => if i ≤ c then h i else g') (fun i hi => if_pos hi) (fun k hk => by
    show (if c + 1 ≤ c then h (c + 1) else g') k = _
    rw [if_neg (by omega), hg' k hk, r.get hk]) with ⟨e1, ⟨d', _, r'⟩, n1, w1⟩ | ⟨_, _, _, _, _, _, _, _, hx⟩
  · exact ⟨e1, ⟨⟨_, c + 1, d', r', by omega, fun k hk => by show (if c + 1 ≤ c then h (c + 1) else g') k = _; rw [if_neg (by omega)]⟩, w1 K.well⟩, n1⟩
  · exact absurd K.well hx

theorem Kp.new {n : Nat} (hn : 300 < n) (hn2 : n ≤ 8192) : Kp (newS n) (n - 300) (fun _ => zero64) 0 ∧ (newS n).now = fun _ => none := by
  obtain ⟨_, r, w, n0⟩ := new_rec hn hn2 (fun _ _ => zero64) (fun _ _ => rfl)
  exact ⟨⟨⟨_, 0, 0, r, Nat.le_refl _, fun _ _ => rfl⟩, w⟩, n0⟩

/-- The transaction under way is within these sectors. -/
def NowIn (S : WalS) (a b : Nat) : Prop := ∀ k, (S.now k).isSome = true → a ≤ k ∧ k < b

theorem keysF_in {f : Nat → Option Bytes} {a b : Nat} (h : ∀ k, (f k).isSome = true → a ≤ k ∧ k < b) (n : Nat) : (keysF f n).length ≤ min n b - a := by
  unfold keysF
  induction n with
  | zero => simp
  | succ n ih =>
    rw [List.range_succ, List.filter_append, List.length_append]
    by_cases e : (f n).isSome = true
    · have := h n e
      simp [e]
      omega
    · simp [e]
      omega
theorem NowIn.small {a b : Nat} (h : NowIn S a b) (hb : b - a < 128) (n : Nat) : (keysF S.now n).length < 128 := by
  have := keysF_in h n
  omega

theorem get_upd (S : WalS) (k j : Nat) (b : Bytes) : ({ S with now := upd S.now k (some b) } : WalS).get j = if j = k then b else S.get j := by
  unfold WalS.get
  by_cases e : j = k
  · subst e; simp
  · simp [upd_other _ e, e]

/-- An item's bit is set or cleared. -/
theorem Kp.setBit (K : Kp S n g cc) {a m i : Nat} (hN : NowIn S a (a + m)) (hm : m < 128) (hi : i / 512 < m) (ha : a + m ≤ n) (tb : Bool) :
    ∃ S', S.setBit a i tb = (0, S') ∧ Kp S' n g cc ∧ NowIn S' a (a + m) ∧ (∀ k, S'.bit a k = if k = i then tb else S.bit a k) ∧ ∀ k, k ≠ a + i / 512 → S'.get k = S.get k := by
  have hl := K.len (a + i / 512)
  obtain ⟨e1, K1⟩ := K.write (k := a + i / 512) (b := setB (S.get (a + i / 512)) (i % 512) tb) (by omega) (by rw [setB_length, hl]) (.inr (hN.small (by omega) n))
  refine ⟨_, e1, K1, fun k hk => ?_, fun k => ?_, fun k hk => by rw [get_upd, if_neg hk]⟩
  · by_cases e : k = a + i / 512
    · omega
    · exact hN k (by rw [show ({ S with now := upd S.now (a + i / 512) (some (setB (S.get (a + i / 512)) (i % 512) tb)) } : WalS).now k = S.now k from upd_other _ e] at hk; exact hk)
  · unfold WalS.bit
    rw [get_upd]
    by_cases e : k = i
    · subst e
      rw [if_pos rfl, if_pos rfl, bitB_set_same (by rw [hl]; omega)]
    · rw [if_neg e]
      by_cases e2 : a + k / 512 = a + i / 512
      · rw [if_pos e2, bitB_set_other (by rw [hl]; omega) (by omega), e2]
      · rw [if_neg e2]

/-- A map of n items at sector a of a store of a hundred: is, and what was committed. -/
structure AM (S : WalS) (N a n cc : Nat) (done is : Nat → Bool) : Prop where
  ex : ∃ g, Kp S N g cc ∧ ∀ i, i < 512 * sectorsOf n → bitB (g (a + i / 512)) (i % 512) = done i
  now : NowIn S a (a + sectorsOf n)
  fits : a + sectorsOf n ≤ N
  hn : n ≤ 8192
  bit : ∀ i, i < 512 * sectorsOf n → S.bit a i = is i

section
variable {N a : Nat} {done is : Nat → Bool}
theorem sectorsOf_lt {i n : Nat} (h : i < n) : i < 512 * sectorsOf n := by unfold sectorsOf; omega
theorem sectorsOf_le {n : Nat} (h : n ≤ 8192) : sectorsOf n ≤ 16 := by unfold sectorsOf; omega
theorem AM.isDead (A : AM S N a n cc done is) : S.isDead = false := by
  obtain ⟨g, K, _⟩ := A.ex
  exact K.isDead
theorem AM.size (A : AM S N a n cc done is) : S.size = N := by
  obtain ⟨g, K, _⟩ := A.ex
  exact K.size
theorem AM.at_ (A : AM S N a n cc done is) {i : Nat} (hi : i < n) : a + i / 512 < S.size := by
  have := A.fits
  rw [A.size]
  unfold sectorsOf at this
  omega
theorem AM.fits' (A : AM S N a n cc done is) : a + sectorsOf n ≤ S.size := by rw [A.size]; exact A.fits
theorem AM.cnt (A : AM S N a n cc done is) (j : Nat) : AM (S.cnt j) N a n cc done is := by
  obtain ⟨g, K, hg⟩ := A.ex
  exact ⟨⟨g, K.cnt j, hg⟩, A.now, A.fits, A.hn, fun i hi => by rw [← A.bit i hi]; unfold WalS.bit; rw [WalS.cnt_get]⟩
theorem AM.set (A : AM S N a n cc done is) {i : Nat} (hi : i < n) (tb : Bool) : (S.setBit a i tb).1 = 0 ∧ AM (S.setBit a i tb).2 N a n cc done (upd is i tb) := by
  obtain ⟨g, K, hg⟩ := A.ex
  have hs := sectorsOf_le A.hn
  obtain ⟨S', e, K', N', b', _⟩ := K.setBit A.now (by omega) (i := i) (by unfold sectorsOf; omega) A.fits tb
  rw [e]
  exact ⟨rfl, ⟨g, K', hg⟩, N', A.fits, A.hn, fun k hk => by rw [b' k, A.bit k hk]; rfl⟩
theorem AM.commit (A : AM S N a n cc done is) (hc : cc < 1000000) : S.commit.1 = 0 ∧ AM S.commit.2 N a n (cc + 1) is is := by
  obtain ⟨g, K, hg⟩ := A.ex
  obtain ⟨e, K', n'⟩ := K.commit hc (g' := S.get) (fun _ _ => rfl)
  have hf := A.fits
  refine ⟨e, ⟨_, K', fun i hi => A.bit i hi⟩, fun k hk => (by rw [n'] at hk; cases hk), A.fits, A.hn, fun i hi => ?_⟩
  unfold WalS.bit
  rw [K'.get (by omega), n']
  exact A.bit i hi
theorem AM.aborted (A : AM S N a n cc done is) : AM S.aborted N a n cc done done := by
  obtain ⟨g, K, hg⟩ := A.ex
  have K' := K.aborted
  have hf := A.fits
  refine ⟨⟨_, K', hg⟩, fun k hk => (by cases hk), A.fits, A.hn, fun i hi => ?_⟩
  unfold WalS.bit
  rw [K'.get (by omega)]
  exact hg i hi
theorem AM.new {M : Nat} (hM : 300 < M) (hM2 : M ≤ 8192) (ha : a + sectorsOf n ≤ M - 300) (hn : n ≤ 8192) : AM (newS M) (M - 300) a n 0 (fun _ => false) (fun _ => false) := by
  obtain ⟨K, n0⟩ := Kp.new hM hM2
  have hz : ∀ j, j < 512 → bitB zero64 j = false := by decide +kernel
  refine ⟨⟨_, K, fun i hi => hz _ (by omega)⟩, fun k hk => (by rw [n0] at hk; cases hk), ha, hn, fun i hi => ?_⟩
  unfold WalS.bit
  rw [K.get (by omega), n0]
  exact hz _ (by omega)
/-- How many are taken. -/
def cntI (is : Nat → Bool) (m : Nat) : Nat := ((List.range m).filter is).length
theorem cntI_succ (is : Nat → Bool) (m : Nat) : cntI is (m + 1) = cntI is m + (if is m then 1 else 0) := by
  unfold cntI
  rw [List.range_succ, List.filter_append, List.length_append]
  congr 1
  by_cases h : is m = true <;> simp [h]
theorem cntI_le (is : Nat → Bool) (m : Nat) : cntI is m ≤ m := by
  have := List.length_filter_le is (List.range m)
  rwa [List.length_range] at this
theorem cntI_congr {is is' : Nat → Bool} {m : Nat} (h : ∀ i, i < m → is i = is' i) : cntI is m = cntI is' m := by
  induction m with
  | zero => rfl
  | succ m ih => rw [cntI_succ, cntI_succ, ih (fun i hi => h i (by omega)), h m (by omega)]
theorem cntI_upd (is : Nat → Bool) {m i : Nat} (hi : i < m) (h : is i = true) : cntI (upd is i false) m + 1 = cntI is m := by
  induction m with
  | zero => omega
  | succ m ih =>
    rw [cntI_succ, cntI_succ]
    by_cases e : m = i
    · subst e
      rw [cntI_congr (is' := is) (fun j hj => upd_other _ (by omega)), upd_same, h]
      simp
    · rw [upd_other _ (show m ≠ i from e)]
      have := ih (by omega)
      omega
theorem cntI_all {is : Nat → Bool} {m : Nat} (h : ∀ i, i < m → is i = true) : cntI is m = m := by
  induction m with
  | zero => rfl
  | succ m ih => rw [cntI_succ, ih (fun i hi => h i (by omega)), h m (by omega)]; rfl
theorem AM.count (A : AM S N a n cc done is) : S.countB a n = cntI is n := cntI_congr (fun i hi => A.bit i (sectorsOf_lt hi))
end
end
end Go.Lz
