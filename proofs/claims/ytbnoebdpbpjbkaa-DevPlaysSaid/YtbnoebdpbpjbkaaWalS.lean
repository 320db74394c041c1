/-
  The store of sectors: the plain one, and how it lies in memory.
-/
import Derived.Test.YtbnoebdpbpjbkaaDevS
namespace Go.Lz
open Go.RowKit

/-! ### maps from numbers to byte rows -/
/-- The numbers below n at which f has something. -/
def keysF (f : Nat → Option Bytes) (n : Nat) : List Nat := (List.range n).filter fun k => (f k).isSome

/-- Block m is a map of c entries from numbers to byte rows of F: f. -/
structure SecsIn (P : Program) (w : World) (m : Nat) (f : Nat → Option Bytes) (F : Nat → Prop) (vf : Nat → Option Value) (c : Nat) : Prop where
  map : MapAt P 3 w m vf c
  dat : ∀ i v, vf i = some v → ∃ b, f i = some b ∧ Dat 5 w F v b
  no : ∀ i, vf i = none → f i = none
  Fm : F m

section
variable {P : Program} {w w' : World} {m c : Nat} {f : Nat → Option Bytes} {F F' : Nat → Prop} {vf : Nat → Option Value}

theorem SecsIn.some_iff (h : SecsIn P w m f F vf c) (k : Nat) : (vf k).isSome = (f k).isSome := by
  cases hv : vf k with
  | none => rw [h.no k hv]; rfl
  | some v =>
    obtain ⟨b, hb, _⟩ := h.dat k v hv
    rw [hb]; rfl

theorem SecsIn.keys (h : SecsIn P w m f F vf c) (n : Nat) : keysOf vf n = keysF f n := by
  unfold keysOf keysF
  congr 1
  funext k
  exact h.some_iff k

theorem SecsIn.chg {M : Nat → Prop} (h : SecsIn P w m f F vf c) (hc : Chg M w w') (hM : ∀ k, F k → ¬ M k) : SecsIn P w' m f F vf c :=
  ⟨h.map.chg hc (hM m h.Fm), fun i v hv => by obtain ⟨b, h1, h2⟩ := h.dat i v hv; exact ⟨b, h1, h2.chg hc hM⟩, h.no, h.Fm⟩

theorem SecsIn.mono (h : SecsIn P w m f F vf c) (hF : ∀ k, F k → F' k) : SecsIn P w m f F' vf c :=
  ⟨h.map, fun i v hv => by obtain ⟨b, h1, h2⟩ := h.dat i v hv; exact ⟨b, h1, h2.mono hF⟩, h.no, hF m h.Fm⟩

/-- The map and the plain byte rows are as they were. -/
theorem SecsIn.heap (h : SecsIn P w m f F vf c) (hm : w'.heap[m]? = w.heap[m]?) (hk : ∀ k cs, F k → w.heap[k]? = some (.cells cs 5 (0, 0)) → w'.heap[k]? = some (.cells cs 5 (0, 0))) : SecsIn P w' m f F vf c :=
  ⟨h.map.heap hm, fun i v hv => by obtain ⟨b, h1, h2⟩ := h.dat i v hv; exact ⟨b, h1, h2.heap hk⟩, h.no, h.Fm⟩

theorem SecsIn.made (w : World) (hF : F w.heap.size) : SecsIn P (w.alloc (.map #[] 0)) w.heap.size (fun _ => none) F (fun _ => none) 0 :=
  ⟨MapAt.made w, fun _ _ h => (by cases h), fun _ _ => rfl, hF⟩

theorem SecsIn.bound (h : SecsIn P w m f F vf c) {n : Nat} (hn : ∀ k, (f k).isSome = true → k < n) : ∀ k, (vf k).isSome = true → k < n := fun k hk => hn k (by rw [← h.some_iff]; exact hk)

theorem SecsIn.count (h : SecsIn P w m f F vf c) {n : Nat} (hT : P.underlying 3 = some (.int .i64)) (hn : ∀ k, (f k).isSome = true → k < n) : c = (keysF f n).length := by
  rw [h.map.count hT (h.bound hn), h.keys]
end

/-! ### the plain store -/
structure WalS where
  dev : DevS
  now : Nat → Option Bytes
  wait : Nat → Option Bytes
  all : Int
  lasting : Int
  dead : Bool

namespace WalS
/-- How many sectors a store has. -/
def size (S : WalS) : Nat := S.dev.n - 300
def isDead (S : WalS) : Bool := S.dead || S.dev.dead
def wrong (S : WalS) (i : Int) : Int := if S.isDead = true then 50 else if i < 0 ∨ (S.size : Int) ≤ i then 1 else 0
/-- A sector as it is now. -/
def get (S : WalS) (k : Nat) : Bytes := (S.now k).getD ((S.wait k).getD (S.dev.now (300 + k)))
/-- Behind a read: the device counts the call, if it was asked. -/
def asked (S : WalS) (k : Nat) : WalS := if (S.now k).isSome || (S.wait k).isSome then S else { S with dev := S.dev.counted }
def nowN (S : WalS) : Nat := (keysF S.now S.size).length
def waitN (S : WalS) : Nat := (keysF S.wait S.size).length
def write (S : WalS) (i : Int) (b : Bytes) : Int × WalS :=
  if S.wrong i ≠ 0 then (S.wrong i, S) else if b.length ≠ 64 then (1, S) else if (S.now i.toNat).isSome = false ∧ 128 ≤ S.nowN then (5, S) else (0, { S with now := upd S.now i.toNat (some b) })
def aborted (S : WalS) : WalS := { S with now := fun _ => none }

structure ok (S : WalS) : Prop where
  n : 300 < S.dev.n
  now : ∀ k b, S.now k = some b → b.length = 64 ∧ k < S.size
  wait : ∀ k b, S.wait k = some b → b.length = 64 ∧ k < S.size

theorem ok.nowB {S : WalS} (h : S.ok) : ∀ k, (S.now k).isSome = true → k < S.size := fun k hk => by
  obtain ⟨b, hb⟩ := Option.isSome_iff_exists.1 hk
  exact (h.now k b hb).2
theorem ok.waitB {S : WalS} (h : S.ok) : ∀ k, (S.wait k).isSome = true → k < S.size := fun k hk => by
  obtain ⟨b, hb⟩ := Option.isSome_iff_exists.1 hk
  exact (h.wait k b hb).2
end WalS

/-! ### the store in memory -/
abbrev Dp (p : Nat) : Value := .pointer (some ⟨p, 0, none⟩)

/-- Block p is the store S over the device q. The device's blocks are in Fd, all others in Fs. -/
structure StoreIn (P : Program) (w : World) (p q : Nat) (S : WalS) (Fd Fs : Nat → Prop) (mn mw : Nat) (vn vw : Nat → Option Value) (cn cw : Nat) : Prop where
  blk : w.heap[p]? = some (.cells #[Dp q, .map (some mn), .map (some mw), .int .i64 S.all, .int .i64 S.lasting, .bool S.dead] 129 (0, 0))
  dev : DevAt P w q S.dev Fd
  now : SecsIn P w mn S.now Fs vn cn
  wait : SecsIn P w mw S.wait Fs vw cw
  ne : mn ≠ mw
  Fp : Fs p
  Flt : ∀ k, Fs k → k < w.heap.size
  dis : ∀ k, Fs k → ¬ Fd k
  ok : S.ok

/-- The same; all its blocks are in F. -/
def StoreAt (P : Program) (w : World) (p q : Nat) (S : WalS) (F : Nat → Prop) : Prop :=
  ∃ Fd Fs mn mw vn vw cn cw, StoreIn P w p q S Fd Fs mn mw vn vw cn cw ∧ (∀ k, Fd k → F k) ∧ (∀ k, Fs k → F k) ∧ (∀ k, F k → k < w.heap.size)

section
variable {P : Program} {w w' : World} {p q : Nat} {S : WalS} {Fd Fs F F' : Nat → Prop} {mn mw : Nat} {vn vw : Nat → Option Value} {cn cw : Nat}

theorem StoreIn.chg {M : Nat → Prop} (h : StoreIn P w p q S Fd Fs mn mw vn vw cn cw) (hc : Chg M w w') (hd : ∀ k, Fd k → ¬ M k) (hs : ∀ k, Fs k → ¬ M k) : StoreIn P w' p q S Fd Fs mn mw vn vw cn cw where
  blk := (hc.block p (lt_of_heap h.blk) (hs p h.Fp)).trans h.blk
  dev := h.dev.chg hc hd
  now := h.now.chg hc hs
  wait := h.wait.chg hc hs
  ne := h.ne
  Fp := h.Fp
  Flt k hk := Nat.lt_of_lt_of_le (h.Flt k hk) hc.size
  dis := h.dis
  ok := h.ok

theorem StoreIn.below (h : StoreIn P w p q S Fd Fs mn mw vn vw cn cw) (hb : Below w.heap.size w w') : StoreIn P w' p q S Fd Fs mn mw vn vw cn cw :=
  h.chg (M := fun _ => False) (Chg.of_below hb) (fun _ _ e => e) (fun _ _ e => e)

/-- The device goes on by itself. -/
theorem StoreIn.device (h : StoreIn P w p q S Fd Fs mn mw vn vw cn cw) {D : DevS} {Fd' : Nat → Prop} (hD : DevAt P w' q D Fd') (hc : Chg Fd w w') (hF : ∀ k, Fd' k → Fd k ∨ w.heap.size ≤ k) (hn : D.n = S.dev.n) :
    StoreIn P w' p q { S with dev := D } Fd' Fs mn mw vn vw cn cw where
  blk := (hc.block p (lt_of_heap h.blk) (h.dis p h.Fp)).trans h.blk
  dev := hD
  now := h.now.chg hc h.dis
  wait := h.wait.chg hc h.dis
  ne := h.ne
  Fp := h.Fp
  Flt k hk := Nat.lt_of_lt_of_le (h.Flt k hk) hc.size
  dis k hk e := (hF k e).elim (h.dis k hk) (fun h2 => by have := h.Flt k hk; omega)
  ok := by
    have hs : ({ S with dev := D } : WalS).size = S.size := congrArg (fun n => n - 300) hn
    exact ⟨Nat.lt_of_lt_of_le h.ok.n (Nat.le_of_eq hn.symm), fun k b e => by rw [hs]; exact h.ok.now k b e, fun k b e => by rw [hs]; exact h.ok.wait k b e⟩

theorem StoreIn.at_ (h : StoreIn P w p q S Fd Fs mn mw vn vw cn cw) (hd : ∀ k, Fd k → F k) (hs : ∀ k, Fs k → F k) (hl : ∀ k, F k → k < w.heap.size) : StoreAt P w p q S F := ⟨Fd, Fs, mn, mw, vn, vw, cn, cw, h, hd, hs, hl⟩

theorem StoreAt.chg {M : Nat → Prop} (h : StoreAt P w p q S F) (hc : Chg M w w') (hM : ∀ k, F k → ¬ M k) : StoreAt P w' p q S F := by
  obtain ⟨Fd, Fs, mn, mw, vn, vw, cn, cw, h, hd, hs, hl⟩ := h
  exact ⟨Fd, Fs, mn, mw, vn, vw, cn, cw, h.chg hc (fun k hk => hM k (hd k hk)) (fun k hk => hM k (hs k hk)), hd, hs, fun k hk => Nat.lt_of_lt_of_le (hl k hk) hc.size⟩

theorem StoreAt.below (h : StoreAt P w p q S F) (hb : Below w.heap.size w w') : StoreAt P w' p q S F := h.chg (M := fun _ => False) (Chg.of_below hb) (fun _ _ e => e)

theorem StoreAt.lt (h : StoreAt P w p q S F) : ∀ k, F k → k < w.heap.size := by
  obtain ⟨Fd, Fs, mn, mw, vn, vw, cn, cw, h, hd, hs, hl⟩ := h
  exact hl
theorem StoreAt.ok (h : StoreAt P w p q S F) : S.ok := by
  obtain ⟨Fd, Fs, mn, mw, vn, vw, cn, cw, h, hd, hs, hl⟩ := h
  exact h.ok
theorem StoreAt.dev (h : StoreAt P w p q S F) : DevAt P w q S.dev F := by
  obtain ⟨Fd, Fs, mn, mw, vn, vw, cn, cw, h, hd, hs, hl⟩ := h
  exact h.dev.mono hd hl
theorem StoreAt.mono (h : StoreAt P w p q S F) (hF : ∀ k, F k → F' k) (hl' : ∀ k, F' k → k < w.heap.size) : StoreAt P w p q S F' := by
  obtain ⟨Fd, Fs, mn, mw, vn, vw, cn, cw, h, hd, hs, hl⟩ := h
  exact ⟨Fd, Fs, mn, mw, vn, vw, cn, cw, h, fun k hk => hF k (hd k hk), fun k hk => hF k (hs k hk), hl'⟩

/-- The device, to be worked on alone. -/
theorem StoreAt.open_dev (h : StoreAt P w p q S F) : ∃ Fd, DevAt P w q S.dev Fd ∧ (∀ k, Fd k → F k) ∧
    ∀ {w' : World} {D : DevS} {Fd' : Nat → Prop}, DevAt P w' q D Fd' → Chg Fd w w' → (∀ k, Fd' k → Fd k ∨ w.heap.size ≤ k) → D.n = S.dev.n → StoreAt P w' p q { S with dev := D } (ext F w w') := by
  obtain ⟨Fd, Fs, mn, mw, vn, vw, cn, cw, h, hd, hs, hl⟩ := h
  refine ⟨Fd, h.dev, hd, fun {w' D Fd'} hD hc hF hn => ?_⟩
  exact (h.device hD hc hF hn).at_ (fun k hk => (hF k hk).imp (hd k) (fun h2 => ⟨h2, hD.lt k hk⟩)) (fun k hk => .inl (hs k hk)) (fun k hk => hk.elim (fun h2 => Nat.lt_of_lt_of_le (hl k h2) hc.size) (·.2))
end
end Go.Lz
