/-
  The texts Base DevS WalS, one behind the other.
-/
import Derived.WalkKit
import Derived.WalkSpells
import Derived.WalkLawsBesides
import Derived.Maps.OwnSet
import Derived.Maps.RangeWalk
import Derived.Maps.Ext
import Derived.Lib.Hide
import Derived.Deep.QuietTactic
import Derived.BigQuiet
import Derived.Lib.SlKeysI
/-
  Plain ground for all proofs over lazaret: what a call may turn in memory, byte rows, maps from ints to values.
  No function of the program is named here.
-/
namespace Go.Lz
open Go.RowKit Go.Maps

/-! ### what has turned -/

/-- w' is w but for the blocks of M and new ones. -/
structure Chg (M : Nat → Prop) (w w' : World) : Prop where
  os : w'.os = w.os
  tape : w'.tape = w.tape
  output : w'.output = w.output
  size : w.heap.size ≤ w'.heap.size
  block : ∀ k, k < w.heap.size → ¬ M k → w'.heap[k]? = w.heap[k]?

section
variable {M M' : Nat → Prop} {w w1 w2 : World}

theorem Chg.refl (M : Nat → Prop) (w : World) : Chg M w w := ⟨rfl, rfl, rfl, Nat.le_refl _, fun _ _ _ => rfl⟩

/-- Two steps; what the second may turn is the first's, or new. -/
theorem Chg.trans (h : Chg M w w1) (k : Chg M' w1 w2) (hm : ∀ j, j < w.heap.size → M' j → M j) : Chg M w w2 :=
  ⟨k.os.trans h.os, k.tape.trans h.tape, k.output.trans h.output, Nat.le_trans h.size k.size,
    fun i hi hn => (k.block i (Nat.lt_of_lt_of_le hi h.size) (fun e => hn (hm i hi e))).trans (h.block i hi hn)⟩

theorem Chg.mono (h : Chg M w w1) (hm : ∀ j, j < w.heap.size → M j → M' j) : Chg M' w w1 :=
  ⟨h.os, h.tape, h.output, h.size, fun i hi hn => h.block i hi (fun e => hn (hm i hi e))⟩

theorem Chg.drew (h : Chg M w w1) : Chg M w w1.drew := ⟨h.os, h.tape, h.output, h.size, h.block⟩
theorem Chg.drewN (h : Chg M w w1) (n : Nat) : Chg M w (w1.drewN n) := ⟨h.os, h.tape, h.output, h.size, h.block⟩

theorem Chg.alloc (h : Chg M w w1) (o : Obj) : Chg M w (w1.alloc o) :=
  h.trans (M' := fun _ => False) ⟨rfl, rfl, rfl, by simp, fun k hk _ => Below.heap_alloc _ _ _ hk⟩ (fun _ _ e => e.elim)

theorem Chg.setCell (h : Chg M w w1) {p : Addr} (hp : p.block < w.heap.size → M p.block) (u : Value) : Chg M w (w1.setCell p u) :=
  h.trans (M' := fun k => k = p.block) ⟨rfl, rfl, rfl, by simp [World.setCell], fun k _ hn => Below.heap_setCell _ _ _ _ hn⟩ (fun j hj e => by subst e; exact hp hj)

theorem Chg.own {p : Nat} (h : Chg (· = p) w w1) (i : Nat) (u : Value) : Chg (· = p) w (w1.setCell ⟨p, i, none⟩ u) := h.setCell (fun _ => rfl) u

theorem Chg.grown {row : Option Nat} (h : Chg M w w1) (hg : w1.grownBy w2 row) (hr : ∀ k, row = some k → k < w.heap.size → M k) : Chg M w w2 :=
  h.trans (M' := fun k => some k = row) ⟨hg.os, hg.tape, hg.output, hg.size, fun k hk hn => hg.block k hk hn⟩ (fun j hj e => hr j e.symm hj)

theorem Chg.below (h : Chg M w w1) (hb : Below w1.heap.size w1 w2) : Chg M w w2 :=
  h.trans (M' := fun _ => False) ⟨hb.os, hb.tape, hb.output, hb.size, fun k hk _ => hb.block k hk⟩ (fun _ _ e => e.elim)

theorem Chg.of_below (hb : Below w.heap.size w w1) : Chg M w w1 := (Chg.refl M w).below hb

/-- Nothing that was there has turned. -/
theorem Chg.to_below (h : Chg M w w1) (hm : ∀ j, j < w.heap.size → ¬ M j) : Below w.heap.size w w1 :=
  ⟨h.os, h.tape, h.output, h.size, fun k hk => h.block k hk (hm k hk)⟩

theorem Chg.belowB {B : Nat} (h : Chg M w w1) (hB : B ≤ w.heap.size) (hm : ∀ j, j < B → ¬ M j) : Below B w w1 :=
  ⟨h.os, h.tape, h.output, h.size, fun k hk => h.block k (Nat.lt_of_lt_of_le hk hB) (hm k hk)⟩

theorem Chg.cell (h : Chg M w w1) {p : Addr} (hp : p.block < w.heap.size) (hn : ¬ M p.block) : w1.cell? p = w.cell? p := World.cell?_of_block (h.block _ hp hn)
theorem Chg.frozen (h : Chg M w w1) {p : Addr} (hp : p.block < w.heap.size) (hn : ¬ M p.block) : w1.frozen? p = w.frozen? p := World.frozen?_of_block (h.block _ hp hn)
end

theorem undrew {B : Nat} {w w' : World} (h : Below B w.drew w') : Below B w w' := ⟨h.os, h.tape, h.output, h.size, h.block⟩

/-! ### a region that draws its order, whose operations read and whose callees make memory alone -/
/-- A world in which all that w has is as it was. -/
structure BelowOf (w : World) where
  val : World
  prop : Below w.heap.size w val

instance (w : World) : Nonempty (BelowOf w) := ⟨⟨w, Below.refl _ w⟩⟩

theorem wp_region_below {P : Program} {id : Nat} {Q : Exit → Act → World → Prop} {a : Act} {w : World} {l : List Oper} (hm : P.follows .mixedOrders = true) (hB : Region.lexB .any l.toArray = true)
    (h : wpQuiet P l.toArray (fun w' => ∃ p : BelowOf w, w' = p.val) (fun a' => ∀ w', (∃ p : BelowOf w, w' = p.val) → Q .normal a' w') l a) : (Code.region id l.toArray true).wp P Q a w :=
  wp_region_quiet (C := fun w' => ∃ p : BelowOf w, w' = p.val) hm hB ⟨⟨w.drew, (Below.refl _ w).drew⟩, rfl⟩ (by simpa using h)

theorem Calls.below_of {P : Program} {f : FuncId} {args : Array Value} {w : World} {p : BelowOf w} {v : Value}
    (h : Calls P f args p.val fun e w' => e = .returned v ∧ Below p.val.heap.size p.val w') : Calls P f args p.val fun e w'' => e = .returned v ∧ ∃ q : BelowOf w, w'' = q.val :=
  h.mono fun _ w' ⟨he, hb⟩ => ⟨he, ⟨w', p.prop.trans (hb.mono p.prop.size)⟩, rfl⟩

theorem Calls.below_of_same {P : Program} {f : FuncId} {args : Array Value} {w : World} {p : BelowOf w} {v : Value}
    (h : Calls P f args p.val fun e w' => e = .returned v ∧ p.val = w') : Calls P f args p.val fun e w'' => e = .returned v ∧ ∃ q : BelowOf w, w'' = q.val :=
  h.mono fun _ _ ⟨he, hb⟩ => ⟨he, p, hb.symm⟩

theorem lt_of_heap {w : World} {g : Nat} {o : Obj} (h : w.heap[g]? = some o) : g < w.heap.size := (Array.getElem?_eq_some_iff.1 h).1

/-! ### one block, written -/
section
variable {w : World} {g : Nat} {cs : Array Value} {t : TypeId} {fr : Nat × Nat}

theorem heap_set_same (h : w.heap[g]? = some (.cells cs t fr)) (i : Nat) (u : Value) : (w.setCell ⟨g, i, none⟩ u).heap[g]? = some (.cells (cs.setIfInBounds i u) t fr) := by
  simp [World.setCell, Array.getElem?_modify, h]

theorem heap_set_other {p : Addr} {k : Nat} (hne : k ≠ p.block) (u : Value) : (w.setCell p u).heap[k]? = w.heap[k]? := Below.heap_setCell _ _ _ _ hne

theorem cell_of (h : w.heap[g]? = some (.cells cs t fr)) (i : Nat) : w.cell? ⟨g, i, none⟩ = cs[i]? := by simp [World.cell?, h]
theorem frozen_of (h : w.heap[g]? = some (.cells cs t (0, 0))) (i : Nat) : w.frozen? ⟨g, i, none⟩ = false := by simp [World.frozen?, h]
theorem ne_of_elem {g' : Nat} {cs' : Array Value} {t' : TypeId} {fr' : Nat × Nat} (h : w.heap[g]? = some (.cells cs t fr)) (h' : w.heap[g']? = some (.cells cs' t' fr')) (ht : t ≠ t') : g ≠ g' := by
  rintro rfl
  rw [h] at h'
  injection h' with h'
  injection h' with _ h2
  exact ht h2
theorem ne_of_map {m : Nat} {es : Array MapEntry} {c : Nat} (h : w.heap[g]? = some (.cells cs t fr)) (h' : w.heap[m]? = some (.map es c)) : g ≠ m := by
  rintro rfl
  rw [h] at h'
  injection h' with h'
  injection h'
end

/-! ### byte rows -/
abbrev Bytes := List UInt8
/-- A byte as a cell. -/
def u8v (c : UInt8) : Value := .int .u8 (c.toNat : Int)

/-- v is a slice that begins at the head of a byte block of F and holds b. (t: the bytes' type) -/
def Dat (t : TypeId) (w : World) (F : Nat → Prop) (v : Value) (b : Bytes) : Prop :=
  ∃ g cap cur, v = .slice (some ⟨g, 0, none⟩) b.length cap ∧ F g ∧ w.heap[g]? = some (.cells cur t (0, 0)) ∧ b.length ≤ cap ∧ cap ≤ maxLen ∧ cap ≤ cur.size ∧ cur.toList.take b.length = b.map u8v

section
variable {t : TypeId} {w w' : World} {F F' : Nat → Prop} {v : Value} {b : Bytes}

theorem Dat.mono (h : Dat t w F v b) (hF : ∀ k, F k → F' k) : Dat t w F' v b := by
  obtain ⟨g, cap, cur, h1, h2, h3⟩ := h
  exact ⟨g, cap, cur, h1, hF _ h2, h3⟩

theorem Dat.heap (h : Dat t w F v b) (hk : ∀ k cs, F k → w.heap[k]? = some (.cells cs t (0, 0)) → w'.heap[k]? = some (.cells cs t (0, 0))) : Dat t w' F v b := by
  obtain ⟨g, cap, cur, h1, h2, h3, h4⟩ := h
  exact ⟨g, cap, cur, h1, h2, hk _ _ h2 h3, h4⟩

theorem Dat.chg {M : Nat → Prop} (h : Dat t w F v b) (hc : Chg M w w') (hM : ∀ k, F k → ¬ M k) : Dat t w' F v b :=
  h.heap fun k _ hk h3 => (hc.block k (lt_of_heap h3) (hM k hk)).trans h3

theorem Dat.of_own {base n : Nat} (h : w.ownsRow base t 1 v n (b.map u8v)) (hn : v ≠ .slice none 0 0) (hF : ∀ g, v.ownBlock = some g → F g) : Dat t w F v b := by
  obtain ⟨hl, h | ⟨g, cap, cur, rfl, _, h3, h4, h5, h6, h7⟩⟩ := h
  · exact absurd h.1 hn
  · have hb : b.length = n := by simpa using hl
    subst hb
    exact ⟨g, cap, cur, rfl, hF g rfl, h3, h4, h5, by simp at h6; omega, by simpa using h7⟩

/-- v is a slice that reads b, wherever it begins. -/
def Src (t : TypeId) (w : World) (F : Nat → Prop) (v : Value) (b : Bytes) : Prop :=
  ∃ g off cap cur fr, v = .slice (some ⟨g, off, none⟩) b.length cap ∧ F g ∧ w.heap[g]? = some (.cells cur t fr) ∧ b.length ≤ cap ∧ cap ≤ maxLen ∧ ∀ j u, (b.map u8v)[j]? = some u → w.cell? ⟨g, off + j, none⟩ = some u

theorem Src.heap (h : Src t w F v b) (hk : ∀ k cs fr, F k → w.heap[k]? = some (.cells cs t fr) → w'.heap[k]? = some (.cells cs t fr)) : Src t w' F v b := by
  obtain ⟨g, off, cap, cur, fr, h1, h2, h3, h4, h5, h6⟩ := h
  exact ⟨g, off, cap, cur, fr, h1, h2, hk _ _ _ h2 h3, h4, h5, fun j u hj => (World.cell?_of_block (w := w) ((hk _ _ _ h2 h3).trans h3.symm)).trans (h6 j u hj)⟩

theorem Src.chg {M : Nat → Prop} (h : Src t w F v b) (hc : Chg M w w') (hM : ∀ k, F k → ¬ M k) : Src t w' F v b :=
  h.heap fun k _ _ hk h3 => (hc.block k (lt_of_heap h3) (hM k hk)).trans h3

theorem Src.mono (h : Src t w F v b) (hF : ∀ k, F k → F' k) : Src t w F' v b := by
  obtain ⟨g, off, cap, cur, fr, h1, h2, h3⟩ := h
  exact ⟨g, off, cap, cur, fr, h1, hF _ h2, h3⟩

/-- v is a slice at the head of block g that reads b and may be written. -/
def Buf (t : TypeId) (w : World) (g : Nat) (v : Value) (b : Bytes) : Prop :=
  ∃ cap cur fr, v = .slice (some ⟨g, 0, none⟩) b.length cap ∧ w.heap[g]? = some (.cells cur t fr) ∧ b.length ≤ cap ∧ cap ≤ maxLen ∧ cap ≤ cur.size ∧ cur.toList.take b.length = b.map u8v ∧ ∀ i, i < b.length → (fr.1 ≤ i && i < fr.2) = false

theorem Dat.buf (h : Dat t w F v b) : ∃ g, F g ∧ Buf t w g v b := by
  obtain ⟨g, cap, cur, h1, h2, h3, h4, h5, h6, h7⟩ := h
  exact ⟨g, h2, cap, cur, (0, 0), h1, h3, h4, h5, h6, h7, fun i _ => by simp⟩

theorem Buf.cells {g : Nat} (h : Buf t w g v b) : ∀ j u, (b.map u8v)[j]? = some u → w.cell? ⟨g, j, none⟩ = some u := by
  obtain ⟨cap, cur, fr, h1, h3, h4, h5, h6, h7, _⟩ := h
  intro j u hu
  rw [cell_of h3]
  rw [← h7, List.getElem?_take] at hu
  split at hu
  · simpa using hu
  · cases hu

theorem Buf.src {g : Nat} (h : Buf t w g v b) : Src t w (· = g) v b := by
  have hc := h.cells
  obtain ⟨cap, cur, fr, h1, h3, h4, h5, h6, h7, _⟩ := h
  exact ⟨g, 0, cap, cur, fr, h1, rfl, h3, h4, h5, fun j u hu => by rw [Nat.zero_add]; exact hc j u hu⟩

theorem Dat.src (h : Dat t w F v b) : Src t w F v b := by
  obtain ⟨g, hg, hb⟩ := h.buf
  exact hb.src.mono fun k hk => by subst hk; exact hg

theorem Buf.heap {g : Nat} (h : Buf t w g v b) (hk : w'.heap[g]? = w.heap[g]?) : Buf t w' g v b := by
  obtain ⟨cap, cur, fr, h1, h3, h4⟩ := h
  exact ⟨cap, cur, fr, h1, hk.trans h3, h4⟩

theorem Buf.lt {g : Nat} (h : Buf t w g v b) : g < w.heap.size := by
  obtain ⟨cap, cur, fr, h1, h3, h4⟩ := h
  exact lt_of_heap h3

theorem Buf.chg {g : Nat} {M : Nat → Prop} (h : Buf t w g v b) (hc : Chg M w w') (hM : ¬ M g) : Buf t w' g v b := h.heap (hc.block g h.lt hM)

theorem Src.news {g off : Nat} {b : Bytes} (h : ∀ j u, (b.map u8v)[j]? = some u → w.cell? ⟨g, off + j, none⟩ = some u) : ∀ j u, (b.map u8v)[j]? = some u → w.cell? ((⟨g, off, none⟩ : Addr).add j) = some u := by
  intro j u hu
  rw [show (⟨g, off, none⟩ : Addr).add j = ⟨g, off + j, none⟩ from by unfold Addr.add; split <;> simp_all]
  exact h j u hu

theorem Dat.news {g : Nat} {cur : Array Value} {b : Bytes} (h : w.heap[g]? = some (.cells cur t (0, 0))) (ht : cur.toList.take b.length = b.map u8v) :
    ∀ j u, (b.map u8v)[j]? = some u → w.cell? ((⟨g, 0, none⟩ : Addr).add j) = some u := by
  intro j u hu
  have hadd : (⟨g, 0, none⟩ : Addr).add j = ⟨g, j, none⟩ := by unfold Addr.add; split <;> simp_all
  rw [hadd, cell_of h]
  rw [← ht, List.getElem?_take] at hu
  split at hu
  · simpa using hu
  · cases hu

/-- The call hands back a new slice that holds b; nothing that was there has turned. -/
def Fresh (t : TypeId) (w : World) (b : Bytes) (e : Ending) (w' : World) : Prop := ∃ v g, e = .returned v ∧ Dat t w' (· = g) v b ∧ w.heap.size ≤ g ∧ Below w.heap.size w w'

theorem oneCells (b : Bytes) : ∀ u ∈ b.map u8v, u.oneCell' = true := by
  intro u hu
  obtain ⟨_, _, rfl⟩ := List.mem_map.1 hu
  rfl

theorem u8v_inj {a c : UInt8} (h : u8v a = u8v c) : a = c := by
  simp only [u8v, Value.int.injEq, true_and] at h
  exact UInt8.toNat_inj.1 (by omega)
end

/-! ### rows of ints -/
/-- v is a slice of the ints l; its cells lie in a block of F. -/
def IntsAt (w : World) (F : Nat → Prop) (v : Value) (l : List Int) : Prop :=
  ∃ a n c, v = .slice a n c ∧ l.length = n ∧ n ≤ 9223372036854775807 ∧ (n = 0 ∨ ∃ b off, a = some ⟨b, off, none⟩ ∧ F b ∧ b < w.heap.size ∧ ∀ j, j < n → w.cell? ⟨b, off + j, none⟩ = some (.int .i64 (l.getD j 0)))

theorem IntsAt.heap {w w' : World} {F : Nat → Prop} {v : Value} {l : List Int} (h : IntsAt w F v l) (hs : w.heap.size ≤ w'.heap.size) (hk : ∀ k, F k → k < w.heap.size → w'.heap[k]? = w.heap[k]?) : IntsAt w' F v l := by
  obtain ⟨a, n, c, h1, h2, h3, h4⟩ := h
  refine ⟨a, n, c, h1, h2, h3, h4.imp id ?_⟩
  rintro ⟨b, off, h5, h6, h7, h8⟩
  exact ⟨b, off, h5, h6, Nat.lt_of_lt_of_le h7 hs, fun j hj => (World.cell?_of_block (w := w) (hk b h6 h7)).trans (h8 j hj)⟩

theorem IntsAt.chg {w w' : World} {F M : Nat → Prop} {v : Value} {l : List Int} (h : IntsAt w F v l) (hc : Chg M w w') (hM : ∀ k, F k → k < w.heap.size → ¬ M k) : IntsAt w' F v l :=
  h.heap hc.size fun k hk hl => hc.block k hl (hM k hk hl)

theorem IntsAt.mono {w : World} {F F' : Nat → Prop} {v : Value} {l : List Int} (h : IntsAt w F v l) (hF : ∀ k, F k → F' k) : IntsAt w F' v l := by
  obtain ⟨a, n, c, h1, h2, h3, h4⟩ := h
  refine ⟨a, n, c, h1, h2, h3, h4.imp id ?_⟩
  rintro ⟨b, off, h5, h6, h7⟩
  exact ⟨b, off, h5, hF b h6, h7⟩

/-! ### maps from ints -/
/-- An element as it lies. -/
def rawE (v : Value) : Option (DataW Value × List MemPlace) := some (.held v, [])

/-- What a map's datum says at each number. -/
structure Says (D : DataW Value) (f : Nat → Option Value) : Prop where
  at_ : ∀ k v, f k = some v → ∀ z, D.atKey (.int .i64 (k : Int)) z = .held v
  no : ∀ k, f k = none → Maps.has D (.int .i64 (k : Int)) = false
  nat : ∀ x : Int, Maps.has D (.int .i64 x) = true → ∃ k : Nat, x = k

/-- Block m is a map of c entries: number k leads to 'f k'. (T: the keys' type) -/
def MapAt (P : Program) (T : TypeId) (w : World) (m : Nat) (f : Nat → Option Value) (c : Nat) : Prop :=
  ∃ D : DataW Value, w.ownsMap P T rawE m c D ∧ Maps.size D = c ∧ Says D f

def upd {α : Type} (f : Nat → α) (k : Nat) (v : α) : Nat → α := fun j => if j = k then v else f j
@[simp] theorem upd_same {α : Type} (f : Nat → α) (k : Nat) (v : α) : upd f k v k = v := by simp [upd]
theorem upd_other {α : Type} {f : Nat → α} {k j : Nat} (v : α) (h : j ≠ k) : upd f k v j = f j := by simp [upd, h]

section
variable {P : Program} {T Tm Te : TypeId} {w w' : World} {m c : Nat} {f : Nat → Option Value}

theorem MapAt.lt (h : MapAt P T w m f c) : m < w.heap.size := by
  obtain ⟨D, h, _⟩ := h
  exact h.lt

theorem MapAt.isMap (h : MapAt P T w m f c) : ∃ es cl, w.heap[m]? = some (.map es cl) := by
  obtain ⟨D, ⟨es, cl, hb, _⟩, _⟩ := h
  exact ⟨es, cl, hb⟩

theorem MapAt.heap (h : MapAt P T w m f c) (hk : w'.heap[m]? = w.heap[m]?) : MapAt P T w' m f c := by
  obtain ⟨D, ⟨es, cl, hb, r⟩, h2⟩ := h
  exact ⟨D, ⟨es, cl, hk.trans hb, r⟩, h2⟩

theorem MapAt.chg {M : Nat → Prop} (h : MapAt P T w m f c) (hc : Chg M w w') (hn : ¬ M m) : MapAt P T w' m f c := h.heap (hc.block m h.lt hn)

theorem isKeyLit (x : Int) : WideAt.IsKeyLit (.int .i64 x) := by simp [WideAt.IsKeyLit]


theorem Says.has_some {D : DataW Value} (h : Says D f) {k : Nat} {v : Value} (hk : f k = some v) : Maps.has D (.int .i64 (k : Int)) = true :=
  Maps.has_true_of_atKey (h.at_ k v hk)

theorem Says.put {D : DataW Value} (h : Says D f) (hD : Maps.IsMap D) (k : Nat) (v : Value) : Says (D.put (.int .i64 (k : Int)) (.held v)) (upd f k (some v)) := by
  refine ⟨fun j u hj z => ?_, fun j hj => ?_, fun x hx => ?_⟩
  · by_cases e : j = k
    · subst e
      rw [upd_same] at hj
      cases hj
      exact Maps.atKey_put_same hD (isKeyLit _) _ _
    · rw [upd_other _ e] at hj
      rw [Maps.atKey_put_other (by simp; omega)]
      exact h.at_ j u hj z
  · by_cases e : j = k
    · subst e
      rw [upd_same] at hj
      cases hj
    · rw [upd_other _ e] at hj
      rw [Maps.has_put_other (by simp; omega)]
      exact h.no j hj
  · by_cases e : x = (k : Int)
    · exact ⟨k, e⟩
    · rw [Maps.has_put_other (by simpa using e)] at hx
      exact h.nat x hx

theorem tight {n : Nat} {D : DataW Value} (h : w.ownsMap P T rawE m n D) : w.ownsMap P T rawE m (Maps.size D) D := by
  obtain ⟨es, cl, hb, F, hs, rfl⟩ := h
  exact ⟨es, cl, hb, F, by simp [Maps.size, length_sorted], rfl⟩

theorem keyOf_nat (hT : P.underlying T = some (.int .i64)) {k : Nat} (hk : k < 9223372036854775808) : keyOf P T (.int .i64 (k : Int)) = some (.int .i64 (k : Int)) :=
  keyOf_int_mk hT (WalkArith.wf_i64 (by omega))

/-- 'm[k] = v'. -/
theorem MapAt.store (h : MapAt P T w m f c) (hT : P.underlying T = some (.int .i64)) (ht : P.underlying Tm = some (.map T Te)) (hc : c < maxLen) {k : Nat} (hk : k < 9223372036854775808) (v : Value) :
    ∃ w', (Instr.mapUpdate Tm (.map (some m)) (.int .i64 (k : Int)) v).run P w = .ok () w' ∧ MapAt P T w' m (upd f k (some v)) (if (f k).isSome then c else c + 1) ∧ w.grownBy w' (some m) ∧ w'.heap.size = w.heap.size := by
  obtain ⟨D, hown, hsz, hS⟩ := h
  obtain ⟨w', hr, hown', hturn⟩ := hown.store (int_keyed hT) ht hc (keyOf_nat hT hk) (val := v) (d := .held v) (ps := []) rfl
  refine ⟨w', hr, ⟨_, ?_, ?_, hS.put hown.isMap k v⟩, hturn.grown, ?_⟩
  · have := tight hown'
    rwa [Maps.size_put (hown.tidy (int_keyed hT)), hsz, show Maps.has D (.int .i64 (k : Int)) = (f k).isSome from ?_] at this
    cases hf : f k with
    | none => exact hS.no k hf
    | some u => exact hS.has_some hf
  · rw [Maps.size_put (hown.tidy (int_keyed hT)), hsz, show Maps.has D (.int .i64 (k : Int)) = (f k).isSome from ?_]
    cases hf : f k with
    | none => exact hS.no k hf
    | some u => exact hS.has_some hf
  · obtain ⟨_, _, es', cl', _, rfl⟩ := hturn
    simp [ChangeMaps.setBlock]

/-- 'v, ok := m[k]'. -/
theorem MapAt.look (h : MapAt P T w m f c) (hT : P.underlying T = some (.int .i64)) (ht : P.underlying Tm = some (.map T Te)) {z : Value} (hz : (zeroValue Te).run P w = .ok z w) {k : Nat} (hk : k < 9223372036854775808) :
    (Instr.lookup Tm (.map (some m)) (.int .i64 (k : Int)) true).run P w = .ok (.tuple #[(f k).getD z, .bool (f k).isSome]) w := by
  obtain ⟨D, hown, hsz, hS⟩ := h
  obtain ⟨v, ps, hr, hv⟩ := hown.look_ok (int_keyed hT) ht hz (zd := .held z) (zp := []) rfl (keyOf_nat hT hk)
  rw [hr]
  simp only [rawE, Option.some.injEq, Prod.mk.injEq] at hv
  cases hf : f k with
  | none =>
    rw [hS.no k hf]
    rw [Maps.atKey_of_not_has (hS.no k hf)] at hv
    simp at hv
    simp [hv.1]
  | some u =>
    rw [hS.has_some hf]
    rw [hS.at_ k u hf] at hv
    simp at hv
    simp [hv.1]

/-- 'm[k]' of one that is there. -/
theorem MapAt.look1 (h : MapAt P T w m f c) (hT : P.underlying T = some (.int .i64)) (ht : P.underlying Tm = some (.map T Te)) {z : Value} (hz : (zeroValue Te).run P w = .ok z w) {k : Nat} (hk : k < 9223372036854775808) {v : Value} (hv : f k = some v) :
    (Instr.lookup Tm (.map (some m)) (.int .i64 (k : Int)) false).run P w = .ok v w := by
  obtain ⟨D, ⟨es, cl, hb, F, hs, rfl⟩, hsz, hS⟩ := h
  rcases Maps.fit_look false (int_keyed hT) ht hz hb F (keyOf_nat hT hk) with ⟨hrun, _, hat⟩ | ⟨e0, y, _, _, hrun, hRv, hat, _⟩
  · have h1 := hat .nil
    rw [hS.at_ k v hv] at h1
    cases h1
  · have h1 := hat .nil
    rw [hS.at_ k v hv] at h1
    simp only [rawE, Option.some.injEq] at hRv
    subst hRv
    simp at h1
    rw [hrun, h1]
    rfl

/-- 'len(m)'. -/
theorem MapAt.len (h : MapAt P T w m f c) (ht : P.underlying Tm = some (.map T Te)) (ty : TypeId) : (Builtin.len_ #[Tm] ty #[.map (some m)]).run P w = .ok (.int .i64 (c : Int)) w := by
  obtain ⟨D, hown, hsz, _⟩ := h
  rw [hown.len ht ty, hsz]

/-- A new map. -/
theorem MapAt.made (w : World) : MapAt P T (w.alloc (.map #[] 0)) w.heap.size (fun _ => none) 0 :=
  ⟨.map [], World.ownsMap_made _ _ _ _, rfl, ⟨fun _ _ h => by simp at h, fun _ _ => rfl, fun _ h => by simp [Maps.has] at h⟩⟩

/-- The numbers below n at which f has something. -/
def keysOf (f : Nat → Option Value) (n : Nat) : List Nat := (List.range n).filter fun k => (f k).isSome

theorem mem_keysOf {n k : Nat} : k ∈ keysOf f n ↔ k < n ∧ (f k).isSome = true := by simp [keysOf]

theorem Says.perm {n : Nat} {D : DataW Value} (hS : Says D f) (hown : w.ownsMap P T rawE m c D) (hT : P.underlying T = some (.int .i64)) (hn : ∀ k, (f k).isSome = true → k < n) : ((keysOf f n).map fun (k : Nat) => (k : Int)).Perm (intKeys D) := by
  obtain ⟨es, rfl, hpw, _⟩ := hown.entries (int_keyed hT)
  obtain ⟨es', hD', hko⟩ := hown.keysOf
  obtain rfl : es = es' := by simpa using hD'
  refine perm_intKeys hpw (fun p hp => ?_) ?_ (fun x => ?_)
  · obtain ⟨v, hv⟩ := hko p hp
    obtain ⟨x, _, hx, _⟩ := Maps.keyOf_i64 hT hv
    exact ⟨x, hx⟩
  · refine List.pairwise_map.2 (List.Pairwise.imp ?_ (List.Pairwise.filter _ (List.nodup_range (n := n))))
    intro a b hab e
    exact hab (by omega)
  · rw [List.mem_map]
    constructor
    · rintro ⟨k, hk, rfl⟩
      obtain ⟨_, h2⟩ := mem_keysOf.1 hk
      obtain ⟨u, hu⟩ := Option.isSome_iff_exists.1 h2
      exact hS.has_some hu
    · intro hx
      obtain ⟨k, rfl⟩ := hS.nat x hx
      refine ⟨k, mem_keysOf.2 ?_, rfl⟩
      cases hf : f k with
      | none =>
        rw [hS.no k hf] at hx
        cases hx
      | some u => exact ⟨hn k (by rw [hf]; rfl), rfl⟩

/-- How many entries there are. -/
theorem MapAt.count {n : Nat} (h : MapAt P T w m f c) (hT : P.underlying T = some (.int .i64)) (hn : ∀ k, (f k).isSome = true → k < n) : c = (keysOf f n).length := by
  obtain ⟨D, hown, hsz, hS⟩ := h
  have h1 := (hS.perm hown hT hn).length_eq
  rw [List.length_map] at h1
  rw [h1, ← hsz]
  cases D <;> simp [Maps.size, intKeys]

theorem MapAt.le {n : Nat} (h : MapAt P T w m f c) (hT : P.underlying T = some (.int .i64)) (hn : ∀ k, (f k).isSome = true → k < n) : c ≤ n := by
  rw [h.count hT hn]
  have := List.length_filter_le (fun k => (f k).isSome) (List.range n)
  rw [List.length_range] at this
  exact this

/-! ### going over a map that stays as it is -/
/-- The walk 'it' goes over map m; 'left k': k is still to come; n of them. -/
def RangeAt (P : Program) (T : TypeId) (w : World) (m it : Nat) (f : Nat → Option Value) (c : Nat) (left : Nat → Bool) (n : Nat) : Prop :=
  ∃ (D : DataW Value) (lf : Lit → Bool), w.ranges P T rawE m it c D lf n ∧ Maps.size D = c ∧ Says D f ∧ ∀ k : Nat, left k = lf (.int .i64 (k : Int))

theorem RangeAt.map {it n : Nat} {left : Nat → Bool} (h : RangeAt P T w m it f c left n) : MapAt P T w m f c := by
  obtain ⟨D, lf, hr, h1, h2, _⟩ := h
  exact ⟨D, hr.owns, h1, h2⟩

theorem RangeAt.lt {it n : Nat} {left : Nat → Bool} (h : RangeAt P T w m it f c left n) : it < w.heap.size := by
  obtain ⟨D, lf, hr, _⟩ := h
  exact hr.lt

theorem RangeAt.isIter {it n : Nat} {left : Nat → Bool} (h : RangeAt P T w m it f c left n) : ∃ a b d e, w.heap[it]? = some (.mapIter a b d e) := by
  obtain ⟨D, lf, ⟨es, clock, since, seen, c0, _, _, _, _, hr, _⟩, _⟩ := h
  exact ⟨_, _, _, _, hr⟩

theorem RangeAt.heap {it n : Nat} {left : Nat → Bool} (h : RangeAt P T w m it f c left n) (hm : w'.heap[m]? = w.heap[m]?) (hi : w'.heap[it]? = w.heap[it]?) : RangeAt P T w' m it f c left n := by
  obtain ⟨D, lf, ⟨es, clock, since, seen, c0, hb, F, hs, hD, hr, rest⟩, h1, h2⟩ := h
  exact ⟨D, lf, ⟨es, clock, since, seen, c0, hm.trans hb, F, hs, hD, hi.trans hr, rest⟩, h1, h2⟩

/-- The start. -/
theorem MapAt.range (h : MapAt P T w m f c) (hT : P.underlying T = some (.int .i64)) (ht : P.underlying Tm = some (.map T Te)) :
    ∃ w', (Instr.range Tm (.map (some m))).run P w = .ok (.pointer (some ⟨w.heap.size, 0, none⟩)) w' ∧ RangeAt P T w' m w.heap.size f c (fun k => (f k).isSome) c ∧ w.grownBy w' none ∧ w'.heap.size = w.heap.size + 1 := by
  obtain ⟨D, hown, hsz, hS⟩ := h
  obtain ⟨w', hr, h1, h2, h3⟩ := hown.range (int_keyed hT) ht
  refine ⟨w', hr, ⟨D, _, hsz ▸ h1, hsz, hS, fun k => ?_⟩, h2, h3⟩
  show (f k).isSome = _
  cases hf : f k with
  | none => rw [hS.no k hf]; rfl
  | some u => rw [hS.has_some hf]; rfl

/-- One step: it is over; or some number that is still to come. -/
theorem RangeAt.next {it n : Nat} {left : Nat → Bool} (h : RangeAt P T w m it f c left n) (hT : P.underlying T = some (.int .i64)) (ty : TypeId) :
    (n = 0 ∧ (∀ k, left k = false) ∧ (Instr.next (.pointer (some ⟨it, 0, none⟩)) false ty).run P w = .ok (.tuple #[.bool false]) w) ∨
    ∃ (k : Nat) (v : Value) (w' : World) (n' : Nat), f k = some v ∧ left k = true ∧ (Instr.next (.pointer (some ⟨it, 0, none⟩)) false ty).run P w = .ok (.tuple #[.bool true, .int .i64 (k : Int), v]) w' ∧
      RangeAt P T w' m it f c (fun j => left j && !decide (j = k)) n' ∧ n' < n ∧ w.grownBy w' (some it) ∧ w'.heap.size = w.heap.size ∧ (Instr.entry (.pointer (some ⟨it, 0, none⟩))).run P w' = .ok (.tuple #[.int .i64 (k : Int), v]) w' := by
  obtain ⟨D, lf, hr, h1, hS, h3⟩ := h
  rcases hr.next (int_keyed hT) ty with ⟨e1, e2, e3⟩ | ⟨key, v, kl, y, w', n', k1, k2, k3, k4, k5, k6, k7, k8, k9, k10⟩
  · exact .inl ⟨e1, fun k => by rw [h3, e2], e3⟩
  · obtain ⟨x, rfl, rfl, _⟩ := Maps.keyOf_i64 hT k1
    obtain ⟨k, rfl⟩ := hS.nat x (Maps.has_true_of_atKey k4)
    simp only [rawE, Option.some.injEq] at k3
    subst k3
    refine .inr ⟨k, v, w', n', ?_, by rw [h3, k2], k5, ⟨D, _, k6, h1, hS, fun j => ?_⟩, k7, k8, k9, k10⟩
    · cases hf : f k with
      | none =>
        have h5 := (Maps.atKey_of_not_has (hS.no k hf) .nil).symm.trans (k4 .nil)
        cases h5
      | some u =>
        have h5 := (hS.at_ k u hf .nil).symm.trans (k4 .nil)
        simpa using h5
    · show (left j && !decide (j = k)) = _
      rw [h3]
      by_cases e : j = k
      · subst e; simp [Lit.sameKey]
      · have e' : ¬ (j : Int) = k := by omega
        simp [Lit.sameKey, e, e']

/-- 'range' at its operation. -/
theorem wpList_range {ops : Array Oper} {rest : List Oper} {o : Oper} {a : Act} {Q : Exit → Act → World → Prop} (hg : o.guard = none) (x : Operand) (hop : o.op = Op.range Tm x)
    (hT : P.underlying T = some (.int .i64)) (ht : P.underlying Tm = some (.map T Te)) (hm : a.eval x = .map (some m)) (h : MapAt P T w m f c)
    (hK : ∀ w', RangeAt P T w' m w.heap.size f c (fun k => (f k).isSome) c → w.grownBy w' none → w'.heap.size = w.heap.size + 1 → wpList P ops Q rest (a.put o.dst (.pointer (some ⟨w.heap.size, 0, none⟩))) w') :
    wpList P ops Q (o :: rest) a w := by
  refine wpList_plain hg fun K' hK' => ?_
  obtain ⟨w', hrun, r1, r2, r3⟩ := h.range hT ht
  unfold Oper.wp
  simp [execOp, hop, hm, hrun, Result.andThen]
  exact hK' _ _ (hK w' r1 r2 r3)

/-- 'next' at its operation. -/
theorem wpList_next {it n : Nat} {left : Nat → Bool} {ops : Array Oper} {rest : List Oper} {o : Oper} {a : Act} {Q : Exit → Act → World → Prop} (hg : o.guard = none) (x : Operand) (hop : o.op = Op.next x false)
    (hT : P.underlying T = some (.int .i64)) (hx : a.eval x = .pointer (some ⟨it, 0, none⟩)) (h : RangeAt P T w m it f c left n)
    (hDone : n = 0 → (∀ k, left k = false) → wpList P ops Q rest (a.put o.dst (.tuple #[.bool false])) w)
    (hMore : ∀ (k : Nat) (v : Value) (w' : World) (n' : Nat), f k = some v → left k = true → RangeAt P T w' m it f c (fun j => left j && !decide (j = k)) n' → n' < n → w.grownBy w' (some it) → w'.heap.size = w.heap.size →
      (Instr.entry (.pointer (some ⟨it, 0, none⟩))).run P w' = .ok (.tuple #[.int .i64 (k : Int), v]) w' → wpList P ops Q rest (a.put o.dst (.tuple #[.bool true, .int .i64 (k : Int), v])) w') :
    wpList P ops Q (o :: rest) a w := by
  refine wpList_plain hg fun K' hK' => ?_
  rcases h.next hT o.type with ⟨e1, e2, e3⟩ | ⟨k, v, w', n', k1, k2, k3, k4, k5, k6, k7, k8⟩
  · unfold Oper.wp
    simp [execOp, hop, hx, e3, Result.andThen]
    exact hK' _ _ (hDone e1 e2)
  · unfold Oper.wp
    simp [execOp, hop, hx, k3, Result.andThen]
    exact hK' _ _ (hMore k v w' n' k1 k2 k4 k5 k6 k7 k8)

/-- 'm[k] = v' at its operation. -/
theorem wpList_store {ops : Array Oper} {rest : List Oper} {o : Oper} {a : Act} {Q : Exit → Act → World → Prop} (hg : o.guard = none) (x y z : Operand) (hop : o.op = Op.mapUpdate Tm x y z)
    (hT : P.underlying T = some (.int .i64)) (ht : P.underlying Tm = some (.map T Te)) (h : MapAt P T w m f c) (hc : c < maxLen) {k : Nat} (hk : k < 9223372036854775808) (v : Value)
    (hx : a.eval x = .map (some m)) (hy : a.eval y = .int .i64 (k : Int)) (hz : a.eval z = v)
    (hK : ∀ w', MapAt P T w' m (upd f k (some v)) (if (f k).isSome then c else c + 1) → w.grownBy w' (some m) → w'.heap.size = w.heap.size → wpList P ops Q rest (a.put o.dst undef) w') :
    wpList P ops Q (o :: rest) a w := by
  refine wpList_plain hg fun K' hK' => ?_
  obtain ⟨w', hrun, r1, r2, r3⟩ := h.store hT ht hc hk v
  unfold Oper.wp
  simp [execOp, hop, hx, hy, hz, hrun, Result.andThen]
  exact hK' _ _ (hK w' r1 r2 r3)

/-- The same at a step of a region that draws its order. -/
theorem step_store {ops : Array Oper} {o : Oper} {a : Act} {K : Act → World → Prop} {Q : Exit → Act → World → Prop} {E : Prop} (hg : o.guard = none) (x y z : Operand) (hop : o.op = Op.mapUpdate Tm x y z)
    (hT : P.underlying T = some (.int .i64)) (ht : P.underlying Tm = some (.map T Te)) (h : MapAt P T w m f c) (hc : c < maxLen) {k : Nat} (hk : k < 9223372036854775808) (v : Value)
    (hx : a.eval x = .map (some m)) (hy : a.eval y = .int .i64 (k : Int)) (hz : a.eval z = v)
    (hK : ∀ w', MapAt P T w' m (upd f k (some v)) (if (f k).isSome then c else c + 1) → w.grownBy w' (some m) → w'.heap.size = w.heap.size → K (a.put o.dst undef) w') :
    if Region.wanted o (yielded ops a.tmps) = true then Oper.wp P o a w K Q else E := by
  rw [if_pos (by simp [Region.wanted, hg])]
  obtain ⟨w', hrun, r1, r2, r3⟩ := h.store hT ht hc hk v
  unfold Oper.wp
  simp [execOp, hop, hx, hy, hz, hrun, Result.andThen]
  exact hK w' r1 r2 r3

end
end Go.Lz
/-
  The plain device: what lasts, what waits, how many calls went well, the fuse. No memory here.
-/
namespace Go.Lz
open Go.RowKit

def zero64 : Bytes := List.replicate 64 0
@[simp] theorem zero64_length : zero64.length = 64 := rfl

structure DevS where
  n : Nat
  last : Nat → Bytes
  wait : Nat → Option Bytes
  calls : Int
  fuse : Int
  dead : Bool

namespace DevS
def new (n : Nat) : DevS := ⟨n, fun _ => zero64, fun _ => none, 0, -1, false⟩
/-- What was last written. -/
def now (S : DevS) (i : Nat) : Bytes := (S.wait i).getD (S.last i)
def wrong (S : DevS) (i : Int) : Int := if S.dead = true then 50 else if i < 0 ∨ (S.n : Int) ≤ i then 1 else 0
def burned (S : DevS) : DevS := { S with fuse := max (S.fuse - 1) (-1), calls := wrap64 (S.calls + 1) }
def killed (S : DevS) : DevS := { S with dead := true }
def counted (S : DevS) : DevS := { S with calls := wrap64 (S.calls + 1) }
def put (S : DevS) (k : Nat) (b : Bytes) : DevS := { S with wait := upd S.wait k (some b) }
def flushed (S : DevS) : DevS := { S with last := S.now, wait := fun _ => none }
/-- What lasts behind a crash that keeps some. -/
def crashed (S : DevS) (flip : Bool) (l : List Int) : DevS :=
  { S with last := fun k => if (decide ((k : Int) ∈ l)) != flip then S.now k else S.last k, wait := fun _ => none, dead := false, fuse := -1 }
def fused (S : DevS) (k : Int) : DevS := { S with fuse := max k (-1) }

structure ok (S : DevS) : Prop where
  n : S.n ≤ 8192
  fuse : -1 ≤ S.fuse ∧ S.fuse ≤ 9223372036854775807
  last : ∀ k, (S.last k).length = 64
  wait : ∀ k b, S.wait k = some b → b.length = 64 ∧ k < S.n

theorem ok_new {n : Nat} (h : n ≤ 8192) : (new n).ok := ⟨h, by simp [new], fun _ => rfl, fun _ _ h => by simp [new] at h⟩
section
variable {S : DevS} (h : S.ok)
include h
theorem ok.now (k : Nat) : (S.now k).length = 64 := by
  unfold DevS.now
  cases hw : S.wait k with
  | none => exact h.last k
  | some b => exact (h.wait k b hw).1
theorem ok.burned : S.burned.ok := ⟨h.n, by have := h.fuse; simp only [DevS.burned]; omega, h.last, h.wait⟩
theorem ok.killed : S.killed.ok := ⟨h.n, h.fuse, h.last, h.wait⟩
theorem ok.counted : S.counted.ok := ⟨h.n, h.fuse, h.last, h.wait⟩
theorem ok.put {k : Nat} {b : Bytes} (hk : k < S.n) (hb : b.length = 64) : (S.put k b).ok := ⟨h.n, h.fuse, h.last, fun j c hj => by
  by_cases e : j = k
  · subst e
    simp only [DevS.put, upd_same, Option.some.injEq] at hj
    subst hj
    exact ⟨hb, hk⟩
  · simp only [DevS.put, upd_other _ e] at hj
    exact h.wait j c hj⟩
theorem ok.flushed : S.flushed.ok := ⟨h.n, h.fuse, h.now, fun _ _ h => by simp [DevS.flushed] at h⟩
theorem ok.crashed (flip : Bool) (l : List Int) : (S.crashed flip l).ok := ⟨h.n, by simp [DevS.crashed], fun k => by
  simp only [DevS.crashed]
  split
  · exact h.now k
  · exact h.last k, fun _ _ h => by simp [DevS.crashed] at h⟩
theorem ok.fused {k : Int} (hk : k ≤ 9223372036854775807) : (S.fused k).ok := ⟨h.n, by simp only [DevS.fused]; omega, h.last, h.wait⟩
end
end DevS

/-- F and what is new in w'. -/
def ext (F : Nat → Prop) (w w' : World) : Nat → Prop := fun j => F j ∨ (w.heap.size ≤ j ∧ j < w'.heap.size)

/-! ### the device in memory -/
/-- Block p is the device S; lv its row of sectors, m its map of what waits. All blocks that it leads to are in F. -/
structure DevIn (P : Program) (w : World) (p : Nat) (S : DevS) (F : Nat → Prop) (lv : Value) (m : Nat) (vs : List Value) (vf : Nat → Option Value) (c : Nat) : Prop where
  blk : w.heap[p]? = some (.cells #[lv, .map (some m), .int .i64 S.calls, .int .i64 S.fuse, .bool S.dead] 140 (0, 0))
  arr : w.ownsRow 0 23 1 lv S.n vs
  arrF : ∀ g, lv.ownBlock = some g → F g
  dat : ∀ i v, vs[i]? = some v → Dat 5 w F v (S.last i)
  map : MapAt P 3 w m vf c
  mdat : ∀ i v, vf i = some v → ∃ b, S.wait i = some b ∧ Dat 5 w F v b
  mno : ∀ i, vf i = none → S.wait i = none
  Fp : F p
  Fm : F m
  Flt : ∀ k, F k → k < w.heap.size
  ok : S.ok

/-- The blocks of F that are no plain byte rows. -/
def ownF (F : Nat → Prop) (w : World) : Nat → Prop := fun j => F j ∧ ∀ cs, w.heap[j]? ≠ some (.cells cs 5 (0, 0))

theorem ownF.back {F : Nat → Prop} {w w' : World} (hc : Chg (ownF F w) w w') {j : Nat} (hj : j < w.heap.size) (h : ownF F w' j) : ownF F w j :=
  ⟨h.1, fun cs e => h.2 cs ((hc.block j hj (fun k => k.2 cs e)).trans e)⟩

theorem Chg.own_trans {F : Nat → Prop} {w w1 w2 : World} (h : Chg (ownF F w) w w1) (k : Chg (ownF F w1) w1 w2) : Chg (ownF F w) w w2 := h.trans k fun _ hj e => ownF.back h hj e

theorem DevIn.own_p {P : Program} {w : World} {p : Nat} {S : DevS} {F : Nat → Prop} {lv : Value} {m : Nat} {vs : List Value} {vf : Nat → Option Value} {c : Nat} (h : DevIn P w p S F lv m vs vf c) : ownF F w p :=
  ⟨h.Fp, fun _ e => ne_of_elem h.blk e (by decide) rfl⟩

theorem DevIn.own_m {P : Program} {w : World} {p : Nat} {S : DevS} {F : Nat → Prop} {lv : Value} {m : Nat} {vs : List Value} {vf : Nat → Option Value} {c : Nat} (h : DevIn P w p S F lv m vs vf c) : ownF F w m :=
  ⟨h.Fm, fun _ e => by obtain ⟨es, cl, hm⟩ := h.map.isMap; exact ne_of_map e hm rfl⟩

theorem DevIn.own_row {P : Program} {w : World} {p : Nat} {S : DevS} {F : Nat → Prop} {lv : Value} {m : Nat} {vs : List Value} {vf : Nat → Option Value} {c g n cap : Nat} (h : DevIn P w p S F lv m vs vf c) (hlv : lv = .slice (some ⟨g, 0, none⟩) n cap) : ownF F w g := by
  subst hlv
  refine ⟨h.arrF g rfl, fun _ e => ?_⟩
  rcases h.arr.2 with ⟨e1, _⟩ | ⟨g', _, _, e1, _, h4, _⟩
  · cases e1
  · cases e1
    exact ne_of_elem h4 e (by decide) rfl

def DevAt (P : Program) (w : World) (p : Nat) (S : DevS) (F : Nat → Prop) : Prop := ∃ lv m vs vf c, DevIn P w p S F lv m vs vf c

section
variable {P : Program} {w w' : World} {p : Nat} {S : DevS} {F F' : Nat → Prop} {lv : Value} {m : Nat} {vs : List Value} {vf : Nat → Option Value} {c : Nat}

theorem ownsRow_chg {M : Nat → Prop} {base n size : Nat} {e : TypeId} {v : Value} {xs : List Value} (h : w.ownsRow base e size v n xs) (hc : Chg M w w') (hn : ∀ g, v.ownBlock = some g → ¬ M g) : w'.ownsRow base e size v n xs := by
  refine ⟨h.1, ?_⟩
  rcases h.2 with h2 | ⟨g, cap, cur, rfl, h2, h3, h4⟩
  · exact .inl h2
  · exact .inr ⟨g, cap, cur, rfl, h2, (hc.block g (lt_of_heap h3) (hn g rfl)).trans h3, h4⟩

theorem DevIn.chg {M : Nat → Prop} (h : DevIn P w p S F lv m vs vf c) (hc : Chg M w w') (hM : ∀ k, F k → ¬ M k) : DevIn P w' p S F lv m vs vf c where
  blk := (hc.block p (lt_of_heap h.blk) (hM p h.Fp)).trans h.blk
  arr := ownsRow_chg h.arr hc fun g hg => hM g (h.arrF g hg)
  arrF := h.arrF
  dat i v hv := (h.dat i v hv).chg hc hM
  map := h.map.chg hc (hM m h.Fm)
  mdat i v hv := by
    obtain ⟨b, h1, h2⟩ := h.mdat i v hv
    exact ⟨b, h1, h2.chg hc hM⟩
  mno := h.mno
  Fp := h.Fp
  Fm := h.Fm
  Flt k hk := Nat.lt_of_lt_of_le (h.Flt k hk) hc.size
  ok := h.ok

theorem DevAt.chg {M : Nat → Prop} (h : DevAt P w p S F) (hc : Chg M w w') (hM : ∀ k, F k → ¬ M k) : DevAt P w' p S F := by
  obtain ⟨lv, m, vs, vf, c, h⟩ := h
  exact ⟨lv, m, vs, vf, c, h.chg hc hM⟩

theorem DevAt.lt (h : DevAt P w p S F) : ∀ k, F k → k < w.heap.size := by
  obtain ⟨lv, m, vs, vf, c, h⟩ := h
  exact h.Flt
theorem DevAt.Fp (h : DevAt P w p S F) : F p := by
  obtain ⟨lv, m, vs, vf, c, h⟩ := h
  exact h.Fp
theorem DevAt.ok (h : DevAt P w p S F) : S.ok := by
  obtain ⟨lv, m, vs, vf, c, h⟩ := h
  exact h.ok

theorem DevIn.mono (h : DevIn P w p S F lv m vs vf c) (hF : ∀ k, F k → F' k) (hl : ∀ k, F' k → k < w.heap.size) : DevIn P w p S F' lv m vs vf c where
  blk := h.blk
  arr := h.arr
  arrF g hg := hF g (h.arrF g hg)
  dat i v hv := (h.dat i v hv).mono hF
  map := h.map
  mdat i v hv := by
    obtain ⟨b, h1, h2⟩ := h.mdat i v hv
    exact ⟨b, h1, h2.mono hF⟩
  mno := h.mno
  Fp := hF p h.Fp
  Fm := hF m h.Fm
  Flt := hl
  ok := h.ok

theorem DevIn.wait_iff (h : DevIn P w p S F lv m vs vf c) (k : Nat) : (vf k).isSome = (S.wait k).isSome := by
  cases hv : vf k with
  | none => rw [h.mno k hv]; rfl
  | some v =>
    obtain ⟨b, hb, _⟩ := h.mdat k v hv
    rw [hb]; rfl

theorem DevIn.keys (h : DevIn P w p S F lv m vs vf c) : ∀ k, (vf k).isSome = true → k < S.n := by
  intro k hk
  rw [h.wait_iff] at hk
  obtain ⟨b, hb⟩ := Option.isSome_iff_exists.1 hk
  exact (h.ok.wait k b hb).2

/-- The device's own cells are written (not the row, not the map). -/
theorem DevIn.reset (h : DevIn P w p S F lv m vs vf c) (calls fuse : Int) (dead : Bool) (hf : -1 ≤ fuse ∧ fuse ≤ 9223372036854775807) {w' : World} (hc : Chg (· = p) w w')
    (hb : w'.heap[p]? = some (.cells #[lv, .map (some m), .int .i64 calls, .int .i64 fuse, .bool dead] 140 (0, 0))) :
    DevIn P w' p { S with calls := calls, fuse := fuse, dead := dead } F lv m vs vf c where
  blk := hb
  arr := by
    have hr := h.arr
    refine ownsRow_chg hr hc fun g hg e => ?_
    subst e
    rcases hr.2 with ⟨rfl, _⟩ | ⟨g', _, _, rfl, _, h3, _⟩
    · cases hg
    · cases hg
      have := h3.symm.trans h.blk
      injection this with this
      injection this with _ h2
      exact absurd h2 (by decide)
  arrF := h.arrF
  dat i v hv := (h.dat i v hv).heap fun k cs hk h3 => (hc.block k (lt_of_heap h3) (ne_of_elem h3 h.blk (by decide))).trans h3
  map := h.map.chg hc (fun e => by
    obtain ⟨es, cl, h3⟩ := h.map.isMap
    rw [e] at h3
    exact ne_of_map h.blk h3 rfl)
  mdat i v hv := by
    obtain ⟨b, h1, h2⟩ := h.mdat i v hv
    exact ⟨b, h1, h2.heap fun k cs hk h3 => (hc.block k (lt_of_heap h3) (ne_of_elem h3 h.blk (by decide))).trans h3⟩
  mno := h.mno
  Fp := h.Fp
  Fm := h.Fm
  Flt k hk := Nat.lt_of_lt_of_le (h.Flt k hk) hc.size
  ok := ⟨h.ok.n, hf, h.ok.last, h.ok.wait⟩

/-- A sector waits: its bytes lie in a new row, the map leads to it. -/
theorem DevIn.stored {w1 w2 w3 : World} (h : DevIn P w1 p S F lv m vs vf c) (hb : Below w1.heap.size w1 w2) {v : Value} {g : Nat} {b : Bytes} (hd : Dat 5 w2 (· = g) v b) (hg : w1.heap.size ≤ g) {k c' : Nat}
    (hm3 : MapAt P 3 w3 m (upd vf k (some v)) c') (hgr : w2.grownBy w3 (some m)) (hb64 : b.length = 64) (hk : k < S.n) :
    DevIn P w3 p (S.put k b) (ext F w1 w3) lv m vs (upd vf k (some v)) c' ∧ Chg (· = m) w1 w3 := by
  have hc : Chg (· = m) w1 w3 := (Chg.of_below hb).grown hgr (fun j e _ => by cases e; rfl)
  obtain ⟨es, cl, hme⟩ := h.map.isMap
  have hkeep : ∀ j cs t, F j → w1.heap[j]? = some (.cells cs t (0, 0)) → w3.heap[j]? = some (.cells cs t (0, 0)) := fun j cs t _ hj => (hc.block j (lt_of_heap hj) (fun e => ne_of_map hj (e ▸ hme) rfl)).trans hj
  have hgl : g < w3.heap.size := by
    obtain ⟨g', _, _, _, rfl, h3, _⟩ := hd
    exact Nat.lt_of_lt_of_le (lt_of_heap h3) hgr.size
  have hd3 : Dat 5 w3 (ext F w1 w3) v b :=
    (hd.heap fun j cs hj h3 => (hgr.block j (lt_of_heap h3) (fun e => by cases e; subst hj; have := h.map.lt; omega)).trans h3).mono fun j hj => by subst hj; exact .inr ⟨hg, hgl⟩
  refine ⟨⟨hkeep p _ _ h.Fp h.blk, ?_, fun j hj => .inl (h.arrF j hj), fun i u hu => ((h.dat i u hu).heap fun j cs hj h3 => hkeep j cs _ hj h3).mono fun j hj => .inl hj, hm3, fun i u hu => ?_, fun i hu => ?_, .inl h.Fp, .inl h.Fm, fun j hj => ?_, h.ok.put hk hb64⟩, hc⟩
  · have hr := h.arr
    refine ownsRow_chg hr hc fun g hg e => ?_
    subst e
    rcases hr.2 with ⟨rfl, _⟩ | ⟨g', _, _, rfl, _, h3, _⟩
    · cases hg
    · cases hg
      exact ne_of_map h3 hme rfl
  · by_cases e : i = k
    · subst e
      rw [upd_same] at hu
      cases hu
      exact ⟨b, by simp [DevS.put], hd3⟩
    · rw [upd_other _ e] at hu
      obtain ⟨b', h1, h2⟩ := h.mdat i u hu
      exact ⟨b', by simpa [DevS.put, upd_other _ e] using h1, (h2.heap fun j cs hj h3 => hkeep j cs _ hj h3).mono fun j hj => .inl hj⟩
  · by_cases e : i = k
    · subst e
      rw [upd_same] at hu
      cases hu
    · rw [upd_other _ e] at hu
      simpa [DevS.put, upd_other _ e] using h.mno i hu
  · rcases hj with hj | hj
    · exact Nat.lt_of_lt_of_le (h.Flt j hj) hc.size
    · exact hj.2

theorem DevIn.at_ (h : DevIn P w p S F lv m vs vf c) : DevAt P w p S F := ⟨lv, m, vs, vf, c, h⟩
theorem DevAt.mono (h : DevAt P w p S F) (hF : ∀ k, F k → F' k) (hl : ∀ k, F' k → k < w.heap.size) : DevAt P w p S F' := by
  obtain ⟨lv, m, vs, vf, c, h⟩ := h
  exact (h.mono hF hl).at_


/-- One sector of the row is written. -/
theorem DevIn.setRow (h : DevIn P w p S F lv m vs vf c) {g n cap k : Nat} (hlv : lv = .slice (some ⟨g, 0, none⟩) n cap) (hk : k < S.n) {v : Value} {b : Bytes} (hv : Dat 5 w F v b) (hb : b.length = 64) :
    DevIn P (w.setCell ⟨g, k, none⟩ v) p { S with last := upd S.last k b } F lv m (vs.set k v) vf c ∧ Chg (· = g) w (w.setCell ⟨g, k, none⟩ v) ∧ F g := by
  subst hlv
  have hc : Chg (· = g) w (w.setCell ⟨g, k, none⟩ v) := (Chg.refl _ w).own _ _
  have hFg : F g := h.arrF g rfl
  obtain ⟨hl, h0 | ⟨g', cap', cur, he, _, h3, h4, h5, h6, h7⟩⟩ := h.arr
  · exact absurd h0.1 (by simp)
  simp only [Value.slice.injEq, Option.some.injEq, Addr.mk.injEq, and_true] at he
  obtain ⟨rfl, rfl, rfl⟩ := he
  have hpg : p ≠ g := fun e => ne_of_elem h3 h.blk (by decide) e.symm
  have hu8 : ∀ (j : Nat) (cs : Array Value), w.heap[j]? = some (Obj.cells cs 5 (0, 0)) → (w.setCell ⟨g, k, none⟩ v).heap[j]? = some (Obj.cells cs 5 (0, 0)) := fun j cs hj =>
    (hc.block j (lt_of_heap hj) (fun e => ne_of_elem h3 hj (by decide) e.symm)).trans hj
  refine ⟨⟨(hc.block p (lt_of_heap h.blk) hpg).trans h.blk, ⟨by simpa using hl, .inr ⟨g, cap, _, rfl, Nat.zero_le _, heap_set_same h3 k v, h4, h5, by simpa using h6, ?_⟩⟩, h.arrF, fun i u hu => ?_, h.map.chg hc (fun e => ?_), fun i u hu => ?_, h.mno, h.Fp, h.Fm, fun j hj => Nat.lt_of_lt_of_le (h.Flt j hj) hc.size, ?_⟩, hc, hFg⟩
  · rw [Array.toList_setIfInBounds, ← h7]
    apply List.ext_getElem?
    intro i
    have h8 : cur.toList.length = cap * 1 := by simpa using h6
    simp only [List.getElem?_take, List.getElem?_set, List.length_take]
    by_cases e : k = i
    · subst e
      rw [if_pos (by omega), if_pos rfl, if_pos (by omega), if_pos rfl, if_pos (by omega)]
    · rw [if_neg e, if_neg e]
  · by_cases e : i = k
    · subst e
      rw [List.getElem?_set_self (by omega)] at hu
      cases hu
      simp only [upd_same]
      exact hv.heap fun j cs _ hj => hu8 j cs hj
    · rw [List.getElem?_set_ne (by omega)] at hu
      simp only [upd_other _ e]
      exact (h.dat i u hu).heap fun j cs _ hj => hu8 j cs hj
  · obtain ⟨es, cl, h9⟩ := h.map.isMap
    rw [e] at h9
    exact ne_of_map h3 h9 rfl
  · obtain ⟨b', h1, h2⟩ := h.mdat i u hu
    exact ⟨b', h1, h2.heap fun j cs _ hj => hu8 j cs hj⟩
  · refine ⟨h.ok.n, h.ok.fuse, fun i => ?_, h.ok.wait⟩
    by_cases e : i = k
    · subst e
      simpa using hb
    · simpa [upd_other _ e] using h.ok.last i

/-- Nothing waits any more: a new map, and the device's own cells written. -/
theorem DevIn.newMap (h : DevIn P w p S F lv m vs vf c) {w' : World} {m' : Nat} {fuse : Int} {dead : Bool} (hm : MapAt P 3 w' m' (fun _ => none) 0) (hc : Chg (· = p) w w') (hml : w.heap.size ≤ m') (hf : -1 ≤ fuse ∧ fuse ≤ 9223372036854775807)
    (hb : w'.heap[p]? = some (.cells #[lv, .map (some m'), .int .i64 S.calls, .int .i64 fuse, .bool dead] 140 (0, 0))) :
    DevAt P w' p { S with wait := fun _ => none, fuse := fuse, dead := dead } (ext F w w') := by
  have hu8 : ∀ (j : Nat) (cs : Array Value), w.heap[j]? = some (Obj.cells cs 5 (0, 0)) → w'.heap[j]? = some (Obj.cells cs 5 (0, 0)) := fun j cs hj =>
    (hc.block j (lt_of_heap hj) (fun e => ne_of_elem h.blk hj (by decide) e.symm)).trans hj
  refine ⟨lv, m', vs, fun _ => none, 0, ⟨hb, ?_, fun j hj => .inl (h.arrF j hj), fun i u hu => ((h.dat i u hu).heap fun j cs _ hj => hu8 j cs hj).mono fun j hj => .inl hj, hm, fun _ _ hu => (by cases hu), fun _ _ => rfl, .inl h.Fp, .inr ⟨hml, hm.lt⟩, fun j hj => ?_, ⟨h.ok.n, hf, h.ok.last, fun _ _ hu => (by cases hu)⟩⟩⟩
  · have hr := h.arr
    refine ownsRow_chg hr hc fun g hg e => ?_
    subst e
    rcases hr.2 with ⟨rfl, _⟩ | ⟨g', _, _, rfl, _, h3, _⟩
    · cases hg
    · cases hg
      exact ne_of_elem h3 h.blk (by decide) rfl
  · rcases hj with hj | hj
    · exact Nat.lt_of_lt_of_le (h.Flt j hj) hc.size
    · exact hj.2
end
end Go.Lz
/-
  The store of sectors: the plain one, and how it lies in memory.
-/
namespace Go.Lz
open Go.RowKit

/-! ### maps from numbers to byte rows -/
/-- The numbers below n at which f has something. -/
def keysF (f : Nat → Option Bytes) (n : Nat) : List Nat := (List.range n).filter fun k => (f k).isSome

/-- Block m is a map of c entries from numbers to byte rows of F: f. -/
structure SecsIn (P : Program) (w : World) (m : Nat) (f : Nat → Option Bytes) (F : Nat → Prop) (vf : Nat → Option Value) (c : Nat) : Prop where
  map : MapAt P 3 w m vf c
  dat : ∀ i v, vf i = some v → ∃ b, f i = some b ∧ Dat 5 w F v b
  no : ∀ i, vf i = none → f i = none
  Fm : F m

section
variable {P : Program} {w w' : World} {m c : Nat} {f : Nat → Option Bytes} {F F' : Nat → Prop} {vf : Nat → Option Value}

theorem SecsIn.some_iff (h : SecsIn P w m f F vf c) (k : Nat) : (vf k).isSome = (f k).isSome := by
  cases hv : vf k with
  | none => rw [h.no k hv]; rfl
  | some v =>
    obtain ⟨b, hb, _⟩ := h.dat k v hv
    rw [hb]; rfl

theorem SecsIn.keys (h : SecsIn P w m f F vf c) (n : Nat) : keysOf vf n = keysF f n := by
  unfold keysOf keysF
  congr 1
  funext k
  exact h.some_iff k

theorem SecsIn.chg {M : Nat → Prop} (h : SecsIn P w m f F vf c) (hc : Chg M w w') (hM : ∀ k, F k → ¬ M k) : SecsIn P w' m f F vf c :=
  ⟨h.map.chg hc (hM m h.Fm), fun i v hv => by obtain ⟨b, h1, h2⟩ := h.dat i v hv; exact ⟨b, h1, h2.chg hc hM⟩, h.no, h.Fm⟩

theorem SecsIn.mono (h : SecsIn P w m f F vf c) (hF : ∀ k, F k → F' k) : SecsIn P w m f F' vf c :=
  ⟨h.map, fun i v hv => by obtain ⟨b, h1, h2⟩ := h.dat i v hv; exact ⟨b, h1, h2.mono hF⟩, h.no, hF m h.Fm⟩

/-- The map and the plain byte rows are as they were. -/
theorem SecsIn.heap (h : SecsIn P w m f F vf c) (hm : w'.heap[m]? = w.heap[m]?) (hk : ∀ k cs, F k → w.heap[k]? = some (.cells cs 5 (0, 0)) → w'.heap[k]? = some (.cells cs 5 (0, 0))) : SecsIn P w' m f F vf c :=
  ⟨h.map.heap hm, fun i v hv => by obtain ⟨b, h1, h2⟩ := h.dat i v hv; exact ⟨b, h1, h2.heap hk⟩, h.no, h.Fm⟩

theorem SecsIn.made (w : World) (hF : F w.heap.size) : SecsIn P (w.alloc (.map #[] 0)) w.heap.size (fun _ => none) F (fun _ => none) 0 :=
  ⟨MapAt.made w, fun _ _ h => (by cases h), fun _ _ => rfl, hF⟩

theorem SecsIn.bound (h : SecsIn P w m f F vf c) {n : Nat} (hn : ∀ k, (f k).isSome = true → k < n) : ∀ k, (vf k).isSome = true → k < n := fun k hk => hn k (by rw [← h.some_iff]; exact hk)

theorem SecsIn.count (h : SecsIn P w m f F vf c) {n : Nat} (hT : P.underlying 3 = some (.int .i64)) (hn : ∀ k, (f k).isSome = true → k < n) : c = (keysF f n).length := by
  rw [h.map.count hT (h.bound hn), h.keys]
end

/-! ### the plain store -/
structure WalS where
  dev : DevS
  now : Nat → Option Bytes
  wait : Nat → Option Bytes
  all : Int
  lasting : Int
  dead : Bool

namespace WalS
/-- How many sectors a store has. -/
def size (S : WalS) : Nat := S.dev.n - 300
def isDead (S : WalS) : Bool := S.dead || S.dev.dead
def wrong (S : WalS) (i : Int) : Int := if S.isDead = true then 50 else if i < 0 ∨ (S.size : Int) ≤ i then 1 else 0
/-- A sector as it is now. -/
def get (S : WalS) (k : Nat) : Bytes := (S.now k).getD ((S.wait k).getD (S.dev.now (300 + k)))
/-- Behind a read: the device counts the call, if it was asked. -/
def asked (S : WalS) (k : Nat) : WalS := if (S.now k).isSome || (S.wait k).isSome then S else { S with dev := S.dev.counted }
def nowN (S : WalS) : Nat := (keysF S.now S.size).length
def waitN (S : WalS) : Nat := (keysF S.wait S.size).length
def write (S : WalS) (i : Int) (b : Bytes) : Int × WalS :=
  if S.wrong i ≠ 0 then (S.wrong i, S) else if b.length ≠ 64 then (1, S) else if (S.now i.toNat).isSome = false ∧ 128 ≤ S.nowN then (5, S) else (0, { S with now := upd S.now i.toNat (some b) })
def aborted (S : WalS) : WalS := { S with now := fun _ => none }

structure ok (S : WalS) : Prop where
  n : 300 < S.dev.n
  now : ∀ k b, S.now k = some b → b.length = 64 ∧ k < S.size
  wait : ∀ k b, S.wait k = some b → b.length = 64 ∧ k < S.size

theorem ok.nowB {S : WalS} (h : S.ok) : ∀ k, (S.now k).isSome = true → k < S.size := fun k hk => by
  obtain ⟨b, hb⟩ := Option.isSome_iff_exists.1 hk
  exact (h.now k b hb).2
theorem ok.waitB {S : WalS} (h : S.ok) : ∀ k, (S.wait k).isSome = true → k < S.size := fun k hk => by
  obtain ⟨b, hb⟩ := Option.isSome_iff_exists.1 hk
  exact (h.wait k b hb).2
end WalS

/-! ### the store in memory -/
abbrev Dp (p : Nat) : Value := .pointer (some ⟨p, 0, none⟩)

/-- Block p is the store S over the device q. The device's blocks are in Fd, all others in Fs. -/
structure StoreIn (P : Program) (w : World) (p q : Nat) (S : WalS) (Fd Fs : Nat → Prop) (mn mw : Nat) (vn vw : Nat → Option Value) (cn cw : Nat) : Prop where
  blk : w.heap[p]? = some (.cells #[Dp q, .map (some mn), .map (some mw), .int .i64 S.all, .int .i64 S.lasting, .bool S.dead] 127 (0, 0))
  dev : DevAt P w q S.dev Fd
  now : SecsIn P w mn S.now Fs vn cn
  wait : SecsIn P w mw S.wait Fs vw cw
  ne : mn ≠ mw
  Fp : Fs p
  Flt : ∀ k, Fs k → k < w.heap.size
  dis : ∀ k, Fs k → ¬ Fd k
  ok : S.ok

/-- The same; all its blocks are in F. -/
def StoreAt (P : Program) (w : World) (p q : Nat) (S : WalS) (F : Nat → Prop) : Prop :=
  ∃ Fd Fs mn mw vn vw cn cw, StoreIn P w p q S Fd Fs mn mw vn vw cn cw ∧ (∀ k, Fd k → F k) ∧ (∀ k, Fs k → F k) ∧ (∀ k, F k → k < w.heap.size)

section
variable {P : Program} {w w' : World} {p q : Nat} {S : WalS} {Fd Fs F F' : Nat → Prop} {mn mw : Nat} {vn vw : Nat → Option Value} {cn cw : Nat}

theorem StoreIn.chg {M : Nat → Prop} (h : StoreIn P w p q S Fd Fs mn mw vn vw cn cw) (hc : Chg M w w') (hd : ∀ k, Fd k → ¬ M k) (hs : ∀ k, Fs k → ¬ M k) : StoreIn P w' p q S Fd Fs mn mw vn vw cn cw where
  blk := (hc.block p (lt_of_heap h.blk) (hs p h.Fp)).trans h.blk
  dev := h.dev.chg hc hd
  now := h.now.chg hc hs
  wait := h.wait.chg hc hs
  ne := h.ne
  Fp := h.Fp
  Flt k hk := Nat.lt_of_lt_of_le (h.Flt k hk) hc.size
  dis := h.dis
  ok := h.ok

theorem StoreIn.below (h : StoreIn P w p q S Fd Fs mn mw vn vw cn cw) (hb : Below w.heap.size w w') : StoreIn P w' p q S Fd Fs mn mw vn vw cn cw :=
  h.chg (M := fun _ => False) (Chg.of_below hb) (fun _ _ e => e) (fun _ _ e => e)

/-- The device goes on by itself. -/
theorem StoreIn.device (h : StoreIn P w p q S Fd Fs mn mw vn vw cn cw) {D : DevS} {Fd' : Nat → Prop} (hD : DevAt P w' q D Fd') (hc : Chg Fd w w') (hF : ∀ k, Fd' k → Fd k ∨ w.heap.size ≤ k) (hn : D.n = S.dev.n) :
    StoreIn P w' p q { S with dev := D } Fd' Fs mn mw vn vw cn cw where
  blk := (hc.block p (lt_of_heap h.blk) (h.dis p h.Fp)).trans h.blk
  dev := hD
  now := h.now.chg hc h.dis
  wait := h.wait.chg hc h.dis
  ne := h.ne
  Fp := h.Fp
  Flt k hk := Nat.lt_of_lt_of_le (h.Flt k hk) hc.size
  dis k hk e := (hF k e).elim (h.dis k hk) (fun h2 => by have := h.Flt k hk; omega)
  ok := by
    have hs : ({ S with dev := D } : WalS).size = S.size := congrArg (fun n => n - 300) hn
    exact ⟨Nat.lt_of_lt_of_le h.ok.n (Nat.le_of_eq hn.symm), fun k b e => by rw [hs]; exact h.ok.now k b e, fun k b e => by rw [hs]; exact h.ok.wait k b e⟩

theorem StoreIn.at_ (h : StoreIn P w p q S Fd Fs mn mw vn vw cn cw) (hd : ∀ k, Fd k → F k) (hs : ∀ k, Fs k → F k) (hl : ∀ k, F k → k < w.heap.size) : StoreAt P w p q S F := ⟨Fd, Fs, mn, mw, vn, vw, cn, cw, h, hd, hs, hl⟩

theorem StoreAt.chg {M : Nat → Prop} (h : StoreAt P w p q S F) (hc : Chg M w w') (hM : ∀ k, F k → ¬ M k) : StoreAt P w' p q S F := by
  obtain ⟨Fd, Fs, mn, mw, vn, vw, cn, cw, h, hd, hs, hl⟩ := h
  exact ⟨Fd, Fs, mn, mw, vn, vw, cn, cw, h.chg hc (fun k hk => hM k (hd k hk)) (fun k hk => hM k (hs k hk)), hd, hs, fun k hk => Nat.lt_of_lt_of_le (hl k hk) hc.size⟩

theorem StoreAt.below (h : StoreAt P w p q S F) (hb : Below w.heap.size w w') : StoreAt P w' p q S F := h.chg (M := fun _ => False) (Chg.of_below hb) (fun _ _ e => e)

theorem StoreAt.lt (h : StoreAt P w p q S F) : ∀ k, F k → k < w.heap.size := by
  obtain ⟨Fd, Fs, mn, mw, vn, vw, cn, cw, h, hd, hs, hl⟩ := h
  exact hl
theorem StoreAt.ok (h : StoreAt P w p q S F) : S.ok := by
  obtain ⟨Fd, Fs, mn, mw, vn, vw, cn, cw, h, hd, hs, hl⟩ := h
  exact h.ok
theorem StoreAt.dev (h : StoreAt P w p q S F) : DevAt P w q S.dev F := by
  obtain ⟨Fd, Fs, mn, mw, vn, vw, cn, cw, h, hd, hs, hl⟩ := h
  exact h.dev.mono hd hl
theorem StoreAt.mono (h : StoreAt P w p q S F) (hF : ∀ k, F k → F' k) (hl' : ∀ k, F' k → k < w.heap.size) : StoreAt P w p q S F' := by
  obtain ⟨Fd, Fs, mn, mw, vn, vw, cn, cw, h, hd, hs, hl⟩ := h
  exact ⟨Fd, Fs, mn, mw, vn, vw, cn, cw, h, fun k hk => hF k (hd k hk), fun k hk => hF k (hs k hk), hl'⟩

/-- The device, to be worked on alone. -/
theorem StoreAt.open_dev (h : StoreAt P w p q S F) : ∃ Fd, DevAt P w q S.dev Fd ∧ (∀ k, Fd k → F k) ∧
    ∀ {w' : World} {D : DevS} {Fd' : Nat → Prop}, DevAt P w' q D Fd' → Chg Fd w w' → (∀ k, Fd' k → Fd k ∨ w.heap.size ≤ k) → D.n = S.dev.n → StoreAt P w' p q { S with dev := D } (ext F w w') := by
  obtain ⟨Fd, Fs, mn, mw, vn, vw, cn, cw, h, hd, hs, hl⟩ := h
  refine ⟨Fd, h.dev, hd, fun {w' D Fd'} hD hc hF hn => ?_⟩
  exact (h.device hD hc hF hn).at_ (fun k hk => (hF k hk).imp (hd k) (fun h2 => ⟨h2, hD.lt k hk⟩)) (fun k hk => .inl (hs k hk)) (fun k hk => hk.elim (fun h2 => Nat.lt_of_lt_of_le (hl k h2) hc.size) (·.2))
end
end Go.Lz
