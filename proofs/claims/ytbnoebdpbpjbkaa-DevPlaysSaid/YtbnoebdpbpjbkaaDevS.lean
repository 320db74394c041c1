/-
  The plain device: what lasts, what waits, how many calls went well, the fuse. No memory here.
-/
import Derived.Test.YtbnoebdpbpjbkaaBase
namespace Go.Lz
open Go.RowKit

def zero64 : Bytes := List.replicate 64 0
@[simp] theorem zero64_length : zero64.length = 64 := rfl

structure DevS where
  n : Nat
  last : Nat → Bytes
  wait : Nat → Option Bytes
  calls : Int
  fuse : Int
  dead : Bool

namespace DevS
def new (n : Nat) : DevS := ⟨n, fun _ => zero64, fun _ => none, 0, -1, false⟩
/-- What was last written. -/
def now (S : DevS) (i : Nat) : Bytes := (S.wait i).getD (S.last i)
def wrong (S : DevS) (i : Int) : Int := if S.dead = true then 50 else if i < 0 ∨ (S.n : Int) ≤ i then 1 else 0
def burned (S : DevS) : DevS := { S with fuse := max (S.fuse - 1) (-1), calls := wrap64 (S.calls + 1) }
def killed (S : DevS) : DevS := { S with dead := true }
def counted (S : DevS) : DevS := { S with calls := wrap64 (S.calls + 1) }
def put (S : DevS) (k : Nat) (b : Bytes) : DevS := { S with wait := upd S.wait k (some b) }
def flushed (S : DevS) : DevS := { S with last := S.now, wait := fun _ => none }
/-- What lasts behind a crash that keeps some. -/
def crashed (S : DevS) (flip : Bool) (l : List Int) : DevS :=
  { S with last := fun k => if (decide ((k : Int) ∈ l)) != flip then S.now k else S.last k, wait := fun _ => none, dead := false, fuse := -1 }
def fused (S : DevS) (k : Int) : DevS := { S with fuse := max k (-1) }

structure ok (S : DevS) : Prop where
  n : S.n ≤ 8192
  fuse : -1 ≤ S.fuse ∧ S.fuse ≤ 9223372036854775807
  last : ∀ k, (S.last k).length = 64
  wait : ∀ k b, S.wait k = some b → b.length = 64 ∧ k < S.n

theorem ok_new {n : Nat} (h : n ≤ 8192) : (new n).ok := ⟨h, by simp [new], fun _ => rfl, fun _ _ h => by simp [new] at h⟩
section
variable {S : DevS} (h : S.ok)
include h
theorem ok.now (k : Nat) : (S.now k).length = 64 := by
  unfold DevS.now
  cases hw : S.wait k with
  | none => exact h.last k
  | some b => exact (h.wait k b hw).1
theorem ok.burned : S.burned.ok := ⟨h.n, by have := h.fuse; simp only [DevS.burned]; omega, h.last, h.wait⟩
theorem ok.killed : S.killed.ok := ⟨h.n, h.fuse, h.last, h.wait⟩
theorem ok.counted : S.counted.ok := ⟨h.n, h.fuse, h.last, h.wait⟩
theorem ok.put {k : Nat} {b : Bytes} (hk : k < S.n) (hb : b.length = 64) : (S.put k b).ok := ⟨h.n, h.fuse, h.last, fun j c hj => by
  by_cases e : j = k
  · subst e
    simp only [DevS.put, upd_same, Option.some.injEq] at hj
    subst hj
    exact ⟨hb, hk⟩
  · simp only [DevS.put, upd_other _ e] at hj
    exact h.wait j c hj⟩
theorem ok.flushed : S.flushed.ok := ⟨h.n, h.fuse, h.now, fun _ _ h => by simp [DevS.flushed] at h⟩
theorem ok.crashed (flip : Bool) (l : List Int) : (S.crashed flip l).ok := ⟨h.n, by simp [DevS.crashed], fun k => by
  simp only [DevS.crashed]
  split
  · exact h.now k
  · exact h.last k, fun _ _ h => by simp [DevS.crashed] at h⟩
theorem ok.fused {k : Int} (hk : k ≤ 9223372036854775807) : (S.fused k).ok := ⟨h.n, by simp only [DevS.fused]; omega, h.last, h.wait⟩
end
end DevS

/-- F and what is new in w'. -/
def ext (F : Nat → Prop) (w w' : World) : Nat → Prop := fun j => F j ∨ (w.heap.size ≤ j ∧ j < w'.heap.size)

/-! ### the device in memory -/
/-- Block p is the device S; lv its row of sectors, m its map of what waits. All blocks that it leads to are in F. -/
structure DevIn (P : Program) (w : World) (p : Nat) (S : DevS) (F : Nat → Prop) (lv : Value) (m : Nat) (vs : List Value) (vf : Nat → Option Value) (c : Nat) : Prop where
  blk : w.heap[p]? = some (.cells #[lv, .map (some m), .int .i64 S.calls, .int .i64 S.fuse, .bool S.dead] 113 (0, 0))
  arr : w.ownsRow 0 28 1 lv S.n vs
  arrF : ∀ g, lv.ownBlock = some g → F g
  dat : ∀ i v, vs[i]? = some v → Dat 5 w F v (S.last i)
  map : MapAt P 3 w m vf c
  mdat : ∀ i v, vf i = some v → ∃ b, S.wait i = some b ∧ Dat 5 w F v b
  mno : ∀ i, vf i = none → S.wait i = none
  Fp : F p
  Fm : F m
  Flt : ∀ k, F k → k < w.heap.size
  ok : S.ok

/-- The blocks of F that are no plain byte rows. -/
def ownF (F : Nat → Prop) (w : World) : Nat → Prop := fun j => F j ∧ ∀ cs, w.heap[j]? ≠ some (.cells cs 5 (0, 0))

theorem ownF.back {F : Nat → Prop} {w w' : World} (hc : Chg (ownF F w) w w') {j : Nat} (hj : j < w.heap.size) (h : ownF F w' j) : ownF F w j :=
  ⟨h.1, fun cs e => h.2 cs ((hc.block j hj (fun k => k.2 cs e)).trans e)⟩

theorem Chg.own_trans {F : Nat → Prop} {w w1 w2 : World} (h : Chg (ownF F w) w w1) (k : Chg (ownF F w1) w1 w2) : Chg (ownF F w) w w2 := h.trans k fun _ hj e => ownF.back h hj e

theorem DevIn.own_p {P : Program} {w : World} {p : Nat} {S : DevS} {F : Nat → Prop} {lv : Value} {m : Nat} {vs : List Value} {vf : Nat → Option Value} {c : Nat} (h : DevIn P w p S F lv m vs vf c) : ownF F w p :=
  ⟨h.Fp, fun _ e => ne_of_elem h.blk e (by decide) rfl⟩

theorem DevIn.own_m {P : Program} {w : World} {p : Nat} {S : DevS} {F : Nat → Prop} {lv : Value} {m : Nat} {vs : List Value} {vf : Nat → Option Value} {c : Nat} (h : DevIn P w p S F lv m vs vf c) : ownF F w m :=
  ⟨h.Fm, fun _ e => by obtain ⟨es, cl, hm⟩ := h.map.isMap; exact ne_of_map e hm rfl⟩

theorem DevIn.own_row {P : Program} {w : World} {p : Nat} {S : DevS} {F : Nat → Prop} {lv : Value} {m : Nat} {vs : List Value} {vf : Nat → Option Value} {c g n cap : Nat} (h : DevIn P w p S F lv m vs vf c) (hlv : lv = .slice (some ⟨g, 0, none⟩) n cap) : ownF F w g := by
  subst hlv
  refine ⟨h.arrF g rfl, fun _ e => ?_⟩
  rcases h.arr.2 with ⟨e1, _⟩ | ⟨g', _, _, e1, _, h4, _⟩
  · cases e1
  · cases e1
    exact ne_of_elem h4 e (by decide) rfl

def DevAt (P : Program) (w : World) (p : Nat) (S : DevS) (F : Nat → Prop) : Prop := ∃ lv m vs vf c, DevIn P w p S F lv m vs vf c

section
variable {P : Program} {w w' : World} {p : Nat} {S : DevS} {F F' : Nat → Prop} {lv : Value} {m : Nat} {vs : List Value} {vf : Nat → Option Value} {c : Nat}

theorem ownsRow_chg {M : Nat → Prop} {base n size : Nat} {e : TypeId} {v : Value} {xs : List Value} (h : w.ownsRow base e size v n xs) (hc : Chg M w w') (hn : ∀ g, v.ownBlock = some g → ¬ M g) : w'.ownsRow base e size v n xs := by
  refine ⟨h.1, ?_⟩
  rcases h.2 with h2 | ⟨g, cap, cur, rfl, h2, h3, h4⟩
  · exact .inl h2
  · exact .inr ⟨g, cap, cur, rfl, h2, (hc.block g (lt_of_heap h3) (hn g rfl)).trans h3, h4⟩

theorem DevIn.chg {M : Nat → Prop} (h : DevIn P w p S F lv m vs vf c) (hc : Chg M w w') (hM : ∀ k, F k → ¬ M k) : DevIn P w' p S F lv m vs vf c where
  blk := (hc.block p (lt_of_heap h.blk) (hM p h.Fp)).trans h.blk
  arr := ownsRow_chg h.arr hc fun g hg => hM g (h.arrF g hg)
  arrF := h.arrF
  dat i v hv := (h.dat i v hv).chg hc hM
  map := h.map.chg hc (hM m h.Fm)
  mdat i v hv := by
    obtain ⟨b, h1, h2⟩ := h.mdat i v hv
    exact ⟨b, h1, h2.chg hc hM⟩
  mno := h.mno
  Fp := h.Fp
  Fm := h.Fm
  Flt k hk := Nat.lt_of_lt_of_le (h.Flt k hk) hc.size
  ok := h.ok

theorem DevAt.chg {M : Nat → Prop} (h : DevAt P w p S F) (hc : Chg M w w') (hM : ∀ k, F k → ¬ M k) : DevAt P w' p S F := by
  obtain ⟨lv, m, vs, vf, c, h⟩ := h
  exact ⟨lv, m, vs, vf, c, h.chg hc hM⟩

theorem DevAt.lt (h : DevAt P w p S F) : ∀ k, F k → k < w.heap.size := by
  obtain ⟨lv, m, vs, vf, c, h⟩ := h
  exact h.Flt
theorem DevAt.Fp (h : DevAt P w p S F) : F p := by
  obtain ⟨lv, m, vs, vf, c, h⟩ := h
  exact h.Fp
theorem DevAt.ok (h : DevAt P w p S F) : S.ok := by
  obtain ⟨lv, m, vs, vf, c, h⟩ := h
  exact h.ok

theorem DevIn.mono (h : DevIn P w p S F lv m vs vf c) (hF : ∀ k, F k → F' k) (hl : ∀ k, F' k → k < w.heap.size) : DevIn P w p S F' lv m vs vf c where
  blk := h.blk
  arr := h.arr
  arrF g hg := hF g (h.arrF g hg)
  dat i v hv := (h.dat i v hv).mono hF
  map := h.map
  mdat i v hv := by
    obtain ⟨b, h1, h2⟩ := h.mdat i v hv
    exact ⟨b, h1, h2.mono hF⟩
  mno := h.mno
  Fp := hF p h.Fp
  Fm := hF m h.Fm
  Flt := hl
  ok := h.ok

theorem DevIn.wait_iff (h : DevIn P w p S F lv m vs vf c) (k : Nat) : (vf k).isSome = (S.wait k).isSome := by
  cases hv : vf k with
  | none => rw [h.mno k hv]; rfl
  | some v =>
    obtain ⟨b, hb, _⟩ := h.mdat k v hv
    rw [hb]; rfl

theorem DevIn.keys (h : DevIn P w p S F lv m vs vf c) : ∀ k, (vf k).isSome = true → k < S.n := by
  intro k hk
  rw [h.wait_iff] at hk
  obtain ⟨b, hb⟩ := Option.isSome_iff_exists.1 hk
  exact (h.ok.wait k b hb).2

/-- The device's own cells are written (not the row, not the map). -/
theorem DevIn.reset (h : DevIn P w p S F lv m vs vf c) (calls fuse : Int) (dead : Bool) (hf : -1 ≤ fuse ∧ fuse ≤ 9223372036854775807) {w' : World} (hc : Chg (· = p) w w')
    (hb : w'.heap[p]? = some (.cells #[lv, .map (some m), .int .i64 calls, .int .i64 fuse, .bool dead] 113 (0, 0))) :
    DevIn P w' p { S with calls := calls, fuse := fuse, dead := dead } F lv m vs vf c where
  blk := hb
  arr := by
    have hr := h.arr
    refine ownsRow_chg hr hc fun g hg e => ?_
    subst e
    rcases hr.2 with ⟨rfl, _⟩ | ⟨g', _, _, rfl, _, h3, _⟩
    · cases hg
    · cases hg
      have := h3.symm.trans h.blk
      injection this with this
      injection this with _ h2
      exact absurd h2 (by decide)
  arrF := h.arrF
  dat i v hv := (h.dat i v hv).heap fun k cs hk h3 => (hc.block k (lt_of_heap h3) (ne_of_elem h3 h.blk (by decide))).trans h3
  map := h.map.chg hc (fun e => by
    obtain ⟨es, cl, h3⟩ := h.map.isMap
    rw [e] at h3
    exact ne_of_map h.blk h3 rfl)
  mdat i v hv := by
    obtain ⟨b, h1, h2⟩ := h.mdat i v hv
    exact ⟨b, h1, h2.heap fun k cs hk h3 => (hc.block k (lt_of_heap h3) (ne_of_elem h3 h.blk (by decide))).trans h3⟩
  mno := h.mno
  Fp := h.Fp
  Fm := h.Fm
  Flt k hk := Nat.lt_of_lt_of_le (h.Flt k hk) hc.size
  ok := ⟨h.ok.n, hf, h.ok.last, h.ok.wait⟩

/-- A sector waits: its bytes lie in a new row, the map leads to it. -/
theorem DevIn.stored {w1 w2 w3 : World} (h : DevIn P w1 p S F lv m vs vf c) (hb : Below w1.heap.size w1 w2) {v : Value} {g : Nat} {b : Bytes} (hd : Dat 5 w2 (· = g) v b) (hg : w1.heap.size ≤ g) {k c' : Nat}
    (hm3 : MapAt P 3 w3 m (upd vf k (some v)) c') (hgr : w2.grownBy w3 (some m)) (hb64 : b.length = 64) (hk : k < S.n) :
    DevIn P w3 p (S.put k b) (ext F w1 w3) lv m vs (upd vf k (some v)) c' ∧ Chg (· = m) w1 w3 := by
  have hc : Chg (· = m) w1 w3 := (Chg.of_below hb).grown hgr (fun j e _ => by cases e; rfl)
  obtain ⟨es, cl, hme⟩ := h.map.isMap
  have hkeep : ∀ j cs t, F j → w1.heap[j]? = some (.cells cs t (0, 0)) → w3.heap[j]? = some (.cells cs t (0, 0)) := fun j cs t _ hj => (hc.block j (lt_of_heap hj) (fun e => ne_of_map hj (e ▸ hme) rfl)).trans hj
  have hgl : g < w3.heap.size := by
    obtain ⟨g', _, _, _, rfl, h3, _⟩ := hd
    exact Nat.lt_of_lt_of_le (lt_of_heap h3) hgr.size
  have hd3 : Dat 5 w3 (ext F w1 w3) v b :=
    (hd.heap fun j cs hj h3 => (hgr.block j (lt_of_heap h3) (fun e => by cases e; subst hj; have := h.map.lt; omega)).trans h3).mono fun j hj => by subst hj; exact .inr ⟨hg, hgl⟩
  refine ⟨⟨hkeep p _ _ h.Fp h.blk, ?_, fun j hj => .inl (h.arrF j hj), fun i u hu => ((h.dat i u hu).heap fun j cs hj h3 => hkeep j cs _ hj h3).mono fun j hj => .inl hj, hm3, fun i u hu => ?_, fun i hu => ?_, .inl h.Fp, .inl h.Fm, fun j hj => ?_, h.ok.put hk hb64⟩, hc⟩
  · have hr := h.arr
    refine ownsRow_chg hr hc fun g hg e => ?_
    subst e
    rcases hr.2 with ⟨rfl, _⟩ | ⟨g', _, _, rfl, _, h3, _⟩
    · cases hg
    · cases hg
      exact ne_of_map h3 hme rfl
  · by_cases e : i = k
    · subst e
      rw [upd_same] at hu
      cases hu
      exact ⟨b, by simp [DevS.put], hd3⟩
    · rw [upd_other _ e] at hu
      obtain ⟨b', h1, h2⟩ := h.mdat i u hu
      exact ⟨b', by simpa [DevS.put, upd_other _ e] using h1, (h2.heap fun j cs hj h3 => hkeep j cs _ hj h3).mono fun j hj => .inl hj⟩
  · by_cases e : i = k
    · subst e
      rw [upd_same] at hu
      cases hu
    · rw [upd_other _ e] at hu
      simpa [DevS.put, upd_other _ e] using h.mno i hu
  · rcases hj with hj | hj
    · exact Nat.lt_of_lt_of_le (h.Flt j hj) hc.size
    · exact hj.2

theorem DevIn.at_ (h : DevIn P w p S F lv m vs vf c) : DevAt P w p S F := ⟨lv, m, vs, vf, c, h⟩
theorem DevAt.mono (h : DevAt P w p S F) (hF : ∀ k, F k → F' k) (hl : ∀ k, F' k → k < w.heap.size) : DevAt P w p S F' := by
  obtain ⟨lv, m, vs, vf, c, h⟩ := h
  exact (h.mono hF hl).at_


/-- One sector of the row is written. -/
theorem DevIn.setRow (h : DevIn P w p S F lv m vs vf c) {g n cap k : Nat} (hlv : lv = .slice (some ⟨g, 0, none⟩) n cap) (hk : k < S.n) {v : Value} {b : Bytes} (hv : Dat 5 w F v b) (hb : b.length = 64) :
    DevIn P (w.setCell ⟨g, k, none⟩ v) p { S with last := upd S.last k b } F lv m (vs.set k v) vf c ∧ Chg (· = g) w (w.setCell ⟨g, k, none⟩ v) ∧ F g := by
  subst hlv
  have hc : Chg (· = g) w (w.setCell ⟨g, k, none⟩ v) := (Chg.refl _ w).own _ _
  have hFg : F g := h.arrF g rfl
  obtain ⟨hl, h0 | ⟨g', cap', cur, he, _, h3, h4, h5, h6, h7⟩⟩ := h.arr
  · exact absurd h0.1 (by simp)
  simp only [Value.slice.injEq, Option.some.injEq, Addr.mk.injEq, and_true] at he
  obtain ⟨rfl, rfl, rfl⟩ := he
  have hpg : p ≠ g := fun e => ne_of_elem h3 h.blk (by decide) e.symm
  have hu8 : ∀ (j : Nat) (cs : Array Value), w.heap[j]? = some (Obj.cells cs 5 (0, 0)) → (w.setCell ⟨g, k, none⟩ v).heap[j]? = some (Obj.cells cs 5 (0, 0)) := fun j cs hj =>
    (hc.block j (lt_of_heap hj) (fun e => ne_of_elem h3 hj (by decide) e.symm)).trans hj
  refine ⟨⟨(hc.block p (lt_of_heap h.blk) hpg).trans h.blk, ⟨by simpa using hl, .inr ⟨g, cap, _, rfl, Nat.zero_le _, heap_set_same h3 k v, h4, h5, by simpa using h6, ?_⟩⟩, h.arrF, fun i u hu => ?_, h.map.chg hc (fun e => ?_), fun i u hu => ?_, h.mno, h.Fp, h.Fm, fun j hj => Nat.lt_of_lt_of_le (h.Flt j hj) hc.size, ?_⟩, hc, hFg⟩
  · rw [Array.toList_setIfInBounds, ← h7]
    apply List.ext_getElem?
    intro i
    have h8 : cur.toList.length = cap * 1 := by simpa using h6
    simp only [List.getElem?_take, List.getElem?_set, List.length_take]
    by_cases e : k = i
    · subst e
      rw [if_pos (by omega), if_pos rfl, if_pos (by omega), if_pos rfl, if_pos (by omega)]
    · rw [if_neg e, if_neg e]
  · by_cases e : i = k
    · subst e
      rw [List.getElem?_set_self (by omega)] at hu
      cases hu
      simp only [upd_same]
      exact hv.heap fun j cs _ hj => hu8 j cs hj
    · rw [List.getElem?_set_ne (by omega)] at hu
      simp only [upd_other _ e]
      exact (h.dat i u hu).heap fun j cs _ hj => hu8 j cs hj
  · obtain ⟨es, cl, h9⟩ := h.map.isMap
    rw [e] at h9
    exact ne_of_map h3 h9 rfl
  · obtain ⟨b', h1, h2⟩ := h.mdat i u hu
    exact ⟨b', h1, h2.heap fun j cs _ hj => hu8 j cs hj⟩
  · refine ⟨h.ok.n, h.ok.fuse, fun i => ?_, h.ok.wait⟩
    by_cases e : i = k
    · subst e
      simpa using hb
    · simpa [upd_other _ e] using h.ok.last i

/-- Nothing waits any more: a new map, and the device's own cells written. -/
theorem DevIn.newMap (h : DevIn P w p S F lv m vs vf c) {w' : World} {m' : Nat} {fuse : Int} {dead : Bool} (hm : MapAt P 3 w' m' (fun _ => none) 0) (hc : Chg (· = p) w w') (hml : w.heap.size ≤ m') (hf : -1 ≤ fuse ∧ fuse ≤ 9223372036854775807)
    (hb : w'.heap[p]? = some (.cells #[lv, .map (some m'), .int .i64 S.calls, .int .i64 fuse, .bool dead] 113 (0, 0))) :
    DevAt P w' p { S with wait := fun _ => none, fuse := fuse, dead := dead } (ext F w w') := by
  have hu8 : ∀ (j : Nat) (cs : Array Value), w.heap[j]? = some (Obj.cells cs 5 (0, 0)) → w'.heap[j]? = some (Obj.cells cs 5 (0, 0)) := fun j cs hj =>
    (hc.block j (lt_of_heap hj) (fun e => ne_of_elem h.blk hj (by decide) e.symm)).trans hj
  refine ⟨lv, m', vs, fun _ => none, 0, ⟨hb, ?_, fun j hj => .inl (h.arrF j hj), fun i u hu => ((h.dat i u hu).heap fun j cs _ hj => hu8 j cs hj).mono fun j hj => .inl hj, hm, fun _ _ hu => (by cases hu), fun _ _ => rfl, .inl h.Fp, .inr ⟨hml, hm.lt⟩, fun j hj => ?_, ⟨h.ok.n, hf, h.ok.last, fun _ _ hu => (by cases hu)⟩⟩⟩
  · have hr := h.arr
    refine ownsRow_chg hr hc fun g hg e => ?_
    subst e
    rcases hr.2 with ⟨rfl, _⟩ | ⟨g', _, _, rfl, _, h3, _⟩
    · cases hg
    · cases hg
      exact ne_of_elem h3 h.blk (by decide) rfl
  · rcases hj with hj | hj
    · exact Nat.lt_of_lt_of_le (h.Flt j hj) hc.size
    · exact hj.2
end
end Go.Lz
