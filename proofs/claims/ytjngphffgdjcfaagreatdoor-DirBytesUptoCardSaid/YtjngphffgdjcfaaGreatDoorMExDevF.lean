/-
  The device's loops: Flush, Crash, New.
-/
import Derived.Test.YtjngphffgdjcfaaGreatDoorMExDev
import Derived.Test.YtjngphffgdjcfaaGreatDoorShelf
import Derived.Deep.LoopGhost
namespace Go.Proofs.YtjngphffgdjcfaaGreatDoor
open Go.RowKit Go.Lz
section
variable {w : World} {p : Nat} {S : DevS} {F : Nat → Prop} {lv : Value} {m : Nat} {vs : List Value} {vf : Nat → Option Value} {c : Nat}

/-- The row, half of it brought to t: where 'left' is, not yet. -/
def _root_.Go.Lz.DevS.half (S : DevS) (t : Nat → Bytes) (left : Nat → Bool) : DevS := { S with last := fun i => if left i then S.last i else t i }

def DoneOwn (w : World) (p : Nat) (S : DevS) (F : Nat → Prop) (v : Value) (e : Ending) (w' : World) : Prop :=
  e = .returned v ∧ DevAt Tryz.prog w' p S (ext F w w') ∧ Chg (ownF F w) w w'

/-- Between two rounds: n are to come at most. -/
def Half (w1 : World) (p : Nat) (S : DevS) (F : Nat → Prop) (lv : Value) (m it : Nat) (vf : Nat → Option Value) (c : Nat) (t : Nat → Bytes) (n : Nat) (wr : World) : Prop :=
  ∃ left vs, RangeAt Tryz.prog 3 wr m it vf c left n ∧ DevIn Tryz.prog wr p (S.half t left) F lv m vs vf c ∧ Chg (ownF F w1) w1 wr ∧ w1.heap.size ≤ it

theorem Half.start {w1 w2 : World} {t : Nat → Bytes} (hD : DevIn Tryz.prog w1 p S F lv m vs vf c) (hr : RangeAt Tryz.prog 3 w2 m w1.heap.size vf c (fun k => (vf k).isSome) c) (hg : w1.grownBy w2 none) (ht : ∀ i, vf i = none → t i = S.last i) :
    Half w1 p S F lv m w1.heap.size vf c t c w2 := by
  have hc : Chg (ownF F w1) w1 w2 := (Chg.refl _ w1).grown hg (fun k e => by cases e)
  refine ⟨_, vs, hr, ?_, hc, Nat.le_refl _⟩
  have h1 := hD.chg (M := fun _ => False) ((Chg.refl _ w1).grown hg (fun k e => by cases e)) (fun _ _ h => h)
  have e : S.half t (fun k => (vf k).isSome) = S := by
    have : (fun i => if (vf i).isSome = true then S.last i else t i) = S.last := by
      funext i
      cases hv : vf i with
      | none => simp [ht i hv]
      | some v => simp
    simp only [DevS.half, this]
  rw [e]
  exact h1

/-- A round that brings one home. -/
theorem Half.round {w1 wr w3 : World} {t : Nat → Bytes} {left : Nat → Bool} {it n' g cap k : Nat} {v : Value} {b : Bytes} (hFl : ∀ j, F j → j < w1.heap.size) (hit : w1.heap.size ≤ it)
    (hD : DevIn Tryz.prog wr p (S.half t left) F lv m vs vf c) (hch : Chg (ownF F w1) w1 wr) (hg3 : wr.grownBy w3 (some it)) (hr3 : RangeAt Tryz.prog 3 w3 m it vf c (fun j => left j && !decide (j = k)) n')
    (hlv : lv = .slice (some ⟨g, 0, none⟩) S.n cap) (hk : k < S.n) (hb : S.wait k = some b) (hv : Dat 5 wr F v b) (ht : t k = b) :
    Half w1 p S F lv m it vf c t n' (w3.setCell ⟨g, k, none⟩ v) := by
  have hnF : ∀ j, F j → ¬ (j = it) := fun j hj e => by have := hFl j hj; omega
  have hc3 : Chg (· = it) wr w3 := (Chg.refl _ wr).grown hg3 (fun j e _ => by cases e; rfl)
  have hD3 := hD.chg hc3 hnF
  obtain ⟨h1, h2, h3⟩ := hD3.setRow hlv hk (hv.chg hc3 hnF) (hD.ok.wait k b hb).1
  obtain ⟨es, cl, hm⟩ := hr3.map.isMap
  have hgm : m ≠ g := fun e => by
    subst e
    have := hD3.arr.2
    rcases this with ⟨e, _⟩ | ⟨g', _, _, e, _, h4, _⟩
    · rw [hlv] at e; cases e
    · rw [hlv] at e; cases e
      exact ne_of_map h4 hm rfl
  refine ⟨_, vs.set k v, hr3.heap (h2.block m hr3.map.lt hgm) (h2.block it hr3.lt (fun e => hnF g h3 e.symm)), ?_, (hch.trans hc3 (fun j hj e => by omega)).trans h2 (fun j hj e => by subst e; exact ownF.back (hch.trans hc3 (fun j hj e => by omega)) hj (hD3.own_row hlv)), hit⟩
  have e : ({ S.half t left with last := upd (S.half t left).last k b } : DevS) = S.half t (fun j => left j && !decide (j = k)) := by
    have : upd (S.half t left).last k b = fun i => if (left i && !decide (i = k)) = true then S.last i else t i := by
      funext i
      by_cases e : i = k
      · subst e; simp [ht]
      · simp [upd_other _ e, DevS.half, e]
    rw [this]
    rfl
  rw [← e]
  exact h1

/-- A round that lets one be. -/
theorem Half.skip {w1 wr w3 : World} {t : Nat → Bytes} {left : Nat → Bool} {it n' k : Nat} (hFl : ∀ j, F j → j < w1.heap.size) (hit : w1.heap.size ≤ it)
    (hD : DevIn Tryz.prog wr p (S.half t left) F lv m vs vf c) (hch : Chg (ownF F w1) w1 wr) (hg3 : wr.grownBy w3 (some it)) (hr3 : RangeAt Tryz.prog 3 w3 m it vf c (fun j => left j && !decide (j = k)) n') (ht : t k = S.last k) :
    Half w1 p S F lv m it vf c t n' w3 := by
  have hnF : ∀ j, F j → ¬ (j = it) := fun j hj e => by have := hFl j hj; omega
  have hc3 : Chg (· = it) wr w3 := (Chg.refl _ wr).grown hg3 (fun j e _ => by cases e; rfl)
  refine ⟨_, vs, hr3, ?_, hch.trans hc3 (fun j hj e => by omega), hit⟩
  have e : S.half t (fun j => left j && !decide (j = k)) = S.half t left := by
    have : (fun i => if (left i && !decide (i = k)) = true then S.last i else t i) = fun i => if left i = true then S.last i else t i := by
      funext i
      by_cases e : i = k
      · subst e; simp [ht]
      · simp [e]
    simp only [DevS.half, this]
  rw [e]
  exact hD.chg hc3 hnF

/-- Behind the last round: a new map; the device's own cells are written. -/
theorem Half.done {w1 wr W1 : World} {t : Nat → Bytes} {left : Nat → Bool} {S' : DevS} {fuse : Int} {dead : Bool} (hD : DevIn Tryz.prog wr p (S.half t left) F lv m vs vf c) (hch : Chg (ownF F w1) w1 wr) (hc1 : Chg (ownF F w) w w1) (hl : ∀ k, left k = false) (hf : -1 ≤ fuse ∧ fuse ≤ 9223372036854775807)
    (hS : S' = { S with last := t, wait := fun _ => none, fuse := fuse, dead := dead }) {v : Value} (hW : Chg (· = p) wr W1) (hsz : W1.heap.size = wr.heap.size)
    (hb : W1.heap[p]? = some (.cells #[lv, .map (some wr.heap.size), .int .i64 S.calls, .int .i64 fuse, .bool dead] 140 (0, 0))) :
    DoneOwn w p S' F v (.returned v) (W1.alloc (.map #[] 0)) := by
  have hc : Chg (· = p) wr (W1.alloc (.map #[] 0)) := hW.alloc _
  have hm := MapAt.made (P := Tryz.prog) (T := 3) W1
  rw [hsz] at hm
  have h1 := hD.newMap hm hc (Nat.le_refl _) hf (dead := dead) ((Below.heap_alloc _ _ p (by rw [hsz]; exact lt_of_heap hD.blk)).trans hb)
  have hs : w.heap.size ≤ wr.heap.size := Nat.le_trans hc1.size hch.size
  have hcw := (hc1.own_trans hch).trans hc (fun j hj e => by subst e; exact ownF.back (hc1.own_trans hch) hj hD.own_p)
  refine ⟨rfl, ?_, hcw⟩
  have e : S' = { S.half t left with wait := fun _ => none, fuse := fuse, dead := dead } := by
    rw [hS]
    have : (fun i => if left i = true then S.last i else t i) = t := by
      funext i
      simp [hl i]
    simp only [DevS.half, this]
  rw [e]
  exact h1.mono (fun j hj => hj.imp id fun h => ⟨Nat.le_trans hs h.1, h.2⟩) (fun j hj => hj.elim (fun h => Nat.lt_of_lt_of_le (hD.Flt j h) hc.size) (·.2))

/-- The row's place, to be written. -/
theorem _root_.Go.Lz.DevIn.place (hD : DevIn Tryz.prog w p S F lv m vs vf c) {k : Nat} (hk : k < S.n) :
    ∃ g cap v, lv = .slice (some ⟨g, 0, none⟩) S.n cap ∧ w.cell? ⟨g, k, none⟩ = some v ∧ w.frozen? ⟨g, k, none⟩ = false ∧ v.oneCell' = true := by
  obtain ⟨h1, ⟨_, h2⟩ | ⟨g, cap, cur, rfl, _, h3, h4, h5, h6, h7⟩⟩ := hD.arr
  · omega
  · have hkl : k < vs.length := by omega
    refine ⟨g, cap, vs[k], rfl, ?_, frozen_of h3 k, ?_⟩
    · rw [cell_of h3]
      have h8 : (cur.toList.take (S.n * 1))[k]? = vs[k]? := by rw [h7]
      rw [List.getElem?_take, if_pos (by omega), List.getElem?_eq_getElem hkl] at h8
      simpa using h8
    · obtain ⟨_, _, _, e, _⟩ := hD.dat k _ (List.getElem?_eq_getElem hkl)
      rw [e]; rfl

set_option maxHeartbeats 400000 in
theorem flush_ok (hD : DevIn Tryz.prog w p S F lv m vs vf c) (hd : S.dead = false) (hf : S.fuse ≠ 0) :
    Calls Tryz.prog 100 #[Dptr p] w (DoneOwn w p S.burned.flushed F (.int .i64 0)) := by
  have h4 : w.cell? ⟨p, 4, none⟩ = some (.bool false) := hd ▸ cell_of hD.blk 4
  have hmm := @run_makeMap Tryz.prog
  go_enter Tryz.func100, Tryz.ntmps100
  go_wp2_with (first
      | (go_at_call 113; refine (burn_ok hD hf).mono ?_; rintro e w1 ⟨rfl, hD1, hc1⟩; have h1 : w1.cell? ⟨p, 1, none⟩ = some (.map (some m)) := cell_of hD1.blk 1)
      | (at_range; refine wpList_range rfl _ rfl Tryz.underlying3 Tryz.underlying124 rfl hD1.map ?_; intro w2 hr2 hg2 hs2))
  go_frame
  go_loopg [] c (fun n wr => Half w1 p S.burned F lv m w1.heap.size vf c S.now n wr)
  case atStart => exact Half.start hD1 hr2 hg2 (fun i hi => by simp [DevS.now, hD.mno i hi, DevS.burned])
  case round =>
    obtain ⟨left, vs', hr, hDh, hch, hit⟩ := hrel
    go_wp2_with (at_next; refine wpList_next rfl _ rfl Tryz.underlying3 rfl hr ?_ ?_)
    · intro _ hl0
      have h1' : wr.cell? ⟨p, 1, none⟩ = some (.map (some m)) := cell_of hDh.blk 1
      have f1' := frozen_of hDh.blk 1
      have hpl : p < wr.heap.size := lt_of_heap hDh.blk
      go_wp2
      go_ret
      exact Half.done (S' := S.burned.flushed) hDh hch (hc1.mono fun j _ e => by subst e; exact hD.own_p) hl0 hDh.ok.fuse rfl ((Chg.refl _ wr).own _ _) (by simp [World.setCell]) (heap_set_same hDh.blk 1 _)
    · intro k v w3 n3 hvk hlk hr3 hn3 hg3 hs3 hen
      obtain ⟨b, hb, hdat⟩ := hDh.mdat k v hvk
      have hk := (hDh.ok.wait k b hb).2
      obtain ⟨ga, capa, v0, rfl, hcell, hfro, hone⟩ := (hDh.chg (M := (· = w1.heap.size)) ((Chg.refl _ wr).grown hg3 (fun j e _ => by cases e; rfl)) (fun j hj e => by have := hD1.Flt j hj; omega)).place hk
      have hkn : (k : Int) < (S.n : Int) := by have : k < S.n := hk; omega
      have h0 : w3.cell? ⟨p, 0, none⟩ = some (.slice (some ⟨ga, 0, none⟩) S.n capa) := (World.cell?_of_block (hg3.block p (lt_of_heap hDh.blk) (fun e => by have := hD1.Flt p hD1.Fp; have := Option.some.inj e; omega))).trans (cell_of hDh.blk 0)
      obtain ⟨g, cap, cur, rfl, hdat2⟩ := id hdat
      clear hs3
      go_wp2
      go_roundg n3
      case measure => exact hn3
      case rel => exact Half.round hD1.Flt hit hDh hch hg3 hr3 rfl hk hb hdat (by have h9 : S.wait k = some b := hb; simp [DevS.now, h9])
end
end Go.Proofs.YtjngphffgdjcfaaGreatDoor
