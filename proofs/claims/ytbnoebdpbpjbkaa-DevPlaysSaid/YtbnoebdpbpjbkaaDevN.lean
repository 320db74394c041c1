/-
  A new device; the device's small methods.
-/
import Derived.Test.YtbnoebdpbpjbkaaDevF
import Derived.Deep.AppendLies
namespace Go.Proofs.Ytbnoebdpbpjbkaa
open Go.RowKit Go.Lz

theorem info_bytes : (Try.prog.info? 28).map (fun i => (i.zero, i.size, i.bytes)) = some (some (.slice none 0 0), 1, 24) := by kernel_rfl

def NewPost (w : World) (n : Nat) (e : Ending) (w' : World) : Prop :=
  ∃ p, e = .returned (.tuple #[Dptr p, .int .i64 0]) ∧ DevAt Try.prog w' p (DevS.new n) (fun j => w.heap.size ≤ j ∧ j < w'.heap.size) ∧ Below w.heap.size w w'

/-- Sixty-four noughts, as cells. -/
def cells64 : Array Value := madeCells #[.int .u8 0] 64
theorem cells64_eq : cells64.toList = zero64.map u8v := by kernel_rfl
theorem cells64_size : cells64.size = 64 := by decide +kernel

/-- k sectors are made. -/
def NewRel (w : World) (k : Nat) (wr : World) : Prop :=
  ∃ lv vs, DevIn Try.prog wr (w.heap.size + 1) (DevS.new k) (fun j => w.heap.size ≤ j ∧ j < wr.heap.size) lv w.heap.size vs (fun _ => none) 0 ∧ Below w.heap.size w wr

theorem NewRel.start (w : World) : NewRel w 0 ((w.alloc (.map #[] 0)).alloc (.cells #[.slice none 0 0, .map (some w.heap.size), .int .i64 0, .int .i64 (-1), .bool false] 113)) := by
  refine ⟨.slice none 0 0, [], ⟨?_, World.ownsRow_nil _ _ _ _, fun g h => (by cases h), fun i v h => (by simp at h), ?_, fun i v h => (by cases h), fun i h => rfl, ⟨by simp, by simp⟩, ⟨by simp, by simp; omega⟩, fun j h => h.2, DevS.ok_new (by omega)⟩, ((Below.refl _ w).alloc (Nat.le_refl _) _).alloc (by simp) _⟩
  · have := heap_alloc_new (w.alloc (.map #[] 0)) (.cells #[.slice none 0 0, .map (some w.heap.size), .int .i64 0, .int .i64 (-1), .bool false] 113)
    simpa [DevS.new] using this
  · exact (MapAt.made w).heap (Below.heap_alloc _ _ _ (by simp))

theorem _root_.Go.Lz.DevIn.row_ne {w : World} {p : Nat} {S : DevS} {F : Nat → Prop} {lv : Value} {m : Nat} {vs : List Value} {vf : Nat → Option Value} {c : Nat} (h : DevIn Try.prog w p S F lv m vs vf c) : some p ≠ lv.ownBlock := by
  intro e
  rcases h.arr.2 with ⟨rfl, _⟩ | ⟨g, _, _, rfl, _, h3, _⟩
  · cases e
  · cases e
    exact ne_of_elem h3 h.blk (by decide) rfl

theorem news_one {W : World} {g : Nat} {v : Value} {t : TypeId} (h : W.heap[g]? = some (.cells #[v] t (0, 0))) : ∀ j u, [v][j]? = some u → W.cell? ((⟨g, 0, none⟩ : Addr).add j) = some u := by
  intro j u hu
  obtain rfl : j = 0 := by
    cases j with
    | zero => rfl
    | succ j => simp at hu
  simp at hu
  subst hu
  rw [show (⟨g, 0, none⟩ : Addr).add 0 = ⟨g, 0, none⟩ from rfl, cell_of h]
  rfl

theorem two_new (w : World) (o1 o2 : Obj) : ((w.alloc o1).alloc o2).drew.heap[w.heap.size + 1]? = some o2 := by
  have h := heap_alloc_new (w.alloc o1) o2
  rw [World.size_alloc] at h
  exact h

theorem NewRel.step {w wr W w2 : World} {lv : Value} {vs : List Value} {k g cap : Nat} (hD : DevIn Try.prog wr (w.heap.size + 1) (DevS.new k) (fun j => w.heap.size ≤ j ∧ j < wr.heap.size) lv w.heap.size vs (fun _ => none) 0) (hB : Below w.heap.size w wr) (hk : k < 8192)
    (hW : W = (((wr.alloc (.cells cells64 5)).alloc (.cells #[.slice (some ⟨wr.heap.size, 0, none⟩) 64 64] 28))).drew)
    (hown : w2.ownsRow 0 28 1 (.slice (some ⟨g, 0, none⟩) (k + 1) cap) (k + 1) (vs ++ [.slice (some ⟨wr.heap.size, 0, none⟩) 64 64])) (hgrow : W.grownBy w2 lv.ownBlock) (hat : lv.ownBlock = some g ∨ g = wr.heap.size + 2) :
    NewRel w (k + 1) (w2.setCell ⟨w.heap.size + 1, 0, none⟩ (.slice (some ⟨g, 0, none⟩) (k + 1) cap)) := by
  have hbW : Below wr.heap.size wr W := by subst hW; exact (((Below.refl wr.heap.size wr).alloc (Nat.le_refl _) _).alloc (by simp) _).drew
  have hWs : W.heap.size = wr.heap.size + 2 := by subst hW; simp
  have hnew : W.heap[wr.heap.size]? = some (.cells cells64 5 (0, 0)) := by
    subst hW
    have h1 := heap_alloc_new wr (.cells cells64 5)
    exact (Below.heap_alloc _ _ _ (by simp)).trans h1
  -- what is no row of slices stays
  have hkeep : ∀ (j : Nat) (o : Obj), W.heap[j]? = some o → (∀ cs, o ≠ .cells cs 28 (0, 0)) → j < wr.heap.size + 1 → w2.heap[j]? = some o := fun j o hj ho hjl =>
    (hgrow.block j (by omega) (fun e => by
      rcases hD.arr.2 with ⟨rfl, _⟩ | ⟨g', _, cur, rfl, _, h3, _⟩
      · cases e
      · have e' : j = g' := Option.some.inj e
        have hg' := lt_of_heap h3
        rw [e', hbW.block _ hg', h3] at hj
        exact ho cur (Option.some.inj hj).symm)).trans hj
  have hold : ∀ (j : Nat) (o : Obj), wr.heap[j]? = some o → (∀ cs, o ≠ .cells cs 28 (0, 0)) → w2.heap[j]? = some o := fun j o hj ho => hkeep j o ((hbW.block j (lt_of_heap hj)).trans hj) ho (by have := lt_of_heap hj; omega)
  have hp2 := hold _ _ hD.blk (fun cs e => by injection e with _ e2; exact absurd e2 (by decide))
  have hc : Chg (· = w.heap.size + 1) w2 (w2.setCell ⟨w.heap.size + 1, 0, none⟩ (.slice (some ⟨g, 0, none⟩) (k + 1) cap)) := (Chg.refl _ w2).own _ _
  have hgs := hgrow.size
  have hu8 : ∀ (j : Nat) (cs : Array Value), w2.heap[j]? = some (Obj.cells cs 5 (0, 0)) → (w2.setCell ⟨w.heap.size + 1, 0, none⟩ (.slice (some ⟨g, 0, none⟩) (k + 1) cap)).heap[j]? = some (Obj.cells cs 5 (0, 0)) := fun j cs hj =>
    (hc.block j (lt_of_heap hj) (fun e => ne_of_elem hp2 hj (by decide) e.symm)).trans hj
  obtain ⟨es, cl, hme⟩ := hD.map.isMap
  have hm2 := hold _ _ hme (fun cs e => by cases e)
  have hsz : (w2.setCell ⟨w.heap.size + 1, 0, none⟩ (.slice (some ⟨g, 0, none⟩) (k + 1) cap)).heap.size = w2.heap.size := by simp [World.setCell]
  have hBs := hB.size
  have hlvB : ∀ j, lv.ownBlock = some j → w.heap.size ≤ j := fun j hj => (hD.arrF j hj).1
  have hrow3 := hown.2
  refine ⟨_, _, ⟨heap_set_same hp2 0 _, ownsRow_chg hown hc (fun j hj e => ?_), fun j hj => ?_, fun i v hi => ?_, hD.map.heap ?_, fun i v h => (by cases h), fun i h => rfl, ⟨by omega, by rw [hsz]; have := lt_of_heap hp2; omega⟩, ⟨Nat.le_refl _, by rw [hsz]; have := lt_of_heap hm2; omega⟩, fun j h => h.2, DevS.ok_new (by omega)⟩, ?_⟩
  · rcases hrow3 with ⟨e3, _⟩ | ⟨g', _, cur, e3, _, h3, _⟩
    · cases e3
    · cases e3
      obtain rfl : g = j := by simpa [Value.ownBlock] using hj
      subst e
      exact ne_of_elem hp2 h3 (by decide) rfl
  · obtain rfl : g = j := by simpa [Value.ownBlock] using hj
    refine ⟨?_, ?_⟩
    · rcases hat with h | h
      · exact hlvB g h
      · omega
    · rw [hsz]
      rcases hrow3 with ⟨e3, _⟩ | ⟨g', _, cur, e3, _, h3, _⟩
      · cases e3
      · cases e3
        exact lt_of_heap h3
  · by_cases hik : i < vs.length
    · rw [List.getElem?_append_left hik] at hi
      exact ((hD.dat i v hi).heap fun j cs _ hj => hu8 j cs (hold _ _ hj (fun cs' e => by injection e with _ e2; exact absurd e2 (by decide)))).mono fun j hj => ⟨hj.1, by rw [hsz]; omega⟩
    · rw [List.getElem?_append_right (by omega)] at hi
      have hi0 : i - vs.length = 0 := by
        cases hq : i - vs.length with
        | zero => rfl
        | succ q => rw [hq] at hi; simp at hi
      rw [hi0] at hi
      simp at hi
      subst hi
      have h5 := hu8 _ _ (hkeep _ _ hnew (fun cs' e => by injection e with _ e2; exact absurd e2 (by decide)) (by omega))
      exact ⟨wr.heap.size, 64, cells64, rfl, ⟨hBs, by rw [hsz]; omega⟩, h5, Nat.le_refl _, by decide, by rw [cells64_size]; exact Nat.le_refl _, by show cells64.toList.take 64 = zero64.map u8v; rw [← cells64_eq]; exact List.take_of_length_le (by rw [Array.length_toList, cells64_size]; exact Nat.le_refl _)⟩
  · exact (hc.block _ (lt_of_heap hm2) (by omega)).trans (hm2.trans hme.symm)
  · refine ((hB.trans ((hbW.mono hBs).trans ⟨hgrow.os, hgrow.tape, hgrow.output, hgrow.size, fun j hj => hgrow.block j (by omega) (fun e => by have := hlvB j e.symm; omega)⟩)).setCell (by simp) _)

set_option maxHeartbeats 400000 in
theorem new_ok (w : World) (n : Nat) (hn : n ≤ 8192) : Calls Try.prog 17 #[.int .i64 (n : Int)] w (NewPost w n) := by
  have hmm := @run_makeMap Try.prog
  have hmk : ∀ W : World, (Instr.makeSlice 28 (.int .i64 64) (.int .i64 64)).run Try.prog W = .ok (.slice (some ⟨W.heap.size, 0, none⟩) 64 64) (W.alloc (.cells cells64 5)) := fun _ => by kernel_rfl
  go_enter Try.func17, Try.ntmps17
  go_wp2_with fail
  go_loopg [15] n (fun d i wr => ∃ k : Nat, k + d = n ∧ i = .int .i64 (k : Int) ∧ NewRel w k wr)
  case atStart => exact ⟨0, by omega, rfl, NewRel.start w⟩
  case round =>
    obtain ⟨k, hkd, rfl, lv, vs, hD, hB⟩ := hrel
    have h0 : wr.cell? ⟨w.heap.size + 1, 0, none⟩ = some lv := cell_of hD.blk 0
    have hpl : w.heap.size + 1 < wr.heap.size := lt_of_heap hD.blk
    by_cases hlt : k < n
    · have hkd' : Hid (k + gk = n) := hkd
      clear hkd
      go_wp2_with fail
      obtain ⟨i0, hi, hz0, hz1, hz2⟩ := info_parts info_bytes
      have hrow := hD.arr
      have h0a : ∀ o, (wr.alloc o).cell? ⟨w.heap.size + 1, 0, none⟩ = some lv := fun o => by rw [World.cell?_alloc_past _ _ _ hpl]; exact h0
      have h0b : ∀ o o', ((wr.alloc o).alloc o').cell? ⟨w.heap.size + 1, 0, none⟩ = some lv := fun o o' => by rw [World.cell?_alloc_past _ _ _ (by simp; omega)]; exact h0a o
      have hpne : some (w.heap.size + 1) ≠ lv.ownBlock := hD.row_ne
      go_region_law ((refine step_append_lies _ (by rfl) _ _ 111 (by rfl) 0 28 i0 (.slice none 0 0) 1 24 Try.underlying111 hi hz0 hz1 hz2 (by rfl) (by omega) lv k vs (by rfl) (by exact ((hrow.alloc _).alloc _).drew) ⟨wr.heap.size + 1, 0, none⟩ 1 1 [.slice (some ⟨wr.heap.size, 0, none⟩) 64 64] (by rfl) (by rfl) (by exact news_one (two_new _ _ _)) (by simp [Value.oneCell']) (by omega) (by unfold maxLen; omega) (by omega) (Nat.zero_le _) (wr.heap.size + 2) (by simp) ?_; intro g cap w2 hown hgrow hat hltg; have hp2 := (hgrow.block (w.heap.size + 1) (by simp; omega) hpne).trans ((((Below.refl wr.heap.size wr).alloc (Nat.le_refl _) _).alloc (by simp) _).drew.block _ hpl); have hc2 := cell_of (hp2.trans hD.blk) 0; have hf2 := frozen_of (hp2.trans hD.blk) 0))
      all_goals
        clear hi hz0 hz1 hz2
        go_wp2
        go_roundg (gk - 1)
        case measure => have := hkd'.out; omega
        case rel => exact ⟨k + 1, by have := hkd'.out; omega, by go_num, NewRel.step hD hB (by omega) rfl hown hgrow hat⟩
    · have hge : ¬ ((k : Int) < (n : Int)) := by omega
      obtain rfl : k = n := by omega
      clear hkd hlt
      go_wp2_with fail
      go_ret2
      exact ⟨_, rfl, hD.at_, hB⟩
end Go.Proofs.Ytbnoebdpbpjbkaa
