/-
  The texts DevN Keys DevM Law1a Law1b Law1c Bits, one behind the other.
-/
import Derived.Test.YtjngphffgdjcfaaGreatDoorMExDevF
import Derived.Deep.AppendLies
import Derived.Test.YtjngphffgdjcfaaGreatDoorME0
import Derived.Test.YtjngphffgdjcfaaGreatDoorShelf
/-
  A new device; the device's small methods.
-/
namespace Go.Proofs.YtjngphffgdjcfaaGreatDoor
open Go.RowKit Go.Lz

theorem info_bytes : (Tryz.prog.info? 23).map (fun i => (i.zero, i.size, i.bytes)) = some (some (.slice none 0 0), 1, 24) := by kernel_rfl

def NewPost (w : World) (n : Nat) (e : Ending) (w' : World) : Prop :=
  ∃ p, e = .returned (.tuple #[Dptr p, .int .i64 0]) ∧ DevAt Tryz.prog w' p (DevS.new n) (fun j => w.heap.size ≤ j ∧ j < w'.heap.size) ∧ Below w.heap.size w w'

/-- Sixty-four noughts, as cells. -/
def cells64 : Array Value := madeCells #[.int .u8 0] 64
theorem cells64_eq : cells64.toList = zero64.map u8v := by kernel_rfl
theorem cells64_size : cells64.size = 64 := by decide +kernel

/-- k sectors are made. -/
def NewRel (w : World) (k : Nat) (wr : World) : Prop :=
  ∃ lv vs, DevIn Tryz.prog wr (w.heap.size + 1) (DevS.new k) (fun j => w.heap.size ≤ j ∧ j < wr.heap.size) lv w.heap.size vs (fun _ => none) 0 ∧ Below w.heap.size w wr

theorem NewRel.start (w : World) : NewRel w 0 ((w.alloc (.map #[] 0)).alloc (.cells #[.slice none 0 0, .map (some w.heap.size), .int .i64 0, .int .i64 (-1), .bool false] 140)) := by
  refine ⟨.slice none 0 0, [], ⟨?_, World.ownsRow_nil _ _ _ _, fun g h => (by cases h), fun i v h => (by simp at h), ?_, fun i v h => (by cases h), fun i h => rfl, ⟨by simp, by simp⟩, ⟨by simp, by simp; omega⟩, fun j h => h.2, DevS.ok_new (by omega)⟩, ((Below.refl _ w).alloc (Nat.le_refl _) _).alloc (by simp) _⟩
  · have := heap_alloc_new (w.alloc (.map #[] 0)) (.cells #[.slice none 0 0, .map (some w.heap.size), .int .i64 0, .int .i64 (-1), .bool false] 140)
    simpa [DevS.new] using this
  · exact (MapAt.made w).heap (Below.heap_alloc _ _ _ (by simp))

theorem _root_.Go.Lz.DevIn.row_ne {w : World} {p : Nat} {S : DevS} {F : Nat → Prop} {lv : Value} {m : Nat} {vs : List Value} {vf : Nat → Option Value} {c : Nat} (h : DevIn Tryz.prog w p S F lv m vs vf c) : some p ≠ lv.ownBlock := by
  intro e
  rcases h.arr.2 with ⟨rfl, _⟩ | ⟨g, _, _, rfl, _, h3, _⟩
  · cases e
  · cases e
    exact ne_of_elem h3 h.blk (by decide) rfl

theorem news_one {W : World} {g : Nat} {v : Value} {t : TypeId} (h : W.heap[g]? = some (.cells #[v] t (0, 0))) : ∀ j u, [v][j]? = some u → W.cell? ((⟨g, 0, none⟩ : Addr).add j) = some u := by
  intro j u hu
  obtain rfl : j = 0 := by
    cases j with
    | zero => rfl
    | succ j => simp at hu
  simp at hu
  subst hu
  rw [show (⟨g, 0, none⟩ : Addr).add 0 = ⟨g, 0, none⟩ from rfl, cell_of h]
  rfl

theorem two_new (w : World) (o1 o2 : Obj) : ((w.alloc o1).alloc o2).drew.heap[w.heap.size + 1]? = some o2 := by
  have h := heap_alloc_new (w.alloc o1) o2
  rw [World.size_alloc] at h
  exact h

theorem NewRel.step {w wr W w2 : World} {lv : Value} {vs : List Value} {k g cap : Nat} (hD : DevIn Tryz.prog wr (w.heap.size + 1) (DevS.new k) (fun j => w.heap.size ≤ j ∧ j < wr.heap.size) lv w.heap.size vs (fun _ => none) 0) (hB : Below w.heap.size w wr) (hk : k < 8192)
    (hW : W = (((wr.alloc (.cells cells64 5)).alloc (.cells #[.slice (some ⟨wr.heap.size, 0, none⟩) 64 64] 23))).drew)
    (hown : w2.ownsRow 0 23 1 (.slice (some ⟨g, 0, none⟩) (k + 1) cap) (k + 1) (vs ++ [.slice (some ⟨wr.heap.size, 0, none⟩) 64 64])) (hgrow : W.grownBy w2 lv.ownBlock) (hat : lv.ownBlock = some g ∨ g = wr.heap.size + 2) :
    NewRel w (k + 1) (w2.setCell ⟨w.heap.size + 1, 0, none⟩ (.slice (some ⟨g, 0, none⟩) (k + 1) cap)) := by
  have hbW : Below wr.heap.size wr W := by subst hW; exact (((Below.refl wr.heap.size wr).alloc (Nat.le_refl _) _).alloc (by simp) _).drew
  have hWs : W.heap.size = wr.heap.size + 2 := by subst hW; simp
  have hnew : W.heap[wr.heap.size]? = some (.cells cells64 5 (0, 0)) := by
    subst hW
    have h1 := heap_alloc_new wr (.cells cells64 5)
    exact (Below.heap_alloc _ _ _ (by simp)).trans h1
  -- what is no row of slices stays
  have hkeep : ∀ (j : Nat) (o : Obj), W.heap[j]? = some o → (∀ cs, o ≠ .cells cs 23 (0, 0)) → j < wr.heap.size + 1 → w2.heap[j]? = some o := fun j o hj ho hjl =>
    (hgrow.block j (by omega) (fun e => by
      rcases hD.arr.2 with ⟨rfl, _⟩ | ⟨g', _, cur, rfl, _, h3, _⟩
      · cases e
      · have e' : j = g' := Option.some.inj e
        have hg' := lt_of_heap h3
        rw [e', hbW.block _ hg', h3] at hj
        exact ho cur (Option.some.inj hj).symm)).trans hj
  have hold : ∀ (j : Nat) (o : Obj), wr.heap[j]? = some o → (∀ cs, o ≠ .cells cs 23 (0, 0)) → w2.heap[j]? = some o := fun j o hj ho => hkeep j o ((hbW.block j (lt_of_heap hj)).trans hj) ho (by have := lt_of_heap hj; omega)
  have hp2 := hold _ _ hD.blk (fun cs e => by injection e with _ e2; exact absurd e2 (by decide))
  have hc : Chg (· = w.heap.size + 1) w2 (w2.setCell ⟨w.heap.size + 1, 0, none⟩ (.slice (some ⟨g, 0, none⟩) (k + 1) cap)) := (Chg.refl _ w2).own _ _
  have hgs := hgrow.size
  have hu8 : ∀ (j : Nat) (cs : Array Value), w2.heap[j]? = some (Obj.cells cs 5 (0, 0)) → (w2.setCell ⟨w.heap.size + 1, 0, none⟩ (.slice (some ⟨g, 0, none⟩) (k + 1) cap)).heap[j]? = some (Obj.cells cs 5 (0, 0)) := fun j cs hj =>
    (hc.block j (lt_of_heap hj) (fun e => ne_of_elem hp2 hj (by decide) e.symm)).trans hj
  obtain ⟨es, cl, hme⟩ := hD.map.isMap
  have hm2 := hold _ _ hme (fun cs e => by cases e)
  have hsz : (w2.setCell ⟨w.heap.size + 1, 0, none⟩ (.slice (some ⟨g, 0, none⟩) (k + 1) cap)).heap.size = w2.heap.size := by simp [World.setCell]
  have hBs := hB.size
  have hlvB : ∀ j, lv.ownBlock = some j → w.heap.size ≤ j := fun j hj => (hD.arrF j hj).1
  have hrow3 := hown.2
  refine ⟨_, _, ⟨heap_set_same hp2 0 _, ownsRow_chg hown hc (fun j hj e => ?_), fun j hj => ?_, fun i v hi => ?_, hD.map.heap ?_, fun i v h => (by cases h), fun i h => rfl, ⟨by omega, by rw [hsz]; have := lt_of_heap hp2; omega⟩, ⟨Nat.le_refl _, by rw [hsz]; have := lt_of_heap hm2; omega⟩, fun j h => h.2, DevS.ok_new (by omega)⟩, ?_⟩
  · rcases hrow3 with ⟨e3, _⟩ | ⟨g', _, cur, e3, _, h3, _⟩
    · cases e3
    · cases e3
      obtain rfl : g = j := by simpa [Value.ownBlock] using hj
      subst e
      exact ne_of_elem hp2 h3 (by decide) rfl
  · obtain rfl : g = j := by simpa [Value.ownBlock] using hj
    refine ⟨?_, ?_⟩
    · rcases hat with h | h
      · exact hlvB g h
      · omega
    · rw [hsz]
      rcases hrow3 with ⟨e3, _⟩ | ⟨g', _, cur, e3, _, h3, _⟩
      · cases e3
      · cases e3
        exact lt_of_heap h3
  · by_cases hik : i < vs.length
    · rw [List.getElem?_append_left hik] at hi
      exact ((hD.dat i v hi).heap fun j cs _ hj => hu8 j cs (hold _ _ hj (fun cs' e => by injection e with _ e2; exact absurd e2 (by decide)))).mono fun j hj => ⟨hj.1, by rw [hsz]; omega⟩
    · rw [List.getElem?_append_right (by omega)] at hi
      have hi0 : i - vs.length = 0 := by
        cases hq : i - vs.length with
        | zero => rfl
        | succ q => rw [hq] at hi; simp at hi
      rw [hi0] at hi
      simp at hi
      subst hi
      have h5 := hu8 _ _ (hkeep _ _ hnew (fun cs' e => by injection e with _ e2; exact absurd e2 (by decide)) (by omega))
      exact ⟨wr.heap.size, 64, cells64, rfl, ⟨hBs, by rw [hsz]; omega⟩, h5, Nat.le_refl _, by decide, by rw [cells64_size]; exact Nat.le_refl _, by show cells64.toList.take 64 = zero64.map u8v; rw [← cells64_eq]; exact List.take_of_length_le (by rw [Array.length_toList, cells64_size]; exact Nat.le_refl _)⟩
  · exact (hc.block _ (lt_of_heap hm2) (by omega)).trans (hm2.trans hme.symm)
  · refine ((hB.trans ((hbW.mono hBs).trans ⟨hgrow.os, hgrow.tape, hgrow.output, hgrow.size, fun j hj => hgrow.block j (by omega) (fun e => by have := hlvB j e.symm; omega)⟩)).setCell (by simp) _)

set_option maxHeartbeats 400000 in
theorem new_ok (w : World) (n : Nat) (hn : n ≤ 8192) : Calls Tryz.prog 50 #[.int .i64 (n : Int)] w (NewPost w n) := by
  have hmm := @run_makeMap Tryz.prog
  have hmk : ∀ W : World, (Instr.makeSlice 23 (.int .i64 64) (.int .i64 64)).run Tryz.prog W = .ok (.slice (some ⟨W.heap.size, 0, none⟩) 64 64) (W.alloc (.cells cells64 5)) := fun _ => by kernel_rfl
  go_enter Tryz.func50, Tryz.ntmps50
  go_wp2_with fail
  go_loopg [15] n (fun d i wr => ∃ k : Nat, k + d = n ∧ i = .int .i64 (k : Int) ∧ NewRel w k wr)
  case atStart => exact ⟨0, by omega, rfl, NewRel.start w⟩
  case round =>
    obtain ⟨k, hkd, rfl, lv, vs, hD, hB⟩ := hrel
    have h0 : wr.cell? ⟨w.heap.size + 1, 0, none⟩ = some lv := cell_of hD.blk 0
    have hpl : w.heap.size + 1 < wr.heap.size := lt_of_heap hD.blk
    by_cases hlt : k < n
    · have hkd' : Hid (k + gk = n) := hkd
      clear hkd
      go_wp2_with fail
      obtain ⟨i0, hi, hz0, hz1, hz2⟩ := info_parts info_bytes
      have hrow := hD.arr
      have h0a : ∀ o, (wr.alloc o).cell? ⟨w.heap.size + 1, 0, none⟩ = some lv := fun o => by rw [World.cell?_alloc_past _ _ _ hpl]; exact h0
      have h0b : ∀ o o', ((wr.alloc o).alloc o').cell? ⟨w.heap.size + 1, 0, none⟩ = some lv := fun o o' => by rw [World.cell?_alloc_past _ _ _ (by simp; omega)]; exact h0a o
      have hpne : some (w.heap.size + 1) ≠ lv.ownBlock := hD.row_ne
      go_region_law ((refine step_append_lies _ (by rfl) _ _ 138 (by rfl) 0 23 i0 (.slice none 0 0) 1 24 Tryz.underlying138 hi hz0 hz1 hz2 (by rfl) (by omega) lv k vs (by rfl) (by exact ((hrow.alloc _).alloc _).drew) ⟨wr.heap.size + 1, 0, none⟩ 1 1 [.slice (some ⟨wr.heap.size, 0, none⟩) 64 64] (by rfl) (by rfl) (by exact news_one (two_new _ _ _)) (by simp [Value.oneCell']) (by omega) (by unfold maxLen; omega) (by omega) (Nat.zero_le _) (wr.heap.size + 2) (by simp) ?_; intro g cap w2 hown hgrow hat hltg; have hp2 := (hgrow.block (w.heap.size + 1) (by simp; omega) hpne).trans ((((Below.refl wr.heap.size wr).alloc (Nat.le_refl _) _).alloc (by simp) _).drew.block _ hpl); have hc2 := cell_of (hp2.trans hD.blk) 0; have hf2 := frozen_of (hp2.trans hD.blk) 0))
      all_goals
        clear hi hz0 hz1 hz2
        go_wp2
        go_roundg (gk - 1)
        case measure => have := hkd'.out; omega
        case rel => exact ⟨k + 1, by have := hkd'.out; omega, by go_num, NewRel.step hD hB (by omega) rfl hown hgrow hat⟩
    · have hge : ¬ ((k : Int) < (n : Int)) := by omega
      obtain rfl : k = n := by omega
      clear hkd hlt
      go_wp2_with fail
      go_ret2
      exact ⟨_, rfl, hD.at_, hB⟩
end Go.Proofs.YtjngphffgdjcfaaGreatDoor
/-
  'slices.Sorted(maps.Keys(m))' at the map of what waits: the numbers that are there, rising.
-/
namespace Go.Proofs.YtjngphffgdjcfaaGreatDoor
open Go.RowKit Go.Lz Go.Maps Go.Sort Go.Shelf

theorem sortsA (m : Nat) : AnyZI.SortsIn Tryz.prog Tryz.sortedA_ren Fence.wide m :=
  ⟨fun blk off cap ss W hH hblk hsz => callsIn_wide.2 (AnyM.slices_Sort_int Tryz.sortA blk off cap ss W hH hblk hsz),
   fun p cap W => callsIn_wide.2 (AnyM.slices_Sort_int_none Tryz.sortA p cap W)⟩

/-- The numbers l in a new row; nothing that was there has turned. -/
def SortedPost (W : World) (l : List Nat) (e : Ending) (w' : World) : Prop :=
  ∃ v, e = .returned v ∧ w'.ownsRow W.heap.size 3 1 v l.length (l.map fun (k : Nat) => Value.int .i64 (k : Int)) ∧ (v = .slice none 0 0 ↔ l = []) ∧ Below W.heap.size W w'

theorem sorted_keysOf (f : Nat → Option Value) (n : Nat) : ((keysOf f n).map fun (k : Nat) => (k : Int)).mergeSort leI = (keysOf f n).map fun (k : Nat) => (k : Int) := by
  apply List.mergeSort_of_pairwise
  refine List.pairwise_map.2 (List.Pairwise.imp ?_ (List.Pairwise.filter _ (List.pairwise_lt_range (n := n))))
  intro a b hab
  simp [leI]
  omega

/-! ### the same at the store's maps -/
theorem keysB_any (mb : Option Nat) (W : World) : Calls Tryz.prog 98 #[.map mb] W fun e w' => e = .returned (.func (.func 112) #[] #[.pointer (some ⟨W.heap.size, 0, none⟩)]) ∧ w' = W.alloc (.cells #[.map mb] 125) :=
  (callsIn_wide (n := 6)).1 (AnyZI.keys_in Tryz.keysB Fence.wide 6 trivial rfl mb W)

set_option maxHeartbeats 1000000 in
theorem sortedB_any {w W : World} {m c n : Nat} {f : Nat → Option Value} (h : MapAt Tryz.prog 3 w m f c) (hn : ∀ k, (f k).isSome = true → k < n) (hsmall : n ≤ 1000000) (hW : W = w.alloc (.cells #[.map (some m)] 125)) :
    Calls Tryz.prog 97 #[.func (.func 112) #[] #[.pointer (some ⟨w.heap.size, 0, none⟩)]] W (SortedPost W (keysOf f n)) := by
  have hcn := h.le Tryz.underlying3 hn
  obtain ⟨D, hown, hsz, hS⟩ := h
  have hbl := hown.lt
  have hmax : Maps.size D ≤ maxLen := by rw [hsz]; unfold maxLen; omega
  have hbytes : Maps.size D * 8 ≤ 140737488355328 := by omega
  subst hW
  have hseq : SeqGives Fence.wide 2 Tryz.prog 112 #[.pointer (some ⟨w.heap.size, 0, none⟩)] encZ (fun ss => ss.Perm (intKeys D)) (Maps.size D) (w.alloc (.cells #[.map (some m)] 125)) :=
    AnyZI.keys_gives (ρ := Tryz.keysB_ren) { Tryz.keysB with } Fence.wide _ trivial rfl (by omega) w.heap.size m c D _ (by simp) (by simp) (by
      obtain ⟨es, clock, hb, Ft, hs, hD⟩ := hown
      exact ⟨es, clock, (Below.heap_alloc _ _ m hbl).trans hb, Ft, hs, hD⟩)
  have cS := AnyZI.sorted_in Tryz.sortedA Fence.wide 5 trivial trivial trivial trivial rfl (by omega) (sortsA _) (enters_of Tryz.func111 (by kernel_rfl) rfl) 112 #[.pointer (some ⟨w.heap.size, 0, none⟩)] trivial (enters_of Tryz.func112 (by kernel_rfl) rfl) _ _ hmax hbytes _ hseq
  change CallsIn _ _ Tryz.prog 97 _ _ _ at cS
  refine ((callsIn_wide (n := 5)).1 cS).mono ?_
  rintro e w' ⟨v, ss, rfl, hp, hrow, hnil, hb⟩
  have hpp := hS.perm hown Tryz.underlying3 hn
  have hss : ss.mergeSort leI = (keysOf f n).map fun (k : Nat) => (k : Int) := (mergeSort_of_perm_i (hp.trans hpp.symm)).trans (sorted_keysOf f n)
  have hlen : ss.length = (keysOf f n).length := by have := (hp.trans hpp.symm).length_eq; simpa using this
  refine ⟨v, rfl, ?_, ?_, hb⟩
  · have e : ((keysOf f n).map fun (k : Nat) => Value.int .i64 (k : Int)) = (ss.mergeSort leI).map encZ := by rw [hss]; simp
    rw [e, ← hlen]
    exact hrow
  · rw [hnil, ← List.length_eq_zero_iff, ← List.length_eq_zero_iff, hlen]
end Go.Proofs.YtjngphffgdjcfaaGreatDoor
/-
  The device's small methods; what waits.
-/
namespace Go.Proofs.YtjngphffgdjcfaaGreatDoor
open Go.RowKit Go.Lz

set_option maxHeartbeats 400000 in
theorem new_bad (w : World) (n : Int) (hn : n < 0 ∨ 8192 < n) : Calls Tryz.prog 50 #[.int .i64 n] w fun e w' => e = .returned (.tuple #[.pointer none, .int .i64 1]) ∧ w = w' := by
  by_cases h1 : n < 0
  · go_enter Tryz.func50, Tryz.ntmps50
    go_wp2
    go_ret2
    exact ⟨rfl, rfl⟩
  · have h2 : 8192 < n := by omega
    clear hn
    go_enter Tryz.func50, Tryz.ntmps50
    go_wp2
    go_ret2
    exact ⟨rfl, rfl⟩

section
variable {w : World} {p : Nat} {S : DevS} {F : Nat → Prop} {lv : Value} {m : Nat} {vs : List Value} {vf : Nat → Option Value} {c : Nat}

theorem dead_any (h : DevAt Tryz.prog w p S F) : Calls Tryz.prog 90 #[Dptr p] w fun e w' => e = .returned (.bool S.dead) ∧ w = w' := by
  obtain ⟨lv, m, vs, vf, c, hD⟩ := h
  have h4 : w.cell? ⟨p, 4, none⟩ = some (.bool S.dead) := cell_of hD.blk 4
  go_enter Tryz.func90, Tryz.ntmps90
  go_wp2
  go_ret
  exact ⟨rfl, rfl⟩

theorem size_any (h : DevAt Tryz.prog w p S F) : Calls Tryz.prog 80 #[Dptr p] w fun e w' => e = .returned (.int .i64 (S.n : Int)) ∧ w = w' := by
  obtain ⟨lv, m, vs, vf, c, hD⟩ := h
  obtain ⟨ao, cap, rfl⟩ : ∃ ao cap, lv = .slice ao S.n cap := by
    rcases hD.arr.2 with ⟨rfl, h2⟩ | ⟨g, cap, cur, rfl, _⟩
    · exact ⟨none, 0, by rw [h2]⟩
    · exact ⟨_, _, rfl⟩
  have h4 : w.cell? ⟨p, 0, none⟩ = some (.slice ao S.n cap) := cell_of hD.blk 0
  go_enter Tryz.func80, Tryz.ntmps80
  go_wp2
  go_ret
  exact ⟨rfl, rfl⟩

theorem clipI_any (w : World) (a : Option Addr) (n cap : Nat) (hn : n ≤ cap) (_hm : cap ≤ maxLen) :
    Calls Tryz.prog 77 #[.slice a n cap] w fun e w' => e = .returned (.slice a n n) ∧ w = w' := by
  go_enter Tryz.func77, Tryz.ntmps77
  go_wp2
  go_ret
  exact ⟨rfl, rfl⟩

/-- The numbers of the sectors of which something waits, rising. -/
def _root_.Go.Lz.DevS.waiting (S : DevS) : List Nat := (List.range S.n).filter fun k => (S.wait k).isSome

/-- The ints l in a new row. -/
def IntsPost (w : World) (l : List Int) (e : Ending) (w' : World) : Prop := ∃ v, e = .returned v ∧ IntsAt w' (fun g => w.heap.size ≤ g) v l ∧ Below w.heap.size w w'

end
end Go.Proofs.YtjngphffgdjcfaaGreatDoor
/-
  The statements' own small functions of layer 1: Bytes, and what the document fixes ('awake').
-/
namespace Go.Proofs.YtjngphffgdjcfaaGreatDoor
open Go.RowKit Go.Lz

/-- A number's low byte. -/
def _root_.Go.Lz.lowByte (x : Int) : UInt8 := UInt8.ofNat (x % 256).toNat
/-- n bytes of a kind. -/
def _root_.Go.Lz.bytesOf (k : Int) (n : Nat) : Bytes := (List.range n).map fun (i : Nat) => lowByte (k * 7 + (i : Int))
@[simp] theorem _root_.Go.Lz.bytesOf_length (k : Int) (n : Nat) : (bytesOf k n).length = n := by simp [bytesOf]

theorem _root_.Go.Lz.lowByte_toNat (x : Int) : ((lowByte x).toNat : Int) = x % 256 := by
  unfold lowByte
  have h1 : (x % 256).toNat < 256 := by omega
  rw [UInt8.toNat_ofNat', Nat.mod_eq_of_lt (by simpa using h1)]
  omega

theorem _root_.Go.Lz.lowByte_u8v (x : Int) : u8v (lowByte x) = .int .u8 (x % 256) := by
  unfold u8v
  rw [lowByte_toNat]

/-- i bytes are laid. -/
def BytesRel (w : World) (g n : Nat) (k : Int) (i : Nat) (wr : World) : Prop :=
  ∃ cur, wr.heap[g]? = some (.cells cur 5 (0, 0)) ∧ cur.size = n ∧ cur.toList.take i = (bytesOf k i).map u8v ∧ Below w.heap.size w wr ∧ w.heap.size ≤ g

theorem bytesOf_succ (k : Int) (n : Nat) : bytesOf k (n + 1) = bytesOf k n ++ [lowByte (k * 7 + n)] := by
  simp [bytesOf, List.range_succ]

theorem lowByte_wrap (k : Int) (j : Nat) : wrap64 (wrap64 (k * 7) + j) % 256 = (k * 7 + j) % 256 := by
  unfold wrap64; omega

theorem BytesRel.step {w wr : World} {n : Nat} {k : Int} {j : Nat} {cur : Array Value} (hc : wr.heap[w.heap.size]? = some (.cells cur 5 (0, 0))) (hsz : Hid (cur.size = n)) (htk : cur.toList.take j = (bytesOf k j).map u8v) (hB : Below w.heap.size w wr) (hj : j < n) :
    BytesRel w w.heap.size n k (j + 1) (wr.setCell ⟨w.heap.size, j, none⟩ (.int .u8 (wrap64 (wrap64 (k * 7) + j) % 256))) := by
  have hsz := hsz.out
  refine ⟨_, heap_set_same hc j _, by simpa using hsz, ?_, hB.setCell (Nat.le_refl _) _, Nat.le_refl _⟩
  rw [lowByte_wrap, ← lowByte_u8v, bytesOf_succ, List.map_append, ← htk, Array.toList_setIfInBounds, List.take_add_one, List.getElem?_set_self (by simpa [hsz] using hj), List.take_set_of_le (Nat.le_refl _)]
  rfl

end Go.Proofs.YtjngphffgdjcfaaGreatDoor
/-
  The device's methods, each for every device: what they answer and what the device is then.
-/
namespace Go.Proofs.YtjngphffgdjcfaaGreatDoor
open Go.RowKit Go.Lz

def _root_.Go.Lz.DevS.write (S : DevS) (i : Int) (b : Bytes) : Int × DevS :=
  if S.wrong i ≠ 0 then (S.wrong i, S) else if b.length ≠ 64 then (1, S) else if S.fuse = 0 then (50, S.killed) else (0, S.burned.put i.toNat b)
def _root_.Go.Lz.DevS.flush (S : DevS) : Int × DevS :=
  if S.dead = true then (50, S) else if S.fuse = 0 then (50, S.killed) else (0, S.burned.flushed)

/-- An error's number, and the device. -/
def ErrPost (w : World) (p : Nat) (r : Int × DevS) (F : Nat → Prop) (e : Ending) (w' : World) : Prop :=
  e = .returned (.int .i64 r.1) ∧ DevAt Tryz.prog w' p r.2 (ext F w w') ∧ Chg F w w'
/-- The same, and no plain byte row of the device has turned. -/
def ErrOwn (w : World) (p : Nat) (r : Int × DevS) (F : Nat → Prop) (e : Ending) (w' : World) : Prop :=
  e = .returned (.int .i64 r.1) ∧ DevAt Tryz.prog w' p r.2 (ext F w w') ∧ Chg (ownF F w) w w'
def DonePost (w : World) (p : Nat) (S : DevS) (F : Nat → Prop) (v : Value) (e : Ending) (w' : World) : Prop :=
  e = .returned v ∧ DevAt Tryz.prog w' p S (ext F w w') ∧ Chg F w w'

section
variable {w : World} {p : Nat} {S : DevS} {F : Nat → Prop}

theorem wrong_zero {i : Int} (h : S.wrong i = 0) : S.dead = false ∧ 0 ≤ i ∧ i < S.n := by
  unfold DevS.wrong at h
  split at h
  · cases h
  · split at h
    · cases h
    · rename_i h1 h2
      simp at h1
      exact ⟨h1, by omega, by omega⟩

theorem at_ext {w' : World} (h' : DevAt Tryz.prog w' p S F) (_hs : w.heap.size ≤ w'.heap.size) : DevAt Tryz.prog w' p S (ext F w w') :=
  h'.mono (fun _ hj => .inl hj) fun j hj => hj.elim (h'.lt j) (·.2)

theorem write_own (h : DevAt Tryz.prog w p S F) {v : Value} {b : Bytes} {G : Nat → Prop} (hv : Src 5 w G v b) (i : Int) :
    Calls Tryz.prog 99 #[Dptr p, .int .i64 i, v] w (ErrOwn w p (S.write i b) F) := by
  obtain ⟨lv, m, vs, vf, c, hD⟩ := h
  have h0 := hD.at_
  unfold DevS.write
  by_cases h1 : S.wrong i = 0
  · rw [if_neg (by simpa using h1)]
    by_cases h2 : b.length = 64
    · rw [if_neg (by simpa using h2)]
      by_cases h3 : S.fuse = 0
      · rw [if_pos h3]
        obtain ⟨g, off, cap, cur, fr, rfl, _⟩ := hv
        rw [h2]
        refine (write_burnt hD i h1 h3 _ cap).mono ?_
        rintro e w' ⟨rfl, h4, h5⟩
        exact ⟨rfl, (at_ext (w := w') h4.at_ (Nat.le_refl _)).mono (fun j hj => hj.elim .inl (fun h => absurd h.2 (by omega))) (fun j hj => hj.elim (h4.Flt j) (·.2)), h5.mono fun j _ e => by subst e; exact hD.own_p⟩
      · rw [if_neg h3]
        obtain ⟨hd, hi, hn⟩ := wrong_zero h1
        obtain ⟨k, rfl⟩ := Int.eq_ofNat_of_zero_le hi
        exact (write_ok hD hd (by omega) h3 hv h2).mono fun e w' h => h
    · rw [if_pos h2]
      obtain ⟨g, off, cap, cur, fr, rfl, _⟩ := hv
      refine (write_len hD i h1 _ _ cap h2).mono ?_
      rintro e w' ⟨rfl, rfl⟩
      exact ⟨rfl, at_ext h0 (Nat.le_refl _), Chg.refl _ _⟩
  · rw [if_pos h1]
    refine (write_wrong hD i h1 v).mono ?_
    rintro e w' ⟨rfl, rfl⟩
    exact ⟨rfl, at_ext h0 (Nat.le_refl _), Chg.refl _ _⟩

/-- What a read hands back: nothing and an error; or a new slice. -/
def ReadOwn (w : World) (p : Nat) (S : DevS) (F : Nat → Prop) (i : Int) (e : Ending) (w' : World) : Prop :=
  (S.wrong i ≠ 0 ∧ e = .returned (.tuple #[.slice none 0 0, .int .i64 (S.wrong i)]) ∧ DevAt Tryz.prog w' p S F ∧ w = w') ∨
  (S.wrong i = 0 ∧ ∃ v g, e = .returned (.tuple #[v, .int .i64 0]) ∧ Dat 5 w' (· = g) v (S.now i.toNat) ∧ w.heap.size ≤ g ∧ DevAt Tryz.prog w' p S.counted F ∧ Chg (ownF F w) w w')

theorem read_own (h : DevAt Tryz.prog w p S F) (i : Int) : Calls Tryz.prog 68 #[Dptr p, .int .i64 i] w (ReadOwn w p S F i) := by
  obtain ⟨lv, m, vs, vf, c, hD⟩ := h
  by_cases h1 : S.wrong i = 0
  · obtain ⟨hd, hi, hn⟩ := wrong_zero h1
    obtain ⟨k, rfl⟩ := Int.eq_ofNat_of_zero_le hi
    refine (read_ok hD hd (k := k) (by omega)).mono ?_
    rintro e w' ⟨v, g, rfl, h2, h3, h4, h5⟩
    exact .inr ⟨h1, v, g, rfl, h2, h3, h4.at_, h5.mono fun j _ e => by subst e; exact hD.own_p⟩
  · refine (read_bad hD i h1).mono ?_
    rintro e w' ⟨rfl, rfl⟩
    exact .inl ⟨h1, rfl, hD.at_, rfl⟩

set_option maxHeartbeats 400000 in
theorem flush_bad (hd : S.dead = true) (h : DevAt Tryz.prog w p S F) : Calls Tryz.prog 100 #[Dptr p] w fun e w' => e = .returned (.int .i64 50) ∧ w = w' := by
  obtain ⟨lv, m, vs, vf, c, hD⟩ := h
  have h4 : w.cell? ⟨p, 4, none⟩ = some (.bool true) := hd ▸ cell_of hD.blk 4
  go_enter Tryz.func100, Tryz.ntmps100
  go_wp2
  go_ret
  exact ⟨rfl, rfl⟩

set_option maxHeartbeats 400000 in
theorem flush_burnt (hd : S.dead = false) (hf : S.fuse = 0) {lv : Value} {m : Nat} {vs : List Value} {vf : Nat → Option Value} {c : Nat} (hD : DevIn Tryz.prog w p S F lv m vs vf c) : Calls Tryz.prog 100 #[Dptr p] w fun e w' => e = .returned (.int .i64 50) ∧ DevIn Tryz.prog w' p S.killed F lv m vs vf c ∧ Chg (· = p) w w' := by
  have h4 : w.cell? ⟨p, 4, none⟩ = some (.bool false) := hd ▸ cell_of hD.blk 4
  have hf' : Hid (S.fuse = 0) := hf
  clear hf hd
  go_enter Tryz.func100, Tryz.ntmps100
  go_wp2_with (go_at_call 113; refine (burn_dead hD hf'.out).mono ?_; rintro e w1 ⟨rfl, hD1, hc1⟩)
  go_ret
  exact ⟨rfl, hD1, hc1⟩

theorem flush_own (h : DevAt Tryz.prog w p S F) : Calls Tryz.prog 100 #[Dptr p] w (ErrOwn w p S.flush F) := by
  obtain ⟨lv, m, vs, vf, c, hD⟩ := h
  have h0 := hD.at_
  unfold DevS.flush
  by_cases hd : S.dead = true
  · rw [if_pos hd]
    refine (flush_bad hd h0).mono ?_
    rintro e w' ⟨rfl, rfl⟩
    exact ⟨rfl, at_ext h0 (Nat.le_refl _), Chg.refl _ _⟩
  · rw [if_neg hd]
    simp only [Bool.not_eq_true] at hd
    by_cases hf : S.fuse = 0
    · rw [if_pos hf]
      refine (flush_burnt hd hf hD).mono ?_
      rintro e w' ⟨rfl, h4, h5⟩
      exact ⟨rfl, h4.at_.mono (fun j hj => .inl hj) (fun j hj => hj.elim (h4.Flt j) (·.2)), h5.mono fun j _ e => by subst e; exact hD.own_p⟩
    · rw [if_neg hf]
      exact (flush_ok hD hd hf).mono fun e w' h => h

theorem write_any (h : DevAt Tryz.prog w p S F) {v : Value} {b : Bytes} {G : Nat → Prop} (hv : Src 5 w G v b) (i : Int) : Calls Tryz.prog 99 #[Dptr p, .int .i64 i, v] w (ErrPost w p (S.write i b) F) :=
  (write_own h hv i).mono fun _ _ h => ⟨h.1, h.2.1, h.2.2.mono fun _ _ e => e.1⟩
theorem flush_any (h : DevAt Tryz.prog w p S F) : Calls Tryz.prog 100 #[Dptr p] w (ErrPost w p S.flush F) :=
  (flush_own h).mono fun _ _ h => ⟨h.1, h.2.1, h.2.2.mono fun _ _ e => e.1⟩
/-- What a read hands back: nothing and an error; or a new slice. -/
def ReadAny (w : World) (p : Nat) (S : DevS) (F : Nat → Prop) (i : Int) (e : Ending) (w' : World) : Prop :=
  (S.wrong i ≠ 0 ∧ e = .returned (.tuple #[.slice none 0 0, .int .i64 (S.wrong i)]) ∧ DevAt Tryz.prog w' p S F ∧ w = w') ∨
  (S.wrong i = 0 ∧ ∃ v g, e = .returned (.tuple #[v, .int .i64 0]) ∧ Dat 5 w' (· = g) v (S.now i.toNat) ∧ w.heap.size ≤ g ∧ DevAt Tryz.prog w' p S.counted F ∧ Chg F w w')

theorem read_any (h : DevAt Tryz.prog w p S F) (i : Int) : Calls Tryz.prog 68 #[Dptr p, .int .i64 i] w (ReadAny w p S F i) :=
  (read_own h i).mono fun _ _ h => h.imp id fun ⟨h0, v, g, h1, h2, h3, h4, h5⟩ => ⟨h0, v, g, h1, h2, h3, h4, h5.mono fun _ _ e => e.1⟩
end
end Go.Proofs.YtjngphffgdjcfaaGreatDoor
/-
  Texts and rows of bytes, there and back; Zero.
-/
namespace Go.Proofs.YtjngphffgdjcfaaGreatDoor
open Go.RowKit Go.Lz

/-- What '[]byte(s)' lays: the bytes and some room, marked behind their end. -/
def bcap (w : World) (b : Bytes) : Nat := grownCap w b.length 0 5
def bobj (w : World) (b : Bytes) : Obj := .cells (bytesRow ⟨b.toArray⟩ (bcap w b)) 5 ((bytesRow ⟨b.toArray⟩ (bcap w b)).size, (bytesRow ⟨b.toArray⟩ (bcap w b)).size + 1)

theorem run_bytes (w : World) (b : Bytes) : (convert 9 23 (.string ⟨b.toArray⟩)).run Tryz.prog w = .ok (.slice (some ⟨w.heap.size, 0, none⟩) b.length (bcap w b)) (w.drew.alloc (bobj w b)) :=
  run_bytes_of_string w 9 23 5 ⟨b.toArray⟩ Tryz.underlying9 Tryz.underlying23 Tryz.underlying5

theorem bytes_buf (w : World) (b : Bytes) (hb : b.length ≤ 1000000) : Buf 5 (w.drew.alloc (bobj w b)) w.heap.size (.slice (some ⟨w.heap.size, 0, none⟩) b.length (bcap w b)) b := by
  have hge : b.length ≤ bcap w b := grownCap_ge w b.length 0 5
  have hle : bcap w b ≤ maxLen := grownCap_le_maxLen w b.length 0 5 (by unfold maxLen; omega)
  have hl : (bytesRow ⟨b.toArray⟩ (bcap w b)).toList = b.map u8v ++ List.replicate (bcap w b - b.length) (.int .u8 0) := by
    simp only [bytesRow, Array.toList_append, Array.toList_map, Array.toList_replicate]
    rfl
  have hs : (bytesRow ⟨b.toArray⟩ (bcap w b)).size = bcap w b := by
    rw [← Array.length_toList, hl]
    simp
    omega
  refine ⟨bcap w b, _, _, rfl, heap_alloc_new w.drew _, hge, hle, by rw [hs]; exact Nat.le_refl _, ?_, fun i hi => ?_⟩
  · rw [hl]
    exact List.take_left' (by simp)
  · rw [hs]
    simp
    omega

theorem bytes_below (w : World) (b : Bytes) : Below w.heap.size w (w.drew.alloc (bobj w b)) := (Below.refl _ w).drew.alloc (Nat.le_refl _) _

theorem run_string {w : World} {g : Nat} {v : Value} {b : Bytes} (h : Buf 5 w g v b) : (convert 23 9 v).run Tryz.prog w = .ok (.string ⟨b.toArray⟩) w := by
  have hc := h.cells
  obtain ⟨cap, cur, fr, rfl, _⟩ := h
  refine run_convert_bytes_back (P := Tryz.prog) w 23 9 5 ⟨g, 0, none⟩ cap b Tryz.underlying23 Tryz.underlying5 Tryz.underlying9 (fun i hi => ?_)
  rw [show (⟨g, 0, none⟩ : Addr).add i = ⟨g, i, none⟩ from by unfold Addr.add; split <;> simp_all]
  exact hc i _ (by rw [List.getElem?_map, List.getElem?_eq_getElem hi]; rfl)

end Go.Proofs.YtjngphffgdjcfaaGreatDoor
/-
  A number and a mask.
-/
namespace Go.Lz
open Go.RowKit
theorem and_mask (x : Int) (j : Nat) (hj : j ≤ 31) : bits .and .i64 x ((2 ^ j - 1 : Nat) : Int) = x % ((2 ^ j : Nat) : Int) := by
  have hp : (2 : Nat) ^ j ≤ 2 ^ 31 := Nat.pow_le_pow_right (by omega) hj
  have hp0 : 0 < (2 : Nat) ^ j := Nat.pow_pos (by omega)
  have hdvd : ((2 ^ j : Nat) : Int) ∣ 18446744073709551616 := by
    have : (2 : Nat) ^ 64 = 2 ^ j * 2 ^ (64 - j) := by rw [← Nat.pow_add]; congr 1; omega
    exact ⟨((2 ^ (64 - j) : Nat) : Int), by rw [← Int.natCast_mul, ← this]; rfl⟩
  show IntKind.i64.wrap ((BitVec.ofInt 64 x &&& BitVec.ofInt 64 ((2 ^ j - 1 : Nat) : Int)).toNat : Int) = _
  rw [BitVec.toNat_and, BitVec.ofInt_natCast, BitVec.toNat_ofNat, Nat.mod_eq_of_lt (by omega : 2 ^ j - 1 < 2 ^ 64), Nat.and_two_pow_sub_one_eq_mod, BitVec.toNat_ofInt]
  have h1 : ((x % (2 ^ 64 : Nat)).toNat % 2 ^ j : Nat) < 2 ^ j := Nat.mod_lt _ hp0
  have h2 : (((x % (2 ^ 64 : Nat)).toNat % 2 ^ j : Nat) : Int) = x % ((2 ^ j : Nat) : Int) := by
    rw [Int.natCast_emod, Int.toNat_of_nonneg (Int.emod_nonneg _ (by omega))]
    exact Int.emod_emod_of_dvd _ hdvd
  rw [h2, IntKind.wrap_i64]
  have h3 : 0 ≤ x % ((2 ^ j : Nat) : Int) := Int.emod_nonneg _ (by omega)
  have h4 : x % ((2 ^ j : Nat) : Int) < ((2 ^ j : Nat) : Int) := Int.emod_lt_of_pos _ (by omega)
  omega
/-- Two numbers whose bits lie apart. -/
theorem or_low (a b k : Nat) (hb : b < 2 ^ k) (hs : 2 ^ k * a + b < 9223372036854775808) : bits .or .i64 ((2 ^ k * a : Nat) : Int) (b : Int) = ((2 ^ k * a + b : Nat) : Int) := by
  show IntKind.i64.wrap ((BitVec.ofInt 64 ((2 ^ k * a : Nat) : Int) ||| BitVec.ofInt 64 (b : Int)).toNat : Int) = _
  rw [BitVec.toNat_or, BitVec.ofInt_natCast, BitVec.ofInt_natCast, BitVec.toNat_ofNat, BitVec.toNat_ofNat, Nat.mod_eq_of_lt (by omega : 2 ^ k * a < 2 ^ 64), Nat.mod_eq_of_lt (by omega : b < 2 ^ 64), ← Nat.two_pow_add_eq_or_of_lt hb, IntKind.wrap_i64]
  omega
theorem or4 {a b c d : Nat} (ha : a < 256) (hb : b < 256) (hc : c < 256) (hd : d < 256) :
    bits BinOp.or IntKind.i64 (bits BinOp.or IntKind.i64 (bits BinOp.or IntKind.i64 (IntKind.i64.wrap (IntKind.i64.wrap (a : Int) * 16777216)) (IntKind.i64.wrap (IntKind.i64.wrap (b : Int) * 65536))) (IntKind.i64.wrap (IntKind.i64.wrap (c : Int) * 256))) (IntKind.i64.wrap (d : Int)) = (a : Int) * 16777216 + (b : Int) * 65536 + (c : Int) * 256 + (d : Int) := by
  simp only [IntKind.wrap_i64]
  have e1 := or_low a (b * 65536) 24 (by omega) (by omega)
  have e2 := or_low (a * 256 + b) (c * 256) 16 (by omega) (by omega)
  have e3 := or_low (a * 65536 + b * 256 + c) d 8 (by omega) (by omega)
  rw [show ((a : Int) + 9223372036854775808) % 18446744073709551616 - 9223372036854775808 = (a : Int) from by omega, show ((b : Int) + 9223372036854775808) % 18446744073709551616 - 9223372036854775808 = (b : Int) from by omega, show ((c : Int) + 9223372036854775808) % 18446744073709551616 - 9223372036854775808 = (c : Int) from by omega, show ((d : Int) + 9223372036854775808) % 18446744073709551616 - 9223372036854775808 = (d : Int) from by omega]
  rw [show ((a : Int) * 16777216 + 9223372036854775808) % 18446744073709551616 - 9223372036854775808 = ((2 ^ 24 * a : Nat) : Int) from by omega, show ((b : Int) * 65536 + 9223372036854775808) % 18446744073709551616 - 9223372036854775808 = ((b * 65536 : Nat) : Int) from by omega, show ((c : Int) * 256 + 9223372036854775808) % 18446744073709551616 - 9223372036854775808 = ((c * 256 : Nat) : Int) from by omega]
  rw [e1, show ((2 ^ 24 * a + b * 65536 : Nat) : Int) = ((2 ^ 16 * (a * 256 + b) : Nat) : Int) from by omega, e2, show ((2 ^ 16 * (a * 256 + b) + c * 256 : Nat) : Int) = ((2 ^ 8 * (a * 65536 + b * 256 + c) : Nat) : Int) from by omega, e3]
  omega
theorem and3 (x : Int) : bits .and .i64 x 3 = x % 4 := and_mask x 2 (by omega)
theorem and7 (x : Int) : bits .and .i64 x 7 = x % 8 := and_mask x 3 (by omega)
theorem and15 (x : Int) : bits .and .i64 x 15 = x % 16 := and_mask x 4 (by omega)
theorem and31 (x : Int) : bits .and .i64 x 31 = x % 32 := and_mask x 5 (by omega)
theorem and63 (x : Int) : bits .and .i64 x 63 = x % 64 := and_mask x 6 (by omega)
theorem and127 (x : Int) : bits .and .i64 x 127 = x % 128 := and_mask x 7 (by omega)
theorem and255 (x : Int) : bits .and .i64 x 255 = x % 256 := and_mask x 8 (by omega)
theorem and1023 (x : Int) : bits .and .i64 x 1023 = x % 1024 := and_mask x 10 (by omega)
theorem and65535 (x : Int) : bits .and .i64 x 65535 = x % 65536 := and_mask x 16 (by omega)
end Go.Lz
