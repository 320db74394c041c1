/-
  The texts Wal7 Wal8 Law1e Wal9 Own, one behind the other.
-/
import Derived.Test.YtjngphffgdjcfaaGreatDoorMExWal5
import Derived.Test.YtjngphffgdjcfaaGreatDoorME9
import Derived.Test.YtjngphffgdjcfaaGreatDoorME5
import Derived.Test.YtjngphffgdjcfaaGreatDoorME0
/-
  The store's Sync.
-/
namespace Go.Lz
open Go.RowKit
section
variable (D : DevS)
theorem DevS.write_n (i : Int) (b : Bytes) : (D.write i b).2.n = D.n := by
  unfold DevS.write
  split
  · rfl
  · split
    · rfl
    · split <;> rfl
theorem DevS.flush_n : D.flush.2.n = D.n := by
  unfold DevS.flush
  split
  · rfl
  · split <;> rfl
theorem DevS.writeL_n (ws : List (Int × Bytes)) : (D.writeL ws).2.n = D.n := by
  induction ws generalizing D with
  | nil => rfl
  | cons x ws ih => exact seqD_n (D.write_n _ _) fun D' h => (ih D').trans h
theorem DevS.home_n (f : Nat → Option Bytes) (n : Nat) : (D.home f n).2.n = D.n :=
  seqD_n (seqD_n (seqD_n (D.writeL_n _) fun D' h => (D'.flush_n).trans h) fun D' h => (D'.write_n _ _).trans h) fun D' h => (D'.flush_n).trans h
theorem DevS.log_n (f : Nat → Option Bytes) (n : Nat) : (D.log f n).2.n = D.n :=
  seqD_n (seqD_n (seqD_n (D.writeL_n _) fun D' h => (D'.flush_n).trans h) fun D' h => (D'.write_n _ _).trans h) fun D' h => (D'.flush_n).trans h
theorem DevS.opened_n : D.opened.2.n = D.n := by
  unfold DevS.opened
  split
  · rfl
  · split
    · rfl
    · split
      · simp
      · rw [DevS.home_n, DevS.countedN_n]
end
end Go.Lz
namespace Go.Proofs.YtjngphffgdjcfaaGreatDoor
open Go.RowKit Go.Lz
section
variable {w w' : World} {p q : Nat} {S : WalS} {Fd Fs F : Nat → Prop} {mn mw : Nat} {vn vw : Nat → Option Value} {cn cw : Nat}

/-- The store's own numbers are written. -/
theorem _root_.Go.Lz.StoreIn.reset (h : StoreIn Tryz.prog w p q S Fd Fs mn mw vn vw cn cw) (hc : Chg (· = p) w w') {all lasting : Int} {dead : Bool}
    (hb : w'.heap[p]? = some (.cells #[Dp q, .map (some mn), .map (some mw), .int .i64 all, .int .i64 lasting, .bool dead] 127 (0, 0))) :
    StoreIn Tryz.prog w' p q { S with all := all, lasting := lasting, dead := dead } Fd Fs mn mw vn vw cn cw := by
  obtain ⟨es, cl, hmw⟩ := h.wait.map.isMap
  obtain ⟨es', cl', hmn⟩ := h.now.map.isMap
  have hk : ∀ k cs, Fs k → w.heap[k]? = some (.cells cs 5 (0, 0)) → w'.heap[k]? = some (.cells cs 5 (0, 0)) := fun k cs _ e => (hc.block k (lt_of_heap e) (fun e2 => by subst e2; exact ne_of_elem h.blk e (by decide) rfl)).trans e
  exact ⟨hb, h.dev.chg hc (fun k hk e => h.dis p h.Fp (e ▸ hk)), h.now.heap (hc.block mn h.now.map.lt (fun e => ne_of_map h.blk hmn e.symm)) hk, h.wait.heap (hc.block mw h.wait.map.lt (fun e => ne_of_map h.blk hmw e.symm)) hk, h.ne, h.Fp, fun k hk => Nat.lt_of_lt_of_le (h.Flt k hk) hc.size, h.dis, ⟨h.ok.n, h.ok.now, h.ok.wait⟩⟩

/-- What was committed is brought home: a new map. -/
theorem _root_.Go.Lz.StoreIn.newWait {m' : Nat} (h : StoreIn Tryz.prog w p q S Fd Fs mn mw vn vw cn cw) (hc : Chg (· = p) w w') (hm : MapAt Tryz.prog 3 w' m' (fun _ => none) 0) (hml : w.heap.size ≤ m') {lasting : Int}
    (hb : w'.heap[p]? = some (.cells #[Dp q, .map (some mn), .map (some m'), .int .i64 S.all, .int .i64 lasting, .bool S.dead] 127 (0, 0))) :
    StoreIn Tryz.prog w' p q { S with wait := fun _ => none, lasting := lasting } Fd (fun k => Fs k ∨ k = m') mn m' vn (fun _ => none) cn 0 := by
  obtain ⟨es, cl, hmn⟩ := h.now.map.isMap
  refine ⟨hb, h.dev.chg hc (fun k hk e => h.dis p h.Fp (e ▸ hk)), ?_, ⟨hm, fun _ _ e => (by cases e), fun _ _ => rfl, .inr rfl⟩, ?_, .inl h.Fp, ?_, ?_, ⟨h.ok.n, h.ok.now, fun k b e => (by cases e)⟩⟩
  · refine (h.now.mono fun k hk => Or.inl hk).heap (hc.block mn h.now.map.lt (fun e => ne_of_map h.blk hmn e.symm)) (fun k cs hk e => (hc.block k (lt_of_heap e) (fun e2 => by subst e2; exact ne_of_elem h.blk e (by decide) rfl)).trans e)
  · have := h.now.map.lt
    omega
  · intro k hk
    rcases hk with hk | rfl
    · exact Nat.lt_of_lt_of_le (h.Flt k hk) hc.size
    · exact hm.lt
  · intro k hk e
    rcases hk with hk | rfl
    · exact h.dis k hk e
    · have := h.dev.lt _ e; omega

theorem _root_.Go.Lz.StoreIn.done {S' : WalS} {Fd' Fs' : Nat → Prop} {mn' mw' : Nat} {vn' vw' : Nat → Option Value} {cn' cw' : Nat} (h' : StoreIn Tryz.prog w' p q S' Fd' Fs' mn' mw' vn' vw' cn' cw')
    (hd : ∀ k, Fd' k → F k ∨ w.heap.size ≤ k) (hs : ∀ k, Fs' k → F k ∨ w.heap.size ≤ k) (hl : ∀ k, F k → k < w.heap.size) (hc : Chg F w w') : StoreAt Tryz.prog w' p q S' (ext F w w') :=
  h'.at_ (fun k hk => (hd k hk).imp id fun h => ⟨h, h'.dev.lt k hk⟩) (fun k hk => (hs k hk).imp id fun h => ⟨h, h'.Flt k hk⟩) (fun k hk => hk.elim (fun h => Nat.lt_of_lt_of_le (hl k h) hc.size) (·.2))

theorem _root_.Go.Lz.StoreIn.home (h : StoreIn Tryz.prog w p q S Fd Fs mn mw vn vw cn cw) {W : World} (hW : W = ((w.setCell ⟨p, 2, none⟩ (.map (some w.heap.size))).setCell ⟨p, 4, none⟩ (.int .i64 S.all)).alloc (.map #[] 0)) :
    StoreIn Tryz.prog W p q { S with wait := fun _ => none, lasting := S.all } Fd (fun k => Fs k ∨ k = w.heap.size) mn w.heap.size vn (fun _ => none) cn 0 ∧ Chg (· = p) w W := by
  subst hW
  have hc : Chg (· = p) w (((w.setCell ⟨p, 2, none⟩ (.map (some w.heap.size))).setCell ⟨p, 4, none⟩ (.int .i64 S.all)).alloc (.map #[] 0)) := ((((Chg.refl _ w).own _ _)).own _ _).alloc _
  have hm := MapAt.made (P := Tryz.prog) (T := 3) ((w.setCell ⟨p, 2, none⟩ (.map (some w.heap.size))).setCell ⟨p, 4, none⟩ (.int .i64 S.all))
  have hsz : ((w.setCell ⟨p, 2, none⟩ (.map (some w.heap.size))).setCell ⟨p, 4, none⟩ (.int .i64 S.all)).heap.size = w.heap.size := by simp [World.setCell]
  rw [hsz] at hm
  exact ⟨h.newWait hc hm (Nat.le_refl _) ((Below.heap_alloc _ _ p (by rw [hsz]; exact lt_of_heap h.blk)).trans (heap_set_same (heap_set_same h.blk 2 _) 4 _)), hc⟩

end
end Go.Proofs.YtjngphffgdjcfaaGreatDoor
/-
  The store's Commit.
-/
namespace Go.Proofs.YtjngphffgdjcfaaGreatDoor
open Go.RowKit Go.Lz
section
variable {w w' : World} {p q : Nat} {S : WalS} {Fd Fs F : Nat → Prop} {mn mw : Nat} {vn vw : Nat → Option Value} {cn cw : Nat}

theorem _root_.Go.Lz.SecsIn.putF {w3 : World} {m c k c' : Nat} {f : Nat → Option Bytes} {vf : Nat → Option Value} (h : SecsIn Tryz.prog w m f F vf c) {v : Value} {b : Bytes} (hd : Dat 5 w F v b) (hm3 : MapAt Tryz.prog 3 w3 m (upd vf k (some v)) c') (hgr : w.grownBy w3 (some m)) :
    SecsIn Tryz.prog w3 m (upd f k (some b)) F (upd vf k (some v)) c' ∧ Chg (· = m) w w3 := by
  have hc : Chg (· = m) w w3 := (Chg.refl _ w).grown hgr (fun j e _ => by cases e; rfl)
  obtain ⟨es, cl, hme⟩ := h.map.isMap
  have hkeep : ∀ j cs t, w.heap[j]? = some (Obj.cells cs t (0, 0)) → w3.heap[j]? = some (Obj.cells cs t (0, 0)) := fun j cs t hj => (hc.block j (lt_of_heap hj) (fun e => ne_of_map hj (e ▸ hme) rfl)).trans hj
  refine ⟨⟨hm3, fun i u hu => ?_, fun i hu => ?_, h.Fm⟩, hc⟩
  · by_cases e : i = k
    · subst e
      rw [upd_same] at hu
      cases hu
      exact ⟨b, by simp, hd.heap fun j cs _ h3 => hkeep j cs _ h3⟩
    · rw [upd_other _ e] at hu
      obtain ⟨b', h1, h2⟩ := h.dat i u hu
      exact ⟨b', by simpa [upd_other _ e] using h1, h2.heap fun j cs _ h3 => hkeep j cs _ h3⟩
  · by_cases e : i = k
    · subst e
      rw [upd_same] at hu
      cases hu
    · rw [upd_other _ e] at hu
      simpa [upd_other _ e] using h.no i hu

/-- Between two rounds of a copy: n are to come at most. -/
def CopyRel (w : World) (md ms it : Nat) (f g : Nat → Option Bytes) (vg : Nat → Option Value) (cg : Nat) (Fs : Nat → Prop) (n : Nat) (wr : World) : Prop :=
  ∃ left vd cd, RangeAt Tryz.prog 3 wr ms it vg cg left n ∧ SecsIn Tryz.prog wr md (fun k => if left k then f k else (g k).or (f k)) Fs vd cd ∧ Chg (· = md) w wr ∧ w.heap.size ≤ it

/-- The map, with the other one's entries over its own. -/
def CopiedPost (w : World) (md : Nat) (f g : Nat → Option Bytes) (Fs : Nat → Prop) (e : Ending) (w' : World) : Prop :=
  e = .returned (.tuple #[]) ∧ (∃ vd cd, SecsIn Tryz.prog w' md (fun k => (g k).or (f k)) Fs vd cd) ∧ Chg (· = md) w w'

/-- The transaction is laid over what was committed. -/
theorem _root_.Go.Lz.StoreIn.copied {vd : Nat → Option Value} {cd : Nat} (h : StoreIn Tryz.prog w p q S Fd Fs mn mw vn vw cn cw) (hm : SecsIn Tryz.prog w' mw S.both Fs vd cd) (hc : Chg (· = mw) w w') :
    StoreIn Tryz.prog w' p q { S with wait := S.both } Fd Fs mn mw vn vd cn cd := by
  obtain ⟨es, cl, hmw⟩ := h.wait.map.isMap
  refine ⟨(hc.block p (lt_of_heap h.blk) (fun e => ne_of_map h.blk hmw e)).trans h.blk, h.dev.chg hc (fun k hk e => h.dis mw h.wait.Fm (e ▸ hk)), ?_, hm, h.ne, h.Fp, fun k hk => Nat.lt_of_lt_of_le (h.Flt k hk) hc.size, h.dis, ⟨h.ok.n, h.ok.now, fun k b e => ?_⟩⟩
  · exact h.now.heap (hc.block mn h.now.map.lt h.ne) (fun k cs _ e => (hc.block k (lt_of_heap e) (fun e2 => by subst e2; exact ne_of_map e hmw rfl)).trans e)
  · simp only [WalS.both] at e
    cases hn : S.now k with
    | none => rw [hn] at e; exact h.ok.wait k b (by simpa using e)
    | some b' => rw [hn] at e; exact h.ok.now k b (by rw [hn]; simpa using e)

theorem _root_.Go.Lz.StoreIn.nowDone (h : StoreIn Tryz.prog w p q S Fd Fs mn mw vn vw cn cw) (all : Int) {W : World} (hW : W = ((w.setCell ⟨p, 1, none⟩ (.map (some w.heap.size))).setCell ⟨p, 3, none⟩ (.int .i64 all)).alloc (.map #[] 0)) :
    StoreIn Tryz.prog W p q { S with now := fun _ => none, all := all } Fd (fun k => Fs k ∨ k = w.heap.size) w.heap.size mw (fun _ => none) vw 0 cw ∧ Chg (· = p) w W := by
  subst hW
  have hc : Chg (· = p) w (((w.setCell ⟨p, 1, none⟩ (.map (some w.heap.size))).setCell ⟨p, 3, none⟩ (.int .i64 all)).alloc (.map #[] 0)) := ((((Chg.refl _ w).own _ _)).own _ _).alloc _
  have hm := MapAt.made (P := Tryz.prog) (T := 3) ((w.setCell ⟨p, 1, none⟩ (.map (some w.heap.size))).setCell ⟨p, 3, none⟩ (.int .i64 all))
  have hsz : ((w.setCell ⟨p, 1, none⟩ (.map (some w.heap.size))).setCell ⟨p, 3, none⟩ (.int .i64 all)).heap.size = w.heap.size := by simp [World.setCell]
  rw [hsz] at hm
  exact ⟨h.newNow hc hm (Nat.le_refl _) ((Below.heap_alloc _ _ p (by rw [hsz]; exact lt_of_heap h.blk)).trans (heap_set_same (heap_set_same h.blk 1 _) 3 _)), hc⟩

end
end Go.Proofs.YtjngphffgdjcfaaGreatDoor
/-
  The device that goes well, at any number of a sector.
-/
namespace Go.Proofs.YtjngphffgdjcfaaGreatDoor
open Go.RowKit Go.Lz

theorem _root_.Go.Lz.write_goodI' {S : DevS} {i : Int} {b : Bytes} (hd : S.dead = false) (h0 : 0 ≤ i) (hk : i < S.n) (hf : S.fuse ≠ 0) (hb : b.length = 64) : S.write i b = (0, S.burned.put i.toNat b) := by
  obtain ⟨k, rfl⟩ := Int.eq_ofNat_of_zero_le h0
  exact write_good hd (by omega) hf hb

theorem read_goodI {w : World} {p : Nat} {S : DevS} {F : Nat → Prop} (h : DevAt Tryz.prog w p S F) (hd : S.dead = false) {i : Int} (h0 : 0 ≤ i) (hk : i < S.n) : Calls Tryz.prog 68 #[Dptr p, .int .i64 i] w (ReadGood w p S F (S.now i.toNat)) := by
  obtain ⟨k, rfl⟩ := Int.eq_ofNat_of_zero_le h0
  exact read_good h hd (by omega) rfl

theorem read_dead {w : World} {p : Nat} {S : DevS} {F : Nat → Prop} (h : DevAt Tryz.prog w p S F) (hd : S.dead = true) (i : Int) : Calls Tryz.prog 68 #[Dptr p, .int .i64 i] w fun e w' => e = .returned (.tuple #[.slice none 0 0, .int .i64 50]) ∧ w = w' := by
  obtain ⟨lv, m, vs, vf, c, hD⟩ := h
  have hw : S.wrong i = 50 := by simp [DevS.wrong, hd]
  have := read_bad hD i (by rw [hw]; decide)
  rwa [hw] at this

end Go.Proofs.YtjngphffgdjcfaaGreatDoor
/-
  The store of a device: Open.
-/
namespace Go.Proofs.YtjngphffgdjcfaaGreatDoor
open Go.RowKit Go.Lz
section
variable {w w' : World} {p q : Nat} {D : DevS} {Fd Fs F : Nat → Prop}

theorem logged_dead (hp : w.cell? ⟨p, 0, none⟩ = some (Dp q)) (hD : DevAt Tryz.prog w q D Fd) (hd : D.dead = true) : Calls Tryz.prog 81 #[Dptr p] w fun e w' => e = .returned (.tuple #[.map none, .int .i64 50]) ∧ w = w' := by
  go_enter Tryz.func81, Tryz.ntmps81
  go_wp2_with (go_at_call 68; refine (read_dead hD hd _).mono ?_; rintro e w' ⟨rfl, rfl⟩)
  go_ret2
  exact ⟨rfl, rfl⟩

/-- The blocks of a new store. -/
def newB (s : Nat) : Nat → Prop := fun k => s ≤ k ∧ k < s + 3

/-- A new store, as it lies. -/
theorem newStore {s : Nat} (h0 : w.heap[s]? = some (.map #[] 0)) (h1 : w.heap[s + 1]? = some (.map #[] 0)) (h2 : w.heap[s + 2]? = some (.cells #[Dp q, .map (some s), .map (some (s + 1)), .int .i64 0, .int .i64 0, .bool false] 127 (0, 0)))
    (hD : DevAt Tryz.prog w q D Fd) (hn : 300 < D.n) (hF : ∀ k, Fd k → ¬ newB s k) : StoreIn Tryz.prog w (s + 2) q (WalS.new D) Fd (newB s) s (s + 1) (fun _ => none) (fun _ => none) 0 0 := by
  have hm : ∀ m, w.heap[m]? = some (.map #[] 0) → MapAt Tryz.prog 3 w m (fun _ => none) 0 := fun m hm => by
    obtain ⟨w0, hw0⟩ : ∃ w0 : World, w0 = { w with heap := w.heap.extract 0 m } := ⟨_, rfl⟩
    have hsz : w0.heap.size = m := by rw [hw0]; have := lt_of_heap hm; simp; omega
    have := MapAt.made (P := Tryz.prog) (T := 3) w0
    rw [hsz] at this
    exact this.heap (hm.trans (by rw [← hsz]; exact (heap_alloc_new w0 _).symm))
  have l2 := lt_of_heap h2
  exact ⟨h2, hD, ⟨hm s h0, fun _ _ e => (by cases e), fun _ _ => rfl, ⟨by omega, by omega⟩⟩, ⟨hm (s + 1) h1, fun _ _ e => (by cases e), fun _ _ => rfl, ⟨by omega, by omega⟩⟩, by omega, ⟨by omega, by omega⟩, fun k hk => by have := hk.2; omega, fun k hk h => hF k h hk, ⟨hn, fun _ _ e => (by cases e), fun _ _ e => (by cases e)⟩⟩

/-- What an opening hands back: a store of the device; or an error. -/
def OpenPost (w : World) (q : Nat) (D : DevS) (Fd : Nat → Prop) (e : Ending) (w' : World) : Prop :=
  (D.opened.1 = 0 ∧ ∃ p, e = .returned (.tuple #[Dptr p, .int .i64 0]) ∧ StoreAt Tryz.prog w' p q (WalS.new D.opened.2) (ext Fd w w') ∧ Chg Fd w w') ∨
  (D.opened.1 ≠ 0 ∧ e = .returned (.tuple #[.pointer none, .int .i64 D.opened.1]) ∧ DevAt Tryz.prog w' q D.opened.2 (ext Fd w w') ∧ Chg Fd w w')

theorem wopen_nil (w : World) : Calls Tryz.prog 51 #[.pointer none] w fun e w' => e = .returned (.tuple #[.pointer none, .int .i64 1]) ∧ w = w' := by
  go_enter Tryz.func51, Tryz.ntmps51
  go_wp2
  go_ret2
  exact ⟨rfl, rfl⟩

set_option maxRecDepth 100000 in
set_option maxHeartbeats 1000000 in
theorem wopen_any (hD : DevAt Tryz.prog w q D Fd) : Calls Tryz.prog 51 #[Dptr q] w (OpenPost w q D Fd) := by
  have hn8 := hD.ok.n
  have hmm := @run_makeMap Tryz.prog
  by_cases hn : D.n ≤ 300
  · have ho : D.opened = (1, D) := if_pos hn
    have hoH : Hid _ := Lib.hid ho
    have hz : D.n - 300 = 0 := by omega
    have hro := room_any w D.n (by omega)
    rw [hz] at hro
    clear ho hz
    go_enter Tryz.func51, Tryz.ntmps51
    go_wp2_with (first
      | (go_at_call 80; refine (size_any hD).mono ?_; rintro e w' ⟨rfl, rfl⟩)
      | (go_at_call 79; refine hro.mono ?_; rintro e w' ⟨rfl, rfl⟩))
    go_ret2
    unfold OpenPost
    rw [hoH.out]
    exact .inr ⟨by show (1 : Int) ≠ 0; decide, rfl, hD.mono (fun _ h => .inl h) (fun k h => h.elim (hD.lt k) (·.2)), Chg.refl _ _⟩
  · have hro := room_any w D.n (by omega)
    obtain ⟨sz, hsz⟩ : ∃ sz, sz = D.n - 300 := ⟨_, rfl⟩
    have hszH : Hid _ := Lib.hid hsz
    have hsz0 : 0 < sz := by omega
    have hsz1 : ((sz : Int) == 0) = false := by simp; omega
    rw [← hsz] at hro
    clear hsz
    have hlt := hD.lt
    go_enter Tryz.func51, Tryz.ntmps51
    go_wp2_with (first
      | (go_at_call 80; refine (size_any hD).mono ?_; rintro e w' ⟨rfl, rfl⟩)
      | (go_at_call 79; refine hro.mono ?_; rintro e w' ⟨rfl, rfl⟩))
    have hW0 : ∃ W0, W0 = (((w.alloc (.map #[] 0)).alloc (.map #[] 0)).alloc (.cells #[Dp q, .map (some w.heap.size), .map (some (w.heap.size + 1)), .int .i64 0, .int .i64 0, .bool false] 127)) := ⟨_, rfl⟩
    obtain ⟨W0, hW0⟩ := hW0
    have hb0 : Below w.heap.size w W0 := by rw [hW0]; exact ((((Below.refl _ w).alloc (Nat.le_refl _) _).alloc (by rw [World.size_alloc]; omega) _).alloc (by rw [World.size_alloc, World.size_alloc]; omega) _)
    have g0 : W0.heap[w.heap.size]? = some (.map #[] 0) := by
      rw [hW0, Below.heap_alloc _ _ _ (by rw [World.size_alloc, World.size_alloc]; omega), Below.heap_alloc _ _ _ (by rw [World.size_alloc]; omega)]
      exact heap_alloc_new w _
    have g1 : W0.heap[w.heap.size + 1]? = some (.map #[] 0) := by
      rw [hW0, Below.heap_alloc _ _ _ (by rw [World.size_alloc, World.size_alloc]; omega)]
      have := heap_alloc_new (w.alloc (.map #[] 0)) (.map #[] 0)
      rwa [World.size_alloc] at this
    have g2 : W0.heap[w.heap.size + 2]? = some (.cells #[Dp q, .map (some w.heap.size), .map (some (w.heap.size + 1)), .int .i64 0, .int .i64 0, .bool false] 127 (0, 0)) := by
      rw [hW0]
      have := heap_alloc_new ((w.alloc (.map #[] 0)).alloc (.map #[] 0)) (.cells #[Dp q, .map (some w.heap.size), .map (some (w.heap.size + 1)), .int .i64 0, .int .i64 0, .bool false] 127)
      rwa [World.size_alloc, World.size_alloc] at this
    rw [← hW0]
    clear hW0 hro
    have hD0 := hD.below hb0
    have hp0 : W0.cell? ⟨w.heap.size + 2, 0, none⟩ = some (Dp q) := cell_of g2 0
    have hpl := lt_of_heap g2
    have hpF : ¬ Fd (w.heap.size + 2) := fun h => by have := hlt _ h; omega
    have hnew : ∀ k, Fd k → ¬ newB w.heap.size k := fun k hk h => by have := hlt k hk; have := h.1; omega
    by_cases hd : D.dead = true
    · have ho : D.opened = (50, D) := by unfold DevS.opened; rw [if_neg hn, if_pos hd]
      have hoH : Hid _ := Lib.hid ho
      clear ho
      refine (logged_dead hp0 hD0 hd).mono ?_
      rintro e w' ⟨rfl, rfl⟩
      go_wp2_with fail
      go_ret2
      unfold OpenPost
      rw [hoH.out]
      exact .inr ⟨by show (50 : Int) ≠ 0; decide, rfl, hD0.mono (fun _ h => .inl h) (fun k h => h.elim (fun h => Nat.lt_of_lt_of_le (hlt k h) hb0.size) (·.2)), Chg.of_below hb0⟩
    · have hd' : D.dead = false := by simpa using hd
      refine (logged_any hp0 hpl hpF hD0 hd' (by omega)).mono ?_
      rintro e w1 ⟨m, rfl, Fl, vf, c, hD1, hm1, hFl, hC1⟩
      have hs1 := hC1.size
      have hs0 := hb0.size
      have ho : D.opened = if keysF (logFL D.now (D.n - 300) (numL D.now)) (D.n - 300) = [] then (0, D.countedN (1 + 2 * numL D.now)) else (D.countedN (1 + 2 * numL D.now)).home (logFL D.now (D.n - 300) (numL D.now)) (D.n - 300) := by
        unfold DevS.opened
        rw [if_neg hn, if_neg hd]
      have hfb : ∀ k b, logFL D.now (D.n - 300) (numL D.now) k = some b → b.length = 64 ∧ k < D.n - 300 := fun k b e => logFL_ok (fun k => hD.ok.now k) e
      have hfs : ∀ k, (logFL D.now (D.n - 300) (numL D.now) k).isSome = true → k < D.n - 300 := fun k e => by
        obtain ⟨b, hb⟩ := Option.isSome_iff_exists.1 e
        exact (hfb k b hb).2
      have hcc := hm1.count Tryz.underlying3 hfs
      have hDn : (D.countedN (1 + 2 * numL D.now)).n = D.n := DevS.countedN_n _ _
      generalize D.countedN (1 + 2 * numL D.now) = D' at ho hD1 hDn
      generalize logFL D.now (D.n - 300) (numL D.now) = f at ho hm1 hfb hfs hcc
      have hln := hm1.map.len (P := Tryz.prog) Tryz.underlying125
      have hlt1 := hD1.lt
      have hFlF : ∀ k, Fl k → ¬ Fd k := fun k hk h => by have := (hFl k hk).1; have := hlt k h; omega
      have hp1 : w1.cell? ⟨w.heap.size + 2, 0, none⟩ = some (Dp q) := (hC1.cell (p := ⟨w.heap.size + 2, 0, none⟩) hpl hpF).trans hp0
      have g0' := (hC1.block w.heap.size (lt_of_heap g0) (fun h => by have := hlt _ h; omega)).trans g0
      have g1' := (hC1.block (w.heap.size + 1) (lt_of_heap g1) (fun h => by have := hlt _ h; omega)).trans g1
      have g2' := (hC1.block (w.heap.size + 2) (lt_of_heap g2) hpF).trans g2
      have hC01 : Chg Fd w w1 := (Chg.of_below hb0).trans hC1 (fun _ _ h => h)
      have hoH : Hid _ := Lib.hid ho
      have hccH : Hid _ := Lib.hid hcc
      have hDnH : Hid _ := Lib.hid hDn
      clear ho hcc hDn hC1 g0 g1 g2 hp0 hD0
      by_cases hc0 : c = 0
      · subst hc0
        have hoo : D.opened = (0, D') := by rw [hoH.out, if_pos (List.length_eq_zero_iff.1 hccH.out.symm)]
        have hoH : Hid _ := Lib.hid hoo
        clear hoo
        go_wp2_with fail
        go_ret2
        unfold OpenPost
        rw [hoH.out]
        have hst := newStore g0' g1' g2' hD1 (by rw [hDnH.out]; omega) hnew
        exact .inl ⟨rfl, _, rfl, hst.at_ (fun k hk => .inl hk) (fun k hk => .inr ⟨hk.1, hst.Flt k hk⟩) (fun k hk => hk.elim (hlt1 k) (·.2)), hC01⟩
      · have hoo : D.opened = D'.home f (D.n - 300) := by rw [hoH.out, if_neg (fun e => hc0 (hccH.out.trans (by rw [e]; rfl)))]
        have hoH : Hid _ := Lib.hid hoo
        have hcI : (0 : Int) < (c : Int) := by omega
        have hcN : 0 < c := by omega
        have ch := home_any hp1 (Nat.lt_of_lt_of_le hpl hs1) hpF hD1 hm1 hFlF (n := D.n - 300) (by omega) hfb
        have hrn : (D'.home f (D.n - 300)).2.n = D.n := (D'.home_n _ _).trans hDnH.out
        obtain ⟨r, hr⟩ : ∃ r, r = D'.home f (D.n - 300) := ⟨_, rfl⟩
        rw [← hr] at ch hrn hoH
        have hrnH : Hid _ := Lib.hid hrn
        clear hr hoo hccH hrn hc0
        go_wp2_with fail
        refine ch.mono ?_
        rintro e w2 ⟨rfl, hD2, hC2⟩
        clear ch
        have hs2 := hC2.size
        have hC02 : Chg Fd w w2 := hC01.trans hC2 (fun _ _ h => h)
        by_cases hr0 : r.1 = 0
        · rw [hr0]
          have hr0H : Hid _ := Lib.hid hr0
          clear hr0
          go_wp2_with fail
          go_ret2
          unfold OpenPost
          rw [hoH.out]
          have g0'' := (hC2.block w.heap.size (lt_of_heap g0') (fun h => by have := hlt _ h; omega)).trans g0'
          have g1'' := (hC2.block (w.heap.size + 1) (lt_of_heap g1') (fun h => by have := hlt _ h; omega)).trans g1'
          have g2'' := (hC2.block (w.heap.size + 2) (lt_of_heap g2') hpF).trans g2'
          have hst := newStore g0'' g1'' g2'' hD2 (by rw [hrnH.out]; omega) (fun k hk h => hk.elim (fun h2 => hnew k h2 h) (fun h2 => by have := h2.1; have := h.2; omega))
          exact .inl ⟨hr0H.out, _, rfl, hst.at_ (fun k hk => hk.imp id (fun h => ⟨Nat.le_trans (Nat.le_trans hs0 hs1) h.1, h.2⟩)) (fun k hk => .inr ⟨hk.1, hst.Flt k hk⟩) (fun k hk => hk.elim (fun h => Nat.lt_of_lt_of_le (hlt1 k h) hs2) (·.2)), hC02⟩
        · have hr1 : (r.1 != 0) = true := by simpa using hr0
          go_wp2_with fail
          go_ret2
          unfold OpenPost
          rw [hoH.out]
          exact .inr ⟨hr0, rfl, hD2.mono (fun k hk => hk.imp id (fun h => ⟨Nat.le_trans (Nat.le_trans hs0 hs1) h.1, h.2⟩)) (fun k hk => hk.elim (fun h => Nat.lt_of_lt_of_le (hlt1 k h) hs2) (·.2)), hC02⟩
end
end Go.Proofs.YtjngphffgdjcfaaGreatDoor
/-
  What a statement's function owns: one thing over blocks of its own, and local blocks beside it; nothing that was there has turned.
-/
namespace Go.Lz
open Go.RowKit

/-- v is a slice of the bools l; its cells lie in a block of F. -/
def BoolsAt (w : World) (F : Nat → Prop) (v : Value) (l : List Bool) : Prop :=
  ∃ a n c, v = .slice a n c ∧ l.length = n ∧ n ≤ 9223372036854775807 ∧ (n = 0 ∨ ∃ b off, a = some ⟨b, off, none⟩ ∧ F b ∧ b < w.heap.size ∧ ∀ j, j < n → w.cell? ⟨b, off + j, none⟩ = some (.bool (l.getD j false)))

/-- Local blocks. -/
abbrev Locals := Nat → Option Obj
def noLocals : Locals := fun _ => none

/-- Since w0: T lies over blocks F of the call's own; L are other blocks; nothing of w0 has turned. -/
def Own (w0 w : World) (T : World → (Nat → Prop) → Prop) (L : Locals) : Prop :=
  ∃ F, T w F ∧ (∀ k, F k → w0.heap.size ≤ k ∧ k < w.heap.size) ∧ Below w0.heap.size w0 w ∧ ∀ b o, L b = some o → w0.heap.size ≤ b ∧ ¬ F b ∧ w.heap[b]? = some o

/-- T stands where its blocks have not turned. -/
def Keeps (T : World → (Nat → Prop) → Prop) : Prop := ∀ w w' F M, T w F → Chg M w w' → (∀ k, F k → ¬ M k) → T w' F

section
variable {w0 w w' : World} {T T' : World → (Nat → Prop) → Prop} {L : Locals}

theorem Own.base (h : Own w0 w T L) : Below w0.heap.size w0 w := by
  obtain ⟨F, _, _, hb, _⟩ := h
  exact hb
theorem Own.size (h : Own w0 w T L) : w0.heap.size ≤ w.heap.size := h.base.size
theorem Own.loc (h : Own w0 w T L) {b : Nat} {o : Obj} (hb : L b = some o) : w.heap[b]? = some o := by
  obtain ⟨F, _, _, _, hL⟩ := h
  exact (hL b o hb).2.2
theorem Own.loc_lt (h : Own w0 w T L) {b : Nat} {o : Obj} (hb : L b = some o) : b < w.heap.size := lt_of_heap (h.loc hb)
theorem Own.loc_ge (h : Own w0 w T L) {b : Nat} {o : Obj} (hb : L b = some o) : w0.heap.size ≤ b := by
  obtain ⟨F, _, _, _, hL⟩ := h
  exact (hL b o hb).1

/-- A call works on the thing. -/
theorem Own.step (h : Own w0 w T L) : ∃ F, T w F ∧ (∀ k, F k → w0.heap.size ≤ k ∧ k < w.heap.size) ∧ ∀ {w' : World} {T' : World → (Nat → Prop) → Prop}, T' w' (ext F w w') → Chg F w w' → Own w0 w' T' L := by
  obtain ⟨F, hT, hF, hb, hL⟩ := h
  refine ⟨F, hT, hF, fun {w' T'} hT' hc => ⟨_, hT', fun k hk => ?_, hb.trans (hc.belowB hb.size (fun j hj h => by have := (hF j h).1; omega)), fun b o ho => ?_⟩⟩
  · have := hb.size
    rcases hk with hk | hk
    · exact ⟨(hF k hk).1, Nat.lt_of_lt_of_le (hF k hk).2 hc.size⟩
    · exact ⟨Nat.le_trans this hk.1, hk.2⟩
  · obtain ⟨h1, h2, h3⟩ := hL b o ho
    refine ⟨h1, fun h => h.elim h2 (fun h => ?_), (hc.block b (lt_of_heap h3) h2).trans h3⟩
    have := lt_of_heap h3
    omega

/-- New blocks; nothing has turned. -/
theorem Own.below (h : Own w0 w T L) (hk : Keeps T) (hb : Below w.heap.size w w') : Own w0 w' T L := by
  obtain ⟨F, hT, hF, hb0, hL⟩ := h
  have hc : Chg (fun _ => False) w w' := Chg.of_below hb
  exact ⟨F, hk _ _ _ _ hT hc (fun _ _ h => h), fun k hk => ⟨(hF k hk).1, Nat.lt_of_lt_of_le (hF k hk).2 hb.size⟩, hb0.trans (hb.mono hb0.size), fun b o ho => ⟨(hL b o ho).1, (hL b o ho).2.1, (hc.block b (lt_of_heap (hL b o ho).2.2) (fun h => h)).trans (hL b o ho).2.2⟩⟩

/-- A new local block. -/
theorem Own.local_ (h : Own w0 w T L) {b : Nat} {o : Obj} (hk : Keeps T) (hb : Below w.heap.size w w') (hge : w.heap.size ≤ b) (ho : w'.heap[b]? = some o) : Own w0 w' T (upd L b (some o)) := by
  have hs := h.size
  obtain ⟨F, hT, hF, hb0, hL⟩ := h
  have hc : Chg (fun _ => False) w w' := Chg.of_below hb
  refine ⟨F, hk _ _ _ _ hT hc (fun _ _ h => h), fun k hk => ⟨(hF k hk).1, Nat.lt_of_lt_of_le (hF k hk).2 hb.size⟩, hb0.trans (hb.mono hb0.size), fun b' o' ho' => ?_⟩
  by_cases e : b' = b
  · subst e
    rw [upd_same] at ho'
    cases ho'
    exact ⟨by omega, fun hf => by have := (hF _ hf).2; omega, ho⟩
  · rw [upd_other _ e] at ho'
    exact ⟨(hL b' o' ho').1, (hL b' o' ho').2.1, (hc.block b' (lt_of_heap (hL b' o' ho').2.2) (fun h => h)).trans (hL b' o' ho').2.2⟩

/-- A local block is written. -/
theorem Own.set (h : Own w0 w T L) {b : Nat} {o o' : Obj} (hk : Keeps T) (hb : L b = some o) (hc : Chg (· = b) w w') (ho : w'.heap[b]? = some o') : Own w0 w' T (upd L b (some o')) := by
  have hge := h.loc_ge hb
  obtain ⟨F, hT, hF, hb0, hL⟩ := h
  refine ⟨F, hk _ _ _ _ hT hc (fun k hk e => (hL b o hb).2.1 (e ▸ hk)), fun k hk => ⟨(hF k hk).1, Nat.lt_of_lt_of_le (hF k hk).2 hc.size⟩, hb0.trans (hc.belowB hb0.size (fun j hj e => by omega)), fun b' o2 ho2 => ?_⟩
  by_cases e : b' = b
  · subst e
    rw [upd_same] at ho2
    cases ho2
    exact ⟨hge, (hL _ o hb).2.1, ho⟩
  · rw [upd_other _ e] at ho2
    exact ⟨(hL b' o2 ho2).1, (hL b' o2 ho2).2.1, (hc.block b' (lt_of_heap (hL b' o2 ho2).2.2) e).trans (hL b' o2 ho2).2.2⟩

/-- A block of the call's own that is none of the thing's and no local one is written. -/
theorem Own.free (h : Own w0 w T L) {M : Nat → Prop} (hk : Keeps T) (hc : Chg M w w') (hM : ∀ k, M k → w.heap.size ≤ k) : Own w0 w' T L := by
  have hs := h.size
  obtain ⟨F, hT, hF, hb0, hL⟩ := h
  exact ⟨F, hk _ _ _ _ hT hc (fun k hk hm => by have := (hF k hk).2; have := hM k hm; omega), fun k hk => ⟨(hF k hk).1, Nat.lt_of_lt_of_le (hF k hk).2 hc.size⟩, hb0.trans (hc.belowB hb0.size (fun j hj e => by have := hM j e; omega)), fun b o ho => ⟨(hL b o ho).1, (hL b o ho).2.1, (hc.block b (lt_of_heap (hL b o ho).2.2) (fun e => by have := lt_of_heap (hL b o ho).2.2; have := hM b e; omega)).trans (hL b o ho).2.2⟩⟩

/-- A local block is forgotten. -/
theorem Own.forget (h : Own w0 w T L) {L' : Locals} (hL : ∀ b o, L' b = some o → L b = some o) : Own w0 w T L' := by
  obtain ⟨F, hT, hF, hb, hl⟩ := h
  exact ⟨F, hT, hF, hb, fun b o ho => hl b o (hL b o ho)⟩

theorem Own.none_ (h : Own w0 w T L) {g : Nat} (hg : w.heap.size ≤ g) : L g = none := by
  cases e : L g with
  | none => rfl
  | some o => have := h.loc_lt e; omega
theorem Own.drop {g : Nat} {o : Obj} (h : Own w0 w T (upd L g (some o))) (hg : L g = none) : Own w0 w T L :=
  h.forget fun b o' hb => by
    have e : b ≠ g := fun e => by subst e; rw [hg] at hb; cases hb
    rw [upd_other _ e]
    exact hb

/-- The thing is seen otherwise. -/
theorem Own.view (h : Own w0 w T L) (hv : ∀ F, T w F → (∀ k, F k → k < w.heap.size) → T' w F) : Own w0 w T' L := by
  obtain ⟨F, hT, hF, hb, hl⟩ := h
  exact ⟨F, hv F hT (fun k hk => (hF k hk).2), hF, hb, hl⟩

/-- The first thing. -/
theorem Own.start {F : Nat → Prop} (hT : T w F) (hF : ∀ k, F k → w0.heap.size ≤ k ∧ k < w.heap.size) (hb : Below w0.heap.size w0 w) : Own w0 w T noLocals := ⟨F, hT, hF, hb, fun _ _ h => by cases h⟩

/-- A row of bytes of the caller's, or one made since, stands. -/
theorem Own.cells {F : Nat → Prop} (h : Own w0 w T L) {p : Addr} (hp : p.block < w0.heap.size) (_hF : F = F) : w.cell? p = w0.cell? p := h.base.cell hp
end
end Go.Lz
