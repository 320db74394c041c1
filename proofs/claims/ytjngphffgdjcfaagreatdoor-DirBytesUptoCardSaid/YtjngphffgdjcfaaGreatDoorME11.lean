/-
  The texts Law4a Law4b Law4c LastsP Law4d Al1 Al2 Al3 Sto Vec In1 In2, one behind the other.
-/
import Derived.Test.YtjngphffgdjcfaaGreatDoorME5
import Derived.Test.YtjngphffgdjcfaaGreatDoorME10
import Derived.Deep.RegionHeld
import Derived.Test.YtjngphffgdjcfaaGreatDoorMExArr
import Derived.Deep.LoopGhost
import Derived.Deep.WholeRow
import Derived.Deep.CutBlock
import Derived.Laws.MakeOwn
/-
  The statements' own small functions of layer 4: a store on a new device, a sector of a kind.
-/
namespace Go.Proofs.YtjngphffgdjcfaaGreatDoor
open Go.RowKit Go.Lz

/-- The thing is a store; a device. -/
def TStore (p q : Nat) (S : WalS) : World → (Nat → Prop) → Prop := fun w F => StoreAt Tryz.prog w p q S F
def TDev (q : Nat) (D : DevS) : World → (Nat → Prop) → Prop := fun w F => DevAt Tryz.prog w q D F
theorem keepsStore (p q : Nat) (S : WalS) : Keeps (TStore p q S) := fun _ _ _ _ h hc hM => StoreAt.chg h hc hM
theorem keepsDev (q : Nat) (D : DevS) : Keeps (TDev q D) := fun _ _ _ _ h hc hM => DevAt.chg h hc hM

/-- A store of a new device of n sectors. -/
def newS (n : Nat) : WalS := WalS.new (DevS.new n).opened.2

theorem new_rec {n : Nat} (hn : 300 < n) (hn2 : n ≤ 8192) (h : Nat → Nat → Bytes) (h0 : ∀ k, k < n - 300 → h 0 k = zero64) : (DevS.new n).opened.1 = 0 ∧ Rec (newS n) (n - 300) 0 0 h ∧ Well (newS n).dev ∧ (newS n).now = (fun _ => none) := by
  have hw : Well (DevS.new n) := ⟨rfl, rfl⟩
  rcases Rec.opened (D := DevS.new n) (h := h) (DevS.ok_new hn2) hn rfl (fun _ => rfl) (new_reads n _) h0 with ⟨h1, h2, h3⟩ | ⟨_, _, _, _, _, h6⟩
  · exact ⟨h1, h2, h3 hw, rfl⟩
  · exact absurd hw h6

def OpenLaw (w : World) (n : Nat) (e : Ending) (w' : World) : Prop := ∃ p q, e = .returned (.tuple #[Dptr q, Dptr p]) ∧ Own w w' (TStore p q (newS n)) noLocals

set_option maxRecDepth 100000 in
theorem lw4Open_any (w : World) (n : Nat) (hn : 300 < n) (hn2 : n ≤ 8192) : Calls Tryz.prog 18 #[.int .i64 (n : Int)] w (OpenLaw w n) := by
  obtain ⟨ho, _⟩ := new_rec hn hn2 (fun _ _ => zero64) (fun _ _ => rfl)
  have hoH : Hid _ := Lib.hid ho
  clear ho
  go_enter Tryz.func18, Tryz.ntmps18
  go_wp2_with fail
  refine (new_ok w n hn2).mono ?_
  rintro e w1 ⟨q, rfl, hD1, hB1⟩
  go_wp2_with fail
  refine (wopen_any hD1).mono ?_
  rintro e w2 h2
  rcases h2 with ⟨h0, p, rfl, hS, hC⟩ | ⟨h0, _⟩
  · have hs1 := hB1.size
    have hs2 := hC.size
    clear h0
    go_wp2_with fail
    go_ret2
    refine ⟨p, q, rfl, Own.start hS (fun k hk => ?_) (hB1.trans (hC.belowB hB1.size (fun j hj h => by have := h.1; omega)))⟩
    rcases hk with hk | hk
    · exact ⟨hk.1, by omega⟩
    · exact ⟨by omega, hk.2⟩
  · exact absurd hoH.out h0

/-- A sector of a kind, in a row of its own. -/
def SectorPost (w : World) (k : Int) (e : Ending) (w' : World) : Prop := ∃ v g, e = .returned v ∧ Buf 5 w' g v (bytesOf k 64) ∧ w.heap.size ≤ g ∧ Below w.heap.size w w'

end Go.Proofs.YtjngphffgdjcfaaGreatDoor
/-
  The store's calls, as a statement's function meets them: it owns the store and local blocks.
-/
namespace Go.Lz
open Go.RowKit

/-- Block g as o holds the bytes b, as v reads them; it may be written. -/
def BufO (t : TypeId) (g : Nat) (o : Obj) (v : Value) (b : Bytes) : Prop :=
  ∃ cap cur fr, v = .slice (some ⟨g, 0, none⟩) b.length cap ∧ o = .cells cur t fr ∧ b.length ≤ cap ∧ cap ≤ maxLen ∧ cap ≤ cur.size ∧ cur.toList.take b.length = b.map u8v ∧ ∀ i, i < b.length → (fr.1 ≤ i && i < fr.2) = false

theorem BufO.buf {t : TypeId} {g : Nat} {o : Obj} {v : Value} {b : Bytes} {w : World} (h : BufO t g o v b) (hg : w.heap[g]? = some o) : Buf t w g v b := by
  obtain ⟨cap, cur, fr, h1, rfl, h2⟩ := h
  exact ⟨cap, cur, fr, h1, hg, h2⟩
theorem Buf.bufO {t : TypeId} {g : Nat} {v : Value} {b : Bytes} {w : World} (h : Buf t w g v b) : ∃ o, w.heap[g]? = some o ∧ BufO t g o v b := by
  obtain ⟨cap, cur, fr, h1, h2, h3⟩ := h
  exact ⟨_, h2, cap, cur, fr, h1, rfl, h3⟩
end Go.Lz
namespace Go.Proofs.YtjngphffgdjcfaaGreatDoor
open Go.RowKit Go.Lz
section
variable {w0 w : World} {p q : Nat} {S : WalS} {D : DevS} {L : Locals}

/-- The call hands back v; the thing is T. -/
def Did (w0 w : World) (T : World → (Nat → Prop) → Prop) (L : Locals) (v : Value) (e : Ending) (w' : World) : Prop := e = .returned v ∧ Own w0 w' T L ∧ w.heap.size ≤ w'.heap.size

theorem did_err {r : Int × WalS} {F : Nat → Prop} {e : Ending} {w' : World} (hgo : ∀ {w' : World} {T' : World → (Nat → Prop) → Prop}, T' w' (ext F w w') → Chg F w w' → Own w0 w' T' L) (h : WErr w p q r F e w') : Did w0 w (TStore p q r.2) L (.int .i64 r.1) e w' := ⟨h.1, hgo h.2.1 h.2.2, h.2.2.size⟩

theorem write4 (h : Own w0 w (TStore p q S) L) {v : Value} {b : Bytes} {G : Nat → Prop} (hv : Src 5 w G v b) (i : Int) : Calls Tryz.prog 33 #[Dptr p, .int .i64 i, v] w (Did w0 w (TStore p q (S.write i b).2) L (.int .i64 (S.write i b).1)) := by
  obtain ⟨F, hS, _, hgo⟩ := h.step
  exact (wwrite_any hS hv i).mono fun e w' h => did_err hgo h
theorem size4 (h : Own w0 w (TStore p q S) L) : Calls Tryz.prog 52 #[Dptr p] w fun e w' => e = .returned (.int .i64 (S.size : Int)) ∧ w = w' := by
  obtain ⟨F, ⟨Fd, Fs, mn, mw, vn, vw, cn, cw, h, _⟩, _⟩ := h.step
  exact wsize_any h

/-- A read: nothing and an error; or a new local row. -/
def ReadDid (w0 w : World) (p q : Nat) (S : WalS) (L : Locals) (i : Int) (e : Ending) (w' : World) : Prop :=
  (S.wrong i ≠ 0 ∧ e = .returned (.tuple #[.slice none 0 0, .int .i64 (S.wrong i)]) ∧ w = w') ∨
  (S.wrong i = 0 ∧ ∃ v g o, e = .returned (.tuple #[v, .int .i64 0]) ∧ BufO 5 g o v (S.get i.toNat) ∧ w.heap.size ≤ g ∧ Own w0 w' (TStore p q (S.asked i.toNat)) (upd L g (some o)) ∧ w.heap.size ≤ w'.heap.size)

theorem read4 (h : Own w0 w (TStore p q S) L) (i : Int) : Calls Tryz.prog 32 #[Dptr p, .int .i64 i] w (ReadDid w0 w p q S L i) := by
  have hsz := h.size
  obtain ⟨F, hS, hF, hb, hL⟩ := h
  refine (wread_any hS i).mono ?_
  rintro e w' (⟨h1, h2, h3⟩ | ⟨h1, v, g, rfl, hdat, hg, hS', hC⟩)
  · exact .inl ⟨h1, h2, h3⟩
  · obtain ⟨g', hg', hbuf⟩ := hdat.buf
    have hgg : g' = g := hg'
    subst hgg
    obtain ⟨o, ho, hbo⟩ := hbuf.bufO
    refine .inr ⟨h1, v, g', o, rfl, hbo, hg, ⟨F, hS', fun k hk => ⟨(hF k hk).1, Nat.lt_of_lt_of_le (hF k hk).2 hC.size⟩, hb.trans (hC.belowB hb.size (fun j hj h => by have := (hF j h).1; omega)), fun b o2 hb2 => ?_⟩, hC.size⟩
    by_cases e : b = g'
    · subst e
      rw [upd_same] at hb2
      cases hb2
      exact ⟨by omega, fun h => by have := (hF _ h).2; omega, ho⟩
    · rw [upd_other _ e] at hb2
      exact ⟨(hL b o2 hb2).1, (hL b o2 hb2).2.1, (hC.block b (lt_of_heap (hL b o2 hb2).2.2) (hL b o2 hb2).2.1).trans (hL b o2 hb2).2.2⟩

/-- A good read. -/
def ReadOk (w0 w : World) (T : World → (Nat → Prop) → Prop) (L : Locals) (b : Bytes) (e : Ending) (w' : World) : Prop :=
  ∃ v g o, e = .returned (.tuple #[v, .int .i64 0]) ∧ BufO 5 g o v b ∧ w.heap.size ≤ g ∧ Own w0 w' T (upd L g (some o)) ∧ w.heap.size ≤ w'.heap.size

theorem read4_ok (h : Own w0 w (TStore p q S) L) {i : Int} {k : Nat} (hi : i = (k : Int)) (hw : S.wrong (k : Int) = 0) {b : Bytes} (hb : S.get k = b) : Calls Tryz.prog 32 #[Dptr p, .int .i64 i] w (ReadOk w0 w (TStore p q (S.asked k)) L b) := by
  subst hi hb
  refine (read4 h (k : Int)).mono ?_
  rintro e w' (⟨h1, _⟩ | ⟨h1, v, g, o, h2, h3, h4, h5, h6⟩)
  · exact absurd hw h1
  · rw [Int.toNat_natCast] at h3 h5
    exact ⟨v, g, o, h2, h3, h4, h5, h6⟩

/-! ### the device below a store; a device alone -/
/-- A call of the device below the store. -/
theorem dev_step (h : Own w0 w (TStore p q S) L) : ∃ F, DevAt Tryz.prog w q S.dev F ∧ (∀ k, F k → w0.heap.size ≤ k ∧ k < w.heap.size) ∧ ∀ {w' : World} {D : DevS} {F' : Nat → Prop}, DevAt Tryz.prog w' q D F' → Chg F w w' → (∀ k, F' k → F k ∨ w.heap.size ≤ k) → D.n = S.dev.n → Own w0 w' (TStore p q { S with dev := D }) L := by
  obtain ⟨F, hS, hF, hgo⟩ := h.step
  obtain ⟨Fd, hD, hFd, hst⟩ := StoreAt.open_dev hS
  exact ⟨Fd, hD, fun k hk => hF k (hFd k hk), fun {w' D F'} hD' hc hF' hn => hgo (hst hD' hc hF' hn) (hc.mono fun j _ e => hFd j e)⟩

theorem toDev (h : Own w0 w (TStore p q S) L) : Own w0 w (TDev q S.dev) L := h.view fun _ hS _ => StoreAt.dev hS

theorem dead4 (h : Own w0 w (TStore p q S) L) : Calls Tryz.prog 90 #[Dptr q] w fun e w' => e = .returned (.bool S.dev.dead) ∧ w = w' := by
  obtain ⟨F, hD, _⟩ := dev_step h
  exact dead_any hD
theorem dead1 (h : Own w0 w (TDev q D) L) : Calls Tryz.prog 90 #[Dptr q] w fun e w' => e = .returned (.bool D.dead) ∧ w = w' := by
  obtain ⟨F, hD, _⟩ := h.step
  exact dead_any hD

theorem nilInts (w : World) : IntsAt w (fun _ => False) (.slice none 0 0) [] := ⟨none, 0, 0, rfl, rfl, by omega, .inl rfl⟩

/-- An opening. -/
theorem open1 (h : Own w0 w (TDev q D) L) : Calls Tryz.prog 51 #[Dptr q] w fun e w' =>
    (D.opened.1 = 0 ∧ ∃ p, Did w0 w (TStore p q (WalS.new D.opened.2)) L (.tuple #[Dptr p, .int .i64 0]) e w') ∨ (D.opened.1 ≠ 0 ∧ Did w0 w (TDev q D.opened.2) L (.tuple #[.pointer none, .int .i64 D.opened.1]) e w') := by
  obtain ⟨F, hD, hF, hgo⟩ := h.step
  refine (wopen_any hD).mono ?_
  rintro e w' (⟨h0, p, h1, h2, h3⟩ | ⟨h0, h1, h2, h3⟩)
  · exact .inl ⟨h0, p, h1, hgo h2 h3, h3.size⟩
  · exact .inr ⟨h0, h1, hgo h2 h3, h3.size⟩
theorem open1_ok (h : Own w0 w (TDev q D) L) (ho : D.opened.1 = 0) : Calls Tryz.prog 51 #[Dptr q] w fun e w' => ∃ p, Did w0 w (TStore p q (WalS.new D.opened.2)) L (.tuple #[Dptr p, .int .i64 0]) e w' :=
  (open1 h).mono fun _ _ h => h.elim (·.2) (fun h => absurd ho h.1)
end
end Go.Proofs.YtjngphffgdjcfaaGreatDoor
/-
  What the document fixes of layer 4: awake answers true. Whether a store tells sixteen sectors.
-/
namespace Go.Lz
open Go.RowKit
section
variable {S : WalS} {n c d : Nat} {h h' : Nat → Nat → Bytes}
/-- A store whose power failed between its calls, opened again. -/
theorem Rec.reopen (r : Rec S n c d h) (flip : Bool) (l : List Int) (hh : ∀ k, k < n → h' 0 k = h d k) :
    (S.dev.crashed flip l).opened.1 = 0 ∧ Rec (WalS.new (S.dev.crashed flip l).opened.2) n 0 0 h' ∧ Well (WalS.new (S.dev.crashed flip l).opened.2).dev := by
  obtain ⟨g0, hl, h1, h2⟩ := r.ex
  have hn : (S.dev.crashed flip l).n - 300 = n := r.size
  have hw : Well (S.dev.crashed flip l) := Well.crashed flip l
  rcases Rec.opened (D := S.dev.crashed flip l) (h := h') (g := g0) (hl.dok.crashed flip l) hl.ok.n rfl (fun _ => rfl) (hl.quiet.dur.crashed flip l) (fun k hk => by rw [hn] at hk; rw [hh k hk, h1 k hk]) with ⟨o1, o2, o3⟩ | ⟨_, _, _, _, _, h6⟩
  · rw [hn] at o2
    exact ⟨o1, o2, o3 hw⟩
  · exact absurd hw h6
theorem Rec.wrong (r : Rec S n c d h) {k : Nat} (hk : k < n) : S.wrong (k : Int) = 0 := by
  obtain ⟨g0, hl, _⟩ := r.ex
  exact hl.wrong (by omega) (by rw [r.size]; omega)
end
end Go.Lz
namespace Go.Proofs.YtjngphffgdjcfaaGreatDoor
open Go.RowKit Go.Lz

theorem bytesOf_small (k : Int) : (bytesOf k 64).length = 64 := bytesOf_length k 64

/-- One sector, written, committed, synced; power fails; the store is opened again. -/
structure Awake4 (S1 S2 S3 : WalS) (D4 : DevS) (S5 : WalS) : Prop where
  a : (newS 400).write 0 (bytesOf 5 64) = (0, S1)
  b : S1.commit = (0, S2)
  c : S2.sync = (0, S3)
  d : D4 = S3.dev.crashed false []
  o : D4.opened.1 = 0
  e : S5 = WalS.new D4.opened.2
  w : S5.wrong 0 = 0
  g : S5.get 0 = bytesOf 5 64

theorem awake4_plain : ∃ S1 S2 S3 D4 S5, Awake4 S1 S2 S3 D4 S5 := by
  obtain ⟨h, hh0, hh1⟩ : ∃ h : Nat → Nat → Bytes, h 0 = (fun _ => zero64) ∧ h 1 = fun k => if k = 0 then bytesOf 5 64 else zero64 := ⟨fun i => if i = 0 then fun _ => zero64 else fun k => if k = 0 then bytesOf 5 64 else zero64, rfl, rfl⟩
  obtain ⟨_, r0, w0, n0⟩ := new_rec (n := 400) (by omega) (by omega) h (fun k _ => by rw [hh0])
  obtain ⟨e1, r1⟩ := r0.write (k := 0) (b := bytesOf 5 64) (by omega) (bytesOf_small 5) (.inr (by rw [n0, keysF_none]; decide))
  obtain ⟨S1, hS1⟩ : ∃ S1, S1 = ({ newS 400 with now := upd (newS 400).now 0 (some (bytesOf 5 64)) } : WalS) := ⟨_, rfl⟩
  rw [← hS1] at e1 r1
  have w1 : Well S1.dev := by rw [hS1]; exact w0
  have now1 : S1.now = upd (fun _ => none) 0 (some (bytesOf 5 64)) := by rw [hS1, ← n0]
  rcases r1.commit (by omega) h (fun i hi => rfl) (fun k hk => by
    rw [hh1, now1, hh0]
    by_cases e : k = 0
    · subst e; simp [over]
    · simp [over, e, upd_other _ e]) with ⟨e2, ⟨d2, hd2, r2⟩, n2, w2⟩ | ⟨_, _, _, _, _, _, _, _, hx⟩
  · rcases r2.sync with ⟨e3, r3, n3, l3, _, w3⟩ | ⟨_, _, _, _, _, _, _, _, hx⟩
    · obtain ⟨o, r5, w5⟩ := r3.reopen (h' := fun _ => h 1) false [] (fun _ _ => rfl)
      refine ⟨S1, _, _, _, _, e1, Prod.ext e2 rfl, Prod.ext e3 rfl, rfl, o, rfl, r5.wrong (k := 0) (by omega), ?_⟩
      rw [r5.get (k := 0) (by omega)]
      show (h 1 0) = _
      rw [hh1]
      rfl
    · exact absurd (w2 w1) hx
  · exact absurd w1 hx

theorem run_string' {w : World} {g : Nat} {v : Value} {b : Bytes} (h : Buf 5 w g v b) : ∀ W, Below w.heap.size w W → (convert 23 9 v).run Tryz.prog W = .ok (.string ⟨b.toArray⟩) W :=
  fun _ hb => run_string (h.chg (M := fun _ => False) (Chg.of_below hb) (fun h => h))

end Go.Proofs.YtjngphffgdjcfaaGreatDoor
/-
  DevLasts, the plain law: what lasts and what is now of each sector, by the kinds that were written.
-/
namespace Go.Lz
open Go.RowKit

/-- A sector of a kind; none: noughts. -/
def wantB (x : Int) : Bytes := if 0 < x then bytesOf x 64 else zero64

/-- Each of the eight sectors lasts as f says and is now as g says. -/
structure GoodL (S : DevS) (f g : Nat → Int) : Prop where
  n : S.n = 8
  dead : S.dead = false
  fuse : S.fuse = -1
  last : ∀ k, k < 8 → S.last k = wantB (f k)
  now : ∀ k, k < 8 → S.now k = wantB (g k)

theorem GoodL.new : GoodL (DevS.new 8) (fun _ => 0) (fun _ => 0) := ⟨rfl, rfl, rfl, fun _ _ => rfl, fun _ _ => rfl⟩

theorem GoodL.put {S : DevS} {f g : Nat → Int} (h : GoodL S f g) {k : Nat} {x : Int} (hx : 0 < x) : GoodL (S.burned.put k (bytesOf x 64)) f (upd g k x) := by
  refine ⟨h.n, h.dead, by show max (S.fuse - 1) (-1) = -1; rw [h.fuse]; rfl, h.last, fun j hj => ?_⟩
  by_cases e : j = k
  · subst e
    simp [DevS.now, DevS.put, wantB, hx]
  · have := h.now j hj
    simpa [DevS.now, DevS.put, DevS.burned, upd_other _ e] using this

theorem GoodL.flushed {S : DevS} {f g : Nat → Int} (h : GoodL S f g) : GoodL S.burned.flushed g g :=
  ⟨h.n, h.dead, by show max (S.fuse - 1) (-1) = -1; rw [h.fuse]; rfl, h.now, h.now⟩

theorem GoodL.write {S : DevS} {f g : Nat → Int} (h : GoodL S f g) {i : Int} (h0 : 0 ≤ i) (h1 : i < 8) {b : Bytes} (hb : b.length = 64) : S.write i b = (0, S.burned.put i.toNat b) :=
  write_goodI' h.dead h0 (by rw [h.n]; exact h1) (by rw [h.fuse]; decide) hb

theorem GoodL.flush {S : DevS} {f g : Nat → Int} (h : GoodL S f g) : S.flush = (0, S.burned.flushed) := by
  simp [DevS.flush, h.dead, h.fuse]

/-- Behind the crash. -/
structure GoodC (S : DevS) (f : Nat → Int) : Prop where
  n : S.n = 8
  dead : S.dead = false
  wait : S.wait = fun _ => none
  now : ∀ k, k < 8 → S.now k = wantB (f k)

theorem GoodL.crashed {S : DevS} {f g : Nat → Int} (h : GoodL S f g) (flip : Bool) (l : List Int) : GoodC (S.crashed flip l) (fun k => if (decide ((k : Int) ∈ l)) != flip then g k else f k) := by
  refine ⟨h.n, rfl, rfl, fun k hk => ?_⟩
  show (if (decide ((k : Int) ∈ l)) != flip then S.now k else S.last k) = _
  by_cases e : ((decide ((k : Int) ∈ l)) != flip) = true
  · rw [if_pos e]; simp only [e, if_true]; exact h.now k hk
  · rw [if_neg e]; simp only [e]; exact h.last k hk

theorem GoodC.counted {S : DevS} {f : Nat → Int} (h : GoodC S f) : GoodC S.counted f := ⟨h.n, h.dead, h.wait, h.now⟩
theorem GoodC.waiting {S : DevS} {f : Nat → Int} (h : GoodC S f) : S.waiting = [] := by simp [DevS.waiting, h.wait]
end Go.Lz
/-
  Whether a store tells sixteen sectors.
-/
namespace Go.Lz
open Go.RowKit
/-- The device counted j reads more. -/
def WalS.cnt (S : WalS) (j : Nat) : WalS := { S with dev := S.dev.countedN j }
theorem WalS.asked_cnt (S : WalS) (k : Nat) : ∃ j, S.asked k = S.cnt j := by
  unfold WalS.asked
  split
  · exact ⟨0, rfl⟩
  · exact ⟨1, rfl⟩
theorem DevS.countedN_add (D : DevS) (i j : Nat) : (D.countedN i).countedN j = D.countedN (i + j) := by
  induction j with
  | zero => rfl
  | succ j ih => show ((D.countedN i).countedN j).counted = _; rw [ih]; rfl
theorem WalS.cnt_cnt (S : WalS) (i j : Nat) : (S.cnt i).cnt j = S.cnt (i + j) := by
  unfold WalS.cnt
  simp only [DevS.countedN_add]
@[simp] theorem WalS.cnt_get (S : WalS) (j k : Nat) : (S.cnt j).get k = S.get k := by unfold WalS.get WalS.cnt; simp
@[simp] theorem WalS.cnt_isDead (S : WalS) (j : Nat) : (S.cnt j).isDead = S.isDead := by unfold WalS.isDead WalS.cnt; simp
@[simp] theorem WalS.cnt_size (S : WalS) (j : Nat) : (S.cnt j).size = S.size := by unfold WalS.size WalS.cnt; simp
theorem WalS.wrong_ok {S : WalS} (hd : S.isDead = false) {k : Nat} (hk : k < S.size) : S.wrong (k : Int) = 0 := by
  unfold WalS.wrong
  rw [if_neg (by simp [hd]), if_neg (by omega)]
theorem Live.cnt {S : WalS} {g0 : Nat → Bytes} (h : Live S g0) (j : Nat) : Live (S.cnt j) g0 := by
  induction j with
  | zero => exact h
  | succ j ih => exact ih.counted
theorem Rec.cnt {S : WalS} {n c d : Nat} {h : Nat → Nat → Bytes} (r : Rec S n c d h) (j : Nat) : Rec (S.cnt j) n c d h := by
  obtain ⟨g0, hl, h1, h2⟩ := r.ex
  exact ⟨⟨g0, hl.cnt j, h1, h2⟩, by simpa using r.size, r.all, r.last, r.le, r.small⟩
theorem Rec.fused {S : WalS} {n c d : Nat} {h : Nat → Nat → Bytes} (r : Rec S n c d h) {k : Int} (hk : k ≤ 9223372036854775807) : Rec { S with dev := S.dev.fused k } n c d h := by
  obtain ⟨g0, hl, h1, h2⟩ := r.ex
  exact ⟨⟨g0, ⟨⟨hl.ok.n, hl.ok.now, hl.ok.wait⟩, hl.dok.fused hk, hl.dead, hl.ddead, hl.quiet.core rfl rfl rfl, hl.waitN, hl.nowN⟩, h1, h2⟩, r.size, r.all, r.last, r.le, r.small⟩
end Go.Lz
namespace Go.Proofs.YtjngphffgdjcfaaGreatDoor
open Go.RowKit Go.Lz
section
variable {w0 w : World} {p q : Nat} {S : WalS} {L : Locals}

/-- Does the store tell these? -/
def _root_.Go.Lz.tellsB (S : WalS) (f : Nat → Int) : Bool := (List.range 16).all fun i => decide (S.get i = wantB (f i))
theorem _root_.Go.Lz.tellsB_iff {S : WalS} {f : Nat → Int} : tellsB S f = true ↔ ∀ i, i < 16 → S.get i = wantB (f i) := by simp [tellsB]
theorem _root_.Go.Lz.tellsB_cnt (S : WalS) (j : Nat) (f : Nat → Int) : tellsB (S.cnt j) f = tellsB S f := by simp [tellsB]
theorem _root_.Go.Lz.tellsB_no {S : WalS} {f : Nat → Int} {i : Nat} (hi : i < 16) (h : S.get i ≠ wantB (f i)) : tellsB S f = false := by
  cases e : tellsB S f with
  | false => rfl
  | true => exact absurd (tellsB_iff.1 e i hi) h

theorem beq_no {a b : Bytes} (h : a ≠ b) : (a == b) = false := by simpa using h
theorem beq_yes {a b : Bytes} (h : a = b) : (a == b) = true := by simpa using h

theorem buf_zero (w : World) : Buf 5 (w.alloc (.cells cells64 5)) w.heap.size (.slice (some ⟨w.heap.size, 0, none⟩) 64 64) zero64 :=
  ⟨64, cells64, (0, 0), rfl, heap_alloc_new w _, by decide, by decide, by rw [cells64_size]; exact Nat.le_refl _, by rw [← cells64_eq]; exact List.take_of_length_le (by rw [Array.length_toList, cells64_size]; exact Nat.le_refl _), fun i _ => by simp⟩

/-- What tells answers. -/
def TellsPost (w0 w : World) (p q : Nat) (S : WalS) (L : Locals) (f : Nat → Int) (e : Ending) (w' : World) : Prop :=
  ∃ j, Did w0 w (TStore p q (S.cnt j)) L (.bool (tellsB S f)) e w'

end
end Go.Proofs.YtjngphffgdjcfaaGreatDoor
/-
  What is taken: an item's bit.
-/
namespace Go.Proofs.YtjngphffgdjcfaaGreatDoor
open Go.RowKit Go.Lz
section
variable {w : World} {p q pm : Nat} {S : WalS} {F : Nat → Prop} {at_ n : Nat}

/-- Block pm is a map of n items at sector at_ of the store p. -/
def MapO (w : World) (pm p at_ n : Nat) : Prop := w.heap[pm]? = some (.cells #[Dptr p, .int .i64 (at_ : Int), .int .i64 (n : Int)] 117 (0, 0))

theorem MapO.chg {w' : World} {M : Nat → Prop} (h : MapO w pm p at_ n) (hc : Chg M w w') (hn : ¬ M pm) : MapO w' pm p at_ n := (hc.block pm (lt_of_heap h) hn).trans h

/-- A read that goes well. -/
def WReadOk (w : World) (p q : Nat) (S : WalS) (F : Nat → Prop) (b : Bytes) (e : Ending) (w' : World) : Prop :=
  ∃ v g j, e = .returned (.tuple #[v, .int .i64 0]) ∧ Dat 5 w' (· = g) v b ∧ w.heap.size ≤ g ∧ StoreAt Tryz.prog w' p q (S.cnt j) F ∧ Chg F w w'

theorem wread_ok (h : StoreAt Tryz.prog w p q S F) {i : Int} {k : Nat} (hi : i = (k : Int)) (hd : S.isDead = false) (hk : k < S.size) : Calls Tryz.prog 32 #[Dptr p, .int .i64 i] w (WReadOk w p q S F (S.get k)) := by
  subst hi
  have hw := WalS.wrong_ok hd hk
  refine (wread_any h (k : Int)).mono ?_
  rintro e w' (⟨h1, _⟩ | ⟨_, v, g, rfl, h2, h3, h4, h5⟩)
  · exact absurd hw h1
  · obtain ⟨j, hj⟩ := S.asked_cnt k
    rw [Int.toNat_natCast] at h2 h4
    rw [hj] at h4
    exact ⟨v, g, j, rfl, h2, h3, h4, h5⟩
theorem wread_dead (h : StoreAt Tryz.prog w p q S F) (hd : S.isDead = true) (i : Int) : Calls Tryz.prog 32 #[Dptr p, .int .i64 i] w fun e w' => e = .returned (.tuple #[.slice none 0 0, .int .i64 50]) ∧ w = w' := by
  have hw : S.wrong i = 50 := by unfold WalS.wrong; rw [if_pos hd]
  refine (wread_any h i).mono ?_
  rintro e w' (⟨_, h2, h3⟩ | ⟨h1, _⟩)
  · rw [hw] at h2; exact ⟨h2, h3⟩
  · rw [hw] at h1; cases h1

theorem _root_.Go.Lz.WalS.ok.get_len (h : S.ok) (hd : S.dev.ok) (k : Nat) : (S.get k).length = 64 := by
  unfold WalS.get
  cases hn : S.now k with
  | some b => exact (h.now k b hn).1
  | none =>
    cases hw : S.wait k with
    | some b => exact (h.wait k b hw).1
    | none => exact hd.now _

/-- The j-th bit of a row. -/
def _root_.Go.Lz.bitB (b : Bytes) (j : Nat) : Bool := (b.getD (j / 8) 0).toNat / 2 ^ (j % 8) % 2 == 1
/-- Item i's bit. -/
def _root_.Go.Lz.WalS.bit (S : WalS) (at_ i : Nat) : Bool := bitB (S.get (at_ + i / 512)) (i % 512)

theorem and1_u8 (y : Nat) (hy : y < 256) : bits .and .u8 (y : Int) 1 = ((y % 2 : Nat) : Int) := by
  have : ∀ z : Fin 256, bits .and .u8 ((z.val : Nat) : Int) 1 = ((z.val % 2 : Nat) : Int) := by decide +kernel
  exact this ⟨y, hy⟩
theorem and1_div (x s : Nat) (hx : x < 256) : bits .and .u8 ((x : Int) / 2 ^ s) 1 = ((x / 2 ^ s % 2 : Nat) : Int) := by
  have e : (x : Int) / 2 ^ s = ((x / 2 ^ s : Nat) : Int) := by
    rw [Int.natCast_ediv]
    congr 1
  rw [e]
  exact and1_u8 _ (Nat.lt_of_le_of_lt (Nat.div_le_self _ _) hx)

theorem natCast_beq_one (m : Nat) : (((m : Nat) : Int) == 1) = (m == 1) := by
  by_cases h : m = 1
  · subst h; rfl
  · have h' : ¬ (m : Int) = 1 := by omega
    rw [beq_eq_false_iff_ne.2 h', beq_eq_false_iff_ne.2 h]

/-- What a look at an item tells. -/
def BitPost (w : World) (p q : Nat) (S : WalS) (F : Nat → Prop) (at_ i : Nat) (e : Ending) (w' : World) : Prop :=
  ∃ j, e = .returned (.tuple #[.bool (S.bit at_ i), .int .i64 0]) ∧ StoreAt Tryz.prog w' p q (S.cnt j) F ∧ Chg F w w'

/-- A byte with one bit set or cleared. -/
def _root_.Go.Lz.setN (x s : Nat) (tb : Bool) : Nat := if tb then (if x / 2 ^ s % 2 = 1 then x else x + 2 ^ s) else (if x / 2 ^ s % 2 = 1 then x - 2 ^ s else x)
/-- A row with its j-th bit set or cleared. -/
def _root_.Go.Lz.setB (b : Bytes) (j : Nat) (tb : Bool) : Bytes := b.set (j / 8) (UInt8.ofNat (setN (b.getD (j / 8) 0).toNat (j % 8) tb))
@[simp] theorem _root_.Go.Lz.setB_length (b : Bytes) (j : Nat) (tb : Bool) : (setB b j tb).length = b.length := by simp [setB]

theorem setN_bits (x s : Nat) (hx : x < 256) (hs : s < 8) (tb : Bool) :
    bits .or .u8 (bits .andNot .u8 (x : Int) (2 ^ s % 256)) ((if tb then 1 else 0) * 2 ^ s % 256) = ((setN x s tb : Nat) : Int) ∧ setN x s tb < 256 := by
  have : ∀ (z : Fin 256) (r : Fin 8) (c : Bool), bits .or .u8 (bits .andNot .u8 ((z.val : Nat) : Int) (2 ^ r.val % 256)) ((if c then 1 else 0) * 2 ^ r.val % 256) = ((setN z.val r.val c : Nat) : Int) ∧ setN z.val r.val c < 256 := by decide +kernel
  exact this ⟨x, hx⟩ ⟨s, hs⟩ tb
theorem setN_same (x s : Nat) (hx : x < 256) (hs : s < 8) (tb : Bool) : (setN x s tb / 2 ^ s % 2 == 1) = tb := by
  have : ∀ (z : Fin 256) (r : Fin 8) (c : Bool), (setN z.val r.val c / 2 ^ r.val % 2 == 1) = c := by decide +kernel
  exact this ⟨x, hx⟩ ⟨s, hs⟩ tb
theorem setN_other (x s s' : Nat) (hx : x < 256) (hs : s < 8) (hs' : s' < 8) (hne : s' ≠ s) (tb : Bool) : setN x s tb / 2 ^ s' % 2 = x / 2 ^ s' % 2 := by
  have : ∀ (z : Fin 256) (r r' : Fin 8) (c : Bool), r' ≠ r → setN z.val r.val c / 2 ^ r'.val % 2 = z.val / 2 ^ r'.val % 2 := by decide +kernel
  exact this ⟨x, hx⟩ ⟨s, hs⟩ ⟨s', hs'⟩ tb (fun e => hne (congrArg Fin.val e))

theorem _root_.Go.Lz.bitB_set_same {b : Bytes} {j : Nat} (hj : j / 8 < b.length) (tb : Bool) : bitB (setB b j tb) j = tb := by
  unfold bitB setB
  have hlt := (setN_bits (b.getD (j / 8) 0).toNat (j % 8) (UInt8.toNat_lt _) (by omega) tb).2
  rw [List.getD_eq_getElem?_getD, List.getElem?_set_self hj, Option.getD_some, UInt8.toNat_ofNat', Nat.mod_eq_of_lt (show setN (b.getD (j / 8) 0).toNat (j % 8) tb < 2 ^ 8 from hlt)]
  exact setN_same _ _ (UInt8.toNat_lt _) (Nat.mod_lt _ (by decide)) tb
theorem _root_.Go.Lz.bitB_set_other {b : Bytes} {j j' : Nat} (hj : j / 8 < b.length) (hne : j' ≠ j) (tb : Bool) : bitB (setB b j tb) j' = bitB b j' := by
  unfold bitB setB
  by_cases e : j' / 8 = j / 8
  · have hlt := (setN_bits (b.getD (j / 8) 0).toNat (j % 8) (UInt8.toNat_lt _) (by omega) tb).2
    rw [e, List.getD_eq_getElem?_getD, List.getElem?_set_self hj, Option.getD_some, UInt8.toNat_ofNat', Nat.mod_eq_of_lt (show setN (b.getD (j / 8) 0).toNat (j % 8) tb < 2 ^ 8 from hlt)]
    rw [setN_other (b.getD (j / 8) 0).toNat (j % 8) (j' % 8) (UInt8.toNat_lt _) (Nat.mod_lt _ (by decide)) (Nat.mod_lt _ (by decide)) (by omega) tb]
  · rw [List.getD_eq_getElem?_getD, List.getElem?_set_ne (fun h => e h.symm), ← List.getD_eq_getElem?_getD]

theorem _root_.Go.Lz.Dat.setByte {t : TypeId} {w : World} {g : Nat} {v : Value} {b : Bytes} (h : Dat t w (· = g) v b) {k : Nat} (hk : k < b.length) (c : UInt8) : Dat t (w.setCell ⟨g, k, none⟩ (u8v c)) (· = g) v (b.set k c) := by
  obtain ⟨g', cap, cur, h1, h2, h3, h4, h5, h6, h7⟩ := h
  have h2 : g' = g := h2
  subst h2
  refine ⟨g', cap, _, by rw [List.length_set]; exact h1, rfl, heap_set_same h3 k _, by rw [List.length_set]; exact h4, h5, by simpa using h6, ?_⟩
  rw [List.length_set, Array.toList_setIfInBounds, List.map_set, ← h7]
  apply List.ext_getElem?
  intro i
  simp only [List.getElem?_take, List.getElem?_set, List.length_take]
  by_cases e : k = i
  · subst e
    have hkc : k < cur.size := by omega
    simp [hk, hkc]
    omega
  · rw [if_neg e, if_neg e]

theorem _root_.Go.Lz.WalS.cnt_wrong (S : WalS) (j : Nat) (i : Int) : (S.cnt j).wrong i = S.wrong i := by
  unfold WalS.wrong
  rw [WalS.cnt_isDead, WalS.cnt_size]
theorem _root_.Go.Lz.WalS.cnt_nowN (S : WalS) (j : Nat) : (S.cnt j).nowN = S.nowN := by
  unfold WalS.nowN
  rw [WalS.cnt_size]
  rfl
theorem _root_.Go.Lz.WalS.cnt_write (S : WalS) (j : Nat) (i : Int) (b : Bytes) : (S.cnt j).write i b = ((S.write i b).1, (S.write i b).2.cnt j) := by
  unfold WalS.write
  rw [WalS.cnt_wrong, WalS.cnt_nowN]
  have e : (S.cnt j).now = S.now := rfl
  rw [e]
  split
  · rfl
  · split
    · rfl
    · split <;> rfl

set_option maxRecDepth 100000 in
set_option maxHeartbeats 1000000 in
theorem bit_ok (hM : MapO w pm p at_ n) (h : StoreAt Tryz.prog w p q S F) (hd : S.isDead = false) {i : Nat} (hi : at_ + i / 512 < S.size) (hi2 : i < 8192) : Calls Tryz.prog 78 #[Dptr pm, .int .i64 (i : Int)] w (BitPost w p q S F at_ i) := by
  have c0 : w.cell? ⟨pm, 0, none⟩ = some (Dptr p) := cell_of hM 0
  have c1 : w.cell? ⟨pm, 1, none⟩ = some (.int .i64 (at_ : Int)) := cell_of hM 1
  have hsz : S.size ≤ 8192 := by
    have := h.dev.ok.n
    unfold WalS.size
    omega
  have hD := (h.below (Below.refl _ w).drew)
  have cr := wread_ok hD (i := IntKind.i64.wrap ((at_ : Int) + IntKind.i64.wrap ((i : Int) / 512))) (k := at_ + i / 512) (by rw [IntKind.wrap_i64, IntKind.wrap_i64]; omega) hd hi
  have hlen : (S.get (at_ + i / 512)).length = 64 := h.ok.get_len h.dev.ok _
  go_enter Tryz.func78, Tryz.ntmps78
  go_upto_region 1 with fail
  go_cut [4, 6, 7, 8] from 9 to 25 (fun _ v e _ wx => ∃ g j, e = .int .i64 0 ∧ Dat 5 wx (· = g) v (S.get (at_ + i / 512)) ∧ w.heap.size ≤ g ∧ StoreAt Tryz.prog wx p q (S.cnt j) F ∧ Chg F w wx)
  case first =>
    go_region_with ((go_at_call 32; refine cr.mono ?_; rintro e w3 ⟨v3, g3, j3, rfl, hv3, hg3, hS3, hC3⟩))
    all_goals
      go_wp2_with fail
      go_meet
      case rel => exact ⟨g3, j3, rfl, hv3, by simpa using hg3, hS3, (Chg.refl _ w).drew.trans hC3 (fun _ _ h => h)⟩
  case rest =>
    obtain ⟨g, j, rfl, hv, hg, hS, hC⟩ := hcut
    obtain ⟨gg, cap, cur, rfl, rfl, k1, k2, k3, k4, k5⟩ := id hv
    have hk64 : i % 512 / 8 < (S.get (at_ + i / 512)).length := by rw [hlen]; omega
    obtain ⟨x, hx⟩ : ∃ x, x = (S.get (at_ + i / 512)).getD (i % 512 / 8) 0 := ⟨_, rfl⟩
    have cx : wc.cell? ⟨gg, i % 512 / 8, none⟩ = some (.int .u8 (x.toNat : Int)) := by
      obtain ⟨g', hg', hb⟩ := hv.buf
      obtain rfl : g' = gg := hg'
      have := hb.cells (i % 512 / 8) (u8v x) (by rw [hx]; simp [List.getD, hk64])
      exact this
    have hx256 := x.toNat_lt
    have hxH : Hid _ := Lib.hid hx
    rw [hlen] at k2 ⊢
    obtain ⟨xn, hxn⟩ : ∃ xn, xn = x.toNat := ⟨_, rfl⟩
    rw [← hxn] at cx hx256
    clear hx hk64 hv k5
    have hbit : S.bit at_ i = (xn / 2 ^ (i % 8) % 2 == 1) := by
      unfold WalS.bit bitB
      rw [show i % 512 % 8 = i % 8 from by omega, ← hxH.out, ← hxn]
    clear hxn
    have hb := and1_div xn (i % 8) hx256
    have hbH : Hid _ := Lib.hid hb
    have hbitH : Hid _ := Lib.hid hbit
    clear hb hbit
    go_wp2_with fail
    go_ret2
    refine ⟨j, ?_, hS, hC⟩
    rw [hbitH.out]
    show Ending.returned (.tuple #[.bool (bits .and .u8 ((xn : Int) / 2 ^ (i % 8)) 1 == 1), .int .i64 0]) = _
    rw [hbH.out]
    rw [natCast_beq_one]

/-- The write that sets an item's bit. -/
def _root_.Go.Lz.WalS.setBit (S : WalS) (at_ i : Nat) (tb : Bool) : Int × WalS := S.write ((at_ + i / 512 : Nat) : Int) (setB (S.get (at_ + i / 512)) (i % 512) tb)
def SetPost (w : World) (p q : Nat) (S : WalS) (F : Nat → Prop) (at_ i : Nat) (tb : Bool) (e : Ending) (w' : World) : Prop :=
  ∃ j, e = .returned (.int .i64 (S.setBit at_ i tb).1) ∧ StoreAt Tryz.prog w' p q ((S.setBit at_ i tb).2.cnt j) (ext F w w') ∧ Chg F w w'

set_option maxRecDepth 100000 in
set_option maxHeartbeats 1000000 in
theorem set_ok (hM : MapO w pm p at_ n) (hpm : ¬ F pm) (h : StoreAt Tryz.prog w p q S F) (hd : S.isDead = false) {i : Nat} (hi : at_ + i / 512 < S.size) (hi2 : i < 8192) (tb : Bool) : Calls Tryz.prog 60 #[Dptr pm, .int .i64 (i : Int), .int .u8 (if tb then 1 else 0)] w (SetPost w p q S F at_ i tb) := by
  have c0 : w.cell? ⟨pm, 0, none⟩ = some (Dptr p) := cell_of hM 0
  have c1 : w.cell? ⟨pm, 1, none⟩ = some (.int .i64 (at_ : Int)) := cell_of hM 1
  have hsz : S.size ≤ 8192 := by
    have := h.dev.ok.n
    unfold WalS.size
    omega
  have hpl := lt_of_heap hM
  have hD := (h.below (Below.refl _ w).drew)
  have cr := wread_ok hD (i := IntKind.i64.wrap ((at_ : Int) + IntKind.i64.wrap ((i : Int) / 512))) (k := at_ + i / 512) (by rw [IntKind.wrap_i64, IntKind.wrap_i64]; omega) hd hi
  have hlen : (S.get (at_ + i / 512)).length = 64 := h.ok.get_len h.dev.ok _
  have hidx : Hid (IntKind.i64.wrap ((at_ : Int) + IntKind.i64.wrap ((i : Int) / 512)) = ((at_ + i / 512 : Nat) : Int)) := by
    show IntKind.i64.wrap ((at_ : Int) + IntKind.i64.wrap ((i : Int) / 512)) = ((at_ + i / 512 : Nat) : Int)
    rw [IntKind.wrap_i64, IntKind.wrap_i64]
    omega
  obtain ⟨t, ht⟩ : ∃ t : Int, t = if tb then 1 else 0 := ⟨_, rfl⟩
  have ht2 : 0 ≤ t ∧ t ≤ 1 := by rw [ht]; split <;> omega
  have htH : Hid _ := Lib.hid ht
  rw [← ht]
  clear ht
  go_enter Tryz.func60, Tryz.ntmps60
  go_upto_region 1 with fail
  go_cut [6, 7, 8, 10] from 11 to 24 (fun _ v e _ wx => ∃ g j, e = .int .i64 0 ∧ Dat 5 wx (· = g) v (S.get (at_ + i / 512)) ∧ w.heap.size ≤ g ∧ StoreAt Tryz.prog wx p q (S.cnt j) F ∧ Chg F w wx)
  case first =>
    go_region_with ((go_at_call 32; refine cr.mono ?_; rintro e w3 ⟨v3, g3, j3, rfl, hv3, hg3, hS3, hC3⟩))
    all_goals
      go_wp2_with fail
      go_meet
      case rel => exact ⟨g3, j3, rfl, hv3, by simpa using hg3, hS3, (Chg.refl _ w).drew.trans hC3 (fun _ _ h => h)⟩
  case rest =>
    obtain ⟨g, j, rfl, hv, hg, hS, hC⟩ := hcut
    obtain ⟨gg, cap, cur, rfl, rfl, k1, k2, k3, k4, k5⟩ := id hv
    have hk64 : i % 512 / 8 < (S.get (at_ + i / 512)).length := by rw [hlen]; omega
    obtain ⟨x, hx⟩ : ∃ x, x = (S.get (at_ + i / 512)).getD (i % 512 / 8) 0 := ⟨_, rfl⟩
    have cx : wc.cell? ⟨gg, i % 512 / 8, none⟩ = some (.int .u8 (x.toNat : Int)) := by
      obtain ⟨g', hg', hb⟩ := hv.buf
      obtain rfl : g' = gg := hg'
      have := hb.cells (i % 512 / 8) (u8v x) (by rw [hx]; simp [List.getD, hk64])
      exact this
    have fx : wc.frozen? ⟨gg, i % 512 / 8, none⟩ = false := frozen_of k1 _
    have hx256 := x.toNat_lt
    have hxH : Hid _ := Lib.hid hx
    rw [hlen] at k2 ⊢
    obtain ⟨xn, hxn⟩ : ∃ xn, xn = x.toNat := ⟨_, rfl⟩
    rw [← hxn] at cx hx256
    have hxnH : Hid _ := Lib.hid hxn
    clear hx hk64 hxn
    go_upto_region 5 with fail
    obtain ⟨Y, hY⟩ : ∃ Y : UInt8, Y = UInt8.ofNat (setN xn (i % 8) tb) := ⟨_, rfl⟩
    have hYv : u8v Y = .int .u8 (bits .or .u8 (bits .andNot .u8 (xn : Int) (2 ^ (i % 8) % 256)) (t * 2 ^ (i % 8) % 256)) := by
      obtain ⟨h1, h2⟩ := setN_bits xn (i % 8) hx256 (by omega) tb
      rw [htH.out, h1, hY]
      unfold u8v
      rw [UInt8.toNat_ofNat', Nat.mod_eq_of_lt (by simpa using h2)]
    have hYb : (S.get (at_ + i / 512)).set (i % 512 / 8) Y = setB (S.get (at_ + i / 512)) (i % 512) tb := by
      unfold setB
      rw [hY, hxnH.out, hxH.out, show i % 512 % 8 = i % 8 from by omega]
    have hYvH : Hid _ := Lib.hid hYv
    have hYbH : Hid _ := Lib.hid hYb
    clear hY hYv hYb
    go_cut [] from 31 to 46 (fun wx => wx = (wc.setCell ⟨gg, i % 512 / 8, none⟩ (u8v Y)).drew)
    case first =>
      go_region
      all_goals
        go_wp2_with fail
        go_meet
        case rel => rw [hYvH.out]
    case rest =>
      subst hcut
      have hdat := (hv.setByte (k := i % 512 / 8) (by rw [hlen]; omega) Y)
      rw [hYbH.out] at hdat
      have hCg : Chg (· = gg) wc (wc.setCell ⟨gg, i % 512 / 8, none⟩ (u8v Y)) := (Chg.refl _ wc).own _ _
      have hgF : ∀ k, F k → ¬ k = gg := fun k hk e => by have := h.lt k hk; omega
      have hS2 := hS.chg hCg hgF
      have hs1 := hC.size
      have hC2 : Chg F w (wc.setCell ⟨gg, i % 512 / 8, none⟩ (u8v Y)) := hC.trans hCg (fun k hk e => by omega)
      have hM2 := hM.chg hC2 hpm
      generalize wc.setCell ⟨gg, i % 512 / 8, none⟩ (u8v Y) = W2 at hdat hS2 hC2 hM2 ⊢
      have d0 : W2.cell? ⟨pm, 0, none⟩ = some (Dptr p) := cell_of hM2 0
      have d1 : W2.cell? ⟨pm, 1, none⟩ = some (.int .i64 (at_ : Int)) := cell_of hM2 1
      have hS3 := hS2.below ((Below.refl _ W2).drew.drew)
      have hdat3 : Dat 5 W2.drew.drew (· = gg) (.slice (some ⟨gg, 0, none⟩) 64 cap) (setB (S.get (at_ + i / 512)) (i % 512) tb) := by
        have := hdat.chg (M := fun _ => False) ((Chg.refl _ W2).drew.drew) (fun _ _ h => h)
        rwa [hlen] at this
      have cw := wwrite_any hS3 hdat3.src (IntKind.i64.wrap ((at_ : Int) + IntKind.i64.wrap ((i : Int) / 512)))
      have hwe : (S.cnt j).write (IntKind.i64.wrap ((at_ : Int) + IntKind.i64.wrap ((i : Int) / 512))) (setB (S.get (at_ + i / 512)) (i % 512) tb) = ((S.setBit at_ i tb).1, (S.setBit at_ i tb).2.cnt j) := by
        rw [hidx.out, WalS.cnt_write]
        rfl
      rw [hwe] at cw
      clear hwe hdat hdat3 hS hS2 hv
      go_upto_region 6 with fail
      go_region_with ((go_at_call 33; refine cw.mono ?_; rintro e w3 ⟨rfl, hS4, hC4⟩))
      all_goals
        have hs2 := hC2.size
        go_wp2_with fail
        go_ret
        refine ⟨j, rfl, hS4.mono (fun k hk => ?_) (fun k hk => ?_), hC2.trans ((Chg.refl _ W2).drew.drew.trans hC4 (fun _ _ h => h)) (fun _ _ h => h)⟩
        · rcases hk with hk | hk
          · exact .inl hk
          · exact .inr ⟨Nat.le_trans hs2 hk.1, hk.2⟩
        · rcases hk with hk | hk
          · have h9 : W2.heap.size ≤ w3.heap.size := hC4.size
            have := h.lt k hk
            omega
          · exact hk.2
end
end Go.Proofs.YtjngphffgdjcfaaGreatDoor
/-
  What is taken: Taken, Give, Sectors, New.
-/
namespace Go.Proofs.YtjngphffgdjcfaaGreatDoor
open Go.RowKit Go.Lz
section
variable {w : World} {p q pm : Nat} {S : WalS} {F : Nat → Prop} {at_ n : Nat}

set_option maxRecDepth 100000 in
set_option maxHeartbeats 1000000 in
theorem bit_dead (hM : MapO w pm p at_ n) (h : StoreAt Tryz.prog w p q S F) (hd : S.isDead = true) (i : Int) : Calls Tryz.prog 78 #[Dptr pm, .int .i64 i] w fun e w' => e = .returned (.tuple #[.bool false, .int .i64 50]) ∧ Below w.heap.size w w' := by
  have c0 : w.cell? ⟨pm, 0, none⟩ = some (Dptr p) := cell_of hM 0
  have c1 : w.cell? ⟨pm, 1, none⟩ = some (.int .i64 (at_ : Int)) := cell_of hM 1
  have hD := (h.below (Below.refl _ w).drew)
  go_enter Tryz.func78, Tryz.ntmps78
  go_upto_region 1 with fail
  go_region_with ((go_at_call 32; refine (wread_dead hD hd _).mono ?_; rintro e w3 ⟨rfl, rfl⟩))
  all_goals
    go_wp2_with fail
    go_ret2
    exact ⟨rfl, (Below.refl _ w).drew⟩

set_option maxRecDepth 100000 in
theorem taken_out (hM : MapO w pm p at_ n) {i : Int} (hi : i < 0 ∨ (n : Int) ≤ i) : Calls Tryz.prog 49 #[Dptr pm, .int .i64 i] w fun e w' => e = .returned (.tuple #[.bool false, .int .i64 1]) ∧ w = w' := by
  have c2 : w.cell? ⟨pm, 2, none⟩ = some (.int .i64 (n : Int)) := cell_of hM 2
  by_cases h0 : i < 0
  · clear hi
    go_enter Tryz.func49, Tryz.ntmps49
    go_wp2_with fail
    go_ret2
    exact ⟨rfl, rfl⟩
  · have h1 : (n : Int) ≤ i := by omega
    clear hi
    go_enter Tryz.func49, Tryz.ntmps49
    go_wp2_with fail
    go_ret2
    exact ⟨rfl, rfl⟩

set_option maxRecDepth 100000 in
theorem taken_ok (hM : MapO w pm p at_ n) (h : StoreAt Tryz.prog w p q S F) (hd : S.isDead = false) {i : Nat} (hi : at_ + i / 512 < S.size) (hin : i < n) (hn : n ≤ 8192) : Calls Tryz.prog 49 #[Dptr pm, .int .i64 (i : Int)] w (BitPost w p q S F at_ i) := by
  have c2 : w.cell? ⟨pm, 2, none⟩ = some (.int .i64 (n : Int)) := cell_of hM 2
  have hin' : (i : Int) < (n : Int) := by omega
  have cb := bit_ok hM h hd hi (by omega)
  go_enter Tryz.func49, Tryz.ntmps49
  go_wp2_with fail
  refine cb.mono ?_
  rintro e w1 ⟨j, rfl, hS, hC⟩
  go_wp2_with fail
  go_ret2
  exact ⟨j, rfl, hS, hC⟩

set_option maxRecDepth 100000 in
theorem taken_dead (hM : MapO w pm p at_ n) (h : StoreAt Tryz.prog w p q S F) (hd : S.isDead = true) {i : Int} (h0 : 0 ≤ i) (hin : i < (n : Int)) : Calls Tryz.prog 49 #[Dptr pm, .int .i64 i] w fun e w' => e = .returned (.tuple #[.bool false, .int .i64 50]) ∧ Below w.heap.size w w' := by
  have c2 : w.cell? ⟨pm, 2, none⟩ = some (.int .i64 (n : Int)) := cell_of hM 2
  go_enter Tryz.func49, Tryz.ntmps49
  go_wp2_with fail
  refine (bit_dead hM h hd i).mono ?_
  rintro e w1 ⟨rfl, hB⟩
  go_wp2_with fail
  go_ret2
  exact ⟨rfl, hB⟩

/-- The store is as it was, but for reads. -/
def Same (w : World) (p q : Nat) (S : WalS) (F : Nat → Prop) (v : Value) (e : Ending) (w' : World) : Prop := ∃ j, e = .returned v ∧ StoreAt Tryz.prog w' p q (S.cnt j) (ext F w w') ∧ Chg F w w'

theorem below_same {w' : World} (h : StoreAt Tryz.prog w p q S F) (hB : Below w.heap.size w w') : StoreAt Tryz.prog w' p q (S.cnt 0) (ext F w w') := wat_ext (h.below hB)

set_option maxRecDepth 100000 in
theorem give_out (hM : MapO w pm p at_ n) {i : Int} (hi : i < 0 ∨ (n : Int) ≤ i) : Calls Tryz.prog 108 #[Dptr pm, .int .i64 i] w fun e w' => e = .returned (.int .i64 1) ∧ w = w' := by
  go_enter Tryz.func108, Tryz.ntmps108
  go_wp2_with (go_at_call 49; refine (taken_out hM hi).mono ?_; rintro e w' ⟨rfl, rfl⟩)
  go_ret
  exact ⟨rfl, rfl⟩

set_option maxRecDepth 100000 in
theorem give_dead (hM : MapO w pm p at_ n) (h : StoreAt Tryz.prog w p q S F) (hd : S.isDead = true) {i : Int} (h0 : 0 ≤ i) (hin : i < (n : Int)) : Calls Tryz.prog 108 #[Dptr pm, .int .i64 i] w fun e w' => e = .returned (.int .i64 50) ∧ Below w.heap.size w w' := by
  go_enter Tryz.func108, Tryz.ntmps108
  go_wp2_with fail
  refine (taken_dead hM h hd h0 hin).mono ?_
  rintro e w1 ⟨rfl, hB⟩
  go_wp2_with fail
  go_ret
  exact ⟨rfl, hB⟩

set_option maxRecDepth 100000 in
theorem give_free (hM : MapO w pm p at_ n) (h : StoreAt Tryz.prog w p q S F) (hd : S.isDead = false) {i : Nat} (hi : at_ + i / 512 < S.size) (hin : i < n) (hn : n ≤ 8192) (hb : S.bit at_ i = false) : Calls Tryz.prog 108 #[Dptr pm, .int .i64 (i : Int)] w (Same w p q S F (.int .i64 1)) := by
  have ct := taken_ok hM h hd hi hin hn
  unfold BitPost at ct
  rw [hb] at ct
  go_enter Tryz.func108, Tryz.ntmps108
  go_wp2_with fail
  refine ct.mono ?_
  rintro e w1 ⟨j, rfl, hS, hC⟩
  go_wp2_with fail
  go_ret
  exact ⟨j, rfl, wat_ext hS, hC⟩

theorem _root_.Go.Lz.WalS.cnt_setBit (S : WalS) (j at_ i : Nat) (tb : Bool) : (S.cnt j).setBit at_ i tb = ((S.setBit at_ i tb).1, (S.setBit at_ i tb).2.cnt j) := by
  unfold WalS.setBit
  rw [WalS.cnt_get, WalS.cnt_write]

set_option maxRecDepth 100000 in
theorem give_ok (hM : MapO w pm p at_ n) (hpm : ¬ F pm) (h : StoreAt Tryz.prog w p q S F) (hd : S.isDead = false) {i : Nat} (hi : at_ + i / 512 < S.size) (hin : i < n) (hn : n ≤ 8192) (hb : S.bit at_ i = true) : Calls Tryz.prog 108 #[Dptr pm, .int .i64 (i : Int)] w (SetPost w p q S F at_ i false) := by
  have ct := taken_ok hM h hd hi hin hn
  unfold BitPost at ct
  rw [hb] at ct
  go_enter Tryz.func108, Tryz.ntmps108
  go_wp2_with fail
  refine ct.mono ?_
  rintro e w1 ⟨j, rfl, hS, hC⟩
  have cs := set_ok (tb := false) (hM.chg hC hpm) hpm hS (by simpa using hd) (i := i) (by simpa using hi) (by omega)
  unfold SetPost at cs
  rw [WalS.cnt_setBit] at cs
  go_wp2_with fail
  refine cs.mono ?_
  rintro e w2 ⟨j2, rfl, hS2, hC2⟩
  have hs1 := hC.size
  go_wp2_with fail
  go_ret
  rw [WalS.cnt_cnt] at hS2
  refine ⟨j + j2, rfl, hS2.mono (fun k hk => hk.imp id fun h => ⟨Nat.le_trans hs1 h.1, h.2⟩) (fun k hk => hk.elim (fun h9 => ?_) (·.2)), hC.trans hC2 (fun _ _ h => h)⟩
  have := h.lt k h9
  have := hC2.size
  omega

/-- How many sectors so many items need. -/
def _root_.Go.Lz.sectorsOf (n : Nat) : Nat := (n + 511) / 512

set_option maxRecDepth 100000 in
theorem sectors_any (w : World) (n : Int) (hn : n ≤ 1000000) : Calls Tryz.prog 83 #[.int .i64 n] w fun e w' => e = .returned (.int .i64 (sectorsOf n.toNat : Int)) ∧ w = w' := by
  have e : ((sectorsOf n.toNat : Nat) : Int) = (max n 0 + 511) / 512 := by unfold sectorsOf; omega
  rw [e]
  have h0 : 0 ≤ max n 0 := by omega
  have h1 : max n 0 ≤ 1000000 := by omega
  go_enter Tryz.func83, Tryz.ntmps83
  go_wp2_with fail
  go_ret
  exact ⟨by show Ending.returned (.int .i64 ((max n 0 + 512 - 1) / 512)) = _; rw [show max n 0 + 512 - 1 = max n 0 + 511 from by omega], rfl⟩

/-- A map may be made here. -/
def _root_.Go.Lz.mapFits (size : Nat) (at_ n : Int) : Bool := decide (1 ≤ n ∧ n ≤ 8192 ∧ 0 ≤ at_ ∧ at_ ≤ (size : Int) - (sectorsOf n.toNat : Int))

theorem anew_nil (w : World) (at_ n : Int) : Calls Tryz.prog 53 #[.pointer none, .int .i64 at_, .int .i64 n] w fun e w' => e = .returned (.tuple #[.pointer none, .int .i64 1]) ∧ w = w' := by
  go_enter Tryz.func53, Tryz.ntmps53
  go_wp2
  go_ret2
  exact ⟨rfl, rfl⟩

/-- A new map, or none. -/
def NewMap (w : World) (p : Nat) (ok : Bool) (at_ n : Int) (e : Ending) (w' : World) : Prop :=
  (ok = true ∧ e = .returned (.tuple #[Dptr w.heap.size, .int .i64 0]) ∧ w' = w.alloc (.cells #[Dptr p, .int .i64 at_, .int .i64 n] 117)) ∨
  (ok = false ∧ e = .returned (.tuple #[.pointer none, .int .i64 1]) ∧ w' = w)

set_option maxRecDepth 100000 in
set_option maxHeartbeats 1000000 in
theorem anew_any (h : StoreAt Tryz.prog w p q S F) (at_ n : Int) : Calls Tryz.prog 53 #[Dptr p, .int .i64 at_, .int .i64 n] w (NewMap w p (mapFits S.size at_ n) at_ n) := by
  have cs : Calls Tryz.prog 52 #[Dptr p] w fun e w' => e = .returned (.int .i64 (S.size : Int)) ∧ w = w' := by
    obtain ⟨Fd, Fs, mn, mw, vn, vw, cn, cw, h, _⟩ := h
    exact wsize_any h
  have hsz : S.size ≤ 8192 := by
    have := h.dev.ok.n
    unfold WalS.size
    omega
  by_cases h1 : n < 1
  · have hf : mapFits S.size at_ n = false := decide_eq_false (by omega)
    rw [hf]
    clear hf
    go_enter Tryz.func53, Tryz.ntmps53
    go_wp2_with fail
    go_ret2
    exact .inr ⟨rfl, rfl, rfl⟩
  by_cases h2 : 8192 < n
  · have hf : mapFits S.size at_ n = false := decide_eq_false (by omega)
    rw [hf]
    clear hf
    go_enter Tryz.func53, Tryz.ntmps53
    go_wp2_with fail
    go_ret2
    exact .inr ⟨rfl, rfl, rfl⟩
  by_cases h3 : at_ < 0
  · have hf : mapFits S.size at_ n = false := decide_eq_false (by omega)
    rw [hf]
    clear hf
    go_enter Tryz.func53, Tryz.ntmps53
    go_wp2_with fail
    go_ret2
    exact .inr ⟨rfl, rfl, rfl⟩
  have ct := sectors_any w n (by omega)
  obtain ⟨k, hk⟩ : ∃ k, k = sectorsOf n.toNat := ⟨_, rfl⟩
  have hk17 : k ≤ 16 := by rw [hk]; unfold sectorsOf; omega
  rw [← hk] at ct
  have hkH : Hid _ := Lib.hid hk
  clear hk
  by_cases h4 : (S.size : Int) - (k : Int) < at_
  · have hf : mapFits S.size at_ n = false := decide_eq_false (by rw [← hkH.out]; omega)
    rw [hf]
    clear hf
    go_enter Tryz.func53, Tryz.ntmps53
    go_wp2_with (first
      | (go_at_call 52; refine cs.mono ?_; rintro e w' ⟨rfl, rfl⟩)
      | (go_at_call 83; refine ct.mono ?_; rintro e w' ⟨rfl, rfl⟩))
    go_ret2
    exact .inr ⟨rfl, rfl, rfl⟩
  · have hf : mapFits S.size at_ n = true := decide_eq_true (by rw [← hkH.out]; omega)
    rw [hf]
    clear hf
    go_enter Tryz.func53, Tryz.ntmps53
    go_wp2_with (first
      | (go_at_call 52; refine cs.mono ?_; rintro e w' ⟨rfl, rfl⟩)
      | (go_at_call 83; refine ct.mono ?_; rintro e w' ⟨rfl, rfl⟩))
    go_ret2
    exact .inl ⟨rfl, rfl, rfl⟩
end
end Go.Proofs.YtjngphffgdjcfaaGreatDoor
/-
  What is taken: Take, Count.
-/
namespace Go.Proofs.YtjngphffgdjcfaaGreatDoor
open Go.RowKit Go.Lz
section
variable {w : World} {p q pm : Nat} {S : WalS} {F : Nat → Prop} {at_ n : Nat}

theorem idx_eq {at_ i : Nat} (h : at_ + i / 512 ≤ 1000000) : IntKind.i64.wrap ((at_ : Int) + IntKind.i64.wrap ((i : Int) / 512)) = ((at_ + i / 512 : Nat) : Int) := by
  have e : (i : Int) / 512 = ((i / 512 : Nat) : Int) := by omega
  rw [e]
  generalize i / 512 = k at h
  rw [IntKind.wrap_i64, IntKind.wrap_i64]
  omega

/-- What Take answers: the least item that is free, set; or none. -/
def TakePost (w : World) (p q : Nat) (S : WalS) (F : Nat → Prop) (at_ n : Nat) (e : Ending) (w' : World) : Prop :=
  ((∀ i, i < n → S.bit at_ i = true) ∧ Same w p q S F (.tuple #[.int .i64 0, .int .i64 60]) e w') ∨
  (∃ i, i < n ∧ S.bit at_ i = false ∧ (∀ k, k < i → S.bit at_ k = true) ∧ ∃ j, e = .returned (if (S.setBit at_ i true).1 = 0 then .tuple #[.int .i64 (i : Int), .int .i64 0] else .tuple #[.int .i64 0, .int .i64 (S.setBit at_ i true).1]) ∧ StoreAt Tryz.prog w' p q ((S.setBit at_ i true).2.cnt j) (ext F w w') ∧ Chg F w w')

set_option maxRecDepth 100000 in
theorem take_dead (hM : MapO w pm p at_ n) (h : StoreAt Tryz.prog w p q S F) (hd : S.isDead = true) (hn : 0 < n) (hn2 : n ≤ 8192) : Calls Tryz.prog 23 #[Dptr pm] w fun e w' => e = .returned (.tuple #[.int .i64 0, .int .i64 50]) ∧ Below w.heap.size w w' := by
  have c0 : w.cell? ⟨pm, 0, none⟩ = some (Dptr p) := cell_of hM 0
  have c1 : w.cell? ⟨pm, 1, none⟩ = some (.int .i64 (at_ : Int)) := cell_of hM 1
  have c2 : w.cell? ⟨pm, 2, none⟩ = some (.int .i64 (n : Int)) := cell_of hM 2
  have hD := (h.below (Below.refl _ w).drew)
  have hn' : (0 : Int) < (n : Int) := by omega
  go_enter Tryz.func23, Tryz.ntmps23
  go_wp2_with fail
  go_loopg [13] 0 (fun _ iv wr => iv = .int .i64 0 ∧ wr = w)
  case atStart => exact ⟨rfl, rfl⟩
  case round =>
    obtain ⟨rfl, rfl⟩ := hrel
    go_wp2_with fail
    go_region_with ((go_at_call 32; refine (wread_dead hD hd _).mono ?_; rintro e w3 ⟨rfl, rfl⟩))
    all_goals
      go_wp2_with fail
      go_ret2
      exact ⟨rfl, (Below.refl _ _).drew⟩

set_option maxRecDepth 100000 in
set_option maxHeartbeats 2000000 in
theorem take_ok (hM : MapO w pm p at_ n) (hpm : ¬ F pm) (h : StoreAt Tryz.prog w p q S F) (hd : S.isDead = false) (hn : n ≤ 8192) (hsz : at_ + sectorsOf n ≤ S.size) : Calls Tryz.prog 23 #[Dptr pm] w (TakePost w p q S F at_ n) := by
  have c0 : w.cell? ⟨pm, 0, none⟩ = some (Dptr p) := cell_of hM 0
  have c1 : w.cell? ⟨pm, 1, none⟩ = some (.int .i64 (at_ : Int)) := cell_of hM 1
  have c2 : w.cell? ⟨pm, 2, none⟩ = some (.int .i64 (n : Int)) := cell_of hM 2
  have hs8 : S.size ≤ 8192 := by
    have := h.dev.ok.n
    unfold WalS.size
    omega
  have hpl := lt_of_heap hM
  have hlt := h.lt
  have hlen : ∀ k, (S.get k).length = 64 := fun k => h.ok.get_len h.dev.ok k
  have hlenH : Hid _ := Lib.hid hlen
  have hsec : ∀ i, i < n → at_ + i / 512 < S.size := fun i hi => by unfold sectorsOf at hsz; omega
  have hsecH : Hid _ := Lib.hid hsec
  clear hlen hsec hsz
  go_enter Tryz.func23, Tryz.ntmps23
  go_wp2_with fail
  go_loopg [4, 5, 6, 7, 13] n (fun g bv _ _ _ iv wr => ∃ (i j : Nat), i + g = n ∧ iv = .int .i64 (i : Int) ∧ (∀ k, k < i → S.bit at_ k = true) ∧ (i % 512 ≠ 0 → ∃ gb, Dat 5 wr (· = gb) bv (S.get (at_ + i / 512)) ∧ w.heap.size ≤ gb) ∧ StoreAt Tryz.prog wr p q (S.cnt j) F ∧ Chg F w wr)
  case atStart => exact ⟨0, 0, by omega, rfl, fun k hk => by omega, fun h => absurd rfl h, h, Chg.refl _ _⟩
  case round =>
    obtain ⟨i, j, hid, rfl, hall, hb, hS, hC⟩ := hrel
    have hid' : Hid (i + gk = n) := hid
    have hsr := hC.size
    have hMr := hM.chg hC hpm
    have d0 : wr.cell? ⟨pm, 0, none⟩ = some (Dptr p) := cell_of hMr 0
    have d1 : wr.cell? ⟨pm, 1, none⟩ = some (.int .i64 (at_ : Int)) := cell_of hMr 1
    by_cases hi : i < n
    · have hi' : (i : Int) < (n : Int) := by omega
      have hi8 : i < 8192 := by omega
      have hallH : Hid _ := Lib.hid hall
      have hbH : Hid _ := Lib.hid hb
      clear hid hall hb
      have hD := hS.below (Below.refl _ wr).drew
      have hb3 := hsecH.out i hi
      have cr := wread_ok hD (i := IntKind.i64.wrap ((at_ : Int) + IntKind.i64.wrap ((i : Int) / 512))) (k := at_ + i / 512) (idx_eq (by omega)) (by simpa using hd) (by simpa using hsecH.out i hi)
      rw [WalS.cnt_get] at cr
      go_upto_if 18 with fail
      obtain ⟨b18, hb18⟩ : ∃ b18, b18 = ((i : Int) % 512 == 0) := ⟨_, rfl⟩
      rw [← hb18]
      have hb18H : Hid _ := Lib.hid hb18
      clear hb18 hb3
      go_cut [4, 6, 7] from 19 to 37 (fun v _ _ wx => ∃ gb j', Dat 5 wx (· = gb) v (S.get (at_ + i / 512)) ∧ w.heap.size ≤ gb ∧ StoreAt Tryz.prog wx p q (S.cnt j') F ∧ Chg F w wx)
      case first =>
        cases b18 with
        | true =>
          go_wp2_with fail
          go_region_with ((go_at_call 32; refine cr.mono ?_; rintro e w3 ⟨v3, g3, j3, rfl, hv3, hg3, hS3, hC3⟩))
          all_goals
            go_wp2_with fail
            go_meet
            case rel => exact ⟨g3, j + j3, hv3, Nat.le_trans hsr hg3, by rw [WalS.cnt_cnt] at hS3; exact hS3, hC.trans ((Chg.refl _ wr).drew.trans hC3 (fun _ _ h => h)) (fun _ _ h => h)⟩
        | false =>
          obtain ⟨gb, hb1, hb2⟩ := hbH.out (fun hm => by
            have h9 := hb18H.out
            rw [show (i : Int) % 512 = 0 from by omega] at h9
            cases h9)
          go_wp2_with fail
          go_meet
          case rel => exact ⟨gb, j, hb1, hb2, hS, hC⟩
      case rest =>
        obtain ⟨gb, j', hv, hgb, hS2, hC2⟩ := hcut
        obtain ⟨gg, cap, cur, rfl, rfl, k1, k2, k3, k4, k5⟩ := id hv
        have hl := hlenH.out (at_ + i / 512)
        have hk64 : i % 512 / 8 < (S.get (at_ + i / 512)).length := by rw [hl]; omega
        obtain ⟨x, hx⟩ : ∃ x, x = (S.get (at_ + i / 512)).getD (i % 512 / 8) 0 := ⟨_, rfl⟩
        have cx : wc.cell? ⟨gg, i % 512 / 8, none⟩ = some (.int .u8 (x.toNat : Int)) := by
          obtain ⟨g', hg', hb⟩ := hv.buf
          obtain rfl : g' = gg := hg'
          exact hb.cells (i % 512 / 8) (u8v x) (by rw [hx]; simp [List.getD, hk64])
        have hx256 := x.toNat_lt
        have hbit : S.bit at_ i = (x.toNat / 2 ^ (i % 8) % 2 == 1) := by
          unfold WalS.bit bitB
          rw [show i % 512 % 8 = i % 8 from by omega, ← hx]
        have hb2 := and1_div x.toNat (i % 8) hx256
        obtain ⟨xn, hxn⟩ : ∃ xn, xn = x.toNat := ⟨_, rfl⟩
        rw [← hxn] at cx hx256 hbit hb2
        rw [hl] at k2 ⊢
        have hvH : Hid (Dat 5 wc (· = gg) (.slice (some ⟨gg, 0, none⟩) (S.get (at_ + i / 512)).length cap) (S.get (at_ + i / 512))) := hv
        have hlH : Hid _ := Lib.hid hl
        have hMc := hM.chg hC2 hpm
        clear hx hk64 hxn hv k5 hl hD cr hbH hS hC d0 d1 hMr hsr
        cases hbt : S.bit at_ i with
        | true =>
          have h1 : xn / 2 ^ (i % 8) % 2 = 1 := by rw [hbt] at hbit; simpa using hbit.symm
          rw [h1] at hb2
          have hbtH : Hid _ := Lib.hid hbt
          clear hbit h1 hbt
          go_wp2_with fail
          go_roundg (gk - 1)
          case measure => have := hid'.out; omega
          case rel =>
            refine ⟨i + 1, j', by have := hid'.out; omega, by go_num, fun k hk => ?_, fun hne => ⟨gg, ?_, hgb⟩, hS2, hC2⟩
            · by_cases e : k = i
              · subst e; exact hbtH.out
              · exact hallH.out k (by omega)
            · rw [show (i + 1) / 512 = i / 512 from by omega]
              have := hvH.out
              rw [hlH.out] at this
              exact this
        | false =>
          have h1 : xn / 2 ^ (i % 8) % 2 = 0 := by
            rw [hbt] at hbit
            have : ¬ xn / 2 ^ (i % 8) % 2 = 1 := fun h => by rw [h] at hbit; cases hbit
            omega
          rw [h1] at hb2
          have hbtH : Hid _ := Lib.hid hbt
          have cs := set_ok (tb := true) hMc hpm hS2 (by simpa using hd) (i := i) (by simpa using hsecH.out i hi) hi8
          unfold SetPost at cs
          rw [WalS.cnt_setBit] at cs
          have hsc := hC2.size
          have hin := hi
          obtain ⟨r, hr⟩ : ∃ r, r = S.setBit at_ i true := ⟨_, rfl⟩
          rw [← hr] at cs
          have hrH : Hid _ := Lib.hid hr
          clear hbit h1 hbt hr
          go_wp2_with fail
          refine cs.mono ?_
          rintro e w2 ⟨j2, rfl, hS3, hC3⟩
          rw [WalS.cnt_cnt] at hS3
          have hS4 : StoreAt Tryz.prog w2 p q (r.2.cnt (j' + j2)) (ext F w w2) := hS3.mono (fun k hk => hk.imp id fun h => ⟨Nat.le_trans hsc h.1, h.2⟩) (fun k hk => hk.elim (fun h9 => by have := hlt k h9; have := hC3.size; omega) (·.2))
          have hC4 : Chg F w w2 := hC2.trans hC3 (fun _ _ h => h)
          clear cs hS3 hC3
          by_cases hr0 : r.1 = 0
          · rw [hr0]
            have hr0H : Hid _ := Lib.hid hr0
            clear hr0
            go_wp2_with fail
            go_ret2
            refine .inr ⟨i, hin, hbtH.out, hallH.out, j' + j2, ?_, by rw [← hrH.out]; exact hS4, hC4⟩
            rw [← hrH.out, if_pos hr0H.out]
            rfl
          · have hr1 : (r.1 != 0) = true := by simpa using hr0
            go_wp2_with fail
            go_ret2
            refine .inr ⟨i, hin, hbtH.out, hallH.out, j' + j2, ?_, by rw [← hrH.out]; exact hS4, hC4⟩
            rw [← hrH.out, if_neg hr0]
            rfl
    · obtain rfl : i = n := by omega
      have hallH : Hid _ := Lib.hid hall
      clear hid hall hb
      go_wp2_with fail
      go_ret2
      exact .inl ⟨hallH.out, j, rfl, wat_ext hS, hC⟩

/-- How many of the first m items are taken. -/
def _root_.Go.Lz.WalS.countB (S : WalS) (at_ m : Nat) : Nat := ((List.range m).filter fun i => S.bit at_ i).length
theorem _root_.Go.Lz.WalS.countB_succ (S : WalS) (at_ m : Nat) : S.countB at_ (m + 1) = S.countB at_ m + (if S.bit at_ m then 1 else 0) := by
  unfold WalS.countB
  rw [List.range_succ, List.filter_append, List.length_append]
  congr 1
  by_cases h : S.bit at_ m = true <;> simp [h]
theorem _root_.Go.Lz.WalS.countB_le (S : WalS) (at_ m : Nat) : S.countB at_ m ≤ m := by
  have := List.length_filter_le (fun i => S.bit at_ i) (List.range m)
  rwa [List.length_range] at this

set_option maxRecDepth 100000 in
theorem count_dead (hM : MapO w pm p at_ n) (h : StoreAt Tryz.prog w p q S F) (hd : S.isDead = true) (hn : 0 < n) : Calls Tryz.prog 89 #[Dptr pm] w fun e w' => e = .returned (.tuple #[.int .i64 0, .int .i64 50]) ∧ Below w.heap.size w w' := by
  have c0 : w.cell? ⟨pm, 0, none⟩ = some (Dptr p) := cell_of hM 0
  have c1 : w.cell? ⟨pm, 1, none⟩ = some (.int .i64 (at_ : Int)) := cell_of hM 1
  have c2 : w.cell? ⟨pm, 2, none⟩ = some (.int .i64 (n : Int)) := cell_of hM 2
  have hD := (h.below (Below.refl _ w).drew)
  have hn' : (0 : Int) < (n : Int) := by omega
  go_enter Tryz.func89, Tryz.ntmps89
  go_wp2_with fail
  go_loopg [5] 0 (fun _ iv wr => iv = .int .i64 0 ∧ wr = w)
  case atStart => exact ⟨rfl, rfl⟩
  case round =>
    obtain ⟨rfl, rfl⟩ := hrel
    go_wp2_with fail
    go_region_with ((go_at_call 32; refine (wread_dead hD hd _).mono ?_; rintro e w3 ⟨rfl, rfl⟩))
    all_goals
      go_wp2_with fail
      go_ret2
      exact ⟨rfl, (Below.refl _ _).drew⟩

set_option maxRecDepth 100000 in
set_option maxHeartbeats 2000000 in
theorem count_ok (hM : MapO w pm p at_ n) (hpm : ¬ F pm) (h : StoreAt Tryz.prog w p q S F) (hd : S.isDead = false) (hn : n ≤ 8192) (hsz : at_ + sectorsOf n ≤ S.size) : Calls Tryz.prog 89 #[Dptr pm] w (Same w p q S F (.tuple #[.int .i64 (S.countB at_ n : Int), .int .i64 0])) := by
  have c0 : w.cell? ⟨pm, 0, none⟩ = some (Dptr p) := cell_of hM 0
  have c1 : w.cell? ⟨pm, 1, none⟩ = some (.int .i64 (at_ : Int)) := cell_of hM 1
  have c2 : w.cell? ⟨pm, 2, none⟩ = some (.int .i64 (n : Int)) := cell_of hM 2
  have hs8 : S.size ≤ 8192 := by
    have := h.dev.ok.n
    unfold WalS.size
    omega
  have hpl := lt_of_heap hM
  have hlt := h.lt
  have hlen : ∀ k, (S.get k).length = 64 := fun k => h.ok.get_len h.dev.ok k
  have hlenH : Hid _ := Lib.hid hlen
  have hsec : ∀ i, i < n → at_ + i / 512 < S.size := fun i hi => by unfold sectorsOf at hsz; omega
  have hsecH : Hid _ := Lib.hid hsec
  clear hlen hsec hsz
  go_enter Tryz.func89, Tryz.ntmps89
  go_wp2_with fail
  go_loopg [4, 5, 6, 7, 8] ((n + 511) / 512) (fun g cv iv _ _ _ wr => ∃ (t j : Nat), t + g = (n + 511) / 512 ∧ iv = .int .i64 ((512 * t : Nat) : Int) ∧ cv = .int .i64 (S.countB at_ (min n (512 * t)) : Int) ∧ StoreAt Tryz.prog wr p q (S.cnt j) F ∧ Chg F w wr)
  case atStart => exact ⟨0, 0, by omega, rfl, by simp [WalS.countB], h, Chg.refl _ _⟩
  case round =>
    obtain ⟨t, j, htd, rfl, rfl, hS, hC⟩ := hrel
    obtain ⟨wo, rfl⟩ : ∃ wo : World, wo = wr := ⟨_, rfl⟩
    have htd' : Hid (t + gk = (n + 511) / 512) := htd
    have hMr := hM.chg hC hpm
    have d0 : wo.cell? ⟨pm, 0, none⟩ = some (Dptr p) := cell_of hMr 0
    have d1 : wo.cell? ⟨pm, 1, none⟩ = some (.int .i64 (at_ : Int)) := cell_of hMr 1
    have d2 : wo.cell? ⟨pm, 2, none⟩ = some (.int .i64 (n : Int)) := cell_of hMr 2
    have hsr := hC.size
    obtain ⟨i, hi⟩ : ∃ i, i = 512 * t := ⟨_, rfl⟩
    rw [← hi]
    have hiH : Hid _ := Lib.hid hi
    by_cases hin : i < n
    · have hin' : (i : Int) < (n : Int) := by omega
      have hi8 : i < 8192 := by omega
      have hb3 := hsecH.out i hin
      have hD := hS.below (Below.refl _ wo).drew
      have cr := wread_ok hD (i := IntKind.i64.wrap ((at_ : Int) + IntKind.i64.wrap ((i : Int) / 512))) (k := at_ + i / 512) (idx_eq (by omega)) (by simpa using hd) (by simpa using hb3)
      rw [WalS.cnt_get] at cr
      have hcl := S.countB_le at_ (min n i)
      obtain ⟨c, hc⟩ : ∃ c, c = S.countB at_ (min n i) := ⟨_, rfl⟩
      rw [← hc]
      have hcH : Hid _ := Lib.hid hc
      clear htd hi hb3 hc
      go_upto_region 5 with fail
      go_cut [6, 7, 17] from 18 to 31 (fun v ev _ wx => ev = .int .i64 0 ∧ ∃ gb j', Dat 5 wx (· = gb) v (S.get (at_ + i / 512)) ∧ w.heap.size ≤ gb ∧ StoreAt Tryz.prog wx p q (S.cnt j') F ∧ Chg F w wx)
      case first =>
        go_region_with ((go_at_call 32; refine cr.mono ?_; rintro e w3 ⟨v3, g3, j3, rfl, hv3, hg3, hS3, hC3⟩))
        all_goals
          go_wp2_with fail
          go_meet
          case rel => exact ⟨rfl, g3, j + j3, hv3, Nat.le_trans hsr hg3, by rw [WalS.cnt_cnt] at hS3; exact hS3, hC.trans ((Chg.refl _ wo).drew.trans hC3 (fun _ _ h => h)) (fun _ _ h => h)⟩
      case rest =>
        obtain ⟨rfl, gb, j', hv, hgb, hS2, hC2⟩ := hcut
        obtain ⟨gg, cap, cur, rfl, rfl, k1, k2, k3, k4, k5⟩ := id hv
        have hl := hlenH.out (at_ + i / 512)
        have hMc := hM.chg hC2 hpm
        have e2 : wc.cell? ⟨pm, 2, none⟩ = some (.int .i64 (n : Int)) := cell_of hMc 2
        rw [hl] at k2 ⊢
        have hlH : Hid _ := Lib.hid hl
        obtain ⟨M, hM'⟩ : ∃ M, M = min n (i + 512) := ⟨_, rfl⟩
        have hMI : min (n : Int) ((i : Int) + 512) = (M : Int) := by omega
        have hM8 : M ≤ 8704 := by omega
        have hiM : i ≤ M := by omega
        have hMi : M ≤ i + 512 := by omega
        have hMn : M ≤ n := by omega
        have hMH : Hid _ := Lib.hid hM'
        have hvH : Hid (Dat 5 wc (· = gg) (.slice (some ⟨gg, 0, none⟩) (S.get (at_ + i / 512)).length cap) (S.get (at_ + i / 512))) := hv
        clear hl k5 hv hM' hMc hMr hD cr d0 d1 d2 hS hC
        obtain ⟨g0, rfl⟩ : ∃ g0 : Nat, g0 = gk := ⟨_, rfl⟩
        go_wp2_with fail
        go_loopg [4, 8] (M - i) (fun g cv kv wx => ∃ k : Nat, k + g = M ∧ i ≤ k ∧ wx = wc ∧ kv = .int .i64 (k : Int) ∧ cv = .int .i64 (S.countB at_ k : Int))
        case atStart => exact ⟨i, by omega, Nat.le_refl _, rfl, rfl, by rw [hcH.out, show min n i = i from by omega]⟩
        case round =>
          obtain ⟨k, hkd, hik, rfl, rfl, rfl⟩ := hrel
          have hkd' : Hid (k + gk = M) := hkd
          have hckl := S.countB_le at_ k
          by_cases hk : k < M
          · have hk' : (k : Int) < (M : Int) := by omega
            have hlk := hlH.out
            have hq : k / 512 = i / 512 := by have := hiH.out; omega
            have hk64 : k % 512 / 8 < (S.get (at_ + i / 512)).length := by rw [hlk]; omega
            obtain ⟨x, hx⟩ : ∃ x, x = (S.get (at_ + i / 512)).getD (k % 512 / 8) 0 := ⟨_, rfl⟩
            have cx : wr.cell? ⟨gg, k % 512 / 8, none⟩ = some (.int .u8 (x.toNat : Int)) := by
              obtain ⟨g', hg', hb⟩ := hvH.out.buf
              obtain rfl : g' = gg := hg'
              exact hb.cells (k % 512 / 8) (u8v x) (by rw [hx]; simp [List.getD, hk64])
            have hx256 := x.toNat_lt
            have hbit : S.bit at_ k = (x.toNat / 2 ^ (k % 8) % 2 == 1) := by
              unfold WalS.bit bitB
              rw [show k % 512 % 8 = k % 8 from by omega, hq, ← hx]
            have hb2 := and1_div x.toNat (k % 8) hx256
            obtain ⟨xn, hxn⟩ : ∃ xn, xn = x.toNat := ⟨_, rfl⟩
            rw [← hxn] at cx hx256 hbit hb2
            have hsucc := S.countB_succ at_ k
            obtain ⟨y, hy⟩ : ∃ y, y = xn / 2 ^ (k % 8) % 2 := ⟨_, rfl⟩
            have hy2 : y < 2 := by omega
            rw [← hy] at hb2 hbit
            have hyb : S.countB at_ (k + 1) = S.countB at_ k + y := by
              rw [hsucc, hbit]
              have : y = 0 ∨ y = 1 := by omega
              rcases this with h | h <;> simp [h]
            have hybH : Hid _ := Lib.hid hyb
            generalize S.countB at_ k = c0' at hckl hybH ⊢
            clear hx hk64 hxn hkd hlk hq hsucc hbit hy hyb
            go_wp2_with fail
            go_roundg (gk - 1)
            case measure => have := hkd'.out; omega
            case rel => exact ⟨k + 1, by have := hkd'.out; omega, by omega, rfl, by go_num, by rw [hybH.out]; go_num⟩
          · obtain rfl : k = M := by omega
            clear hkd
            go_wp2_with fail
            go_roundg (g0 - 1)
            case measure => have := htd'.out; have := hiH.out; omega
            case rel =>
              exact ⟨t + 1, j', by have := htd'.out; have := hiH.out; omega, by have := hiH.out; rw [this]; go_num, by rw [hMH.out, hiH.out, show min n (512 * t + 512) = min n (512 * (t + 1)) from by omega], hS2, hC2⟩
    · have hin' : ¬ (i : Int) < (n : Int) := by omega
      have hE : min n i = n := by omega
      rw [hE]
      clear htd hi hE
      go_wp2_with fail
      go_ret2
      exact ⟨j, rfl, wat_ext hS, hC⟩
end
end Go.Proofs.YtjngphffgdjcfaaGreatDoor
/-
  A store, its device's count of calls forgotten.
-/
namespace Go.Lz
open Go.RowKit

/-- The same store, its device told other calls. -/
def WalS.wc (S : WalS) (c : Int) : WalS := { S with dev := { S.dev with calls := c } }
section
variable (S : WalS) (c c' : Int)
@[simp] theorem WalS.wc_wc : (S.wc c).wc c' = S.wc c' := rfl
theorem WalS.wc_self : S.wc S.dev.calls = S := rfl
@[simp] theorem WalS.wc_get (k : Nat) : (S.wc c).get k = S.get k := rfl
@[simp] theorem WalS.wc_size : (S.wc c).size = S.size := rfl
@[simp] theorem WalS.wc_isDead : (S.wc c).isDead = S.isDead := rfl
@[simp] theorem WalS.wc_wrong (i : Int) : (S.wc c).wrong i = S.wrong i := rfl
@[simp] theorem WalS.wc_nowN : (S.wc c).nowN = S.nowN := rfl
@[simp] theorem WalS.wc_bit (a i : Nat) : (S.wc c).bit a i = S.bit a i := rfl
@[simp] theorem WalS.wc_countB (a m : Nat) : (S.wc c).countB a m = S.countB a m := rfl
theorem WalS.wc_write (i : Int) (b : Bytes) : (S.wc c).write i b = ((S.write i b).1, (S.write i b).2.wc c) := by
  unfold WalS.write
  rw [WalS.wc_wrong, WalS.wc_nowN]
  have e : (S.wc c).now = S.now := rfl
  rw [e]
  split
  · rfl
  · split
    · rfl
    · split <;> rfl
theorem WalS.wc_setBit (a i : Nat) (tb : Bool) : (S.wc c).setBit a i tb = ((S.setBit a i tb).1, (S.setBit a i tb).2.wc c) := by
  unfold WalS.setBit
  rw [WalS.wc_get, WalS.wc_write]
theorem WalS.cnt_wc (j : Nat) : ∃ c, S.cnt j = S.wc c := by
  induction j with
  | zero => exact ⟨_, (S.wc_self).symm⟩
  | succ j ih =>
    obtain ⟨c, hc⟩ := ih
    refine ⟨wrap64 (c + 1), ?_⟩
    have e : S.cnt (j + 1) = { (S.cnt j) with dev := (S.cnt j).dev.counted } := rfl
    rw [e, hc]
    rfl
end

/-- Block p is the store S over the device q, whatever the device counted. -/
def StoreC (P : Program) (w : World) (p q : Nat) (S : WalS) (F : Nat → Prop) : Prop := ∃ c, StoreAt P w p q (S.wc c) F
section
variable {P : Program} {w w' : World} {p q : Nat} {S : WalS} {F F' : Nat → Prop}
theorem StoreAt.toC (h : StoreAt P w p q S F) : StoreC P w p q S F := ⟨S.dev.calls, h⟩
theorem StoreAt.cntC {j : Nat} (h : StoreAt P w p q (S.cnt j) F) : StoreC P w p q S F := by
  obtain ⟨c, hc⟩ := S.cnt_wc j
  exact ⟨c, hc ▸ h⟩
theorem StoreAt.wcC {c : Int} {j : Nat} (h : StoreAt P w p q ((S.wc c).cnt j) F) : StoreC P w p q S F := by
  obtain ⟨c', hc⟩ := (S.wc c).cnt_wc j
  rw [hc] at h
  exact ⟨c', h⟩
theorem StoreC.chg {M : Nat → Prop} (h : StoreC P w p q S F) (hc : Chg M w w') (hM : ∀ k, F k → ¬ M k) : StoreC P w' p q S F := by
  obtain ⟨c, h⟩ := h
  exact ⟨c, h.chg hc hM⟩
theorem StoreC.below (h : StoreC P w p q S F) (hb : Below w.heap.size w w') : StoreC P w' p q S F := by
  obtain ⟨c, h⟩ := h
  exact ⟨c, h.below hb⟩
theorem StoreC.lt (h : StoreC P w p q S F) : ∀ k, F k → k < w.heap.size := by
  obtain ⟨c, h⟩ := h
  exact h.lt
theorem StoreC.mono (h : StoreC P w p q S F) (hF : ∀ k, F k → F' k) (hl : ∀ k, F' k → k < w.heap.size) : StoreC P w p q S F' := by
  obtain ⟨c, h⟩ := h
  exact ⟨c, h.mono hF hl⟩
theorem StoreC.ext (h : StoreC P w' p q S F) : StoreC P w' p q S (ext F w w') := h.mono (fun _ hj => .inl hj) fun j hj => hj.elim (h.lt j) (·.2)
theorem StoreC.size_le (h : StoreC P w p q S F) : S.size ≤ 7892 := by
  obtain ⟨c, h⟩ := h
  have h1 := h.dev.ok.n
  have h2 : (S.wc c).dev.n = S.dev.n := rfl
  rw [h2] at h1
  unfold WalS.size
  omega
theorem StoreC.get_len (h : StoreC P w p q S F) (k : Nat) : (S.get k).length = 64 := by
  obtain ⟨c, h⟩ := h
  exact h.ok.get_len h.dev.ok k
end
end Go.Lz
namespace Go.Proofs.YtjngphffgdjcfaaGreatDoor
open Go.RowKit Go.Lz
section
variable {w : World} {p q pm : Nat} {S : WalS} {F : Nat → Prop} {a n : Nat}

/-- A read that goes well. -/
def CReadOk (w : World) (p q : Nat) (S : WalS) (F : Nat → Prop) (b : Bytes) (e : Ending) (w' : World) : Prop :=
  ∃ v g, e = .returned (.tuple #[v, .int .i64 0]) ∧ Dat 5 w' (· = g) v b ∧ w.heap.size ≤ g ∧ StoreC Tryz.prog w' p q S F ∧ Chg F w w'
theorem cread_ok (h : StoreC Tryz.prog w p q S F) {i : Int} {k : Nat} (hi : i = (k : Int)) (hd : S.isDead = false) (hk : k < S.size) : Calls Tryz.prog 32 #[Dptr p, .int .i64 i] w (CReadOk w p q S F (S.get k)) := by
  obtain ⟨c, h⟩ := h
  refine (wread_ok h hi hd hk).mono ?_
  rintro e w' ⟨v, g, j, h1, h2, h3, h4, h5⟩
  exact ⟨v, g, h1, h2, h3, h4.wcC, h5⟩
theorem cread_out (h : StoreC Tryz.prog w p q S F) {i : Int} (hi : i < 0 ∨ (S.size : Int) ≤ i) (hd : S.isDead = false) : Calls Tryz.prog 32 #[Dptr p, .int .i64 i] w fun e w' => e = .returned (.tuple #[.slice none 0 0, .int .i64 1]) ∧ w = w' := by
  obtain ⟨c, h⟩ := h
  have hw : (S.wc c).wrong i = 1 := by
    unfold WalS.wrong
    rw [if_neg (by simp [hd]), if_pos (by simpa using hi)]
  refine (wread_any h i).mono ?_
  rintro e w' (⟨_, h2, h3⟩ | ⟨h1, _⟩)
  · rw [hw] at h2; exact ⟨h2, h3⟩
  · rw [hw] at h1; cases h1
/-- The call hands back v; the store is S. -/
def CDid (w : World) (p q : Nat) (S : WalS) (F : Nat → Prop) (v : Value) (e : Ending) (w' : World) : Prop := e = .returned v ∧ StoreC Tryz.prog w' p q S (ext F w w') ∧ Chg F w w'
theorem cwrite (h : StoreC Tryz.prog w p q S F) {v : Value} {b : Bytes} {G : Nat → Prop} (hv : Src 5 w G v b) (i : Int) : Calls Tryz.prog 33 #[Dptr p, .int .i64 i, v] w (CDid w p q (S.write i b).2 F (.int .i64 (S.write i b).1)) := by
  obtain ⟨c, h⟩ := h
  refine (wwrite_any h hv i).mono ?_
  rintro e w' ⟨h1, h2, h3⟩
  rw [WalS.wc_write] at h1 h2
  exact ⟨h1, ⟨c, h2⟩, h3⟩
theorem csize (h : StoreC Tryz.prog w p q S F) : Calls Tryz.prog 52 #[Dptr p] w fun e w' => e = .returned (.int .i64 (S.size : Int)) ∧ w = w' := by
  obtain ⟨c, Fd, Fs, mn, mw, vn, vw, cn, cw, h, _⟩ := h
  have := wsize_any h
  exact this
theorem ctaken_out (hM : MapO w pm p a n) {i : Int} (hi : i < 0 ∨ (n : Int) ≤ i) : Calls Tryz.prog 49 #[Dptr pm, .int .i64 i] w fun e w' => e = .returned (.tuple #[.bool false, .int .i64 1]) ∧ w = w' := taken_out hM hi
theorem ctaken (hM : MapO w pm p a n) (h : StoreC Tryz.prog w p q S F) (hd : S.isDead = false) {i : Nat} (hi : a + i / 512 < S.size) (hin : i < n) (hn : n ≤ 8192) : Calls Tryz.prog 49 #[Dptr pm, .int .i64 (i : Int)] w (CDid w p q S F (.tuple #[.bool (S.bit a i), .int .i64 0])) := by
  obtain ⟨c, h⟩ := h
  refine (taken_ok hM h hd hi hin hn).mono ?_
  rintro e w' ⟨j, h1, h2, h3⟩
  exact ⟨h1, (h2.wcC).ext, h3⟩
/-- Take: the error, the item, the store. -/
def _root_.Go.Lz.WalS.takeI (S : WalS) (a n : Nat) : Int × Nat × WalS :=
  match (List.range n).find? (fun i => !S.bit a i) with
  | none => (60, 0, S)
  | some i => if (S.setBit a i true).1 = 0 then (0, i, (S.setBit a i true).2) else ((S.setBit a i true).1, 0, (S.setBit a i true).2)
theorem _root_.Go.Lz.WalS.takeI_none {S : WalS} {a n : Nat} (h : ∀ i, i < n → S.bit a i = true) : S.takeI a n = (60, 0, S) := by
  unfold WalS.takeI
  have : (List.range n).find? (fun i => !S.bit a i) = none := by
    rw [List.find?_eq_none]
    intro i hi
    simp [h i (by simpa using hi)]
  rw [this]
theorem find_least {P : Nat → Bool} {n i : Nat} (hi : i < n) (h0 : P i = true) (h1 : ∀ k, k < i → P k = false) : (List.range n).find? P = some i := by
  rw [List.find?_eq_some_iff_append]
  refine ⟨h0, List.range i, (List.range' (i + 1) (n - i - 1)), ?_, fun k hk => ?_⟩
  · rw [List.range_eq_range', List.range_eq_range']
    have : n = i + (1 + (n - i - 1)) := by omega
    rw [this, ← List.range'_append_1, Nat.zero_add, ← List.range'_append_1]
    simp
  · have := h1 k (by simpa using hk)
    simp [this]
theorem _root_.Go.Lz.WalS.takeI_some {S : WalS} {a n i : Nat} (hi : i < n) (h0 : S.bit a i = false) (h1 : ∀ k, k < i → S.bit a k = true) : S.takeI a n = if (S.setBit a i true).1 = 0 then (0, i, (S.setBit a i true).2) else ((S.setBit a i true).1, 0, (S.setBit a i true).2) := by
  unfold WalS.takeI
  rw [find_least hi (by simp [h0]) (fun k hk => by simp [h1 k hk])]
theorem ctake (hM : MapO w pm p a n) (hpm : ¬ F pm) (h : StoreC Tryz.prog w p q S F) (hd : S.isDead = false) (hn : n ≤ 8192) (hsz : a + sectorsOf n ≤ S.size) : Calls Tryz.prog 23 #[Dptr pm] w (CDid w p q (S.takeI a n).2.2 F (.tuple #[.int .i64 ((S.takeI a n).2.1 : Int), .int .i64 (S.takeI a n).1])) := by
  obtain ⟨c, h⟩ := h
  refine (take_ok hM hpm h hd hn hsz).mono ?_
  rintro e w' (⟨h1, j, h2, h3, h4⟩ | ⟨i, hi, h0, h1, j, h2, h3, h4⟩)
  · rw [WalS.takeI_none (S := S) (fun i hi => h1 i hi)]
    exact ⟨h2, h3.wcC, h4⟩
  · rw [WalS.takeI_some (S := S) hi h0 (fun k hk => h1 k hk)]
    rw [WalS.wc_setBit] at h2 h3
    by_cases e0 : (S.setBit a i true).1 = 0
    · rw [if_pos e0]
      rw [if_pos e0] at h2
      exact ⟨h2, h3.wcC, h4⟩
    · rw [if_neg e0]
      rw [if_neg e0] at h2
      exact ⟨h2, h3.wcC, h4⟩
/-- Give: the error, the store. -/
def _root_.Go.Lz.WalS.giveI (S : WalS) (a n : Nat) (i : Int) : Int × WalS := if i < 0 ∨ (n : Int) ≤ i then (1, S) else if S.bit a i.toNat = false then (1, S) else S.setBit a i.toNat false
theorem cgive (hM : MapO w pm p a n) (hpm : ¬ F pm) (h : StoreC Tryz.prog w p q S F) (hd : S.isDead = false) (hn : n ≤ 8192) (hsz : a + sectorsOf n ≤ S.size) (i : Int) : Calls Tryz.prog 108 #[Dptr pm, .int .i64 i] w (CDid w p q (S.giveI a n i).2 F (.int .i64 (S.giveI a n i).1)) := by
  by_cases hi : i < 0 ∨ (n : Int) ≤ i
  · have e : S.giveI a n i = (1, S) := by unfold WalS.giveI; rw [if_pos hi]
    rw [e]
    refine (give_out hM hi).mono ?_
    rintro e w' ⟨h1, rfl⟩
    exact ⟨h1, h.ext, Chg.refl _ _⟩
  · obtain ⟨k, rfl⟩ : ∃ k : Nat, i = (k : Int) := ⟨i.toNat, by omega⟩
    obtain ⟨c, h⟩ := h
    have hk : k < n := by omega
    have hs : a + k / 512 < S.size := by unfold sectorsOf at hsz; omega
    have hn9 : 0 < n := by omega
    cases hb : S.bit a k with
    | false =>
      have e : S.giveI a n (k : Int) = (1, S) := by unfold WalS.giveI; rw [if_neg hi, Int.toNat_natCast, if_pos hb]
      rw [e]
      refine (give_free hM h hd (i := k) hs hk hn hb).mono ?_
      rintro e w' ⟨j, h1, h2, h3⟩
      exact ⟨h1, h2.wcC, h3⟩
    | true =>
      have e : S.giveI a n (k : Int) = S.setBit a k false := by unfold WalS.giveI; rw [if_neg hi, Int.toNat_natCast, if_neg (by simp [hb])]
      rw [e]
      refine (give_ok hM hpm h hd (i := k) hs hk hn hb).mono ?_
      rintro e w' ⟨j, h1, h2, h3⟩
      rw [WalS.wc_setBit] at h1 h2
      exact ⟨h1, h2.wcC, h3⟩
theorem ccount (hM : MapO w pm p a n) (hpm : ¬ F pm) (h : StoreC Tryz.prog w p q S F) (hd : S.isDead = false) (hn : n ≤ 8192) (hsz : a + sectorsOf n ≤ S.size) : Calls Tryz.prog 89 #[Dptr pm] w (CDid w p q S F (.tuple #[.int .i64 (S.countB a n : Int), .int .i64 0])) := by
  obtain ⟨c, h⟩ := h
  refine (count_ok hM hpm h hd hn hsz).mono ?_
  rintro e w' ⟨j, h1, h2, h3⟩
  exact ⟨h1, h2.wcC, h3⟩
end
end Go.Proofs.YtjngphffgdjcfaaGreatDoor
/-
  Rows of cells, by a function: reading, writing, whole copies; made by make; as local blocks.
-/
namespace Go.Lz
open Go.RowKit

/-- n cells. -/
def vec (n : Nat) (f : Nat → Value) : Array Value := ((List.range n).map f).toArray
@[simp] theorem vec_size (n : Nat) (f : Nat → Value) : (vec n f).size = n := by simp [vec]
theorem vec_at {n k : Nat} (f : Nat → Value) (h : k < n) : (vec n f)[k]? = some (f k) := by simp [vec, h]
theorem vec_set (n : Nat) (f : Nat → Value) (k : Nat) (x : Value) : (vec n f).setIfInBounds k x = vec n (upd f k x) := by
  apply Array.ext_getElem?
  intro i
  rw [Array.getElem?_setIfInBounds]
  by_cases hi : i < n
  · rw [vec_at _ hi]
    by_cases e : k = i
    · subst e
      rw [vec_at _ hi]
      simp [hi]
    · rw [if_neg e, vec_at _ hi, upd_other _ (by omega)]
  · have h1 : (vec n f)[i]? = none := by simp [vec]; omega
    have h2 : (vec n (upd f k x))[i]? = none := by simp [vec]; omega
    rw [h1, h2]
    split
    · rw [if_neg (by simpa using (by omega : ¬ k < n))]
    · rfl
theorem vec_one (n : Nat) (f : Nat → Value) (h : ∀ k, (f k).oneCell' = true) : (vec n f).all (·.oneCell') = true := by
  refine Array.all_eq_true_iff_forall_mem.2 fun v hv => ?_
  simp only [vec, List.mem_toArray, List.mem_map] at hv
  obtain ⟨k, _, rfl⟩ := hv
  exact h k
theorem vec_congr {n : Nat} {f g : Nat → Value} (h : ∀ k, k < n → f k = g k) : vec n f = vec n g := by
  unfold vec
  congr 1
  exact List.map_congr_left fun k hk => h k (by simpa using hk)

/-- bools. -/
abbrev boolsV (n : Nat) (f : Nat → Bool) : Array Value := vec n fun k => .bool (f k)
theorem boolsV_set (n : Nat) (f : Nat → Bool) (k : Nat) (x : Bool) : (boolsV n f).setIfInBounds k (.bool x) = boolsV n (upd f k x) := by
  rw [vec_set]
  apply vec_congr
  intro j _
  by_cases e : j = k
  · subst e; simp
  · rw [upd_other _ e, upd_other _ e]

theorem make_one {P : Program} {T E : TypeId} {i : TypeInfo} {z : Value} (ht : P.underlying T = some (.slice E)) (hi : P.info? E = some i) (hz : i.zero = some z) (hs : i.size = 1) (hzc : z.cells = #[z]) (w : World) (n : Nat) (hb : i.bytes * n ≤ 281474976710656) (hn : n ≤ 9223372036854775807) :
    (Instr.makeSlice T (.int .i64 (n : Int)) (.int .i64 (n : Int))).run P w = .ok (.slice (some ⟨w.heap.size, 0, none⟩) n n) (w.alloc (.cells (vec n fun _ => z) E)) := by
  have hb' : (i.bytes : Int) * (n : Int) ≤ 281474976710656 := by
    have h : ((i.bytes * n : Nat) : Int) ≤ 281474976710656 := by omega
    rwa [Int.natCast_mul] at h
  have hr := run_make (P := P) w T E i z ht hi hz .i64 .i64 n n (by omega) (Int.le_refl _) hb' (by omega)
  simp only [Int.toNat_natCast] at hr
  rw [hr]
  have e : madeCells z.cells (n * i.size) = vec n fun _ => z := by
    rw [hs, Nat.mul_one, hzc]
    apply Array.ext_getElem?
    intro j
    by_cases hj : j < n
    · rw [vec_at _ hj]
      simp [madeCells, hj, Nat.mod_one]
    · have h1 : (vec n fun _ => z)[j]? = none := by simp [vec]; omega
      rw [h1]
      simp [madeCells]
      omega
  rw [e]

section
variable {w0 w w' : World} {T : World → (Nat → Prop) → Prop} {L : Locals} {b n : Nat} {E : TypeId} {f : Nat → Value}
theorem Own.vec_cell (h : Own w0 w T L) (hL : L b = some (.cells (vec n f) E (0, 0))) {k : Nat} (hk : k < n) : w.cell? ⟨b, k, none⟩ = some (f k) := by rw [cell_of (h.loc hL), vec_at f hk]
theorem Own.vec_frozen (h : Own w0 w T L) (hL : L b = some (.cells (vec n f) E (0, 0))) (k : Nat) : w.frozen? ⟨b, k, none⟩ = false := frozen_of (h.loc hL) k
/-- A local cell is written. -/
theorem Own.put (h : Own w0 w T L) (hk : Keeps T) {cs : Array Value} (hL : L b = some (.cells cs E (0, 0))) (k : Nat) (x : Value) : Own w0 (w.setCell ⟨b, k, none⟩ x) T (upd L b (some (.cells (cs.setIfInBounds k x) E (0, 0)))) :=
  h.set hk hL ((Chg.refl _ w).own k x) (heap_set_same (h.loc hL) k x)
end
end Go.Lz
/-
  A node's numbers: two bytes, sizes, places.
-/
namespace Go.Lz
open Go.RowKit
/-- Two bytes as a number. -/
def twoN (b : Bytes) (i : Nat) : Nat := (b.getD i 0).toNat * 256 + (b.getD (i + 1) 0).toNat
theorem twoN_lt (b : Bytes) (i : Nat) : twoN b i < 65536 := by
  have h1 := (b.getD i 0).toNat_lt
  have h2 := (b.getD (i + 1) 0).toNat_lt
  unfold twoN
  omega
/-- A number laid as two bytes. -/
def put2B (b : Bytes) (i : Nat) (n : Int) : Bytes := (b.set i (lowByte (n / 256))).set (i + 1) (lowByte n)
@[simp] theorem put2B_length (b : Bytes) (i : Nat) (n : Int) : (put2B b i n).length = b.length := by simp [put2B]
theorem getD_set_same (b : Bytes) {i : Nat} (h : i < b.length) (c : UInt8) : (b.set i c).getD i 0 = c := by simp [List.getD, h]
theorem getD_set_other (b : Bytes) {i j : Nat} (h : i ≠ j) (c : UInt8) : (b.set i c).getD j 0 = b.getD j 0 := by simp [List.getD, h]
theorem twoN_put2 (b : Bytes) {i : Nat} (h : i + 1 < b.length) {n : Nat} (hn : n < 65536) : twoN (put2B b i n) i = n := by
  unfold twoN put2B
  rw [getD_set_other _ (by omega), getD_set_same _ (by omega), getD_set_same _ (by simp; omega)]
  have h1 := lowByte_toNat ((n : Int) / 256)
  have h2 := lowByte_toNat (n : Int)
  omega
theorem twoN_put2_other (b : Bytes) {i j : Nat} (n : Int) (h : j + 1 < i ∨ i + 1 < j) : twoN (put2B b i n) j = twoN b j := by
  unfold twoN put2B
  rw [getD_set_other _ (by omega), getD_set_other _ (by omega), getD_set_other _ (by omega), getD_set_other _ (by omega)]
def nRoom (b : Bytes) : Nat := twoN b 1
def nSize (b : Bytes) : Nat := twoN b 3 * 65536 + twoN b 5
def setSizeB (b : Bytes) (n : Int) : Bytes := put2B (put2B b 3 (n / 65536)) 5 n
@[simp] theorem setSizeB_length (b : Bytes) (n : Int) : (setSizeB b n).length = b.length := by simp [setSizeB]
theorem nSize_set (b : Bytes) (h : 6 < b.length) {n : Nat} (hn : n < 4294967296) : nSize (setSizeB b n) = n := by
  unfold nSize setSizeB
  have e : (n : Int) / 65536 = ((n / 65536 : Nat) : Int) := by omega
  rw [e, twoN_put2_other _ _ (by omega), twoN_put2 _ (by omega) (by omega)]
  have e2 : ∀ c : Bytes, put2B c 5 (n : Int) = put2B c 5 ((n % 65536 : Nat) : Int) := fun c => by
    have l1 : lowByte ((n : Int) / 256) = lowByte (((n % 65536 : Nat) : Int) / 256) := by
      unfold lowByte
      congr 2
      omega
    have l2 : lowByte (n : Int) = lowByte ((n % 65536 : Nat) : Int) := by
      unfold lowByte
      congr 2
      omega
    unfold put2B
    rw [l1, l2]
  rw [e2, twoN_put2 _ (by simp; omega) (by omega)]
  omega
/-- Where a node's i-th block's number lies. -/
def placeL (i : Nat) : Nat := if i < 32 then 0 else 204 + 2 * ((i - 32) / 32)
def placeA (i : Nat) : Nat := if i < 32 then 140 + 2 * i else 2 * ((i - 32) % 32)
def cntN (n : Nat) : Nat := (n + 63) / 64
def withN (n : Nat) : Nat := n + ((n - 32) + 31) / 32

/-- What is behind a place of a row. -/
theorem Dat.drop {t : TypeId} {w : World} {F : Nat → Prop} {g n cap : Nat} {b : Bytes} (h : Dat t w F (.slice (some ⟨g, 0, none⟩) n cap) b) {k : Nat} (hk : k ≤ b.length) : Src t w F (.slice (some ⟨g, k, none⟩) (n - k) (cap - k)) (b.drop k) := by
  obtain ⟨g', hg, hb⟩ := h.buf
  have hc := hb.cells
  obtain ⟨cap', cur, fr, e, h1, h2, h3, h4, h5, h6⟩ := hb
  injection e with e1 e2 e3
  injection e1 with e1
  injection e1 with e1
  subst e1 e3
  refine ⟨g, k, cap - k, cur, fr, by rw [List.length_drop, e2], hg, h1, by rw [List.length_drop]; omega, by omega, fun j u hu => ?_⟩
  refine hc (k + j) u ?_
  rw [List.map_drop, List.getElem?_drop] at hu
  exact hu
end Go.Lz
namespace Go.Proofs.YtjngphffgdjcfaaGreatDoor
open Go.RowKit Go.Lz

theorem or2 {a b : Nat} (ha : a < 256) (hb : b < 256) : bits .or .i64 (IntKind.i64.wrap (IntKind.i64.wrap (a : Int) * 256)) (IntKind.i64.wrap (b : Int)) = ((a * 256 + b : Nat) : Int) := by
  have := or_low a b 8 hb (by omega)
  rw [show (2 ^ 8 * a : Nat) = a * 256 from by omega] at this
  rw [← this]
  simp only [IntKind.wrap_i64]
  rw [show ((a : Int) + 9223372036854775808) % 18446744073709551616 - 9223372036854775808 = (a : Int) from by omega, show ((b : Int) + 9223372036854775808) % 18446744073709551616 - 9223372036854775808 = (b : Int) from by omega, show ((a : Int) * 256 + 9223372036854775808) % 18446744073709551616 - 9223372036854775808 = ((a * 256 : Nat) : Int) from by omega]
theorem or16 {a b : Nat} (ha : a < 65536) (hb : b < 65536) : bits .or .i64 (IntKind.i64.wrap ((a : Int) * 65536)) (b : Int) = ((a * 65536 + b : Nat) : Int) := by
  have := or_low a b 16 hb (by omega)
  rw [show (2 ^ 16 * a : Nat) = a * 65536 from by omega] at this
  rw [← this, IntKind.wrap_i64]
  rw [show ((a : Int) * 65536 + 9223372036854775808) % 18446744073709551616 - 9223372036854775808 = ((a * 65536 : Nat) : Int) from by omega]

theorem ret_int {k : IntKind} {a b : Int} (h : a = b) : Ending.returned (.int k a) = .returned (.int k b) := by rw [h]
set_option maxRecDepth 100000 in
theorem two_any {w : World} {G : Nat → Prop} {v : Value} {b : Bytes} (hv : Src 5 w G v b) (hb : 2 ≤ b.length) : Calls Tryz.prog 47 #[v] w fun e w' => e = .returned (.int .i64 (twoN b 0 : Int)) ∧ Below w.heap.size w w' := by
  obtain ⟨g, off, cap, cur, fr, rfl, hG, hg, hc, hm, hcs⟩ := hv
  have c : ∀ j, j < 2 → w.cell? ⟨g, off + j, none⟩ = some (u8v (b.getD j 0)) := fun j hj => hcs j _ (by simp [List.getD, (show j < b.length by omega)])
  have c0 := c 0 (by omega)
  have c1 := c 1 (by omega)
  unfold u8v at c0 c1
  have b0 := (b.getD 0 0).toNat_lt
  have b1 := (b.getD 1 0).toNat_lt
  unfold twoN
  generalize (b.getD 0 0).toNat = x0 at *
  generalize (b.getD 1 0).toNat = x1 at *
  obtain ⟨n, hn⟩ : ∃ n, n = b.length := ⟨_, rfl⟩
  rw [← hn]
  have l0 : (0 : Int) < (n : Int) := by omega
  have l1 : (1 : Int) < (n : Int) := by omega
  have m0 : 0 < n := by omega
  have m1 : 1 < n := by omega
  rw [Nat.add_zero] at c0
  clear hcs c hn hb
  go_enter Tryz.func47, Tryz.ntmps47
  go_wp2
  refine wp_region_quiet (C := fun W => W = w.drew) (by kernel_rfl) (by kernel_rfl) rfl ?_
  repeat (quiet_step (fail))
  refine wpQuiet_nil ?_
  rintro _ rfl
  rw [or2 b0 b1]
  go_wp2
  go_ret
  exact ⟨rfl, (Below.refl _ w).drew⟩

/-- Two cells are written. -/
theorem put2_any {w : World} {g off n cap : Nat} {x y : Value} (hn : 2 ≤ n) (h0 : w.cell? ⟨g, off, none⟩ = some x) (h1 : w.cell? ⟨g, off + 1, none⟩ = some y) (f0 : w.frozen? ⟨g, off, none⟩ = false) (f1 : w.frozen? ⟨g, off + 1, none⟩ = false) (k : Int) :
    Calls Tryz.prog 24 #[.slice (some ⟨g, off, none⟩) n cap, .int .i64 k] w fun e w' => e = .returned (.tuple #[]) ∧ w' = (w.setCell ⟨g, off, none⟩ (u8v (lowByte (k / 256)))).setCell ⟨g, off + 1, none⟩ (u8v (lowByte k)) := by
  have l0 : (0 : Int) < (n : Int) := by omega
  have l1 : (1 : Int) < (n : Int) := by omega
  have m0 : 0 < n := by omega
  have m1 : 1 < n := by omega
  rw [lowByte_u8v, lowByte_u8v]
  go_enter Tryz.func24, Tryz.ntmps24
  go_wp2
  go_end0
  exact ⟨rfl, rfl⟩

/-! ### a node in memory -/
/-- Block px is node n; its 256 bytes lie in block gb. -/
structure NodeAt (w : World) (px gb cap n : Nat) (b : Bytes) : Prop where
  blk : w.heap[px]? = some (.cells #[.int .i64 (n : Int), .slice (some ⟨gb, 0, none⟩) 256 cap] 70 (0, 0))
  dat : Dat 5 w (· = gb) (.slice (some ⟨gb, 0, none⟩) 256 cap) b
  len : b.length = 256
section
variable {w w' : World} {px gb cap n : Nat} {b : Bytes}
theorem NodeAt.chg {M : Nat → Prop} (h : NodeAt w px gb cap n b) (hc : Chg M w w') (h1 : ¬ M px) (h2 : ¬ M gb) : NodeAt w' px gb cap n b :=
  ⟨(hc.block px (lt_of_heap h.blk) h1).trans h.blk, h.dat.chg hc (fun k hk => by have hk : k = gb := hk; rw [hk]; exact h2), h.len⟩
theorem NodeAt.below (h : NodeAt w px gb cap n b) (hb : Below w.heap.size w w') : NodeAt w' px gb cap n b := h.chg (M := fun _ => False) (Chg.of_below hb) (fun h => h) (fun h => h)
theorem NodeAt.raw (h : NodeAt w px gb cap n b) : 256 ≤ cap ∧ cap ≤ maxLen ∧ gb < w.heap.size ∧ px < w.heap.size ∧ px ≠ gb ∧ ∀ k, k < 256 → w.cell? ⟨gb, k, none⟩ = some (u8v (b.getD k 0)) ∧ w.frozen? ⟨gb, k, none⟩ = false := by
  obtain ⟨g', hg, hb⟩ := h.dat.buf
  have hg : g' = gb := hg
  subst hg
  have hc := hb.cells
  obtain ⟨g2, cap2, cur, e, hF, h1, h2, h3, h4, h5⟩ := id h.dat
  have hF : g2 = g' := hF
  subst hF
  injection e with e1 e2 e3
  subst e3
  refine ⟨by rw [← h.len]; exact h2, h3, lt_of_heap h1, lt_of_heap h.blk, ne_of_elem h.blk h1 (by decide), fun k hk => ⟨hc k _ ?_, frozen_of h1 k⟩⟩
  have : k < b.length := by rw [h.len]; exact hk
  simp [List.getD, this]
theorem NodeAt.c0 (h : NodeAt w px gb cap n b) : w.cell? ⟨px, 0, none⟩ = some (.int .i64 (n : Int)) := cell_of h.blk 0
theorem NodeAt.c1 (h : NodeAt w px gb cap n b) : w.cell? ⟨px, 1, none⟩ = some (.slice (some ⟨gb, 0, none⟩) 256 cap) := cell_of h.blk 1
theorem NodeAt.drop (h : NodeAt w px gb cap n b) {k : Nat} (hk : k ≤ 256) : Src 5 w (· = gb) (.slice (some ⟨gb, k, none⟩) (256 - k) (cap - k)) (b.drop k) := h.dat.drop (by rw [h.len]; exact hk)
theorem NodeAt.set (h : NodeAt w px gb cap n b) {k : Nat} (hk : k < 256) (c : UInt8) : NodeAt (w.setCell ⟨gb, k, none⟩ (u8v c)) px gb cap n (b.set k c) :=
  ⟨(heap_set_other h.raw.2.2.2.2.1 _).trans h.blk, by
    have := h.dat.setByte (k := k) (by rw [h.len]; exact hk) c
    exact this, by rw [List.length_set]; exact h.len⟩
theorem drop_twoN (b : Bytes) (k : Nat) : twoN (b.drop k) 0 = twoN b k := by
  unfold twoN
  simp only [List.getD_eq_getElem?_getD, List.getElem?_drop, Nat.add_zero, Nat.zero_add]

/-- Two bytes of a node. -/
theorem ntwo (h : NodeAt w px gb cap n b) {k : Nat} (hk : k ≤ 254) : Calls Tryz.prog 47 #[.slice (some ⟨gb, k, none⟩) (256 - k) (cap - k)] w fun e w' => e = .returned (.int .i64 (twoN b k : Int)) ∧ Below w.heap.size w w' := by
  have := two_any (h.drop (k := k) (by omega)) (by rw [List.length_drop, h.len]; omega)
  rw [drop_twoN] at this
  exact this
/-- What is done to a node: its bytes are others. -/
def NDid (w : World) (px gb cap n : Nat) (b : Bytes) (v : Value) (e : Ending) (w' : World) : Prop := e = .returned v ∧ NodeAt w' px gb cap n b ∧ Chg (· = gb) w w'
theorem nput2 (h : NodeAt w px gb cap n b) {k : Nat} (hk : k ≤ 254) (x : Int) : Calls Tryz.prog 24 #[.slice (some ⟨gb, k, none⟩) (256 - k) (cap - k), .int .i64 x] w (NDid w px gb cap n (put2B b k x) (.tuple #[])) := by
  obtain ⟨_, _, _, _, _, hc⟩ := h.raw
  refine (put2_any (by omega) (hc k (by omega)).1 (hc (k + 1) (by omega)).1 (hc k (by omega)).2 (hc (k + 1) (by omega)).2 x).mono ?_
  rintro e w' ⟨h1, rfl⟩
  exact ⟨h1, (h.set (k := k) (by omega) _).set (k := k + 1) (by omega) _, ((Chg.refl _ w).own k _).own (k + 1) _⟩

set_option maxRecDepth 100000 in
theorem room_any_ (h : NodeAt w px gb cap n b) : Calls Tryz.prog 27 #[Dptr px] w fun e w' => e = .returned (.int .i64 (nRoom b : Int)) ∧ Below w.heap.size w w' := by
  have c1 := h.c1
  obtain ⟨hcap, hcm, _⟩ := h.raw
  have ct := ntwo h (k := 1) (by omega)
  have hc' : ¬ cap = 1 := by omega
  go_enter Tryz.func27, Tryz.ntmps27
  go_wp2_with fail
  refine ct.mono ?_
  rintro e w' ⟨rfl, hB⟩
  go_wp2_with fail
  go_ret
  exact ⟨rfl, hB⟩

set_option maxRecDepth 100000 in
theorem nsize_any (h : NodeAt w px gb cap n b) : Calls Tryz.prog 28 #[Dptr px] w fun e w' => e = .returned (.int .i64 (nSize b : Int)) ∧ Below w.heap.size w w' := by
  have c1 := h.c1
  obtain ⟨hcap, hcm, hlg, hlp, _⟩ := h.raw
  have d1 : ∀ W : BelowOf w, W.val.cell? ⟨px, 1, none⟩ = some (.slice (some ⟨gb, 0, none⟩) 256 cap) := fun W => (W.prop.cell (p := ⟨px, 1, none⟩) hlp).trans c1
  have hc3 : ¬ cap = 3 := by omega
  have hc5 : ¬ cap = 5 := by omega
  have l3 := twoN_lt b 3
  have l5 := twoN_lt b 5
  unfold nSize
  go_enter Tryz.func28, Tryz.ntmps28
  go_wp2_with fail
  have ct3 : ∀ W : BelowOf w, Calls Tryz.prog 47 #[.slice (some ⟨gb, 3, none⟩) 253 (cap - 3)] W.val fun e w'' => e = .returned (.int .i64 (twoN b 3 : Int)) ∧ ∃ q : BelowOf w, w'' = q.val := fun W => Calls.below_of (ntwo (h.below W.prop) (k := 3) (by omega))
  have ct5 : ∀ W : BelowOf w, Calls Tryz.prog 47 #[.slice (some ⟨gb, 5, none⟩) 251 (cap - 5)] W.val fun e w'' => e = .returned (.int .i64 (twoN b 5 : Int)) ∧ ∃ q : BelowOf w, w'' = q.val := fun W => Calls.below_of (ntwo (h.below W.prop) (k := 5) (by omega))
  refine wp_region_below (by kernel_rfl) (by kernel_rfl) ?_
  repeat (quiet_step (first
    | (go_at_call 47; with_reducible exact ct3 _)
    | (go_at_call 47; with_reducible exact ct5 _)))
  refine wpQuiet_nil ?_
  rintro _ ⟨⟨wq, hq⟩, rfl⟩
  rw [or16 l3 l5]
  go_wp2_with fail
  go_ret
  exact ⟨rfl, hq⟩

set_option maxRecDepth 100000 in
theorem setSize_any (h : NodeAt w px gb cap n b) (x : Int) : Calls Tryz.prog 65 #[Dptr px, .int .i64 x] w (NDid w px gb cap n (setSizeB b x) (.tuple #[])) := by
  have c1 := h.c1
  obtain ⟨hcap, hcm, hlg, hlp, hne, _⟩ := h.raw
  have hc3 : ¬ cap = 3 := by omega
  have hc5 : ¬ cap = 5 := by omega
  go_enter Tryz.func65, Tryz.ntmps65
  go_wp2_with fail
  refine (nput2 h (k := 3) (by omega) (x / 65536)).mono ?_
  rintro e w1 ⟨rfl, h1, hC1⟩
  have d1 := h1.c1
  go_wp2_with fail
  refine (nput2 h1 (k := 5) (by omega) x).mono ?_
  rintro e w2 ⟨rfl, h2, hC2⟩
  go_wp2_with fail
  go_end0
  exact ⟨rfl, h2, hC1.trans hC2 (fun _ _ h => h)⟩

set_option maxRecDepth 100000 in
theorem place_any (w : World) {i : Nat} (hi : i ≤ 1000000) : Calls Tryz.prog 46 #[.int .i64 (i : Int)] w fun e w' => e = .returned (.tuple #[.int .i64 (placeL i : Int), .int .i64 (placeA i : Int)]) ∧ w = w' := by
  by_cases h : i < 32
  · have h' : (i : Int) < 32 := by omega
    unfold placeL placeA
    rw [if_pos h, if_pos h]
    go_enter Tryz.func46, Tryz.ntmps46
    go_wp2_with fail
    go_ret2
    exact ⟨by congr 3 <;> go_num, rfl⟩
  · have h' : ¬ (i : Int) < 32 := by omega
    obtain ⟨j, rfl⟩ : ∃ j, i = j + 32 := ⟨i - 32, by omega⟩
    unfold placeL placeA
    rw [if_neg h, if_neg h, Nat.add_sub_cancel]
    clear h
    go_enter Tryz.func46, Tryz.ntmps46
    go_wp2_with fail
    go_ret2
    exact ⟨by congr 3 <;> go_num, rfl⟩

theorem count_any_ (w : World) {n : Nat} (hn : n ≤ 1000000000) : Calls Tryz.prog 45 #[.int .i64 (n : Int)] w fun e w' => e = .returned (.int .i64 (cntN n : Int)) ∧ w = w' := by
  unfold cntN
  go_enter Tryz.func45, Tryz.ntmps45
  go_wp2_with fail
  go_ret
  exact ⟨ret_int (by omega), rfl⟩

theorem with_any (w : World) {n : Nat} (hn : n ≤ 1000000000) : Calls Tryz.prog 62 #[.int .i64 (n : Int)] w fun e w' => e = .returned (.int .i64 (withN n : Int)) ∧ w = w' := by
  have e : (withN n : Int) = (n : Int) + (max ((n : Int) - 32) 0 + 31) / 32 := by unfold withN; omega
  rw [e]
  have h0 : 0 ≤ max ((n : Int) - 32) 0 := by omega
  have h1 : max ((n : Int) - 32) 0 ≤ 1000000000 := by omega
  go_enter Tryz.func62, Tryz.ntmps62
  go_wp2_with fail
  go_ret
  exact ⟨ret_int (by omega), rfl⟩
end
end Go.Proofs.YtjngphffgdjcfaaGreatDoor
/-
  A base: how it lies in memory; what its calls do, plain.
-/
namespace Go.Lz
open Go.RowKit Go.Proofs.YtjngphffgdjcfaaGreatDoor

/-- The transaction under way alone is another one. -/
def Txn (S S' : WalS) : Prop := ∃ now, S' = { S with now := now }
section
variable {S S' S2 : WalS}
theorem Txn.refl (S : WalS) : Txn S S := ⟨S.now, rfl⟩
theorem Txn.trans (h : Txn S S') (k : Txn S' S2) : Txn S S2 := by
  obtain ⟨a, rfl⟩ := h
  obtain ⟨b, rfl⟩ := k
  exact ⟨b, rfl⟩
theorem Txn.size (h : Txn S S') : S'.size = S.size := by
  obtain ⟨a, rfl⟩ := h
  rfl
theorem Txn.isDead (h : Txn S S') : S'.isDead = S.isDead := by
  obtain ⟨a, rfl⟩ := h
  rfl
theorem Txn.write (S : WalS) (i : Int) (b : Bytes) : Txn S (S.write i b).2 := by
  unfold WalS.write
  split
  · exact Txn.refl S
  · split
    · exact Txn.refl S
    · split
      · exact Txn.refl S
      · exact ⟨_, rfl⟩
theorem Txn.setBit (S : WalS) (a i : Nat) (tb : Bool) : Txn S (S.setBit a i tb).2 := Txn.write _ _ _
theorem Txn.takeI (S : WalS) (a n : Nat) : Txn S (S.takeI a n).2.2 := by
  unfold WalS.takeI
  split
  · exact Txn.refl S
  · split <;> exact Txn.setBit _ _ _ _
theorem Txn.giveI (S : WalS) (a n : Nat) (i : Int) : Txn S (S.giveI a n i).2 := by
  unfold WalS.giveI
  split
  · exact Txn.refl S
  · split
    · exact Txn.refl S
    · exact Txn.setBit _ _ _ _
end

/-! ### plain -/
namespace WalS
/-- A node's bytes. -/
def nodeB (S : WalS) (n : Nat) : Bytes := S.get (16 + 4 * (n - 1)) ++ S.get (16 + 4 * (n - 1) + 1) ++ S.get (16 + 4 * (n - 1) + 2) ++ S.get (16 + 4 * (n - 1) + 3)
/-- What is wrong with a node's number. -/
def nodeE (S : WalS) (n : Int) : Int := if n < 1 ∨ 64 < n then 61 else if S.bit 0 (n.toNat - 1) = true then 0 else 61
/-- On if it went well. -/
def okS (r : Int × WalS) (k : WalS → Int × WalS) : Int × WalS := if r.1 = 0 then k r.2 else r
def okN (r : Int × Nat × WalS) (b : Bytes) (k : Nat → WalS → Int × Bytes × WalS) : Int × Bytes × WalS := if r.1 = 0 then k r.2.1 r.2.2 else (r.1, b, r.2.2)
def okB (r : Int × Bytes × WalS) (k : Bytes → WalS → Int × Bytes × WalS) : Int × Bytes × WalS := if r.1 = 0 then k r.2.1 r.2.2 else r
/-- A node's i-th sector. -/
def pieceN (b : Bytes) (i : Nat) : Bytes := (b.drop (64 * i)).take 64
/-- A node's i-th sector is written, if it is another one. -/
def saveP (S : WalS) (n : Nat) (b : Bytes) (i : Nat) : Int × WalS := if pieceN b i = S.get (16 + 4 * (n - 1) + i) then (0, S) else S.write ((16 + 4 * (n - 1) + i : Nat) : Int) (pieceN b i)
/-- A node's last d sectors are written. -/
def saveF (n : Nat) (b : Bytes) : Nat → WalS → Int × WalS
  | 0, S => (0, S)
  | d + 1, S => okS (S.saveP n b (3 - d)) (saveF n b d)
def save (S : WalS) (n : Nat) (b : Bytes) : Int × WalS := saveF n b 4 S
/-- How many blocks there are. -/
def allB (S : WalS) : Nat := S.size - 300
/-- A block's number in a list. -/
def listed (S : WalS) (l a : Nat) : Int × Nat := if l = 0 then (0, 0) else if S.size ≤ 299 + l then (1, 0) else (0, twoN (S.get (299 + l)) a)
/-- A node's i-th block, or what is wrong. -/
def block (S : WalS) (b : Bytes) (i : Nat) : Int × Nat := if placeL i = 0 then (0, twoN b (placeA i)) else S.listed (twoN b (placeL i)) (placeA i)
/-- A new block of noughts. -/
def takeW (S : WalS) (k : Nat) : Int × Nat × WalS := ((S.write ((300 + k : Nat) : Int) zero64).1, k + 1, (S.write ((300 + k : Nat) : Int) zero64).2)
def take (S : WalS) : Int × Nat × WalS := if (S.takeI 1 S.allB).1 = 0 then (S.takeI 1 S.allB).2.2.takeW (S.takeI 1 S.allB).2.1 else ((S.takeI 1 S.allB).1, 0, (S.takeI 1 S.allB).2.2)
/-- A block's number is laid into a list. -/
def lay (S : WalS) (l a : Nat) (k : Nat) : Int × WalS := if l = 0 ∨ S.size ≤ 299 + l then (1, S) else S.write ((299 + l : Nat) : Int) (put2B (S.get (299 + l)) a k)
def layB (S : WalS) (b : Bytes) (i k : Nat) : Int × Bytes × WalS := ((S.lay (twoN b (placeL i)) (placeA i) k).1, b, (S.lay (twoN b (placeL i)) (placeA i) k).2)
def link (S : WalS) (b : Bytes) (i k : Nat) : Int × Bytes × WalS :=
  if placeL i = 0 then (0, put2B b (placeA i) k, S) else
  if twoN b (placeL i) = 0 then okN S.take b fun l S' => S'.layB (put2B b (placeL i) l) i k else S.layB b i k
/-- d more blocks, from the i-th on. -/
def growF : Nat → Nat → Bytes → WalS → Int × Bytes × WalS
  | 0, _, b, S => (0, b, S)
  | d + 1, i, b, S => okB (okN S.take b fun k S' => S'.link b i k) fun b' S' => growF d (i + 1) b' S'
def freeB (S : WalS) : Nat := S.allB - S.countB 1 S.allB
def grow (S : WalS) (b : Bytes) (m : Nat) : Int × Bytes × WalS :=
  if (S.freeB : Int) < (withN (cntN m) : Int) - (withN (cntN (nSize b)) : Int) then (60, b, S) else
  okB (growF (cntN m - cntN (nSize b)) (cntN (nSize b)) b S) fun b' S' => (0, setSizeB b' m, S')
end WalS

section
theorem Txn.okS {S : WalS} {r : Int × WalS} {k : WalS → Int × WalS} (h : Txn S r.2) (hk : ∀ S', Txn S' (k S').2) : Txn S (WalS.okS r k).2 := by
  unfold WalS.okS
  split
  · exact h.trans (hk _)
  · exact h
theorem Txn.okN {S : WalS} {r : Int × Nat × WalS} {b : Bytes} {k : Nat → WalS → Int × Bytes × WalS} (h : Txn S r.2.2) (hk : ∀ n S', Txn S' (k n S').2.2) : Txn S (WalS.okN r b k).2.2 := by
  unfold WalS.okN
  split
  · exact h.trans (hk _ _)
  · exact h
theorem Txn.okB {S : WalS} {r : Int × Bytes × WalS} {k : Bytes → WalS → Int × Bytes × WalS} (h : Txn S r.2.2) (hk : ∀ b S', Txn S' (k b S').2.2) : Txn S (WalS.okB r k).2.2 := by
  unfold WalS.okB
  split
  · exact h.trans (hk _ _)
  · exact h
theorem okN_len {r : Int × Nat × WalS} {b : Bytes} {k : Nat → WalS → Int × Bytes × WalS} {m : Nat} (hb : b.length = m) (hk : ∀ n S', (k n S').2.1.length = m) : (WalS.okN r b k).2.1.length = m := by
  unfold WalS.okN
  split
  · exact hk _ _
  · exact hb
theorem okB_len {r : Int × Bytes × WalS} {k : Bytes → WalS → Int × Bytes × WalS} {m : Nat} (h : r.2.1.length = m) (hk : ∀ b S', b.length = m → (k b S').2.1.length = m) : (WalS.okB r k).2.1.length = m := by
  unfold WalS.okB
  split
  · exact hk _ _ h
  · exact h
theorem Txn.saveP (S : WalS) (n : Nat) (b : Bytes) (i : Nat) : Txn S (S.saveP n b i).2 := by
  unfold WalS.saveP
  split
  · exact Txn.refl S
  · exact Txn.write _ _ _
theorem Txn.saveF (n : Nat) (b : Bytes) (d : Nat) (S : WalS) : Txn S (WalS.saveF n b d S).2 := by
  induction d generalizing S with
  | zero => exact Txn.refl S
  | succ d ih => exact Txn.okS (Txn.saveP _ _ _ _) ih
theorem Txn.save (S : WalS) (n : Nat) (b : Bytes) : Txn S (S.save n b).2 := Txn.saveF n b 4 S
theorem Txn.takeW (S : WalS) (k : Nat) : Txn S (S.takeW k).2.2 := Txn.write _ _ _
theorem Txn.take (S : WalS) : Txn S S.take.2.2 := by
  unfold WalS.take
  split
  · exact (Txn.takeI S 1 S.allB).trans (Txn.takeW _ _)
  · dsimp only
    exact Txn.takeI S 1 S.allB
set_option maxRecDepth 100000 in
theorem Txn.lay (S : WalS) (l a k : Nat) : Txn S (S.lay l a k).2 := by
  unfold WalS.lay
  split
  · exact Txn.refl S
  · exact Txn.write _ _ _
set_option maxRecDepth 100000 in
theorem Txn.link (S : WalS) (b : Bytes) (i k : Nat) : Txn S (S.link b i k).2.2 := by
  unfold WalS.link
  split
  · exact Txn.refl S
  · split
    · exact Txn.okN (Txn.take S) fun n S' => Txn.lay _ _ _ _
    · exact Txn.lay _ _ _ _
set_option maxRecDepth 100000 in
theorem link_len (S : WalS) {b : Bytes} {m : Nat} (hb : b.length = m) (i k : Nat) : (S.link b i k).2.1.length = m := by
  unfold WalS.link
  split
  · simpa using hb
  · split
    · exact okN_len hb fun n S' => by simpa [WalS.layB] using hb
    · exact hb
theorem Txn.growF (d i : Nat) (b : Bytes) (S : WalS) : Txn S (WalS.growF d i b S).2.2 := by
  induction d generalizing i b S with
  | zero => exact Txn.refl S
  | succ d ih =>
    rw [WalS.growF]
    exact Txn.okB (Txn.okN (Txn.take S) fun n S' => Txn.link S' b i n) fun b S' => ih _ _ _
theorem growF_len (d i : Nat) {b : Bytes} {m : Nat} (hb : b.length = m) (S : WalS) : (WalS.growF d i b S).2.1.length = m := by
  induction d generalizing i b S with
  | zero => exact hb
  | succ d ih =>
    rw [WalS.growF]
    exact okB_len (okN_len hb fun n S' => link_len S' hb i n) fun b S' hb' => ih _ hb' _
set_option maxRecDepth 100000 in
theorem Txn.grow (S : WalS) (b : Bytes) (m : Nat) : Txn S (S.grow b m).2.2 := by
  unfold WalS.grow
  split
  · exact Txn.refl S
  · exact Txn.okB (Txn.growF _ _ _ _) fun b S' => Txn.refl S'
set_option maxRecDepth 100000 in
theorem grow_len (S : WalS) {b : Bytes} {k : Nat} (hb : b.length = k) (m : Nat) : (S.grow b m).2.1.length = k := by
  unfold WalS.grow
  split
  · exact hb
  · exact okB_len (growF_len _ _ hb _) fun b S' hb' => by simpa using hb'
end

end Go.Lz
namespace Go.Proofs.YtjngphffgdjcfaaGreatDoor
open Go.RowKit Go.Lz
/-! ### in memory -/
/-- Block pb is a base over the store S. -/
structure BaseIn (w : World) (pb p q pn pk : Nat) (S : WalS) (Fs : Nat → Prop) : Prop where
  sto : StoreC Tryz.prog w p q S Fs
  blk : w.heap[pb]? = some (.cells #[Dptr p, Dptr pn, Dptr pk, .int .i64 (S.allB : Int)] 66 (0, 0))
  mN : MapO w pn p 0 64
  mK : MapO w pk p 1 S.allB
  nb : ¬ Fs pb
  nn : ¬ Fs pn
  nk : ¬ Fs pk
  big : 400 ≤ S.size
  live : S.isDead = false
section
variable {w w' : World} {pb p q pn pk : Nat} {S S' : WalS} {Fs Fs' : Nat → Prop}
theorem BaseIn.c0 (h : BaseIn w pb p q pn pk S Fs) : w.cell? ⟨pb, 0, none⟩ = some (Dptr p) := cell_of h.blk 0
theorem BaseIn.c1 (h : BaseIn w pb p q pn pk S Fs) : w.cell? ⟨pb, 1, none⟩ = some (Dptr pn) := cell_of h.blk 1
theorem BaseIn.c2 (h : BaseIn w pb p q pn pk S Fs) : w.cell? ⟨pb, 2, none⟩ = some (Dptr pk) := cell_of h.blk 2
theorem BaseIn.c3 (h : BaseIn w pb p q pn pk S Fs) : w.cell? ⟨pb, 3, none⟩ = some (.int .i64 (S.allB : Int)) := cell_of h.blk 3
theorem BaseIn.size_le (h : BaseIn w pb p q pn pk S Fs) : S.size ≤ 7892 := h.sto.size_le
theorem BaseIn.below (h : BaseIn w pb p q pn pk S Fs) (hb : Below w.heap.size w w') : BaseIn w' pb p q pn pk S Fs :=
  ⟨h.sto.below hb, (hb.block pb (lt_of_heap h.blk)).trans h.blk, (hb.block pn (lt_of_heap h.mN)).trans h.mN, (hb.block pk (lt_of_heap h.mK)).trans h.mK, h.nb, h.nn, h.nk, h.big, h.live⟩
theorem BaseIn.chg {M : Nat → Prop} (h : BaseIn w pb p q pn pk S Fs) (hc : Chg M w w') (hM : ∀ k, Fs k ∨ k = pb ∨ k = pn ∨ k = pk → ¬ M k) : BaseIn w' pb p q pn pk S Fs :=
  ⟨h.sto.chg hc (fun k hk => hM k (.inl hk)), (hc.block pb (lt_of_heap h.blk) (hM _ (.inr (.inl rfl)))).trans h.blk, h.mN.chg hc (hM _ (.inr (.inr (.inl rfl)))), h.mK.chg hc (hM _ (.inr (.inr (.inr rfl)))), h.nb, h.nn, h.nk, h.big, h.live⟩
/-- The store goes on. -/
theorem BaseIn.step (h : BaseIn w pb p q pn pk S Fs) (hs : StoreC Tryz.prog w' p q S' Fs') (ht : Txn S S') (hF : ∀ k, Fs' k → Fs k ∨ w.heap.size ≤ k) (hc : Chg Fs w w') : BaseIn w' pb p q pn pk S' Fs' := by
  have ea : S'.allB = S.allB := by unfold WalS.allB; rw [ht.size]
  have l1 := lt_of_heap h.blk
  have l2 := lt_of_heap h.mN
  have l3 := lt_of_heap h.mK
  refine ⟨hs, ?_, h.mN.chg hc h.nn, ?_, fun e => (hF _ e).elim h.nb (fun h => by omega), fun e => (hF _ e).elim h.nn (fun h => by omega), fun e => (hF _ e).elim h.nk (fun h => by omega), by rw [ht.size]; exact h.big, by rw [ht.isDead]; exact h.live⟩
  · rw [ea]
    exact (hc.block pb l1 h.nb).trans h.blk
  · rw [ea]
    exact h.mK.chg hc h.nk

/-- The call hands back v; the store is S'. -/
def BDid (w : World) (pb p q pn pk : Nat) (S' : WalS) (Fs : Nat → Prop) (v : Value) (e : Ending) (w' : World) : Prop :=
  e = .returned v ∧ (∃ Fs', BaseIn w' pb p q pn pk S' Fs' ∧ ∀ k, Fs' k → Fs k ∨ w.heap.size ≤ k) ∧ Chg Fs w w'
theorem BaseIn.did (h : BaseIn w pb p q pn pk S Fs) {v : Value} {e : Ending} (ht : Txn S S') (hd : CDid w p q S' Fs v e w') : BDid w pb p q pn pk S' Fs v e w' :=
  ⟨hd.1, ⟨_, h.step hd.2.1 ht (fun _ hk => hk.imp id (·.1)) hd.2.2, fun _ hk => hk.imp id (·.1)⟩, hd.2.2⟩
end
end Go.Proofs.YtjngphffgdjcfaaGreatDoor
