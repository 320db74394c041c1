/-
  Devices that share nothing but plain byte rows: what is done to one leaves the others as they are.
-/
import Derived.Test.YtbnoebdpbpjbkaaLaw1e
import Derived.Test.YtbnoebdpbpjbkaaDevC
namespace Go.Proofs.Ytbnoebdpbpjbkaa
open Go.RowKit Go.Lz

/-- Two footprints share plain byte rows alone. -/
def Apart (w : World) (F G : Nat → Prop) : Prop := ∀ j, F j → G j → ∃ cs, w.heap[j]? = some (.cells cs 5 (0, 0))

section
variable {w w' : World} {F G H : Nat → Prop}

theorem Apart.symm (h : Apart w F G) : Apart w G F := fun j a b => h j b a

theorem Apart.keep (h : Apart w F G) (hl : ∀ k, F k → k < w.heap.size) (hc : Chg (ownF H w) w w') : Apart w' F G := fun j a b => by
  obtain ⟨cs, e⟩ := h j a b
  exact ⟨cs, (hc.block j (hl j a) (fun k => k.2 cs e)).trans e⟩

theorem Apart.step (h : Apart w F G) (hl : ∀ k, F k → k < w.heap.size) (hc : Chg (ownF H w) w w') {G' : Nat → Prop} (hG : ∀ k, G' k → G k ∨ w.heap.size ≤ k) : Apart w' F G' := fun j a b =>
  (hG j b).elim (fun b => h.keep hl hc j a b) (fun b => absurd (hl j a) (by omega))

theorem Apart.below (h : Apart w F G) (hl : ∀ k, F k → k < w.heap.size) (hb : Below w.heap.size w w') : Apart w' F G := h.keep (H := fun _ => False) hl (Chg.of_below hb)

theorem _root_.Go.Lz.DevAt.apart {p : Nat} {S : DevS} (h : DevAt Try.prog w p S F) (ha : Apart w F G) (hc : Chg (ownF G w) w w') : DevAt Try.prog w' p S F :=
  h.chg hc fun k hk e => by
    obtain ⟨cs, e2⟩ := ha k hk e.1
    exact e.2 cs e2

theorem shared_apart (hB : Below w.heap.size w w') (hl : ∀ k, F k → k < w.heap.size) : Apart w' F (shared F w w') := fun j a b => by
  rcases b with ⟨_, cs, e⟩ | ⟨h, _⟩
  · exact ⟨cs, (hB.block j (lt_of_heap e)).trans e⟩
  · exact absurd (hl j a) (by omega)

theorem shared_apart2 (hB : Below w.heap.size w w') (hl : ∀ k, G k → k < w.heap.size) : Apart w' G (shared F w w') := fun j a b => by
  rcases b with ⟨_, cs, e⟩ | ⟨h, _⟩
  · exact ⟨cs, (hB.block j (lt_of_heap e)).trans e⟩
  · exact absurd (hl j a) (by omega)

theorem shared_ge {B : Nat} (hF : ∀ k, F k → B ≤ k) (hB : B ≤ w.heap.size) : ∀ k, shared F w w' k → B ≤ k := fun k h => h.elim (fun h => hF k h.1) (fun h => Nat.le_trans hB h.1)
theorem ext_ge {B : Nat} (hF : ∀ k, F k → B ≤ k) (hB : B ≤ w.heap.size) : ∀ k, ext F w w' k → B ≤ k := fun k h => h.elim (hF k) (fun h => Nat.le_trans hB h.1)
theorem ext_new : ∀ k, ext F w w' k → F k ∨ w.heap.size ≤ k := fun _ h => h.imp id (·.1)
end

/-- A read that goes well; no plain byte row turns. -/
def ReadGoodO (w : World) (p : Nat) (S : DevS) (F : Nat → Prop) (b : Bytes) (e : Ending) (w' : World) : Prop :=
  ∃ v g, e = .returned (.tuple #[v, .int .i64 0]) ∧ Buf 5 w' g v b ∧ w.heap.size ≤ g ∧ DevAt Try.prog w' p S.counted F ∧ Chg (ownF F w) w w'

theorem read_goodO {w : World} {p : Nat} {S : DevS} {F : Nat → Prop} (h : DevAt Try.prog w p S F) (hd : S.dead = false) {k : Nat} (hk : k < S.n) {b : Bytes} (hb : S.now k = b) : Calls Try.prog 19 #[Dptr p, .int .i64 (k : Int)] w (ReadGoodO w p S F b) := by
  subst hb
  obtain ⟨lv, m, vs, vf, c, hD⟩ := h
  refine (read_ok hD hd hk).mono ?_
  rintro e w' ⟨v, g, rfl, h2, h3, h4, h5⟩
  obtain ⟨g', rfl, h6⟩ := h2.buf
  exact ⟨v, g', rfl, h6, h3, h4.at_, h5.mono fun j _ e => by subst e; exact hD.own_p⟩

theorem _root_.Go.Lz.DevS.write_n (S : DevS) (i : Int) (b : Bytes) : (S.write i b).2.n = S.n := by
  unfold DevS.write
  split
  · rfl
  · split
    · rfl
    · split <;> rfl
theorem _root_.Go.Lz.DevS.flush_n (S : DevS) : S.flush.2.n = S.n := by
  unfold DevS.flush
  split
  · rfl
  · split <;> rfl

/-- The device, its copy that goes on, its copy that does not. -/
structure Trio (w : World) (B d c v : Nat) (S S' : DevS) (Fd Fc Fv : Nat → Prop) : Prop where
  hd : DevAt Try.prog w d S Fd
  hc : DevAt Try.prog w c S' Fc
  hv : DevAt Try.prog w v S Fv
  dc : Apart w Fd Fc
  vc : Apart w Fv Fc
  dv : Apart w Fd Fv
  gd : ∀ k, Fd k → B ≤ k
  gc : ∀ k, Fc k → B ≤ k
  gv : ∀ k, Fv k → B ≤ k

theorem Trio.below {w w' : World} {B d c v : Nat} {S S' : DevS} {Fd Fc Fv : Nat → Prop} (h : Trio w B d c v S S' Fd Fc Fv) (hb : Below w.heap.size w w') : Trio w' B d c v S S' Fd Fc Fv :=
  ⟨h.hd.below hb, h.hc.below hb, h.hv.below hb, h.dc.below h.hd.lt hb, h.vc.below h.hv.lt hb, h.dv.below h.hd.lt hb, h.gd, h.gc, h.gv⟩

theorem Trio.step {w w' : World} {B d c v : Nat} {S S' S2 : DevS} {Fd Fc Fv : Nat → Prop} (h : Trio w B d c v S S' Fd Fc Fv) (hB : B ≤ w.heap.size) (h2 : DevAt Try.prog w' c S2 (ext Fc w w')) (hc : Chg (ownF Fc w) w w') :
    Trio w' B d c v S S2 Fd (ext Fc w w') Fv :=
  ⟨h.hd.apart h.dc hc, h2, h.hv.apart h.vc hc, h.dc.step h.hd.lt hc ext_new, h.vc.step h.hv.lt hc ext_new, h.dv.keep h.hd.lt hc, h.gd, ext_ge h.gc hB, h.gv⟩
end Go.Proofs.Ytbnoebdpbpjbkaa
