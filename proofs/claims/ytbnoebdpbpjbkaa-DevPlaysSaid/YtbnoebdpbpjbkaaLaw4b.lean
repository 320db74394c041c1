/-
  The store's calls, as a statement's function meets them: it owns the store and local blocks.
-/
import Derived.Test.YtbnoebdpbpjbkaaLaw4a
namespace Go.Lz
open Go.RowKit

/-- Block g as o holds the bytes b, as v reads them; it may be written. -/
def BufO (t : TypeId) (g : Nat) (o : Obj) (v : Value) (b : Bytes) : Prop :=
  ∃ cap cur fr, v = .slice (some ⟨g, 0, none⟩) b.length cap ∧ o = .cells cur t fr ∧ b.length ≤ cap ∧ cap ≤ maxLen ∧ cap ≤ cur.size ∧ cur.toList.take b.length = b.map u8v ∧ ∀ i, i < b.length → (fr.1 ≤ i && i < fr.2) = false

theorem BufO.buf {t : TypeId} {g : Nat} {o : Obj} {v : Value} {b : Bytes} {w : World} (h : BufO t g o v b) (hg : w.heap[g]? = some o) : Buf t w g v b := by
  obtain ⟨cap, cur, fr, h1, rfl, h2⟩ := h
  exact ⟨cap, cur, fr, h1, hg, h2⟩
theorem Buf.bufO {t : TypeId} {g : Nat} {v : Value} {b : Bytes} {w : World} (h : Buf t w g v b) : ∃ o, w.heap[g]? = some o ∧ BufO t g o v b := by
  obtain ⟨cap, cur, fr, h1, h2, h3⟩ := h
  exact ⟨_, h2, cap, cur, fr, h1, rfl, h3⟩
end Go.Lz
namespace Go.Proofs.Ytbnoebdpbpjbkaa
open Go.RowKit Go.Lz
section
variable {w0 w : World} {p q : Nat} {S : WalS} {D : DevS} {L : Locals}

/-- The call hands back v; the thing is T. -/
def Did (w0 w : World) (T : World → (Nat → Prop) → Prop) (L : Locals) (v : Value) (e : Ending) (w' : World) : Prop := e = .returned v ∧ Own w0 w' T L ∧ w.heap.size ≤ w'.heap.size

theorem did_err {r : Int × WalS} {F : Nat → Prop} {e : Ending} {w' : World} (hgo : ∀ {w' : World} {T' : World → (Nat → Prop) → Prop}, T' w' (ext F w w') → Chg F w w' → Own w0 w' T' L) (h : WErr w p q r F e w') : Did w0 w (TStore p q r.2) L (.int .i64 r.1) e w' := ⟨h.1, hgo h.2.1 h.2.2, h.2.2.size⟩

theorem write4 (h : Own w0 w (TStore p q S) L) {v : Value} {b : Bytes} {G : Nat → Prop} (hv : Src 5 w G v b) (i : Int) : Calls Try.prog 40 #[Dptr p, .int .i64 i, v] w (Did w0 w (TStore p q (S.write i b).2) L (.int .i64 (S.write i b).1)) := by
  obtain ⟨F, hS, _, hgo⟩ := h.step
  exact (wwrite_any hS hv i).mono fun e w' h => did_err hgo h
theorem sync4 (h : Own w0 w (TStore p q S) L) : Calls Try.prog 43 #[Dptr p] w (Did w0 w (TStore p q S.sync.2) L (.int .i64 S.sync.1)) := by
  obtain ⟨F, hS, _, hgo⟩ := h.step
  exact (sync_any hS).mono fun e w' h => did_err hgo h
theorem commit4 (h : Own w0 w (TStore p q S) L) : Calls Try.prog 42 #[Dptr p] w (Did w0 w (TStore p q S.commit.2) L (.int .i64 S.commit.1)) := by
  obtain ⟨F, hS, _, hgo⟩ := h.step
  exact (commit_any hS).mono fun e w' h => did_err hgo h
theorem abort4 (h : Own w0 w (TStore p q S) L) : Calls Try.prog 48 #[Dptr p] w (Did w0 w (TStore p q S.aborted) L (.tuple #[])) := by
  obtain ⟨F, hS, _, hgo⟩ := h.step
  exact (abort_any hS).mono fun e w' h => ⟨h.1, hgo h.2.1 h.2.2, h.2.2.size⟩
theorem commits4 (h : Own w0 w (TStore p q S) L) : Calls Try.prog 47 #[Dptr p] w (Did w0 w (TStore p q S) L (.tuple #[.int .i64 S.all, .int .i64 S.lasting])) := by
  obtain ⟨F, hS, _, hgo⟩ := h.step
  exact (commits_any hS).mono fun e w' h2 => ⟨h2.1, h.below (keepsStore _ _ _) h2.2, h2.2.size⟩
theorem size4 (h : Own w0 w (TStore p q S) L) : Calls Try.prog 75 #[Dptr p] w fun e w' => e = .returned (.int .i64 (S.size : Int)) ∧ w = w' := by
  obtain ⟨F, ⟨Fd, Fs, mn, mw, vn, vw, cn, cw, h, _⟩, _⟩ := h.step
  exact wsize_any h

/-- A read: nothing and an error; or a new local row. -/
def ReadDid (w0 w : World) (p q : Nat) (S : WalS) (L : Locals) (i : Int) (e : Ending) (w' : World) : Prop :=
  (S.wrong i ≠ 0 ∧ e = .returned (.tuple #[.slice none 0 0, .int .i64 (S.wrong i)]) ∧ w = w') ∨
  (S.wrong i = 0 ∧ ∃ v g o, e = .returned (.tuple #[v, .int .i64 0]) ∧ BufO 5 g o v (S.get i.toNat) ∧ w.heap.size ≤ g ∧ Own w0 w' (TStore p q (S.asked i.toNat)) (upd L g (some o)) ∧ w.heap.size ≤ w'.heap.size)

theorem read4 (h : Own w0 w (TStore p q S) L) (i : Int) : Calls Try.prog 45 #[Dptr p, .int .i64 i] w (ReadDid w0 w p q S L i) := by
  have hsz := h.size
  obtain ⟨F, hS, hF, hb, hL⟩ := h
  refine (wread_any hS i).mono ?_
  rintro e w' (⟨h1, h2, h3⟩ | ⟨h1, v, g, rfl, hdat, hg, hS', hC⟩)
  · exact .inl ⟨h1, h2, h3⟩
  · obtain ⟨g', hg', hbuf⟩ := hdat.buf
    have hgg : g' = g := hg'
    subst hgg
    obtain ⟨o, ho, hbo⟩ := hbuf.bufO
    refine .inr ⟨h1, v, g', o, rfl, hbo, hg, ⟨F, hS', fun k hk => ⟨(hF k hk).1, Nat.lt_of_lt_of_le (hF k hk).2 hC.size⟩, hb.trans (hC.belowB hb.size (fun j hj h => by have := (hF j h).1; omega)), fun b o2 hb2 => ?_⟩, hC.size⟩
    by_cases e : b = g'
    · subst e
      rw [upd_same] at hb2
      cases hb2
      exact ⟨by omega, fun h => by have := (hF _ h).2; omega, ho⟩
    · rw [upd_other _ e] at hb2
      exact ⟨(hL b o2 hb2).1, (hL b o2 hb2).2.1, (hC.block b (lt_of_heap (hL b o2 hb2).2.2) (hL b o2 hb2).2.1).trans (hL b o2 hb2).2.2⟩

/-- A good read. -/
def ReadOk (w0 w : World) (T : World → (Nat → Prop) → Prop) (L : Locals) (b : Bytes) (e : Ending) (w' : World) : Prop :=
  ∃ v g o, e = .returned (.tuple #[v, .int .i64 0]) ∧ BufO 5 g o v b ∧ w.heap.size ≤ g ∧ Own w0 w' T (upd L g (some o)) ∧ w.heap.size ≤ w'.heap.size

theorem read4_ok (h : Own w0 w (TStore p q S) L) {i : Int} {k : Nat} (hi : i = (k : Int)) (hw : S.wrong (k : Int) = 0) {b : Bytes} (hb : S.get k = b) : Calls Try.prog 45 #[Dptr p, .int .i64 i] w (ReadOk w0 w (TStore p q (S.asked k)) L b) := by
  subst hi hb
  refine (read4 h (k : Int)).mono ?_
  rintro e w' (⟨h1, _⟩ | ⟨h1, v, g, o, h2, h3, h4, h5, h6⟩)
  · exact absurd hw h1
  · rw [Int.toNat_natCast] at h3 h5
    exact ⟨v, g, o, h2, h3, h4, h5, h6⟩

/-! ### the device below a store; a device alone -/
/-- A call of the device below the store. -/
theorem dev_step (h : Own w0 w (TStore p q S) L) : ∃ F, DevAt Try.prog w q S.dev F ∧ (∀ k, F k → w0.heap.size ≤ k ∧ k < w.heap.size) ∧ ∀ {w' : World} {D : DevS} {F' : Nat → Prop}, DevAt Try.prog w' q D F' → Chg F w w' → (∀ k, F' k → F k ∨ w.heap.size ≤ k) → D.n = S.dev.n → Own w0 w' (TStore p q { S with dev := D }) L := by
  obtain ⟨F, hS, hF, hgo⟩ := h.step
  obtain ⟨Fd, hD, hFd, hst⟩ := StoreAt.open_dev hS
  exact ⟨Fd, hD, fun k hk => hF k (hFd k hk), fun {w' D F'} hD' hc hF' hn => hgo (hst hD' hc hF' hn) (hc.mono fun j _ e => hFd j e)⟩

theorem toDev (h : Own w0 w (TStore p q S) L) : Own w0 w (TDev q S.dev) L := h.view fun _ hS _ => StoreAt.dev hS

theorem dead4 (h : Own w0 w (TStore p q S) L) : Calls Try.prog 20 #[Dptr q] w fun e w' => e = .returned (.bool S.dev.dead) ∧ w = w' := by
  obtain ⟨F, hD, _⟩ := dev_step h
  exact dead_any hD
theorem dead1 (h : Own w0 w (TDev q D) L) : Calls Try.prog 20 #[Dptr q] w fun e w' => e = .returned (.bool D.dead) ∧ w = w' := by
  obtain ⟨F, hD, _⟩ := h.step
  exact dead_any hD

theorem fuse4 (h : Own w0 w (TStore p q S) L) (k : Int) (hk : k ≤ 9223372036854775807) : Calls Try.prog 18 #[Dptr q, .int .i64 k] w (Did w0 w (TStore p q { S with dev := S.dev.fused k }) L (.tuple #[])) := by
  obtain ⟨F, hD, hF, hgo⟩ := dev_step h
  refine (fuse_any hD k hk).mono ?_
  rintro e w' ⟨h1, h2, h3⟩
  exact ⟨h1, hgo h2 (h3.mono fun j _ e => by subst e; exact hD.Fp) (fun _ h => .inl h) rfl, h3.size⟩
theorem fuse1 (h : Own w0 w (TDev q D) L) (k : Int) (hk : k ≤ 9223372036854775807) : Calls Try.prog 18 #[Dptr q, .int .i64 k] w (Did w0 w (TDev q (D.fused k)) L (.tuple #[])) := by
  obtain ⟨F, hD, hF, hgo⟩ := h.step
  refine (fuse_any hD k hk).mono ?_
  rintro e w' ⟨h1, h2, h3⟩
  exact ⟨h1, hgo (h2.mono (fun _ h => .inl h) (fun k h => h.elim (h2.lt k) (·.2))) (h3.mono fun j _ e => by subst e; exact hD.Fp), h3.size⟩

/-- A crash; what is kept stands in a row of the caller's. -/
theorem crash1 (h : Own w0 w (TDev q D) L) (flip : Bool) {v : Value} {l : List Int} {G : Nat → Prop} (hv : IntsAt w0 G v l) : Calls Try.prog 24 #[Dptr q, .bool flip, v] w (Did w0 w (TDev q (D.crashed flip l)) L (.tuple #[])) := by
  have hb := h.base
  obtain ⟨F, hD, hF, hgo⟩ := h.step
  have hv' := (hv.here).chg (M := fun _ => False) (Chg.of_below hb) (fun _ _ _ h => h)
  refine (crash_any' hD flip hv' (fun k hk h => by have := (hF k h).1; omega)).mono ?_
  rintro e w' ⟨h1, h2, h3⟩
  exact ⟨h1, hgo h2 h3, h3.size⟩
theorem nilInts (w : World) : IntsAt w (fun _ => False) (.slice none 0 0) [] := ⟨none, 0, 0, rfl, rfl, by omega, .inl rfl⟩

/-- An opening. -/
theorem open1 (h : Own w0 w (TDev q D) L) : Calls Try.prog 44 #[Dptr q] w fun e w' =>
    (D.opened.1 = 0 ∧ ∃ p, Did w0 w (TStore p q (WalS.new D.opened.2)) L (.tuple #[Dptr p, .int .i64 0]) e w') ∨ (D.opened.1 ≠ 0 ∧ Did w0 w (TDev q D.opened.2) L (.tuple #[.pointer none, .int .i64 D.opened.1]) e w') := by
  obtain ⟨F, hD, hF, hgo⟩ := h.step
  refine (wopen_any hD).mono ?_
  rintro e w' (⟨h0, p, h1, h2, h3⟩ | ⟨h0, h1, h2, h3⟩)
  · exact .inl ⟨h0, p, h1, hgo h2 h3, h3.size⟩
  · exact .inr ⟨h0, h1, hgo h2 h3, h3.size⟩
theorem open1_ok (h : Own w0 w (TDev q D) L) (ho : D.opened.1 = 0) : Calls Try.prog 44 #[Dptr q] w fun e w' => ∃ p, Did w0 w (TStore p q (WalS.new D.opened.2)) L (.tuple #[Dptr p, .int .i64 0]) e w' :=
  (open1 h).mono fun _ _ h => h.elim (·.2) (fun h => absurd ho h.1)
end
end Go.Proofs.Ytbnoebdpbpjbkaa
