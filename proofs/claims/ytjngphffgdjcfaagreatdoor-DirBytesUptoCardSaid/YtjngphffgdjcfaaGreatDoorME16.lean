/-
  The texts Tb1 InG InH InI InJ, one behind the other.
-/
import Derived.Test.YtjngphffgdjcfaaGreatDoorME15
import Derived.Deep.RegionHeld
import Derived.Deep.RegionLaw
/-
  A base's calls, as a statement's function meets them: it owns the store; the base is three local blocks.
-/
namespace Go.Lz
open Go.RowKit Go.Proofs.YtjngphffgdjcfaaGreatDoor
section
variable {S : WalS} {N cc m : Nat} {g : Nat → Bytes} {A : Nodes} {g0 : Nat → Bytes} {c0 d0 : Nat} {h0 : Nat → Nat → Bytes}
theorem Live.wc (h : Live S g0) (c : Int) : Live (S.wc c) g0 := ⟨⟨h.ok.n, h.ok.now, h.ok.wait⟩, ⟨h.dok.n, h.dok.fuse, h.dok.last, h.dok.wait⟩, h.dead, h.ddead, h.quiet.core rfl rfl rfl, h.waitN, h.nowN⟩
theorem Rec.wc (r : Rec S N c0 d0 h0) (c : Int) : Rec (S.wc c) N c0 d0 h0 := by
  obtain ⟨g0, hl, h1, h2⟩ := r.ex
  exact ⟨⟨g0, hl.wc c, h1, h2⟩, r.size, r.all, r.last, r.le, r.small⟩
theorem Kp.wc (K : Kp S N g cc) (c : Int) : Kp (S.wc c) N g cc := by
  obtain ⟨h, c0, d, r, hc, hg⟩ := K.ex
  exact ⟨⟨h, c0, d, r.wc c, hc, hg⟩, ⟨K.well.dead, K.well.fuse⟩⟩
theorem Kb.wc (K : Kb S N g cc m) (c : Int) : Kb (S.wc c) N g cc m := ⟨K.kp.wc c, K.few⟩
theorem BaseP.wc (B : BaseP S N g cc m A) (c : Int) : BaseP (S.wc c) N g cc m A := B.same (B.kb.wc c) (fun _ _ => rfl)
/-- A call works on the thing: its blocks, or new ones, are the thing's then; a new block that is none of them may be a local one. -/
theorem Own.stepG {w0 w : World} {T : World → (Nat → Prop) → Prop} {L : Locals} (h : Own w0 w T L) : ∃ F, T w F ∧ (∀ k, F k → w0.heap.size ≤ k ∧ k < w.heap.size) ∧ (∀ b o, L b = some o → ¬ F b ∧ w.heap[b]? = some o) ∧
    ∀ {w' : World} {T' : World → (Nat → Prop) → Prop} {F' : Nat → Prop}, T' w' F' → (∀ k, F' k → F k ∨ w.heap.size ≤ k) → (∀ k, F' k → k < w'.heap.size) → Chg F w w' →
      Own w0 w' T' L ∧ ∀ g o, w.heap.size ≤ g → ¬ F' g → w'.heap[g]? = some o → Own w0 w' T' (upd L g (some o)) := by
  obtain ⟨F, hT, hF, hb, hL⟩ := h
  refine ⟨F, hT, hF, fun b o ho => (hL b o ho).2, fun {w' T' F'} hT' h1 h2 hc => ?_⟩
  have hs := hb.size
  have hF' : ∀ k, F' k → w0.heap.size ≤ k ∧ k < w'.heap.size := fun k hk => by
    refine ⟨(h1 k hk).elim (fun h => (hF k h).1) (fun h => by omega), h2 k hk⟩
  have hb' : Below w0.heap.size w0 w' := hb.trans (hc.belowB hs (fun j hj h => by have := (hF j h).1; omega))
  have hL' : ∀ b o, L b = some o → w0.heap.size ≤ b ∧ ¬ F' b ∧ w'.heap[b]? = some o := fun b o ho => by
    obtain ⟨h3, h4, h5⟩ := hL b o ho
    have h6 := lt_of_heap h5
    exact ⟨h3, fun h => (h1 b h).elim h4 (fun h => by omega), (hc.block b h6 h4).trans h5⟩
  refine ⟨⟨F', hT', hF', hb', hL'⟩, fun g o hg hn ho => ⟨F', hT', hF', hb', fun b o' ho' => ?_⟩⟩
  by_cases e : b = g
  · subst e
    rw [upd_same] at ho'
    cases ho'
    exact ⟨by omega, hn, ho⟩
  · rw [upd_other _ e] at ho'
    exact hL' b o' ho'
end
end Go.Lz
namespace Go.Proofs.YtjngphffgdjcfaaGreatDoor
open Go.RowKit Go.Lz
section
variable {w0 w : World} {p q pb pn pk n N cc m : Nat} {A A0 : Nodes} {a : NodeA} {L : Locals} {G : Nat → Prop}
/-- The store holds the nodes A; A0 were committed. -/
def TB (p q N : Nat) (A A0 : Nodes) (cc m : Nat) : World → (Nat → Prop) → Prop := fun w F => ∃ S g, StoreC Tryz.prog w p q S F ∧ BaseP S N g cc m A ∧ Done N g A0
theorem keepsTB (p q N : Nat) (A A0 : Nodes) (cc m : Nat) : Keeps (TB p q N A A0 cc m) := fun _ _ _ _ ⟨S, g, h, B, D⟩ hc hM => ⟨S, g, StoreC.chg h hc hM, B, D⟩
def baseObj (p pn pk N : Nat) : Obj := .cells #[Dptr p, Dptr pn, Dptr pk, .int .i64 ((N - 300 : Nat) : Int)] 66 (0, 0)
structure BaseL (L : Locals) (pb p pn pk N : Nat) : Prop where
  b : L pb = some (baseObj p pn pk N)
  n : L pn = some (mapObj p 0 64)
  k : L pk = some (mapObj p 1 (N - 300))
/-- Blocks that are the caller's, or local. -/
def Mine (w0 : World) (L : Locals) (k : Nat) : Prop := k < w0.heap.size ∨ ∃ o, L k = some o
theorem base6 (h : Own w0 w (TB p q N A A0 cc m) L) (hL : BaseL L pb p pn pk N) : ∃ F S g, BaseIn w pb p q pn pk S F ∧ BaseP S N g cc m A ∧ Done N g A0 ∧ (∀ k, Mine w0 L k → ¬ F k ∧ k < w.heap.size) ∧
    ∀ {w' : World} {F' : Nat → Prop} {S' : WalS} {g' : Nat → Bytes} {cc' m' : Nat} {A' A0' : Nodes}, BaseIn w' pb p q pn pk S' F' → (∀ k, F' k → F k ∨ w.heap.size ≤ k) → Chg F w w' → BaseP S' N g' cc' m' A' → Done N g' A0' →
      Own w0 w' (TB p q N A' A0' cc' m') L ∧ ∀ g o, w.heap.size ≤ g → ¬ F' g → w'.heap[g]? = some o → Own w0 w' (TB p q N A' A0' cc' m') (upd L g (some o)) := by
  have hs := h.size
  obtain ⟨F, ⟨S, g, hS, B, D⟩, hF, hl, hgo⟩ := h.stepG
  have hall : S.allB = N - 300 := by unfold WalS.allB; rw [B.kb.size]
  refine ⟨F, S, g, ⟨hS, ?_, (hl _ _ hL.n).2, ?_, (hl _ _ hL.b).1, (hl _ _ hL.n).1, (hl _ _ hL.k).1, by rw [B.kb.size]; exact B.big, B.kb.kp.isDead⟩, B, D, fun k hk => ?_, fun hB h1 hC B' D' => hgo ⟨_, _, hB.sto, B', D'⟩ h1 hB.sto.lt hC⟩
  · rw [hall]; exact (hl _ _ hL.b).2
  · rw [hall]; exact (hl _ _ hL.k).2
  · rcases hk with hk | ⟨o, hk⟩
    · exact ⟨fun h => by have := (hF k h).1; omega, by omega⟩
    · exact ⟨(hl k o hk).1, lt_of_heap (hl k o hk).2⟩
theorem make6_bad {vS vI : Value} {s l : List Int} {kind room : Int} (h : Own w0 w (TB p q N A A0 cc m) L) (hL : BaseL L pb p pn pk N) (hS : IntsAt w G vS s) (hI : IntsAt w G vI l) (hb : (kind ≠ 1 ∧ kind ≠ 2) ∨ (isSetB s && isSetB l) = false ∨ room < 0 ∨ 256 < room) :
    Calls Tryz.prog 8 #[Dptr pb, .int .i64 kind, .agg #[vS, vI], .int .i64 room] w (Did w0 w (TB p q N A A0 cc m) L (.tuple #[.int .i64 0, .int .i64 1])) := by
  obtain ⟨F, S, g, hB, B, D, _, hgo⟩ := base6 h hL
  refine (make_any hB hS hI kind room).mono ?_
  rw [BaseP.make_bad (S := S) hb]
  rintro e w' ⟨he, ⟨F', hB', hF'⟩, hC⟩
  exact ⟨he, (hgo hB' hF' hC B D).1, hC.size⟩
theorem make6_full {vS vI : Value} {s l : List Int} {kind room : Nat} (h : Own w0 w (TB p q N A A0 cc m) L) (hL : BaseL L pb p pn pk N) (hS : IntsAt w G vS s) (hI : IntsAt w G vI l) (hs : isSetB s = true) (hl : isSetB l = true) (hk : kind = 1 ∨ kind = 2) (hr : room ≤ 256) (hm : m + 4 ≤ 111) (hall : ∀ n, 1 ≤ n → n ≤ 64 → (A n).isSome = true) :
    Calls Tryz.prog 8 #[Dptr pb, .int .i64 (kind : Int), .agg #[vS, vI], .int .i64 (room : Int)] w (Did w0 w (TB p q N A A0 cc m) L (.tuple #[.int .i64 0, .int .i64 60])) := by
  obtain ⟨F, S, g, hB, B, D, _, hgo⟩ := base6 h hL
  refine (make_any hB hS hI kind room).mono ?_
  rcases B.make hs hl hk hr hm with ⟨_, e⟩ | ⟨n, S', h1, h2, h3, _⟩
  · rw [e]
    rintro e w' ⟨he, ⟨F', hB', hF'⟩, hC⟩
    exact ⟨he, (hgo hB' hF' hC B D).1, hC.size⟩
  · have := hall n h1 h2
    rw [h3] at this
    cases this
theorem make6_ok {vS vI : Value} {s l : List Int} {kind room : Nat} (h : Own w0 w (TB p q N A A0 cc m) L) (hL : BaseL L pb p pn pk N) (hS : IntsAt w G vS s) (hI : IntsAt w G vI l) (hs : isSetB s = true) (hl : isSetB l = true) (hk : kind = 1 ∨ kind = 2) (hr : room ≤ 256) (hm : m + 4 ≤ 111) (h1 : 1 ≤ n) (h2 : n ≤ 64) (h3 : A n = none) (h4 : ∀ n', 1 ≤ n' → n' < n → (A n').isSome = true) :
    Calls Tryz.prog 8 #[Dptr pb, .int .i64 (kind : Int), .agg #[vS, vI], .int .i64 (room : Int)] w (Did w0 w (TB p q N (upd A n (some ⟨kind, s, l, room, []⟩)) A0 cc (m + 4)) L (.tuple #[.int .i64 (n : Int), .int .i64 0])) := by
  obtain ⟨F, S, g, hB, B, D, _, hgo⟩ := base6 h hL
  refine (make_any hB hS hI kind room).mono ?_
  rcases B.make hs hl hk hr hm with ⟨hall, _⟩ | ⟨n', S', k1, k2, k3, k4, e, B'⟩
  · have := hall n h1 h2
    rw [h3] at this
    cases this
  · obtain rfl : n' = n := by
      rcases Nat.lt_trichotomy n' n with hlt | rfl | hlt
      · have := h4 n' k1 hlt; rw [k3] at this; cases this
      · rfl
      · have := k4 n h1 hlt; rw [h3] at this; cases this
    rw [e]
    rintro e w' ⟨he, ⟨F', hB', hF'⟩, hC⟩
    exact ⟨he, (hgo hB' hF' hC B' D).1, hC.size⟩
/-- A node's number is one that is there. -/
def IsN (A : Nodes) (z : Int) : Prop := 1 ≤ z ∧ (A z.toNat).isSome = true
theorem BaseP.nodeE_no {S : WalS} {g : Nat → Bytes} (B : BaseP S N g cc m A) {z : Int} (h : ¬ IsN A z) : S.nodeE z = 61 := by
  rw [B.nodeE]
  exact if_neg h
theorem BaseP.sizes {S : WalS} {g : Nat → Bytes} (B : BaseP S N g cc m A) {z : Int} (h : S.nodeE z = 0) : nSize (S.nodeB z.toNat) ≤ 55296 ∧ nRoom (S.nodeB z.toNat) ≤ 864 := by
  have h1 : IsN A z := by
    apply Classical.byContradiction
    intro hn
    rw [BaseP.nodeE_no B hn] at h
    cases h
  obtain ⟨a, ha⟩ := Option.isSome_iff_exists.1 h1.2
  have hd := B.node _ a ha
  have h2 := hd.ok.size
  have h3 := hd.ok.room
  omega
section
variable {data : Bytes} {ad : Option Addr} {cp Ln : Nat}
theorem write6_none {z : Int} {at' : Int} (h : Own w0 w (TB p q N A A0 cc m) L) (hL : BaseL L pb p pn pk N) (hl : Ln = data.length) (hv : data ≠ [] → Src 5 w G (.slice ad Ln cp) data) (hG : ∀ k, G k → Mine w0 L k) (hdl : Ln ≤ maxLen) (hz : ¬ IsN A z) :
    Calls Tryz.prog 9 #[Dptr pb, .int .i64 z, .int .i64 at', .slice ad Ln cp] w (Did w0 w (TB p q N A A0 cc m) L (.int .i64 61)) := by
  obtain ⟨F, S, g, hB, B, D, hM, hgo⟩ := base6 h hL
  refine (iwrite_any hB z at' hl (fun h => ⟨_, hv h⟩) (fun k hk => hM k (hG k hk)) (fun e => BaseP.sizes B e) hdl).mono ?_
  rw [B.write_none (by rw [BaseP.nodeE_no B hz]; decide)]
  rintro e w' ⟨he, ⟨F', hB', hF'⟩, hC⟩
  exact ⟨he, (hgo hB' hF' hC B D).1, hC.size⟩
theorem write6_neg {at' : Int} (h : Own w0 w (TB p q N A A0 cc m) L) (hL : BaseL L pb p pn pk N) (hl : Ln = data.length) (hv : data ≠ [] → Src 5 w G (.slice ad Ln cp) data) (hG : ∀ k, G k → Mine w0 L k) (hdl : Ln ≤ maxLen) (ha : A n = some a) (hn : at' < 0) :
    Calls Tryz.prog 9 #[Dptr pb, .int .i64 (n : Int), .int .i64 at', .slice ad Ln cp] w (Did w0 w (TB p q N A A0 cc m) L (.int .i64 1)) := by
  obtain ⟨F, S, g, hB, B, D, hM, hgo⟩ := base6 h hL
  refine (iwrite_any hB n at' hl (fun h => ⟨_, hv h⟩) (fun k hk => hM k (hG k hk)) (fun e => BaseP.sizes B e) hdl).mono ?_
  have e : S.writeN n at' data = (1, S) := by unfold WalS.writeN; rw [if_neg (by rw [B.nodeE_some ha]; decide), if_pos hn]
  rw [e]
  rintro e w' ⟨he, ⟨F', hB', hF'⟩, hC⟩
  exact ⟨he, (hgo hB' hF' hC B D).1, hC.size⟩
theorem write6_room {at' : Nat} (h : Own w0 w (TB p q N A A0 cc m) L) (hL : BaseL L pb p pn pk N) (hl : Ln = data.length) (hv : data ≠ [] → Src 5 w G (.slice ad Ln cp) data) (hG : ∀ k, G k → Mine w0 L k) (hdl : Ln ≤ maxLen) (ha : A n = some a) (hr : 64 * a.room < data.length ∨ 64 * a.room < at' + data.length) :
    Calls Tryz.prog 9 #[Dptr pb, .int .i64 (n : Int), .int .i64 (at' : Int), .slice ad Ln cp] w (Did w0 w (TB p q N A A0 cc m) L (.int .i64 72)) := by
  obtain ⟨F, S, g, hB, B, D, hM, hgo⟩ := base6 h hL
  refine (iwrite_any hB n at' hl (fun h => ⟨_, hv h⟩) (fun k hk => hM k (hG k hk)) (fun e => BaseP.sizes B e) hdl).mono ?_
  rw [B.write_room ha hr]
  rintro e w' ⟨he, ⟨F', hB', hF'⟩, hC⟩
  exact ⟨he, (hgo hB' hF' hC B D).1, hC.size⟩
theorem BaseP.writeN_in {S : WalS} {g : Nat → Bytes} (B : BaseP S N g cc m A) (ha : A n = some a) {at' : Nat} (hr : at' + data.length ≤ 64 * a.room) :
    S.writeN n at' data = if data = [] then (0, S) else if 6144 < at' + data.length - min at' a.data.length then (5, S) else S.writeB n (S.nodeB n) at' data := by
  have hd := B.node n a ha
  unfold WalS.writeN
  rw [if_neg (by rw [B.nodeE_some ha]; decide), if_neg (by omega), Int.toNat_natCast, Int.toNat_natCast, hd.room, hd.size, if_neg (by omega)]
theorem write6_empty {at' : Nat} (h : Own w0 w (TB p q N A A0 cc m) L) (hL : BaseL L pb p pn pk N) (hl : Ln = 0) (ha : A n = some a) (hr : at' ≤ 64 * a.room) :
    Calls Tryz.prog 9 #[Dptr pb, .int .i64 (n : Int), .int .i64 (at' : Int), .slice ad Ln cp] w (Did w0 w (TB p q N A A0 cc m) L (.int .i64 0)) := by
  obtain ⟨F, S, g, hB, B, D, hM, hgo⟩ := base6 h hL
  refine (iwrite_any (data := []) (G := fun _ => False) hB n at' hl (fun h => absurd rfl h) (fun k hk => hk.elim) (fun e => BaseP.sizes B e) (by rw [hl]; decide)).mono ?_
  rw [BaseP.writeN_in (data := []) B ha (by simpa using hr), if_pos rfl]
  rintro e w' ⟨he, ⟨F', hB', hF'⟩, hC⟩
  exact ⟨he, (hgo hB' hF' hC B D).1, hC.size⟩
theorem write6_big {at' : Nat} (h : Own w0 w (TB p q N A A0 cc m) L) (hL : BaseL L pb p pn pk N) (hl : Ln = data.length) (hv : data ≠ [] → Src 5 w G (.slice ad Ln cp) data) (hG : ∀ k, G k → Mine w0 L k) (hdl : Ln ≤ maxLen) (ha : A n = some a) (hr : at' + data.length ≤ 64 * a.room) (hne : data ≠ []) (hb : 6144 < at' + data.length - min at' a.data.length) :
    Calls Tryz.prog 9 #[Dptr pb, .int .i64 (n : Int), .int .i64 (at' : Int), .slice ad Ln cp] w (Did w0 w (TB p q N A A0 cc m) L (.int .i64 5)) := by
  obtain ⟨F, S, g, hB, B, D, hM, hgo⟩ := base6 h hL
  refine (iwrite_any hB n at' hl (fun h => ⟨_, hv h⟩) (fun k hk => hM k (hG k hk)) (fun e => BaseP.sizes B e) hdl).mono ?_
  rw [BaseP.writeN_in B ha hr, if_neg hne, if_pos hb]
  rintro e w' ⟨he, ⟨F', hB', hF'⟩, hC⟩
  exact ⟨he, (hgo hB' hF' hC B D).1, hC.size⟩
/-- There is room for it. -/
theorem write6_ok {at' : Nat} (h : Own w0 w (TB p q N A A0 cc m) L) (hL : BaseL L pb p pn pk N) (hl : Ln = data.length) (hv : data ≠ [] → Src 5 w G (.slice ad Ln cp) data) (hG : ∀ k, G k → Mine w0 L k) (hdl : Ln ≤ maxLen) (ha : A n = some a) (hr : at' + data.length ≤ 64 * a.room) (hne : data ≠ []) (hb : at' + data.length - min at' a.data.length ≤ 6144) (hm : m ≤ 5) (hfit : allOf A + withN (cntN (at' + data.length)) ≤ N - 300) :
    Calls Tryz.prog 9 #[Dptr pb, .int .i64 (n : Int), .int .i64 (at' : Int), .slice ad Ln cp] w (Did w0 w (TB p q N (upd A n (some { a with data := wrB a.data at' data })) A0 cc (m + 106)) L (.int .i64 0)) := by
  obtain ⟨F, S, g, hB, B, D, hM, hgo⟩ := base6 h hL
  refine (iwrite_any hB n at' hl (fun h => ⟨_, hv h⟩) (fun k hk => hM k (hG k hk)) (fun e => BaseP.sizes B e) hdl).mono ?_
  rcases B.write_ok ha hr hne hb hm with ⟨hf, _⟩ | ⟨S', e, B'⟩
  · have := B.free
    omega
  · rw [e]
    rintro e w' ⟨he, ⟨F', hB', hF'⟩, hC⟩
    exact ⟨he, (hgo hB' hF' hC B' D).1, hC.size⟩
end
/-- Bytes that a call hands back: none, or a row that is a local block then. -/
def OutO (w0 w w' : World) (T : World → (Nat → Prop) → Prop) (L : Locals) (v : Value) (out : Bytes) : Prop :=
  (out = [] ∧ v = .slice none 0 0 ∧ Own w0 w' T L) ∨ ∃ g o, BufO 5 g o v out ∧ w.heap.size ≤ g ∧ Own w0 w' T (upd L g (some o))
theorem OutO.own {w' : World} {T : World → (Nat → Prop) → Prop} {v : Value} {out : Bytes} (h : OutO w0 w w' T L v out) (hw : Own w0 w T L) : Own w0 w' T L := by
  rcases h with ⟨_, _, h⟩ | ⟨g, o, _, hg, h⟩
  · exact h
  · exact h.drop (hw.none_ hg)
def RDid (w0 w : World) (T : World → (Nat → Prop) → Prop) (L : Locals) (out : Bytes) (er : Int) (e : Ending) (w' : World) : Prop :=
  ∃ v, e = .returned (.tuple #[v, .int .i64 er]) ∧ OutO w0 w w' T L v out ∧ w.heap.size ≤ w'.heap.size
theorem iread6 {z at' k : Int} {er : Int} {out : Bytes} (h : Own w0 w (TB p q N A A0 cc m) L) (hL : BaseL L pb p pn pk N) (hr : ∀ S g, BaseP S N g cc m A → S.readN z at' k = (er, out)) :
    Calls Tryz.prog 12 #[Dptr pb, .int .i64 z, .int .i64 at', .int .i64 k] w (RDid w0 w (TB p q N A A0 cc m) L out er) := by
  obtain ⟨F, S, g, hB, B, D, hM, hgo⟩ := base6 h hL
  refine (iread_any hB z at' k (fun e => (BaseP.sizes B e).1)).mono ?_
  rintro e w' ⟨F', v, ⟨hB', hF', hC⟩, he, ho⟩
  rw [hr S g B] at he ho
  obtain ⟨h1, h2⟩ := hgo hB' hF' hC B D
  refine ⟨v, he, ?_, hC.size⟩
  rcases ho with ⟨e1, e2⟩ | ⟨gg, hd, hg, hn⟩
  · exact .inl ⟨e1, e2, h1⟩
  · obtain ⟨g', rfl, hbuf⟩ := hd.buf
    obtain ⟨o, ho, hbo⟩ := hbuf.bufO
    exact .inr ⟨_, o, hbo, hg, h2 _ o hg hn ho⟩
theorem read6_none {z at' k : Int} (h : Own w0 w (TB p q N A A0 cc m) L) (hL : BaseL L pb p pn pk N) (hz : ¬ IsN A z) : Calls Tryz.prog 12 #[Dptr pb, .int .i64 z, .int .i64 at', .int .i64 k] w (RDid w0 w (TB p q N A A0 cc m) L [] 61) :=
  iread6 h hL fun S g B => by unfold WalS.readN; rw [BaseP.nodeE_no B hz, if_pos (by decide)]
theorem read6_neg {at' k : Int} (h : Own w0 w (TB p q N A A0 cc m) L) (hL : BaseL L pb p pn pk N) (ha : A n = some a) (hn : at' < 0 ∨ k < 0) : Calls Tryz.prog 12 #[Dptr pb, .int .i64 (n : Int), .int .i64 at', .int .i64 k] w (RDid w0 w (TB p q N A A0 cc m) L [] 1) :=
  iread6 h hL fun S g B => by unfold WalS.readN; rw [B.nodeE_some ha, if_neg (by decide), if_pos hn]
theorem read6_ok {at' k : Nat} (h : Own w0 w (TB p q N A A0 cc m) L) (hL : BaseL L pb p pn pk N) (ha : A n = some a) : Calls Tryz.prog 12 #[Dptr pb, .int .i64 (n : Int), .int .i64 (at' : Int), .int .i64 (k : Int)] w (RDid w0 w (TB p q N A A0 cc m) L ((a.data.drop (min at' a.data.length)).take k) 0) :=
  iread6 h hL fun _ _ B => B.readN ha
theorem blocks6 (h : Own w0 w (TB p q N A A0 cc m) L) (hL : BaseL L pb p pn pk N) : Calls Tryz.prog 61 #[Dptr pb] w (Did w0 w (TB p q N A A0 cc m) L (.tuple #[.int .i64 ((N - 300 - allOf A : Nat) : Int), .int .i64 ((N - 300 : Nat) : Int)])) := by
  obtain ⟨F, S, g, hB, B, D, hM, hgo⟩ := base6 h hL
  refine (blocks_any hB).mono ?_
  rintro e w' ⟨he, ⟨F', hB', hF'⟩, hC⟩
  have h1 : S.freeB = N - 300 - allOf A := by have := B.free; omega
  have h2 : S.allB = N - 300 := by unfold WalS.allB; rw [B.kb.size]
  rw [h1, h2] at he
  exact ⟨he, (hgo hB' hF' hC B D).1, hC.size⟩
end
end Go.Proofs.YtjngphffgdjcfaaGreatDoor
/-
  A base's calls: Check.
-/
namespace Go.Lz
open Go.RowKit Go.Proofs.YtjngphffgdjcfaaGreatDoor
/-- Numbers in cells. -/
abbrev natsV (n : Nat) (u : Nat → Nat) : Array Value := vec n fun k => .int .i64 (u k : Int)
theorem natsV_set (n : Nat) (u : Nat → Nat) (k x : Nat) : (natsV n u).setIfInBounds k (.int .i64 (x : Int)) = natsV n (upd u k x) := by
  rw [vec_set]
  apply vec_congr
  intro j _
  by_cases e : j = k
  · subst e; simp
  · rw [upd_other _ e, upd_other _ e]
end Go.Lz
namespace Go.Proofs.YtjngphffgdjcfaaGreatDoor
open Go.RowKit Go.Lz
section
variable {w w0 : World} {pb p q pn pk px gb cap n q1 q3 gu : Nat} {S : WalS} {Fs : Nat → Prop} {b : Bytes} {u : Nat → Nat}
theorem mknats (W : World) (n : Nat) (hn : n ≤ 100000) : (Instr.makeSlice 32 (.int .i64 (n : Int)) (.int .i64 (n : Int))).run Tryz.prog W = .ok (.slice (some ⟨W.heap.size, 0, none⟩) n n) (W.alloc (.cells (natsV n fun _ => 0) 3)) := by
  have h : (Tryz.prog.info? 3).map (fun i => (i.zero, i.size, i.bytes)) = some (some (.int .i64 0), 1, 8) := by kernel_rfl
  obtain ⟨i, hi, hz, hs, hb⟩ := info_parts h
  exact make_one Tryz.underlying32 hi hz hs rfl W n (by rw [hb]; omega) (by omega)
set_option maxHeartbeats 2000000 in
set_option maxRecDepth 100000 in
theorem use_any {all k : Nat} (c1 : w.cell? ⟨q1, 0, none⟩ = some (Dptr pb)) (c3 : w.cell? ⟨pb, 3, none⟩ = some (.int .i64 (all : Int))) (cq : w.heap[q3]? = some (.cells #[.slice (some ⟨gu, 0, none⟩) (all + 1) (all + 1)] 32 (0, 0))) (cg : w.heap[gu]? = some (.cells (natsV (all + 1) u) 3 (0, 0))) (hk : 1 ≤ k ∧ k ≤ all) (hu : u k = 0) (hne : q3 ≠ gu) :
    Calls Tryz.prog 42 #[.int .i64 (k : Int), .pointer (some ⟨q1, 0, none⟩), .pointer (some ⟨q3, 0, none⟩)] w fun e w' => e = .returned (.bool true) ∧ w'.heap[gu]? = some (.cells (natsV (all + 1) (upd u k 1)) 3 (0, 0)) ∧ Chg (· = gu) w w' := by
  have cu : w.cell? ⟨q3, 0, none⟩ = some (.slice (some ⟨gu, 0, none⟩) (all + 1) (all + 1)) := cell_of cq 0
  have ck : w.cell? ⟨gu, k, none⟩ = some (.int .i64 0) := by
    rw [cell_of cg, vec_at _ (by omega), hu]; rfl
  have fk : w.frozen? ⟨gu, k, none⟩ = false := frozen_of cg k
  have k1 : k < all + 1 := by omega
  have n1 : ¬ (k : Int) < 1 := by omega
  have n2 : ¬ (all : Int) < (k : Int) := by omega
  have cu2 : (w.setCell ⟨gu, k, none⟩ (.int .i64 1)).cell? ⟨q3, 0, none⟩ = some (.slice (some ⟨gu, 0, none⟩) (all + 1) (all + 1)) := cell_of ((heap_set_other hne _).trans cq) 0
  have cgH : Hid _ := Lib.hid cg
  go_enter Tryz.func42, Tryz.ntmps42
  go_wp2_with fail
  go_ret
  have h2 := (Chg.refl (· = gu) w).own k (.int .i64 1)
  refine ⟨rfl, ?_, h2⟩
  rw [heap_set_same cgH.out k, ← natsV_set]
  rfl
end
end Go.Proofs.YtjngphffgdjcfaaGreatDoor
/-
  A base's calls: Check.
-/
namespace Go.Proofs.YtjngphffgdjcfaaGreatDoor
open Go.RowKit Go.Lz
section
variable {w w0 : World} {pb p q pn pk px gb cap n q1 q3 gu all : Nat} {S : WalS} {Fs G G' : Nat → Prop} {b : Bytes} {u : Nat → Nat}
/-- While all is checked: the base, who uses which block so far (u); G: blocks that nobody else changes. -/
structure CSt (w0 w : World) (pb p q pn pk q1 q3 gu all : Nat) (S : WalS) (Fs G : Nat → Prop) (u : Nat → Nat) : Prop where
  st : ∃ F, BaseIn w pb p q pn pk S F ∧ (∀ k, F k → Fs k ∨ w0.heap.size ≤ k) ∧ ∀ k, G k → ¬ F k ∧ k < w.heap.size
  gs : G q1 ∧ G q3 ∧ G gu
  b1 : w.heap[q1]? = some (.cells #[Dptr pb] 25 (0, 0))
  b3 : w.heap[q3]? = some (.cells #[.slice (some ⟨gu, 0, none⟩) (all + 1) (all + 1)] 32 (0, 0))
  bg : w.heap[gu]? = some (.cells (natsV (all + 1) u) 3 (0, 0))
  chg : Chg Fs w0 w
  le : w0.heap.size ≤ gu
  ne : q1 ≠ gu ∧ q3 ≠ gu
  old : pb < w0.heap.size ∧ pn < w0.heap.size ∧ pk < w0.heap.size
theorem CSt.c1 (h : CSt w0 w pb p q pn pk q1 q3 gu all S Fs G u) : w.cell? ⟨q1, 0, none⟩ = some (Dptr pb) := cell_of h.b1 0
theorem CSt.c3 (h : CSt w0 w pb p q pn pk q1 q3 gu all S Fs G u) : w.cell? ⟨q3, 0, none⟩ = some (.slice (some ⟨gu, 0, none⟩) (all + 1) (all + 1)) := cell_of h.b3 0
theorem CSt.cb (h : CSt w0 w pb p q pn pk q1 q3 gu all S Fs G u) : w.cell? ⟨pb, 3, none⟩ = some (.int .i64 (S.allB : Int)) := by
  obtain ⟨⟨F, hB, _⟩, _⟩ := h
  exact hB.c3
theorem CSt.cK (h : CSt w0 w pb p q pn pk q1 q3 gu all S Fs G u) : w.cell? ⟨pb, 2, none⟩ = some (Dptr pk) := by
  obtain ⟨⟨F, hB, _⟩, _⟩ := h
  exact hB.c2
theorem CSt.less (h : CSt w0 w pb p q pn pk q1 q3 gu all S Fs G u) (hG : ∀ k, G' k → G k) (hs : G' q1 ∧ G' q3 ∧ G' gu) : CSt w0 w pb p q pn pk q1 q3 gu all S Fs G' u := by
  obtain ⟨⟨F, hB, hF, hk⟩, _, h2, h3, h4, h5, h6, h7, h8⟩ := h
  exact ⟨⟨F, hB, hF, fun k e => hk k (hG k e)⟩, hs, h2, h3, h4, h5, h6, h7, h8⟩
/-- The base goes on, all of it in F. -/
theorem CSt.on {w' : World} {F F2 : Nat → Prop} (h : CSt w0 w pb p q pn pk q1 q3 gu all S Fs G u) (hF : ∀ k, F k → Fs k ∨ w0.heap.size ≤ k) (hk : ∀ k, G k → ¬ F k ∧ k < w.heap.size) (hB2 : BaseIn w' pb p q pn pk S F2) (hF2 : ∀ k, F2 k → F k ∨ w.heap.size ≤ k) (hC2 : Chg F w w') : CSt w0 w' pb p q pn pk q1 q3 gu all S Fs G u := by
  obtain ⟨_, hs, h2, h3, h4, h5, h6, h7, h8⟩ := h
  refine ⟨⟨F2, hB2, fun k e => (hF2 k e).elim (hF k) (fun h => .inr (Nat.le_trans h5.size h)), fun k e => ⟨fun e2 => (hF2 k e2).elim (hk k e).1 (fun h => by have := (hk k e).2; omega), Nat.lt_of_lt_of_le (hk k e).2 hC2.size⟩⟩, hs, (hC2.block _ (hk _ hs.1).2 (hk _ hs.1).1).trans h2, (hC2.block _ (hk _ hs.2.1).2 (hk _ hs.2.1).1).trans h3, (hC2.block _ (hk _ hs.2.2).2 (hk _ hs.2.2).1).trans h4, h5.trans hC2 (fun k hk2 h => (hF k h).elim id (fun h => by omega)), h6, h7, h8⟩
/-- A call on the base. -/
theorem CSt.base {f : FuncId} {args : Array Value} {v : Value} {Q : Ending → World → Prop} (h : CSt w0 w pb p q pn pk q1 q3 gu all S Fs G u) (hc : ∀ F', BaseIn w pb p q pn pk S F' → Calls Tryz.prog f args w (BDid w pb p q pn pk S F' v)) (hQ : ∀ w', CSt w0 w' pb p q pn pk q1 q3 gu all S Fs G u → Chg (fun k => ¬ G k) w w' → Q (.returned v) w') : Calls Tryz.prog f args w Q := by
  have h' := h
  obtain ⟨⟨F, hB, hF, hk⟩, _⟩ := h'
  refine (hc F hB).mono ?_
  rintro e w' ⟨rfl, ⟨F2, hB2, hF2⟩, hC2⟩
  exact hQ w' (h.on hF hk hB2 hF2 hC2) (hC2.mono (fun k _ e e2 => (hk k e2).1 e))
/-- A block is used. -/
theorem CSt.use {Q : Ending → World → Prop} {k : Nat} (h : CSt w0 w pb p q pn pk q1 q3 gu all S Fs G u) (ha : S.allB = all) (hk : 1 ≤ k ∧ k ≤ all) (hu : u k = 0) (hQ : ∀ w', CSt w0 w' pb p q pn pk q1 q3 gu all S Fs G (upd u k 1) → Chg (· = gu) w w' → Q (.returned (.bool true)) w') : Calls Tryz.prog 42 #[.int .i64 (k : Int), .pointer (some ⟨q1, 0, none⟩), .pointer (some ⟨q3, 0, none⟩)] w Q := by
  have cb := h.cb
  rw [ha] at cb
  refine (use_any h.c1 cb h.b3 h.bg hk hu h.ne.2).mono ?_
  rintro e w' ⟨rfl, hg2, hC⟩
  obtain ⟨⟨F, hB, hF, hk⟩, hs, h2, h3, h4, h5, h6, h7, h8⟩ := h
  refine hQ w' ⟨⟨F, hB.chg hC (fun k e e2 => ?_), hF, fun k e => ⟨(hk k e).1, Nat.lt_of_lt_of_le (hk k e).2 hC.size⟩⟩, hs, (hC.block _ (lt_of_heap h2) h7.1).trans h2, (hC.block _ (lt_of_heap h3) h7.2).trans h3, hg2, h5.trans hC (fun k h8 e => by omega), h6, h7, h8⟩ hC
  have e2 : k = gu := e2
  subst e2
  rcases e with e | e | e | e
  · exact (hk _ hs.2.2).1 e
  · omega
  · omega
  · omega
/-- A node is loaded. -/
theorem CSt.load {Q : Ending → World → Prop} {z : Int} (h : CSt w0 w pb p q pn pk q1 q3 gu all S Fs G u) (hE : S.nodeE z = 0) (hQ : ∀ w' px gb cap, CSt w0 w' pb p q pn pk q1 q3 gu all S Fs (fun k => G k ∨ k = px ∨ k = gb) u → NodeAt w' px gb cap z.toNat (S.nodeB z.toNat) → px ≠ gu → gb ≠ gu → Chg (fun k => ¬ G k) w w' → Q (.returned (.tuple #[Dptr px, .int .i64 0])) w') : Calls Tryz.prog 26 #[Dptr pb, .int .i64 z] w Q := by
  have h' := h
  obtain ⟨⟨F, hB, hF, hk⟩, hs, _⟩ := h'
  refine (load_yes hB hE).mono ?_
  rintro e w' ⟨px, gb, cap, rfl, hB2, hC2, hx, h1, h2, h3, h4⟩
  have hgu := (hk _ hs.2.2).2
  have h9 := h.on hF hk hB2 (fun k e => .inl e) hC2
  have hlx := hx.raw.2.2.2.1
  have hlg := hx.raw.2.2.1
  refine hQ w' px gb cap ⟨⟨F, hB2, hF, fun k e => ?_⟩, ⟨.inl hs.1, .inl hs.2.1, .inl hs.2.2⟩, h9.b1, h9.b3, h9.bg, h9.chg, h9.le, h9.ne, h9.old⟩ hx (by omega) (by omega) (hC2.mono (fun k _ e e2 => (hk k e2).1 e))
  rcases e with e | rfl | rfl
  · exact ⟨(hk k e).1, Nat.lt_of_lt_of_le (hk k e).2 hC2.size⟩
  · exact ⟨h3, hlx⟩
  · exact ⟨h4, hlg⟩
/-- Something new is made. -/
theorem CSt.below {w' : World} (h : CSt w0 w pb p q pn pk q1 q3 gu all S Fs G u) (hb : Below w.heap.size w w') : CSt w0 w' pb p q pn pk q1 q3 gu all S Fs G u := by
  have h' := h
  obtain ⟨⟨F, hB, hF, hk⟩, _⟩ := h'
  exact h.on hF hk (hB.below hb) (fun k e => .inl e) (Chg.of_below hb)
end
end Go.Proofs.YtjngphffgdjcfaaGreatDoor
/-
  A base's calls: what Check counts, plain.
-/
namespace Go.Lz
open Go.RowKit Go.Proofs.YtjngphffgdjcfaaGreatDoor
/-- How often a block was seen: the nodes P are done, of node n the first i blocks and their lists. -/
def usedU (o : Owner) (P : List Int) (n i k : Nat) : Nat := match o k with
  | none => 0
  | some (n', x) => if (n' : Int) ∈ P ∨ (n' = n ∧ (x < i ∨ (1000 ≤ x ∧ x < 1000 + nlN i))) then 1 else 0
/-- Of node n's next block the list is seen too. -/
def usedL (o : Owner) (P : List Int) (n i k : Nat) : Nat := match o k with
  | none => 0
  | some (n', x) => if (n' : Int) ∈ P ∨ (n' = n ∧ (x < i ∨ (1000 ≤ x ∧ x < 1000 + nlN (i + 1)))) then 1 else 0
section
variable {S : WalS} {N cc m n i k : Nat} {g : Nat → Bytes} {o : Owner} {on : Nat → Bool} {nb : Nat → Bytes} {c : Nat → Nat} {X : Nat → Nat → UInt8} {P : List Int}
theorem usedU_some {n' x : Nat} (h : o k = some (n', x)) : usedU o P n i k = if (n' : Int) ∈ P ∨ (n' = n ∧ (x < i ∨ (1000 ≤ x ∧ x < 1000 + nlN i))) then 1 else 0 := by unfold usedU; rw [h]
theorem usedU_none (h : o k = none) : usedU o P n i k = 0 := by unfold usedU; rw [h]
theorem usedL_some {n' x : Nat} (h : o k = some (n', x)) : usedL o P n i k = if (n' : Int) ∈ P ∨ (n' = n ∧ (x < i ∨ (1000 ≤ x ∧ x < 1000 + nlN (i + 1)))) then 1 else 0 := by unfold usedL; rw [h]
theorem usedL_none (h : o k = none) : usedL o P n i k = 0 := by unfold usedL; rw [h]
theorem usedL_old (h : ¬ (32 ≤ i ∧ (i - 32) % 32 = 0)) : usedL o P n i = usedU o P n i := by
  have := nlN_succ i
  rw [if_neg h] at this
  funext k
  unfold usedL usedU
  rw [this]
theorem usedU_start : usedU o [] n 0 = fun _ => 0 := by
  funext k
  cases h : o k with
  | none => exact usedU_none h
  | some y =>
    obtain ⟨n', x⟩ := y
    have h0 : nlN 0 = 0 := by decide
    rw [usedU_some h, if_neg]
    rintro (h | ⟨_, h | h⟩)
    · cases h
    · omega
    · omega
theorem usedU_any (n n2 : Nat) : usedU o P n 0 = usedU o P n2 0 := by
  have h0 : nlN 0 = 0 := by decide
  funext k
  cases h : o k with
  | none => rw [usedU_none h, usedU_none h]
  | some y =>
    obtain ⟨n', x⟩ := y
    rw [usedU_some h, usedU_some h, h0]
    by_cases hp : (n' : Int) ∈ P
    · rw [if_pos (.inl hp), if_pos (.inl hp)]
    · rw [if_neg (by rintro (h | ⟨_, h | h⟩); exact hp h; omega; omega), if_neg (by rintro (h | ⟨_, h | h⟩); exact hp h; omega; omega)]
/-- A list is seen. -/
theorem usedL_new (R : Ready S N on nb c o X) (hi : i < c n) (h32 : 32 ≤ i) (hm : (i - 32) % 32 = 0) (hP : (n : Int) ∉ P) : usedU o P n i (ent (nb n) (32 + (i - 32) / 32)) = 0 ∧ usedL o P n i = upd (usedU o P n i) (ent (nb n) (32 + (i - 32) / 32)) 1 := by
  have hj := nlN_at h32 hi
  obtain ⟨_, ho⟩ := R.lay.lst n _ hj
  have hnl := nlN_new hm
  have hs := nlN_succ i
  rw [if_pos ⟨h32, hm⟩] at hs
  have hc := R.lay.cle n
  refine ⟨?_, ?_⟩
  · rw [usedU_some ho, if_neg]
    rintro (h | ⟨_, h | h⟩)
    · exact hP h
    · omega
    · omega
  · funext k
    by_cases e : k = ent (nb n) (32 + (i - 32) / 32)
    · subst e
      rw [upd_same, usedL_some ho, if_pos (.inr ⟨rfl, by omega⟩)]
    · rw [upd_other _ e]
      cases h : o k with
      | none => rw [usedU_none h, usedL_none h]
      | some y =>
        obtain ⟨n', x⟩ := y
        rw [usedU_some h, usedL_some h]
        by_cases h2 : (n' : Int) ∈ P ∨ (n' = n ∧ (x < i ∨ (1000 ≤ x ∧ x < 1000 + nlN i)))
        · rw [if_pos h2, if_pos (h2.imp id fun h => ⟨h.1, by omega⟩)]
        · rw [if_neg h2, if_neg]
          rintro (h3 | ⟨rfl, h3⟩)
          · exact h2 (.inl h3)
          · by_cases h4 : x = 1000 + nlN i
            · rcases R.lay.rev k n' x h with ⟨h5, _⟩ | ⟨j, h5, h6, h7⟩
              · omega
              · have : j = (i - 32) / 32 := by omega
                rw [this] at h7
                exact e h7.symm
            · exact h2 (.inr ⟨rfl, by omega⟩)
/-- A block is seen. -/
theorem usedU_next (R : Ready S N on nb c o X) (hi : i < c n) (hP : (n : Int) ∉ P) : usedL o P n i (blkG S.get (nb n) i) = 0 ∧ usedU o P n (i + 1) = upd (usedL o P n i) (blkG S.get (nb n) i) 1 := by
  obtain ⟨_, _, ho⟩ := R.lay.blk n i hi
  have hc := R.lay.cle n
  refine ⟨?_, ?_⟩
  · rw [usedL_some ho, if_neg]
    rintro (h | ⟨_, h | h⟩)
    · exact hP h
    · omega
    · omega
  · funext k
    by_cases e : k = blkG S.get (nb n) i
    · subst e
      rw [upd_same, usedU_some ho, if_pos (.inr ⟨rfl, by omega⟩)]
    · rw [upd_other _ e]
      cases h : o k with
      | none => rw [usedU_none h, usedL_none h]
      | some y =>
        obtain ⟨n', x⟩ := y
        rw [usedU_some h, usedL_some h]
        by_cases h2 : (n' : Int) ∈ P ∨ (n' = n ∧ (x < i ∨ (1000 ≤ x ∧ x < 1000 + nlN (i + 1))))
        · rw [if_pos h2, if_pos (h2.imp id fun h => ⟨h.1, by omega⟩)]
        · rw [if_neg h2, if_neg]
          rintro (h3 | ⟨rfl, h3⟩)
          · exact h2 (.inl h3)
          · by_cases h4 : x = i
            · subst h4
              rcases R.lay.rev k n' x h with ⟨h5, h6⟩ | ⟨j, h5, h6, h7⟩
              · exact e h6.symm
              · omega
            · exact h2 (.inr ⟨rfl, by omega⟩)
/-- A node is done. -/
theorem usedU_done (R : Ready S N on nb c o X) (n2 : Nat) : usedU o P n (c n) = usedU o (P ++ [(n : Int)]) n2 0 := by
  have h0 : nlN 0 = 0 := by decide
  funext k
  cases h : o k with
  | none => rw [usedU_none h, usedU_none h]
  | some y =>
    obtain ⟨n', x⟩ := y
    rw [usedU_some h, usedU_some h]
    by_cases h2 : (n' : Int) ∈ P ∨ n' = n
    · rw [if_pos, if_pos (.inl (by
        rcases h2 with h2 | h2
        · exact List.mem_append_left _ h2
        · rw [h2]; exact List.mem_append_right _ (List.mem_singleton.2 rfl)))]
      rcases h2 with h2 | rfl
      · exact .inl h2
      · refine .inr ⟨rfl, ?_⟩
        rcases R.lay.rev k n' x h with ⟨h5, h6⟩ | ⟨j, h5, h6, h7⟩
        · exact .inl h5
        · exact .inr (by omega)
    · rw [if_neg, if_neg]
      · rintro (h3 | ⟨_, h3⟩)
        · rcases List.mem_append.1 h3 with h3 | h3
          · exact h2 (.inl h3)
          · exact h2 (.inr (by have := List.mem_singleton.1 h3; omega))
        · omega
      · rintro (h3 | ⟨h3, _⟩)
        · exact h2 (.inl h3)
        · exact h2 (.inr h3)
/-- All nodes are done. -/
theorem usedU_all (R : Ready S N on nb c o X) (hP : ∀ n', 0 < c n' → (n' : Int) ∈ P) (n k : Nat) : usedU o P n 0 k = if (o k).isSome then 1 else 0 := by
  cases h : o k with
  | none => rw [usedU_none h]; rfl
  | some y =>
    obtain ⟨n', x⟩ := y
    have h0 : nlN 0 = 0 := by decide
    rw [usedU_some h, if_pos (.inl (hP n' (by
      rcases R.lay.rev k n' x h with ⟨h5, h6⟩ | ⟨j, h5, h6, h7⟩
      · omega
      · refine Nat.pos_of_ne_zero fun e => ?_
        rw [e, h0] at h5
        omega)))]
    rfl
end
end Go.Lz
/-
  A base's calls: Check.
-/
namespace Go.Proofs.YtjngphffgdjcfaaGreatDoor
open Go.RowKit Go.Lz
section
variable {w w0 : World} {pb p q pn pk px gb cap n q1 q3 gu all N cc m : Nat} {S : WalS} {Fs G G' : Nat → Prop} {b : Bytes} {u : Nat → Nat} {A : Nodes} {g : Nat → Bytes} {o : Owner}
theorem mem_nodesL (B : BaseP S N g cc m A) {z : Int} : z ∈ S.nodesL ↔ ∃ n : Nat, z = (n : Int) ∧ (A n).isSome = true := by
  unfold WalS.nodesL WalS.nodesF
  rw [List.mem_map]
  constructor
  · rintro ⟨k, hk, rfl⟩
    obtain ⟨h1, h2⟩ := List.mem_filter.1 hk
    have h3 : k < 64 := by simpa using h1
    exact ⟨k + 1, by omega, by rw [← B.bit (k + 1) (by omega) (by omega)]; exact h2⟩
  · rintro ⟨n, rfl, h⟩
    have := B.dom n h
    refine ⟨n - 1, List.mem_filter.2 ⟨by simp; omega, ?_⟩, by omega⟩
    rw [B.bit n this.1 this.2]
    exact h
theorem nodesL_nodup (S : WalS) : S.nodesL.Nodup := by
  unfold WalS.nodesL WalS.nodesF
  refine List.Pairwise.map (S := fun a b => a ≠ b) _ (fun a b (h : a ≠ b) => by omega) (List.Pairwise.filter _ ?_)
  exact List.nodup_range
end
end Go.Proofs.YtjngphffgdjcfaaGreatDoor
