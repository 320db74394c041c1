/-
  The texts Tz1 Tz2 Ops Ops7, one behind the other.
-/
import Derived.Test.YtjngphffgdjcfaaGreatDoorME15
import Derived.Test.YtjngphffgdjcfaaGreatDoorME20
import Derived.Test.YtjngphffgdjcfaaGreatDoorMExTb3
import Derived.Test.YtjngphffgdjcfaaGreatDoorME0
/-
  A base under small folders, as a statement's function meets it: what is under way is never too much.
-/
namespace Go.Proofs.YtjngphffgdjcfaaGreatDoor
open Go.RowKit Go.Lz
section
variable {w0 w : World} {p q pb pn pk n N cc : Nat} {A : Nodes} {a : NodeA} {L : Locals} {G : Nat → Prop}
/-- The store holds the nodes A of small folders; nothing was committed since. -/
def TZ (p q N : Nat) (A : Nodes) (cc : Nat) : World → (Nat → Prop) → Prop := fun w F => ∃ S g, StoreC Tryz.prog w p q S F ∧ BaseZ S N g cc A
theorem keepsTZ (p q N : Nat) (A : Nodes) (cc : Nat) : Keeps (TZ p q N A cc) := fun _ _ _ _ ⟨S, g, h, B⟩ hc hM => ⟨S, g, StoreC.chg h hc hM, B⟩
theorem baseZ (h : Own w0 w (TZ p q N A cc) L) (hL : BaseL L pb p pn pk N) : ∃ F S g, BaseIn w pb p q pn pk S F ∧ BaseZ S N g cc A ∧ (∀ k, Mine w0 L k → ¬ F k ∧ k < w.heap.size) ∧
    ∀ {w' : World} {F' : Nat → Prop} {S' : WalS} {g' : Nat → Bytes} {A' : Nodes}, BaseIn w' pb p q pn pk S' F' → (∀ k, F' k → F k ∨ w.heap.size ≤ k) → Chg F w w' → BaseZ S' N g' cc A' →
      Own w0 w' (TZ p q N A' cc) L ∧ ∀ g o, w.heap.size ≤ g → ¬ F' g → w'.heap[g]? = some o → Own w0 w' (TZ p q N A' cc) (upd L g (some o)) := by
  have hs := h.size
  obtain ⟨F, ⟨S, g, hS, Z⟩, hF, hl, hgo⟩ := h.stepG
  have B := Z.base
  have hall : S.allB = N - 300 := by unfold WalS.allB; rw [B.kb.size]
  refine ⟨F, S, g, ⟨hS, ?_, (hl _ _ hL.n).2, ?_, (hl _ _ hL.b).1, (hl _ _ hL.n).1, (hl _ _ hL.k).1, by rw [B.kb.size]; exact B.big, B.kb.kp.isDead⟩, Z, fun k hk => ?_, fun hB h1 hC Z' => hgo ⟨_, _, hB.sto, Z'⟩ h1 hB.sto.lt hC⟩
  · rw [hall]; exact (hl _ _ hL.b).2
  · rw [hall]; exact (hl _ _ hL.k).2
  · rcases hk with hk | ⟨o, hk⟩
    · exact ⟨fun h => by have := (hF k h).1; omega, by omega⟩
    · exact ⟨(hl k o hk).1, lt_of_heap (hl k o hk).2⟩
theorem baseZ7 (h : Own w0 w (TZ p q N A cc) L) (hL : BaseL L pb p pn pk N) : ∃ F S g, BaseIn w pb p q pn pk S F ∧ BaseZ S N g cc A ∧
    ∀ {w' : World} {F' : Nat → Prop} {S' : WalS} {g' : Nat → Bytes} {A' : Nodes}, BaseIn w' pb p q pn pk S' F' → (∀ k, F' k → F k ∨ w.heap.size ≤ k) → Chg F w w' → BaseZ S' N g' cc A' → Own w0 w' (TZ p q N A' cc) (allNew L w w' F') := by
  have hs := h.size
  obtain ⟨F, ⟨S, g, hS, Z⟩, hF, hl, hgo⟩ := h.stepM
  have B := Z.base
  have hall : S.allB = N - 300 := by unfold WalS.allB; rw [B.kb.size]
  refine ⟨F, S, g, ⟨hS, ?_, (hl _ _ hL.n).2, ?_, (hl _ _ hL.b).1, (hl _ _ hL.n).1, (hl _ _ hL.k).1, by rw [B.kb.size]; exact B.big, B.kb.kp.isDead⟩, Z, fun hB h1 hC Z' => hgo ⟨_, _, hB.sto, Z'⟩ h1 hB.sto.lt hC⟩
  · rw [hall]; exact (hl _ _ hL.b).2
  · rw [hall]; exact (hl _ _ hL.k).2
theorem makeZ {vS vI : Value} {s l : List Int} {kind room : Nat} (h : Own w0 w (TZ p q N A cc) L) (hL : BaseL L pb p pn pk N) (hS : IntsAt w G vS s) (hI : IntsAt w G vI l) (hs : isSetB s = true) (hl : isSetB l = true) (hk : kind = 1 ∨ kind = 2) (hr : room ≤ 256) (h1 : 1 ≤ n) (h2 : n ≤ 2) (h3 : A n = none) (h4 : ∀ n', 1 ≤ n' → n' < n → (A n').isSome = true) :
    Calls Tryz.prog 8 #[Dptr pb, .int .i64 (kind : Int), .agg #[vS, vI], .int .i64 (room : Int)] w (Did w0 w (TZ p q N (upd A n (some ⟨kind, s, l, room, []⟩)) cc) L (.tuple #[.int .i64 (n : Int), .int .i64 0])) := by
  obtain ⟨F, S, g, hB, Z, _, hgo⟩ := baseZ h hL
  refine (make_any hB hS hI kind room).mono ?_
  obtain ⟨S', e, Z'⟩ := Z.make hs hl hk hr h1 h2 h3 h4
  rw [e]
  rintro e w' ⟨he, ⟨F', hB', hF'⟩, hC⟩
  exact ⟨he, (hgo hB' hF' hC Z').1, hC.size⟩
section
variable {data : Bytes} {ad : Option Addr} {cp Ln : Nat}
theorem writeZ_empty (h : Own w0 w (TZ p q N A cc) L) (hL : BaseL L pb p pn pk N) (hl : Ln = 0) (ha : A n = some a) :
    Calls Tryz.prog 9 #[Dptr pb, .int .i64 (n : Int), .int .i64 0, .slice ad Ln cp] w (Did w0 w (TZ p q N A cc) L (.int .i64 0)) := by
  obtain ⟨F, S, g, hB, Z, hM, hgo⟩ := baseZ h hL
  have B := Z.base
  refine (iwrite_any (data := []) (G := fun _ => False) hB n 0 hl (fun h => absurd rfl h) (fun k hk => hk.elim) (fun e => BaseP.sizes B e) (by rw [hl]; decide)).mono ?_
  have e := BaseP.writeN_in (data := []) (at' := 0) B ha (Nat.zero_le _)
  rw [if_pos rfl] at e
  rw [show S.writeN (n : Int) 0 [] = (0, S) from e]
  rintro e w' ⟨he, ⟨F', hB', hF'⟩, hC⟩
  exact ⟨he, (hgo hB' hF' hC Z).1, hC.size⟩
theorem writeZ_room (h : Own w0 w (TZ p q N A cc) L) (hL : BaseL L pb p pn pk N) (hl : Ln = data.length) (hv : data ≠ [] → ∃ tS, Go.Lz.Src tS w G (.slice ad Ln cp) data) (hG : ∀ k, G k → Mine w0 L k) (hdl : Ln ≤ maxLen) (ha : A n = some a) (hr : 64 * a.room < data.length) :
    Calls Tryz.prog 9 #[Dptr pb, .int .i64 (n : Int), .int .i64 0, .slice ad Ln cp] w (Did w0 w (TZ p q N A cc) L (.int .i64 72)) := by
  obtain ⟨F, S, g, hB, Z, hM, hgo⟩ := baseZ h hL
  have B := Z.base
  refine (iwrite_any hB n 0 hl hv (fun k hk => hM k (hG k hk)) (fun e => BaseP.sizes B e) hdl).mono ?_
  rw [show S.writeN (n : Int) 0 data = (72, S) from BaseP.write_room B (at' := 0) ha (.inl hr)]
  rintro e w' ⟨he, ⟨F', hB', hF'⟩, hC⟩
  exact ⟨he, (hgo hB' hF' hC Z).1, hC.size⟩
theorem writeZ_ok (h : Own w0 w (TZ p q N A cc) L) (hL : BaseL L pb p pn pk N) (hl : Ln = data.length) (hv : data ≠ [] → ∃ tS, Go.Lz.Src tS w G (.slice ad Ln cp) data) (hG : ∀ k, G k → Mine w0 L k) (hdl : Ln ≤ maxLen) (ha : A n = some a) (hr : data.length ≤ 64 * a.room) (hne : data ≠ []) (hb : data.length ≤ 1000) (hfit : allOf A + cntN data.length ≤ 40 + cOf A n) :
    Calls Tryz.prog 9 #[Dptr pb, .int .i64 (n : Int), .int .i64 0, .slice ad Ln cp] w (Did w0 w (TZ p q N (upd A n (some { a with data := wrB a.data 0 data })) cc) L (.int .i64 0)) := by
  obtain ⟨F, S, g, hB, Z, hM, hgo⟩ := baseZ h hL
  have B := Z.base
  refine (iwrite_any hB n 0 hl hv (fun k hk => hM k (hG k hk)) (fun e => BaseP.sizes B e) hdl).mono ?_
  obtain ⟨S', e, Z'⟩ := Z.writeB ha hne hr hb hfit
  have e1 := BaseP.writeN_in (data := data) (at' := 0) B ha (by simpa using hr)
  rw [if_neg hne, if_neg (by omega), e] at e1
  rw [show S.writeN (n : Int) 0 data = (0, S') from e1]
  rintro e w' ⟨he, ⟨F', hB', hF'⟩, hC⟩
  exact ⟨he, (hgo hB' hF' hC Z').1, hC.size⟩
end
theorem readZ {at' k : Nat} (h : Own w0 w (TZ p q N A cc) L) (hL : BaseL L pb p pn pk N) (ha : A n = some a) : Calls Tryz.prog 12 #[Dptr pb, .int .i64 (n : Int), .int .i64 (at' : Int), .int .i64 (k : Int)] w (RDid w0 w (TZ p q N A cc) L ((a.data.drop (min at' a.data.length)).take k) 0) := by
  obtain ⟨F, S, g, hB, Z, hM, hgo⟩ := baseZ h hL
  have B := Z.base
  refine (iread_any hB n at' k (fun e => (BaseP.sizes B e).1)).mono ?_
  rintro e w' ⟨F', v, ⟨hB', hF', hC⟩, he, ho⟩
  rw [B.readN ha] at he ho
  obtain ⟨h1, h2⟩ := hgo hB' hF' hC Z
  refine ⟨v, he, ?_, hC.size⟩
  rcases ho with ⟨e1, e2⟩ | ⟨gg, hd, hg, hn⟩
  · exact .inl ⟨e1, e2, h1⟩
  · obtain ⟨g', rfl, hbuf⟩ := hd.buf
    obtain ⟨o, ho, hbo⟩ := hbuf.bufO
    exact .inr ⟨_, o, hbo, hg, h2 _ o hg hn ho⟩
theorem infoZ_ok (h : Own w0 w (TZ p q N A cc) L) (hL : BaseL L pb p pn pk N) (ha : A n = some a) :
    Calls Tryz.prog 37 #[Dptr pb, .int .i64 (n : Int)] w (InfoDid w0 w (TZ p q N A cc) L a) := by
  obtain ⟨F, S, g, hB, Z, hgo⟩ := baseZ7 h hL
  have B := Z.base
  have hFl := hB.sto.lt
  refine (info_any hB B ha).mono ?_
  rintro e w' ⟨vs, vi, rfl, h1, h2, hB', hC⟩
  have hin : ∀ {v : Value} {l : List Int}, IntsAt w' (fun k => w.heap.size ≤ k) v l → IntsL w' (allNew L w w' F) v l := fun hv => by
    obtain ⟨a', n', c, h1, h2, h3, h4⟩ := hv
    refine ⟨a', n', c, h1, h2, h3, h4.imp id ?_⟩
    rintro ⟨b, off, h5, h6, h7, h8⟩
    refine ⟨b, off, h5, ?_, h7, h8⟩
    exact ⟨_, allNew_new (h.none_ h6) h6 (fun e => by have := hFl b e; omega) (Array.getElem?_eq_getElem h7)⟩
  exact ⟨vs, vi, _, rfl, hgo hB' (fun _ h => .inl h) hC Z, fun b o hb => allNew_old hb, hin h1, hin h2, hC.size⟩
theorem infoZ_none {z : Int} (h : Own w0 w (TZ p q N A cc) L) (hL : BaseL L pb p pn pk N) (hz : ¬ IsN A z) :
    Calls Tryz.prog 37 #[Dptr pb, .int .i64 z] w (Did w0 w (TZ p q N A cc) L (.tuple #[.agg #[.int .i64 0, .int .i64 0, .int .i64 0, .slice none 0 0, .slice none 0 0], .int .i64 61])) := by
  obtain ⟨F, S, g, hB, Z, _, hgo⟩ := baseZ h hL
  refine (info_none hB (BaseP.nodeE_no Z.base hz)).mono ?_
  rintro e w' ⟨rfl, hB', hC⟩
  exact ⟨rfl, (hgo hB' (fun _ h => .inl h) hC Z).1, hC.size⟩
theorem checkZ (h : Own w0 w (TZ p q N A cc) L) (hL : BaseL L pb p pn pk N) : Calls Tryz.prog 17 #[Dptr pb] w (Did w0 w (TZ p q N A cc) L (.int .i64 0)) := by
  obtain ⟨F, S, g, hB, Z, _, hgo⟩ := baseZ h hL
  refine (check_any hB Z.base).mono ?_
  rintro e w' ⟨he, ⟨F', hB', hF'⟩, hC⟩
  exact ⟨he, (hgo hB' hF' hC Z).1, hC.size⟩
theorem openZ {M : Nat} (h : Own w0 w (TStore p q (newS M)) L) (h1 : 700 ≤ M) (h2 : M ≤ 8192) : Calls Tryz.prog 19 #[Dptr p] w (OpenB w0 w p (M - 300) (TZ p q (M - 300) noNodes 0) L) := by
  obtain ⟨F, hS, _, _⟩ := h.step
  have Z := BaseZ.new h1 h2
  have hsz := Z.base.kb.size
  have hO : Own w0 w (TZ p q (M - 300) noNodes 0) L := h.view fun F' hT _ => ⟨_, _, StoreAt.toC hT, Z⟩
  refine (iopen_any (StoreAt.toC hS) (by rw [hsz]; omega)).mono ?_
  rw [hsz]
  rintro e w' ⟨rfl, hb, hs, k1, k2, k3⟩
  exact ⟨_, _, _, rfl, own_base hO (keepsTZ _ _ _ _ _) hb hs k1 k2 k3, by omega, by omega, by omega, ⟨by omega, by omega, by omega⟩, by omega⟩
def Open6Z (w : World) (e : Ending) (w' : World) : Prop := ∃ p q pb pn pk, e = .returned (.tuple #[Dptr p, Dptr pb]) ∧ Own w w' (TZ p q 600 noNodes 0) (BaseO noLocals pb pn pk p 600) ∧ BaseL (BaseO noLocals pb pn pk p 600) pb p pn pk 600
set_option maxRecDepth 100000 in
theorem lw6OpenZ (w : World) : Calls Tryz.prog 6 #[] w (Open6Z w) := by
  go_enter Tryz.func6, Tryz.ntmps6
  go_wp2_with fail
  refine (lw4Open_any w 900 (by omega) (by omega)).mono ?_
  rintro e w1 ⟨p, q, rfl, hO1⟩
  go_wp2_with (go_at_call 19; refine (openZ hO1 (by omega) (by omega)).mono ?_; rintro e w2 ⟨pb, pn, pk, rfl, hO2, h1, h2, h3, _, _⟩)
  go_ret2
  exact ⟨p, q, pb, pn, pk, rfl, hO2, BaseO.baseL h1 h2 h3⟩
end
end Go.Proofs.YtjngphffgdjcfaaGreatDoor
/-
  A base under small folders, as a statement's function meets it: Cut.
-/
namespace Go.Proofs.YtjngphffgdjcfaaGreatDoor
open Go.RowKit Go.Lz
section
variable {w0 w : World} {p q pb pn pk n N cc m : Nat} {S S3 : WalS} {Fs : Nat → Prop} {g : Nat → Bytes} {A : Nodes} {a : NodeA} {L : Locals}
set_option maxHeartbeats 2000000 in
set_option maxRecDepth 100000 in
theorem cut_st (h : BaseIn w pb p q pn pk S Fs) (B : BaseP S N g cc m A) (ha : A n = some a) {to' : Nat} (ht : to' ≤ a.data.length) (hok : S.ShrinkOk (S.nodeB n) to') (e3 : (S.shrinkS (S.nodeB n) to').save n (S.shrinkB (S.nodeB n) to') = (0, S3)) :
    Calls Tryz.prog 72 #[Dptr pb, .int .i64 (n : Int), .int .i64 (to' : Int)] w fun e w' => e = .returned (.int .i64 0) ∧ (∃ Fs', BaseIn w' pb p q pn pk S3 Fs' ∧ ∀ k, Fs' k → Fs k ∨ w.heap.size ≤ k) ∧ Chg Fs w w' := by
  have hn := B.dom n (by rw [ha]; rfl)
  obtain ⟨z1, z2, z3⟩ := B.size_ok ha
  have cL := load_yes h (n := (n : Int)) (B.nodeE_some ha)
  rw [Int.toNat_natCast] at cL
  have ht0 : ¬ (a.data.length : Int) < (to' : Int) := by omega
  have ht1 : ¬ (to' : Int) < 0 := by omega
  go_enter Tryz.func72, Tryz.ntmps72
  go_upto_region 4 with (go_at_call 26; refine cL.mono ?_; rintro e w1 ⟨px, gb, cap, rfl, hB1, hC1, hx1, hp1, hg1, hn1, hn2⟩)
  have cZ := nsize_any hx1
  rw [z1] at cZ
  have h1H : Hid _ := Lib.hid (And.intro hB1 hx1)
  have hb := Below.refl w1.heap.size w1
  clear hB1 hx1 cL
  go_upto_region 6 with (go_at_call 28; refine cZ.mono ?_; rintro e w2 ⟨rfl, hb2⟩)
  have hB2 := h1H.out.1.below hb2
  have hx2 := h1H.out.2.below hb2
  have cS := shrink_st hB2 hx2 hn1 hn2 (to' := to') (by rw [z1]; exact ht) (by rw [z1]; omega) hok
  have hC2 : Chg Fs w w2 := hC1.trans (Chg.of_below (M := fun _ => False) hb2) (fun _ _ h => h.elim)
  have cV : ∀ w3, NSt w2 w3 pb p q pn pk px gb cap n (S.shrinkS (S.nodeB n) to') (S.shrinkB (S.nodeB n) to') Fs → Calls Tryz.prog 25 #[Dptr pb, Dptr px] w3 fun e w4 => e = .returned (.int .i64 0) ∧ NSt w2 w4 pb p q pn pk px gb cap n S3 (S.shrinkB (S.nodeB n) to') Fs := fun w3 hN3 => by
    refine hN3.base (v := .int .i64 0) (fun F' hB h1 h2 => ?_) (fun _ h' => ⟨rfl, h'⟩)
    have := save_any hB hN3.node h1 h2 hn.1 hn.2
    rw [e3] at this
    exact this
  clear hB2 hx2 e3 hC1 hb2 hok h1H cZ
  go_wp2_with (first
    | (go_at_call 93; refine cS.mono ?_; rintro e w3 ⟨rfl, hN3⟩)
    | (go_at_call 25; refine (cV _ hN3).mono ?_; rintro e w4 ⟨rfl, hN4⟩))
  go_ret
  exact ⟨rfl, nst_out hC2 hN4 hg1⟩
theorem cutZ {to' : Nat} (h : Own w0 w (TZ p q N A cc) L) (hL : BaseL L pb p pn pk N) (ha : A n = some a) (ht : to' ≤ a.data.length) :
    Calls Tryz.prog 72 #[Dptr pb, .int .i64 (n : Int), .int .i64 (to' : Int)] w (Did w0 w (TZ p q N (upd A n (some { a with data := a.data.take to' })) cc) L (.int .i64 0)) := by
  obtain ⟨F, S, g, hB, Z, _, hgo⟩ := baseZ h hL
  obtain ⟨hok, S3, e3, Z3⟩ := Z.cut ha ht
  refine (cut_st hB Z.base ha ht hok e3).mono ?_
  rintro e w' ⟨rfl, ⟨F', hB', hF'⟩, hC⟩
  exact ⟨rfl, (hgo hB' hF' hC Z3).1, hC.size⟩
end
end Go.Proofs.YtjngphffgdjcfaaGreatDoor
/-
  A script: a list of calls of six fields each.
-/
namespace Go.Lz
open Go.RowKit

/-- A call of a script. -/
structure OpR where
  kind : Int
  i : Int
  a : Int
  size : Int
  flip : Bool
  l : List Int
  deriving Inhabited

def i64 (x : Int) : Prop := -9223372036854775808 ≤ x ∧ x ≤ 9223372036854775807
/-- The call lies at cell off of block b. -/
structure OpAt (w : World) (F : Nat → Prop) (b off : Nat) (o : OpR) : Prop where
  c0 : w.cell? ⟨b, off, none⟩ = some (.int .i64 o.kind)
  c1 : w.cell? ⟨b, off + 1, none⟩ = some (.int .i64 o.i)
  c2 : w.cell? ⟨b, off + 2, none⟩ = some (.int .i64 o.a)
  c3 : w.cell? ⟨b, off + 3, none⟩ = some (.int .i64 o.size)
  c4 : w.cell? ⟨b, off + 4, none⟩ = some (.bool o.flip)
  c5 : ∃ v, w.cell? ⟨b, off + 5, none⟩ = some v ∧ IntsAt w F v o.l
  wf : i64 o.kind ∧ i64 o.i ∧ i64 o.a ∧ i64 o.size

/-- v is a slice of these calls. -/
def OpsAt (w : World) (F : Nat → Prop) (v : Value) (os : List OpR) : Prop :=
  ∃ a n c, v = .slice a n c ∧ os.length = n ∧ n ≤ 9223372036854775807 ∧ (n = 0 ∨ ∃ b off, a = some ⟨b, off, none⟩ ∧ F b ∧ b < w.heap.size ∧ ∀ j, j < n → OpAt w F b (off + j * 6) (os.getD j default))

theorem OpAt.below {w w' : World} {F : Nat → Prop} {b off : Nat} {o : OpR} (h : OpAt w F b off o) (hb : b < w.heap.size) (hB : Below w.heap.size w w') : OpAt w' F b off o := by
  have hc : ∀ k, w'.cell? ⟨b, k, none⟩ = w.cell? ⟨b, k, none⟩ := fun k => hB.cell (p := ⟨b, k, none⟩) hb
  refine ⟨(hc _).trans h.c0, (hc _).trans h.c1, (hc _).trans h.c2, (hc _).trans h.c3, (hc _).trans h.c4, ?_, h.wf⟩
  obtain ⟨v, h1, h2⟩ := h.c5
  exact ⟨v, (hc _).trans h1, h2.heap hB.size fun k _ hk => hB.block k hk⟩
end Go.Lz
/-
  A script of layer 6: a list of calls of seven cells each.
-/
namespace Go.Lz
open Go.RowKit
/-- A call of a script. -/
structure Op7 where
  kind : Int
  n : Int
  a : Int
  b : Int
  s : List Int
  i : List Int
  data : Bytes
  deriving Inhabited
/-- v is a slice of these bytes. -/
def BytesAt (w : World) (F : Nat → Prop) (v : Value) (l : Bytes) : Prop :=
  ∃ a n c, v = .slice a n c ∧ l.length = n ∧ n ≤ maxLen ∧ (n = 0 ∨ ∃ b off, a = some ⟨b, off, none⟩ ∧ F b ∧ b < w.heap.size ∧ ∀ j, j < n → w.cell? ⟨b, off + j, none⟩ = some (u8v (l.getD j 0)))
theorem BytesAt.below {w w' : World} {F : Nat → Prop} {v : Value} {l : Bytes} (h : BytesAt w F v l) (hB : Below w.heap.size w w') : BytesAt w' F v l := by
  obtain ⟨a, n, c, h1, h2, h3, h4⟩ := h
  refine ⟨a, n, c, h1, h2, h3, h4.imp id ?_⟩
  rintro ⟨b, off, h5, h6, h7, h8⟩
  exact ⟨b, off, h5, h6, Nat.lt_of_lt_of_le h7 hB.size, fun j hj => (hB.cell (p := ⟨b, off + j, none⟩) h7).trans (h8 j hj)⟩
theorem BytesAt.form {w : World} {F : Nat → Prop} {v : Value} {l : Bytes} (h : BytesAt w F v l) : ∃ a c, v = .slice a l.length c := by
  obtain ⟨a, n, c, h1, h2, _⟩ := h
  exact ⟨a, c, by rw [h2]; exact h1⟩
/-- A call's seven cells, told. -/
structure OpV (w : World) (F : Nat → Prop) (vs vi vd : Value) (o : Op7) : Prop where
  s : IntsAt w F vs o.s
  i : IntsAt w F vi o.i
  d : BytesAt w F vd o.data
  wf : i64 o.kind ∧ i64 o.n ∧ i64 o.a ∧ i64 o.b
theorem OpV.below {w w' : World} {F : Nat → Prop} {vs vi vd : Value} {o : Op7} (h : OpV w F vs vi vd o) (hB : Below w.heap.size w w') : OpV w' F vs vi vd o :=
  ⟨h.s.heap hB.size fun k _ hk => hB.block k hk, h.i.heap hB.size fun k _ hk => hB.block k hk, h.d.below hB, h.wf⟩
/-- The call lies at cell off of block b. -/
structure OpAt7 (w : World) (F : Nat → Prop) (b off : Nat) (vs vi vd : Value) (o : Op7) : Prop where
  c0 : w.cell? ⟨b, off, none⟩ = some (.int .i64 o.kind)
  c1 : w.cell? ⟨b, off + 1, none⟩ = some (.int .i64 o.n)
  c2 : w.cell? ⟨b, off + 2, none⟩ = some (.int .i64 o.a)
  c3 : w.cell? ⟨b, off + 3, none⟩ = some (.int .i64 o.b)
  c4 : w.cell? ⟨b, off + 4, none⟩ = some vs
  c5 : w.cell? ⟨b, off + 5, none⟩ = some vi
  c6 : w.cell? ⟨b, off + 6, none⟩ = some vd
  v : OpV w F vs vi vd o
/-- v is a slice of these calls. -/
def OpsAt7 (w : World) (F : Nat → Prop) (v : Value) (os : List Op7) : Prop :=
  ∃ a n c, v = .slice a n c ∧ os.length = n ∧ n ≤ maxLen ∧ (n = 0 ∨ ∃ b off, a = some ⟨b, off, none⟩ ∧ F b ∧ b < w.heap.size ∧ ∀ j, j < n → ∃ vs vi vd, OpAt7 w F b (off + j * 7) vs vi vd (os.getD j default))
theorem OpAt7.below {w w' : World} {F : Nat → Prop} {b off : Nat} {vs vi vd : Value} {o : Op7} (h : OpAt7 w F b off vs vi vd o) (hb : b < w.heap.size) (hB : Below w.heap.size w w') : OpAt7 w' F b off vs vi vd o := by
  have hc : ∀ k, w'.cell? ⟨b, k, none⟩ = w.cell? ⟨b, k, none⟩ := fun k => hB.cell (p := ⟨b, k, none⟩) hb
  exact ⟨(hc _).trans h.c0, (hc _).trans h.c1, (hc _).trans h.c2, (hc _).trans h.c3, (hc _).trans h.c4, (hc _).trans h.c5, (hc _).trans h.c6, h.v.below hB⟩
end Go.Lz
