/-
  The texts IPl6 IPl7 Ops Ops7 IPl8 IPl9 IPlA IPlB IPlC IPlD, one behind the other.
-/
import Derived.Test.YtbnoebdpbpjbkaaGreatMP21
import Derived.Lib.BufferRead
import Derived.Test.YtbnoebdpbpjbkaaGreatMP0
import Derived.Test.YtbnoebdpbpjbkaaGreatMP13
import Derived.BigQuiet
import Derived.Deep.QuietTactic
import Derived.Deep.LoopGhost
import Derived.StillTailTactics
/-
  The statements' own same of layer 6, the node there.
-/
namespace Go.Proofs.YtbnoebdpbpjbkaaGreat
open Go.RowKit Go.Lz
section
variable {w w0 : World} {p q pb pn pk N cc m n : Nat} {L : Locals} {A A0 : Nodes} {a : NodeA} {G : Nat → Prop}
/-- A node of the list. -/
def onV (a : NodeA) (vs vi : Value) : Value := .agg #[.bool true, .int .i64 (a.kind : Int), .int .i64 (a.room : Int), vs, vi, .string ⟨a.data.toArray⟩]
theorem outO_string {w' : World} {T : World → (Nat → Prop) → Prop} {v : Value} {out : Bytes} (h : OutO w0 w w' T L v out) : (convert 35 9 v).run Tryz.prog w' = .ok (.string ⟨out.toArray⟩) w' := by
  rcases h with ⟨rfl, rfl, _⟩ | ⟨g, o, hb, _, hO⟩
  · exact Lib.run_convert_nil_bytes w' 35 9 5 0 Tryz.underlying35 Tryz.underlying5 Tryz.underlying9
  · exact run_string (hb.buf (hO.loc (upd_same _ _ _)))
theorem outO_below {w' w2 : World} {T : World → (Nat → Prop) → Prop} {v : Value} {out : Bytes} (h : OutO w0 w w' T L v out) (hb : Below w'.heap.size w' w2) : (convert 35 9 v).run Tryz.prog w2 = .ok (.string ⟨out.toArray⟩) w2 := by
  rcases h with ⟨rfl, rfl, _⟩ | ⟨g, o, hbf, _, hO⟩
  · exact Lib.run_convert_nil_bytes w2 35 9 5 0 Tryz.underlying35 Tryz.underlying5 Tryz.underlying9
  · have hg := hO.loc (upd_same _ _ _)
    exact run_string (hbf.buf ((hb.block g (lt_of_heap hg)).trans hg))
set_option maxRecDepth 100000 in
set_option maxHeartbeats 2000000 in
theorem same6_on {vs vi : Value} (h : Own w0 w (TB p q N A A0 cc m) L) (hL : BaseL L pb p pn pk N) (ha : A n = some a) (hs : IntsAt w0 G vs a.s) (hi : IntsAt w0 G vi a.i) (hd : a.data.length ≤ 1048576) : Calls Tryz.prog 25 #[Dptr pb, .int .i64 (n : Int), onV a vs vi] w (Did w0 w (TB p q N A A0 cc m) L (.bool true)) := by
  obtain ⟨av, cv, rfl⟩ := IntsAt.form hs
  obtain ⟨ai, ci, rfl⟩ := IntsAt.form hi
  have hn := h.none_ (Nat.le_refl w.heap.size)
  obtain ⟨O, hOe⟩ : ∃ O : Obj, O = .cells #[.bool true, .int .i64 (a.kind : Int), .int .i64 (a.room : Int), .slice av a.s.length cv, .slice ai a.i.length ci, .string ⟨a.data.toArray⟩] 53 (0, 0) := ⟨_, rfl⟩
  have hO1 := own_new6 h (keepsTB _ _ _ _ _ _ _) O
  have hL1 := hL.upd_ (o := O) hn
  have cI := info6_ok hO1 hL1 ha
  have hs1 : w.heap.size ≤ (w.alloc O).heap.size := by simp
  rw [hOe] at cI
  have hOeH : Hid _ := Lib.hid hOe
  clear hOe
  unfold onV
  go_enter Tryz.func25, Tryz.ntmps25
  go_upto_region 2 with (go_at_call 12; refine cI.mono ?_; rintro e w2 ⟨vs2, vi2, L2, rfl, hO2, hl2, hvs, hvi, hs2⟩; obtain ⟨av2, cv2, rfl⟩ := IntsAt.form hvs; obtain ⟨ai2, ci2, rfl⟩ := IntsAt.form hvi; unfold InfoV; dsimp only)
  rw [← hOeH.out] at hl2
  obtain ⟨I, hIe⟩ : ∃ I : Obj, I = .cells #[.int .i64 (a.kind : Int), .int .i64 (a.data.length : Int), .int .i64 (a.room : Int), .slice av2 a.s.length cv2, .slice ai2 a.i.length ci2] 37 (0, 0) := ⟨_, rfl⟩
  have hO3 := own_new6 hO2 (keepsTB _ _ _ _ _ _ _) I
  have hn3 := hO2.none_ (Nat.le_refl w2.heap.size)
  have i3 : LocIn L2 (upd L2 w2.heap.size (some I)) := LocIn.upd_ hn3
  have hL3 := (hL1.mono hl2).mono i3
  have c5 : upd L2 w2.heap.size (some I) w.heap.size = some O := i3 _ _ (hl2 _ _ (upd_same _ _ _))
  have c7 : upd L2 w2.heap.size (some I) w2.heap.size = some I := upd_same _ _ _
  have s3 : w2.heap.size ≤ (w2.alloc I).heap.size := by simp
  rw [← hIe]
  generalize upd L2 w2.heap.size (some I) = L3 at *
  generalize w2.alloc I = w3 at *
  have d50 : w3.cell? ⟨w.heap.size, 0, none⟩ = some (.bool true) := by
    have := hO3.loc c5
    rw [hOeH.out] at this
    exact cell_of this 0
  have cR := read6_ok (at' := 0) (k := 1048576) hO3 hL3 ha
  rw [Nat.zero_min, List.drop_zero, List.take_of_length_le hd] at cR
  have cR2 : Calls Tryz.prog 13 #[Dptr pb, .int .i64 (n : Int), .int .i64 0, .int .i64 1048576] w3 (RDid w0 w3 (TB p q N A A0 cc m) L3 a.data 0) := cR
  clear cR cI
  go_upto_region 5 with (go_at_call 13; refine cR2.mono ?_; rintro e w4 ⟨v, rfl, ho, hs4⟩)
  have hO4 := ho.own hO3
  have hI4 := hO4.loc c7
  rw [hIe] at hI4
  have hN4 := hO4.loc c5
  rw [hOeH.out] at hN4
  have k0 := cell_of hI4 0
  have k1 := cell_of hI4 1
  have k2 := cell_of hI4 2
  have k3 := cell_of hI4 3
  have k4 := cell_of hI4 4
  have m1 := cell_of hN4 1
  have m2 := cell_of hN4 2
  have m3 := cell_of hN4 3
  have m4 := cell_of hN4 4
  have m5 := cell_of hN4 5
  have hsz := hO4.base
  have cS := same3_any (hvs.own hO2 hO4 i3) (IntsAt.below hs hsz) (hvi.own hO2 hO4 i3) (IntsAt.below hi hsz)
  have iL : LocIn L L3 := (LocIn.upd_ hn).trans (hl2.trans i3)
  have lN := lt_of_heap hN4
  have hoH : Hid _ := Lib.hid ho
  have hO4H : Hid _ := Lib.hid hO4
  have iLH : Hid _ := Lib.hid iL
  have hbeq : (a.data == a.data) = true := beq_yes rfl
  clear ho hO4 hI4 hN4 hs hi hvs hvi cR2 hO3 hO2 hO1 h iL hIe c5 c7 i3 hl2 d50
  go_wp2_with (go_at_call 63; refine cS.mono ?_; rintro e w5 ⟨rfl, hb5⟩; have hst := outO_below hoH.out hb5; have m55 := (hb5.cell (p := ⟨w.heap.size, 5, none⟩) lN).trans m5)
  go_ret
  have hO5 := hO4H.out.below (keepsTB _ _ _ _ _ _ _) hb5
  have := hb5.size
  exact ⟨rfl, hO5.forget iLH.out, by omega⟩
end
end Go.Proofs.YtbnoebdpbpjbkaaGreat
/-
  A base's Write, as a script's statements meet it: there is room for what it grows by.
-/
namespace Go.Proofs.YtbnoebdpbpjbkaaGreat
open Go.RowKit Go.Lz
section
variable {w w0 : World} {p q pb pn pk N cc m n : Nat} {L : Locals} {A A0 : Nodes} {a : NodeA} {G : Nat → Prop} {data : Bytes} {ad : Option Addr} {cp Ln : Nat}
theorem write6_fit {at' : Nat} (h : Own w0 w (TB p q N A A0 cc m) L) (hL : BaseL L pb p pn pk N) (hl : Ln = data.length) (hv : data ≠ [] → Src 5 w G (.slice ad Ln cp) data) (hG : ∀ k, G k → Mine w0 L k) (hdl : Ln ≤ maxLen) (ha : A n = some a) (hr : at' + data.length ≤ 64 * a.room) (hne : data ≠ []) (hb : at' + data.length - min at' a.data.length ≤ 6144) (hm : m ≤ 5) (hfit : allOf A + withN (cntN (at' + data.length)) ≤ N - 300 + withN (cOf A n)) :
    Calls Tryz.prog 11 #[Dptr pb, .int .i64 (n : Int), .int .i64 (at' : Int), .slice ad Ln cp] w (Did w0 w (TB p q N (upd A n (some { a with data := wrB a.data at' data })) A0 cc (m + 106)) L (.int .i64 0)) := by
  obtain ⟨F, S, g, hB, B, D, hM, hgo⟩ := base6 h hL
  refine (iwrite_any hB n at' hl hv (fun k hk => hM k (hG k hk)) (fun e => BaseP.sizes B e) hdl).mono ?_
  rcases B.write_ok ha hr hne hb hm with ⟨hf, _⟩ | ⟨S', e, B'⟩
  · have := B.free
    omega
  · rw [e]
    rintro e w' ⟨he, ⟨F', hB', hF'⟩, hC⟩
    exact ⟨he, (hgo hB' hF' hC B' D).1, hC.size⟩
end
end Go.Proofs.YtbnoebdpbpjbkaaGreat
/-
  A script: a list of calls of six fields each.
-/
namespace Go.Lz
open Go.RowKit

/-- A call of a script. -/
structure OpR where
  kind : Int
  i : Int
  a : Int
  size : Int
  flip : Bool
  l : List Int
deriving Inhabited

def i64 (x : Int) : Prop := -9223372036854775808 ≤ x ∧ x ≤ 9223372036854775807
/-- The call lies at cell off of block b. -/
structure OpAt (w : World) (F : Nat → Prop) (b off : Nat) (o : OpR) : Prop where
  c0 : w.cell? ⟨b, off, none⟩ = some (.int .i64 o.kind)
  c1 : w.cell? ⟨b, off + 1, none⟩ = some (.int .i64 o.i)
  c2 : w.cell? ⟨b, off + 2, none⟩ = some (.int .i64 o.a)
  c3 : w.cell? ⟨b, off + 3, none⟩ = some (.int .i64 o.size)
  c4 : w.cell? ⟨b, off + 4, none⟩ = some (.bool o.flip)
  c5 : ∃ v, w.cell? ⟨b, off + 5, none⟩ = some v ∧ IntsAt w F v o.l
  wf : i64 o.kind ∧ i64 o.i ∧ i64 o.a ∧ i64 o.size

/-- v is a slice of these calls. -/
def OpsAt (w : World) (F : Nat → Prop) (v : Value) (os : List OpR) : Prop :=
  ∃ a n c, v = .slice a n c ∧ os.length = n ∧ n ≤ 9223372036854775807 ∧ (n = 0 ∨ ∃ b off, a = some ⟨b, off, none⟩ ∧ F b ∧ b < w.heap.size ∧ ∀ j, j < n → OpAt w F b (off + j * 6) (os.getD j default))

theorem OpAt.below {w w' : World} {F : Nat → Prop} {b off : Nat} {o : OpR} (h : OpAt w F b off o) (hb : b < w.heap.size) (hB : Below w.heap.size w w') : OpAt w' F b off o := by
  have hc : ∀ k, w'.cell? ⟨b, k, none⟩ = w.cell? ⟨b, k, none⟩ := fun k => hB.cell (p := ⟨b, k, none⟩) hb
  refine ⟨(hc _).trans h.c0, (hc _).trans h.c1, (hc _).trans h.c2, (hc _).trans h.c3, (hc _).trans h.c4, ?_, h.wf⟩
  obtain ⟨v, h1, h2⟩ := h.c5
  exact ⟨v, (hc _).trans h1, h2.heap hB.size fun k _ hk => hB.block k hk⟩
end Go.Lz
/-
  A script of layer 6: a list of calls of seven cells each.
-/
namespace Go.Lz
open Go.RowKit
/-- A call of a script. -/
structure Op7 where
  kind : Int
  n : Int
  a : Int
  b : Int
  s : List Int
  i : List Int
  data : Bytes
deriving Inhabited
/-- v is a slice of these bytes. -/
def BytesAt (w : World) (F : Nat → Prop) (v : Value) (l : Bytes) : Prop :=
  ∃ a n c, v = .slice a n c ∧ l.length = n ∧ n ≤ maxLen ∧ (n = 0 ∨ ∃ b off, a = some ⟨b, off, none⟩ ∧ F b ∧ b < w.heap.size ∧ ∀ j, j < n → w.cell? ⟨b, off + j, none⟩ = some (u8v (l.getD j 0)))
theorem BytesAt.below {w w' : World} {F : Nat → Prop} {v : Value} {l : Bytes} (h : BytesAt w F v l) (hB : Below w.heap.size w w') : BytesAt w' F v l := by
  obtain ⟨a, n, c, h1, h2, h3, h4⟩ := h
  refine ⟨a, n, c, h1, h2, h3, h4.imp id ?_⟩
  rintro ⟨b, off, h5, h6, h7, h8⟩
  exact ⟨b, off, h5, h6, Nat.lt_of_lt_of_le h7 hB.size, fun j hj => (hB.cell (p := ⟨b, off + j, none⟩) h7).trans (h8 j hj)⟩
theorem BytesAt.form {w : World} {F : Nat → Prop} {v : Value} {l : Bytes} (h : BytesAt w F v l) : ∃ a c, v = .slice a l.length c := by
  obtain ⟨a, n, c, h1, h2, _⟩ := h
  exact ⟨a, c, by rw [h2]; exact h1⟩
/-- A call's seven cells, told. -/
structure OpV (w : World) (F : Nat → Prop) (vs vi vd : Value) (o : Op7) : Prop where
  s : IntsAt w F vs o.s
  i : IntsAt w F vi o.i
  d : BytesAt w F vd o.data
  wf : i64 o.kind ∧ i64 o.n ∧ i64 o.a ∧ i64 o.b
theorem OpV.below {w w' : World} {F : Nat → Prop} {vs vi vd : Value} {o : Op7} (h : OpV w F vs vi vd o) (hB : Below w.heap.size w w') : OpV w' F vs vi vd o :=
  ⟨h.s.heap hB.size fun k _ hk => hB.block k hk, h.i.heap hB.size fun k _ hk => hB.block k hk, h.d.below hB, h.wf⟩
/-- The call lies at cell off of block b. -/
structure OpAt7 (w : World) (F : Nat → Prop) (b off : Nat) (vs vi vd : Value) (o : Op7) : Prop where
  c0 : w.cell? ⟨b, off, none⟩ = some (.int .i64 o.kind)
  c1 : w.cell? ⟨b, off + 1, none⟩ = some (.int .i64 o.n)
  c2 : w.cell? ⟨b, off + 2, none⟩ = some (.int .i64 o.a)
  c3 : w.cell? ⟨b, off + 3, none⟩ = some (.int .i64 o.b)
  c4 : w.cell? ⟨b, off + 4, none⟩ = some vs
  c5 : w.cell? ⟨b, off + 5, none⟩ = some vi
  c6 : w.cell? ⟨b, off + 6, none⟩ = some vd
  v : OpV w F vs vi vd o
/-- v is a slice of these calls. -/
def OpsAt7 (w : World) (F : Nat → Prop) (v : Value) (os : List Op7) : Prop :=
  ∃ a n c, v = .slice a n c ∧ os.length = n ∧ n ≤ maxLen ∧ (n = 0 ∨ ∃ b off, a = some ⟨b, off, none⟩ ∧ F b ∧ b < w.heap.size ∧ ∀ j, j < n → ∃ vs vi vd, OpAt7 w F b (off + j * 7) vs vi vd (os.getD j default))
theorem OpAt7.below {w w' : World} {F : Nat → Prop} {b off : Nat} {vs vi vd : Value} {o : Op7} (h : OpAt7 w F b off vs vi vd o) (hb : b < w.heap.size) (hB : Below w.heap.size w w') : OpAt7 w' F b off vs vi vd o := by
  have hc : ∀ k, w'.cell? ⟨b, k, none⟩ = w.cell? ⟨b, k, none⟩ := fun k => hB.cell (p := ⟨b, k, none⟩) hb
  exact ⟨(hc _).trans h.c0, (hc _).trans h.c1, (hc _).trans h.c2, (hc _).trans h.c3, (hc _).trans h.c4, (hc _).trans h.c5, (hc _).trans h.c6, h.v.below hB⟩
end Go.Lz
/-
  A script of layer 6, plain: the list of nodes is well; how many blocks all take.
-/
namespace Go.Lz
open Go.RowKit Go.Proofs.YtbnoebdpbpjbkaaGreat
theorem sumF_with : ∀ (f : Nat → Nat) (k : Nat), sumF (fun n => withN (f n)) k ≤ sumF f k + sumF f k / 32
  | _, 0 => Nat.zero_le _
  | f, k + 1 => by
    have h1 := sumF_with f k
    have h2 : withN (f k) ≤ f k + f k / 32 := by rw [withN_nl]; unfold nlN; omega
    show sumF (fun n => withN (f n)) k + withN (f k) ≤ (sumF f k + f k) + (sumF f k + f k) / 32
    omega
theorem allOf_heavy (A : Nodes) : allOf A ≤ heavyN A 65 + heavyN A 65 / 32 := sumF_with (cOf A) 65
theorem heavy_one (A : Nodes) {n : Nat} (hn : n < 65) : cOf A n ≤ heavyN A 65 := sumF_le (cOf A) hn
/-- There is room for what a write grows by. -/
theorem fit_of {A : Nodes} {n T len at' : Nat} {a : NodeA} (ha : A n = some a) (hn : n ≤ 64) (hh : heavyN A 65 + len / 64 ≤ 100) (hb : at' + len - min at' a.data.length ≤ 6144) (hT : T = at' + len) : allOf A + withN (cntN T) ≤ 300 + withN (cOf A n) := by
  have h1 := allOf_heavy A
  have h2 := heavy_one A (show n < 65 by omega)
  have h3 : cOf A n = cntN a.data.length := cOf_some ha
  rw [h3] at h2 ⊢
  rw [withN_nl, withN_nl]
  unfold nlN cntN at *
  omega
/-- The list is well: its nodes are 1 to 64, none has more bytes than its room, its labels lie in the caller's memory. -/
structure Fine (w0 : World) (A : Nodes) (lv : Nat → Value × Value) : Prop where
  dom : ∀ n, (A n).isSome = true → 1 ≤ n ∧ n ≤ 64
  room : ∀ n a, A n = some a → a.room ≤ 256 ∧ a.data.length ≤ 64 * a.room
  lbl : ∀ n a, A n = some a → IntsAt w0 (fun _ => True) (lv n).1 a.s ∧ IntsAt w0 (fun _ => True) (lv n).2 a.i
theorem Fine.len {w0 : World} {A : Nodes} {lv : Nat → Value × Value} (h : Fine w0 A lv) : ∀ n a, A n = some a → a.data.length ≤ 16384 := fun n a ha => by
  have := h.room n a ha
  omega
theorem Fine.zero {w0 : World} {A : Nodes} {lv : Nat → Value × Value} (h : Fine w0 A lv) : A 0 = none := by
  cases e : A 0 with
  | none => rfl
  | some a => have := (h.dom 0 (by rw [e]; rfl)).1; omega
theorem Fine.none_ {w0 : World} {lv : Nat → Value × Value} : Fine w0 (fun _ => none) lv := ⟨fun n h => by simp at h, fun n a h => by simp at h, fun n a h => by simp at h⟩
theorem Fine.put {w0 : World} {A : Nodes} {lv : Nat → Value × Value} (h : Fine w0 A lv) {n : Nat} {a : NodeA} {p : Value × Value} (hn : 1 ≤ n ∧ n ≤ 64) (h1 : a.room ≤ 256) (h2 : a.data.length ≤ 64 * a.room) (hs : IntsAt w0 (fun _ => True) p.1 a.s) (hi : IntsAt w0 (fun _ => True) p.2 a.i) :
    Fine w0 (upd A n (some a)) (fun k => if k = n then p else lv k) := by
  refine ⟨fun k hk => ?_, fun k b hb => ?_, fun k b hb => ?_⟩
  · by_cases e : k = n
    · subst e; exact hn
    · rw [upd_other _ e] at hk; exact h.dom k hk
  · by_cases e : k = n
    · subst e; rw [upd_same] at hb; cases hb; exact ⟨h1, h2⟩
    · rw [upd_other _ e] at hb; exact h.room k b hb
  · by_cases e : k = n
    · subst e; rw [upd_same] at hb; cases hb; simp only [if_true]; exact ⟨hs, hi⟩
    · rw [upd_other _ e] at hb; simp only [if_neg e]; exact h.lbl k b hb
theorem Fine.set {w0 : World} {A : Nodes} {lv : Nat → Value × Value} (h : Fine w0 A lv) {n : Nat} {a : NodeA} {d : Bytes} (ha : A n = some a) (h2 : d.length ≤ 64 * a.room) : Fine w0 (upd A n (some { a with data := d })) lv := by
  have hl := h.lbl n a ha
  have := h.put (n := n) (a := { a with data := d }) (p := lv n) (h.dom n (by rw [ha]; rfl)) (h.room n a ha).1 h2 hl.1 hl.2
  have e : (fun k => if k = n then lv n else lv k) = lv := by funext k; split <;> simp_all
  rwa [e] at this
theorem Fine.del {w0 : World} {A : Nodes} {lv : Nat → Value × Value} (h : Fine w0 A lv) (n : Nat) : Fine w0 (upd A n none) lv := by
  refine ⟨fun k hk => ?_, fun k b hb => ?_, fun k b hb => ?_⟩
  all_goals by_cases e : k = n
  · subst e; rw [upd_same] at hk; cases hk
  · rw [upd_other _ e] at hk; exact h.dom k hk
  · subst e; rw [upd_same] at hb; cases hb
  · rw [upd_other _ e] at hb; exact h.room k b hb
  · subst e; rw [upd_same] at hb; cases hb
  · rw [upd_other _ e] at hb; exact h.lbl k b hb
theorem lstF_upd (A : Nodes) (lv : Nat → Value × Value) {n : Nat} {o : Option NodeA} {p : Value × Value} : lstF (upd A n o) (fun k => if k = n then p else lv k) = fun c => if c / 6 = n then lnodeC o p (c % 6) else lstF A lv c := by
  funext c
  unfold lstF
  by_cases e : c / 6 = n
  · simp only [e, upd_same, if_true]
  · simp only [if_neg e, upd_other _ e]
theorem lst_data {A : Nodes} {lv : Nat → Value × Value} {n : Nat} {a : NodeA} (ha : A n = some a) (d : Bytes) : (lstV A lv).setIfInBounds (n * 6 + 5) (.string ⟨d.toArray⟩) = lstV (upd A n (some { a with data := d })) lv := by
  rw [vec_set]
  refine vec_congr fun k _ => ?_
  unfold lstF
  by_cases e : k / 6 = n
  · rw [e, upd_same]
    by_cases e5 : k = n * 6 + 5
    · subst e5
      rw [upd_same, show (n * 6 + 5) % 6 = 5 by omega]
      rfl
    · rw [upd_other _ e5, e, ha]
      have h5 : k % 6 < 5 := by omega
      generalize k % 6 = c at h5
      match c, h5 with
      | 0, _ | 1, _ | 2, _ | 3, _ | 4, _ => rfl
  · have e5 : k ≠ n * 6 + 5 := by omega
    rw [upd_other _ e5, upd_other _ e]
theorem lst_all {A : Nodes} {lv : Nat → Value × Value} {n : Nat} (o : Option NodeA) (p : Value × Value) :
    ((((((lstV A lv).setIfInBounds (n * 6 + 0) (lnodeC o p 0)).setIfInBounds (n * 6 + 1) (lnodeC o p 1)).setIfInBounds (n * 6 + 2) (lnodeC o p 2)).setIfInBounds (n * 6 + 3) (lnodeC o p 3)).setIfInBounds (n * 6 + 4) (lnodeC o p 4)).setIfInBounds (n * 6 + 5) (lnodeC o p 5) = lstV (upd A n o) (fun k => if k = n then p else lv k) := by
  rw [vec_set, vec_set, vec_set, vec_set, vec_set, vec_set]
  refine vec_congr fun k _ => ?_
  rw [lstF_upd]
  show _ = if k / 6 = n then lnodeC o p (k % 6) else lstF A lv k
  by_cases e : k / 6 = n
  · have h6 : k % 6 < 6 := by omega
    have hk : k = n * 6 + k % 6 := by omega
    rw [if_pos e]
    generalize k % 6 = c at h6 hk
    subst hk
    unfold upd
    match c, h6 with
    | 0, _ | 1, _ | 2, _ | 3, _ | 4, _ | 5, _ => simp
  · rw [if_neg e, upd_other _ (by omega), upd_other _ (by omega), upd_other _ (by omega), upd_other _ (by omega), upd_other _ (by omega), upd_other _ (by omega)]
end Go.Lz
/-
  The document's answer of layer 3, as far as layer 6's statements ask: which labels may be.
-/
namespace Go.Proofs.YtbnoebdpbpjbkaaGreat
open Go.RowKit Go.Lz
section
variable {w : World} {G : Nat → Prop}
set_option maxHeartbeats 2000000 in
set_option maxRecDepth 100000 in
theorem r3set_any {v : Value} {l : List Int} (h : IntsAt w G v l) : Calls Tryz.prog 77 #[v] w fun e w' => e = .returned (.bool (isSetB l)) ∧ Below w.heap.size w w' := by
  obtain ⟨a, n, c, rfl, hl, hn, hc⟩ := h
  have hb : isSetB l = ((List.range n).all (okTag l) && decide (n ≤ 16)) := by unfold isSetB; rw [hl]
  rw [hb]
  have hfin : Hid (∀ i, i < n → okTag l i = false → ((List.range n).all (okTag l) && decide (n ≤ 16)) = false) := Lib.hid fun i hi h => by
    rw [show (List.range n).all (okTag l) = false from by
      rw [List.all_eq_false]
      exact ⟨i, by simpa using hi, by simp [h]⟩]
    rfl
  clear hb
  obtain ⟨R, hR⟩ : ∃ R, R = ((List.range n).all (okTag l) && decide (n ≤ 16)) := ⟨_, rfl⟩
  rw [← hR] at hfin ⊢
  have hRH : Hid _ := Lib.hid hR
  clear hR
  have hcH : Hid _ := Lib.hid hc
  clear hc
  go_enter Tryz.func77, Tryz.ntmps77
  go_wp2_with fail
  go_loopg [3, 2, 4, 5, 6, 7, 8, 9, 10, 11, 12, 13, 14, 15, 16, 17, 18, 19, 20, 21, 22, 23, 24, 25, 26, 27, 28, 29, 30, 31, 32, 33, 34, 35, 36, 37] n (fun g iv _ _ _ _ _ _ _ _ _ _ _ _ _ _ _ _ _ _ _ _ _ _ _ _ _ _ _ _ _ _ _ _ _ _ _ wr => ∃ i : Nat, i + g = n ∧ iv = .int .i64 (i : Int) ∧ (List.range i).all (okTag l) = true ∧ Below w.heap.size w wr)
  case atStart => exact ⟨0, by omega, rfl, rfl, Below.refl _ _⟩
  case round =>
    obtain ⟨i, hi, rfl, hall, hB⟩ := hrel
    rename World => wr
    have hallH : Hid _ := Lib.hid hall
    clear hall
    by_cases hlt : i < n
    · have hiz : (i : Int) < (n : Int) := by omega
      rcases hcH.out with h0 | ⟨g, off, rfl, hg, hgl, hcell⟩
      · omega
      have cell : ∀ j, j < n → wr.cell? ⟨g, off + j, none⟩ = some (.int .i64 (l.getD j 0)) := fun j hj => (hB.cell (p := ⟨g, off + j, none⟩) hgl).trans (hcell j hj)
      have c1 := cell i hlt
      have hok : okTag l i = (tagB (l.getD i 0) && (decide (i = 0) || decide (l.getD (i - 1) 0 < l.getD i 0))) := rfl
      have hokH : Hid _ := Lib.hid hok
      have hc0 : i ≠ 0 → wr.cell? ⟨g, off + (i - 1), none⟩ = some (.int .i64 (l.getD (i - 1) 0)) := fun h => cell (i - 1) (by omega)
      have hBH : Hid _ := Lib.hid hB
      clear hok cell hcell hB hg
      generalize l.getD i 0 = x at *
      generalize l.getD (i - 1) 0 = pv at *
      by_cases h1 : x < 1
      · have hf := hfin.out i hlt (by rw [hokH.out]; unfold tagB; rw [decide_eq_false (by omega : ¬ 1 ≤ x)]; rfl)
        have b1 : decide (x < 1) = true := decide_eq_true h1
        go_upto_region 4 with fail
        refine wp_region_quiet (C := fun W => W = wr.drew) (by kernel_rfl) (by kernel_rfl) rfl ?_
        repeat (any_goals (first | go_big_quiet_step (fail) | quiet_step (fail)))
        refine wpQuiet_nil ?_
        rintro _ rfl
        go_wp2_with fail
        go_ret
        exact ⟨by first | rfl | (rw [hf]; rfl), hBH.out.drew⟩
      · have b1 : decide (x < 1) = false := decide_eq_false h1
        by_cases h2 : 2147483647 < x
        · have hf := hfin.out i hlt (by rw [hokH.out]; unfold tagB; rw [decide_eq_false (by omega : ¬ x ≤ 2147483647), Bool.and_false]; rfl)
          have b2 : decide (2147483647 < x) = true := decide_eq_true h2
          go_upto_region 4 with fail
          refine wp_region_quiet (C := fun W => W = wr.drew) (by kernel_rfl) (by kernel_rfl) rfl ?_
          repeat (any_goals (first | go_big_quiet_step (fail) | quiet_step (fail)))
          refine wpQuiet_nil ?_
          rintro _ rfl
          go_wp2_with fail
          go_ret
          exact ⟨by first | rfl | (rw [hf]; rfl), hBH.out.drew⟩
        · have b2 : decide (2147483647 < x) = false := decide_eq_false h2
          have hT : tagB x = true := by unfold tagB; rw [decide_eq_true (by omega : 1 ≤ x), decide_eq_true (by omega : x ≤ 2147483647)]; rfl
          have hTH : Hid _ := Lib.hid hT
          clear hT
          by_cases hi0 : i = 0
          · have b3 : decide ((0 : Int) < (i : Int)) = false := decide_eq_false (by omega)
            have hi0z : ¬ (0 : Int) < (i : Int) := by omega
            have hi0n : ¬ 0 < i := by omega
            have b3n : decide (0 < i) = false := decide_eq_false hi0n
            have hi0H : Hid _ := Lib.hid hi0
            clear hi0
            go_upto_region 4 with fail
            refine wp_region_quiet (C := fun W => W = wr.drew) (by kernel_rfl) (by kernel_rfl) rfl ?_
            repeat (any_goals (first | go_big_quiet_step (fail) | quiet_step (fail)))
            refine wpQuiet_nil ?_
            rintro _ rfl
            go_wp2_with fail
            go_roundg (gk - 1)
            case measure => omega
            case rel => exact ⟨i + 1, by omega, by go_num, by rw [all_succ, hallH.out, hokH.out, hTH.out, decide_eq_true hi0H.out]; rfl, hBH.out.drew⟩
          · have hi0z : (0 : Int) < (i : Int) := by omega
            have b3 : decide ((0 : Int) < (i : Int)) = true := decide_eq_true hi0z
            have c0 := hc0 hi0
            have hi0n : 0 < i := by omega
            have b3n : decide (0 < i) = true := decide_eq_true hi0n
            have hii : (0 : Int) ≤ (i : Int) - 1 := by omega
            have hin : (i : Int) - 1 < (n : Int) := by omega
            have e2 : ((i : Int) - 1).toNat = i - 1 := by omega
            by_cases hlt2 : pv < x
            · have hle : ¬ x ≤ pv := by omega
              have b4 : decide (x ≤ pv) = false := decide_eq_false hle
              go_upto_region 4 with fail
              refine wp_region_quiet (C := fun W => W = wr.drew) (by kernel_rfl) (by kernel_rfl) rfl ?_
              repeat (any_goals (first | go_big_quiet_step (fail) | quiet_step (fail)))
              refine wpQuiet_nil ?_
              rintro _ rfl
              go_wp2_with fail
              go_roundg (gk - 1)
              case measure => omega
              case rel => exact ⟨i + 1, by omega, by go_num, by rw [all_succ, hallH.out, hokH.out, hTH.out, decide_eq_false hi0, decide_eq_true hlt2]; rfl, hBH.out.drew⟩
            · have hle : x ≤ pv := by omega
              have b4 : decide (x ≤ pv) = true := decide_eq_true hle
              have hf := hfin.out i hlt (by rw [hokH.out, hTH.out, decide_eq_false hi0, decide_eq_false hlt2]; rfl)
              go_upto_region 4 with fail
              refine wp_region_quiet (C := fun W => W = wr.drew) (by kernel_rfl) (by kernel_rfl) rfl ?_
              repeat (any_goals (first | go_big_quiet_step (fail) | quiet_step (fail)))
              refine wpQuiet_nil ?_
              rintro _ rfl
              go_wp2_with fail
              go_ret
              exact ⟨by first | rfl | (rw [hf]; rfl), hBH.out.drew⟩
    · have hiz : ¬ (i : Int) < (n : Int) := by omega
      obtain rfl : i = n := by omega
      have hR : R = decide (i ≤ 16) := by rw [hRH.out, hallH.out]; rfl
      have hRH2 : Hid _ := Lib.hid hR
      have hBH : Hid _ := Lib.hid hB
      clear hR hB
      by_cases h16 : i ≤ 16
      · have h16z : (i : Int) ≤ 16 := by omega
        go_wp2_with fail
        go_ret
        exact ⟨by rw [hRH2.out, decide_eq_true h16]; rfl, hBH.out⟩
      · have h16z : ¬ (i : Int) ≤ 16 := by omega
        go_wp2_with fail
        go_ret
        exact ⟨by rw [hRH2.out, decide_eq_false h16]; rfl, hBH.out⟩
set_option maxRecDepth 100000 in
theorem r3may_any {vS vI : Value} {S I : List Int} (hS : IntsAt w G vS S) (hI : IntsAt w G vI I) : Calls Tryz.prog 57 #[.agg #[vS, vI]] w fun e w' => e = .returned (.bool (isSetB S && isSetB I)) ∧ Below w.heap.size w w' := by
  have hb : Below w.heap.size w (w.alloc (.cells #[vS, vI] 31)) := (Below.refl _ w).alloc (Nat.le_refl _) _
  have k1 := heap_alloc_new w (.cells #[vS, vI] 31)
  have cS := r3set_any (IntsAt.below hS hb)
  have cI : ∀ W', Below (w.alloc (.cells #[vS, vI] 31)).heap.size (w.alloc (.cells #[vS, vI] 31)) W' → Calls Tryz.prog 77 #[vI] W' fun e w' => e = .returned (.bool (isSetB I)) ∧ Below W'.heap.size W' w' := fun W' hb2 => r3set_any (IntsAt.below hI (hb.trans (hb2.mono hb.size)))
  obtain ⟨a1, c1, rfl⟩ := IntsAt.form hS
  obtain ⟨a2, c2, rfl⟩ := IntsAt.form hI
  have hbH : Hid _ := Lib.hid hb
  go_enter Tryz.func57, Tryz.ntmps57
  go_upto_region 1 with fail
  generalize w.alloc (.cells #[.slice a1 S.length c1, .slice a2 I.length c2] 31) = W at *
  have q1 : W.cell? ⟨w.heap.size, 0, none⟩ = some (.slice a1 S.length c1) := cell_of k1 0
  have q2 : W.cell? ⟨w.heap.size, 1, none⟩ = some (.slice a2 I.length c2) := cell_of k1 1
  have l1 := lt_of_heap k1
  clear hb hS hI k1
  cases h : isSetB S with
  | false =>
    rw [h] at cS
    go_wp2_with (go_at_call 77; refine cS.mono ?_; rintro e w' ⟨rfl, hb3⟩)
    go_ret
    exact ⟨by rw [h]; rfl, hbH.out.trans (hb3.mono hbH.out.size)⟩
  | true =>
    rw [h] at cS
    go_wp2_with fail
    go_at_call 77
    with_reducible refine cS.mono ?_
    rintro e w3 ⟨rfl, hb3⟩
    have q3 : w3.cell? ⟨w.heap.size, 1, none⟩ = some (.slice a2 I.length c2) := (hb3.cell (p := ⟨w.heap.size, 1, none⟩) l1).trans q2
    have cI3 := cI _ hb3
    clear cS cI
    go_wp2_with (go_at_call 77; refine cI3.mono ?_; rintro e w4 ⟨rfl, hb4⟩)
    go_ret
    exact ⟨by rw [h]; rfl, (hbH.out.trans (hb3.mono hbH.out.size)).trans (hb4.mono (Nat.le_trans hbH.out.size hb3.size))⟩
end
end Go.Proofs.YtbnoebdpbpjbkaaGreat
/-
  A call of a script, done to both: small laws.
-/
namespace Go.Lz
open Go.RowKit Go.Proofs.YtbnoebdpbpjbkaaGreat
/-- The list's node under a number; none: the number is none. -/
def atN (A : Nodes) (z : Int) : Option NodeA := if 1 ≤ z ∧ z ≤ 64 then A z.toNat else none
def nodeO (o : Option NodeA) (l : Value × Value) : Obj := .cells #[lnodeC o l 0, lnodeC o l 1, lnodeC o l 2, lnodeC o l 3, lnodeC o l 4, lnodeC o l 5] 53 (0, 0)
def opO (k z a b : Int) (vs vi vd : Value) : Obj := .cells #[.int .i64 k, .int .i64 z, .int .i64 a, .int .i64 b, vs, vi, vd] 56 (0, 0)
def lstO (A : Nodes) (lv : Nat → Value × Value) : Obj := .cells (lstV A lv) 54 (0, 0)
theorem atN_none {A : Nodes} {lv : Nat → Value × Value} {w0 : World} (hF : Fine w0 A lv) {z : Int} (h : atN A z = none) : ¬ IsN A z := fun ⟨h1, h2⟩ => by
  have h3 := (hF.dom _ h2).2
  unfold atN at h
  rw [if_pos (by omega)] at h
  rw [h] at h2
  cases h2
theorem atN_some {A : Nodes} {z : Int} {a : NodeA} (h : atN A z = some a) : ∃ n : Nat, z = n ∧ 1 ≤ n ∧ n ≤ 64 ∧ A n = some a := by
  unfold atN at h
  split at h
  · rename_i h1
    exact ⟨z.toNat, by omega, by omega, by omega, h⟩
  · cases h
theorem lnodeC_on (o : Option NodeA) (l : Value × Value) : lnodeC o l 0 = .bool o.isSome := by cases o <;> rfl
theorem ext_mid (x : Bytes) (i k : Nat) : (⟨x.toArray⟩ : ByteArray).extract i k = ⟨((x.take k).drop i).toArray⟩ := by
  apply ByteArray.ext
  simp [ByteArray.data_extract]
  try rw [List.extract_eq_take_drop]
  try simp [List.drop_take]
theorem ext_take (x : Bytes) (k : Nat) : (⟨x.toArray⟩ : ByteArray).extract 0 k = ⟨(x.take k).toArray⟩ := ext_mid x 0 k
end Go.Lz
namespace Go.Proofs.YtbnoebdpbpjbkaaGreat
open Go.RowKit Go.Lz
section
variable {w w0 : World} {p q pb pn pk N cc m bl : Nat} {L : Locals} {A A0 : Nodes} {lv : Nat → Value × Value}
theorem lst_cell {w : World} {n c : Nat} (hb : w.heap[bl]? = some (lstO A lv)) (hn : n ≤ 64) (hc : c < 6) : w.cell? ⟨bl, n * 6 + c, none⟩ = some (lnodeC (A n) (lv n) c) := by
  have hb' : w.heap[bl]? = some (.cells (lstV A lv) 54 (0, 0)) := hb
  rw [cell_of hb', vec_at _ (by omega)]
  unfold lstF
  rw [show (n * 6 + c) / 6 = n by omega, show (n * 6 + c) % 6 = c by omega]
theorem node_cell {w : World} {bw c : Nat} {o : Option NodeA} {l : Value × Value} (hb : w.heap[bw]? = some (nodeO o l)) (hc : c < 6) : w.cell? ⟨bw, c, none⟩ = some (lnodeC o l c) := by
  have hb' : w.heap[bw]? = some (.cells #[lnodeC o l 0, lnodeC o l 1, lnodeC o l 2, lnodeC o l 3, lnodeC o l 4, lnodeC o l 5] 53 (0, 0)) := hb
  rw [cell_of hb']
  match c, hc with
  | 0, _ | 1, _ | 2, _ | 3, _ | 4, _ | 5, _ => rfl
/-- What a call of a script comes to: both did the same. -/
def DoDid (w0 : World) (p q cc m bl : Nat) (L : Locals) (A0 : Nodes) (k : Int) (e : Ending) (w' : World) : Prop :=
  e = .returned (.bool true) ∧ ∃ A' lv' m', Own w0 w' (TB p q 600 A' A0 cc m') (upd L bl (some (lstO A' lv'))) ∧ Fine w0 A' lv' ∧ m' ≤ m + 106 ∧ (k < 0 ∨ 4 ≤ k → m' = m)
theorem own_back {T : World → (Nat → Prop) → Prop} {L2 : Locals} {x : Obj} (h : Own w0 w T (upd L2 bl (some x))) (i : LocIn L L2) : Own w0 w T (upd L bl (some x)) :=
  h.forget fun b o hb => by
    by_cases e : b = bl
    · subst e; rw [upd_same] at hb ⊢; exact hb
    · rw [upd_other _ e] at hb ⊢; exact i b o hb
theorem upd_id {L : Locals} {x : Obj} (hb : L bl = some x) : upd L bl (some x) = L := by
  funext k
  by_cases e : k = bl
  · subst e; rw [upd_same, hb]
  · rw [upd_other _ e]
theorem own_same {T : World → (Nat → Prop) → Prop} {L2 : Locals} {x : Obj} (h : Own w0 w T L2) (i : LocIn L L2) (hb : L bl = some x) : Own w0 w T (upd L bl (some x)) := by
  rw [upd_id hb]
  exact h.forget i
theorem upd_twice (L : Locals) (b : Nat) (x y : Option Obj) : upd (upd L b x) b y = upd L b y := by
  funext k
  by_cases e : k = b
  · subst e; rw [upd_same, upd_same]
  · rw [upd_other _ e, upd_other _ e, upd_other _ e]
/-- A local block's six cells are written. -/
theorem own_six {T : World → (Nat → Prop) → Prop} {L2 : Locals} {b o : Nat} {cs : Array Value} {E : TypeId} (h : Own w0 w T L2) (hk : Keeps T) (hb : L2 b = some (.cells cs E (0, 0))) (v0 v1 v2 v3 v4 v5 : Value) :
    Own w0 ((((((w.setCell ⟨b, o + 0, none⟩ v0).setCell ⟨b, o + 1, none⟩ v1).setCell ⟨b, o + 2, none⟩ v2).setCell ⟨b, o + 3, none⟩ v3).setCell ⟨b, o + 4, none⟩ v4).setCell ⟨b, o + 5, none⟩ v5) T (upd L2 b (some (.cells ((((((cs.setIfInBounds (o + 0) v0).setIfInBounds (o + 1) v1).setIfInBounds (o + 2) v2).setIfInBounds (o + 3) v3).setIfInBounds (o + 4) v4).setIfInBounds (o + 5) v5) E (0, 0)))) := by
  have h0 := Own.put h hk hb (o + 0) v0
  have h1 := Own.put h0 hk (upd_same _ _ _) (o + 1) v1
  have h2 := Own.put h1 hk (upd_same _ _ _) (o + 2) v2
  have h3 := Own.put h2 hk (upd_same _ _ _) (o + 3) v3
  have h4 := Own.put h3 hk (upd_same _ _ _) (o + 4) v4
  have h5 := Own.put h4 hk (upd_same _ _ _) (o + 5) v5
  rw [upd_twice, upd_twice, upd_twice, upd_twice, upd_twice] at h5
  exact h5
theorem own_node {T : World → (Nat → Prop) → Prop} {L2 : Locals} {bw : Nat} {o o' : Option NodeA} {l l' : Value × Value} (h : Own w0 w T L2) (hk : Keeps T) (hb : L2 bw = some (nodeO o l)) :
    Own w0 ((((((w.setCell ⟨bw, 0, none⟩ (lnodeC o' l' 0)).setCell ⟨bw, 1, none⟩ (lnodeC o' l' 1)).setCell ⟨bw, 2, none⟩ (lnodeC o' l' 2)).setCell ⟨bw, 3, none⟩ (lnodeC o' l' 3)).setCell ⟨bw, 4, none⟩ (lnodeC o' l' 4)).setCell ⟨bw, 5, none⟩ (lnodeC o' l' 5)) T (upd L2 bw (some (nodeO o' l'))) :=
  own_six (o := 0) h hk hb _ _ _ _ _ _
/-- A node of the list is put whole. -/
theorem own_lst {T : World → (Nat → Prop) → Prop} {L2 : Locals} {n : Nat} (h : Own w0 w T L2) (hk : Keeps T) (hb : L2 bl = some (lstO A lv)) (o : Option NodeA) (l : Value × Value) :
    Own w0 ((((((w.setCell ⟨bl, n * 6, none⟩ (lnodeC o l 0)).setCell ⟨bl, n * 6 + 1, none⟩ (lnodeC o l 1)).setCell ⟨bl, n * 6 + 2, none⟩ (lnodeC o l 2)).setCell ⟨bl, n * 6 + 3, none⟩ (lnodeC o l 3)).setCell ⟨bl, n * 6 + 4, none⟩ (lnodeC o l 4)).setCell ⟨bl, n * 6 + 5, none⟩ (lnodeC o l 5)) T (upd L2 bl (some (lstO (upd A n o) (fun k => if k = n then l else lv k)))) := by
  have h1 := own_six (o := n * 6) h hk hb (lnodeC o l 0) (lnodeC o l 1) (lnodeC o l 2) (lnodeC o l 3) (lnodeC o l 4) (lnodeC o l 5)
  rw [lst_all] at h1
  exact h1
theorem own_data {T : World → (Nat → Prop) → Prop} {L2 : Locals} {n : Nat} {x : NodeA} (h : Own w0 w T L2) (hk : Keeps T) (hb : L2 bl = some (lstO A lv)) (ha : A n = some x) (d : Bytes) :
    Own w0 (w.setCell ⟨bl, n * 6 + 5, none⟩ (.string ⟨d.toArray⟩)) T (upd L2 bl (some (lstO (upd A n (some { x with data := d })) lv))) := by
  have h1 := Own.put h hk hb (n * 6 + 5) (.string ⟨d.toArray⟩)
  rw [lst_data ha] at h1
  exact h1
theorem op_cells {w : World} {bo : Nat} {k z a b : Int} {vs vi vd : Value} (hb : w.heap[bo]? = some (opO k z a b vs vi vd)) : w.cell? ⟨bo, 0, none⟩ = some (.int .i64 k) ∧ w.cell? ⟨bo, 1, none⟩ = some (.int .i64 z) ∧ w.cell? ⟨bo, 2, none⟩ = some (.int .i64 a) ∧ w.cell? ⟨bo, 3, none⟩ = some (.int .i64 b) ∧ w.cell? ⟨bo, 4, none⟩ = some vs ∧ w.cell? ⟨bo, 5, none⟩ = some vi ∧ w.cell? ⟨bo, 6, none⟩ = some vd :=
  ⟨cell_of hb 0, cell_of hb 1, cell_of hb 2, cell_of hb 3, cell_of hb 4, cell_of hb 5, cell_of hb 6⟩
theorem lv_self (lv : Nat → Value × Value) (n : Nat) : (fun k => if k = n then lv n else lv k) = lv := by
  funext k
  by_cases e : k = n
  · subst e; simp
  · simp [e]
theorem lst_froz {w : World} (hb : w.heap[bl]? = some (lstO A lv)) (k : Nat) : w.frozen? ⟨bl, k, none⟩ = false := by
  have hb' : w.heap[bl]? = some (.cells (lstV A lv) 54 (0, 0)) := hb
  exact frozen_of hb' k
end
end Go.Proofs.YtbnoebdpbpjbkaaGreat
/-
  A call of a script, done to both: Free, Cut.
-/
namespace Go.Proofs.YtbnoebdpbpjbkaaGreat
open Go.RowKit Go.Lz
section
variable {w w0 : World} {p q pb pn pk N cc m bl : Nat} {L : Locals} {A A0 : Nodes} {lv : Nat → Value × Value}
set_option maxRecDepth 100000 in
set_option maxHeartbeats 4000000 in
theorem do_free {z a b : Int} {vs vi vd : Value} {s i : List Int} {data : Bytes} (h : Own w0 w (TB p q 600 A A0 cc m) L) (hL : BaseL L pb p pn pk 600) (hb : L bl = some (lstO A lv)) (hF : Fine w0 A lv) (hV : OpV w0 (fun _ => True) vs vi vd ⟨1, z, a, b, s, i, data⟩) (hm : m ≤ 5) :
    Calls Tryz.prog 22 #[Dptr pb, .pointer (some ⟨bl, 0, none⟩), .agg #[.int .i64 1, .int .i64 z, .int .i64 a, .int .i64 b, vs, vi, vd]] w (DoDid w0 p q cc m bl L A0 1) := by
  have hVs := IntsAt.form hV.s
  have hVi := IntsAt.form hV.i
  have hVd := BytesAt.form hV.d
  obtain ⟨ax, cs, rfl⟩ := hVs
  obtain ⟨ai, ci, rfl⟩ := hVi
  obtain ⟨ad, cd, rfl⟩ := hVd
  have hn := h.none_ (Nat.le_refl w.heap.size)
  have hnz0 := h.none_ (show w.heap.size ≤ w.heap.size + 1 by omega)
  obtain ⟨bo, hbo⟩ : ∃ bo, bo = w.heap.size := ⟨_, rfl⟩
  obtain ⟨O, hOe⟩ : ∃ O, O = opO 1 z a b (.slice ax s.length cs) (.slice ai i.length ci) (.slice ad data.length cd) := ⟨_, rfl⟩
  obtain ⟨Z, hZe⟩ : ∃ Z, Z = nodeO none (lv z.toNat) := ⟨_, rfl⟩
  have hO1 := own_new6 h (keepsTB _ _ _ _ _ _ _) O
  have hL1 := hL.upd_ (o := O) hn
  have hn1 := hO1.none_ (Nat.le_refl _)
  have s1 : (w.alloc O).heap.size = bo + 1 := by rw [hbo]; simp
  have hO2 := own_new6 hO1 (keepsTB _ _ _ _ _ _ _) Z
  have hL2 := hL1.upd_ (o := Z) hn1
  have iL1 : LocIn L (upd L w.heap.size (some O)) := LocIn.upd_ hn
  have iL2 := iL1.trans (LocIn.upd_ (g := (w.alloc O).heap.size) (o := Z) hn1)
  rw [s1, ← hbo] at hO2 hL2 iL2
  rw [s1, ← hbo] at hn1
  rw [← hbo] at hn hnz0
  obtain ⟨L2, hL2e⟩ : ∃ L2, L2 = upd (upd L bo (some O)) (bo + 1) (some Z) := ⟨_, rfl⟩
  rw [← hL2e] at hO2 hL2 iL2
  have kO : L2 bo = some O := by rw [hL2e, upd_other _ (by omega), upd_same]
  have kZ : L2 (bo + 1) = some Z := by rw [hL2e, upd_same]
  have hbL : L2 bl = some (lstO A lv) := iL2 _ _ hb
  have hlt := h.loc_lt hb
  have ne1 : bl ≠ bo := by omega
  have ne2 : bl ≠ bo + 1 := by omega
  have hOeH : Hid _ := Lib.hid hOe
  have hZeH : Hid _ := Lib.hid hZe
  have hboH : Hid _ := Lib.hid hbo
  clear hL2e hO1 hL1 iL1 s1 hn1 hlt hbo
  go_enter Tryz.func22, Tryz.ntmps22
  go_upto_region 3 with fail
  have hW : (w.alloc (.cells #[.int .i64 1, .int .i64 z, .int .i64 a, .int .i64 b, .slice ax s.length cs, .slice ai i.length ci, .slice ad data.length cd] 56)).alloc (.cells #[.bool false, .int .i64 0, .int .i64 0, .slice none 0 0, .slice none 0 0, .string ⟨#[]⟩] 53) = (w.alloc O).alloc Z := by rw [hOeH.out, hZeH.out]; rfl
  rw [hW, ← hboH.out]
  clear hW
  generalize (w.alloc O).alloc Z = W2 at *
  go_cut [28] from 23 to 28 (fun v wx => v = .bool (decide (1 ≤ z ∧ z ≤ 64)) ∧ wx = W2)
  case first =>
    by_cases h1 : 1 ≤ z
    · by_cases h2 : z ≤ 64
      · go_wp2_with fail
        go_meet
        case rel => exact ⟨by rw [decide_eq_true (by omega : 1 ≤ z ∧ z ≤ 64)], rfl⟩
      · go_wp2_with fail
        go_meet
        case rel => exact ⟨by rw [decide_eq_false (by omega : ¬ (1 ≤ z ∧ z ≤ 64))], rfl⟩
    · go_wp2_with fail
      go_meet
      case rel => exact ⟨by rw [decide_eq_false (by omega : ¬ (1 ≤ z ∧ z ≤ 64))], rfl⟩
  case rest =>
  obtain ⟨rfl, rfl⟩ := hcut
  rename World => wc
  go_upto_if 28 with fail
  go_cut [28] from 29 to 33 (fun _ wx => Own w0 wx (TB p q 600 A A0 cc m) (upd L2 (bo + 1) (some (nodeO (atN A z) (lv z.toNat)))))
  case first =>
    by_cases hz : 1 ≤ z ∧ z ≤ 64
    · rw [decide_eq_true hz]
      have hat : atN A z = A z.toNat := if_pos hz
      obtain ⟨n, rfl, hn64⟩ : ∃ n : Nat, z = n ∧ n ≤ 64 := ⟨z.toNat, by omega, by omega⟩
      rw [Int.toNat_natCast] at hat hZeH
      have hwL := hO2.loc hbL
      have hwZ := hO2.loc kZ
      rw [hZeH.out] at hwZ
      have q0 : wc.cell? ⟨bl, n * 6, none⟩ = some (lnodeC (A n) (lv n) 0) := lst_cell (c := 0) hwL hn64 (by omega)
      have q1 := lst_cell (c := 1) hwL hn64 (by omega)
      have q2 := lst_cell (c := 2) hwL hn64 (by omega)
      have q3 := lst_cell (c := 3) hwL hn64 (by omega)
      have q4 := lst_cell (c := 4) hwL hn64 (by omega)
      have q5 := lst_cell (c := 5) hwL hn64 (by omega)
      have n65 : n < 65 := by omega
      have z0 := node_cell (c := 0) hwZ (by omega)
      have f0 := frozen_of hwZ 0
      have z1 := node_cell (c := 1) hwZ (by omega)
      have f1 := frozen_of hwZ 1
      have z2 := node_cell (c := 2) hwZ (by omega)
      have f2 := frozen_of hwZ 2
      have z3 := node_cell (c := 3) hwZ (by omega)
      have f3 := frozen_of hwZ 3
      have z4 := node_cell (c := 4) hwZ (by omega)
      have f4 := frozen_of hwZ 4
      have z5 := node_cell (c := 5) hwZ (by omega)
      have f5 := frozen_of hwZ 5
      have hres := own_node (o' := A n) (l' := lv n) hO2 (keepsTB _ _ _ _ _ _ _) (by rw [← hZeH.out]; exact kZ)
      have hresH : Hid _ := Lib.hid hres
      clear hres hwL hwZ
      cases hA : A n with
      | none =>
        rw [hA] at q0 q1 q2 q3 q4 q5
        dsimp only [lnodeC] at q0 q1 q2 q3 q4 q5 z0 z1 z2 z3 z4 z5
        go_wp2_with fail
        go_meet
        case rel =>
          have := hresH.out
          rw [hA] at this
          rw [hat, hA]
          exact this
      | some x =>
        obtain ⟨a1, c1, e1⟩ := IntsAt.form (hF.lbl n x hA).1
        obtain ⟨a2, c2, e2⟩ := IntsAt.form (hF.lbl n x hA).2
        rw [hA] at q0 q1 q2 q3 q4 q5
        dsimp only [lnodeC] at q0 q1 q2 q3 q4 q5 z0 z1 z2 z3 z4 z5
        rw [e1] at q3
        rw [e2] at q4
        go_wp2_with fail
        go_meet
        case rel =>
          have := hresH.out
          rw [hA] at this
          dsimp only [lnodeC] at this
          rw [e1, e2] at this
          rw [hat, hA]
          exact this
    · rw [decide_eq_false hz]
      have hat : atN A z = none := if_neg hz
      go_wp2_with fail
      go_meet
      case rel =>
        rw [hat, ← hZeH.out, upd_id kZ]
        exact hO2
  case rest =>
  rename World => wx
  obtain ⟨L3, hL3e⟩ : ∃ L3, L3 = upd L2 (bo + 1) (some (nodeO (atN A z) (lv z.toNat))) := ⟨_, rfl⟩
  rw [← hL3e] at hcut
  have i3 : LocIn L L3 := fun b o hb' => by
    have ne : b ≠ bo + 1 := fun e => by rw [e, hnz0] at hb'; cases hb'
    rw [hL3e, upd_other _ ne]
    exact iL2 b o hb'
  have kN : L3 (bo + 1) = some (nodeO (atN A z) (lv z.toNat)) := by rw [hL3e, upd_same]
  have kO3 : L3 bo = some O := by rw [hL3e, upd_other _ (by omega)]; exact kO
  have kL3 : L3 bl = some (lstO A lv) := i3 _ _ hb
  have hL3 := hL.mono i3
  rw [hOeH.out] at kO3
  obtain ⟨o0, o1, o2, o3, o4, o5, o6⟩ := op_cells (hcut.loc kO3)
  clear hL3e hL2 hO2 iL2 kO kZ hbL hOeH hZeH hOe hZe O Z hn hnz0 h hboH
  cases hat : atN A z with
  | none =>
    have cF := free6_none hcut hL3 (atN_none hF hat)
    go_wp2_with (go_at_call 10; refine cF.mono ?_; rintro e w3 ⟨rfl, hO3, hs3⟩; have y0 := node_cell (c := 0) (hO3.loc kN) (by omega); rw [hat] at y0; dsimp only [lnodeC] at y0)
    go_ret
    exact ⟨rfl, A, lv, m, own_same hO3 i3 hb, hF, by omega, fun h => by omega⟩
  | some x =>
    obtain ⟨n, rfl, hn1, hn64, ha⟩ := atN_some hat
    have cF := free6_ok hcut hL3 ha (by omega)
    have n65 : n < 65 := by omega
    go_upto_region 21 with (go_at_call 10; refine cF.mono ?_; rintro e w3 ⟨rfl, hO3, hs3⟩; have y0 := node_cell (c := 0) (hO3.loc kN) (by omega); rw [hat] at y0; dsimp only [lnodeC] at y0)
    have hwL := hO3.loc kL3
    have q0 : w3.cell? ⟨bl, n * 6, none⟩ = some (lnodeC (A n) (lv n) 0) := lst_cell (c := 0) hwL hn64 (by omega)
    have q1 := lst_cell (c := 1) hwL hn64 (by omega)
    have q2 := lst_cell (c := 2) hwL hn64 (by omega)
    have q3 := lst_cell (c := 3) hwL hn64 (by omega)
    have q4 := lst_cell (c := 4) hwL hn64 (by omega)
    have q5 := lst_cell (c := 5) hwL hn64 (by omega)
    have f0 := lst_froz hwL (n * 6)
    have f1 := lst_froz hwL (n * 6 + 1)
    have f2 := lst_froz hwL (n * 6 + 2)
    have f3 := lst_froz hwL (n * 6 + 3)
    have f4 := lst_froz hwL (n * 6 + 4)
    have f5 := lst_froz hwL (n * 6 + 5)
    have hres := own_lst (n := n) hO3 (keepsTB _ _ _ _ _ _ _) kL3 none (lv n)
    rw [lv_self] at hres
    have hresH : Hid _ := Lib.hid (own_back hres i3)
    clear hres hwL hO3 cF
    go_wp2_with fail
    go_ret
    exact ⟨rfl, _, lv, m + 1, hresH.out, hF.del n, by omega, fun h => by omega⟩
set_option maxRecDepth 100000 in
set_option maxHeartbeats 4000000 in
theorem do_cut {z a b : Int} {vs vi vd : Value} {s i : List Int} {data : Bytes} (h : Own w0 w (TB p q 600 A A0 cc m) L) (hL : BaseL L pb p pn pk 600) (hb : L bl = some (lstO A lv)) (hF : Fine w0 A lv) (hV : OpV w0 (fun _ => True) vs vi vd ⟨3, z, a, b, s, i, data⟩) (hm : m ≤ 5) :
    Calls Tryz.prog 22 #[Dptr pb, .pointer (some ⟨bl, 0, none⟩), .agg #[.int .i64 3, .int .i64 z, .int .i64 a, .int .i64 b, vs, vi, vd]] w (DoDid w0 p q cc m bl L A0 3) := by
  have hVs := IntsAt.form hV.s
  have hVi := IntsAt.form hV.i
  have hVd := BytesAt.form hV.d
  obtain ⟨ax, cs, rfl⟩ := hVs
  obtain ⟨ai, ci, rfl⟩ := hVi
  obtain ⟨ad, cd, rfl⟩ := hVd
  have hn := h.none_ (Nat.le_refl w.heap.size)
  have hnz0 := h.none_ (show w.heap.size ≤ w.heap.size + 1 by omega)
  obtain ⟨bo, hbo⟩ : ∃ bo, bo = w.heap.size := ⟨_, rfl⟩
  obtain ⟨O, hOe⟩ : ∃ O, O = opO 3 z a b (.slice ax s.length cs) (.slice ai i.length ci) (.slice ad data.length cd) := ⟨_, rfl⟩
  obtain ⟨Z, hZe⟩ : ∃ Z, Z = nodeO none (lv z.toNat) := ⟨_, rfl⟩
  have hO1 := own_new6 h (keepsTB _ _ _ _ _ _ _) O
  have hL1 := hL.upd_ (o := O) hn
  have hn1 := hO1.none_ (Nat.le_refl _)
  have s1 : (w.alloc O).heap.size = bo + 1 := by rw [hbo]; simp
  have hO2 := own_new6 hO1 (keepsTB _ _ _ _ _ _ _) Z
  have hL2 := hL1.upd_ (o := Z) hn1
  have iL1 : LocIn L (upd L w.heap.size (some O)) := LocIn.upd_ hn
  have iL2 := iL1.trans (LocIn.upd_ (g := (w.alloc O).heap.size) (o := Z) hn1)
  rw [s1, ← hbo] at hO2 hL2 iL2
  rw [s1, ← hbo] at hn1
  rw [← hbo] at hn hnz0
  obtain ⟨L2, hL2e⟩ : ∃ L2, L2 = upd (upd L bo (some O)) (bo + 1) (some Z) := ⟨_, rfl⟩
  rw [← hL2e] at hO2 hL2 iL2
  have kO : L2 bo = some O := by rw [hL2e, upd_other _ (by omega), upd_same]
  have kZ : L2 (bo + 1) = some Z := by rw [hL2e, upd_same]
  have hbL : L2 bl = some (lstO A lv) := iL2 _ _ hb
  have hlt := h.loc_lt hb
  have ne1 : bl ≠ bo := by omega
  have ne2 : bl ≠ bo + 1 := by omega
  have hOeH : Hid _ := Lib.hid hOe
  have hZeH : Hid _ := Lib.hid hZe
  have hboH : Hid _ := Lib.hid hbo
  clear hL2e hO1 hL1 iL1 s1 hn1 hlt hbo
  go_enter Tryz.func22, Tryz.ntmps22
  go_upto_region 3 with fail
  have hW : (w.alloc (.cells #[.int .i64 3, .int .i64 z, .int .i64 a, .int .i64 b, .slice ax s.length cs, .slice ai i.length ci, .slice ad data.length cd] 56)).alloc (.cells #[.bool false, .int .i64 0, .int .i64 0, .slice none 0 0, .slice none 0 0, .string ⟨#[]⟩] 53) = (w.alloc O).alloc Z := by rw [hOeH.out, hZeH.out]; rfl
  rw [hW, ← hboH.out]
  clear hW
  generalize (w.alloc O).alloc Z = W2 at *
  go_cut [28] from 23 to 28 (fun v wx => v = .bool (decide (1 ≤ z ∧ z ≤ 64)) ∧ wx = W2)
  case first =>
    by_cases h1 : 1 ≤ z
    · by_cases h2 : z ≤ 64
      · go_wp2_with fail
        go_meet
        case rel => exact ⟨by rw [decide_eq_true (by omega : 1 ≤ z ∧ z ≤ 64)], rfl⟩
      · go_wp2_with fail
        go_meet
        case rel => exact ⟨by rw [decide_eq_false (by omega : ¬ (1 ≤ z ∧ z ≤ 64))], rfl⟩
    · go_wp2_with fail
      go_meet
      case rel => exact ⟨by rw [decide_eq_false (by omega : ¬ (1 ≤ z ∧ z ≤ 64))], rfl⟩
  case rest =>
  obtain ⟨rfl, rfl⟩ := hcut
  rename World => wc
  go_upto_if 28 with fail
  go_cut [28] from 29 to 33 (fun _ wx => Own w0 wx (TB p q 600 A A0 cc m) (upd L2 (bo + 1) (some (nodeO (atN A z) (lv z.toNat)))))
  case first =>
    by_cases hz : 1 ≤ z ∧ z ≤ 64
    · rw [decide_eq_true hz]
      have hat : atN A z = A z.toNat := if_pos hz
      obtain ⟨n, rfl, hn64⟩ : ∃ n : Nat, z = n ∧ n ≤ 64 := ⟨z.toNat, by omega, by omega⟩
      rw [Int.toNat_natCast] at hat hZeH
      have hwL := hO2.loc hbL
      have hwZ := hO2.loc kZ
      rw [hZeH.out] at hwZ
      have q0 : wc.cell? ⟨bl, n * 6, none⟩ = some (lnodeC (A n) (lv n) 0) := lst_cell (c := 0) hwL hn64 (by omega)
      have q1 := lst_cell (c := 1) hwL hn64 (by omega)
      have q2 := lst_cell (c := 2) hwL hn64 (by omega)
      have q3 := lst_cell (c := 3) hwL hn64 (by omega)
      have q4 := lst_cell (c := 4) hwL hn64 (by omega)
      have q5 := lst_cell (c := 5) hwL hn64 (by omega)
      have n65 : n < 65 := by omega
      have z0 := node_cell (c := 0) hwZ (by omega)
      have f0 := frozen_of hwZ 0
      have z1 := node_cell (c := 1) hwZ (by omega)
      have f1 := frozen_of hwZ 1
      have z2 := node_cell (c := 2) hwZ (by omega)
      have f2 := frozen_of hwZ 2
      have z3 := node_cell (c := 3) hwZ (by omega)
      have f3 := frozen_of hwZ 3
      have z4 := node_cell (c := 4) hwZ (by omega)
      have f4 := frozen_of hwZ 4
      have z5 := node_cell (c := 5) hwZ (by omega)
      have f5 := frozen_of hwZ 5
      have hres := own_node (o' := A n) (l' := lv n) hO2 (keepsTB _ _ _ _ _ _ _) (by rw [← hZeH.out]; exact kZ)
      have hresH : Hid _ := Lib.hid hres
      clear hres hwL hwZ
      cases hA : A n with
      | none =>
        rw [hA] at q0 q1 q2 q3 q4 q5
        dsimp only [lnodeC] at q0 q1 q2 q3 q4 q5 z0 z1 z2 z3 z4 z5
        go_wp2_with fail
        go_meet
        case rel =>
          have := hresH.out
          rw [hA] at this
          rw [hat, hA]
          exact this
      | some x =>
        obtain ⟨a1, c1, e1⟩ := IntsAt.form (hF.lbl n x hA).1
        obtain ⟨a2, c2, e2⟩ := IntsAt.form (hF.lbl n x hA).2
        rw [hA] at q0 q1 q2 q3 q4 q5
        dsimp only [lnodeC] at q0 q1 q2 q3 q4 q5 z0 z1 z2 z3 z4 z5
        rw [e1] at q3
        rw [e2] at q4
        go_wp2_with fail
        go_meet
        case rel =>
          have := hresH.out
          rw [hA] at this
          dsimp only [lnodeC] at this
          rw [e1, e2] at this
          rw [hat, hA]
          exact this
    · rw [decide_eq_false hz]
      have hat : atN A z = none := if_neg hz
      go_wp2_with fail
      go_meet
      case rel =>
        rw [hat, ← hZeH.out, upd_id kZ]
        exact hO2
  case rest =>
  rename World => wx
  obtain ⟨L3, hL3e⟩ : ∃ L3, L3 = upd L2 (bo + 1) (some (nodeO (atN A z) (lv z.toNat))) := ⟨_, rfl⟩
  rw [← hL3e] at hcut
  have i3 : LocIn L L3 := fun b o hb' => by
    have ne : b ≠ bo + 1 := fun e => by rw [e, hnz0] at hb'; cases hb'
    rw [hL3e, upd_other _ ne]
    exact iL2 b o hb'
  have kN : L3 (bo + 1) = some (nodeO (atN A z) (lv z.toNat)) := by rw [hL3e, upd_same]
  have kO3 : L3 bo = some O := by rw [hL3e, upd_other _ (by omega)]; exact kO
  have kL3 : L3 bl = some (lstO A lv) := i3 _ _ hb
  have hL3 := hL.mono i3
  rw [hOeH.out] at kO3
  obtain ⟨o0, o1, o2, o3, o4, o5, o6⟩ := op_cells (hcut.loc kO3)
  clear hL3e hL2 hO2 iL2 kO kZ hbL hOeH hZeH hOe hZe O Z hn hnz0 h hboH
  cases hat : atN A z with
  | none =>
    have cF := cut6_none (k := a) hcut hL3 (atN_none hF hat)
    go_wp2_with (go_at_call 20; refine cF.mono ?_; rintro e w3 ⟨rfl, hO3, hs3⟩; have y0 := node_cell (c := 0) (hO3.loc kN) (by omega); rw [hat] at y0; dsimp only [lnodeC] at y0)
    go_ret
    exact ⟨rfl, A, lv, m, own_same hO3 i3 hb, hF, by omega, fun h => by omega⟩
  | some x =>
    obtain ⟨n, rfl, hn1, hn64, ha⟩ := atN_some hat
    by_cases hbad : a < 0 ∨ (x.data.length : Int) < a
    · have cF := cut6_bad hcut hL3 ha hbad
      go_upto_region 44 with (go_at_call 20; refine cF.mono ?_; rintro e w3 ⟨rfl, hO3, hs3⟩; have y0 := node_cell (c := 0) (hO3.loc kN) (by omega); rw [hat] at y0; dsimp only [lnodeC] at y0)
      have y5 := node_cell (c := 5) (hO3.loc kN) (by omega)
      rw [hat] at y5
      dsimp only [lnodeC] at y5
      obtain ⟨_, _, p2, _⟩ := op_cells (hO3.loc kO3)
      have hres := own_same hO3 i3 hb
      have hresH : Hid _ := Lib.hid hres
      clear hres hO3 cF
      by_cases h0 : a < 0
      · go_wp2_with fail
        go_ret
        exact ⟨rfl, A, lv, m, hresH.out, hF, by omega, fun h => by omega⟩
      · have h1 : (x.data.length : Int) < a := by omega
        clear hbad
        go_wp2_with fail
        go_ret
        exact ⟨rfl, A, lv, m, hresH.out, hF, by omega, fun h => by omega⟩
    · obtain ⟨to', rfl, hto⟩ : ∃ to' : Nat, a = to' ∧ to' ≤ x.data.length := ⟨a.toNat, by omega, by omega⟩
      have cF := cut6_ok hcut hL3 ha hto (by omega)
      have n65 : n < 65 := by omega
      clear hbad
      go_upto_region 44 with (go_at_call 20; refine cF.mono ?_; rintro e w3 ⟨rfl, hO3, hs3⟩; have y0 := node_cell (c := 0) (hO3.loc kN) (by omega); rw [hat] at y0; dsimp only [lnodeC] at y0)
      have y5 := node_cell (c := 5) (hO3.loc kN) (by omega)
      rw [hat] at y5
      dsimp only [lnodeC] at y5
      obtain ⟨_, _, p2, _⟩ := op_cells (hO3.loc kO3)
      have hwL := hO3.loc kL3
      have q5 := lst_cell (c := 5) hwL hn64 (by omega)
      have f5 := lst_froz hwL (n * 6 + 5)
      have hres := own_data (n := n) hO3 (keepsTB _ _ _ _ _ _ _) kL3 ha (x.data.take to')
      have hresH : Hid _ := Lib.hid (own_back hres i3)
      clear hres hwL hO3 cF
      go_upto_region 46 with fail
      have n0z : (0 : Int) ≤ (n : Int) := by omega
      have n65z : (n : Int) < 65 := by omega
      go_still_tail 10, (by kernel_rfl)
      change wpList _ _ _ _ _ w3.drew
      go_wp2_with fail
      go_ret
      refine ⟨rfl, _, lv, m + 5, ?_, hF.set ha (d := x.data.take to') (by have := (hF.room n x ha).2; rw [List.length_take]; omega), by omega, fun h => by omega⟩
      rw [ext_take]
      exact hresH.out.below (keepsTB _ _ _ _ _ _ _) (Below.refl _ _).drew
end
end Go.Proofs.YtbnoebdpbpjbkaaGreat
/-
  A call of a script, done to both: Read.
-/
namespace Go.Proofs.YtbnoebdpbpjbkaaGreat
open Go.RowKit Go.Lz
section
variable {w w0 : World} {p q pb pn pk N cc m bl : Nat} {L : Locals} {A A0 : Nodes} {lv : Nat → Value × Value}
set_option maxRecDepth 100000 in
set_option maxHeartbeats 4000000 in
theorem do_read {k : Int} {z a b : Int} {vs vi vd : Value} {s i : List Int} {data : Bytes} (h : Own w0 w (TB p q 600 A A0 cc m) L) (hL : BaseL L pb p pn pk 600) (hb : L bl = some (lstO A lv)) (hF : Fine w0 A lv) (hV : OpV w0 (fun _ => True) vs vi vd ⟨k, z, a, b, s, i, data⟩) (_hm : m ≤ 5) (hk0 : ¬ k = 0) (hk1 : ¬ k = 1) (hk2 : ¬ k = 2) (hk3 : ¬ k = 3) :
    Calls Tryz.prog 22 #[Dptr pb, .pointer (some ⟨bl, 0, none⟩), .agg #[.int .i64 k, .int .i64 z, .int .i64 a, .int .i64 b, vs, vi, vd]] w (DoDid w0 p q cc m bl L A0 k) := by
  have hVs := IntsAt.form hV.s
  have hVi := IntsAt.form hV.i
  have hVd := BytesAt.form hV.d
  obtain ⟨ax, cs, rfl⟩ := hVs
  obtain ⟨ai, ci, rfl⟩ := hVi
  obtain ⟨ad, cd, rfl⟩ := hVd
  have hn := h.none_ (Nat.le_refl w.heap.size)
  have hnz0 := h.none_ (show w.heap.size ≤ w.heap.size + 1 by omega)
  obtain ⟨bo, hbo⟩ : ∃ bo, bo = w.heap.size := ⟨_, rfl⟩
  obtain ⟨O, hOe⟩ : ∃ O, O = opO k z a b (.slice ax s.length cs) (.slice ai i.length ci) (.slice ad data.length cd) := ⟨_, rfl⟩
  obtain ⟨Z, hZe⟩ : ∃ Z, Z = nodeO none (lv z.toNat) := ⟨_, rfl⟩
  have hO1 := own_new6 h (keepsTB _ _ _ _ _ _ _) O
  have hL1 := hL.upd_ (o := O) hn
  have hn1 := hO1.none_ (Nat.le_refl _)
  have s1 : (w.alloc O).heap.size = bo + 1 := by rw [hbo]; simp
  have hO2 := own_new6 hO1 (keepsTB _ _ _ _ _ _ _) Z
  have hL2 := hL1.upd_ (o := Z) hn1
  have iL1 : LocIn L (upd L w.heap.size (some O)) := LocIn.upd_ hn
  have iL2 := iL1.trans (LocIn.upd_ (g := (w.alloc O).heap.size) (o := Z) hn1)
  rw [s1, ← hbo] at hO2 hL2 iL2
  rw [s1, ← hbo] at hn1
  rw [← hbo] at hn hnz0
  obtain ⟨L2, hL2e⟩ : ∃ L2, L2 = upd (upd L bo (some O)) (bo + 1) (some Z) := ⟨_, rfl⟩
  rw [← hL2e] at hO2 hL2 iL2
  have kO : L2 bo = some O := by rw [hL2e, upd_other _ (by omega), upd_same]
  have kZ : L2 (bo + 1) = some Z := by rw [hL2e, upd_same]
  have hbL : L2 bl = some (lstO A lv) := iL2 _ _ hb
  have hlt := h.loc_lt hb
  have ne1 : bl ≠ bo := by omega
  have ne2 : bl ≠ bo + 1 := by omega
  have hOeH : Hid _ := Lib.hid hOe
  have hZeH : Hid _ := Lib.hid hZe
  have hboH : Hid _ := Lib.hid hbo
  clear hL2e hO1 hL1 iL1 s1 hn1 hlt hbo
  go_enter Tryz.func22, Tryz.ntmps22
  go_upto_region 3 with fail
  have hW : (w.alloc (.cells #[.int .i64 k, .int .i64 z, .int .i64 a, .int .i64 b, .slice ax s.length cs, .slice ai i.length ci, .slice ad data.length cd] 56)).alloc (.cells #[.bool false, .int .i64 0, .int .i64 0, .slice none 0 0, .slice none 0 0, .string ⟨#[]⟩] 53) = (w.alloc O).alloc Z := by rw [hOeH.out, hZeH.out]; rfl
  rw [hW, ← hboH.out]
  clear hW
  generalize (w.alloc O).alloc Z = W2 at *
  go_cut [28] from 23 to 28 (fun v wx => v = .bool (decide (1 ≤ z ∧ z ≤ 64)) ∧ wx = W2)
  case first =>
    by_cases h1 : 1 ≤ z
    · by_cases h2 : z ≤ 64
      · go_wp2_with fail
        go_meet
        case rel => exact ⟨by rw [decide_eq_true (by omega : 1 ≤ z ∧ z ≤ 64)], rfl⟩
      · go_wp2_with fail
        go_meet
        case rel => exact ⟨by rw [decide_eq_false (by omega : ¬ (1 ≤ z ∧ z ≤ 64))], rfl⟩
    · go_wp2_with fail
      go_meet
      case rel => exact ⟨by rw [decide_eq_false (by omega : ¬ (1 ≤ z ∧ z ≤ 64))], rfl⟩
  case rest =>
  obtain ⟨rfl, rfl⟩ := hcut
  rename World => wc
  go_upto_if 28 with fail
  go_cut [28] from 29 to 33 (fun _ wx => Own w0 wx (TB p q 600 A A0 cc m) (upd L2 (bo + 1) (some (nodeO (atN A z) (lv z.toNat)))))
  case first =>
    by_cases hz : 1 ≤ z ∧ z ≤ 64
    · rw [decide_eq_true hz]
      have hat : atN A z = A z.toNat := if_pos hz
      obtain ⟨n, rfl, hn64⟩ : ∃ n : Nat, z = n ∧ n ≤ 64 := ⟨z.toNat, by omega, by omega⟩
      rw [Int.toNat_natCast] at hat hZeH
      have hwL := hO2.loc hbL
      have hwZ := hO2.loc kZ
      rw [hZeH.out] at hwZ
      have q0 : wc.cell? ⟨bl, n * 6, none⟩ = some (lnodeC (A n) (lv n) 0) := lst_cell (c := 0) hwL hn64 (by omega)
      have q1 := lst_cell (c := 1) hwL hn64 (by omega)
      have q2 := lst_cell (c := 2) hwL hn64 (by omega)
      have q3 := lst_cell (c := 3) hwL hn64 (by omega)
      have q4 := lst_cell (c := 4) hwL hn64 (by omega)
      have q5 := lst_cell (c := 5) hwL hn64 (by omega)
      have n65 : n < 65 := by omega
      have z0 := node_cell (c := 0) hwZ (by omega)
      have f0 := frozen_of hwZ 0
      have z1 := node_cell (c := 1) hwZ (by omega)
      have f1 := frozen_of hwZ 1
      have z2 := node_cell (c := 2) hwZ (by omega)
      have f2 := frozen_of hwZ 2
      have z3 := node_cell (c := 3) hwZ (by omega)
      have f3 := frozen_of hwZ 3
      have z4 := node_cell (c := 4) hwZ (by omega)
      have f4 := frozen_of hwZ 4
      have z5 := node_cell (c := 5) hwZ (by omega)
      have f5 := frozen_of hwZ 5
      have hres := own_node (o' := A n) (l' := lv n) hO2 (keepsTB _ _ _ _ _ _ _) (by rw [← hZeH.out]; exact kZ)
      have hresH : Hid _ := Lib.hid hres
      clear hres hwL hwZ
      cases hA : A n with
      | none =>
        rw [hA] at q0 q1 q2 q3 q4 q5
        dsimp only [lnodeC] at q0 q1 q2 q3 q4 q5 z0 z1 z2 z3 z4 z5
        go_wp2_with fail
        go_meet
        case rel =>
          have := hresH.out
          rw [hA] at this
          rw [hat, hA]
          exact this
      | some x =>
        obtain ⟨a1, c1, e1⟩ := IntsAt.form (hF.lbl n x hA).1
        obtain ⟨a2, c2, e2⟩ := IntsAt.form (hF.lbl n x hA).2
        rw [hA] at q0 q1 q2 q3 q4 q5
        dsimp only [lnodeC] at q0 q1 q2 q3 q4 q5 z0 z1 z2 z3 z4 z5
        rw [e1] at q3
        rw [e2] at q4
        go_wp2_with fail
        go_meet
        case rel =>
          have := hresH.out
          rw [hA] at this
          dsimp only [lnodeC] at this
          rw [e1, e2] at this
          rw [hat, hA]
          exact this
    · rw [decide_eq_false hz]
      have hat : atN A z = none := if_neg hz
      go_wp2_with fail
      go_meet
      case rel =>
        rw [hat, ← hZeH.out, upd_id kZ]
        exact hO2
  case rest =>
  rename World => wx
  obtain ⟨L3, hL3e⟩ : ∃ L3, L3 = upd L2 (bo + 1) (some (nodeO (atN A z) (lv z.toNat))) := ⟨_, rfl⟩
  rw [← hL3e] at hcut
  have i3 : LocIn L L3 := fun b o hb' => by
    have ne : b ≠ bo + 1 := fun e => by rw [e, hnz0] at hb'; cases hb'
    rw [hL3e, upd_other _ ne]
    exact iL2 b o hb'
  have kN : L3 (bo + 1) = some (nodeO (atN A z) (lv z.toNat)) := by rw [hL3e, upd_same]
  have kO3 : L3 bo = some O := by rw [hL3e, upd_other _ (by omega)]; exact kO
  have kL3 : L3 bl = some (lstO A lv) := i3 _ _ hb
  have hL3 := hL.mono i3
  rw [hOeH.out] at kO3
  obtain ⟨o0, o1, o2, o3, o4, o5, o6⟩ := op_cells (hcut.loc kO3)
  clear hL3e hL2 hO2 iL2 kO kZ hbL hOeH hZeH hOe hZe O Z hn hnz0 h hboH
  have k0b : (k == 0) = false := by simpa using hk0
  have k1b : (k == 1) = false := by simpa using hk1
  have k2b : (k == 2) = false := by simpa using hk2
  have k3b : (k == 3) = false := by simpa using hk3
  cases hat : atN A z with
  | none =>
    have cF := read6_none (at' := a) (k := b) hcut hL3 (atN_none hF hat)
    go_wp2_with (go_at_call 13; refine cF.mono ?_; rintro e w3 ⟨v, rfl, ho, hs3⟩; have hO3 := ho.own hcut; have y0 := node_cell (c := 0) (hO3.loc kN) (by omega); rw [hat] at y0; dsimp only [lnodeC] at y0)
    go_ret
    exact ⟨rfl, A, lv, m, own_same hO3 i3 hb, hF, by omega, fun _ => rfl⟩
  | some x =>
    obtain ⟨n, rfl, hn1, hn64, ha⟩ := atN_some hat
    by_cases hbad : a < 0 ∨ b < 0
    · have cF := read6_neg hcut hL3 ha hbad
      go_upto_region 51 with (go_at_call 13; refine cF.mono ?_; rintro e w3 ⟨v, rfl, ho, hs3⟩; have hO3 := ho.own hcut; have y0 := node_cell (c := 0) (hO3.loc kN) (by omega); rw [hat] at y0; dsimp only [lnodeC] at y0)
      obtain ⟨_, _, p2, p3, _⟩ := op_cells (hO3.loc kO3)
      have hres := own_same hO3 i3 hb
      have hresH : Hid _ := Lib.hid hres
      clear hres hO3 cF ho
      by_cases h0 : a < 0
      · go_wp2_with fail
        go_ret
        exact ⟨rfl, A, lv, m, hresH.out, hF, by omega, fun _ => rfl⟩
      · have h1 : b < 0 := by omega
        clear hbad
        go_wp2_with fail
        go_ret
        exact ⟨rfl, A, lv, m, hresH.out, hF, by omega, fun _ => rfl⟩
    · obtain ⟨at', rfl⟩ : ∃ at' : Nat, a = at' := ⟨a.toNat, by omega⟩
      obtain ⟨kk, rfl⟩ : ∃ kk : Nat, b = kk := ⟨b.toNat, by omega⟩
      have cF := read6_ok (at' := at') (k := kk) hcut hL3 ha
      have hxl := hF.len n x ha
      clear hbad
      obtain ⟨fr, hfr⟩ : ∃ fr, fr = min at' x.data.length := ⟨_, rfl⟩
      rw [← hfr] at cF
      have hmin1 : min (at' : Int) (x.data.length : Int) = (fr : Int) := by omega
      obtain ⟨mm, hmm⟩ : ∃ mm, mm = min kk (x.data.length - fr) := ⟨_, rfl⟩
      have hw1 : IntKind.i64.wrap ((x.data.length : Int) - (fr : Int)) = ((x.data.length - fr : Nat) : Int) := by rw [IntKind.wrap_i64]; omega
      have hmin2 : min (kk : Int) ((x.data.length : Int) - (fr : Int)) = (mm : Int) := by omega
      have hmin3 : min (kk : Int) ((x.data.length - fr : Nat) : Int) = (mm : Int) := by omega
      have hw2 : IntKind.i64.wrap ((fr : Int) + (mm : Int)) = ((fr + mm : Nat) : Int) := by rw [IntKind.wrap_i64]; omega
      have hle : fr + mm ≤ x.data.length := by omega
      have hext : (x.data.drop fr).take kk = (x.data.take (fr + mm)).drop fr := by
        rw [List.drop_take, show fr + mm - fr = mm by omega]
        by_cases h : kk ≤ x.data.length - fr
        · rw [show mm = kk by omega]
        · rw [List.take_of_length_le (by rw [List.length_drop]; omega), List.take_of_length_le (by rw [List.length_drop]; omega)]
      have hw3 : ((fr : Int) + (mm : Int)).toNat = fr + mm := by omega
      have hbe : (((x.data.take (fr + mm)).drop fr) == ((x.data.take (fr + mm)).drop fr)) = true := beq_yes rfl
      clear hfr hmm
      go_upto_region 53 with (go_at_call 13; refine cF.mono ?_; rintro e w3 ⟨v, rfl, ho, hs3⟩; have hO3 := ho.own hcut; have y0 := node_cell (c := 0) (hO3.loc kN) (by omega); rw [hat] at y0; dsimp only [lnodeC] at y0; obtain ⟨_, _, p2, p3, _⟩ := op_cells (hO3.loc kO3))
      have y5 := node_cell (c := 5) (hO3.loc kN) (by omega)
      rw [hat] at y5
      dsimp only [lnodeC] at y5
      have hst := outO_below ho ((Below.refl w3.heap.size w3).drew)
      have hst0 := outO_string ho
      have hres := own_same hO3 i3 hb
      have hresH : Hid _ := Lib.hid (hres.below (keepsTB _ _ _ _ _ _ _) (Below.refl _ _).drew)
      rw [hext] at hst hst0
      have hx : (⟨x.data.toArray⟩ : ByteArray).extract fr (fr + mm) = ⟨((x.data.take (fr + mm)).drop fr).toArray⟩ := ext_mid _ _ _
      clear hres hO3 cF ho
      go_upto_region 54 with fail
      refine wp_region_quiet (C := fun W => W = w3.drew) (by kernel_rfl) (by kernel_rfl) rfl ?_
      repeat (any_goals (first | go_big_quiet_step (fail) | quiet_step (fail)))
      refine wpQuiet_nil ?_
      rintro _ rfl
      go_wp2_with fail
      go_ret
      exact ⟨rfl, A, lv, m, hresH.out, hF, by omega, fun _ => rfl⟩
end
end Go.Proofs.YtbnoebdpbpjbkaaGreat
/-
  A call of a script, done to both: Make.
-/
namespace Go.Proofs.YtbnoebdpbpjbkaaGreat
open Go.RowKit Go.Lz
section
variable {w w0 : World} {p q pb pn pk N cc m bl : Nat} {L : Locals} {A A0 : Nodes} {lv : Nat → Value × Value}
set_option maxRecDepth 100000 in
set_option maxHeartbeats 4000000 in
theorem do_make {z a b : Int} {vs vi vd : Value} {s i : List Int} {data : Bytes} (h : Own w0 w (TB p q 600 A A0 cc m) L) (hL : BaseL L pb p pn pk 600) (hb : L bl = some (lstO A lv)) (hF : Fine w0 A lv) (hV : OpV w0 (fun _ => True) vs vi vd ⟨0, z, a, b, s, i, data⟩) (hm : m ≤ 5) :
    Calls Tryz.prog 22 #[Dptr pb, .pointer (some ⟨bl, 0, none⟩), .agg #[.int .i64 0, .int .i64 z, .int .i64 a, .int .i64 b, vs, vi, vd]] w (DoDid w0 p q cc m bl L A0 0) := by
  have hVs := IntsAt.form hV.s
  have hVi := IntsAt.form hV.i
  have hVd := BytesAt.form hV.d
  obtain ⟨ax, cs, rfl⟩ := hVs
  obtain ⟨ai, ci, rfl⟩ := hVi
  obtain ⟨ad, cd, rfl⟩ := hVd
  have hn := h.none_ (Nat.le_refl w.heap.size)
  have hnz0 := h.none_ (show w.heap.size ≤ w.heap.size + 1 by omega)
  obtain ⟨bo, hbo⟩ : ∃ bo, bo = w.heap.size := ⟨_, rfl⟩
  obtain ⟨O, hOe⟩ : ∃ O, O = opO 0 z a b (.slice ax s.length cs) (.slice ai i.length ci) (.slice ad data.length cd) := ⟨_, rfl⟩
  obtain ⟨Z, hZe⟩ : ∃ Z, Z = nodeO none (lv z.toNat) := ⟨_, rfl⟩
  have hO1 := own_new6 h (keepsTB _ _ _ _ _ _ _) O
  have hL1 := hL.upd_ (o := O) hn
  have hn1 := hO1.none_ (Nat.le_refl _)
  have s1 : (w.alloc O).heap.size = bo + 1 := by rw [hbo]; simp
  have hO2 := own_new6 hO1 (keepsTB _ _ _ _ _ _ _) Z
  have hL2 := hL1.upd_ (o := Z) hn1
  have iL1 : LocIn L (upd L w.heap.size (some O)) := LocIn.upd_ hn
  have iL2 := iL1.trans (LocIn.upd_ (g := (w.alloc O).heap.size) (o := Z) hn1)
  rw [s1, ← hbo] at hO2 hL2 iL2
  rw [s1, ← hbo] at hn1
  rw [← hbo] at hn hnz0
  obtain ⟨L2, hL2e⟩ : ∃ L2, L2 = upd (upd L bo (some O)) (bo + 1) (some Z) := ⟨_, rfl⟩
  rw [← hL2e] at hO2 hL2 iL2
  have kO : L2 bo = some O := by rw [hL2e, upd_other _ (by omega), upd_same]
  have kZ : L2 (bo + 1) = some Z := by rw [hL2e, upd_same]
  have hbL : L2 bl = some (lstO A lv) := iL2 _ _ hb
  have hlt := h.loc_lt hb
  have ne1 : bl ≠ bo := by omega
  have ne2 : bl ≠ bo + 1 := by omega
  have hOeH : Hid _ := Lib.hid hOe
  have hZeH : Hid _ := Lib.hid hZe
  have hboH : Hid _ := Lib.hid hbo
  clear hL2e hO1 hL1 iL1 s1 hn1 hlt hbo
  go_enter Tryz.func22, Tryz.ntmps22
  go_upto_region 3 with fail
  have hW : (w.alloc (.cells #[.int .i64 0, .int .i64 z, .int .i64 a, .int .i64 b, .slice ax s.length cs, .slice ai i.length ci, .slice ad data.length cd] 56)).alloc (.cells #[.bool false, .int .i64 0, .int .i64 0, .slice none 0 0, .slice none 0 0, .string ⟨#[]⟩] 53) = (w.alloc O).alloc Z := by rw [hOeH.out, hZeH.out]; rfl
  rw [hW, ← hboH.out]
  clear hW
  generalize (w.alloc O).alloc Z = W2 at *
  go_cut [28] from 23 to 28 (fun v wx => v = .bool (decide (1 ≤ z ∧ z ≤ 64)) ∧ wx = W2)
  case first =>
    by_cases h1 : 1 ≤ z
    · by_cases h2 : z ≤ 64
      · go_wp2_with fail
        go_meet
        case rel => exact ⟨by rw [decide_eq_true (by omega : 1 ≤ z ∧ z ≤ 64)], rfl⟩
      · go_wp2_with fail
        go_meet
        case rel => exact ⟨by rw [decide_eq_false (by omega : ¬ (1 ≤ z ∧ z ≤ 64))], rfl⟩
    · go_wp2_with fail
      go_meet
      case rel => exact ⟨by rw [decide_eq_false (by omega : ¬ (1 ≤ z ∧ z ≤ 64))], rfl⟩
  case rest =>
  obtain ⟨rfl, rfl⟩ := hcut
  rename World => wc
  go_upto_if 28 with fail
  go_cut [28] from 29 to 33 (fun _ wx => Own w0 wx (TB p q 600 A A0 cc m) (upd L2 (bo + 1) (some (nodeO (atN A z) (lv z.toNat)))))
  case first =>
    by_cases hz : 1 ≤ z ∧ z ≤ 64
    · rw [decide_eq_true hz]
      have hat : atN A z = A z.toNat := if_pos hz
      obtain ⟨n, rfl, hn64⟩ : ∃ n : Nat, z = n ∧ n ≤ 64 := ⟨z.toNat, by omega, by omega⟩
      rw [Int.toNat_natCast] at hat hZeH
      have hwL := hO2.loc hbL
      have hwZ := hO2.loc kZ
      rw [hZeH.out] at hwZ
      have q0 : wc.cell? ⟨bl, n * 6, none⟩ = some (lnodeC (A n) (lv n) 0) := lst_cell (c := 0) hwL hn64 (by omega)
      have q1 := lst_cell (c := 1) hwL hn64 (by omega)
      have q2 := lst_cell (c := 2) hwL hn64 (by omega)
      have q3 := lst_cell (c := 3) hwL hn64 (by omega)
      have q4 := lst_cell (c := 4) hwL hn64 (by omega)
      have q5 := lst_cell (c := 5) hwL hn64 (by omega)
      have n65 : n < 65 := by omega
      have z0 := node_cell (c := 0) hwZ (by omega)
      have f0 := frozen_of hwZ 0
      have z1 := node_cell (c := 1) hwZ (by omega)
      have f1 := frozen_of hwZ 1
      have z2 := node_cell (c := 2) hwZ (by omega)
      have f2 := frozen_of hwZ 2
      have z3 := node_cell (c := 3) hwZ (by omega)
      have f3 := frozen_of hwZ 3
      have z4 := node_cell (c := 4) hwZ (by omega)
      have f4 := frozen_of hwZ 4
      have z5 := node_cell (c := 5) hwZ (by omega)
      have f5 := frozen_of hwZ 5
      have hres := own_node (o' := A n) (l' := lv n) hO2 (keepsTB _ _ _ _ _ _ _) (by rw [← hZeH.out]; exact kZ)
      have hresH : Hid _ := Lib.hid hres
      clear hres hwL hwZ
      cases hA : A n with
      | none =>
        rw [hA] at q0 q1 q2 q3 q4 q5
        dsimp only [lnodeC] at q0 q1 q2 q3 q4 q5 z0 z1 z2 z3 z4 z5
        go_wp2_with fail
        go_meet
        case rel =>
          have := hresH.out
          rw [hA] at this
          rw [hat, hA]
          exact this
      | some x =>
        obtain ⟨a1, c1, e1⟩ := IntsAt.form (hF.lbl n x hA).1
        obtain ⟨a2, c2, e2⟩ := IntsAt.form (hF.lbl n x hA).2
        rw [hA] at q0 q1 q2 q3 q4 q5
        dsimp only [lnodeC] at q0 q1 q2 q3 q4 q5 z0 z1 z2 z3 z4 z5
        rw [e1] at q3
        rw [e2] at q4
        go_wp2_with fail
        go_meet
        case rel =>
          have := hresH.out
          rw [hA] at this
          dsimp only [lnodeC] at this
          rw [e1, e2] at this
          rw [hat, hA]
          exact this
    · rw [decide_eq_false hz]
      have hat : atN A z = none := if_neg hz
      go_wp2_with fail
      go_meet
      case rel =>
        rw [hat, ← hZeH.out, upd_id kZ]
        exact hO2
  case rest =>
  rename World => wx
  obtain ⟨L3, hL3e⟩ : ∃ L3, L3 = upd L2 (bo + 1) (some (nodeO (atN A z) (lv z.toNat))) := ⟨_, rfl⟩
  rw [← hL3e] at hcut
  have i3 : LocIn L L3 := fun b o hb' => by
    have ne : b ≠ bo + 1 := fun e => by rw [e, hnz0] at hb'; cases hb'
    rw [hL3e, upd_other _ ne]
    exact iL2 b o hb'
  have kN : L3 (bo + 1) = some (nodeO (atN A z) (lv z.toNat)) := by rw [hL3e, upd_same]
  have kO3 : L3 bo = some O := by rw [hL3e, upd_other _ (by omega)]; exact kO
  have kL3 : L3 bl = some (lstO A lv) := i3 _ _ hb
  have hL3 := hL.mono i3
  rw [hOeH.out] at kO3
  obtain ⟨o0, o1, o2, o3, o4, o5, o6⟩ := op_cells (hcut.loc kO3)
  clear hL3e hL2 hO2 iL2 kO kZ hbL hOeH hZeH hOe hZe O Z hn hnz0 h hboH
  have hS := IntsAt.below hV.s hcut.base
  have hI := IntsAt.below hV.i hcut.base
  by_cases hbad : (a ≠ 1 ∧ a ≠ 2) ∨ (isSetB s && isSetB i) = false ∨ b < 0 ∨ 256 < b
  · have cF := make6_bad hcut hL3 hS hI hbad
    clear hcut
    go_upto_region 8 with (go_at_call 8; refine cF.mono ?_; rintro e w3 ⟨rfl, hO3, hs3⟩)
    have hS3 := IntsAt.below hV.s hO3.base
    have hI3 := IntsAt.below hV.i hO3.base
    have cM := r3may_any hS3 hI3
    obtain ⟨_, _, p2, p3, p4, p5, _⟩ := op_cells (hO3.loc kO3)
    have lO := hO3.loc_lt kO3
    have hO3H : Hid _ := Lib.hid hO3
    clear hO3 cF hS3 hI3
    go_cut [72] from 49 to 72 (fun v wy => v = .bool true ∧ Own w0 wy (TB p q 600 A A0 cc m) L3)
    case first =>
      by_cases h12 : a = 1 ∨ a = 2
      · rcases h12 with rfl | rfl
        · cases hmay : (isSetB s && isSetB i) with
          | false =>
            rw [hmay] at cM
            go_wp2_with (go_at_call 57; refine cM.mono ?_; rintro e w4 ⟨rfl, hb4⟩)
            go_meet
            case rel => exact ⟨rfl, hO3H.out.below (keepsTB _ _ _ _ _ _ _) hb4⟩
          | true =>
            rw [hmay] at cM
            by_cases hb0 : b < 0
            · go_wp2_with (go_at_call 57; refine cM.mono ?_; rintro e w4 ⟨rfl, hb4⟩; have p34 := (hb4.cell (p := ⟨bo, 3, none⟩) lO).trans p3)
              go_meet
              case rel => exact ⟨rfl, hO3H.out.below (keepsTB _ _ _ _ _ _ _) hb4⟩
            · have hb1 : 256 < b := by
                rcases hbad with h | h | h | h
                · exact absurd rfl (by first | exact h.1 | exact h.2)
                · rw [hmay] at h; cases h
                · exact absurd h hb0
                · exact h
              go_wp2_with (go_at_call 57; refine cM.mono ?_; rintro e w4 ⟨rfl, hb4⟩; have p34 := (hb4.cell (p := ⟨bo, 3, none⟩) lO).trans p3)
              go_meet
              case rel => exact ⟨rfl, hO3H.out.below (keepsTB _ _ _ _ _ _ _) hb4⟩
        · cases hmay : (isSetB s && isSetB i) with
          | false =>
            rw [hmay] at cM
            go_wp2_with (go_at_call 57; refine cM.mono ?_; rintro e w4 ⟨rfl, hb4⟩)
            go_meet
            case rel => exact ⟨rfl, hO3H.out.below (keepsTB _ _ _ _ _ _ _) hb4⟩
          | true =>
            rw [hmay] at cM
            by_cases hb0 : b < 0
            · go_wp2_with (go_at_call 57; refine cM.mono ?_; rintro e w4 ⟨rfl, hb4⟩; have p34 := (hb4.cell (p := ⟨bo, 3, none⟩) lO).trans p3)
              go_meet
              case rel => exact ⟨rfl, hO3H.out.below (keepsTB _ _ _ _ _ _ _) hb4⟩
            · have hb1 : 256 < b := by
                rcases hbad with h | h | h | h
                · exact absurd rfl (by first | exact h.1 | exact h.2)
                · rw [hmay] at h; cases h
                · exact absurd h hb0
                · exact h
              go_wp2_with (go_at_call 57; refine cM.mono ?_; rintro e w4 ⟨rfl, hb4⟩; have p34 := (hb4.cell (p := ⟨bo, 3, none⟩) lO).trans p3)
              go_meet
              case rel => exact ⟨rfl, hO3H.out.below (keepsTB _ _ _ _ _ _ _) hb4⟩
      · have a1 : ¬ a = 1 := fun h => h12 (.inl h)
        have a2 : ¬ a = 2 := fun h => h12 (.inr h)
        clear h12 hbad
        go_wp2_with fail
        go_meet
        case rel => exact ⟨rfl, hO3H.out⟩
    case rest =>
    obtain ⟨rfl, hO4⟩ := hcut
    rename World => wy
    have hres := own_same hO4 i3 hb
    have hresH : Hid _ := Lib.hid hres
    clear hres hO4 hbad
    go_wp2_with fail
    go_ret
    exact ⟨rfl, A, lv, m, hresH.out, hF, by omega, fun _ => by omega⟩
  · obtain ⟨kind, rfl, hk⟩ : ∃ kind : Nat, a = kind ∧ (kind = 1 ∨ kind = 2) := ⟨a.toNat, by omega, by omega⟩
    obtain ⟨room, rfl, hr⟩ : ∃ room : Nat, b = room ∧ room ≤ 256 := ⟨b.toNat, by omega, by omega⟩
    have hset : (isSetB s && isSetB i) = true := by
      cases e : (isSetB s && isSetB i) with
      | true => rfl
      | false => exact absurd (.inr (.inl e)) hbad
    have hs1 : isSetB s = true := by rw [Bool.and_eq_true] at hset; exact hset.1
    have hi1 : isSetB i = true := by rw [Bool.and_eq_true] at hset; exact hset.2
    have hb0 : ¬ (room : Int) < 0 := by omega
    have hb1 : ¬ 256 < (room : Int) := by omega
    have hb1n : ¬ 256 < room := by omega
    clear hbad
    rcases least_free (fun j => (A (j + 1)).isSome) 64 with hall | ⟨n1, hn1, hfr, hfree1⟩
    · have cF := make6_full hcut hL3 hS hI hs1 hi1 hk hr (by omega) (fun n h1 h2 => by have := hall (n - 1) (by omega); rwa [Nat.sub_add_cancel h1] at this)
      have hfree : ∀ k, 1 ≤ k → k < 65 → (A k).isSome = true := fun k h1 h2 => by have := hall (k - 1) (by omega); rwa [Nat.sub_add_cancel h1] at this
      have hfreeH : Hid _ := Lib.hid hfree
      clear hcut hall
      go_upto_region 8 with (go_at_call 8; refine cF.mono ?_; rintro e w3 ⟨rfl, hO3, hs3⟩)
      have hS3 := IntsAt.below hV.s hO3.base
      have hI3 := IntsAt.below hV.i hO3.base
      have cM := r3may_any hS3 hI3
      obtain ⟨_, _, p2, p3, p4, p5, _⟩ := op_cells (hO3.loc kO3)
      have lO := hO3.loc_lt kO3
      have hO3H : Hid _ := Lib.hid hO3
      clear hO3 cF hS3 hI3
      go_cut [72] from 49 to 72 (fun v wy => v = .bool false ∧ Own w0 wy (TB p q 600 A A0 cc m) L3)
      case first =>
        rcases hk with rfl | rfl
        · cases hmay : (isSetB s && isSetB i) with
          | false =>
            rw [hmay] at cM
            rw [hmay] at hset
            cases hset
          | true =>
            rw [hmay] at cM
            go_wp2_with (go_at_call 57; refine cM.mono ?_; rintro e w4 ⟨rfl, hb4⟩; have p34 := (hb4.cell (p := ⟨bo, 3, none⟩) lO).trans p3)
            go_meet
            case rel => exact ⟨by rw [decide_eq_false (by omega : ¬ (room : Int) < 0), decide_eq_false (by omega : ¬ 256 < (room : Int))]; rfl, hO3H.out.below (keepsTB _ _ _ _ _ _ _) hb4⟩
        · cases hmay : (isSetB s && isSetB i) with
          | false =>
            rw [hmay] at cM
            rw [hmay] at hset
            cases hset
          | true =>
            rw [hmay] at cM
            go_wp2_with (go_at_call 57; refine cM.mono ?_; rintro e w4 ⟨rfl, hb4⟩; have p34 := (hb4.cell (p := ⟨bo, 3, none⟩) lO).trans p3)
            go_meet
            case rel => exact ⟨by rw [decide_eq_false (by omega : ¬ (room : Int) < 0), decide_eq_false (by omega : ¬ 256 < (room : Int))]; rfl, hO3H.out.below (keepsTB _ _ _ _ _ _ _) hb4⟩
      case rest =>
      obtain ⟨rfl, hO4⟩ := hcut
      rename World => wy
      have hwL := hO4.loc kL3
      have hwLH : Hid _ := Lib.hid hwL
      have hO4H : Hid _ := Lib.hid hO4
      clear hO4 hwL
      go_upto_block 1 with fail
      go_cut [11] from 79 to 90 (fun v wz => v = .int .i64 65 ∧ wz = wy)
      case first =>
        go_wp2_with fail
        go_loopg [11, 79, 80, 81, 82, 83, 84, 85, 86, 87, 88, 89, 90] 65 (fun g iv _ _ _ _ _ _ _ _ _ _ _ _ wr => ∃ k : Nat, k + g = 65 + 1 ∧ 1 ≤ k ∧ k ≤ 65 ∧ iv = .int .i64 (k : Int) ∧ wr = wy)
        case atStart => exact ⟨1, by omega, by omega, by omega, rfl, rfl⟩
        case round =>
          obtain ⟨k, hkg, hk1, hkle, rfl, rfl⟩ := hrel
          by_cases hkM : k < 65
          · have hk64 : k ≤ 64 := by omega
            have k0 : wr.cell? ⟨bl, k * 6, none⟩ = some (lnodeC (A k) (lv k) 0) := lst_cell (c := 0) hwLH.out hk64 (by omega)
            rw [lnodeC_on, hfreeH.out k hk1 hkM] at k0
            have kz : (k : Int) ≤ 64 := by omega
            have k65 : k < 65 := by omega
            have hkgH : Hid _ := Lib.hid hkg
            have hkMH : Hid _ := Lib.hid hkM
            clear hkM hkg hk64 hkle
            go_wp2_with fail
            go_roundg (gk - 1)
            case measure => have := hkgH.out; have := hkMH.out; omega
            case rel => have := hkgH.out; have := hkMH.out; exact ⟨k + 1, by omega, by omega, by omega, by go_num, rfl⟩
          · obtain rfl : k = 65 := by omega
            have kz : ¬ (((65 : Nat) : Int)) ≤ 64 := by omega
            go_wp2_with fail
            go_meet
            case rel => exact ⟨rfl, rfl⟩
      case rest =>
      obtain ⟨rfl, hwz⟩ := hcut
      rw [hwz]
      clear hwz
      have hres := own_same hO4H.out i3 hb
      have hresH : Hid _ := Lib.hid hres
      clear hres
      go_wp2_with fail
      go_ret
      exact ⟨rfl, A, lv, m, hresH.out, hF, by omega, fun _ => by omega⟩
    · obtain ⟨n, hnn⟩ : ∃ n, n = n1 + 1 := ⟨_, rfl⟩
      have hn64 : n ≤ 64 := by omega
      have hn1' : 1 ≤ n := by omega
      have hAn : A n = none := by
        cases e : A n with
        | none => rfl
        | some x => rw [hnn] at e; rw [e] at hfr; cases hfr
      have hfree : ∀ k, 1 ≤ k → k < n → (A k).isSome = true := fun k h1 h2 => by have := hfree1 (k - 1) (by omega); rwa [Nat.sub_add_cancel h1] at this
      have cF := make6_ok (n := n) hcut hL3 hS hI hs1 hi1 hk hr (by omega) hn1' hn64 hAn hfree
      have hfreeH : Hid _ := Lib.hid hfree
      clear hcut hfree1 hfr hnn hfree hn1
      go_upto_region 8 with (go_at_call 8; refine cF.mono ?_; rintro e w3 ⟨rfl, hO3, hs3⟩)
      have hS3 := IntsAt.below hV.s hO3.base
      have hI3 := IntsAt.below hV.i hO3.base
      have cM := r3may_any hS3 hI3
      obtain ⟨_, _, p2, p3, p4, p5, _⟩ := op_cells (hO3.loc kO3)
      have lO := hO3.loc_lt kO3
      have hO3H : Hid _ := Lib.hid hO3
      clear hO3 cF hS3 hI3
      go_cut [72] from 49 to 72 (fun v wy => v = .bool false ∧ Own w0 wy (TB p q 600 (upd A n (some ⟨kind, s, i, room, []⟩)) A0 cc (m + 4)) L3)
      case first =>
        rcases hk with rfl | rfl
        · cases hmay : (isSetB s && isSetB i) with
          | false =>
            rw [hmay] at cM
            rw [hmay] at hset
            cases hset
          | true =>
            rw [hmay] at cM
            go_wp2_with (go_at_call 57; refine cM.mono ?_; rintro e w4 ⟨rfl, hb4⟩; have p34 := (hb4.cell (p := ⟨bo, 3, none⟩) lO).trans p3)
            go_meet
            case rel => exact ⟨by rw [decide_eq_false (by omega : ¬ (room : Int) < 0), decide_eq_false (by omega : ¬ 256 < (room : Int))]; rfl, hO3H.out.below (keepsTB _ _ _ _ _ _ _) hb4⟩
        · cases hmay : (isSetB s && isSetB i) with
          | false =>
            rw [hmay] at cM
            rw [hmay] at hset
            cases hset
          | true =>
            rw [hmay] at cM
            go_wp2_with (go_at_call 57; refine cM.mono ?_; rintro e w4 ⟨rfl, hb4⟩; have p34 := (hb4.cell (p := ⟨bo, 3, none⟩) lO).trans p3)
            go_meet
            case rel => exact ⟨by rw [decide_eq_false (by omega : ¬ (room : Int) < 0), decide_eq_false (by omega : ¬ 256 < (room : Int))]; rfl, hO3H.out.below (keepsTB _ _ _ _ _ _ _) hb4⟩
      case rest =>
      obtain ⟨rfl, hO4⟩ := hcut
      rename World => wy
      have hwL := hO4.loc kL3
      have hwLH : Hid _ := Lib.hid hwL
      have hO4H : Hid _ := Lib.hid hO4
      clear hO4 hwL
      go_upto_block 1 with fail
      go_cut [11] from 79 to 90 (fun v wz => v = .int .i64 (n : Int) ∧ wz = wy)
      case first =>
        go_wp2_with fail
        go_loopg [11, 79, 80, 81, 82, 83, 84, 85, 86, 87, 88, 89, 90] n (fun g iv _ _ _ _ _ _ _ _ _ _ _ _ wr => ∃ k : Nat, k + g = n + 1 ∧ 1 ≤ k ∧ k ≤ n ∧ iv = .int .i64 (k : Int) ∧ wr = wy)
        case atStart => exact ⟨1, by omega, by omega, by omega, rfl, rfl⟩
        case round =>
          obtain ⟨k, hkg, hk1, hkle, rfl, rfl⟩ := hrel
          by_cases hkM : k < n
          · have hk64 : k ≤ 64 := by omega
            have k0 : wr.cell? ⟨bl, k * 6, none⟩ = some (lnodeC (A k) (lv k) 0) := lst_cell (c := 0) hwLH.out hk64 (by omega)
            rw [lnodeC_on, hfreeH.out k hk1 hkM] at k0
            have kz : (k : Int) ≤ 64 := by omega
            have k65 : k < 65 := by omega
            have hkgH : Hid _ := Lib.hid hkg
            have hkMH : Hid _ := Lib.hid hkM
            clear hkM hkg hk64 hkle
            go_wp2_with fail
            go_roundg (gk - 1)
            case measure => have := hkgH.out; have := hkMH.out; omega
            case rel => have := hkgH.out; have := hkMH.out; exact ⟨k + 1, by omega, by omega, by omega, by go_num, rfl⟩
          · obtain rfl : k = n := by omega
            have hnz : (k : Int) ≤ 64 := by omega
            have k65 : k < 65 := by omega
            have k0 : wr.cell? ⟨bl, k * 6, none⟩ = some (lnodeC (A k) (lv k) 0) := lst_cell (c := 0) hwLH.out hn64 (by omega)
            rw [lnodeC_on, hAn] at k0
            have k0b : wr.cell? ⟨bl, k * 6, none⟩ = some (.bool false) := k0
            go_wp2_with fail
            go_meet
            case rel => exact ⟨rfl, rfl⟩
      case rest =>
      obtain ⟨rfl, hwz⟩ := hcut
      rw [hwz]
      clear hwz
      have hnz : ¬ 64 < (n : Int) := by omega
      have hnzn : ¬ 64 < n := by omega
      have n65 : n < 65 := by omega
      have n0z : (0 : Int) ≤ (n : Int) := by omega
      have n65z : (n : Int) < 65 := by omega
      obtain ⟨_, _, p2, p3, p4, p5, _⟩ := op_cells (hO4H.out.loc kO3)
      have hwL := hwLH.out
      have q0 : wy.cell? ⟨bl, n * 6, none⟩ = some (lnodeC (A n) (lv n) 0) := lst_cell (c := 0) hwL hn64 (by omega)
      have q1 := lst_cell (c := 1) hwL hn64 (by omega)
      have q2 := lst_cell (c := 2) hwL hn64 (by omega)
      have q3 := lst_cell (c := 3) hwL hn64 (by omega)
      have q4 := lst_cell (c := 4) hwL hn64 (by omega)
      have q5 := lst_cell (c := 5) hwL hn64 (by omega)
      have f0 := lst_froz hwL (n * 6)
      have f1 := lst_froz hwL (n * 6 + 1)
      have f2 := lst_froz hwL (n * 6 + 2)
      have f3 := lst_froz hwL (n * 6 + 3)
      have f4 := lst_froz hwL (n * 6 + 4)
      have f5 := lst_froz hwL (n * 6 + 5)
      have hres := own_lst (n := n) hO4H.out (keepsTB _ _ _ _ _ _ _) kL3 (some ⟨kind, s, i, room, []⟩) (.slice ax s.length cs, .slice ai i.length ci)
      have hresH : Hid _ := Lib.hid (own_back hres i3)
      clear hres hwL
      go_upto_region 15 with fail
      go_still_tail 11, (by kernel_rfl)
      change wpList _ _ _ _ _ wy.drew
      go_wp2_with fail
      go_ret
      refine ⟨rfl, _, _, m + 4, ?_, hF.put (n := n) (a := ⟨kind, s, i, room, []⟩) (p := (.slice ax s.length cs, .slice ai i.length ci)) ⟨hn1', hn64⟩ hr (Nat.zero_le _) hV.s hV.i, by omega, fun _ => by omega⟩
      exact hresH.out.below (keepsTB _ _ _ _ _ _ _) (Below.refl _ _).drew
end
end Go.Proofs.YtbnoebdpbpjbkaaGreat
