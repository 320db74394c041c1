/-
  The statements' own small functions of layer 6: a base on a new device, awake.
-/
import Derived.Test.YtbnoebdpbpjbkaaGreatMP18
import Derived.Lib.SlBytesConst
namespace Go.Proofs.YtbnoebdpbpjbkaaGreat
open Go.RowKit Go.Lz
section
variable {w w0 : World} {p q pb pn pk N cc m : Nat} {L : Locals} {A A0 : Nodes}
theorem check6 (h : Own w0 w (TB p q N A A0 cc m) L) (hL : BaseL L pb p pn pk N) : Calls Tryz.prog 15 #[Dptr pb] w (Did w0 w (TB p q N A A0 cc m) L (.int .i64 0)) := by
  obtain ⟨F, S, g, hB, B, D, _, hgo⟩ := base6 h hL
  refine (check_any hB B).mono ?_
  rintro e w' ⟨he, ⟨F', hB', hF'⟩, hC⟩
  exact ⟨he, (hgo hB' hF' hC B D).1, hC.size⟩
def noNodes : Nodes := fun _ => none
def Open6 (w : World) (e : Ending) (w' : World) : Prop := ∃ p q pb pn pk, e = .returned (.tuple #[Dptr p, Dptr pb]) ∧ Own w w' (TB p q 600 noNodes noNodes 0 0) (BaseO noLocals pb pn pk p 600) ∧ BaseL (BaseO noLocals pb pn pk p 600) pb p pn pk 600
set_option maxRecDepth 100000 in
theorem lw6Open_any (w : World) : Calls Tryz.prog 7 #[] w (Open6 w) := by
  go_enter Tryz.func7, Tryz.ntmps7
  go_wp2_with fail
  refine (lw4Open_any w 900 (by omega) (by omega)).mono ?_
  rintro e w1 ⟨p, q, rfl, hO1⟩
  go_wp2_with (go_at_call 23; refine (open6_new hO1 (by omega) (by omega)).mono ?_; rintro e w2 ⟨pb, pn, pk, rfl, hO2, h1, h2, h3, _, _⟩)
  go_ret2
  exact ⟨p, q, pb, pn, pk, rfl, hO2, BaseO.baseL h1 h2 h3⟩
theorem lit_src {b : Bytes} (fr : Nat × Nat) (w : World) (hb : b.length ≤ 1000) : Src 5 (w.alloc (.cells (b.map u8v).toArray 5 fr)) (· = w.heap.size) (.slice (some ⟨w.heap.size, 0, none⟩) b.length b.length) b := by
  refine ⟨w.heap.size, 0, b.length, (b.map u8v).toArray, fr, rfl, rfl, heap_alloc_new w _, Nat.le_refl _, by unfold maxLen; omega, fun j u hj => ?_⟩
  rw [Nat.zero_add, cell_of (heap_alloc_new w _)]
  simpa using hj
theorem BaseL.upd_ {g : Nat} {o : Obj} (h : BaseL L pb p pn pk N) (hg : L g = none) : BaseL (upd L g (some o)) pb p pn pk N := by
  have hne : ∀ k x, L k = some x → k ≠ g := fun k x hk e => by rw [e, hg] at hk; cases hk
  exact ⟨by rw [upd_other _ (hne _ _ h.b)]; exact h.b, by rw [upd_other _ (hne _ _ h.n)]; exact h.n, by rw [upd_other _ (hne _ _ h.k)]; exact h.k⟩
theorem mine_new (w0 : World) (L : Locals) (g : Nat) (o : Obj) : ∀ k, k = g → Mine w0 (upd L g (some o)) k := fun k hk => by
  subst hk
  exact .inr ⟨o, upd_same _ _ _⟩
set_option maxRecDepth 100000 in
set_option maxHeartbeats 2000000 in
theorem lw6awake_any (w : World) : Calls Tryz.prog 16 #[] w fun e w' => e = .returned (.bool true) ∧ Below w.heap.size w w' := by
  have kc := fun (w : World) (C : Array Value) (n c : Nat) => Lib.run_convert_bytes_const (P := Tryz.prog) w 35 5 C n c Tryz.underlying35 Tryz.underlying5
  go_enter Tryz.func16, Tryz.ntmps16
  go_wp2_with (go_at_call 7; refine (lw6Open_any w).mono ?_; rintro e w1 ⟨p, q, pb, pn, pk, rfl, hO1, hL⟩)
  have cM : Calls Tryz.prog 8 #[Dptr pb, .int .i64 1, .agg #[.slice none 0 0, .slice none 0 0], .int .i64 2] w1 (Did w w1 (TB p q 600 (upd noNodes 1 (some ⟨1, [], [], 2, []⟩)) noNodes 0 4) (BaseO noLocals pb pn pk p 600) (.tuple #[.int .i64 1, .int .i64 0])) :=
    make6_ok (n := 1) (kind := 1) (room := 2) hO1 hL (nilInts _) (nilInts _) (by decide) (by decide) (.inl rfl) (by omega) (by omega) (by omega) (by omega) rfl (fun n' h1 h2 => by omega)
  have hLH : Hid _ := Lib.hid hL
  obtain ⟨A1, hA1⟩ : ∃ A1 : Nodes, A1 = upd noNodes 1 (some ⟨1, [], [], 2, []⟩) := ⟨_, rfl⟩
  rw [← hA1] at cM
  have ha1 : A1 1 = some ⟨1, [], [], 2, []⟩ := by rw [hA1]; exact upd_same _ _ _
  have hall1 : allOf A1 = 0 := by
    rw [hA1]
    exact sumF_zero fun k hk => by
      by_cases e : k = 1
      · subst e; rw [cOf_some (upd_same _ _ _)]; rfl
      · rw [cOf_none (by rw [upd_other _ e]; rfl)]; rfl
  have hA1H : Hid _ := Lib.hid hA1
  clear hL hA1
  go_upto_region 5 with (go_at_call 8; refine cM.mono ?_; rintro e w2 ⟨rfl, hO2, hs2⟩)
  have hO3 := hO2.local_ (o := .cells #[u8v 97, u8v 98] 5 (2, 3)) (keepsTB _ _ _ _ _ _ _) ((Below.refl _ w2).alloc (Nat.le_refl _) _) (Nat.le_refl _) (heap_alloc_new w2 _)
  have hL3 := hLH.out.upd_ (o := .cells #[u8v 97, u8v 98] 5 (2, 3)) (hO2.none_ (Nat.le_refl _))
  have cW := write6_ok (G := (· = w2.heap.size)) (n := 1) (at' := 3) (data := [97, 98]) (Ln := 2) (ad := some ⟨w2.heap.size, 0, none⟩) (cp := 2) hO3 hL3 rfl (fun _ => lit_src (2, 3) w2 (b := [97, 98]) (by decide)) (mine_new _ _ _ _) (by decide) ha1 (by decide) (by decide) (by decide) (by omega) (by rw [hall1]; decide)
  obtain ⟨A2, hA2⟩ : ∃ A2 : Nodes, A2 = upd A1 1 (some { (⟨1, [], [], 2, []⟩ : NodeA) with data := wrB [] 3 [97, 98] }) := ⟨_, rfl⟩
  have ha2 : A2 1 = some ⟨1, [], [], 2, [0, 0, 0, 97, 98]⟩ := by rw [hA2]; exact upd_same _ _ _
  rw [← hA2] at cW
  have hL3H : Hid _ := Lib.hid hL3
  clear hL3 hA2 hO3 ha1 hall1
  go_upto_region 6 with (go_at_call 11; refine cW.mono ?_; rintro e w3 ⟨rfl, hO4, hs4⟩)
  have hO5 := hO4.drop (hO2.none_ (Nat.le_refl _))
  have cR := read6_ok (at' := 0) (k := 9) hO5 hLH.out ha2
  clear hO4 cW
  go_upto_region 7 with (go_at_call 13; refine cR.mono ?_; rintro e w4 ⟨v, rfl, ho, hs5⟩)
  have ho2 : OutO w w3 w4 (TB p q 600 A2 noNodes 0 110) (BaseO noLocals pb pn pk p 600) v [0, 0, 0, 97, 98] := ho
  rcases ho2 with ⟨e0, _⟩ | ⟨gg, og, hbuf, hgg, hO6⟩
  · cases e0
  have hstr : (convert 35 9 v).run Tryz.prog w4 = .ok (.string ⟨#[0, 0, 0, 97, 98]⟩) w4 := run_string_src (hbuf.buf (hO6.loc (upd_same _ _ _))).src
  have hO7 := hO6.drop (hO5.none_ hgg)
  have hO8 := hO7.local_ (o := .cells #[u8v 97, u8v 98] 5 (2, 3)) (keepsTB _ _ _ _ _ _ _) ((Below.refl _ w4).alloc (Nat.le_refl _) _) (Nat.le_refl _) (heap_alloc_new w4 _)
  have hL8 := hLH.out.upd_ (o := .cells #[u8v 97, u8v 98] 5 (2, 3)) (hO7.none_ (Nat.le_refl _))
  have cW2 := write6_room (G := (· = w4.heap.size)) (n := 1) (at' := 127) (data := [97, 98]) (Ln := 2) (ad := some ⟨w4.heap.size, 0, none⟩) (cp := 2) hO8 hL8 rfl (fun _ => lit_src (2, 3) w4 (b := [97, 98]) (by decide)) (mine_new _ _ _ _) (by decide) ha2 (by decide)
  clear ho cR hbuf
  go_wp2_with (first
    | (go_at_call 11; refine cW2.mono ?_; rintro e w5 ⟨rfl, hO9, hs9⟩)
    | (go_at_call 15; refine (check6 hO9 hL8).mono ?_; rintro e w6 ⟨rfl, hO10, hs10⟩))
  go_ret
  exact ⟨rfl, hO10.base⟩
theorem iopen_nil (w : World) : Calls Tryz.prog 23 #[.pointer none] w fun e w' => e = .returned (.tuple #[.pointer none, .int .i64 1]) ∧ w = w' := by
  go_enter Tryz.func23, Tryz.ntmps23
  go_wp2
  go_ret2
  exact ⟨rfl, rfl⟩
theorem iopen_small {S : WalS} {F : Nat → Prop} (h : StoreC Tryz.prog w p q S F) (h4 : S.size < 400) : Calls Tryz.prog 23 #[Dptr p] w fun e w' => e = .returned (.tuple #[.pointer none, .int .i64 1]) ∧ w = w' := by
  have h4z : (S.size : Int) < 400 := by omega
  go_enter Tryz.func23, Tryz.ntmps23
  go_wp2_with (go_at_call 59; refine (csize h).mono ?_; rintro e w1 ⟨rfl, rfl⟩)
  go_ret2
  exact ⟨rfl, rfl⟩
def Open6n (w : World) (n : Nat) (e : Ending) (w' : World) : Prop := ∃ p q, e = .returned (.tuple #[.int .i64 (n : Int), Dptr p]) ∧ Own w w' (TStore p q (newS n)) noLocals
end
end Go.Proofs.YtbnoebdpbpjbkaaGreat
