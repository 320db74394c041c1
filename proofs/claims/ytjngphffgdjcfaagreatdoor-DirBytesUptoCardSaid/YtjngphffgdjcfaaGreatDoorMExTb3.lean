/-
  The statements' own small functions of layer 6: a base on a new device, awake.
-/
import Derived.Test.YtjngphffgdjcfaaGreatDoorME18
import Derived.Lib.SlBytesConst
namespace Go.Proofs.YtjngphffgdjcfaaGreatDoor
open Go.RowKit Go.Lz
section
variable {w w0 : World} {p q pb pn pk N cc m : Nat} {L : Locals} {A A0 : Nodes}
theorem check6 (h : Own w0 w (TB p q N A A0 cc m) L) (hL : BaseL L pb p pn pk N) : Calls Tryz.prog 17 #[Dptr pb] w (Did w0 w (TB p q N A A0 cc m) L (.int .i64 0)) := by
  obtain ⟨F, S, g, hB, B, D, _, hgo⟩ := base6 h hL
  refine (check_any hB B).mono ?_
  rintro e w' ⟨he, ⟨F', hB', hF'⟩, hC⟩
  exact ⟨he, (hgo hB' hF' hC B D).1, hC.size⟩
def noNodes : Nodes := fun _ => none
def Open6 (w : World) (e : Ending) (w' : World) : Prop := ∃ p q pb pn pk, e = .returned (.tuple #[Dptr p, Dptr pb]) ∧ Own w w' (TB p q 600 noNodes noNodes 0 0) (BaseO noLocals pb pn pk p 600) ∧ BaseL (BaseO noLocals pb pn pk p 600) pb p pn pk 600
set_option maxRecDepth 100000 in
theorem lw6Open_any (w : World) : Calls Tryz.prog 6 #[] w (Open6 w) := by
  go_enter Tryz.func6, Tryz.ntmps6
  go_wp2_with fail
  refine (lw4Open_any w 900 (by omega) (by omega)).mono ?_
  rintro e w1 ⟨p, q, rfl, hO1⟩
  go_wp2_with (go_at_call 19; refine (open6_new hO1 (by omega) (by omega)).mono ?_; rintro e w2 ⟨pb, pn, pk, rfl, hO2, h1, h2, h3, _, _⟩)
  go_ret2
  exact ⟨p, q, pb, pn, pk, rfl, hO2, BaseO.baseL h1 h2 h3⟩
theorem lit_src {b : Bytes} (fr : Nat × Nat) (w : World) (hb : b.length ≤ 1000) : Src 5 (w.alloc (.cells (b.map u8v).toArray 5 fr)) (· = w.heap.size) (.slice (some ⟨w.heap.size, 0, none⟩) b.length b.length) b := by
  refine ⟨w.heap.size, 0, b.length, (b.map u8v).toArray, fr, rfl, rfl, heap_alloc_new w _, Nat.le_refl _, by unfold maxLen; omega, fun j u hj => ?_⟩
  rw [Nat.zero_add, cell_of (heap_alloc_new w _)]
  simpa using hj
theorem BaseL.upd_ {g : Nat} {o : Obj} (h : BaseL L pb p pn pk N) (hg : L g = none) : BaseL (upd L g (some o)) pb p pn pk N := by
  have hne : ∀ k x, L k = some x → k ≠ g := fun k x hk e => by rw [e, hg] at hk; cases hk
  exact ⟨by rw [upd_other _ (hne _ _ h.b)]; exact h.b, by rw [upd_other _ (hne _ _ h.n)]; exact h.n, by rw [upd_other _ (hne _ _ h.k)]; exact h.k⟩
theorem mine_new (w0 : World) (L : Locals) (g : Nat) (o : Obj) : ∀ k, k = g → Mine w0 (upd L g (some o)) k := fun k hk => by
  subst hk
  exact .inr ⟨o, upd_same _ _ _⟩
theorem iopen_nil (w : World) : Calls Tryz.prog 19 #[.pointer none] w fun e w' => e = .returned (.tuple #[.pointer none, .int .i64 1]) ∧ w = w' := by
  go_enter Tryz.func19, Tryz.ntmps19
  go_wp2
  go_ret2
  exact ⟨rfl, rfl⟩
theorem iopen_small {S : WalS} {F : Nat → Prop} (h : StoreC Tryz.prog w p q S F) (h4 : S.size < 400) : Calls Tryz.prog 19 #[Dptr p] w fun e w' => e = .returned (.tuple #[.pointer none, .int .i64 1]) ∧ w = w' := by
  have h4z : (S.size : Int) < 400 := by omega
  go_enter Tryz.func19, Tryz.ntmps19
  go_wp2_with (go_at_call 52; refine (csize h).mono ?_; rintro e w1 ⟨rfl, rfl⟩)
  go_ret2
  exact ⟨rfl, rfl⟩
def Open6n (w : World) (n : Nat) (e : Ending) (w' : World) : Prop := ∃ p q, e = .returned (.tuple #[.int .i64 (n : Int), Dptr p]) ∧ Own w w' (TStore p q (newS n)) noLocals
end
end Go.Proofs.YtjngphffgdjcfaaGreatDoor
