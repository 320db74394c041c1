/-
  The texts IPlG IPlH, one behind the other.
-/
import Derived.Test.YtbnoebdpbpjbkaaGreatMP22
import Derived.Test.YtbnoebdpbpjbkaaGreatMP23
import Derived.Deep.RegionHeld
/-
  A call of a script, done to both: whatever kind.
-/
namespace Go.Proofs.YtbnoebdpbpjbkaaGreat
open Go.RowKit Go.Lz
section
variable {w w0 : World} {p q pb pn pk cc m bl : Nat} {L : Locals} {A A0 : Nodes} {lv : Nat → Value × Value}
theorem do_any {k z a b : Int} {vs vi vd : Value} {s i : List Int} {data : Bytes} (h : Own w0 w (TB p q 600 A A0 cc m) L) (hL : BaseL L pb p pn pk 600) (hb : L bl = some (lstO A lv)) (hF : Fine w0 A lv) (hV : OpV w0 (fun _ => True) vs vi vd ⟨k, z, a, b, s, i, data⟩) (hm : m ≤ 5) (hdl : data.length ≤ 1048576) (hh : k = 2 → heavyN A 65 + data.length / 64 ≤ 100) :
    Calls Tryz.prog 22 #[Dptr pb, .pointer (some ⟨bl, 0, none⟩), .agg #[.int .i64 k, .int .i64 z, .int .i64 a, .int .i64 b, vs, vi, vd]] w (DoDid w0 p q cc m bl L A0 k) := by
  by_cases h0 : k = 0
  · subst h0; exact do_make h hL hb hF hV hm
  by_cases h1 : k = 1
  · subst h1; exact do_free h hL hb hF hV hm
  by_cases h2 : k = 2
  · subst h2; exact do_write h hL hb hF hV hm hdl (hh rfl)
  by_cases h3 : k = 3
  · subst h3; exact do_cut h hL hb hF hV hm
  · exact do_read h hL hb hF hV hm h0 h1 h2 h3
end
end Go.Proofs.YtbnoebdpbpjbkaaGreat
/-
  What InodeAgain and InodePlays ask besides: Sync over a base, the list's array, a call read out of a script.
-/
namespace Go.Lz
open Go.RowKit Go.Proofs.YtbnoebdpbpjbkaaGreat
section
variable {S : WalS} {n N cc m : Nat} {g : Nat → Bytes} {A : Nodes}
theorem Kp.sync6 (K : Kp S n g cc) : S.sync.1 = 0 ∧ Kp S.sync.2 n g cc ∧ S.sync.2.now = S.now := by
  obtain ⟨h, c, d, r, hc, hg⟩ := K.ex
  rcases r.sync with ⟨e1, r', n1, _, _, w1⟩ | ⟨_, _, _, _, _, _, _, _, hx⟩
  · exact ⟨e1, ⟨⟨h, c, c, r', hc, hg⟩, w1 K.well⟩, n1⟩
  · exact absurd K.well hx
theorem BaseP.sync6 (B : BaseP S N g cc m A) : S.sync.1 = 0 ∧ BaseP S.sync.2 N g cc m A := by
  obtain ⟨e, K, n1⟩ := B.kb.kp.sync6
  exact ⟨e, B.same ⟨K, by rw [n1]; exact B.kb.few⟩ (fun k hk => by rw [K.get hk, B.kb.kp.get hk, n1])⟩
end
/-- A label that is none. -/
def nilLv : Nat → Value × Value := fun _ => (.slice none 0 0, .slice none 0 0)
end Go.Lz
namespace Go.Proofs.YtbnoebdpbpjbkaaGreat
open Go.RowKit Go.Lz
section
variable {w w0 : World} {p q pb pn pk N cc m bl : Nat} {L : Locals} {A A0 : Nodes} {lv : Nat → Value × Value}
theorem sync6 (h : Own w0 w (TB p q N A A0 cc m) L) : Calls Tryz.prog 24 #[Dptr p] w (Did w0 w (TB p q N A A0 cc m) L (.int .i64 0)) := by
  obtain ⟨F, ⟨S, g, ⟨c, hS⟩, B, D⟩, hF, hl, hgo⟩ := h.stepG
  have B1 := B.wc c
  obtain ⟨e0, B2⟩ := B1.sync6
  refine (sync_any hS).mono ?_
  rintro e w' ⟨he, h1, h2⟩
  rw [e0] at he
  exact ⟨he, (hgo (T' := TB p q N A A0 cc m) ⟨_, _, h1.toC, B2, D⟩ (fun k hk => hk.elim .inl fun h => .inr h.1) (fun k hk => h1.toC.lt k hk) h2).1, h2.size⟩
set_option maxRecDepth 100000 in
theorem zero_nodes : Obj.cells Tryz.zeroCells54 54 (0, 0) = lstO noNodes nilLv := by kernel_rfl
theorem own_lst0 {T : World → (Nat → Prop) → Prop} (h : Own w0 w T L) (hk : Keeps T) : Own w0 (w.alloc (lstO noNodes nilLv)) T (upd L w.heap.size (some (lstO noNodes nilLv))) := own_new6 h hk _
end
end Go.Proofs.YtbnoebdpbpjbkaaGreat
