/-
  A device's copy.
-/
import Derived.Test.YtbnoebdpbpjbkaaDevM
namespace Go.Proofs.Ytbnoebdpbpjbkaa
open Go.RowKit Go.Lz

/-- The row in a new row. -/
def RowPost (w : World) (n : Nat) (vs : List Value) (e : Ending) (w' : World) : Prop := ∃ v, e = .returned v ∧ w'.ownsRow w.heap.size 28 1 v n vs ∧ Below w.heap.size w w'

set_option maxHeartbeats 400000 in
theorem cloneBB_any {w : World} {lv : Value} {n : Nat} {vs : List Value} (hr : w.ownsRow 0 28 1 lv n vs) (h1 : ∀ u ∈ vs, u.oneCell' = true) (hn : n ≤ 8192) :
    Calls Try.prog 70 #[lv] w (RowPost w n vs) := by
  obtain ⟨hl, ⟨rfl, h0⟩ | ⟨g, cap, cur, rfl, _, hg, hcap, hmax, hsz, htk⟩⟩ := hr
  · have hnl := fun W c => Lib.run_eql_slice_nil (P := Try.prog) W 111 28 none 0 c 0 0 Try.underlying111
    have hv : vs = [] := List.eq_nil_of_length_eq_zero (by rw [hl, h0])
    subst h0
    subst hv
    go_enter Try.func70, Try.ntmps70
    go_wp2
    go_ret
    exact ⟨_, rfl, World.ownsRow_nil _ _ _ _, Below.refl _ _⟩
  · have hnl := fun W c => Lib.run_eql_slice_nil (P := Try.prog) W 111 28 (some ⟨g, 0, none⟩) n c 0 0 Try.underlying111
    have hg2 : (w.alloc (.cells #[] 28)).heap[g]? = some (.cells cur 28 (0, 0)) := (Below.heap_alloc w _ g (lt_of_heap hg)).trans hg
    have HG : ∀ j u, vs[j]? = some u → (w.alloc (.cells #[] 28)).cell? ((⟨g, 0, none⟩ : Addr).add j) = some u := by
      intro j u hu
      have hadd : (⟨g, 0, none⟩ : Addr).add j = ⟨g, j, none⟩ := by unfold Addr.add; split <;> simp_all
      rw [hadd, cell_of hg2]
      rw [← htk, List.getElem?_take] at hu
      split at hu
      · simpa using hu
      · cases hu
    have hl' : vs.length = n * 1 := hl
    have H := Lib.hid hl'
    clear htk hsz hl hl' hg2
    have hmax' : n ≤ maxLen := Nat.le_trans hcap hmax
    obtain ⟨i0, hi, hz0, hz1, hz2⟩ := info_parts info_bytes
    go_enter Try.func70, Try.ntmps70
    go_wp2_with (at_builtin; refine wpList_append_own _ rfl _ _ 111 rfl w.heap.size 28 i0 (.slice none 0 0) 1 24 Try.underlying111 hi hz0 hz1 hz2 rfl (by decide) _ 0 [] rfl (World.ownsRow_made w #[] 0 (Nat.le_refl _) (Nat.zero_le _) rfl) ⟨g, 0, none⟩ n cap vs rfl H.out HG h1 (by simpa using hmax') (by omega) (by simp) ?_; intro v' w' hown hgrow hnil)
    go_ret
    rw [List.nil_append, Nat.zero_add] at hown
    exact ⟨v', rfl, hown, ((Below.refl _ w).alloc (Nat.le_refl _) _).grown hgrow (by simp) (fun k e => by cases e; exact Nat.le_refl _)⟩

/-- What the original leads to and nobody writes; and what is new. -/
def shared (F : Nat → Prop) (w w' : World) : Nat → Prop := fun j => (F j ∧ ∃ cs, w.heap[j]? = some (.cells cs 5 (0, 0))) ∨ (w.heap.size ≤ j ∧ j < w'.heap.size)

def CopyPost (w : World) (S : DevS) (F : Nat → Prop) (e : Ending) (w' : World) : Prop := ∃ q, e = .returned (Dptr q) ∧ DevAt Try.prog w' q S (shared F w w') ∧ Below w.heap.size w w'

theorem row_form {w : World} {base n size : Nat} {e : TypeId} {v : Value} {xs : List Value} (h : w.ownsRow base e size v n xs) : ∃ ao cap, v = .slice ao n cap := by
  rcases h.2 with ⟨rfl, h0⟩ | ⟨g, cap, cur, rfl, _⟩
  · exact ⟨none, 0, by rw [h0]⟩
  · exact ⟨_, _, rfl⟩

/-- A device whose row and map are new, of the old ones' content. -/
theorem copied {w Wf : World} {p q : Nat} {S : DevS} {F : Nat → Prop} {lv v' : Value} {m m' : Nat} {vs : List Value} {vf : Nat → Option Value} {c : Nat} {es : Array MapEntry} {clk : Nat} (hD : DevIn Try.prog w p S F lv m vs vf c)
    (hm : w.heap[m]? = some (.map es clk)) (hB : Below w.heap.size w Wf) (hq : w.heap.size ≤ q) (hblk : Wf.heap[q]? = some (.cells #[v', .map (some m'), .int .i64 S.calls, .int .i64 S.fuse, .bool S.dead] 113 (0, 0)))
    {B : Nat} (hBs : w.heap.size ≤ B) (hrow : Wf.ownsRow B 28 1 v' S.n vs) (hm' : Wf.heap[m']? = some (.map es clk)) (hmq : w.heap.size ≤ m') : DevAt Try.prog Wf q S (shared F w Wf) := by
  have hdat : ∀ {v : Value} {b : Bytes}, Dat 5 w F v b → Dat 5 Wf (shared F w Wf) v b := by
    rintro v b ⟨g, cap, cur, h1, h2, h3, h4⟩
    exact ⟨g, cap, cur, h1, .inl ⟨h2, cur, h3⟩, (hB.block g (lt_of_heap h3)).trans h3, h4⟩
  refine ⟨v', m', vs, vf, c, ⟨hblk, ⟨hrow.1, ?_⟩, fun g hg => ?_, fun i v hv => hdat (hD.dat i v hv), ?_, fun i v hv => ?_, hD.mno, .inr ⟨hq, lt_of_heap hblk⟩, .inr ⟨hmq, lt_of_heap hm'⟩, fun j hj => ?_, hD.ok⟩⟩
  · rcases hrow.2 with h | ⟨g, cap, cur, h1, _, h2⟩
    · exact .inl h
    · exact .inr ⟨g, cap, cur, h1, Nat.zero_le _, h2⟩
  · rcases hrow.2 with ⟨rfl, _⟩ | ⟨g', cap, cur, rfl, hg', h2, _⟩
    · cases hg
    · obtain rfl : g' = g := by simpa [Value.ownBlock] using hg
      exact .inr ⟨Nat.le_trans hBs hg', lt_of_heap h2⟩
  · obtain ⟨D, ⟨es', cl', hb', r⟩, h2⟩ := hD.map
    rw [hm] at hb'
    injection hb' with hb'
    injection hb' with e1 e2
    subst e1; subst e2
    exact ⟨D, ⟨es, clk, hm', r⟩, h2⟩
  · obtain ⟨b, h1, h2⟩ := hD.mdat i v hv
    exact ⟨b, h1, hdat h2⟩
  · rcases hj with ⟨h, _⟩ | h
    · exact Nat.lt_of_lt_of_le (hD.Flt j h) hB.size
    · exact h.2

set_option maxHeartbeats 1000000 in
theorem copy_any' {w : World} {p : Nat} {S : DevS} {F : Nat → Prop} {lv : Value} {m : Nat} {vs : List Value} {vf : Nat → Option Value} {c : Nat} (hD : DevIn Try.prog w p S F lv m vs vf c) :
    Calls Try.prog 28 #[Dptr p] w (CopyPost w S F) := by
  have hrowB : ∀ W' : World, Below w.heap.size w W' → W'.ownsRow 0 28 1 lv S.n vs := fun W' hB => ownsRow_chg (M := fun j => w.heap.size ≤ j) hD.arr ⟨hB.os, hB.tape, hB.output, hB.size, fun k hk _ => hB.block k hk⟩ (fun g hg => by have := hD.Flt g (hD.arrF g hg); omega)
  have hone : ∀ u ∈ vs, u.oneCell' = true := by
    intro u hu
    obtain ⟨i, hi⟩ := List.getElem?_of_mem hu
    obtain ⟨_, _, _, rfl, _⟩ := hD.dat i u hi
    rfl
  have hn := hD.ok.n
  obtain ⟨es, clk, hm⟩ := hD.map.isMap
  have hmB : ∀ W' : World, Below w.heap.size w W' → W'.heap[m]? = some (.map es clk) := fun W' hB => (hB.block m (lt_of_heap hm)).trans hm
  obtain ⟨ao, cap, rfl⟩ : ∃ ao cap, lv = .slice ao S.n cap := by
    rcases hD.arr.2 with ⟨rfl, h2⟩ | ⟨g, cap, cur, rfl, _⟩
    · exact ⟨none, 0, by rw [h2]⟩
    · exact ⟨_, _, rfl⟩
  have h0 : w.cell? ⟨p, 0, none⟩ = some (.slice ao S.n cap) := cell_of hD.blk 0
  have h1 : w.cell? ⟨p, 1, none⟩ = some (.map (some m)) := cell_of hD.blk 1
  have h2 : w.cell? ⟨p, 2, none⟩ = some (.int .i64 S.calls) := cell_of hD.blk 2
  have h3 : w.cell? ⟨p, 3, none⟩ = some (.int .i64 S.fuse) := cell_of hD.blk 3
  have h4 : w.cell? ⟨p, 4, none⟩ = some (.bool S.dead) := cell_of hD.blk 4
  have hpl : p < w.heap.size := lt_of_heap hD.blk
  have hmh : Hid (w.heap[m]? = some (.map es clk)) := hm
  clear hm
  go_enter Try.func28, Try.ntmps28
  go_wp2_with fail
  have hBW : Below w.heap.size w (w.alloc (.cells #[.slice ao S.n cap, .map (some m), .int .i64 S.calls, .int .i64 S.fuse, .bool S.dead] 113)) := (Below.refl _ w).alloc (Nat.le_refl _) _
  have hq0 := heap_alloc_new w (.cells #[.slice ao S.n cap, .map (some m), .int .i64 S.calls, .int .i64 S.fuse, .bool S.dead] 113)
  go_region_with (first
    | (go_at_call 70; refine (cloneBB_any (by exact hrowB _ hBW.drew) hone hn).mono ?_; rintro e wa ⟨va, rfl, hra, hba⟩; have hba' := undrew hba; have hBa := hBW.trans (hba'.mono (by simp)); have hqa := (hba'.block w.heap.size (by simp)).trans hq0; obtain ⟨ao', cap', rfl⟩ := row_form hra; have c1 := (hBa.cell (p := ⟨p, 1, none⟩) hpl).trans h1; have cq0 := cell_of hqa 0; have cq1 := cell_of hqa 1; have fq0 := frozen_of hqa 0; have fq1 := frozen_of hqa 1; have hql := lt_of_heap hqa)
    | (go_at_call 71; refine (AnyW.maps_Clone Try.cloneM m es clk _ (by exact hmB _ hBa)).mono ?_; rintro e w' ⟨rfl, rfl⟩))
  all_goals
    go_wp2
    go_ret
    have hcq : Chg (· = w.heap.size) wa (((wa.setCell ⟨w.heap.size, 0, none⟩ (.slice ao' S.n cap')).setCell ⟨w.heap.size, 1, none⟩ (.map (some wa.heap.size))).alloc (.map es clk)) := (((Chg.refl _ wa).own _ _).own _ _).alloc _
    have hnm := heap_alloc_new ((wa.setCell ⟨w.heap.size, 0, none⟩ (.slice ao' S.n cap')).setCell ⟨w.heap.size, 1, none⟩ (.map (some wa.heap.size))) (.map es clk)
    rw [show ((wa.setCell ⟨w.heap.size, 0, none⟩ (.slice ao' S.n cap')).setCell ⟨w.heap.size, 1, none⟩ (.map (some wa.heap.size))).heap.size = wa.heap.size from by simp [World.setCell]] at hnm
    have hBf : Below w.heap.size w (((wa.setCell ⟨w.heap.size, 0, none⟩ (.slice ao' S.n cap')).setCell ⟨w.heap.size, 1, none⟩ (.map (some wa.heap.size))).alloc (.map es clk)) := hBa.trans (hcq.belowB (by omega) (fun j hj e => by omega))
    exact ⟨_, rfl, copied hD hmh.out hBf (Nat.le_refl _) ((Below.heap_alloc _ _ _ (by simpa [World.setCell] using hql)).trans (heap_set_same (heap_set_same hqa 0 _) 1 _)) (by simp) (ownsRow_chg hra hcq (fun g hg => by have := (hra.lt g hg).1; simp at this; omega)) hnm (by omega), hBf⟩

theorem copy_any {w : World} {p : Nat} {S : DevS} {F : Nat → Prop} (h : DevAt Try.prog w p S F) : Calls Try.prog 28 #[Dptr p] w (CopyPost w S F) := by
  obtain ⟨lv, m, vs, vf, c, hD⟩ := h
  exact copy_any' hD
end Go.Proofs.Ytbnoebdpbpjbkaa
