/-
  What the device's methods do to the device in memory, function by function.
-/
import Derived.Test.YtjngphffgdjcfaaGreatDoorME0
import Derived.Test.YtjngphffgdjcfaaGreatDoorProg
import Derived.Deep.RegionHeld3
import Derived.Deep.RegionLaw
namespace Go.Proofs.YtjngphffgdjcfaaGreatDoor
open Go.RowKit Go.Lz

theorem info_u8 : (Tryz.prog.info? 5).map (fun i => (i.zero, i.size, i.bytes)) = some (some (.int .u8 0), 1, 1) := by kernel_rfl

set_option maxHeartbeats 400000 in
theorem clone_bytes {w : World} {F : Nat → Prop} {v : Value} {b : Bytes} (hd : Src 5 w F v b) (hb : b.length ≤ 140737488355328) :
    Calls Tryz.prog 67 #[v] w (Fresh 5 w b) := by
  obtain ⟨g, off, cap, cur, fr, rfl, _, hg, hcap, hmax, hcl⟩ := hd
  have hn := fun W c => Lib.run_eql_slice_nil (P := Tryz.prog) W 23 5 (some ⟨g, off, none⟩) b.length c 0 0 Tryz.underlying23
  obtain ⟨i0, hi, hz0, hz1, hz2⟩ := info_parts info_u8
  have HG : ∀ j u, (b.map u8v)[j]? = some u → (w.alloc (.cells #[] 5)).cell? ((⟨g, off, none⟩ : Addr).add j) = some u :=
    Src.news fun j u hu => (World.cell?_of_block (w := w) (Below.heap_alloc w _ g (lt_of_heap hg))).trans (hcl j u hu)
  clear hcl
  have hmax' : b.length ≤ maxLen := Nat.le_trans hcap hmax
  go_enter Tryz.func67, Tryz.ntmps67
  go_wp2_with (at_builtin; refine wpList_append_own _ rfl _ _ 23 rfl w.heap.size 5 i0 (.int .u8 0) 1 1 Tryz.underlying23 hi hz0 hz1 hz2 rfl (by decide) _ 0 [] rfl (World.ownsRow_made w #[] 0 (Nat.le_refl _) (Nat.zero_le _) rfl) ⟨g, off, none⟩ b.length cap (b.map u8v) rfl (by simp) HG (oneCells b) (by simpa using hmax') (by omega) (by simp) ?_; intro v' w' hown hgrow hnil)
  go_ret
  have hv : v' ≠ .slice none 0 0 := fun e => by cases (hnil.1 e).1
  rw [List.nil_append, Nat.zero_add] at hown
  refine ⟨v', v'.ownBlock.getD 0, rfl, Dat.of_own hown hv (fun g hg => by rw [hg]; rfl), ?_, ?_⟩
  · cases hb' : v'.ownBlock with
    | none =>
      rcases hown.2 with ⟨e, _⟩ | ⟨g', cap', cur', rfl, _⟩
      · exact absurd e hv
      · cases hb'
    | some g' => exact (hown.lt g' hb').1
  · exact ((Below.refl _ w).alloc (Nat.le_refl _) _).grown hgrow (by simp) (fun k e => by cases e; exact Nat.le_refl _)

set_option maxHeartbeats 400000 in
theorem clip_bytes (w : World) (g n cap : Nat) (hn : n ≤ cap) (_hm : cap ≤ maxLen) :
    Calls Tryz.prog 40 #[.slice (some ⟨g, 0, none⟩) n cap] w fun e w' => e = .returned (.slice (some ⟨g, 0, none⟩) n n) ∧ w = w' := by
  go_enter Tryz.func40, Tryz.ntmps40
  go_wp2
  go_ret
  exact ⟨rfl, rfl⟩

abbrev Dptr (p : Nat) : Value := .pointer (some ⟨p, 0, none⟩)
section
variable {w : World} {p : Nat} {S : DevS} {F : Nat → Prop} {lv : Value} {m : Nat} {vs : List Value} {vf : Nat → Option Value} {c : Nat}
set_option maxHeartbeats 400000 in
theorem burn_ok (hD : DevIn Tryz.prog w p S F lv m vs vf c) (hf : S.fuse ≠ 0) :
    Calls Tryz.prog 113 #[Dptr p] w fun e w' => e = .returned (.int .i64 0) ∧ DevIn Tryz.prog w' p S.burned F lv m vs vf c ∧ Chg (· = p) w w' := by
  have h3 : w.cell? ⟨p, 3, none⟩ = some (.int .i64 S.fuse) := cell_of hD.blk 3
  have h2 : w.cell? ⟨p, 2, none⟩ = some (.int .i64 S.calls) := cell_of hD.blk 2
  have f3 := frozen_of hD.blk 3
  have f2 := frozen_of hD.blk 2
  have h0 : (S.fuse == 0) = false := by simpa using hf
  have h5 : -1 ≤ S.fuse := hD.ok.fuse.1
  have h6 : S.fuse ≤ 9223372036854775807 := hD.ok.fuse.2
  clear hf
  go_enter Tryz.func113, Tryz.ntmps113
  go_wp2
  all_goals
    go_ret
    refine ⟨rfl, ?_, ((Chg.refl _ w).own _ _).own _ _⟩
    refine hD.reset (wrap64 (S.calls + 1)) (max (S.fuse - 1) (-1)) S.dead (by omega) (((Chg.refl _ w).own _ _).own _ _) ?_
    first
      | (rw [show max (S.fuse - 1) (-1) = -1 from by omega]; exact heap_set_same (heap_set_same hD.blk 3 _) 2 _)
      | (rw [show max (S.fuse - 1) (-1) = S.fuse - 1 from by omega]; exact heap_set_same (heap_set_same hD.blk 3 _) 2 _)

set_option maxHeartbeats 400000 in
theorem burn_dead (hD : DevIn Tryz.prog w p S F lv m vs vf c) (hf : S.fuse = 0) :
    Calls Tryz.prog 113 #[Dptr p] w fun e w' => e = .returned (.int .i64 50) ∧ DevIn Tryz.prog w' p S.killed F lv m vs vf c ∧ Chg (· = p) w w' := by
  have h3 : w.cell? ⟨p, 3, none⟩ = some (.int .i64 0) := hf ▸ cell_of hD.blk 3
  have h4 : w.cell? ⟨p, 4, none⟩ = some (.bool S.dead) := cell_of hD.blk 4
  have f4 := frozen_of hD.blk 4
  clear hf
  go_enter Tryz.func113, Tryz.ntmps113
  go_wp2
  go_ret
  refine ⟨rfl, ?_, ((Chg.refl _ w).own _ _)⟩
  exact hD.reset S.calls S.fuse true hD.ok.fuse ((Chg.refl _ w).own _ _) (heap_set_same hD.blk 4 _)

set_option maxHeartbeats 400000 in
theorem wrong_any (hD : DevIn Tryz.prog w p S F lv m vs vf c) (i : Int) :
    Calls Tryz.prog 91 #[Dptr p, .int .i64 i] w fun e w' => e = .returned (.int .i64 (S.wrong i)) ∧ w = w' := by
  have h4 : w.cell? ⟨p, 4, none⟩ = some (.bool S.dead) := cell_of hD.blk 4
  obtain ⟨ao, n', cap, rfl, hn⟩ : ∃ ao n' cap, lv = .slice ao n' cap ∧ n' = S.n := by
    rcases hD.arr.2 with ⟨rfl, h2⟩ | ⟨g, cap, cur, rfl, _⟩
    · exact ⟨none, 0, 0, rfl, h2.symm⟩
    · exact ⟨_, _, _, rfl, rfl⟩
  have h0 : w.cell? ⟨p, 0, none⟩ = some (.slice ao n' cap) := cell_of hD.blk 0
  go_enter Tryz.func91, Tryz.ntmps91
  cases hd : S.dead
  · rw [hd] at h4
    by_cases hi : i < 0
    · go_wp2
      go_ret
      exact ⟨by simp [DevS.wrong, hd, hi], rfl⟩
    · by_cases hj : (n' : Int) ≤ i
      all_goals
        go_wp2
        go_ret
        exact ⟨by subst hn; simp [DevS.wrong, hd, hi]; omega, rfl⟩
  · rw [hd] at h4
    go_wp2
    go_ret
    exact ⟨by simp [DevS.wrong, hd], rfl⟩
theorem zeroBytes (w : World) : (zeroValue 23).run Tryz.prog w = .ok (.slice none 0 0) w := by kernel_rfl

/-- The row of sectors, opened at one. -/
theorem _root_.Go.Lz.DevIn.row (hD : DevIn Tryz.prog w p S F lv m vs vf c) {k : Nat} (hk : k < S.n) :
    ∃ g cap v, lv = .slice (some ⟨g, 0, none⟩) S.n cap ∧ g ≠ p ∧ w.cell? ⟨g, k, none⟩ = some v ∧ vs[k]? = some v := by
  obtain ⟨h1, ⟨_, h2⟩ | ⟨g, cap, cur, rfl, _, h3, h4, h5, h6, h7⟩⟩ := hD.arr
  · omega
  · have hkl : k < vs.length := by omega
    refine ⟨g, cap, vs[k], rfl, ne_of_elem h3 hD.blk (by decide), ?_, List.getElem?_eq_getElem hkl⟩
    rw [cell_of h3]
    have h8 : (cur.toList.take (S.n * 1))[k]? = vs[k]? := by rw [h7]
    rw [List.getElem?_take, if_pos (by omega), List.getElem?_eq_getElem hkl] at h8
    simpa using h8

/-- What a good read hands back. -/
def ReadPost (w : World) (p : Nat) (S : DevS) (F : Nat → Prop) (lv : Value) (m : Nat) (vs : List Value) (vf : Nat → Option Value) (c : Nat) (b : Bytes) (e : Ending) (w' : World) : Prop :=
  ∃ v g, e = .returned (.tuple #[v, .int .i64 0]) ∧ Dat 5 w' (· = g) v b ∧ w.heap.size ≤ g ∧ DevIn Tryz.prog w' p S F lv m vs vf c ∧ Chg (· = p) w w'

set_option maxHeartbeats 400000 in
theorem read_ok (hD : DevIn Tryz.prog w p S F lv m vs vf c) (hd : S.dead = false) {k : Nat} (hk : k < S.n) :
    Calls Tryz.prog 68 #[Dptr p, .int .i64 (k : Int)] w (ReadPost w p S.counted F lv m vs vf c (S.now k)) := by
  have hk' : k < 9223372036854775808 := by have := hD.ok.n; omega
  have h2 : w.cell? ⟨p, 2, none⟩ = some (.int .i64 S.calls) := cell_of hD.blk 2
  have f2 := frozen_of hD.blk 2
  obtain ⟨W1, hW1⟩ : ∃ W1, W1 = w.setCell ⟨p, 2, none⟩ (.int .i64 (wrap64 (S.calls + 1))) := ⟨_, rfl⟩
  have hc1 : Chg (· = p) w W1 := by rw [hW1]; exact (Chg.refl _ w).own _ _
  have hD1 : DevIn Tryz.prog W1 p S.counted F lv m vs vf c := hD.reset _ S.fuse S.dead hD.ok.fuse hc1 (by rw [hW1]; exact heap_set_same hD.blk 2 _)
  have h0 : w.cell? ⟨p, 0, none⟩ = some lv := cell_of hD.blk 0
  have h1 : w.cell? ⟨p, 1, none⟩ = some (.map (some m)) := cell_of hD.blk 1
  have hl := hD1.map.look Tryz.underlying3 Tryz.underlying124 (zeroBytes _) hk'
  have hwr : S.wrong k = 0 := by simp [DevS.wrong, hd]; omega
  subst hW1
  cases hv : vf k with
  | some v =>
    obtain ⟨b, hb, hdat⟩ := hD1.mdat k v hv
    have hnow : S.now k = b := by simp only [DevS.now]; rw [show S.wait k = some b from hb]; rfl
    rw [hnow]
    have hlen : b.length ≤ 140737488355328 := by rw [(hD.ok.wait k b hb).1]; omega
    rw [hv] at hl
    simp only [Option.getD_some, Option.isSome_some] at hl
    obtain ⟨g, cap, cur, rfl, hdat2⟩ := id hdat
    go_enter Tryz.func68, Tryz.ntmps68
    go_wp2_with (first
      | (go_at_call 91; refine (wrong_any hD _).mono ?_; rw [hwr]; rintro e w' ⟨rfl, rfl⟩)
      | (go_at_call 67; refine (clone_bytes hdat.src hlen).mono ?_; rintro e w1 ⟨v1, g1, rfl, hd1, hg1, hb1⟩; obtain ⟨g2, cap1, cur1, rfl, rfl, hx1⟩ := id hd1)
      | (go_at_call 40; refine (clip_bytes _ _ _ _ hx1.2.1 hx1.2.2.1).mono ?_; rintro e w' ⟨rfl, rfl⟩))
    go_ret2
    have hc2 := hc1.below hb1
    refine ⟨_, g2, rfl, ⟨g2, b.length, cur1, rfl, rfl, hx1.1, Nat.le_refl _, Nat.le_trans hx1.2.1 hx1.2.2.1, Nat.le_trans hx1.2.1 hx1.2.2.2.1, hx1.2.2.2.2⟩, by simpa [World.setCell] using hg1, ?_, hc2⟩
    exact hD1.chg (M := fun _ => False) (Chg.of_below hb1) (fun _ _ h => h)
  | none =>
    have hw0 : S.wait k = none := hD.mno k hv
    have hnow : S.now k = S.last k := by simp only [DevS.now]; rw [hw0]; rfl
    rw [hnow]
    have hlen : (S.last k).length ≤ 140737488355328 := by rw [hD.ok.last k]; omega
    rw [hv] at hl
    simp only [Option.getD_none, Option.isSome_none] at hl
    obtain ⟨ga, capa, v, rfl, hrow, hcell, hdat0⟩ := hD.row hk
    have hdat : Dat 5 (w.setCell ⟨p, 2, none⟩ (.int .i64 (wrap64 (S.calls + 1)))) F v (S.last k) := hD1.dat k v hdat0
    obtain ⟨g, cap, cur, rfl, hdat2⟩ := id hdat
    have hkn : (k : Int) < (S.n : Int) := by omega
    have hne : ga ≠ p := hrow
    go_enter Tryz.func68, Tryz.ntmps68
    go_wp2_with (first
      | (go_at_call 91; refine (wrong_any hD _).mono ?_; rw [hwr]; rintro e w' ⟨rfl, rfl⟩)
      | (go_at_call 67; refine (clone_bytes hdat.src hlen).mono ?_; rintro e w1 ⟨v1, g1, rfl, hd1, hg1, hb1⟩; obtain ⟨g2, cap1, cur1, rfl, rfl, hx1⟩ := id hd1)
      | (go_at_call 40; refine (clip_bytes _ _ _ _ hx1.2.1 hx1.2.2.1).mono ?_; rintro e w' ⟨rfl, rfl⟩))
    go_ret2
    have hc2 := hc1.below hb1
    refine ⟨_, g2, rfl, ⟨g2, (S.last k).length, cur1, rfl, rfl, hx1.1, Nat.le_refl _, Nat.le_trans hx1.2.1 hx1.2.2.1, Nat.le_trans hx1.2.1 hx1.2.2.2.1, hx1.2.2.2.2⟩, by simpa [World.setCell] using hg1, ?_, hc2⟩
    exact hD1.chg (M := fun _ => False) (Chg.of_below hb1) (fun _ _ h => h)

set_option maxHeartbeats 400000 in
theorem read_bad (hD : DevIn Tryz.prog w p S F lv m vs vf c) (i : Int) (hi : S.wrong i ≠ 0) :
    Calls Tryz.prog 68 #[Dptr p, .int .i64 i] w fun e w' => e = .returned (.tuple #[.slice none 0 0, .int .i64 (S.wrong i)]) ∧ w = w' := by
  have hb : (S.wrong i != 0) = true := by simpa using hi
  go_enter Tryz.func68, Tryz.ntmps68
  go_wp2_with (first
      | (go_at_call 91; refine (wrong_any hD _).mono ?_; rintro e w' ⟨rfl, rfl⟩))
  go_ret2
  exact ⟨rfl, rfl⟩
def WritePost (w : World) (p : Nat) (S : DevS) (F : Nat → Prop) (e : Ending) (w' : World) : Prop :=
  e = .returned (.int .i64 0) ∧ DevAt Tryz.prog w' p S (ext F w w') ∧ Chg (ownF F w) w w'

set_option maxHeartbeats 400000 in
theorem write_ok (hD : DevIn Tryz.prog w p S F lv m vs vf c) (hd : S.dead = false) {k : Nat} (hk : k < S.n) (hf : S.fuse ≠ 0) {v : Value} {b : Bytes} {G : Nat → Prop} (hv : Src 5 w G v b) (hb : b.length = 64) :
    Calls Tryz.prog 99 #[Dptr p, .int .i64 (k : Int), v] w (WritePost w p (S.burned.put k b) F) := by
  have hk' : k < 9223372036854775808 := by have := hD.ok.n; omega
  have hwr : S.wrong k = 0 := by simp [DevS.wrong, hd]; omega
  obtain ⟨g, off, cap, cur, fr, rfl, hv2⟩ := id hv
  have hlen : ((b.length : Int) != 64) = false := by rw [hb]; rfl
  have hlen1 : b.length ≤ 140737488355328 := by omega
  have hb64 : Hid (b.length = 64) := hb
  clear hb
  go_enter Tryz.func99, Tryz.ntmps99
  go_wp2_with (first
      | (go_at_call 91; refine (wrong_any hD _).mono ?_; rw [hwr]; rintro e w' ⟨rfl, rfl⟩)
      | (go_at_call 113; refine (burn_ok hD hf).mono ?_; rintro e w1 ⟨rfl, hD1, hc1⟩))
  have hv1 := hv.heap (w' := w1) fun k cs fr _ h3 => (hc1.block k (lt_of_heap h3) (ne_of_elem h3 hD.blk (by decide))).trans h3
  have h1 : w1.cell? ⟨p, 1, none⟩ = some (.map (some m)) := cell_of hD1.blk 1
  have hpl := hD1.Flt p hD1.Fp
  have hcle : c < maxLen := Nat.lt_of_le_of_lt (hD1.map.le Tryz.underlying3 hD1.keys) (Nat.lt_of_le_of_lt hD1.ok.n (by decide))
  go_region_with ((go_at_call 67; refine (clone_bytes (by exact hv1) hlen1).mono ?_; rintro e w2 ⟨v1, g1, rfl, hd1, hg1, hb1⟩; obtain ⟨g2, cap1, cur1, rfl, rfl, hx1⟩ := id hd1; have h2 := (hb1.cell (p := ⟨p, 1, none⟩) (by simpa using hpl)).trans h1; obtain ⟨w3, hst, hm3, hgr3, hsz3⟩ := (hD1.map.heap (w' := w2) (hb1.block m (by simpa using hD1.map.lt))).store (Tm := 124) Tryz.underlying3 Tryz.underlying124 hcle hk' (.slice (some ⟨g2, 0, none⟩) b.length cap1)))
  all_goals
    go_wp2
    go_ret
    obtain ⟨hD3, hc3⟩ := hD1.stored (undrew hb1) hd1 (by simpa using hg1) hm3 hgr3 hb64.out hk
    have hs1 := hc1.size
    exact ⟨rfl, hD3.at_.mono (fun j hj => hj.imp id fun h => ⟨Nat.le_trans hs1 h.1, h.2⟩) (fun j hj => hj.elim (fun h => Nat.lt_of_lt_of_le (hD1.Flt j h) hc3.size) (·.2)), (hc1.mono fun j _ e => by subst e; exact hD.own_p).trans hc3 (fun j _ e => by subst e; exact hD.own_m)⟩

set_option maxHeartbeats 400000 in
theorem write_wrong (hD : DevIn Tryz.prog w p S F lv m vs vf c) (i : Int) (hi : S.wrong i ≠ 0) (v : Value) :
    Calls Tryz.prog 99 #[Dptr p, .int .i64 i, v] w fun e w' => e = .returned (.int .i64 (S.wrong i)) ∧ w = w' := by
  have hb : (S.wrong i != 0) = true := by simpa using hi
  go_enter Tryz.func99, Tryz.ntmps99
  go_wp2_with (first
      | (go_at_call 91; refine (wrong_any hD _).mono ?_; rintro e w' ⟨rfl, rfl⟩))
  go_ret
  exact ⟨rfl, rfl⟩

set_option maxHeartbeats 400000 in
theorem write_len (hD : DevIn Tryz.prog w p S F lv m vs vf c) (i : Int) (hi : S.wrong i = 0) (a : Option Addr) (n cap : Nat) (hn : n ≠ 64) :
    Calls Tryz.prog 99 #[Dptr p, .int .i64 i, .slice a n cap] w fun e w' => e = .returned (.int .i64 1) ∧ w = w' := by
  have hb : ((n : Int) != 64) = true := by simp; omega
  go_enter Tryz.func99, Tryz.ntmps99
  go_wp2_with (first
      | (go_at_call 91; refine (wrong_any hD _).mono ?_; rw [hi]; rintro e w' ⟨rfl, rfl⟩))
  go_ret
  exact ⟨rfl, rfl⟩

set_option maxHeartbeats 400000 in
theorem write_burnt (hD : DevIn Tryz.prog w p S F lv m vs vf c) (i : Int) (hi : S.wrong i = 0) (hf : S.fuse = 0) (a : Option Addr) (cap : Nat) :
    Calls Tryz.prog 99 #[Dptr p, .int .i64 i, .slice a 64 cap] w fun e w' => e = .returned (.int .i64 50) ∧ DevIn Tryz.prog w' p S.killed F lv m vs vf c ∧ Chg (· = p) w w' := by
  have hf' : Hid (S.fuse = 0) := hf
  clear hf
  go_enter Tryz.func99, Tryz.ntmps99
  go_wp2_with (first
      | (go_at_call 91; refine (wrong_any hD _).mono ?_; rw [hi]; rintro e w' ⟨rfl, rfl⟩)
      | (go_at_call 113; refine (burn_dead hD hf'.out).mono ?_; rintro e w1 ⟨rfl, hD1, hc1⟩))
  go_ret
  exact ⟨rfl, hD1, hc1⟩
end
end Go.Proofs.YtjngphffgdjcfaaGreatDoor
