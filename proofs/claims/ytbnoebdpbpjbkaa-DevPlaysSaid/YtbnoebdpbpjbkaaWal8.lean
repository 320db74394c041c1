/-
  The store's Commit.
-/
import Derived.Test.YtbnoebdpbpjbkaaWal7
namespace Go.Proofs.Ytbnoebdpbpjbkaa
open Go.RowKit Go.Lz
section
variable {w w' : World} {p q : Nat} {S : WalS} {Fd Fs F : Nat → Prop} {mn mw : Nat} {vn vw : Nat → Option Value} {cn cw : Nat}

theorem _root_.Go.Lz.SecsIn.putF {w3 : World} {m c k c' : Nat} {f : Nat → Option Bytes} {vf : Nat → Option Value} (h : SecsIn Try.prog w m f F vf c) {v : Value} {b : Bytes} (hd : Dat 5 w F v b) (hm3 : MapAt Try.prog 3 w3 m (upd vf k (some v)) c') (hgr : w.grownBy w3 (some m)) :
    SecsIn Try.prog w3 m (upd f k (some b)) F (upd vf k (some v)) c' ∧ Chg (· = m) w w3 := by
  have hc : Chg (· = m) w w3 := (Chg.refl _ w).grown hgr (fun j e _ => by cases e; rfl)
  obtain ⟨es, cl, hme⟩ := h.map.isMap
  have hkeep : ∀ j cs t, w.heap[j]? = some (Obj.cells cs t (0, 0)) → w3.heap[j]? = some (Obj.cells cs t (0, 0)) := fun j cs t hj => (hc.block j (lt_of_heap hj) (fun e => ne_of_map hj (e ▸ hme) rfl)).trans hj
  refine ⟨⟨hm3, fun i u hu => ?_, fun i hu => ?_, h.Fm⟩, hc⟩
  · by_cases e : i = k
    · subst e
      rw [upd_same] at hu
      cases hu
      exact ⟨b, by simp, hd.heap fun j cs _ h3 => hkeep j cs _ h3⟩
    · rw [upd_other _ e] at hu
      obtain ⟨b', h1, h2⟩ := h.dat i u hu
      exact ⟨b', by simpa [upd_other _ e] using h1, h2.heap fun j cs _ h3 => hkeep j cs _ h3⟩
  · by_cases e : i = k
    · subst e
      rw [upd_same] at hu
      cases hu
    · rw [upd_other _ e] at hu
      simpa [upd_other _ e] using h.no i hu

/-- Between two rounds of a copy: n are to come at most. -/
def CopyRel (w : World) (md ms it : Nat) (f g : Nat → Option Bytes) (vg : Nat → Option Value) (cg : Nat) (Fs : Nat → Prop) (n : Nat) (wr : World) : Prop :=
  ∃ left vd cd, RangeAt Try.prog 3 wr ms it vg cg left n ∧ SecsIn Try.prog wr md (fun k => if left k then f k else (g k).or (f k)) Fs vd cd ∧ Chg (· = md) w wr ∧ w.heap.size ≤ it

/-- The map, with the other one's entries over its own. -/
def CopiedPost (w : World) (md : Nat) (f g : Nat → Option Bytes) (Fs : Nat → Prop) (e : Ending) (w' : World) : Prop :=
  e = .returned (.tuple #[]) ∧ (∃ vd cd, SecsIn Try.prog w' md (fun k => (g k).or (f k)) Fs vd cd) ∧ Chg (· = md) w w'

set_option maxRecDepth 100000 in
set_option maxHeartbeats 1000000 in
theorem mcopy_any {md ms cd cg n : Nat} {f g : Nat → Option Bytes} {vd vg : Nat → Option Value} (hd : SecsIn Try.prog w md f Fs vd cd) (hs : SecsIn Try.prog w ms g Fs vg cg) (hne : md ≠ ms) (hF : ∀ k, Fs k → k < w.heap.size)
    (hn : n ≤ 8192) (hfn : ∀ k, (f k).isSome = true → k < n) (hgn : ∀ k, (g k).isSome = true → k < n) : Calls Try.prog 77 #[.map (some md), .map (some ms)] w (CopiedPost w md f g Fs) := by
  go_enter Try.func77, Try.ntmps77
  go_wp2_with (at_range; refine wpList_range rfl _ rfl Try.underlying3 Try.underlying127 rfl hs.map ?_; intro w2 hr2 hg2 hs2)
  have hc2 : Chg (· = md) w w2 := (Chg.refl _ w).grown hg2 (fun k e => by cases e)
  have hc20 : Chg (fun _ => False) w w2 := (Chg.refl _ w).grown hg2 (fun k e => by cases e)
  go_frame
  go_loopg [] cg (fun d wr => CopyRel w md ms w.heap.size f g vg cg Fs d wr)
  case atStart =>
    refine ⟨_, vd, cd, hr2, ?_, hc2, Nat.le_refl _⟩
    have e : (fun k => if (vg k).isSome = true then f k else (g k).or (f k)) = f := by
      funext k
      cases hv : vg k with
      | some v => rfl
      | none => rw [hs.no k hv]; rfl
    rw [e]
    exact hd.chg hc20 (fun _ _ h => h)
  case round =>
    obtain ⟨left, vd', cd', hr, hdr, hch, hit⟩ := hrel
    go_wp2_with (at_next; refine wpList_next rfl _ rfl Try.underlying3 rfl hr ?_ ?_)
    · intro _ hl0
      go_wp2
      go_end0
      refine ⟨rfl, ⟨vd', cd', ?_⟩, hch⟩
      have e : (fun k => if left k = true then f k else (g k).or (f k)) = fun k => (g k).or (f k) := by
        funext k
        simp [hl0 k]
      rwa [e] at hdr
    · intro k v w3 n3 hvk hlk hr3 hn3 hg3 hs3 hen
      obtain ⟨b, hb, hdat⟩ := hs.dat k v hvk
      have hkn : k < n := hgn k (by rw [hb]; rfl)
      have hk : k < 9223372036854775808 := by omega
      have hc3 : Chg (· = w.heap.size) wr w3 := (Chg.refl _ wr).grown hg3 (fun j e _ => by cases e; rfl)
      have hnF : ∀ j, Fs j → ¬ (j = w.heap.size) := fun j hj e => by have := hF j hj; omega
      have hd3 := hdr.chg hc3 hnF
      have hkeys : ∀ j, (vd' j).isSome = true → j < n := fun j hj => by
        rw [hdr.some_iff] at hj
        by_cases hl : left j = true
        · simp only [hl, if_true] at hj
          exact hfn j hj
        · simp only [hl] at hj
          cases hgj : g j with
          | some b' => exact hgn j (by rw [hgj]; rfl)
          | none => rw [hgj] at hj; exact hfn j (by simpa using hj)
      have hcle : cd' < maxLen := Nat.lt_of_le_of_lt (hd3.map.le Try.underlying3 hkeys) (by unfold maxLen; omega)
      have hdat3 : Dat 5 w3 Fs v b := by
        obtain ⟨es, cl, hme⟩ := hd.map.isMap
        refine (hdat.heap (w' := wr) fun j cs hj h3 => (hch.block j (lt_of_heap h3) (fun e => ne_of_map h3 (e ▸ hme) rfl)).trans h3).chg hc3 hnF
      have hitl : w.heap.size ≠ md := by have := hd.map.lt; omega
      go_wp2_with (at_mapUpdate; refine wpList_store rfl _ _ _ rfl Try.underlying3 Try.underlying127 hd3.map hcle (k := k) hk v rfl rfl rfl ?_; intro w6 hm6 hgr6 hsz6)
      obtain ⟨hput, hC6⟩ := hd3.putF hdat3 hm6 hgr6
      go_roundg n3
      case measure => exact hn3
      case rel =>
        have e : upd (fun k => if left k = true then f k else (g k).or (f k)) k (some b) = fun j => if (left j && !decide (j = k)) = true then f j else (g j).or (f j) := by
          funext j
          by_cases e : j = k
          · subst e; simp [hb]
          · simp [upd_other _ e, e]
        rw [e] at hput
        exact ⟨fun j => left j && !decide (j = k), _, _, hr3.heap (hC6.block ms hr3.map.lt (fun e => hne e.symm)) (hC6.block _ hr3.lt hitl), hput, (hch.trans hc3 (by intro j hj e; omega)).trans hC6 (fun _ _ e => e), hit⟩

/-- The transaction is laid over what was committed. -/
theorem _root_.Go.Lz.StoreIn.copied {vd : Nat → Option Value} {cd : Nat} (h : StoreIn Try.prog w p q S Fd Fs mn mw vn vw cn cw) (hm : SecsIn Try.prog w' mw S.both Fs vd cd) (hc : Chg (· = mw) w w') :
    StoreIn Try.prog w' p q { S with wait := S.both } Fd Fs mn mw vn vd cn cd := by
  obtain ⟨es, cl, hmw⟩ := h.wait.map.isMap
  refine ⟨(hc.block p (lt_of_heap h.blk) (fun e => ne_of_map h.blk hmw e)).trans h.blk, h.dev.chg hc (fun k hk e => h.dis mw h.wait.Fm (e ▸ hk)), ?_, hm, h.ne, h.Fp, fun k hk => Nat.lt_of_lt_of_le (h.Flt k hk) hc.size, h.dis, ⟨h.ok.n, h.ok.now, fun k b e => ?_⟩⟩
  · exact h.now.heap (hc.block mn h.now.map.lt h.ne) (fun k cs _ e => (hc.block k (lt_of_heap e) (fun e2 => by subst e2; exact ne_of_map e hmw rfl)).trans e)
  · simp only [WalS.both] at e
    cases hn : S.now k with
    | none => rw [hn] at e; exact h.ok.wait k b (by simpa using e)
    | some b' => rw [hn] at e; exact h.ok.now k b (by rw [hn]; simpa using e)

theorem _root_.Go.Lz.StoreIn.nowDone (h : StoreIn Try.prog w p q S Fd Fs mn mw vn vw cn cw) (all : Int) {W : World} (hW : W = ((w.setCell ⟨p, 1, none⟩ (.map (some w.heap.size))).setCell ⟨p, 3, none⟩ (.int .i64 all)).alloc (.map #[] 0)) :
    StoreIn Try.prog W p q { S with now := fun _ => none, all := all } Fd (fun k => Fs k ∨ k = w.heap.size) w.heap.size mw (fun _ => none) vw 0 cw ∧ Chg (· = p) w W := by
  subst hW
  have hc : Chg (· = p) w (((w.setCell ⟨p, 1, none⟩ (.map (some w.heap.size))).setCell ⟨p, 3, none⟩ (.int .i64 all)).alloc (.map #[] 0)) := ((((Chg.refl _ w).own _ _)).own _ _).alloc _
  have hm := MapAt.made (P := Try.prog) (T := 3) ((w.setCell ⟨p, 1, none⟩ (.map (some w.heap.size))).setCell ⟨p, 3, none⟩ (.int .i64 all))
  have hsz : ((w.setCell ⟨p, 1, none⟩ (.map (some w.heap.size))).setCell ⟨p, 3, none⟩ (.int .i64 all)).heap.size = w.heap.size := by simp [World.setCell]
  rw [hsz] at hm
  exact ⟨h.newNow hc hm (Nat.le_refl _) ((Below.heap_alloc _ _ p (by rw [hsz]; exact lt_of_heap h.blk)).trans (heap_set_same (heap_set_same h.blk 1 _) 3 _)), hc⟩

set_option maxRecDepth 100000 in
set_option maxHeartbeats 1000000 in
theorem commit_any (h : StoreAt Try.prog w p q S F) : Calls Try.prog 42 #[Dptr p] w (WErr w p q S.commit F) := by
  have hat := h
  obtain ⟨Fd, Fs, mn, mw, vn, vw, cn, cw, h, hd, hs, hl⟩ := h
  have c0 : w.cell? ⟨p, 0, none⟩ = some (Dp q) := cell_of h.blk 0
  have c1 : w.cell? ⟨p, 1, none⟩ = some (.map (some mn)) := cell_of h.blk 1
  have c2 : w.cell? ⟨p, 2, none⟩ = some (.map (some mw)) := cell_of h.blk 2
  have c5 : w.cell? ⟨p, 5, none⟩ = some (.bool S.dead) := cell_of h.blk 5
  cases hdS : S.dead with
  | true =>
    rw [hdS] at c5
    have hcm : S.commit = (50, S) := if_pos (by simp [WalS.isDead, hdS])
    rw [hcm]
    clear hcm
    go_enter Try.func42, Try.ntmps42
    go_wp2_with fail
    go_ret
    exact ⟨rfl, wat_ext hat, Chg.refl _ _⟩
  | false =>
    rw [hdS] at c5
    have cd := dead_any h.dev
    cases hdd : S.dev.dead with
    | true =>
      have hcm : S.commit = (50, S) := if_pos (by simp [WalS.isDead, hdd])
      rw [hcm]
      rw [hdd] at cd
      clear hcm
      go_enter Try.func42, Try.ntmps42
      go_wp2_with (go_at_call 20; refine cd.mono ?_; rintro e w' ⟨rfl, rfl⟩)
      go_ret
      exact ⟨rfl, wat_ext hat, Chg.refl _ _⟩
    | false =>
      rw [hdd] at cd
      have hcm : S.commit = if 256 < S.waitN + S.nowN then (if S.sync.1 = 0 then (0, S.sync.2.done) else S.sync) else (0, S.done) := if_neg (by simp [WalS.isDead, hdS, hdd])
      have hcH : Hid _ := Lib.hid hcm
      have hatD := hat.below (Below.refl _ w).drew
      have hsn := sync_any hatD
      have hcw : cw = S.waitN := h.wait.count Try.underlying3 h.ok.waitB
      have hcn : cn = S.nowN := h.now.count Try.underlying3 h.ok.nowB
      obtain ⟨sy, hsy⟩ : ∃ sy, sy = S.sync := ⟨_, rfl⟩
      rw [← hsy] at hsn hcH
      have hD : Chg F w w.drew := (Chg.refl _ w).drew
      have hln := (h.now.map.chg (M := fun _ => False) ((Chg.refl _ w).drew) (fun h => h)).len (P := Try.prog) Try.underlying127
      have hlw := (h.wait.map.chg (M := fun _ => False) ((Chg.refl _ w).drew) (fun h => h)).len (P := Try.prog) Try.underlying127
      have hsz : S.size ≤ 8192 := Nat.le_trans (Nat.sub_le _ _) h.dev.ok.n
      have hcn8 : cn ≤ 8192 := by rw [hcn]; exact Nat.le_trans (keysF_length _ _) hsz
      have hcw8 : cw ≤ 8192 := by rw [hcw]; exact Nat.le_trans (keysF_length _ _) hsz
      rw [← hcw, ← hcn] at hcH
      clear hcm hsy hcw hcn
      go_enter Try.func42, Try.ntmps42
      go_upto_region 3 with (go_at_call 20; refine cd.mono ?_; rintro e w' ⟨rfl, rfl⟩)
      obtain ⟨bb, hbb⟩ : ∃ bb, bb = decide (256 < cw + cn) := ⟨_, rfl⟩
      have hbH : Hid _ := Lib.hid hbb
      clear hbb
      go_cut [26] from 15 to 26 (fun v wr => v = .bool bb ∧ wr = w.drew)
      case first =>
        refine wp_region_quiet (C := fun W => W = w.drew) (by kernel_rfl) (by kernel_rfl) rfl ?_
        repeat (quiet_step (fail))
        refine wpQuiet_nil ?_
        rintro _ rfl
        go_wp2_with fail
        go_meet
        case rel => exact ⟨by rw [show IntKind.i64.wrap ((cw : Int) + (cn : Int)) = (cw : Int) + (cn : Int) from by rw [IntKind.wrap_i64]; omega, hbH.out, Value.bool.injEq, decide_eq_decide]; omega, rfl⟩
      case rest =>
        obtain ⟨rfl, rfl⟩ := hcut
        go_upto_if 26 with fail
        go_cut [3] from 27 to 31 (fun _ wr => ∃ S1, StoreAt Try.prog wr p q S1 (ext F w wr) ∧ Chg F w wr ∧ S.commit = (0, S1.done))
        case first =>
          cases bb with
          | true =>
            have hN : 256 < cw + cn := of_decide_eq_true hbH.out.symm
            go_wp2_with fail
            refine hsn.mono ?_
            rintro e w1 ⟨rfl, hS1, hC1⟩
            have hC1' : Chg F w w1 := hD.trans hC1 (fun _ _ h => h)
            have hS1' : StoreAt Try.prog w1 p q sy.2 (ext F w w1) := hS1
            by_cases hr0 : sy.1 = 0
            · rw [hr0]
              have hr0H : Hid (sy.1 = 0) := hr0
              clear hr0
              go_wp2_with fail
              go_meet
              case rel => exact ⟨sy.2, hS1', hC1', by rw [hcH.out, if_pos hN, if_pos hr0H.out]⟩
            · have hr1 : (sy.1 != 0) = true := by simpa using hr0
              go_wp2_with fail
              go_ret
              rw [hcH.out, if_pos hN, if_neg hr0]
              exact ⟨rfl, hS1', hC1'⟩
          | false =>
            have hN : ¬ 256 < cw + cn := of_decide_eq_false hbH.out.symm
            go_wp2_with fail
            go_meet
            case rel => exact ⟨S, wat_ext hatD, hD, by rw [hcH.out, if_neg hN]⟩
        case rest =>
          obtain ⟨S1, hat1, hC1, hcm⟩ := hcut
          have hcm : Hid _ := Lib.hid hcm
          clear hcH hsn hln hlw hat hatD
          obtain ⟨Fd1, Fs1, mn1, mw1, vn1, vw1, cn1, cw1, h1, hd1, hs1, hl1⟩ := hat1
          go_upto_region 7 with fail
          have hX := h1.below (Below.refl _ wc).drew
          have d1 : wc.cell? ⟨p, 1, none⟩ = some (.map (some mn1)) := cell_of h1.blk 1
          have d2 : wc.cell? ⟨p, 2, none⟩ = some (.map (some mw1)) := cell_of h1.blk 2
          have hsz1 : S1.size ≤ 8192 := Nat.le_trans (Nat.sub_le _ _) h1.dev.ok.n
          have cm := mcopy_any hX.wait hX.now (fun e => hX.ne e.symm) hX.Flt hsz1 hX.ok.waitB hX.ok.nowB
          go_region_with ((go_at_call 77; refine cm.mono ?_; rintro e w2 ⟨rfl, ⟨vd, cd2, hm2⟩, hC2⟩))
          all_goals
            have h2 := hX.copied hm2 hC2
            have hC2' : Chg F w w2 := (hC1.trans (Chg.refl _ wc).drew (fun _ _ h => h)).trans hC2 (fun j hj e => by subst e; exact (hs1 _ h1.wait.Fm).elim id (fun h9 => by omega))
            have hpl2 : p < w2.heap.size := lt_of_heap h2.blk
            have d1 : w2.cell? ⟨p, 1, none⟩ = some (.map (some mn1)) := cell_of h2.blk 1
            have d2 : w2.cell? ⟨p, 2, none⟩ = some (.map (some mw1)) := cell_of h2.blk 2
            have d3 : w2.cell? ⟨p, 3, none⟩ = some (.int .i64 S1.all) := cell_of h2.blk 3
            have d4 : w2.cell? ⟨p, 4, none⟩ = some (.int .i64 S1.lasting) := cell_of h2.blk 4
            have f1 := frozen_of h2.blk 1
            have f3 := frozen_of h2.blk 3
            have f4 := frozen_of h2.blk 4
            have hmm := @run_makeMap Try.prog
            have hcd := h2.wait.count Try.underlying3 h2.ok.waitB
            have hcd8 : cd2 ≤ 8192 := by rw [hcd]; exact Nat.le_trans (keysF_length _ _) hsz1
            go_upto_region 10 with fail
            obtain ⟨h3, hc3⟩ := h2.nowDone (wrap64 (S1.all + 1)) rfl
            generalize ((w2.setCell ⟨p, 1, none⟩ (.map (some w2.heap.size))).setCell ⟨p, 3, none⟩ (.int .i64 (wrap64 (S1.all + 1)))).alloc (.map #[] 0) = W3 at h3 hc3 ⊢
            have hsw := hC1.size
            have hs2 := hC2.size
            simp at hs2
            have hFd3 : ∀ k, Fd1 k → F k ∨ w.heap.size ≤ k := fun k hk => (hd1 k hk).imp id (·.1)
            have hFs3 : ∀ k, (Fs1 k ∨ k = w2.heap.size) → F k ∨ w.heap.size ≤ k := fun k hk => hk.elim (fun h => (hs1 k h).imp id (·.1)) (fun h => .inr (by omega))
            have hC3 : Chg F w W3 := hC2'.trans hc3 (fun j hj e => by subst e; exact (hs1 _ h1.Fp).elim id (fun h9 => by omega))
            have e2 : W3.cell? ⟨p, 2, none⟩ = some (.map (some mw1)) := cell_of h3.blk 2
            have e3 : W3.cell? ⟨p, 3, none⟩ = some (.int .i64 (wrap64 (S1.all + 1))) := cell_of h3.blk 3
            have e4 : W3.cell? ⟨p, 4, none⟩ = some (.int .i64 S1.lasting) := cell_of h3.blk 4
            have f4' := frozen_of h3.blk 4
            have hln3 := h3.wait.map.len (P := Try.prog) Try.underlying127
            have hcdH : Hid _ := Lib.hid hcd
            clear hcd hC2 hC2' h2 d1 d2 d3 d4 f1 f3 f4 cm hX
            by_cases hz : cd2 = 0
            · subst hz
              go_wp2_with fail
              go_ret
              have h4 := h3.reset (w' := W3.setCell ⟨p, 4, none⟩ (.int .i64 (wrap64 (S1.all + 1)))) ((Chg.refl _ _).own _ _) (heap_set_same h3.blk 4 _)
              have hC4 : Chg F w (W3.setCell ⟨p, 4, none⟩ (.int .i64 (wrap64 (S1.all + 1)))) := hC3.trans ((Chg.refl (· = p) _).own 4 _) (fun j hj e => by subst e; exact (hs1 _ h1.Fp).elim id (fun h9 => by omega))
              try rw [hcm.out]
              have hdn : S1.done = { S1 with wait := S1.both, now := fun _ => none, all := wrap64 (S1.all + 1), lasting := wrap64 (S1.all + 1) } := by
                have hk : keysF S1.both S1.size = [] := List.length_eq_zero_iff.1 hcdH.out.symm
                unfold WalS.done
                rw [if_pos hk]
              rw [hdn]
              exact ⟨rfl, h4.done hFd3 hFs3 hl hC4, hC4⟩
            · have hz1 : ((cd2 : Int) == 0) = false := by simp; omega
              go_wp2_with fail
              go_ret
              try rw [hcm.out]
              have hdn : S1.done = { S1 with wait := S1.both, now := fun _ => none, all := wrap64 (S1.all + 1) } := by
                have hk : ¬ keysF S1.both S1.size = [] := fun e => hz (hcdH.out.trans (by show (keysF S1.both S1.size).length = 0; rw [e]; rfl))
                unfold WalS.done
                rw [if_neg hk]
              rw [hdn]
              exact ⟨rfl, h3.done hFd3 hFs3 hl hC3, hC3⟩
end
end Go.Proofs.Ytbnoebdpbpjbkaa
