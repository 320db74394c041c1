/-
  The texts Wal6 Wal2, one behind the other.
-/
import Derived.Test.YtjngphffgdjcfaaGreatDoorME5
import Derived.Test.YtjngphffgdjcfaaGreatDoorMExWal4
/-
  What the store's log says, read from the device.
-/
namespace Go.Proofs.YtjngphffgdjcfaaGreatDoor
open Go.RowKit Go.Lz

/-- What is behind a place of a row of bytes. -/
theorem _root_.Go.Lz.Src.drop {t : TypeId} {w : World} {F : Nat → Prop} {g off n cap : Nat} {b : Bytes} (h : Src t w F (.slice (some ⟨g, off, none⟩) n cap) b) {k : Nat} (hk : k ≤ b.length) :
    Src t w F (.slice (some ⟨g, off + k, none⟩) (n - k) (cap - k)) (b.drop k) := by
  obtain ⟨g', off', cap', cur, fr, he, h2, h3, h4, h5, h6⟩ := h
  injection he with e1 e2 e3
  injection e1 with e1
  injection e1 with e1 e4
  subst e1 e4 e2 e3
  refine ⟨g, off + k, cap - k, cur, fr, by rw [List.length_drop], h2, h3, by rw [List.length_drop]; omega, by omega, fun j u hj => ?_⟩
  rw [List.map_drop, List.getElem?_drop] at hj
  rw [Nat.add_assoc]
  exact h6 (k + j) u hj

section
variable {w : World} {p q : Nat} {D : DevS} {Fd F : Nat → Prop} {m c : Nat} {f : Nat → Option Bytes} {vf : Nat → Option Value}

theorem wsize_dev (hp : w.cell? ⟨p, 0, none⟩ = some (Dp q)) (hD : DevAt Tryz.prog w q D Fd) : Calls Tryz.prog 52 #[Dptr p] w fun e w' => e = .returned (.int .i64 ((D.n - 300 : Nat) : Int)) ∧ w = w' := by
  have hn : D.n ≤ 1000000 := Nat.le_trans hD.ok.n (by omega)
  go_enter Tryz.func52, Tryz.ntmps52
  go_wp2_with (first
    | (go_at_call 80; refine (size_any hD).mono ?_; rintro e w' ⟨rfl, rfl⟩)
    | (go_at_call 79; refine (room_any _ _ hn).mono ?_; rintro e w' ⟨rfl, rfl⟩))
  go_ret
  exact ⟨rfl, rfl⟩

/-- A read that goes well: a new row. -/
def ReadNew (w : World) (p : Nat) (S : DevS) (F : Nat → Prop) (b : Bytes) (e : Ending) (w' : World) : Prop :=
  ∃ v g, e = .returned (.tuple #[v, .int .i64 0]) ∧ Dat 5 w' (· = g) v b ∧ w.heap.size ≤ g ∧ DevAt Tryz.prog w' p S.counted F ∧ Chg F w w'

theorem read_new (h : DevAt Tryz.prog w q D Fd) (hd : D.dead = false) {i : Int} {k : Nat} (hi : i = (k : Int)) (hk : k < D.n) : Calls Tryz.prog 68 #[Dptr q, .int .i64 i] w (ReadNew w q D Fd (D.now k)) := by
  subst hi
  obtain ⟨lv, m, vs, vf, c, hD⟩ := h
  refine (read_ok hD hd hk).mono ?_
  rintro e w' ⟨v, g, rfl, h2, h3, h4, h5⟩
  exact ⟨v, g, rfl, h2, h3, h4.at_, h5.mono fun j _ e => by subst e; exact hD.Fp⟩

theorem _root_.Go.Lz.SecsIn.put {w3 : World} (h : SecsIn Tryz.prog w m f F vf c) {v : Value} {g k c' : Nat} {b : Bytes} (hd : Dat 5 w (· = g) v b) (hm3 : MapAt Tryz.prog 3 w3 m (upd vf k (some v)) c') (hgr : w.grownBy w3 (some m)) :
    SecsIn Tryz.prog w3 m (upd f k (some b)) (fun j => F j ∨ j = g) (upd vf k (some v)) c' ∧ Chg (· = m) w w3 := by
  have hc : Chg (· = m) w w3 := (Chg.refl _ w).grown hgr (fun j e _ => by cases e; rfl)
  obtain ⟨es, cl, hme⟩ := h.map.isMap
  have hkeep : ∀ j cs t, w.heap[j]? = some (Obj.cells cs t (0, 0)) → w3.heap[j]? = some (Obj.cells cs t (0, 0)) := fun j cs t hj => (hc.block j (lt_of_heap hj) (fun e => ne_of_map hj (e ▸ hme) rfl)).trans hj
  have hd3 : Dat 5 w3 (· = g) v b := hd.heap fun j cs _ h3 => hkeep j cs _ h3
  refine ⟨⟨hm3, fun i u hu => ?_, fun i hu => ?_, .inl h.Fm⟩, hc⟩
  · by_cases e : i = k
    · subst e
      rw [upd_same] at hu
      cases hu
      exact ⟨b, by simp, hd3.mono fun j hj => .inr hj⟩
    · rw [upd_other _ e] at hu
      obtain ⟨b', h1, h2⟩ := h.dat i u hu
      exact ⟨b', by simpa [upd_other _ e] using h1, (h2.heap fun j cs _ h3 => hkeep j cs _ h3).mono fun j hj => .inl hj⟩
  · by_cases e : i = k
    · subst e
      rw [upd_same] at hu
      cases hu
    · rw [upd_other _ e] at hu
      simpa [upd_other _ e] using h.no i hu

/-- What the log says, in a new map. -/
def LoggedAt (w : World) (q : Nat) (D D' : DevS) (Fd : Nat → Prop) (m i : Nat) (w' : World) : Prop :=
  ∃ Fl vf c, DevAt Tryz.prog w' q D' Fd ∧ SecsIn Tryz.prog w' m (logFL D.now (D.n - 300) i) Fl vf c ∧ (∀ k, Fl k → w.heap.size ≤ k ∧ k < w'.heap.size) ∧ Chg Fd w w'
def LoggedPost (w : World) (q : Nat) (D : DevS) (Fd : Nat → Prop) (e : Ending) (w' : World) : Prop :=
  ∃ m, e = .returned (.tuple #[.map (some m), .int .i64 0]) ∧ LoggedAt w q D (D.countedN (1 + 2 * numL D.now)) Fd m (numL D.now) w'

set_option maxRecDepth 100000 in
set_option maxHeartbeats 1000000 in
theorem logged_any (hp : w.cell? ⟨p, 0, none⟩ = some (Dp q)) (hpl : p < w.heap.size) (hpF : ¬ Fd p) (hD : DevAt Tryz.prog w q D Fd) (hd : D.dead = false) (hn : 300 < D.n) : Calls Tryz.prog 81 #[Dptr p] w (LoggedPost w q D Fd) := by
  have hok := hD.ok
  have hlt := hD.lt
  have hn8 := hok.n
  have hmm := @run_makeMap Tryz.prog
  go_enter Tryz.func81, Tryz.ntmps81
  go_wp2_with fail
  refine (read_new hD hd (k := 0) rfl (by omega)).mono ?_
  rintro e w1 ⟨v1, g1, rfl, hv1, hg1, hD1, hC1⟩
  have hs1 := hC1.size
  go_wp2_with fail
  have hA : Below w1.heap.size w1 (w1.alloc (.map #[] 0)) := (Below.refl _ w1).alloc (Nat.le_refl _) _
  refine (number_any (hv1.src.heap fun k cs fr _ h3 => (hA.block k (lt_of_heap h3)).trans h3) (by rw [hok.now]; omega)).mono ?_
  rintro e w2 ⟨rfl, hB2⟩
  have hB12 := hA.trans (hB2.mono (by simp))
  obtain ⟨N, hN⟩ : ∃ N, N = numL D.now := ⟨_, rfl⟩
  have hNle : N ≤ 256 := by rw [hN]; exact numL_le _
  have hNv : N = if 256 < numB (D.now 0) then 0 else (numB (D.now 0)).toNat := hN
  have hnb := numB_nonneg (D.now 0)
  generalize numB (D.now 0) = nb at hNv hnb ⊢
  have hC2 : Chg Fd w w2 := hC1.below hB12
  have hm2 : SecsIn Tryz.prog w2 w1.heap.size (fun _ => none) (fun k => k = w1.heap.size) (fun _ => none) 0 := (SecsIn.made (F := fun k => k = w1.heap.size) w1 rfl).chg (M := fun _ => False) (Chg.of_below hB2) (fun _ _ h => h)
  have hD2 := hD1.below hB12
  have c2 : w2.cell? ⟨p, 0, none⟩ = some (Dp q) := (hC2.cell (p := ⟨p, 0, none⟩) hpl hpF).trans hp
  have hz2 : w1.heap.size < w2.heap.size := hm2.map.lt
  have hN' : Hid (N = numL D.now) := hN
  clear hN hD hD1 hv1 hC1 hB2 hB12 hA
  go_upto_if 28 with fail
  go_cut [7] from 29 (fun nv wx => nv = .int .i64 (N : Int) ∧ wx = w2)
  case first =>
    by_cases hbig : 256 < nb
    · have hN0 : N = 0 := by rw [if_pos hbig] at hNv; exact hNv
      go_wp2_with fail
      go_meet
      case rel => exact ⟨by rw [hN0]; rfl, rfl⟩
    · have hN0 : nb = (N : Int) := by rw [if_neg hbig] at hNv; omega
      clear hNv
      subst hN0
      go_wp2_with fail
      go_meet
      case rel => exact ⟨rfl, rfl⟩
  case rest =>
    obtain ⟨rfl, rfl⟩ := hcut
    clear hNv hnb
    go_upto_block 1 with fail
    go_loopg [30] N (fun d iv wr => ∃ i : Nat, i + d = N ∧ iv = .int .i64 (i : Int) ∧ LoggedAt w q D (D.countedN (1 + 2 * i)) Fd w1.heap.size i wr)
    case atStart => exact ⟨0, by omega, rfl, _, _, _, hD2, hm2, fun k hk => by subst hk; exact ⟨hs1, hz2⟩, hC2⟩
    case round =>
      obtain ⟨i, hid, rfl, Fl, vf, c, hDr, hmr, hFl, hC⟩ := hrel
      have hid' : Hid (i + gk = N) := hid
      have hpr : wr.cell? ⟨p, 0, none⟩ = some (Dp q) := (hC.cell (p := ⟨p, 0, none⟩) hpl hpF).trans hp
      by_cases hi : i < N
      · have hi' : (i : Int) < (N : Int) := by omega
        have hdd : (D.countedN (1 + 2 * i)).dead = false := by rw [DevS.countedN_dead]; exact hd
        have hr1 := read_new hDr hdd (i := 1 + (i : Int) / 16) (k := 1 + i / 16) (by omega) (by rw [DevS.countedN_n]; omega)
        rw [DevS.countedN_now] at hr1
        clear hid
        go_wp2_with fail
        refine hr1.mono ?_
        rintro e w3 ⟨v3, g3, rfl, hv3, hg3, hD3, hC3⟩
        clear hr1
        have hs3 := hC3.size
        have hl3 : (D.now (1 + i / 16)).length = 64 := hok.now _
        have hsrc3 := hv3.src
        obtain ⟨gg3, cap3, cur3, rfl, rfl, hx3, hx4, hx5, hx6⟩ := hv3
        have hsrc4 := hsrc3.drop (k := 4 * (i % 16)) (by omega)
        rw [hl3, Nat.zero_add] at hsrc4
        rw [hl3] at hx4 ⊢
        have hl4 : 4 ≤ ((D.now (1 + i / 16)).drop (4 * (i % 16))).length := by rw [List.length_drop, hl3]; omega
        clear hsrc3 hx3 hx6 hl3
        go_wp2_with fail
        refine (number_any hsrc4 hl4).mono ?_
        rintro e w4 ⟨rfl, hB4⟩
        rw [show numB ((D.now (1 + i / 16)).drop (4 * (i % 16))) = atL D.now i from rfl]
        have hat0 : 0 ≤ atL D.now i := numB_nonneg _
        have hs4 := hB4.size
        have hlog : logFL D.now (D.n - 300) (i + 1) = if atL D.now i < ((D.n - 300 : Nat) : Int) then upd (logFL D.now (D.n - 300) i) (atL D.now i).toNat (some (D.now (17 + i))) else logFL D.now (D.n - 300) i := rfl
        have hlogH : Hid _ := Lib.hid hlog
        have hD4 := hD3.below hB4
        have c4 : w4.cell? ⟨p, 0, none⟩ = some (Dp q) := (hB4.cell (p := ⟨p, 0, none⟩) (by have := hC.size; show p < _; omega)).trans ((hC3.cell (p := ⟨p, 0, none⟩) (by have := hC.size; show p < _; omega) hpF).trans hpr)
        have hr5 := read_new hD4 (by exact hdd) (i := 17 + (i : Int)) (k := 17 + i) (by omega) (by show 17 + i < (D.countedN (1 + 2 * i)).n; rw [DevS.countedN_n]; omega)
        rw [show (D.countedN (1 + 2 * i)).counted.now = D.now from DevS.countedN_now D (1 + 2 * i + 1)] at hr5
        generalize atL D.now i = at_ at hlogH hat0 ⊢
        clear hsrc4 hl4 hlog hD3 hdd
        go_wp2_with fail
        refine hr5.mono ?_
        rintro e w5 ⟨v5, g5, rfl, hv5, hg5, hD5, hC5⟩
        clear hr5
        have hs5 := hC5.size
        have c5 : w5.cell? ⟨p, 0, none⟩ = some (Dp q) := (hC5.cell (p := ⟨p, 0, none⟩) (by have := hC.size; show p < _; omega) hpF).trans c4
        have hcnt : (D.countedN (1 + 2 * i)).counted.counted = D.countedN (1 + 2 * (i + 1)) := rfl
        rw [hcnt] at hD5
        have hsz := wsize_dev c5 hD5
        rw [DevS.countedN_n] at hsz
        obtain ⟨sz, hszE⟩ : ∃ sz, sz = D.n - 300 := ⟨_, rfl⟩
        have hszH : Hid (sz = D.n - 300) := hszE
        rw [← hszE] at hsz
        clear hszE hcnt hD4
        go_wp2_with fail
        refine hsz.mono ?_
        rintro e w5' ⟨rfl, rfl⟩
        clear hsz
        have hmono : Chg Fd w w5 := (((hC.trans hC3 (fun _ _ h => h)).below hB4).trans hC5 (fun _ _ h => h))
        have hFd5 : ∀ k, Fl k → ¬ Fd k := fun k hk h => by have := (hFl k hk).1; have := hlt k h; omega
        have hm5 := (((hmr.chg hC3 hFd5).chg (M := fun _ => False) (Chg.of_below hB4) (fun _ _ h => h)).chg hC5 hFd5)
        clear hC3 hB4 hC5 hmr
        by_cases hat : at_ < (sz : Int)
        · obtain ⟨a, rfl⟩ := Int.eq_ofNat_of_zero_le hat0
          have hcle : c < maxLen := Nat.lt_of_le_of_lt (hm5.map.le Tryz.underlying3 (hm5.bound fun k hk => (logFL_ok (fun k => hok.now k) (Option.get_mem hk)).2)) (by unfold maxLen; omega)
          have ha : a < 9223372036854775808 := by have := hszH.out; omega
          go_wp2_with (at_mapUpdate; refine wpList_store rfl _ _ _ rfl Tryz.underlying3 Tryz.underlying125 hm5.map hcle (k := a) ha v5 rfl rfl rfl ?_; intro w6 hm6 hgr6 hsz6)
          have hat' : (a : Int) < ((D.n - 300 : Nat) : Int) := by have := hszH.out; omega
          obtain ⟨hput, hC6⟩ := hm5.put hv5 hm6 hgr6
          have hw1m : ¬ Fd w1.heap.size := fun h => by have := hlt _ h; omega
          go_roundg (gk - 1)
          case measure => have := hid'.out; omega
          case rel =>
            have hput' : SecsIn Tryz.prog w6 w1.heap.size (logFL D.now (D.n - 300) (i + 1)) (fun j => Fl j ∨ j = g5) (upd vf a (some v5)) (if (vf a).isSome then c else c + 1) := by
              rw [hlogH.out, if_pos hat', Int.toNat_natCast]
              exact hput
            refine ⟨i + 1, by have := hid'.out; omega, by go_num, _, _, _, hD5.chg hC6 (fun k hk e => hw1m (e ▸ hk)), hput', fun k hk => ?_, hmono.trans hC6 (by intro k hk e; omega)⟩
            rcases hk with hk | rfl
            · exact ⟨(hFl k hk).1, by have := (hFl k hk).2; omega⟩
            · refine ⟨by have := hC.size; omega, ?_⟩
              obtain ⟨g', _, _, _, e9, h9, _⟩ := hv5
              have := lt_of_heap h9
              omega
        · go_wp2_with fail
          go_roundg (gk - 1)
          case measure => have := hid'.out; omega
          case rel => exact ⟨i + 1, by have := hid'.out; omega, by go_num, Fl, vf, c, hD5, by rw [hlogH.out, if_neg (by have := hszH.out; omega)]; exact hm5, fun k hk => ⟨(hFl k hk).1, by have := (hFl k hk).2; omega⟩, hmono⟩
      · obtain rfl : i = N := by omega
        clear hid
        go_wp2_with fail
        go_ret2
        unfold LoggedPost
        rw [← hN'.out]
        exact ⟨_, rfl, Fl, vf, c, hDr, hmr, hFl, hC⟩
end
end Go.Proofs.YtjngphffgdjcfaaGreatDoor
/-
  The store's Read and Write.
-/
namespace Go.Proofs.YtjngphffgdjcfaaGreatDoor
open Go.RowKit Go.Lz
section
variable {w : World} {p q : Nat} {S : WalS} {Fd Fs F : Nat → Prop} {mn mw : Nat} {vn vw : Nat → Option Value} {cn cw : Nat}

theorem _root_.Go.Lz.WalS.wrong_zero {i : Int} (h : S.wrong i = 0) : S.dead = false ∧ S.dev.dead = false ∧ 0 ≤ i ∧ i < S.size := by
  unfold WalS.wrong at h
  split at h
  · cases h
  · split at h
    · cases h
    · rename_i h1 h2
      simp [WalS.isDead] at h1
      exact ⟨h1.1, h1.2, by omega, by omega⟩

/-- What a read hands back: nothing and an error; or a new slice. -/
def WRead (w : World) (p q : Nat) (S : WalS) (F : Nat → Prop) (i : Int) (e : Ending) (w' : World) : Prop :=
  (S.wrong i ≠ 0 ∧ e = .returned (.tuple #[.slice none 0 0, .int .i64 (S.wrong i)]) ∧ w = w') ∨
  (S.wrong i = 0 ∧ ∃ v g, e = .returned (.tuple #[v, .int .i64 0]) ∧ Dat 5 w' (· = g) v (S.get i.toNat) ∧ w.heap.size ≤ g ∧ StoreAt Tryz.prog w' p q (S.asked i.toNat) F ∧ Chg F w w')

set_option maxHeartbeats 1000000 in
theorem wread_in (h : StoreIn Tryz.prog w p q S Fd Fs mn mw vn vw cn cw) (hd : ∀ k, Fd k → F k) (hs : ∀ k, Fs k → F k) (hl : ∀ k, F k → k < w.heap.size) (i : Int) : Calls Tryz.prog 32 #[Dptr p, .int .i64 i] w (WRead w p q S F i) := by
  by_cases hw : S.wrong i = 0
  · obtain ⟨h1, h2, h3, h4⟩ := WalS.wrong_zero hw
    obtain ⟨k, rfl⟩ := Int.eq_ofNat_of_zero_le h3
    have hk : k < S.size := by omega
    have hdn := h.dev.ok.n
    have hk3 : 300 + k < S.dev.n := by unfold WalS.size at hk; omega
    have hkb : k < 9223372036854775808 := by omega
    have c0 : w.cell? ⟨p, 0, none⟩ = some (Dp q) := cell_of h.blk 0
    have c1 : w.cell? ⟨p, 1, none⟩ = some (.map (some mn)) := cell_of h.blk 1
    have c2 : w.cell? ⟨p, 2, none⟩ = some (.map (some mw)) := cell_of h.blk 2
    have ln := h.now.map.look Tryz.underlying3 Tryz.underlying125 (zeroBytes _) hkb
    have lw := h.wait.map.look Tryz.underlying3 Tryz.underlying125 (zeroBytes _) hkb
    have hat := h.at_ hd hs hl
    cases hv : vn k with
    | some v =>
      obtain ⟨b, hb, hdat⟩ := h.now.dat k v hv
      have hlen : b.length ≤ 140737488355328 := by rw [(h.ok.now k b hb).1]; omega
      have hget : S.get k = b := by simp [WalS.get, hb]
      have hask : S.asked k = S := by simp [WalS.asked, hb]
      rw [hv] at ln
      simp only [Option.getD_some, Option.isSome_some] at ln
      obtain ⟨g, cap, cur, rfl, hdat2⟩ := id hdat
      clear lw hk3 hdn h4
      go_enter Tryz.func32, Tryz.ntmps32
      go_wp2_with (first
        | (go_at_call 66; refine (wwrong_any h _).mono ?_; rw [hw]; rintro e w' ⟨rfl, rfl⟩)
        | (go_at_call 67; refine (clone_bytes hdat.src hlen).mono ?_; rintro e w1 ⟨v1, g1, rfl, hd1, hg1, hb1⟩; obtain ⟨g2, cap1, cur1, rfl, rfl, hx1⟩ := id hd1)
        | (go_at_call 40; refine (clip_bytes _ _ _ _ hx1.2.1 hx1.2.2.1).mono ?_; rintro e w' ⟨rfl, rfl⟩))
      go_ret2
      refine .inr ⟨hw, _, g2, rfl, ?_, hg1, ?_, Chg.of_below hb1⟩
      · rw [Int.toNat_natCast, hget]
        exact ⟨g2, b.length, cur1, rfl, rfl, hx1.1, Nat.le_refl _, Nat.le_trans hx1.2.1 hx1.2.2.1, Nat.le_trans hx1.2.1 hx1.2.2.2.1, hx1.2.2.2.2⟩
      · rw [Int.toNat_natCast, hask]
        exact hat.below hb1
    | none =>
      have hnn := h.now.no k hv
      rw [hv] at ln
      simp only [Option.getD_none, Option.isSome_none] at ln
      cases hv2 : vw k with
      | some v =>
        obtain ⟨b, hb, hdat⟩ := h.wait.dat k v hv2
        have hlen : b.length ≤ 140737488355328 := by rw [(h.ok.wait k b hb).1]; omega
        have hget : S.get k = b := by simp [WalS.get, hb, hnn]
        have hask : S.asked k = S := by simp [WalS.asked, hb]
        rw [hv2] at lw
        simp only [Option.getD_some, Option.isSome_some] at lw
        obtain ⟨g, cap, cur, rfl, hdat2⟩ := id hdat
        clear hk3 hdn h4
        go_enter Tryz.func32, Tryz.ntmps32
        go_wp2_with (first
          | (go_at_call 66; refine (wwrong_any h _).mono ?_; rw [hw]; rintro e w' ⟨rfl, rfl⟩)
          | (go_at_call 67; refine (clone_bytes hdat.src hlen).mono ?_; rintro e w1 ⟨v1, g1, rfl, hd1, hg1, hb1⟩; obtain ⟨g2, cap1, cur1, rfl, rfl, hx1⟩ := id hd1)
          | (go_at_call 40; refine (clip_bytes _ _ _ _ hx1.2.1 hx1.2.2.1).mono ?_; rintro e w' ⟨rfl, rfl⟩))
        go_ret2
        refine .inr ⟨hw, _, g2, rfl, ?_, hg1, ?_, Chg.of_below hb1⟩
        · rw [Int.toNat_natCast, hget]
          exact ⟨g2, b.length, cur1, rfl, rfl, hx1.1, Nat.le_refl _, Nat.le_trans hx1.2.1 hx1.2.2.1, Nat.le_trans hx1.2.1 hx1.2.2.2.1, hx1.2.2.2.2⟩
        · rw [Int.toNat_natCast, hask]
          exact hat.below hb1
      | none =>
        have hnw := h.wait.no k hv2
        have hget : S.get k = S.dev.now (300 + k) := by simp [WalS.get, hnw, hnn]
        have hask : S.asked k = { S with dev := S.dev.counted } := by simp [WalS.asked, hnw, hnn]
        rw [hv2] at lw
        simp only [Option.getD_none, Option.isSome_none] at lw
        have cr := read_own h.dev (300 + (k : Int))
        have hdw : S.dev.wrong (300 + (k : Int)) = 0 := by simp [DevS.wrong, h2]; omega
        go_enter Tryz.func32, Tryz.ntmps32
        go_wp2_with (first
          | (go_at_call 66; refine (wwrong_any h _).mono ?_; rw [hw]; rintro e w' ⟨rfl, rfl⟩)
          | (go_at_call 68; refine cr.mono ?_; rintro e w1 hr; obtain ⟨v, g, rfl, hdat, hg, hD, hc⟩ : ∃ v g, e = .returned (.tuple #[v, .int .i64 0]) ∧ Dat 5 w1 (· = g) v (S.dev.now (300 + (k : Int)).toNat) ∧ w.heap.size ≤ g ∧ DevAt Tryz.prog w1 q S.dev.counted Fd ∧ Chg (ownF Fd w) w w1 := by (rcases hr with hr | hr; exact absurd hdw hr.1; exact hr.2)))
        go_ret2
        have hcd : Chg Fd w w1 := hc.mono fun _ _ e => e.1
        refine .inr ⟨hw, v, g, rfl, ?_, hg, ?_, hcd.mono fun j _ e => hd j e⟩
        · rw [Int.toNat_natCast, hget]
          have : (300 + (k : Int)).toNat = 300 + k := by omega
          rwa [this] at hdat
        · rw [Int.toNat_natCast, hask]
          exact (h.device hD hcd (fun _ e => .inl e) rfl).at_ hd hs (fun j hj => Nat.lt_of_lt_of_le (hl j hj) hcd.size)
  · have hb : (S.wrong i != 0) = true := by simpa using hw
    go_enter Tryz.func32, Tryz.ntmps32
    go_wp2_with (go_at_call 66; refine (wwrong_any h _).mono ?_; rintro e w' ⟨rfl, rfl⟩)
    go_ret2
    exact .inl ⟨hw, rfl, rfl⟩

theorem wread_any (h : StoreAt Tryz.prog w p q S F) (i : Int) : Calls Tryz.prog 32 #[Dptr p, .int .i64 i] w (WRead w p q S F i) := by
  obtain ⟨Fd, Fs, mn, mw, vn, vw, cn, cw, h, hd, hs, hl⟩ := h
  exact wread_in h hd hs hl i

/-- An error's number, and the store. -/
def WErr (w : World) (p q : Nat) (r : Int × WalS) (F : Nat → Prop) (e : Ending) (w' : World) : Prop :=
  e = .returned (.int .i64 r.1) ∧ StoreAt Tryz.prog w' p q r.2 (ext F w w') ∧ Chg F w w'

/-- A sector of the transaction under way is another one. -/
theorem _root_.Go.Lz.StoreIn.stored {w2 w3 : World} (h : StoreIn Tryz.prog w p q S Fd Fs mn mw vn vw cn cw) (hb : Below w.heap.size w w2) {v : Value} {g : Nat} {b : Bytes} (hd : Dat 5 w2 (· = g) v b) (hg : w.heap.size ≤ g) {k c' : Nat}
    (hm3 : MapAt Tryz.prog 3 w3 mn (upd vn k (some v)) c') (hgr : w2.grownBy w3 (some mn)) (hb64 : b.length = 64) (hk : k < S.size) :
    StoreIn Tryz.prog w3 p q { S with now := upd S.now k (some b) } Fd (fun j => Fs j ∨ j = g) mn mw (upd vn k (some v)) vw c' cw ∧ Chg (· = mn) w w3 := by
  have hc : Chg (· = mn) w w3 := (Chg.of_below hb).grown hgr (fun j e _ => by cases e; rfl)
  obtain ⟨es, cl, hme⟩ := h.now.map.isMap
  have hkeep : ∀ j cs t, w.heap[j]? = some (Obj.cells cs t (0, 0)) → w3.heap[j]? = some (Obj.cells cs t (0, 0)) := fun j cs t hj => (hc.block j (lt_of_heap hj) (fun e => ne_of_map hj (e ▸ hme) rfl)).trans hj
  have hd3 : Dat 5 w3 (· = g) v b := hd.heap fun j cs hj h3 => (hgr.block j (lt_of_heap h3) (fun e => by cases e; subst hj; have := h.now.map.lt; omega)).trans h3
  have hgl : g < w3.heap.size := by
    obtain ⟨g', _, _, _, rfl, h3, _⟩ := hd3
    exact lt_of_heap h3
  refine ⟨⟨hkeep p _ _ h.blk, h.dev.chg hc (fun j hj e => h.dis mn h.now.Fm (e ▸ hj)), ⟨hm3, fun i u hu => ?_, fun i hu => ?_, .inl h.now.Fm⟩, ?_, h.ne, .inl h.Fp, ?_, ?_, ⟨h.ok.n, fun j c hj => ?_, h.ok.wait⟩⟩, hc⟩
  · by_cases e : i = k
    · subst e
      rw [upd_same] at hu
      cases hu
      exact ⟨b, by simp, hd3.mono fun j hj => .inr hj⟩
    · rw [upd_other _ e] at hu
      obtain ⟨b', h1, h2⟩ := h.now.dat i u hu
      exact ⟨b', by simpa [upd_other _ e] using h1, (h2.heap fun j cs _ h3 => hkeep j cs _ h3).mono fun j hj => .inl hj⟩
  · by_cases e : i = k
    · subst e
      rw [upd_same] at hu
      cases hu
    · rw [upd_other _ e] at hu
      simpa [upd_other _ e] using h.now.no i hu
  · exact (h.wait.mono fun j hj => Or.inl hj).heap (hc.block mw h.wait.map.lt (fun e => h.ne e.symm)) (fun j cs _ h3 => hkeep j cs _ h3)
  · intro j hj
    rcases hj with hj | rfl
    · exact Nat.lt_of_lt_of_le (h.Flt j hj) hc.size
    · exact hgl
  · intro j hj e
    rcases hj with hj | rfl
    · exact h.dis j hj e
    · have := h.dev.lt _ e; omega
  · by_cases e : j = k
    · subst e
      simp only [upd_same, Option.some.injEq] at hj
      subst hj
      exact ⟨hb64, hk⟩
    · simp only [upd_other _ e] at hj
      exact h.ok.now j c hj

theorem wat_ext {w' : World} (h : StoreAt Tryz.prog w' p q S F) : StoreAt Tryz.prog w' p q S (ext F w w') := h.mono (fun _ hj => .inl hj) fun j hj => hj.elim (h.lt j) (·.2)

set_option maxRecDepth 100000 in
set_option maxHeartbeats 1000000 in
theorem wwrite_any (h : StoreAt Tryz.prog w p q S F) {v : Value} {b : Bytes} {G : Nat → Prop} (hv : Src 5 w G v b) (i : Int) : Calls Tryz.prog 33 #[Dptr p, .int .i64 i, v] w (WErr w p q (S.write i b) F) := by
  have hat := h
  obtain ⟨Fd, Fs, mn, mw, vn, vw, cn, cw, h, hd, hs, hl⟩ := h
  unfold WalS.write
  by_cases hw : S.wrong i = 0
  · rw [if_neg (by simpa using hw)]
    obtain ⟨h1, h2, h3, h4⟩ := WalS.wrong_zero hw
    obtain ⟨k, rfl⟩ := Int.eq_ofNat_of_zero_le h3
    rw [Int.toNat_natCast]
    have hk : k < S.size := by omega
    have hdn := h.dev.ok.n
    have hsz : S.size ≤ 8192 := Nat.le_trans (Nat.sub_le _ _) hdn
    have hkb : k < 9223372036854775808 := by omega
    have c1 : w.cell? ⟨p, 1, none⟩ = some (.map (some mn)) := cell_of h.blk 1
    have ln := h.now.map.look Tryz.underlying3 Tryz.underlying125 (zeroBytes _) hkb
    have hlen := h.now.map.len (P := Tryz.prog) Tryz.underlying125
    have hcn : cn = S.nowN := h.now.count Tryz.underlying3 h.ok.nowB
    have his := h.now.some_iff k
    obtain ⟨g, off, cap, cur, fr, rfl, hv2⟩ := id hv
    have hpl := lt_of_heap h.blk
    obtain ⟨z, hz⟩ : ∃ z, z = (vn k).getD (.slice none 0 0) := ⟨_, rfl⟩
    rw [← hz, his] at ln
    clear hz
    by_cases hb : b.length = 64
    · rw [if_neg (by simpa using hb)]
      have hb64 : Hid (b.length = 64) := hb
      have hlen1 : b.length ≤ 140737488355328 := by omega
      have hlen0 : ((b.length : Int) != 64) = false := by rw [hb]; rfl
      clear hb
      by_cases hx : (S.now k).isSome = false ∧ 128 ≤ S.nowN
      · rw [if_pos hx]
        rw [hx.1] at ln
        have hc128 : (128 : Int) ≤ (cn : Int) := by have := hx.2; omega
        clear hx his
        go_enter Tryz.func33, Tryz.ntmps33
        go_wp2_with (go_at_call 66; refine (wwrong_any h _).mono ?_; rw [hw]; rintro e w' ⟨rfl, rfl⟩)
        go_ret
        exact ⟨rfl, wat_ext hat, Chg.refl _ _⟩
      · rw [if_neg hx]
        have hcle : cn < maxLen := Nat.lt_of_le_of_lt (h.now.map.le Tryz.underlying3 (h.now.bound h.ok.nowB)) (by unfold maxLen; omega)
        obtain ⟨o, ho⟩ : ∃ o, o = (S.now k).isSome := ⟨_, rfl⟩
        have hx' : o = true ∨ cn < 128 := by
          cases o with
          | true => exact .inl rfl
          | false => exact .inr (by rw [hcn]; exact Nat.lt_of_not_le fun h9 => hx ⟨ho.symm, h9⟩)
        rw [← ho] at ln
        clear hx ho his
        cases o
        all_goals
          try have hc128 : (cn : Int) < 128 := by simp at hx'; omega
          go_enter Tryz.func33, Tryz.ntmps33
          go_wp2_with (go_at_call 66; refine (wwrong_any h _).mono ?_; rw [hw]; rintro e w' ⟨rfl, rfl⟩)
          go_region_with ((go_at_call 67; refine (clone_bytes (by exact hv) hlen1).mono ?_; rintro e w2 ⟨v1, g1, rfl, hd1, hg1, hb1⟩; obtain ⟨g2, cap1, cur1, rfl, rfl, hx1⟩ := id hd1; have c1' := (hb1.cell (p := ⟨p, 1, none⟩) (by simpa using hpl)).trans c1; obtain ⟨w3, hst, hm3, hgr3, hsz3⟩ := (h.now.map.heap (w' := w2) (hb1.block mn (by simpa using h.now.map.lt))).store (Tm := 125) Tryz.underlying3 Tryz.underlying125 hcle hkb (.slice (some ⟨g2, 0, none⟩) b.length cap1)))
          all_goals
            go_wp2
            go_ret
            obtain ⟨h3', hc3⟩ := h.stored (undrew hb1) hd1 (by simpa using hg1) hm3 hgr3 hb64.out hk
            exact ⟨rfl, h3'.at_ (fun j hj => .inl (hd j hj)) (fun j hj => hj.imp (hs j) (fun e => ⟨by subst e; simpa using hg1, h3'.Flt j (.inr e)⟩)) (fun j hj => hj.elim (fun h9 => Nat.lt_of_lt_of_le (hl j h9) hc3.size) (·.2)), hc3.mono fun j _ e => by subst e; exact hs _ h.now.Fm⟩
    · rw [if_pos hb]
      have hb' : ((b.length : Int) != 64) = true := by simp; omega
      go_enter Tryz.func33, Tryz.ntmps33
      go_wp2_with (go_at_call 66; refine (wwrong_any h _).mono ?_; rw [hw]; rintro e w' ⟨rfl, rfl⟩)
      go_ret
      exact ⟨rfl, wat_ext hat, Chg.refl _ _⟩
  · rw [if_pos hw]
    have hb : (S.wrong i != 0) = true := by simpa using hw
    go_enter Tryz.func33, Tryz.ntmps33
    go_wp2_with (go_at_call 66; refine (wwrong_any h _).mono ?_; rintro e w' ⟨rfl, rfl⟩)
    go_ret
    exact ⟨rfl, wat_ext hat, Chg.refl _ _⟩
end
end Go.Proofs.YtjngphffgdjcfaaGreatDoor
