/-
  What the store's log says, read from the device.
-/
import Derived.Test.YtbnoebdpbpjbkaaWalG
import Derived.Test.YtbnoebdpbpjbkaaWal4
namespace Go.Proofs.Ytbnoebdpbpjbkaa
open Go.RowKit Go.Lz

/-- What is behind a place of a row of bytes. -/
theorem _root_.Go.Lz.Src.drop {t : TypeId} {w : World} {F : Nat → Prop} {g off n cap : Nat} {b : Bytes} (h : Src t w F (.slice (some ⟨g, off, none⟩) n cap) b) {k : Nat} (hk : k ≤ b.length) :
    Src t w F (.slice (some ⟨g, off + k, none⟩) (n - k) (cap - k)) (b.drop k) := by
  obtain ⟨g', off', cap', cur, fr, he, h2, h3, h4, h5, h6⟩ := h
  injection he with e1 e2 e3
  injection e1 with e1
  injection e1 with e1 e4
  subst e1 e4 e2 e3
  refine ⟨g, off + k, cap - k, cur, fr, by rw [List.length_drop], h2, h3, by rw [List.length_drop]; omega, by omega, fun j u hj => ?_⟩
  rw [List.map_drop, List.getElem?_drop] at hj
  rw [Nat.add_assoc]
  exact h6 (k + j) u hj

section
variable {w : World} {p q : Nat} {D : DevS} {Fd F : Nat → Prop} {m c : Nat} {f : Nat → Option Bytes} {vf : Nat → Option Value}

theorem wsize_dev (hp : w.cell? ⟨p, 0, none⟩ = some (Dp q)) (hD : DevAt Try.prog w q D Fd) : Calls Try.prog 75 #[Dptr p] w fun e w' => e = .returned (.int .i64 ((D.n - 300 : Nat) : Int)) ∧ w = w' := by
  have hn : D.n ≤ 1000000 := Nat.le_trans hD.ok.n (by omega)
  go_enter Try.func75, Try.ntmps75
  go_wp2_with (first
    | (go_at_call 66; refine (size_any hD).mono ?_; rintro e w' ⟨rfl, rfl⟩)
    | (go_at_call 80; refine (room_any _ _ hn).mono ?_; rintro e w' ⟨rfl, rfl⟩))
  go_ret
  exact ⟨rfl, rfl⟩

/-- A read that goes well: a new row. -/
def ReadNew (w : World) (p : Nat) (S : DevS) (F : Nat → Prop) (b : Bytes) (e : Ending) (w' : World) : Prop :=
  ∃ v g, e = .returned (.tuple #[v, .int .i64 0]) ∧ Dat 5 w' (· = g) v b ∧ w.heap.size ≤ g ∧ DevAt Try.prog w' p S.counted F ∧ Chg F w w'

theorem read_new (h : DevAt Try.prog w q D Fd) (hd : D.dead = false) {i : Int} {k : Nat} (hi : i = (k : Int)) (hk : k < D.n) : Calls Try.prog 19 #[Dptr q, .int .i64 i] w (ReadNew w q D Fd (D.now k)) := by
  subst hi
  obtain ⟨lv, m, vs, vf, c, hD⟩ := h
  refine (read_ok hD hd hk).mono ?_
  rintro e w' ⟨v, g, rfl, h2, h3, h4, h5⟩
  exact ⟨v, g, rfl, h2, h3, h4.at_, h5.mono fun j _ e => by subst e; exact hD.Fp⟩

theorem _root_.Go.Lz.SecsIn.put {w3 : World} (h : SecsIn Try.prog w m f F vf c) {v : Value} {g k c' : Nat} {b : Bytes} (hd : Dat 5 w (· = g) v b) (hm3 : MapAt Try.prog 3 w3 m (upd vf k (some v)) c') (hgr : w.grownBy w3 (some m)) :
    SecsIn Try.prog w3 m (upd f k (some b)) (fun j => F j ∨ j = g) (upd vf k (some v)) c' ∧ Chg (· = m) w w3 := by
  have hc : Chg (· = m) w w3 := (Chg.refl _ w).grown hgr (fun j e _ => by cases e; rfl)
  obtain ⟨es, cl, hme⟩ := h.map.isMap
  have hkeep : ∀ j cs t, w.heap[j]? = some (Obj.cells cs t (0, 0)) → w3.heap[j]? = some (Obj.cells cs t (0, 0)) := fun j cs t hj => (hc.block j (lt_of_heap hj) (fun e => ne_of_map hj (e ▸ hme) rfl)).trans hj
  have hd3 : Dat 5 w3 (· = g) v b := hd.heap fun j cs _ h3 => hkeep j cs _ h3
  refine ⟨⟨hm3, fun i u hu => ?_, fun i hu => ?_, .inl h.Fm⟩, hc⟩
  · by_cases e : i = k
    · subst e
      rw [upd_same] at hu
      cases hu
      exact ⟨b, by simp, hd3.mono fun j hj => .inr hj⟩
    · rw [upd_other _ e] at hu
      obtain ⟨b', h1, h2⟩ := h.dat i u hu
      exact ⟨b', by simpa [upd_other _ e] using h1, (h2.heap fun j cs _ h3 => hkeep j cs _ h3).mono fun j hj => .inl hj⟩
  · by_cases e : i = k
    · subst e
      rw [upd_same] at hu
      cases hu
    · rw [upd_other _ e] at hu
      simpa [upd_other _ e] using h.no i hu

/-- What the log says, in a new map. -/
def LoggedAt (w : World) (q : Nat) (D D' : DevS) (Fd : Nat → Prop) (m i : Nat) (w' : World) : Prop :=
  ∃ Fl vf c, DevAt Try.prog w' q D' Fd ∧ SecsIn Try.prog w' m (logFL D.now (D.n - 300) i) Fl vf c ∧ (∀ k, Fl k → w.heap.size ≤ k ∧ k < w'.heap.size) ∧ Chg Fd w w'
def LoggedPost (w : World) (q : Nat) (D : DevS) (Fd : Nat → Prop) (e : Ending) (w' : World) : Prop :=
  ∃ m, e = .returned (.tuple #[.map (some m), .int .i64 0]) ∧ LoggedAt w q D (D.countedN (1 + 2 * numL D.now)) Fd m (numL D.now) w'

set_option maxRecDepth 100000 in
set_option maxHeartbeats 1000000 in
theorem logged_any (hp : w.cell? ⟨p, 0, none⟩ = some (Dp q)) (hpl : p < w.heap.size) (hpF : ¬ Fd p) (hD : DevAt Try.prog w q D Fd) (hd : D.dead = false) (hn : 300 < D.n) : Calls Try.prog 81 #[Dptr p] w (LoggedPost w q D Fd) := by
  have hok := hD.ok
  have hlt := hD.lt
  have hn8 := hok.n
  have hmm := @run_makeMap Try.prog
  go_enter Try.func81, Try.ntmps81
  go_wp2_with fail
  refine (read_new hD hd (k := 0) rfl (by omega)).mono ?_
  rintro e w1 ⟨v1, g1, rfl, hv1, hg1, hD1, hC1⟩
  have hs1 := hC1.size
  go_wp2_with fail
  have hA : Below w1.heap.size w1 (w1.alloc (.map #[] 0)) := (Below.refl _ w1).alloc (Nat.le_refl _) _
  refine (number_any (hv1.src.heap fun k cs fr _ h3 => (hA.block k (lt_of_heap h3)).trans h3) (by rw [hok.now]; omega)).mono ?_
  rintro e w2 ⟨rfl, hB2⟩
  have hB12 := hA.trans (hB2.mono (by simp))
  obtain ⟨N, hN⟩ : ∃ N, N = numL D.now := ⟨_, rfl⟩
  have hNle : N ≤ 256 := by rw [hN]; exact numL_le _
  have hNv : N = if 256 < numB (D.now 0) then 0 else (numB (D.now 0)).toNat := hN
  have hnb := numB_nonneg (D.now 0)
  generalize numB (D.now 0) = nb at hNv hnb ⊢
  have hC2 : Chg Fd w w2 := hC1.below hB12
  have hm2 : SecsIn Try.prog w2 w1.heap.size (fun _ => none) (fun k => k = w1.heap.size) (fun _ => none) 0 := (SecsIn.made (F := fun k => k = w1.heap.size) w1 rfl).chg (M := fun _ => False) (Chg.of_below hB2) (fun _ _ h => h)
  have hD2 := hD1.below hB12
  have c2 : w2.cell? ⟨p, 0, none⟩ = some (Dp q) := (hC2.cell (p := ⟨p, 0, none⟩) hpl hpF).trans hp
  have hz2 : w1.heap.size < w2.heap.size := hm2.map.lt
  have hN' : Hid (N = numL D.now) := hN
  clear hN hD hD1 hv1 hC1 hB2 hB12 hA
  go_upto_if 28 with fail
  go_cut [7] from 29 (fun nv wx => nv = .int .i64 (N : Int) ∧ wx = w2)
  case first =>
    by_cases hbig : 256 < nb
    · have hN0 : N = 0 := by rw [if_pos hbig] at hNv; exact hNv
      go_wp2_with fail
      go_meet
      case rel => exact ⟨by rw [hN0]; rfl, rfl⟩
    · have hN0 : nb = (N : Int) := by rw [if_neg hbig] at hNv; omega
      clear hNv
      subst hN0
      go_wp2_with fail
      go_meet
      case rel => exact ⟨rfl, rfl⟩
  case rest =>
    obtain ⟨rfl, rfl⟩ := hcut
    clear hNv hnb
    go_upto_block 1 with fail
    go_loopg [30] N (fun d iv wr => ∃ i : Nat, i + d = N ∧ iv = .int .i64 (i : Int) ∧ LoggedAt w q D (D.countedN (1 + 2 * i)) Fd w1.heap.size i wr)
    case atStart => exact ⟨0, by omega, rfl, _, _, _, hD2, hm2, fun k hk => by subst hk; exact ⟨hs1, hz2⟩, hC2⟩
    case round =>
      obtain ⟨i, hid, rfl, Fl, vf, c, hDr, hmr, hFl, hC⟩ := hrel
      have hid' : Hid (i + gk = N) := hid
      have hpr : wr.cell? ⟨p, 0, none⟩ = some (Dp q) := (hC.cell (p := ⟨p, 0, none⟩) hpl hpF).trans hp
      by_cases hi : i < N
      · have hi' : (i : Int) < (N : Int) := by omega
        have hdd : (D.countedN (1 + 2 * i)).dead = false := by rw [DevS.countedN_dead]; exact hd
        have hr1 := read_new hDr hdd (i := 1 + (i : Int) / 16) (k := 1 + i / 16) (by omega) (by rw [DevS.countedN_n]; omega)
        rw [DevS.countedN_now] at hr1
        clear hid
        go_wp2_with fail
        refine hr1.mono ?_
        rintro e w3 ⟨v3, g3, rfl, hv3, hg3, hD3, hC3⟩
        clear hr1
        have hs3 := hC3.size
        have hl3 : (D.now (1 + i / 16)).length = 64 := hok.now _
        have hsrc3 := hv3.src
        obtain ⟨gg3, cap3, cur3, rfl, rfl, hx3, hx4, hx5, hx6⟩ := hv3
        have hsrc4 := hsrc3.drop (k := 4 * (i % 16)) (by omega)
        rw [hl3, Nat.zero_add] at hsrc4
        rw [hl3] at hx4 ⊢
        have hl4 : 4 ≤ ((D.now (1 + i / 16)).drop (4 * (i % 16))).length := by rw [List.length_drop, hl3]; omega
        clear hsrc3 hx3 hx6 hl3
        go_wp2_with fail
        refine (number_any hsrc4 hl4).mono ?_
        rintro e w4 ⟨rfl, hB4⟩
        rw [show numB ((D.now (1 + i / 16)).drop (4 * (i % 16))) = atL D.now i from rfl]
        have hat0 : 0 ≤ atL D.now i := numB_nonneg _
        have hs4 := hB4.size
        have hlog : logFL D.now (D.n - 300) (i + 1) = if atL D.now i < ((D.n - 300 : Nat) : Int) then upd (logFL D.now (D.n - 300) i) (atL D.now i).toNat (some (D.now (17 + i))) else logFL D.now (D.n - 300) i := rfl
        have hlogH : Hid _ := Lib.hid hlog
        have hD4 := hD3.below hB4
        have c4 : w4.cell? ⟨p, 0, none⟩ = some (Dp q) := (hB4.cell (p := ⟨p, 0, none⟩) (by have := hC.size; show p < _; omega)).trans ((hC3.cell (p := ⟨p, 0, none⟩) (by have := hC.size; show p < _; omega) hpF).trans hpr)
        have hr5 := read_new hD4 (by exact hdd) (i := 17 + (i : Int)) (k := 17 + i) (by omega) (by show 17 + i < (D.countedN (1 + 2 * i)).n; rw [DevS.countedN_n]; omega)
        rw [show (D.countedN (1 + 2 * i)).counted.now = D.now from DevS.countedN_now D (1 + 2 * i + 1)] at hr5
        generalize atL D.now i = at_ at hlogH hat0 ⊢
        clear hsrc4 hl4 hlog hD3 hdd
        go_wp2_with fail
        refine hr5.mono ?_
        rintro e w5 ⟨v5, g5, rfl, hv5, hg5, hD5, hC5⟩
        clear hr5
        have hs5 := hC5.size
        have c5 : w5.cell? ⟨p, 0, none⟩ = some (Dp q) := (hC5.cell (p := ⟨p, 0, none⟩) (by have := hC.size; show p < _; omega) hpF).trans c4
        have hcnt : (D.countedN (1 + 2 * i)).counted.counted = D.countedN (1 + 2 * (i + 1)) := rfl
        rw [hcnt] at hD5
        have hsz := wsize_dev c5 hD5
        rw [DevS.countedN_n] at hsz
        obtain ⟨sz, hszE⟩ : ∃ sz, sz = D.n - 300 := ⟨_, rfl⟩
        have hszH : Hid (sz = D.n - 300) := hszE
        rw [← hszE] at hsz
        clear hszE hcnt hD4
        go_wp2_with fail
        refine hsz.mono ?_
        rintro e w5' ⟨rfl, rfl⟩
        clear hsz
        have hmono : Chg Fd w w5 := (((hC.trans hC3 (fun _ _ h => h)).below hB4).trans hC5 (fun _ _ h => h))
        have hFd5 : ∀ k, Fl k → ¬ Fd k := fun k hk h => by have := (hFl k hk).1; have := hlt k h; omega
        have hm5 := (((hmr.chg hC3 hFd5).chg (M := fun _ => False) (Chg.of_below hB4) (fun _ _ h => h)).chg hC5 hFd5)
        clear hC3 hB4 hC5 hmr
        by_cases hat : at_ < (sz : Int)
        · obtain ⟨a, rfl⟩ := Int.eq_ofNat_of_zero_le hat0
          have hcle : c < maxLen := Nat.lt_of_le_of_lt (hm5.map.le Try.underlying3 (hm5.bound fun k hk => (logFL_ok (fun k => hok.now k) (Option.get_mem hk)).2)) (by unfold maxLen; omega)
          have ha : a < 9223372036854775808 := by have := hszH.out; omega
          go_wp2_with (at_mapUpdate; refine wpList_store rfl _ _ _ rfl Try.underlying3 Try.underlying127 hm5.map hcle (k := a) ha v5 rfl rfl rfl ?_; intro w6 hm6 hgr6 hsz6)
          have hat' : (a : Int) < ((D.n - 300 : Nat) : Int) := by have := hszH.out; omega
          obtain ⟨hput, hC6⟩ := hm5.put hv5 hm6 hgr6
          have hw1m : ¬ Fd w1.heap.size := fun h => by have := hlt _ h; omega
          go_roundg (gk - 1)
          case measure => have := hid'.out; omega
          case rel =>
            have hput' : SecsIn Try.prog w6 w1.heap.size (logFL D.now (D.n - 300) (i + 1)) (fun j => Fl j ∨ j = g5) (upd vf a (some v5)) (if (vf a).isSome then c else c + 1) := by
              rw [hlogH.out, if_pos hat', Int.toNat_natCast]
              exact hput
            refine ⟨i + 1, by have := hid'.out; omega, by go_num, _, _, _, hD5.chg hC6 (fun k hk e => hw1m (e ▸ hk)), hput', fun k hk => ?_, hmono.trans hC6 (by intro k hk e; omega)⟩
            rcases hk with hk | rfl
            · exact ⟨(hFl k hk).1, by have := (hFl k hk).2; omega⟩
            · refine ⟨by have := hC.size; omega, ?_⟩
              obtain ⟨g', _, _, _, e9, h9, _⟩ := hv5
              have := lt_of_heap h9
              omega
        · go_wp2_with fail
          go_roundg (gk - 1)
          case measure => have := hid'.out; omega
          case rel => exact ⟨i + 1, by have := hid'.out; omega, by go_num, Fl, vf, c, hD5, by rw [hlogH.out, if_neg (by have := hszH.out; omega)]; exact hm5, fun k hk => ⟨(hFl k hk).1, by have := (hFl k hk).2; omega⟩, hmono⟩
      · obtain rfl : i = N := by omega
        clear hid
        go_wp2_with fail
        go_ret2
        unfold LoggedPost
        rw [← hN'.out]
        exact ⟨_, rfl, Fl, vf, c, hDr, hmr, hFl, hC⟩
end
end Go.Proofs.Ytbnoebdpbpjbkaa
