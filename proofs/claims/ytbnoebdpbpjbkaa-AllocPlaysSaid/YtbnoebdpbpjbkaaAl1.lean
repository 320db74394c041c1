/-
  What is taken: an item's bit.
-/
import Derived.Test.YtbnoebdpbpjbkaaLaw4d
namespace Go.Proofs.Ytbnoebdpbpjbkaa
open Go.RowKit Go.Lz
section
variable {w : World} {p q pm : Nat} {S : WalS} {F : Nat → Prop} {at_ n : Nat}

/-- Block pm is a map of n items at sector at_ of the store p. -/
def MapO (w : World) (pm p at_ n : Nat) : Prop := w.heap[pm]? = some (.cells #[Dptr p, .int .i64 (at_ : Int), .int .i64 (n : Int)] 126 (0, 0))

theorem MapO.chg {w' : World} {M : Nat → Prop} (h : MapO w pm p at_ n) (hc : Chg M w w') (hn : ¬ M pm) : MapO w' pm p at_ n := (hc.block pm (lt_of_heap h) hn).trans h

/-- A read that goes well. -/
def WReadOk (w : World) (p q : Nat) (S : WalS) (F : Nat → Prop) (b : Bytes) (e : Ending) (w' : World) : Prop :=
  ∃ v g j, e = .returned (.tuple #[v, .int .i64 0]) ∧ Dat 5 w' (· = g) v b ∧ w.heap.size ≤ g ∧ StoreAt Try.prog w' p q (S.cnt j) F ∧ Chg F w w'

theorem wread_ok (h : StoreAt Try.prog w p q S F) {i : Int} {k : Nat} (hi : i = (k : Int)) (hd : S.isDead = false) (hk : k < S.size) : Calls Try.prog 45 #[Dptr p, .int .i64 i] w (WReadOk w p q S F (S.get k)) := by
  subst hi
  have hw := WalS.wrong_ok hd hk
  refine (wread_any h (k : Int)).mono ?_
  rintro e w' (⟨h1, _⟩ | ⟨_, v, g, rfl, h2, h3, h4, h5⟩)
  · exact absurd hw h1
  · obtain ⟨j, hj⟩ := S.asked_cnt k
    rw [Int.toNat_natCast] at h2 h4
    rw [hj] at h4
    exact ⟨v, g, j, rfl, h2, h3, h4, h5⟩
theorem wread_dead (h : StoreAt Try.prog w p q S F) (hd : S.isDead = true) (i : Int) : Calls Try.prog 45 #[Dptr p, .int .i64 i] w fun e w' => e = .returned (.tuple #[.slice none 0 0, .int .i64 50]) ∧ w = w' := by
  have hw : S.wrong i = 50 := by unfold WalS.wrong; rw [if_pos hd]
  refine (wread_any h i).mono ?_
  rintro e w' (⟨_, h2, h3⟩ | ⟨h1, _⟩)
  · rw [hw] at h2; exact ⟨h2, h3⟩
  · rw [hw] at h1; cases h1

theorem _root_.Go.Lz.WalS.ok.get_len (h : S.ok) (hd : S.dev.ok) (k : Nat) : (S.get k).length = 64 := by
  unfold WalS.get
  cases hn : S.now k with
  | some b => exact (h.now k b hn).1
  | none =>
    cases hw : S.wait k with
    | some b => exact (h.wait k b hw).1
    | none => exact hd.now _

/-- The j-th bit of a row. -/
def _root_.Go.Lz.bitB (b : Bytes) (j : Nat) : Bool := (b.getD (j / 8) 0).toNat / 2 ^ (j % 8) % 2 == 1
/-- Item i's bit. -/
def _root_.Go.Lz.WalS.bit (S : WalS) (at_ i : Nat) : Bool := bitB (S.get (at_ + i / 512)) (i % 512)

theorem and1_u8 (y : Nat) (hy : y < 256) : bits .and .u8 (y : Int) 1 = ((y % 2 : Nat) : Int) := by
  have : ∀ z : Fin 256, bits .and .u8 ((z.val : Nat) : Int) 1 = ((z.val % 2 : Nat) : Int) := by decide +kernel
  exact this ⟨y, hy⟩
theorem and1_div (x s : Nat) (hx : x < 256) : bits .and .u8 ((x : Int) / 2 ^ s) 1 = ((x / 2 ^ s % 2 : Nat) : Int) := by
  have e : (x : Int) / 2 ^ s = ((x / 2 ^ s : Nat) : Int) := by
    rw [Int.natCast_ediv]
    congr 1
  rw [e]
  exact and1_u8 _ (Nat.lt_of_le_of_lt (Nat.div_le_self _ _) hx)

theorem natCast_beq_one (m : Nat) : (((m : Nat) : Int) == 1) = (m == 1) := by
  by_cases h : m = 1
  · subst h; rfl
  · have h' : ¬ (m : Int) = 1 := by omega
    rw [beq_eq_false_iff_ne.2 h', beq_eq_false_iff_ne.2 h]

/-- What a look at an item tells. -/
def BitPost (w : World) (p q : Nat) (S : WalS) (F : Nat → Prop) (at_ i : Nat) (e : Ending) (w' : World) : Prop :=
  ∃ j, e = .returned (.tuple #[.bool (S.bit at_ i), .int .i64 0]) ∧ StoreAt Try.prog w' p q (S.cnt j) F ∧ Chg F w w'

/-- A byte with one bit set or cleared. -/
def _root_.Go.Lz.setN (x s : Nat) (tb : Bool) : Nat := if tb then (if x / 2 ^ s % 2 = 1 then x else x + 2 ^ s) else (if x / 2 ^ s % 2 = 1 then x - 2 ^ s else x)
/-- A row with its j-th bit set or cleared. -/
def _root_.Go.Lz.setB (b : Bytes) (j : Nat) (tb : Bool) : Bytes := b.set (j / 8) (UInt8.ofNat (setN (b.getD (j / 8) 0).toNat (j % 8) tb))
@[simp] theorem _root_.Go.Lz.setB_length (b : Bytes) (j : Nat) (tb : Bool) : (setB b j tb).length = b.length := by simp [setB]

theorem setN_bits (x s : Nat) (hx : x < 256) (hs : s < 8) (tb : Bool) :
    bits .or .u8 (bits .andNot .u8 (x : Int) (2 ^ s % 256)) ((if tb then 1 else 0) * 2 ^ s % 256) = ((setN x s tb : Nat) : Int) ∧ setN x s tb < 256 := by
  have : ∀ (z : Fin 256) (r : Fin 8) (c : Bool), bits .or .u8 (bits .andNot .u8 ((z.val : Nat) : Int) (2 ^ r.val % 256)) ((if c then 1 else 0) * 2 ^ r.val % 256) = ((setN z.val r.val c : Nat) : Int) ∧ setN z.val r.val c < 256 := by decide +kernel
  exact this ⟨x, hx⟩ ⟨s, hs⟩ tb
theorem setN_same (x s : Nat) (hx : x < 256) (hs : s < 8) (tb : Bool) : (setN x s tb / 2 ^ s % 2 == 1) = tb := by
  have : ∀ (z : Fin 256) (r : Fin 8) (c : Bool), (setN z.val r.val c / 2 ^ r.val % 2 == 1) = c := by decide +kernel
  exact this ⟨x, hx⟩ ⟨s, hs⟩ tb
theorem setN_other (x s s' : Nat) (hx : x < 256) (hs : s < 8) (hs' : s' < 8) (hne : s' ≠ s) (tb : Bool) : setN x s tb / 2 ^ s' % 2 = x / 2 ^ s' % 2 := by
  have : ∀ (z : Fin 256) (r r' : Fin 8) (c : Bool), r' ≠ r → setN z.val r.val c / 2 ^ r'.val % 2 = z.val / 2 ^ r'.val % 2 := by decide +kernel
  exact this ⟨x, hx⟩ ⟨s, hs⟩ ⟨s', hs'⟩ tb (fun e => hne (congrArg Fin.val e))

theorem _root_.Go.Lz.bitB_set_same {b : Bytes} {j : Nat} (hj : j / 8 < b.length) (tb : Bool) : bitB (setB b j tb) j = tb := by
  unfold bitB setB
  have hlt := (setN_bits (b.getD (j / 8) 0).toNat (j % 8) (UInt8.toNat_lt _) (by omega) tb).2
  rw [List.getD_eq_getElem?_getD, List.getElem?_set_self hj, Option.getD_some, UInt8.toNat_ofNat', Nat.mod_eq_of_lt (show setN (b.getD (j / 8) 0).toNat (j % 8) tb < 2 ^ 8 from hlt)]
  exact setN_same _ _ (UInt8.toNat_lt _) (Nat.mod_lt _ (by decide)) tb
theorem _root_.Go.Lz.bitB_set_other {b : Bytes} {j j' : Nat} (hj : j / 8 < b.length) (hne : j' ≠ j) (tb : Bool) : bitB (setB b j tb) j' = bitB b j' := by
  unfold bitB setB
  by_cases e : j' / 8 = j / 8
  · have hlt := (setN_bits (b.getD (j / 8) 0).toNat (j % 8) (UInt8.toNat_lt _) (by omega) tb).2
    rw [e, List.getD_eq_getElem?_getD, List.getElem?_set_self hj, Option.getD_some, UInt8.toNat_ofNat', Nat.mod_eq_of_lt (show setN (b.getD (j / 8) 0).toNat (j % 8) tb < 2 ^ 8 from hlt)]
    rw [setN_other (b.getD (j / 8) 0).toNat (j % 8) (j' % 8) (UInt8.toNat_lt _) (Nat.mod_lt _ (by decide)) (Nat.mod_lt _ (by decide)) (by omega) tb]
  · rw [List.getD_eq_getElem?_getD, List.getElem?_set_ne (fun h => e h.symm), ← List.getD_eq_getElem?_getD]

theorem _root_.Go.Lz.Dat.setByte {t : TypeId} {w : World} {g : Nat} {v : Value} {b : Bytes} (h : Dat t w (· = g) v b) {k : Nat} (hk : k < b.length) (c : UInt8) : Dat t (w.setCell ⟨g, k, none⟩ (u8v c)) (· = g) v (b.set k c) := by
  obtain ⟨g', cap, cur, h1, h2, h3, h4, h5, h6, h7⟩ := h
  have h2 : g' = g := h2
  subst h2
  refine ⟨g', cap, _, by rw [List.length_set]; exact h1, rfl, heap_set_same h3 k _, by rw [List.length_set]; exact h4, h5, by simpa using h6, ?_⟩
  rw [List.length_set, Array.toList_setIfInBounds, List.map_set, ← h7]
  apply List.ext_getElem?
  intro i
  simp only [List.getElem?_take, List.getElem?_set, List.length_take]
  by_cases e : k = i
  · subst e
    have hkc : k < cur.size := by omega
    simp [hk, hkc]
    omega
  · rw [if_neg e, if_neg e]

theorem _root_.Go.Lz.WalS.cnt_wrong (S : WalS) (j : Nat) (i : Int) : (S.cnt j).wrong i = S.wrong i := by
  unfold WalS.wrong
  rw [WalS.cnt_isDead, WalS.cnt_size]
theorem _root_.Go.Lz.WalS.cnt_nowN (S : WalS) (j : Nat) : (S.cnt j).nowN = S.nowN := by
  unfold WalS.nowN
  rw [WalS.cnt_size]
  rfl
theorem _root_.Go.Lz.WalS.cnt_write (S : WalS) (j : Nat) (i : Int) (b : Bytes) : (S.cnt j).write i b = ((S.write i b).1, (S.write i b).2.cnt j) := by
  unfold WalS.write
  rw [WalS.cnt_wrong, WalS.cnt_nowN]
  have e : (S.cnt j).now = S.now := rfl
  rw [e]
  split
  · rfl
  · split
    · rfl
    · split <;> rfl

set_option maxRecDepth 100000 in
set_option maxHeartbeats 1000000 in
theorem bit_ok (hM : MapO w pm p at_ n) (h : StoreAt Try.prog w p q S F) (hd : S.isDead = false) {i : Nat} (hi : at_ + i / 512 < S.size) (hi2 : i < 8192) : Calls Try.prog 83 #[Dptr pm, .int .i64 (i : Int)] w (BitPost w p q S F at_ i) := by
  have c0 : w.cell? ⟨pm, 0, none⟩ = some (Dptr p) := cell_of hM 0
  have c1 : w.cell? ⟨pm, 1, none⟩ = some (.int .i64 (at_ : Int)) := cell_of hM 1
  have hsz : S.size ≤ 8192 := by
    have := h.dev.ok.n
    unfold WalS.size
    omega
  have hD := (h.below (Below.refl _ w).drew)
  have cr := wread_ok hD (i := IntKind.i64.wrap ((at_ : Int) + IntKind.i64.wrap ((i : Int) / 512))) (k := at_ + i / 512) (by rw [IntKind.wrap_i64, IntKind.wrap_i64]; omega) hd hi
  have hlen : (S.get (at_ + i / 512)).length = 64 := h.ok.get_len h.dev.ok _
  go_enter Try.func83, Try.ntmps83
  go_upto_region 1 with fail
  go_cut [4, 6, 7, 8] from 9 to 25 (fun _ v e _ wx => ∃ g j, e = .int .i64 0 ∧ Dat 5 wx (· = g) v (S.get (at_ + i / 512)) ∧ w.heap.size ≤ g ∧ StoreAt Try.prog wx p q (S.cnt j) F ∧ Chg F w wx)
  case first =>
    go_region_with ((go_at_call 45; refine cr.mono ?_; rintro e w3 ⟨v3, g3, j3, rfl, hv3, hg3, hS3, hC3⟩))
    all_goals
      go_wp2_with fail
      go_meet
      case rel => exact ⟨g3, j3, rfl, hv3, by simpa using hg3, hS3, (Chg.refl _ w).drew.trans hC3 (fun _ _ h => h)⟩
  case rest =>
    obtain ⟨g, j, rfl, hv, hg, hS, hC⟩ := hcut
    obtain ⟨gg, cap, cur, rfl, rfl, k1, k2, k3, k4, k5⟩ := id hv
    have hk64 : i % 512 / 8 < (S.get (at_ + i / 512)).length := by rw [hlen]; omega
    obtain ⟨x, hx⟩ : ∃ x, x = (S.get (at_ + i / 512)).getD (i % 512 / 8) 0 := ⟨_, rfl⟩
    have cx : wc.cell? ⟨gg, i % 512 / 8, none⟩ = some (.int .u8 (x.toNat : Int)) := by
      obtain ⟨g', hg', hb⟩ := hv.buf
      obtain rfl : g' = gg := hg'
      have := hb.cells (i % 512 / 8) (u8v x) (by rw [hx]; simp [List.getD, hk64])
      exact this
    have hx256 := x.toNat_lt
    have hxH : Hid _ := Lib.hid hx
    rw [hlen] at k2 ⊢
    obtain ⟨xn, hxn⟩ : ∃ xn, xn = x.toNat := ⟨_, rfl⟩
    rw [← hxn] at cx hx256
    clear hx hk64 hv k5
    have hbit : S.bit at_ i = (xn / 2 ^ (i % 8) % 2 == 1) := by
      unfold WalS.bit bitB
      rw [show i % 512 % 8 = i % 8 from by omega, ← hxH.out, ← hxn]
    clear hxn
    have hb := and1_div xn (i % 8) hx256
    have hbH : Hid _ := Lib.hid hb
    have hbitH : Hid _ := Lib.hid hbit
    clear hb hbit
    go_wp2_with fail
    go_ret2
    refine ⟨j, ?_, hS, hC⟩
    rw [hbitH.out]
    show Ending.returned (.tuple #[.bool (bits .and .u8 ((xn : Int) / 2 ^ (i % 8)) 1 == 1), .int .i64 0]) = _
    rw [hbH.out]
    rw [natCast_beq_one]

/-- The write that sets an item's bit. -/
def _root_.Go.Lz.WalS.setBit (S : WalS) (at_ i : Nat) (tb : Bool) : Int × WalS := S.write ((at_ + i / 512 : Nat) : Int) (setB (S.get (at_ + i / 512)) (i % 512) tb)
def SetPost (w : World) (p q : Nat) (S : WalS) (F : Nat → Prop) (at_ i : Nat) (tb : Bool) (e : Ending) (w' : World) : Prop :=
  ∃ j, e = .returned (.int .i64 (S.setBit at_ i tb).1) ∧ StoreAt Try.prog w' p q ((S.setBit at_ i tb).2.cnt j) (ext F w w') ∧ Chg F w w'

set_option maxRecDepth 100000 in
set_option maxHeartbeats 1000000 in
theorem set_ok (hM : MapO w pm p at_ n) (hpm : ¬ F pm) (h : StoreAt Try.prog w p q S F) (hd : S.isDead = false) {i : Nat} (hi : at_ + i / 512 < S.size) (hi2 : i < 8192) (tb : Bool) : Calls Try.prog 82 #[Dptr pm, .int .i64 (i : Int), .int .u8 (if tb then 1 else 0)] w (SetPost w p q S F at_ i tb) := by
  have c0 : w.cell? ⟨pm, 0, none⟩ = some (Dptr p) := cell_of hM 0
  have c1 : w.cell? ⟨pm, 1, none⟩ = some (.int .i64 (at_ : Int)) := cell_of hM 1
  have hsz : S.size ≤ 8192 := by
    have := h.dev.ok.n
    unfold WalS.size
    omega
  have hpl := lt_of_heap hM
  have hD := (h.below (Below.refl _ w).drew)
  have cr := wread_ok hD (i := IntKind.i64.wrap ((at_ : Int) + IntKind.i64.wrap ((i : Int) / 512))) (k := at_ + i / 512) (by rw [IntKind.wrap_i64, IntKind.wrap_i64]; omega) hd hi
  have hlen : (S.get (at_ + i / 512)).length = 64 := h.ok.get_len h.dev.ok _
  have hidx : Hid (IntKind.i64.wrap ((at_ : Int) + IntKind.i64.wrap ((i : Int) / 512)) = ((at_ + i / 512 : Nat) : Int)) := by
    show IntKind.i64.wrap ((at_ : Int) + IntKind.i64.wrap ((i : Int) / 512)) = ((at_ + i / 512 : Nat) : Int)
    rw [IntKind.wrap_i64, IntKind.wrap_i64]
    omega
  obtain ⟨t, ht⟩ : ∃ t : Int, t = if tb then 1 else 0 := ⟨_, rfl⟩
  have ht2 : 0 ≤ t ∧ t ≤ 1 := by rw [ht]; split <;> omega
  have htH : Hid _ := Lib.hid ht
  rw [← ht]
  clear ht
  go_enter Try.func82, Try.ntmps82
  go_upto_region 1 with fail
  go_cut [6, 7, 8, 10] from 11 to 24 (fun _ v e _ wx => ∃ g j, e = .int .i64 0 ∧ Dat 5 wx (· = g) v (S.get (at_ + i / 512)) ∧ w.heap.size ≤ g ∧ StoreAt Try.prog wx p q (S.cnt j) F ∧ Chg F w wx)
  case first =>
    go_region_with ((go_at_call 45; refine cr.mono ?_; rintro e w3 ⟨v3, g3, j3, rfl, hv3, hg3, hS3, hC3⟩))
    all_goals
      go_wp2_with fail
      go_meet
      case rel => exact ⟨g3, j3, rfl, hv3, by simpa using hg3, hS3, (Chg.refl _ w).drew.trans hC3 (fun _ _ h => h)⟩
  case rest =>
    obtain ⟨g, j, rfl, hv, hg, hS, hC⟩ := hcut
    obtain ⟨gg, cap, cur, rfl, rfl, k1, k2, k3, k4, k5⟩ := id hv
    have hk64 : i % 512 / 8 < (S.get (at_ + i / 512)).length := by rw [hlen]; omega
    obtain ⟨x, hx⟩ : ∃ x, x = (S.get (at_ + i / 512)).getD (i % 512 / 8) 0 := ⟨_, rfl⟩
    have cx : wc.cell? ⟨gg, i % 512 / 8, none⟩ = some (.int .u8 (x.toNat : Int)) := by
      obtain ⟨g', hg', hb⟩ := hv.buf
      obtain rfl : g' = gg := hg'
      have := hb.cells (i % 512 / 8) (u8v x) (by rw [hx]; simp [List.getD, hk64])
      exact this
    have fx : wc.frozen? ⟨gg, i % 512 / 8, none⟩ = false := frozen_of k1 _
    have hx256 := x.toNat_lt
    have hxH : Hid _ := Lib.hid hx
    rw [hlen] at k2 ⊢
    obtain ⟨xn, hxn⟩ : ∃ xn, xn = x.toNat := ⟨_, rfl⟩
    rw [← hxn] at cx hx256
    have hxnH : Hid _ := Lib.hid hxn
    clear hx hk64 hxn
    go_upto_region 5 with fail
    obtain ⟨Y, hY⟩ : ∃ Y : UInt8, Y = UInt8.ofNat (setN xn (i % 8) tb) := ⟨_, rfl⟩
    have hYv : u8v Y = .int .u8 (bits .or .u8 (bits .andNot .u8 (xn : Int) (2 ^ (i % 8) % 256)) (t * 2 ^ (i % 8) % 256)) := by
      obtain ⟨h1, h2⟩ := setN_bits xn (i % 8) hx256 (by omega) tb
      rw [htH.out, h1, hY]
      unfold u8v
      rw [UInt8.toNat_ofNat', Nat.mod_eq_of_lt (by simpa using h2)]
    have hYb : (S.get (at_ + i / 512)).set (i % 512 / 8) Y = setB (S.get (at_ + i / 512)) (i % 512) tb := by
      unfold setB
      rw [hY, hxnH.out, hxH.out, show i % 512 % 8 = i % 8 from by omega]
    have hYvH : Hid _ := Lib.hid hYv
    have hYbH : Hid _ := Lib.hid hYb
    clear hY hYv hYb
    go_cut [] from 31 to 46 (fun wx => wx = (wc.setCell ⟨gg, i % 512 / 8, none⟩ (u8v Y)).drew)
    case first =>
      go_region
      all_goals
        go_wp2_with fail
        go_meet
        case rel => rw [hYvH.out]
    case rest =>
      subst hcut
      have hdat := (hv.setByte (k := i % 512 / 8) (by rw [hlen]; omega) Y)
      rw [hYbH.out] at hdat
      have hCg : Chg (· = gg) wc (wc.setCell ⟨gg, i % 512 / 8, none⟩ (u8v Y)) := (Chg.refl _ wc).own _ _
      have hgF : ∀ k, F k → ¬ k = gg := fun k hk e => by have := h.lt k hk; omega
      have hS2 := hS.chg hCg hgF
      have hs1 := hC.size
      have hC2 : Chg F w (wc.setCell ⟨gg, i % 512 / 8, none⟩ (u8v Y)) := hC.trans hCg (fun k hk e => by omega)
      have hM2 := hM.chg hC2 hpm
      generalize wc.setCell ⟨gg, i % 512 / 8, none⟩ (u8v Y) = W2 at hdat hS2 hC2 hM2 ⊢
      have d0 : W2.cell? ⟨pm, 0, none⟩ = some (Dptr p) := cell_of hM2 0
      have d1 : W2.cell? ⟨pm, 1, none⟩ = some (.int .i64 (at_ : Int)) := cell_of hM2 1
      have hS3 := hS2.below ((Below.refl _ W2).drew.drew)
      have hdat3 : Dat 5 W2.drew.drew (· = gg) (.slice (some ⟨gg, 0, none⟩) 64 cap) (setB (S.get (at_ + i / 512)) (i % 512) tb) := by
        have := hdat.chg (M := fun _ => False) ((Chg.refl _ W2).drew.drew) (fun _ _ h => h)
        rwa [hlen] at this
      have cw := wwrite_any hS3 hdat3.src (IntKind.i64.wrap ((at_ : Int) + IntKind.i64.wrap ((i : Int) / 512)))
      have hwe : (S.cnt j).write (IntKind.i64.wrap ((at_ : Int) + IntKind.i64.wrap ((i : Int) / 512))) (setB (S.get (at_ + i / 512)) (i % 512) tb) = ((S.setBit at_ i tb).1, (S.setBit at_ i tb).2.cnt j) := by
        rw [hidx.out, WalS.cnt_write]
        rfl
      rw [hwe] at cw
      clear hwe hdat hdat3 hS hS2 hv
      go_upto_region 6 with fail
      go_region_with ((go_at_call 40; refine cw.mono ?_; rintro e w3 ⟨rfl, hS4, hC4⟩))
      all_goals
        have hs2 := hC2.size
        go_wp2_with fail
        go_ret
        refine ⟨j, rfl, hS4.mono (fun k hk => ?_) (fun k hk => ?_), hC2.trans ((Chg.refl _ W2).drew.drew.trans hC4 (fun _ _ h => h)) (fun _ _ h => h)⟩
        · rcases hk with hk | hk
          · exact .inl hk
          · exact .inr ⟨Nat.le_trans hs2 hk.1, hk.2⟩
        · rcases hk with hk | hk
          · have h9 : W2.heap.size ≤ w3.heap.size := hC4.size
            have := h.lt k hk
            omega
          · exact hk.2
end
end Go.Proofs.Ytbnoebdpbpjbkaa
