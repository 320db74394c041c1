/-
  WalPlays, walked: it answers true at every script.
-/
import Derived.Test.YtbnoebdpbpjbkaaLaw4d
import Derived.Test.YtbnoebdpbpjbkaaLaw1f
import Derived.Test.YtbnoebdpbpjbkaaDeadW
import Derived.Test.YtbnoebdpbpjbkaaBits
import Derived.Test.YtbnoebdpbpjbkaaOps
import Derived.Test.YtbnoebdpbpjbkaaLongW
import Derived.Deep.CutBlock
namespace Go.Lz
open Go.RowKit

theorem storL_congr {L L' : Nat → Bytes} {n : Nat} (h : ∀ k, k < n + 300 → L k = L' k) (hn : 0 < n) : numL L = numL L' ∧ (∀ i, i ≤ 256 → logFL L n i = logFL L' n i) ∧ ∀ k, k < n → storL L n k = storL L' n k := by
  have h1 : numL L = numL L' := numL_congr (h 0 (by omega))
  have h2 : ∀ i, i ≤ 256 → logFL L n i = logFL L' n i := fun i hi => logFL_congr (fun j _ hj => h j (by omega)) n hi
  refine ⟨h1, h2, fun k hk => ?_⟩
  unfold storL
  rw [h1, h2 _ (numL_le _), h (300 + k) (by omega)]
theorem Reads.congr {L L' : Nat → Bytes} {n : Nat} {g : Nat → Bytes} (h : Reads L n g) (hn : 0 < n) (hL : ∀ k, k < n + 300 → L' k = L k) : Reads L' n g := by
  obtain ⟨h1, h2, h3⟩ := storL_congr hL hn
  refine ⟨fun e => ?_, fun k hk => (h3 k hk).trans (h.2 k hk)⟩
  rw [h1] at e ⊢
  rw [h2 _ (numL_le _)] at e
  exact h.1 e

/-- A store carried to a new device. -/
theorem Reads.carried {D : DevS} {g : Nat → Bytes} (hok : D.ok) (hn : 300 < D.n) (hw : ∀ k, D.wait k = none) (h : Reads D.last (D.n - 300) g) (c : Int) (hh : Nat → Nat → Bytes) (h0 : ∀ k, k < D.n - 300 → hh 0 k = g k) :
    (D.carried c).opened.1 = 0 ∧ Rec (WalS.new (D.carried c).opened.2) (D.n - 300) 0 0 hh ∧ Well (WalS.new (D.carried c).opened.2).dev := by
  have hw' : Well (D.carried c) := ⟨rfl, rfl⟩
  have hr : Reads (D.carried c).last ((D.carried c).n - 300) g := h.congr (by omega) (fun k hk => by
    show (if k < D.n then D.now k else zero64) = D.last k
    rw [if_pos (by omega), DevS.now_still hw])
  rcases Rec.opened (D := D.carried c) (h := hh) (DevS.carried_ok hok c) hn rfl (fun _ => rfl) hr h0 with ⟨o1, o2, o3⟩ | ⟨_, _, _, _, _, h6⟩
  · exact ⟨o1, o2, o3 hw'⟩
  · exact absurd hw' h6

/-- Between two calls of WalPlays: now of the kinds f, committed of the kinds g (below sixteen). -/
structure PlaysP (S : WalS) (f g : Nat → Int) (c : Nat) : Prop where
  ex : ∃ h d, Rec S 40 c d h ∧ (∀ k, k < 16 → over S.now (h c) k = wantB (f k)) ∧ (∀ k, k < 16 → h c k = wantB (g k))
  well : Well S.dev

section
variable {S : WalS} {f g : Nat → Int} {c : Nat}
theorem PlaysP.wrong (P : PlaysP S f g c) {i : Int} (h0 : 0 ≤ i) (h1 : i < 40) : S.wrong i = 0 := by
  obtain ⟨h, d, r, _⟩ := P.ex
  obtain ⟨g0, hl, _⟩ := r.ex
  exact hl.wrong h0 (by rw [r.size]; omega)
theorem PlaysP.wrong1 (P : PlaysP S f g c) {i : Int} (h : i < 0 ∨ 40 ≤ i) : S.wrong i = 1 := by
  obtain ⟨_, d, r, _⟩ := P.ex
  obtain ⟨g0, hl, _⟩ := r.ex
  exact hl.wrong_arg (by rw [r.size]; omega)
theorem PlaysP.write (P : PlaysP S f g c) {k : Nat} {x : Int} (hk : k < 40) (hx : 0 < x) :
    ∃ S', S.write (k : Int) (bytesOf x 64) = (0, S') ∧ PlaysP S' (if k < 16 then upd f k x else f) g c := by
  obtain ⟨h, d, r, h1, h2⟩ := P.ex
  obtain ⟨g0, hl, _⟩ := r.ex
  have hsupp : ∀ j, (S.now j).isSome = true → j < 40 := fun j hj => by have := hl.ok.nowB j hj; rw [r.size] at this; exact this
  obtain ⟨e1, r1⟩ := r.write (k := k) (b := bytesOf x 64) hk (bytesOf_length _ _) (.inr (Nat.lt_of_le_of_lt (keysF_supp hsupp 40) (by omega)))
  refine ⟨_, e1, ⟨h, d, r1, fun j hj => ?_, h2⟩, P.well⟩
  show (upd S.now k (some (bytesOf x 64)) j).getD (h c j) = _
  by_cases e : j = k
  · subst e
    rw [upd_same, if_pos hj, upd_same]
    unfold wantB
    rw [if_pos hx]
    rfl
  · rw [upd_other _ e]
    have : (if k < 16 then upd f k x else f) j = f j := by
      split
      · rw [upd_other _ e]
      · rfl
    rw [this]
    exact h1 j hj
theorem PlaysP.write1 (P : PlaysP S f g c) {i : Int} {b : Bytes} (h : i < 0 ∨ 40 ≤ i ∨ b.length ≠ 64) : S.write i b = (1, S) := by
  obtain ⟨_, d, r, _⟩ := P.ex
  obtain ⟨g0, hl, _⟩ := r.ex
  exact hl.write_arg (by rw [r.size]; omega)
theorem PlaysP.commit (P : PlaysP S f g c) (hc : c < 1000) : ∃ S', S.commit = (0, S') ∧ PlaysP S' f f (c + 1) := by
  obtain ⟨h, d, r, h1, h2⟩ := P.ex
  rcases r.commit (by omega) (fun j => if j ≤ c then h j else over S.now (h c)) (fun j hj => if_pos hj) (fun k _ => congrFun (if_neg (by omega)) k) with ⟨e2, ⟨d2, hd2, r2⟩, n2, w2⟩ | ⟨_, _, _, _, _, _, _, _, hx⟩
  · have hnew : ∀ k, k < 16 → (if c + 1 ≤ c then h (c + 1) else over S.now (h c)) k = wantB (f k) := fun k hk => by rw [if_neg (by omega)]; exact h1 k hk
    exact ⟨_, Prod.ext e2 rfl, ⟨_, d2, r2, fun k hk => by rw [n2]; exact hnew k hk, hnew⟩, w2 P.well⟩
  · exact absurd P.well hx
theorem PlaysP.aborted (P : PlaysP S f g c) : PlaysP S.aborted g g c := by
  obtain ⟨h, d, r, h1, h2⟩ := P.ex
  exact ⟨⟨h, d, r.aborted, h2, h2⟩, P.well⟩
theorem PlaysP.sync (P : PlaysP S f g c) : ∃ S', S.sync = (0, S') ∧ PlaysP S' f g c ∧ S'.lasting = (c : Int) := by
  obtain ⟨h, d, r, h1, h2⟩ := P.ex
  rcases r.sync with ⟨e3, r3, n3, l3, _, w3⟩ | ⟨_, _, _, _, _, _, _, _, hx⟩
  · exact ⟨_, Prod.ext e3 rfl, ⟨⟨h, c, r3, fun k hk => by rw [n3]; exact h1 k hk, h2⟩, w3 P.well⟩, l3⟩
  · exact absurd P.well hx
/-- Synced; power fails; carried; opened. -/
theorem PlaysP.again (P : PlaysP S f g c) : ∃ S', S.sync = (0, S') ∧ 300 < S'.dev.n ∧ ∀ (flip : Bool) (l : List Int) (cc : Int),
    ((S'.dev.crashed flip l).carried cc).opened.1 = 0 ∧ PlaysP (WalS.new ((S'.dev.crashed flip l).carried cc).opened.2) g g 0 := by
  obtain ⟨h, d, r, h1, h2⟩ := P.ex
  rcases r.sync with ⟨e3, r3, n3, l3, _, w3⟩ | ⟨_, _, _, _, _, _, _, _, hx⟩
  · obtain ⟨g0, hl, hg, _⟩ := r3.ex
    have hn : S.sync.2.dev.n - 300 = 40 := r3.size
    refine ⟨_, Prod.ext e3 rfl, hl.ok.n, fun flip l cc => ?_⟩
    obtain ⟨o, r5, w5⟩ := Reads.carried (D := S.sync.2.dev.crashed flip l) (g := g0) (hl.dok.crashed flip l) hl.ok.n (fun _ => rfl) (hl.quiet.dur.crashed flip l) cc (fun _ => h c) (fun k hk => (hg k (show k < 40 from hn ▸ hk)).symm)
    have hsz : (S.sync.2.dev.crashed flip l).n - 300 = 40 := hn
    rw [hsz] at r5
    exact ⟨o, ⟨_, 0, r5, h2, h2⟩, w5⟩
  · exact absurd P.well hx
theorem PlaysP.cnt (P : PlaysP S f g c) (j : Nat) : PlaysP (S.cnt j) f g c := by
  obtain ⟨h, d, r, h1, h2⟩ := P.ex
  refine ⟨⟨h, d, r.cnt j, h1, h2⟩, ?_⟩
  exact P.well.countedN j
theorem PlaysP.tells (P : PlaysP S f g c) : tellsB S f = true := by
  obtain ⟨h, d, r, h1, h2⟩ := P.ex
  refine tellsB_iff.2 fun i hi => ?_
  rw [r.get (by omega)]
  exact h1 i hi
theorem PlaysP.get_len (P : PlaysP S f g c) (k : Nat) : (S.get k).length = 64 := by
  obtain ⟨h, d, r, _⟩ := P.ex
  obtain ⟨g0, hl, _⟩ := r.ex
  unfold WalS.get
  cases hn : S.now k with
  | some b => exact (hl.ok.now k b hn).1
  | none =>
    cases hw : S.wait k with
    | some b => exact (hl.ok.wait k b hw).1
    | none => exact hl.dok.now _
theorem PlaysP.facts (P : PlaysP S f g c) : S.all = (c : Int) ∧ S.lasting ≤ (c : Int) ∧ S.isDead = false ∧ 16 ≤ S.size := by
  obtain ⟨h, d, r, h1, h2⟩ := P.ex
  obtain ⟨g0, hl, _⟩ := r.ex
  have := r.last
  have := r.le
  exact ⟨r.all, by omega, hl.isDead, by rw [r.size]; omega⟩
end
end Go.Lz
namespace Go.Proofs.Ytbnoebdpbpjbkaa
open Go.RowKit Go.Lz

/-- A device carried: the new one stands for the old one. -/
theorem carried1 {w0 w : World} {q : Nat} {D : DevS} {L : Locals} (h : Own w0 w (TDev q D) L) (hd : D.dead = false) : Calls Try.prog 49 #[Dptr q] w fun e w' => ∃ x c, Did w0 w (TDev x (D.carried c)) L (Dptr x) e w' := by
  obtain ⟨F, hD, hF, hgo⟩ := h.step
  refine (carried_any hD hd).mono ?_
  rintro e w' ⟨x, c, Fx, rfl, hX, hFx, hQ, hC⟩
  exact ⟨x, c, rfl, hgo (T' := TDev x (D.carried c)) (DevAt.mono hX (fun k hk => .inr ⟨hFx k hk, hX.lt k hk⟩) (fun k hk => hk.elim (fun h => Nat.lt_of_lt_of_le (hF k h).2 hC.size) (·.2))) hC, hC.size⟩

theorem arr16 (f : Nat → Int) : arrOf 16 f = #[.int .i64 (f 0), .int .i64 (f 1), .int .i64 (f 2), .int .i64 (f 3), .int .i64 (f 4), .int .i64 (f 5), .int .i64 (f 6), .int .i64 (f 7), .int .i64 (f 8), .int .i64 (f 9), .int .i64 (f 10), .int .i64 (f 11), .int .i64 (f 12), .int .i64 (f 13), .int .i64 (f 14), .int .i64 (f 15)] := rfl

/-- The first n cells are bytes. -/
def U8s (n : Nat) (cur : Array Value) : Prop := ∀ i, i < n → ∃ y : Int, cur[i]? = some (.int .u8 y)
theorem U8s.set {n : Nat} {cur : Array Value} (h : U8s n cur) (k : Nat) (y : Int) : U8s n (cur.setIfInBounds k (.int .u8 y)) := by
  intro i hi
  obtain ⟨z, hz⟩ := h i hi
  have hl := (Array.getElem?_eq_some_iff.1 hz).1
  rw [Array.getElem?_setIfInBounds]
  split
  · exact ⟨y, by simp; omega⟩
  · exact ⟨z, hz⟩
theorem U8s.of {cur : Array Value} {b : Bytes} (h : cur.toList.take b.length = b.map u8v) : U8s b.length cur := by
  intro i hi
  have e : (cur.toList.take b.length)[i]? = (b.map u8v)[i]? := by rw [h]
  rw [List.getElem?_take, if_pos hi, List.getElem?_map, List.getElem?_eq_getElem hi] at e
  exact ⟨_, by rw [← Array.getElem?_toList]; exact e⟩
theorem U8s.le {n m : Nat} {cur : Array Value} (h : U8s n cur) (hm : m ≤ n) : U8s m cur := fun i hi => h i (by omega)
theorem frozen_at {w : World} {g : Nat} {cs : Array Value} {t : TypeId} {fr : Nat × Nat} (h : w.heap[g]? = some (.cells cs t fr)) {i : Nat} (hi : (fr.1 ≤ i && i < fr.2) = false) : w.frozen? ⟨g, i, none⟩ = false := by
  simp [World.frozen?, h]
  simpa using hi
theorem _root_.Go.Lz.Own.bump {w0 w : World} {T : World → (Nat → Prop) → Prop} {L : Locals} {g : Nat} {cur : Array Value} {t : TypeId} {fr : Nat × Nat} (h : Own w0 w T (upd L g (some (.cells cur t fr)))) (hk : Keeps T) (k : Nat) (y : Value) :
    Own w0 (w.setCell ⟨g, k, none⟩ y) T (upd L g (some (.cells (cur.setIfInBounds k y) t fr))) := by
  have := h.set hk (upd_same _ _ _) ((Chg.refl (· = g) w).own k y) (heap_set_same (h.loc (upd_same _ _ _)) k y)
  rwa [upd_upd] at this
theorem _root_.Go.Lz.Buf.take {t : TypeId} {w : World} {g n cap : Nat} {b : Bytes} (h : Buf t w g (.slice (some ⟨g, 0, none⟩) n cap) b) {k : Nat} (hk : k ≤ b.length) : Buf t w g (.slice (some ⟨g, 0, none⟩) k cap) (b.take k) := by
  obtain ⟨cap', cur, fr, he, h1, h2, h3, h4, h5, h6⟩ := h
  injection he with _ e2 e3
  subst e3
  refine ⟨cap, cur, fr, by rw [List.length_take, Nat.min_eq_left hk], h1, by rw [List.length_take]; omega, h3, h4, ?_, fun i hi => h6 i (by rw [List.length_take] at hi; omega)⟩
  rw [List.length_take, Nat.min_eq_left hk, List.map_take, ← h5, List.take_take, Nat.min_eq_left hk]

/-- A local array is written whole. -/
theorem setArr {w0 w : World} {T : World → (Nat → Prop) → Prop} {L : Locals} {b n : Nat} {t : TypeId} {g : Nat → Int} (h : Own w0 w T L) (hk : Keeps T) (hb : L b = some (.cells (arrOf n g) t)) (f : Nat → Int) : Own w0 (w.setRow b (arrOf n f)) T (upd L b (some (.cells (arrOf n f) t))) :=
  h.set hk hb ((Chg.refl (· = b) w).ownRow _) (setRow_heap w b _ _ _ _ (h.loc hb))

/-- The two arrays of WalPlays. -/
def arrs (A5 A6 : Nat) (f g : Nat → Int) : Locals := upd (upd noLocals A5 (some (.cells (arrOf 16 f) 81))) A6 (some (.cells (arrOf 16 g) 81))

theorem arrs_5 {A5 A6 : Nat} (h : A5 ≠ A6) (f g : Nat → Int) : arrs A5 A6 f g A5 = some (.cells (arrOf 16 f) 81) := by
  unfold arrs
  rw [upd_other _ h, upd_same]
theorem arrs_6 (A5 A6 : Nat) (f g : Nat → Int) : arrs A5 A6 f g A6 = some (.cells (arrOf 16 g) 81) := upd_same _ _ _
theorem arrs_set5 {A5 A6 : Nat} (h : A5 ≠ A6) (f g f' : Nat → Int) : upd (arrs A5 A6 f g) A5 (some (.cells (arrOf 16 f') 81)) = arrs A5 A6 f' g := by
  unfold arrs
  funext j
  by_cases e : j = A5
  · subst e
    rw [upd_same, upd_other _ h, upd_same]
  · rw [upd_other _ e]
    by_cases e2 : j = A6
    · subst e2; rw [upd_same, upd_same]
    · rw [upd_other _ e2, upd_other _ e2, upd_other _ e, upd_other _ e]
theorem arrs_set6 (A5 A6 : Nat) (f g g' : Nat → Int) : upd (arrs A5 A6 f g) A6 (some (.cells (arrOf 16 g') 81)) = arrs A5 A6 f g' := by
  unfold arrs
  funext j
  by_cases e2 : j = A6
  · subst e2; rw [upd_same, upd_same]
  · rw [upd_other _ e2, upd_other _ e2, upd_other _ e2]
theorem arrs_none {A5 A6 g : Nat} (h5 : A5 ≠ g) (h6 : A6 ≠ g) (f h : Nat → Int) : arrs A5 A6 f h g = none := by
  unfold arrs
  rw [upd_other _ (fun e => h6 e.symm), upd_other _ (fun e => h5 e.symm)]
  rfl
theorem upd_comm {α : Type} {f : Nat → α} {a b : Nat} (h : a ≠ b) (x y : α) : upd (upd f a x) b y = upd (upd f b y) a x := by
  funext j
  by_cases e : j = a
  · subst e; rw [upd_same, upd_other _ h, upd_same]
  · rw [upd_other _ e]
    by_cases e2 : j = b
    · subst e2; rw [upd_same, upd_same]
    · rw [upd_other _ e2, upd_other _ e2, upd_other _ e]

set_option maxRecDepth 100000 in
set_option maxHeartbeats 8000000 in
theorem walPlays_any {w : World} {G : Nat → Prop} {v : Value} {os : List OpR} (hv : OpsAt w G v os) :
    Calls Try.prog 12 #[v] w fun e w' => e = .returned (.bool true) ∧ Below w.heap.size w w' := by
  obtain ⟨a, n1, cp, rfl, hl, hn1, hcs⟩ := hv
  have hb15 := and15
  have hb255 := and255
  have hb63 := and63
  have hal : ∀ W : World, (Instr.alloc 81 true (.tuple #[])).run Try.prog W = .ok (.pointer (some ⟨W.heap.size, 0, none⟩)) (W.alloc (.cells (arrOf 16 (fun _ => 0)) 81)) := fun _ => by kernel_rfl
  have hP0 : PlaysP (newS 340) (fun _ => 0) (fun _ => 0) 0 := by
    obtain ⟨_, r0, w0, n0⟩ := new_rec (n := 340) (by omega) (by omega) (fun _ _ => zero64) (fun k _ => rfl)
    exact ⟨⟨_, 0, r0, fun k hk => by rw [n0]; rfl, fun k hk => rfl⟩, w0⟩
  go_enter Try.func12, Try.ntmps12
  go_wp2_with fail
  refine (lw4Open_any w 340 (by omega) (by omega)).mono ?_
  rintro e w1 ⟨p, q, rfl, hO1⟩
  generalize newS 340 = S0 at hP0 hO1
  go_wp2_with fail
  refine (awake4_any _).mono ?_
  rintro e w2 ⟨rfl, hB2⟩
  have hO2 := hO1.below (keepsStore _ _ _) hB2
  clear hO1 hB2
  go_upto_block 0 with fail
  have hz : (#[.int .i64 0, .int .i64 0, .int .i64 0, .int .i64 0, .int .i64 0, .int .i64 0, .int .i64 0, .int .i64 0, .int .i64 0, .int .i64 0, .int .i64 0, .int .i64 0, .int .i64 0, .int .i64 0, .int .i64 0, .int .i64 0] : Array Value) = arrOf 16 (fun _ => 0) := (arr16 fun _ => 0).symm
  simp only [hz]
  clear hz
  obtain ⟨A5, hA5⟩ : ∃ A5, A5 = w2.heap.size := ⟨_, rfl⟩
  have hO3 := hO2.local_ (keepsStore p q S0) ((Below.refl _ w2).alloc (Nat.le_refl _) (.cells (arrOf 16 (fun _ => 0)) 81)) (Nat.le_refl _) (heap_alloc_new w2 _)
  have hO4 := hO3.local_ (keepsStore p q S0) ((Below.refl _ _).alloc (Nat.le_refl _) (.cells (arrOf 16 (fun _ => 0)) 81)) (Nat.le_refl _) (heap_alloc_new _ _)
  simp only [World.size_alloc] at hO4
  rw [← hA5] at hO4 ⊢
  obtain ⟨W4, hW4⟩ : ∃ W4, W4 = (w2.alloc (.cells (arrOf 16 (fun _ => 0)) 81)).alloc (.cells (arrOf 16 (fun _ => 0)) 81) := ⟨_, rfl⟩
  rw [← hW4] at hO4 ⊢
  have hO5 : Own w W4 (TStore p q S0) (arrs A5 (A5 + 1) (fun _ => 0) (fun _ => 0)) := hO4
  clear hO2 hO3 hO4 hA5 hW4 hal
  go_wp2_with fail
  go_loopg [3, 4, 7, 8] 60 (fun g dv sv av iv wr => ∃ (j c p q : Nat) (S : WalS) (f h : Nat → Int), j + g = 60 ∧ dv = Dptr q ∧ sv = Dptr p ∧ av = .int .i64 (c : Int) ∧ iv = .int .i64 (j : Int) ∧ c ≤ j ∧ PlaysP S f h c ∧ Own w wr (TStore p q S) (arrs A5 (A5 + 1) f h))
  case atStart => exact ⟨0, 0, p, q, _, _, _, rfl, rfl, rfl, rfl, rfl, Nat.le_refl _, hP0, hO5⟩
  case round =>
    clear hP0 hO5
    obtain ⟨j, c, p, q, S, f, h, hjd, rfl, rfl, rfl, rfl, hcj, hP, hO⟩ := hrel
    have hjd' : Hid (j + gk = 60) := hjd
    by_cases hin : j < n1 ∧ j < 60
    · obtain ⟨hjn, hj60⟩ := hin
      rcases hcs with h0 | ⟨b, off, rfl, _, hbl, hc⟩
      · omega
      obtain ⟨o, ho⟩ : ∃ o, o = os.getD j default := ⟨_, rfl⟩
      have hop : OpAt wr G b (off + j * 6) o := by rw [ho]; exact (hc j hjn).below hbl hO.base
      obtain ⟨v5, c5w, hv5⟩ := (hc j hjn).c5
      obtain ⟨c0, c1, c2, c3, c4, _, hwf⟩ := hop
      have c5 : wr.cell? ⟨b, off + j * 6 + 5, none⟩ = some v5 := (hO.base.cell (p := ⟨b, off + j * 6 + 5, none⟩) hbl).trans c5w
      rw [← ho] at hv5
      obtain ⟨a5, n5, cap5, rfl, _⟩ := id hv5
      have hjn' : (j : Int) < (n1 : Int) := by omega
      have hj60' : (j : Int) < 60 := by omega
      have hB9 : (wr.alloc (.cells #[.int .i64 o.kind, .int .i64 o.i, .int .i64 o.a, .int .i64 o.size, .bool o.flip, .slice a5 n5 cap5] 82)).heap[wr.heap.size]? = some (.cells #[.int .i64 o.kind, .int .i64 o.i, .int .i64 o.a, .int .i64 o.size, .bool o.flip, .slice a5 n5 cap5] 82) := heap_alloc_new wr _
      have hO9 := hO.local_ (keepsStore p q S) ((Below.refl _ wr).alloc (Nat.le_refl _) _) (Nat.le_refl _) hB9
      have hA5l := hO.loc_lt (arrs_5 (by omega) f h)
      have hA6l := hO.loc_lt (arrs_6 A5 (A5 + 1) f h)
      have hL9 : arrs A5 (A5 + 1) f h wr.heap.size = none := hO.none_ (Nat.le_refl _)
      clear ho hc hjd c5w hB9
      go_upto_block 2 with fail
      clear c0 c1 c2 c3 c4 c5
      obtain ⟨B9, hB9⟩ : ∃ B9, B9 = wr.heap.size := ⟨_, rfl⟩
      obtain ⟨W9, hW9⟩ : ∃ W9, W9 = wr.alloc (.cells #[.int .i64 o.kind, .int .i64 o.i, .int .i64 o.a, .int .i64 o.size, .bool o.flip, .slice a5 n5 cap5] 82) := ⟨_, rfl⟩
      rw [← hB9] at hO9 hL9 hA5l hA6l ⊢
      rw [← hW9] at hO9 ⊢
      clear hW9 hB9
      go_cut [3, 4, 7, 10, 11, 12, 13, 14, 15, 16, 17, 18, 19, 20] from 49 to 212 (fun dv sv av _ _ _ _ _ _ _ _ _ _ _ wx => ∃ (c' p' q' : Nat) (S' : WalS) (f' h' : Nat → Int), dv = Dptr q' ∧ sv = Dptr p' ∧ av = .int .i64 (c' : Int) ∧ c' ≤ j + 1 ∧ PlaysP S' f' h' c' ∧ Own w wx (TStore p' q' S') (arrs A5 (A5 + 1) f' h'))
      case first =>
        have hA5B : A5 ≠ B9 := by omega
        have hA6B : A5 + 1 ≠ B9 := by omega
        by_cases k1 : o.kind = 1
        · as_aux_lemma =>
            have t1 : (o.kind == 1) = true := by simpa using k1
            have t0 : (o.kind == 0) = false := by simp; omega
            clear k1
            obtain ⟨S1, e1, P1⟩ := hP.commit (by omega)
            have cc := commit4 hO9
            rw [e1] at cc
            clear e1
            go_upto_region 33 with fail
            go_wp2_with fail
            refine cc.mono ?_
            rintro e wa ⟨rfl, hOa, hsa⟩
            have hOa := hOa.drop hL9
            go_upto_region 35 with fail
            go_step
            refine wpList_load_row rfl 81 _ rfl A5 rfl _ (arrOf 16 f) (0, 0) _ (hOa.loc (arrs_5 (by omega) f h)) Try.underlying81 rfl (by rw [arrOf_size]; kernel_rfl) ?_
            refine wpList_store_row rfl 81 _ _ rfl (A5 + 1) (arrOf 16 f) rfl rfl _ _ (hOa.loc (arrs_6 A5 (A5 + 1) f h)) (by rw [arrOf_size]; kernel_rfl) (by rw [arrOf_size, arrOf_size]) (arrOf_one _ _) ?_
            have hOb := setArr hOa (keepsStore _ _ _) (arrs_6 A5 (A5 + 1) f h) f
            rw [arrs_set6] at hOb
            go_wp2_with fail
            go_meet
            case rel => exact ⟨c + 1, p, q, S1, f, f, rfl, rfl, rfl, by omega, P1, hOb⟩
        by_cases k2 : o.kind = 2
        · as_aux_lemma =>
            have t2 : (o.kind == 2) = true := by simpa using k2
            have t0 : (o.kind == 0) = false := by simp; omega
            have t1 : (o.kind == 1) = false := by simp; omega
            clear k1 k2
            go_upto_region 38 with fail
            go_wp2_with fail
            refine (abort4 hO9).mono ?_
            rintro e wa ⟨rfl, hOa, hsa⟩
            have hOa := hOa.drop hL9
            go_upto_region 39 with fail
            go_step
            refine wpList_load_row rfl 81 _ rfl (A5 + 1) rfl _ (arrOf 16 h) (0, 0) _ (hOa.loc (arrs_6 A5 (A5 + 1) f h)) Try.underlying81 rfl (by rw [arrOf_size]; kernel_rfl) ?_
            refine wpList_store_row rfl 81 _ _ rfl A5 (arrOf 16 h) rfl rfl _ _ (hOa.loc (arrs_5 (by omega) f h)) (by rw [arrOf_size]; kernel_rfl) (by rw [arrOf_size, arrOf_size]) (arrOf_one _ _) ?_
            have hOb := setArr hOa (keepsStore _ _ _) (arrs_5 (by omega) f h) h
            rw [arrs_set5 (by omega)] at hOb
            go_frame
            go_wp2_with fail
            go_meet
            case rel => exact ⟨c, p, q, S.aborted, h, h, rfl, rfl, rfl, by omega, hP.aborted, hOb⟩
        by_cases k3 : o.kind = 3
        · as_aux_lemma =>
            have t3 : (o.kind == 3) = true := by simpa using k3
            have t0 : (o.kind == 0) = false := by simp; omega
            have t1 : (o.kind == 1) = false := by simp; omega
            have t2 : (o.kind == 2) = false := by simp; omega
            clear k1 k2 k3
            obtain ⟨S1, e1, P1, l1⟩ := hP.sync
            have cc := sync4 hO9
            rw [e1] at cc
            clear e1
            go_upto_region 41 with fail
            go_wp2_with fail
            refine cc.mono ?_
            rintro e wa ⟨rfl, hOa, hsa⟩
            have hOa := hOa.drop hL9
            have cm := commits4 hOa
            rw [P1.facts.1, l1] at cm
            clear l1
            go_wp2_with fail
            refine cm.mono ?_
            rintro e wb ⟨rfl, hOb, hsb⟩
            go_wp2_with fail
            go_meet
            case rel => exact ⟨c, p, q, S1, f, h, rfl, rfl, rfl, by omega, P1, hOb⟩
        by_cases k4 : o.kind = 4
        · as_aux_lemma =>
            have t4 : (o.kind == 4) = true := by simpa using k4
            have t0 : (o.kind == 0) = false := by simp; omega
            have t1 : (o.kind == 1) = false := by simp; omega
            have t2 : (o.kind == 2) = false := by simp; omega
            have t3 : (o.kind == 3) = false := by simp; omega
            clear k1 k2 k3 k4
            obtain ⟨S1, e1, hn1', hag⟩ := hP.again
            have hagH : Hid _ := Lib.hid hag
            have cc := sync4 hO9
            rw [e1] at cc
            clear e1 hag
            go_upto_region 47 with fail
            go_wp2_with fail
            refine cc.mono ?_
            rintro e wa ⟨rfl, hOa, hsa⟩
            have hBa := hOa.loc (b := B9) (upd_same _ _ _)
            have e4 := cell_of hBa 4
            have e5 := cell_of hBa 5
            have cr := crash1 (toDev hOa) o.flip hv5
            clear hBa cc
            simp only [List.getElem?_toArray, List.getElem?_cons_succ, List.getElem?_cons_zero] at e4 e5
            go_wp2_with fail
            refine cr.mono ?_
            rintro e wb ⟨rfl, hOb, hsb⟩
            go_wp2_with fail
            refine (carried1 hOb rfl).mono ?_
            rintro e wd ⟨x, cc, rfl, hOd, hsd⟩
            obtain ⟨ho4, P4⟩ := hagH.out o.flip o.l cc
            go_wp2_with fail
            refine (open1_ok hOd ho4).mono ?_
            rintro e we ⟨p4, rfl, hOe, hse⟩
            have hOe := hOe.drop hL9
            clear hOa hOb hOd cr ho4 e4 e5 hagH
            go_upto_region 57 with fail
            go_step
            refine wpList_load_row rfl 81 _ rfl (A5 + 1) rfl _ (arrOf 16 h) (0, 0) _ (hOe.loc (arrs_6 A5 (A5 + 1) f h)) Try.underlying81 rfl (by rw [arrOf_size]; kernel_rfl) ?_
            refine wpList_store_row rfl 81 _ _ rfl A5 (arrOf 16 h) rfl rfl _ _ (hOe.loc (arrs_5 (by omega) f h)) (by rw [arrOf_size]; kernel_rfl) (by rw [arrOf_size, arrOf_size]) (arrOf_one _ _) ?_
            have hOf := setArr hOe (keepsStore _ _ _) (arrs_5 (by omega) f h) h
            rw [arrs_set5 (by omega)] at hOf
            go_frame
            go_wp2_with fail
            go_meet
            case rel => exact ⟨0, p4, x, _, h, h, rfl, rfl, rfl, by omega, P4, hOf⟩
        have hB9l := hO9.loc (b := B9) (upd_same _ _ _)
        have e1 := cell_of hB9l 1
        simp only [List.getElem?_toArray, List.getElem?_cons_succ, List.getElem?_cons_zero] at e1
        by_cases k0 : o.kind = 0
        rotate_left
        · have t4 : (o.kind == 4) = false := by simp; omega
          have t0 : (o.kind == 0) = false := by simp; omega
          have t1 : (o.kind == 1) = false := by simp; omega
          have t2 : (o.kind == 2) = false := by simp; omega
          have t3 : (o.kind == 3) = false := by simp; omega
          clear k0 k1 k2 k3 k4 hB9l
          by_cases hg : 0 ≤ o.i ∧ o.i < 40
          · as_aux_lemma =>
              obtain ⟨hg0, hg1⟩ := hg
              obtain ⟨K, hK⟩ : ∃ K : Nat, o.i = (K : Int) := ⟨o.i.toNat, by omega⟩
              have hwK : S.wrong (K : Int) = 0 := by rw [← hK]; exact hP.wrong hg0 hg1
              have cr := read4_ok hO9 hK hwK rfl
              obtain ⟨jj, hjj⟩ := S.asked_cnt K
              rw [hjj] at cr
              have hP' := hP.cnt jj
              clear hjj hK hwK
              go_upto_region 11 with fail
              go_wp2_with fail
              refine cr.mono ?_
              rintro e wa ⟨v3, g3, o3, rfl, hb3, hg3, hOa, hsa⟩
              obtain ⟨cap3, cur3, fr3, rfl, rfl, q1, q2, q3, q4, hfr⟩ := hb3
              have hB9g : B9 ≠ g3 := by have := hO9.loc_lt (b := B9) (upd_same _ _ _); omega
              have hBa := hOa.loc (b := B9) (by rw [upd_other _ hB9g, upd_same])
              have e1a := cell_of hBa 1
              simp only [List.getElem?_toArray, List.getElem?_cons_succ, List.getElem?_cons_zero] at e1a
              have hLg : (upd (arrs A5 (A5 + 1) f h) B9 (some (.cells #[.int .i64 o.kind, .int .i64 o.i, .int .i64 o.a, .int .i64 o.size, .bool o.flip, .slice a5 n5 cap5] 82))) g3 = none := hO9.none_ hg3
              have hU3 := U8s.of q4
              obtain ⟨N3, hN3⟩ : ∃ N3, N3 = (S.get K).length := ⟨_, rfl⟩
              rw [← hN3] at hU3 hfr q1 ⊢
              have hNb : N3 ≤ 64 := by rw [hN3]; exact Nat.le_of_eq (hP.get_len K)
              clear hBa cr hN3 q1 q2 q3 q4 hg3
              go_wp2_with fail
              go_loopg [20] N3 (fun dd kv wx => ∃ (k : Nat) (cc : Array Value), k + dd = N3 ∧ kv = .int .i64 (k : Int) ∧ U8s N3 cc ∧ Own w wx (TStore p q (S.cnt jj)) (upd (upd (arrs A5 (A5 + 1) f h) B9 (some (.cells #[.int .i64 o.kind, .int .i64 o.i, .int .i64 o.a, .int .i64 o.size, .bool o.flip, .slice a5 n5 cap5] 82))) g3 (some (.cells cc 5 fr3))))
              case atStart => exact ⟨0, _, by omega, rfl, hU3, hOa⟩
              case round =>
                obtain ⟨k, cc, hkd, rfl, hU, hOx⟩ := hrel
                have hkd' : Hid (k + gk = N3) := hkd
                by_cases hk : k < N3
                · have hkI : (k : Int) < ((N3 : Nat) : Int) := by omega
                  obtain ⟨y, hy⟩ := hU k hk
                  have hog := hOx.loc (upd_same _ _ _)
                  have cy := (cell_of hog k).trans hy
                  have fy := frozen_at hog (hfr k (by omega))
                  clear hkd hog hy
                  go_wp2_with fail
                  go_roundg (gk - 1)
                  case measure => have := hkd'.out; omega
                  case rel => exact ⟨k + 1, _, by have := hkd'.out; omega, by go_num, hU.set k _, hOx.bump (keepsStore _ _ _) k _⟩
                · have hkI : ¬ (k : Int) < ((N3 : Nat) : Int) := by omega
                  clear hkd
                  have hOz := (hOx.drop hLg).drop hL9
                  go_wp2_with fail
                  go_meet
                  case rel => exact ⟨c, p, q, _, f, h, rfl, rfl, rfl, by omega, hP', hOz⟩
          · as_aux_lemma =>
              have hw1 := hP.wrong1 (i := o.i) (by omega)
              have cr := read4 hO9 o.i
              go_upto_region 11 with fail
              go_wp2_with fail
              refine cr.mono ?_
              rintro e wa (⟨hn, rfl, rfl⟩ | ⟨h0, _⟩)
              rotate_left
              · rw [hw1] at h0; cases h0
              rw [hw1]
              clear cr hn
              have hOz := hO9.drop hL9
              go_upto_region 12 with fail
              go_cut [75] from 56 to 74 (fun v wx => v = .bool false ∧ wx = W9)
              case first =>
                by_cases hi : o.i < 0
                · have hi' : ¬ (0 : Int) ≤ o.i := by omega
                  go_wp2_with fail
                  go_meet
                  case rel => exact ⟨rfl, rfl⟩
                · have hi1 : (0 : Int) ≤ o.i := by omega
                  have hi2 : ¬ o.i < 40 := by omega
                  go_wp2_with fail
                  go_meet
                  case rel => exact ⟨rfl, rfl⟩
              case rest =>
                obtain ⟨rfl, rfl⟩ := hcut
                go_wp2_with fail
                go_loopg [20] 0 (fun dd kv wx => kv = .int .i64 0 ∧ wx = wc)
                case atStart => exact ⟨rfl, rfl⟩
                case round =>
                  obtain ⟨rfl, rfl⟩ := hrel
                  go_wp2_with fail
                  go_meet
                  case rel => exact ⟨c, p, q, S, f, h, rfl, rfl, rfl, by omega, hP, hOz⟩
        · have t0 : (o.kind == 0) = true := by simpa using k0
          clear k0 k1 k2 k3 k4
          have e2 := cell_of hB9l 2
          have e3 := cell_of hB9l 3
          simp only [List.getElem?_toArray, List.getElem?_cons_succ, List.getElem?_cons_zero] at e2 e3
          have hx1 : 0 ≤ o.a % 256 ∧ o.a % 256 < 256 := by omega
          obtain ⟨x, hx⟩ : ∃ x : Int, x = o.a % 256 + 1 := ⟨_, rfl⟩
          have hx0 : 0 < x ∧ x ≤ 256 := by omega
          have hB9W := hO9.loc_lt (b := B9) (upd_same _ _ _)
          go_upto_region 19 with fail
          go_wp2_with fail
          refine (sector_any _ _).mono ?_
          rintro e wa ⟨va, ga, rfl, hva, hga, hBa⟩
          rw [← hx] at hva
          obtain ⟨oa, hoa, hba⟩ := hva.bufO
          have hOa := hO9.local_ (keepsStore _ _ _) hBa hga hoa
          have hLg : (upd (arrs A5 (A5 + 1) f h) B9 (some (.cells #[.int .i64 o.kind, .int .i64 o.i, .int .i64 o.a, .int .i64 o.size, .bool o.flip, .slice a5 n5 cap5] 82))) ga = none := hO9.none_ hga
          have hB9g : B9 ≠ ga := by omega
          have hA5g : A5 ≠ ga := by omega
          have hBb := hOa.loc (b := B9) (by rw [upd_other _ hB9g, upd_same])
          obtain ⟨capa, cura, fra, rfl, rfl, q1, q2, q3, q4, hfr⟩ := hba
          have hU := U8s.of q4
          have hlen : (bytesOf x 64).length = 64 := bytesOf_length _ _
          rw [hlen] at hU hfr q1 hva ⊢
          have e1 := cell_of hBb 1
          have e2 := cell_of hBb 2
          have e3 := cell_of hBb 3
          simp only [List.getElem?_toArray, List.getElem?_cons_succ, List.getElem?_cons_zero] at e1 e2 e3
          clear hO9 hB9l hBb hlen q3 q4
          by_cases hg : (0 ≤ o.i ∧ o.i < 40) ∧ o.size % 16 ≠ 3
          · as_aux_lemma =>
              obtain ⟨⟨hg0, hg1⟩, hg2⟩ := hg
              have hg2b : (o.size % 16 == 3) = false := by simpa using hg2
              obtain ⟨K, hK⟩ : ∃ K : Nat, o.i = (K : Int) := ⟨o.i.toNat, by omega⟩
              have hK40 : (K : Int) < 40 := by omega
              have hK0 : (0 : Int) ≤ (K : Int) := by omega
              obtain ⟨S1, eS, P1⟩ := hP.write (k := K) (x := x) (by omega) hx0.1
              have cw := write4 hOa hva.src (K : Int)
              rw [eS] at cw
              have hKH : Hid _ := Lib.hid hK
              rw [hK] at e1
              clear hK hg0 hg1 hg2 eS
              go_wp2_with fail
              refine cw.mono ?_
              rintro e wb ⟨rfl, hOb, hsb⟩
              have hBb := hOb.loc (b := B9) (by rw [upd_other _ hB9g, upd_same])
              have e1 := cell_of hBb 1
              have e2 := cell_of hBb 2
              simp only [List.getElem?_toArray, List.getElem?_cons_succ, List.getElem?_cons_zero] at e1 e2
              rw [hKH.out] at e1
              clear cw hva
              by_cases hK16 : K < 16
              · have hK16I : (K : Int) < 16 := by omega
                rw [if_pos hK16] at P1
                have hAb : ArrAt 81 wb A5 16 f := hOb.loc (by rw [upd_other _ hA5g, upd_other _ hA5B]; exact arrs_5 (by omega) f h)
                have c1 := hAb.cell hK16
                have f1 := hAb.frozen K
                have hOc := hOb.set (keepsStore _ _ _) (by rw [upd_other _ hA5g, upd_other _ hA5B]; exact arrs_5 (by omega) f h) ((Chg.refl (· = A5) wb).own K (.int .i64 x)) (hAb.set K x)
                rw [upd_comm (fun e => hA5g e.symm), upd_comm (fun e => hA5B e.symm), arrs_set5 (by omega)] at hOc
                have hLg' : (upd (arrs A5 (A5 + 1) (upd f K x) h) B9 (some (.cells #[.int .i64 o.kind, .int .i64 o.i, .int .i64 o.a, .int .i64 o.size, .bool o.flip, .slice a5 n5 cap5] 82))) ga = none := by
                  rw [upd_other _ (fun e => hB9g e.symm)]
                  exact (arrs_none hA5g (by omega) _ _)
                have hL9 : arrs A5 (A5 + 1) (upd f K x) h B9 = none := arrs_none hA5B hA6B _ _
                rw [hx] at hOc
                clear hAb hOb hBb
                go_upto_block 5 with fail
                go_wp2_with fail
                go_loopg [13] 64 (fun dd kv wx => ∃ (k : Nat) (cc : Array Value), k + dd = 64 ∧ kv = .int .i64 (k : Int) ∧ U8s 64 cc ∧ Own w wx (TStore p q S1) (upd (upd (arrs A5 (A5 + 1) (upd f K (o.a % 256 + 1)) h) B9 (some (.cells #[.int .i64 o.kind, .int .i64 o.i, .int .i64 o.a, .int .i64 o.size, .bool o.flip, .slice a5 n5 cap5] 82))) ga (some (.cells cc 5 fra))))
                case atStart => exact ⟨0, _, by omega, rfl, hU, hOc⟩
                case round =>
                  obtain ⟨k, cc, hkd, rfl, hU, hOx⟩ := hrel
                  have hkd' : Hid (k + gk = 64) := hkd
                  by_cases hk : k < 64
                  · have hkI : (k : Int) < ((64 : Nat) : Int) := by omega
                    obtain ⟨y, hy⟩ := hU k hk
                    have hog := hOx.loc (upd_same _ _ _)
                    have cy := (cell_of hog k).trans hy
                    have fy := frozen_at hog (hfr k (by omega))
                    clear hkd hog hy
                    go_wp2_with fail
                    go_roundg (gk - 1)
                    case measure => have := hkd'.out; omega
                    case rel => exact ⟨k + 1, _, by have := hkd'.out; omega, by go_num, hU.set k _, hOx.bump (keepsStore _ _ _) k _⟩
                  · have hkI : ¬ (k : Int) < ((64 : Nat) : Int) := by omega
                    clear hkd
                    have hOz := (hOx.drop (by rw [← hx]; exact hLg')).drop (by rw [← hx]; exact hL9)
                    rw [← hx] at hOz
                    go_wp2_with fail
                    go_meet
                    case rel => exact ⟨c, p, q, S1, (upd f K x), h, rfl, rfl, rfl, by omega, P1, hOz⟩
              · have hK16I : ¬ (K : Int) < 16 := by omega
                rw [if_neg hK16] at P1
                clear hBb
                go_upto_block 5 with fail
                go_wp2_with fail
                go_loopg [13] 64 (fun dd kv wx => ∃ (k : Nat) (cc : Array Value), k + dd = 64 ∧ kv = .int .i64 (k : Int) ∧ U8s 64 cc ∧ Own w wx (TStore p q S1) (upd (upd (arrs A5 (A5 + 1) f h) B9 (some (.cells #[.int .i64 o.kind, .int .i64 o.i, .int .i64 o.a, .int .i64 o.size, .bool o.flip, .slice a5 n5 cap5] 82))) ga (some (.cells cc 5 fra))))
                case atStart => exact ⟨0, _, by omega, rfl, hU, hOb⟩
                case round =>
                  obtain ⟨k, cc, hkd, rfl, hU, hOx⟩ := hrel
                  have hkd' : Hid (k + gk = 64) := hkd
                  by_cases hk : k < 64
                  · have hkI : (k : Int) < ((64 : Nat) : Int) := by omega
                    obtain ⟨y, hy⟩ := hU k hk
                    have hog := hOx.loc (upd_same _ _ _)
                    have cy := (cell_of hog k).trans hy
                    have fy := frozen_at hog (hfr k (by omega))
                    clear hkd hog hy
                    go_wp2_with fail
                    go_roundg (gk - 1)
                    case measure => have := hkd'.out; omega
                    case rel => exact ⟨k + 1, _, by have := hkd'.out; omega, by go_num, hU.set k _, hOx.bump (keepsStore _ _ _) k _⟩
                  · have hkI : ¬ (k : Int) < ((64 : Nat) : Int) := by omega
                    clear hkd
                    have hOz := (hOx.drop hLg).drop hL9
                    go_wp2_with fail
                    go_meet
                    case rel => exact ⟨c, p, q, S1, f, h, rfl, rfl, rfl, by omega, P1, hOz⟩
          · as_aux_lemma =>
              obtain ⟨Z, hZ⟩ : ∃ Z : Nat, o.size % 64 = (Z : Int) := ⟨(o.size % 64).toNat, by omega⟩
              obtain ⟨Len, hLen⟩ : ∃ Len, Len = if o.size % 16 = 3 then Z else 64 := ⟨_, rfl⟩
              have hL64 : Len ≤ 64 := by rw [hLen]; split <;> omega
              have hbad : o.i < 0 ∨ 40 ≤ o.i ∨ Len ≠ 64 := by
                rw [hLen]
                split
                · right; right; omega
                · omega
              have hLenH : Hid _ := Lib.hid hLen
              have hba := hva.take (k := Len) (by rw [bytesOf_length]; exact hL64)
              have cw := write4 hOa hba.src o.i
              rw [hP.write1 (i := o.i) (b := (bytesOf x 64).take Len) (by rw [List.length_take, bytesOf_length]; omega)] at cw
              have hZc : (Z : Int) ≤ (capa : Int) := by omega
              have hZc' : Z ≤ capa := by omega
              have hZ0 : (0 : Int) ≤ (Z : Int) := by omega
              clear hLen hva hba
              go_upto_if 98 with fail
              go_cut [10] from 99 to 103 (fun v wx => v = .slice (some ⟨ga, 0, none⟩) Len capa ∧ wx = wa)
              case first =>
                by_cases hs : o.size % 16 = 3
                · have hsb : (o.size % 16 == 3) = true := by simpa using hs
                  have hE : Len = Z := by rw [hLenH.out, if_pos hs]
                  have hEH : Hid _ := Lib.hid hE
                  clear hs hE
                  go_wp2_with fail
                  go_meet
                  case rel => exact ⟨by rw [hEH.out], rfl⟩
                · have hsb : (o.size % 16 == 3) = false := by simpa using hs
                  have hE : Len = 64 := by rw [hLenH.out, if_neg hs]
                  have hEH : Hid _ := Lib.hid hE
                  clear hs hE
                  go_wp2_with fail
                  go_meet
                  case rel => exact ⟨by rw [hEH.out], rfl⟩
              case rest =>
                obtain ⟨rfl, rfl⟩ := hcut
                clear hZ hZc hZc' hZ0 hLenH hg
                go_wp2_with fail
                refine cw.mono ?_
                rintro e wb ⟨rfl, hOb, hsb⟩
                have hBb := hOb.loc (b := B9) (by rw [upd_other _ hB9g, upd_same])
                have e1 := cell_of hBb 1
                simp only [List.getElem?_toArray, List.getElem?_cons_succ, List.getElem?_cons_zero] at e1
                clear cw hBb
                go_upto_region 23 with fail
                go_cut [12] from 109 to 121 (fun v wx => v = .bool false ∧ wx = wb)
                case first =>
                  by_cases hi : o.i < 0
                  · have hi' : ¬ (0 : Int) ≤ o.i := by omega
                    go_wp2_with fail
                    go_meet
                    case rel => exact ⟨rfl, rfl⟩
                  · have hi1 : (0 : Int) ≤ o.i := by omega
                    by_cases hi2 : o.i < 40
                    · have hl : ((Len : Int) == 64) = false := by simp; omega
                      go_wp2_with fail
                      go_meet
                      case rel => exact ⟨rfl, rfl⟩
                    · go_wp2_with fail
                      go_meet
                      case rel => exact ⟨rfl, rfl⟩
                case rest =>
                  obtain ⟨rfl, rfl⟩ := hcut
                  have hU' := hU.le hL64
                  clear hbad
                  go_upto_block 5 with fail
                  go_wp2_with fail
                  go_loopg [13] Len (fun dd kv wx => ∃ (k : Nat) (cc : Array Value), k + dd = Len ∧ kv = .int .i64 (k : Int) ∧ U8s Len cc ∧ Own w wx (TStore p q S) (upd (upd (arrs A5 (A5 + 1) f h) B9 (some (.cells #[.int .i64 o.kind, .int .i64 o.i, .int .i64 o.a, .int .i64 o.size, .bool o.flip, .slice a5 n5 cap5] 82))) ga (some (.cells cc 5 fra))))
                  case atStart => exact ⟨0, _, by omega, rfl, hU', hOb⟩
                  case round =>
                    obtain ⟨k, cc, hkd, rfl, hU, hOx⟩ := hrel
                    have hkd' : Hid (k + gk = Len) := hkd
                    by_cases hk : k < Len
                    · have hkI : (k : Int) < ((Len : Nat) : Int) := by omega
                      obtain ⟨y, hy⟩ := hU k hk
                      have hog := hOx.loc (upd_same _ _ _)
                      have cy := (cell_of hog k).trans hy
                      have fy := frozen_at hog (hfr k (by omega))
                      clear hkd hog hy
                      go_wp2_with fail
                      go_roundg (gk - 1)
                      case measure => have := hkd'.out; omega
                      case rel => exact ⟨k + 1, _, by have := hkd'.out; omega, by go_num, hU.set k _, hOx.bump (keepsStore _ _ _) k _⟩
                    · have hkI : ¬ (k : Int) < ((Len : Nat) : Int) := by omega
                      clear hkd
                      have hOz := (hOx.drop hLg).drop hL9
                      go_wp2_with fail
                      go_meet
                      case rel => exact ⟨c, p, q, S, f, h, rfl, rfl, rfl, by omega, hP, hOz⟩
      case rest =>
        as_aux_lemma =>
          obtain ⟨c', p', q', S', f', h', rfl, rfl, rfl, hc', hP', hO'⟩ := hcut
          obtain ⟨k1, k2, k3, k4⟩ := hP'.facts
          have cm := commits4 hO'
          rw [k1] at cm
          have hlc : ¬ ((c' : Int) < S'.lasting) := by omega
          clear hP hO hO9
          go_wp2_with fail
          refine cm.mono ?_
          rintro e w3 ⟨rfl, hO3, hs3⟩
          have hA : ArrAt 81 w3 A5 16 f' := hO3.loc (arrs_5 (by omega) f' h')
          have ct := tells_any hO3 k3 k4 f'
          unfold TellsPost at ct
          rw [hP'.tells] at ct
          rw [arr16] at ct
          have d0 := hA.cell (k := 0) (by decide)
          have d1 := hA.cell (k := 1) (by decide)
          have d2 := hA.cell (k := 2) (by decide)
          have d3 := hA.cell (k := 3) (by decide)
          have d4 := hA.cell (k := 4) (by decide)
          have d5 := hA.cell (k := 5) (by decide)
          have d6 := hA.cell (k := 6) (by decide)
          have d7 := hA.cell (k := 7) (by decide)
          have d8 := hA.cell (k := 8) (by decide)
          have d9 := hA.cell (k := 9) (by decide)
          have d10 := hA.cell (k := 10) (by decide)
          have d11 := hA.cell (k := 11) (by decide)
          have d12 := hA.cell (k := 12) (by decide)
          have d13 := hA.cell (k := 13) (by decide)
          have d14 := hA.cell (k := 14) (by decide)
          have d15 := hA.cell (k := 15) (by decide)
          clear hA
          go_wp2_with fail
          refine ct.mono ?_
          rintro e w4 ⟨jj, rfl, hO4, hs4⟩
          clear ct cm d0 d1 d2 d3 d4 d5 d6 d7 d8 d9 d10 d11 d12 d13 d14 d15
          go_wp2_with fail
          go_roundg (gk - 1)
          case measure => have := hjd'.out; omega
          case rel => exact ⟨j + 1, c', p', q', _, f', h', by have := hjd'.out; omega, rfl, rfl, rfl, by go_num, hc', hP'.cnt jj, hO4⟩
    · by_cases hjn : j < n1
      · have hj60 : ¬ (j : Int) < 60 := by omega
        have hjn' : (j : Int) < (n1 : Int) := by omega
        clear hjd hin
        go_wp2_with fail
        go_ret
        exact ⟨rfl, hO.base⟩
      · have hjn' : ¬ (j : Int) < (n1 : Int) := by omega
        clear hjd hin
        go_wp2_with fail
        go_ret
        exact ⟨rfl, hO.base⟩
end Go.Proofs.Ytbnoebdpbpjbkaa
