/-
  What the document fixes of layer 4: awake answers true. Whether a store tells sixteen sectors.
-/
import Derived.Test.YtbnoebdpbpjbkaaLaw4b
import Derived.Deep.RegionHeld
namespace Go.Lz
open Go.RowKit
section
variable {S : WalS} {n c d : Nat} {h h' : Nat → Nat → Bytes}
/-- A store whose power failed between its calls, opened again. -/
theorem Rec.reopen (r : Rec S n c d h) (flip : Bool) (l : List Int) (hh : ∀ k, k < n → h' 0 k = h d k) :
    (S.dev.crashed flip l).opened.1 = 0 ∧ Rec (WalS.new (S.dev.crashed flip l).opened.2) n 0 0 h' ∧ Well (WalS.new (S.dev.crashed flip l).opened.2).dev := by
  obtain ⟨g0, hl, h1, h2⟩ := r.ex
  have hn : (S.dev.crashed flip l).n - 300 = n := r.size
  have hw : Well (S.dev.crashed flip l) := Well.crashed flip l
  rcases Rec.opened (D := S.dev.crashed flip l) (h := h') (g := g0) (hl.dok.crashed flip l) hl.ok.n rfl (fun _ => rfl) (hl.quiet.dur.crashed flip l) (fun k hk => by rw [hn] at hk; rw [hh k hk, h1 k hk]) with ⟨o1, o2, o3⟩ | ⟨_, _, _, _, _, h6⟩
  · rw [hn] at o2
    exact ⟨o1, o2, o3 hw⟩
  · exact absurd hw h6
theorem Rec.wrong (r : Rec S n c d h) {k : Nat} (hk : k < n) : S.wrong (k : Int) = 0 := by
  obtain ⟨g0, hl, _⟩ := r.ex
  exact hl.wrong (by omega) (by rw [r.size]; omega)
end
end Go.Lz
namespace Go.Proofs.Ytbnoebdpbpjbkaa
open Go.RowKit Go.Lz

theorem bytesOf_small (k : Int) : (bytesOf k 64).length = 64 := bytesOf_length k 64

/-- One sector, written, committed, synced; power fails; the store is opened again. -/
structure Awake4 (S1 S2 S3 : WalS) (D4 : DevS) (S5 : WalS) : Prop where
  a : (newS 400).write 0 (bytesOf 5 64) = (0, S1)
  b : S1.commit = (0, S2)
  c : S2.sync = (0, S3)
  d : D4 = S3.dev.crashed false []
  o : D4.opened.1 = 0
  e : S5 = WalS.new D4.opened.2
  w : S5.wrong 0 = 0
  g : S5.get 0 = bytesOf 5 64

theorem awake4_plain : ∃ S1 S2 S3 D4 S5, Awake4 S1 S2 S3 D4 S5 := by
  obtain ⟨h, hh0, hh1⟩ : ∃ h : Nat → Nat → Bytes, h 0 = (fun _ => zero64) ∧ h 1 = fun k => if k = 0 then bytesOf 5 64 else zero64 := ⟨fun i => if i = 0 then fun _ => zero64 else fun k => if k = 0 then bytesOf 5 64 else zero64, rfl, rfl⟩
  obtain ⟨_, r0, w0, n0⟩ := new_rec (n := 400) (by omega) (by omega) h (fun k _ => by rw [hh0])
  obtain ⟨e1, r1⟩ := r0.write (k := 0) (b := bytesOf 5 64) (by omega) (bytesOf_small 5) (.inr (by rw [n0, keysF_none]; decide))
  obtain ⟨S1, hS1⟩ : ∃ S1, S1 = ({ newS 400 with now := upd (newS 400).now 0 (some (bytesOf 5 64)) } : WalS) := ⟨_, rfl⟩
  rw [← hS1] at e1 r1
  have w1 : Well S1.dev := by rw [hS1]; exact w0
  have now1 : S1.now = upd (fun _ => none) 0 (some (bytesOf 5 64)) := by rw [hS1, ← n0]
  rcases r1.commit (by omega) h (fun i hi => rfl) (fun k hk => by
    rw [hh1, now1, hh0]
    by_cases e : k = 0
    · subst e; simp [over]
    · simp [over, e, upd_other _ e]) with ⟨e2, ⟨d2, hd2, r2⟩, n2, w2⟩ | ⟨_, _, _, _, _, _, _, _, hx⟩
  · rcases r2.sync with ⟨e3, r3, n3, l3, _, w3⟩ | ⟨_, _, _, _, _, _, _, _, hx⟩
    · obtain ⟨o, r5, w5⟩ := r3.reopen (h' := fun _ => h 1) false [] (fun _ _ => rfl)
      refine ⟨S1, _, _, _, _, e1, Prod.ext e2 rfl, Prod.ext e3 rfl, rfl, o, rfl, r5.wrong (k := 0) (by omega), ?_⟩
      rw [r5.get (k := 0) (by omega)]
      show (h 1 0) = _
      rw [hh1]
      rfl
    · exact absurd (w2 w1) hx
  · exact absurd w1 hx

theorem run_string' {w : World} {g : Nat} {v : Value} {b : Bytes} (h : Buf 5 w g v b) : ∀ W, Below w.heap.size w W → (convert 28 9 v).run Try.prog W = .ok (.string ⟨b.toArray⟩) W :=
  fun _ hb => run_string (h.chg (M := fun _ => False) (Chg.of_below hb) (fun h => h))

set_option maxRecDepth 100000 in
set_option maxHeartbeats 1000000 in
theorem awake4_any (w : World) : Calls Try.prog 46 #[] w fun e w' => e = .returned (.bool true) ∧ Below w.heap.size w w' := by
  obtain ⟨S1, S2, S3, D4, S5, A⟩ := awake4_plain
  go_enter Try.func46, Try.ntmps46
  go_wp2_with fail
  refine (lw4Open_any w 400 (by omega) (by omega)).mono ?_
  rintro e w1 ⟨p, q, rfl, hO1⟩
  have hsz : (newS 400).size = 100 := by
    obtain ⟨_, r, _⟩ := new_rec (n := 400) (by omega) (by omega) (fun _ _ => zero64) (fun _ _ => rfl)
    exact r.size
  have c4 := size4 hO1
  rw [hsz] at c4
  clear hsz
  have rm2 : ∀ W, Calls Try.prog 80 #[.int .i64 200] W (fun e w' => e = .returned (.int .i64 0) ∧ W = w') := fun W => room_any W 200 (by omega)
  have rm4 : ∀ W, Calls Try.prog 80 #[.int .i64 400] W (fun e w' => e = .returned (.int .i64 100) ∧ W = w') := fun W => room_any W 400 (by omega)
  go_wp2_with (first
    | (go_at_call 75; refine c4.mono ?_; rintro e w' ⟨rfl, rfl⟩)
    | (go_at_call 80; refine (rm2 _).mono ?_; rintro e w' ⟨rfl, rfl⟩)
    | (go_at_call 80; refine (rm4 _).mono ?_; rintro e w' ⟨rfl, rfl⟩))
  clear rm2 rm4 c4
  refine (sector_any w1 5).mono ?_
  rintro e w2 ⟨v2, g2, rfl, hv2, hg2, hB2⟩
  have hO2 := hO1.below (keepsStore _ _ _) hB2
  have cw := write4 hO2 hv2.src 0
  rw [A.a] at cw
  go_wp2_with fail
  refine cw.mono ?_
  rintro e w3 ⟨rfl, hO3, hs3⟩
  have cc := commit4 hO3
  simp only [A.b] at cc
  go_wp2_with fail
  refine cc.mono ?_
  rintro e w4 ⟨rfl, hO4, hs4⟩
  have cs := sync4 hO4
  simp only [A.c] at cs
  go_wp2_with fail
  refine cs.mono ?_
  rintro e w5 ⟨rfl, hO5, hs5⟩
  have hO5' := toDev hO5
  go_wp2_with fail
  refine (crash1 hO5' false (nilInts w)).mono ?_
  rw [← A.d]
  rintro e w6 ⟨rfl, hO6, hs6⟩
  go_wp2_with fail
  refine (open1_ok hO6 A.o).mono ?_
  rw [← A.e]
  rintro e w7 ⟨p2, rfl, hO7, hs7⟩
  go_wp2_with fail
  refine (read4_ok hO7 (k := 0) rfl A.w A.g).mono ?_
  rintro e w8 ⟨v8, g8, o8, rfl, hb8, hg8, hO8, hs8⟩
  have hbuf := hb8.buf (hO8.loc (upd_same _ _ _))
  have hq := run_string' hbuf
  have hq0 := hq _ (Below.refl _ w8).drew
  have hqH : Hid _ := Lib.hid hq
  clear hq
  clear cw cc cs hO2 hO3 hO4 hO5 hO5' hO6 hO7 hb8 hv2
  go_wp2_with fail
  go_region_held (fun W => (convert 28 9 v8).run Try.prog W = .ok (.string ⟨(bytesOf 5 64).toArray⟩) W) (first | exact hq0 | exact hq9) (first
    | (go_at_call 41; refine (sector_any _ 5).mono ?_; rintro e w9 ⟨v9, g9, rfl, hv9, hg9, hB9⟩; have hB9' := undrew hB9; have hq9 := hqH.out _ hB9'; have hst := run_string hv9))
  all_goals
    go_wp2_with fail
    go_ret
    exact ⟨rfl, hO8.base.trans (hB9'.mono hO8.size)⟩
end Go.Proofs.Ytbnoebdpbpjbkaa
