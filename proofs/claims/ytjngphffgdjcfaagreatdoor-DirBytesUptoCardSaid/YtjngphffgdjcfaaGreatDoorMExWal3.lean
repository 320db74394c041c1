/-
  Numbers as four bytes, and back; the log's head.
-/
import Derived.Test.YtjngphffgdjcfaaGreatDoorME3
import Derived.Lib.AppendZeros
import Derived.Deep.CutBlock
namespace Go.Proofs.YtjngphffgdjcfaaGreatDoor
open Go.RowKit Go.Lz

/-- A number as four bytes. -/
def _root_.Go.Lz.fourB (n : Int) : Bytes := [lowByte (n / 16777216), lowByte (n / 65536), lowByte (n / 256), lowByte n]
/-- Four bytes as a number. -/
def _root_.Go.Lz.numB (b : Bytes) : Int := (b.getD 0 0).toNat * 16777216 + (b.getD 1 0).toNat * 65536 + (b.getD 2 0).toNat * 256 + (b.getD 3 0).toNat

theorem four_any (w : World) (n : Int) : Calls Tryz.prog 114 #[.int .i64 n] w fun e w' => e = .returned (.slice (some ⟨w.heap.size, 0, none⟩) 4 4) ∧ w' = w.alloc (.cells ((fourB n).map u8v).toArray 5) := by
  go_enter Tryz.func114, Tryz.ntmps114
  go_wp2
  go_ret
  exact ⟨rfl, by simp [fourB, lowByte_u8v]⟩

theorem number_any {w : World} {G : Nat → Prop} {v : Value} {b : Bytes} (hv : Src 5 w G v b) (hb : 4 ≤ b.length) : Calls Tryz.prog 96 #[v] w fun e w' => e = .returned (.int .i64 (numB b)) ∧ Below w.heap.size w w' := by
  obtain ⟨g, off, cap, cur, fr, rfl, hG, hg, hc, hm, hcs⟩ := hv
  have c : ∀ j, j < 4 → w.cell? ⟨g, off + j, none⟩ = some (u8v (b.getD j 0)) := fun j hj => hcs j _ (by simp [List.getD, (show j < b.length by omega)])
  have c0 := c 0 (by omega)
  have c1 := c 1 (by omega)
  have c2 := c 2 (by omega)
  have c3 := c 3 (by omega)
  unfold u8v at c0 c1 c2 c3
  have b0 := (b.getD 0 0).toNat_lt
  have b1 := (b.getD 1 0).toNat_lt
  have b2 := (b.getD 2 0).toNat_lt
  have b3 := (b.getD 3 0).toNat_lt
  unfold numB
  generalize (b.getD 0 0).toNat = x0 at *
  generalize (b.getD 1 0).toNat = x1 at *
  generalize (b.getD 2 0).toNat = x2 at *
  generalize (b.getD 3 0).toNat = x3 at *
  obtain ⟨n, hn⟩ : ∃ n, n = b.length := ⟨_, rfl⟩
  rw [← hn]
  have l0 : (0 : Int) < (n : Int) := by omega
  have l1 : (1 : Int) < (n : Int) := by omega
  have l2 : (2 : Int) < (n : Int) := by omega
  have l3 : (3 : Int) < (n : Int) := by omega
  have m0 : 0 < n := by omega
  have m1 : 1 < n := by omega
  have m2 : 2 < n := by omega
  have m3 : 3 < n := by omega
  rw [Nat.add_zero] at c0
  clear hcs c hn hb
  go_enter Tryz.func96, Tryz.ntmps96
  go_wp2
  refine wp_region_quiet (C := fun W => W = w.drew) (by kernel_rfl) (by kernel_rfl) rfl ?_
  repeat (quiet_step (fail))
  refine wpQuiet_nil ?_
  rintro _ rfl
  rw [or4 b0 b1 b2 b3]
  go_wp2
  go_ret
  exact ⟨rfl, (Below.refl _ w).drew⟩

/-- The sector that says how many of the log are to be brought home. -/
def _root_.Go.Lz.headB (n : Int) : Bytes := fourB n ++ List.replicate 60 0
@[simp] theorem _root_.Go.Lz.headB_length (n : Int) : (headB n).length = 64 := by simp [headB, fourB]

theorem run_append_zeros {P : Program} (w : World) (t tn ty e : TypeId) (i : TypeInfo) (z : Value) (k kn : IntKind) (ht : P.underlying t = some (.slice e)) (htn : P.underlying tn = some (.int kn)) (hi : P.info? e = some i) (hz : i.zero = some z)
    (b : Addr) (sLen sCap : Nat) (olds : List Value) (hlo : olds.length = sLen * i.size) (holds : ∀ j v, olds[j]? = some v → w.cell? (b.add j) = some v)
    (n : Nat) (h0 : 0 < n) (hs : 0 < i.size) (hg : sCap < sLen + n) (h63 : ((sLen + n : Nat) : Int) ≤ 9223372036854775807) (h48 : n * i.bytes ≤ 281474976710656) (hfit : Builtin.nextslicecap (sLen + n) sCap * i.bytes ≤ 281474976710656) :
    (Builtin.append_ #[t, tn] ty #[.slice (some b) sLen sCap, .int k n]).run P w =
      .ok (.slice (some ⟨w.heap.size, 0, none⟩) (sLen + n) (grownCap w (sLen + n) sCap e)) (w.drew.alloc (.cells (olds.toArray ++ Builtin.zeroCells z.cells n ++ Builtin.zeroCells z.cells (grownCap w (sLen + n) sCap e - (sLen + n))) e)) := by
  have hn : ¬ (sLen + n ≤ sCap) := by omega
  have hn0 : n ≠ 0 := by omega
  have hw : IntKind.i64.wrap (n : Int) = n := by rw [IntKind.wrap_i64]; omega
  have h63' : ¬ (9223372036854775807 < ((sLen : Int) + (n : Int))) := by omega
  have h48' : ¬ (281474976710656 < Builtin.nextslicecap (sLen + n) sCap * i.bytes) := by omega
  have h48i : ¬ (281474976710656 < (n : Int) * (i.bytes : Int)) := by
    rw [← Int.natCast_mul]
    omega
  have hneg : ¬ ((n : Int) < 0) := by omega
  have hns : ¬ (n * i.size = 0) := Nat.mul_ne_zero hn0 (by omega)
  have hfo := run_firstCells_some (P := P) w.drew i.size sLen b sLen sCap olds hlo (by simpa using holds)
  simp [Builtin.append_, run_underlying ht, run_underlying htn, sizeOf, typeInfo, zeroValue, hi, hz, asInt, asIntOf, hw, hn, hneg, hns, h63', h48', h48i, Question.forced, hfo, newRow, grownCap]

theorem zeroCells_u8 (n : Nat) : (Builtin.zeroCells #[Value.int .u8 0] n).toList = (List.replicate n (0 : UInt8)).map u8v := by
  simp [Builtin.zeroCells, Nat.mod_one, u8v, List.map_const']

theorem head_any (w : World) (n : Int) : Calls Tryz.prog 101 #[.int .i64 n] w (Fresh 5 w (headB n)) := by
  obtain ⟨i0, hi, hz0, hz1, hz2⟩ := info_parts info_u8
  have hr : ∀ (W : World) ty, (∀ j v, ((fourB n).map u8v)[j]? = some v → W.cell? ((⟨w.heap.size, 0, none⟩ : Addr).add j) = some v) → _ := fun W ty hc => run_append_zeros (P := Tryz.prog) W 23 3 ty 5 i0 (.int .u8 0) .i64 .i64 Tryz.underlying23 Tryz.underlying3 hi hz0 ⟨w.heap.size, 0, none⟩ 4 4 ((fourB n).map u8v) (by rw [hz1]; rfl) hc 60 (by omega) (by rw [hz1]; omega) (by omega) (by omega) (by rw [hz2]; omega) (by rw [hz2]; decide)
  have hrr := hr (w.alloc (.cells ((fourB n).map u8v).toArray 5)) 23 (Src.news (by
    intro j u hu
    rw [Nat.zero_add, cell_of (heap_alloc_new w _)]
    simpa using hu))
  clear hr hi hz0 hz1 hz2
  go_enter Tryz.func101, Tryz.ntmps101
  go_wp2_with (first
    | (go_at_call 114; refine (four_any _ _).mono ?_; rintro e w' ⟨rfl, rfl⟩)
    | (at_builtin; refine Lib.wpList_append_run _ rfl _ _ _ _ rfl _ _ rfl rfl _ _ hrr ?_))
  go_ret
  have hge : 64 ≤ grownCap (w.alloc (.cells ((fourB n).map u8v).toArray 5)) 64 4 5 := grownCap_ge _ 64 4 5
  have hle : grownCap (w.alloc (.cells ((fourB n).map u8v).toArray 5)) 64 4 5 ≤ maxLen := grownCap_le_maxLen _ 64 4 5 (by unfold maxLen; omega)
  generalize grownCap (w.alloc (.cells ((fourB n).map u8v).toArray 5)) 64 4 5 = cap at hge hle
  have hnew : ∀ o, ((w.alloc (.cells ((fourB n).map u8v).toArray 5)).drew.alloc o).heap[w.heap.size + 1]? = some o := fun o => by
    have := heap_alloc_new (w.alloc (.cells ((fourB n).map u8v).toArray 5)).drew o
    rwa [show (w.alloc (.cells ((fourB n).map u8v).toArray 5)).drew.heap.size = w.heap.size + 1 from by simp [World.drew]] at this
  refine ⟨_, w.heap.size + 1, rfl, ⟨w.heap.size + 1, cap, _, by rw [headB_length]; rfl, rfl, hnew _, by rw [headB_length]; exact hge, hle, ?_, ?_⟩, by omega, ?_⟩
  · rw [← Array.length_toList, Array.toList_append, Array.toList_append, zeroCells_u8, zeroCells_u8]
    simp [fourB]
    omega
  · rw [headB_length, Array.toList_append, Array.toList_append, zeroCells_u8, zeroCells_u8, ← List.append_assoc, List.take_left' (by simp [fourB])]
    simp [headB]
  · exact ((((Below.refl _ w).alloc (Nat.le_refl _) _).drew).alloc (by simp [World.drew]) _)
end Go.Proofs.YtjngphffgdjcfaaGreatDoor
