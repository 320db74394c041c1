/-
  DERIVED: THE SHELF's CONTRACTS AT THIS DUMP, IN PLAIN WORDS (tools/lay-plain.mjs out of 'TryzShelf.lean', which tools/lay-shelf.mjs wrote): THE SAME DECLARATIONS UNDER THE SAME NAMES: 'import', 'namespace', 'open', 'def', 'theorem' AND NOTHING ELSE: no command of the shelf's: FOR A HAND-IN. Each laying: the table of numbers ('.._ren') and one theorem, a field a fact of the dump's own or the kernel's comparison; each contract: ONE APPLICATION.
-/
import Derived.Shelf.SlMaps.Copy
import Derived.Ground.SlmpProg
import Derived.Ground.SlgmProg
import Derived.Shelf.SlIterI.Nil
import Derived.Ground.GgzProg
import Derived.Shelf.SortM.Plain
import Derived.Shelf.SortM.SortNone
import Derived.Test.YtbnoebdpbpjbkaaGreatProg
namespace Go.Proofs
open Go.Shelf
def Tryz.sortA_ren : Go.Shelf.Ren := ⟨fun | 5 => 92 | 8 => 98 | 7 => 97 | 19 => 108 | 20 => 109 | 10 => 99 | 11 => 100 | 12 => 101 | 13 => 102 | 14 => 103 | 15 => 104 | 16 => 105 | 17 => 106 | 18 => 107 | 30 => 110 | 31 => 111 | 32 => 112 | 33 => 113 | 34 => 114 | 35 => 115 | 40 => 116 | n => n, fun | 23 => 29 | 25 => 3 | 3 => 3 | 32 => 112 | 22 => 29 | 0 => 0 | 44 => 145 | 46 => 147 | 4 => 4 | 36 => 138 | 35 => 137 | 41 => 142 | 5 => 5 | 9 => 9 | 53 => 148 | 57 => 152 | 63 => 154 | 64 => 45 | n => n, fun | n => n⟩
theorem Tryz.sortA : Go.Proofs.SlLaysM.n5 Tryz.prog Tryz.sortA_ren := {
  mixed := by kernel_rfl
  f5 := ⟨Tryz.f92.name, by decide, Tryz.func92.trans (congrArg some (by kernel_rfl))⟩
  f7 := ⟨Tryz.f97.name, by decide, Tryz.func97.trans (congrArg some (by kernel_rfl))⟩
  f8 := Tryz.func98.trans (congrArg some (by kernel_rfl))
  f10 := ⟨Tryz.f99.name, by decide, Tryz.func99.trans (congrArg some (by kernel_rfl))⟩
  f11 := ⟨Tryz.f100.name, by decide, Tryz.func100.trans (congrArg some (by kernel_rfl))⟩
  f12 := ⟨Tryz.f101.name, by decide, Tryz.func101.trans (congrArg some (by kernel_rfl))⟩
  f13 := ⟨Tryz.f102.name, by decide, Tryz.func102.trans (congrArg some (by kernel_rfl))⟩
  f14 := ⟨Tryz.f103.name, by decide, Tryz.func103.trans (congrArg some (by kernel_rfl))⟩
  f15 := ⟨Tryz.f104.name, by decide, Tryz.func104.trans (congrArg some (by kernel_rfl))⟩
  f16 := ⟨Tryz.f105.name, by decide, Tryz.func105.trans (congrArg some (by kernel_rfl))⟩
  f17 := ⟨Tryz.f106.name, by decide, Tryz.func106.trans (congrArg some (by kernel_rfl))⟩
  f18 := ⟨Tryz.f107.name, by decide, Tryz.func107.trans (congrArg some (by kernel_rfl))⟩
  f19 := Tryz.func108.trans (congrArg some (by kernel_rfl))
  f20 := Tryz.func109.trans (congrArg some (by kernel_rfl))
  f30 := ⟨Tryz.f110.name, by decide, Tryz.func110.trans (congrArg some (by kernel_rfl))⟩
  f31 := Tryz.func111.trans (congrArg some (by kernel_rfl))
  f32 := Tryz.func112.trans (congrArg some (by kernel_rfl))
  f33 := ⟨Tryz.f113.name, by decide, Tryz.func113.trans (congrArg some (by kernel_rfl))⟩
  f34 := ⟨Tryz.f114.name, by decide, Tryz.func114.trans (congrArg some (by kernel_rfl))⟩
  f35 := ⟨Tryz.f115.name, by decide, Tryz.func115.trans (congrArg some (by kernel_rfl))⟩
  f40 := ⟨Tryz.f116.name, by decide, Tryz.func116.trans (congrArg some (by kernel_rfl))⟩
  t0 := Tryz.underlying0
  a0 := Tryz.isAgg0
  z0 := Tryz.sizeOf0
  v0 := Tryz.zeroValue0
  t3 := Tryz.underlying3
  a3 := Tryz.isAgg3
  z3 := Tryz.sizeOf3
  v3 := Tryz.zeroValue3
  t4 := Tryz.underlying4
  a4 := Tryz.isAgg4
  z4 := Tryz.sizeOf4
  v4 := Tryz.zeroValue4
  t5 := Tryz.underlying5
  a5 := Tryz.isAgg5
  z5 := Tryz.sizeOf5
  v5 := Tryz.zeroValue5
  t9 := Tryz.underlying9
  a9 := Tryz.isAgg9
  z9 := Tryz.sizeOf9
  v9 := Tryz.zeroValue9
  t22 := Tryz.underlying29
  a22 := Tryz.isAgg29
  z22 := Tryz.sizeOf29
  v22 := Tryz.zeroValue29
  t23 := Tryz.underlying29
  a23 := Tryz.isAgg29
  z23 := Tryz.sizeOf29
  v23 := Tryz.zeroValue29
  t25 := Tryz.underlying3
  a25 := Tryz.isAgg3
  z25 := Tryz.sizeOf3
  v25 := Tryz.zeroValue3
  t32 := Tryz.underlying112
  a32 := Tryz.isAgg112
  z32 := Tryz.sizeOf112
  v32 := Tryz.zeroValue112
  t35 := Tryz.underlying137
  a35 := Tryz.isAgg137
  z35 := Tryz.sizeOf137
  v35 := Tryz.zeroValue137
  t36 := Tryz.underlying138
  a36 := Tryz.isAgg138
  z36 := Tryz.sizeOf138
  v36 := Tryz.zeroValue138
  t41 := Tryz.underlying142
  a41 := Tryz.isAgg142
  z41 := Tryz.sizeOf142
  v41 := Tryz.zeroValue142
  t44 := Tryz.underlying145
  a44 := Tryz.isAgg145
  z44 := Tryz.sizeOf145
  v44 := Tryz.zeroValue145
  t46 := Tryz.underlying147
  a46 := Tryz.isAgg147
  z46 := Tryz.sizeOf147
  v46 := Tryz.zeroValue147
  t53 := Tryz.underlying148
  a53 := Tryz.isAgg148
  z53 := Tryz.sizeOf148
  v53 := Tryz.zeroValue148
  t57 := Tryz.underlying152
  a57 := Tryz.isAgg152
  z57 := Tryz.sizeOf152
  v57 := Tryz.zeroValue152
  t63 := Tryz.underlying154
  a63 := Tryz.isAgg154
  z63 := Tryz.sizeOf154
  v63 := Tryz.zeroValue154
  t64 := Tryz.underlying45
  a64 := Tryz.isAgg45
  z64 := Tryz.sizeOf45
  v64 := Tryz.zeroValue45 }
open Go.Sort Go.RowKit in
theorem Tryz.slices_Sort_int (blk off cap : Nat) (zs : List Int) (w : World) (hH : Holds (Value.int .i64) w blk off zs.toArray) (hblk : blk < w.heap.size) (hsz : zs.length < 4611686018427387904) :
    Calls Tryz.prog 92 #[.slice (some ⟨blk, off, none⟩) zs.length cap] w fun e w' =>
      e = .returned (.tuple #[]) ∧ ∃ n os, w' = grow (putRow (Value.int .i64) (Sort.ahead w n) blk off (zs.mergeSort fun x y => decide (x ≤ y)).toArray) os := AnyM.slices_Sort_int Tryz.sortA blk off cap zs w hH hblk hsz
open Go.RowKit Go.Sort in
/-- .. and plain. (LAID AT THE INSTANCE 'slices.Sort[[]int,int]': no walk: one application.) -/
theorem Tryz.slices_Sort_int_none (p : Option Addr) (cap : Nat) (w : World) :
    Calls Tryz.prog 92 #[.slice p 0 cap] w fun e w' => e = .returned (.tuple #[]) ∧ w' = w := AnyM.slices_Sort_int_none Tryz.sortA p cap w
def Tryz.keysB_ren : Go.Shelf.Ren := ⟨fun | 7 => 82 | 10 => 93 | n => n, fun | 23 => 78 | 26 => 3 | 3 => 35 | 28 => 127 | 0 => 0 | 27 => 126 | 33 => 96 | 4 => 4 | n => n, fun | n => n⟩
theorem Tryz.keysB : Go.Proofs.SlLaysZI.n7 Tryz.prog Tryz.keysB_ren := {
  mixed := by kernel_rfl
  f7 := ⟨Tryz.f82.name, by decide, Tryz.func82.trans (congrArg some (by kernel_rfl))⟩
  f10 := ⟨Tryz.f93.name, by decide, Tryz.func93.trans (congrArg some (by kernel_rfl))⟩
  t0 := Tryz.underlying0
  a0 := Tryz.isAgg0
  z0 := Tryz.sizeOf0
  v0 := Tryz.zeroValue0
  t4 := Tryz.underlying4
  a4 := Tryz.isAgg4
  z4 := Tryz.sizeOf4
  v4 := Tryz.zeroValue4
  t23 := Tryz.underlying78
  a23 := Tryz.isAgg78
  z23 := Tryz.sizeOf78
  v23 := Tryz.zeroValue78
  t26 := Tryz.underlying3
  a26 := Tryz.isAgg3
  z26 := Tryz.sizeOf3
  v26 := Tryz.zeroValue3
  t27 := Tryz.underlying126
  a27 := Tryz.isAgg126
  z27 := Tryz.sizeOf126
  v27 := Tryz.zeroValue126
  t28 := Tryz.underlying127
  a28 := Tryz.isAgg127
  z28 := Tryz.sizeOf127
  v28 := Tryz.zeroValue127
  t33 := Tryz.underlying96
  a33 := Tryz.isAgg96
  z33 := Tryz.sizeOf96
  v33 := Tryz.zeroValue96 }
def Tryz.sortedA_ren : Go.Shelf.Ren := ⟨fun | 6 => 81 | 8 => 91 | 9 => 92 | 11 => 96 | 13 => 98 | 12 => 97 | 23 => 108 | 24 => 109 | 14 => 99 | 15 => 100 | 16 => 101 | 17 => 102 | 18 => 103 | 19 => 104 | 20 => 105 | 21 => 106 | 22 => 107 | 25 => 110 | 26 => 111 | 27 => 112 | 28 => 113 | 29 => 114 | 30 => 115 | 31 => 116 | n => n, fun | 26 => 3 | 28 => 127 | 24 => 29 | 0 => 0 | 3 => 3 | 37 => 112 | 48 => 145 | 50 => 147 | 4 => 4 | 40 => 138 | 39 => 137 | 45 => 142 | 5 => 5 | 9 => 9 | 51 => 148 | 55 => 152 | 57 => 154 | 58 => 45 | 33 => 96 | n => n, fun | n => n⟩
theorem Tryz.sortedA : Go.Proofs.SlLaysZI.n6 Tryz.prog Tryz.sortedA_ren := {
  mixed := by kernel_rfl
  f6 := ⟨Tryz.f81.name, by decide, Tryz.func81.trans (congrArg some (by kernel_rfl))⟩
  f8 := ⟨Tryz.f91.name, by decide, Tryz.func91.trans (congrArg some (by kernel_rfl))⟩
  f11 := ⟨Tryz.f96.name, by decide, Tryz.func96.trans (congrArg some (by kernel_rfl))⟩
  t0 := Tryz.underlying0
  a0 := Tryz.isAgg0
  z0 := Tryz.sizeOf0
  v0 := Tryz.zeroValue0
  t24 := Tryz.underlying29
  a24 := Tryz.isAgg29
  z24 := Tryz.sizeOf29
  v24 := Tryz.zeroValue29
  t26 := Tryz.underlying3
  a26 := Tryz.isAgg3
  z26 := Tryz.sizeOf3
  v26 := Tryz.zeroValue3
  t28 := Tryz.underlying127
  a28 := Tryz.isAgg127
  z28 := Tryz.sizeOf127
  v28 := Tryz.zeroValue127
  i26 := by kernel_rfl }
def Tryz.copyM_ren : Go.Shelf.Ren := ⟨fun | 5 => 34 | n => n, fun | 23 => 78 | 24 => 78 | 26 => 3 | 27 => 35 | 0 => 0 | 4 => 4 | n => n, fun | n => n⟩
theorem Tryz.copyM : Go.Proofs.SlLaysX.n5 Tryz.prog Tryz.copyM_ren := {
  mixed := by kernel_rfl
  f5 := ⟨Tryz.f34.name, by decide, Tryz.func34.trans (congrArg some (by kernel_rfl))⟩
  t0 := Tryz.underlying0
  a0 := Tryz.isAgg0
  z0 := Tryz.sizeOf0
  v0 := Tryz.zeroValue0
  t4 := Tryz.underlying4
  a4 := Tryz.isAgg4
  z4 := Tryz.sizeOf4
  v4 := Tryz.zeroValue4
  t23 := Tryz.underlying78
  a23 := Tryz.isAgg78
  z23 := Tryz.sizeOf78
  v23 := Tryz.zeroValue78
  t24 := Tryz.underlying78
  a24 := Tryz.isAgg78
  z24 := Tryz.sizeOf78
  v24 := Tryz.zeroValue78
  a26 := Tryz.isAgg3
  z26 := Tryz.sizeOf3
  a27 := Tryz.isAgg35
  z27 := Tryz.sizeOf35 }
end Go.Proofs
