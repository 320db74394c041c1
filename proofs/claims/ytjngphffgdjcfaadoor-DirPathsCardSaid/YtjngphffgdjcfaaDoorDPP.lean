/-
  DirPaths, plain: what splitting its paths tells.
-/
import Derived.Test.YtjngphffgdjcfaaDoorDP
namespace Go.Proofs.YtjngphffgdjcfaaDoor
open Go.Lib

def wordsB : List ByteArray := [⟨#[]⟩, ⟨#[46]⟩, ⟨#[46, 46]⟩, ⟨#[97, 1]⟩, ⟨#[97, 127]⟩, ⟨#[97, 98, 99, 100, 101, 102, 103, 104, 105, 106, 107, 108, 109, 110, 111, 112, 113, 114, 115, 116, 117, 118, 119, 120, 121]⟩, ⟨#[255]⟩]
def letter (i : Nat) : ByteArray := ⟨#[UInt8.ofNat (97 + i)]⟩
def pS : Nat → ByteArray
  | 0 => ⟨#[]⟩
  | i + 1 => pS i ++ ⟨#[47, 110]⟩ ++ letter i ++ ⟨#[195, 169]⟩
def qS (k : Nat) (x : ByteArray) : Nat → ByteArray
  | 0 => ⟨#[]⟩
  | i + 1 => if i = k then qS k x i ++ ⟨#[47]⟩ ++ x else qS k x i ++ ⟨#[47, 120]⟩
theorem pS_last : ((List.range 8).all fun N => (splitD (pS (N + 1))).isSome && (((splitD (pS (N + 1))).getD []).length == N + 1) && ((((splitD (pS (N + 1))).getD [])[N]?.map (·.toList)) == some (⟨#[110]⟩ ++ letter N ++ ⟨#[195, 169]⟩ : ByteArray).toList)) = true := by kernel_rfl
theorem pS_many : ([9, 10, 11, 12].all fun N => (splitD (pS N)).isNone) = true := by kernel_rfl
theorem pS_slash : ((List.range 12).all fun N => (splitD (pS (N + 1) ++ ⟨#[47]⟩)).isNone) = true := by kernel_rfl
theorem pS_rest : ((List.range 12).all fun N => (splitD ((pS (N + 1)).extract 1 (pS (N + 1)).size)).isNone) = true := by kernel_rfl
theorem qS_bad : ((List.range 12).all fun N => (List.range (N + 1)).all fun k => wordsB.all fun x => (split8 (qS k x (N + 1))).isNone || (qS k x (N + 1)).toList == [47]) = true := by kernel_rfl
theorem pS_size : ∀ N : Nat, (pS N).size = 5 * N := by
  intro N
  induction N with
  | zero => rfl
  | succ N ih =>
    show (pS N ++ ⟨#[47, 110]⟩ ++ letter N ++ ⟨#[195, 169]⟩ : ByteArray).size = _
    simp only [ByteArray.size_append, ih]
    have h1 : (⟨#[47, 110]⟩ : ByteArray).size = 2 := rfl
    have h2 : (letter N).size = 1 := rfl
    have h3 : (⟨#[195, 169]⟩ : ByteArray).size = 2 := rfl
    omega
end Go.Proofs.YtjngphffgdjcfaaDoor
