/- Words of numbers in plain arithmetic. -/
import Derived.Test.YtmoldheenagboaaLib6
import Derived.Laws.Strings
import Derived.IntWalk
set_option linter.unusedVariables false
set_option linter.unusedSectionVars false
set_option linter.unusedSimpArgs false
namespace Go.Ab
theorem zbn {a b : Int} (h1 : -9223372036854775808 ≤ a + b) (h2 : a + b ≤ 9223372036854775807) : addI .i64 a b = a + b := IntWalk.i64_in _ ⟨h1, h2⟩
theorem zjC {a b : Int} (h1 : -9223372036854775808 ≤ a - b) (h2 : a - b ≤ 9223372036854775807) : subI .i64 a b = a - b := IntWalk.i64_in _ ⟨h1, h2⟩
theorem zoa {a : Int} (h1 : -9223372036854775808 ≤ a) (h2 : a ≤ 9223372036854775807) : cvtI .i64 a = a := IntWalk.i64_in _ ⟨h1, h2⟩
theorem zgb {a : Int} (h1 : 0 ≤ a) (h2 : a ≤ 255) : cvtI .u8 a = a := IntWalk.u8_in _ ⟨h1, h2⟩
theorem zgJ {a : Int} (h1 : 0 ≤ a) (h2 : a ≤ 4294967295) : cvtI .u32 a = a := IntWalk.u32_in _ ⟨h1, h2⟩
theorem wrapU64 (a : Int) : IntKind.u64.wrap a = a % 18446744073709551616 := by simp [IntKind.wrap, IntKind.bits, IntKind.signed]
theorem zbQ {a : Int} (h1 : 0 ≤ a) (h2 : a ≤ 18446744073709551615) : cvtI .u64 a = a := by
 show IntKind.u64.wrap a = a
 rw [wrapU64]; omega
theorem zaU (a : Int) : cvtI .u8 a = a % 256 := IntKind.wrap_u8 a
theorem zaj {a b : Int} (h : 0 ≤ a) : remI a b = a % b := Int.tmod_eq_emod_of_nonneg h
theorem zr {α : Type} (xs : List α) (i : Nat) : getI xs (i : Int) = xs[i]? := by
 unfold getI
 rw [decide_eq_true (by omega)]
 rfl
theorem ze {α : Type} (xs : List α) : lenI xs = (xs.length : Int) := rfl
theorem zpn {x : Int} (h : (Lit.int .u8 x).wf = true) : 0 ≤ x ∧ x ≤ 255 := by
 simp only [Lit.wf, Bool.and_eq_true, decide_eq_true_eq, IntKind.min, IntKind.max, IntKind.signed, IntKind.bits] at h
 simpa using h
theorem zpf {x : Int} (h : (Lit.int .u32 x).wf = true) : 0 ≤ x ∧ x ≤ 4294967295 := by
 simp only [Lit.wf, Bool.and_eq_true, decide_eq_true_eq, IntKind.min, IntKind.max, IntKind.signed, IntKind.bits] at h
 simpa using h
theorem zhe {x : Int} (h : (Lit.int .u64 x).wf = true) : 0 ≤ x ∧ x ≤ 18446744073709551615 := by
 simp only [Lit.wf, Bool.and_eq_true, decide_eq_true_eq, IntKind.min, IntKind.max, IntKind.signed, IntKind.bits] at h
 simpa using h
theorem zcY {x : Int} (h : (Lit.int .i64 x).wf = true) : -9223372036854775808 ≤ x ∧ x ≤ 9223372036854775807 := by
 simp only [Lit.wf, Bool.and_eq_true, decide_eq_true_eq, IntKind.min, IntKind.max, IntKind.signed, IntKind.bits] at h
 simpa using h
def W32 (x : BitVec 32) : Int := (x.toNat : Int)
theorem zaK (x : BitVec 32) : 0 ≤ W32 x ∧ W32 x ≤ 4294967295 := by
 have := x.isLt
 unfold W32
 omega
theorem zoS {x y : BitVec 32} (h : W32 x = W32 y) : x = y := BitVec.eq_of_toNat_eq (by unfold W32 at h; omega)
theorem zlf {n : Int} (h1 : 0 ≤ n) (h2 : n ≤ 4294967295) : W32 (BitVec.ofInt 32 n) = n := by
 unfold W32
 rw [BitVec.toNat_ofInt]
 omega
theorem zbh (x : BitVec 32) : BitVec.ofInt 32 (W32 x) = x := by
 apply zoS
 exact zlf (zaK x).1 (zaK x).2
theorem zgc (a b : Int) : xorI .u32 a b = W32 (BitVec.ofInt 32 a ^^^ BitVec.ofInt 32 b) := IntWalk.u32_in _ (zaK _)
theorem zoN (a b : Int) : andI .u32 a b = W32 (BitVec.ofInt 32 a &&& BitVec.ofInt 32 b) := IntWalk.u32_in _ (zaK _)
theorem zlP (x : BitVec 32) : notI .u32 (W32 x) = W32 (~~~x) := by
 have h : notI .u32 (W32 x) = W32 (BitVec.ofInt 32 4294967295 ^^^ BitVec.ofInt 32 (W32 x)) := IntWalk.u32_in _ (zaK _)
 rw [h, zbh, show BitVec.ofInt 32 4294967295 = BitVec.allOnes 32 from rfl, BitVec.allOnes_xor]
theorem zol (x : BitVec 32) : shrI .u32 (W32 x) 1 = W32 (x >>> 1) := by
 show (W32 x).fdiv 2 = _
 unfold W32
 rw [BitVec.toNat_ushiftRight, Nat.shiftRight_eq_div_pow, Int.fdiv_eq_ediv_of_nonneg _ (by omega)]
 omega
theorem znw (x : BitVec 32) : quoI .u32 (W32 x) 2 = W32 (x >>> 1) := by
 show IntKind.u32.wrap ((W32 x).tdiv 2) = _
 have := zaK x
 rw [Int.tdiv_eq_ediv_of_nonneg this.1, IntWalk.u32_in _ (by omega)]
 unfold W32
 rw [BitVec.toNat_ushiftRight, Nat.shiftRight_eq_div_pow]
 omega
theorem zor {xs ys : List Int} (hx : ∀ x ∈ xs, 0 ≤ x ∧ x ≤ 255) (hy : ∀ x ∈ ys, 0 ≤ x ∧ x ≤ 255) : eqS (intsBytes xs) (intsBytes ys) = decide (xs = ys) := by
 have h : ∀ {zs : List Int}, (intsBytes zs).toList = zs.map fun n => UInt8.ofNat n.toNat := by
  intro zs
  unfold intsBytes
  exact ByteArray.toList_mk _
 unfold eqS
 rw [h, h]
 have hi : ∀ {xs ys : List Int}, (∀ x ∈ xs, 0 ≤ x ∧ x ≤ 255) → (∀ x ∈ ys, 0 ≤ x ∧ x ≤ 255) → xs.map (fun n => UInt8.ofNat n.toNat) = ys.map (fun n => UInt8.ofNat n.toNat) → xs = ys := by
  intro xs
  induction xs with
  | nil => intro ys _ _ h; cases ys with
   | nil => rfl
   | cons y ys => simp at h
  | cons x xs ih => intro ys hx hy h; cases ys with
   | nil => simp at h
   | cons y ys =>
    simp only [List.map_cons, List.cons.injEq] at h
    have h1 := hx x (by simp)
    have h2 := hy y (by simp)
    have h3 : (UInt8.ofNat x.toNat).toNat = (UInt8.ofNat y.toNat).toNat := by rw [h.1]
    rw [UInt8.toNat_ofNat', UInt8.toNat_ofNat'] at h3
    rw [ih (fun z hz => hx z (by simp [hz])) (fun z hz => hy z (by simp [hz])) h.2]
    have : x = y := by omega
    rw [this]
 cases hd : decide (xs = ys) with
 | true => rw [of_decide_eq_true hd]; simp
 | false =>
  have hne := of_decide_eq_false hd
  cases hb : (xs.map (fun n => UInt8.ofNat n.toNat) == ys.map (fun n => UInt8.ofNat n.toNat)) with
  | false => rfl
  | true => exact absurd (hi hx hy (eq_of_beq hb)) hne
end Go.Ab
