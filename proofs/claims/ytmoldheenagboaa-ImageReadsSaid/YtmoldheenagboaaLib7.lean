import Derived.Test.YtmoldheenagboaaLib6
import Derived.Laws.Strings
import Derived.IntWalk
set_option linter.unusedVariables false
set_option linter.unusedSimpArgs false
namespace Go.Ab
theorem mT {a b : Int} (z : -9223372036854775808 ≤ a + b) (H : a + b ≤ 9223372036854775807) : dQ .i64 a b = a + b := IntWalk.i64_in _ ⟨z, H⟩
theorem F3 {a b : Int} (z : -9223372036854775808 ≤ a - b) (H : a - b ≤ 9223372036854775807) : oY .i64 a b = a - b := IntWalk.i64_in _ ⟨z, H⟩
theorem KR {a : Int} (z : -9223372036854775808 ≤ a) (H : a ≤ 9223372036854775807) : bY .i64 a = a := IntWalk.i64_in _ ⟨z, H⟩
theorem AG {a : Int} (z : 0 ≤ a) (H : a ≤ 255) : bY .u8 a = a := IntWalk.u8_in _ ⟨z, H⟩
theorem BS {a : Int} (z : 0 ≤ a) (H : a ≤ 4294967295) : bY .u32 a = a := IntWalk.u32_in _ ⟨z, H⟩
theorem wV (a : Int) : IntKind.u64.wrap a = a % 18446744073709551616 := by simp [IntKind.wrap, IntKind.bits, IntKind.signed]
theorem mZ {a : Int} (h1 : 0 ≤ a) (h2 : a ≤ 18446744073709551615) : bY .u64 a = a := by
 show IntKind.u64.wrap a = a
 rw [wV]; omega
theorem jJ (a : Int) : bY .u8 a = a % 256 := IntKind.wrap_u8 a
theorem fA {a b : Int} (h : 0 ≤ a) : y5 a b = a % b := Int.tmod_eq_emod_of_nonneg h
theorem fI {α : Type} (xs : List α) (i : Nat) : c0 xs (i : Int) = xs[i]? := by
 unfold c0
 rw [decide_eq_true (by omega)]
 rfl
theorem bG {α : Type} (xs : List α) : bV xs = (xs.length : Int) := rfl
theorem MG {x : Int} (h : (Lit.int .u8 x).wf = true) : 0 ≤ x ∧ x ≤ 255 := by
 simp only [Lit.wf, yc, decide_eq_true_eq, IntKind.min, IntKind.max, IntKind.signed, IntKind.bits] at h
 simpa using h
def dD (x : BitVec 32) : Int := (x.toNat : Int)
theorem lA (x : BitVec 32) : 0 ≤ dD x ∧ dD x ≤ 4294967295 := by
 have := x.isLt
 unfold dD
 omega
theorem Ll {x y : BitVec 32} (h : dD x = dD y) : x = y := BitVec.eq_of_toNat_eq (by unfold dD at h; omega)
theorem Hz {n : Int} (h1 : 0 ≤ n) (h2 : n ≤ 4294967295) : dD (BitVec.ofInt 32 n) = n := by
 unfold dD
 rw [BitVec.toNat_ofInt]
 omega
theorem kD (x : BitVec 32) : BitVec.ofInt 32 (dD x) = x := by
 apply Ll
 exact Hz (lA x).1 (lA x).2
theorem AT (a b : Int) : CB .u32 a b = dD (BitVec.ofInt 32 a ^^^ BitVec.ofInt 32 b) := IntWalk.u32_in _ (lA _)
theorem LQ (a b : Int) : K3 .u32 a b = dD (BitVec.ofInt 32 a &&& BitVec.ofInt 32 b) := IntWalk.u32_in _ (lA _)
theorem Ir (x : BitVec 32) : HU .u32 (dD x) = dD (~~~x) := by
 have h : HU .u32 (dD x) = dD (BitVec.ofInt 32 4294967295 ^^^ BitVec.ofInt 32 (dD x)) := IntWalk.u32_in _ (lA _)
 rw [h, kD, show BitVec.ofInt 32 4294967295 = BitVec.allOnes 32 from rfl, BitVec.allOnes_xor]
theorem Ki (x : BitVec 32) : Ar .u32 (dD x) 1 = dD (x >>> 1) := by
 show (dD x).fdiv 2 = _
 unfold dD
 rw [BitVec.toNat_ushiftRight, Nat.shiftRight_eq_div_pow, Int.fdiv_eq_ediv_of_nonneg _ (by omega)]
 omega
theorem Kw (x : BitVec 32) : p6 .u32 (dD x) 2 = dD (x >>> 1) := by
 show IntKind.u32.wrap ((dD x).tdiv 2) = _
 have := lA x
 rw [yz2 this.1, IntWalk.u32_in _ (by omega)]
 unfold dD
 rw [BitVec.toNat_ushiftRight, Nat.shiftRight_eq_div_pow]
 omega
theorem Kr {xs H : List Int} (J : ∀ x ∈ xs, 0 ≤ x ∧ x ≤ 255) (K : ∀ x ∈ H, 0 ≤ x ∧ x ≤ 255) : L4 (c4 xs) (c4 H) = decide (xs = H) := by
 have h : ∀ {U : List Int}, (c4 U).toList = U.map fun n => UInt8.ofNat n.toNat := by
  intro U
  unfold c4
  exact ByteArray.toList_mk _
 unfold L4
 rw [h, h]
 have Y : ∀ {xs H : List Int}, (∀ x ∈ xs, 0 ≤ x ∧ x ≤ 255) → (∀ x ∈ H, 0 ≤ x ∧ x ≤ 255) → xs.map (fun n => UInt8.ofNat n.toNat) = H.map (fun n => UInt8.ofNat n.toNat) → xs = H := by
  intro xs
  induction xs with
  | nil => intro H _ _ h; cases H with
   | nil => rfl
   | cons y H => simp at h
  | cons x xs W => intro H J K h; cases H with
   | nil => simp at h
   | cons y H =>
    simp only [yc2, List.cons.injEq] at h
    have h1 := J x (by simp)
    have h2 := K y (by simp)
    have Z : (UInt8.ofNat x.toNat).toNat = (UInt8.ofNat y.toNat).toNat := by rw [h.1]
    rw [UInt8.toNat_ofNat', UInt8.toNat_ofNat'] at Z
    rw [W (fun z O => J z (by simp [O])) (fun z O => K z (by simp [O])) h.2]
    have : x = y := by omega
    rw [this]
 cases V : decide (xs = H) with
 | true => rw [of_decide_eq_true V]; simp
 | false =>
  have N := of_decide_eq_false V
  cases hb : (xs.map (fun n => UInt8.ofNat n.toNat) == H.map (fun n => UInt8.ofNat n.toNat)) with
  | false => rfl
  | true => exact absurd (Y J K (eq_of_beq hb)) N
end Go.Ab
