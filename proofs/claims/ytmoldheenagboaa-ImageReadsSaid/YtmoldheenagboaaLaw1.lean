/- Plain laws. -/
import Derived.Test.YtmoldheenagboaaImgSh
import Derived.Test.YtmoldheenagboaaLib8
import Derived.Test.YtmoldheenagboaaLib31
set_option linter.unusedVariables false
set_option linter.unusedSimpArgs false
section
namespace Sx
open Go Go.Ab
def it {α : Type} (f : α → α) : Nat → α → α
 | 0, x => x
 | k + 1, x => f (it f k x)
def KB (x : BitVec 32) : BitVec 32 := (x >>> 1) ^^^ (bif x.getLsbD 0 then 0xedb88320#32 else 0#32)
def M5 (x : BitVec 32) (c : Int) : BitVec 32 := it KB 8 (x ^^^ BitVec.ofInt 32 c)
def Gy (x : BitVec 32) (b : List Int) : BitVec 32 := b.foldl M5 x
def w6 (b : List Int) : BitVec 32 := ~~~(Gy 0xffffffff#32 b)
def aX (b : List Int) : Prop := ∀ x ∈ b, 0 ≤ x ∧ x ≤ 255
theorem LI (x : BitVec 32) : (dD x) % 2 = (bif x.getLsbD 0 then 1 else 0) := by
 unfold dD
 have h : x.getLsbD 0 = decide (x.toNat % 2 = 1) := by
  rw [BitVec.getLsbD, Nat.testBit_zero]
 rw [h]
 cases z : decide (x.toNat % 2 = 1) with
 | true => have := of_decide_eq_true z; simp only [yg]; omega
 | false => have := of_decide_eq_false z; simp only [yh]; omega
theorem LM (x : BitVec 32) : K3 .u32 (dD x) 1 = (bif x.getLsbD 0 then 1 else 0) := by
 rw [LQ, kD, show BitVec.ofInt 32 1 = 1#32 from rfl, BitVec.and_one_eq_setWidth_ofBool_getLsbD]
 cases x.getLsbD 0 <;> rfl
theorem Mm (x : BitVec 32) : CB .u32 (Ar .u32 (dD x) 1) (mX .u32 3988292384 (K3 .u32 (dD x) 1)) = dD (KB x) := by
 rw [AT, Ki, kD, LM]
 unfold KB
 cases x.getLsbD 0 <;> rfl
theorem LS (x : BitVec 32) : (bif (y5 (dD x) 2) == 1 then CB .u32 (p6 .u32 (dD x) 2) 3988292384 else p6 .u32 (dD x) 2) = dD (KB x) := by
 rw [fA (lA x).1, LI, Kw]
 unfold KB
 cases x.getLsbD 0 with
 | false =>
  show dD (x >>> 1) = dD (x >>> 1 ^^^ 0#32)
  rw [BitVec.xor_zero]
 | true =>
  show CB .u32 (dD (x >>> 1)) 3988292384 = _
  rw [AT, kD]; rfl
theorem Nc (n : Nat) (x : BitVec 32) (a : List Int) (b c : Int) (hn : 9 ≤ n) : qax_W2 n (dD x, a, b, c, 0) = some (dD (it KB 8 x), a, b, c) := by
 refine nB (f := fun i => (dD (it KB i x), a, b, c, (i : Int))) (k := 8) (fun i hi => ?_) ?_ 8 0 n rfl (by omega)
 ·show qax_B2 n _ _ _ _ _ = _
  dsimp only
  unfold qax_B2
  rw [decide_eq_true (by omega), yg, Mm, mT (by omega) (by omega)]
  rfl
 ·rfl
theorem B9 {α β : Type} (f : β → α → β) (x : β) (l : List α) (i : Nat) (c : α) (h : l[i]? = some c) : (l.take (i + 1)).foldl f x = f ((l.take i).foldl f x) c := by
 rw [List.take_add_one, h, List.foldl_append]
 rfl
theorem MK (n : Nat) (b : List Int) (N : aX b) (hl : b.length ≤ 4294967296) (hn : b.length + 9 ≤ n) : qax_W0 n (4294967295, (b, ((bV b), 0))) = some (dD (Gy 0xffffffff#32 b)) := by
 have := nB (B := fun s => qax_B0 n s.1 s.2.1 s.2.2.1 s.2.2.2) (f := fun i => (dD (Gy 0xffffffff#32 (b.take i)), b, bV b, (i : Int))) (k := b.length) (x := dD (Gy 0xffffffff#32 b)) (fun i J => ?_) ?_ b.length 0 n (by omega) (by omega)
 ·exact this
 ·show qax_B0 n _ _ _ _ = _
  dsimp only
  unfold qax_B0
  have H : b[i]? = some b[i] := ye J
  have K := N b[i] (ya3 J)
  rw [bG, decide_eq_true (by omega), yg, fI, H]
  show ((qax_W2 n (CB .u32 (dD (Gy 0xffffffff#32 (b.take i))) (bY .u32 b[i]), b, (b.length : Int), (i : Int), 0)).bind fun z => some (Sum.inl (z.1, (z.2.1, (z.2.2.1, (dQ .i64 z.2.2.2 1)))))) = _
  rw [BS K.1 (by omega), AT, kD, Nc _ _ _ _ _ (by omega)]
  show some (Sum.inl (dD (M5 (Gy 0xffffffff#32 (b.take i)) b[i]), b, (b.length : Int), dQ .i64 (i : Int) 1)) = _
  rw [mT (by omega) (by omega)]
  have : Gy 0xffffffff#32 (b.take (i + 1)) = M5 (Gy 0xffffffff#32 (b.take i)) b[i] := B9 _ _ _ _ _ H
  rw [← this]
  rfl
 ·show qax_B0 n _ _ _ _ = _
  dsimp only
  unfold qax_B0
  rw [bG, decide_eq_false (by omega), yh, List.take_length]
theorem of_eq (n : Nat) (b : List Int) (J : aX b) (H : b.length ≤ 4294967296) (z : b.length + 9 ≤ n) : qax n b = some (dD (w6 b)) := by
 unfold qax
 rw [MK n b J H z]
 show some (HU .u32 (dD (Gy 0xffffffff#32 b))) = _
 rw [Ir]
 rfl
theorem Md (n : Nat) (b : List Int) (x : BitVec 32) (c : Int) (hn : 9 ≤ n) : qat_W2 n (b, dD x, c, 0) = some (b, dD (it KB 8 x), c) := by
 refine nB (f := fun i => (b, dD (it KB i x), c, (i : Int))) (k := 8) (fun i hi => ?_) ?_ 8 0 n rfl (by omega)
 ·show qat_B2 n _ _ _ _ = _
  dsimp only
  unfold qat_B2
  have h := LS (it KB i x)
  rw [decide_eq_true (by omega), yg, mT (by omega) (by omega)]
  cases z : y5 (dD (it KB i x)) 2 == 1 with
  | true => rw [z, yg] at h; rw [yg, h]; rfl
  | false => rw [z, yh] at h; rw [yh, h]; rfl
 ·rfl
theorem L8 (n : Nat) (b : List Int) (N : aX b) (hl : b.length ≤ 4294967296) (hn : b.length + 9 ≤ n) : qat_W0 n (b, (4294967295, 0)) = some (dD (Gy 0xffffffff#32 b)) := by
 have := nB (B := fun s => qat_B0 n s.1 s.2.1 s.2.2) (f := fun i => (b, dD (Gy 0xffffffff#32 (b.take i)), (i : Int))) (k := b.length) (x := dD (Gy 0xffffffff#32 b)) (fun i J => ?_) ?_ b.length 0 n (by omega) (by omega)
 ·exact this
 ·show qat_B0 n _ _ _ = _
  dsimp only
  unfold qat_B0
  have H : b[i]? = some b[i] := ye J
  have K := N b[i] (ya3 J)
  rw [bG, decide_eq_true (by omega), yg, fI, H]
  show ((qat_W2 n (b, CB .u32 (dD (Gy 0xffffffff#32 (b.take i))) (bY .u32 b[i]), (i : Int), 0)).bind fun z => some (Sum.inl (z.1, (z.2.1, (dQ .i64 z.2.2 1))))) = _
  rw [BS K.1 (by omega), AT, kD, Md _ _ _ _ (by omega)]
  show some (Sum.inl (b, dD (M5 (Gy 0xffffffff#32 (b.take i)) b[i]), dQ .i64 (i : Int) 1)) = _
  rw [mT (by omega) (by omega)]
  have : Gy 0xffffffff#32 (b.take (i + 1)) = M5 (Gy 0xffffffff#32 (b.take i)) b[i] := B9 _ _ _ _ _ H
  rw [← this]
  rfl
 ·show qat_B0 n _ _ _ = _
  dsimp only
  unfold qat_B0
  rw [bG, decide_eq_false (by omega), yh, List.take_length]
theorem I2 (n : Nat) (b : List Int) (J : aX b) (H : b.length ≤ 4294967296) (z : b.length + 9 ≤ n) : qat n b = some (dD (w6 b)) := by
 unfold qat
 rw [L8 n b J H z]
 show some (HU .u32 (dD (Gy 0xffffffff#32 b))) = _
 rw [Ir]
 rfl
def CW (x : BitVec 32) : List Int := [dD x % 256, dD x / 256 % 256, dD x / 65536 % 256, dD x / 16777216 % 256]
theorem Kh (n : Nat) (x : BitVec 32) (hn : 5 ≤ n) : qas n (dD x) 4 = some (CW x) := by
 obtain ⟨m, rfl⟩ : ∃ m, n = m + 5 := ⟨n - 5, by omega⟩
 have h : qas (m + 5) (dD x) 4 = some [bY .u8 (Ar .u64 (dD x) 0), bY .u8 (Ar .u64 (dD x) 8), bY .u8 (Ar .u64 (dD x) 16), bY .u8 (Ar .u64 (dD x) 24)] := rfl
 have hx := lA x
 rw [h]
 have e : ∀ (k : Int) (d : Int), 0 < d → 2 ^ (min k.toNat 64) = d → bY .u8 (Ar .u64 (dD x) k) = dD x / d % 256 := by
  intro k d hd z
  rw [jJ]
  show (dD x).fdiv (2 ^ (min k.toNat 64)) % 256 = _
  rw [z, Int.fdiv_eq_ediv_of_nonneg _ (by omega)]
 rw [e 0 1 (by omega) rfl, e 8 256 (by omega) rfl, e 16 65536 (by omega) rfl, e 24 16777216 (by omega) rfl, Int.ediv_one]
 rfl
theorem pW (n : Nat) (x : BitVec 32) (hn : 5 ≤ n) : qah n (dD x) 4 = some (CW x) := by
 obtain ⟨m, rfl⟩ : ∃ m, n = m + 5 := ⟨n - 5, by omega⟩
 have h : qah (m + 5) (dD x) 4 = some [bY .u8 (y5 (dD x) 256), bY .u8 (y5 (p6 .u64 (dD x) 256) 256), bY .u8 (y5 (p6 .u64 (p6 .u64 (dD x) 256) 256) 256), bY .u8 (y5 (p6 .u64 (p6 .u64 (p6 .u64 (dD x) 256) 256) 256) 256)] := rfl
 have hx := lA x
 have q : ∀ v : Int, 0 ≤ v → v ≤ 4294967295 → p6 .u64 v 256 = v / 256 := by
  intro v H h2
  show IntKind.u64.wrap (v.tdiv 256) = _
  rw [yz2 H, wV]
  omega
 rw [h, q (dD x) (by omega) (by omega), q (dD x / 256) (by omega) (by omega), q (dD x / 256 / 256) (by omega) (by omega), fA (by omega), fA (by omega), fA (by omega), fA (by omega),
  jJ, jJ, jJ, jJ]
 unfold CW
 have J : dD x / 256 / 256 = dD x / 65536 := by omega
 have z : dD x / 65536 / 256 = dD x / 16777216 := by omega
 rw [J, z]
 simp
theorem C7 (x : BitVec 32) : aX (CW x) := by
 intro y z
 simp only [CW, yf1, List.not_mem_nil, or_false] at z
 rcases z with rfl | rfl | rfl | rfl <;> omega
def zL (b : List Int) : List Int := b ++ CW (w6 b)
theorem Hc {b : List Int} (h : aX b) : aX (zL b) := by
 intro x z
 rcases yj1.1 z with z | z
 ·exact h x z
 ·exact C7 _ x z
theorem Lj (n : Nat) (b : List Int) (N : aX b) (hl : b.length ≤ 4294967000) (H : b.length + 9 ≤ n) : qau n b = some (zL b) := by
 unfold qau
 have J : Nat.ble b.length 4294967296 = true := yv2 (by omega)
 have K : Nat.ble (b ++ CW (w6 b)).length 4294967296 = true := yv2 (by simp [CW]; omega)
 have hw := lA (w6 b)
 rw [J, yg, of_eq n b N (by omega) H]
 show ((qas n (bY .u64 (dD (w6 b))) 4).bind fun z => bif (Nat.ble (b ++ z).length 4294967296) then some (b ++ z) else none) = _
 rw [mZ (by omega) (by omega), Kh n _ (by omega)]
 show (bif (Nat.ble (b ++ CW (w6 b)).length 4294967296) then some (b ++ CW (w6 b)) else none) = _
 rw [K]
 rfl
theorem sP (n : Nat) (b : List Int) (N : aX b) (hl : b.length ≤ 4294967000) (H : b.length + 9 ≤ n) : qal n b = some (zL b) := by
 unfold qal
 have J : Nat.ble b.length 4294967296 = true := yv2 (by omega)
 have K : Nat.ble (b ++ CW (w6 b)).length 4294967296 = true := yv2 (by simp [CW]; omega)
 have hw := lA (w6 b)
 rw [J, yg, I2 n b N (by omega) H]
 show ((qah n (bY .u64 (dD (w6 b))) 4).bind fun z => bif (Nat.ble (b ++ z).length 4294967296) then some (b ++ z) else none) = _
 rw [mZ (by omega) (by omega), pW n _ (by omega)]
 show (bif (Nat.ble (b ++ CW (w6 b)).length 4294967296) then some (b ++ CW (w6 b)) else none) = _
 rw [K]
 rfl
theorem Iv (n : Nat) (a b : List Int) (N : a.length = b.length) (W : a.length ≤ 4294967296) : ∀ (j i m : Nat), i + j = a.length → j < m → bI (fun s => qaq_B0 n s.1 s.2.1 s.2.2) m (a, b, (i : Int)) = some (if a.drop i = b.drop i then Sum.inr () else Sum.inl false)
 | 0, i, m + 1, U, H => by
  have : i = a.length := by omega
  subst this
  have h : qaq_B0 n a b (a.length : Int) = some (Sum.inr (Sum.inr ())) := by
   unfold qaq_B0
   rw [bG, decide_eq_false (by omega), yh]
  rw [cQ (s := (a, b, (a.length : Int))) (x := Sum.inr ()) h]
  rw [List.drop_length, N, List.drop_length, if_pos rfl]
 | j + 1, i, m + 1, U, H => by
  have O : a[i]? = some a[i] := ye (by omega)
  have V : b[i]? = some b[i] := ye (by omega)
  have da : a.drop i = a[i] :: a.drop (i + 1) := ys2 (by omega)
  have db : b.drop i = b[i] :: b.drop (i + 1) := ys2 (by omega)
  have h : qaq_B0 n a b (i : Int) = if a[i] = b[i] then some (Sum.inl (a, b, ((i + 1 : Nat) : Int))) else some (Sum.inr (Sum.inl false)) := by
   unfold qaq_B0
   rw [bG, decide_eq_true (by omega), yg, fI, O, fI, V]
   show (bif a[i] != b[i] then some (Sum.inr (Sum.inl false)) else some (Sum.inl (a, b, dQ .i64 (i : Int) 1))) = _
   rw [mT (by omega) (by omega)]
   by_cases z : a[i] = b[i]
   ·rw [if_pos z, z, bne_self_eq_false, yh]; rfl
   ·rw [if_neg z, bne_iff_ne.2 z, yg]
  by_cases z : a[i] = b[i]
  ·rw [if_pos z] at h
   have J : (a.drop i = b.drop i) ↔ (a.drop (i + 1) = b.drop (i + 1)) := by rw [da, db, z]; exact ⟨fun h => (yx h).2, fun h => by rw [h]⟩
   rw [gI (s := (a, b, (i : Int))) (s' := (a, b, ((i + 1 : Nat) : Int))) h, Iv n a b N W j (i + 1) m (by omega) (by omega)]
   simp only [J]
  ·rw [if_neg z] at h
   have K : ¬ (a.drop i = b.drop i) := by rw [da, db]; exact fun h => z (yx h).1
   rw [cQ (s := (a, b, (i : Int))) (x := Sum.inl false) h, if_neg K]
 | _, _, 0, _, H => by omega
theorem LF (n : Nat) (a b : List Int) (U : a.length ≤ 4294967296) (N : a.length < n) : qaq n a b = some (decide (a = b)) := by
 unfold qaq
 rw [bG, bG]
 by_cases K : a.length = b.length
 ·rw [show ((a.length : Int) != (b.length : Int)) = false by rw [K, bne_self_eq_false], yh]
  have h := Iv n a b K U a.length 0 n (by omega) N
  rw [yl3, yl3] at h
  show ((bI (fun s => qaq_B0 n s.1 s.2.1 s.2.2) n (a, b, ((0 : Nat) : Int))).bind fun H => Sum.rec (fun J => some J) (fun O => some true) H) = _
  rw [h]
  by_cases z : a = b
  ·rw [if_pos z, decide_eq_true z]; rfl
  ·rw [if_neg z, decide_eq_false z]; rfl
 ·rw [show ((a.length : Int) != (b.length : Int)) = true by rw [bne_iff_ne]; omega, yg, decide_eq_false (fun h => K (by rw [h]))]
theorem J3 (n : Nat) (a : List Int) (H : a.length ≤ 4294967296) (z : a.length < n) : qaq n a a = some true := by rw [LF n a a H z]; simp
def oR (b : List Int) : List Int × Int := if b.length < 4 then ([], 3) else if zL (b.take (b.length - 4)) = b then (b.take (b.length - 4), 0) else ([], 3)
theorem nL {b : List Int} (h : aX b) (k : Nat) : aX (b.take k) := fun x z => h x (List.mem_of_mem_take z)
theorem MI {b : List Int} (hl : b.length ≤ 4294967000) (h : ¬ b.length < 4) : oY .i64 (bV b) 4 = ((b.length - 4 : Nat) : Int) := by
 rw [bG, F3 (by omega) (by omega)]
 omega
theorem Lh (n : Nat) (b : List Int) (H : aX b) (K : b.length ≤ 4294967000) (hn : b.length + 9 ≤ n) : qav n b = some (oR b) := by
 unfold qav oR
 by_cases h : b.length < 4
 ·rw [bG, decide_eq_true (by omega), yg, if_pos h]
 ·have J : (b.take (b.length - 4)).length = b.length - 4 := by rw [ym2]; omega
  rw [MI K h, bG, decide_eq_false (by omega), yh, if_neg h, decide_eq_true (by omega), decide_eq_true (by omega), yn3, yg, yq2]
  rw [Lj n _ (nL H _) (by omega) (by omega)]
  show (bif !(L4 (c4 (zL (b.take (b.length - 4)))) (c4 b)) then some (([] : List Int), (3 : Int)) else bif Nat.ble (b.take (b.length - 4)).length 4294967296 then some (b.take (b.length - 4), 0) else none) = _
  rw [Kr (Hc (nL H _)) H, show Nat.ble (b.take (b.length - 4)).length 4294967296 = true from yv2 (by omega)]
  by_cases z : zL (b.take (b.length - 4)) = b
  ·rw [decide_eq_true z, if_pos z]; rfl
  ·rw [decide_eq_false z, if_neg z]; rfl
end Sx
end
section
namespace Sx
open Go Go.Ab
def bH (k : Int) (xs : List Int) (bad : Bool) : List Int × List Int × Bool :=
 if bad = true ∨ k < 0 ∨ k > xs.length then ([], xs, true) else (xs.take k.toNat, xs.drop k.toNat, false)
theorem qX (n : Nat) (k : Int) (xs : List Int) (z : Bool) (hx : xs.length ≤ 4294967296) : qv n k xs z = some (bH k xs z) := by
 unfold qv bH
 simp only [qz, qu, yb]
 cases z with
 | true => rfl
 | false =>
  simp only [yh, yy1, false_or]
  by_cases H : k < 0
  ·rw [decide_eq_true H, if_pos (.inl H)]; rfl
  ·rw [decide_eq_false H, yh, bG]
   by_cases J : k > (xs.length : Int)
   ·rw [decide_eq_true J, if_pos (.inr J)]; rfl
   ·rw [decide_eq_false J, if_neg (by omega), yh, decide_eq_true (by omega : (0 : Int) ≤ k), decide_eq_true (by omega : k ≤ ((xs.length : Nat) : Int)), a8 (by rw [ym2]; omega)]
    simp only [yn3, yg, List.take_length]
theorem yH (k : Int) (xs : List Int) (z : Bool) : (bH k xs z).2.1.length ≤ xs.length ∧ (bH k xs z).1.length ≤ xs.length := by
 unfold bH
 split
 ·exact ⟨yu _, by simp⟩
 ·exact ⟨by simp, by simp; omega⟩
theorem M7 : ∀ k : Nat, k ≤ 9 → (decide (0 ≤ mX .i64 7 (k : Int))) = true ∧ mX .i64 7 (k : Int) = ((7 * k : Nat) : Int) := by decide
def oV (v x : Int) (k : Nat) : Int := At .u64 v (Av .u64 (bY .u64 (gA .u8 x 128)) ((7 * k : Nat) : Int))
def pA : List Int → Nat → Int → Int × List Int × Bool
 | [], _, _ => (0, [], true)
 | x :: xs, k, v => if (k = 9 ∧ x > 1) ∨ (k > 0 ∧ x = 0) then (0, xs, true) else if x < 128 then (oV v x k, xs, false) else pA xs (k + 1) (oV v x k)
def eG (xs : List Int) (bad : Bool) : Int × List Int × Bool := if bad = true then (0, xs, true) else pA xs 0 0
theorem Gq (n : Nat) : ∀ (xs : List Int) (k : Nat) (v : Int) (m : Nat), k ≤ 9 → xs.length ≤ 4294967296 → 10 - k < m → bI (fun s => qt_B0 n s.1.1 s.1.2 s.2.1 s.2.2) m ((v, (k : Int)), (xs, false)) = some (pA xs k v)
 | [], k, v, m + 1, O, U, Y => by
  refine cQ ?_
  show qt_B0 n v (k : Int) [] false = _
  unfold qt_B0
  rw [qX n 1 [] false (by simp), yb]
  rfl
 | x :: xs, k, v, m + 1, O, U, Y => by
  have ht : bH 1 (x :: xs) false = ([x], xs, false) := by
   unfold bH
   rw [if_neg (by simp; omega)]
   rfl
  have K : qt_B0 n v (k : Int) (x :: xs) false = if (k = 9 ∧ x > 1) ∨ (k > 0 ∧ x = 0) then some (Sum.inr (0, (xs, true))) else if x < 128 then some (Sum.inr (oV v x k, (xs, false))) else some (Sum.inl ((oV v x k, ((k + 1 : Nat) : Int)), (xs, false))) := by
   unfold qt_B0
   rw [qX n 1 (x :: xs) false U, ht, yb]
   simp only [qu, yb]
   rw [show c0 [x] 0 = some x from rfl, show (bV [x] == 0) = false from rfl, yh, yb, (M7 k O).1, (M7 k O).2, fC (by omega)]
   simp only [yg]
   have Z : ((k : Int) == 9) = decide (k = 9) := by
    by_cases h : k = 9
    ·subst h; rfl
    ·rw [decide_eq_false h, beq_eq_false_iff_ne]; omega
   have e0 : decide ((k : Int) > 0) = decide (k > 0) := by
    by_cases h : k > 0
    ·rw [decide_eq_true h, decide_eq_true (by omega)]
    ·rw [decide_eq_false h, decide_eq_false (by omega)]
   rw [Z, e0]
   unfold oV
   by_cases W : k = 9
   ·subst W
    by_cases N : x > 1
    ·rw [if_pos (.inl ⟨rfl, N⟩), decide_eq_true N]; rfl
    ·by_cases H : x = 0
     ·subst H; rw [if_pos (.inr ⟨by omega, rfl⟩)]; rfl
     ·rw [if_neg (by omega), decide_eq_false N, show (x == 0) = false from beq_eq_false_iff_ne.2 H, if_pos (by omega), decide_eq_true (by omega : x < 128)]; rfl
   ·rw [decide_eq_false W, yh]
    by_cases J : k > 0
    ·rw [decide_eq_true J, yg]
     by_cases H : x = 0
     ·subst H; rw [if_pos (.inr ⟨J, rfl⟩)]; rfl
     ·rw [if_neg (by omega), show (x == 0) = false from beq_eq_false_iff_ne.2 H, yh]
      by_cases z : x < 128
      ·rw [if_pos z, decide_eq_true z]; rfl
      ·rw [if_neg z, decide_eq_false z]; rfl
    ·rw [decide_eq_false J, yh, if_neg (by omega)]
     by_cases z : x < 128
     ·rw [if_pos z, decide_eq_true z]; rfl
     ·rw [if_neg z, decide_eq_false z]; rfl
  unfold pA
  by_cases V : (k = 9 ∧ x > 1) ∨ (k > 0 ∧ x = 0)
  ·rw [if_pos V] at K ⊢
   exact cQ K
  ·rw [if_neg V] at K ⊢
   by_cases z : x < 128
   ·rw [if_pos z] at K ⊢
    exact cQ K
   ·rw [if_neg z] at K ⊢
    have hk9 : k ≠ 9 := by intro h; apply V; left; exact ⟨h, by omega⟩
    rw [gI (s := ((v, (k : Int)), (x :: xs, false))) K]
    exact Gq n xs (k + 1) (oV v x k) m (by omega) (by simp at U; omega) (by omega)
 | _, _, _, 0, _, _, Y => by omega
theorem HI (n : Nat) (xs : List Int) (z : Bool) (H : xs.length ≤ 4294967296) (hn : 20 ≤ n) : qt n xs z = some (eG xs z) := by
 unfold qt eG
 cases z with
 | true =>
  have J : qt_B0 n 0 0 xs true = some (Sum.inr (0, (xs, true))) := by
   unfold qt_B0
   rw [qX n 1 xs true H, yb]
   rfl
  have : qt_W0 n ((0, 0), (xs, true)) = some (0, (xs, true)) := by
   obtain ⟨m, rfl⟩ : ∃ m, n = m + 1 := ⟨n - 1, by omega⟩
   exact cQ J
  rw [this]; rfl
 | false =>
  have : qt_W0 n ((0, 0), (xs, false)) = some (pA xs 0 0) := Gq n xs 0 0 n (by omega) H (by omega)
  rw [this]; rfl
theorem Jw (a b : Int) : 0 ≤ At .u64 a b ∧ At .u64 a b ≤ 18446744073709551615 := by
 have h : ∀ n, IntKind.u64.wrap n = n % 18446744073709551616 := fun n => by simp [IntKind.wrap, IntKind.bits, IntKind.signed]
 unfold At
 rw [h]
 omega
theorem BG : ∀ (xs : List Int) (k : Nat) (v : Int), (pA xs k v).2.1.length ≤ xs.length
 | [], k, v => yu _
 | x :: xs, k, v => by
  unfold pA
  split
  ·simp
  ·split
   ·simp
   ·have := BG xs (k + 1) (oV v x k)
    simp; omega
theorem Bn : ∀ (xs : List Int) (k : Nat) (v : Int), 0 ≤ (pA xs k v).1 ∧ (pA xs k v).1 ≤ 18446744073709551615
 | [], k, v => by simp [pA]
 | x :: xs, k, v => by
  unfold pA
  split
  ·simp
  ·split
   ·exact Jw _ _
   ·exact Bn xs (k + 1) (oV v x k)
theorem wA (xs : List Int) (z : Bool) : (eG xs z).2.1.length ≤ xs.length := by
 unfold eG
 split
 ·exact yu _
 ·exact BG xs 0 0
theorem Bj (xs : List Int) (z : Bool) : 0 ≤ (eG xs z).1 ∧ (eG xs z).1 ≤ 18446744073709551615 := by
 unfold eG
 split
 ·simp
 ·exact Bn xs 0 0
end Sx
end
section
namespace Sx
open Go Go.Ab
abbrev Rd (A : Type) := Bool → List Int → Bool → A × Bool × List Int × Bool
structure jP {A : Type} (f : Rd A) : Prop where
 le : ∀ bad xs b, (f bad xs b).2.2.1.length ≤ xs.length
 st : ∀ bad xs, (f bad xs true).2.2.2 = true
def FG {A : Type} (f : Rd A) : Prop := ∀ bad xs b, (f bad xs b).2.2.1.length < xs.length ∨ (f bad xs b).2.2.2 = true
theorem JN : ∀ (xs : List Int) (k : Nat) (v : Int), (pA xs k v).2.1.length < xs.length ∨ (pA xs k v).2.2 = true
 | [], k, v => .inr rfl
 | x :: xs, k, v => by
  unfold pA
  split
  ·exact .inr rfl
  ·split
   ·exact .inl (by simp)
   ·exact .inl (by have := BG xs (k + 1) (oV v x k); simp; omega)
def kV : Rd Int := fun bad xs b => ((eG xs b).1, bad, (eG xs b).2)
theorem oJ : jP kV := ⟨fun z xs b => wA xs b, fun z xs => by simp [kV, eG]⟩
theorem Dp : FG kV := fun z xs b => by
 unfold kV eG
 cases b with
 | true => exact .inr rfl
 | false => exact JN xs 0 0
def aJ : Rd Int := fun bad xs b => if (eG xs b).1 > 2147483647 then (0, true, (eG xs b).2) else ((eG xs b).1, bad, (eG xs b).2)
theorem w9 (z : Bool) (xs : List Int) (b : Bool) : (aJ z xs b).2.2 = (eG xs b).2 := by unfold aJ; split <;> rfl
theorem cC : jP aJ := ⟨fun z xs b => by rw [w9]; exact wA xs b, fun z xs => by rw [w9]; simp [eG]⟩
theorem y9 : FG aJ := fun z xs b => by rw [w9]; exact Dp z xs b
theorem HA (z : Bool) (xs : List Int) (b : Bool) : 0 ≤ (aJ z xs b).1 ∧ (aJ z xs b).1 ≤ 2147483647 := by
 have := Bj xs b
 unfold aJ
 split
 ·simp
 ·exact ⟨this.1, by simp only; omega⟩
theorem BK (n : Nat) (z : Bool) (xs : List Int) (b : Bool) (J : xs.length ≤ 4294967296) (H : 20 ≤ n) : qc n z xs b = some ((aJ z xs b).1, ((aJ z xs b).2.1, (aJ z xs b).2.2)) := by
 have hr := Bj xs b
 unfold qc aJ
 rw [HI n xs b J H, yb]
 by_cases h : (eG xs b).1 > 2147483647
 ·rw [decide_eq_true h, if_pos h]; rfl
 ·rw [decide_eq_false h, if_neg h, yh, KR (by omega) (by omega)]
theorem iI (n : Nat) (z : Bool) (xs : List Int) (b : Bool) : qe n z xs b = some (z || b, (z, (xs, b))) := by
 cases z <;> rfl
def mO {A : Type} (one : Rd A) : Nat → List A → Rd (List A)
 | 0, acc, bad, xs, b => (acc, bad, xs, b)
 | j + 1, acc, bad, xs, b => if bad = true ∨ b = true then (acc, bad, xs, b) else mO one j (acc ++ [(one bad xs b).1]) (one bad xs b).2.1 (one bad xs b).2.2.1 (one bad xs b).2.2.2
theorem jL {A : Type} (one : Rd A) (j : Nat) (acc : List A) (z : Bool) (xs : List Int) (b : Bool) (h : z = true ∨ b = true) : mO one j acc z xs b = (acc, z, xs, b) := by
 cases j with
 | zero => rfl
 | succ j => unfold mO; rw [if_pos h]
theorem u6 {A : Type} {one : Rd A} (h : jP one) : ∀ (j : Nat) (acc : List A), jP (mO one j acc)
 | 0, acc => ⟨fun z xs b => yu _, fun z xs => rfl⟩
 | j + 1, acc => ⟨fun z xs b => by
   unfold mO
   split
   ·exact yu _
   ·exact yt1 ((u6 h j _).le _ _ _) (h.le _ _ _), fun z xs => by rw [jL one (j + 1) acc z xs true (.inr rfl)]⟩
theorem LX {A S X : Type} {B : S → Option (S ⊕ X)} {mk : Nat → List A → Bool → List Int → Bool → S} {fin : List A × Bool × List Int × Bool → X} {one : Rd A} {M : Nat} (V : jP one) (Z : FG one)
  (Y : ∀ j acc z xs b, j ≤ 2147483647 → acc.length + xs.length ≤ M → B (mk (j + 1) acc z xs b) = if z = true ∨ b = true then some (.inr (fin (acc, z, xs, b))) else some (.inl (mk j (acc ++ [(one z xs b).1]) (one z xs b).2.1 (one z xs b).2.2.1 (one z xs b).2.2.2)))
  (U : ∀ j acc z xs b, j ≤ 2147483647 → (z = true ∨ b = true) → B (mk (j + 1) acc z xs b) = some (.inr (fin (acc, z, xs, b))))
  (O : ∀ acc z xs b, B (mk 0 acc z xs b) = some (.inr (fin (acc, z, xs, b)))) : ∀ (n j : Nat) (acc : List A) (z : Bool) (xs : List Int) (b : Bool), j ≤ 2147483647 → (if z = true ∨ b = true then 0 else xs.length + 1) < n → ((z = true ∨ b = true) ∨ acc.length + xs.length ≤ M) →
  bI B n (mk j acc z xs b) = some (fin (mO one j acc z xs b))
 | 0, _, _, _, _, _, _, K, _ => by omega
 | n + 1, 0, acc, z, xs, b, hj, K, hm => cQ (O acc z xs b)
 | n + 1, j + 1, acc, z, xs, b, hj, K, hm => by
  by_cases h : z = true ∨ b = true
  ·rw [jL one (j + 1) acc z xs b h]
   exact cQ (U j acc z xs b (by omega) h)
  ·have N := hm.resolve_left h
   have W := Y j acc z xs b (by omega) N
   rw [if_neg h] at W K
   unfold mO
   rw [if_neg h, gI W]
   have hle := V.le z xs b
   have J := Z z xs b
   refine LX V Z Y U O n j _ _ _ _ (by omega) ?_ ?_
   ·split
    ·omega
    ·rename_i h3
     rcases J with H | H
     ·omega
     ·exact absurd (.inr H) h3
   ·rcases J with H | H
    ·exact .inr (by simp; omega)
    ·exact .inl (.inr H)
def gW {A : Type} (one : Rd A) : Rd (List A) := fun bad xs b => mO one (aJ bad xs b).1.toNat [] (aJ bad xs b).2.1 (aJ bad xs b).2.2.1 (aJ bad xs b).2.2.2
theorem rA {A : Type} {one : Rd A} (h : jP one) : jP (gW one) := ⟨fun z xs b => yt1 ((u6 h _ _).le _ _ _) (cC.le z xs b), fun z xs => by
 unfold gW
 rw [cC.st z xs]
 exact (u6 h _ _).st _ _⟩
theorem wW {A X : Type} {B : (Int × Bool × (List Int × Bool) × List A) → Option ((Int × Bool × (List Int × Bool) × List A) ⊕ X)} {fin : List A × Bool × List Int × Bool → X} {one : Rd A} (O : jP one) (W : FG one)
  (U : ∀ (k : Int) acc xs, xs.length ≤ 1000000 → k > 0 → B (k, (false, ((xs, false), acc))) = bif Nat.ble (acc ++ [(one false xs false).1]).length 4294967296 then some (.inl (oY .i64 k 1, ((one false xs false).2.1, (((one false xs false).2.2.1, (one false xs false).2.2.2), acc ++ [(one false xs false).1])))) else none)
  (N : ∀ (k : Int) acc z xs b, k > 0 → (z || b) = true → B (k, (z, ((xs, b), acc))) = some (.inr (fin (acc, z, xs, b))))
  (V : ∀ acc z xs b, B (0, (z, ((xs, b), acc))) = some (.inr (fin (acc, z, xs, b))))
  (n : Nat) (z : Bool) (xs : List Int) (b : Bool) (hx : xs.length ≤ 1000000) (hn : 1000002 ≤ n) :
  bI B n ((aJ z xs b).1, ((aJ z xs b).2.1, (((aJ z xs b).2.2.1, (aJ z xs b).2.2.2), []))) = some (fin (gW one z xs b)) := by
 have hr := HA z xs b
 have hl := cC.le z xs b
 have K : ∀ (j : Nat) acc z xs b, j ≤ 2147483647 → (z = true ∨ b = true) → B (((j + 1 : Nat) : Int), (z, ((xs, b), acc))) = some (.inr (fin (acc, z, xs, b))) := fun j acc z xs b J h =>
  N _ acc z xs b (by omega) (by rcases h with rfl | rfl <;> simp)
 have h := LX (B := B) (mk := fun (j : Nat) acc z xs b => ((j : Int), (z, ((xs, b), acc)))) (fin := fin) (one := one) (M := 1000000) O W (fun j acc z xs b J hm => ?_) K (fun acc z xs b => V acc z xs b) n (aJ z xs b).1.toNat [] (aJ z xs b).2.1 (aJ z xs b).2.2.1 (aJ z xs b).2.2.2 (by omega) (by split <;> omega) (.inr (by simp; omega))
 ·rw [show (((aJ z xs b).1.toNat : Nat) : Int) = (aJ z xs b).1 by omega] at h
  exact h
 ·by_cases H : z = true ∨ b = true
  ·rw [if_pos H]; exact K j acc z xs b J H
  ·rw [if_neg H]
   obtain ⟨rfl, rfl⟩ : z = false ∧ b = false := by cases z <;> cases b <;> simp_all
   rw [U _ acc xs (by omega) (by omega), a8 (by simp; omega), yg, F3 (by omega) (by omega), show ((j + 1 : Nat) : Int) - 1 = (j : Int) by omega]
end Sx
end
section
namespace Sx
open Go Go.Ab
abbrev Dt := Int × Int × List Int × List Int
abbrev Ka := Int × Int × Bool
def cF {A B : Type} (f : Rd A) (g : A → Rd B) : Rd B := fun bad xs b => g (f bad xs b).1 (f bad xs b).2.1 (f bad xs b).2.2.1 (f bad xs b).2.2.2
def C3 {A : Type} (a : A) : Rd A := fun bad xs b => (a, bad, xs, b)
theorem dZ {A : Type} (a : A) : jP (C3 a) := ⟨fun _ _ _ => yu _, fun _ _ => rfl⟩
theorem aP {A B : Type} {f : Rd A} {g : A → Rd B} (J : jP f) (H : ∀ a, jP (g a)) : jP (cF f g) := ⟨fun z xs b => yt1 ((H _).le _ _ _) (J.le _ _ _), fun z xs => by
 unfold cF
 rw [J.st z xs]
 exact (H _).st _ _⟩
theorem sS {A B : Type} {f : Rd A} {g : A → Rd B} (J : FG f) (H : ∀ a, jP (g a)) : FG (cF f g) := fun z xs b => by
 rcases J z xs b with h | h
 ·exact .inl (Nat.lt_of_le_of_lt ((H _).le _ _ _) h)
 ·exact .inr (by unfold cF; rw [h]; exact (H _).st _ _)
def BU (k : Int) : Rd (List Int) := fun bad xs b => ((bH k xs b).1, bad, (bH k xs b).2)
theorem u7 (k : Int) : jP (BU k) := ⟨fun z xs b => (yH k xs b).1, fun z xs => by simp [BU, bH]⟩
def p7 : Rd Dt := cF aJ fun a => cF aJ fun c => cF (gW kV) fun l => cF (gW kV) fun k => C3 (a, c, l, k)
def GR : Rd Dt := cF aJ fun a => cF aJ fun c => cF (gW kV) fun l => cF aJ fun k => cF (BU k) fun t => C3 (a, c, l, t)
def HX (a d o : Int) : Rd Ka := fun bad xs b => ((a, d, o == 1), bad || decide (o > 1), xs, b)
theorem FI (a d o : Int) : jP (HX a d o) := ⟨fun _ _ _ => yu _, fun _ _ => rfl⟩
def CK : Rd Ka := cF aJ fun a => cF kV fun d => cF aJ fun o => HX a d o
theorem j4 : jP (gW kV) := rA oJ
theorem sK (a : Int) : jP (cF aJ fun c => cF (gW kV) fun l => cF (gW kV) fun k => C3 ((a, c, l, k) : Dt)) := aP cC fun _ => aP j4 fun _ => aP j4 fun _ => dZ _
theorem q9 : jP p7 := aP cC sK
theorem Gp : FG p7 := sS y9 sK
theorem Ck (a : Int) : jP (cF aJ fun c => cF (gW kV) fun l => cF aJ fun k => cF (BU k) fun t => C3 ((a, c, l, t) : Dt)) := aP cC fun _ => aP j4 fun _ => aP cC fun _ => aP (u7 _) fun _ => dZ _
theorem AR : jP GR := aP cC Ck
theorem JV : FG GR := sS y9 Ck
theorem BI (a : Int) : jP (cF kV fun d => cF aJ fun o => HX a d o) := aP oJ fun _ => aP cC fun _ => FI _ _ _
theorem Ez : jP CK := aP cC BI
theorem JP : FG CK := sS y9 BI
abbrev out {A : Type} (q : A × Bool × List Int × Bool) : Option (A × Bool × List Int × Bool) := some (q.1, (q.2.1, (q.2.2.1, q.2.2.2)))
theorem CF (n : Nat) (z : Bool) (xs : List Int) (b : Bool) (J : xs.length ≤ 1000000) (K : 1000002 ≤ n) : qh n z xs b = some (gW kV z xs b) := by
 unfold qh
 rw [BK n z xs b (by omega) (by omega), yb]
 have h := wW (B := fun s => qh_B0 n s.1 s.2.1 s.2.2.1.1 s.2.2.1.2 s.2.2.2) (fin := fun q => (q.2.1, ((q.2.2.1, q.2.2.2), q.1))) oJ Dp (fun k acc xs J H => by
   show qh_B0 n k false xs false acc = _
   unfold qh_B0
   rw [decide_eq_true H, yg, iI, yb]
   simp only [Bool.or_self, Bool.not_false, yg]
   rw [HI n xs false (by omega) (by omega), yb]
   rfl) (fun k acc z xs b H O => by
   show qh_B0 n k z xs b acc = _
   unfold qh_B0
   rw [decide_eq_true H, yg, iI, yb, O]
   rfl) (fun acc z xs b => rfl) n z xs b J K
 have N : qh_W0 n ((aJ z xs b).1, ((aJ z xs b).2.1, (((aJ z xs b).2.2.1, (aJ z xs b).2.2.2), []))) = _ := h
 show ((qh_W0 n ((aJ z xs b).1, ((aJ z xs b).2.1, (((aJ z xs b).2.2.1, (aJ z xs b).2.2.2), [])))).bind _) = _
 rw [N, yb]
theorem i0 (n : Nat) (z : Bool) (xs : List Int) (b : Bool) (hx : xs.length ≤ 1000000) (hn : 1000002 ≤ n) : qc n z xs b = some (aJ z xs b) := BK n z xs b (by omega) (by omega)
theorem IR (n : Nat) (xs : List Int) (b : Bool) (hx : xs.length ≤ 1000000) (hn : 1000002 ≤ n) : qt n xs b = some (eG xs b) := HI n xs b (by omega) (by omega)
theorem Kk (n : Nat) (z : Bool) (xs : List Int) (b : Bool) (J : xs.length ≤ 1000000) (H : 1000002 ≤ n) : qf n z xs b = some (p7 z xs b) := by
 unfold qf
 have l1 := cC.le z xs b
 have l2 := cC.le (aJ z xs b).2.1 (aJ z xs b).2.2.1 (aJ z xs b).2.2.2
 rw [i0 n z xs b J H, yb, i0 n _ _ _ (by omega) H, yb, CF n _ _ _ (by omega) H, yb]
 have l3 := j4.le (aJ (aJ z xs b).2.1 (aJ z xs b).2.2.1 (aJ z xs b).2.2.2).2.1 (aJ (aJ z xs b).2.1 (aJ z xs b).2.2.1 (aJ z xs b).2.2.2).2.2.1 (aJ (aJ z xs b).2.1 (aJ z xs b).2.2.1 (aJ z xs b).2.2.2).2.2.2
 rw [CF n _ _ _ (by omega) H, yb]
 rfl
theorem Mp (n : Nat) (z : Bool) (xs : List Int) (b : Bool) (J : xs.length ≤ 1000000) (H : 1000002 ≤ n) : qj n z xs b = some (GR z xs b) := by
 unfold qj
 have l1 := cC.le z xs b
 have l2 := cC.le (aJ z xs b).2.1 (aJ z xs b).2.2.1 (aJ z xs b).2.2.2
 rw [i0 n z xs b J H, yb, i0 n _ _ _ (by omega) H, yb, CF n _ _ _ (by omega) H, yb]
 have l3 := j4.le (aJ (aJ z xs b).2.1 (aJ z xs b).2.2.1 (aJ z xs b).2.2.2).2.1 (aJ (aJ z xs b).2.1 (aJ z xs b).2.2.1 (aJ z xs b).2.2.2).2.2.1 (aJ (aJ z xs b).2.1 (aJ z xs b).2.2.1 (aJ z xs b).2.2.2).2.2.2
 rw [i0 n _ _ _ (by omega) H, yb]
 have l4 := cC.le (gW kV (aJ (aJ z xs b).2.1 (aJ z xs b).2.2.1 (aJ z xs b).2.2.2).2.1 (aJ (aJ z xs b).2.1 (aJ z xs b).2.2.1 (aJ z xs b).2.2.2).2.2.1 (aJ (aJ z xs b).2.1 (aJ z xs b).2.2.1 (aJ z xs b).2.2.2).2.2.2).2.1
  (gW kV (aJ (aJ z xs b).2.1 (aJ z xs b).2.2.1 (aJ z xs b).2.2.2).2.1 (aJ (aJ z xs b).2.1 (aJ z xs b).2.2.1 (aJ z xs b).2.2.2).2.2.1 (aJ (aJ z xs b).2.1 (aJ z xs b).2.2.1 (aJ z xs b).2.2.2).2.2.2).2.2.1
  (gW kV (aJ (aJ z xs b).2.1 (aJ z xs b).2.2.1 (aJ z xs b).2.2.2).2.1 (aJ (aJ z xs b).2.1 (aJ z xs b).2.2.1 (aJ z xs b).2.2.2).2.2.1 (aJ (aJ z xs b).2.1 (aJ z xs b).2.2.1 (aJ z xs b).2.2.2).2.2.2).2.2.2
 rw [qX n _ _ _ (by omega), yb]
 rfl
theorem L6 (n : Nat) (z : Bool) (xs : List Int) (b : Bool) (J : xs.length ≤ 1000000) (H : 1000002 ≤ n) : qp n z xs b = some (CK z xs b) := by
 unfold qp
 have l1 := cC.le z xs b
 have l2 := wA (aJ z xs b).2.2.1 (aJ z xs b).2.2.2
 rw [i0 n z xs b J H, yb, IR n _ _ (by omega) H, yb, i0 n _ _ _ (by omega) H, yb]
 show _ = some (HX (aJ z xs b).1 (eG (aJ z xs b).2.2.1 (aJ z xs b).2.2.2).1 (aJ (aJ z xs b).2.1 (eG (aJ z xs b).2.2.1 (aJ z xs b).2.2.2).2.1 (eG (aJ z xs b).2.2.1 (aJ z xs b).2.2.2).2.2).1
  (aJ (aJ z xs b).2.1 (eG (aJ z xs b).2.2.1 (aJ z xs b).2.2.2).2.1 (eG (aJ z xs b).2.2.1 (aJ z xs b).2.2.2).2.2).2.1 (aJ (aJ z xs b).2.1 (eG (aJ z xs b).2.2.1 (aJ z xs b).2.2.2).2.1 (eG (aJ z xs b).2.2.1 (aJ z xs b).2.2.2).2.2).2.2.1
  (aJ (aJ z xs b).2.1 (eG (aJ z xs b).2.2.1 (aJ z xs b).2.2.2).2.1 (eG (aJ z xs b).2.2.1 (aJ z xs b).2.2.2).2.2).2.2.2)
 generalize aJ (aJ z xs b).2.1 (eG (aJ z xs b).2.2.1 (aJ z xs b).2.2.2).2.1 (eG (aJ z xs b).2.2.1 (aJ z xs b).2.2.2).2.2 = q
 unfold HX
 cases q.2.1 <;> rfl
theorem KO (n : Nat) (z : Bool) (xs : List Int) (b : Bool) (J : xs.length ≤ 1000000) (K : 1000002 ≤ n) : qb n z xs b = some (gW p7 z xs b) := by
 unfold qb
 rw [BK n z xs b (by omega) (by omega), yb]
 have h := wW (B := fun s => qb_B0 n s.1 s.2.1 s.2.2.1.1 s.2.2.1.2 s.2.2.2) (fin := fun q => (q.2.1, ((q.2.2.1, q.2.2.2), q.1))) q9 Gp (fun k acc xs J H => by
   show qb_B0 n k false xs false acc = _
   unfold qb_B0
   rw [decide_eq_true H, yg, iI, yb]
   simp only [Bool.or_self, Bool.not_false, yg]
   rw [Kk n false xs false J K, yb]) (fun k acc z xs b H O => by
   show qb_B0 n k z xs b acc = _
   unfold qb_B0
   rw [decide_eq_true H, yg, iI, yb, O]
   rfl) (fun acc z xs b => rfl) n z xs b J K
 have N : qb_W0 n ((aJ z xs b).1, ((aJ z xs b).2.1, (((aJ z xs b).2.2.1, (aJ z xs b).2.2.2), []))) = _ := h
 show ((qb_W0 n ((aJ z xs b).1, ((aJ z xs b).2.1, (((aJ z xs b).2.2.1, (aJ z xs b).2.2.2), [])))).bind _) = _
 rw [N, yb]
theorem KD (n : Nat) (z : Bool) (xs : List Int) (b : Bool) (J : xs.length ≤ 1000000) (K : 1000002 ≤ n) : qi n z xs b = some (gW GR z xs b) := by
 unfold qi
 rw [BK n z xs b (by omega) (by omega), yb]
 have h := wW (B := fun s => qi_B0 n s.1 s.2.1 s.2.2.1.1 s.2.2.1.2 s.2.2.2) (fin := fun q => (q.2.1, ((q.2.2.1, q.2.2.2), q.1))) AR JV (fun k acc xs J H => by
   show qi_B0 n k false xs false acc = _
   unfold qi_B0
   rw [decide_eq_true H, yg, iI, yb]
   simp only [Bool.or_self, Bool.not_false, yg]
   rw [Mp n false xs false J K, yb]) (fun k acc z xs b H O => by
   show qi_B0 n k z xs b acc = _
   unfold qi_B0
   rw [decide_eq_true H, yg, iI, yb, O]
   rfl) (fun acc z xs b => rfl) n z xs b J K
 have N : qi_W0 n ((aJ z xs b).1, ((aJ z xs b).2.1, (((aJ z xs b).2.2.1, (aJ z xs b).2.2.2), []))) = _ := h
 show ((qi_W0 n ((aJ z xs b).1, ((aJ z xs b).2.1, (((aJ z xs b).2.2.1, (aJ z xs b).2.2.2), [])))).bind _) = _
 rw [N, yb]
theorem K6 (n : Nat) (z : Bool) (xs : List Int) (b : Bool) (J : xs.length ≤ 1000000) (K : 1000002 ≤ n) : qa n z xs b = some (gW CK z xs b) := by
 unfold qa
 rw [BK n z xs b (by omega) (by omega), yb]
 have h := wW (B := fun s => qa_B0 n s.1 s.2.1 s.2.2.1.1 s.2.2.1.2 s.2.2.2) (fin := fun q => (q.2.1, ((q.2.2.1, q.2.2.2), q.1))) Ez JP (fun k acc xs J H => by
   show qa_B0 n k false xs false acc = _
   unfold qa_B0
   rw [decide_eq_true H, yg, iI, yb]
   simp only [Bool.or_self, Bool.not_false, yg]
   rw [L6 n false xs false J K, yb]) (fun k acc z xs b H O => by
   show qa_B0 n k z xs b acc = _
   unfold qa_B0
   rw [decide_eq_true H, yg, iI, yb, O]
   rfl) (fun acc z xs b => rfl) n z xs b J K
 have N : qa_W0 n ((aJ z xs b).1, ((aJ z xs b).2.1, (((aJ z xs b).2.2.1, (aJ z xs b).2.2.2), []))) = _ := h
 show ((qa_W0 n ((aJ z xs b).1, ((aJ z xs b).2.1, (((aJ z xs b).2.2.1, (aJ z xs b).2.2.2), [])))).bind _) = _
 rw [N, yb]
abbrev wY := List Dt × List Dt × List Ka × Int × Int × Int × Int
def eR : wY := ([], [], [], 0, 0, 0, 0)
def Lf : Rd wY := cF aJ fun e => cF aJ fun q => cF aJ fun u => cF kV fun v => cF (gW p7) fun f => cF (gW GR) fun o => cF (gW CK) fun h => C3 (f, o, h, q, u, e, v)
noncomputable def o4 (xs : List Int) : wY × Int × Int :=
 if (mL (bH 1 xs false).1 ≠ 2) ∨ (bH 1 xs false).2.2 = true then (eR, 0, 2)
 else if (bH 4 (bH 1 xs false).2.1 false).2.2 = true then (eR, 0, 2)
 else if (Lf false (bH 4 (bH 1 xs false).2.1 false).2.1 false).2.1 = true ∨ (Lf false (bH 4 (bH 1 xs false).2.1 false).2.1 false).2.2.2 = true ∨ (Lf false (bH 4 (bH 1 xs false).2.1 false).2.1 false).2.2.1.length > 0 then (eR, 0, 2)
 else ((Lf false (bH 4 (bH 1 xs false).2.1 false).2.1 false).1, bY .u32 (mL (bH 4 (bH 1 xs false).2.1 false).1), 0)
noncomputable def mJ (b : List Int) : wY × Int × Int := if b.length > 65536 then (eR, 0, 2) else if (oR b).2 ≠ 0 then (eR, 0, (oR b).2) else o4 (oR b).1
end Sx
end
section
namespace Sx
open Go Go.Ab
theorem J1 (n : Nat) (xs : List Int) (b : Bool) (hx : xs.length ≤ 1000000) : qo n 1 xs b = some (mL (bH 1 xs b).1, (bH 1 xs b).2) := by
 unfold qo
 rw [show Ey (CY 1 0) 8 = 1 from by decide, qX n 1 xs b (by omega), yb]
theorem Jt (n : Nat) (xs : List Int) (b : Bool) (hx : xs.length ≤ 1000000) : qo n 4 xs b = some (mL (bH 4 xs b).1, (bH 4 xs b).2) := by
 unfold qo
 rw [show Ey (CY 4 0) 8 = 4 from by decide, qX n 4 xs b (by omega), yb]
theorem JO (b : List Int) : (oR b).1.length ≤ b.length := by
 unfold oR
 split
 ·simp
 ·split
  ·simp
  ·simp
theorem MF (n : Nat) (xs : List Int) (hx : xs.length ≤ 1000000) (Z : 1000002 ≤ n) {R : Type} (k : wY × Bool × List Int × Bool → Option R) :
  ((qc n Bool.false xs false).bind fun H => (qc n H.2.1 H.2.2.1 H.2.2.2).bind fun N => (qc n N.2.1 N.2.2.1 N.2.2.2).bind fun K => (qt n K.2.2.1 K.2.2.2).bind fun W =>
   (qb n K.2.1 W.2.1 W.2.2).bind fun O => (qi n O.2.1 O.2.2.1 O.2.2.2).bind fun z => (qa n z.2.1 z.2.2.1 z.2.2.2).bind fun J =>
   k ((O.1, z.1, J.1, N.1, K.1, H.1, W.1), J.2.1, J.2.2.1, J.2.2.2)) = k (Lf false xs false) := by
 have hq : ∀ V Y b, Y.length ≤ 1000000 → (aJ V Y b).2.2.1.length ≤ 1000000 := fun V Y b h => yt1 (cC.le V Y b) h
 rw [i0 n _ _ _ hx Z, yb]
 have h1 := hq false xs false hx
 generalize hq1 : aJ false xs false = q1 at h1 ⊢
 rw [i0 n _ _ _ h1 Z, yb]
 have h2 := hq q1.2.1 q1.2.2.1 q1.2.2.2 h1
 generalize hq2 : aJ q1.2.1 q1.2.2.1 q1.2.2.2 = q2 at h2 ⊢
 rw [i0 n _ _ _ h2 Z, yb]
 have h3 := hq q2.2.1 q2.2.2.1 q2.2.2.2 h2
 generalize hq3 : aJ q2.2.1 q2.2.2.1 q2.2.2.2 = q3 at h3 ⊢
 rw [IR n _ _ h3 Z, yb]
 have h4 : (eG q3.2.2.1 q3.2.2.2).2.1.length ≤ 1000000 := yt1 (wA _ _) h3
 generalize hq4 : eG q3.2.2.1 q3.2.2.2 = q4 at h4 ⊢
 rw [KO n _ _ _ h4 Z, yb]
 have h5 := yt1 ((rA q9).le q3.2.1 q4.2.1 q4.2.2) h4
 generalize hq5 : gW p7 q3.2.1 q4.2.1 q4.2.2 = q5 at h5 ⊢
 rw [KD n _ _ _ h5 Z, yb]
 have h6 := yt1 ((rA AR).le q5.2.1 q5.2.2.1 q5.2.2.2) h5
 generalize hq6 : gW GR q5.2.1 q5.2.2.1 q5.2.2.2 = U at h6 ⊢
 rw [K6 n _ _ _ h6 Z, yb]
 have : Lf false xs false = (((q5.1, U.1, (gW CK U.2.1 U.2.2.1 U.2.2.2).1, q2.1, q3.1, q1.1, q4.1) : wY), (gW CK U.2.1 U.2.2.1 U.2.2.2).2.1, (gW CK U.2.1 U.2.2.1 U.2.2.2).2.2.1, (gW CK U.2.1 U.2.2.1 U.2.2.2).2.2.2) := by
  unfold Lf cF
  simp only [hq1, hq2, hq3, show ∀ V Y b, kV V Y b = ((eG Y b).1, V, (eG Y b).2) from fun _ _ _ => rfl, hq4, hq5, hq6]
  rfl
 rw [this]
theorem Jf (n : Nat) (b : List Int) (W : aX b) (hn : 2000000 ≤ n) (hl : b.length ≤ 4294967000) : qaf n b = some (mJ b) := by
 unfold qaf qad mJ
 rw [bG]
 by_cases U : b.length > 65536
 ·rw [decide_eq_true (by omega), if_pos U]; rfl
 ·rw [decide_eq_false (by omega), yh, if_neg U, Lh n b W (by omega) (by omega), yb]
  by_cases J : (oR b).2 = 0
  ·rw [if_neg (fun h => h J), show ((oR b).2 != 0) = false from by rw [J]; rfl, yh]
   have N := JO b
   generalize (oR b).1 = xs at N
   unfold qaa o4
   rw [a8 (by omega), yg, yb]
   simp only
   rw [J1 n xs false (by omega), yb]
   simp only
   rw [show bY .u64 2 = 2 from by decide]
   by_cases K : mL (bH 1 xs false).1 ≠ 2
   ·rw [if_pos (.inl K), bne_iff_ne.2 K]; rfl
   ·rw [show (mL (bH 1 xs false).1 != 2) = false from by rw [Decidable.not_not.1 K]; rfl, yh]
    simp only [qz, yb]
    have Y := (yH 1 xs false).1
    cases h4 : (bH 1 xs false).2.2 with
    | true => rw [if_pos (.inr rfl)]; rfl
    | false =>
     rw [if_neg (by simp; exact Decidable.not_not.1 K), yh, Jt n _ _ (by omega), yb]
     simp only
     have Z := (yH 4 (bH 1 xs false).2.1 false).1
     cases h5 : (bH 4 (bH 1 xs false).2.1 false).2.2 with
     | true => rfl
     | false =>
      rw [yh, yb, if_neg (by simp)]
      simp only
      rw [show ((0 : Int) != 0) = false from rfl, yh]
      have h := MF (R := wY × Int × Int) n (bH 4 (bH 1 xs false).2.1 false).2.1 (by omega) (by omega) (fun q => (qe n q.2.1 q.2.2.1 q.2.2.2).bind fun z =>
       bif z.1 then some (eR, (0, 2)) else (qw n z.2.2.1 z.2.2.2).bind fun H => bif (decide (H.1 > 0)) then some (eR, (0, 2)) else some (q.1, (bY .u32 (mL (bH 4 (bH 1 xs false).2.1 false).1), 0)))
      refine h.trans ?_
      generalize Lf false (bH 4 (bH 1 xs false).2.1 false).2.1 false = q
      rw [iI, yb]
      cases h6 : q.2.1 with
      | true => rw [if_pos (.inl rfl)]; rfl
      | false =>
       cases h7 : q.2.2.2 with
       | true => rw [if_pos (.inr (.inl rfl))]; rfl
       | false =>
        have V : qw n q.2.2.1 false = some (bV q.2.2.1, (q.2.2.1, false)) := rfl
        simp only [Bool.or_self, yh]
        rw [V, yb, bG]
        by_cases O : q.2.2.1.length > 0
        ·rw [if_pos (.inr (.inr O)), decide_eq_true (by omega)]; rfl
        ·rw [if_neg (by simp; simpa using O), decide_eq_false (by omega)]; rfl
  ·rw [if_pos J, bne_iff_ne.2 J]
   show (bif ((oR b).2 != 0) then _ else _) = _
   rw [bne_iff_ne.2 J]; rfl
end Sx
end
section
namespace Sx
open Go Go.Ab
theorem I3 (n : Nat) (hn : 100 ≤ n) : qx n = some true := by
 obtain ⟨m, rfl⟩ : ∃ m, n = m + 100 := ⟨n - 100, by omega⟩
 kernel_rfl
theorem oI (n : Nat) (hn : 100 ≤ n) : qac n [] [] [] 0 0 0 0 [] [] [] 0 0 0 0 = some true := by
 obtain ⟨m, rfl⟩ : ∃ m, n = m + 100 := ⟨n - 100, by omega⟩
 kernel_rfl
theorem AX (n : Int) : IntKind.u64.wrap n = n % 18446744073709551616 := by simp [IntKind.wrap, IntKind.bits, IntKind.signed]
theorem IF (a b : Nat) (z : a < 18446744073709551616) (H : b < 18446744073709551616) : At .u64 (a : Int) (b : Int) = ((a ||| b : Nat) : Int) := by
 unfold At
 rw [AX]
 have : (BitVec.ofInt IntKind.u64.bits (a : Int) ||| BitVec.ofInt IntKind.u64.bits (b : Int)).toNat = a ||| b := by
  rw [BitVec.toNat_or]
  show (BitVec.ofInt 64 (a : Int)).toNat ||| (BitVec.ofInt 64 (b : Int)).toNat = _
  rw [BitVec.ofInt_natCast, BitVec.ofInt_natCast, BitVec.toNat_ofNat, BitVec.toNat_ofNat, yf3 z, yf3 H]
 rw [this]
 have h : a ||| b < 18446744073709551616 := Nat.or_lt_two_pow (n := 64) z H
 omega
theorem u2 (v x : Nat) (hv : v < 281474976710656) (hx : x < 256) : At .u64 (IntKind.u64.wrap ((v : Int) * 256)) (IntKind.u64.wrap (x : Int)) = ((v * 256 + x : Nat) : Int) := by
 rw [AX, AX]
 have J : ((v : Int) * 256) % 18446744073709551616 = ((v * 256 : Nat) : Int) := by omega
 have H : ((x : Int)) % 18446744073709551616 = ((x : Nat) : Int) := by omega
 rw [J, H, IF _ _ (by omega) (by omega)]
 have h := Nat.shiftLeft_add_eq_or_of_lt (show x < 2 ^ 8 by omega) v
 rw [Nat.shiftLeft_eq] at h
 have z : (2 : Nat) ^ 8 = 256 := by decide
 rw [z] at h
 rw [← h]
theorem qZ (x : Int) (l : List Int) : mL (x :: l) = At .u64 (IntKind.u64.wrap (mL l * 256)) (IntKind.u64.wrap x) := rfl
theorem Mf {x : Int} (h : 0 ≤ x ∧ x ≤ 255) : mL [x] = x := by
 obtain ⟨k, rfl⟩ := yj2 h.1
 have := u2 0 k (by omega) (by omega)
 rw [qZ, show mL [] = ((0 : Nat) : Int) from rfl, this]
 omega
theorem N3 {a b c d : Int} (H : 0 ≤ a ∧ a ≤ 255) (K : 0 ≤ b ∧ b ≤ 255) (J : 0 ≤ c ∧ c ≤ 255) (z : 0 ≤ d ∧ d ≤ 255) : mL [a, b, c, d] = a + 256 * b + 65536 * c + 16777216 * d := by
 obtain ⟨a, rfl⟩ := yj2 H.1
 obtain ⟨b, rfl⟩ := yj2 K.1
 obtain ⟨c, rfl⟩ := yj2 J.1
 obtain ⟨d, rfl⟩ := yj2 z.1
 rw [qZ, qZ, qZ, Mf z, u2 d c (by omega) (by omega), u2 (d * 256 + c) b (by omega) (by omega), u2 ((d * 256 + c) * 256 + b) a (by omega) (by omega)]
 omega
theorem vF {k : Nat} {xs : List Int} (h : k ≤ xs.length) : bH (k : Int) xs false = (xs.take k, xs.drop k, false) := by
 unfold bH
 rw [if_neg (by rintro (z | z | z) <;> first | cases z | omega), yq2]
theorem GQ {k : Int} {xs : List Int} (h : k > (xs.length : Int)) : bH k xs false = ([], xs, true) := by
 unfold bH
 rw [if_pos (.inr (.inr h))]
theorem H3 {b : List Int} (h : b.length < 5) : o4 b = (eR, 0, 2) := by
 unfold o4
 split
 ·rfl
 ·rename_i K
  have z : (bH 1 b false).2.2 = false := by
   cases J : (bH 1 b false).2.2 with
   | false => rfl
   | true => exact absurd (.inr J) K
  have H : (bH 1 b false).2.1.length < 4 := by
   by_cases h0 : b.length = 0
   ·rw [GQ (by omega)] at z; cases z
   ·have := vF (k := 1) (xs := b) (by omega)
    rw [show bH 1 b false = _ from this]
    simp; omega
  rw [if_pos (by rw [GQ (by omega)])]
theorem I8 (H z K N J : Int) (r : List Int) (U : 0 ≤ H ∧ H ≤ 255) : (H ≠ 2 → o4 (H :: z :: K :: N :: J :: r) = (eR, 0, 2)) ∧
  (o4 (H :: z :: K :: N :: J :: r) = (eR, 0, 2) ∨ ∃ s, o4 (H :: z :: K :: N :: J :: r) = (s, bY .u32 (mL [z, K, N, J]), 0)) := by
 have O : bH 1 (H :: z :: K :: N :: J :: r) false = ([H], z :: K :: N :: J :: r, false) := vF (k := 1) (by simp)
 have V : bH 4 (z :: K :: N :: J :: r) false = ([z, K, N, J], r, false) := vF (k := 4) (by simp)
 unfold o4
 rw [O]
 simp only
 rw [V, Mf U]
 simp only
 constructor
 ·intro h; rw [if_pos (.inl h)]
 ·split
  ·exact .inl rfl
  ·rw [if_neg (by simp)]
   split
   ·exact .inl rfl
   ·exact .inr ⟨_, rfl⟩
end Sx
end
section
namespace Sx
open Go Go.Ab
def wJ : Nat → Nat → List Int
 | 0, v => [(v : Int)]
 | k + 1, v => if v < 128 then [(v : Int)] else ((128 + v % 128 : Nat) : Int) :: wJ k (v / 128)
def JH (v : Nat) : List Int := wJ 10 v
theorem Br : ∀ (k v : Nat), 1 ≤ (wJ k v).length ∧ (wJ k v).length ≤ k + 1
 | 0, v => ⟨yu _, yu _⟩
 | k + 1, v => by
  unfold wJ
  split
  ·exact ⟨by simp, by simp⟩
  ·have := Br k (v / 128)
   rw [yw]; omega
theorem Gr (v : Nat) : 1 ≤ (JH v).length ∧ (JH v).length ≤ 11 := Br 10 v
theorem Cg : ∀ (k v : Nat), v < 128 ^ (k + 1) → ∀ x ∈ wJ k v, 0 ≤ x ∧ x ≤ 255
 | 0, v, h, x, z => by
  simp only [wJ, yb1] at z
  omega
 | k + 1, v, h, x, z => by
  unfold wJ at z
  split at z
  ·rw [yb1.1 z]; omega
  ·rcases yf1.1 z with rfl | z
   ·omega
   ·exact Cg k (v / 128) (by rw [Nat.pow_succ] at h; omega) x z
theorem HK {v : Nat} (h : v < 18446744073709551616) : ∀ x ∈ JH v, 0 ≤ x ∧ x ≤ 255 := Cg 10 v (by omega)
theorem Mb {v : Nat} (hv : v < 18446744073709551616) : p6 .u64 (v : Int) 128 = ((v / 128 : Nat) : Int) := by
 show IntKind.u64.wrap ((v : Int).tdiv 128) = _
 rw [yz2 (by omega), wV]
 omega
theorem Gb (n : Nat) : ∀ (k v d : Nat), v < 128 ^ (k + 1) → v < 18446744073709551616 → k < d → k ≤ 11 → qar_D n d (v : Int) = some (wJ k v)
 | 0, v, d + 1, H, z, J, N => by
  show qar_S n (qar_D n d) (v : Int) = _
  unfold qar_S
  rw [decide_eq_true (by omega), yg, AG (by omega) (by omega)]; rfl
 | k + 1, v, d + 1, H, z, J, N => by
  show qar_S n (qar_D n d) (v : Int) = _
  unfold qar_S
  by_cases h : v < 128
  ·rw [decide_eq_true (by omega), yg, AG (by omega) (by omega), wJ, if_pos h]
  ·have hl := Br k (v / 128)
   rw [decide_eq_false (by omega), yh, Mb z, Gb n k (v / 128) d (by rw [Nat.pow_succ] at H; omega) (by omega) (by omega) (by omega), yb, fA (by omega)]
   have K : dQ .u64 128 ((v : Int) % 128) = ((128 + v % 128 : Nat) : Int) := by
    show IntKind.u64.wrap _ = _
    rw [wV]; omega
   rw [K, AG (by omega) (by omega), a8 (by simp; omega), yg, wJ, if_neg h]
   rfl
 | _, _, 0, _, _, J, _ => by omega
theorem J2 (n v : Nat) (z : v < 18446744073709551616) (hn : 20 ≤ n) : qar n (v : Int) = some (JH v) := Gb n 10 v n (by omega) z (by omega) (by omega)
theorem lI {α : Type} (xs : List α) (h : xs.length ≤ 4294967296) : bY .u64 (bV xs) = ((xs.length : Nat) : Int) := by
 rw [bG, mZ (by omega) (by omega)]
def FT (k v : Nat) : List Int := (List.range k).map fun i => ((v / 256 ^ i % 256 : Nat) : Int)
theorem KW (k v : Nat) : (FT k v).length = k := by simp [FT]
def Ox (k : Int) : Nat := k.toNat
end Sx
end
section
namespace Sx
open Go Go.Ab
theorem Mn {v : Nat} (hv : v < 18446744073709551616) : p6 .u64 (v : Int) 256 = ((v / 256 : Nat) : Int) := by
 show IntKind.u64.wrap ((v : Int).tdiv 256) = _
 rw [yz2 (by omega), wV]
 omega
theorem Fq (n : Nat) (v : Nat) (V : v < 18446744073709551616) (hn : 20 ≤ n) : qah n (v : Int) 8 = some (FT 8 v) := by
 have h := Hm (B := fun s => qah_B0 n s.1.1 s.1.2.1 s.1.2.2 s.2) (xs := List.range 8) (mk := fun i (a : List Int) => ((((v / 256 ^ i : Nat) : Int), ((8 : Int), (i : Int))), a)) (I := fun i a => a = (List.range i).map fun j => ((v / 256 ^ j % 256 : Nat) : Int)) (Q := fun y => y = FT 8 v)
  (fun i a x N z => ?_) (fun a z => ?_) 8 0 n [] (by simp) rfl (by omega)
 ·obtain ⟨y, H, rfl⟩ := h
  unfold qah
  rw [Nat.pow_zero, Nat.div_one] at H
  rw [show qah_W0 n (((v : Int), ((8 : Int), 0)), []) = _ from H]
  rfl
 ·have U := fM N
  rw [List.length_range] at U
  subst z
  have J : v / 256 ^ i < 18446744073709551616 := Nat.lt_of_le_of_lt (Nat.div_le_self _ _) V
  have O : v / 256 ^ (i + 1) = v / 256 ^ i / 256 := by rw [Nat.pow_succ, Nat.div_div_eq_div_mul]
  have K : (List.range (i + 1)).map (fun j => ((v / 256 ^ j % 256 : Nat) : Int)) = (List.range i).map (fun j => ((v / 256 ^ j % 256 : Nat) : Int)) ++ [((v / 256 ^ i % 256 : Nat) : Int)] := by
   rw [List.range_succ, List.map_append]; rfl
  refine .inl ⟨_, ?_, rfl⟩
  rw [O, K]
  generalize v / 256 ^ i = q at J
  show qah_B0 n (q : Int) 8 (i : Int) ((List.range i).map fun j => ((v / 256 ^ j % 256 : Nat) : Int)) = _
  unfold qah_B0
  rw [decide_eq_true (by omega), yg, yg, fA (by omega), AG (by omega) (by omega), Mn J, a8 (by simp; omega), yg, fC (by omega)]
  rfl
 ·subst z
  refine ⟨_, ?_, rfl⟩
  rfl
end Sx
end
section
namespace Sx
open Go Go.Ab
theorem I7 (x : Nat) (z : x < 256) : bY .u64 (gA .u8 (x : Int) 128) = ((x % 128 : Nat) : Int) := by
 have h : ∀ m : Nat, m < 256 → gA .u8 (m : Int) 128 = ((m % 128 : Nat) : Int) := by decide +kernel
 rw [h x z, mZ (by omega) (by omega)]
theorem LV (a k : Nat) (hk : k ≤ 9) (h : a * 128 ^ k < 18446744073709551616) : Av .u64 (a : Int) ((7 * k : Nat) : Int) = ((a * 128 ^ k : Nat) : Int) := by
 unfold Av
 rw [AX]
 have z : min ((7 * k : Nat) : Int).toNat IntKind.u64.bits = 7 * k := by
  show min ((7 * k : Nat) : Int).toNat 64 = 7 * k
  rw [yq2]; omega
 rw [z]
 have H : (2 : Int) ^ (7 * k) = ((128 ^ k : Nat) : Int) := by
  rw [Int.pow_mul]
  simp
 rw [H]
 have J : (a : Int) * ((128 ^ k : Nat) : Int) = ((a * 128 ^ k : Nat) : Int) := by simp
 rw [J]
 omega
theorem Ju (v x k : Nat) (H : k ≤ 9) (J : x < 256) (z : v < 128 ^ k) (h : x % 128 * 128 ^ k + v < 18446744073709551616) : oV (v : Int) (x : Int) k = ((x % 128 * 128 ^ k + v : Nat) : Int) := by
 unfold oV
 rw [I7 x J, LV (x % 128) k H (by omega), IF v _ (by omega) (by omega)]
 have e : (128 : Nat) ^ k = 2 ^ (7 * k) := by rw [Nat.pow_mul]
 rw [e] at z ⊢
 have := Nat.shiftLeft_add_eq_or_of_lt z (x % 128)
 rw [Nat.shiftLeft_eq] at this
 rw [this, Nat.or_comm]
end Sx
end
section
namespace Sx
open Go Go.Ab
def u64 (v : Int) : Prop := 0 ≤ v ∧ v ≤ 18446744073709551615
def sG (old : Bool) (v : Int) : List Int := bif old then FT 8 v.toNat else JH v.toNat
def iO (old : Bool) (l : List Int) : List Int := l.flatMap (sG old)
def mF (old : Bool) (l : List Int) : List Int := iO old ((l.length : Int) :: l)
def n0 (v : Int) : Int := if v < 0 then 0 else v
def AF (old : Bool) (f : Dt) : List Int := iO old [n0 f.1, n0 f.2.1] ++ mF old f.2.2.1 ++ mF old f.2.2.2
def CS (old : Bool) (o : Dt) : List Int := iO old [n0 o.1, n0 o.2.1] ++ mF old o.2.2.1 ++ iO old [(o.2.2.2.length : Int)] ++ o.2.2.2
def GS (old : Bool) (h : Ka) : List Int := iO old [n0 h.1, h.2.1, bif h.2.2 then 1 else 0]
theorem H9 (k v : Nat) : aX (FT k v) := fun x z => by
 unfold FT at z
 obtain ⟨i, _, rfl⟩ := yu2.1 z
 omega
theorem GD (old : Bool) (v : Int) : (sG old v).length ≤ 11 := by
 unfold sG
 cases old with
 | true => rw [yg, KW]; omega
 | false => exact (Gr _).2
theorem Ht (old : Bool) {v : Int} (h : u64 v) : aX (sG old v) := by
 have := h.1; have := h.2
 unfold sG
 cases old with
 | true => exact H9 _ _
 | false => exact HK (by omega)
theorem eK (old : Bool) (l : List Int) : (iO old l).length ≤ 11 * l.length := iY _ 11 l fun x _ => GD old x
theorem dN (old : Bool) {l : List Int} (h : ∀ v ∈ l, u64 v) : aX (iO old l) := fun x z => by
 obtain ⟨v, H, z⟩ := yp2.1 z
 exact Ht old (h v H) x z
theorem app_bytes {a b : List Int} (z : aX a) (J : aX b) : aX (a ++ b) := fun x H => (yj1.1 H).elim (z x) (J x)
theorem eM (n : Nat) (old : Bool) (l : List Int) (N : ∀ v ∈ l, u64 v) (h : l.length ≤ 200000) (hn : 400000 ≤ n) : qap n old l = some (iO old l) := by
 have h := gM (B := fun s => qap_B0 n s.1.1 s.1.2.1 s.1.2.2 s.2) (xs := l) (mk := fun i a => ((old, (l, (i : Int))), a)) (f := sG old) (e := fun a => a) (c := 11) (m0 := []) (cap := 4000000) (fun x _ => GD old x) (by simp; omega) (fun i a x H O z => ?_) (fun a => ?_) (n := n) (by omega)
 ·unfold qap
  rw [show qap_W0 n ((old, (l, 0)), []) = _ from h]
  rfl
 ·have hi := fM H
  have J := N x O
  obtain ⟨v, rfl⟩ := yj2 J.1
  have K : v < 18446744073709551616 := by have := J.2; omega
  show qap_B0 n old l (i : Int) a = _
  unfold qap_B0
  rw [bG, decide_eq_true (by omega), yg, fI, H, yb, yb, fC (by omega)]
  cases old with
  | true =>
   have e : sG true (v : Int) = FT 8 v := rfl
   rw [e] at z ⊢
   rw [yg, Fq n v K (by omega), yb, a8 (by rw [yj]; omega)]
   rfl
  | false =>
   have e : sG false (v : Int) = JH v := rfl
   rw [e] at z ⊢
   rw [yh, J2 n v K (by omega), yb, a8 (by rw [yj]; omega)]
   rfl
 ·show qap_B0 n old l (l.length : Int) a = _
  unfold qap_B0
  rw [bG, decide_eq_false (by omega), yh]
theorem E5 (n : Nat) (old : Bool) (l : List Int) (J : ∀ v ∈ l, u64 v) (h : l.length ≤ 180000) (H : 400000 ≤ n) : qan n old l = some (mF old l) := by
 unfold qan mF
 rw [lI l (by omega), a8 (by simp; omega), yg]
 rw [show (([((l.length : Nat) : Int)] : List Int) ++ l) = ((l.length : Nat) : Int) :: l from rfl, eM n old _ (fun v z => by
  rcases yf1.1 z with rfl | z
  ·exact ⟨by omega, by omega⟩
  ·exact J v z) (by simp; omega) H]
 rfl
theorem bB (n : Nat) (v : Int) (h1 : -9223372036854775808 ≤ v) (h2 : v ≤ 9223372036854775807) : qag n v = some (n0 v) ∧ u64 (n0 v) := by
 unfold qag n0 u64
 by_cases h : v < 0
 ·rw [decide_eq_true h, if_pos h]; exact ⟨rfl, by omega⟩
 ·rw [decide_eq_false h, if_neg h, yh, mZ (by omega) (by omega)]; exact ⟨rfl, by omega⟩
def i64 (v : Int) : Prop := -9223372036854775808 ≤ v ∧ v ≤ 9223372036854775807
structure Nk (f : Dt) : Prop where
 a : i64 f.1
 b : i64 f.2.1
 l : ∀ v ∈ f.2.2.1, u64 v
 k : ∀ v ∈ f.2.2.2, u64 v
structure N4 (f : Dt) : Prop where
 a : i64 f.1
 b : i64 f.2.1
 l : ∀ v ∈ f.2.2.1, u64 v
 k : aX f.2.2.2
structure Ng (h : Ka) : Prop where
 a : i64 h.1
 d : u64 h.2.1
structure Lm (s : wY) : Prop where
 f : ∀ x ∈ s.1, Nk x
 o : ∀ x ∈ s.2.1, N4 x
 h : ∀ x ∈ s.2.2.1, Ng x
 q : i64 s.2.2.2.1
 u : i64 s.2.2.2.2.1
 e : i64 s.2.2.2.2.2.1
 v : u64 s.2.2.2.2.2.2
structure sC (s : wY) : Prop where
 n : s.1.length + s.2.1.length + s.2.2.1.length ≤ 6000
 f : ∀ x ∈ s.1, x.2.2.1.length ≤ 6000 ∧ x.2.2.2.length ≤ 6000
 o : ∀ x ∈ s.2.1, x.2.2.1.length ≤ 6000 ∧ x.2.2.2.length ≤ 6000
theorem AJ {a b : Int} (H : u64 a) (J : u64 b) : ∀ v ∈ [a, b], u64 v := fun v z => by
 rcases yf1.1 z with rfl | z
 ·exact H
 ·rw [yb1.1 z]; exact J
theorem Fj {l : List Int} (H : ∀ v ∈ l, u64 v) (h : l.length ≤ 180000) : ∀ v ∈ (l.length : Int) :: l, u64 v := fun v z => by
 rcases yf1.1 z with rfl | z
 ·exact ⟨by omega, by omega⟩
 ·exact H v z
theorem AI (old : Bool) (f : Dt) (h : f.2.2.1.length ≤ 6000 ∧ f.2.2.2.length ≤ 6000) : (AF old f).length ≤ 200000 := by
 have z := eK old [n0 f.1, n0 f.2.1]
 have H := eK old ((f.2.2.1.length : Int) :: f.2.2.1)
 have J := eK old ((f.2.2.2.length : Int) :: f.2.2.2)
 simp only [yw, yq1] at z H J
 unfold AF mF
 simp only [yj]
 omega
theorem AL (old : Bool) (f : Dt) (h : f.2.2.1.length ≤ 6000 ∧ f.2.2.2.length ≤ 6000) : (CS old f).length ≤ 200000 := by
 have z := eK old [n0 f.1, n0 f.2.1]
 have H := eK old ((f.2.2.1.length : Int) :: f.2.2.1)
 have J := eK old [(f.2.2.2.length : Int)]
 simp only [yw, yq1] at z H J
 unfold CS mF
 simp only [yj]
 omega
theorem AP (old : Bool) (h : Ka) : (GS old h).length ≤ 200000 := by
 have z := eK old [n0 h.1, h.2.1, bif h.2.2 then 1 else 0]
 simp only [yw, yq1] at z
 unfold GS
 omega
theorem JY (old : Bool) {f : Dt} (h : Nk f) (hs : f.2.2.1.length ≤ 6000 ∧ f.2.2.2.length ≤ 6000) : aX (AF old f) :=
 app_bytes (app_bytes (dN old (AJ (bB 0 _ h.a.1 h.a.2).2 (bB 0 _ h.b.1 h.b.2).2)) (dN old (Fj h.l (by omega)))) (dN old (Fj h.k (by omega)))
theorem J4 (old : Bool) {f : Dt} (h : N4 f) (hs : f.2.2.1.length ≤ 6000 ∧ f.2.2.2.length ≤ 6000) : aX (CS old f) :=
 app_bytes (app_bytes (app_bytes (dN old (AJ (bB 0 _ h.a.1 h.a.2).2 (bB 0 _ h.b.1 h.b.2).2)) (dN old (Fj h.l (by omega)))) (dN old fun v z => by rw [yb1.1 z]; exact ⟨by omega, by omega⟩)) h.k
theorem Iu {h : Ka} (H : Ng h) : ∀ v ∈ [n0 h.1, h.2.1, bif h.2.2 then 1 else 0], u64 v := fun v z => by
 rcases yf1.1 z with rfl | z
 ·exact (bB 0 _ H.a.1 H.a.2).2
 ·rcases yf1.1 z with rfl | z
  ·exact H.d
  ·rw [yb1.1 z]; cases h.2.2 <;> (unfold u64; simp)
theorem JM (old : Bool) {h : Ka} (z : Ng h) : aX (GS old h) := dN old (Iu z)
end Sx
end
section
namespace Sx
open Go Go.Ab
theorem KT (n : Nat) (old : Bool) (s : wY) (ho : Lm s) (J : sC s) (N K H : List Int) (U : 400000 ≤ n) :
  qak_W0 n ((old, 0), (s, (N, ([], (K, H))))) = some (old, (s, (N, ((s.1).flatMap (AF old), (K, H))))) := by
 have h := gM (B := fun s => qak_B0 n s.1.1 s.1.2 s.2.1.1 s.2.1.2.1 s.2.1.2.2.1 s.2.1.2.2.2.1 s.2.1.2.2.2.2.1 s.2.1.2.2.2.2.2.1 s.2.1.2.2.2.2.2.2 s.2.2.1 s.2.2.2.1 s.2.2.2.2.1 s.2.2.2.2.2) (xs := s.1) (mk := fun i a => ((old, (i : Int)), (s, (N, (a, (K, H)))))) (f := AF old)
  (e := fun a => (old, (s, (N, (a, (K, H)))))) (c := 200000) (m0 := []) (cap := 3900000000) (fun x O => AI old x (J.f x O)) (by have := J.n; simp; omega) (fun i a x Z O Y => ?_) (fun a => ?_) (n := n) (by have := J.n; omega)
 ·exact h
 ·have hi := fM Z
  have W := J.n
  have z := ho.f x O
  have V := J.f x O
  show qak_B0 n old (i : Int) s.1 s.2.1 s.2.2.1 s.2.2.2.1 s.2.2.2.2.1 s.2.2.2.2.2.1 s.2.2.2.2.2.2 N a K H = _
  have l0 := AI old x V
  unfold AF at Y l0 ⊢
  simp only [yj] at Y l0
  unfold qak_B0
  rw [bG, decide_eq_true (by omega), yg, fI, Z, yb, (bB n _ z.a.1 z.a.2).1, yb, (bB n _ z.b.1 z.b.2).1, yb,
   eM n old _ (AJ (bB 0 _ z.a.1 z.a.2).2 (bB 0 _ z.b.1 z.b.2).2) (by simp) U, yb, a8 (by rw [yj]; omega), yg, E5 n old _ z.l (by omega) U, yb,
   a8 (by simp only [yj]; omega), yg, E5 n old _ z.k (by omega) U, yb, a8 (by simp only [yj]; omega), yg, fC (by omega)]
  simp only [ye2]
 ·have W := J.n
  show qak_B0 n old ((s.1).length : Int) s.1 s.2.1 s.2.2.1 s.2.2.2.1 s.2.2.2.2.1 s.2.2.2.2.2.1 s.2.2.2.2.2.2 N a K H = _
  unfold qak_B0
  rw [bG, decide_eq_false (by omega), yh]
theorem Kg (n : Nat) (old : Bool) (s : wY) (ho : Lm s) (J : sC s) (N K H : List Int) (U : 400000 ≤ n) :
  qak_W2 n ((old, 0), (s, (N, (K, ([], H))))) = some (old, (s, (N, (K, ((s.2.1).flatMap (CS old), H))))) := by
 have h := gM (B := fun s => qak_B2 n s.1.1 s.1.2 s.2.1.1 s.2.1.2.1 s.2.1.2.2.1 s.2.1.2.2.2.1 s.2.1.2.2.2.2.1 s.2.1.2.2.2.2.2.1 s.2.1.2.2.2.2.2.2 s.2.2.1 s.2.2.2.1 s.2.2.2.2.1 s.2.2.2.2.2) (xs := s.2.1) (mk := fun i a => ((old, (i : Int)), (s, (N, (K, (a, H)))))) (f := CS old)
  (e := fun a => (old, (s, (N, (K, (a, H)))))) (c := 200000) (m0 := []) (cap := 3900000000) (fun x O => AL old x (J.o x O)) (by have := J.n; simp; omega) (fun i a x Z O Y => ?_) (fun a => ?_) (n := n) (by have := J.n; omega)
 ·exact h
 ·have hi := fM Z
  have W := J.n
  have z := ho.o x O
  have V := J.o x O
  show qak_B2 n old (i : Int) s.1 s.2.1 s.2.2.1 s.2.2.2.1 s.2.2.2.2.1 s.2.2.2.2.2.1 s.2.2.2.2.2.2 N K a H = _
  have l0 := AL old x V
  unfold CS at Y l0 ⊢
  simp only [yj] at Y l0
  unfold qak_B2
  rw [bG, decide_eq_true (by omega), yg, fI, Z, yb, (bB n _ z.a.1 z.a.2).1, yb, (bB n _ z.b.1 z.b.2).1, yb,
   eM n old _ (AJ (bB 0 _ z.a.1 z.a.2).2 (bB 0 _ z.b.1 z.b.2).2) (by simp) U, yb, a8 (by rw [yj]; omega), yg, E5 n old _ z.l (by omega) U, yb,
   a8 (by simp only [yj]; omega), yg, lI x.2.2.2 (by omega), eM n old [((x.2.2.2.length : Nat) : Int)] (fun v hv => by rw [yb1.1 hv]; exact ⟨by omega, by omega⟩) (by simp) U, yb,
   a8 (by simp only [yj]; omega), yg, a8 (by simp only [yj]; omega), yg, fC (by omega)]
  simp only [ye2]
 ·have W := J.n
  show qak_B2 n old ((s.2.1).length : Int) s.1 s.2.1 s.2.2.1 s.2.2.2.1 s.2.2.2.2.1 s.2.2.2.2.2.1 s.2.2.2.2.2.2 N K a H = _
  unfold qak_B2
  rw [bG, decide_eq_false (by omega), yh]
theorem K8 (n : Nat) (old : Bool) (s : wY) (ho : Lm s) (O : sC s) (K H J : List Int) (Z : 400000 ≤ n) :
  qak_W4 n ((old, 0), (s, (K, (H, (J, []))))) = some (old, (s, (K, (H, (J, (s.2.2.1).flatMap (GS old)))))) := by
 have h := gM (B := fun s => qak_B4 n s.1.1 s.1.2 s.2.1.1 s.2.1.2.1 s.2.1.2.2.1 s.2.1.2.2.2.1 s.2.1.2.2.2.2.1 s.2.1.2.2.2.2.2.1 s.2.1.2.2.2.2.2.2 s.2.2.1 s.2.2.2.1 s.2.2.2.2.1 s.2.2.2.2.2) (xs := s.2.2.1) (mk := fun i a => ((old, (i : Int)), (s, (K, (H, (J, a)))))) (f := GS old)
  (e := fun a => (old, (s, (K, (H, (J, a)))))) (c := 200000) (m0 := []) (cap := 3900000000) (fun x hm => AP old x ) (by have := O.n; simp; omega) (fun i a x hx hm V => ?_) (fun a => ?_) (n := n) (by have := O.n; omega)
 ·exact h
 ·have hi := fM hx
  have Y := O.n
  have z := ho.h x hm
  show qak_B4 n old (i : Int) s.1 s.2.1 s.2.2.1 s.2.2.2.1 s.2.2.2.2.1 s.2.2.2.2.2.1 s.2.2.2.2.2.2 K H J a = _
  have W := AP old x
  have U := Iu z
  unfold GS at V W ⊢
  unfold qak_B4
  rw [bG, decide_eq_true (by omega), yg, fI, hx, yb]
  cases N : x.2.2 with
  | true =>
   rw [N, yg] at V W U
   rw [yg, (bB n _ z.a.1 z.a.2).1, yb, eM n old _ U (by simp) Z, yb, a8 (by rw [yj]; omega), yg, fC (by omega)]
   rfl
  | false =>
   rw [N, yh] at V W U
   rw [yh, (bB n _ z.a.1 z.a.2).1, yb, eM n old _ U (by simp) Z, yb, a8 (by rw [yj]; omega), yg, fC (by omega)]
   rfl
 ·have Y := O.n
  show qak_B4 n old ((s.2.2.1).length : Int) s.1 s.2.1 s.2.2.1 s.2.2.2.1 s.2.2.2.2.1 s.2.2.2.2.2.1 s.2.2.2.2.2.2 K H J a = _
  unfold qak_B4
  rw [bG, decide_eq_false (by omega), yh]
def kY {A : Type} (old : Bool) (f : A → List Int) (l : List A) : List Int := iO old [(l.length : Int)] ++ l.flatMap f
theorem pB {A : Type} (old : Bool) {f : A → List Int} {l : List A} (h : ∀ x ∈ l, aX (f x)) (hl : l.length ≤ 200000) : aX (kY old f l) := app_bytes (dN old fun v H => by rw [yb1.1 H]; exact ⟨by omega, by omega⟩) fun x z => by
 obtain ⟨y, J, z⟩ := yp2.1 z
 exact h y J x z
theorem kF {A : Type} (old : Bool) {f : A → List Int} {l : List A} (h : ∀ x ∈ l, (f x).length ≤ 200000) : (kY old f l).length ≤ 11 + 200000 * l.length := by
 have z := eK old [(l.length : Int)]
 have h2 := iY f 200000 l h
 simp only [yw, yq1] at z
 unfold kY
 rw [yj]; omega
def lK (old : Bool) (s : wY) (p : BitVec 32) : List Int := [bif old then 1 else 2] ++ CW p ++ iO old [n0 s.2.2.2.2.2.1, n0 s.2.2.2.1, n0 s.2.2.2.2.1, s.2.2.2.2.2.2]
def AC (old : Bool) (s : wY) (p : BitVec 32) : List Int :=
 bif old then lK old s p ++ kY old (GS old) s.2.2.1 ++ kY old (AF old) s.1 ++ kY old (CS old) s.2.1
 else lK old s p ++ kY old (AF old) s.1 ++ kY old (CS old) s.2.1 ++ kY old (GS old) s.2.2.1
theorem Be {s : wY} (H : Lm s) : ∀ v ∈ [n0 s.2.2.2.2.2.1, n0 s.2.2.2.1, n0 s.2.2.2.2.1, s.2.2.2.2.2.2], u64 v := fun v z => by
 rcases yf1.1 z with rfl | z
 ·exact (bB 0 _ H.e.1 H.e.2).2
 ·rcases yf1.1 z with rfl | z
  ·exact (bB 0 _ H.q.1 H.q.2).2
  ·rcases yf1.1 z with rfl | z
   ·exact (bB 0 _ H.u.1 H.u.2).2
   ·rw [yb1.1 z]; exact H.v
theorem GB (old : Bool) {s : wY} (H : Lm s) (p : BitVec 32) : aX (lK old s p) := app_bytes (app_bytes (fun x z => by rw [yb1.1 z]; cases old <;> simp) (C7 p)) (dN old (Be H))
theorem Eb (old : Bool) (s : wY) (p : BitVec 32) : (lK old s p).length ≤ 100 := by
 have z := eK old [n0 s.2.2.2.2.2.1, n0 s.2.2.2.1, n0 s.2.2.2.2.1, s.2.2.2.2.2.2]
 simp only [yw, yq1] at z
 unfold lK
 simp only [yj, yw, yq1, CW]
 omega
theorem H2 (old : Bool) {s : wY} (H : Lm s) (J : sC s) (p : BitVec 32) : aX (AC old s p) := by
 have hn := J.n
 have a := GB old H p
 have f := pB old (f := AF old) (l := s.1) (fun x z => JY old (H.f x z) (J.f x z)) (by omega)
 have o := pB old (f := CS old) (l := s.2.1) (fun x z => J4 old (H.o x z) (J.o x z)) (by omega)
 have h := pB old (f := GS old) (l := s.2.2.1) (fun x z => JM old (H.h x z)) (by omega)
 unfold AC
 cases old with
 | true => exact app_bytes (app_bytes (app_bytes a h) f) o
 | false => exact app_bytes (app_bytes (app_bytes a f) o) h
theorem Ky (old : Bool) {s : wY} (H : sC s) (p : BitVec 32) : (AC old s p).length ≤ 3900000000 := by
 have hn := H.n
 have a := Eb old s p
 have f := kF old (f := AF old) (l := s.1) (fun x z => AI old x (H.f x z))
 have o := kF old (f := CS old) (l := s.2.1) (fun x z => AL old x (H.o x z))
 have h := kF old (f := GS old) (l := s.2.2.1) (fun x z => AP old x)
 unfold AC
 cases old with
 | true => simp only [yg, yj]; omega
 | false => simp only [yh, yj]; omega
end Sx
end
section
namespace Sx
open Go Go.Ab
theorem IX (p : BitVec 32) : bY .u64 (dD p) = dD p := by
 have := p.isLt
 unfold dD
 rw [mZ (by omega) (by omega)]
theorem Hz {v : Int} (h : 0 ≤ v ∧ v ≤ 4294967295) : ∃ p : BitVec 32, dD p = v := ⟨BitVec.ofNat 32 v.toNat, by
 unfold dD
 rw [BitVec.toNat_ofNat, yf3 (by omega)]
 omega⟩
theorem KE (n : Nat) (hn : 4000000000 ≤ n) (old : Bool) (s : wY) (z : Lm s) (H : sC s) (p : BitVec 32) :
  qak n s.1 s.2.1 s.2.2.1 s.2.2.2.1 s.2.2.2.2.1 s.2.2.2.2.2.1 s.2.2.2.2.2.2 (dD p) old = some (zL (AC old s p)) := by
 have hN := H.n
 have V := H2 old z H p
 have hl := Ky old H p
 have hh := Eb old s p
 have f := kF old (f := AF old) (l := s.1) (fun x N => AI old x (H.f x N))
 have o := kF old (f := CS old) (l := s.2.1) (fun x N => AL old x (H.o x N))
 have h := kF old (f := GS old) (l := s.2.2.1) (fun x N => AP old x)
 have K : ∀ k : Nat, k ≤ 200000 → ∀ v ∈ [(k : Int)], u64 v := fun k hk v Y => by rw [yb1.1 Y]; exact ⟨by omega, by omega⟩
 have J : (CW p).length = 4 := rfl
 have W := eK old [n0 s.2.2.2.2.2.1, n0 s.2.2.2.1, n0 s.2.2.2.2.1, s.2.2.2.2.2.2]
 simp only [yw, yq1] at W
 unfold kY at f o h
 simp only [yj] at f o h
 unfold qak
 cases old with
 | true =>
  have e : lK true s p = [1] ++ CW p ++ iO true [n0 s.2.2.2.2.2.1, n0 s.2.2.2.1, n0 s.2.2.2.2.1, s.2.2.2.2.2.2] := rfl
  rw [yg, IX, pW n p (by omega), yb, show List.set [(2 : Int)] 0 1 = [1] from rfl, a8 (by simp [J]), yg, (bB n _ z.e.1 z.e.2).1, yb, (bB n _ z.q.1 z.q.2).1, yb,
   (bB n _ z.u.1 z.u.2).1, yb, eM n true _ (Be z) (by simp) (by omega), yb, a8 (by simp only [yj, yw, yq1, J]; omega), yg, ← e]
  have w0 := KT n true s z H (lK true s p) [] [] (by omega)
  have O := Kg n true s z H (lK true s p) (s.1.flatMap (AF true)) [] (by omega)
  have U := K8 n true s z H (lK true s p) (s.1.flatMap (AF true)) (s.2.1.flatMap (CS true)) (by omega)
  refine (congrArg (fun q => Option.bind q _) w0).trans ?_
  rw [yb]
  refine (congrArg (fun q => Option.bind q _) O).trans ?_
  rw [yb]
  refine (congrArg (fun q => Option.bind q _) U).trans ?_
  rw [yb]
  simp only
  rw [lI s.1 (by omega), lI s.2.1 (by omega), lI s.2.2.1 (by omega), eM n true _ (K _ (by omega)) (by simp) (by omega), yb, a8 (by rw [yj]; omega), yg,
   eM n true _ (K _ (by omega)) (by simp) (by omega), yb, a8 (by rw [yj]; omega), yg, eM n true _ (K _ (by omega)) (by simp) (by omega), yb, a8 (by rw [yj]; omega), yg, yg,
   a8 (by simp only [yj]; omega), yg, a8 (by simp only [yj]; omega), yg, a8 (by simp only [yj]; omega), yg]
  have := sP n (AC true s p) V (by omega) (by omega)
  refine (congrArg (fun q => Option.bind q _) this).trans ?_
  rfl
 | false =>
  have e : lK false s p = [2] ++ CW p ++ iO false [n0 s.2.2.2.2.2.1, n0 s.2.2.2.1, n0 s.2.2.2.2.1, s.2.2.2.2.2.2] := rfl
  rw [yh, IX, pW n p (by omega), yb, a8 (by simp [J]), yg, (bB n _ z.e.1 z.e.2).1, yb, (bB n _ z.q.1 z.q.2).1, yb,
   (bB n _ z.u.1 z.u.2).1, yb, eM n false _ (Be z) (by simp) (by omega), yb, a8 (by simp only [yj, yw, yq1, J]; omega), yg, ← e]
  have w0 := KT n false s z H (lK false s p) [] [] (by omega)
  have O := Kg n false s z H (lK false s p) (s.1.flatMap (AF false)) [] (by omega)
  have U := K8 n false s z H (lK false s p) (s.1.flatMap (AF false)) (s.2.1.flatMap (CS false)) (by omega)
  refine (congrArg (fun q => Option.bind q _) w0).trans ?_
  rw [yb]
  refine (congrArg (fun q => Option.bind q _) O).trans ?_
  rw [yb]
  refine (congrArg (fun q => Option.bind q _) U).trans ?_
  rw [yb]
  simp only
  rw [lI s.1 (by omega), lI s.2.1 (by omega), lI s.2.2.1 (by omega), eM n false _ (K _ (by omega)) (by simp) (by omega), yb, a8 (by rw [yj]; omega), yg,
   eM n false _ (K _ (by omega)) (by simp) (by omega), yb, a8 (by rw [yj]; omega), yg, eM n false _ (K _ (by omega)) (by simp) (by omega), yb, a8 (by rw [yj]; omega), yg, yh,
   a8 (by simp only [yj]; omega), yg, a8 (by simp only [yj]; omega), yg, a8 (by simp only [yj]; omega), yg]
  have := sP n (AC false s p) V (by omega) (by omega)
  refine (congrArg (fun q => Option.bind q _) this).trans ?_
  rfl
end Sx
end
section
namespace Sx
open Go Go.Ab
structure Oi (s : wY) : Prop where
 n1 : s.1.length ≤ 140737488351232
 n2 : s.2.1.length ≤ 140737488351232
 n3 : s.2.2.1.length ≤ 140737488351232
 f : ∀ x ∈ s.1, x.2.2.1.length ≤ 140737488351232 ∧ x.2.2.2.length ≤ 140737488351232
 o : ∀ x ∈ s.2.1, x.2.2.1.length ≤ 140737488351232 ∧ x.2.2.2.length ≤ 140737488351232
end Sx
end
section
namespace Sx
open Go Go.Ab
end Sx
end
section
namespace Sx
open Go Go.Ab
def LZ (s : List Int) (j : Nat) : Bool := (s.getD (j / 8) 0).toNat.testBit (j % 8)
def yG (k t j : Nat) : Bool := decide (k ≤ j) && decide (j < k + 32) && t.testBit (j - k)
end Sx
end
section
namespace Sx
open Go Go.Ab
structure Ov (s : List Int) (k t i : Nat) (m : List Int) : Prop where
 len : m.length = s.length
 bytes : aX m
 bits : ∀ j, j < 8 * s.length → LZ m j = (LZ s j ^^ (decide (k ≤ j) && decide (j < k + i) && t.testBit (j - k)))
end Sx
end
section
namespace Sx
open Go Go.Ab
end Sx
end
section
namespace Sx
open Go Go.Ab
def ID (v : Int) : Prop := 0 ≤ v ∧ v ≤ 2147483647
theorem pE {v : Int} (h : ID v) : n0 v = v := by unfold n0; rw [if_neg (by have := h.1; omega)]
structure Nd (f : Dt) : Prop where
 a : ID f.1
 b : ID f.2.1
structure Oh (h : Ka) : Prop where
 a : ID h.1
structure Nl (s : wY) : Prop where
 f : ∀ x ∈ s.1, Nd x
 o : ∀ x ∈ s.2.1, Nd x
 h : ∀ x ∈ s.2.2.1, Oh x
 q : ID s.2.2.2.1
 u : ID s.2.2.2.2.1
 e : ID s.2.2.2.2.2.1
end Sx
end
section
namespace Sx
open Go Go.Ab
end Sx
end
section
namespace Sx
open Go Go.Ab
def two (x : Dt) : List Int := [x.1, x.2.1]
def L3 (s : wY) : List Int := [s.2.2.2.2.2.1, s.2.2.2.1, s.2.2.2.2.1] ++ s.1.flatMap (fun x => [x.1, x.2.1]) ++ s.2.1.flatMap (fun x => [x.1, x.2.1]) ++ s.2.2.1.flatMap (fun x => [x.1])
def Li (v : Int) : Bool := decide (v < 0) || decide (v > 2147483647)
theorem HD (n : Nat) (l : List Int) (hl : l.length ≤ 1000000) (hn : 1000002 ≤ n) : qai_W6 n (0, l) = some (if l.any Li = true then Sum.inl (false, l) else Sum.inr l) := by
 have h := zF (B := fun s => qai_B6 n s.1 s.2) (xs := l) (mk := fun i => ((i : Int), l)) (p := Li) (found := fun _ _ => Sum.inl (false, l)) (e := Sum.inr l) (fun i x J => by
   have hi := fM J
   show qai_B6 n (i : Int) l = _
   unfold qai_B6 Li
   rw [bG, decide_eq_true (by omega), yg, decide_eq_true (by omega), yn3, yg, yq2, J, yb, yb, fC (by omega), yg]
   cases decide (x < 0) <;> cases decide (x > 2147483647) <;> rfl) (by
   show qai_B6 n (l.length : Int) l = _
   unfold qai_B6
   rw [bG, decide_eq_false (by omega), yh]) l.length 0 n (by omega) (by omega)
 rw [yl3] at h
 rcases h with ⟨z, k, x, _, _, H⟩ | ⟨z, H⟩
 ·rw [if_pos z]; exact H
 ·rw [if_neg (by rw [z]; simp)]; exact H
theorem Kt (n : Nat) (s : wY) (hN : s.1.length + s.2.1.length + s.2.2.1.length ≤ 200000) (hn : 2000000 ≤ n) : qai n s.1 s.2.1 s.2.2.1 s.2.2.2.1 s.2.2.2.2.1 s.2.2.2.2.2.1 s.2.2.2.2.2.2 = some (!(L3 s).any Li) := by
 have U : ∀ m : List Int, m.length ≤ 1000000 → qai_W0 n (0, (s, m)) = some (s, m ++ (s.1).flatMap (fun x => [x.1, x.2.1])) := fun m J => by
  have h := gM (B := fun s => qai_B0 n s.1 s.2.1.1 s.2.1.2.1 s.2.1.2.2.1 s.2.1.2.2.2.1 s.2.1.2.2.2.2.1 s.2.1.2.2.2.2.2.1 s.2.1.2.2.2.2.2.2 s.2.2) (xs := s.1) (mk := fun i a => ((i : Int), (s, a))) (f := fun x => [x.1, x.2.1]) (e := fun a => (s, a)) (c := 2) (m0 := m) (cap := 2000000) (fun x _ => by simp) (by omega) (fun i a x z J H => by
   have K := fM z
   simp only [yw, yq1] at H
   show qai_B0 n (i : Int) s.1 s.2.1 s.2.2.1 s.2.2.2.1 s.2.2.2.2.1 s.2.2.2.2.2.1 s.2.2.2.2.2.2 a = _
   unfold qai_B0
   rw [bG, decide_eq_true (by omega), yg, fI, z]
   simp only [yb]
   rw [a8 (by simp; omega), yg, fC (by omega)]) (fun a => by
   show qai_B0 n ((s.1).length : Int) s.1 s.2.1 s.2.2.1 s.2.2.2.1 s.2.2.2.2.1 s.2.2.2.2.2.1 s.2.2.2.2.2.2 a = _
   unfold qai_B0
   rw [bG, decide_eq_false (by omega), yh]) (n := n) (by omega)
  exact h
 have V : ∀ m : List Int, m.length ≤ 1000000 → qai_W2 n (0, (s, m)) = some (s, m ++ (s.2.1).flatMap (fun x => [x.1, x.2.1])) := fun m J => by
  have h := gM (B := fun s => qai_B2 n s.1 s.2.1.1 s.2.1.2.1 s.2.1.2.2.1 s.2.1.2.2.2.1 s.2.1.2.2.2.2.1 s.2.1.2.2.2.2.2.1 s.2.1.2.2.2.2.2.2 s.2.2) (xs := s.2.1) (mk := fun i a => ((i : Int), (s, a))) (f := fun x => [x.1, x.2.1]) (e := fun a => (s, a)) (c := 2) (m0 := m) (cap := 2000000) (fun x _ => by simp) (by omega) (fun i a x z J H => by
   have K := fM z
   simp only [yw, yq1] at H
   show qai_B2 n (i : Int) s.1 s.2.1 s.2.2.1 s.2.2.2.1 s.2.2.2.2.1 s.2.2.2.2.2.1 s.2.2.2.2.2.2 a = _
   unfold qai_B2
   rw [bG, decide_eq_true (by omega), yg, fI, z]
   simp only [yb]
   rw [a8 (by simp; omega), yg, fC (by omega)]) (fun a => by
   show qai_B2 n ((s.2.1).length : Int) s.1 s.2.1 s.2.2.1 s.2.2.2.1 s.2.2.2.2.1 s.2.2.2.2.2.1 s.2.2.2.2.2.2 a = _
   unfold qai_B2
   rw [bG, decide_eq_false (by omega), yh]) (n := n) (by omega)
  exact h
 have N : ∀ m : List Int, m.length ≤ 1000000 → qai_W4 n (0, (s, m)) = some (s, m ++ (s.2.2.1).flatMap (fun x => [x.1])) := fun m J => by
  have h := gM (B := fun s => qai_B4 n s.1 s.2.1.1 s.2.1.2.1 s.2.1.2.2.1 s.2.1.2.2.2.1 s.2.1.2.2.2.2.1 s.2.1.2.2.2.2.2.1 s.2.1.2.2.2.2.2.2 s.2.2) (xs := s.2.2.1) (mk := fun i a => ((i : Int), (s, a))) (f := fun x => [x.1]) (e := fun a => (s, a)) (c := 2) (m0 := m) (cap := 2000000) (fun x _ => by simp) (by omega) (fun i a x z J H => by
   have K := fM z
   simp only [yw, yq1] at H
   show qai_B4 n (i : Int) s.1 s.2.1 s.2.2.1 s.2.2.2.1 s.2.2.2.2.1 s.2.2.2.2.2.1 s.2.2.2.2.2.2 a = _
   unfold qai_B4
   rw [bG, decide_eq_true (by omega), yg, fI, z]
   simp only [yb]
   rw [a8 (by simp; omega), yg, fC (by omega)]) (fun a => by
   show qai_B4 n ((s.2.2.1).length : Int) s.1 s.2.1 s.2.2.1 s.2.2.2.1 s.2.2.2.2.1 s.2.2.2.2.2.1 s.2.2.2.2.2.2 a = _
   unfold qai_B4
   rw [bG, decide_eq_false (by omega), yh]) (n := n) (by omega)
  exact h
 have f1 := iY (fun x : Dt => [x.1, x.2.1]) 2 s.1 (fun x _ => by simp)
 have f2 := iY (fun x : Dt => [x.1, x.2.1]) 2 s.2.1 (fun x _ => by simp)
 have f3 := iY (fun x : Ka => [x.1]) 2 s.2.2.1 (fun x _ => by simp)
 unfold qai
 refine (congrArg (fun q => Option.bind q _) (U [s.2.2.2.2.2.1, s.2.2.2.1, s.2.2.2.2.1] (by simp))).trans ?_
 rw [yb]
 refine (congrArg (fun q => Option.bind q _) (V _ (by simp only [yj, yw, yq1]; omega))).trans ?_
 rw [yb]
 refine (congrArg (fun q => Option.bind q _) (N _ (by simp only [yj, yw, yq1]; omega))).trans ?_
 rw [yb]
 have O := HD n (L3 s) (by unfold L3; simp only [yj, yw, yq1]; omega) (by omega)
 refine (congrArg (fun q => Option.bind q _) O).trans ?_
 cases (L3 s).any Li <;> rfl
theorem LG (v : Int) : Li v = false ↔ ID v := by
 unfold Li ID
 simp only [Bool.or_eq_false_iff, decide_eq_false_iff_not]
 omega
theorem Mk (s : wY) : (L3 s).any Li = false ↔ Nl s := by
 rw [List.any_eq_false]
 have J : ∀ v, ¬ Li v = true ↔ ID v := fun v => by rw [Bool.not_eq_true]; exact LG v
 constructor
 ·intro h
  have g : ∀ v ∈ L3 s, ID v := fun v z => (J v).1 (h v z)
  unfold L3 at g
  exact ⟨fun x H => ⟨g _ (by simp only [yj1, yp2]; exact .inl (.inl (.inr ⟨x, H, by simp⟩))), g _ (by simp only [yj1, yp2]; exact .inl (.inl (.inr ⟨x, H, by simp⟩)))⟩,
   fun x H => ⟨g _ (by simp only [yj1, yp2]; exact .inl (.inr ⟨x, H, by simp⟩)), g _ (by simp only [yj1, yp2]; exact .inl (.inr ⟨x, H, by simp⟩))⟩,
   fun x H => ⟨g _ (by simp only [yj1, yp2]; exact .inr ⟨x, H, by simp⟩)⟩, g _ (by simp), g _ (by simp), g _ (by simp)⟩
 ·intro h v z
  rw [J]
  unfold L3 at z
  simp only [yj1, yp2] at z
  rcases z with ((z | ⟨x, H, z⟩) | ⟨x, H, z⟩) | ⟨x, H, z⟩
  ·rcases yf1.1 z with rfl | z
   ·exact h.e
   ·rcases yf1.1 z with rfl | z
    ·exact h.q
    ·rw [yb1.1 z]; exact h.u
  ·rcases yf1.1 z with rfl | z
   ·exact (h.f x H).a
   ·rw [yb1.1 z]; exact (h.f x H).b
  ·rcases yf1.1 z with rfl | z
   ·exact (h.o x H).a
   ·rw [yb1.1 z]; exact (h.o x H).b
  ·rw [yb1.1 z]; exact (h.h x H).a
end Sx
end
section
namespace Sx
open Go Go.Ab
end Sx
end
section
namespace Sx
open Go Go.Ab
theorem El {i j : Nat} (h : i ≤ j) : 128 ^ i ≤ 128 ^ j := Nat.pow_le_pow_right (by omega) h
theorem Hk : ∀ (xs : List Int) (i v : Nat) (V : Int) (rest : List Int), aX xs → i ≤ 9 → v < 128 ^ i → pA xs i (v : Int) = (V, rest, false) → ∃ w : Nat, (0 < i → 1 ≤ w) ∧ V = ((w * 128 ^ i + v : Nat) : Int) ∧ w * 128 ^ i + v < 18446744073709551616 ∧ xs = wJ (10 - i) w ++ rest
 | [], i, v, V, rest, Z, W, hv, h => by simp [pA] at h
 | x :: xs, i, v, V, rest, Z, W, hv, h => by
  have hx := Z x (by simp)
  obtain ⟨k, rfl⟩ := yj2 hx.1
  have hp : 0 < 128 ^ i := Nat.pow_pos (by omega)
  have hp9 := El W
  have e9 : (128 : Nat) ^ 9 = 9223372036854775808 := by decide
  have e8 : (128 : Nat) ^ 8 = 72057594037927936 := by decide
  have hs : (128 : Nat) ^ (i + 1) = 128 ^ i * 128 := Nat.pow_succ ..
  unfold pA at h
  split at h
  ·cases h
  ·rename_i hc
   have K : i = 9 → k ≤ 1 := fun e => by
    rcases yu1 1 k with J | J
    ·exact absurd (.inl ⟨e, by omega⟩) hc
    ·exact J
   have U : 0 < i → k ≠ 0 := fun e h0 => hc (.inr ⟨e, by omega⟩)
   have z : k % 128 * 128 ^ i + v < 18446744073709551616 := by
    by_cases h9 : i = 9
    ·have := K h9
     subst h9
     have : k % 128 * 128 ^ 9 ≤ 1 * 128 ^ 9 := yo1 _ (by omega)
     omega
    ·have h8 := El (show i ≤ 8 by omega)
     have : k % 128 * 128 ^ i ≤ 127 * 128 ^ 8 := Nat.mul_le_mul (by omega) h8
     omega
   have H := Ju v k i W (by omega) hv z
   split at h
   ·rename_i N
    simp only [Prod.mk.injEq] at h
    obtain ⟨h1, h2, _⟩ := h
    have Y : k % 128 = k := yf3 (by omega)
    rw [Y] at H z
    refine ⟨k, fun e => by have := U e; omega, ?_, z, ?_⟩
    ·rw [← h1]; exact H
    ·obtain ⟨f, hf⟩ : ∃ f, 10 - i = f + 1 := ⟨9 - i, by omega⟩
     rw [hf, ← h2]
     unfold wJ
     rw [if_pos (by omega)]
     rfl
   ·rename_i N
    have hi8 : i ≤ 8 := by
     rcases yu1 8 i with J | J
     ·have := K (by omega); omega
     ·exact J
    rw [show oV (v : Int) (k : Int) i = _ from H] at h
    have O : k % 128 * 128 ^ i + v < 128 ^ (i + 1) := by
     have : k % 128 * 128 ^ i ≤ 127 * 128 ^ i := yo1 _ (by omega)
     omega
    obtain ⟨w, w1, w2, w3, w4⟩ := Hk xs (i + 1) (k % 128 * 128 ^ i + v) V rest (fun y hy => Z y (by simp [hy])) (by omega) O h
    have hw := w1 (by omega)
    have ew : (w * 128 + k % 128) * 128 ^ i + v = w * 128 ^ (i + 1) + (k % 128 * 128 ^ i + v) := by
     rw [hs, yn1, Nat.mul_assoc, yg2 128 (128 ^ i)]; omega
    refine ⟨w * 128 + k % 128, fun _ => by omega, by rw [ew]; exact w2, by rw [ew]; exact w3, ?_⟩
    obtain ⟨f, hf⟩ : ∃ f, 10 - i = f + 1 := ⟨9 - i, by omega⟩
    rw [hf]
    unfold wJ
    rw [if_neg (by omega), w4, show 10 - (i + 1) = f by omega, show (w * 128 + k % 128) / 128 = w by omega]
    have e : (128 + (w * 128 + k % 128) % 128 : Nat) = k := by omega
    simp only [yx2, List.cons.injEq, and_true]
    omega
theorem GK {xs : List Int} {V : Int} {rest : List Int} (K : aX xs) (h : eG xs false = (V, rest, false)) : u64 V ∧ xs = sG false V ++ rest := by
 unfold eG at h
 rw [if_neg (by simp)] at h
 obtain ⟨w, _, z, J, H⟩ := Hk xs 0 0 V rest K (by omega) (by simp) h
 simp only [Nat.pow_zero, yy2, yf2] at z J H
 subst z
 exact ⟨⟨by omega, by omega⟩, H⟩
end Sx
end
section
namespace Sx
open Go Go.Ab
def eX {A : Type} (f : Rd A) : Prop := ∀ xs b, (f true xs b).2.1 = true
def Lg {A : Type} (one : Rd A) (f : A → List Int) (P : A → Prop) : Prop := ∀ xs x rest, aX xs → one false xs false = (x, false, rest, false) → P x ∧ xs = f x ++ rest
theorem wS {a b : List Int} (h : aX (a ++ b)) : aX b := fun x z => h x (yl1 _ z)
theorem gR : eX kV := fun _ _ => rfl
theorem bF : eX aJ := fun xs b => by unfold aJ; split <;> rfl
theorem bE {A : Type} (a : A) : eX (C3 a) := fun _ _ => rfl
theorem iJ (k : Int) : eX (BU k) := fun _ _ => rfl
theorem aC {A B : Type} {f : Rd A} {g : A → Rd B} (H : eX f) (z : ∀ a, eX (g a)) : eX (cF f g) := fun xs b => by
 unfold cF
 rw [H xs b]
 exact z _ _ _
theorem vK {A : Type} (one : Rd A) (j : Nat) (acc : List A) : eX (mO one j acc) := fun xs b => by rw [jL one j acc true xs b (.inl rfl)]
theorem aR {A : Type} (one : Rd A) : eX (gW one) := fun xs b => by
 unfold gW
 rw [bF xs b]
 exact vK one _ _ _ _
theorem l6 (a d o : Int) : eX (HX a d o) := fun _ _ => rfl
theorem FC : Lg kV (sG false) u64 := fun xs x rest K h => by
 unfold kV at h
 have H : eG xs false = (x, rest, false) := by
  have z := congrArg (fun q => q.1) h
  have J := congrArg (fun q => q.2.2) h
  exact Prod.ext z J
 exact GK K H
theorem iG : Lg aJ (sG false) ID := fun xs x rest U h => by
 unfold aJ at h
 split at h
 ·cases h
 ·rename_i H
  have z : eG xs false = (x, rest, false) := by
   have K := congrArg (fun q => q.1) h
   have N := congrArg (fun q => q.2.2) h
   exact Prod.ext K N
  obtain ⟨J, O⟩ := GK U z
  rw [z] at H
  exact ⟨⟨J.1, by simp only at H; omega⟩, O⟩
theorem Ku {A B : Type} {g : Rd B} (H : jP g) (J : eX g) {z : Bool} {xs : List Int} {b : Bool} {y : B} {rest : List Int} (h : g z xs b = (y, false, rest, false)) : z = false ∧ b = false := by
 constructor
 ·cases z with
  | false => rfl
  | true => have := J xs b; rw [h] at this; cases this
 ·cases b with
  | false => rfl
  | true => have := H.st z xs; rw [h] at this; cases this
theorem bQ {A B : Type} {f : Rd A} {w : A → List Int} {P : A → Prop} {g : A → Rd B} (N : Lg f w P) (O : ∀ a, jP (g a)) (V : ∀ a, eX (g a)) {xs : List Int} {y : B} {rest : List Int} (K : aX xs) (h : cF f g false xs false = (y, false, rest, false)) :
  ∃ a r, P a ∧ xs = w a ++ r ∧ aX r ∧ g a false r false = (y, false, rest, false) := by
 unfold cF at h
 obtain ⟨J, z⟩ := Ku (A := A) (O _) (V _) h
 have e : f false xs false = ((f false xs false).1, false, (f false xs false).2.2.1, false) := Prod.ext rfl (Prod.ext J (Prod.ext rfl z))
 obtain ⟨U, H⟩ := N xs _ _ K e
 exact ⟨_, _, U, H, wS (H ▸ K), by rw [J, z] at h; exact h⟩
theorem D3 {A : Type} {one : Rd A} {f : A → List Int} {P : A → Prop} (U : Lg one f P) (h2 : eX one) (W : jP one) : ∀ (j : Nat) (acc : List A) (xs : List Int) (L : List A) (rest : List Int), aX xs → mO one j acc false xs false = (L, false, rest, false) → ∃ l, L = acc ++ l ∧ l.length = j ∧ (∀ x ∈ l, P x) ∧ xs = l.flatMap f ++ rest
 | 0, acc, xs, L, rest, K, h => by
  obtain ⟨rfl, _, rfl, _⟩ : acc = L ∧ false = false ∧ xs = rest ∧ false = false := by simpa [mO] using h
  exact ⟨[], by simp, rfl, (fun x z => absurd z (by simp)), rfl⟩
 | j + 1, acc, xs, L, rest, K, h => by
  unfold mO at h
  rw [if_neg (by simp)] at h
  have H : (one false xs false).2.1 = false ∧ (one false xs false).2.2.2 = false := by
   refine ⟨?_, ?_⟩
   ·cases J : (one false xs false).2.1 with
    | false => rfl
    | true => rw [J, jL one j _ true _ _ (.inl rfl)] at h; have N := congrArg (fun q => q.2.1) h; cases N
   ·cases J : (one false xs false).2.2.2 with
    | false => rfl
    | true => rw [J, jL one j _ _ _ true (.inr rfl)] at h; have N := congrArg (fun q => q.2.2.2) h; cases N
  have e : one false xs false = ((one false xs false).1, false, (one false xs false).2.2.1, false) := Prod.ext rfl (Prod.ext H.1 (Prod.ext rfl H.2))
  obtain ⟨hp, z⟩ := U xs _ _ K e
  rw [H.1, H.2] at h
  obtain ⟨l, V, Z, l3, Y⟩ := D3 U h2 W j _ _ L rest (wS (z ▸ K)) h
  refine ⟨(one false xs false).1 :: l, by rw [V, ye2]; rfl, by rw [yw, Z], fun x O => ?_, ?_⟩
  ·rcases yf1.1 O with rfl | O
   ·exact hp
   ·exact l3 x O
  ·rw [yh3, ye2, ← Y]; exact z
theorem AH {A : Type} {one : Rd A} {f : A → List Int} {P : A → Prop} (K : Lg one f P) (h2 : eX one) (H : jP one) : Lg (gW one) (fun L => sG false (L.length : Int) ++ L.flatMap f) (fun L => ∀ x ∈ L, P x) := fun xs L rest V h => by
 have W : cF aJ (fun k => mO one k.toNat []) false xs false = (L, false, rest, false) := h
 obtain ⟨k, r, J, N, O, Y⟩ := bQ iG (fun a => u6 H _ _) (fun a => vK one _ _) V W
 obtain ⟨l, z, Z, l3, U⟩ := D3 K h2 H k.toNat [] r L rest O Y
 rw [List.nil_append] at z
 subst z
 refine ⟨l3, ?_⟩
 show xs = (sG false ((L.length : Nat) : Int) ++ L.flatMap f) ++ rest
 rw [N, U, show ((L.length : Nat) : Int) = k by rw [Z]; have := J.1; omega, ye2]
theorem Cc : Lg (gW kV) (mF false) (fun L => ∀ v ∈ L, u64 v) := fun xs L rest J h => by
 obtain ⟨z, H⟩ := AH FC gR oJ xs L rest J h
 exact ⟨z, H⟩
theorem lT {v : Int} (h : ID v) : i64 v := by have h1 := h.1; have h2 := h.2; exact ⟨by omega, by omega⟩
theorem JD : Lg p7 (AF false) (fun f => Nd f ∧ Nk f) := fun xs x rest hb h => by
 obtain ⟨a, r1, z, O, Z, h⟩ := bQ iG sK (fun _ => aC bF fun _ => aC (aR _) fun _ => aC (aR _) fun _ => bE _) hb h
 obtain ⟨c, r2, H, J, Y, h⟩ := bQ iG (fun _ => aP j4 fun _ => aP j4 fun _ => dZ _) (fun _ => aC (aR _) fun _ => aC (aR _) fun _ => bE _) Z h
 obtain ⟨l, r3, K, U, V, h⟩ := bQ Cc (fun _ => aP j4 fun _ => dZ _) (fun _ => aC (aR _) fun _ => bE _) Y h
 obtain ⟨k, r4, N, W, b4, h⟩ := bQ Cc (fun _ => dZ _) (fun _ => bE _) V h
 unfold C3 at h
 simp only [Prod.mk.injEq] at h
 obtain ⟨rfl, _, rfl, _⟩ := h
 refine ⟨⟨⟨z, H⟩, ⟨lT z, lT H, K, N⟩⟩, ?_⟩
 rw [O, J, U, W]
 simp [AF, iO, pE z, pE H, ye2]
theorem Cl {k : Int} {xs x rest : List Int} (K : ID k) (h : BU k false xs false = (x, false, rest, false)) : (x.length : Int) = k ∧ xs = x ++ rest := by
 unfold BU bH at h
 split at h
 ·cases h
 ·rename_i H
  simp only [Prod.mk.injEq] at h
  obtain ⟨z, _, J, _⟩ := h
  have : ¬ k > (xs.length : Int) := fun h => H (.inr (.inr h))
  have h0 := K.1
  refine ⟨by rw [← z, ym2]; omega, by rw [← z, ← J, List.take_append_drop]⟩
theorem LH : Lg GR (CS false) (fun f => Nd f ∧ N4 f) := fun xs x rest hb h => by
 obtain ⟨a, r1, H, Y, b1, h⟩ := bQ iG Ck (fun _ => aC bF fun _ => aC (aR _) fun _ => aC bF fun _ => aC (iJ _) fun _ => bE _) hb h
 obtain ⟨c, r2, N, U, b2, h⟩ := bQ iG (fun _ => aP j4 fun _ => aP cC fun _ => aP (u7 _) fun _ => dZ _) (fun _ => aC (aR _) fun _ => aC bF fun _ => aC (iJ _) fun _ => bE _) b1 h
 obtain ⟨l, r3, V, Z, b3, h⟩ := bQ Cc (fun _ => aP cC fun _ => aP (u7 _) fun _ => dZ _) (fun _ => aC bF fun _ => aC (iJ _) fun _ => bE _) b2 h
 obtain ⟨k, r4, J, e4, b4, h⟩ := bQ iG (fun _ => aP (u7 _) fun _ => dZ _) (fun _ => aC (iJ _) fun _ => bE _) b3 h
 obtain ⟨t, r5, O, W, b5, h⟩ := bQ (P := fun t => (t.length : Int) = k ∧ aX t) (w := fun t => t) (fun ys y rr hy K => ⟨⟨(Cl J K).1, fun z hz => hy z (by rw [(Cl J K).2]; exact yk1 _ hz)⟩, (Cl J K).2⟩) (fun _ => dZ _) (fun _ => bE _) b4 h
 unfold C3 at h
 simp only [Prod.mk.injEq] at h
 obtain ⟨rfl, _, rfl, _⟩ := h
 refine ⟨⟨⟨H, N⟩, ⟨lT H, lT N, V, O.2⟩⟩, ?_⟩
 rw [Y, U, Z, e4, W]
 simp [CS, iO, pE H, pE N, O.1, ye2]
theorem LO : Lg CK (GS false) (fun h => Oh h ∧ Ng h) := fun xs x rest Y h => by
 obtain ⟨a, r1, H, N, W, h⟩ := bQ iG BI (fun _ => aC gR fun _ => aC bF fun _ => l6 _ _ _) Y h
 obtain ⟨d, r2, U, J, V, h⟩ := bQ FC (fun _ => aP cC fun _ => FI _ _ _) (fun _ => aC bF fun _ => l6 _ _ _) W h
 obtain ⟨o, r3, K, O, b3, h⟩ := bQ iG (fun _ => FI _ _ _) (fun _ => l6 _ _ _) V h
 unfold HX at h
 simp only [Prod.mk.injEq, Bool.false_or, decide_eq_false_iff_not] at h
 obtain ⟨rfl, h1, rfl, _⟩ := h
 refine ⟨⟨⟨H⟩, ⟨lT H, U⟩⟩, ?_⟩
 have e : (bif (o == 1) then (1 : Int) else 0) = o := by
  have := K.1
  by_cases z : o = 1
  ·rw [z]; rfl
  ·rw [show (o == 1) = false from beq_false_of_ne z, yh]; omega
 rw [N, J, O]
 simp [GS, iO, pE H, e, ye2]
end Sx
end
section
namespace Sx
open Go Go.Ab
theorem Mc {xs : List Int} {s : wY} {rest : List Int} (hb : aX xs) (h : Lf false xs false = (s, false, rest, false)) : Nl s ∧ Lm s ∧
  xs = iO false [n0 s.2.2.2.2.2.1, n0 s.2.2.2.1, n0 s.2.2.2.2.1, s.2.2.2.2.2.2] ++ kY false (AF false) s.1 ++ kY false (CS false) s.2.1 ++ kY false (GS false) s.2.2.1 ++ rest := by
 have K := rA q9
 have J := rA AR
 have H := rA Ez
 have sF : eX p7 := aC bF fun _ => aC bF fun _ => aC (aR _) fun _ => aC (aR _) fun _ => bE _
 have sO : eX GR := aC bF fun _ => aC bF fun _ => aC (aR _) fun _ => aC bF fun _ => aC (iJ _) fun _ => bE _
 have sH : eX CK := aC bF fun _ => aC gR fun _ => aC bF fun _ => l6 _ _ _
 have fF := AH JD sF q9
 have fO := AH LH sO AR
 have fH := AH LO sH Ez
 obtain ⟨e, r1, N, x1, b1, h⟩ := bQ iG (fun _ => aP cC fun _ => aP cC fun _ => aP oJ fun _ => aP K fun _ => aP J fun _ => aP H fun _ => dZ _) (fun _ => aC bF fun _ => aC bF fun _ => aC gR fun _ => aC (aR _) fun _ => aC (aR _) fun _ => aC (aR _) fun _ => bE _) hb h
 obtain ⟨q, r2, O, x2, b2, h⟩ := bQ iG (fun _ => aP cC fun _ => aP oJ fun _ => aP K fun _ => aP J fun _ => aP H fun _ => dZ _) (fun _ => aC bF fun _ => aC gR fun _ => aC (aR _) fun _ => aC (aR _) fun _ => aC (aR _) fun _ => bE _) b1 h
 obtain ⟨u, r3, U, x3, b3, h⟩ := bQ iG (fun _ => aP oJ fun _ => aP K fun _ => aP J fun _ => aP H fun _ => dZ _) (fun _ => aC gR fun _ => aC (aR _) fun _ => aC (aR _) fun _ => aC (aR _) fun _ => bE _) b2 h
 obtain ⟨v, r4, hv, x4, b4, h⟩ := bQ FC (fun _ => aP K fun _ => aP J fun _ => aP H fun _ => dZ _) (fun _ => aC (aR _) fun _ => aC (aR _) fun _ => aC (aR _) fun _ => bE _) b3 h
 obtain ⟨f, r5, Y, Z, b5, h⟩ := bQ fF (fun _ => aP J fun _ => aP H fun _ => dZ _) (fun _ => aC (aR _) fun _ => aC (aR _) fun _ => bE _) b4 h
 obtain ⟨o, r6, W, x6, b6, h⟩ := bQ fO (fun _ => aP H fun _ => dZ _) (fun _ => aC (aR _) fun _ => bE _) b5 h
 obtain ⟨a, r7, V, x7, b7, h⟩ := bQ fH (fun _ => dZ _) (fun _ => bE _) b6 h
 unfold C3 at h
 simp only [Prod.mk.injEq] at h
 obtain ⟨rfl, _, rfl, _⟩ := h
 refine ⟨⟨fun x z => (Y x z).1, fun x z => (W x z).1, fun x z => (V x z).1, O, U, N⟩, ⟨fun x z => (Y x z).2, fun x z => (W x z).2, fun x z => (V x z).2, lT O, lT U, lT N, hv⟩, ?_⟩
 rw [x1, x2, x3, x4, Z, x6, x7]
 simp [kY, iO, pE N, pE O, pE U, ye2]
end Sx
end
section
namespace Sx
open Go Go.Ab
theorem vR {A : Type} {f : A → List Int} : ∀ {l : List A}, (∀ x ∈ l, 1 ≤ (f x).length) → l.length ≤ (l.flatMap f).length
 | [], _ => by simp
 | x :: l, h => by
  have := vR (f := f) (l := l) fun y z => h y (yi _ z)
  have := h x (ym ..)
  simp only [yh3, yj, yw]; omega
theorem pP {A : Type} {f : A → List Int} : ∀ {l : List A} {x : A}, x ∈ l → (f x).length ≤ (l.flatMap f).length
 | y :: l, x, h => by
  simp only [yh3, yj]
  rcases yf1.1 h with rfl | h
  ·omega
  ·have := pP (f := f) h; omega
theorem LJ (v : Int) : 1 ≤ (sG false v).length := by
 unfold sG
 rw [yh]
 exact (Gr _).1
theorem u0 (l : List Int) : l.length ≤ (iO false l).length := vR fun x _ => LJ x
theorem K2 (f : Dt) : 1 ≤ (AF false f).length ∧ f.2.2.1.length ≤ (AF false f).length ∧ f.2.2.2.length ≤ (AF false f).length := by
 have z := u0 ((f.2.2.1.length : Int) :: f.2.2.1)
 have H := u0 ((f.2.2.2.length : Int) :: f.2.2.2)
 simp only [yw] at z H
 unfold AF mF
 simp only [yj]
 omega
theorem KI (f : Dt) : 1 ≤ (CS false f).length ∧ f.2.2.1.length ≤ (CS false f).length ∧ f.2.2.2.length ≤ (CS false f).length := by
 have z := u0 ((f.2.2.1.length : Int) :: f.2.2.1)
 simp only [yw] at z
 unfold CS mF
 simp only [yj]
 omega
theorem Mr (h : Ka) : 1 ≤ (GS false h).length := by
 have z := u0 [n0 h.1, h.2.1, bif h.2.2 then 1 else 0]
 simp only [yw, yq1] at z
 unfold GS
 omega
theorem J5 {s : wY} {p : BitVec 32} (h : (AC false s p).length ≤ 5000) : sC s := by
 unfold AC kY at h
 simp only [yh, yj] at h
 have a := vR (f := AF false) (l := s.1) fun x _ => (K2 x).1
 have b := vR (f := CS false) (l := s.2.1) fun x _ => (KI x).1
 have c := vR (f := GS false) (l := s.2.2.1) fun x _ => Mr x
 refine ⟨by omega, fun x z => ?_, fun x z => ?_⟩
 ·have H := pP (f := AF false) z
  have J := K2 x
  omega
 ·have H := pP (f := CS false) z
  have J := KI x
  omega
theorem Lz (xs : List Int) (O : aX xs) : o4 xs = (eR, 0, 2) ∨ ∃ (s : wY) (p : BitVec 32), o4 xs = (s, dD p, 0) ∧ Nl s ∧ Lm s ∧ xs = AC false s p := by
 by_cases N : xs.length < 5
 ·exact .inl (H3 N)
 ·match xs, N, O with
  | [], N, _ | [_], N, _ | [_, _], N, _ | [_, _, _], N, _ | [_, _, _, _], N, _ => exact absurd (by simp) N
  | x0 :: K :: J :: z :: H :: r, _, O =>
   have h0 := O x0 (by simp)
   have hx1 := O K (by simp)
   have hx2 := O J (by simp)
   have hx3 := O z (by simp)
   have Z := O H (by simp)
   by_cases h2 : x0 = 2
   ·subst h2
    have t1 : bH 1 (2 :: K :: J :: z :: H :: r) false = ([2], K :: J :: z :: H :: r, false) := vF (k := 1) (by simp)
    have t4 : bH 4 (K :: J :: z :: H :: r) false = ([K, J, z, H], r, false) := vF (k := 4) (by simp)
    unfold o4
    rw [t1]
    simp only
    rw [t4, Mf h0]
    simp only
    rw [if_neg (by simp), if_neg (by simp)]
    generalize hq : Lf false r false = q
    obtain ⟨s, U, rest, wr⟩ := q
    simp only
    by_cases V : U = true ∨ wr = true ∨ rest.length > 0
    ·rw [if_pos V]; exact .inl rfl
    ·rw [if_neg V]
     have e1 : U = false := by cases U with | false => rfl | true => exact absurd (.inl rfl) V
     have e2 : wr = false := by cases wr with | false => rfl | true => exact absurd (.inr (.inl rfl)) V
     have e3 : rest = [] := List.length_eq_zero_iff.1 (by have := fun h => V (.inr (.inr h)); omega)
     subst e1 e2 e3
     have W : aX r := fun x hx => O x (by simp [hx])
     obtain ⟨g1, g2, g3⟩ := Mc W hq
     have hf := N3 hx1 hx2 hx3 Z
     obtain ⟨p, hp⟩ := Hz (v := K + 256 * J + 65536 * z + 16777216 * H) (by omega)
     refine .inr ⟨s, p, ?_, g1, g2, ?_⟩
     ·rw [hf, BS (by omega) (by omega), hp]
     ·have Y : CW p = [K, J, z, H] := by
       unfold CW
       rw [hp]
       have a1 : (K + 256 * J + 65536 * z + 16777216 * H) % 256 = K := by omega
       have a2 : (K + 256 * J + 65536 * z + 16777216 * H) / 256 % 256 = J := by omega
       have a3 : (K + 256 * J + 65536 * z + 16777216 * H) / 65536 % 256 = z := by omega
       have a4 : (K + 256 * J + 65536 * z + 16777216 * H) / 16777216 % 256 = H := by omega
       rw [a1, a2, a3, a4]
      unfold AC lK
      rw [Y, g3]
      simp [ye2]
   ·exact .inl ((I8 x0 K J z H r h0).1 h2)
theorem Hg (b : List Int) (U : aX b) : eJ 4000000000 b = some true := by
 unfold eJ
 rw [bG, I3 4000000000 (by omega)]
 by_cases W : (b.length : Int) > 5000
 ·rw [decide_eq_true W]; rfl
 ·rw [decide_eq_false W, yh, Jf 4000000000 b U (by omega) (by omega), yb]
  unfold mJ
  rw [if_neg (by omega)]
  unfold oR
  by_cases N : b.length < 4
  ·rw [if_pos N]
   simp only [ne_eq, Int.reduceEq, not_false_eq_true, if_true, eR, oI 4000000000 (by omega)]
   rfl
  ·rw [if_neg N]
   by_cases J : zL (b.take (b.length - 4)) = b
   ·rw [if_pos J]
    simp only [ne_eq, not_true_eq_false, if_false]
    rcases Lz _ (nL U (b.length - 4)) with h | ⟨s, p, h, O, K, z⟩
    ·rw [h]
     simp only [eR, oI 4000000000 (by omega)]
     rfl
    ·rw [h]
     have H : (AC false s p).length ≤ 5000 := by rw [← z, ym2]; omega
     have V := J5 H
     have hN := V.n
     have Y := KE 4000000000 (by omega) false s K V p
     rw [← z, J] at Y
     simp only [bne_self_eq_false, yh, yb, yg, Kt 4000000000 s (by omega) (by omega), (Mk s).2 O, Bool.not_false, Y]
     rw [show (b.length : Int) = bV b from rfl, MI (by omega) N, decide_eq_true (by omega), yg, decide_eq_true (by rw [bG]; omega), yn3, yg, yq2,
      sP 4000000000 _ (nL U _) (by rw [ym2]; omega) (by rw [ym2]; omega), yb, J, J3 4000000000 b (by omega) (by omega)]
     rfl
   ·rw [if_neg J]
    simp only [ne_eq, Int.reduceEq, not_false_eq_true, if_true, eR, oI 4000000000 (by omega)]
    rfl
end Sx
end
section
namespace Sx
open Go Go.Ab
theorem Jb {xs : List Int} (h : LU (.sl false (.int .u8)) xs) : aX xs := fun x z => MG (h.2 x z)
theorem Hn (d : List Int) (z : Ap (.cons (.sl true false (.int .u8)) .nil) d) : ∃ n, eJ n d = some true := ⟨_, Hg d (Jb z.1)⟩
end Sx
end
