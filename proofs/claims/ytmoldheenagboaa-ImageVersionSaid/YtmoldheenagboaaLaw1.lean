/- Plain laws (texts ImS, ImT, ImU, ImV, ImW, ImX, ImRowV). -/
import Derived.Test.YtmoldheenagboaaImgSh
import Derived.Test.YtmoldheenagboaaLib7
import Derived.Test.YtmoldheenagboaaLib8
import Derived.KernelRfl
import Derived.Test.YtmoldheenagboaaLib31
section
/- The plain laws of the sums: what the printed functions come to. -/
set_option linter.unusedVariables false
set_option linter.unusedSimpArgs false
namespace Sx
open Go Go.Ab
def it {α : Type} (f : α → α) : Nat → α → α
 | 0, x => x
 | k + 1, x => f (it f k x)
def stp (x : BitVec 32) : BitVec 32 := (x >>> 1) ^^^ (bif x.getLsbD 0 then 0xedb88320#32 else 0#32)
def bst (x : BitVec 32) (c : Int) : BitVec 32 := it stp 8 (x ^^^ BitVec.ofInt 32 c)
def crc (x : BitVec 32) (b : List Int) : BitVec 32 := b.foldl bst x
def sumV (b : List Int) : BitVec 32 := ~~~(crc 0xffffffff#32 b)
def IsBytes (b : List Int) : Prop := ∀ x ∈ b, 0 ≤ x ∧ x ≤ 255
theorem znb (x : BitVec 32) : (W32 x) % 2 = (bif x.getLsbD 0 then 1 else 0) := by
 unfold W32
 have h : x.getLsbD 0 = decide (x.toNat % 2 = 1) := by
  rw [BitVec.getLsbD, Nat.testBit_zero]
 rw [h]
 cases hd : decide (x.toNat % 2 = 1) with
 | true => have := of_decide_eq_true hd; simp only [cond_true]; omega
 | false => have := of_decide_eq_false hd; simp only [cond_false]; omega
theorem zmX (x : BitVec 32) : andI .u32 (W32 x) 1 = (bif x.getLsbD 0 then 1 else 0) := by
 rw [zmU, zaR, show BitVec.ofInt 32 1 = 1#32 from rfl, BitVec.and_one_eq_setWidth_ofBool_getLsbD]
 cases x.getLsbD 0 <;> rfl
theorem zno (x : BitVec 32) : xorI .u32 (shrI .u32 (W32 x) 1) (mulI .u32 3988292384 (andI .u32 (W32 x) 1)) = W32 (stp x) := by
 rw [zfA, zmp, zaR, zmX]
 unfold stp
 cases x.getLsbD 0 <;> rfl
theorem znf (x : BitVec 32) : (bif (remI (W32 x) 2) == 1 then xorI .u32 (quoI .u32 (W32 x) 2) 3988292384 else quoI .u32 (W32 x) 2) = W32 (stp x) := by
 rw [zaF (zaZ x).1, znb, zmN]
 unfold stp
 cases x.getLsbD 0 with
 | false =>
  show W32 (x >>> 1) = W32 (x >>> 1 ^^^ 0#32)
  rw [BitVec.xor_zero]
 | true =>
  show xorI .u32 (W32 (x >>> 1)) 3988292384 = _
  rw [zfA, zaR]; rfl
theorem znC (n : Nat) (x : BitVec 32) (a : List Int) (b c : Int) (hn : 9 ≤ n) : qar_W2 n (W32 x, a, b, c, 0) = some (W32 (it stp 8 x), a, b, c) := by
 refine zbE (f := fun i => (W32 (it stp i x), a, b, c, (i : Int))) (k := 8) (fun i hi => ?_) ?_ 8 0 n rfl (by omega)
 ·show qar_B2 n _ _ _ _ _ = _
  dsimp only
  unfold qar_B2
  rw [decide_eq_true (by omega), cond_true, zno, zcx (by omega) (by omega)]
  rfl
 ·rfl
theorem zgv {α β : Type} (f : β → α → β) (x : β) (l : List α) (i : Nat) (c : α) (h : l[i]? = some c) : (l.take (i + 1)).foldl f x = f ((l.take i).foldl f x) c := by
 rw [List.take_add_one, h, List.foldl_append]
 rfl
theorem znz (n : Nat) (b : List Int) (hb : IsBytes b) (hl : b.length ≤ 4294967296) (hn : b.length + 9 ≤ n) : qar_W0 n (4294967295, (b, ((lenI b), 0))) = some (W32 (crc 0xffffffff#32 b)) := by
 have := zbE (B := fun s => qar_B0 n s.1 s.2.1 s.2.2.1 s.2.2.2) (f := fun i => (W32 (crc 0xffffffff#32 (b.take i)), b, lenI b, (i : Int))) (k := b.length) (x := W32 (crc 0xffffffff#32 b)) (fun i hi => ?_) ?_ b.length 0 n (by omega) (by omega)
 ·exact this
 ·show qar_B0 n _ _ _ _ = _
  dsimp only
  unfold qar_B0
  have hg : b[i]? = some b[i] := List.getElem?_eq_getElem hi
  have hc := hb b[i] (List.getElem_mem hi)
  rw [zap, decide_eq_true (by omega), cond_true, zjS, hg]
  show ((qar_W2 n (xorI .u32 (W32 (crc 0xffffffff#32 (b.take i))) (cvtI .u32 b[i]), b, (b.length : Int), (i : Int), 0)).bind fun r2 => some (Sum.inl (r2.1, (r2.2.1, (r2.2.2.1, (addI .i64 r2.2.2.2 1)))))) = _
  rw [zgp hc.1 (by omega), zfA, zaR, znC _ _ _ _ _ (by omega)]
  show some (Sum.inl (W32 (bst (crc 0xffffffff#32 (b.take i)) b[i]), b, (b.length : Int), addI .i64 (i : Int) 1)) = _
  rw [zcx (by omega) (by omega)]
  have : crc 0xffffffff#32 (b.take (i + 1)) = bst (crc 0xffffffff#32 (b.take i)) b[i] := zgv _ _ _ _ _ hg
  rw [← this]
  rfl
 ·show qar_B0 n _ _ _ _ = _
  dsimp only
  unfold qar_B0
  rw [zap, decide_eq_false (by omega), cond_false, List.take_length]
theorem of_eq (n : Nat) (b : List Int) (hb : IsBytes b) (hl : b.length ≤ 4294967296) (hn : b.length + 9 ≤ n) : qar n b = some (W32 (sumV b)) := by
 unfold qar
 rw [znz n b hb hl hn]
 show some (notI .u32 (W32 (crc 0xffffffff#32 b))) = _
 rw [zkY]
 rfl
theorem znr (n : Nat) (b : List Int) (x : BitVec 32) (c : Int) (hn : 9 ≤ n) : qam_W2 n (b, W32 x, c, 0) = some (b, W32 (it stp 8 x), c) := by
 refine zbE (f := fun i => (b, W32 (it stp i x), c, (i : Int))) (k := 8) (fun i hi => ?_) ?_ 8 0 n rfl (by omega)
 ·show qam_B2 n _ _ _ _ = _
  dsimp only
  unfold qam_B2
  have h := znf (it stp i x)
  rw [decide_eq_true (by omega), cond_true, zcx (by omega) (by omega)]
  cases hc : remI (W32 (it stp i x)) 2 == 1 with
  | true => rw [hc, cond_true] at h; rw [cond_true, h]; rfl
  | false => rw [hc, cond_false] at h; rw [cond_false, h]; rfl
 ·rfl
theorem znp (n : Nat) (b : List Int) (hb : IsBytes b) (hl : b.length ≤ 4294967296) (hn : b.length + 9 ≤ n) : qam_W0 n (b, (4294967295, 0)) = some (W32 (crc 0xffffffff#32 b)) := by
 have := zbE (B := fun s => qam_B0 n s.1 s.2.1 s.2.2) (f := fun i => (b, W32 (crc 0xffffffff#32 (b.take i)), (i : Int))) (k := b.length) (x := W32 (crc 0xffffffff#32 b)) (fun i hi => ?_) ?_ b.length 0 n (by omega) (by omega)
 ·exact this
 ·show qam_B0 n _ _ _ = _
  dsimp only
  unfold qam_B0
  have hg : b[i]? = some b[i] := List.getElem?_eq_getElem hi
  have hc := hb b[i] (List.getElem_mem hi)
  rw [zap, decide_eq_true (by omega), cond_true, zjS, hg]
  show ((qam_W2 n (b, xorI .u32 (W32 (crc 0xffffffff#32 (b.take i))) (cvtI .u32 b[i]), (i : Int), 0)).bind fun r2 => some (Sum.inl (r2.1, (r2.2.1, (addI .i64 r2.2.2 1))))) = _
  rw [zgp hc.1 (by omega), zfA, zaR, znr _ _ _ _ (by omega)]
  show some (Sum.inl (b, W32 (bst (crc 0xffffffff#32 (b.take i)) b[i]), addI .i64 (i : Int) 1)) = _
  rw [zcx (by omega) (by omega)]
  have : crc 0xffffffff#32 (b.take (i + 1)) = bst (crc 0xffffffff#32 (b.take i)) b[i] := zgv _ _ _ _ _ hg
  rw [← this]
  rfl
 ·show qam_B0 n _ _ _ = _
  dsimp only
  unfold qam_B0
  rw [zap, decide_eq_false (by omega), cond_false, List.take_length]
theorem zlp (n : Nat) (b : List Int) (hb : IsBytes b) (hl : b.length ≤ 4294967296) (hn : b.length + 9 ≤ n) : qam n b = some (W32 (sumV b)) := by
 unfold qam
 rw [znp n b hb hl hn]
 show some (notI .u32 (W32 (crc 0xffffffff#32 b))) = _
 rw [zkY]
 rfl
def le4 (x : BitVec 32) : List Int := [W32 x % 256, W32 x / 256 % 256, W32 x / 65536 % 256, W32 x / 16777216 % 256]
theorem zmv (n : Nat) (x : BitVec 32) (hn : 5 ≤ n) : qan n (W32 x) 4 = some (le4 x) := by
 obtain ⟨m, rfl⟩ : ∃ m, n = m + 5 := ⟨n - 5, by omega⟩
 have h : qan (m + 5) (W32 x) 4 = some [cvtI .u8 (shrI .u64 (W32 x) 0), cvtI .u8 (shrI .u64 (W32 x) 8), cvtI .u8 (shrI .u64 (W32 x) 16), cvtI .u8 (shrI .u64 (W32 x) 24)] := rfl
 have hx := zaZ x
 rw [h]
 have e : ∀ (k : Int) (d : Int), 0 < d → 2 ^ (min k.toNat 64) = d → cvtI .u8 (shrI .u64 (W32 x) k) = W32 x / d % 256 := by
  intro k d hd hk
  rw [zaI]
  show (W32 x).fdiv (2 ^ (min k.toNat 64)) % 256 = _
  rw [hk, Int.fdiv_eq_ediv_of_nonneg _ (by omega)]
 rw [e 0 1 (by omega) rfl, e 8 256 (by omega) rfl, e 16 65536 (by omega) rfl, e 24 16777216 (by omega) rfl, Int.ediv_one]
 rfl
theorem zjd (n : Nat) (x : BitVec 32) (hn : 5 ≤ n) : qag n (W32 x) 4 = some (le4 x) := by
 obtain ⟨m, rfl⟩ : ∃ m, n = m + 5 := ⟨n - 5, by omega⟩
 have h : qag (m + 5) (W32 x) 4 = some [cvtI .u8 (remI (W32 x) 256), cvtI .u8 (remI (quoI .u64 (W32 x) 256) 256), cvtI .u8 (remI (quoI .u64 (quoI .u64 (W32 x) 256) 256) 256), cvtI .u8 (remI (quoI .u64 (quoI .u64 (quoI .u64 (W32 x) 256) 256) 256) 256)] := rfl
 have hx := zaZ x
 have q : ∀ v : Int, 0 ≤ v → v ≤ 4294967295 → quoI .u64 v 256 = v / 256 := by
  intro v h1 h2
  show IntKind.u64.wrap (v.tdiv 256) = _
  rw [Int.tdiv_eq_ediv_of_nonneg h1, wrapU64]
  omega
 rw [h, q (W32 x) (by omega) (by omega), q (W32 x / 256) (by omega) (by omega), q (W32 x / 256 / 256) (by omega) (by omega), zaF (by omega), zaF (by omega), zaF (by omega), zaF (by omega),
  zaI, zaI, zaI, zaI]
 unfold le4
 have e1 : W32 x / 256 / 256 = W32 x / 65536 := by omega
 have e2 : W32 x / 65536 / 256 = W32 x / 16777216 := by omega
 rw [e1, e2]
 simp
theorem zlz (x : BitVec 32) : IsBytes (le4 x) := by
 intro y hy
 simp only [le4, List.mem_cons, List.not_mem_nil, or_false] at hy
 rcases hy with rfl | rfl | rfl | rfl <;> omega
def sealV (b : List Int) : List Int := b ++ le4 (sumV b)
theorem zcO (b : List Int) : (sealV b).length = b.length + 4 := by simp [sealV, le4]
theorem zeX {b : List Int} (h : IsBytes b) : IsBytes (sealV b) := by
 intro x hx
 rcases List.mem_append.1 hx with hx | hx
 ·exact h x hx
 ·exact zlz _ x hx
theorem zna (n : Nat) (b : List Int) (hb : IsBytes b) (hl : b.length ≤ 4294967000) (hn : b.length + 9 ≤ n) : qap n b = some (sealV b) := by
 unfold qap
 have h1 : Nat.ble b.length 4294967296 = true := Nat.ble_eq_true_of_le (by omega)
 have h2 : Nat.ble (b ++ le4 (sumV b)).length 4294967296 = true := Nat.ble_eq_true_of_le (by simp [le4]; omega)
 have hw := zaZ (sumV b)
 rw [h1, cond_true, of_eq n b hb (by omega) hn]
 show ((qan n (cvtI .u64 (W32 (sumV b))) 4).bind fun r8 => bif (Nat.ble (b ++ r8).length 4294967296) then some (b ++ r8) else none) = _
 rw [zjG (by omega) (by omega), zmv n _ (by omega)]
 show (bif (Nat.ble (b ++ le4 (sumV b)).length 4294967296) then some (b ++ le4 (sumV b)) else none) = _
 rw [h2]
 rfl
theorem zkk (n : Nat) (b : List Int) (hb : IsBytes b) (hl : b.length ≤ 4294967000) (hn : b.length + 9 ≤ n) : qak n b = some (sealV b) := by
 unfold qak
 have h1 : Nat.ble b.length 4294967296 = true := Nat.ble_eq_true_of_le (by omega)
 have h2 : Nat.ble (b ++ le4 (sumV b)).length 4294967296 = true := Nat.ble_eq_true_of_le (by simp [le4]; omega)
 have hw := zaZ (sumV b)
 rw [h1, cond_true, zlp n b hb (by omega) hn]
 show ((qag n (cvtI .u64 (W32 (sumV b))) 4).bind fun r8 => bif (Nat.ble (b ++ r8).length 4294967296) then some (b ++ r8) else none) = _
 rw [zjG (by omega) (by omega), zjd n _ (by omega)]
 show (bif (Nat.ble (b ++ le4 (sumV b)).length 4294967296) then some (b ++ le4 (sumV b)) else none) = _
 rw [h2]
 rfl
def openV (b : List Int) : List Int × Int := if b.length < 4 then ([], 3) else if sealV (b.take (b.length - 4)) = b then (b.take (b.length - 4), 0) else ([], 3)
theorem zhh {b : List Int} (h : IsBytes b) (k : Nat) : IsBytes (b.take k) := fun x hx => h x (List.mem_of_mem_take hx)
theorem sub4 {b : List Int} (hl : b.length ≤ 4294967000) (h : ¬ b.length < 4) : subI .i64 (lenI b) 4 = ((b.length - 4 : Nat) : Int) := by
 rw [zap, zjo (by omega) (by omega)]
 omega
theorem znk (n : Nat) (b : List Int) (hb : IsBytes b) (hl : b.length ≤ 4294967000) (hn : b.length + 9 ≤ n) : qao n b = some (openV b) := by
 unfold qao openV
 by_cases h : b.length < 4
 ·rw [zap, decide_eq_true (by omega), cond_true, if_pos h]
 ·have hlen : (b.take (b.length - 4)).length = b.length - 4 := by rw [List.length_take]; omega
  rw [sub4 hl h, zap, decide_eq_false (by omega), cond_false, if_neg h, decide_eq_true (by omega), decide_eq_true (by omega), Bool.and_self, cond_true, Int.toNat_natCast]
  rw [zna n _ (zhh hb _) (by omega) (by omega)]
  show (bif !(eqS (intsBytes (sealV (b.take (b.length - 4)))) (intsBytes b)) then some (([] : List Int), (3 : Int)) else bif Nat.ble (b.take (b.length - 4)).length 4294967296 then some (b.take (b.length - 4), 0) else none) = _
  rw [zmt (zeX (zhh hb _)) hb, show Nat.ble (b.take (b.length - 4)).length 4294967296 = true from Nat.ble_eq_true_of_le (by omega)]
  by_cases he : sealV (b.take (b.length - 4)) = b
  ·rw [decide_eq_true he, if_pos he]; rfl
  ·rw [decide_eq_false he, if_neg he]; rfl
theorem zlV (b : List Int) : openV (sealV b) = (b, 0) := by
 unfold openV
 have h : (sealV b).take ((sealV b).length - 4) = b := by rw [zcO]; simp [sealV]
 rw [if_neg (by rw [zcO]; omega), h, if_pos rfl]
end Sx
end
section
/- Readers: what the printed functions come to. -/
set_option linter.unusedVariables false
set_option linter.unusedSimpArgs false
namespace Sx
open Go Go.Ab
def takeV (k : Int) (xs : List Int) (bad : Bool) : List Int × List Int × Bool :=
 if bad = true ∨ k < 0 ∨ k > xs.length then ([], xs, true) else (xs.take k.toNat, xs.drop k.toNat, false)
theorem zcL (n : Nat) (k : Int) (xs : List Int) (bad : Bool) (hx : xs.length ≤ 4294967296) : qw n k xs bad = some (takeV k xs bad) := by
 unfold qw takeV
 simp only [qab, qv, Option.bind_some]
 cases bad with
 | true => rfl
 | false =>
  simp only [cond_false, Bool.false_eq_true, false_or]
  by_cases h1 : k < 0
  ·rw [decide_eq_true h1, if_pos (.inl h1)]; rfl
  ·rw [decide_eq_false h1, cond_false, zap]
   by_cases h2 : k > (xs.length : Int)
   ·rw [decide_eq_true h2, if_pos (.inr h2)]; rfl
   ·rw [decide_eq_false h2, if_neg (by omega), cond_false, decide_eq_true (by omega : (0 : Int) ≤ k), decide_eq_true (by omega : k ≤ ((xs.length : Nat) : Int)), ziG (by rw [List.length_take]; omega)]
    simp only [Bool.and_self, cond_true, List.take_length]
theorem zey (k : Int) (xs : List Int) (bad : Bool) : (takeV k xs bad).2.1.length ≤ xs.length ∧ (takeV k xs bad).1.length ≤ xs.length := by
 unfold takeV
 split
 ·exact ⟨Nat.le_refl _, by simp⟩
 ·exact ⟨by simp, by simp; omega⟩
theorem mul7 : ∀ k : Nat, k ≤ 9 → (decide (0 ≤ mulI .i64 7 (k : Int))) = true ∧ mulI .i64 7 (k : Int) = ((7 * k : Nat) : Int) := by decide
def vstep (v x : Int) (k : Nat) : Int := orI .u64 v (shlI .u64 (cvtI .u64 (andNotI .u8 x 128)) ((7 * k : Nat) : Int))
def varR : List Int → Nat → Int → Int × List Int × Bool
 | [], _, _ => (0, [], true)
 | x :: xs, k, v => if (k = 9 ∧ x > 1) ∨ (k > 0 ∧ x = 0) then (0, xs, true) else if x < 128 then (vstep v x k, xs, false) else varR xs (k + 1) (vstep v x k)
def varV (xs : List Int) (bad : Bool) : Int × List Int × Bool := if bad = true then (0, xs, true) else varR xs 0 0
theorem zjA (n : Nat) : ∀ (xs : List Int) (k : Nat) (v : Int) (m : Nat), k ≤ 9 → xs.length ≤ 4294967296 → 10 - k < m → loopS (fun s => qs_B0 n s.1.1 s.1.2 s.2.1 s.2.2) m ((v, (k : Int)), (xs, false)) = some (varR xs k v)
 | [], k, v, m + 1, hk, hx, hm => by
  refine zat ?_
  show qs_B0 n v (k : Int) [] false = _
  unfold qs_B0
  rw [zcL n 1 [] false (by simp), Option.bind_some]
  rfl
 | x :: xs, k, v, m + 1, hk, hx, hm => by
  have ht : takeV 1 (x :: xs) false = ([x], xs, false) := by
   unfold takeV
   rw [if_neg (by simp; omega)]
   rfl
  have hB : qs_B0 n v (k : Int) (x :: xs) false = if (k = 9 ∧ x > 1) ∨ (k > 0 ∧ x = 0) then some (Sum.inr (0, (xs, true))) else if x < 128 then some (Sum.inr (vstep v x k, (xs, false))) else some (Sum.inl ((vstep v x k, ((k + 1 : Nat) : Int)), (xs, false))) := by
   unfold qs_B0
   rw [zcL n 1 (x :: xs) false hx, ht, Option.bind_some]
   simp only [qv, Option.bind_some]
   rw [show getI [x] 0 = some x from rfl, show (lenI [x] == 0) = false from rfl, cond_false, Option.bind_some, (mul7 k hk).1, (mul7 k hk).2, zmk (by omega)]
   simp only [cond_true]
   have e9 : ((k : Int) == 9) = decide (k = 9) := by
    by_cases h : k = 9
    ·subst h; rfl
    ·rw [decide_eq_false h, beq_eq_false_iff_ne]; omega
   have e0 : decide ((k : Int) > 0) = decide (k > 0) := by
    by_cases h : k > 0
    ·rw [decide_eq_true h, decide_eq_true (by omega)]
    ·rw [decide_eq_false h, decide_eq_false (by omega)]
   rw [e9, e0]
   unfold vstep
   by_cases h9 : k = 9
   ·subst h9
    by_cases hx1 : x > 1
    ·rw [if_pos (.inl ⟨rfl, hx1⟩), decide_eq_true hx1]; rfl
    ·by_cases hx0 : x = 0
     ·subst hx0; rw [if_pos (.inr ⟨by omega, rfl⟩)]; rfl
     ·rw [if_neg (by omega), decide_eq_false hx1, show (x == 0) = false from beq_eq_false_iff_ne.2 hx0, if_pos (by omega), decide_eq_true (by omega : x < 128)]; rfl
   ·rw [decide_eq_false h9, cond_false]
    by_cases hk0 : k > 0
    ·rw [decide_eq_true hk0, cond_true]
     by_cases hx0 : x = 0
     ·subst hx0; rw [if_pos (.inr ⟨hk0, rfl⟩)]; rfl
     ·rw [if_neg (by omega), show (x == 0) = false from beq_eq_false_iff_ne.2 hx0, cond_false]
      by_cases h128 : x < 128
      ·rw [if_pos h128, decide_eq_true h128]; rfl
      ·rw [if_neg h128, decide_eq_false h128]; rfl
    ·rw [decide_eq_false hk0, cond_false, if_neg (by omega)]
     by_cases h128 : x < 128
     ·rw [if_pos h128, decide_eq_true h128]; rfl
     ·rw [if_neg h128, decide_eq_false h128]; rfl
  unfold varR
  by_cases hc : (k = 9 ∧ x > 1) ∨ (k > 0 ∧ x = 0)
  ·rw [if_pos hc] at hB ⊢
   exact zat hB
  ·rw [if_neg hc] at hB ⊢
   by_cases h128 : x < 128
   ·rw [if_pos h128] at hB ⊢
    exact zat hB
   ·rw [if_neg h128] at hB ⊢
    have hk9 : k ≠ 9 := by intro h; apply hc; left; exact ⟨h, by omega⟩
    rw [zdp (s := ((v, (k : Int)), (x :: xs, false))) hB]
    exact zjA n xs (k + 1) (vstep v x k) m (by omega) (by simp at hx; omega) (by omega)
 | _, _, _, 0, _, _, hm => by omega
theorem zkF (n : Nat) (xs : List Int) (bad : Bool) (hx : xs.length ≤ 4294967296) (hn : 20 ≤ n) : qs n xs bad = some (varV xs bad) := by
 unfold qs varV
 cases bad with
 | true =>
  have hB : qs_B0 n 0 0 xs true = some (Sum.inr (0, (xs, true))) := by
   unfold qs_B0
   rw [zcL n 1 xs true hx, Option.bind_some]
   rfl
  have : qs_W0 n ((0, 0), (xs, true)) = some (0, (xs, true)) := by
   obtain ⟨m, rfl⟩ : ∃ m, n = m + 1 := ⟨n - 1, by omega⟩
   exact zat hB
  rw [this]; rfl
 | false =>
  have : qs_W0 n ((0, 0), (xs, false)) = some (varR xs 0 0) := zjA n xs 0 0 n (by omega) hx (by omega)
  rw [this]; rfl
theorem zlD (a b : Int) : 0 ≤ orI .u64 a b ∧ orI .u64 a b ≤ 18446744073709551615 := by
 have h : ∀ n, IntKind.u64.wrap n = n % 18446744073709551616 := fun n => by simp [IntKind.wrap, IntKind.bits, IntKind.signed]
 unfold orI
 rw [h]
 omega
theorem zgK : ∀ (xs : List Int) (k : Nat) (v : Int), (varR xs k v).2.1.length ≤ xs.length
 | [], k, v => Nat.le_refl _
 | x :: xs, k, v => by
  unfold varR
  split
  ·simp
  ·split
   ·simp
   ·have := zgK xs (k + 1) (vstep v x k)
    simp; omega
theorem zhi : ∀ (xs : List Int) (k : Nat) (v : Int), 0 ≤ (varR xs k v).1 ∧ (varR xs k v).1 ≤ 18446744073709551615
 | [], k, v => by simp [varR]
 | x :: xs, k, v => by
  unfold varR
  split
  ·simp
  ·split
   ·exact zlD _ _
   ·exact zhi xs (k + 1) (vstep v x k)
theorem zdS (xs : List Int) (bad : Bool) : (varV xs bad).2.1.length ≤ xs.length := by
 unfold varV
 split
 ·exact Nat.le_refl _
 ·exact zgK xs 0 0
theorem zhe (xs : List Int) (bad : Bool) : 0 ≤ (varV xs bad).1 ∧ (varV xs bad).1 ≤ 18446744073709551615 := by
 unfold varV
 split
 ·simp
 ·exact zhi xs 0 0
end Sx
end
section
/- The image's readers: numbers, rows, frames, objects, handles. -/
set_option linter.unusedVariables false
set_option linter.unusedSimpArgs false
namespace Sx
open Go Go.Ab
abbrev Rd (A : Type) := Bool → List Int → Bool → A × Bool × List Int × Bool
structure RdOk {A : Type} (f : Rd A) : Prop where
 le : ∀ bad xs b, (f bad xs b).2.2.1.length ≤ xs.length
 st : ∀ bad xs, (f bad xs true).2.2.2 = true
def Eats {A : Type} (f : Rd A) : Prop := ∀ bad xs b, (f bad xs b).2.2.1.length < xs.length ∨ (f bad xs b).2.2.2 = true
theorem zlO : ∀ (xs : List Int) (k : Nat) (v : Int), (varR xs k v).2.1.length < xs.length ∨ (varR xs k v).2.2 = true
 | [], k, v => .inr rfl
 | x :: xs, k, v => by
  unfold varR
  split
  ·exact .inr rfl
  ·split
   ·exact .inl (by simp)
   ·exact .inl (by have := zgK xs (k + 1) (vstep v x k); simp; omega)
def numV : Rd Int := fun bad xs b => ((varV xs b).1, bad, (varV xs b).2)
theorem zib : RdOk numV := ⟨fun bad xs b => zdS xs b, fun bad xs => by simp [numV, varV]⟩
theorem zhU : Eats numV := fun bad xs b => by
 unfold numV varV
 cases b with
 | true => exact .inr rfl
 | false => exact zlO xs 0 0
def intV : Rd Int := fun bad xs b => if (varV xs b).1 > 2147483647 then (0, true, (varV xs b).2) else ((varV xs b).1, bad, (varV xs b).2)
theorem zep (bad : Bool) (xs : List Int) (b : Bool) : (intV bad xs b).2.2 = (varV xs b).2 := by unfold intV; split <;> rfl
theorem zH : RdOk intV := ⟨fun bad xs b => by rw [zep]; exact zdS xs b, fun bad xs => by rw [zep]; simp [varV]⟩
theorem zeB : Eats intV := fun bad xs b => by rw [zep]; exact zhU bad xs b
theorem zjZ (bad : Bool) (xs : List Int) (b : Bool) : 0 ≤ (intV bad xs b).1 ∧ (intV bad xs b).1 ≤ 2147483647 := by
 have := zhe xs b
 unfold intV
 split
 ·simp
 ·exact ⟨this.1, by simp only; omega⟩
theorem zga (n : Nat) (bad : Bool) (xs : List Int) (b : Bool) (hx : xs.length ≤ 4294967296) (hn : 20 ≤ n) : qe n bad xs b = some ((intV bad xs b).1, ((intV bad xs b).2.1, (intV bad xs b).2.2)) := by
 have hr := zhe xs b
 unfold qe intV
 rw [zkF n xs b hx hn, Option.bind_some]
 by_cases h : (varV xs b).1 > 2147483647
 ·rw [decide_eq_true h, if_pos h]; rfl
 ·rw [decide_eq_false h, if_neg h, cond_false, zmA (by omega) (by omega)]
theorem zan (n : Nat) (bad : Bool) (xs : List Int) (b : Bool) : qc n bad xs b = some (bad || b, (bad, (xs, b))) := by
 cases bad <;> rfl
def wlist {A : Type} (one : Rd A) : Nat → List A → Rd (List A)
 | 0, acc, bad, xs, b => (acc, bad, xs, b)
 | j + 1, acc, bad, xs, b => if bad = true ∨ b = true then (acc, bad, xs, b) else wlist one j (acc ++ [(one bad xs b).1]) (one bad xs b).2.1 (one bad xs b).2.2.1 (one bad xs b).2.2.2
theorem zfg {A : Type} (one : Rd A) (j : Nat) (acc : List A) (bad : Bool) (xs : List Int) (b : Bool) (h : bad = true ∨ b = true) : wlist one j acc bad xs b = (acc, bad, xs, b) := by
 cases j with
 | zero => rfl
 | succ j => unfold wlist; rw [if_pos h]
theorem zgr {A : Type} {one : Rd A} (h : RdOk one) : ∀ (j : Nat) (acc : List A), RdOk (wlist one j acc)
 | 0, acc => ⟨fun bad xs b => Nat.le_refl _, fun bad xs => rfl⟩
 | j + 1, acc => ⟨fun bad xs b => by
   unfold wlist
   split
   ·exact Nat.le_refl _
   ·exact Nat.le_trans ((zgr h j _).le _ _ _) (h.le _ _ _), fun bad xs => by rw [zfg one (j + 1) acc bad xs true (.inr rfl)]⟩
theorem wloop {A S X : Type} {B : S → Option (S ⊕ X)} {mk : Nat → List A → Bool → List Int → Bool → S} {fin : List A × Bool × List Int × Bool → X} {one : Rd A} {M : Nat} (h1 : RdOk one) (h2 : Eats one)
  (hB : ∀ j acc bad xs b, j ≤ 2147483647 → acc.length + xs.length ≤ M → B (mk (j + 1) acc bad xs b) = if bad = true ∨ b = true then some (.inr (fin (acc, bad, xs, b))) else some (.inl (mk j (acc ++ [(one bad xs b).1]) (one bad xs b).2.1 (one bad xs b).2.2.1 (one bad xs b).2.2.2)))
  (hW : ∀ j acc bad xs b, j ≤ 2147483647 → (bad = true ∨ b = true) → B (mk (j + 1) acc bad xs b) = some (.inr (fin (acc, bad, xs, b))))
  (he : ∀ acc bad xs b, B (mk 0 acc bad xs b) = some (.inr (fin (acc, bad, xs, b)))) : ∀ (n j : Nat) (acc : List A) (bad : Bool) (xs : List Int) (b : Bool), j ≤ 2147483647 → (if bad = true ∨ b = true then 0 else xs.length + 1) < n → ((bad = true ∨ b = true) ∨ acc.length + xs.length ≤ M) →
  loopS B n (mk j acc bad xs b) = some (fin (wlist one j acc bad xs b))
 | 0, _, _, _, _, _, _, hn, _ => by omega
 | n + 1, 0, acc, bad, xs, b, hj, hn, hm => zat (he acc bad xs b)
 | n + 1, j + 1, acc, bad, xs, b, hj, hn, hm => by
  by_cases h : bad = true ∨ b = true
  ·rw [zfg one (j + 1) acc bad xs b h]
   exact zat (hW j acc bad xs b (by omega) h)
  ·have hm' := hm.resolve_left h
   have hb := hB j acc bad xs b (by omega) hm'
   rw [if_neg h] at hb hn
   unfold wlist
   rw [if_neg h, zdp hb]
   have hle := h1.le bad xs b
   have hea := h2 bad xs b
   refine wloop h1 h2 hB hW he n j _ _ _ _ (by omega) ?_ ?_
   ·split
    ·omega
    ·rename_i h3
     rcases hea with h4 | h4
     ·omega
     ·exact absurd (.inr h4) h3
   ·rcases hea with h4 | h4
    ·exact .inr (by simp; omega)
    ·exact .inl (.inr h4)
def rowW {A : Type} (one : Rd A) : Rd (List A) := fun bad xs b => wlist one (intV bad xs b).1.toNat [] (intV bad xs b).2.1 (intV bad xs b).2.2.1 (intV bad xs b).2.2.2
theorem zih {A : Type} {one : Rd A} (h : RdOk one) : RdOk (rowW one) := ⟨fun bad xs b => Nat.le_trans ((zgr h _ _).le _ _ _) (zH.le bad xs b), fun bad xs => by
 unfold rowW
 rw [zH.st bad xs]
 exact (zgr h _ _).st _ _⟩
theorem zel {A X : Type} {B : (Int × Bool × (List Int × Bool) × List A) → Option ((Int × Bool × (List Int × Bool) × List A) ⊕ X)} {fin : List A × Bool × List Int × Bool → X} {one : Rd A} (h1 : RdOk one) (h2 : Eats one)
  (hP : ∀ (k : Int) acc xs, xs.length ≤ 1000000 → k > 0 → B (k, (false, ((xs, false), acc))) = bif Nat.ble (acc ++ [(one false xs false).1]).length 4294967296 then some (.inl (subI .i64 k 1, ((one false xs false).2.1, (((one false xs false).2.2.1, (one false xs false).2.2.2), acc ++ [(one false xs false).1])))) else none)
  (hW : ∀ (k : Int) acc bad xs b, k > 0 → (bad || b) = true → B (k, (bad, ((xs, b), acc))) = some (.inr (fin (acc, bad, xs, b))))
  (hE : ∀ acc bad xs b, B (0, (bad, ((xs, b), acc))) = some (.inr (fin (acc, bad, xs, b))))
  (n : Nat) (bad : Bool) (xs : List Int) (b : Bool) (hx : xs.length ≤ 1000000) (hn : 1000002 ≤ n) :
  loopS B n ((intV bad xs b).1, ((intV bad xs b).2.1, (((intV bad xs b).2.2.1, (intV bad xs b).2.2.2), []))) = some (fin (rowW one bad xs b)) := by
 have hr := zjZ bad xs b
 have hl := zH.le bad xs b
 have hw : ∀ (j : Nat) acc bad xs b, j ≤ 2147483647 → (bad = true ∨ b = true) → B (((j + 1 : Nat) : Int), (bad, ((xs, b), acc))) = some (.inr (fin (acc, bad, xs, b))) := fun j acc bad xs b hj h =>
  hW _ acc bad xs b (by omega) (by rcases h with rfl | rfl <;> simp)
 have h := wloop (B := B) (mk := fun (j : Nat) acc bad xs b => ((j : Int), (bad, ((xs, b), acc)))) (fin := fin) (one := one) (M := 1000000) h1 h2 (fun j acc bad xs b hj hm => ?_) hw (fun acc bad xs b => hE acc bad xs b) n (intV bad xs b).1.toNat [] (intV bad xs b).2.1 (intV bad xs b).2.2.1 (intV bad xs b).2.2.2 (by omega) (by split <;> omega) (.inr (by simp; omega))
 ·rw [show (((intV bad xs b).1.toNat : Nat) : Int) = (intV bad xs b).1 by omega] at h
  exact h
 ·by_cases hb : bad = true ∨ b = true
  ·rw [if_pos hb]; exact hw j acc bad xs b hj hb
  ·rw [if_neg hb]
   obtain ⟨rfl, rfl⟩ : bad = false ∧ b = false := by cases bad <;> cases b <;> simp_all
   rw [hP _ acc xs (by omega) (by omega), ziG (by simp; omega), cond_true, zjo (by omega) (by omega), show ((j + 1 : Nat) : Int) - 1 = (j : Int) by omega]
end Sx
end
section
/- The image's readers, put together; what is read of an image. -/
set_option linter.unusedVariables false
set_option linter.unusedSimpArgs false
namespace Sx
open Go Go.Ab
abbrev FrD := Int × Int × List Int × List Int
abbrev HaD := Int × Int × Bool
def thenR {A B : Type} (f : Rd A) (g : A → Rd B) : Rd B := fun bad xs b => g (f bad xs b).1 (f bad xs b).2.1 (f bad xs b).2.2.1 (f bad xs b).2.2.2
def retR {A : Type} (a : A) : Rd A := fun bad xs b => (a, bad, xs, b)
theorem zkL {A : Type} (a : A) : RdOk (retR a) := ⟨fun _ _ _ => Nat.le_refl _, fun _ _ => rfl⟩
theorem zQ {A B : Type} {f : Rd A} {g : A → Rd B} (hf : RdOk f) (hg : ∀ a, RdOk (g a)) : RdOk (thenR f g) := ⟨fun bad xs b => Nat.le_trans ((hg _).le _ _ _) (hf.le _ _ _), fun bad xs => by
 unfold thenR
 rw [hf.st bad xs]
 exact (hg _).st _ _⟩
theorem zdn {A B : Type} {f : Rd A} {g : A → Rd B} (hf : Eats f) (hg : ∀ a, RdOk (g a)) : Eats (thenR f g) := fun bad xs b => by
 rcases hf bad xs b with h | h
 ·exact .inl (Nat.lt_of_le_of_lt ((hg _).le _ _ _) h)
 ·exact .inr (by unfold thenR; rw [h]; exact (hg _).st _ _)
def takeR (k : Int) : Rd (List Int) := fun bad xs b => ((takeV k xs b).1, bad, (takeV k xs b).2)
theorem zmH (k : Int) : RdOk (takeR k) := ⟨fun bad xs b => (zey k xs b).1, fun bad xs => by simp [takeR, takeV]⟩
def frameR : Rd FrD := thenR intV fun a => thenR intV fun c => thenR (rowW numV) fun l => thenR (rowW numV) fun k => retR (a, c, l, k)
def objR : Rd FrD := thenR intV fun a => thenR intV fun c => thenR (rowW numV) fun l => thenR intV fun k => thenR (takeR k) fun t => retR (a, c, l, t)
def endR (a d o : Int) : Rd HaD := fun bad xs b => ((a, d, o == 1), bad || decide (o > 1), xs, b)
theorem zmW (a d o : Int) : RdOk (endR a d o) := ⟨fun _ _ _ => Nat.le_refl _, fun _ _ => rfl⟩
def hanR : Rd HaD := thenR intV fun a => thenR numV fun d => thenR intV fun o => endR a d o
theorem zdJ : RdOk (rowW numV) := zih zib
theorem zfZ (a : Int) : RdOk (thenR intV fun c => thenR (rowW numV) fun l => thenR (rowW numV) fun k => retR ((a, c, l, k) : FrD)) := zQ zH fun _ => zQ zdJ fun _ => zQ zdJ fun _ => zkL _
theorem zhY : RdOk frameR := zQ zH zfZ
theorem zjl : Eats frameR := zdn zeB zfZ
theorem zjM (a : Int) : RdOk (thenR intV fun c => thenR (rowW numV) fun l => thenR intV fun k => thenR (takeR k) fun t => retR ((a, c, l, t) : FrD)) := zQ zH fun _ => zQ zdJ fun _ => zQ zH fun _ => zQ (zmH _) fun _ => zkL _
theorem zkN : RdOk objR := zQ zH zjM
theorem zlx : Eats objR := zdn zeB zjM
theorem zjq (a : Int) : RdOk (thenR numV fun d => thenR intV fun o => endR a d o) := zQ zib fun _ => zQ zH fun _ => zmW _ _ _
theorem zne : RdOk hanR := zQ zH zjq
theorem zlN : Eats hanR := zdn zeB zjq
abbrev out {A : Type} (q : A × Bool × List Int × Bool) : Option (A × Bool × List Int × Bool) := some (q.1, (q.2.1, (q.2.2.1, q.2.2.2)))
theorem zgQ (n : Nat) (bad : Bool) (xs : List Int) (b : Bool) (hx : xs.length ≤ 1000000) (hn : 1000002 ≤ n) : qh n bad xs b = some (rowW numV bad xs b) := by
 unfold qh
 rw [zga n bad xs b (by omega) (by omega), Option.bind_some]
 have h := zel (B := fun s => qh_B0 n s.1 s.2.1 s.2.2.1.1 s.2.2.1.2 s.2.2.2) (fin := fun q => (q.2.1, ((q.2.2.1, q.2.2.2), q.1))) zib zhU (fun k acc xs hx hk => by
   show qh_B0 n k false xs false acc = _
   unfold qh_B0
   rw [decide_eq_true hk, cond_true, zan, Option.bind_some]
   simp only [Bool.or_self, Bool.not_false, cond_true]
   rw [zkF n xs false (by omega) (by omega), Option.bind_some]
   rfl) (fun k acc bad xs b hk hw => by
   show qh_B0 n k bad xs b acc = _
   unfold qh_B0
   rw [decide_eq_true hk, cond_true, zan, Option.bind_some, hw]
   rfl) (fun acc bad xs b => rfl) n bad xs b hx hn
 have h' : qh_W0 n ((intV bad xs b).1, ((intV bad xs b).2.1, (((intV bad xs b).2.2.1, (intV bad xs b).2.2.2), []))) = _ := h
 show ((qh_W0 n ((intV bad xs b).1, ((intV bad xs b).2.1, (((intV bad xs b).2.2.1, (intV bad xs b).2.2.2), [])))).bind _) = _
 rw [h', Option.bind_some]
theorem zaA (n : Nat) (bad : Bool) (xs : List Int) (b : Bool) (hx : xs.length ≤ 1000000) (hn : 1000002 ≤ n) : qe n bad xs b = some (intV bad xs b) := zga n bad xs b (by omega) (by omega)
theorem zkV (n : Nat) (xs : List Int) (b : Bool) (hx : xs.length ≤ 1000000) (hn : 1000002 ≤ n) : qs n xs b = some (varV xs b) := zkF n xs b (by omega) (by omega)
theorem zmc (n : Nat) (bad : Bool) (xs : List Int) (b : Bool) (hx : xs.length ≤ 1000000) (hn : 1000002 ≤ n) : qf n bad xs b = some (frameR bad xs b) := by
 unfold qf
 have l1 := zH.le bad xs b
 have l2 := zH.le (intV bad xs b).2.1 (intV bad xs b).2.2.1 (intV bad xs b).2.2.2
 rw [zaA n bad xs b hx hn, Option.bind_some, zaA n _ _ _ (by omega) hn, Option.bind_some, zgQ n _ _ _ (by omega) hn, Option.bind_some]
 have l3 := zdJ.le (intV (intV bad xs b).2.1 (intV bad xs b).2.2.1 (intV bad xs b).2.2.2).2.1 (intV (intV bad xs b).2.1 (intV bad xs b).2.2.1 (intV bad xs b).2.2.2).2.2.1 (intV (intV bad xs b).2.1 (intV bad xs b).2.2.1 (intV bad xs b).2.2.2).2.2.2
 rw [zgQ n _ _ _ (by omega) hn, Option.bind_some]
 rfl
theorem znu (n : Nat) (bad : Bool) (xs : List Int) (b : Bool) (hx : xs.length ≤ 1000000) (hn : 1000002 ≤ n) : qt n bad xs b = some (objR bad xs b) := by
 unfold qt
 have l1 := zH.le bad xs b
 have l2 := zH.le (intV bad xs b).2.1 (intV bad xs b).2.2.1 (intV bad xs b).2.2.2
 rw [zaA n bad xs b hx hn, Option.bind_some, zaA n _ _ _ (by omega) hn, Option.bind_some, zgQ n _ _ _ (by omega) hn, Option.bind_some]
 have l3 := zdJ.le (intV (intV bad xs b).2.1 (intV bad xs b).2.2.1 (intV bad xs b).2.2.2).2.1 (intV (intV bad xs b).2.1 (intV bad xs b).2.2.1 (intV bad xs b).2.2.2).2.2.1 (intV (intV bad xs b).2.1 (intV bad xs b).2.2.1 (intV bad xs b).2.2.2).2.2.2
 rw [zaA n _ _ _ (by omega) hn, Option.bind_some]
 have l4 := zH.le (rowW numV (intV (intV bad xs b).2.1 (intV bad xs b).2.2.1 (intV bad xs b).2.2.2).2.1 (intV (intV bad xs b).2.1 (intV bad xs b).2.2.1 (intV bad xs b).2.2.2).2.2.1 (intV (intV bad xs b).2.1 (intV bad xs b).2.2.1 (intV bad xs b).2.2.2).2.2.2).2.1
  (rowW numV (intV (intV bad xs b).2.1 (intV bad xs b).2.2.1 (intV bad xs b).2.2.2).2.1 (intV (intV bad xs b).2.1 (intV bad xs b).2.2.1 (intV bad xs b).2.2.2).2.2.1 (intV (intV bad xs b).2.1 (intV bad xs b).2.2.1 (intV bad xs b).2.2.2).2.2.2).2.2.1
  (rowW numV (intV (intV bad xs b).2.1 (intV bad xs b).2.2.1 (intV bad xs b).2.2.2).2.1 (intV (intV bad xs b).2.1 (intV bad xs b).2.2.1 (intV bad xs b).2.2.2).2.2.1 (intV (intV bad xs b).2.1 (intV bad xs b).2.2.1 (intV bad xs b).2.2.2).2.2.2).2.2.2
 rw [zcL n _ _ _ (by omega), Option.bind_some]
 rfl
theorem znn (n : Nat) (bad : Bool) (xs : List Int) (b : Bool) (hx : xs.length ≤ 1000000) (hn : 1000002 ≤ n) : qo n bad xs b = some (hanR bad xs b) := by
 unfold qo
 have l1 := zH.le bad xs b
 have l2 := zdS (intV bad xs b).2.2.1 (intV bad xs b).2.2.2
 rw [zaA n bad xs b hx hn, Option.bind_some, zkV n _ _ (by omega) hn, Option.bind_some, zaA n _ _ _ (by omega) hn, Option.bind_some]
 show _ = some (endR (intV bad xs b).1 (varV (intV bad xs b).2.2.1 (intV bad xs b).2.2.2).1 (intV (intV bad xs b).2.1 (varV (intV bad xs b).2.2.1 (intV bad xs b).2.2.2).2.1 (varV (intV bad xs b).2.2.1 (intV bad xs b).2.2.2).2.2).1
  (intV (intV bad xs b).2.1 (varV (intV bad xs b).2.2.1 (intV bad xs b).2.2.2).2.1 (varV (intV bad xs b).2.2.1 (intV bad xs b).2.2.2).2.2).2.1 (intV (intV bad xs b).2.1 (varV (intV bad xs b).2.2.1 (intV bad xs b).2.2.2).2.1 (varV (intV bad xs b).2.2.1 (intV bad xs b).2.2.2).2.2).2.2.1
  (intV (intV bad xs b).2.1 (varV (intV bad xs b).2.2.1 (intV bad xs b).2.2.2).2.1 (varV (intV bad xs b).2.2.1 (intV bad xs b).2.2.2).2.2).2.2.2)
 generalize intV (intV bad xs b).2.1 (varV (intV bad xs b).2.2.1 (intV bad xs b).2.2.2).2.1 (varV (intV bad xs b).2.2.1 (intV bad xs b).2.2.2).2.2 = q
 unfold endR
 cases q.2.1 <;> rfl
theorem zmd (n : Nat) (bad : Bool) (xs : List Int) (b : Bool) (hx : xs.length ≤ 1000000) (hn : 1000002 ≤ n) : qb n bad xs b = some (rowW frameR bad xs b) := by
 unfold qb
 rw [zga n bad xs b (by omega) (by omega), Option.bind_some]
 have h := zel (B := fun s => qb_B0 n s.1 s.2.1 s.2.2.1.1 s.2.2.1.2 s.2.2.2) (fin := fun q => (q.2.1, ((q.2.2.1, q.2.2.2), q.1))) zhY zjl (fun k acc xs hx hk => by
   show qb_B0 n k false xs false acc = _
   unfold qb_B0
   rw [decide_eq_true hk, cond_true, zan, Option.bind_some]
   simp only [Bool.or_self, Bool.not_false, cond_true]
   rw [zmc n false xs false hx hn, Option.bind_some]) (fun k acc bad xs b hk hw => by
   show qb_B0 n k bad xs b acc = _
   unfold qb_B0
   rw [decide_eq_true hk, cond_true, zan, Option.bind_some, hw]
   rfl) (fun acc bad xs b => rfl) n bad xs b hx hn
 have h' : qb_W0 n ((intV bad xs b).1, ((intV bad xs b).2.1, (((intV bad xs b).2.2.1, (intV bad xs b).2.2.2), []))) = _ := h
 show ((qb_W0 n ((intV bad xs b).1, ((intV bad xs b).2.1, (((intV bad xs b).2.2.1, (intV bad xs b).2.2.2), [])))).bind _) = _
 rw [h', Option.bind_some]
theorem zmD (n : Nat) (bad : Bool) (xs : List Int) (b : Bool) (hx : xs.length ≤ 1000000) (hn : 1000002 ≤ n) : qi n bad xs b = some (rowW objR bad xs b) := by
 unfold qi
 rw [zga n bad xs b (by omega) (by omega), Option.bind_some]
 have h := zel (B := fun s => qi_B0 n s.1 s.2.1 s.2.2.1.1 s.2.2.1.2 s.2.2.2) (fin := fun q => (q.2.1, ((q.2.2.1, q.2.2.2), q.1))) zkN zlx (fun k acc xs hx hk => by
   show qi_B0 n k false xs false acc = _
   unfold qi_B0
   rw [decide_eq_true hk, cond_true, zan, Option.bind_some]
   simp only [Bool.or_self, Bool.not_false, cond_true]
   rw [znu n false xs false hx hn, Option.bind_some]) (fun k acc bad xs b hk hw => by
   show qi_B0 n k bad xs b acc = _
   unfold qi_B0
   rw [decide_eq_true hk, cond_true, zan, Option.bind_some, hw]
   rfl) (fun acc bad xs b => rfl) n bad xs b hx hn
 have h' : qi_W0 n ((intV bad xs b).1, ((intV bad xs b).2.1, (((intV bad xs b).2.2.1, (intV bad xs b).2.2.2), []))) = _ := h
 show ((qi_W0 n ((intV bad xs b).1, ((intV bad xs b).2.1, (((intV bad xs b).2.2.1, (intV bad xs b).2.2.2), [])))).bind _) = _
 rw [h', Option.bind_some]
theorem zmE (n : Nat) (bad : Bool) (xs : List Int) (b : Bool) (hx : xs.length ≤ 1000000) (hn : 1000002 ≤ n) : qa n bad xs b = some (rowW hanR bad xs b) := by
 unfold qa
 rw [zga n bad xs b (by omega) (by omega), Option.bind_some]
 have h := zel (B := fun s => qa_B0 n s.1 s.2.1 s.2.2.1.1 s.2.2.1.2 s.2.2.2) (fin := fun q => (q.2.1, ((q.2.2.1, q.2.2.2), q.1))) zne zlN (fun k acc xs hx hk => by
   show qa_B0 n k false xs false acc = _
   unfold qa_B0
   rw [decide_eq_true hk, cond_true, zan, Option.bind_some]
   simp only [Bool.or_self, Bool.not_false, cond_true]
   rw [znn n false xs false hx hn, Option.bind_some]) (fun k acc bad xs b hk hw => by
   show qa_B0 n k bad xs b acc = _
   unfold qa_B0
   rw [decide_eq_true hk, cond_true, zan, Option.bind_some, hw]
   rfl) (fun acc bad xs b => rfl) n bad xs b hx hn
 have h' : qa_W0 n ((intV bad xs b).1, ((intV bad xs b).2.1, (((intV bad xs b).2.2.1, (intV bad xs b).2.2.2), []))) = _ := h
 show ((qa_W0 n ((intV bad xs b).1, ((intV bad xs b).2.1, (((intV bad xs b).2.2.1, (intV bad xs b).2.2.2), [])))).bind _) = _
 rw [h', Option.bind_some]
abbrev StD := List FrD × List FrD × List HaD × Int × Int × Int × Int
def emptySt : StD := ([], [], [], 0, 0, 0, 0)
def stR : Rd StD := thenR intV fun e => thenR intV fun q => thenR intV fun u => thenR numV fun v => thenR (rowW frameR) fun f => thenR (rowW objR) fun o => thenR (rowW hanR) fun h => retR (f, o, h, q, u, e, v)
noncomputable def bodyV (xs : List Int) : StD × Int × Int :=
 if (fixV (takeV 1 xs false).1 ≠ 2) ∨ (takeV 1 xs false).2.2 = true then (emptySt, 0, 2)
 else if (takeV 4 (takeV 1 xs false).2.1 false).2.2 = true then (emptySt, 0, 2)
 else if (stR false (takeV 4 (takeV 1 xs false).2.1 false).2.1 false).2.1 = true ∨ (stR false (takeV 4 (takeV 1 xs false).2.1 false).2.1 false).2.2.2 = true ∨ (stR false (takeV 4 (takeV 1 xs false).2.1 false).2.1 false).2.2.1.length > 0 then (emptySt, 0, 2)
 else ((stR false (takeV 4 (takeV 1 xs false).2.1 false).2.1 false).1, cvtI .u32 (fixV (takeV 4 (takeV 1 xs false).2.1 false).1), 0)
noncomputable def decV (b : List Int) : StD × Int × Int := if b.length > 65536 then (emptySt, 0, 2) else if (openV b).2 ≠ 0 then (emptySt, 0, (openV b).2) else bodyV (openV b).1
end Sx
end
section
/- What image.Decode answers. -/
set_option linter.unusedVariables false
set_option linter.unusedSimpArgs false
namespace Sx
open Go Go.Ab
theorem zlB (n : Nat) (xs : List Int) (b : Bool) (hx : xs.length ≤ 1000000) : qp n 1 xs b = some (fixV (takeV 1 xs b).1, (takeV 1 xs b).2) := by
 unfold qp
 rw [show minI (maxI 1 0) 8 = 1 from by decide, zcL n 1 xs b (by omega), Option.bind_some]
theorem zlW (n : Nat) (xs : List Int) (b : Bool) (hx : xs.length ≤ 1000000) : qp n 4 xs b = some (fixV (takeV 4 xs b).1, (takeV 4 xs b).2) := by
 unfold qp
 rw [show minI (maxI 4 0) 8 = 4 from by decide, zcL n 4 xs b (by omega), Option.bind_some]
theorem zlQ (b : List Int) : (openV b).1.length ≤ b.length := by
 unfold openV
 split
 ·simp
 ·split
  ·simp
  ·simp
theorem znA (n : Nat) (xs : List Int) (hx : xs.length ≤ 1000000) (hn : 1000002 ≤ n) {R : Type} (k : StD × Bool × List Int × Bool → Option R) :
  ((qe n Bool.false xs false).bind fun r244 => (qe n r244.2.1 r244.2.2.1 r244.2.2.2).bind fun r245 => (qe n r245.2.1 r245.2.2.1 r245.2.2.2).bind fun r246 => (qs n r246.2.2.1 r246.2.2.2).bind fun r247 =>
   (qb n r246.2.1 r247.2.1 r247.2.2).bind fun r248 => (qi n r248.2.1 r248.2.2.1 r248.2.2.2).bind fun r249 => (qa n r249.2.1 r249.2.2.1 r249.2.2.2).bind fun r250 =>
   k ((r248.1, r249.1, r250.1, r245.1, r246.1, r244.1, r247.1), r250.2.1, r250.2.2.1, r250.2.2.2)) = k (stR false xs false) := by
 have hq : ∀ bad ys b, ys.length ≤ 1000000 → (intV bad ys b).2.2.1.length ≤ 1000000 := fun bad ys b h => Nat.le_trans (zH.le bad ys b) h
 rw [zaA n _ _ _ hx hn, Option.bind_some]
 have h1 := hq false xs false hx
 generalize hq1 : intV false xs false = q1 at h1 ⊢
 rw [zaA n _ _ _ h1 hn, Option.bind_some]
 have h2 := hq q1.2.1 q1.2.2.1 q1.2.2.2 h1
 generalize hq2 : intV q1.2.1 q1.2.2.1 q1.2.2.2 = q2 at h2 ⊢
 rw [zaA n _ _ _ h2 hn, Option.bind_some]
 have h3 := hq q2.2.1 q2.2.2.1 q2.2.2.2 h2
 generalize hq3 : intV q2.2.1 q2.2.2.1 q2.2.2.2 = q3 at h3 ⊢
 rw [zkV n _ _ h3 hn, Option.bind_some]
 have h4 : (varV q3.2.2.1 q3.2.2.2).2.1.length ≤ 1000000 := Nat.le_trans (zdS _ _) h3
 generalize hq4 : varV q3.2.2.1 q3.2.2.2 = q4 at h4 ⊢
 rw [zmd n _ _ _ h4 hn, Option.bind_some]
 have h5 := Nat.le_trans ((zih zhY).le q3.2.1 q4.2.1 q4.2.2) h4
 generalize hq5 : rowW frameR q3.2.1 q4.2.1 q4.2.2 = q5 at h5 ⊢
 rw [zmD n _ _ _ h5 hn, Option.bind_some]
 have h6 := Nat.le_trans ((zih zkN).le q5.2.1 q5.2.2.1 q5.2.2.2) h5
 generalize hq6 : rowW objR q5.2.1 q5.2.2.1 q5.2.2.2 = q6 at h6 ⊢
 rw [zmE n _ _ _ h6 hn, Option.bind_some]
 have : stR false xs false = (((q5.1, q6.1, (rowW hanR q6.2.1 q6.2.2.1 q6.2.2.2).1, q2.1, q3.1, q1.1, q4.1) : StD), (rowW hanR q6.2.1 q6.2.2.1 q6.2.2.2).2.1, (rowW hanR q6.2.1 q6.2.2.1 q6.2.2.2).2.2.1, (rowW hanR q6.2.1 q6.2.2.1 q6.2.2.2).2.2.2) := by
  unfold stR thenR
  simp only [hq1, hq2, hq3, show ∀ bad ys b, numV bad ys b = ((varV ys b).1, bad, (varV ys b).2) from fun _ _ _ => rfl, hq4, hq5, hq6]
  rfl
 rw [this]
theorem zle (n : Nat) (b : List Int) (hb : IsBytes b) (hn : 2000000 ≤ n) (hl : b.length ≤ 4294967000) : qaf n b = some (decV b) := by
 unfold qaf qae decV
 rw [zap]
 by_cases h1 : b.length > 65536
 ·rw [decide_eq_true (by omega), if_pos h1]; rfl
 ·rw [decide_eq_false (by omega), cond_false, if_neg h1, znk n b hb (by omega) (by omega), Option.bind_some]
  by_cases h2 : (openV b).2 = 0
  ·rw [if_neg (fun h => h h2), show ((openV b).2 != 0) = false from by rw [h2]; rfl, cond_false]
   have hol := zlQ b
   generalize (openV b).1 = xs at hol
   unfold qz bodyV
   rw [ziG (by omega), cond_true, Option.bind_some]
   simp only
   rw [zlB n xs false (by omega), Option.bind_some]
   simp only
   rw [show cvtI .u64 2 = 2 from by decide]
   by_cases h3 : fixV (takeV 1 xs false).1 ≠ 2
   ·rw [if_pos (.inl h3), bne_iff_ne.2 h3]; rfl
   ·rw [show (fixV (takeV 1 xs false).1 != 2) = false from by rw [Decidable.not_not.1 h3]; rfl, cond_false]
    simp only [qab, Option.bind_some]
    have hl1 := (zey 1 xs false).1
    cases h4 : (takeV 1 xs false).2.2 with
    | true => rw [if_pos (.inr rfl)]; rfl
    | false =>
     rw [if_neg (by simp; exact Decidable.not_not.1 h3), cond_false, zlW n _ _ (by omega), Option.bind_some]
     simp only
     have hl2 := (zey 4 (takeV 1 xs false).2.1 false).1
     cases h5 : (takeV 4 (takeV 1 xs false).2.1 false).2.2 with
     | true => rfl
     | false =>
      rw [cond_false, Option.bind_some, if_neg (by simp)]
      simp only
      rw [show ((0 : Int) != 0) = false from rfl, cond_false]
      have h := znA (R := StD × Int × Int) n (takeV 4 (takeV 1 xs false).2.1 false).2.1 (by omega) (by omega) (fun q => (qc n q.2.1 q.2.2.1 q.2.2.2).bind fun r251 =>
       bif r251.1 then some (emptySt, (0, 2)) else (qu n r251.2.2.1 r251.2.2.2).bind fun r252 => bif (decide (r252.1 > 0)) then some (emptySt, (0, 2)) else some (q.1, (cvtI .u32 (fixV (takeV 4 (takeV 1 xs false).2.1 false).1), 0)))
      refine h.trans ?_
      generalize stR false (takeV 4 (takeV 1 xs false).2.1 false).2.1 false = q
      rw [zan, Option.bind_some]
      cases h6 : q.2.1 with
      | true => rw [if_pos (.inl rfl)]; rfl
      | false =>
       cases h7 : q.2.2.2 with
       | true => rw [if_pos (.inr (.inl rfl))]; rfl
       | false =>
        have hL : qu n q.2.2.1 false = some (lenI q.2.2.1, (q.2.2.1, false)) := rfl
        simp only [Bool.or_self, cond_false]
        rw [hL, Option.bind_some, zap]
        by_cases h8 : q.2.2.1.length > 0
        ·rw [if_pos (.inr (.inr h8)), decide_eq_true (by omega)]; rfl
        ·rw [if_neg (by simp; simpa using h8), decide_eq_false (by omega)]; rfl
  ·rw [if_pos h2, bne_iff_ne.2 h2]
   show (bif ((openV b).2 != 0) then _ else _) = _
   rw [bne_iff_ne.2 h2]; rfl
end Sx
end
section
/- What is sealed, and begins otherwise, is no image. -/
set_option linter.unusedVariables false
set_option linter.unusedSimpArgs false
namespace Sx
open Go Go.Ab
theorem answers20 (n : Nat) (hn : 100 ≤ n) : qx n = some true := by
 obtain ⟨m, rfl⟩ : ∃ m, n = m + 100 := ⟨n - 100, by omega⟩
 kernel_rfl
theorem zdR (n : Nat) (hn : 100 ≤ n) : qad n [] [] [] 0 0 0 0 [] [] [] 0 0 0 0 = some true := by
 obtain ⟨m, rfl⟩ : ∃ m, n = m + 100 := ⟨n - 100, by omega⟩
 kernel_rfl
theorem u64wrap (n : Int) : IntKind.u64.wrap n = n % 18446744073709551616 := by simp [IntKind.wrap, IntKind.bits, IntKind.signed]
theorem u32wrap (n : Int) : IntKind.u32.wrap n = n % 4294967296 := by simp [IntKind.wrap, IntKind.bits, IntKind.signed]
theorem znl (a b : Nat) (ha : a < 18446744073709551616) (hb : b < 18446744073709551616) : orI .u64 (a : Int) (b : Int) = ((a ||| b : Nat) : Int) := by
 unfold orI
 rw [u64wrap]
 have : (BitVec.ofInt IntKind.u64.bits (a : Int) ||| BitVec.ofInt IntKind.u64.bits (b : Int)).toNat = a ||| b := by
  rw [BitVec.toNat_or]
  show (BitVec.ofInt 64 (a : Int)).toNat ||| (BitVec.ofInt 64 (b : Int)).toNat = _
  rw [BitVec.ofInt_natCast, BitVec.ofInt_natCast, BitVec.toNat_ofNat, BitVec.toNat_ofNat, Nat.mod_eq_of_lt ha, Nat.mod_eq_of_lt hb]
 rw [this]
 have h : a ||| b < 18446744073709551616 := Nat.or_lt_two_pow (n := 64) ha hb
 omega
theorem zdU (v x : Nat) (hv : v < 281474976710656) (hx : x < 256) : orI .u64 (IntKind.u64.wrap ((v : Int) * 256)) (IntKind.u64.wrap (x : Int)) = ((v * 256 + x : Nat) : Int) := by
 rw [u64wrap, u64wrap]
 have e1 : ((v : Int) * 256) % 18446744073709551616 = ((v * 256 : Nat) : Int) := by omega
 have e2 : ((x : Int)) % 18446744073709551616 = ((x : Nat) : Int) := by omega
 rw [e1, e2, znl _ _ (by omega) (by omega)]
 have h := Nat.shiftLeft_add_eq_or_of_lt (show x < 2 ^ 8 by omega) v
 rw [Nat.shiftLeft_eq] at h
 have h256 : (2 : Nat) ^ 8 = 256 := by decide
 rw [h256] at h
 rw [← h]
theorem zcR (x : Int) (l : List Int) : fixV (x :: l) = orI .u64 (IntKind.u64.wrap (fixV l * 256)) (IntKind.u64.wrap x) := rfl
theorem fix1 {x : Int} (h : 0 ≤ x ∧ x ≤ 255) : fixV [x] = x := by
 obtain ⟨k, rfl⟩ := Int.eq_ofNat_of_zero_le h.1
 have := zdU 0 k (by omega) (by omega)
 rw [zcR, show fixV [] = ((0 : Nat) : Int) from rfl, this]
 omega
theorem fix4 {a b c d : Int} (ha : 0 ≤ a ∧ a ≤ 255) (hb : 0 ≤ b ∧ b ≤ 255) (hc : 0 ≤ c ∧ c ≤ 255) (hd : 0 ≤ d ∧ d ≤ 255) : fixV [a, b, c, d] = a + 256 * b + 65536 * c + 16777216 * d := by
 obtain ⟨a, rfl⟩ := Int.eq_ofNat_of_zero_le ha.1
 obtain ⟨b, rfl⟩ := Int.eq_ofNat_of_zero_le hb.1
 obtain ⟨c, rfl⟩ := Int.eq_ofNat_of_zero_le hc.1
 obtain ⟨d, rfl⟩ := Int.eq_ofNat_of_zero_le hd.1
 rw [zcR, zcR, zcR, fix1 hd, zdU d c (by omega) (by omega), zdU (d * 256 + c) b (by omega) (by omega), zdU ((d * 256 + c) * 256 + b) a (by omega) (by omega)]
 omega
theorem zmi {a b c d : Int} (ha : 0 ≤ a ∧ a ≤ 255) (hb : 0 ≤ b ∧ b ≤ 255) (hc : 0 ≤ c ∧ c ≤ 255) (hd : 0 ≤ d ∧ d ≤ 255) :
  addI .u32 (addI .u32 (addI .u32 (cvtI .u32 a) (shlI .u32 (cvtI .u32 b) 8)) (shlI .u32 (cvtI .u32 c) 16)) (shlI .u32 (cvtI .u32 d) 24) = a + 256 * b + 65536 * c + 16777216 * d := by
 have e8 : (2 : Int) ^ (min (8 : Int).toNat IntKind.u32.bits) = 256 := by decide
 have e16 : (2 : Int) ^ (min (16 : Int).toNat IntKind.u32.bits) = 65536 := by decide
 have e24 : (2 : Int) ^ (min (24 : Int).toNat IntKind.u32.bits) = 16777216 := by decide
 unfold addI shlI cvtI
 rw [e8, e16, e24]
 simp only [u32wrap]
 omega
theorem zid {k : Nat} {xs : List Int} (h : k ≤ xs.length) : takeV (k : Int) xs false = (xs.take k, xs.drop k, false) := by
 unfold takeV
 rw [if_neg (by rintro (h' | h' | h') <;> first | cases h' | omega), Int.toNat_natCast]
theorem zjz {k : Int} {xs : List Int} (h : k > (xs.length : Int)) : takeV k xs false = ([], xs, true) := by
 unfold takeV
 rw [if_pos (.inr (.inr h))]
theorem zkc {b : List Int} (h : b.length < 5) : bodyV b = (emptySt, 0, 2) := by
 unfold bodyV
 split
 ·rfl
 ·rename_i h1
  have h1' : (takeV 1 b false).2.2 = false := by
   cases hq : (takeV 1 b false).2.2 with
   | false => rfl
   | true => exact absurd (.inr hq) h1
  have hlen : (takeV 1 b false).2.1.length < 4 := by
   by_cases h0 : b.length = 0
   ·rw [zjz (by omega)] at h1'; cases h1'
   ·have := zid (k := 1) (xs := b) (by omega)
    rw [show takeV 1 b false = _ from this]
    simp; omega
  rw [if_pos (by rw [zjz (by omega)])]
theorem zlb (x0 x1 x2 x3 x4 : Int) (r : List Int) (h0 : 0 ≤ x0 ∧ x0 ≤ 255) : (x0 ≠ 2 → bodyV (x0 :: x1 :: x2 :: x3 :: x4 :: r) = (emptySt, 0, 2)) ∧
  (bodyV (x0 :: x1 :: x2 :: x3 :: x4 :: r) = (emptySt, 0, 2) ∨ ∃ s, bodyV (x0 :: x1 :: x2 :: x3 :: x4 :: r) = (s, cvtI .u32 (fixV [x1, x2, x3, x4]), 0)) := by
 have t1 : takeV 1 (x0 :: x1 :: x2 :: x3 :: x4 :: r) false = ([x0], x1 :: x2 :: x3 :: x4 :: r, false) := zid (k := 1) (by simp)
 have t4 : takeV 4 (x1 :: x2 :: x3 :: x4 :: r) false = ([x1, x2, x3, x4], r, false) := zid (k := 4) (by simp)
 unfold bodyV
 rw [t1]
 simp only
 rw [t4, fix1 h0]
 simp only
 constructor
 ·intro h; rw [if_pos (.inl h)]
 ·split
  ·exact .inl rfl
  ·rw [if_neg (by simp)]
   split
   ·exact .inl rfl
   ·exact .inr ⟨_, rfl⟩
theorem zhn (b : List Int) (hb : IsBytes b) : law20ImageVersion 2000000 b = some true := by
 unfold law20ImageVersion
 rw [zap, answers20 2000000 (by omega)]
 by_cases h1 : (b.length : Int) > 1000
 ·rw [decide_eq_true h1]; rfl
 ·rw [decide_eq_false h1, cond_false, zkk 2000000 b hb (by omega) (by omega), Option.bind_some, zle 2000000 (sealV b) (zeX hb) (by omega) (by rw [zcO]; omega), Option.bind_some]
  have hD : decV (sealV b) = bodyV b := by
   unfold decV
   rw [if_neg (by rw [zcO]; omega), zlV]
   rfl
  rw [hD]
  by_cases h5 : b.length < 5
  ·rw [decide_eq_true (by omega), zkc h5]
   simp only [cond_true, Option.bind_some, emptySt, zdR 2000000 (by omega)]
   rfl
  ·rw [decide_eq_false (by omega), cond_false]
   match b, h5, hb with
   | [], h5, _ | [_], h5, _ | [_, _], h5, _ | [_, _, _], h5, _ | [_, _, _, _], h5, _ => exact absurd (by simp) h5
   | x0 :: x1 :: x2 :: x3 :: x4 :: r, _, hb =>
    have h0 := hb x0 (by simp)
    have hx1 := hb x1 (by simp)
    have hx2 := hb x2 (by simp)
    have hx3 := hb x3 (by simp)
    have hx4 := hb x4 (by simp)
    obtain ⟨hne, hor⟩ := zlb x0 x1 x2 x3 x4 r h0
    rw [show getI (x0 :: x1 :: x2 :: x3 :: x4 :: r) 0 = some x0 from rfl, Option.bind_some]
    by_cases h2 : x0 = 2
    ·rw [show (x0 != 2) = false from by rw [h2]; rfl, cond_false, Option.bind_some, cond_true]
     rcases hor with h | ⟨s, h⟩
     ·rw [h]; rfl
     ·rw [h]
      simp only [beq_self_eq_true, cond_true]
      rw [show getI (x0 :: x1 :: x2 :: x3 :: x4 :: r) 1 = some x1 from rfl, Option.bind_some, show getI (x0 :: x1 :: x2 :: x3 :: x4 :: r) 2 = some x2 from rfl, Option.bind_some,
       show getI (x0 :: x1 :: x2 :: x3 :: x4 :: r) 3 = some x3 from rfl, Option.bind_some, show getI (x0 :: x1 :: x2 :: x3 :: x4 :: r) 4 = some x4 from rfl, Option.bind_some, zmi hx1 hx2 hx3 hx4, fix4 hx1 hx2 hx3 hx4, zgp (by omega) (by omega)]
      simp
    ·rw [show (x0 != 2) = true from bne_iff_ne.2 h2, cond_true, hne h2]
     simp only [cond_true, Option.bind_some, emptySt, zdR 2000000 (by omega)]
     rfl
end Sx
end
section
/- The plain law of ImageVersion at the row's own data. -/
set_option linter.unusedVariables false
namespace Sx
open Go Go.Ab
theorem zlL {xs : List Int} (h : Fit (.sl false (.int .u8)) xs) : IsBytes xs := fun x hx => znB (h.2 x hx)
theorem zhj (d : List Int) (hf : FitS (.cons (.sl true false (.int .u8)) .nil) d) : ∃ n, law20ImageVersion n d = some true := ⟨_, zhn d (zlL hf.1)⟩
end Sx
end
