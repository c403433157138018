/- Plain laws (texts ImS, ImT, ImU, ImV, ImW, ImX, ImA, ImG, ImK, ImB, ImC, ImD, ImE, ImS2, ImS3, ImF, ImH, ImL, ImM, ImN, ImO, ImP, ImRowV, ImRowX, ImRowO). -/
import Derived.Test.YtmoldheenagboaaImgSh
import Derived.Test.YtmoldheenagboaaLib7
import Derived.Test.YtmoldheenagboaaLib8
import Derived.KernelRfl
import Derived.Test.YtmoldheenagboaaLib31
section
/- The plain laws of the sums: what the printed functions come to. -/
set_option linter.unusedVariables false
set_option linter.unusedSimpArgs false
namespace Sx
open Go Go.Ab
def it {α : Type} (f : α → α) : Nat → α → α
 | 0, x => x
 | k + 1, x => f (it f k x)
def stp (x : BitVec 32) : BitVec 32 := (x >>> 1) ^^^ (bif x.getLsbD 0 then 0xedb88320#32 else 0#32)
def bst (x : BitVec 32) (c : Int) : BitVec 32 := it stp 8 (x ^^^ BitVec.ofInt 32 c)
def crc (x : BitVec 32) (b : List Int) : BitVec 32 := b.foldl bst x
def sumV (b : List Int) : BitVec 32 := ~~~(crc 0xffffffff#32 b)
def IsBytes (b : List Int) : Prop := ∀ x ∈ b, 0 ≤ x ∧ x ≤ 255
theorem zov (x : BitVec 32) : (W32 x) % 2 = (bif x.getLsbD 0 then 1 else 0) := by
 unfold W32
 have h : x.getLsbD 0 = decide (x.toNat % 2 = 1) := by
  rw [BitVec.getLsbD, Nat.testBit_zero]
 rw [h]
 cases hd : decide (x.toNat % 2 = 1) with
 | true => have := of_decide_eq_true hd; simp only [cond_true]; omega
 | false => have := of_decide_eq_false hd; simp only [cond_false]; omega
theorem zoO (x : BitVec 32) : andI .u32 (W32 x) 1 = (bif x.getLsbD 0 then 1 else 0) := by
 rw [zoN, zbh, show BitVec.ofInt 32 1 = 1#32 from rfl, BitVec.and_one_eq_setWidth_ofBool_getLsbD]
 cases x.getLsbD 0 <;> rfl
theorem zpg (x : BitVec 32) : xorI .u32 (shrI .u32 (W32 x) 1) (mulI .u32 3988292384 (andI .u32 (W32 x) 1)) = W32 (stp x) := by
 rw [zgc, zol, zbh, zoO]
 unfold stp
 cases x.getLsbD 0 <;> rfl
theorem zox (x : BitVec 32) : (bif (remI (W32 x) 2) == 1 then xorI .u32 (quoI .u32 (W32 x) 2) 3988292384 else quoI .u32 (W32 x) 2) = W32 (stp x) := by
 rw [zaj (zaK x).1, zov, znw]
 unfold stp
 cases x.getLsbD 0 with
 | false =>
  show W32 (x >>> 1) = W32 (x >>> 1 ^^^ 0#32)
  rw [BitVec.xor_zero]
 | true =>
  show xorI .u32 (W32 (x >>> 1)) 3988292384 = _
  rw [zgc, zbh]; rfl
theorem zpo (n : Nat) (x : BitVec 32) (a : List Int) (b c : Int) (hn : 9 ≤ n) : qaz_W2 n (W32 x, a, b, c, 0) = some (W32 (it stp 8 x), a, b, c) := by
 refine zao (f := fun i => (W32 (it stp i x), a, b, c, (i : Int))) (k := 8) (fun i hi => ?_) ?_ 8 0 n rfl (by omega)
 ·show qaz_B2 n _ _ _ _ _ = _
  dsimp only
  unfold qaz_B2
  rw [decide_eq_true (by omega), cond_true, zpg, zbn (by omega) (by omega)]
  rfl
 ·rfl
theorem zgo {α β : Type} (f : β → α → β) (x : β) (l : List α) (i : Nat) (c : α) (h : l[i]? = some c) : (l.take (i + 1)).foldl f x = f ((l.take i).foldl f x) c := by
 rw [List.take_add_one, h, List.foldl_append]
 rfl
theorem zpq (n : Nat) (b : List Int) (hb : IsBytes b) (hl : b.length ≤ 4294967296) (hn : b.length + 9 ≤ n) : qaz_W0 n (4294967295, (b, ((lenI b), 0))) = some (W32 (crc 0xffffffff#32 b)) := by
 have := zao (B := fun s => qaz_B0 n s.1 s.2.1 s.2.2.1 s.2.2.2) (f := fun i => (W32 (crc 0xffffffff#32 (b.take i)), b, lenI b, (i : Int))) (k := b.length) (x := W32 (crc 0xffffffff#32 b)) (fun i hi => ?_) ?_ b.length 0 n (by omega) (by omega)
 ·exact this
 ·show qaz_B0 n _ _ _ _ = _
  dsimp only
  unfold qaz_B0
  have hg : b[i]? = some b[i] := List.getElem?_eq_getElem hi
  have hc := hb b[i] (List.getElem_mem hi)
  rw [ze, decide_eq_true (by omega), cond_true, zr, hg]
  show ((qaz_W2 n (xorI .u32 (W32 (crc 0xffffffff#32 (b.take i))) (cvtI .u32 b[i]), b, (b.length : Int), (i : Int), 0)).bind fun r2 => some (Sum.inl (r2.1, (r2.2.1, (r2.2.2.1, (addI .i64 r2.2.2.2 1)))))) = _
  rw [zgJ hc.1 (by omega), zgc, zbh, zpo _ _ _ _ _ (by omega)]
  show some (Sum.inl (W32 (bst (crc 0xffffffff#32 (b.take i)) b[i]), b, (b.length : Int), addI .i64 (i : Int) 1)) = _
  rw [zbn (by omega) (by omega)]
  have : crc 0xffffffff#32 (b.take (i + 1)) = bst (crc 0xffffffff#32 (b.take i)) b[i] := zgo _ _ _ _ _ hg
  rw [← this]
  rfl
 ·show qaz_B0 n _ _ _ _ = _
  dsimp only
  unfold qaz_B0
  rw [ze, decide_eq_false (by omega), cond_false, List.take_length]
theorem of_eq (n : Nat) (b : List Int) (hb : IsBytes b) (hl : b.length ≤ 4294967296) (hn : b.length + 9 ≤ n) : qaz n b = some (W32 (sumV b)) := by
 unfold qaz
 rw [zpq n b hb hl hn]
 show some (notI .u32 (W32 (crc 0xffffffff#32 b))) = _
 rw [zlP]
 rfl
theorem zpe (n : Nat) (b : List Int) (x : BitVec 32) (c : Int) (hn : 9 ≤ n) : qav_W2 n (b, W32 x, c, 0) = some (b, W32 (it stp 8 x), c) := by
 refine zao (f := fun i => (b, W32 (it stp i x), c, (i : Int))) (k := 8) (fun i hi => ?_) ?_ 8 0 n rfl (by omega)
 ·show qav_B2 n _ _ _ _ = _
  dsimp only
  unfold qav_B2
  have h := zox (it stp i x)
  rw [decide_eq_true (by omega), cond_true, zbn (by omega) (by omega)]
  cases hc : remI (W32 (it stp i x)) 2 == 1 with
  | true => rw [hc, cond_true] at h; rw [cond_true, h]; rfl
  | false => rw [hc, cond_false] at h; rw [cond_false, h]; rfl
 ·rfl
theorem zpa (n : Nat) (b : List Int) (hb : IsBytes b) (hl : b.length ≤ 4294967296) (hn : b.length + 9 ≤ n) : qav_W0 n (b, (4294967295, 0)) = some (W32 (crc 0xffffffff#32 b)) := by
 have := zao (B := fun s => qav_B0 n s.1 s.2.1 s.2.2) (f := fun i => (b, W32 (crc 0xffffffff#32 (b.take i)), (i : Int))) (k := b.length) (x := W32 (crc 0xffffffff#32 b)) (fun i hi => ?_) ?_ b.length 0 n (by omega) (by omega)
 ·exact this
 ·show qav_B0 n _ _ _ = _
  dsimp only
  unfold qav_B0
  have hg : b[i]? = some b[i] := List.getElem?_eq_getElem hi
  have hc := hb b[i] (List.getElem_mem hi)
  rw [ze, decide_eq_true (by omega), cond_true, zr, hg]
  show ((qav_W2 n (b, xorI .u32 (W32 (crc 0xffffffff#32 (b.take i))) (cvtI .u32 b[i]), (i : Int), 0)).bind fun r2 => some (Sum.inl (r2.1, (r2.2.1, (addI .i64 r2.2.2 1))))) = _
  rw [zgJ hc.1 (by omega), zgc, zbh, zpe _ _ _ _ (by omega)]
  show some (Sum.inl (b, W32 (bst (crc 0xffffffff#32 (b.take i)) b[i]), addI .i64 (i : Int) 1)) = _
  rw [zbn (by omega) (by omega)]
  have : crc 0xffffffff#32 (b.take (i + 1)) = bst (crc 0xffffffff#32 (b.take i)) b[i] := zgo _ _ _ _ _ hg
  rw [← this]
  rfl
 ·show qav_B0 n _ _ _ = _
  dsimp only
  unfold qav_B0
  rw [ze, decide_eq_false (by omega), cond_false, List.take_length]
theorem zmD (n : Nat) (b : List Int) (hb : IsBytes b) (hl : b.length ≤ 4294967296) (hn : b.length + 9 ≤ n) : qav n b = some (W32 (sumV b)) := by
 unfold qav
 rw [zpa n b hb hl hn]
 show some (notI .u32 (W32 (crc 0xffffffff#32 b))) = _
 rw [zlP]
 rfl
def le4 (x : BitVec 32) : List Int := [W32 x % 256, W32 x / 256 % 256, W32 x / 65536 % 256, W32 x / 16777216 % 256]
theorem znU (n : Nat) (x : BitVec 32) (hn : 5 ≤ n) : qau n (W32 x) 4 = some (le4 x) := by
 obtain ⟨m, rfl⟩ : ∃ m, n = m + 5 := ⟨n - 5, by omega⟩
 have h : qau (m + 5) (W32 x) 4 = some [cvtI .u8 (shrI .u64 (W32 x) 0), cvtI .u8 (shrI .u64 (W32 x) 8), cvtI .u8 (shrI .u64 (W32 x) 16), cvtI .u8 (shrI .u64 (W32 x) 24)] := rfl
 have hx := zaK x
 rw [h]
 have e : ∀ (k : Int) (d : Int), 0 < d → 2 ^ (min k.toNat 64) = d → cvtI .u8 (shrI .u64 (W32 x) k) = W32 x / d % 256 := by
  intro k d hd hk
  rw [zaU]
  show (W32 x).fdiv (2 ^ (min k.toNat 64)) % 256 = _
  rw [hk, Int.fdiv_eq_ediv_of_nonneg _ (by omega)]
 rw [e 0 1 (by omega) rfl, e 8 256 (by omega) rfl, e 16 65536 (by omega) rfl, e 24 16777216 (by omega) rfl, Int.ediv_one]
 rfl
theorem zcW (n : Nat) (x : BitVec 32) (hn : 5 ≤ n) : qaj n (W32 x) 4 = some (le4 x) := by
 obtain ⟨m, rfl⟩ : ∃ m, n = m + 5 := ⟨n - 5, by omega⟩
 have h : qaj (m + 5) (W32 x) 4 = some [cvtI .u8 (remI (W32 x) 256), cvtI .u8 (remI (quoI .u64 (W32 x) 256) 256), cvtI .u8 (remI (quoI .u64 (quoI .u64 (W32 x) 256) 256) 256), cvtI .u8 (remI (quoI .u64 (quoI .u64 (quoI .u64 (W32 x) 256) 256) 256) 256)] := rfl
 have hx := zaK x
 have q : ∀ v : Int, 0 ≤ v → v ≤ 4294967295 → quoI .u64 v 256 = v / 256 := by
  intro v h1 h2
  show IntKind.u64.wrap (v.tdiv 256) = _
  rw [Int.tdiv_eq_ediv_of_nonneg h1, wrapU64]
  omega
 rw [h, q (W32 x) (by omega) (by omega), q (W32 x / 256) (by omega) (by omega), q (W32 x / 256 / 256) (by omega) (by omega), zaj (by omega), zaj (by omega), zaj (by omega), zaj (by omega),
  zaU, zaU, zaU, zaU]
 unfold le4
 have e1 : W32 x / 256 / 256 = W32 x / 65536 := by omega
 have e2 : W32 x / 65536 / 256 = W32 x / 16777216 := by omega
 rw [e1, e2]
 simp
theorem ziv (x : BitVec 32) : IsBytes (le4 x) := by
 intro y hy
 simp only [le4, List.mem_cons, List.not_mem_nil, or_false] at hy
 rcases hy with rfl | rfl | rfl | rfl <;> omega
def sealV (b : List Int) : List Int := b ++ le4 (sumV b)
theorem zfb (b : List Int) : (sealV b).length = b.length + 4 := by simp [sealV, le4]
theorem zfF {b : List Int} (h : IsBytes b) : IsBytes (sealV b) := by
 intro x hx
 rcases List.mem_append.1 hx with hx | hx
 ·exact h x hx
 ·exact ziv _ x hx
theorem zoy (n : Nat) (b : List Int) (hb : IsBytes b) (hl : b.length ≤ 4294967000) (hn : b.length + 9 ≤ n) : qaw n b = some (sealV b) := by
 unfold qaw
 have h1 : Nat.ble b.length 4294967296 = true := Nat.ble_eq_true_of_le (by omega)
 have h2 : Nat.ble (b ++ le4 (sumV b)).length 4294967296 = true := Nat.ble_eq_true_of_le (by simp [le4]; omega)
 have hw := zaK (sumV b)
 rw [h1, cond_true, of_eq n b hb (by omega) hn]
 show ((qau n (cvtI .u64 (W32 (sumV b))) 4).bind fun r8 => bif (Nat.ble (b ++ r8).length 4294967296) then some (b ++ r8) else none) = _
 rw [zbQ (by omega) (by omega), znU n _ (by omega)]
 show (bif (Nat.ble (b ++ le4 (sumV b)).length 4294967296) then some (b ++ le4 (sumV b)) else none) = _
 rw [h2]
 rfl
theorem zhk (n : Nat) (b : List Int) (hb : IsBytes b) (hl : b.length ≤ 4294967000) (hn : b.length + 9 ≤ n) : qaq n b = some (sealV b) := by
 unfold qaq
 have h1 : Nat.ble b.length 4294967296 = true := Nat.ble_eq_true_of_le (by omega)
 have h2 : Nat.ble (b ++ le4 (sumV b)).length 4294967296 = true := Nat.ble_eq_true_of_le (by simp [le4]; omega)
 have hw := zaK (sumV b)
 rw [h1, cond_true, zmD n b hb (by omega) hn]
 show ((qaj n (cvtI .u64 (W32 (sumV b))) 4).bind fun r8 => bif (Nat.ble (b ++ r8).length 4294967296) then some (b ++ r8) else none) = _
 rw [zbQ (by omega) (by omega), zcW n _ (by omega)]
 show (bif (Nat.ble (b ++ le4 (sumV b)).length 4294967296) then some (b ++ le4 (sumV b)) else none) = _
 rw [h2]
 rfl
theorem zmh (n : Nat) (a b : List Int) (hl : a.length = b.length) (hm : a.length ≤ 4294967296) : ∀ (j i m : Nat), i + j = a.length → j < m → loopS (fun s => qan_B0 n s.1 s.2.1 s.2.2) m (a, b, (i : Int)) = some (if a.drop i = b.drop i then Sum.inr () else Sum.inl false)
 | 0, i, m + 1, hi, hmm => by
  have : i = a.length := by omega
  subst this
  have h : qan_B0 n a b (a.length : Int) = some (Sum.inr (Sum.inr ())) := by
   unfold qan_B0
   rw [ze, decide_eq_false (by omega), cond_false]
  rw [zB (s := (a, b, (a.length : Int))) (x := Sum.inr ()) h]
  rw [List.drop_length, hl, List.drop_length, if_pos rfl]
 | j + 1, i, m + 1, hi, hmm => by
  have ha : a[i]? = some a[i] := List.getElem?_eq_getElem (by omega)
  have hb : b[i]? = some b[i] := List.getElem?_eq_getElem (by omega)
  have da : a.drop i = a[i] :: a.drop (i + 1) := List.drop_eq_getElem_cons (by omega)
  have db : b.drop i = b[i] :: b.drop (i + 1) := List.drop_eq_getElem_cons (by omega)
  have h : qan_B0 n a b (i : Int) = if a[i] = b[i] then some (Sum.inl (a, b, ((i + 1 : Nat) : Int))) else some (Sum.inr (Sum.inl false)) := by
   unfold qan_B0
   rw [ze, decide_eq_true (by omega), cond_true, zr, ha, zr, hb]
   show (bif a[i] != b[i] then some (Sum.inr (Sum.inl false)) else some (Sum.inl (a, b, addI .i64 (i : Int) 1))) = _
   rw [zbn (by omega) (by omega)]
   by_cases he : a[i] = b[i]
   ·rw [if_pos he, he, bne_self_eq_false, cond_false]; rfl
   ·rw [if_neg he, bne_iff_ne.2 he, cond_true]
  by_cases he : a[i] = b[i]
  ·rw [if_pos he] at h
   have hiff : (a.drop i = b.drop i) ↔ (a.drop (i + 1) = b.drop (i + 1)) := by rw [da, db, he]; exact ⟨fun h => (List.cons.inj h).2, fun h => by rw [h]⟩
   rw [zah (s := (a, b, (i : Int))) (s' := (a, b, ((i + 1 : Nat) : Int))) h, zmh n a b hl hm j (i + 1) m (by omega) (by omega)]
   simp only [hiff]
  ·rw [if_neg he] at h
   have hne : ¬ (a.drop i = b.drop i) := by rw [da, db]; exact fun h => he (List.cons.inj h).1
   rw [zB (s := (a, b, (i : Int))) (x := Sum.inl false) h, if_neg hne]
 | _, _, 0, _, hmm => by omega
theorem zoA (n : Nat) (a b : List Int) (hm : a.length ≤ 4294967296) (hn : a.length < n) : qan n a b = some (decide (a = b)) := by
 unfold qan
 rw [ze, ze]
 by_cases hl : a.length = b.length
 ·rw [show ((a.length : Int) != (b.length : Int)) = false by rw [hl, bne_self_eq_false], cond_false]
  have h := zmh n a b hl hm a.length 0 n (by omega) hn
  rw [List.drop_zero, List.drop_zero] at h
  show ((loopS (fun s => qan_B0 n s.1 s.2.1 s.2.2) n (a, b, ((0 : Nat) : Int))).bind fun r59 => Sum.rec (fun u60 => some u60) (fun v61 => some true) r59) = _
  rw [h]
  by_cases he : a = b
  ·rw [if_pos he, decide_eq_true he]; rfl
  ·rw [if_neg he, decide_eq_false he]; rfl
 ·rw [show ((a.length : Int) != (b.length : Int)) = true by rw [bne_iff_ne]; omega, cond_true, decide_eq_false (fun h => hl (by rw [h]))]
theorem zmG (n : Nat) (a : List Int) (hm : a.length ≤ 4294967296) (hn : a.length < n) : qan n a a = some true := by rw [zoA n a a hm hn]; simp
def openV (b : List Int) : List Int × Int := if b.length < 4 then ([], 3) else if sealV (b.take (b.length - 4)) = b then (b.take (b.length - 4), 0) else ([], 3)
theorem zgB {b : List Int} (h : IsBytes b) (k : Nat) : IsBytes (b.take k) := fun x hx => h x (List.mem_of_mem_take hx)
theorem sub4 {b : List Int} (hl : b.length ≤ 4294967000) (h : ¬ b.length < 4) : subI .i64 (lenI b) 4 = ((b.length - 4 : Nat) : Int) := by
 rw [ze, zjC (by omega) (by omega)]
 omega
theorem zoD (n : Nat) (b : List Int) (hb : IsBytes b) (hl : b.length ≤ 4294967000) (hn : b.length + 9 ≤ n) : qax n b = some (openV b) := by
 unfold qax openV
 by_cases h : b.length < 4
 ·rw [ze, decide_eq_true (by omega), cond_true, if_pos h]
 ·have hlen : (b.take (b.length - 4)).length = b.length - 4 := by rw [List.length_take]; omega
  rw [sub4 hl h, ze, decide_eq_false (by omega), cond_false, if_neg h, decide_eq_true (by omega), decide_eq_true (by omega), Bool.and_self, cond_true, Int.toNat_natCast]
  rw [zoy n _ (zgB hb _) (by omega) (by omega)]
  show (bif !(eqS (intsBytes (sealV (b.take (b.length - 4)))) (intsBytes b)) then some (([] : List Int), (3 : Int)) else bif Nat.ble (b.take (b.length - 4)).length 4294967296 then some (b.take (b.length - 4), 0) else none) = _
  rw [zor (zfF (zgB hb _)) hb, show Nat.ble (b.take (b.length - 4)).length 4294967296 = true from Nat.ble_eq_true_of_le (by omega)]
  by_cases he : sealV (b.take (b.length - 4)) = b
  ·rw [decide_eq_true he, if_pos he]; rfl
  ·rw [decide_eq_false he, if_neg he]; rfl
theorem zmu (b : List Int) : openV (sealV b) = (b, 0) := by
 unfold openV
 have h : (sealV b).take ((sealV b).length - 4) = b := by rw [zfb]; simp [sealV]
 rw [if_neg (by rw [zfb]; omega), h, if_pos rfl]
end Sx
end
section
/- Readers: what the printed functions come to. -/
set_option linter.unusedVariables false
set_option linter.unusedSimpArgs false
namespace Sx
open Go Go.Ab
def takeV (k : Int) (xs : List Int) (bad : Bool) : List Int × List Int × Bool :=
 if bad = true ∨ k < 0 ∨ k > xs.length then ([], xs, true) else (xs.take k.toNat, xs.drop k.toNat, false)
theorem zdj (n : Nat) (k : Int) (xs : List Int) (bad : Bool) (hx : xs.length ≤ 4294967296) : qv n k xs bad = some (takeV k xs bad) := by
 unfold qv takeV
 simp only [qab, qw, Option.bind_some]
 cases bad with
 | true => rfl
 | false =>
  simp only [cond_false, Bool.false_eq_true, false_or]
  by_cases h1 : k < 0
  ·rw [decide_eq_true h1, if_pos (.inl h1)]; rfl
  ·rw [decide_eq_false h1, cond_false, ze]
   by_cases h2 : k > (xs.length : Int)
   ·rw [decide_eq_true h2, if_pos (.inr h2)]; rfl
   ·rw [decide_eq_false h2, if_neg (by omega), cond_false, decide_eq_true (by omega : (0 : Int) ≤ k), decide_eq_true (by omega : k ≤ ((xs.length : Nat) : Int)), zf (by rw [List.length_take]; omega)]
    simp only [Bool.and_self, cond_true, List.take_length]
theorem zeP (k : Int) (xs : List Int) (bad : Bool) : (takeV k xs bad).2.1.length ≤ xs.length ∧ (takeV k xs bad).1.length ≤ xs.length := by
 unfold takeV
 split
 ·exact ⟨Nat.le_refl _, by simp⟩
 ·exact ⟨by simp, by simp; omega⟩
theorem mul7 : ∀ k : Nat, k ≤ 9 → (decide (0 ≤ mulI .i64 7 (k : Int))) = true ∧ mulI .i64 7 (k : Int) = ((7 * k : Nat) : Int) := by decide
def vstep (v x : Int) (k : Nat) : Int := orI .u64 v (shlI .u64 (cvtI .u64 (andNotI .u8 x 128)) ((7 * k : Nat) : Int))
def varR : List Int → Nat → Int → Int × List Int × Bool
 | [], _, _ => (0, [], true)
 | x :: xs, k, v => if (k = 9 ∧ x > 1) ∨ (k > 0 ∧ x = 0) then (0, xs, true) else if x < 128 then (vstep v x k, xs, false) else varR xs (k + 1) (vstep v x k)
def varV (xs : List Int) (bad : Bool) : Int × List Int × Bool := if bad = true then (0, xs, true) else varR xs 0 0
theorem zki (n : Nat) : ∀ (xs : List Int) (k : Nat) (v : Int) (m : Nat), k ≤ 9 → xs.length ≤ 4294967296 → 10 - k < m → loopS (fun s => qr_B0 n s.1.1 s.1.2 s.2.1 s.2.2) m ((v, (k : Int)), (xs, false)) = some (varR xs k v)
 | [], k, v, m + 1, hk, hx, hm => by
  refine zB ?_
  show qr_B0 n v (k : Int) [] false = _
  unfold qr_B0
  rw [zdj n 1 [] false (by simp), Option.bind_some]
  rfl
 | x :: xs, k, v, m + 1, hk, hx, hm => by
  have ht : takeV 1 (x :: xs) false = ([x], xs, false) := by
   unfold takeV
   rw [if_neg (by simp; omega)]
   rfl
  have hB : qr_B0 n v (k : Int) (x :: xs) false = if (k = 9 ∧ x > 1) ∨ (k > 0 ∧ x = 0) then some (Sum.inr (0, (xs, true))) else if x < 128 then some (Sum.inr (vstep v x k, (xs, false))) else some (Sum.inl ((vstep v x k, ((k + 1 : Nat) : Int)), (xs, false))) := by
   unfold qr_B0
   rw [zdj n 1 (x :: xs) false hx, ht, Option.bind_some]
   simp only [qw, Option.bind_some]
   rw [show getI [x] 0 = some x from rfl, show (lenI [x] == 0) = false from rfl, cond_false, Option.bind_some, (mul7 k hk).1, (mul7 k hk).2, zw (by omega)]
   simp only [cond_true]
   have e9 : ((k : Int) == 9) = decide (k = 9) := by
    by_cases h : k = 9
    ·subst h; rfl
    ·rw [decide_eq_false h, beq_eq_false_iff_ne]; omega
   have e0 : decide ((k : Int) > 0) = decide (k > 0) := by
    by_cases h : k > 0
    ·rw [decide_eq_true h, decide_eq_true (by omega)]
    ·rw [decide_eq_false h, decide_eq_false (by omega)]
   rw [e9, e0]
   unfold vstep
   by_cases h9 : k = 9
   ·subst h9
    by_cases hx1 : x > 1
    ·rw [if_pos (.inl ⟨rfl, hx1⟩), decide_eq_true hx1]; rfl
    ·by_cases hx0 : x = 0
     ·subst hx0; rw [if_pos (.inr ⟨by omega, rfl⟩)]; rfl
     ·rw [if_neg (by omega), decide_eq_false hx1, show (x == 0) = false from beq_eq_false_iff_ne.2 hx0, if_pos (by omega), decide_eq_true (by omega : x < 128)]; rfl
   ·rw [decide_eq_false h9, cond_false]
    by_cases hk0 : k > 0
    ·rw [decide_eq_true hk0, cond_true]
     by_cases hx0 : x = 0
     ·subst hx0; rw [if_pos (.inr ⟨hk0, rfl⟩)]; rfl
     ·rw [if_neg (by omega), show (x == 0) = false from beq_eq_false_iff_ne.2 hx0, cond_false]
      by_cases h128 : x < 128
      ·rw [if_pos h128, decide_eq_true h128]; rfl
      ·rw [if_neg h128, decide_eq_false h128]; rfl
    ·rw [decide_eq_false hk0, cond_false, if_neg (by omega)]
     by_cases h128 : x < 128
     ·rw [if_pos h128, decide_eq_true h128]; rfl
     ·rw [if_neg h128, decide_eq_false h128]; rfl
  unfold varR
  by_cases hc : (k = 9 ∧ x > 1) ∨ (k > 0 ∧ x = 0)
  ·rw [if_pos hc] at hB ⊢
   exact zB hB
  ·rw [if_neg hc] at hB ⊢
   by_cases h128 : x < 128
   ·rw [if_pos h128] at hB ⊢
    exact zB hB
   ·rw [if_neg h128] at hB ⊢
    have hk9 : k ≠ 9 := by intro h; apply hc; left; exact ⟨h, by omega⟩
    rw [zah (s := ((v, (k : Int)), (x :: xs, false))) hB]
    exact zki n xs (k + 1) (vstep v x k) m (by omega) (by simp at hx; omega) (by omega)
 | _, _, _, 0, _, _, hm => by omega
theorem zld (n : Nat) (xs : List Int) (bad : Bool) (hx : xs.length ≤ 4294967296) (hn : 20 ≤ n) : qr n xs bad = some (varV xs bad) := by
 unfold qr varV
 cases bad with
 | true =>
  have hB : qr_B0 n 0 0 xs true = some (Sum.inr (0, (xs, true))) := by
   unfold qr_B0
   rw [zdj n 1 xs true hx, Option.bind_some]
   rfl
  have : qr_W0 n ((0, 0), (xs, true)) = some (0, (xs, true)) := by
   obtain ⟨m, rfl⟩ : ∃ m, n = m + 1 := ⟨n - 1, by omega⟩
   exact zB hB
  rw [this]; rfl
 | false =>
  have : qr_W0 n ((0, 0), (xs, false)) = some (varR xs 0 0) := zki n xs 0 0 n (by omega) hx (by omega)
  rw [this]; rfl
theorem znf (a b : Int) : 0 ≤ orI .u64 a b ∧ orI .u64 a b ≤ 18446744073709551615 := by
 have h : ∀ n, IntKind.u64.wrap n = n % 18446744073709551616 := fun n => by simp [IntKind.wrap, IntKind.bits, IntKind.signed]
 unfold orI
 rw [h]
 omega
theorem zhJ : ∀ (xs : List Int) (k : Nat) (v : Int), (varR xs k v).2.1.length ≤ xs.length
 | [], k, v => Nat.le_refl _
 | x :: xs, k, v => by
  unfold varR
  split
  ·simp
  ·split
   ·simp
   ·have := zhJ xs (k + 1) (vstep v x k)
    simp; omega
theorem zho : ∀ (xs : List Int) (k : Nat) (v : Int), 0 ≤ (varR xs k v).1 ∧ (varR xs k v).1 ≤ 18446744073709551615
 | [], k, v => by simp [varR]
 | x :: xs, k, v => by
  unfold varR
  split
  ·simp
  ·split
   ·exact znf _ _
   ·exact zho xs (k + 1) (vstep v x k)
theorem zez (xs : List Int) (bad : Bool) : (varV xs bad).2.1.length ≤ xs.length := by
 unfold varV
 split
 ·exact Nat.le_refl _
 ·exact zhJ xs 0 0
theorem zgP (xs : List Int) (bad : Bool) : 0 ≤ (varV xs bad).1 ∧ (varV xs bad).1 ≤ 18446744073709551615 := by
 unfold varV
 split
 ·simp
 ·exact zho xs 0 0
end Sx
end
section
/- The image's readers: numbers, rows, frames, objects, handles. -/
set_option linter.unusedVariables false
set_option linter.unusedSimpArgs false
namespace Sx
open Go Go.Ab
abbrev Rd (A : Type) := Bool → List Int → Bool → A × Bool × List Int × Bool
structure RdOk {A : Type} (f : Rd A) : Prop where
 le : ∀ bad xs b, (f bad xs b).2.2.1.length ≤ xs.length
 st : ∀ bad xs, (f bad xs true).2.2.2 = true
def Eats {A : Type} (f : Rd A) : Prop := ∀ bad xs b, (f bad xs b).2.2.1.length < xs.length ∨ (f bad xs b).2.2.2 = true
theorem zmq : ∀ (xs : List Int) (k : Nat) (v : Int), (varR xs k v).2.1.length < xs.length ∨ (varR xs k v).2.2 = true
 | [], k, v => .inr rfl
 | x :: xs, k, v => by
  unfold varR
  split
  ·exact .inr rfl
  ·split
   ·exact .inl (by simp)
   ·exact .inl (by have := zhJ xs (k + 1) (vstep v x k); simp; omega)
def numV : Rd Int := fun bad xs b => ((varV xs b).1, bad, (varV xs b).2)
theorem zjr : RdOk numV := ⟨fun bad xs b => zez xs b, fun bad xs => by simp [numV, varV]⟩
theorem ziC : Eats numV := fun bad xs b => by
 unfold numV varV
 cases b with
 | true => exact .inr rfl
 | false => exact zmq xs 0 0
def intV : Rd Int := fun bad xs b => if (varV xs b).1 > 2147483647 then (0, true, (varV xs b).2) else ((varV xs b).1, bad, (varV xs b).2)
theorem zeI (bad : Bool) (xs : List Int) (b : Bool) : (intV bad xs b).2.2 = (varV xs b).2 := by unfold intV; split <;> rfl
theorem zQ : RdOk intV := ⟨fun bad xs b => by rw [zeI]; exact zez xs b, fun bad xs => by rw [zeI]; simp [varV]⟩
theorem zfi : Eats intV := fun bad xs b => by rw [zeI]; exact ziC bad xs b
theorem zlH (bad : Bool) (xs : List Int) (b : Bool) : 0 ≤ (intV bad xs b).1 ∧ (intV bad xs b).1 ≤ 2147483647 := by
 have := zgP xs b
 unfold intV
 split
 ·simp
 ·exact ⟨this.1, by simp only; omega⟩
theorem zhb (n : Nat) (bad : Bool) (xs : List Int) (b : Bool) (hx : xs.length ≤ 4294967296) (hn : 20 ≤ n) : qf n bad xs b = some ((intV bad xs b).1, ((intV bad xs b).2.1, (intV bad xs b).2.2)) := by
 have hr := zgP xs b
 unfold qf intV
 rw [zld n xs b hx hn, Option.bind_some]
 by_cases h : (varV xs b).1 > 2147483647
 ·rw [decide_eq_true h, if_pos h]; rfl
 ·rw [decide_eq_false h, if_neg h, cond_false, zoa (by omega) (by omega)]
theorem zaD (n : Nat) (bad : Bool) (xs : List Int) (b : Bool) : qc n bad xs b = some (bad || b, (bad, (xs, b))) := by
 cases bad <;> rfl
def wlist {A : Type} (one : Rd A) : Nat → List A → Rd (List A)
 | 0, acc, bad, xs, b => (acc, bad, xs, b)
 | j + 1, acc, bad, xs, b => if bad = true ∨ b = true then (acc, bad, xs, b) else wlist one j (acc ++ [(one bad xs b).1]) (one bad xs b).2.1 (one bad xs b).2.2.1 (one bad xs b).2.2.2
theorem zfE {A : Type} (one : Rd A) (j : Nat) (acc : List A) (bad : Bool) (xs : List Int) (b : Bool) (h : bad = true ∨ b = true) : wlist one j acc bad xs b = (acc, bad, xs, b) := by
 cases j with
 | zero => rfl
 | succ j => unfold wlist; rw [if_pos h]
theorem zhC {A : Type} {one : Rd A} (h : RdOk one) : ∀ (j : Nat) (acc : List A), RdOk (wlist one j acc)
 | 0, acc => ⟨fun bad xs b => Nat.le_refl _, fun bad xs => rfl⟩
 | j + 1, acc => ⟨fun bad xs b => by
   unfold wlist
   split
   ·exact Nat.le_refl _
   ·exact Nat.le_trans ((zhC h j _).le _ _ _) (h.le _ _ _), fun bad xs => by rw [zfE one (j + 1) acc bad xs true (.inr rfl)]⟩
theorem wloop {A S X : Type} {B : S → Option (S ⊕ X)} {mk : Nat → List A → Bool → List Int → Bool → S} {fin : List A × Bool × List Int × Bool → X} {one : Rd A} {M : Nat} (h1 : RdOk one) (h2 : Eats one)
  (hB : ∀ j acc bad xs b, j ≤ 2147483647 → acc.length + xs.length ≤ M → B (mk (j + 1) acc bad xs b) = if bad = true ∨ b = true then some (.inr (fin (acc, bad, xs, b))) else some (.inl (mk j (acc ++ [(one bad xs b).1]) (one bad xs b).2.1 (one bad xs b).2.2.1 (one bad xs b).2.2.2)))
  (hW : ∀ j acc bad xs b, j ≤ 2147483647 → (bad = true ∨ b = true) → B (mk (j + 1) acc bad xs b) = some (.inr (fin (acc, bad, xs, b))))
  (he : ∀ acc bad xs b, B (mk 0 acc bad xs b) = some (.inr (fin (acc, bad, xs, b)))) : ∀ (n j : Nat) (acc : List A) (bad : Bool) (xs : List Int) (b : Bool), j ≤ 2147483647 → (if bad = true ∨ b = true then 0 else xs.length + 1) < n → ((bad = true ∨ b = true) ∨ acc.length + xs.length ≤ M) →
  loopS B n (mk j acc bad xs b) = some (fin (wlist one j acc bad xs b))
 | 0, _, _, _, _, _, _, hn, _ => by omega
 | n + 1, 0, acc, bad, xs, b, hj, hn, hm => zB (he acc bad xs b)
 | n + 1, j + 1, acc, bad, xs, b, hj, hn, hm => by
  by_cases h : bad = true ∨ b = true
  ·rw [zfE one (j + 1) acc bad xs b h]
   exact zB (hW j acc bad xs b (by omega) h)
  ·have hm' := hm.resolve_left h
   have hb := hB j acc bad xs b (by omega) hm'
   rw [if_neg h] at hb hn
   unfold wlist
   rw [if_neg h, zah hb]
   have hle := h1.le bad xs b
   have hea := h2 bad xs b
   refine wloop h1 h2 hB hW he n j _ _ _ _ (by omega) ?_ ?_
   ·split
    ·omega
    ·rename_i h3
     rcases hea with h4 | h4
     ·omega
     ·exact absurd (.inr h4) h3
   ·rcases hea with h4 | h4
    ·exact .inr (by simp; omega)
    ·exact .inl (.inr h4)
def rowW {A : Type} (one : Rd A) : Rd (List A) := fun bad xs b => wlist one (intV bad xs b).1.toNat [] (intV bad xs b).2.1 (intV bad xs b).2.2.1 (intV bad xs b).2.2.2
theorem zjl {A : Type} {one : Rd A} (h : RdOk one) : RdOk (rowW one) := ⟨fun bad xs b => Nat.le_trans ((zhC h _ _).le _ _ _) (zQ.le bad xs b), fun bad xs => by
 unfold rowW
 rw [zQ.st bad xs]
 exact (zhC h _ _).st _ _⟩
theorem zeF {A X : Type} {B : (Int × Bool × (List Int × Bool) × List A) → Option ((Int × Bool × (List Int × Bool) × List A) ⊕ X)} {fin : List A × Bool × List Int × Bool → X} {one : Rd A} (h1 : RdOk one) (h2 : Eats one)
  (hP : ∀ (k : Int) acc xs, xs.length ≤ 1000000 → k > 0 → B (k, (false, ((xs, false), acc))) = bif Nat.ble (acc ++ [(one false xs false).1]).length 4294967296 then some (.inl (subI .i64 k 1, ((one false xs false).2.1, (((one false xs false).2.2.1, (one false xs false).2.2.2), acc ++ [(one false xs false).1])))) else none)
  (hW : ∀ (k : Int) acc bad xs b, k > 0 → (bad || b) = true → B (k, (bad, ((xs, b), acc))) = some (.inr (fin (acc, bad, xs, b))))
  (hE : ∀ acc bad xs b, B (0, (bad, ((xs, b), acc))) = some (.inr (fin (acc, bad, xs, b))))
  (n : Nat) (bad : Bool) (xs : List Int) (b : Bool) (hx : xs.length ≤ 1000000) (hn : 1000002 ≤ n) :
  loopS B n ((intV bad xs b).1, ((intV bad xs b).2.1, (((intV bad xs b).2.2.1, (intV bad xs b).2.2.2), []))) = some (fin (rowW one bad xs b)) := by
 have hr := zlH bad xs b
 have hl := zQ.le bad xs b
 have hw : ∀ (j : Nat) acc bad xs b, j ≤ 2147483647 → (bad = true ∨ b = true) → B (((j + 1 : Nat) : Int), (bad, ((xs, b), acc))) = some (.inr (fin (acc, bad, xs, b))) := fun j acc bad xs b hj h =>
  hW _ acc bad xs b (by omega) (by rcases h with rfl | rfl <;> simp)
 have h := wloop (B := B) (mk := fun (j : Nat) acc bad xs b => ((j : Int), (bad, ((xs, b), acc)))) (fin := fin) (one := one) (M := 1000000) h1 h2 (fun j acc bad xs b hj hm => ?_) hw (fun acc bad xs b => hE acc bad xs b) n (intV bad xs b).1.toNat [] (intV bad xs b).2.1 (intV bad xs b).2.2.1 (intV bad xs b).2.2.2 (by omega) (by split <;> omega) (.inr (by simp; omega))
 ·rw [show (((intV bad xs b).1.toNat : Nat) : Int) = (intV bad xs b).1 by omega] at h
  exact h
 ·by_cases hb : bad = true ∨ b = true
  ·rw [if_pos hb]; exact hw j acc bad xs b hj hb
  ·rw [if_neg hb]
   obtain ⟨rfl, rfl⟩ : bad = false ∧ b = false := by cases bad <;> cases b <;> simp_all
   rw [hP _ acc xs (by omega) (by omega), zf (by simp; omega), cond_true, zjC (by omega) (by omega), show ((j + 1 : Nat) : Int) - 1 = (j : Int) by omega]
end Sx
end
section
/- The image's readers, put together; what is read of an image. -/
set_option linter.unusedVariables false
set_option linter.unusedSimpArgs false
namespace Sx
open Go Go.Ab
abbrev FrD := Int × Int × List Int × List Int
abbrev HaD := Int × Int × Bool
def thenR {A B : Type} (f : Rd A) (g : A → Rd B) : Rd B := fun bad xs b => g (f bad xs b).1 (f bad xs b).2.1 (f bad xs b).2.2.1 (f bad xs b).2.2.2
def retR {A : Type} (a : A) : Rd A := fun bad xs b => (a, bad, xs, b)
theorem zlZ {A : Type} (a : A) : RdOk (retR a) := ⟨fun _ _ _ => Nat.le_refl _, fun _ _ => rfl⟩
theorem zZ {A B : Type} {f : Rd A} {g : A → Rd B} (hf : RdOk f) (hg : ∀ a, RdOk (g a)) : RdOk (thenR f g) := ⟨fun bad xs b => Nat.le_trans ((hg _).le _ _ _) (hf.le _ _ _), fun bad xs => by
 unfold thenR
 rw [hf.st bad xs]
 exact (hg _).st _ _⟩
theorem zdH {A B : Type} {f : Rd A} {g : A → Rd B} (hf : Eats f) (hg : ∀ a, RdOk (g a)) : Eats (thenR f g) := fun bad xs b => by
 rcases hf bad xs b with h | h
 ·exact .inl (Nat.lt_of_le_of_lt ((hg _).le _ _ _) h)
 ·exact .inr (by unfold thenR; rw [h]; exact (hg _).st _ _)
def takeR (k : Int) : Rd (List Int) := fun bad xs b => ((takeV k xs b).1, bad, (takeV k xs b).2)
theorem znE (k : Int) : RdOk (takeR k) := ⟨fun bad xs b => (zeP k xs b).1, fun bad xs => by simp [takeR, takeV]⟩
def frameR : Rd FrD := thenR intV fun a => thenR intV fun c => thenR (rowW numV) fun l => thenR (rowW numV) fun k => retR (a, c, l, k)
def objR : Rd FrD := thenR intV fun a => thenR intV fun c => thenR (rowW numV) fun l => thenR intV fun k => thenR (takeR k) fun t => retR (a, c, l, t)
def endR (a d o : Int) : Rd HaD := fun bad xs b => ((a, d, o == 1), bad || decide (o > 1), xs, b)
theorem zoG (a d o : Int) : RdOk (endR a d o) := ⟨fun _ _ _ => Nat.le_refl _, fun _ _ => rfl⟩
def hanR : Rd HaD := thenR intV fun a => thenR numV fun d => thenR intV fun o => endR a d o
theorem zeA : RdOk (rowW numV) := zjl zjr
theorem zgU (a : Int) : RdOk (thenR intV fun c => thenR (rowW numV) fun l => thenR (rowW numV) fun k => retR ((a, c, l, k) : FrD)) := zZ zQ fun _ => zZ zeA fun _ => zZ zeA fun _ => zlZ _
theorem ziD : RdOk frameR := zZ zQ zgU
theorem zkw : Eats frameR := zdH zfi zgU
theorem zkD (a : Int) : RdOk (thenR intV fun c => thenR (rowW numV) fun l => thenR intV fun k => thenR (takeR k) fun t => retR ((a, c, l, t) : FrD)) := zZ zQ fun _ => zZ zeA fun _ => zZ zQ fun _ => zZ (znE _) fun _ => zlZ _
theorem zmb : RdOk objR := zZ zQ zkD
theorem zmt : Eats objR := zdH zfi zkD
theorem zjY (a : Int) : RdOk (thenR numV fun d => thenR intV fun o => endR a d o) := zZ zjr fun _ => zZ zQ fun _ => zoG _ _ _
theorem zoz : RdOk hanR := zZ zQ zjY
theorem zmR : Eats hanR := zdH zfi zjY
abbrev out {A : Type} (q : A × Bool × List Int × Bool) : Option (A × Bool × List Int × Bool) := some (q.1, (q.2.1, (q.2.2.1, q.2.2.2)))
theorem zgn (n : Nat) (bad : Bool) (xs : List Int) (b : Bool) (hx : xs.length ≤ 1000000) (hn : 1000002 ≤ n) : qi n bad xs b = some (rowW numV bad xs b) := by
 unfold qi
 rw [zhb n bad xs b (by omega) (by omega), Option.bind_some]
 have h := zeF (B := fun s => qi_B0 n s.1 s.2.1 s.2.2.1.1 s.2.2.1.2 s.2.2.2) (fin := fun q => (q.2.1, ((q.2.2.1, q.2.2.2), q.1))) zjr ziC (fun k acc xs hx hk => by
   show qi_B0 n k false xs false acc = _
   unfold qi_B0
   rw [decide_eq_true hk, cond_true, zaD, Option.bind_some]
   simp only [Bool.or_self, Bool.not_false, cond_true]
   rw [zld n xs false (by omega) (by omega), Option.bind_some]
   rfl) (fun k acc bad xs b hk hw => by
   show qi_B0 n k bad xs b acc = _
   unfold qi_B0
   rw [decide_eq_true hk, cond_true, zaD, Option.bind_some, hw]
   rfl) (fun acc bad xs b => rfl) n bad xs b hx hn
 have h' : qi_W0 n ((intV bad xs b).1, ((intV bad xs b).2.1, (((intV bad xs b).2.2.1, (intV bad xs b).2.2.2), []))) = _ := h
 show ((qi_W0 n ((intV bad xs b).1, ((intV bad xs b).2.1, (((intV bad xs b).2.2.1, (intV bad xs b).2.2.2), [])))).bind _) = _
 rw [h', Option.bind_some]
theorem zaS (n : Nat) (bad : Bool) (xs : List Int) (b : Bool) (hx : xs.length ≤ 1000000) (hn : 1000002 ≤ n) : qf n bad xs b = some (intV bad xs b) := zhb n bad xs b (by omega) (by omega)
theorem zmg (n : Nat) (xs : List Int) (b : Bool) (hx : xs.length ≤ 1000000) (hn : 1000002 ≤ n) : qr n xs b = some (varV xs b) := zld n xs b (by omega) (by omega)
theorem znO (n : Nat) (bad : Bool) (xs : List Int) (b : Bool) (hx : xs.length ≤ 1000000) (hn : 1000002 ≤ n) : qe n bad xs b = some (frameR bad xs b) := by
 unfold qe
 have l1 := zQ.le bad xs b
 have l2 := zQ.le (intV bad xs b).2.1 (intV bad xs b).2.2.1 (intV bad xs b).2.2.2
 rw [zaS n bad xs b hx hn, Option.bind_some, zaS n _ _ _ (by omega) hn, Option.bind_some, zgn n _ _ _ (by omega) hn, Option.bind_some]
 have l3 := zeA.le (intV (intV bad xs b).2.1 (intV bad xs b).2.2.1 (intV bad xs b).2.2.2).2.1 (intV (intV bad xs b).2.1 (intV bad xs b).2.2.1 (intV bad xs b).2.2.2).2.2.1 (intV (intV bad xs b).2.1 (intV bad xs b).2.2.1 (intV bad xs b).2.2.2).2.2.2
 rw [zgn n _ _ _ (by omega) hn, Option.bind_some]
 rfl
theorem zpk (n : Nat) (bad : Bool) (xs : List Int) (b : Bool) (hx : xs.length ≤ 1000000) (hn : 1000002 ≤ n) : qs n bad xs b = some (objR bad xs b) := by
 unfold qs
 have l1 := zQ.le bad xs b
 have l2 := zQ.le (intV bad xs b).2.1 (intV bad xs b).2.2.1 (intV bad xs b).2.2.2
 rw [zaS n bad xs b hx hn, Option.bind_some, zaS n _ _ _ (by omega) hn, Option.bind_some, zgn n _ _ _ (by omega) hn, Option.bind_some]
 have l3 := zeA.le (intV (intV bad xs b).2.1 (intV bad xs b).2.2.1 (intV bad xs b).2.2.2).2.1 (intV (intV bad xs b).2.1 (intV bad xs b).2.2.1 (intV bad xs b).2.2.2).2.2.1 (intV (intV bad xs b).2.1 (intV bad xs b).2.2.1 (intV bad xs b).2.2.2).2.2.2
 rw [zaS n _ _ _ (by omega) hn, Option.bind_some]
 have l4 := zQ.le (rowW numV (intV (intV bad xs b).2.1 (intV bad xs b).2.2.1 (intV bad xs b).2.2.2).2.1 (intV (intV bad xs b).2.1 (intV bad xs b).2.2.1 (intV bad xs b).2.2.2).2.2.1 (intV (intV bad xs b).2.1 (intV bad xs b).2.2.1 (intV bad xs b).2.2.2).2.2.2).2.1
  (rowW numV (intV (intV bad xs b).2.1 (intV bad xs b).2.2.1 (intV bad xs b).2.2.2).2.1 (intV (intV bad xs b).2.1 (intV bad xs b).2.2.1 (intV bad xs b).2.2.2).2.2.1 (intV (intV bad xs b).2.1 (intV bad xs b).2.2.1 (intV bad xs b).2.2.2).2.2.2).2.2.1
  (rowW numV (intV (intV bad xs b).2.1 (intV bad xs b).2.2.1 (intV bad xs b).2.2.2).2.1 (intV (intV bad xs b).2.1 (intV bad xs b).2.2.1 (intV bad xs b).2.2.2).2.2.1 (intV (intV bad xs b).2.1 (intV bad xs b).2.2.1 (intV bad xs b).2.2.2).2.2.2).2.2.2
 rw [zdj n _ _ _ (by omega), Option.bind_some]
 rfl
theorem zpj (n : Nat) (bad : Bool) (xs : List Int) (b : Bool) (hx : xs.length ≤ 1000000) (hn : 1000002 ≤ n) : qq n bad xs b = some (hanR bad xs b) := by
 unfold qq
 have l1 := zQ.le bad xs b
 have l2 := zez (intV bad xs b).2.2.1 (intV bad xs b).2.2.2
 rw [zaS n bad xs b hx hn, Option.bind_some, zmg n _ _ (by omega) hn, Option.bind_some, zaS n _ _ _ (by omega) hn, Option.bind_some]
 show _ = some (endR (intV bad xs b).1 (varV (intV bad xs b).2.2.1 (intV bad xs b).2.2.2).1 (intV (intV bad xs b).2.1 (varV (intV bad xs b).2.2.1 (intV bad xs b).2.2.2).2.1 (varV (intV bad xs b).2.2.1 (intV bad xs b).2.2.2).2.2).1
  (intV (intV bad xs b).2.1 (varV (intV bad xs b).2.2.1 (intV bad xs b).2.2.2).2.1 (varV (intV bad xs b).2.2.1 (intV bad xs b).2.2.2).2.2).2.1 (intV (intV bad xs b).2.1 (varV (intV bad xs b).2.2.1 (intV bad xs b).2.2.2).2.1 (varV (intV bad xs b).2.2.1 (intV bad xs b).2.2.2).2.2).2.2.1
  (intV (intV bad xs b).2.1 (varV (intV bad xs b).2.2.1 (intV bad xs b).2.2.2).2.1 (varV (intV bad xs b).2.2.1 (intV bad xs b).2.2.2).2.2).2.2.2)
 generalize intV (intV bad xs b).2.1 (varV (intV bad xs b).2.2.1 (intV bad xs b).2.2.2).2.1 (varV (intV bad xs b).2.2.1 (intV bad xs b).2.2.2).2.2 = q
 unfold endR
 cases q.2.1 <;> rfl
theorem zoj (n : Nat) (bad : Bool) (xs : List Int) (b : Bool) (hx : xs.length ≤ 1000000) (hn : 1000002 ≤ n) : qb n bad xs b = some (rowW frameR bad xs b) := by
 unfold qb
 rw [zhb n bad xs b (by omega) (by omega), Option.bind_some]
 have h := zeF (B := fun s => qb_B0 n s.1 s.2.1 s.2.2.1.1 s.2.2.1.2 s.2.2.2) (fin := fun q => (q.2.1, ((q.2.2.1, q.2.2.2), q.1))) ziD zkw (fun k acc xs hx hk => by
   show qb_B0 n k false xs false acc = _
   unfold qb_B0
   rw [decide_eq_true hk, cond_true, zaD, Option.bind_some]
   simp only [Bool.or_self, Bool.not_false, cond_true]
   rw [znO n false xs false hx hn, Option.bind_some]) (fun k acc bad xs b hk hw => by
   show qb_B0 n k bad xs b acc = _
   unfold qb_B0
   rw [decide_eq_true hk, cond_true, zaD, Option.bind_some, hw]
   rfl) (fun acc bad xs b => rfl) n bad xs b hx hn
 have h' : qb_W0 n ((intV bad xs b).1, ((intV bad xs b).2.1, (((intV bad xs b).2.2.1, (intV bad xs b).2.2.2), []))) = _ := h
 show ((qb_W0 n ((intV bad xs b).1, ((intV bad xs b).2.1, (((intV bad xs b).2.2.1, (intV bad xs b).2.2.2), [])))).bind _) = _
 rw [h', Option.bind_some]
theorem zod (n : Nat) (bad : Bool) (xs : List Int) (b : Bool) (hx : xs.length ≤ 1000000) (hn : 1000002 ≤ n) : qh n bad xs b = some (rowW objR bad xs b) := by
 unfold qh
 rw [zhb n bad xs b (by omega) (by omega), Option.bind_some]
 have h := zeF (B := fun s => qh_B0 n s.1 s.2.1 s.2.2.1.1 s.2.2.1.2 s.2.2.2) (fin := fun q => (q.2.1, ((q.2.2.1, q.2.2.2), q.1))) zmb zmt (fun k acc xs hx hk => by
   show qh_B0 n k false xs false acc = _
   unfold qh_B0
   rw [decide_eq_true hk, cond_true, zaD, Option.bind_some]
   simp only [Bool.or_self, Bool.not_false, cond_true]
   rw [zpk n false xs false hx hn, Option.bind_some]) (fun k acc bad xs b hk hw => by
   show qh_B0 n k bad xs b acc = _
   unfold qh_B0
   rw [decide_eq_true hk, cond_true, zaD, Option.bind_some, hw]
   rfl) (fun acc bad xs b => rfl) n bad xs b hx hn
 have h' : qh_W0 n ((intV bad xs b).1, ((intV bad xs b).2.1, (((intV bad xs b).2.2.1, (intV bad xs b).2.2.2), []))) = _ := h
 show ((qh_W0 n ((intV bad xs b).1, ((intV bad xs b).2.1, (((intV bad xs b).2.2.1, (intV bad xs b).2.2.2), [])))).bind _) = _
 rw [h', Option.bind_some]
theorem zny (n : Nat) (bad : Bool) (xs : List Int) (b : Bool) (hx : xs.length ≤ 1000000) (hn : 1000002 ≤ n) : qa n bad xs b = some (rowW hanR bad xs b) := by
 unfold qa
 rw [zhb n bad xs b (by omega) (by omega), Option.bind_some]
 have h := zeF (B := fun s => qa_B0 n s.1 s.2.1 s.2.2.1.1 s.2.2.1.2 s.2.2.2) (fin := fun q => (q.2.1, ((q.2.2.1, q.2.2.2), q.1))) zoz zmR (fun k acc xs hx hk => by
   show qa_B0 n k false xs false acc = _
   unfold qa_B0
   rw [decide_eq_true hk, cond_true, zaD, Option.bind_some]
   simp only [Bool.or_self, Bool.not_false, cond_true]
   rw [zpj n false xs false hx hn, Option.bind_some]) (fun k acc bad xs b hk hw => by
   show qa_B0 n k bad xs b acc = _
   unfold qa_B0
   rw [decide_eq_true hk, cond_true, zaD, Option.bind_some, hw]
   rfl) (fun acc bad xs b => rfl) n bad xs b hx hn
 have h' : qa_W0 n ((intV bad xs b).1, ((intV bad xs b).2.1, (((intV bad xs b).2.2.1, (intV bad xs b).2.2.2), []))) = _ := h
 show ((qa_W0 n ((intV bad xs b).1, ((intV bad xs b).2.1, (((intV bad xs b).2.2.1, (intV bad xs b).2.2.2), [])))).bind _) = _
 rw [h', Option.bind_some]
abbrev StD := List FrD × List FrD × List HaD × Int × Int × Int × Int
def emptySt : StD := ([], [], [], 0, 0, 0, 0)
def stR : Rd StD := thenR intV fun e => thenR intV fun q => thenR intV fun u => thenR numV fun v => thenR (rowW frameR) fun f => thenR (rowW objR) fun o => thenR (rowW hanR) fun h => retR (f, o, h, q, u, e, v)
noncomputable def bodyV (xs : List Int) : StD × Int × Int :=
 if (fixV (takeV 1 xs false).1 ≠ 2) ∨ (takeV 1 xs false).2.2 = true then (emptySt, 0, 2)
 else if (takeV 4 (takeV 1 xs false).2.1 false).2.2 = true then (emptySt, 0, 2)
 else if (stR false (takeV 4 (takeV 1 xs false).2.1 false).2.1 false).2.1 = true ∨ (stR false (takeV 4 (takeV 1 xs false).2.1 false).2.1 false).2.2.2 = true ∨ (stR false (takeV 4 (takeV 1 xs false).2.1 false).2.1 false).2.2.1.length > 0 then (emptySt, 0, 2)
 else ((stR false (takeV 4 (takeV 1 xs false).2.1 false).2.1 false).1, cvtI .u32 (fixV (takeV 4 (takeV 1 xs false).2.1 false).1), 0)
noncomputable def decV (b : List Int) : StD × Int × Int := if b.length > 65536 then (emptySt, 0, 2) else if (openV b).2 ≠ 0 then (emptySt, 0, (openV b).2) else bodyV (openV b).1
end Sx
end
section
/- What image.Decode answers. -/
set_option linter.unusedVariables false
set_option linter.unusedSimpArgs false
namespace Sx
open Go Go.Ab
theorem zna (n : Nat) (xs : List Int) (b : Bool) (hx : xs.length ≤ 1000000) : qm n 1 xs b = some (fixV (takeV 1 xs b).1, (takeV 1 xs b).2) := by
 unfold qm
 rw [show minI (maxI 1 0) 8 = 1 from by decide, zdj n 1 xs b (by omega), Option.bind_some]
theorem zmT (n : Nat) (xs : List Int) (b : Bool) (hx : xs.length ≤ 1000000) : qm n 4 xs b = some (fixV (takeV 4 xs b).1, (takeV 4 xs b).2) := by
 unfold qm
 rw [show minI (maxI 4 0) 8 = 4 from by decide, zdj n 4 xs b (by omega), Option.bind_some]
theorem zms (b : List Int) : (openV b).1.length ≤ b.length := by
 unfold openV
 split
 ·simp
 ·split
  ·simp
  ·simp
theorem zpm (n : Nat) (xs : List Int) (hx : xs.length ≤ 1000000) (hn : 1000002 ≤ n) {R : Type} (k : StD × Bool × List Int × Bool → Option R) :
  ((qf n Bool.false xs false).bind fun r244 => (qf n r244.2.1 r244.2.2.1 r244.2.2.2).bind fun r245 => (qf n r245.2.1 r245.2.2.1 r245.2.2.2).bind fun r246 => (qr n r246.2.2.1 r246.2.2.2).bind fun r247 =>
   (qb n r246.2.1 r247.2.1 r247.2.2).bind fun r248 => (qh n r248.2.1 r248.2.2.1 r248.2.2.2).bind fun r249 => (qa n r249.2.1 r249.2.2.1 r249.2.2.2).bind fun r250 =>
   k ((r248.1, r249.1, r250.1, r245.1, r246.1, r244.1, r247.1), r250.2.1, r250.2.2.1, r250.2.2.2)) = k (stR false xs false) := by
 have hq : ∀ bad ys b, ys.length ≤ 1000000 → (intV bad ys b).2.2.1.length ≤ 1000000 := fun bad ys b h => Nat.le_trans (zQ.le bad ys b) h
 rw [zaS n _ _ _ hx hn, Option.bind_some]
 have h1 := hq false xs false hx
 generalize hq1 : intV false xs false = q1 at h1 ⊢
 rw [zaS n _ _ _ h1 hn, Option.bind_some]
 have h2 := hq q1.2.1 q1.2.2.1 q1.2.2.2 h1
 generalize hq2 : intV q1.2.1 q1.2.2.1 q1.2.2.2 = q2 at h2 ⊢
 rw [zaS n _ _ _ h2 hn, Option.bind_some]
 have h3 := hq q2.2.1 q2.2.2.1 q2.2.2.2 h2
 generalize hq3 : intV q2.2.1 q2.2.2.1 q2.2.2.2 = q3 at h3 ⊢
 rw [zmg n _ _ h3 hn, Option.bind_some]
 have h4 : (varV q3.2.2.1 q3.2.2.2).2.1.length ≤ 1000000 := Nat.le_trans (zez _ _) h3
 generalize hq4 : varV q3.2.2.1 q3.2.2.2 = q4 at h4 ⊢
 rw [zoj n _ _ _ h4 hn, Option.bind_some]
 have h5 := Nat.le_trans ((zjl ziD).le q3.2.1 q4.2.1 q4.2.2) h4
 generalize hq5 : rowW frameR q3.2.1 q4.2.1 q4.2.2 = q5 at h5 ⊢
 rw [zod n _ _ _ h5 hn, Option.bind_some]
 have h6 := Nat.le_trans ((zjl zmb).le q5.2.1 q5.2.2.1 q5.2.2.2) h5
 generalize hq6 : rowW objR q5.2.1 q5.2.2.1 q5.2.2.2 = q6 at h6 ⊢
 rw [zny n _ _ _ h6 hn, Option.bind_some]
 have : stR false xs false = (((q5.1, q6.1, (rowW hanR q6.2.1 q6.2.2.1 q6.2.2.2).1, q2.1, q3.1, q1.1, q4.1) : StD), (rowW hanR q6.2.1 q6.2.2.1 q6.2.2.2).2.1, (rowW hanR q6.2.1 q6.2.2.1 q6.2.2.2).2.2.1, (rowW hanR q6.2.1 q6.2.2.1 q6.2.2.2).2.2.2) := by
  unfold stR thenR
  simp only [hq1, hq2, hq3, show ∀ bad ys b, numV bad ys b = ((varV ys b).1, bad, (varV ys b).2) from fun _ _ _ => rfl, hq4, hq5, hq6]
  rfl
 rw [this]
theorem zmP (n : Nat) (b : List Int) (hb : IsBytes b) (hn : 2000000 ≤ n) (hl : b.length ≤ 4294967000) : qag n b = some (decV b) := by
 unfold qag qae decV
 rw [ze]
 by_cases h1 : b.length > 65536
 ·rw [decide_eq_true (by omega), if_pos h1]; rfl
 ·rw [decide_eq_false (by omega), cond_false, if_neg h1, zoD n b hb (by omega) (by omega), Option.bind_some]
  by_cases h2 : (openV b).2 = 0
  ·rw [if_neg (fun h => h h2), show ((openV b).2 != 0) = false from by rw [h2]; rfl, cond_false]
   have hol := zms b
   generalize (openV b).1 = xs at hol
   unfold qx bodyV
   rw [zf (by omega), cond_true, Option.bind_some]
   simp only
   rw [zna n xs false (by omega), Option.bind_some]
   simp only
   rw [show cvtI .u64 2 = 2 from by decide]
   by_cases h3 : fixV (takeV 1 xs false).1 ≠ 2
   ·rw [if_pos (.inl h3), bne_iff_ne.2 h3]; rfl
   ·rw [show (fixV (takeV 1 xs false).1 != 2) = false from by rw [Decidable.not_not.1 h3]; rfl, cond_false]
    simp only [qab, Option.bind_some]
    have hl1 := (zeP 1 xs false).1
    cases h4 : (takeV 1 xs false).2.2 with
    | true => rw [if_pos (.inr rfl)]; rfl
    | false =>
     rw [if_neg (by simp; exact Decidable.not_not.1 h3), cond_false, zmT n _ _ (by omega), Option.bind_some]
     simp only
     have hl2 := (zeP 4 (takeV 1 xs false).2.1 false).1
     cases h5 : (takeV 4 (takeV 1 xs false).2.1 false).2.2 with
     | true => rfl
     | false =>
      rw [cond_false, Option.bind_some, if_neg (by simp)]
      simp only
      rw [show ((0 : Int) != 0) = false from rfl, cond_false]
      have h := zpm (R := StD × Int × Int) n (takeV 4 (takeV 1 xs false).2.1 false).2.1 (by omega) (by omega) (fun q => (qc n q.2.1 q.2.2.1 q.2.2.2).bind fun r251 =>
       bif r251.1 then some (emptySt, (0, 2)) else (qu n r251.2.2.1 r251.2.2.2).bind fun r252 => bif (decide (r252.1 > 0)) then some (emptySt, (0, 2)) else some (q.1, (cvtI .u32 (fixV (takeV 4 (takeV 1 xs false).2.1 false).1), 0)))
      refine h.trans ?_
      generalize stR false (takeV 4 (takeV 1 xs false).2.1 false).2.1 false = q
      rw [zaD, Option.bind_some]
      cases h6 : q.2.1 with
      | true => rw [if_pos (.inl rfl)]; rfl
      | false =>
       cases h7 : q.2.2.2 with
       | true => rw [if_pos (.inr (.inl rfl))]; rfl
       | false =>
        have hL : qu n q.2.2.1 false = some (lenI q.2.2.1, (q.2.2.1, false)) := rfl
        simp only [Bool.or_self, cond_false]
        rw [hL, Option.bind_some, ze]
        by_cases h8 : q.2.2.1.length > 0
        ·rw [if_pos (.inr (.inr h8)), decide_eq_true (by omega)]; rfl
        ·rw [if_neg (by simp; simpa using h8), decide_eq_false (by omega)]; rfl
  ·rw [if_pos h2, bne_iff_ne.2 h2]
   show (bif ((openV b).2 != 0) then _ else _) = _
   rw [bne_iff_ne.2 h2]; rfl
end Sx
end
section
/- What is sealed, and begins otherwise, is no image. -/
set_option linter.unusedVariables false
set_option linter.unusedSimpArgs false
namespace Sx
open Go Go.Ab
theorem answers20 (n : Nat) (hn : 100 ≤ n) : qy n = some true := by
 obtain ⟨m, rfl⟩ : ∃ m, n = m + 100 := ⟨n - 100, by omega⟩
 kernel_rfl
theorem u64wrap (n : Int) : IntKind.u64.wrap n = n % 18446744073709551616 := by simp [IntKind.wrap, IntKind.bits, IntKind.signed]
theorem zlR (a b : Nat) (ha : a < 18446744073709551616) (hb : b < 18446744073709551616) : orI .u64 (a : Int) (b : Int) = ((a ||| b : Nat) : Int) := by
 unfold orI
 rw [u64wrap]
 have : (BitVec.ofInt IntKind.u64.bits (a : Int) ||| BitVec.ofInt IntKind.u64.bits (b : Int)).toNat = a ||| b := by
  rw [BitVec.toNat_or]
  show (BitVec.ofInt 64 (a : Int)).toNat ||| (BitVec.ofInt 64 (b : Int)).toNat = _
  rw [BitVec.ofInt_natCast, BitVec.ofInt_natCast, BitVec.toNat_ofNat, BitVec.toNat_ofNat, Nat.mod_eq_of_lt ha, Nat.mod_eq_of_lt hb]
 rw [this]
 have h : a ||| b < 18446744073709551616 := Nat.or_lt_two_pow (n := 64) ha hb
 omega
theorem zej (v x : Nat) (hv : v < 281474976710656) (hx : x < 256) : orI .u64 (IntKind.u64.wrap ((v : Int) * 256)) (IntKind.u64.wrap (x : Int)) = ((v * 256 + x : Nat) : Int) := by
 rw [u64wrap, u64wrap]
 have e1 : ((v : Int) * 256) % 18446744073709551616 = ((v * 256 : Nat) : Int) := by omega
 have e2 : ((x : Int)) % 18446744073709551616 = ((x : Nat) : Int) := by omega
 rw [e1, e2, zlR _ _ (by omega) (by omega)]
 have h := Nat.shiftLeft_add_eq_or_of_lt (show x < 2 ^ 8 by omega) v
 rw [Nat.shiftLeft_eq] at h
 have h256 : (2 : Nat) ^ 8 = 256 := by decide
 rw [h256] at h
 rw [← h]
theorem zdm (x : Int) (l : List Int) : fixV (x :: l) = orI .u64 (IntKind.u64.wrap (fixV l * 256)) (IntKind.u64.wrap x) := rfl
theorem fix1 {x : Int} (h : 0 ≤ x ∧ x ≤ 255) : fixV [x] = x := by
 obtain ⟨k, rfl⟩ := Int.eq_ofNat_of_zero_le h.1
 have := zej 0 k (by omega) (by omega)
 rw [zdm, show fixV [] = ((0 : Nat) : Int) from rfl, this]
 omega
theorem fix4 {a b c d : Int} (ha : 0 ≤ a ∧ a ≤ 255) (hb : 0 ≤ b ∧ b ≤ 255) (hc : 0 ≤ c ∧ c ≤ 255) (hd : 0 ≤ d ∧ d ≤ 255) : fixV [a, b, c, d] = a + 256 * b + 65536 * c + 16777216 * d := by
 obtain ⟨a, rfl⟩ := Int.eq_ofNat_of_zero_le ha.1
 obtain ⟨b, rfl⟩ := Int.eq_ofNat_of_zero_le hb.1
 obtain ⟨c, rfl⟩ := Int.eq_ofNat_of_zero_le hc.1
 obtain ⟨d, rfl⟩ := Int.eq_ofNat_of_zero_le hd.1
 rw [zdm, zdm, zdm, fix1 hd, zej d c (by omega) (by omega), zej (d * 256 + c) b (by omega) (by omega), zej ((d * 256 + c) * 256 + b) a (by omega) (by omega)]
 omega
theorem zjz {k : Nat} {xs : List Int} (h : k ≤ xs.length) : takeV (k : Int) xs false = (xs.take k, xs.drop k, false) := by
 unfold takeV
 rw [if_neg (by rintro (h' | h' | h') <;> first | cases h' | omega), Int.toNat_natCast]
end Sx
end
section
/- Numbers, types and instructions as bytes: what the printed functions come to. -/
set_option linter.unusedVariables false
set_option linter.unusedSimpArgs false
namespace Sx
open Go Go.Ab
def varF : Nat → Nat → List Int
 | 0, v => [(v : Int)]
 | k + 1, v => if v < 128 then [(v : Int)] else ((128 + v % 128 : Nat) : Int) :: varF k (v / 128)
def varN (v : Nat) : List Int := varF 10 v
theorem zgI : ∀ (k v : Nat), 1 ≤ (varF k v).length ∧ (varF k v).length ≤ k + 1
 | 0, v => ⟨Nat.le_refl _, Nat.le_refl _⟩
 | k + 1, v => by
  unfold varF
  split
  ·exact ⟨by simp, by simp⟩
  ·have := zgI k (v / 128)
   rw [List.length_cons]; omega
theorem znK (v : Nat) : 1 ≤ (varN v).length ∧ (varN v).length ≤ 11 := zgI 10 v
theorem zhc : ∀ (k v : Nat), v < 128 ^ (k + 1) → ∀ x ∈ varF k v, 0 ≤ x ∧ x ≤ 255
 | 0, v, h, x, hx => by
  simp only [varF, List.mem_singleton] at hx
  omega
 | k + 1, v, h, x, hx => by
  unfold varF at hx
  split at hx
  ·rw [List.mem_singleton.1 hx]; omega
  ·rcases List.mem_cons.1 hx with rfl | hx
   ·omega
   ·exact zhc k (v / 128) (by rw [Nat.pow_succ] at h; omega) x hx
theorem zlw {v : Nat} (h : v < 18446744073709551616) : ∀ x ∈ varN v, 0 ≤ x ∧ x ≤ 255 := zhc 10 v (by omega)
theorem quo128 {v : Nat} (hv : v < 18446744073709551616) : quoI .u64 (v : Int) 128 = ((v / 128 : Nat) : Int) := by
 show IntKind.u64.wrap ((v : Int).tdiv 128) = _
 rw [Int.tdiv_eq_ediv_of_nonneg (by omega), wrapU64]
 omega
theorem zkB (n : Nat) : ∀ (k v d : Nat), v < 128 ^ (k + 1) → v < 18446744073709551616 → k < d → k ≤ 11 → qat_D n d (v : Int) = some (varF k v)
 | 0, v, d + 1, hv, h64, hd, hk => by
  show qat_S n (qat_D n d) (v : Int) = _
  unfold qat_S
  rw [decide_eq_true (by omega), cond_true, zgb (by omega) (by omega)]; rfl
 | k + 1, v, d + 1, hv, h64, hd, hk => by
  show qat_S n (qat_D n d) (v : Int) = _
  unfold qat_S
  by_cases h : v < 128
  ·rw [decide_eq_true (by omega), cond_true, zgb (by omega) (by omega), varF, if_pos h]
  ·have hl := zgI k (v / 128)
   rw [decide_eq_false (by omega), cond_false, quo128 h64, zkB n k (v / 128) d (by rw [Nat.pow_succ] at hv; omega) (by omega) (by omega) (by omega), Option.bind_some, zaj (by omega)]
   have h1 : addI .u64 128 ((v : Int) % 128) = ((128 + v % 128 : Nat) : Int) := by
    show IntKind.u64.wrap _ = _
    rw [wrapU64]; omega
   rw [h1, zgb (by omega) (by omega), zf (by simp; omega), cond_true, varF, if_neg h]
   rfl
 | _, _, 0, _, _, hd, _ => by omega
theorem znk (n v : Nat) (hv : v < 18446744073709551616) (hn : 20 ≤ n) : qat n (v : Int) = some (varN v) := zkB n 10 v n (by omega) hv (by omega) (by omega)
theorem zbF {α : Type} (xs : List α) (h : xs.length ≤ 4294967296) : cvtI .u64 (lenI xs) = ((xs.length : Nat) : Int) := by
 rw [ze, zbQ (by omega) (by omega)]
def fixN (k v : Nat) : List Int := (List.range k).map fun i => ((v / 256 ^ i % 256 : Nat) : Int)
theorem znC (k v : Nat) : (fixN k v).length = k := by simp [fixN]
def pos (k : Int) : Nat := k.toNat
end Sx
end
section
/- Fixed numbers; sums of lengths. -/
set_option linter.unusedVariables false
set_option linter.unusedSimpArgs false
namespace Sx
open Go Go.Ab
theorem quo256 {v : Nat} (hv : v < 18446744073709551616) : quoI .u64 (v : Int) 256 = ((v / 256 : Nat) : Int) := by
 show IntKind.u64.wrap ((v : Int).tdiv 256) = _
 rw [Int.tdiv_eq_ediv_of_nonneg (by omega), wrapU64]
 omega
theorem zjb (n : Nat) (v : Nat) (hv : v < 18446744073709551616) (hn : 20 ≤ n) : qaj n (v : Int) 8 = some (fixN 8 v) := by
 have h := zcI (B := fun s => qaj_B0 n s.1.1 s.1.2.1 s.1.2.2 s.2) (xs := List.range 8) (mk := fun i (a : List Int) => ((((v / 256 ^ i : Nat) : Int), ((8 : Int), (i : Int))), a)) (I := fun i a => a = (List.range i).map fun j => ((v / 256 ^ j % 256 : Nat) : Int)) (Q := fun y => y = fixN 8 v)
  (fun i a x hx hI => ?_) (fun a hI => ?_) 8 0 n [] (by simp) rfl (by omega)
 ·obtain ⟨y, h1, rfl⟩ := h
  unfold qaj
  rw [Nat.pow_zero, Nat.div_one] at h1
  rw [show qaj_W0 n (((v : Int), ((8 : Int), 0)), []) = _ from h1]
  rfl
 ·have hi := zu hx
  rw [List.length_range] at hi
  subst hI
  have hd : v / 256 ^ i < 18446744073709551616 := Nat.lt_of_le_of_lt (Nat.div_le_self _ _) hv
  have e1 : v / 256 ^ (i + 1) = v / 256 ^ i / 256 := by rw [Nat.pow_succ, Nat.div_div_eq_div_mul]
  have e2 : (List.range (i + 1)).map (fun j => ((v / 256 ^ j % 256 : Nat) : Int)) = (List.range i).map (fun j => ((v / 256 ^ j % 256 : Nat) : Int)) ++ [((v / 256 ^ i % 256 : Nat) : Int)] := by
   rw [List.range_succ, List.map_append]; rfl
  refine .inl ⟨_, ?_, rfl⟩
  rw [e1, e2]
  generalize v / 256 ^ i = q at hd
  show qaj_B0 n (q : Int) 8 (i : Int) ((List.range i).map fun j => ((v / 256 ^ j % 256 : Nat) : Int)) = _
  unfold qaj_B0
  rw [decide_eq_true (by omega), cond_true, cond_true, zaj (by omega), zgb (by omega) (by omega), quo256 hd, zf (by simp; omega), cond_true, zw (by omega)]
  rfl
 ·subst hI
  refine ⟨_, ?_, rfl⟩
  rfl
theorem zkm {S X A : Type} {B : S → Option (S ⊕ X)} {xs : List A} {mk : Nat → Int → S} {f : A → Nat} {e : Int → X} {c : Nat} {base : Int} (hb : 0 ≤ base) (hc : ∀ x ∈ xs, f x ≤ c) (hcap : base + (c : Int) * (xs.length : Int) ≤ 9000000000000000000)
  (hs : ∀ i a x, xs[i]? = some x → x ∈ xs → 0 ≤ a → a + (f x : Int) ≤ 9000000000000000000 → B (mk i a) = some (.inl (mk (i + 1) (a + (f x : Int))))) (he : ∀ a, B (mk xs.length a) = some (.inr (e a))) {n : Nat} (hn : xs.length < n) :
  ∃ a, loopS B n (mk 0 base) = some (e a) ∧ base ≤ a ∧ a ≤ base + (c : Int) * (xs.length : Int) ∧ ∀ x ∈ xs, (f x : Int) ≤ a := by
 have h := zcI (B := B) (xs := xs) (mk := mk) (I := fun i a => base ≤ a ∧ a ≤ base + (c : Int) * (i : Int) ∧ ∀ x ∈ xs.take i, (f x : Int) ≤ a) (Q := fun y => ∃ a, y = e a ∧ base ≤ a ∧ a ≤ base + (c : Int) * (xs.length : Int) ∧ ∀ x ∈ xs, (f x : Int) ≤ a)
  (fun i a x hx hI => ?_) (fun a hI => ?_) xs.length 0 n base (by omega) ⟨Int.le_refl _, by simp, by simp⟩ hn
 ·obtain ⟨y, h1, a, rfl, h2⟩ := h
  exact ⟨a, h1, h2⟩
 ·have hi := zu hx
  have hm := List.mem_of_getElem? hx
  have hcx := hc x hm
  obtain ⟨h1, h2, h3⟩ := hI
  have hmul : (c : Int) * (i : Int) + (c : Int) ≤ (c : Int) * (xs.length : Int) := by
   have : (c * (i + 1) : Nat) ≤ c * xs.length := Nat.mul_le_mul_left c hi
   rw [Nat.mul_succ] at this
   have h := Int.ofNat_le.2 this
   simpa using h
  have hsucc : (c : Int) * ((i + 1 : Nat) : Int) = (c : Int) * (i : Int) + (c : Int) := by
   rw [Int.natCast_add, Int.mul_add]; simp
  refine .inl ⟨_, hs i a x hx hm (by omega) (by omega), by omega, by rw [hsucc]; omega, fun z hz => ?_⟩
  rw [List.take_add_one, hx, List.mem_append] at hz
  rcases hz with hz | hz
  ·have := h3 z hz; omega
  ·simp at hz; subst hz; omega
 ·obtain ⟨h1, h2, h3⟩ := hI
  rw [List.take_length] at h3
  exact ⟨_, he a, a, rfl, h1, h2, h3⟩
theorem zbW {a b : Int} (h1 : 0 ≤ a) (h2 : 0 ≤ b) (h3 : a + b ≤ 9000000000000000000) : addI .i64 a b = a + b := zbn (by omega) (by omega)
end Sx
end
section
/- What is written is read again: numbers. (Under way.) -/
set_option linter.unusedVariables false
set_option linter.unusedSimpArgs false
namespace Sx
open Go Go.Ab
theorem andNot128 (x : Nat) (hx : x < 256) : cvtI .u64 (andNotI .u8 (x : Int) 128) = ((x % 128 : Nat) : Int) := by
 have h : ∀ m : Nat, m < 256 → andNotI .u8 (m : Int) 128 = ((m % 128 : Nat) : Int) := by decide +kernel
 rw [h x hx, zbQ (by omega) (by omega)]
theorem zoK (a k : Nat) (hk : k ≤ 9) (h : a * 128 ^ k < 18446744073709551616) : shlI .u64 (a : Int) ((7 * k : Nat) : Int) = ((a * 128 ^ k : Nat) : Int) := by
 unfold shlI
 rw [u64wrap]
 have h1 : min ((7 * k : Nat) : Int).toNat IntKind.u64.bits = 7 * k := by
  show min ((7 * k : Nat) : Int).toNat 64 = 7 * k
  rw [Int.toNat_natCast]; omega
 rw [h1]
 have h2 : (2 : Int) ^ (7 * k) = ((128 ^ k : Nat) : Int) := by
  rw [Int.pow_mul]
  simp
 rw [h2]
 have h3 : (a : Int) * ((128 ^ k : Nat) : Int) = ((a * 128 ^ k : Nat) : Int) := by simp
 rw [h3]
 omega
theorem zij (v x k : Nat) (hk : k ≤ 9) (hx : x < 256) (hv : v < 128 ^ k) (h : x % 128 * 128 ^ k + v < 18446744073709551616) : vstep (v : Int) (x : Int) k = ((x % 128 * 128 ^ k + v : Nat) : Int) := by
 unfold vstep
 rw [andNot128 x hx, zoK (x % 128) k hk (by omega), zlR v _ (by omega) (by omega)]
 have e : (128 : Nat) ^ k = 2 ^ (7 * k) := by rw [Nat.pow_mul]
 rw [e] at hv ⊢
 have := Nat.shiftLeft_add_eq_or_of_lt hv (x % 128)
 rw [Nat.shiftLeft_eq] at this
 rw [this, Nat.or_comm]
theorem ziR (V : Nat) (hV : V < 18446744073709551616) (rest : List Int) : ∀ (f i : Nat), f + i = 10 → (0 < i → 1 ≤ V / 128 ^ i) → varR (varF f (V / 128 ^ i) ++ rest) i ((V % 128 ^ i : Nat) : Int) = ((V : Int), rest, false)
 | 0, i, hi, h1 => by
  obtain rfl : i = 10 := by omega
  have := h1 (by omega)
  have : V / 128 ^ 10 = 0 := Nat.div_eq_of_lt (by omega)
  omega
 | f + 1, i, hi, h1 => by
  have hp : 0 < 128 ^ i := Nat.pow_pos (by omega)
  have hdm := Nat.div_add_mod V (128 ^ i)
  have hml := Nat.mod_lt V hp
  have h9 : i = 9 → V / 128 ^ i ≤ 1 := fun h => by
   subst h
   have : V / 128 ^ 9 < 2 := (Nat.div_lt_iff_lt_mul (by omega)).2 (by omega)
   omega
  have hmp := @Nat.mod_pow_succ V 128 i
  have hdd : V / 128 ^ i / 128 = V / 128 ^ (i + 1) := by rw [Nat.div_div_eq_div_mul, Nat.pow_succ]
  generalize hw : V / 128 ^ i = w at *
  unfold varF
  by_cases hlt : w < 128
  ·rw [if_pos hlt]
   show varR ((w : Int) :: rest) i _ = _
   unfold varR
   rw [if_neg (by
    rintro (⟨h, h'⟩ | ⟨h, h'⟩)
    ·have := h9 h; omega
    ·have := h1 h; omega), if_pos (by omega)]
   have hvv : w % 128 * 128 ^ i + V % 128 ^ i = V := by
    rw [Nat.mod_eq_of_lt hlt, Nat.mul_comm]; exact hdm
   rw [zij _ w i (by omega) (by omega) hml (by omega), hvv]
  ·rw [if_neg hlt]
   show varR (((128 + w % 128 : Nat) : Int) :: (varF f (w / 128) ++ rest)) i _ = _
   unfold varR
   have hi9 : i ≠ 9 := fun h => by have := h9 h; omega
   rw [if_neg (by
    rintro (⟨h, h'⟩ | ⟨h, h'⟩)
    ·exact hi9 h
    ·omega), if_neg (by omega)]
   have hx : (128 + w % 128) % 128 = w % 128 := by omega
   have hvv : (128 + w % 128) % 128 * 128 ^ i + V % 128 ^ i = V % 128 ^ (i + 1) := by
    rw [hx, hmp, Nat.mul_comm, Nat.add_comm]
   have hle : V % 128 ^ (i + 1) ≤ V := Nat.mod_le _ _
   rw [zij _ (128 + w % 128) i (by omega) (by omega) hml (by omega), hvv, hdd]
   exact ziR V hV rest f (i + 1) (by omega) (fun _ => by rw [← hdd]; omega)
theorem znq (V : Nat) (hV : V < 18446744073709551616) (rest : List Int) : varV (varN V ++ rest) false = ((V : Int), rest, false) := by
 have := ziR V hV rest 10 0 (by omega) (by omega)
 simp only [Nat.pow_zero, Nat.div_one, Nat.mod_one] at this
 unfold varV varN
 rw [if_neg (by simp)]
 exact this
end Sx
end
section
/- The reference's image: its bytes. -/
set_option linter.unusedVariables false
set_option linter.unusedSimpArgs false
namespace Sx
open Go Go.Ab
def u64 (v : Int) : Prop := 0 ≤ v ∧ v ≤ 18446744073709551615
def numB (old : Bool) (v : Int) : List Int := bif old then fixN 8 v.toNat else varN v.toNat
def numsB (old : Bool) (l : List Int) : List Int := l.flatMap (numB old)
def rowB (old : Bool) (l : List Int) : List Int := numsB old ((l.length : Int) :: l)
def n0 (v : Int) : Int := if v < 0 then 0 else v
def frB (old : Bool) (f : FrD) : List Int := numsB old [n0 f.1, n0 f.2.1] ++ rowB old f.2.2.1 ++ rowB old f.2.2.2
def obB (old : Bool) (o : FrD) : List Int := numsB old [n0 o.1, n0 o.2.1] ++ rowB old o.2.2.1 ++ numsB old [(o.2.2.2.length : Int)] ++ o.2.2.2
def haB (old : Bool) (h : HaD) : List Int := numsB old [n0 h.1, h.2.1, bif h.2.2 then 1 else 0]
theorem zlm (k v : Nat) : IsBytes (fixN k v) := fun x hx => by
 unfold fixN at hx
 obtain ⟨i, _, rfl⟩ := List.mem_map.1 hx
 omega
theorem zjL (old : Bool) (v : Int) : (numB old v).length ≤ 11 := by
 unfold numB
 cases old with
 | true => rw [cond_true, znC]; omega
 | false => exact (znK _).2
theorem zlL (old : Bool) {v : Int} (h : u64 v) : IsBytes (numB old v) := by
 have := h.1; have := h.2
 unfold numB
 cases old with
 | true => exact zlm _ _
 | false => exact zlw (by omega)
theorem zab (old : Bool) (l : List Int) : (numsB old l).length ≤ 11 * l.length := zaM _ 11 l fun x _ => zjL old x
theorem zR (old : Bool) {l : List Int} (h : ∀ v ∈ l, u64 v) : IsBytes (numsB old l) := fun x hx => by
 obtain ⟨v, hv, hx⟩ := List.mem_flatMap.1 hx
 exact zlL old (h v hv) x hx
theorem app_bytes {a b : List Int} (ha : IsBytes a) (hb : IsBytes b) : IsBytes (a ++ b) := fun x hx => (List.mem_append.1 hx).elim (ha x) (hb x)
theorem zae (n : Nat) (old : Bool) (l : List Int) (hl : ∀ v ∈ l, u64 v) (h : l.length ≤ 100000) (hn : 200000 ≤ n) : qam n old l = some (numsB old l) := by
 have h := zau (B := fun s => qam_B0 n s.1.1 s.1.2.1 s.1.2.2 s.2) (xs := l) (mk := fun i a => ((old, (l, (i : Int))), a)) (f := numB old) (e := fun a => a) (c := 11) (m0 := []) (cap := 2000000) (fun x _ => zjL old x) (by simp; omega) (fun i a x hx hm ha => ?_) (fun a => ?_) (n := n) (by omega)
 ·unfold qam
  rw [show qam_W0 n ((old, (l, 0)), []) = _ from h]
  rfl
 ·have hi := zu hx
  have hu := hl x hm
  obtain ⟨v, rfl⟩ := Int.eq_ofNat_of_zero_le hu.1
  have hv : v < 18446744073709551616 := by have := hu.2; omega
  show qam_B0 n old l (i : Int) a = _
  unfold qam_B0
  rw [ze, decide_eq_true (by omega), cond_true, zr, hx, Option.bind_some, Option.bind_some, zw (by omega)]
  cases old with
  | true =>
   have e : numB true (v : Int) = fixN 8 v := rfl
   rw [e] at ha ⊢
   rw [cond_true, zjb n v hv (by omega), Option.bind_some, zf (by rw [List.length_append]; omega)]
   rfl
  | false =>
   have e : numB false (v : Int) = varN v := rfl
   rw [e] at ha ⊢
   rw [cond_false, znk n v hv (by omega), Option.bind_some, zf (by rw [List.length_append]; omega)]
   rfl
 ·show qam_B0 n old l (l.length : Int) a = _
  unfold qam_B0
  rw [ze, decide_eq_false (by omega), cond_false]
theorem zju (n : Nat) (old : Bool) (l : List Int) (hl : ∀ v ∈ l, u64 v) (h : l.length ≤ 90000) (hn : 200000 ≤ n) : qao n old l = some (rowB old l) := by
 unfold qao rowB
 rw [zbF l (by omega), zf (by simp; omega), cond_true]
 rw [show (([((l.length : Nat) : Int)] : List Int) ++ l) = ((l.length : Nat) : Int) :: l from rfl, zae n old _ (fun v hv => by
  rcases List.mem_cons.1 hv with rfl | hv
  ·exact ⟨by omega, by omega⟩
  ·exact hl v hv) (by simp; omega) hn]
 rfl
theorem zn (n : Nat) (v : Int) (h1 : -9223372036854775808 ≤ v) (h2 : v ≤ 9223372036854775807) : qaf n v = some (n0 v) ∧ u64 (n0 v) := by
 unfold qaf n0 u64
 by_cases h : v < 0
 ·rw [decide_eq_true h, if_pos h]; exact ⟨rfl, by omega⟩
 ·rw [decide_eq_false h, if_neg h, cond_false, zbQ (by omega) (by omega)]; exact ⟨rfl, by omega⟩
def i64 (v : Int) : Prop := -9223372036854775808 ≤ v ∧ v ≤ 9223372036854775807
structure OkF (f : FrD) : Prop where
 a : i64 f.1
 b : i64 f.2.1
 l : ∀ v ∈ f.2.2.1, u64 v
 k : ∀ v ∈ f.2.2.2, u64 v
structure OkO (f : FrD) : Prop where
 a : i64 f.1
 b : i64 f.2.1
 l : ∀ v ∈ f.2.2.1, u64 v
 k : IsBytes f.2.2.2
structure OkH (h : HaD) : Prop where
 a : i64 h.1
 d : u64 h.2.1
structure OkS (s : StD) : Prop where
 f : ∀ x ∈ s.1, OkF x
 o : ∀ x ∈ s.2.1, OkO x
 h : ∀ x ∈ s.2.2.1, OkH x
 q : i64 s.2.2.2.1
 u : i64 s.2.2.2.2.1
 e : i64 s.2.2.2.2.2.1
 v : u64 s.2.2.2.2.2.2
structure SmallS (s : StD) : Prop where
 n : s.1.length + s.2.1.length + s.2.2.1.length ≤ 300
 f : ∀ x ∈ s.1, x.2.2.1.length ≤ 3000 ∧ x.2.2.2.length ≤ 3000
 o : ∀ x ∈ s.2.1, x.2.2.1.length ≤ 3000 ∧ x.2.2.2.length ≤ 3000
theorem zge {a b : Int} (ha : u64 a) (hb : u64 b) : ∀ v ∈ [a, b], u64 v := fun v hv => by
 rcases List.mem_cons.1 hv with rfl | hv
 ·exact ha
 ·rw [List.mem_singleton.1 hv]; exact hb
theorem zje {l : List Int} (hl : ∀ v ∈ l, u64 v) (h : l.length ≤ 90000) : ∀ v ∈ (l.length : Int) :: l, u64 v := fun v hv => by
 rcases List.mem_cons.1 hv with rfl | hv
 ·exact ⟨by omega, by omega⟩
 ·exact hl v hv
theorem zgj (old : Bool) (f : FrD) (h : f.2.2.1.length ≤ 3000 ∧ f.2.2.2.length ≤ 3000) : (frB old f).length ≤ 100000 := by
 have h1 := zab old [n0 f.1, n0 f.2.1]
 have h2 := zab old ((f.2.2.1.length : Int) :: f.2.2.1)
 have h3 := zab old ((f.2.2.2.length : Int) :: f.2.2.2)
 simp only [List.length_cons, List.length_nil] at h1 h2 h3
 unfold frB rowB
 simp only [List.length_append]
 omega
theorem zgl (old : Bool) (f : FrD) (h : f.2.2.1.length ≤ 3000 ∧ f.2.2.2.length ≤ 3000) : (obB old f).length ≤ 100000 := by
 have h1 := zab old [n0 f.1, n0 f.2.1]
 have h2 := zab old ((f.2.2.1.length : Int) :: f.2.2.1)
 have h3 := zab old [(f.2.2.2.length : Int)]
 simp only [List.length_cons, List.length_nil] at h1 h2 h3
 unfold obB rowB
 simp only [List.length_append]
 omega
theorem zgk (old : Bool) (h : HaD) : (haB old h).length ≤ 100000 := by
 have h1 := zab old [n0 h.1, h.2.1, bif h.2.2 then 1 else 0]
 simp only [List.length_cons, List.length_nil] at h1
 unfold haB
 omega
theorem zmO (old : Bool) {f : FrD} (h : OkF f) (hs : f.2.2.1.length ≤ 3000 ∧ f.2.2.2.length ≤ 3000) : IsBytes (frB old f) :=
 app_bytes (app_bytes (zR old (zge (zn 0 _ h.a.1 h.a.2).2 (zn 0 _ h.b.1 h.b.2).2)) (zR old (zje h.l (by omega)))) (zR old (zje h.k (by omega)))
theorem zmK (old : Bool) {f : FrD} (h : OkO f) (hs : f.2.2.1.length ≤ 3000 ∧ f.2.2.2.length ≤ 3000) : IsBytes (obB old f) :=
 app_bytes (app_bytes (app_bytes (zR old (zge (zn 0 _ h.a.1 h.a.2).2 (zn 0 _ h.b.1 h.b.2).2)) (zR old (zje h.l (by omega)))) (zR old fun v hv => by rw [List.mem_singleton.1 hv]; exact ⟨by omega, by omega⟩)) h.k
theorem zlS {h : HaD} (hh : OkH h) : ∀ v ∈ [n0 h.1, h.2.1, bif h.2.2 then 1 else 0], u64 v := fun v hv => by
 rcases List.mem_cons.1 hv with rfl | hv
 ·exact (zn 0 _ hh.a.1 hh.a.2).2
 ·rcases List.mem_cons.1 hv with rfl | hv
  ·exact hh.d
  ·rw [List.mem_singleton.1 hv]; cases h.2.2 <;> (unfold u64; simp)
theorem zmM (old : Bool) {h : HaD} (hh : OkH h) : IsBytes (haB old h) := zR old (zlS hh)
end Sx
end
section
/- The reference's image: what it comes to. -/
set_option linter.unusedVariables false
set_option linter.unusedSimpArgs false
namespace Sx
open Go Go.Ab
theorem zoc (n : Nat) (old : Bool) (s : StD) (ho : OkS s) (hs : SmallS s) (m1 m3 m4 : List Int) (hn : 200000 ≤ n) :
  qah_W0 n ((old, 0), (s, (m1, ([], (m3, m4))))) = some (old, (s, (m1, ((s.1).flatMap (frB old), (m3, m4))))) := by
 have h := zau (B := fun s => qah_B0 n s.1.1 s.1.2 s.2.1.1 s.2.1.2.1 s.2.1.2.2.1 s.2.1.2.2.2.1 s.2.1.2.2.2.2.1 s.2.1.2.2.2.2.2.1 s.2.1.2.2.2.2.2.2 s.2.2.1 s.2.2.2.1 s.2.2.2.2.1 s.2.2.2.2.2) (xs := s.1) (mk := fun i a => ((old, (i : Int)), (s, (m1, (a, (m3, m4)))))) (f := frB old)
  (e := fun a => (old, (s, (m1, (a, (m3, m4)))))) (c := 100000) (m0 := []) (cap := 40000000) (fun x hm => zgj old x (hs.f x hm)) (by have := hs.n; simp; omega) (fun i a x hx hm ha => ?_) (fun a => ?_) (n := n) (by have := hs.n; omega)
 ·exact h
 ·have hi := zu hx
  have hn3 := hs.n
  have hxo := ho.f x hm
  have hsx := hs.f x hm
  show qah_B0 n old (i : Int) s.1 s.2.1 s.2.2.1 s.2.2.2.1 s.2.2.2.2.1 s.2.2.2.2.2.1 s.2.2.2.2.2.2 m1 a m3 m4 = _
  have l0 := zgj old x hsx
  unfold frB at ha l0 ⊢
  simp only [List.length_append] at ha l0
  unfold qah_B0
  rw [ze, decide_eq_true (by omega), cond_true, zr, hx, Option.bind_some, (zn n _ hxo.a.1 hxo.a.2).1, Option.bind_some, (zn n _ hxo.b.1 hxo.b.2).1, Option.bind_some,
   zae n old _ (zge (zn 0 _ hxo.a.1 hxo.a.2).2 (zn 0 _ hxo.b.1 hxo.b.2).2) (by simp) hn, Option.bind_some, zf (by rw [List.length_append]; omega), cond_true, zju n old _ hxo.l (by omega) hn, Option.bind_some,
   zf (by simp only [List.length_append]; omega), cond_true, zju n old _ hxo.k (by omega) hn, Option.bind_some, zf (by simp only [List.length_append]; omega), cond_true, zw (by omega)]
  simp only [List.append_assoc]
 ·have hn3 := hs.n
  show qah_B0 n old ((s.1).length : Int) s.1 s.2.1 s.2.2.1 s.2.2.2.1 s.2.2.2.2.1 s.2.2.2.2.2.1 s.2.2.2.2.2.2 m1 a m3 m4 = _
  unfold qah_B0
  rw [ze, decide_eq_false (by omega), cond_false]
theorem znr (n : Nat) (old : Bool) (s : StD) (ho : OkS s) (hs : SmallS s) (m1 m2 m4 : List Int) (hn : 200000 ≤ n) :
  qah_W2 n ((old, 0), (s, (m1, (m2, ([], m4))))) = some (old, (s, (m1, (m2, ((s.2.1).flatMap (obB old), m4))))) := by
 have h := zau (B := fun s => qah_B2 n s.1.1 s.1.2 s.2.1.1 s.2.1.2.1 s.2.1.2.2.1 s.2.1.2.2.2.1 s.2.1.2.2.2.2.1 s.2.1.2.2.2.2.2.1 s.2.1.2.2.2.2.2.2 s.2.2.1 s.2.2.2.1 s.2.2.2.2.1 s.2.2.2.2.2) (xs := s.2.1) (mk := fun i a => ((old, (i : Int)), (s, (m1, (m2, (a, m4)))))) (f := obB old)
  (e := fun a => (old, (s, (m1, (m2, (a, m4)))))) (c := 100000) (m0 := []) (cap := 40000000) (fun x hm => zgl old x (hs.o x hm)) (by have := hs.n; simp; omega) (fun i a x hx hm ha => ?_) (fun a => ?_) (n := n) (by have := hs.n; omega)
 ·exact h
 ·have hi := zu hx
  have hn3 := hs.n
  have hxo := ho.o x hm
  have hsx := hs.o x hm
  show qah_B2 n old (i : Int) s.1 s.2.1 s.2.2.1 s.2.2.2.1 s.2.2.2.2.1 s.2.2.2.2.2.1 s.2.2.2.2.2.2 m1 m2 a m4 = _
  have l0 := zgl old x hsx
  unfold obB at ha l0 ⊢
  simp only [List.length_append] at ha l0
  unfold qah_B2
  rw [ze, decide_eq_true (by omega), cond_true, zr, hx, Option.bind_some, (zn n _ hxo.a.1 hxo.a.2).1, Option.bind_some, (zn n _ hxo.b.1 hxo.b.2).1, Option.bind_some,
   zae n old _ (zge (zn 0 _ hxo.a.1 hxo.a.2).2 (zn 0 _ hxo.b.1 hxo.b.2).2) (by simp) hn, Option.bind_some, zf (by rw [List.length_append]; omega), cond_true, zju n old _ hxo.l (by omega) hn, Option.bind_some,
   zf (by simp only [List.length_append]; omega), cond_true, zbF x.2.2.2 (by omega), zae n old [((x.2.2.2.length : Nat) : Int)] (fun v hv => by rw [List.mem_singleton.1 hv]; exact ⟨by omega, by omega⟩) (by simp) hn, Option.bind_some,
   zf (by simp only [List.length_append]; omega), cond_true, zf (by simp only [List.length_append]; omega), cond_true, zw (by omega)]
  simp only [List.append_assoc]
 ·have hn3 := hs.n
  show qah_B2 n old ((s.2.1).length : Int) s.1 s.2.1 s.2.2.1 s.2.2.2.1 s.2.2.2.2.1 s.2.2.2.2.2.1 s.2.2.2.2.2.2 m1 m2 a m4 = _
  unfold qah_B2
  rw [ze, decide_eq_false (by omega), cond_false]
theorem znI (n : Nat) (old : Bool) (s : StD) (ho : OkS s) (hs : SmallS s) (m1 m2 m3 : List Int) (hn : 200000 ≤ n) :
  qah_W4 n ((old, 0), (s, (m1, (m2, (m3, []))))) = some (old, (s, (m1, (m2, (m3, (s.2.2.1).flatMap (haB old)))))) := by
 have h := zau (B := fun s => qah_B4 n s.1.1 s.1.2 s.2.1.1 s.2.1.2.1 s.2.1.2.2.1 s.2.1.2.2.2.1 s.2.1.2.2.2.2.1 s.2.1.2.2.2.2.2.1 s.2.1.2.2.2.2.2.2 s.2.2.1 s.2.2.2.1 s.2.2.2.2.1 s.2.2.2.2.2) (xs := s.2.2.1) (mk := fun i a => ((old, (i : Int)), (s, (m1, (m2, (m3, a)))))) (f := haB old)
  (e := fun a => (old, (s, (m1, (m2, (m3, a)))))) (c := 100000) (m0 := []) (cap := 40000000) (fun x hm => zgk old x ) (by have := hs.n; simp; omega) (fun i a x hx hm ha => ?_) (fun a => ?_) (n := n) (by have := hs.n; omega)
 ·exact h
 ·have hi := zu hx
  have hn3 := hs.n
  have hxo := ho.h x hm
  show qah_B4 n old (i : Int) s.1 s.2.1 s.2.2.1 s.2.2.2.1 s.2.2.2.2.1 s.2.2.2.2.2.1 s.2.2.2.2.2.2 m1 m2 m3 a = _
  have l0 := zgk old x
  have hu := zlS hxo
  unfold haB at ha l0 ⊢
  unfold qah_B4
  rw [ze, decide_eq_true (by omega), cond_true, zr, hx, Option.bind_some]
  cases hop : x.2.2 with
  | true =>
   rw [hop, cond_true] at ha l0 hu
   rw [cond_true, (zn n _ hxo.a.1 hxo.a.2).1, Option.bind_some, zae n old _ hu (by simp) hn, Option.bind_some, zf (by rw [List.length_append]; omega), cond_true, zw (by omega)]
   rfl
  | false =>
   rw [hop, cond_false] at ha l0 hu
   rw [cond_false, (zn n _ hxo.a.1 hxo.a.2).1, Option.bind_some, zae n old _ hu (by simp) hn, Option.bind_some, zf (by rw [List.length_append]; omega), cond_true, zw (by omega)]
   rfl
 ·have hn3 := hs.n
  show qah_B4 n old ((s.2.2.1).length : Int) s.1 s.2.1 s.2.2.1 s.2.2.2.1 s.2.2.2.2.1 s.2.2.2.2.2.1 s.2.2.2.2.2.2 m1 m2 m3 a = _
  unfold qah_B4
  rw [ze, decide_eq_false (by omega), cond_false]
def partB {A : Type} (old : Bool) (f : A → List Int) (l : List A) : List Int := numsB old [(l.length : Int)] ++ l.flatMap f
theorem zcL {A : Type} (old : Bool) {f : A → List Int} {l : List A} (h : ∀ x ∈ l, IsBytes (f x)) (hl : l.length ≤ 100000) : IsBytes (partB old f l) := app_bytes (zR old fun v hv => by rw [List.mem_singleton.1 hv]; exact ⟨by omega, by omega⟩) fun x hx => by
 obtain ⟨y, hy, hx⟩ := List.mem_flatMap.1 hx
 exact h y hy x hx
theorem zbf {A : Type} (old : Bool) {f : A → List Int} {l : List A} (h : ∀ x ∈ l, (f x).length ≤ 100000) : (partB old f l).length ≤ 11 + 100000 * l.length := by
 have h1 := zab old [(l.length : Int)]
 have h2 := zaM f 100000 l h
 simp only [List.length_cons, List.length_nil] at h1
 unfold partB
 rw [List.length_append]; omega
def headB (old : Bool) (s : StD) (p : BitVec 32) : List Int := [bif old then 1 else 2] ++ le4 p ++ numsB old [n0 s.2.2.2.2.2.1, n0 s.2.2.2.1, n0 s.2.2.2.2.1, s.2.2.2.2.2.2]
def imgB (old : Bool) (s : StD) (p : BitVec 32) : List Int :=
 bif old then headB old s p ++ partB old (haB old) s.2.2.1 ++ partB old (frB old) s.1 ++ partB old (obB old) s.2.1
 else headB old s p ++ partB old (frB old) s.1 ++ partB old (obB old) s.2.1 ++ partB old (haB old) s.2.2.1
theorem zgS {s : StD} (ho : OkS s) : ∀ v ∈ [n0 s.2.2.2.2.2.1, n0 s.2.2.2.1, n0 s.2.2.2.2.1, s.2.2.2.2.2.2], u64 v := fun v hv => by
 rcases List.mem_cons.1 hv with rfl | hv
 ·exact (zn 0 _ ho.e.1 ho.e.2).2
 ·rcases List.mem_cons.1 hv with rfl | hv
  ·exact (zn 0 _ ho.q.1 ho.q.2).2
  ·rcases List.mem_cons.1 hv with rfl | hv
   ·exact (zn 0 _ ho.u.1 ho.u.2).2
   ·rw [List.mem_singleton.1 hv]; exact ho.v
theorem zkk (old : Bool) {s : StD} (ho : OkS s) (p : BitVec 32) : IsBytes (headB old s p) := app_bytes (app_bytes (fun x hx => by rw [List.mem_singleton.1 hx]; cases old <;> simp) (ziv p)) (zR old (zgS ho))
theorem zir (old : Bool) (s : StD) (p : BitVec 32) : (headB old s p).length ≤ 100 := by
 have h1 := zab old [n0 s.2.2.2.2.2.1, n0 s.2.2.2.1, n0 s.2.2.2.2.1, s.2.2.2.2.2.2]
 simp only [List.length_cons, List.length_nil] at h1
 unfold headB
 simp only [List.length_append, List.length_cons, List.length_nil, le4]
 omega
theorem zgx (old : Bool) {s : StD} (ho : OkS s) (hs : SmallS s) (p : BitVec 32) : IsBytes (imgB old s p) := by
 have hn := hs.n
 have a := zkk old ho p
 have f := zcL old (f := frB old) (l := s.1) (fun x hx => zmO old (ho.f x hx) (hs.f x hx)) (by omega)
 have o := zcL old (f := obB old) (l := s.2.1) (fun x hx => zmK old (ho.o x hx) (hs.o x hx)) (by omega)
 have h := zcL old (f := haB old) (l := s.2.2.1) (fun x hx => zmM old (ho.h x hx)) (by omega)
 unfold imgB
 cases old with
 | true => exact app_bytes (app_bytes (app_bytes a h) f) o
 | false => exact app_bytes (app_bytes (app_bytes a f) o) h
theorem zkj (old : Bool) {s : StD} (hs : SmallS s) (p : BitVec 32) : (imgB old s p).length ≤ 40000000 := by
 have hn := hs.n
 have a := zir old s p
 have f := zbf old (f := frB old) (l := s.1) (fun x hx => zgj old x (hs.f x hx))
 have o := zbf old (f := obB old) (l := s.2.1) (fun x hx => zgl old x (hs.o x hx))
 have h := zbf old (f := haB old) (l := s.2.2.1) (fun x hx => zgk old x)
 unfold imgB
 cases old with
 | true => simp only [cond_true, List.length_append]; omega
 | false => simp only [cond_false, List.length_append]; omega
end Sx
end
section
/- The reference's image: its bytes, sealed; sizes of states. -/
set_option linter.unusedVariables false
set_option linter.unusedSimpArgs false
namespace Sx
open Go Go.Ab
theorem zmd (p : BitVec 32) : cvtI .u64 (W32 p) = W32 p := by
 have := p.isLt
 unfold W32
 rw [zbQ (by omega) (by omega)]
theorem zlf {v : Int} (h : 0 ≤ v ∧ v ≤ 4294967295) : ∃ p : BitVec 32, W32 p = v := ⟨BitVec.ofNat 32 v.toNat, by
 unfold W32
 rw [BitVec.toNat_ofNat, Nat.mod_eq_of_lt (by omega)]
 omega⟩
theorem zop (n : Nat) (hn : 100000000 ≤ n) (old : Bool) (s : StD) (ho : OkS s) (hs : SmallS s) (p : BitVec 32) :
  qah n s.1 s.2.1 s.2.2.1 s.2.2.2.1 s.2.2.2.2.1 s.2.2.2.2.2.1 s.2.2.2.2.2.2 (W32 p) old = some (sealV (imgB old s p)) := by
 have hN := hs.n
 have hb := zgx old ho hs p
 have hl := zkj old hs p
 have hh := zir old s p
 have f := zbf old (f := frB old) (l := s.1) (fun x hx => zgj old x (hs.f x hx))
 have o := zbf old (f := obB old) (l := s.2.1) (fun x hx => zgl old x (hs.o x hx))
 have h := zbf old (f := haB old) (l := s.2.2.1) (fun x hx => zgk old x)
 have sg : ∀ k : Nat, k ≤ 100000 → ∀ v ∈ [(k : Int)], u64 v := fun k hk v hv => by rw [List.mem_singleton.1 hv]; exact ⟨by omega, by omega⟩
 have hle : (le4 p).length = 4 := rfl
 have hq := zab old [n0 s.2.2.2.2.2.1, n0 s.2.2.2.1, n0 s.2.2.2.2.1, s.2.2.2.2.2.2]
 simp only [List.length_cons, List.length_nil] at hq
 unfold partB at f o h
 simp only [List.length_append] at f o h
 unfold qah
 cases old with
 | true =>
  have e : headB true s p = [1] ++ le4 p ++ numsB true [n0 s.2.2.2.2.2.1, n0 s.2.2.2.1, n0 s.2.2.2.2.1, s.2.2.2.2.2.2] := rfl
  rw [cond_true, zmd, zcW n p (by omega), Option.bind_some, show List.set [(2 : Int)] 0 1 = [1] from rfl, zf (by simp [hle]), cond_true, (zn n _ ho.e.1 ho.e.2).1, Option.bind_some, (zn n _ ho.q.1 ho.q.2).1, Option.bind_some,
   (zn n _ ho.u.1 ho.u.2).1, Option.bind_some, zae n true _ (zgS ho) (by simp) (by omega), Option.bind_some, zf (by simp only [List.length_append, List.length_cons, List.length_nil, hle]; omega), cond_true, ← e]
  have w0 := zoc n true s ho hs (headB true s p) [] [] (by omega)
  have w2 := znr n true s ho hs (headB true s p) (s.1.flatMap (frB true)) [] (by omega)
  have w4 := znI n true s ho hs (headB true s p) (s.1.flatMap (frB true)) (s.2.1.flatMap (obB true)) (by omega)
  refine (congrArg (fun q => Option.bind q _) w0).trans ?_
  rw [Option.bind_some]
  refine (congrArg (fun q => Option.bind q _) w2).trans ?_
  rw [Option.bind_some]
  refine (congrArg (fun q => Option.bind q _) w4).trans ?_
  rw [Option.bind_some]
  simp only
  rw [zbF s.1 (by omega), zbF s.2.1 (by omega), zbF s.2.2.1 (by omega), zae n true _ (sg _ (by omega)) (by simp) (by omega), Option.bind_some, zf (by rw [List.length_append]; omega), cond_true,
   zae n true _ (sg _ (by omega)) (by simp) (by omega), Option.bind_some, zf (by rw [List.length_append]; omega), cond_true, zae n true _ (sg _ (by omega)) (by simp) (by omega), Option.bind_some, zf (by rw [List.length_append]; omega), cond_true, cond_true,
   zf (by simp only [List.length_append]; omega), cond_true, zf (by simp only [List.length_append]; omega), cond_true, zf (by simp only [List.length_append]; omega), cond_true]
  have := zhk n (imgB true s p) hb (by omega) (by omega)
  refine (congrArg (fun q => Option.bind q _) this).trans ?_
  rfl
 | false =>
  have e : headB false s p = [2] ++ le4 p ++ numsB false [n0 s.2.2.2.2.2.1, n0 s.2.2.2.1, n0 s.2.2.2.2.1, s.2.2.2.2.2.2] := rfl
  rw [cond_false, zmd, zcW n p (by omega), Option.bind_some, zf (by simp [hle]), cond_true, (zn n _ ho.e.1 ho.e.2).1, Option.bind_some, (zn n _ ho.q.1 ho.q.2).1, Option.bind_some,
   (zn n _ ho.u.1 ho.u.2).1, Option.bind_some, zae n false _ (zgS ho) (by simp) (by omega), Option.bind_some, zf (by simp only [List.length_append, List.length_cons, List.length_nil, hle]; omega), cond_true, ← e]
  have w0 := zoc n false s ho hs (headB false s p) [] [] (by omega)
  have w2 := znr n false s ho hs (headB false s p) (s.1.flatMap (frB false)) [] (by omega)
  have w4 := znI n false s ho hs (headB false s p) (s.1.flatMap (frB false)) (s.2.1.flatMap (obB false)) (by omega)
  refine (congrArg (fun q => Option.bind q _) w0).trans ?_
  rw [Option.bind_some]
  refine (congrArg (fun q => Option.bind q _) w2).trans ?_
  rw [Option.bind_some]
  refine (congrArg (fun q => Option.bind q _) w4).trans ?_
  rw [Option.bind_some]
  simp only
  rw [zbF s.1 (by omega), zbF s.2.1 (by omega), zbF s.2.2.1 (by omega), zae n false _ (sg _ (by omega)) (by simp) (by omega), Option.bind_some, zf (by rw [List.length_append]; omega), cond_true,
   zae n false _ (sg _ (by omega)) (by simp) (by omega), Option.bind_some, zf (by rw [List.length_append]; omega), cond_true, zae n false _ (sg _ (by omega)) (by simp) (by omega), Option.bind_some, zf (by rw [List.length_append]; omega), cond_true, cond_false,
   zf (by simp only [List.length_append]; omega), cond_true, zf (by simp only [List.length_append]; omega), cond_true, zf (by simp only [List.length_append]; omega), cond_true]
  have := zhk n (imgB false s p) hb (by omega) (by omega)
  refine (congrArg (fun q => Option.bind q _) this).trans ?_
  rfl
end Sx
end
section
/- Which states are small; the two versions' images. -/
set_option linter.unusedVariables false
set_option linter.unusedSimpArgs false
namespace Sx
open Go Go.Ab
structure LenSt (s : StD) : Prop where
 n1 : s.1.length ≤ 140737488351232
 n2 : s.2.1.length ≤ 140737488351232
 n3 : s.2.2.1.length ≤ 140737488351232
 f : ∀ x ∈ s.1, x.2.2.1.length ≤ 140737488351232 ∧ x.2.2.2.length ≤ 140737488351232
 o : ∀ x ∈ s.2.1, x.2.2.1.length ≤ 140737488351232 ∧ x.2.2.2.length ≤ 140737488351232
theorem znA (b : List Int) (h : (sealV b).length ≤ 65536) : decV (sealV b) = bodyV b := by
 unfold decV
 rw [if_neg (by omega), zmu]
 rfl
end Sx
end
section
/- The five statements on sums, in plain words. -/
set_option linter.unusedVariables false
set_option linter.unusedSimpArgs false
namespace Sx
open Go Go.Ab
end Sx
end
section
/- Bursts: of what is sealed no 32 bits side by side can be turned. -/
set_option linter.unusedVariables false
set_option linter.unusedSimpArgs false
namespace Sx
open Go Go.Ab
def bitAt (s : List Int) (j : Nat) : Bool := (s.getD (j / 8) 0).toNat.testBit (j % 8)
def turned (k t j : Nat) : Bool := decide (k ≤ j) && decide (j < k + 32) && t.testBit (j - k)
end Sx
end
section
/- Of an image of the first version nothing that is turned within 32 bits is taken. -/
set_option linter.unusedVariables false
set_option linter.unusedSimpArgs false
namespace Sx
open Go Go.Ab
structure BInv (s : List Int) (k t i : Nat) (m : List Int) : Prop where
 len : m.length = s.length
 bytes : IsBytes m
 bits : ∀ j, j < 8 * s.length → bitAt m j = (bitAt s j ^^ (decide (k ≤ j) && decide (j < k + i) && t.testBit (j - k)))
end Sx
end
section
/- A state is the same as itself; nothing of an image that was turned is taken. -/
set_option linter.unusedVariables false
set_option linter.unusedSimpArgs false
namespace Sx
open Go Go.Ab
theorem zbo {A : Type} [BEq A] [LawfulBEq A] (x : A) : (x != x) = false := by simp
theorem zdV (n : Nat) (l : List Int) (h : l.length ≤ 100000) (hn : 200000 ≤ n) : qal n l l = some true := by
 unfold qal
 have hW : qal_W0 n (l, (l, 0)) = some (Sum.inr ()) := zao (B := fun s => qal_B0 n s.1 s.2.1 s.2.2) (f := fun i => (l, (l, (i : Int)))) (k := l.length) (fun i hi => by
   show qal_B0 n l l (i : Int) = _
   unfold qal_B0
   rw [ze, decide_eq_true (by omega), cond_true, zr, List.getElem?_eq_getElem hi, Option.bind_some, Option.bind_some, zbo, cond_false, zw (by omega)]) (by
   show qal_B0 n l l (l.length : Int) = _
   unfold qal_B0
   rw [ze, decide_eq_false (by omega), cond_false]) l.length 0 n (by omega) (by omega)
 rw [zbo, cond_false, hW]
 rfl
theorem zmW (n : Nat) (l : List FrD) (h : l.length ≤ 300) (hs : ∀ x ∈ l, x.2.2.1.length ≤ 3000 ∧ x.2.2.2.length ≤ 3000) (hn : 200000 ≤ n) : qar n l l = some true := by
 unfold qar
 have hW : qar_W0 n (l, (l, 0)) = some (Sum.inr ()) := zao (B := fun s => qar_B0 n s.1 s.2.1 s.2.2) (f := fun i => (l, (l, (i : Int)))) (k := l.length) (fun i hi => by
   have hx := hs l[i] (List.getElem_mem hi)
   show qar_B0 n l l (i : Int) = _
   unfold qar_B0
   rw [ze, decide_eq_true (by omega), cond_true, zr, List.getElem?_eq_getElem hi]
   simp only [Option.bind_some, zbo, cond_false]
   rw [zdV n _ (by omega) hn, Option.bind_some, Bool.not_true, cond_false, zmG n _ (by omega) (by omega), Option.bind_some, Bool.not_true, cond_false, zw (by omega)]) (by
   show qar_B0 n l l (l.length : Int) = _
   unfold qar_B0
   rw [ze, decide_eq_false (by omega), cond_false]) l.length 0 n (by omega) (by omega)
 rw [zbo, cond_false, hW]
 rfl
theorem zmZ (n : Nat) (l : List HaD) (h : l.length ≤ 300) (hn : 200000 ≤ n) : qap n l l = some true := by
 unfold qap
 have hW : qap_W0 n (l, (l, 0)) = some (Sum.inr ()) := zao (B := fun s => qap_B0 n s.1 s.2.1 s.2.2) (f := fun i => (l, (l, (i : Int)))) (k := l.length) (fun i hi => by
   show qap_B0 n l l (i : Int) = _
   unfold qap_B0
   rw [ze, decide_eq_true (by omega), cond_true, zr, List.getElem?_eq_getElem hi]
   simp only [Option.bind_some, beq_self_eq_true, Bool.and_self, Bool.not_true, cond_false]
   rw [zw (by omega)]) (by
   show qap_B0 n l l (l.length : Int) = _
   unfold qap_B0
   rw [ze, decide_eq_false (by omega), cond_false]) l.length 0 n (by omega) (by omega)
 rw [zbo, cond_false, hW]
 rfl
theorem zko (n : Nat) (s : StD) (hs : SmallS s) (hn : 200000 ≤ n) : qac n s.1 s.2.1 s.2.2.1 s.2.2.2.1 s.2.2.2.2.1 s.2.2.2.2.2.1 s.2.2.2.2.2.2 s.1 s.2.1 s.2.2.1 s.2.2.2.1 s.2.2.2.2.1 s.2.2.2.2.2.1 s.2.2.2.2.2.2 = some true := by
 have hN := hs.n
 unfold qac
 have hW : qac_W0 n (0, (s, s)) = some (Sum.inr (s, s)) := zao (B := fun s => qac_B0 n s.1 s.2.1.1 s.2.1.2.1 s.2.1.2.2.1 s.2.1.2.2.2.1 s.2.1.2.2.2.2.1 s.2.1.2.2.2.2.2.1 s.2.1.2.2.2.2.2.2 s.2.2.1 s.2.2.2.1 s.2.2.2.2.1 s.2.2.2.2.2.1 s.2.2.2.2.2.2.1 s.2.2.2.2.2.2.2.1 s.2.2.2.2.2.2.2.2) (f := fun i => ((i : Int), (s, s))) (k := s.1.length) (fun i hi => by
   have hx := hs.f s.1[i] (List.getElem_mem hi)
   show qac_B0 n (i : Int) s.1 s.2.1 s.2.2.1 s.2.2.2.1 s.2.2.2.2.1 s.2.2.2.2.2.1 s.2.2.2.2.2.2 s.1 s.2.1 s.2.2.1 s.2.2.2.1 s.2.2.2.2.1 s.2.2.2.2.2.1 s.2.2.2.2.2.2 = _
   unfold qac_B0
   rw [ze, decide_eq_true (by omega), cond_true, zr, List.getElem?_eq_getElem hi]
   simp only [Option.bind_some, zbo, cond_false]
   rw [zdV n _ (by omega) hn, Option.bind_some, Bool.not_true, cond_false, zdV n _ (by omega) hn, Option.bind_some, Bool.not_true, cond_false, zw (by omega)]) (by
   show qac_B0 n (s.1.length : Int) s.1 s.2.1 s.2.2.1 s.2.2.2.1 s.2.2.2.2.1 s.2.2.2.2.2.1 s.2.2.2.2.2.2 s.1 s.2.1 s.2.2.1 s.2.2.2.1 s.2.2.2.2.1 s.2.2.2.2.2.1 s.2.2.2.2.2.2 = _
   unfold qac_B0
   rw [ze, decide_eq_false (by omega), cond_false]) s.1.length 0 n (by omega) (by omega)
 simp only [zbo, cond_false]
 refine (congrArg (fun q => Option.bind q _) hW).trans ?_
 rw [Option.bind_some]
 show ((qar n s.2.1 s.2.1).bind _) = _
 rw [zmW n _ (by omega) hs.o hn, Option.bind_some, cond_true]
 show ((qap n s.2.2.1 s.2.2.1).bind _) = _
 rw [zmZ n _ (by omega) hn]
 rfl
end Sx
end
section
/- What is written is read again: the image of a plain state. -/
set_option linter.unusedVariables false
set_option linter.unusedSimpArgs false
namespace Sx
open Go Go.Ab
def Back {A : Type} (one : Rd A) (f : A → List Int) (x : A) : Prop := ∀ rest, one false (f x ++ rest) false = (x, false, rest, false)
def i31 (v : Int) : Prop := 0 ≤ v ∧ v ≤ 2147483647
theorem zpb (v : Int) : numB false v = varN v.toNat := rfl
theorem zkf {v : Int} (h : u64 v) (rest : List Int) : varV (numB false v ++ rest) false = (v, rest, false) := by
 have h1 := h.1; have h2 := h.2
 rw [zpb, znq v.toNat (by omega) rest, show ((v.toNat : Nat) : Int) = v by omega]
theorem zgt {v : Int} (h : u64 v) : Back numV (numB false) v := fun rest => by
 unfold numV
 rw [zkf h rest]
theorem zoI {v : Int} (h : i31 v) : u64 v := by have h1 := h.1; have h2 := h.2; exact ⟨by omega, by omega⟩
theorem zal {v : Int} (h : i31 v) : Back intV (numB false) v := fun rest => by
 have h2 := h.2
 unfold intV
 rw [zkf (zoI h) rest, if_neg (by simp only; omega)]
theorem zgL {A : Type} {one : Rd A} {f : A → List Int} : ∀ (l acc : List A) (rest : List Int), (∀ x ∈ l, Back one f x) → wlist one l.length acc false (l.flatMap f ++ rest) false = (acc ++ l, false, rest, false)
 | [], acc, rest, h => by simp [wlist]
 | x :: l, acc, rest, h => by
  rw [List.length_cons, List.flatMap_cons, List.append_assoc]
  unfold wlist
  rw [if_neg (by simp), h x (by simp) (l.flatMap f ++ rest)]
  simp only
  rw [zgL l (acc ++ [x]) rest fun y hy => h y (by simp [hy]), List.append_assoc]
  rfl
theorem zkh {A : Type} {one : Rd A} {f : A → List Int} (l : List A) (hl : l.length ≤ 100000) (h : ∀ x ∈ l, Back one f x) : ∀ rest, rowW one false (numB false (l.length : Int) ++ (l.flatMap f ++ rest)) false = (l, false, rest, false) := fun rest => by
 unfold rowW
 rw [zal ⟨by omega, by omega⟩]
 simp only [Int.toNat_natCast]
 rw [zgL l [] rest h]
 rfl
theorem zmX {l : List Int} (hl : l.length ≤ 100000) (h : ∀ v ∈ l, u64 v) (rest : List Int) : rowW numV false (rowB false l ++ rest) false = (l, false, rest, false) := by
 unfold rowB numsB
 rw [List.flatMap_cons, List.append_assoc]
 exact zkh l hl (fun x hx => zgt (h x hx)) rest
theorem zF {A B : Type} {one : Rd A} {f : A → List Int} {x : A} {g : A → Rd B} {r xs : List Int} {q : B × Bool × List Int × Bool} (h : Back one f x) (hx : xs = f x ++ r) (hg : g x false r false = q) : thenR one g false xs false = q := by
 unfold thenR
 rw [hx, h r]
 exact hg
theorem zeT {B : Type} {l : List Int} (hl : l.length ≤ 100000) (h : ∀ v ∈ l, u64 v) {g : List Int → Rd B} {r xs : List Int} {q : B × Bool × List Int × Bool} (hx : xs = rowB false l ++ r) (hg : g l false r false = q) : thenR (rowW numV) g false xs false = q := by
 unfold thenR
 rw [hx, zmX hl h r]
 exact hg
theorem zcG {v : Int} (h : i31 v) : n0 v = v := by unfold n0; rw [if_neg (by have := h.1; omega)]
structure PlF (f : FrD) : Prop where
 a : i31 f.1
 b : i31 f.2.1
theorem zll {f : FrD} (hp : PlF f) (ho : OkF f) (hs : f.2.2.1.length ≤ 3000 ∧ f.2.2.2.length ≤ 3000) : Back frameR (frB false) f := fun rest => by
 unfold frameR frB
 rw [zcG hp.a, zcG hp.b]
 refine zF (zal hp.a) (r := numB false f.2.1 ++ (rowB false f.2.2.1 ++ (rowB false f.2.2.2 ++ rest))) (by simp [numsB, List.append_assoc]) ?_
 refine zF (zal hp.b) (r := rowB false f.2.2.1 ++ (rowB false f.2.2.2 ++ rest)) rfl ?_
 refine zeT (by omega) ho.l (r := rowB false f.2.2.2 ++ rest) rfl ?_
 exact zeT (by omega) ho.k (r := rest) rfl rfl
theorem zog {f : FrD} (hp : PlF f) (ho : OkO f) (hs : f.2.2.1.length ≤ 3000 ∧ f.2.2.2.length ≤ 3000) : Back objR (obB false) f := fun rest => by
 unfold objR obB
 rw [zcG hp.a, zcG hp.b]
 refine zF (zal hp.a) (r := numB false f.2.1 ++ (rowB false f.2.2.1 ++ (numB false (f.2.2.2.length : Int) ++ (f.2.2.2 ++ rest)))) (by simp [numsB, List.append_assoc]) ?_
 refine zF (zal hp.b) (r := rowB false f.2.2.1 ++ (numB false (f.2.2.2.length : Int) ++ (f.2.2.2 ++ rest))) rfl ?_
 refine zeT (by omega) ho.l (r := numB false (f.2.2.2.length : Int) ++ (f.2.2.2 ++ rest)) rfl ?_
 refine zF (zal (v := (f.2.2.2.length : Int)) ⟨by omega, by omega⟩) (r := f.2.2.2 ++ rest) rfl ?_
 unfold thenR takeR
 rw [zjz (k := f.2.2.2.length) (by simp)]
 simp [retR]
structure PlH (h : HaD) : Prop where
 a : i31 h.1
theorem znZ {h : HaD} (hp : PlH h) (ho : OkH h) : Back hanR (haB false) h := fun rest => by
 unfold hanR haB
 rw [zcG hp.a]
 have hb : i31 (bif h.2.2 then 1 else 0) := by cases h.2.2 <;> (unfold i31; simp)
 refine zF (zal hp.a) (r := numB false h.2.1 ++ (numB false (bif h.2.2 then 1 else 0) ++ rest)) (by simp [numsB, List.append_assoc]) ?_
 refine zF (zgt ho.d) (r := numB false (bif h.2.2 then 1 else 0) ++ rest) rfl ?_
 refine zF (zal hb) (r := rest) rfl ?_
 obtain ⟨a, d, o⟩ := h
 unfold endR
 cases o <;> rfl
structure PlS (s : StD) : Prop where
 f : ∀ x ∈ s.1, PlF x
 o : ∀ x ∈ s.2.1, PlF x
 h : ∀ x ∈ s.2.2.1, PlH x
 q : i31 s.2.2.2.1
 u : i31 s.2.2.2.2.1
 e : i31 s.2.2.2.2.2.1
theorem zeL {A B : Type} {one : Rd A} {f : A → List Int} (l : List A) (hl : l.length ≤ 100000) (h : ∀ x ∈ l, Back one f x) {g : List A → Rd B} {r xs : List Int} {q : B × Bool × List Int × Bool} (hx : xs = partB false f l ++ r) (hg : g l false r false = q) :
  thenR (rowW one) g false xs false = q := by
 unfold thenR
 have : xs = numB false (l.length : Int) ++ (l.flatMap f ++ r) := by rw [hx]; simp [partB, numsB, List.append_assoc]
 rw [this, zkh l hl h r]
 exact hg
theorem zoV (s : StD) (ho : OkS s) (hs : SmallS s) (hp : PlS s) : stR false (numsB false [n0 s.2.2.2.2.2.1, n0 s.2.2.2.1, n0 s.2.2.2.2.1, s.2.2.2.2.2.2] ++ partB false (frB false) s.1 ++ partB false (obB false) s.2.1 ++ partB false (haB false) s.2.2.1) false = (s, false, [], false) := by
 have hN := hs.n
 unfold stR
 rw [zcG hp.e, zcG hp.q, zcG hp.u]
 refine zF (zal hp.e) (r := numB false s.2.2.2.1 ++ (numB false s.2.2.2.2.1 ++ (numB false s.2.2.2.2.2.2 ++ (partB false (frB false) s.1 ++ (partB false (obB false) s.2.1 ++ partB false (haB false) s.2.2.1))))) (by simp [numsB, List.append_assoc]) ?_
 refine zF (zal hp.q) (r := numB false s.2.2.2.2.1 ++ (numB false s.2.2.2.2.2.2 ++ (partB false (frB false) s.1 ++ (partB false (obB false) s.2.1 ++ partB false (haB false) s.2.2.1)))) rfl ?_
 refine zF (zal hp.u) (r := numB false s.2.2.2.2.2.2 ++ (partB false (frB false) s.1 ++ (partB false (obB false) s.2.1 ++ partB false (haB false) s.2.2.1))) rfl ?_
 refine zF (zgt ho.v) (r := partB false (frB false) s.1 ++ (partB false (obB false) s.2.1 ++ partB false (haB false) s.2.2.1)) rfl ?_
 refine zeL (f := frB false) s.1 (by omega) (fun x hx => zll (hp.f x hx) (ho.f x hx) (hs.f x hx)) (r := partB false (obB false) s.2.1 ++ partB false (haB false) s.2.2.1) rfl ?_
 refine zeL (f := obB false) s.2.1 (by omega) (fun x hx => zog (hp.o x hx) (ho.o x hx) (hs.o x hx)) (r := partB false (haB false) s.2.2.1) rfl ?_
 exact zeL (f := haB false) s.2.2.1 (by omega) (fun x hx => znZ (hp.h x hx) (ho.h x hx)) (r := []) (by simp) rfl
theorem zoE (p : BitVec 32) : fixV (le4 p) = W32 p := by
 have := zaK p
 unfold le4
 rw [fix4 (by omega) (by omega) (by omega) (by omega)]
 omega
theorem zmx (s : StD) (ho : OkS s) (hs : SmallS s) (hp : PlS s) (p : BitVec 32) : bodyV (imgB false s p) = (s, W32 p, 0) := by
 have hb := zoV s ho hs hp
 have e : imgB false s p = 2 :: (le4 p ++ (numsB false [n0 s.2.2.2.2.2.1, n0 s.2.2.2.1, n0 s.2.2.2.2.1, s.2.2.2.2.2.2] ++ partB false (frB false) s.1 ++ partB false (obB false) s.2.1 ++ partB false (haB false) s.2.2.1)) := by
  show headB false s p ++ partB false (frB false) s.1 ++ partB false (obB false) s.2.1 ++ partB false (haB false) s.2.2.1 = _
  unfold headB
  simp [List.append_assoc]
 rw [e]
 generalize numsB false [n0 s.2.2.2.2.2.1, n0 s.2.2.2.1, n0 s.2.2.2.2.1, s.2.2.2.2.2.2] ++ partB false (frB false) s.1 ++ partB false (obB false) s.2.1 ++ partB false (haB false) s.2.2.1 = r at hb ⊢
 have t1 : takeV 1 (2 :: (le4 p ++ r)) false = ([2], le4 p ++ r, false) := zjz (k := 1) (by simp)
 have t4 : takeV 4 (le4 p ++ r) false = (le4 p, r, false) := zjz (k := 4) (by simp [le4])
 have := zaK p
 unfold bodyV
 rw [t1]
 simp only
 rw [t4, fix1 (by omega), zoE, if_neg (by simp)]
 simp only
 rw [if_neg (by simp), hb, if_neg (by simp), zgJ (by omega) (by omega)]
end Sx
end
section
/- image.Encode: the same bytes. -/
set_option linter.unusedVariables false
set_option linter.unusedSimpArgs false
namespace Sx
open Go Go.Ab
end Sx
end
section
/- image.Encode: the same bytes as the reference's. -/
set_option linter.unusedVariables false
set_option linter.unusedSimpArgs false
namespace Sx
open Go Go.Ab
end Sx
end
section
/- Plain states; the image of any state is read again. -/
set_option linter.unusedVariables false
set_option linter.unusedSimpArgs false
namespace Sx
open Go Go.Ab
theorem small20 (n : Nat) (s : StD) (hl : LenSt s) (hn : 1000 ≤ n) : ∃ x, qak n s.1 s.2.1 s.2.2.1 s.2.2.2.1 s.2.2.2.2.1 s.2.2.2.2.2.1 s.2.2.2.2.2.2 = some x ∧ (x = true → SmallS s) := by
 unfold qak
 have n1 := hl.n1
 have n2 := hl.n2
 have n3 := hl.n3
 have hs : addI .i64 (addI .i64 (lenI s.2.1) (lenI s.2.2.1)) (lenI s.1) = ((s.1.length + s.2.1.length + s.2.2.1.length : Nat) : Int) := by
  simp only [ze]
  rw [zbW (b := ((s.2.2.1.length : Nat) : Int)) (by omega) (by omega) (by omega), zbW (b := ((s.1.length : Nat) : Int)) (by omega) (by omega) (by omega)]
  omega
 rw [hs]
 by_cases h3 : s.1.length + s.2.1.length + s.2.2.1.length > 300
 ·rw [decide_eq_true (by omega), cond_true]
  exact ⟨false, rfl, fun h => by cases h⟩
 ·rw [decide_eq_false (by omega), cond_false]
  have h0 := zkm (B := fun s => qak_B0 n s.1.1 s.1.2 s.2.1 s.2.2.1 s.2.2.2.1 s.2.2.2.2.1 s.2.2.2.2.2.1 s.2.2.2.2.2.2.1 s.2.2.2.2.2.2.2) (xs := s.2.1) (mk := fun i a => ((a, (i : Int)), s)) (f := fun x => x.2.2.1.length + x.2.2.2.length) (e := fun a => (a, s))
   (c := 281474976702464) (base := ((s.1.length + s.2.1.length + s.2.2.1.length : Nat) : Int)) (by omega) (fun x hx => by have := hl.o x hx; omega) (by omega) (fun i a x hx hm ha hb => by
    have hi := zu hx
    have hlx := hl.o x hm
    show qak_B0 n a (i : Int) s.1 s.2.1 s.2.2.1 s.2.2.2.1 s.2.2.2.2.1 s.2.2.2.2.2.1 s.2.2.2.2.2.2 = _
    unfold qak_B0
    rw [ze, decide_eq_true (by omega), cond_true, zr, hx, Option.bind_some, Option.bind_some, ze, ze, zbW (b := ((x.2.2.1.length : Nat) : Int)) (by omega) (by omega) (by omega), zbW (b := ((x.2.2.2.length : Nat) : Int)) (by omega) (by omega) (by omega), zw (by omega)]
    rw [show a + ((x.2.2.1.length + x.2.2.2.length : Nat) : Int) = a + (x.2.2.1.length : Int) + (x.2.2.2.length : Int) by omega]) (fun a => by
    show qak_B0 n a (s.2.1.length : Int) s.1 s.2.1 s.2.2.1 s.2.2.2.1 s.2.2.2.2.1 s.2.2.2.2.2.1 s.2.2.2.2.2.2 = _
    unfold qak_B0
    rw [ze, decide_eq_false (by omega), cond_false]) (n := n) (by omega)
  obtain ⟨a, e0, a1, a2, a3⟩ := h0
  have h1 := zkm (B := fun s => qak_B2 n s.1.1 s.1.2 s.2.1 s.2.2.1 s.2.2.2.1 s.2.2.2.2.1 s.2.2.2.2.2.1 s.2.2.2.2.2.2.1 s.2.2.2.2.2.2.2) (xs := s.1) (mk := fun i a => ((a, (i : Int)), s)) (f := fun x => x.2.2.1.length + x.2.2.2.length) (e := fun a => (a, s))
   (c := 281474976702464) (base := a) (by omega) (fun x hx => by have := hl.f x hx; omega) (by omega) (fun i a x hx hm ha hb => by
    have hi := zu hx
    have hlx := hl.f x hm
    show qak_B2 n a (i : Int) s.1 s.2.1 s.2.2.1 s.2.2.2.1 s.2.2.2.2.1 s.2.2.2.2.2.1 s.2.2.2.2.2.2 = _
    unfold qak_B2
    rw [ze, decide_eq_true (by omega), cond_true, zr, hx, Option.bind_some, Option.bind_some, ze, ze, zbW (b := ((x.2.2.1.length : Nat) : Int)) (by omega) (by omega) (by omega), zbW (b := ((x.2.2.2.length : Nat) : Int)) (by omega) (by omega) (by omega), zw (by omega)]
    rw [show a + ((x.2.2.1.length + x.2.2.2.length : Nat) : Int) = a + (x.2.2.1.length : Int) + (x.2.2.2.length : Int) by omega]) (fun a => by
    show qak_B2 n a (s.1.length : Int) s.1 s.2.1 s.2.2.1 s.2.2.2.1 s.2.2.2.2.1 s.2.2.2.2.2.1 s.2.2.2.2.2.2 = _
    unfold qak_B2
    rw [ze, decide_eq_false (by omega), cond_false]) (n := n) (by omega)
  obtain ⟨b, e1, b1, b2, b3⟩ := h1
  refine ⟨decide (b < 3000), ?_, fun h => ?_⟩
  ·refine (congrArg (fun q => Option.bind q _) e0).trans ?_
   rw [Option.bind_some]
   refine (congrArg (fun q => Option.bind q _) e1).trans ?_
   rfl
  ·have hb := of_decide_eq_true h
   exact ⟨by omega, fun x hx => by have := b3 x hx; omega, fun x hx => by have := a3 x hx; omega⟩
def two (x : FrD) : List Int := [x.1, x.2.1]
def plL (s : StD) : List Int := [s.2.2.2.2.2.1, s.2.2.2.1, s.2.2.2.2.1] ++ s.1.flatMap (fun x => [x.1, x.2.1]) ++ s.2.1.flatMap (fun x => [x.1, x.2.1]) ++ s.2.2.1.flatMap (fun x => [x.1])
def odd (v : Int) : Bool := decide (v < 0) || decide (v > 2147483647)
theorem zlA (n : Nat) (l : List Int) (hl : l.length ≤ 1000000) (hn : 1000002 ≤ n) : qai_W6 n (0, l) = some (if l.any odd = true then Sum.inl (false, l) else Sum.inr l) := by
 have h := zfx (B := fun s => qai_B6 n s.1 s.2) (xs := l) (mk := fun i => ((i : Int), l)) (p := odd) (found := fun _ _ => Sum.inl (false, l)) (e := Sum.inr l) (fun i x hx => by
   have hi := zu hx
   show qai_B6 n (i : Int) l = _
   unfold qai_B6 odd
   rw [ze, decide_eq_true (by omega), cond_true, decide_eq_true (by omega), Bool.and_self, cond_true, Int.toNat_natCast, hx, Option.bind_some, Option.bind_some, zw (by omega), cond_true]
   cases decide (x < 0) <;> cases decide (x > 2147483647) <;> rfl) (by
   show qai_B6 n (l.length : Int) l = _
   unfold qai_B6
   rw [ze, decide_eq_false (by omega), cond_false]) l.length 0 n (by omega) (by omega)
 rw [List.drop_zero] at h
 rcases h with ⟨h1, k, x, _, _, h2⟩ | ⟨h1, h2⟩
 ·rw [if_pos h1]; exact h2
 ·rw [if_neg (by rw [h1]; simp)]; exact h2
theorem znv (n : Nat) (s : StD) (hN : s.1.length + s.2.1.length + s.2.2.1.length ≤ 100000) (hn : 2000000 ≤ n) : qai n s.1 s.2.1 s.2.2.1 s.2.2.2.1 s.2.2.2.2.1 s.2.2.2.2.2.1 s.2.2.2.2.2.2 = some (!(plL s).any odd) := by
 have h0 : ∀ m : List Int, m.length ≤ 1000000 → qai_W0 n (0, (s, m)) = some (s, m ++ (s.1).flatMap (fun x => [x.1, x.2.1])) := fun m hm => by
  have h := zau (B := fun s => qai_B0 n s.1 s.2.1.1 s.2.1.2.1 s.2.1.2.2.1 s.2.1.2.2.2.1 s.2.1.2.2.2.2.1 s.2.1.2.2.2.2.2.1 s.2.1.2.2.2.2.2.2 s.2.2) (xs := s.1) (mk := fun i a => ((i : Int), (s, a))) (f := fun x => [x.1, x.2.1]) (e := fun a => (s, a)) (c := 2) (m0 := m) (cap := 2000000) (fun x _ => by simp) (by omega) (fun i a x hx hm ha => by
   have hi := zu hx
   simp only [List.length_cons, List.length_nil] at ha
   show qai_B0 n (i : Int) s.1 s.2.1 s.2.2.1 s.2.2.2.1 s.2.2.2.2.1 s.2.2.2.2.2.1 s.2.2.2.2.2.2 a = _
   unfold qai_B0
   rw [ze, decide_eq_true (by omega), cond_true, zr, hx]
   simp only [Option.bind_some]
   rw [zf (by simp; omega), cond_true, zw (by omega)]) (fun a => by
   show qai_B0 n ((s.1).length : Int) s.1 s.2.1 s.2.2.1 s.2.2.2.1 s.2.2.2.2.1 s.2.2.2.2.2.1 s.2.2.2.2.2.2 a = _
   unfold qai_B0
   rw [ze, decide_eq_false (by omega), cond_false]) (n := n) (by omega)
  exact h
 have h2 : ∀ m : List Int, m.length ≤ 1000000 → qai_W2 n (0, (s, m)) = some (s, m ++ (s.2.1).flatMap (fun x => [x.1, x.2.1])) := fun m hm => by
  have h := zau (B := fun s => qai_B2 n s.1 s.2.1.1 s.2.1.2.1 s.2.1.2.2.1 s.2.1.2.2.2.1 s.2.1.2.2.2.2.1 s.2.1.2.2.2.2.2.1 s.2.1.2.2.2.2.2.2 s.2.2) (xs := s.2.1) (mk := fun i a => ((i : Int), (s, a))) (f := fun x => [x.1, x.2.1]) (e := fun a => (s, a)) (c := 2) (m0 := m) (cap := 2000000) (fun x _ => by simp) (by omega) (fun i a x hx hm ha => by
   have hi := zu hx
   simp only [List.length_cons, List.length_nil] at ha
   show qai_B2 n (i : Int) s.1 s.2.1 s.2.2.1 s.2.2.2.1 s.2.2.2.2.1 s.2.2.2.2.2.1 s.2.2.2.2.2.2 a = _
   unfold qai_B2
   rw [ze, decide_eq_true (by omega), cond_true, zr, hx]
   simp only [Option.bind_some]
   rw [zf (by simp; omega), cond_true, zw (by omega)]) (fun a => by
   show qai_B2 n ((s.2.1).length : Int) s.1 s.2.1 s.2.2.1 s.2.2.2.1 s.2.2.2.2.1 s.2.2.2.2.2.1 s.2.2.2.2.2.2 a = _
   unfold qai_B2
   rw [ze, decide_eq_false (by omega), cond_false]) (n := n) (by omega)
  exact h
 have h4 : ∀ m : List Int, m.length ≤ 1000000 → qai_W4 n (0, (s, m)) = some (s, m ++ (s.2.2.1).flatMap (fun x => [x.1])) := fun m hm => by
  have h := zau (B := fun s => qai_B4 n s.1 s.2.1.1 s.2.1.2.1 s.2.1.2.2.1 s.2.1.2.2.2.1 s.2.1.2.2.2.2.1 s.2.1.2.2.2.2.2.1 s.2.1.2.2.2.2.2.2 s.2.2) (xs := s.2.2.1) (mk := fun i a => ((i : Int), (s, a))) (f := fun x => [x.1]) (e := fun a => (s, a)) (c := 2) (m0 := m) (cap := 2000000) (fun x _ => by simp) (by omega) (fun i a x hx hm ha => by
   have hi := zu hx
   simp only [List.length_cons, List.length_nil] at ha
   show qai_B4 n (i : Int) s.1 s.2.1 s.2.2.1 s.2.2.2.1 s.2.2.2.2.1 s.2.2.2.2.2.1 s.2.2.2.2.2.2 a = _
   unfold qai_B4
   rw [ze, decide_eq_true (by omega), cond_true, zr, hx]
   simp only [Option.bind_some]
   rw [zf (by simp; omega), cond_true, zw (by omega)]) (fun a => by
   show qai_B4 n ((s.2.2.1).length : Int) s.1 s.2.1 s.2.2.1 s.2.2.2.1 s.2.2.2.2.1 s.2.2.2.2.2.1 s.2.2.2.2.2.2 a = _
   unfold qai_B4
   rw [ze, decide_eq_false (by omega), cond_false]) (n := n) (by omega)
  exact h
 have f1 := zaM (fun x : FrD => [x.1, x.2.1]) 2 s.1 (fun x _ => by simp)
 have f2 := zaM (fun x : FrD => [x.1, x.2.1]) 2 s.2.1 (fun x _ => by simp)
 have f3 := zaM (fun x : HaD => [x.1]) 2 s.2.2.1 (fun x _ => by simp)
 unfold qai
 refine (congrArg (fun q => Option.bind q _) (h0 [s.2.2.2.2.2.1, s.2.2.2.1, s.2.2.2.2.1] (by simp))).trans ?_
 rw [Option.bind_some]
 refine (congrArg (fun q => Option.bind q _) (h2 _ (by simp only [List.length_append, List.length_cons, List.length_nil]; omega))).trans ?_
 rw [Option.bind_some]
 refine (congrArg (fun q => Option.bind q _) (h4 _ (by simp only [List.length_append, List.length_cons, List.length_nil]; omega))).trans ?_
 rw [Option.bind_some]
 have hw := zlA n (plL s) (by unfold plL; simp only [List.length_append, List.length_cons, List.length_nil]; omega) (by omega)
 refine (congrArg (fun q => Option.bind q _) hw).trans ?_
 cases (plL s).any odd <;> rfl
theorem zow (v : Int) : odd v = false ↔ i31 v := by
 unfold odd i31
 simp only [Bool.or_eq_false_iff, decide_eq_false_iff_not]
 omega
theorem zoY (s : StD) : (plL s).any odd = false ↔ PlS s := by
 rw [List.any_eq_false]
 have hx : ∀ v, ¬ odd v = true ↔ i31 v := fun v => by rw [Bool.not_eq_true]; exact zow v
 constructor
 ·intro h
  have g : ∀ v ∈ plL s, i31 v := fun v hv => (hx v).1 (h v hv)
  unfold plL at g
  exact ⟨fun x hm => ⟨g _ (by simp only [List.mem_append, List.mem_flatMap]; exact .inl (.inl (.inr ⟨x, hm, by simp⟩))), g _ (by simp only [List.mem_append, List.mem_flatMap]; exact .inl (.inl (.inr ⟨x, hm, by simp⟩)))⟩,
   fun x hm => ⟨g _ (by simp only [List.mem_append, List.mem_flatMap]; exact .inl (.inr ⟨x, hm, by simp⟩)), g _ (by simp only [List.mem_append, List.mem_flatMap]; exact .inl (.inr ⟨x, hm, by simp⟩))⟩,
   fun x hm => ⟨g _ (by simp only [List.mem_append, List.mem_flatMap]; exact .inr ⟨x, hm, by simp⟩)⟩, g _ (by simp), g _ (by simp), g _ (by simp)⟩
 ·intro h v hv
  rw [hx]
  unfold plL at hv
  simp only [List.mem_append, List.mem_flatMap] at hv
  rcases hv with ((hv | ⟨x, hm, hv⟩) | ⟨x, hm, hv⟩) | ⟨x, hm, hv⟩
  ·rcases List.mem_cons.1 hv with rfl | hv
   ·exact h.e
   ·rcases List.mem_cons.1 hv with rfl | hv
    ·exact h.q
    ·rw [List.mem_singleton.1 hv]; exact h.u
  ·rcases List.mem_cons.1 hv with rfl | hv
   ·exact (h.f x hm).a
   ·rw [List.mem_singleton.1 hv]; exact (h.f x hm).b
  ·rcases List.mem_cons.1 hv with rfl | hv
   ·exact (h.o x hm).a
   ·rw [List.mem_singleton.1 hv]; exact (h.o x hm).b
  ·rw [List.mem_singleton.1 hv]; exact (h.h x hm).a
end Sx
end
section
/- A copy is the same; an image, and what is read of it, is memory of its own. -/
set_option linter.unusedVariables false
set_option linter.unusedSimpArgs false
namespace Sx
open Go Go.Ab
theorem zdT {A S X : Type} {B : S → Option (S ⊕ X)} {xs : List A} {mk0 : S} {mk1 : Nat → List A → S} {e0 : X} {e1 : List A → X} (h0 : xs = [] → B mk0 = some (.inr e0)) (h1 : ∀ x, xs[0]? = some x → B mk0 = some (.inl (mk1 1 [x])))
  (hs : ∀ i a x, xs[i]? = some x → a.length ≤ xs.length → B (mk1 i a) = some (.inl (mk1 (i + 1) (a ++ [x])))) (he : ∀ a, B (mk1 xs.length a) = some (.inr (e1 a))) {n : Nat} (hn : xs.length + 1 < n) : loopS B n mk0 = some (bif xs.isEmpty then e0 else e1 xs) := by
 obtain ⟨m, rfl⟩ : ∃ m, n = m + 1 := ⟨n - 1, by omega⟩
 cases hx : xs with
 | nil => exact zB (h0 hx)
 | cons x r =>
  rw [zah (h1 x (by rw [hx]; rfl))]
  have h := zcI (B := B) (xs := xs) (mk := mk1) (I := fun i a => a = xs.take i) (Q := fun y => y = e1 xs) (fun i a z hz hI => .inl ⟨a ++ [z], hs i a z hz (by rw [hI, List.length_take]; exact Nat.min_le_right _ _), by rw [hI, List.take_add_one, hz]; rfl⟩)
   (fun a hI => ⟨_, he a, by rw [hI, List.take_length]⟩) r.length 1 m [x] (by rw [hx]; simp; omega) (by rw [hx]; rfl) (by rw [hx] at hn; simp at hn; omega)
  obtain ⟨y, h2, h3⟩ := h
  rw [h2, h3, hx]
  rfl
theorem zoB (n : Nat) (s : StD) (hs : SmallS s) (z : Int × Int × Int × Int) (hn : 20000 ≤ n) :
  qas_W0 n (Sum.inl (0, (s, (z, (s.2.2.2, s.2.2.1))))) = some (bif s.1.isEmpty then Sum.inl (s, (z, (s.2.2.2, s.2.2.1))) else Sum.inr (s, (z, (s.2.2.2, (s.1, s.2.2.1))))) := by
 have hN := hs.n
 exact zdT (B := qas_M0 n) (xs := s.1) (mk0 := Sum.inl (0, (s, (z, (s.2.2.2, s.2.2.1))))) (mk1 := fun i a => Sum.inr ((i : Int), (s, (z, (s.2.2.2, (a, s.2.2.1)))))) (e0 := Sum.inl (s, (z, (s.2.2.2, s.2.2.1)))) (e1 := fun a => Sum.inr (s, (z, (s.2.2.2, (a, s.2.2.1)))))
  (fun h => by
   show qas_B0q0 n 0 s.1 s.2.1 s.2.2.1 s.2.2.2.1 s.2.2.2.2.1 s.2.2.2.2.2.1 s.2.2.2.2.2.2 z.1 z.2.1 z.2.2.1 z.2.2.2 s.2.2.2.1 s.2.2.2.2.1 s.2.2.2.2.2.1 s.2.2.2.2.2.2 s.2.2.1 = _
   unfold qas_B0q0
   rw [ze, decide_eq_false (by rw [h]; simp), cond_false]) (fun x hx => by
   have hi := zu hx
   have hb := hs.f x (List.mem_of_getElem? hx)
   show qas_B0q0 n 0 s.1 s.2.1 s.2.2.1 s.2.2.2.1 s.2.2.2.2.1 s.2.2.2.2.2.1 s.2.2.2.2.2.2 z.1 z.2.1 z.2.2.1 z.2.2.2 s.2.2.2.1 s.2.2.2.2.1 s.2.2.2.2.2.1 s.2.2.2.2.2.2 s.2.2.1 = _
   unfold qas_B0q0
   have hg : getI s.1 0 = some x := (zr s.1 0).trans hx
   rw [ze, decide_eq_true (by omega), cond_true, hg, Option.bind_some, zf (by omega), cond_true, zf (by omega), cond_true, zf (by simp), cond_true]
   rfl) (fun i a x hx ha => by
   have hi := zu hx
   have hb := hs.f x (List.mem_of_getElem? hx)
   show qas_B0q1 n (i : Int) s.1 s.2.1 s.2.2.1 s.2.2.2.1 s.2.2.2.2.1 s.2.2.2.2.2.1 s.2.2.2.2.2.2 z.1 z.2.1 z.2.2.1 z.2.2.2 s.2.2.2.1 s.2.2.2.2.1 s.2.2.2.2.2.1 s.2.2.2.2.2.2 a s.2.2.1 = _
   unfold qas_B0q1
   rw [ze, decide_eq_true (by omega), cond_true, zr, hx, Option.bind_some, zf (by omega), cond_true, zf (by omega), cond_true, zf (by simp; omega), cond_true, zw (by omega)]) (fun a => by
   show qas_B0q1 n (s.1.length : Int) s.1 s.2.1 s.2.2.1 s.2.2.2.1 s.2.2.2.2.1 s.2.2.2.2.2.1 s.2.2.2.2.2.2 z.1 z.2.1 z.2.2.1 z.2.2.2 s.2.2.2.1 s.2.2.2.2.1 s.2.2.2.2.2.1 s.2.2.2.2.2.2 a s.2.2.1 = _
   unfold qas_B0q1
   rw [ze, decide_eq_false (by omega), cond_false]) (n := n) (by omega)
theorem znt (n : Nat) (s : StD) (hs : SmallS s) (z : Int × Int × Int × Int) (hn : 20000 ≤ n) :
  qas_W2x1 n (Sum.inl (0, (s, (z, (s.2.2.2, s.2.2.1))))) = some (bif s.2.1.isEmpty then Sum.inl (s, (z, (s.2.2.2, s.2.2.1))) else Sum.inr (Sum.inl (s, (z, (s.2.2.2, (s.2.1, s.2.2.1)))))) := by
 have hN := hs.n
 exact zdT (B := qas_M2x1 n) (xs := s.2.1) (mk0 := Sum.inl (0, (s, (z, (s.2.2.2, s.2.2.1))))) (mk1 := fun i a => Sum.inr (Sum.inl ((i : Int), (s, (z, (s.2.2.2, (a, s.2.2.1))))))) (e0 := Sum.inl (s, (z, (s.2.2.2, s.2.2.1)))) (e1 := fun a => Sum.inr (Sum.inl (s, (z, (s.2.2.2, (a, s.2.2.1))))))
  (fun h => by
   show qas_B2x1q0 n 0 s.1 s.2.1 s.2.2.1 s.2.2.2.1 s.2.2.2.2.1 s.2.2.2.2.2.1 s.2.2.2.2.2.2 z.1 z.2.1 z.2.2.1 z.2.2.2 s.2.2.2.1 s.2.2.2.2.1 s.2.2.2.2.2.1 s.2.2.2.2.2.2 s.2.2.1 = _
   unfold qas_B2x1q0
   rw [ze, decide_eq_false (by rw [h]; simp), cond_false]) (fun x hx => by
   have hi := zu hx
   have hb := hs.o x (List.mem_of_getElem? hx)
   show qas_B2x1q0 n 0 s.1 s.2.1 s.2.2.1 s.2.2.2.1 s.2.2.2.2.1 s.2.2.2.2.2.1 s.2.2.2.2.2.2 z.1 z.2.1 z.2.2.1 z.2.2.2 s.2.2.2.1 s.2.2.2.2.1 s.2.2.2.2.2.1 s.2.2.2.2.2.2 s.2.2.1 = _
   unfold qas_B2x1q0
   have hg : getI s.2.1 0 = some x := (zr s.2.1 0).trans hx
   rw [ze, decide_eq_true (by omega), cond_true, hg, Option.bind_some, zf (by omega), cond_true, zf (by omega), cond_true, zf (by simp), cond_true]
   rfl) (fun i a x hx ha => by
   have hi := zu hx
   have hb := hs.o x (List.mem_of_getElem? hx)
   show qas_B2x1q1 n (i : Int) s.1 s.2.1 s.2.2.1 s.2.2.2.1 s.2.2.2.2.1 s.2.2.2.2.2.1 s.2.2.2.2.2.2 z.1 z.2.1 z.2.2.1 z.2.2.2 s.2.2.2.1 s.2.2.2.2.1 s.2.2.2.2.2.1 s.2.2.2.2.2.2 a s.2.2.1 = _
   unfold qas_B2x1q1
   rw [ze, decide_eq_true (by omega), cond_true, zr, hx, Option.bind_some, zf (by omega), cond_true, zf (by omega), cond_true, zf (by simp; omega), cond_true, zw (by omega)]) (fun a => by
   show qas_B2x1q1 n (s.2.1.length : Int) s.1 s.2.1 s.2.2.1 s.2.2.2.1 s.2.2.2.2.1 s.2.2.2.2.2.1 s.2.2.2.2.2.2 z.1 z.2.1 z.2.2.1 z.2.2.2 s.2.2.2.1 s.2.2.2.2.1 s.2.2.2.2.2.1 s.2.2.2.2.2.2 a s.2.2.1 = _
   unfold qas_B2x1q1
   rw [ze, decide_eq_false (by omega), cond_false]) (n := n) (by omega)
theorem znJ (n : Nat) (s : StD) (hs : SmallS s) (z : Int × Int × Int × Int) (hn : 20000 ≤ n) :
  qas_W2x1 n (Sum.inr (Sum.inr (Sum.inl (0, (s, (z, (s.2.2.2, (s.1, s.2.2.1)))))))) = some (bif s.2.1.isEmpty then Sum.inr (Sum.inr (Sum.inl (s, (z, (s.2.2.2, (s.1, s.2.2.1)))))) else Sum.inr (Sum.inr (Sum.inr (s, (z, (s.2.2.2, (s.1, (s.2.1, s.2.2.1)))))))) := by
 have hN := hs.n
 exact zdT (B := qas_M2x1 n) (xs := s.2.1) (mk0 := Sum.inr (Sum.inr (Sum.inl (0, (s, (z, (s.2.2.2, (s.1, s.2.2.1)))))))) (mk1 := fun i a => Sum.inr (Sum.inr (Sum.inr ((i : Int), (s, (z, (s.2.2.2, (s.1, (a, s.2.2.1))))))))) (e0 := Sum.inr (Sum.inr (Sum.inl (s, (z, (s.2.2.2, (s.1, s.2.2.1))))))) (e1 := fun a => Sum.inr (Sum.inr (Sum.inr (s, (z, (s.2.2.2, (s.1, (a, s.2.2.1))))))))
  (fun h => by
   show qas_B2x1q2 n 0 s.1 s.2.1 s.2.2.1 s.2.2.2.1 s.2.2.2.2.1 s.2.2.2.2.2.1 s.2.2.2.2.2.2 z.1 z.2.1 z.2.2.1 z.2.2.2 s.2.2.2.1 s.2.2.2.2.1 s.2.2.2.2.2.1 s.2.2.2.2.2.2 s.1 s.2.2.1 = _
   unfold qas_B2x1q2
   rw [ze, decide_eq_false (by rw [h]; simp), cond_false]) (fun x hx => by
   have hi := zu hx
   have hb := hs.o x (List.mem_of_getElem? hx)
   show qas_B2x1q2 n 0 s.1 s.2.1 s.2.2.1 s.2.2.2.1 s.2.2.2.2.1 s.2.2.2.2.2.1 s.2.2.2.2.2.2 z.1 z.2.1 z.2.2.1 z.2.2.2 s.2.2.2.1 s.2.2.2.2.1 s.2.2.2.2.2.1 s.2.2.2.2.2.2 s.1 s.2.2.1 = _
   unfold qas_B2x1q2
   have hg : getI s.2.1 0 = some x := (zr s.2.1 0).trans hx
   rw [ze, decide_eq_true (by omega), cond_true, hg, Option.bind_some, zf (by omega), cond_true, zf (by omega), cond_true, zf (by simp), cond_true]
   rfl) (fun i a x hx ha => by
   have hi := zu hx
   have hb := hs.o x (List.mem_of_getElem? hx)
   show qas_B2x1q3 n (i : Int) s.1 s.2.1 s.2.2.1 s.2.2.2.1 s.2.2.2.2.1 s.2.2.2.2.2.1 s.2.2.2.2.2.2 z.1 z.2.1 z.2.2.1 z.2.2.2 s.2.2.2.1 s.2.2.2.2.1 s.2.2.2.2.2.1 s.2.2.2.2.2.2 s.1 a s.2.2.1 = _
   unfold qas_B2x1q3
   rw [ze, decide_eq_true (by omega), cond_true, zr, hx, Option.bind_some, zf (by omega), cond_true, zf (by omega), cond_true, zf (by simp; omega), cond_true, zw (by omega)]) (fun a => by
   show qas_B2x1q3 n (s.2.1.length : Int) s.1 s.2.1 s.2.2.1 s.2.2.2.1 s.2.2.2.2.1 s.2.2.2.2.2.1 s.2.2.2.2.2.2 z.1 z.2.1 z.2.2.1 z.2.2.2 s.2.2.2.1 s.2.2.2.2.1 s.2.2.2.2.2.1 s.2.2.2.2.2.2 s.1 a s.2.2.1 = _
   unfold qas_B2x1q3
   rw [ze, decide_eq_false (by omega), cond_false]) (n := n) (by omega)
theorem zot (n : Nat) (s : StD) (hs : SmallS s) (hn : 20000 ≤ n) : qas n s.1 s.2.1 s.2.2.1 s.2.2.2.1 s.2.2.2.2.1 s.2.2.2.2.2.1 s.2.2.2.2.2.2 = some s := by
 have hN := hs.n
 unfold qas
 rw [zf (by omega), cond_true]
 refine (congrArg (fun q => Option.bind q _) (zoB n s hs (0, (0, (0, 0))) hn)).trans ?_
 rw [Option.bind_some]
 have ha := znt n s hs (0, (0, (0, 0))) hn
 have hb := znJ n s hs (0, (0, (0, 0))) hn
 obtain ⟨f, o, h, q, u, e, v⟩ := s
 cases f with
 | nil =>
  simp only [List.isEmpty_nil, List.isEmpty_cons, cond_true, cond_false] at ha ⊢
  refine (congrArg (fun q => Option.bind q _) ha).trans ?_
  cases o <;> rfl
 | cons x r =>
  simp only [List.isEmpty_nil, List.isEmpty_cons, cond_true, cond_false] at hb ⊢
  refine (congrArg (fun q => Option.bind q _) hb).trans ?_
  cases o <;> rfl
theorem zof (n : Nat) (e : Int) (s : StD) (b : List Int) (t r : StD) (hb : b.length ≤ 1000000) (hn : 1000002 ≤ n) : ∃ m, law20ImageOwn_W0 n ((e, 0), (s, (b, (t, r)))) = some (e, (s, (m, (t, r)))) := by
 have h := zcI (B := fun s => law20ImageOwn_B0 n s.1.1 s.1.2 s.2.1.1 s.2.1.2.1 s.2.1.2.2.1 s.2.1.2.2.2.1 s.2.1.2.2.2.2.1 s.2.1.2.2.2.2.2.1 s.2.1.2.2.2.2.2.2 s.2.2.1 s.2.2.2.1.1 s.2.2.2.1.2.1 s.2.2.2.1.2.2.1 s.2.2.2.1.2.2.2.1 s.2.2.2.1.2.2.2.2.1 s.2.2.2.1.2.2.2.2.2.1 s.2.2.2.1.2.2.2.2.2.2 s.2.2.2.2.1 s.2.2.2.2.2.1 s.2.2.2.2.2.2.1 s.2.2.2.2.2.2.2.1 s.2.2.2.2.2.2.2.2.1 s.2.2.2.2.2.2.2.2.2.1 s.2.2.2.2.2.2.2.2.2.2) (xs := b) (mk := fun i m => ((e, (i : Int)), (s, (m, (t, r))))) (I := fun i m => m.length = b.length)
  (Q := fun y => ∃ m, y = (e, (s, (m, (t, r))))) (fun i m x hx hI => by
   have hi := zu hx
   refine .inl ⟨m.set i (addI .u8 (m[i]'(by omega)) 1), ?_, by rw [List.length_set, hI]⟩
   show law20ImageOwn_B0 n e (i : Int) s.1 s.2.1 s.2.2.1 s.2.2.2.1 s.2.2.2.2.1 s.2.2.2.2.2.1 s.2.2.2.2.2.2 m t.1 t.2.1 t.2.2.1 t.2.2.2.1 t.2.2.2.2.1 t.2.2.2.2.2.1 t.2.2.2.2.2.2 r.1 r.2.1 r.2.2.1 r.2.2.2.1 r.2.2.2.2.1 r.2.2.2.2.2.1 r.2.2.2.2.2.2 = _
   unfold law20ImageOwn_B0
   rw [ze, decide_eq_true (by omega), cond_true, decide_eq_true (by omega), Bool.and_self, cond_true, Int.toNat_natCast, List.getElem?_eq_getElem (by omega), Option.bind_some, cond_true, Nat.ble_eq_true_of_le (by omega), cond_true, zw (by omega)]) (fun m hI => ⟨_, by
   show law20ImageOwn_B0 n e (b.length : Int) s.1 s.2.1 s.2.2.1 s.2.2.2.1 s.2.2.2.2.1 s.2.2.2.2.2.1 s.2.2.2.2.2.2 m t.1 t.2.1 t.2.2.1 t.2.2.2.1 t.2.2.2.2.1 t.2.2.2.2.2.1 t.2.2.2.2.2.2 r.1 r.2.1 r.2.2.1 r.2.2.2.1 r.2.2.2.2.1 r.2.2.2.2.2.1 r.2.2.2.2.2.2 = _
   unfold law20ImageOwn_B0
   rw [ze, decide_eq_false (by omega), cond_false], m, rfl⟩) b.length 0 n b (by omega) rfl (by omega)
 obtain ⟨y, h1, m, rfl⟩ := h
 exact ⟨m, h1⟩
theorem zmr (s : StD) (ho : OkS s) (hl : LenSt s) (p : BitVec 32) : law20ImageOwn 100000000 s.1 s.2.1 s.2.2.1 s.2.2.2.1 s.2.2.2.2.1 s.2.2.2.2.2.1 s.2.2.2.2.2.2 (W32 p) = some true := by
 unfold law20ImageOwn
 obtain ⟨x, e, hS⟩ := small20 100000000 s hl (by omega)
 rw [e, Option.bind_some, answers20 100000000 (by omega)]
 cases x with
 | false => rfl
 | true =>
  have hs := hS rfl
  have hN := hs.n
  have hb := zgx false ho hs p
  have hlen := zkj false hs p
  have hsl := zfb (imgB false s p)
  rw [Bool.not_true, cond_false, znv 100000000 s (by omega) (by omega), Option.bind_some]
  cases hp : (plL s).any odd with
  | true => rfl
  | false =>
   have hpl := (zoY s).1 hp
   rw [Bool.not_false, Bool.not_true, cond_false, zop 100000000 (by omega) false s ho hs p, Option.bind_some, ze]
   by_cases h1 : (sealV (imgB false s p)).length > 65536
   ·rw [decide_eq_true (by omega)]; rfl
   ·rw [decide_eq_false (by omega), cond_false, zmP 100000000 _ (zfF hb) (by omega) (by omega), Option.bind_some, znA _ (by omega), zmx s ho hs hpl p]
    simp only
    rw [zot 100000000 s hs (by omega), Option.bind_some]
    obtain ⟨m, hm⟩ := zof 100000000 0 s (sealV (imgB false s p)) s s (by omega) (by omega)
    refine (congrArg (fun q => Option.bind q _) hm).trans ?_
    simp only [Option.bind_some, cond_true, beq_self_eq_true]
    rw [zko 100000000 s hs (by omega)]
    rfl
end Sx
end
section
/- The plain law of ImageVersion at the row's own data. -/
set_option linter.unusedVariables false
namespace Sx
open Go Go.Ab
end Sx
end
section
/- The plain laws over states at the rows' own data. -/
set_option linter.unusedVariables false
namespace Sx
open Go Go.Ab
abbrev numsT : Ty := .sl false (.int .u64)
abbrev frT : Ty := .cons (.int .i64) (.cons (.int .i64) (.cons numsT numsT))
abbrev obT : Ty := .cons (.int .i64) (.cons (.int .i64) (.cons numsT (.sl false (.int .u8))))
abbrev haT : Ty := .cons (.int .i64) (.cons (.int .u64) .bool)
def shS : Sh := .agg (.cons (.sl true true frT) (.cons (.sl true true obT) (.cons (.sl true true haT) (.cons (.int .i64) (.cons (.int .i64) (.cons (.int .i64) (.cons (.int .u64) .nil)))))))
theorem zoP {d : StD} (h : FitS shS d) : OkS d ∧ LenSt d := by
 obtain ⟨⟨l1, e1⟩, ⟨l2, e2⟩, ⟨l3, e3⟩, q, u, e, v, _⟩ : Fit (.sl true frT) d.1 ∧ Fit (.sl true obT) d.2.1 ∧ Fit (.sl true haT) d.2.2.1 ∧ Fit (.int .i64) d.2.2.2.1 ∧ Fit (.int .i64) d.2.2.2.2.1 ∧ Fit (.int .i64) d.2.2.2.2.2.1 ∧ Fit (.int .u64) d.2.2.2.2.2.2 ∧ True := h
 have f1 : ∀ x ∈ d.1, Fit (.int .i64) x.1 ∧ Fit (.int .i64) x.2.1 ∧ Fit numsT x.2.2.1 ∧ Fit numsT x.2.2.2 := e1
 have f2 : ∀ x ∈ d.2.1, Fit (.int .i64) x.1 ∧ Fit (.int .i64) x.2.1 ∧ Fit numsT x.2.2.1 ∧ Fit (.sl false (.int .u8)) x.2.2.2 := e2
 have f3 : ∀ x ∈ d.2.2.1, Fit (.int .i64) x.1 ∧ Fit (.int .u64) x.2.1 ∧ Fit .bool x.2.2 := e3
 refine ⟨⟨fun x hx => ?_, fun x hx => ?_, fun x hx => ?_, zcY q, zcY u, zcY e, zhe v⟩, ⟨l1, l2, l3, fun x hx => ?_, fun x hx => ?_⟩⟩
 ·obtain ⟨a, b, ⟨_, c⟩, ⟨_, k⟩⟩ := f1 x hx
  exact ⟨zcY a, zcY b, fun v hv => zhe (c v hv), fun v hv => zhe (k v hv)⟩
 ·obtain ⟨a, b, ⟨_, c⟩, ⟨_, k⟩⟩ := f2 x hx
  exact ⟨zcY a, zcY b, fun v hv => zhe (c v hv), fun v hv => zpn (k v hv)⟩
 ·obtain ⟨a, b, _⟩ := f3 x hx
  exact ⟨zcY a, zhe b⟩
 ·obtain ⟨_, _, ⟨c, _⟩, ⟨k, _⟩⟩ := f1 x hx
  exact ⟨c, k⟩
 ·obtain ⟨_, _, ⟨c, _⟩, ⟨k, _⟩⟩ := f2 x hx
  exact ⟨c, k⟩
end Sx
end
section
/- The plain law of ImageOwn at the row's own data. -/
set_option linter.unusedVariables false
namespace Sx
open Go Go.Ab
theorem zmN (d : StD × Int) (hf : FitS (.cons shS (.cons (.int .u32) .nil)) d) : ∃ n, law20ImageOwn n d.1.1 d.1.2.1 d.1.2.2.1 d.1.2.2.2.1 d.1.2.2.2.2.1 d.1.2.2.2.2.2.1 d.1.2.2.2.2.2.2 d.2 = some true := by
 obtain ⟨h1, h2, _⟩ : FitS shS d.1 ∧ Fit (.int .u32) d.2 ∧ True := hf
 obtain ⟨p, hp⟩ := zlf (zpf h2)
 obtain ⟨ho, hl⟩ := zoP h1
 exact ⟨100000000, by rw [← hp]; exact zmr d.1 ho hl p⟩
end Sx
end
