/- The plain laws of the sums: what the printed functions come to. -/
import Derived.Test.YtmlpkolbibopbaaSumAll
import Derived.Test.YtmlpkolbibopbaaLib26
set_option linter.unusedVariables false
set_option linter.unusedSimpArgs false
namespace Sx
open Go Go.Ab
/-! ### steps -/
def it {α : Type} (f : α → α) : Nat → α → α
  | 0, x => x
  | k + 1, x => f (it f k x)
theorem it_in {α : Type} (f : α → α) : ∀ (k : Nat) (x : α), it f (k + 1) x = it f k (f x)
  | 0, x => rfl
  | k + 1, x => congrArg f (it_in f k x)
theorem it_add {α : Type} (f : α → α) (j : Nat) : ∀ (k : Nat) (x : α), it f (j + k) x = it f j (it f k x)
  | 0, x => rfl
  | k + 1, x => by
    rw [show j + (k + 1) = (j + k) + 1 by omega, it_in, it_add f j k, ← it_in]
def stp (x : BitVec 32) : BitVec 32 := (x >>> 1) ^^^ (bif x.getLsbD 0 then 0xedb88320#32 else 0#32)
/-- What eight rounds make of a byte. -/
def bst (x : BitVec 32) (c : Int) : BitVec 32 := it stp 8 (x ^^^ BitVec.ofInt 32 c)
def crc (x : BitVec 32) (b : List Int) : BitVec 32 := b.foldl bst x
/-- The sum of bytes. -/
def sumV (b : List Int) : BitVec 32 := ~~~(crc 0xffffffff#32 b)
def IsBytes (b : List Int) : Prop := ∀ x ∈ b, 0 ≤ x ∧ x ≤ 255
theorem low_bit (x : BitVec 32) : (W32 x) % 2 = (bif x.getLsbD 0 then 1 else 0) := by
  unfold W32
  have h : x.getLsbD 0 = decide (x.toNat % 2 = 1) := by
    rw [BitVec.getLsbD, Nat.testBit_zero]
  rw [h]
  cases hd : decide (x.toNat % 2 = 1) with
  | true => have := of_decide_eq_true hd; simp only [cond_true]; omega
  | false => have := of_decide_eq_false hd; simp only [cond_false]; omega
theorem and_one (x : BitVec 32) : andI .u32 (W32 x) 1 = (bif x.getLsbD 0 then 1 else 0) := by
  rw [and_W32, ofInt_W32, show BitVec.ofInt 32 1 = 1#32 from rfl, BitVec.and_one_eq_setWidth_ofBool_getLsbD]
  cases x.getLsbD 0 <;> rfl
theorem stp_go (x : BitVec 32) : xorI .u32 (shrI .u32 (W32 x) 1) (mulI .u32 3988292384 (andI .u32 (W32 x) 1)) = W32 (stp x) := by
  rw [xor_W32, shr1_W32, ofInt_W32, and_one]
  unfold stp
  cases x.getLsbD 0 <;> rfl
theorem stp_ref (x : BitVec 32) : (bif (remI (W32 x) 2) == 1 then xorI .u32 (quoI .u32 (W32 x) 2) 3988292384 else quoI .u32 (W32 x) 2) = W32 (stp x) := by
  rw [remI_nonneg (W32_lt x).1, low_bit, half_W32]
  unfold stp
  cases x.getLsbD 0 with
  | false =>
    show W32 (x >>> 1) = W32 (x >>> 1 ^^^ 0#32)
    rw [BitVec.xor_zero]
  | true =>
    show xorI .u32 (W32 (x >>> 1)) 3988292384 = _
    rw [xor_W32, ofInt_W32]; rfl
/-! ### the two sums -/
theorem of_W2 (n : Nat) (x : BitVec 32) (a : List Int) (b c : Int) (hn : 9 ≤ n) : sumOf_W2 n (W32 x, a, b, c, 0) = some (W32 (it stp 8 x), a, b, c) := by
  refine loopS_run (f := fun i => (W32 (it stp i x), a, b, c, (i : Int))) (k := 8) (fun i hi => ?_) ?_ 8 0 n rfl (by omega)
  · show sumOf_B2 n _ _ _ _ _ = _
    dsimp only
    unfold sumOf_B2
    rw [decide_eq_true (by omega), cond_true, stp_go, addI_i64 (by omega) (by omega)]
    rfl
  · rfl
theorem foldl_take {α β : Type} (f : β → α → β) (x : β) (l : List α) (i : Nat) (c : α) (h : l[i]? = some c) : (l.take (i + 1)).foldl f x = f ((l.take i).foldl f x) c := by
  rw [List.take_add_one, h, List.foldl_append]
  rfl
theorem of_W0 (n : Nat) (b : List Int) (hb : IsBytes b) (hl : b.length ≤ 4294967296) (hn : b.length + 9 ≤ n) : sumOf_W0 n (4294967295, (b, ((lenI b), 0))) = some (W32 (crc 0xffffffff#32 b)) := by
  have := loopS_run (B := fun s => sumOf_B0 n s.1 s.2.1 s.2.2.1 s.2.2.2) (f := fun i => (W32 (crc 0xffffffff#32 (b.take i)), b, lenI b, (i : Int))) (k := b.length) (x := W32 (crc 0xffffffff#32 b)) (fun i hi => ?_) ?_ b.length 0 n (by omega) (by omega)
  · exact this
  · show sumOf_B0 n _ _ _ _ = _
    dsimp only
    unfold sumOf_B0
    have hg : b[i]? = some b[i] := List.getElem?_eq_getElem hi
    have hc := hb b[i] (List.getElem_mem hi)
    rw [lenI_eq, decide_eq_true (by omega), cond_true, getI_nat, hg]
    show ((sumOf_W2 n (xorI .u32 (W32 (crc 0xffffffff#32 (b.take i))) (cvtI .u32 b[i]), b, (b.length : Int), (i : Int), 0)).bind fun r2 => some (Sum.inl (r2.1, (r2.2.1, (r2.2.2.1, (addI .i64 r2.2.2.2 1)))))) = _
    rw [cvtI_u32 hc.1 (by omega), xor_W32, ofInt_W32, of_W2 _ _ _ _ _ (by omega)]
    show some (Sum.inl (W32 (bst (crc 0xffffffff#32 (b.take i)) b[i]), b, (b.length : Int), addI .i64 (i : Int) 1)) = _
    rw [addI_i64 (by omega) (by omega)]
    have : crc 0xffffffff#32 (b.take (i + 1)) = bst (crc 0xffffffff#32 (b.take i)) b[i] := foldl_take _ _ _ _ _ hg
    rw [← this]
    rfl
  · show sumOf_B0 n _ _ _ _ = _
    dsimp only
    unfold sumOf_B0
    rw [lenI_eq, decide_eq_false (by omega), cond_false, List.take_length]
theorem of_eq (n : Nat) (b : List Int) (hb : IsBytes b) (hl : b.length ≤ 4294967296) (hn : b.length + 9 ≤ n) : sumOf n b = some (W32 (sumV b)) := by
  unfold sumOf
  rw [of_W0 n b hb hl hn]
  show some (notI .u32 (W32 (crc 0xffffffff#32 b))) = _
  rw [not_W32]
  rfl
theorem ref_W2 (n : Nat) (b : List Int) (x : BitVec 32) (c : Int) (hn : 9 ≤ n) : ref01Sum_W2 n (b, W32 x, c, 0) = some (b, W32 (it stp 8 x), c) := by
  refine loopS_run (f := fun i => (b, W32 (it stp i x), c, (i : Int))) (k := 8) (fun i hi => ?_) ?_ 8 0 n rfl (by omega)
  · show ref01Sum_B2 n _ _ _ _ = _
    dsimp only
    unfold ref01Sum_B2
    have h := stp_ref (it stp i x)
    rw [decide_eq_true (by omega), cond_true, addI_i64 (by omega) (by omega)]
    cases hc : remI (W32 (it stp i x)) 2 == 1 with
    | true => rw [hc, cond_true] at h; rw [cond_true, h]; rfl
    | false => rw [hc, cond_false] at h; rw [cond_false, h]; rfl
  · rfl
theorem ref_W0 (n : Nat) (b : List Int) (hb : IsBytes b) (hl : b.length ≤ 4294967296) (hn : b.length + 9 ≤ n) : ref01Sum_W0 n (b, (4294967295, 0)) = some (W32 (crc 0xffffffff#32 b)) := by
  have := loopS_run (B := fun s => ref01Sum_B0 n s.1 s.2.1 s.2.2) (f := fun i => (b, W32 (crc 0xffffffff#32 (b.take i)), (i : Int))) (k := b.length) (x := W32 (crc 0xffffffff#32 b)) (fun i hi => ?_) ?_ b.length 0 n (by omega) (by omega)
  · exact this
  · show ref01Sum_B0 n _ _ _ = _
    dsimp only
    unfold ref01Sum_B0
    have hg : b[i]? = some b[i] := List.getElem?_eq_getElem hi
    have hc := hb b[i] (List.getElem_mem hi)
    rw [lenI_eq, decide_eq_true (by omega), cond_true, getI_nat, hg]
    show ((ref01Sum_W2 n (b, xorI .u32 (W32 (crc 0xffffffff#32 (b.take i))) (cvtI .u32 b[i]), (i : Int), 0)).bind fun r2 => some (Sum.inl (r2.1, (r2.2.1, (addI .i64 r2.2.2 1))))) = _
    rw [cvtI_u32 hc.1 (by omega), xor_W32, ofInt_W32, ref_W2 _ _ _ _ (by omega)]
    show some (Sum.inl (b, W32 (bst (crc 0xffffffff#32 (b.take i)) b[i]), addI .i64 (i : Int) 1)) = _
    rw [addI_i64 (by omega) (by omega)]
    have : crc 0xffffffff#32 (b.take (i + 1)) = bst (crc 0xffffffff#32 (b.take i)) b[i] := foldl_take _ _ _ _ _ hg
    rw [← this]
    rfl
  · show ref01Sum_B0 n _ _ _ = _
    dsimp only
    unfold ref01Sum_B0
    rw [lenI_eq, decide_eq_false (by omega), cond_false, List.take_length]
theorem refSum_eq (n : Nat) (b : List Int) (hb : IsBytes b) (hl : b.length ≤ 4294967296) (hn : b.length + 9 ≤ n) : ref01Sum n b = some (W32 (sumV b)) := by
  unfold ref01Sum
  rw [ref_W0 n b hb hl hn]
  show some (notI .u32 (W32 (crc 0xffffffff#32 b))) = _
  rw [not_W32]
  rfl
/-! ### four bytes of a word -/
def le4 (x : BitVec 32) : List Int := [W32 x % 256, W32 x / 256 % 256, W32 x / 65536 % 256, W32 x / 16777216 % 256]
theorem fixed_eq (n : Nat) (x : BitVec 32) (hn : 5 ≤ n) : numFixed n (W32 x) 4 = some (le4 x) := by
  obtain ⟨m, rfl⟩ : ∃ m, n = m + 5 := ⟨n - 5, by omega⟩
  have h : numFixed (m + 5) (W32 x) 4 = some [cvtI .u8 (shrI .u64 (W32 x) 0), cvtI .u8 (shrI .u64 (W32 x) 8), cvtI .u8 (shrI .u64 (W32 x) 16), cvtI .u8 (shrI .u64 (W32 x) 24)] := rfl
  have hx := W32_lt x
  rw [h]
  have e : ∀ (k : Int) (d : Int), 0 < d → 2 ^ (min k.toNat 64) = d → cvtI .u8 (shrI .u64 (W32 x) k) = W32 x / d % 256 := by
    intro k d hd hk
    rw [cvtI_u8_mod]
    show (W32 x).fdiv (2 ^ (min k.toNat 64)) % 256 = _
    rw [hk, Int.fdiv_eq_ediv_of_nonneg _ (by omega)]
  rw [e 0 1 (by omega) rfl, e 8 256 (by omega) rfl, e 16 65536 (by omega) rfl, e 24 16777216 (by omega) rfl, Int.ediv_one]
  rfl
theorem refFixed_eq (n : Nat) (x : BitVec 32) (hn : 5 ≤ n) : ref01Fixed n (W32 x) 4 = some (le4 x) := by
  obtain ⟨m, rfl⟩ : ∃ m, n = m + 5 := ⟨n - 5, by omega⟩
  have h : ref01Fixed (m + 5) (W32 x) 4 = some [cvtI .u8 (remI (W32 x) 256), cvtI .u8 (remI (quoI .u64 (W32 x) 256) 256), cvtI .u8 (remI (quoI .u64 (quoI .u64 (W32 x) 256) 256) 256), cvtI .u8 (remI (quoI .u64 (quoI .u64 (quoI .u64 (W32 x) 256) 256) 256) 256)] := rfl
  have hx := W32_lt x
  have q : ∀ v : Int, 0 ≤ v → v ≤ 4294967295 → quoI .u64 v 256 = v / 256 := by
    intro v h1 h2
    show IntKind.u64.wrap (v.tdiv 256) = _
    rw [Int.tdiv_eq_ediv_of_nonneg h1, wrapU64]
    omega
  rw [h, q (W32 x) (by omega) (by omega), q (W32 x / 256) (by omega) (by omega), q (W32 x / 256 / 256) (by omega) (by omega), remI_nonneg (by omega), remI_nonneg (by omega), remI_nonneg (by omega), remI_nonneg (by omega),
    cvtI_u8_mod, cvtI_u8_mod, cvtI_u8_mod, cvtI_u8_mod]
  unfold le4
  have e1 : W32 x / 256 / 256 = W32 x / 65536 := by omega
  have e2 : W32 x / 65536 / 256 = W32 x / 16777216 := by omega
  rw [e1, e2]
  simp
theorem le4_bytes (x : BitVec 32) : IsBytes (le4 x) := by
  intro y hy
  simp only [le4, List.mem_cons, List.not_mem_nil, or_false] at hy
  rcases hy with rfl | rfl | rfl | rfl <;> omega
theorem le4_inj {x y : BitVec 32} (h : le4 x = le4 y) : x = y := by
  simp only [le4, List.cons.injEq, and_true] at h
  have hx := W32_lt x
  have hy := W32_lt y
  apply W32_inj
  omega
def sealV (b : List Int) : List Int := b ++ le4 (sumV b)
theorem sealV_len (b : List Int) : (sealV b).length = b.length + 4 := by simp [sealV, le4]
theorem sealV_bytes {b : List Int} (h : IsBytes b) : IsBytes (sealV b) := by
  intro x hx
  rcases List.mem_append.1 hx with hx | hx
  · exact h x hx
  · exact le4_bytes _ x hx
theorem seal_eq (n : Nat) (b : List Int) (hb : IsBytes b) (hl : b.length ≤ 4294967000) (hn : b.length + 9 ≤ n) : sumSeal n b = some (sealV b) := by
  unfold sumSeal
  have h1 : Nat.ble b.length 4294967296 = true := Nat.ble_eq_true_of_le (by omega)
  have h2 : Nat.ble (b ++ le4 (sumV b)).length 4294967296 = true := Nat.ble_eq_true_of_le (by simp [le4]; omega)
  have hw := W32_lt (sumV b)
  rw [h1, cond_true, of_eq n b hb (by omega) hn]
  show ((numFixed n (cvtI .u64 (W32 (sumV b))) 4).bind fun r8 => bif (Nat.ble (b ++ r8).length 4294967296) then some (b ++ r8) else none) = _
  rw [cvtI_u64 (by omega) (by omega), fixed_eq n _ (by omega)]
  show (bif (Nat.ble (b ++ le4 (sumV b)).length 4294967296) then some (b ++ le4 (sumV b)) else none) = _
  rw [h2]
  rfl
theorem refSeal_eq (n : Nat) (b : List Int) (hb : IsBytes b) (hl : b.length ≤ 4294967000) (hn : b.length + 9 ≤ n) : ref01Seal n b = some (sealV b) := by
  unfold ref01Seal
  have h1 : Nat.ble b.length 4294967296 = true := Nat.ble_eq_true_of_le (by omega)
  have h2 : Nat.ble (b ++ le4 (sumV b)).length 4294967296 = true := Nat.ble_eq_true_of_le (by simp [le4]; omega)
  have hw := W32_lt (sumV b)
  rw [h1, cond_true, refSum_eq n b hb (by omega) hn]
  show ((ref01Fixed n (cvtI .u64 (W32 (sumV b))) 4).bind fun r8 => bif (Nat.ble (b ++ r8).length 4294967296) then some (b ++ r8) else none) = _
  rw [cvtI_u64 (by omega) (by omega), refFixed_eq n _ (by omega)]
  show (bif (Nat.ble (b ++ le4 (sumV b)).length 4294967296) then some (b ++ le4 (sumV b)) else none) = _
  rw [h2]
  rfl
/-! ### the same -/
theorem same_W0 (n : Nat) (a b : List Int) (hl : a.length = b.length) (hm : a.length ≤ 4294967296) : ∀ (j i m : Nat), i + j = a.length → j < m → loopS (fun s => ref01Same_B0 n s.1 s.2.1 s.2.2) m (a, b, (i : Int)) = some (if a.drop i = b.drop i then Sum.inr () else Sum.inl false)
  | 0, i, m + 1, hi, hmm => by
    have : i = a.length := by omega
    subst this
    have h : ref01Same_B0 n a b (a.length : Int) = some (Sum.inr (Sum.inr ())) := by
      unfold ref01Same_B0
      rw [lenI_eq, decide_eq_false (by omega), cond_false]
    rw [loopS_out (s := (a, b, (a.length : Int))) (x := Sum.inr ()) h]
    rw [List.drop_length, hl, List.drop_length, if_pos rfl]
  | j + 1, i, m + 1, hi, hmm => by
    have ha : a[i]? = some a[i] := List.getElem?_eq_getElem (by omega)
    have hb : b[i]? = some b[i] := List.getElem?_eq_getElem (by omega)
    have da : a.drop i = a[i] :: a.drop (i + 1) := List.drop_eq_getElem_cons (by omega)
    have db : b.drop i = b[i] :: b.drop (i + 1) := List.drop_eq_getElem_cons (by omega)
    have h : ref01Same_B0 n a b (i : Int) = if a[i] = b[i] then some (Sum.inl (a, b, ((i + 1 : Nat) : Int))) else some (Sum.inr (Sum.inl false)) := by
      unfold ref01Same_B0
      rw [lenI_eq, decide_eq_true (by omega), cond_true, getI_nat, ha, getI_nat, hb]
      show (bif a[i] != b[i] then some (Sum.inr (Sum.inl false)) else some (Sum.inl (a, b, addI .i64 (i : Int) 1))) = _
      rw [addI_i64 (by omega) (by omega)]
      by_cases he : a[i] = b[i]
      · rw [if_pos he, he, bne_self_eq_false, cond_false]; rfl
      · rw [if_neg he, bne_iff_ne.2 he, cond_true]
    by_cases he : a[i] = b[i]
    · rw [if_pos he] at h
      have hiff : (a.drop i = b.drop i) ↔ (a.drop (i + 1) = b.drop (i + 1)) := by rw [da, db, he]; exact ⟨fun h => (List.cons.inj h).2, fun h => by rw [h]⟩
      rw [loopS_next (s := (a, b, (i : Int))) (s' := (a, b, ((i + 1 : Nat) : Int))) h, same_W0 n a b hl hm j (i + 1) m (by omega) (by omega)]
      simp only [hiff]
    · rw [if_neg he] at h
      have hne : ¬ (a.drop i = b.drop i) := by rw [da, db]; exact fun h => he (List.cons.inj h).1
      rw [loopS_out (s := (a, b, (i : Int))) (x := Sum.inl false) h, if_neg hne]
  | _, _, 0, _, hmm => by omega
theorem same_eq (n : Nat) (a b : List Int) (hm : a.length ≤ 4294967296) (hn : a.length < n) : ref01Same n a b = some (decide (a = b)) := by
  unfold ref01Same
  rw [lenI_eq, lenI_eq]
  by_cases hl : a.length = b.length
  · rw [show ((a.length : Int) != (b.length : Int)) = false by rw [hl, bne_self_eq_false], cond_false]
    have h := same_W0 n a b hl hm a.length 0 n (by omega) hn
    rw [List.drop_zero, List.drop_zero] at h
    show ((loopS (fun s => ref01Same_B0 n s.1 s.2.1 s.2.2) n (a, b, ((0 : Nat) : Int))).bind fun r59 => Sum.rec (fun u60 => some u60) (fun v61 => some true) r59) = _
    rw [h]
    by_cases he : a = b
    · rw [if_pos he, decide_eq_true he]; rfl
    · rw [if_neg he, decide_eq_false he]; rfl
  · rw [show ((a.length : Int) != (b.length : Int)) = true by rw [bne_iff_ne]; omega, cond_true, decide_eq_false (fun h => hl (by rw [h]))]
theorem same_true (n : Nat) (a : List Int) (hm : a.length ≤ 4294967296) (hn : a.length < n) : ref01Same n a a = some true := by rw [same_eq n a a hm hn]; simp
/-! ### what opens -/
/-- What was sealed, and an error's number. -/
def openV (b : List Int) : List Int × Int := if b.length < 4 then ([], 3) else if sealV (b.take (b.length - 4)) = b then (b.take (b.length - 4), 0) else ([], 3)
theorem take_bytes {b : List Int} (h : IsBytes b) (k : Nat) : IsBytes (b.take k) := fun x hx => h x (List.mem_of_mem_take hx)
theorem sub4 {b : List Int} (hl : b.length ≤ 4294967000) (h : ¬ b.length < 4) : subI .i64 (lenI b) 4 = ((b.length - 4 : Nat) : Int) := by
  rw [lenI_eq, subI_i64 (by omega) (by omega)]
  omega
theorem open_eq (n : Nat) (b : List Int) (hb : IsBytes b) (hl : b.length ≤ 4294967000) (hn : b.length + 9 ≤ n) : sumOpen n b = some (openV b) := by
  unfold sumOpen openV
  by_cases h : b.length < 4
  · rw [lenI_eq, decide_eq_true (by omega), cond_true, if_pos h]
  · have hlen : (b.take (b.length - 4)).length = b.length - 4 := by rw [List.length_take]; omega
    rw [sub4 hl h, lenI_eq, decide_eq_false (by omega), cond_false, if_neg h, decide_eq_true (by omega), decide_eq_true (by omega), Bool.and_self, cond_true, Int.toNat_natCast]
    rw [seal_eq n _ (take_bytes hb _) (by omega) (by omega)]
    show (bif !(eqS (intsBytes (sealV (b.take (b.length - 4)))) (intsBytes b)) then some (([] : List Int), (3 : Int)) else bif Nat.ble (b.take (b.length - 4)).length 4294967296 then some (b.take (b.length - 4), 0) else none) = _
    rw [bytes_eq (sealV_bytes (take_bytes hb _)) hb, show Nat.ble (b.take (b.length - 4)).length 4294967296 = true from Nat.ble_eq_true_of_le (by omega)]
    by_cases he : sealV (b.take (b.length - 4)) = b
    · rw [decide_eq_true he, if_pos he]; rfl
    · rw [decide_eq_false he, if_neg he]; rfl
theorem open_seal (b : List Int) : openV (sealV b) = (b, 0) := by
  unfold openV
  have h : (sealV b).take ((sealV b).length - 4) = b := by rw [sealV_len]; simp [sealV]
  rw [if_neg (by rw [sealV_len]; omega), h, if_pos rfl]
theorem answers_eq (n : Nat) (hn : 40 ≤ n) : law02Answers n = some true := by
  have h1 := of_eq n [49, 50, 51, 52, 53, 54, 55, 56, 57] (by intro x hx; simp at hx; omega) (by simp) (by simp; omega)
  have h2 := seal_eq n [] (by intro x hx; cases hx) (by simp) (by simp; omega)
  have h : W32 (sumV [49, 50, 51, 52, 53, 54, 55, 56, 57]) = 3421780262 := by decide +kernel
  rw [h] at h1
  unfold law02Answers
  rw [h1, h2]
  have h3 : (lenI (sealV [])) = 4 := by rw [lenI_eq, sealV_len]; rfl
  show (bif ((3421780262 : Int) == 3421780262) then some (lenI (sealV []) == 4) else some false) = _
  rw [h3, beq_self_eq_true, cond_true, beq_self_eq_true]
end Sx
