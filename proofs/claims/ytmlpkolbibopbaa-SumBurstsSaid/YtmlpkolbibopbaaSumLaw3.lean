/- Bursts: of what is sealed no 32 bits side by side can be turned. -/
import Derived.Test.YtmlpkolbibopbaaSumLaw2
set_option linter.unusedVariables false
set_option linter.unusedSimpArgs false
namespace Sx
open Go Go.Ab
def bitW (b : Bool) : BitVec 32 := bif b then 1#32 else 0#32
theorem bitW_bit (b : Bool) (i : Nat) : (bitW b).getLsbD i = (decide (i = 0) && b) := by
  cases b with
  | false => simp [bitW]
  | true =>
    show (1#32).getLsbD i = _
    cases i with
    | zero => rfl
    | succ i => simp
def procB (x : BitVec 32) (l : List Bool) : BitVec 32 := l.foldl (fun s b => stp (s ^^^ bitW b)) x
theorem procB_cons (x : BitVec 32) (b : Bool) (l : List Bool) : procB x (b :: l) = procB (stp (x ^^^ bitW b)) l := rfl
theorem procB_append (x : BitVec 32) (l l' : List Bool) : procB x (l ++ l') = procB (procB x l) l' := List.foldl_append ..
theorem bits_ext {x y : BitVec 32} (h : ∀ i, i < 32 → x.getLsbD i = y.getLsbD i) : x = y := BitVec.eq_of_getLsbD_eq h
theorem stp_xor (x y : BitVec 32) : stp (x ^^^ y) = stp x ^^^ stp y := by
  refine bits_ext fun i hi => ?_
  rw [BitVec.getLsbD_xor, stp_bit, stp_bit, stp_bit, BitVec.getLsbD_xor, BitVec.getLsbD_xor]
  cases x.getLsbD 0 <;> cases y.getLsbD 0 <;> cases x.getLsbD (1 + i) <;> cases y.getLsbD (1 + i) <;> cases (0xedb88320#32).getLsbD i <;> rfl
theorem stp_zero : stp 0#32 = 0#32 := by decide +kernel
theorem it_zero : ∀ k, it stp k 0#32 = 0#32
  | 0 => rfl
  | k + 1 => by
    show stp (it stp k 0#32) = _
    rw [it_zero k, stp_zero]
theorem it_null {k : Nat} {x : BitVec 32} (h : it stp k x = 0#32) : x = 0#32 := it_inj (k := k) (h.trans (it_zero k).symm)
theorem stp_split (x p : BitVec 32) : stp (x ^^^ p) = stp (x ^^^ bitW (p.getLsbD 0)) ^^^ (p >>> 1) := by
  refine bits_ext fun i hi => ?_
  rw [BitVec.getLsbD_xor, stp_bit, stp_bit, BitVec.getLsbD_xor, BitVec.getLsbD_xor, BitVec.getLsbD_xor, BitVec.getLsbD_xor, bitW_bit, bitW_bit, BitVec.getLsbD_ushiftRight, decide_eq_true (rfl : (0 : Nat) = 0), decide_eq_false (by omega : ¬ (1 + i = 0))]
  cases x.getLsbD 0 <;> cases p.getLsbD 0 <;> cases x.getLsbD (1 + i) <;> cases p.getLsbD (1 + i) <;> cases (0xedb88320#32).getLsbD i <;> rfl
theorem absorb : ∀ (t : Nat) (x p : BitVec 32), (∀ i, t ≤ i → p.getLsbD i = false) → procB x ((List.range t).map p.getLsbD) = it stp t (x ^^^ p)
  | 0, x, p, h => by
    have : p = 0#32 := bits_ext fun i hi => by rw [h i (by omega)]; simp
    rw [this, BitVec.xor_zero]; rfl
  | t + 1, x, p, h => by
    rw [List.range_succ_eq_map, List.map_cons, List.map_map, procB_cons, it_in, stp_split x p]
    rw [← absorb t (stp (x ^^^ bitW (p.getLsbD 0))) (p >>> 1) (fun i hi => by rw [BitVec.getLsbD_ushiftRight, Nat.add_comm, h (i + 1) (by omega)])]
    congr 1
    refine List.map_congr_left fun i hi => ?_
    show p.getLsbD (i + 1) = _
    rw [BitVec.getLsbD_ushiftRight, Nat.add_comm]
theorem bitW_xor (a b : Bool) : bitW (a ^^ b) = bitW a ^^^ bitW b := by cases a <;> cases b <;> rfl
theorem procB_xor {α : Type} (f g : α → Bool) : ∀ (l : List α) (x y : BitVec 32), procB (x ^^^ y) (l.map fun j => f j ^^ g j) = procB x (l.map f) ^^^ procB y (l.map g)
  | [], x, y => rfl
  | j :: l, x, y => by
    rw [List.map_cons, List.map_cons, List.map_cons, procB_cons, procB_cons, procB_cons, ← procB_xor f g l, bitW_xor, ← stp_xor]
    congr 2
    refine bits_ext fun i hi => ?_
    simp only [BitVec.getLsbD_xor]
    cases x.getLsbD i <;> cases y.getLsbD i <;> cases (bitW (f j)).getLsbD i <;> cases (bitW (g j)).getLsbD i <;> rfl
theorem procB_false : ∀ (l : List Bool) (x : BitVec 32), (∀ b ∈ l, b = false) → procB x l = it stp l.length x
  | [], x, h => rfl
  | b :: l, x, h => by
    rw [procB_cons, h b (by simp), show bitW false = 0#32 from rfl, BitVec.xor_zero, procB_false l _ (fun c hc => h c (by simp [hc])), List.length_cons, it_in]
/-! ### bits of bytes -/
def bitAt (s : List Int) (j : Nat) : Bool := (s.getD (j / 8) 0).toNat.testBit (j % 8)
def bitsOf (s : List Int) : List Bool := (List.range (8 * s.length)).map (bitAt s)
theorem bitsOf_cons (c : Int) (s : List Int) : bitsOf (c :: s) = (List.range 8).map c.toNat.testBit ++ bitsOf s := by
  unfold bitsOf
  rw [List.length_cons, show 8 * (s.length + 1) = 8 + 8 * s.length by omega, List.range_add, List.map_append, List.map_map]
  congr 1
  refine List.map_congr_left fun j hj => ?_
  show bitAt (c :: s) (8 + j) = _
  unfold bitAt
  rw [show (8 + j) / 8 = j / 8 + 1 by omega, show (8 + j) % 8 = j % 8 by omega]
  rfl
theorem byte_bit {c : Int} (hc : 0 ≤ c ∧ c ≤ 255) (i : Nat) : (BitVec.ofInt 32 c).getLsbD i = c.toNat.testBit i := by
  have h : (BitVec.ofInt 32 c).toNat = c.toNat := by rw [BitVec.toNat_ofInt]; omega
  rw [BitVec.getLsbD, h]
theorem bst_bits {x : BitVec 32} {c : Int} (hc : 0 ≤ c ∧ c ≤ 255) : bst x c = procB x ((List.range 8).map c.toNat.testBit) := by
  have h := absorb 8 x (BitVec.ofInt 32 c) fun i hi => by
    rw [byte_bit hc]
    exact Nat.testBit_lt_two_pow (Nat.lt_of_lt_of_le (by omega : c.toNat < 2 ^ 8) (Nat.pow_le_pow_right (by omega) hi))
  unfold bst
  rw [← h]
  congr 1
  exact List.map_congr_left fun i hi => byte_bit hc i
theorem crc_bits : ∀ {b : List Int} {x : BitVec 32}, IsBytes b → crc x b = procB x (bitsOf b)
  | [], x, h => rfl
  | c :: b, x, h => by
    rw [bitsOf_cons, procB_append, ← bst_bits (h c (by simp)), ← crc_bits (fun z hz => h z (by simp [hz]))]
    rfl
theorem le4_bit (z : BitVec 32) (k j : Nat) (d : Int) (hd : d = ((2 ^ (8 * k) : Nat) : Int)) (hj : j < 8) : (W32 z / d % 256).toNat.testBit j = z.getLsbD (8 * k + j) := by
  have h : (W32 z / d % 256).toNat = z.toNat / 2 ^ (8 * k) % 2 ^ 8 := by
    unfold W32
    rw [hd, ← Int.natCast_ediv]
    omega
  rw [h, Nat.testBit_mod_two_pow, Nat.testBit_div_two_pow, decide_eq_true hj, Bool.true_and, BitVec.getLsbD, Nat.add_comm]
theorem le4_bits (z : BitVec 32) : bitsOf (le4 z) = (List.range 32).map z.getLsbD := by
  have h : ∀ (k : Nat) (d : Int), d = ((2 ^ (8 * k) : Nat) : Int) → (List.range 8).map (W32 z / d % 256).toNat.testBit = (List.range 8).map fun j => z.getLsbD (8 * k + j) :=
    fun k d hd => List.map_congr_left fun j hj => le4_bit z k j d hd (List.mem_range.1 hj)
  unfold le4
  rw [bitsOf_cons, bitsOf_cons, bitsOf_cons, bitsOf_cons, h 1 256 rfl, h 2 65536 rfl, h 3 16777216 rfl]
  have h0 := h 0 1 rfl
  rw [Int.ediv_one] at h0
  rw [h0]
  rfl
theorem residue {b : List Int} (hb : IsBytes b) : crc 0xffffffff#32 (sealV b) = it stp 32 (BitVec.allOnes 32) := by
  unfold sealV
  rw [crc_append, crc_bits (le4_bytes _), le4_bits, absorb 32 _ _ (fun i hi => BitVec.getLsbD_of_ge _ _ hi)]
  congr 1
  unfold sumV
  refine bits_ext fun i hi => ?_
  rw [BitVec.getLsbD_xor, BitVec.getLsbD_not, BitVec.getLsbD_allOnes, decide_eq_true hi]
  cases (crc 0xffffffff#32 b).getLsbD i <;> rfl
/-! ### what is turned -/
def turned (k t j : Nat) : Bool := decide (k ≤ j) && decide (j < k + 32) && t.testBit (j - k)
theorem turned_null {N k t : Nat} (hk : k ≤ N) (h : procB 0#32 ((List.range N).map (turned k t)) = 0#32) : ∀ j, j < N → turned k t j = false := by
  obtain ⟨M, rfl⟩ : ∃ M, N = k + M := ⟨N - k, by omega⟩
  obtain ⟨u, r, rfl, hu, hr⟩ : ∃ u r, M = u + r ∧ u ≤ 32 ∧ (r = 0 ∨ u = 32) := by
    rcases Nat.le_total M 32 with h | h
    · exact ⟨M, 0, rfl, h, .inl rfl⟩
    · exact ⟨32, M - 32, by omega, Nat.le_refl _, .inr rfl⟩
  let p : BitVec 32 := BitVec.ofNat 32 (t % 2 ^ u)
  have hp : ∀ i, p.getLsbD i = (decide (i < u) && t.testBit i) := by
    intro i
    show (BitVec.ofNat 32 (t % 2 ^ u)).getLsbD i = _
    rw [BitVec.getLsbD_ofNat, Nat.testBit_mod_two_pow]
    by_cases hi : i < u
    · rw [decide_eq_true (by omega : i < 32), Bool.true_and]
    · rw [decide_eq_false hi]; simp
  have e1 : (List.range k).map (turned k t) = (List.range k).map fun _ => false := List.map_congr_left fun j hj => by
    have := List.mem_range.1 hj
    unfold turned
    rw [decide_eq_false (by omega)]
    rfl
  have e2 : (List.range u).map (fun j => turned k t (k + j)) = (List.range u).map p.getLsbD := List.map_congr_left fun j hj => by
    have := List.mem_range.1 hj
    unfold turned
    rw [hp, decide_eq_true (by omega : k ≤ k + j), decide_eq_true (by omega : k + j < k + 32), decide_eq_true this, show k + j - k = j by omega]
    rfl
  have e3 : (List.range r).map (fun j => turned k t (k + (u + j))) = (List.range r).map fun _ => false := List.map_congr_left fun j hj => by
    have := List.mem_range.1 hj
    unfold turned
    rw [decide_eq_false (by omega : ¬ k + (u + j) < k + 32)]
    simp
  rw [List.range_add, List.map_append, List.map_map, List.range_add, List.map_append, List.map_map, procB_append, procB_append] at h
  have h : procB (procB (procB 0#32 ((List.range k).map (turned k t))) ((List.range u).map fun j => turned k t (k + j))) ((List.range r).map fun j => turned k t (k + (u + j))) = 0#32 := h
  rw [e1, e2, e3, procB_false ((List.range k).map fun _ => false) _ (by simp), it_zero, procB_false ((List.range r).map fun _ => false) _ (by simp), absorb u _ _ (fun i hi => by rw [hp, decide_eq_false (by omega)]; rfl)] at h
  have h0 := it_null (it_null h)
  rw [BitVec.zero_xor] at h0
  intro j hj
  unfold turned
  by_cases h1 : k ≤ j
  · by_cases h2 : j < k + 32
    · have := hp (j - k)
      rw [h0, decide_eq_true (by omega)] at this
      simp at this
      rw [this]; simp
    · rw [decide_eq_false h2]; simp
  · rw [decide_eq_false h1]; rfl
theorem bytes_of_bits {a b : List Int} (hl : a.length = b.length) (ha : IsBytes a) (hb : IsBytes b) (h : ∀ j, j < 8 * a.length → bitAt a j = bitAt b j) : a = b := by
  refine List.ext_getElem hl fun i h1 h2 => ?_
  have ha' := ha a[i] (List.getElem_mem h1)
  have hb' := hb b[i] (List.getElem_mem h2)
  have : a[i].toNat = b[i].toNat := by
    refine Nat.eq_of_testBit_eq fun q => ?_
    by_cases hq : q < 8
    · have := h (8 * i + q) (by omega)
      unfold bitAt at this
      rw [show (8 * i + q) / 8 = i by omega, show (8 * i + q) % 8 = q by omega, List.getD_eq_getElem?_getD, List.getD_eq_getElem?_getD, List.getElem?_eq_getElem h1, List.getElem?_eq_getElem h2] at this
      exact this
    · have hp : 2 ^ 8 ≤ 2 ^ q := Nat.pow_le_pow_right (by omega) (by omega)
      rw [Nat.testBit_lt_two_pow (by omega), Nat.testBit_lt_two_pow (by omega)]
  omega
/-- Of what is sealed nothing is sealed that was turned within 32 bits. -/
theorem burst_free {b m : List Int} {k t : Nat} (hb : IsBytes b) (hm : IsBytes m) (hl : m.length = (sealV b).length) (hk : k ≤ 8 * m.length) (hbits : ∀ j, j < 8 * m.length → bitAt m j = (bitAt (sealV b) j ^^ turned k t j)) {c : List Int} (hc : IsBytes c)
    (hs : sealV c = m) : m = sealV b := by
  have h1 := residue hc
  rw [hs, crc_bits hm] at h1
  have h2 := residue hb
  rw [crc_bits (sealV_bytes hb)] at h2
  have e : bitsOf m = (List.range (8 * m.length)).map fun j => bitAt (sealV b) j ^^ turned k t j := List.map_congr_left fun j hj => hbits j (List.mem_range.1 hj)
  have h3 := procB_xor (bitAt (sealV b)) (turned k t) (List.range (8 * m.length)) 0xffffffff#32 0#32
  rw [BitVec.xor_zero, ← e, h1] at h3
  have e2 : bitsOf (sealV b) = (List.range (8 * m.length)).map (bitAt (sealV b)) := by unfold bitsOf; rw [hl]
  rw [← e2, h2] at h3
  have h4 : procB 0#32 ((List.range (8 * m.length)).map (turned k t)) = 0#32 := by
    have h5 := congrArg (fun z => it stp 32 (BitVec.allOnes 32) ^^^ z) h3
    simp only [BitVec.xor_self] at h5
    rw [← BitVec.xor_assoc, BitVec.xor_self, BitVec.zero_xor] at h5
    exact h5.symm
  have h6 := turned_null hk h4
  exact bytes_of_bits hl hm (sealV_bytes hb) fun j hj => by rw [hbits j hj, h6 j hj]; simp
end Sx
