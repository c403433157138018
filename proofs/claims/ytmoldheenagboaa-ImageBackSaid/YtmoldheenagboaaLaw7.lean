/- Plain laws (texts ImS2, ImS3, ImF, ImH). -/
import Derived.Test.YtmoldheenagboaaLaw1
section
/- The five statements on sums, in plain words. -/
set_option linter.unusedVariables false
set_option linter.unusedSimpArgs false
namespace Sx
open Go Go.Ab
theorem zbO (x : BitVec 32) (i : Nat) : (stp x).getLsbD i = (x.getLsbD (1 + i) ^^ (x.getLsbD 0 && (0xedb88320#32).getLsbD i)) := by
 unfold stp
 rw [BitVec.getLsbD_xor, BitVec.getLsbD_ushiftRight]
 cases x.getLsbD 0 with
 | true => simp
 | false => simp
theorem zmX (x : BitVec 32) : (stp x).getLsbD 31 = x.getLsbD 0 := by
 rw [zbO, BitVec.getLsbD_of_ge x (1 + 31) (by omega), show (0xedb88320#32).getLsbD 31 = true from rfl]
 simp
theorem zpu {x y : BitVec 32} (h : stp x = stp y) : x = y := by
 have h0 : x.getLsbD 0 = y.getLsbD 0 := by rw [← zmX, ← zmX, h]
 refine BitVec.eq_of_getLsbD_eq fun i hi => ?_
 cases i with
 | zero => exact h0
 | succ i =>
  have h1 : (stp x).getLsbD i = (stp y).getLsbD i := by rw [h]
  rw [zbO, zbO, h0] at h1
  rw [Nat.add_comm]
  exact Bool.xor_right_inj.1 (by rw [Bool.xor_comm, h1, Bool.xor_comm]) 
theorem zoz : ∀ {k : Nat} {x y : BitVec 32}, it stp k x = it stp k y → x = y
 | 0, _, _, h => h
 | k + 1, _, _, h => zoz (k := k) (zpu h)
theorem zmb (x : BitVec 32) (a b : List Int) : crc x (a ++ b) = crc (crc x a) b := List.foldl_append ..
theorem zoL {a b : Int} (ha : 0 ≤ a ∧ a ≤ 255) (hb : 0 ≤ b ∧ b ≤ 255) : xorI .u8 a b = ((a.toNat ^^^ b.toNat : Nat) : Int) := by
 show IntKind.u8.wrap (((BitVec.ofInt 8 a ^^^ BitVec.ofInt 8 b).toNat : Nat) : Int) = _
 have h1 : (BitVec.ofInt 8 a).toNat = a.toNat := by rw [BitVec.toNat_ofInt]; omega
 have h2 : (BitVec.ofInt 8 b).toNat = b.toNat := by rw [BitVec.toNat_ofInt]; omega
 rw [BitVec.toNat_xor, h1, h2]
 have h3 : a.toNat ^^^ b.toNat < 2 ^ 8 := Nat.xor_lt_two_pow (by omega) (by omega)
 exact IntWalk.u8_in _ ⟨by omega, by omega⟩
theorem zpi {a b : Int} (ha : 0 ≤ a ∧ a ≤ 255) (hb : 0 ≤ b ∧ b ≤ 255) : 0 ≤ xorI .u8 a b ∧ xorI .u8 a b ≤ 255 := by
 rw [zoL ha hb]
 have h3 : a.toNat ^^^ b.toNat < 2 ^ 8 := Nat.xor_lt_two_pow (by omega) (by omega)
 omega
end Sx
end
section
/- Bursts: of what is sealed no 32 bits side by side can be turned. -/
set_option linter.unusedVariables false
set_option linter.unusedSimpArgs false
namespace Sx
open Go Go.Ab
def bitW (b : Bool) : BitVec 32 := bif b then 1#32 else 0#32
theorem zkl (b : Bool) (i : Nat) : (bitW b).getLsbD i = (decide (i = 0) && b) := by
 cases b with
 | false => simp [bitW]
 | true =>
  show (1#32).getLsbD i = _
  cases i with
  | zero => rfl
  | succ i => simp
def procB (x : BitVec 32) (l : List Bool) : BitVec 32 := l.foldl (fun s b => stp (s ^^^ bitW b)) x
theorem zbu (x : BitVec 32) (b : Bool) (l : List Bool) : procB x (b :: l) = procB (stp (x ^^^ bitW b)) l := rfl
theorem zcr (x : BitVec 32) (l l' : List Bool) : procB x (l ++ l') = procB (procB x l) l' := List.foldl_append ..
theorem zdd {x y : BitVec 32} (h : ∀ i, i < 32 → x.getLsbD i = y.getLsbD i) : x = y := BitVec.eq_of_getLsbD_eq h
theorem zpB (x y : BitVec 32) : stp (x ^^^ y) = stp x ^^^ stp y := by
 refine zdd fun i hi => ?_
 rw [BitVec.getLsbD_xor, zbO, zbO, zbO, BitVec.getLsbD_xor, BitVec.getLsbD_xor]
 cases x.getLsbD 0 <;> cases y.getLsbD 0 <;> cases x.getLsbD (1 + i) <;> cases y.getLsbD (1 + i) <;> cases (0xedb88320#32).getLsbD i <;> rfl
theorem zoq : stp 0#32 = 0#32 := by decide +kernel
theorem zjY : ∀ k, it stp k 0#32 = 0#32
 | 0 => rfl
 | k + 1 => by
  show stp (it stp k 0#32) = _
  rw [zjY k, zoq]
theorem zmS {k : Nat} {x : BitVec 32} (h : it stp k x = 0#32) : x = 0#32 := zoz (k := k) (h.trans (zjY k).symm)
theorem zof (x p : BitVec 32) : stp (x ^^^ p) = stp (x ^^^ bitW (p.getLsbD 0)) ^^^ (p >>> 1) := by
 refine zdd fun i hi => ?_
 rw [BitVec.getLsbD_xor, zbO, zbO, BitVec.getLsbD_xor, BitVec.getLsbD_xor, BitVec.getLsbD_xor, BitVec.getLsbD_xor, zkl, zkl, BitVec.getLsbD_ushiftRight, decide_eq_true (rfl : (0 : Nat) = 0), decide_eq_false (by omega : ¬ (1 + i = 0))]
 cases x.getLsbD 0 <;> cases p.getLsbD 0 <;> cases x.getLsbD (1 + i) <;> cases p.getLsbD (1 + i) <;> cases (0xedb88320#32).getLsbD i <;> rfl
theorem absorb : ∀ (t : Nat) (x p : BitVec 32), (∀ i, t ≤ i → p.getLsbD i = false) → procB x ((List.range t).map p.getLsbD) = it stp t (x ^^^ p)
 | 0, x, p, h => by
  have : p = 0#32 := zdd fun i hi => by rw [h i (by omega)]; simp
  rw [this, BitVec.xor_zero]; rfl
 | t + 1, x, p, h => by
  rw [List.range_succ_eq_map, List.map_cons, List.map_map, zbu, zoM, zof x p]
  rw [← absorb t (stp (x ^^^ bitW (p.getLsbD 0))) (p >>> 1) (fun i hi => by rw [BitVec.getLsbD_ushiftRight, Nat.add_comm, h (i + 1) (by omega)])]
  congr 1
  refine List.map_congr_left fun i hi => ?_
  show p.getLsbD (i + 1) = _
  rw [BitVec.getLsbD_ushiftRight, Nat.add_comm]
theorem zox (a b : Bool) : bitW (a ^^ b) = bitW a ^^^ bitW b := by cases a <;> cases b <;> rfl
theorem ziP {α : Type} (f g : α → Bool) : ∀ (l : List α) (x y : BitVec 32), procB (x ^^^ y) (l.map fun j => f j ^^ g j) = procB x (l.map f) ^^^ procB y (l.map g)
 | [], x, y => rfl
 | j :: l, x, y => by
  rw [List.map_cons, List.map_cons, List.map_cons, zbu, zbu, zbu, ← ziP f g l, zox, ← zpB]
  congr 2
  refine zdd fun i hi => ?_
  simp only [BitVec.getLsbD_xor]
  cases x.getLsbD i <;> cases y.getLsbD i <;> cases (bitW (f j)).getLsbD i <;> cases (bitW (g j)).getLsbD i <;> rfl
theorem zcU : ∀ (l : List Bool) (x : BitVec 32), (∀ b ∈ l, b = false) → procB x l = it stp l.length x
 | [], x, h => rfl
 | b :: l, x, h => by
  rw [zbu, h b (by simp), show bitW false = 0#32 from rfl, BitVec.xor_zero, zcU l _ (fun c hc => h c (by simp [hc])), List.length_cons, zoM]
def bitAt (s : List Int) (j : Nat) : Bool := (s.getD (j / 8) 0).toNat.testBit (j % 8)
def bitsOf (s : List Int) : List Bool := (List.range (8 * s.length)).map (bitAt s)
theorem zbe (c : Int) (s : List Int) : bitsOf (c :: s) = (List.range 8).map c.toNat.testBit ++ bitsOf s := by
 unfold bitsOf
 rw [List.length_cons, show 8 * (s.length + 1) = 8 + 8 * s.length by omega, List.range_add, List.map_append, List.map_map]
 congr 1
 refine List.map_congr_left fun j hj => ?_
 show bitAt (c :: s) (8 + j) = _
 unfold bitAt
 rw [show (8 + j) / 8 = j / 8 + 1 by omega, show (8 + j) % 8 = j % 8 by omega]
 rfl
theorem zlw {c : Int} (hc : 0 ≤ c ∧ c ≤ 255) (i : Nat) : (BitVec.ofInt 32 c).getLsbD i = c.toNat.testBit i := by
 have h : (BitVec.ofInt 32 c).toNat = c.toNat := by rw [BitVec.toNat_ofInt]; omega
 rw [BitVec.getLsbD, h]
theorem zoA {x : BitVec 32} {c : Int} (hc : 0 ≤ c ∧ c ≤ 255) : bst x c = procB x ((List.range 8).map c.toNat.testBit) := by
 have h := absorb 8 x (BitVec.ofInt 32 c) fun i hi => by
  rw [zlw hc]
  exact Nat.testBit_lt_two_pow (Nat.lt_of_lt_of_le (by omega : c.toNat < 2 ^ 8) (Nat.pow_le_pow_right (by omega) hi))
 unfold bst
 rw [← h]
 congr 1
 exact List.map_congr_left fun i hi => zlw hc i
theorem zeT : ∀ {b : List Int} {x : BitVec 32}, IsBytes b → crc x b = procB x (bitsOf b)
 | [], x, h => rfl
 | c :: b, x, h => by
  rw [zbe, zcr, ← zoA (h c (by simp)), ← zeT (fun z hz => h z (by simp [hz]))]
  rfl
theorem zpE (z : BitVec 32) (k j : Nat) (d : Int) (hd : d = ((2 ^ (8 * k) : Nat) : Int)) (hj : j < 8) : (W32 z / d % 256).toNat.testBit j = z.getLsbD (8 * k + j) := by
 have h : (W32 z / d % 256).toNat = z.toNat / 2 ^ (8 * k) % 2 ^ 8 := by
  unfold W32
  rw [hd, ← Int.natCast_ediv]
  omega
 rw [h, Nat.testBit_mod_two_pow, Nat.testBit_div_two_pow, decide_eq_true hj, Bool.true_and, BitVec.getLsbD, Nat.add_comm]
theorem zoZ (z : BitVec 32) : bitsOf (le4 z) = (List.range 32).map z.getLsbD := by
 have h : ∀ (k : Nat) (d : Int), d = ((2 ^ (8 * k) : Nat) : Int) → (List.range 8).map (W32 z / d % 256).toNat.testBit = (List.range 8).map fun j => z.getLsbD (8 * k + j) :=
  fun k d hd => List.map_congr_left fun j hj => zpE z k j d hd (List.mem_range.1 hj)
 unfold le4
 rw [zbe, zbe, zbe, zbe, h 1 256 rfl, h 2 65536 rfl, h 3 16777216 rfl]
 have h0 := h 0 1 rfl
 rw [Int.ediv_one] at h0
 rw [h0]
 rfl
theorem residue {b : List Int} (hb : IsBytes b) : crc 0xffffffff#32 (sealV b) = it stp 32 (BitVec.allOnes 32) := by
 unfold sealV
 rw [zmb, zeT (zfr _), zoZ, absorb 32 _ _ (fun i hi => BitVec.getLsbD_of_ge _ _ hi)]
 congr 1
 unfold sumV
 refine zdd fun i hi => ?_
 rw [BitVec.getLsbD_xor, BitVec.getLsbD_not, BitVec.getLsbD_allOnes, decide_eq_true hi]
 cases (crc 0xffffffff#32 b).getLsbD i <;> rfl
def turned (k t j : Nat) : Bool := decide (k ≤ j) && decide (j < k + 32) && t.testBit (j - k)
theorem zlE {N k t : Nat} (hk : k ≤ N) (h : procB 0#32 ((List.range N).map (turned k t)) = 0#32) : ∀ j, j < N → turned k t j = false := by
 obtain ⟨M, rfl⟩ : ∃ M, N = k + M := ⟨N - k, by omega⟩
 obtain ⟨u, r, rfl, hu, hr⟩ : ∃ u r, M = u + r ∧ u ≤ 32 ∧ (r = 0 ∨ u = 32) := by
  rcases Nat.le_total M 32 with h | h
  ·exact ⟨M, 0, rfl, h, .inl rfl⟩
  ·exact ⟨32, M - 32, by omega, Nat.le_refl _, .inr rfl⟩
 let p : BitVec 32 := BitVec.ofNat 32 (t % 2 ^ u)
 have hp : ∀ i, p.getLsbD i = (decide (i < u) && t.testBit i) := by
  intro i
  show (BitVec.ofNat 32 (t % 2 ^ u)).getLsbD i = _
  rw [BitVec.getLsbD_ofNat, Nat.testBit_mod_two_pow]
  by_cases hi : i < u
  ·rw [decide_eq_true (by omega : i < 32), Bool.true_and]
  ·rw [decide_eq_false hi]; simp
 have e1 : (List.range k).map (turned k t) = (List.range k).map fun _ => false := List.map_congr_left fun j hj => by
  have := List.mem_range.1 hj
  unfold turned
  rw [decide_eq_false (by omega)]
  rfl
 have e2 : (List.range u).map (fun j => turned k t (k + j)) = (List.range u).map p.getLsbD := List.map_congr_left fun j hj => by
  have := List.mem_range.1 hj
  unfold turned
  rw [hp, decide_eq_true (by omega : k ≤ k + j), decide_eq_true (by omega : k + j < k + 32), decide_eq_true this, show k + j - k = j by omega]
  rfl
 have e3 : (List.range r).map (fun j => turned k t (k + (u + j))) = (List.range r).map fun _ => false := List.map_congr_left fun j hj => by
  have := List.mem_range.1 hj
  unfold turned
  rw [decide_eq_false (by omega : ¬ k + (u + j) < k + 32)]
  simp
 rw [List.range_add, List.map_append, List.map_map, List.range_add, List.map_append, List.map_map, zcr, zcr] at h
 have h : procB (procB (procB 0#32 ((List.range k).map (turned k t))) ((List.range u).map fun j => turned k t (k + j))) ((List.range r).map fun j => turned k t (k + (u + j))) = 0#32 := h
 rw [e1, e2, e3, zcU ((List.range k).map fun _ => false) _ (by simp), zjY, zcU ((List.range r).map fun _ => false) _ (by simp), absorb u _ _ (fun i hi => by rw [hp, decide_eq_false (by omega)]; rfl)] at h
 have h0 := zmS (zmS h)
 rw [BitVec.zero_xor] at h0
 intro j hj
 unfold turned
 by_cases h1 : k ≤ j
 ·by_cases h2 : j < k + 32
  ·have := hp (j - k)
   rw [h0, decide_eq_true (by omega)] at this
   simp at this
   rw [this]; simp
  ·rw [decide_eq_false h2]; simp
 ·rw [decide_eq_false h1]; rfl
theorem ziB {a b : List Int} (hl : a.length = b.length) (ha : IsBytes a) (hb : IsBytes b) (h : ∀ j, j < 8 * a.length → bitAt a j = bitAt b j) : a = b := by
 refine List.ext_getElem hl fun i h1 h2 => ?_
 have ha' := ha a[i] (List.getElem_mem h1)
 have hb' := hb b[i] (List.getElem_mem h2)
 have : a[i].toNat = b[i].toNat := by
  refine Nat.eq_of_testBit_eq fun q => ?_
  by_cases hq : q < 8
  ·have := h (8 * i + q) (by omega)
   unfold bitAt at this
   rw [show (8 * i + q) / 8 = i by omega, show (8 * i + q) % 8 = q by omega, List.getD_eq_getElem?_getD, List.getD_eq_getElem?_getD, List.getElem?_eq_getElem h1, List.getElem?_eq_getElem h2] at this
   exact this
  ·have hp : 2 ^ 8 ≤ 2 ^ q := Nat.pow_le_pow_right (by omega) (by omega)
   rw [Nat.testBit_lt_two_pow (by omega), Nat.testBit_lt_two_pow (by omega)]
 omega
theorem zmz {b m : List Int} {k t : Nat} (hb : IsBytes b) (hm : IsBytes m) (hl : m.length = (sealV b).length) (hk : k ≤ 8 * m.length) (hbits : ∀ j, j < 8 * m.length → bitAt m j = (bitAt (sealV b) j ^^ turned k t j)) {c : List Int} (hc : IsBytes c)
  (hs : sealV c = m) : m = sealV b := by
 have h1 := residue hc
 rw [hs, zeT hm] at h1
 have h2 := residue hb
 rw [zeT (zan hb)] at h2
 have e : bitsOf m = (List.range (8 * m.length)).map fun j => bitAt (sealV b) j ^^ turned k t j := List.map_congr_left fun j hj => hbits j (List.mem_range.1 hj)
 have h3 := ziP (bitAt (sealV b)) (turned k t) (List.range (8 * m.length)) 0xffffffff#32 0#32
 rw [BitVec.xor_zero, ← e, h1] at h3
 have e2 : bitsOf (sealV b) = (List.range (8 * m.length)).map (bitAt (sealV b)) := by unfold bitsOf; rw [hl]
 rw [← e2, h2] at h3
 have h4 : procB 0#32 ((List.range (8 * m.length)).map (turned k t)) = 0#32 := by
  have h5 := congrArg (fun z => it stp 32 (BitVec.allOnes 32) ^^^ z) h3
  simp only [BitVec.xor_self] at h5
  rw [← BitVec.xor_assoc, BitVec.xor_self, BitVec.zero_xor] at h5
  exact h5.symm
 have h6 := zlE hk h4
 exact ziB hl hm (zan hb) fun j hj => by rw [hbits j hj, h6 j hj]; simp
end Sx
end
section
/- Of an image of the first version nothing that is turned within 32 bits is taken. -/
set_option linter.unusedVariables false
set_option linter.unusedSimpArgs false
namespace Sx
open Go Go.Ab
theorem zns {m : List Int} {q : Nat} {v : Int} (hq : q < m.length) (j : Nat) : bitAt (m.set q v) j = if j / 8 = q then v.toNat.testBit (j % 8) else bitAt m j := by
 unfold bitAt
 rw [List.getD_eq_getElem?_getD, List.getD_eq_getElem?_getD, List.getElem?_set]
 by_cases h : j / 8 = q
 ·rw [if_pos h.symm, if_pos h, if_pos hq]
  rfl
 ·rw [if_neg (fun e => h e.symm), if_neg h]
structure BInv (s : List Int) (k t i : Nat) (m : List Int) : Prop where
 len : m.length = s.length
 bytes : IsBytes m
 bits : ∀ j, j < 8 * s.length → bitAt m j = (bitAt s j ^^ (decide (k ≤ j) && decide (j < k + i) && t.testBit (j - k)))
theorem zmc (n : Nat) (st : StD) (s : List Int) (t : Int) (ht : 0 ≤ t ∧ t ≤ 4294967295) (k i : Nat) (m : List Int) (hs : s.length ≤ 100000) (hk : k + 4 ≤ s.length) (hi : i < 4) (hI : BInv s (8 * k) t.toNat (8 * i) m) :
  ∃ m', law21OldTurned_B0 n t (k : Int) (i : Int) st.1 st.2.1 st.2.2.1 st.2.2.2.1 st.2.2.2.2.1 st.2.2.2.2.2.1 st.2.2.2.2.2.2 m = some (Sum.inl ((t, ((k : Int), ((i + 1 : Nat) : Int))), (st, m'))) ∧ BInv s (8 * k) t.toNat (8 * (i + 1)) m' := by
 have hlen := hI.len
 have hadd : addI .i64 (k : Int) (i : Int) = ((k + i : Nat) : Int) := by rw [zaI (by omega) (by omega)]; omega
 have hnext : addI .i64 (i : Int) 1 = ((i + 1 : Nat) : Int) := by rw [zaI (by omega) (by omega)]; omega
 have hmul : cvtI .u64 (mulI .i64 8 (i : Int)) = ((8 * i : Nat) : Int) := by rw [zpg (by omega) (by omega), zaJ (by omega) (by omega)]; omega
 have hq : k + i < m.length := by omega
 have hg : m[k + i]? = some m[k + i] := List.getElem?_eq_getElem hq
 have hby := hI.bytes _ (List.getElem_mem hq)
 have hsh : cvtI .u8 (shrI .u32 t ((8 * i : Nat) : Int)) = ((t.toNat / 2 ^ (8 * i) % 256 : Nat) : Int) := by
  show IntKind.u8.wrap (t.fdiv (2 ^ (min ((8 * i : Nat) : Int).toNat 32))) = _
  rw [Int.toNat_natCast, show min (8 * i) 32 = 8 * i by omega]
  obtain ⟨u, rfl⟩ : ∃ u : Nat, t = (u : Int) := ⟨t.toNat, by omega⟩
  rw [Int.toNat_natCast, Int.fdiv_eq_ediv_of_nonneg _ (Int.le_of_lt (Int.pow_pos (by omega))), show ((2 : Int) ^ (8 * i)) = ((2 ^ (8 * i) : Nat) : Int) by simp, ← Int.natCast_ediv]
  have : ∀ x : Int, IntKind.u8.wrap x = x % 256 := fun x => by simp [IntKind.wrap, IntKind.bits, IntKind.signed]
  rw [this]
  omega
 have hsb : 0 ≤ ((t.toNat / 2 ^ (8 * i) % 256 : Nat) : Int) ∧ ((t.toNat / 2 ^ (8 * i) % 256 : Nat) : Int) ≤ 255 := by omega
 unfold law21OldTurned_B0
 rw [decide_eq_true (by omega), cond_true, hadd, hnext, hmul, decide_eq_true (by omega), decide_eq_true (by omega), Bool.and_self, cond_true, Int.toNat_natCast, hg, Option.bind_some, decide_eq_true (by omega), cond_true, cond_true, Nat.ble_eq_true_of_le (by omega), cond_true, hsh]
 refine ⟨_, rfl, ⟨by rw [List.length_set, hlen], ?_, fun j hj => ?_⟩⟩
 ·intro x hx
  rcases List.mem_or_eq_of_mem_set hx with hx | rfl
  ·exact hI.bytes x hx
  ·exact zpi hby hsb
 ·rw [zns hq]
  have hold := hI.bits j hj
  by_cases hjq : j / 8 = k + i
  ·have hm : bitAt m j = m[k + i].toNat.testBit (j % 8) := by
    unfold bitAt
    rw [hjq, List.getD_eq_getElem?_getD, hg]; rfl
   rw [if_pos hjq, zoL hby hsb, Int.toNat_natCast, Int.toNat_natCast, Nat.testBit_xor, ← hm, hold, decide_eq_true (by omega : 8 * k ≤ j), decide_eq_false (by omega : ¬ j < 8 * k + 8 * i), decide_eq_true (by omega : j < 8 * k + 8 * (i + 1))]
   have e : (t.toNat / 2 ^ (8 * i) % 256).testBit (j % 8) = t.toNat.testBit (j - 8 * k) := by
    rw [show (256 : Nat) = 2 ^ 8 by decide, Nat.testBit_mod_two_pow, decide_eq_true (by omega : j % 8 < 8), Bool.true_and, Nat.testBit_div_two_pow]
    congr 1
    omega
   rw [e]
   cases bitAt s j <;> simp
  ·rw [if_neg hjq, hold]
   congr 2
   by_cases h1 : 8 * k ≤ j
   ·by_cases h2 : j < 8 * k + 8 * i
    ·rw [decide_eq_true h2, decide_eq_true (by omega : j < 8 * k + 8 * (i + 1))]
    ·rw [decide_eq_false h2, decide_eq_false (by omega : ¬ j < 8 * k + 8 * (i + 1))]
   ·rw [decide_eq_false h1]; rfl
theorem znz (n : Nat) (st : StD) (s : List Int) (t : Int) (ht : 0 ≤ t ∧ t ≤ 4294967295) (k : Nat) (hs : s.length ≤ 100000) (hk : k + 4 ≤ s.length) (hb : IsBytes s) (hn : 40 ≤ n) :
  ∃ m, law21OldTurned_W0 n ((t, ((k : Int), 0)), (st, s)) = some (st, m) ∧ BInv s (8 * k) t.toNat 32 m := by
 have := zeJ (B := fun s => law21OldTurned_B0 n s.1.1 s.1.2.1 s.1.2.2 s.2.1.1 s.2.1.2.1 s.2.1.2.2.1 s.2.1.2.2.2.1 s.2.1.2.2.2.2.1 s.2.1.2.2.2.2.2.1 s.2.1.2.2.2.2.2.2 s.2.2) (xs := List.range 4) (mk := fun i m => ((t, ((k : Int), (i : Int))), (st, m))) (I := fun i m => BInv s (8 * k) t.toNat (8 * i) m)
  (Q := fun x => ∃ m, x = (st, m) ∧ BInv s (8 * k) t.toNat 32 m) (fun i m x hx hI => by
   have hi := zw hx
   rw [List.length_range] at hi
   obtain ⟨m', h1, h2⟩ := zmc n st s t ht k i m hs hk hi hI
   exact .inl ⟨m', h1, h2⟩) (fun m hI => ⟨(st, m), rfl, m, rfl, hI⟩) 4 0 n s (by simp) ⟨rfl, hb, fun j hj => by
    rw [show (decide (8 * k ≤ j) && decide (j < 8 * k + 8 * 0) && t.toNat.testBit (j - 8 * k)) = false by by_cases h : 8 * k ≤ j <;> simp [h]; omega]; simp⟩ (by omega)
 obtain ⟨y, h1, m, rfl, h2⟩ := this
 exact ⟨m, h1, h2⟩
end Sx
end
section
/- A state is the same as itself; nothing of an image that was turned is taken. -/
set_option linter.unusedVariables false
set_option linter.unusedSimpArgs false
namespace Sx
open Go Go.Ab
theorem zby {A : Type} [BEq A] [LawfulBEq A] (x : A) : (x != x) = false := by simp
theorem zem (n : Nat) (l : List Int) (h : l.length ≤ 100000) (hn : 200000 ≤ n) : qbq n l l = some true := by
 unfold qbq
 have hW : qbq_W0 n (l, (l, 0)) = some (Sum.inr ()) := zar (B := fun s => qbq_B0 n s.1 s.2.1 s.2.2) (f := fun i => (l, (l, (i : Int)))) (k := l.length) (fun i hi => by
   show qbq_B0 n l l (i : Int) = _
   unfold qbq_B0
   rw [zd, decide_eq_true (by omega), cond_true, zr, List.getElem?_eq_getElem hi, Option.bind_some, Option.bind_some, zby, cond_false, zt (by omega)]) (by
   show qbq_B0 n l l (l.length : Int) = _
   unfold qbq_B0
   rw [zd, decide_eq_false (by omega), cond_false]) l.length 0 n (by omega) (by omega)
 rw [zby, cond_false, hW]
 rfl
theorem znR (n : Nat) (l : List FrD) (h : l.length ≤ 300) (hs : ∀ x ∈ l, x.2.2.1.length ≤ 3000 ∧ x.2.2.2.length ≤ 3000) (hn : 200000 ≤ n) : qbv n l l = some true := by
 unfold qbv
 have hW : qbv_W0 n (l, (l, 0)) = some (Sum.inr ()) := zar (B := fun s => qbv_B0 n s.1 s.2.1 s.2.2) (f := fun i => (l, (l, (i : Int)))) (k := l.length) (fun i hi => by
   have hx := hs l[i] (List.getElem_mem hi)
   show qbv_B0 n l l (i : Int) = _
   unfold qbv_B0
   rw [zd, decide_eq_true (by omega), cond_true, zr, List.getElem?_eq_getElem hi]
   simp only [Option.bind_some, zby, cond_false]
   rw [zem n _ (by omega) hn, Option.bind_some, Bool.not_true, cond_false, zjm n _ (by omega) (by omega), Option.bind_some, Bool.not_true, cond_false, zt (by omega)]) (by
   show qbv_B0 n l l (l.length : Int) = _
   unfold qbv_B0
   rw [zd, decide_eq_false (by omega), cond_false]) l.length 0 n (by omega) (by omega)
 rw [zby, cond_false, hW]
 rfl
theorem znk (n : Nat) (l : List HaD) (h : l.length ≤ 300) (hn : 200000 ≤ n) : qbz n l l = some true := by
 unfold qbz
 have hW : qbz_W0 n (l, (l, 0)) = some (Sum.inr ()) := zar (B := fun s => qbz_B0 n s.1 s.2.1 s.2.2) (f := fun i => (l, (l, (i : Int)))) (k := l.length) (fun i hi => by
   show qbz_B0 n l l (i : Int) = _
   unfold qbz_B0
   rw [zd, decide_eq_true (by omega), cond_true, zr, List.getElem?_eq_getElem hi]
   simp only [Option.bind_some, beq_self_eq_true, Bool.and_self, Bool.not_true, cond_false]
   rw [zt (by omega)]) (by
   show qbz_B0 n l l (l.length : Int) = _
   unfold qbz_B0
   rw [zd, decide_eq_false (by omega), cond_false]) l.length 0 n (by omega) (by omega)
 rw [zby, cond_false, hW]
 rfl
theorem zgn (n : Nat) (s : StD) (hs : SmallS s) (hn : 200000 ≤ n) : qbk n s.1 s.2.1 s.2.2.1 s.2.2.2.1 s.2.2.2.2.1 s.2.2.2.2.2.1 s.2.2.2.2.2.2 s.1 s.2.1 s.2.2.1 s.2.2.2.1 s.2.2.2.2.1 s.2.2.2.2.2.1 s.2.2.2.2.2.2 = some true := by
 have hN := hs.n
 unfold qbk
 have hW : qbk_W0 n (0, (s, s)) = some (Sum.inr (s, s)) := zar (B := fun s => qbk_B0 n s.1 s.2.1.1 s.2.1.2.1 s.2.1.2.2.1 s.2.1.2.2.2.1 s.2.1.2.2.2.2.1 s.2.1.2.2.2.2.2.1 s.2.1.2.2.2.2.2.2 s.2.2.1 s.2.2.2.1 s.2.2.2.2.1 s.2.2.2.2.2.1 s.2.2.2.2.2.2.1 s.2.2.2.2.2.2.2.1 s.2.2.2.2.2.2.2.2) (f := fun i => ((i : Int), (s, s))) (k := s.1.length) (fun i hi => by
   have hx := hs.f s.1[i] (List.getElem_mem hi)
   show qbk_B0 n (i : Int) s.1 s.2.1 s.2.2.1 s.2.2.2.1 s.2.2.2.2.1 s.2.2.2.2.2.1 s.2.2.2.2.2.2 s.1 s.2.1 s.2.2.1 s.2.2.2.1 s.2.2.2.2.1 s.2.2.2.2.2.1 s.2.2.2.2.2.2 = _
   unfold qbk_B0
   rw [zd, decide_eq_true (by omega), cond_true, zr, List.getElem?_eq_getElem hi]
   simp only [Option.bind_some, zby, cond_false]
   rw [zem n _ (by omega) hn, Option.bind_some, Bool.not_true, cond_false, zem n _ (by omega) hn, Option.bind_some, Bool.not_true, cond_false, zt (by omega)]) (by
   show qbk_B0 n (s.1.length : Int) s.1 s.2.1 s.2.2.1 s.2.2.2.1 s.2.2.2.2.1 s.2.2.2.2.2.1 s.2.2.2.2.2.2 s.1 s.2.1 s.2.2.1 s.2.2.2.1 s.2.2.2.2.1 s.2.2.2.2.2.1 s.2.2.2.2.2.2 = _
   unfold qbk_B0
   rw [zd, decide_eq_false (by omega), cond_false]) s.1.length 0 n (by omega) (by omega)
 simp only [zby, cond_false]
 refine (congrArg (fun q => Option.bind q _) hW).trans ?_
 rw [Option.bind_some]
 show ((qbv n s.2.1 s.2.1).bind _) = _
 rw [znR n _ (by omega) hs.o hn, Option.bind_some, cond_true]
 show ((qbz n s.2.2.1 s.2.2.1).bind _) = _
 rw [znk n _ (by omega) hn]
 rfl
theorem zmu (s : StD) (ho : OkS s) (hl : LenSt s) (a t : Int) (ha : 0 ≤ a ∧ a ≤ 65535) (ht : 0 ≤ t ∧ t ≤ 4294967295) : law21OldTurned 100000000 s.1 s.2.1 s.2.2.1 s.2.2.2.1 s.2.2.2.2.1 s.2.2.2.2.2.1 s.2.2.2.2.2.2 a t = some true := by
 unfold law21OldTurned
 obtain ⟨x, e, hS⟩ := small21 100000000 s hl (by omega)
 rw [e, Option.bind_some, answers21 100000000 (by omega)]
 cases x with
 | false => rfl
 | true =>
  have hs := hS rfl
  rw [Bool.not_true, cond_false]
  by_cases h0 : t = 0
  ·rw [h0]; rfl
  ·rw [beq_false_of_ne h0, cond_false]
   obtain ⟨p, hp⟩ := zhZ (v := 7) (by omega)
   have hi := zeH 100000000 (by omega) true s ho hs p
   rw [hp] at hi
   rw [hi, Option.bind_some, zd]
   by_cases h1 : (sealV (imgB true s p)).length > 65536
   ·rw [decide_eq_true (by omega)]; rfl
   ·have hb := zaP true ho hs p
    have hlen := zbm (imgB true s p)
    have hpos : 1 ≤ (imgB true s p).length := by
     have : imgB true s p = 1 :: (imgB true s p).drop 1 := rfl
     rw [this]; simp
    rw [decide_eq_false (by omega), cond_false]
    have hsub : subI .i64 (((sealV (imgB true s p)).length : Nat) : Int) 4 = ((imgB true s p).length : Int) := by rw [zif (by omega) (by omega)]; omega
    have hk : remI (cvtI .i64 a) ((imgB true s p).length : Int) = ((a.toNat % (imgB true s p).length : Nat) : Int) := by
     rw [zkC (by omega) (by omega), zab ha.1]
     have : (a.toNat : Int) = a := by omega
     rw [Int.natCast_emod, this]
    have hlt : a.toNat % (imgB true s p).length < (imgB true s p).length := Nat.mod_lt _ (by omega)
    rw [hsub, beq_false_of_ne (by omega), Bool.not_false, cond_true, hk]
    obtain ⟨m, hm, hI⟩ := znz 100000000 s (sealV (imgB true s p)) t ht (a.toNat % (imgB true s p).length) (by omega) (by omega) (zan hb) (by omega)
    have hml := hI.len
    refine (congrArg (fun q => Option.bind q _) hm).trans ?_
    rw [Option.bind_some]
    have hne : m ≠ sealV (imgB true s p) := fun he => by
     -- some bit of the turn is set
     have hz : t.toNat ≠ 0 := by omega
     obtain ⟨i, hi⟩ := Nat.exists_testBit_of_ne_zero hz
     have hi32 : i < 32 := by
      rcases Nat.lt_or_ge i 32 with h | h
      ·exact h
      ·rw [Nat.testBit_lt_two_pow (Nat.lt_of_lt_of_le (by omega : t.toNat < 2 ^ 32) (Nat.pow_le_pow_right (by omega) h))] at hi; cases hi
     have := hI.bits (8 * (a.toNat % (imgB true s p).length) + i) (by omega)
     rw [he, decide_eq_true (by omega : 8 * (a.toNat % (imgB true s p).length) ≤ 8 * (a.toNat % (imgB true s p).length) + i), decide_eq_true (by omega : 8 * (a.toNat % (imgB true s p).length) + i < 8 * (a.toNat % (imgB true s p).length) + 32), Nat.add_sub_cancel_left, hi] at this
     cases hq : bitAt (sealV (imgB true s p)) (8 * (a.toNat % (imgB true s p).length) + i) <;> rw [hq] at this <;> cases this
    have hop : openV m = ([], 3) := by
     unfold openV
     rw [if_neg (by omega)]
     by_cases hsm : sealV (m.take (m.length - 4)) = m
     ·exact absurd (zmz hb hI.bytes hml (k := 8 * (a.toNat % (imgB true s p).length)) (t := t.toNat) (by omega) (fun j hj => hI.bits j (by omega)) (zej hI.bytes _) hsm) hne
     ·rw [if_neg hsm]
    have hup : qbs 100000000 m = some ([], 3) := by
     unfold qbs qbj
     rw [zd, decide_eq_false (by omega), cond_false, zjQ 100000000 m hI.bytes (by omega) (by omega), Option.bind_some, hop]
     rfl
    simp only
    rw [hup, Option.bind_some, Option.bind_some, cond_true]
    simp only
    rw [show ((3 : Int) == 3) = true from rfl, cond_true, show (lenI ([] : List Int) == 0) = true from rfl, cond_true, zgn 100000000 s hs (by omega)]
    rfl
end Sx
end
