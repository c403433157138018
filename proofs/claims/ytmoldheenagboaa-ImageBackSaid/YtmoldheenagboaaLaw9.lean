/- Plain laws (texts ImK, ImL, ImM, ImN, ImO, ImRowB). -/
import Derived.Test.YtmoldheenagboaaLaw1
import Derived.Test.YtmoldheenagboaaLaw7
section
/- What is written is read again: numbers. (Under way.) -/
set_option linter.unusedVariables false
set_option linter.unusedSimpArgs false
namespace Sx
open Go Go.Ab
theorem andNot128 (x : Nat) (hx : x < 256) : cvtI .u64 (andNotI .u8 (x : Int) 128) = ((x % 128 : Nat) : Int) := by
 have h : ∀ m : Nat, m < 256 → andNotI .u8 (m : Int) 128 = ((m % 128 : Nat) : Int) := by decide +kernel
 rw [h x hx, zaJ (by omega) (by omega)]
theorem zpo (a k : Nat) (hk : k ≤ 9) (h : a * 128 ^ k < 18446744073709551616) : shlI .u64 (a : Int) ((7 * k : Nat) : Int) = ((a * 128 ^ k : Nat) : Int) := by
 unfold shlI
 rw [u64wrap]
 have h1 : min ((7 * k : Nat) : Int).toNat IntKind.u64.bits = 7 * k := by
  show min ((7 * k : Nat) : Int).toNat 64 = 7 * k
  rw [Int.toNat_natCast]; omega
 rw [h1]
 have h2 : (2 : Int) ^ (7 * k) = ((128 ^ k : Nat) : Int) := by
  rw [Int.pow_mul]
  simp
 rw [h2]
 have h3 : (a : Int) * ((128 ^ k : Nat) : Int) = ((a * 128 ^ k : Nat) : Int) := by simp
 rw [h3]
 omega
theorem zji (v x k : Nat) (hk : k ≤ 9) (hx : x < 256) (hv : v < 128 ^ k) (h : x % 128 * 128 ^ k + v < 18446744073709551616) : vstep (v : Int) (x : Int) k = ((x % 128 * 128 ^ k + v : Nat) : Int) := by
 unfold vstep
 rw [andNot128 x hx, zpo (x % 128) k hk (by omega), zmN v _ (by omega) (by omega)]
 have e : (128 : Nat) ^ k = 2 ^ (7 * k) := by rw [Nat.pow_mul]
 rw [e] at hv ⊢
 have := Nat.shiftLeft_add_eq_or_of_lt hv (x % 128)
 rw [Nat.shiftLeft_eq] at this
 rw [this, Nat.or_comm]
theorem ziT (V : Nat) (hV : V < 18446744073709551616) (rest : List Int) : ∀ (f i : Nat), f + i = 10 → (0 < i → 1 ≤ V / 128 ^ i) → varR (varF f (V / 128 ^ i) ++ rest) i ((V % 128 ^ i : Nat) : Int) = ((V : Int), rest, false)
 | 0, i, hi, h1 => by
  obtain rfl : i = 10 := by omega
  have := h1 (by omega)
  have : V / 128 ^ 10 = 0 := Nat.div_eq_of_lt (by omega)
  omega
 | f + 1, i, hi, h1 => by
  have hp : 0 < 128 ^ i := Nat.pow_pos (by omega)
  have hdm := Nat.div_add_mod V (128 ^ i)
  have hml := Nat.mod_lt V hp
  have h9 : i = 9 → V / 128 ^ i ≤ 1 := fun h => by
   subst h
   have : V / 128 ^ 9 < 2 := (Nat.div_lt_iff_lt_mul (by omega)).2 (by omega)
   omega
  have hmp := @Nat.mod_pow_succ V 128 i
  have hdd : V / 128 ^ i / 128 = V / 128 ^ (i + 1) := by rw [Nat.div_div_eq_div_mul, Nat.pow_succ]
  generalize hw : V / 128 ^ i = w at *
  unfold varF
  by_cases hlt : w < 128
  ·rw [if_pos hlt]
   show varR ((w : Int) :: rest) i _ = _
   unfold varR
   rw [if_neg (by
    rintro (⟨h, h'⟩ | ⟨h, h'⟩)
    ·have := h9 h; omega
    ·have := h1 h; omega), if_pos (by omega)]
   have hvv : w % 128 * 128 ^ i + V % 128 ^ i = V := by
    rw [Nat.mod_eq_of_lt hlt, Nat.mul_comm]; exact hdm
   rw [zji _ w i (by omega) (by omega) hml (by omega), hvv]
  ·rw [if_neg hlt]
   show varR (((128 + w % 128 : Nat) : Int) :: (varF f (w / 128) ++ rest)) i _ = _
   unfold varR
   have hi9 : i ≠ 9 := fun h => by have := h9 h; omega
   rw [if_neg (by
    rintro (⟨h, h'⟩ | ⟨h, h'⟩)
    ·exact hi9 h
    ·omega), if_neg (by omega)]
   have hx : (128 + w % 128) % 128 = w % 128 := by omega
   have hvv : (128 + w % 128) % 128 * 128 ^ i + V % 128 ^ i = V % 128 ^ (i + 1) := by
    rw [hx, hmp, Nat.mul_comm, Nat.add_comm]
   have hle : V % 128 ^ (i + 1) ≤ V := Nat.mod_le _ _
   rw [zji _ (128 + w % 128) i (by omega) (by omega) hml (by omega), hvv, hdd]
   exact ziT V hV rest f (i + 1) (by omega) (fun _ => by rw [← hdd]; omega)
theorem zmZ (V : Nat) (hV : V < 18446744073709551616) (rest : List Int) : varV (varN V ++ rest) false = ((V : Int), rest, false) := by
 have := ziT V hV rest 10 0 (by omega) (by omega)
 simp only [Nat.pow_zero, Nat.div_one, Nat.mod_one] at this
 unfold varV varN
 rw [if_neg (by simp)]
 exact this
end Sx
end
section
/- What is written is read again: the image of a plain state. -/
set_option linter.unusedVariables false
set_option linter.unusedSimpArgs false
namespace Sx
open Go Go.Ab
def Back {A : Type} (one : Rd A) (f : A → List Int) (x : A) : Prop := ∀ rest, one false (f x ++ rest) false = (x, false, rest, false)
def i31 (v : Int) : Prop := 0 ≤ v ∧ v ≤ 2147483647
theorem zqc (v : Int) : numB false v = varN v.toNat := rfl
theorem zlu {v : Int} (h : u64 v) (rest : List Int) : varV (numB false v ++ rest) false = (v, rest, false) := by
 have h1 := h.1; have h2 := h.2
 rw [zqc, zmZ v.toNat (by omega) rest, show ((v.toNat : Nat) : Int) = v by omega]
theorem zgN {v : Int} (h : u64 v) : Back numV (numB false) v := fun rest => by
 unfold numV
 rw [zlu h rest]
theorem zpD {v : Int} (h : i31 v) : u64 v := by have h1 := h.1; have h2 := h.2; exact ⟨by omega, by omega⟩
theorem zal {v : Int} (h : i31 v) : Back intV (numB false) v := fun rest => by
 have h2 := h.2
 unfold intV
 rw [zlu (zpD h) rest, if_neg (by simp only; omega)]
theorem zii {A : Type} {one : Rd A} {f : A → List Int} : ∀ (l acc : List A) (rest : List Int), (∀ x ∈ l, Back one f x) → wlist one l.length acc false (l.flatMap f ++ rest) false = (acc ++ l, false, rest, false)
 | [], acc, rest, h => by simp [wlist]
 | x :: l, acc, rest, h => by
  rw [List.length_cons, List.flatMap_cons, List.append_assoc]
  unfold wlist
  rw [if_neg (by simp), h x (by simp) (l.flatMap f ++ rest)]
  simp only
  rw [zii l (acc ++ [x]) rest fun y hy => h y (by simp [hy]), List.append_assoc]
  rfl
theorem zln {A : Type} {one : Rd A} {f : A → List Int} (l : List A) (hl : l.length ≤ 100000) (h : ∀ x ∈ l, Back one f x) : ∀ rest, rowW one false (numB false (l.length : Int) ++ (l.flatMap f ++ rest)) false = (l, false, rest, false) := fun rest => by
 unfold rowW
 rw [zal ⟨by omega, by omega⟩]
 simp only [Int.toNat_natCast]
 rw [zii l [] rest h]
 rfl
theorem znf {l : List Int} (hl : l.length ≤ 100000) (h : ∀ v ∈ l, u64 v) (rest : List Int) : rowW numV false (rowB false l ++ rest) false = (l, false, rest, false) := by
 unfold rowB numsB
 rw [List.flatMap_cons, List.append_assoc]
 exact zln l hl (fun x hx => zgN (h x hx)) rest
theorem zH {A B : Type} {one : Rd A} {f : A → List Int} {x : A} {g : A → Rd B} {r xs : List Int} {q : B × Bool × List Int × Bool} (h : Back one f x) (hx : xs = f x ++ r) (hg : g x false r false = q) : thenR one g false xs false = q := by
 unfold thenR
 rw [hx, h r]
 exact hg
theorem zfl {B : Type} {l : List Int} (hl : l.length ≤ 100000) (h : ∀ v ∈ l, u64 v) {g : List Int → Rd B} {r xs : List Int} {q : B × Bool × List Int × Bool} (hx : xs = rowB false l ++ r) (hg : g l false r false = q) : thenR (rowW numV) g false xs false = q := by
 unfold thenR
 rw [hx, znf hl h r]
 exact hg
theorem zdg {v : Int} (h : i31 v) : n0 v = v := by unfold n0; rw [if_neg (by have := h.1; omega)]
structure PlF (f : FrD) : Prop where
 a : i31 f.1
 b : i31 f.2.1
theorem zmm {f : FrD} (hp : PlF f) (ho : OkF f) (hs : f.2.2.1.length ≤ 3000 ∧ f.2.2.2.length ≤ 3000) : Back frameR (frB false) f := fun rest => by
 unfold frameR frB
 rw [zdg hp.a, zdg hp.b]
 refine zH (zal hp.a) (r := numB false f.2.1 ++ (rowB false f.2.2.1 ++ (rowB false f.2.2.2 ++ rest))) (by simp [numsB, List.append_assoc]) ?_
 refine zH (zal hp.b) (r := rowB false f.2.2.1 ++ (rowB false f.2.2.2 ++ rest)) rfl ?_
 refine zfl (by omega) ho.l (r := rowB false f.2.2.2 ++ rest) rfl ?_
 exact zfl (by omega) ho.k (r := rest) rfl rfl
theorem zoS {f : FrD} (hp : PlF f) (ho : OkO f) (hs : f.2.2.1.length ≤ 3000 ∧ f.2.2.2.length ≤ 3000) : Back objR (obB false) f := fun rest => by
 unfold objR obB
 rw [zdg hp.a, zdg hp.b]
 refine zH (zal hp.a) (r := numB false f.2.1 ++ (rowB false f.2.2.1 ++ (numB false (f.2.2.2.length : Int) ++ (f.2.2.2 ++ rest)))) (by simp [numsB, List.append_assoc]) ?_
 refine zH (zal hp.b) (r := rowB false f.2.2.1 ++ (numB false (f.2.2.2.length : Int) ++ (f.2.2.2 ++ rest))) rfl ?_
 refine zfl (by omega) ho.l (r := numB false (f.2.2.2.length : Int) ++ (f.2.2.2 ++ rest)) rfl ?_
 refine zH (zal (v := (f.2.2.2.length : Int)) ⟨by omega, by omega⟩) (r := f.2.2.2 ++ rest) rfl ?_
 unfold thenR takeR
 rw [zfd (k := f.2.2.2.length) (by simp)]
 simp [retR]
structure PlH (h : HaD) : Prop where
 a : i31 h.1
theorem zoK {h : HaD} (hp : PlH h) (ho : OkH h) : Back hanR (haB false) h := fun rest => by
 unfold hanR haB
 rw [zdg hp.a]
 have hb : i31 (bif h.2.2 then 1 else 0) := by cases h.2.2 <;> (unfold i31; simp)
 refine zH (zal hp.a) (r := numB false h.2.1 ++ (numB false (bif h.2.2 then 1 else 0) ++ rest)) (by simp [numsB, List.append_assoc]) ?_
 refine zH (zgN ho.d) (r := numB false (bif h.2.2 then 1 else 0) ++ rest) rfl ?_
 refine zH (zal hb) (r := rest) rfl ?_
 obtain ⟨a, d, o⟩ := h
 unfold endR
 cases o <;> rfl
structure PlS (s : StD) : Prop where
 f : ∀ x ∈ s.1, PlF x
 o : ∀ x ∈ s.2.1, PlF x
 h : ∀ x ∈ s.2.2.1, PlH x
 q : i31 s.2.2.2.1
 u : i31 s.2.2.2.2.1
 e : i31 s.2.2.2.2.2.1
theorem zfn {A B : Type} {one : Rd A} {f : A → List Int} (l : List A) (hl : l.length ≤ 100000) (h : ∀ x ∈ l, Back one f x) {g : List A → Rd B} {r xs : List Int} {q : B × Bool × List Int × Bool} (hx : xs = partB false f l ++ r) (hg : g l false r false = q) :
  thenR (rowW one) g false xs false = q := by
 unfold thenR
 have : xs = numB false (l.length : Int) ++ (l.flatMap f ++ r) := by rw [hx]; simp [partB, numsB, List.append_assoc]
 rw [this, zln l hl h r]
 exact hg
theorem zpw (s : StD) (ho : OkS s) (hs : SmallS s) (hp : PlS s) : stR false (numsB false [n0 s.2.2.2.2.2.1, n0 s.2.2.2.1, n0 s.2.2.2.2.1, s.2.2.2.2.2.2] ++ partB false (frB false) s.1 ++ partB false (obB false) s.2.1 ++ partB false (haB false) s.2.2.1) false = (s, false, [], false) := by
 have hN := hs.n
 unfold stR
 rw [zdg hp.e, zdg hp.q, zdg hp.u]
 refine zH (zal hp.e) (r := numB false s.2.2.2.1 ++ (numB false s.2.2.2.2.1 ++ (numB false s.2.2.2.2.2.2 ++ (partB false (frB false) s.1 ++ (partB false (obB false) s.2.1 ++ partB false (haB false) s.2.2.1))))) (by simp [numsB, List.append_assoc]) ?_
 refine zH (zal hp.q) (r := numB false s.2.2.2.2.1 ++ (numB false s.2.2.2.2.2.2 ++ (partB false (frB false) s.1 ++ (partB false (obB false) s.2.1 ++ partB false (haB false) s.2.2.1)))) rfl ?_
 refine zH (zal hp.u) (r := numB false s.2.2.2.2.2.2 ++ (partB false (frB false) s.1 ++ (partB false (obB false) s.2.1 ++ partB false (haB false) s.2.2.1))) rfl ?_
 refine zH (zgN ho.v) (r := partB false (frB false) s.1 ++ (partB false (obB false) s.2.1 ++ partB false (haB false) s.2.2.1)) rfl ?_
 refine zfn (f := frB false) s.1 (by omega) (fun x hx => zmm (hp.f x hx) (ho.f x hx) (hs.f x hx)) (r := partB false (obB false) s.2.1 ++ partB false (haB false) s.2.2.1) rfl ?_
 refine zfn (f := obB false) s.2.1 (by omega) (fun x hx => zoS (hp.o x hx) (ho.o x hx) (hs.o x hx)) (r := partB false (haB false) s.2.2.1) rfl ?_
 exact zfn (f := haB false) s.2.2.1 (by omega) (fun x hx => zoK (hp.h x hx) (ho.h x hx)) (r := []) (by simp) rfl
theorem zpG (p : BitVec 32) : fixV (le4 p) = W32 p := by
 have := zaR p
 unfold le4
 rw [fix4 (by omega) (by omega) (by omega) (by omega)]
 omega
theorem znd (s : StD) (ho : OkS s) (hs : SmallS s) (hp : PlS s) (p : BitVec 32) : bodyV (imgB false s p) = (s, W32 p, 0) := by
 have hb := zpw s ho hs hp
 have e : imgB false s p = 2 :: (le4 p ++ (numsB false [n0 s.2.2.2.2.2.1, n0 s.2.2.2.1, n0 s.2.2.2.2.1, s.2.2.2.2.2.2] ++ partB false (frB false) s.1 ++ partB false (obB false) s.2.1 ++ partB false (haB false) s.2.2.1)) := by
  show headB false s p ++ partB false (frB false) s.1 ++ partB false (obB false) s.2.1 ++ partB false (haB false) s.2.2.1 = _
  unfold headB
  simp [List.append_assoc]
 rw [e]
 generalize numsB false [n0 s.2.2.2.2.2.1, n0 s.2.2.2.1, n0 s.2.2.2.2.1, s.2.2.2.2.2.2] ++ partB false (frB false) s.1 ++ partB false (obB false) s.2.1 ++ partB false (haB false) s.2.2.1 = r at hb ⊢
 have t1 : takeV 1 (2 :: (le4 p ++ r)) false = ([2], le4 p ++ r, false) := zfd (k := 1) (by simp)
 have t4 : takeV 4 (le4 p ++ r) false = (le4 p, r, false) := zfd (k := 4) (by simp [le4])
 have := zaR p
 unfold bodyV
 rw [t1]
 simp only
 rw [t4, fix1 (by omega), zpG, if_neg (by simp)]
 simp only
 rw [if_neg (by simp), hb, if_neg (by simp), zgR (by omega) (by omega)]
end Sx
end
section
/- image.Encode: the same bytes. -/
set_option linter.unusedVariables false
set_option linter.unusedSimpArgs false
namespace Sx
open Go Go.Ab
theorem ziM (n : Nat) (v : Int) (m : List Int) (hv : u64 v) (hm : m.length ≤ 4294900000) (hn : 20 ≤ n) : qah n v m = some (m ++ numB false v) := by
 have h1 := hv.1; have h2 := hv.2
 have hl := zx false v
 unfold qah
 obtain ⟨k, rfl⟩ := Int.eq_ofNat_of_zero_le hv.1
 have e : numB false (k : Int) = varN k := rfl
 rw [e] at hl ⊢
 rw [qci_eq n k (by omega) hn, Option.bind_some, zj (by rw [List.length_append]; omega)]
 rfl
theorem zeu (n : Nat) (v : Int) (m : List Int) (hv : i64 v) (hm : m.length ≤ 4294900000) (hn : 20 ≤ n) : qal n v m = some (m ++ numB false (n0 v)) := by
 have h1 := hv.1; have h2 := hv.2
 have hu := (zn 0 v h1 h2).2
 unfold qal
 have e : cvtI .u64 (maxI v 0) = n0 v := by
  unfold maxI n0
  by_cases h : v < 0
  ·rw [decide_eq_true (by omega), if_pos h, cond_true, zaJ (by omega) (by omega)]
  ·rw [decide_eq_false (by omega), if_neg h, cond_false, zaJ (by omega) (by omega)]
 rw [e, ziM n _ m hu hm hn]
 rfl
theorem zla (n k : Nat) (m : List Int) (hk : k ≤ 1000000) (hm : m.length ≤ 4294900000) (hn : 20 ≤ n) : qal n (k : Int) m = some (m ++ numB false (k : Int)) := by
 have h := zeu n (k : Int) m ⟨by omega, by omega⟩ hm hn
 rwa [show n0 (k : Int) = (k : Int) from by unfold n0; rw [if_neg (by omega)]] at h
theorem zpe (n : Nat) (l m : List Int) (hl : ∀ v ∈ l, u64 v) (hs : l.length ≤ 10000) (hm : m.length ≤ 4200000000) (hn : 20000 ≤ n) : qam n l m = some (m ++ rowB false l) := by
 have h := zN (B := fun s => qam_B0 n s.1.1 s.1.2.1 s.1.2.2 s.2) (xs := l) (mk := fun i a => ((l, (lenI l, (i : Int))), a)) (f := numB false) (e := fun a => a) (c := 11) (m0 := m ++ numB false (l.length : Int)) (cap := 4290000000) (fun x _ => zx false x) (by
   have := zx false (l.length : Int)
   rw [List.length_append]; omega) (fun i a x hx hmm ha => by
   have hi := zw hx
   show qam_B0 n l (lenI l) (i : Int) a = _
   unfold qam_B0
   rw [zd, decide_eq_true (by omega), cond_true, zr, hx, Option.bind_some, ziM n x a (hl x hmm) (by omega) (by omega), Option.bind_some, zt (by omega)]) (fun a => by
   show qam_B0 n l (lenI l) (l.length : Int) a = _
   unfold qam_B0
   rw [zd, decide_eq_false (by omega), cond_false]) (n := n) (by omega)
 unfold qam
 rw [zd, zla n l.length m (by omega) (by omega) (by omega), Option.bind_some]
 refine (congrArg (fun q => Option.bind q _) h).trans ?_
 unfold rowB numsB
 rw [List.flatMap_cons, List.append_assoc]
 rfl
theorem zpm (n : Nat) (f : FrD) (m : List Int) (ho : OkF f) (hs : f.2.2.1.length ≤ 10000 ∧ f.2.2.2.length ≤ 10000) (hm : m.length ≤ 4100000000) (hn : 20000 ≤ n) : qr n f.1 f.2.1 f.2.2.1 f.2.2.2 m = some (m ++ frB false f) := by
 have l1 := zx false (n0 f.1)
 have l2 := zx false (n0 f.2.1)
 have l3 := zS false ((f.2.2.1.length : Int) :: f.2.2.1)
 simp only [List.length_cons] at l3
 unfold qr
 rw [zeu n _ m ho.a (by omega) (by omega), Option.bind_some, zeu n _ _ ho.b (by rw [List.length_append]; omega) (by omega), Option.bind_some, zpe n _ _ ho.l hs.1 (by simp only [List.length_append]; omega) hn, Option.bind_some,
  zpe n _ _ ho.k hs.2 (by simp only [List.length_append, rowB]; omega) hn]
 simp [frB, numsB, List.append_assoc]
theorem zqj (n : Nat) (f : FrD) (m : List Int) (ho : OkO f) (hs : f.2.2.1.length ≤ 10000 ∧ f.2.2.2.length ≤ 10000) (hm : m.length ≤ 4100000000) (hn : 20000 ≤ n) : qak n f.1 f.2.1 f.2.2.1 f.2.2.2 m = some (m ++ obB false f) := by
 have l1 := zx false (n0 f.1)
 have l2 := zx false (n0 f.2.1)
 have l4 := zx false (f.2.2.2.length : Int)
 have l3 := zS false ((f.2.2.1.length : Int) :: f.2.2.1)
 simp only [List.length_cons] at l3
 unfold qak
 rw [zeu n _ m ho.a (by omega) (by omega), Option.bind_some, zeu n _ _ ho.b (by rw [List.length_append]; omega) (by omega), Option.bind_some, zpe n _ _ ho.l hs.1 (by simp only [List.length_append]; omega) hn, Option.bind_some,
  zd, zla n _ _ (by omega) (by simp only [List.length_append, rowB]; omega) (by omega), Option.bind_some, zj (by simp only [List.length_append, rowB]; omega), cond_true]
 simp [obB, numsB, List.append_assoc]
theorem zqh (n : Nat) (h : HaD) (m : List Int) (ho : OkH h) (hm : m.length ≤ 4100000000) (hn : 20000 ≤ n) : qaq n h.1 h.2.1 h.2.2 m = some (m ++ haB false h) := by
 have l1 := zx false (n0 h.1)
 have l2 := zx false h.2.1
 unfold qaq
 rw [zeu n _ m ho.a (by omega) (by omega), Option.bind_some, ziM n _ _ ho.d (by rw [List.length_append]; omega) (by omega), Option.bind_some]
 obtain ⟨a, d, o⟩ := h
 cases o with
 | true => rw [cond_true, ziM n 1 _ ⟨by omega, by omega⟩ (by simp only [List.length_append]; simp only at l1 l2; omega) (by omega)]; simp [haB, numsB, List.append_assoc]
 | false => rw [cond_false, ziM n 0 _ ⟨by omega, by omega⟩ (by simp only [List.length_append]; simp only at l1 l2; omega) (by omega)]; simp [haB, numsB, List.append_assoc]
theorem zpQ (n : Nat) (s : StD) (ho : OkS s) (m : List Int) (hm : m.length ≤ 1000) (hn : 20000 ≤ n) :
  qbl_W0 n (((s.2.2.2.2.2.1, (s.2.2.2.1, s.2.2.2.2.1)), 0), (s, m)) = some (s, m ++ numB false (n0 s.2.2.2.2.2.1) ++ numB false (n0 s.2.2.2.1) ++ numB false (n0 s.2.2.2.2.1)) := by
 have l1 := zx false (n0 s.2.2.2.2.2.1)
 have l2 := zx false (n0 s.2.2.2.1)
 obtain ⟨k, rfl⟩ : ∃ k, n = k + 4 := ⟨n - 4, by omega⟩
 refine (zM (B := fun s => qbl_B0 (k + 4) s.1.1.1 s.1.1.2.1 s.1.1.2.2 s.1.2 s.2.1.1 s.2.1.2.1 s.2.1.2.2.1 s.2.1.2.2.2.1 s.2.1.2.2.2.2.1 s.2.1.2.2.2.2.2.1 s.2.1.2.2.2.2.2.2 s.2.2) (s' := (((s.2.2.2.2.2.1, (s.2.2.2.1, s.2.2.2.2.1)), 1), (s, m ++ numB false (n0 s.2.2.2.2.2.1)))) ?_).trans ?_
 ·show ((qal (k + 4) s.2.2.2.2.2.1 m).bind _) = _
  rw [zeu _ _ m ho.e (by omega) (by omega)]; rfl
 refine (zM (s' := (((s.2.2.2.2.2.1, (s.2.2.2.1, s.2.2.2.2.1)), 2), (s, m ++ numB false (n0 s.2.2.2.2.2.1) ++ numB false (n0 s.2.2.2.1)))) ?_).trans ?_
 ·show ((qal (k + 4) s.2.2.2.1 (m ++ numB false (n0 s.2.2.2.2.2.1))).bind _) = _
  rw [zeu _ _ _ ho.q (by rw [List.length_append]; omega) (by omega)]; rfl
 refine (zM (s' := (((s.2.2.2.2.2.1, (s.2.2.2.1, s.2.2.2.2.1)), 3), (s, m ++ numB false (n0 s.2.2.2.2.2.1) ++ numB false (n0 s.2.2.2.1) ++ numB false (n0 s.2.2.2.2.1)))) ?_).trans ?_
 ·show ((qal (k + 4) s.2.2.2.2.1 (m ++ numB false (n0 s.2.2.2.2.2.1) ++ numB false (n0 s.2.2.2.1))).bind _) = _
  rw [zeu _ _ _ ho.u (by simp only [List.length_append]; omega) (by omega)]; rfl
 exact zy rfl
end Sx
end
section
/- image.Encode: the same bytes as the reference's. -/
set_option linter.unusedVariables false
set_option linter.unusedSimpArgs false
namespace Sx
open Go Go.Ab
theorem zpT (n : Nat) (s : StD) (ho : OkS s) (hs : SmallS s) (m : List Int) (hm0 : m.length ≤ 1000000000) (hn : 200000 ≤ n) :
  qbl_W2 n ((s.1, (lenI (s.1), 0)), (s, m)) = some (s, m ++ (s.1).flatMap (frB false)) := by
 have hN := hs.n
 have h := zN (B := fun s => qbl_B2 n s.1.1 s.1.2.1 s.1.2.2 s.2.1.1 s.2.1.2.1 s.2.1.2.2.1 s.2.1.2.2.2.1 s.2.1.2.2.2.2.1 s.2.1.2.2.2.2.2.1 s.2.1.2.2.2.2.2.2 s.2.2) (xs := s.1) (mk := fun i a => ((s.1, (lenI (s.1), (i : Int))), (s, a))) (f := frB false) (e := fun a => (s, a)) (c := 200000) (m0 := m) (cap := 4000000000)
  (fun x hm => Nat.le_trans (zcF false x (hs.f x hm)) (by omega)) (by omega) (fun i a x hx hm ha => by
   have hi := zw hx
   have hsx := hs.f x hm
   show qbl_B2 n (s.1) (lenI (s.1)) (i : Int) s.1 s.2.1 s.2.2.1 s.2.2.2.1 s.2.2.2.2.1 s.2.2.2.2.2.1 s.2.2.2.2.2.2 a = _
   unfold qbl_B2
   rw [zd, decide_eq_true (by omega), cond_true, zr, hx, Option.bind_some, zpm n x a (ho.f x hm) (by omega) (by omega) (by omega), Option.bind_some, zt (by omega)]) (fun a => by
   show qbl_B2 n (s.1) (lenI (s.1)) ((s.1).length : Int) s.1 s.2.1 s.2.2.1 s.2.2.2.1 s.2.2.2.2.1 s.2.2.2.2.2.1 s.2.2.2.2.2.2 a = _
   unfold qbl_B2
   rw [zd, decide_eq_false (by omega), cond_false]) (n := n) (by omega)
 exact h
theorem zpV (n : Nat) (s : StD) (ho : OkS s) (hs : SmallS s) (m : List Int) (hm0 : m.length ≤ 1000000000) (hn : 200000 ≤ n) :
  qbl_W4 n ((s.2.1, (lenI (s.2.1), 0)), (s, m)) = some (s, m ++ (s.2.1).flatMap (obB false)) := by
 have hN := hs.n
 have h := zN (B := fun s => qbl_B4 n s.1.1 s.1.2.1 s.1.2.2 s.2.1.1 s.2.1.2.1 s.2.1.2.2.1 s.2.1.2.2.2.1 s.2.1.2.2.2.2.1 s.2.1.2.2.2.2.2.1 s.2.1.2.2.2.2.2.2 s.2.2) (xs := s.2.1) (mk := fun i a => ((s.2.1, (lenI (s.2.1), (i : Int))), (s, a))) (f := obB false) (e := fun a => (s, a)) (c := 200000) (m0 := m) (cap := 4000000000)
  (fun x hm => Nat.le_trans (zcB false x (hs.o x hm)) (by omega)) (by omega) (fun i a x hx hm ha => by
   have hi := zw hx
   have hsx := hs.o x hm
   show qbl_B4 n (s.2.1) (lenI (s.2.1)) (i : Int) s.1 s.2.1 s.2.2.1 s.2.2.2.1 s.2.2.2.2.1 s.2.2.2.2.2.1 s.2.2.2.2.2.2 a = _
   unfold qbl_B4
   rw [zd, decide_eq_true (by omega), cond_true, zr, hx, Option.bind_some, zqj n x a (ho.o x hm) (by omega) (by omega) (by omega), Option.bind_some, zt (by omega)]) (fun a => by
   show qbl_B4 n (s.2.1) (lenI (s.2.1)) ((s.2.1).length : Int) s.1 s.2.1 s.2.2.1 s.2.2.2.1 s.2.2.2.2.1 s.2.2.2.2.2.1 s.2.2.2.2.2.2 a = _
   unfold qbl_B4
   rw [zd, decide_eq_false (by omega), cond_false]) (n := n) (by omega)
 exact h
theorem zpX (n : Nat) (l : List HaD) (ho : ∀ x ∈ l, OkH x) (hl : l.length ≤ 10000) (m : List Int) (hm0 : m.length ≤ 1000000000) (hn : 200000 ≤ n) :
  qbl_W6 n ((l, (lenI l, 0)), m) = some (m ++ l.flatMap (haB false)) := by
 have h := zN (B := fun s => qbl_B6 n s.1.1 s.1.2.1 s.1.2.2 s.2) (xs := l) (mk := fun i a => ((l, (lenI l, (i : Int))), a)) (f := haB false) (e := fun a => a) (c := 200000) (m0 := m) (cap := 4000000000)
  (fun x hm => Nat.le_trans (zeQ false x) (by omega)) (by omega) (fun i a x hx hm ha => by
   have hi := zw hx
   show qbl_B6 n l (lenI l) (i : Int) a = _
   unfold qbl_B6
   rw [zd, decide_eq_true (by omega), cond_true, zr, hx, Option.bind_some, zqh n x a (ho x hm) (by omega) (by omega), Option.bind_some, zt (by omega)]) (fun a => by
   show qbl_B6 n l (lenI l) (l.length : Int) a = _
   unfold qbl_B6
   rw [zd, decide_eq_false (by omega), cond_false]) (n := n) (by omega)
 exact h
theorem znZ (n : Nat) (hn : 100000000 ≤ n) (s : StD) (ho : OkS s) (hs : SmallS s) (p : BitVec 32) :
  qbl n s.1 s.2.1 s.2.2.1 s.2.2.2.1 s.2.2.2.2.1 s.2.2.2.2.2.1 s.2.2.2.2.2.2 (W32 p) = some (sealV (imgB false s p)) := by
 have hN := hs.n
 have hb := zaP false ho hs p
 have hl := zih false hs p
 have hle : (le4 p).length = 4 := rfl
 have a1 := zx false (n0 s.2.2.2.2.2.1)
 have a2 := zx false (n0 s.2.2.2.1)
 have a3 := zx false (n0 s.2.2.2.2.1)
 have a4 := zx false s.2.2.2.2.2.2
 have a5 := zx false (s.1.length : Int)
 have a6 := zx false (s.2.1.length : Int)
 have a7 := zx false (s.2.2.1.length : Int)
 have f := zZ (frB false) 200000 s.1 (fun x hx => Nat.le_trans (zcF false x (hs.f x hx)) (by omega))
 have o := zZ (obB false) 200000 s.2.1 (fun x hx => Nat.le_trans (zcB false x (hs.o x hx)) (by omega))
 have f' := zZ (frB false) 100000 s.1 (fun x hx => zcF false x (hs.f x hx))
 have o' := zZ (obB false) 100000 s.2.1 (fun x hx => zcB false x (hs.o x hx))
 unfold qbl
 rw [zjO, zky n p (by omega), Option.bind_some, zj (by simp [hle]), cond_true]
 refine (congrArg (fun q => Option.bind q _) (zpQ n s ho ([2] ++ le4 p) (by simp [hle]) (by omega))).trans ?_
 rw [Option.bind_some]
 simp only
 rw [ziM n _ _ ho.v (by simp only [List.length_append, List.length_cons, List.length_nil, hle]; omega) (by omega), Option.bind_some, zd, zla n _ _ (by omega) (by simp only [List.length_append, List.length_cons, List.length_nil, hle]; omega) (by omega), Option.bind_some]
 refine (congrArg (fun q => Option.bind q _) (zpT n s ho hs _ (by simp only [List.length_append, List.length_cons, List.length_nil, hle]; omega) (by omega))).trans ?_
 rw [Option.bind_some]
 simp only
 rw [zd, zla n _ _ (by omega) (by simp only [List.length_append, List.length_cons, List.length_nil, hle]; omega) (by omega), Option.bind_some]
 refine (congrArg (fun q => Option.bind q _) (zpV n s ho hs _ (by simp only [List.length_append, List.length_cons, List.length_nil, hle]; omega) (by omega))).trans ?_
 rw [Option.bind_some]
 simp only
 rw [zd, zla n _ _ (by omega) (by simp only [List.length_append, List.length_cons, List.length_nil, hle]; omega) (by omega), Option.bind_some]
 refine (congrArg (fun q => Option.bind q _) (zpX n s.2.2.1 ho.h (by omega) _ (by simp only [List.length_append, List.length_cons, List.length_nil, hle]; omega) (by omega))).trans ?_
 rw [Option.bind_some]
 have e : [2] ++ le4 p ++ numB false (n0 s.2.2.2.2.2.1) ++ numB false (n0 s.2.2.2.1) ++ numB false (n0 s.2.2.2.2.1) ++ numB false s.2.2.2.2.2.2 ++ numB false (s.1.length : Int) ++ s.1.flatMap (frB false) ++ numB false (s.2.1.length : Int) ++ s.2.1.flatMap (obB false) ++ numB false (s.2.2.1.length : Int) ++ s.2.2.1.flatMap (haB false) = imgB false s p := by
  show _ = headB false s p ++ partB false (frB false) s.1 ++ partB false (obB false) s.2.1 ++ partB false (haB false) s.2.2.1
  simp [headB, partB, numsB, List.append_assoc]
 rw [e, zmR n _ hb (by omega) (by omega)]
 rfl
end Sx
end
section
/- Plain states; the image of any state is read again. -/
set_option linter.unusedVariables false
set_option linter.unusedSimpArgs false
namespace Sx
open Go Go.Ab
theorem small20 (n : Nat) (s : StD) (hl : LenSt s) (hn : 1000 ≤ n) : ∃ x, qbo n s.1 s.2.1 s.2.2.1 s.2.2.2.1 s.2.2.2.2.1 s.2.2.2.2.2.1 s.2.2.2.2.2.2 = some x ∧ (x = true → SmallS s) := by
 unfold qbo
 have n1 := hl.n1
 have n2 := hl.n2
 have n3 := hl.n3
 have hs : addI .i64 (addI .i64 (lenI s.2.1) (lenI s.2.2.1)) (lenI s.1) = ((s.1.length + s.2.1.length + s.2.2.1.length : Nat) : Int) := by
  simp only [zd]
  rw [zag (b := ((s.2.2.1.length : Nat) : Int)) (by omega) (by omega) (by omega), zag (b := ((s.1.length : Nat) : Int)) (by omega) (by omega) (by omega)]
  omega
 rw [hs]
 by_cases h3 : s.1.length + s.2.1.length + s.2.2.1.length > 300
 ·rw [decide_eq_true (by omega), cond_true]
  exact ⟨false, rfl, fun h => by cases h⟩
 ·rw [decide_eq_false (by omega), cond_false]
  have h0 := zeY (B := fun s => qbo_B0 n s.1.1 s.1.2 s.2.1 s.2.2.1 s.2.2.2.1 s.2.2.2.2.1 s.2.2.2.2.2.1 s.2.2.2.2.2.2.1 s.2.2.2.2.2.2.2) (xs := s.2.1) (mk := fun i a => ((a, (i : Int)), s)) (f := fun x => x.2.2.1.length + x.2.2.2.length) (e := fun a => (a, s))
   (c := 281474976702464) (base := ((s.1.length + s.2.1.length + s.2.2.1.length : Nat) : Int)) (by omega) (fun x hx => by have := hl.o x hx; omega) (by omega) (fun i a x hx hm ha hb => by
    have hi := zw hx
    have hlx := hl.o x hm
    show qbo_B0 n a (i : Int) s.1 s.2.1 s.2.2.1 s.2.2.2.1 s.2.2.2.2.1 s.2.2.2.2.2.1 s.2.2.2.2.2.2 = _
    unfold qbo_B0
    rw [zd, decide_eq_true (by omega), cond_true, zr, hx, Option.bind_some, Option.bind_some, zd, zd, zag (b := ((x.2.2.1.length : Nat) : Int)) (by omega) (by omega) (by omega), zag (b := ((x.2.2.2.length : Nat) : Int)) (by omega) (by omega) (by omega), zt (by omega)]
    rw [show a + ((x.2.2.1.length + x.2.2.2.length : Nat) : Int) = a + (x.2.2.1.length : Int) + (x.2.2.2.length : Int) by omega]) (fun a => by
    show qbo_B0 n a (s.2.1.length : Int) s.1 s.2.1 s.2.2.1 s.2.2.2.1 s.2.2.2.2.1 s.2.2.2.2.2.1 s.2.2.2.2.2.2 = _
    unfold qbo_B0
    rw [zd, decide_eq_false (by omega), cond_false]) (n := n) (by omega)
  obtain ⟨a, e0, a1, a2, a3⟩ := h0
  have h1 := zeY (B := fun s => qbo_B2 n s.1.1 s.1.2 s.2.1 s.2.2.1 s.2.2.2.1 s.2.2.2.2.1 s.2.2.2.2.2.1 s.2.2.2.2.2.2.1 s.2.2.2.2.2.2.2) (xs := s.1) (mk := fun i a => ((a, (i : Int)), s)) (f := fun x => x.2.2.1.length + x.2.2.2.length) (e := fun a => (a, s))
   (c := 281474976702464) (base := a) (by omega) (fun x hx => by have := hl.f x hx; omega) (by omega) (fun i a x hx hm ha hb => by
    have hi := zw hx
    have hlx := hl.f x hm
    show qbo_B2 n a (i : Int) s.1 s.2.1 s.2.2.1 s.2.2.2.1 s.2.2.2.2.1 s.2.2.2.2.2.1 s.2.2.2.2.2.2 = _
    unfold qbo_B2
    rw [zd, decide_eq_true (by omega), cond_true, zr, hx, Option.bind_some, Option.bind_some, zd, zd, zag (b := ((x.2.2.1.length : Nat) : Int)) (by omega) (by omega) (by omega), zag (b := ((x.2.2.2.length : Nat) : Int)) (by omega) (by omega) (by omega), zt (by omega)]
    rw [show a + ((x.2.2.1.length + x.2.2.2.length : Nat) : Int) = a + (x.2.2.1.length : Int) + (x.2.2.2.length : Int) by omega]) (fun a => by
    show qbo_B2 n a (s.1.length : Int) s.1 s.2.1 s.2.2.1 s.2.2.2.1 s.2.2.2.2.1 s.2.2.2.2.2.1 s.2.2.2.2.2.2 = _
    unfold qbo_B2
    rw [zd, decide_eq_false (by omega), cond_false]) (n := n) (by omega)
  obtain ⟨b, e1, b1, b2, b3⟩ := h1
  refine ⟨decide (b < 3000), ?_, fun h => ?_⟩
  ·refine (congrArg (fun q => Option.bind q _) e0).trans ?_
   rw [Option.bind_some]
   refine (congrArg (fun q => Option.bind q _) e1).trans ?_
   rfl
  ·have hb := of_decide_eq_true h
   exact ⟨by omega, fun x hx => by have := b3 x hx; omega, fun x hx => by have := a3 x hx; omega⟩
def two (x : FrD) : List Int := [x.1, x.2.1]
def plL (s : StD) : List Int := [s.2.2.2.2.2.1, s.2.2.2.1, s.2.2.2.2.1] ++ s.1.flatMap (fun x => [x.1, x.2.1]) ++ s.2.1.flatMap (fun x => [x.1, x.2.1]) ++ s.2.2.1.flatMap (fun x => [x.1])
def odd (v : Int) : Bool := decide (v < 0) || decide (v > 2147483647)
theorem zmi (n : Nat) (l : List Int) (hl : l.length ≤ 1000000) (hn : 1000002 ≤ n) : qbn_W6 n (0, l) = some (if l.any odd = true then Sum.inl (false, l) else Sum.inr l) := by
 have h := zfM (B := fun s => qbn_B6 n s.1 s.2) (xs := l) (mk := fun i => ((i : Int), l)) (p := odd) (found := fun _ _ => Sum.inl (false, l)) (e := Sum.inr l) (fun i x hx => by
   have hi := zw hx
   show qbn_B6 n (i : Int) l = _
   unfold qbn_B6 odd
   rw [zd, decide_eq_true (by omega), cond_true, decide_eq_true (by omega), Bool.and_self, cond_true, Int.toNat_natCast, hx, Option.bind_some, Option.bind_some, zt (by omega), cond_true]
   cases decide (x < 0) <;> cases decide (x > 2147483647) <;> rfl) (by
   show qbn_B6 n (l.length : Int) l = _
   unfold qbn_B6
   rw [zd, decide_eq_false (by omega), cond_false]) l.length 0 n (by omega) (by omega)
 rw [List.drop_zero] at h
 rcases h with ⟨h1, k, x, _, _, h2⟩ | ⟨h1, h2⟩
 ·rw [if_pos h1]; exact h2
 ·rw [if_neg (by rw [h1]; simp)]; exact h2
theorem zoP (n : Nat) (s : StD) (hN : s.1.length + s.2.1.length + s.2.2.1.length ≤ 100000) (hn : 2000000 ≤ n) : qbn n s.1 s.2.1 s.2.2.1 s.2.2.2.1 s.2.2.2.2.1 s.2.2.2.2.2.1 s.2.2.2.2.2.2 = some (!(plL s).any odd) := by
 have h0 : ∀ m : List Int, m.length ≤ 1000000 → qbn_W0 n (0, (s, m)) = some (s, m ++ (s.1).flatMap (fun x => [x.1, x.2.1])) := fun m hm => by
  have h := zN (B := fun s => qbn_B0 n s.1 s.2.1.1 s.2.1.2.1 s.2.1.2.2.1 s.2.1.2.2.2.1 s.2.1.2.2.2.2.1 s.2.1.2.2.2.2.2.1 s.2.1.2.2.2.2.2.2 s.2.2) (xs := s.1) (mk := fun i a => ((i : Int), (s, a))) (f := fun x => [x.1, x.2.1]) (e := fun a => (s, a)) (c := 2) (m0 := m) (cap := 2000000) (fun x _ => by simp) (by omega) (fun i a x hx hm ha => by
   have hi := zw hx
   simp only [List.length_cons, List.length_nil] at ha
   show qbn_B0 n (i : Int) s.1 s.2.1 s.2.2.1 s.2.2.2.1 s.2.2.2.2.1 s.2.2.2.2.2.1 s.2.2.2.2.2.2 a = _
   unfold qbn_B0
   rw [zd, decide_eq_true (by omega), cond_true, zr, hx]
   simp only [Option.bind_some]
   rw [zj (by simp; omega), cond_true, zt (by omega)]) (fun a => by
   show qbn_B0 n ((s.1).length : Int) s.1 s.2.1 s.2.2.1 s.2.2.2.1 s.2.2.2.2.1 s.2.2.2.2.2.1 s.2.2.2.2.2.2 a = _
   unfold qbn_B0
   rw [zd, decide_eq_false (by omega), cond_false]) (n := n) (by omega)
  exact h
 have h2 : ∀ m : List Int, m.length ≤ 1000000 → qbn_W2 n (0, (s, m)) = some (s, m ++ (s.2.1).flatMap (fun x => [x.1, x.2.1])) := fun m hm => by
  have h := zN (B := fun s => qbn_B2 n s.1 s.2.1.1 s.2.1.2.1 s.2.1.2.2.1 s.2.1.2.2.2.1 s.2.1.2.2.2.2.1 s.2.1.2.2.2.2.2.1 s.2.1.2.2.2.2.2.2 s.2.2) (xs := s.2.1) (mk := fun i a => ((i : Int), (s, a))) (f := fun x => [x.1, x.2.1]) (e := fun a => (s, a)) (c := 2) (m0 := m) (cap := 2000000) (fun x _ => by simp) (by omega) (fun i a x hx hm ha => by
   have hi := zw hx
   simp only [List.length_cons, List.length_nil] at ha
   show qbn_B2 n (i : Int) s.1 s.2.1 s.2.2.1 s.2.2.2.1 s.2.2.2.2.1 s.2.2.2.2.2.1 s.2.2.2.2.2.2 a = _
   unfold qbn_B2
   rw [zd, decide_eq_true (by omega), cond_true, zr, hx]
   simp only [Option.bind_some]
   rw [zj (by simp; omega), cond_true, zt (by omega)]) (fun a => by
   show qbn_B2 n ((s.2.1).length : Int) s.1 s.2.1 s.2.2.1 s.2.2.2.1 s.2.2.2.2.1 s.2.2.2.2.2.1 s.2.2.2.2.2.2 a = _
   unfold qbn_B2
   rw [zd, decide_eq_false (by omega), cond_false]) (n := n) (by omega)
  exact h
 have h4 : ∀ m : List Int, m.length ≤ 1000000 → qbn_W4 n (0, (s, m)) = some (s, m ++ (s.2.2.1).flatMap (fun x => [x.1])) := fun m hm => by
  have h := zN (B := fun s => qbn_B4 n s.1 s.2.1.1 s.2.1.2.1 s.2.1.2.2.1 s.2.1.2.2.2.1 s.2.1.2.2.2.2.1 s.2.1.2.2.2.2.2.1 s.2.1.2.2.2.2.2.2 s.2.2) (xs := s.2.2.1) (mk := fun i a => ((i : Int), (s, a))) (f := fun x => [x.1]) (e := fun a => (s, a)) (c := 2) (m0 := m) (cap := 2000000) (fun x _ => by simp) (by omega) (fun i a x hx hm ha => by
   have hi := zw hx
   simp only [List.length_cons, List.length_nil] at ha
   show qbn_B4 n (i : Int) s.1 s.2.1 s.2.2.1 s.2.2.2.1 s.2.2.2.2.1 s.2.2.2.2.2.1 s.2.2.2.2.2.2 a = _
   unfold qbn_B4
   rw [zd, decide_eq_true (by omega), cond_true, zr, hx]
   simp only [Option.bind_some]
   rw [zj (by simp; omega), cond_true, zt (by omega)]) (fun a => by
   show qbn_B4 n ((s.2.2.1).length : Int) s.1 s.2.1 s.2.2.1 s.2.2.2.1 s.2.2.2.2.1 s.2.2.2.2.2.1 s.2.2.2.2.2.2 a = _
   unfold qbn_B4
   rw [zd, decide_eq_false (by omega), cond_false]) (n := n) (by omega)
  exact h
 have f1 := zZ (fun x : FrD => [x.1, x.2.1]) 2 s.1 (fun x _ => by simp)
 have f2 := zZ (fun x : FrD => [x.1, x.2.1]) 2 s.2.1 (fun x _ => by simp)
 have f3 := zZ (fun x : HaD => [x.1]) 2 s.2.2.1 (fun x _ => by simp)
 unfold qbn
 refine (congrArg (fun q => Option.bind q _) (h0 [s.2.2.2.2.2.1, s.2.2.2.1, s.2.2.2.2.1] (by simp))).trans ?_
 rw [Option.bind_some]
 refine (congrArg (fun q => Option.bind q _) (h2 _ (by simp only [List.length_append, List.length_cons, List.length_nil]; omega))).trans ?_
 rw [Option.bind_some]
 refine (congrArg (fun q => Option.bind q _) (h4 _ (by simp only [List.length_append, List.length_cons, List.length_nil]; omega))).trans ?_
 rw [Option.bind_some]
 have hw := zmi n (plL s) (by unfold plL; simp only [List.length_append, List.length_cons, List.length_nil]; omega) (by omega)
 refine (congrArg (fun q => Option.bind q _) hw).trans ?_
 cases (plL s).any odd <;> rfl
theorem zpn (v : Int) : odd v = false ↔ i31 v := by
 unfold odd i31
 simp only [Bool.or_eq_false_iff, decide_eq_false_iff_not]
 omega
theorem zqb (s : StD) : (plL s).any odd = false ↔ PlS s := by
 rw [List.any_eq_false]
 have hx : ∀ v, ¬ odd v = true ↔ i31 v := fun v => by rw [Bool.not_eq_true]; exact zpn v
 constructor
 ·intro h
  have g : ∀ v ∈ plL s, i31 v := fun v hv => (hx v).1 (h v hv)
  unfold plL at g
  exact ⟨fun x hm => ⟨g _ (by simp only [List.mem_append, List.mem_flatMap]; exact .inl (.inl (.inr ⟨x, hm, by simp⟩))), g _ (by simp only [List.mem_append, List.mem_flatMap]; exact .inl (.inl (.inr ⟨x, hm, by simp⟩)))⟩,
   fun x hm => ⟨g _ (by simp only [List.mem_append, List.mem_flatMap]; exact .inl (.inr ⟨x, hm, by simp⟩)), g _ (by simp only [List.mem_append, List.mem_flatMap]; exact .inl (.inr ⟨x, hm, by simp⟩))⟩,
   fun x hm => ⟨g _ (by simp only [List.mem_append, List.mem_flatMap]; exact .inr ⟨x, hm, by simp⟩)⟩, g _ (by simp), g _ (by simp), g _ (by simp)⟩
 ·intro h v hv
  rw [hx]
  unfold plL at hv
  simp only [List.mem_append, List.mem_flatMap] at hv
  rcases hv with ((hv | ⟨x, hm, hv⟩) | ⟨x, hm, hv⟩) | ⟨x, hm, hv⟩
  ·rcases List.mem_cons.1 hv with rfl | hv
   ·exact h.e
   ·rcases List.mem_cons.1 hv with rfl | hv
    ·exact h.q
    ·rw [List.mem_singleton.1 hv]; exact h.u
  ·rcases List.mem_cons.1 hv with rfl | hv
   ·exact (h.f x hm).a
   ·rw [List.mem_singleton.1 hv]; exact (h.f x hm).b
  ·rcases List.mem_cons.1 hv with rfl | hv
   ·exact (h.o x hm).a
   ·rw [List.mem_singleton.1 hv]; exact (h.o x hm).b
  ·rw [List.mem_singleton.1 hv]; exact (h.h x hm).a
theorem zlL (s : StD) (ho : OkS s) (hl : LenSt s) (p : BitVec 32) : law20ImageBack 100000000 s.1 s.2.1 s.2.2.1 s.2.2.2.1 s.2.2.2.2.1 s.2.2.2.2.2.1 s.2.2.2.2.2.2 (W32 p) = some true := by
 unfold law20ImageBack
 obtain ⟨x, e, hS⟩ := small20 100000000 s hl (by omega)
 rw [e, Option.bind_some, answers20 100000000 (by omega)]
 cases x with
 | false => rfl
 | true =>
  have hs := hS rfl
  have hN := hs.n
  have hb := zaP false ho hs p
  have hlen := zih false hs p
  have hsl := zbm (imgB false s p)
  rw [Bool.not_true, cond_false, znZ 100000000 (by omega) s ho hs p, Option.bind_some, zeH 100000000 (by omega) false s ho hs p, Option.bind_some, zjm 100000000 _ (by omega) (by omega), Option.bind_some, Bool.not_true, cond_false,
   ziL 100000000 _ (zan hb) (by omega) (by omega), Option.bind_some, zoP 100000000 s (by omega) (by omega), Option.bind_some]
  cases hp : (plL s).any odd with
  | true => rfl
  | false =>
   have hpl := (zqb s).1 hp
   rw [Bool.not_false, Bool.not_true, cond_false, zd]
   by_cases h1 : (sealV (imgB false s p)).length > 65536
   ·rw [decide_eq_true (by omega)]; rfl
   ·rw [decide_eq_false (by omega), cond_false, zkV _ (by omega), znd s ho hs hpl p]
    simp only [Option.bind_some, cond_true, beq_self_eq_true]
    rw [zgn 100000000 s hs (by omega)]
    rfl
end Sx
end
section
/- The plain law of ImageBack at the row's own data. -/
set_option linter.unusedVariables false
namespace Sx
open Go Go.Ab
theorem zlY (d : StD × Int) (hf : FitS (.cons shS (.cons (.int .u32) .nil)) d) : ∃ n, law20ImageBack n d.1.1 d.1.2.1 d.1.2.2.1 d.1.2.2.2.1 d.1.2.2.2.2.1 d.1.2.2.2.2.2.1 d.1.2.2.2.2.2.2 d.2 = some true := by
 obtain ⟨h1, h2, _⟩ : FitS shS d.1 ∧ Fit (.int .u32) d.2 ∧ True := hf
 obtain ⟨p, hp⟩ := zhZ (zlX h2)
 obtain ⟨ho, hl⟩ := zjz h1
 exact ⟨100000000, by rw [← hp]; exact zlL d.1 ho hl p⟩
end Sx
end
