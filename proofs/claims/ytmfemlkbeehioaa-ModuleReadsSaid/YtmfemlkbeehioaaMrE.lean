/- The bytes of a module, as the program writes them. -/
import Derived.Test.YtmfemlkbeehioaaMrC
set_option linter.unusedVariables false
set_option linter.unusedSimpArgs false
namespace Sx
open Go Go.Ab
def okTs (l : List TyD) : Prop := ∀ t ∈ l, okT t
structure OkM (m : ModD) : Prop where
  recs : ∀ l ∈ m.recs, okTs l
  funcs : ∀ f ∈ m.funcs, okTs f.1 ∧ okT (f.2.1, f.2.2.1) ∧ okTs f.2.2.2.1
  imps : ∀ i ∈ m.imps, okTs i.1 ∧ okT (i.2.1, i.2.2)
  ints : ∀ v ∈ m.ints, 0 ≤ v ∧ v ≤ 18446744073709551615
def typesV (l : List TyD) : List Int := varN l.length ++ l.flatMap typV
theorem typesV_len (l : List TyD) : (typesV l).length ≤ 11 + 22 * l.length := by
  have := varN_len l.length
  have := flatMap_le typV 22 l fun t _ => typV_len t
  rw [typesV, List.length_append]; omega
def fncV (f : FnD) : List Int := typesV f.1 ++ typV (f.2.1, f.2.2.1) ++ typesV f.2.2.2.1 ++ varN f.2.2.2.2.length ++ f.2.2.2.2.flatMap putV
def impV (i : ImD) : List Int := typesV i.1 ++ typV (i.2.1, i.2.2)
def txtV (s : ByteArray) : List Int := varN s.size ++ bytesInts s
def listV {α : Type} (f : α → List Int) (l : List α) : List Int := varN l.length ++ l.flatMap f
def joinV (l : List (List Int)) : List Int := listV (fun p => varN p.length ++ p) l
def encV (m : ModD) : List Int := joinV [listV typesV m.recs, listV fncV m.funcs, listV impV m.imps, listV (fun v => fixN 8 v.toNat) m.ints, listV txtV m.texts]
theorem count_eq (n k : Nat) (hk : k ≤ 4294967000) (hn : 20 ≤ n) : qi n (k : Int) = some (varN k) := by
  unfold qi
  have := varN_len k
  rw [cvtI_u64 (by omega) (by omega), qcq_eq n k (by omega) hn, Option.bind_some, fits_le (by omega), cond_true]
theorem count1_eq (n k : Nat) (m1 : List Int) (hk : k ≤ 4294967000) (hm : m1.length ≤ 4294900000) (hn : 20 ≤ n) : qc n (k : Int) m1 = some (m1 ++ varN k) := by
  unfold qc
  have := varN_len k
  rw [cvtI_u64 (by omega) (by omega), qcq_eq n k (by omega) hn, Option.bind_some, fits_le (by rw [List.length_append]; omega), cond_true]
theorem wtypes_eq (n : Nat) (l : List TyD) (m1 : List Int) (ho : okTs l) (hl : l.length ≤ 100) (hm : m1.length ≤ 4294000000) (hn : 200 ≤ n) : qm n l m1 = some (m1 ++ typesV l) := by
  unfold qm
  have hv := varN_len l.length
  rw [lenI_eq, count1_eq n _ m1 (by omega) (by omega) (by omega), Option.bind_some]
  have h := loop_write (B := fun s => qm_B0 n s.1.1 s.1.2.1 s.1.2.2 s.2) (xs := l) (mk := fun i a => ((l, ((l.length : Int), (i : Int))), a)) (f := typV) (e := id) (c := 22) (m0 := m1 ++ varN l.length) (cap := 4294967296)
    (fun x _ => typV_len x) (by rw [List.length_append]; omega) (fun i a x hx hmem ha => ?_) (fun a => ?_) (n := n) (by omega)
  · rw [show qm_W0 n ((l, ((l.length : Int), 0)), m1 ++ varN l.length) = _ from h, Option.bind_some, id, List.append_assoc]
    rfl
  · have hi := lt_of_get hx
    show qm_B0 n l (l.length : Int) (i : Int) a = _
    unfold qm_B0
    rw [decide_eq_true (by omega), cond_true, getI_nat, hx, Option.bind_some, qcm_eq n x (ho x hmem) (by omega), Option.bind_some, fits_le (by rw [List.length_append]; omega), cond_true, next_i64 (by omega)]
  · show qm_B0 n l (l.length : Int) (l.length : Int) a = _
    unfold qm_B0
    rw [decide_eq_false (by omega), cond_false]; rfl
theorem goodsV_len {recs most : Int} {l : List TyD} (h : goodsV recs most l = true) : (l.length : Int) ≤ most := by
  simp only [goodsV, Bool.and_eq_true, decide_eq_true_eq] at h
  exact h.1
theorem records_eq (n : Nat) (m : ModD) (ho : OkM m) (hf : fitsV m = true) (hn : 200 ≤ n) : qaq n m.recs m.funcs m.imps m.ints m.texts = some (listV typesV m.recs) ∧ (listV typesV m.recs).length ≤ 2000 := by
  simp only [fitsV, Bool.and_eq_true, decide_eq_true_eq, List.all_eq_true] at hf
  obtain ⟨h1, h2, _⟩ := hf
  have hc : ∀ x ∈ m.recs, (typesV x).length ≤ 143 := fun x hx => by
    have := typesV_len x
    have := goodsV_len (h2 x hx)
    omega
  have hv := varN_len m.recs.length
  refine ⟨?_, by have := flatMap_le typesV 143 m.recs hc; rw [listV, List.length_append]; omega⟩
  unfold qaq
  rw [lenI_eq, count_eq n _ (by omega) (by omega), Option.bind_some]
  have h := loop_write (B := fun s => qaq_B0 n s.1.1 s.1.2.1 s.1.2.2 s.2) (xs := m.recs) (mk := fun i a => ((m.recs, ((m.recs.length : Int), (i : Int))), a)) (f := typesV) (e := id) (c := 143) (m0 := varN m.recs.length) (cap := 4000)
    hc (by omega) (fun i a x hx hmem ha => ?_) (fun a => ?_) (n := n) (by omega)
  · rw [show qaq_W0 n ((m.recs, ((m.recs.length : Int), 0)), varN m.recs.length) = _ from h, Option.bind_some]
    rfl
  · have hi := lt_of_get hx
    show qaq_B0 n m.recs (m.recs.length : Int) (i : Int) a = _
    unfold qaq_B0
    have := goodsV_len (h2 x hmem)
    rw [decide_eq_true (by omega), cond_true, getI_nat, hx, Option.bind_some, wtypes_eq n x a (ho.recs x hmem) (by omega) (by omega) hn, Option.bind_some, next_i64 (by omega)]
  · show qaq_B0 n m.recs (m.recs.length : Int) (m.recs.length : Int) a = _
    unfold qaq_B0
    rw [decide_eq_false (by omega), cond_false]; rfl
theorem fncV_len {recs : Int} {f : FnD} (h : fitF recs f = true) : f.1.length ≤ 4 ∧ f.2.2.2.1.length ≤ 8 ∧ 1 ≤ f.2.2.2.2.length ∧ f.2.2.2.2.length ≤ 64 ∧ (fncV f).length ≤ 1900 := by
  simp only [fitF, Bool.and_eq_true, decide_eq_true_eq] at h
  obtain ⟨h1, _, h3, h4, h5, _⟩ := h
  have h1 := goodsV_len h1
  have h3 := goodsV_len h3
  have := typesV_len f.1
  have := typesV_len f.2.2.2.1
  have := typV_len (f.2.1, f.2.2.1)
  have := varN_len f.2.2.2.2.length
  have := flatMap_le putV 23 f.2.2.2.2 fun i _ => putV_len i
  refine ⟨by omega, by omega, h4, h5, ?_⟩
  simp only [fncV, List.length_append]
  omega
theorem functions_eq (n : Nat) (m : ModD) (ho : OkM m) (hf : fitsV m = true) (hn : 200 ≤ n) : qab n m.recs m.funcs m.imps m.ints m.texts = some (listV fncV m.funcs) ∧ (listV fncV m.funcs).length ≤ 20000 := by
  simp only [fitsV, Bool.and_eq_true, decide_eq_true_eq, List.all_eq_true] at hf
  obtain ⟨_, _, h0, h1, h2, _⟩ := hf
  have hc : ∀ x ∈ m.funcs, (fncV x).length ≤ 1900 := fun x hx => (fncV_len (h2 x hx)).2.2.2.2
  have hv := varN_len m.funcs.length
  refine ⟨?_, by have := flatMap_le fncV 1900 m.funcs hc; rw [listV, List.length_append]; omega⟩
  unfold qab
  rw [lenI_eq, count_eq n _ (by omega) (by omega), Option.bind_some]
  have h := loop_write (B := fun s => qab_B0 n s.1.1 s.1.2.1 s.1.2.2 s.2) (xs := m.funcs) (mk := fun i a => ((m.funcs, ((m.funcs.length : Int), (i : Int))), a)) (f := fncV) (e := id) (c := 1900) (m0 := varN m.funcs.length) (cap := 40000)
    hc (by omega) (fun i a x hx hmem ha => ?_) (fun a => ?_) (n := n) (by omega)
  · rw [show qab_W0 n ((m.funcs, ((m.funcs.length : Int), 0)), varN m.funcs.length) = _ from h, Option.bind_some]
    rfl
  · have hi := lt_of_get hx
    obtain ⟨l1, l2, l3, l4, _⟩ := fncV_len (h2 x hmem)
    obtain ⟨o1, o2, o3⟩ := ho.funcs x hmem
    obtain ⟨ar, k, nn, lo, co⟩ := x
    have t1 := typesV_len ar
    have t2 := typesV_len lo
    have t3 := typV_len (k, nn)
    have t4 := varN_len co.length
    have t5 := flatMap_le putV 23 co fun i _ => putV_len i
    simp only at l1 l2 l3 l4 o1 o2 o3
    show qab_B0 n m.funcs (m.funcs.length : Int) (i : Int) a = _
    unfold qab_B0
    rw [decide_eq_true (by omega), cond_true, getI_nat, hx, Option.bind_some]
    simp only []
    rw [wtypes_eq n ar a o1 (by omega) (by omega) hn, Option.bind_some, qcm_eq n (k, nn) o2 (by omega), Option.bind_some, fits_le (by simp only [List.length_append]; omega), cond_true, wtypes_eq n lo _ o3 (by omega) (by simp only [List.length_append]; omega) hn, Option.bind_some,
      lenI_eq, count1_eq n _ _ (by omega) (by simp only [List.length_append]; omega) (by omega), Option.bind_some]
    have hin := loop_write (B := fun s => qab_B2 n s.1.1 s.1.2.1 s.1.2.2.1 s.1.2.2.2.1 s.1.2.2.2.2.1 s.1.2.2.2.2.2 s.2) (xs := co) (mk := fun j b => ((m.funcs, ((m.funcs.length : Int), ((i : Int), (co, ((co.length : Int), (j : Int)))))), b)) (f := putV)
      (e := fun b => ((m.funcs, ((m.funcs.length : Int), (i : Int))), b)) (c := 23) (m0 := a ++ typesV ar ++ typV (k, nn) ++ typesV lo ++ varN co.length) (cap := 4294967296) (fun y _ => putV_len y) (by simp only [List.length_append]; omega) (fun j b y hy hmy hb => ?_) (fun b => ?_) (n := n) (by omega)
    · rw [show qab_W2 n ((m.funcs, ((m.funcs.length : Int), ((i : Int), (co, ((co.length : Int), 0))))), a ++ typesV ar ++ typV (k, nn) ++ typesV lo ++ varN co.length) = _ from hin, Option.bind_some]
      simp only []
      rw [next_i64 (by omega)]
      simp only [fncV, List.append_assoc]
    · have hj := lt_of_get hy
      show qab_B2 n m.funcs (m.funcs.length : Int) (i : Int) co (co.length : Int) (j : Int) b = _
      unfold qab_B2
      rw [decide_eq_true (by omega), cond_true, getI_nat, hy, Option.bind_some, qcn_eq n y (by omega), Option.bind_some, fits_le (by rw [List.length_append]; omega), cond_true, next_i64 (by omega)]
    · show qab_B2 n m.funcs (m.funcs.length : Int) (i : Int) co (co.length : Int) (co.length : Int) b = _
      unfold qab_B2
      rw [decide_eq_false (by omega), cond_false]
  · show qab_B0 n m.funcs (m.funcs.length : Int) (m.funcs.length : Int) a = _
    unfold qab_B0
    rw [decide_eq_false (by omega), cond_false]; rfl
theorem impV_len {recs : Int} {f : ImD} (h : fitI recs f = true) : f.1.length ≤ 4 ∧ (impV f).length ≤ 130 := by
  simp only [fitI, Bool.and_eq_true] at h
  have h1 := goodsV_len h.1
  have := typesV_len f.1
  have := typV_len (f.2.1, f.2.2)
  refine ⟨by omega, ?_⟩
  rw [impV, List.length_append]; omega
theorem imports_eq (n : Nat) (m : ModD) (ho : OkM m) (hf : fitsV m = true) (hn : 200 ≤ n) : qak n m.recs m.funcs m.imps m.ints m.texts = some (listV impV m.imps) ∧ (listV impV m.imps).length ≤ 2000 := by
  simp only [fitsV, Bool.and_eq_true, decide_eq_true_eq, List.all_eq_true] at hf
  obtain ⟨_, _, _, _, _, h1, h2, _⟩ := hf
  have hc : ∀ x ∈ m.imps, (impV x).length ≤ 130 := fun x hx => (impV_len (h2 x hx)).2
  have hv := varN_len m.imps.length
  refine ⟨?_, by have := flatMap_le impV 130 m.imps hc; rw [listV, List.length_append]; omega⟩
  unfold qak
  rw [lenI_eq, count_eq n _ (by omega) (by omega), Option.bind_some]
  have h := loop_write (B := fun s => qak_B0 n s.1.1 s.1.2.1 s.1.2.2 s.2) (xs := m.imps) (mk := fun i a => ((m.imps, ((m.imps.length : Int), (i : Int))), a)) (f := impV) (e := id) (c := 130) (m0 := varN m.imps.length) (cap := 40000)
    hc (by omega) (fun i a x hx hmem ha => ?_) (fun a => ?_) (n := n) (by omega)
  · rw [show qak_W0 n ((m.imps, ((m.imps.length : Int), 0)), varN m.imps.length) = _ from h, Option.bind_some]
    rfl
  · have hi := lt_of_get hx
    obtain ⟨l1, _⟩ := impV_len (h2 x hmem)
    obtain ⟨o1, o2⟩ := ho.imps x hmem
    obtain ⟨ar, k, nn⟩ := x
    have t1 := typesV_len ar
    have t3 := typV_len (k, nn)
    simp only at l1 o1 o2
    show qak_B0 n m.imps (m.imps.length : Int) (i : Int) a = _
    unfold qak_B0
    rw [decide_eq_true (by omega), cond_true, getI_nat, hx, Option.bind_some]
    simp only []
    rw [wtypes_eq n ar a o1 (by omega) (by omega) hn, Option.bind_some, qcm_eq n (k, nn) o2 (by omega), Option.bind_some, fits_le (by simp only [List.length_append]; omega), cond_true, next_i64 (by omega)]
    simp only [impV, List.append_assoc]
  · show qak_B0 n m.imps (m.imps.length : Int) (m.imps.length : Int) a = _
    unfold qak_B0
    rw [decide_eq_false (by omega), cond_false]; rfl
theorem fix8_eq (n : Nat) (v : Nat) (hv : v < 18446744073709551616) (hn : 20 ≤ n) : qcg n (v : Int) 8 = some (fixN 8 v) := by
  have h := loop_write (B := fun s => qcg_B0 n s.1.1 s.1.2.1 s.1.2.2 s.2) (xs := List.range 8) (mk := fun i a => (((v : Int), ((8 : Int), (i : Int))), a)) (f := fun j => [((v / 256 ^ j % 256 : Nat) : Int)]) (e := id) (c := 1) (m0 := []) (cap := 100)
    (fun x _ => by simp) (by simp) (fun i a x hx hmem ha => ?_) (fun a => ?_) (n := n) (by simp; omega)
  · unfold qcg
    rw [show qcg_W0 n (((v : Int), ((minI (maxI 8 0) 8), 0)), []) = _ from h, Option.bind_some]
    have e : ∀ l : List Nat, l.flatMap (fun j => [((v / 256 ^ j % 256 : Nat) : Int)]) = l.map fun j => ((v / 256 ^ j % 256 : Nat) : Int) := by
      intro l
      induction l with
      | nil => rfl
      | cons x l ih => rw [List.flatMap_cons, ih]; rfl
    rw [e]; rfl
  · have hi := lt_of_get hx
    rw [List.length_range] at hi
    rw [List.getElem?_range hi] at hx
    obtain rfl := Option.some.inj hx
    show qcg_B0 n (v : Int) 8 (i : Int) a = _
    unfold qcg_B0
    have hb : cvtI .u8 (shrI .u64 (v : Int) (mulI .i64 8 (i : Int))) = ((v / 256 ^ i % 256 : Nat) : Int) := by
      rw [mulI_i64 (by omega) (by omega), cvtI_u8_mod]
      show ((v : Int).fdiv (2 ^ (min (8 * (i : Int)).toNat 64))) % 256 = _
      rw [show min (8 * (i : Int)).toNat 64 = 8 * i by omega, show ((2 : Int) ^ (8 * i)) = ((256 ^ i : Nat) : Int) by rw [show (256 : Nat) = 2 ^ 8 from rfl, ← Nat.pow_mul]; simp,
        Int.fdiv_eq_ediv_of_nonneg _ (Int.natCast_nonneg _), ← Int.natCast_ediv]
      omega
    rw [decide_eq_true (by omega), cond_true, hb, mulI_i64 (by omega) (by omega), decide_eq_true (by omega), cond_true, fits_le (by simp at ha ⊢; omega), cond_true, next_i64 (by omega)]
  · show qcg_B0 n (v : Int) 8 8 a = _
    rfl
theorem numbers_eq (n : Nat) (m : ModD) (ho : OkM m) (hf : fitsV m = true) (hn : 200 ≤ n) : qar n m.recs m.funcs m.imps m.ints m.texts = some (listV (fun v => fixN 8 v.toNat) m.ints) ∧ (listV (fun v : Int => fixN 8 v.toNat) m.ints).length ≤ 2000 := by
  simp only [fitsV, Bool.and_eq_true, decide_eq_true_eq, List.all_eq_true] at hf
  obtain ⟨_, _, _, _, _, _, _, h1, _⟩ := hf
  have hc : ∀ x ∈ m.ints, (fixN 8 x.toNat).length ≤ 8 := fun x hx => by rw [fixN_len]; omega
  have hv := varN_len m.ints.length
  refine ⟨?_, by have := flatMap_le (fun v : Int => fixN 8 v.toNat) 8 m.ints hc; rw [listV, List.length_append]; omega⟩
  unfold qar
  rw [lenI_eq, count_eq n _ (by omega) (by omega), Option.bind_some]
  have h := loop_write (B := fun s => qar_B0 n s.1.1 s.1.2.1 s.1.2.2 s.2) (xs := m.ints) (mk := fun i a => ((m.ints, ((m.ints.length : Int), (i : Int))), a)) (f := fun v => fixN 8 v.toNat) (e := id) (c := 8) (m0 := varN m.ints.length) (cap := 40000)
    hc (by omega) (fun i a x hx hmem ha => ?_) (fun a => ?_) (n := n) (by omega)
  · rw [show qar_W0 n ((m.ints, ((m.ints.length : Int), 0)), varN m.ints.length) = _ from h, Option.bind_some]
    rfl
  · have hi := lt_of_get hx
    have hxr := ho.ints x hmem
    obtain ⟨u, rfl⟩ : ∃ u : Nat, x = (u : Int) := ⟨x.toNat, by omega⟩
    show qar_B0 n m.ints (m.ints.length : Int) (i : Int) a = _
    unfold qar_B0
    rw [fixN_len] at ha
    rw [decide_eq_true (by omega), cond_true, getI_nat, hx, Option.bind_some, fix8_eq n u (by omega) (by omega), Option.bind_some, fits_le (by rw [List.length_append, fixN_len]; omega), cond_true, next_i64 (by omega), Int.toNat_natCast]
  · show qar_B0 n m.ints (m.ints.length : Int) (m.ints.length : Int) a = _
    unfold qar_B0
    rw [decide_eq_false (by omega), cond_false]; rfl
theorem bytesInts_len (s : ByteArray) : (bytesInts s).length = s.size := by
  unfold bytesInts
  rw [List.length_map, Array.length_toList]; rfl
theorem texts_eq (n : Nat) (m : ModD) (hf : fitsV m = true) (hn : 200 ≤ n) : qbp n m.recs m.funcs m.imps m.ints m.texts = some (listV txtV m.texts) ∧ (listV txtV m.texts).length ≤ 2000 := by
  simp only [fitsV, Bool.and_eq_true, decide_eq_true_eq, List.all_eq_true] at hf
  obtain ⟨_, _, _, _, _, _, _, _, h1, h2⟩ := hf
  have hc : ∀ x ∈ m.texts, (txtV x).length ≤ 43 := fun x hx => by
    have := varN_len x.size
    have := h2 x hx
    rw [txtV, List.length_append, bytesInts_len]; omega
  have hv := varN_len m.texts.length
  refine ⟨?_, by have := flatMap_le txtV 43 m.texts hc; rw [listV, List.length_append]; omega⟩
  unfold qbp
  rw [lenI_eq, count_eq n _ (by omega) (by omega), Option.bind_some]
  have h := loop_write (B := fun s => qbp_B0 n s.1.1 s.1.2.1 s.1.2.2 s.2) (xs := m.texts) (mk := fun i a => ((m.texts, ((m.texts.length : Int), (i : Int))), a)) (f := txtV) (e := id) (c := 43) (m0 := varN m.texts.length) (cap := 40000)
    hc (by omega) (fun i a x hx hmem ha => ?_) (fun a => ?_) (n := n) (by omega)
  · rw [show qbp_W0 n ((m.texts, ((m.texts.length : Int), 0)), varN m.texts.length) = _ from h, Option.bind_some]
    rfl
  · have hi := lt_of_get hx
    have hs := h2 x hmem
    have hvx := varN_len x.size
    show qbp_B0 n m.texts (m.texts.length : Int) (i : Int) a = _
    unfold qbp_B0
    rw [decide_eq_true (by omega), cond_true, getI_nat, hx, Option.bind_some, show lenS x = ((x.size : Nat) : Int) from rfl, count1_eq n _ a (by omega) (by omega) (by omega), Option.bind_some, fits_le (by simp only [List.length_append, bytesInts_len]; omega), cond_true, next_i64 (by omega), List.append_assoc]
    rfl
  · show qbp_B0 n m.texts (m.texts.length : Int) (m.texts.length : Int) a = _
    unfold qbp_B0
    rw [decide_eq_false (by omega), cond_false]; rfl
theorem join_eq (n : Nat) (l : List (List Int)) (hl : l.length ≤ 100) (hc : ∀ x ∈ l, x.length ≤ 1000000) (hn : 200 ≤ n) : qck n l = some (joinV l) := by
  have hv := varN_len l.length
  have hc2 : ∀ x ∈ l, (varN x.length ++ x).length ≤ 1000011 := fun x hx => by
    have := varN_len x.length
    have := hc x hx
    rw [List.length_append]; omega
  unfold qck
  rw [lenI_eq, cvtI_u64 (by omega) (by omega), qcq_eq n l.length (by omega) (by omega), Option.bind_some]
  have h := loop_write (B := fun s => qck_B0 n s.1.1 s.1.2.1 s.1.2.2 s.2) (xs := l) (mk := fun i a => ((l, ((l.length : Int), (i : Int))), a)) (f := fun p => varN p.length ++ p) (e := id) (c := 1000011) (m0 := varN l.length) (cap := 200000000)
    hc2 (by omega) (fun i a x hx hmem ha => ?_) (fun a => ?_) (n := n) (by omega)
  · rw [show qck_W0 n ((l, ((l.length : Int), 0)), varN l.length) = _ from h, Option.bind_some]
    rfl
  · have hi := lt_of_get hx
    have hvx := varN_len x.length
    have hxl := hc x hmem
    rw [List.length_append] at ha
    show qck_B0 n l (l.length : Int) (i : Int) a = _
    unfold qck_B0
    rw [decide_eq_true (by omega), cond_true, getI_nat, hx, Option.bind_some, lenI_eq, cvtI_u64 (by omega) (by omega), qcq_eq n x.length (by omega) (by omega), Option.bind_some, fits_le (by rw [List.length_append]; omega), cond_true, fits_le (by simp only [List.length_append]; omega), cond_true, next_i64 (by omega), List.append_assoc]
  · show qck_B0 n l (l.length : Int) (l.length : Int) a = _
    unfold qck_B0
    rw [decide_eq_false (by omega), cond_false]; rfl
theorem encode_eq (n : Nat) (m : ModD) (ho : OkM m) (hn : 200 ≤ n) : qbf n m.recs m.funcs m.imps m.ints m.texts = some (if fitsV m = true then (encV m, 0) else ([], 2)) := by
  unfold qbf
  rw [fits_eq n m (by omega), Option.bind_some]
  cases hf : fitsV m with
  | false => rfl
  | true =>
    obtain ⟨e1, l1⟩ := records_eq n m ho hf hn
    obtain ⟨e2, l2⟩ := functions_eq n m ho hf hn
    obtain ⟨e3, l3⟩ := imports_eq n m ho hf hn
    obtain ⟨e4, l4⟩ := numbers_eq n m ho hf hn
    obtain ⟨e5, l5⟩ := texts_eq n m hf hn
    rw [Bool.not_true, cond_false, e1, Option.bind_some, e2, Option.bind_some, e3, Option.bind_some, e4, Option.bind_some, e5, Option.bind_some, join_eq n _ (by simp) ?_ hn, Option.bind_some, if_pos rfl]
    · rfl
    · intro x hx
      simp only [List.mem_cons, List.not_mem_nil, or_false] at hx
      rcases hx with rfl | rfl | rfl | rfl | rfl <;> omega
end Sx
