/- The evaluator. -/
import Derived.Test.YtdlbbdbbpoggfaaLib1
import Derived.Laws.AppendOwn
import Derived.Deep.Upon
import Derived.Laws.MakeOwn
import Derived.Great.BuildSlice
import Derived.Laws.BytesString
import Derived.Laws.Cells
import Derived.Lib.AppendZeros
set_option linter.unusedVariables false
set_option linter.unusedSectionVars false
set_option linter.unusedSimpArgs false
section
namespace Go.Ab
variable [GTab]
section
variable {P : Program}
def ViewR (G : Gh) (w : World) (v : View) (vs : List Value) : Prop :=
 vs.length = v.len * v.e ∧ (∀ u ∈ vs, u.oneCell' = true) ∧
 match v with
 | .ints k xs => ∀ (i : Nat) (x : Int), xs[i]? = some x → vs[i]? = some (.int k x)
 | .pvs β e xs => (∀ x ∈ xs, x.cells.length = e) ∧ ∀ (i : Nat) (x : PV) (c : Nat) (y : PV), xs[i]? = some x → x.cells[c]? = some y → ∃ u, vs[i * e + c]? = some u ∧ PR w (G.prot β) y u
 | .avs e cs => cs.length = e * countBy e cs.length ∧ ∀ (j : Nat) (y : AV), cs[j]? = some y → ∃ u, vs[j]? = some u ∧ VR G w y u
theorem zcF (r : Row) : r.all.e = r.e := by cases r <;> rfl
theorem zL (r : Row) : r.all.len = r.len := by cases r <;> rfl
theorem zbM (v : View) : v.row.e = v.e := by cases v <;> rfl
theorem zax (v : View) : v.row.len = v.len := by cases v <;> rfl
theorem zbw (v : View) : v.row.all = v := by cases v <;> rfl
theorem zbv (v : View) : v.row.isOwn = false := by cases v <;> rfl
theorem zar {e n : Nat} (he : 1 ≤ e) (k : Nat) : countBy e (k * e) = k := by
 unfold countBy
 have h0 : Nat.beq e 0 = false := by
  cases e with
  | zero => omega
  | succ e => rfl
 rw [h0]; simp only [yh]
 cases h1 : Nat.beq e 1 with
 | true => rw [Nat.eq_of_beq_eq_true h1]; simp
 | false => simp only [yh]; exact Nat.mul_div_cancel k (by omega)
theorem RowR.toList {G : Gh} {w : World} {B : Nat} {r : Row} (he : 1 ≤ r.e) (ho : r.isOwn = false) (h : RowR G w B r) :
  ∃ vs : List Value, ViewR G w r.all vs ∧ ∀ j, j < vs.length → cl w B j = vs[j]? := by
 cases r with
 | ints k xs =>
  refine ⟨xs.map (.int k), ⟨by simp [View.len, View.e, Row.all], by simp [Value.oneCell'], fun i x hx => by simp [hx]⟩, fun j hj => ?_⟩
  simp at hj
  rw [h j xs[j] (yf hj)]; simp [hj]
 | pvs β e xs =>
  obtain ⟨h1, h2⟩ := h
  have key : ∀ j, j < xs.length * e → ∃ v, cl w B j = some v ∧ v.oneCell' = true := by
   intro j hj
   have hi : j / e < xs.length := by rw [Nat.div_lt_iff_lt_mul (by simp [Row.e] at he; omega)]; exact hj
   have hc : j % e < (xs[j / e]).cells.length := by rw [h1 _ (yr2 _)]; exact Nat.mod_lt _ (by simp [Row.e] at he; omega)
   obtain ⟨v, hv, h1v, _⟩ := h2 (j / e) (xs[j / e]) (j % e) ((xs[j / e]).cells[j % e]) (yf _) (yf _)
   rw [show j / e * e + j % e = j by rw [yj2]; exact Nat.div_add_mod j e] at hv
   exact ⟨v, hv, h1v⟩
  refine ⟨(List.range (xs.length * e)).map (fun j => (cl w B j).getD undef), ⟨by simp [View.len, View.e, Row.all], ?_, h1, ?_⟩, ?_⟩
  ·intro u hu
   obtain ⟨j, hj, rfl⟩ := yu2.1 hu
   obtain ⟨v, hv, h1v⟩ := key j (by simpa using hj)
   rw [hv]; exact h1v
  ·intro i x c y hx hy
   have hi := (ye.1 hx).1
   have hc := (ye.1 hy).1
   obtain ⟨v, hv, _, hp⟩ := h2 i x c y hx hy
   have hlt : i * e + c < xs.length * e := by
    rw [h1 x (yj hx)] at hc
    calc i * e + c < i * e + e := by omega
     _ = (i + 1) * e := by rw [yk1]; simp
     _ ≤ xs.length * e := yy1 _ hi
   exact ⟨v, by simp [hlt, hv], hp⟩
  ·intro j hj
   simp at hj
   obtain ⟨v, hv, _⟩ := key j hj
   simp [hj, hv]
 | cells e cs =>
  obtain ⟨h1, h2⟩ := h
  refine ⟨(List.range cs.length).map (fun j => (cl w B j).getD undef), ⟨?_, ?_, h1, ?_⟩, ?_⟩
  ·simp only [View.len, View.e, Row.all, yf1, List.length_range]
   rw [yj2]; exact h1
  ·intro u hu
   obtain ⟨j, hj, rfl⟩ := yu2.1 hu
   obtain ⟨v, hv, h1v, _⟩ := h2 j (cs[j]'(by simpa using hj)) (yf _)
   rw [hv]; exact h1v
  ·intro j y hy
   have hj := (ye.1 hy).1
   obtain ⟨v, hv, _, hp⟩ := h2 j y hy
   exact ⟨v, by simp [hj, hv], hp⟩
  ·intro j hj
   simp at hj
   obtain ⟨v, hv, _⟩ := h2 j (cs[j]) (yf _)
   simp [hj, hv]
 | own e xs hs => cases ho
theorem RowR.ofList {G : Gh} {w : World} {B : Nat} {r : Row} {vs : List Value} (ho : r.isOwn = false) (h : ViewR G w r.all vs) (hc : ∀ j u, vs[j]? = some u → cl w B j = some u) : RowR G w B r := by
 obtain ⟨hl, h1, h⟩ := h
 cases r with
 | ints k xs => exact fun i x hx => hc _ _ (h i x hx)
 | pvs β e xs =>
  refine ⟨h.1, fun i x c y hx hy => ?_⟩
  obtain ⟨u, hu, hp⟩ := h.2 i x c y hx hy
  exact ⟨u, hc _ _ hu, h1 u (yj hu), hp⟩
 | cells e cs =>
  refine ⟨h.1, fun j y hy => ?_⟩
  obtain ⟨u, hu, hp⟩ := h.2 j y hy
  exact ⟨u, hc _ _ hu, h1 u (yj hu), hp⟩
 | own e xs hs => cases ho
theorem ViewR.mono {G G' : Gh} {w w' : World} (hg : Gle G G') (he : Ev G w w') {v : View} {vs : List Value} (h : ViewR G w v vs) : ViewR G' w' v vs := by
 obtain ⟨hl, h1, h⟩ := h
 refine ⟨hl, h1, ?_⟩
 cases v with
 | ints k xs => exact h
 | pvs β e xs => exact ⟨h.1, fun i x c y hx hy => by obtain ⟨u, hu, hp⟩ := h.2 i x c y hx hy; exact ⟨u, hu, hp.mono (hg.prot β) (he.prot β)⟩⟩
 | avs e cs => exact ⟨h.1, fun j y hy => by obtain ⟨u, hu, hp⟩ := h.2 j y hy; exact ⟨u, hu, hp.mono hg he⟩⟩
theorem zqj {G : Gh} {w : World} {β : Bool} {t : TypeId} {p : PV} {c : Nat} {a : AV} (h : rdT P β t p c = some a) {cv : Nat → Value} (hr : ∀ j y, p.cells[j]? = some y → PR w (G.prot β) y (cv j)) :
  ∀ (j : Nat) (y : AV), a.cells[j]? = some y → VR G w y (cv (c + j)) ∧ ∃ q, p.cells[c + j]? = some q := by
 unfold rdT at h
 split at h
 ·rw [bind_some] at h; obtain ⟨ls, hls, h⟩ := h
  rw [bind_some] at h; obtain ⟨n, hn, h⟩ := h
  rw [za] at h; obtain ⟨hnl, h⟩ := h
  rw [bind_some] at h; obtain ⟨as, has, h⟩ := h
  obtain rfl := ya h
  obtain ⟨hl, hf⟩ := zbC (G := G) (w := w) has
  obtain ⟨f1, f2⟩ := hf (fun j => cv (c + j)) (fun j y hy _ => hr _ y hy)
  intro j y hy
  have hy : as[j]? = some y := hy
  exact ⟨f2 j y hy, f1 j (by rw [← hl]; exact (ye.1 hy).1)⟩
 ·rw [bind_some] at h; obtain ⟨l, hl, h⟩ := h
  rw [bind_some] at h; obtain ⟨q, hq, h⟩ := h
  have hv := zcK (G := G) (w := w) h (hr c q hq)
  intro j y hy
  have hone : a.cells = [a] := by
   unfold rdLeaf at h
   split at h <;> (rw [bind_some] at h; obtain ⟨x, _, h⟩ := h; obtain rfl := ya h; rfl)
  rw [hone] at hy
  cases j with
  | zero => simp at hy; subst hy; exact ⟨hv, q, hq⟩
  | succ j => simp at hy
 ·simp at h
theorem zgG {G : Gh} {w : World} {β : Bool} {t : TypeId} {e : Nat} : ∀ {xs : List PV} {cs : List AV} {vs : List Value}, rdAll P t β e xs = some cs → vs.length = xs.length * e →
  (∀ (i : Nat) (x : PV) (c : Nat) (y : PV), xs[i]? = some x → x.cells[c]? = some y → ∃ u, vs[i * e + c]? = some u ∧ PR w (G.prot β) y u) → LRs G w cs vs
 | [], cs, vs, h, hl, _ => by
  simp [rdAll] at h; subst h
  simp at hl; subst hl
  exact ⟨rfl, fun j y hy => by simp at hy⟩
 | p :: r, cs, vs, h, hl, hh => by
  simp only [rdAll] at h
  rw [bind_some] at h; obtain ⟨v, hv, h⟩ := h
  rw [za] at h; obtain ⟨he, h⟩ := h
  have he := beqN.1 he
  obtain ⟨cs', hcs, rfl⟩ := yd.1 h
  have hlen : vs.length = e + r.length * e := by rw [hl]; simp [yk1, Nat.add_comm]
  have ih := zgG (G := G) (w := w) (vs := vs.drop e) hcs (by simp [hlen]) (fun i x c y hx hy => by
   obtain ⟨u, hu, hp⟩ := hh (i + 1) x c y (by simpa using hx) hy
   refine ⟨u, ?_, hp⟩
   rw [yb1, show e + (i * e + c) = (i + 1) * e + c by rw [yk1]; omega]; exact hu)
  have hv' := zqj (P := P) (G := G) (w := w) hv (cv := fun j => vs.getD j undef) (fun j y hy => by
   obtain ⟨u, hu, hp⟩ := hh 0 p j y rfl hy
   simp only [yd3, yy] at hu
   rw [yl, hu]; exact hp)
  refine ⟨by rw [yi1, he, ih.1]; simp; omega, fun j y hy => ?_⟩
  by_cases hj : j < v.cells.length
  ·rw [yp hj] at hy
   simpa using (hv' j y hy).1
  ·rw [yu (by omega)] at hy
   have := ih.2 _ y hy
   rw [yl, yb1] at this
   rw [yl, show j = e + (j - v.cells.length) by omega]
   exact this
theorem zjM : ∀ {cs : List AV}, onesA cs = true → ∀ v ∈ cs, oneA v = true
 | v :: r, h, u, hu => by
  simp only [onesA, yb] at h
  cases hu with
  | head => exact h.1
  | tail _ hu => exact zjM h.2 u hu
theorem zlq {G : Gh} {w : World} {a : AV} {v : Value} (h : VR G w a v) (h1 : oneA a = true) : v.oneCell' = true := by
 cases h with
 | lit v hv => exact h1
 | imm β p v hp hs => cases hp <;> first | rfl | simp [PV.isSl] at hs
 | dead v h h' => exact h
 | agg => simp [oneA] at h1
 | tup => simp [oneA] at h1
 | _ => rfl
theorem LRs.ones {G : Gh} {w : World} {cs : List AV} {vs : List Value} (h : LRs G w cs vs) (h1 : onesA cs = true) : ∀ u ∈ vs, u.oneCell' = true := by
 intro u hu
 obtain ⟨j, hj, rfl⟩ := ys1 hu
 have hj' : j < cs.length := by rw [h.1]; exact hj
 have := h.2 j cs[j] (yf hj')
 rw [yl, yf hj] at this
 exact zlq this (zjM h1 _ (yr2 _))
theorem zgF {G : Gh} {w : World} {t : TypeId} {v : View} {cs : List AV} {vs : List Value} (h : v.toAvs P t = some cs) (hv : ViewR G w v vs) : LRs G w cs vs := by
 obtain ⟨hl, h1, hv⟩ := hv
 cases v with
 | ints k xs =>
  obtain rfl := ya h
  simp only [View.len, View.e, ye3] at hl
  refine ⟨by simp [hl], fun j y hy => ?_⟩
  obtain ⟨x, hx, rfl⟩ : ∃ x, xs[j]? = some x ∧ AV.lit (.int k x) = y := by simpa using hy
  rw [yl, hv j x hx]; exact .lit _ rfl
 | pvs β e xs => exact zgG h hl hv.2
 | avs e cs' =>
  obtain rfl := ya h
  simp only [View.len, View.e] at hl
  refine ⟨by rw [hl, yj2]; exact hv.1, fun j y hy => ?_⟩
  obtain ⟨u, hu, hp⟩ := hv.2 j y hy
  rw [yl, hu]; exact hp
theorem LRs.append {G : Gh} {w : World} {a b : List AV} {u v : List Value} (h : LRs G w a u) (h' : LRs G w b v) : LRs G w (a ++ b) (u ++ v) := by
 refine ⟨by simp [h.1, h'.1], fun j y hy => ?_⟩
 by_cases hj : j < a.length
 ·rw [yp hj] at hy
  rw [yl, yp (by rw [← h.1]; exact hj), ← yl]; exact h.2 j y hy
 ·rw [yu (by omega)] at hy
  rw [yl, yu (by rw [← h.1]; omega), ← yl, ← h.1]; exact h'.2 _ y hy
theorem PR.weak {w : World} {G : Gh} (hlab : ∀ B o, G.prot false B o → G.prot true B o) {β β' : Bool} {p : PV} {v : Value} (h : PR w (G.prot β) p v) : PR w (G.prot (β || β')) p v := by
 cases β <;> cases β' <;> first | exact h | exact h.mono (fun _ _ x => hlab _ _ x) (fun _ _ _ => rfl)
theorem PR.weak' {w : World} {G : Gh} (hlab : ∀ B o, G.prot false B o → G.prot true B o) {β β' : Bool} {p : PV} {v : Value} (h : PR w (G.prot β) p v) : PR w (G.prot (β' || β)) p v := by
 rw [Bool.or_comm]; exact h.weak hlab
theorem zjR {G : Gh} {w : World} (hlab : ∀ B o, G.prot false B o → G.prot true B o) {t : TypeId} {x y z : View} {vs us : List Value} (h : x.app P t y = some z) (hx : ViewR G w x vs) (hy : ViewR G w y us) :
  ViewR G w z (vs ++ us) ∧ z.e = x.e ∧ z.e = y.e ∧ z.len = x.len + y.len := by
 unfold View.app at h
 split at h
 ·rename_i k xs k' ys
  rw [za] at h; obtain ⟨hk, h⟩ := h
  rw [zaR] at hk; subst hk
  obtain rfl := ya h
  obtain ⟨l1, o1, x1⟩ := hx; obtain ⟨l2, o2, y2⟩ := hy
  simp only [View.len, View.e, ye3] at l1 l2
  refine ⟨⟨by simp [View.len, View.e, l1, l2], fun u hu => (yl1.1 hu).elim (o1 u) (o2 u), fun i x hx => ?_⟩, rfl, rfl, by simp [View.len]⟩
  by_cases hi : i < xs.length
  ·rw [yp hi] at hx; rw [yp (by omega)]; exact x1 i x hx
  ·rw [yu (by omega)] at hx; rw [yu (by omega), l1]; exact y2 _ x hx
 ·rename_i β e xs β' e' ys
  rw [za] at h; obtain ⟨he, h⟩ := h
  obtain rfl := beqN.1 he
  obtain rfl := ya h
  obtain ⟨l1, o1, x1⟩ := hx; obtain ⟨l2, o2, y2⟩ := hy
  simp only [View.len, View.e] at l1 l2
  refine ⟨⟨by simp [View.len, View.e, l1, l2, yk1], fun u hu => (yl1.1 hu).elim (o1 u) (o2 u), fun x hx => (yl1.1 hx).elim (x1.1 x) (y2.1 x), fun i x c y hx hy => ?_⟩, rfl, rfl, by simp [View.len]⟩
  by_cases hi : i < xs.length
  ·rw [yp hi] at hx
   obtain ⟨u, hu, hp⟩ := x1.2 i x c y hx hy
   exact ⟨u, by rw [yp (ye.1 hu).1]; exact hu, hp.weak hlab⟩
  ·rw [yu (by omega)] at hx
   obtain ⟨u, hu, hp⟩ := y2.2 _ x c y hx hy
   refine ⟨u, ?_, hp.weak' hlab⟩
   have e1 : i * e = xs.length * e + (i - xs.length) * e := by rw [← yk1]; congr 1; omega
   rw [yu (by rw [l1, e1]; omega), l1, show i * e + c - xs.length * e = (i - xs.length) * e + c by omega]; exact hu
 ·rename_i e xs
  rw [bind_some] at h; obtain ⟨ys, hys, h⟩ := h
  rw [za] at h; obtain ⟨hc, h⟩ := h
  obtain rfl := ya h
  simp only [yb] at hc
  obtain ⟨⟨hones, he⟩, he1⟩ := hc
  obtain rfl := beqN.1 he
  have he1 := bleN.1 he1
  have hL := zgF hys hy
  obtain ⟨l1, o1, x1⟩ := hx; obtain ⟨l2, o2, y2⟩ := hy
  replace l1 : vs.length = countBy y.e xs.length * y.e := l1
  have hcx : xs.length = countBy y.e xs.length * y.e := by rw [yj2]; exact x1.1
  have hcy : ys.length = y.len * y.e := by rw [hL.1]; exact l2
  have hsum : (xs ++ ys).length = (countBy y.e xs.length + y.len) * y.e := by rw [yi1, hcy, yk1]; omega
  have hcount : countBy y.e (xs ++ ys).length = countBy y.e xs.length + y.len := by rw [hsum]; exact zar (n := 0) he1 _
  have hxv : LRs G w xs vs := ⟨by rw [l1]; exact hcx, fun j z hz => by obtain ⟨u, hu, hp⟩ := x1.2 j z hz; rw [yl, hu]; exact hp⟩
  have hall := hxv.append hL
  refine ⟨⟨?_, fun u hu => (yl1.1 hu).elim (o1 u) (o2 u), ?_, fun j z hz => ?_⟩, rfl, rfl, ?_⟩
  ·show (vs ++ us).length = countBy y.e (xs ++ ys).length * y.e
   rw [hcount, ← hsum, hall.1]
  ·rw [hcount, yj2]; exact hsum
  ·have hj : j < (vs ++ us).length := by rw [← hall.1]; exact (ye.1 hz).1
   have := hall.2 j z hz
   rw [yl, yf hj] at this
   exact ⟨_, yf hj, this⟩
  ·exact hcount
 ·simp at h
end
end Go.Ab
end
section
namespace Go.Ab
variable [GTab]
section
variable {P : Program}
theorem zfT {e i c n : Nat} (hc : c < e) (hi : i < n) : i * e + c < n * e := by
 calc i * e + c < i * e + e := by omega
  _ = (i + 1) * e := by rw [yk1]; simp
  _ ≤ n * e := yy1 _ hi
theorem zge {e i c : Nat} (hc : c < e) : (i * e + c) / e = i ∧ (i * e + c) % e = c := by
 constructor
 ·rw [yj2, Nat.mul_add_div (by omega), Nat.div_eq_of_lt hc]; simp
 ·rw [yj2, Nat.mul_add_mod, Nat.mod_eq_of_lt hc]
theorem zkS {P : Program} (w : World) {size : Nat} {tx e' : TypeId} (hk : P.underlying tx = some (.slice e')) (a : Option Addr) : Src P size tx (.slice a 0 0) 0 [] w := by
 cases a with
 | none => exact Src.ofNil w hk 0
 | some a => exact Src.ofSlice w hk a 0 0 [] (by simp) (fun j u hu => by simp at hu) (by simp)
theorem PR.view {w : World} {G : Gh} {β : Bool} {e : Nat} {xs : List PV} {cv : Value} (h : PR w (G.prot β) (.sl e xs) cv) :
  (xs = [] ∧ ∃ a, cv = .slice a 0 0) ∨ ∃ B o cap vs, cv = .slice (some ⟨B, o, none⟩) xs.length cap ∧ 1 ≤ e ∧ xs.length ≤ cap ∧ ViewR G w (.pvs β e xs) vs ∧ ∀ j u, vs[j]? = some u → cl w B (o + j) = some u ∧ G.prot β B (o + j) := by
 cases h with
 | slNil _ a => exact .inl ⟨rfl, a, rfl⟩
 | sl _ _ B o cap cv he hcap hlen h h1 hr =>
  have key : ∀ j, j < xs.length * e → ∃ x y, xs[j / e]? = some x ∧ x.cells[j % e]? = some y := by
   intro j hj
   have hi : j / e < xs.length := by rw [Nat.div_lt_iff_lt_mul (by omega)]; exact hj
   have hc : j % e < (xs[j / e]).cells.length := by rw [hlen _ (yr2 _)]; exact Nat.mod_lt _ (by omega)
   exact ⟨_, _, yf hi, yf hc⟩
  refine .inr ⟨B, o, cap, (List.range (xs.length * e)).map (fun j => cv (j / e) (j % e)), rfl, he, hcap, ⟨by simp [View.len, View.e], ?_, hlen, ?_⟩, ?_⟩
  ·intro u hu
   obtain ⟨j, hj, rfl⟩ := yu2.1 hu
   obtain ⟨x, y, hx, hy⟩ := key j (by simpa using hj)
   exact h1 _ x _ y hx hy
  ·intro i x c y hx hy
   have hi := (ye.1 hx).1
   have hc := (ye.1 hy).1
   rw [hlen x (yj hx)] at hc
   obtain ⟨e1, e2⟩ := zge (i := i) hc
   exact ⟨cv i c, by simp [zfT hc hi, e1, e2], hr i x c y hx hy⟩
  ·intro j u hu
   have hj : j < xs.length * e := by have := (ye.1 hu).1; simpa using this
   simp [hj] at hu; subst hu
   obtain ⟨x, y, hx, hy⟩ := key j hj
   have := h _ x _ y hx hy
   rw [show o + j / e * e + j % e = o + j by rw [yc3, yj2, Nat.div_add_mod]] at this
   exact this
theorem zec {G : Gh} {w : World} {r : Row} {o n : Nat} {v : View} {vs : List Value} (he : 1 ≤ r.e) (h : r.sub o n = some v) (hr : ViewR G w r.all vs) :
  ViewR G w v ((vs.drop (o * r.e)).take (n * r.e)) ∧ v.e = r.e ∧ v.len = n ∧ o + n ≤ r.len := by
 obtain ⟨hl, h1, hr⟩ := hr
 have hones : ∀ u ∈ (vs.drop (o * r.e)).take (n * r.e), u.oneCell' = true := fun u hu => h1 u (List.mem_of_mem_drop (yy2 hu))
 cases r with
 | ints k xs =>
  simp only [Row.sub] at h
  rw [za] at h; obtain ⟨hle, h⟩ := h
  have hle := bleN.1 hle
  obtain rfl := ya h
  simp only [Row.all, View.len, View.e, ye3] at hl
  refine ⟨⟨by simp [View.len, View.e, Row.e, hl], hones, fun i x hx => ?_⟩, rfl, by simp [View.len]; omega, hle⟩
  have hi : i < n := by have := (ye.1 hx).1; simp at this; omega
  rw [yg1 hi, yb1] at hx
  simp only [Row.e, ye3]
  rw [yg1 hi, yb1]
  exact hr _ _ hx
 | pvs β e xs =>
  simp only [Row.sub] at h
  rw [za] at h; obtain ⟨hle, h⟩ := h
  have hle := bleN.1 hle
  obtain rfl := ya h
  simp only [Row.all, View.len, View.e] at hl
  simp only [Row.e] at he
  have hlen : ((xs.drop o).take n).length = n := by simp; omega
  refine ⟨⟨?_, hones, fun x hx => hr.1 x (List.mem_of_mem_drop (yy2 hx)), fun i x c y hx hy => ?_⟩, rfl, hlen, hle⟩
  ·simp only [View.len, View.e, hlen, Row.e, yn2, List.length_drop, hl]
   rw [← Nat.mul_sub_right_distrib]
   exact Nat.min_eq_left (yy1 _ (by omega))
  ·have hi : i < n := by have := (ye.1 hx).1; omega
   rw [yg1 hi, yb1] at hx
   obtain ⟨u, hu, hp⟩ := hr.2 _ x c y hx hy
   have hc := (ye.1 hy).1
   rw [hr.1 x (yj hx)] at hc
   refine ⟨u, ?_, hp⟩
   simp only [Row.e]
   rw [yg1 (zfT hc hi), yb1, show o * e + (i * e + c) = (o + i) * e + c by rw [yk1]; omega]
   exact hu
 | cells e cs =>
  simp only [Row.sub] at h
  rw [za] at h; obtain ⟨hle, h⟩ := h
  have hle := bleN.1 hle
  obtain rfl := ya h
  simp only [Row.e] at he
  have hcs : cs.length = countBy e cs.length * e := by rw [yj2]; exact hr.1
  replace hl : vs.length = countBy e cs.length * e := hl
  have hon : o + n ≤ countBy e cs.length := by
   rw [hcs] at hle
   exact Nat.le_of_mul_le_mul_right hle (by omega)
  have hlen : ((cs.drop (o * e)).take (n * e)).length = n * e := by
   simp only [yn2, List.length_drop]; rw [yk1] at hle; omega
  have hcount : countBy e ((cs.drop (o * e)).take (n * e)).length = n := by rw [hlen]; exact zar (n := 0) he n
  refine ⟨⟨?_, hones, ?_, fun j y hy => ?_⟩, rfl, hcount, hon⟩
  ·show _ = countBy e ((cs.drop (o * e)).take (n * e)).length * e
   rw [hcount]
   simp only [Row.e, yn2, List.length_drop, hl]
   rw [← hcs]; rw [yk1] at hle; omega
  ·rw [hcount, hlen, yj2]
  ·have hj : j < n * e := by have := (ye.1 hy).1; omega
   rw [yg1 hj, yb1] at hy
   obtain ⟨u, hu, hp⟩ := hr.2 _ y hy
   refine ⟨u, ?_, hp⟩
   simp only [Row.e]
   rw [yg1 hj, yb1]; exact hu
 | own e xs hs => cases h
theorem ziK (G : Gh) (w : World) (s : ByteArray) : ViewR G w (.ints .u8 (bytesInts s)) (byteCells s) := by
 refine ⟨by simp [View.len, View.e, bytesInts, byteCells], fun u hu => ?_, fun i x hx => ?_⟩
 ·obtain ⟨b, _, rfl⟩ := yu2.1 hu; rfl
 ·unfold bytesInts at hx
  unfold byteCells
  rw [yc1] at hx ⊢
  obtain ⟨b, hb, rfl⟩ := yd.1 hx
  rw [hb]; rfl
theorem ViewR.unmark {G : Gh} {w : World} {β β' : Bool} {e : Nat} {xs : List PV} {vs : List Value} (hf : xs.all flatPV = true) (h : ViewR G w (.pvs β e xs) vs) : ViewR G w (.pvs β' e xs) vs := by
 refine ⟨h.1, h.2.1, h.2.2.1, fun i x c y hx hy => ?_⟩
 obtain ⟨u, hu, hp⟩ := h.2.2.2 i x c y hx hy
 refine ⟨u, hu, ?_⟩
 have h1 := yo2.1 hf x (yj hx)
 have h2 := yo2.1 h1 y (yj hy)
 cases y with
 | lit v =>
  cases hp with
  | lit _ h => exact .lit _ h
 | ints _ _ => cases h2
 | sl _ _ => cases h2
 | agg _ => cases h2
theorem ViewR.unmarkIf {G : Gh} {w : World} {c β : Bool} {e : Nat} {xs : List PV} {vs : List Value} (h : ViewR G w (.pvs β e xs) vs) : ViewR G w (.pvs (bif c && xs.all flatPV then false else β) e xs) vs := by
 cases hc : (c && xs.all flatPV) with
 | false => exact h
 | true => exact h.unmark (yb _ _ ▸ hc).2
theorem zfc {G : Gh} {w : World} {mem : Mem} {et tx : TypeId} {y : AV} {v : View × List Nat} {cv : Value} (hM : MemR G w mem) (h : view P et mem y = some v) (hy : VR G w y cv) (hs : tsz P et = some v.1.e) (hsrc : srcOk P tx y = true) :
  ∃ news, Src P v.1.e tx cv v.1.len news w ∧ ViewR G w v.1 news := by
 have hslice : (∀ s, y ≠ .lit (.string s)) → ∃ e', P.underlying tx = some (.slice e') := by
  intro hne
  unfold srcOk at hsrc
  split at hsrc
  ·rename_i s _; exact absurd rfl (hne s)
  ·simp at hsrc
  ·exact ⟨_, by assumption⟩
  ·simp at hsrc
 unfold view at h
 split at h
 ·rename_i β k xs
  obtain rfl := ya h
  obtain ⟨e', hk⟩ := hslice (by simp)
  cases hy with
  | imm _ _ _ hp =>
   cases hp with
   | intsNil _ a => exact ⟨[], zkS w hk a, by simp [View.len, View.e], by simp, fun i x hx => by simp at hx⟩
   | ints _ _ B o cap hcap hh =>
    refine ⟨xs.map (.int k), Src.ofSlice w hk ⟨B, o, none⟩ _ cap _ (by simp [View.len, View.e]) (fun j u hu => ?_) (by simp [Value.oneCell']), by simp [View.len, View.e], by simp [Value.oneCell'], fun i x hx => by simp [hx]⟩
    obtain ⟨x, hx, rfl⟩ : ∃ x, xs[j]? = some x ∧ Value.int k x = u := by simpa using hu
    rw [zB]; exact (hh j x hx).1
 ·rename_i β e xs
  obtain rfl := ya h
  obtain ⟨e', hk⟩ := hslice (by simp)
  cases hy with
  | imm _ _ _ hp =>
   rcases hp.view with ⟨rfl, a, rfl⟩ | ⟨B, o, cap, vs, rfl, he, hcap, hv, hc⟩
   ·exact ⟨[], zkS w hk a, by simp [View.len, View.e], by simp, fun x hx => by simp at hx, fun i x c y hx => by simp at hx⟩
   ·exact ⟨vs, Src.ofSlice w hk ⟨B, o, none⟩ _ cap vs hv.1 (fun j u hu => by rw [zB]; exact (hc j u hu).1) hv.2.1, hv.unmarkIf⟩
 ·rename_i b g o n
  rw [bind_some] at h; obtain ⟨bx, hbx, h⟩ := h
  obtain ⟨vw, hvw, rfl⟩ := yd.1 h
  obtain ⟨e', hk⟩ := hslice (by simp)
  have he := (hM.box b bx (box?_some hbx).1).e
  rcases hM.at_ms hbx hy with ⟨B, cap, rfl, hn, hon, hl, hf, _, _, _, hrow, _⟩ | ⟨rfl, rfl, rfl, hz, hl⟩ | ⟨B, oo, rfl, ho, rfl, hon, hl⟩
  ·obtain ⟨vs, hvs, hcl⟩ := hrow.toList he (box?_own hbx)
   obtain ⟨hv, hve, hvl, _⟩ := zec he hvw hvs
   refine ⟨_, ?_, hv⟩
   simp only at hs ⊢
   rw [hve, hvl]
   refine Src.ofSlice w hk ⟨B, o * bx.row.e, none⟩ n cap _ (by rw [hv.1, hve, hvl]) (fun j u hu => ?_) hv.2.1
   rw [zB]
   have hj : j < n * bx.row.e := by
    have := (ye.1 hu).1
    rw [hv.1, hve, hvl] at this; exact this
   rw [yg1 hj, yb1] at hu
   have := hcl _ (ye.1 hu).1
   rw [hu] at this; exact this
  ·have hv0 : vw.len = 0 ∧ vw.e = bx.row.e := by
    obtain ⟨gen, frz, row⟩ := bx
    cases row <;> simp only [Row.sub] at hvw <;> first | (cases hvw; done) | skip <;> rw [za] at hvw <;> obtain ⟨_, hvw⟩ := hvw <;> obtain rfl := ya hvw <;> simp [View.len, View.e, Row.e, countBy]
   have hview : ViewR G w vw [] := by
    refine ⟨by simp [hv0.1], by simp, ?_⟩
    obtain ⟨gen, frz, row⟩ := bx
    cases row <;> simp only [Row.sub] at hvw <;> first | (cases hvw; done) | skip <;> rw [za] at hvw <;> obtain ⟨_, hvw⟩ := hvw <;> obtain rfl := ya hvw <;> simp [countBy]
   refine ⟨[], ?_, hview⟩
   simp only; rw [hv0.1]
   exact Src.ofNil w hk 0
  ·have hv0 : vw.len = 0 ∧ vw.e = bx.row.e := by
    obtain ⟨gen, frz, row⟩ := bx
    cases row <;> simp only [Row.sub] at hvw <;> first | (cases hvw; done) | skip <;> rw [za] at hvw <;> obtain ⟨_, hvw⟩ := hvw <;> obtain rfl := ya hvw <;> simp [View.len, View.e, Row.e, countBy]
   have hview : ViewR G w vw [] := by
    refine ⟨by simp [hv0.1], by simp, ?_⟩
    obtain ⟨gen, frz, row⟩ := bx
    cases row <;> simp only [Row.sub] at hvw <;> first | (cases hvw; done) | skip <;> rw [za] at hvw <;> obtain ⟨_, hvw⟩ := hvw <;> obtain rfl := ya hvw <;> simp [countBy]
   refine ⟨[], ?_, hview⟩
   simp only; rw [hv0.1]
   exact Src.ofSlice w hk ⟨B, oo, none⟩ 0 0 [] (by simp) (fun j u hu => by simp at hu) (by simp)
 ·rename_i b g
  rw [bind_some] at h; obtain ⟨bx, hbx, h⟩ := h
  obtain rfl := ya h
  obtain ⟨e', hk⟩ := hslice (by simp)
  have he := (hM.box b bx (box?_some hbx).1).e
  rcases hM.at_msw hbx hy with ⟨B, cap, rfl, hn, hl, hf, _, _, _, hrow, _⟩ | ⟨rfl, hz, hnc, hl⟩
  ·obtain ⟨vs, hvs, hcl⟩ := hrow.toList he (box?_own hbx)
   refine ⟨vs, ?_, hvs⟩
   simp only [zcF, zL]
   refine Src.ofSlice w hk ⟨B, 0, none⟩ _ cap vs (by rw [hvs.1, zcF, zL]) (fun j u hu => ?_) hvs.2.1
   rw [zB, yy]
   have := hcl _ (ye.1 hu).1
   rw [hu] at this; exact this
  ·have hview : ViewR G w bx.row.all [] := by
    refine ⟨by rw [zL, hz]; simp, by simp, ?_⟩
    obtain ⟨gen, frz, row⟩ := bx
    cases row with
    | ints k xs => simp only [Row.len] at hz; have := yo hz; subst this; simp [Row.all]
    | pvs β e xs => simp only [Row.len] at hz; have := yo hz; subst this; simp [Row.all]
    | cells e cs => simp [Row.isCells] at hnc
    | own e xs hs => exact absurd (box?_own hbx) (by simp [Row.isOwn])
   refine ⟨[], ?_, hview⟩
   simp only [zL, hz]
   exact Src.ofNil w hk 0
 ·rename_i s
  obtain rfl := ya h
  obtain rfl := hy.lit_inv
  have hk : P.underlying tx = some .string := by
   unfold srcOk at hsrc; split at hsrc <;> simp_all
  refine ⟨byteCells s, ?_, ziK G w s⟩
  have := Src.ofString (P := P) w hk s
  simpa [View.len, View.e, bytesInts] using this
 ·obtain ⟨e', hk⟩ := hslice (by simp)
  obtain rfl := hy.lit_inv
  split at h
  ·obtain rfl := ya h
   exact ⟨[], Src.ofNil w hk 0, by simp [View.len, View.e], by simp, fun i x hx => by simp at hx⟩
  ·obtain ⟨e, he, rfl⟩ := yd.1 h
   exact ⟨[], Src.ofNil w hk 0, by simp [View.len, View.e], by simp, fun x hx => by simp at hx, fun i x c y hx => by simp at hx⟩
 ·simp at h
end
end Go.Ab
end
section
namespace Go.Ab
variable [GTab]
def InBoxes (G : Gh) (w : World) (mem : Mem) (ids : List Nat) (B _o : Nat) : Prop := ∃ b ∈ ids, ∃ (x : Box) (C : Nat), mem[b]? = some (some x) ∧ x.row.okShut = true ∧ Blk G b x C ∧ (B = C ∨ ∃ i c, InnB w C x.row i c B)
def Gh.frz (G : Gh) (S : Nat → Nat → Prop) : Gh := { G with prot := fun β B o => G.prot β B o ∨ S B o }
theorem Gle.frz (G : Gh) (S : Nat → Nat → Prop) (hS : ∀ B o, S B o → G.mine B) : Gle G (G.frz S) := ⟨rfl, fun _ _ _ h => .inl h, fun _ _ _ h => h, fun _ B o h => h.imp id (hS B o)⟩
theorem MemR.mine {G : Gh} {w : World} {mem : Mem} (hM : MemR G w mem) {b : Nat} {x : Box} {L : Loc} {B : Nat} (hx : mem[b]? = some (some x)) (hl : G.loc b x.gen = some L) (hB : L.blk = some B) : G.mine B :=
 (hM.blk hx ⟨L, hl, hB⟩).2.1
theorem MemR.inBoxes {G : Gh} {w : World} {mem : Mem} (hM : MemR G w mem) {ids : List Nat} : ∀ B o, InBoxes G w mem ids B o → G.mine B := by
 rintro B o ⟨b, _, x, C, hx, _, hB, h⟩
 rcases h with rfl | ⟨i, c, hi⟩
 ·exact (hM.blk hx hB).2.1
 ·exact (hM.inn hx hB hi).1
theorem MemR.inBoxes_lt {G : Gh} {w : World} {mem : Mem} (hM : MemR G w mem) {ids : List Nat} : ∀ B o, InBoxes G w mem ids B o → B < w.heap.size := by
 rintro B o ⟨b, _, x, C, hx, _, hB, h⟩
 rcases h with rfl | ⟨i, c, hi⟩
 ·exact (hM.blk hx hB).2.2.1
 ·exact (hM.inn hx hB hi).2.1
theorem InBoxes.mono {G : Gh} {w : World} {mem : Mem} {ids ids' : List Nat} (h : ∀ b ∈ ids, b ∈ ids') {B o : Nat} (hi : InBoxes G w mem ids B o) : InBoxes G w mem ids' B o := by
 obtain ⟨b, hb, r⟩ := hi; exact ⟨b, h b hb, r⟩
theorem zoy {r : Row} (h : r.isOwn = false) : r.okShut = true := by cases r <;> first | rfl | cases h
theorem zqg {r : Row} (h : r.isOwn = false) : r.shut = r := by cases r <;> first | rfl | cases h
theorem ziY (r : Row) : r.shut.isOwn = false := by cases r <;> rfl
theorem zpA (r : Row) : r.shut.e = r.e := by cases r <;> rfl
theorem zld (r : Row) : r.shut.len = r.len := by cases r <;> rfl
theorem zno (r : Row) : r.shut.isCells = r.isCells := by cases r <;> rfl
theorem InBoxes.one {G : Gh} {w : World} {mem : Mem} {ids : List Nat} {b : Nat} {x : Box} {L : Loc} {B o : Nat} (hb : b ∈ ids) (hx : mem[b]? = some (some x)) (ho : x.row.isOwn = false) (hl : G.loc b x.gen = some L) (hB : L.blk = some B) : InBoxes G w mem ids B o :=
 ⟨b, hb, x, B, hx, zoy ho, ⟨L, hl, hB⟩, .inl rfl⟩
theorem zO (mem : Mem) : ∀ (ids : List Nat) (m : Mem) (b : Nat), m.length = mem.length →
  (∀ x, mem[b]? = some (some x) → x.row.okShut = true → b ∈ ids → (setMem m (frozenAt mem ids))[b]? = some (some { x with frz := true, row := x.row.shut })) ∧
  ((b ∉ ids ∨ ∀ x, mem[b]? = some (some x) → x.row.okShut = false) → (setMem m (frozenAt mem ids))[b]? = m[b]?) ∧ (setMem m (frozenAt mem ids)).length = mem.length
 | [], m, b, hl => ⟨fun x _ _ h => by simp at h, fun _ => rfl, hl⟩
 | a :: r, m, b, hl => by
  unfold frozenAt
  split
  ·rename_i x hx
   have ha : a < m.length := by rw [hl]; exact (ye.1 hx).1
   cases hok : x.row.okShut with
   | true =>
    simp only [yg, setMem]
    obtain ⟨i1, i2, i3⟩ := zO mem r (m.set a (some { x with frz := true, row := x.row.shut })) b (by simpa using hl)
    refine ⟨fun y hy hyo hb => ?_, fun hb => ?_, i3⟩
    ·by_cases hr : b ∈ r
     ·exact i1 y hy hyo hr
     ·have : b = a := by simp at hb; exact hb.resolve_right hr
      subst this
      rw [i2 (.inl hr), yw ha]
      rw [hx] at hy; simp at hy; subst hy; rfl
    ·have hne : a ≠ b := by
      rintro rfl
      rcases hb with hb | hb
      ·exact hb (yn ..)
      ·rw [hb x hx] at hok; cases hok
     rw [i2 (hb.imp (fun h hr => h (yi _ hr)) id), yq hne]
   | false =>
    simp only [yh]
    obtain ⟨i1, i2, i3⟩ := zO mem r m b hl
    refine ⟨fun y hy hyo hb => ?_, fun hb => i2 (hb.imp (fun h hr => h (yi _ hr)) id), i3⟩
    have : b ≠ a := by rintro rfl; rw [hx] at hy; simp at hy; subst hy; rw [hyo] at hok; cases hok
    exact i1 y hy hyo (by simp at hb; exact hb.resolve_left this)
  ·rename_i hno
   obtain ⟨i1, i2, i3⟩ := zO mem r m b hl
   refine ⟨fun y hy hyo hb => ?_, fun hb => i2 (hb.imp (fun h hr => h (yi _ hr)) id), i3⟩
   have : b ≠ a := by rintro rfl; exact hno y hy
   exact i1 y hy hyo (by simp at hb; exact hb.resolve_left this)
theorem RowR.shut {G : Gh} {w : World} {B : Nat} {r : Row} (S : Nat → Nat → Prop) (h : RowR G w B r) (ho : r.isOwn = true) (hok : r.okShut = true) (hS : ∀ i c B', InnB w B r i c B' → ∀ o, S B' o) : RowR (G.frz S) w B r.shut := by
 cases r with
 | own e xs hs =>
  cases hs with
  | cons _ _ => cases hok
  | nil =>
   obtain ⟨_, hl, hc⟩ := h
   refine ⟨hl, fun i x c y h1 h2 => ?_⟩
   obtain ⟨v, hv, h1v, hp⟩ := hc i x c y h1 h2
   refine ⟨v, hv, h1v, ?_⟩
   rcases hp with ⟨u, rfl, rfl⟩ | ⟨row, hrow, hp⟩
   ·exact .lit _ h1v
   ·have hin : ∀ B' n cap, v = .slice (some ⟨B', 0, none⟩) n cap → ∀ o, S B' o := fun B' n cap hvv => hS i c B' ⟨⟨x, y, row, h1, h2, hrow⟩, rfl, n, cap, by rw [hv, hvv]⟩
    cases y with
    | ints k ys =>
     obtain rfl := ya hrow
     rcases hp with ⟨rfl, h0⟩ | ⟨B', cap, rfl, hcap, _, _, _, _, hr, _⟩
     ·obtain rfl := yo h0; exact .intsNil k _
     ·exact .ints k ys B' 0 cap hcap fun j z hz => ⟨by rw [yy]; exact hr j z hz, .inr (hin B' _ _ rfl _)⟩
    | sl e' ys =>
     simp only [leafRow] at hrow; rw [za] at hrow; obtain ⟨he, hrow⟩ := hrow
     obtain rfl := ya hrow
     rcases hp with ⟨rfl, h0⟩ | ⟨B', cap, rfl, hcap, _, _, _, _, hr, _⟩
     ·obtain rfl := yo h0; exact .slNil e' _
     ·obtain ⟨hr1, hr2⟩ := hr
      refine .sl e' ys B' 0 cap (fun i c => (cl w B' (i * e' + c)).getD undef) (bleN.1 he) hcap hr1 (fun j z c q g1 g2 => ?_) (fun j z c q g1 g2 => ?_) (fun j z c q g1 g2 => ?_)
      ·obtain ⟨u, hu, _, _⟩ := hr2 j z c q g1 g2
       rw [yy]; exact ⟨by rw [hu]; rfl, .inr (hin B' _ _ rfl _)⟩
      ·obtain ⟨u, hu, h1, _⟩ := hr2 j z c q g1 g2
       rw [hu]; exact h1
      ·obtain ⟨u, hu, _, h1⟩ := hr2 j z c q g1 g2
       rw [hu]; exact h1.mono (fun _ _ h => .inl h) (fun _ _ _ => rfl)
    | lit u => simp [leafRow] at hrow
    | agg cs => simp [leafRow] at hrow
 | _ => cases ho
theorem MemR.freeze {G : Gh} {w : World} {mem : Mem} (hM : MemR G w mem) (ids : List Nat) : MemR (G.frz (InBoxes G w mem ids)) w (setMem mem (frozenAt mem ids)) := by
 have hg := Gle.frz G (InBoxes G w mem ids) hM.inBoxes
 have hget : ∀ (b : Nat) (y : Box), (setMem mem (frozenAt mem ids))[b]? = some (some y) → ∃ x, mem[b]? = some (some x) ∧ y.gen = x.gen ∧ ((b ∈ ids ∧ x.row.okShut = true ∧ y.frz = true ∧ y.row = x.row.shut) ∨ ((b ∉ ids ∨ x.row.okShut = false) ∧ y = x)) := by
  intro b y h
  obtain ⟨i1, i2, _⟩ := zO mem ids mem b rfl
  by_cases hl : ∃ x, mem[b]? = some (some x)
  ·obtain ⟨x, hx⟩ := hl
   by_cases hb : b ∈ ids ∧ x.row.okShut = true
   ·rw [i1 x hx hb.2 hb.1] at h; simp at h; subst h; exact ⟨x, hx, rfl, .inl ⟨hb.1, hb.2, rfl, rfl⟩⟩
   ·have hor : b ∉ ids ∨ x.row.okShut = false := by
     by_cases h1 : b ∈ ids
     ·exact .inr (by cases h2 : x.row.okShut <;> simp_all)
     ·exact .inl h1
    rw [i2 (hor.imp id (fun h x' hx' => by rw [hx] at hx'; simp at hx'; subst hx'; exact h)), hx] at h; simp at h; subst h; exact ⟨x, hx, rfl, .inr ⟨hor, rfl⟩⟩
  ·rw [i2 (.inr (fun x hx => absurd ⟨x, hx⟩ hl))] at h; exact absurd ⟨y, h⟩ hl
 have hblk : ∀ {b : Nat} {x y : Box} {B : Nat}, y.gen = x.gen → Blk (G.frz (InBoxes G w mem ids)) b y B → Blk G b x B := by
  rintro b x y B hge ⟨L, hl, hB⟩; exact ⟨L, by rw [← hge]; exact hl, hB⟩
 -- blocks of a box that stays as it is are not among those
 have hout : ∀ {b : Nat} {x : Box} {B B' : Nat}, mem[b]? = some (some x) → (b ∉ ids ∨ x.row.okShut = false) → Blk G b x B → (B' = B ∨ ∃ i c, InnB w B x.row i c B') → ∀ o, ¬ InBoxes G w mem ids B' o := by
  intro b x B B' hx hor hB h o hin
  obtain ⟨b2, hb2, x2, C, hx2, hok2, hC, h2⟩ := hin
  have hne : b2 ≠ b := by
   rintro rfl
   rw [hx] at hx2; simp at hx2; subst hx2
   rcases hor with h | h
   ·exact h hb2
   ·rw [hok2] at h; cases h
  have hO : Other G w mem b B' := ⟨b2, x2, C, hne, hx2, hC, h2⟩
  rcases h with rfl | ⟨i, c, hi⟩
  ·exact hM.other_ne hx hB hO rfl
  ·exact hM.other_inn hx hB hi hO
 refine ⟨fun b y h => ?_, fun b g h => ?_, fun b y g h hlt => ?_, fun b b' y y' L L' B h h' l l' k k' => ?_, fun b b' y y' B i c B' h k hi h' k' => ?_, fun b b' y y' B C i c i' c' B' h k hi h' k' hi' => ?_, hM.own, fun B o h => ?_, fun β B o h => ?_, hM.glob.mono (hg.prot true) fun _ _ _ => rfl⟩
 ·obtain ⟨x, hx, hgen, hc⟩ := hget b y h
  have hb := hM.box b x hx
  obtain ⟨o, hl, hm⟩ := hb.loc
  rcases hc with ⟨hb1, hok, hf, hrow⟩ | ⟨hor, rfl⟩
  ·refine ⟨by rw [hrow, zpA]; exact hb.e, o, by rw [hgen, hrow, zpA, zld]; exact hl, ?_⟩
   cases o with
   | none => rw [hrow, zld, zno]; exact hm
   | some B =>
    obtain ⟨h1, h2, h3, h4, h5⟩ := hm
    have hB : Blk G b x B := ⟨_, hl, rfl⟩
    refine ⟨h1, h2, h3, ?_, fun hff => by rw [hf] at hff; cases hff⟩
    rw [hrow]
    cases how : x.row.isOwn with
    | true => exact h4.shut _ how hok fun i c B' hi o => ⟨b, hb1, x, B, hx, hok, hB, .inr ⟨i, c, hi⟩⟩
    | false => rw [zqg how]; exact h4.mono hg (Ev.refl G w) (fun _ _ => rfl) fun i c B' hi => by rw [hi.own] at how; cases how
  ·refine ⟨hb.e, o, hl, ?_⟩
   cases o with
   | none => exact hm
   | some B =>
    obtain ⟨h1, h2, h3, h4, h5⟩ := hm
    have hB : Blk G b y B := ⟨_, hl, rfl⟩
    refine ⟨h1, h2, h3, h4.mono hg (Ev.refl G w) (fun _ _ => rfl) (fun i c B' hi => ⟨.of rfl, fun β o hp => ?_⟩), fun hf β o hp => ?_⟩
    ·rcases hp with hp | hp
     ·exact (hM.inn hx hB hi).2.2.2 β o hp
     ·exact hout hx hor hB (.inr ⟨i, c, hi⟩) o hp
    ·rcases hp with hp | hp
     ·exact h5 hf β o hp
     ·exact hout hx hor hB (.inl rfl) o hp
 ·refine hM.unset b g fun x hx => ?_
  obtain ⟨i1, i2, _⟩ := zO mem ids mem b rfl
  by_cases hb : b ∈ ids ∧ x.row.okShut = true
  ·exact h _ (i1 x hx hb.2 hb.1)
  ·have hor : b ∉ ids ∨ ∀ x' : Box, mem[b]? = some (some x') → x'.row.okShut = false := by
    by_cases h1 : b ∈ ids
    ·exact .inr fun x' hx' => by rw [hx] at hx'; simp at hx'; subst hx'; cases h2 : x.row.okShut <;> simp_all
    ·exact .inl h1
   exact h x (by rw [i2 hor]; exact hx)
 ·obtain ⟨x, hx, hgen, hc⟩ := hget b y h
  exact hM.gens b x g hx (by rw [← hgen]; exact hlt)
 ·obtain ⟨x, hx, hgen, hc⟩ := hget b y h
  obtain ⟨x', hx', hgen', hc'⟩ := hget b' y' h'
  rw [hgen] at l; rw [hgen'] at l'
  exact hM.apart b b' x x' L L' B hx hx' l l' k k'
 ·obtain ⟨x, hx, hgen, hc⟩ := hget b y h
  obtain ⟨x', hx', hgen', hc'⟩ := hget b' y' h'
  rcases hc with ⟨_, _, _, hrow⟩ | ⟨_, rfl⟩
  ·have := hi.own; rw [hrow, ziY] at this; cases this
  ·exact hM.inA b b' y x' B i c B' hx (hblk rfl k) hi hx' (hblk hgen' k')
 ·obtain ⟨x, hx, hgen, hc⟩ := hget b y h
  obtain ⟨x', hx', hgen', hc'⟩ := hget b' y' h'
  rcases hc with ⟨_, _, _, hrow⟩ | ⟨_, rfl⟩
  ·have := hi.own; rw [hrow, ziY] at this; cases this
  ·rcases hc' with ⟨_, _, _, hrow⟩ | ⟨_, rfl⟩
   ·have := hi'.own; rw [hrow, ziY] at this; cases this
   ·exact hM.inB b b' y y' B C i c i' c' B' hx (hblk rfl k) hi hx' (hblk rfl k') hi'
 ·rcases h with h | h
  ·exact .inl (hM.lab B o h)
  ·exact .inr h
 ·rcases h with h | h
  ·exact hM.away β B o h
  ·exact hM.inBoxes_lt B o h
section
variable {P : Program}
theorem zdm {α β : Type} {f : α → Option (Bool × β × List Nat)} : ∀ {xs : List α} {r : Bool × List β × List Nat}, foldEls f xs = some r →
  r.2.1.length = xs.length ∧ ∀ (i : Nat) (x : α), xs[i]? = some x → ∃ q, f x = some q ∧ r.2.1[i]? = some q.2.1 ∧ (∀ b ∈ q.2.2, b ∈ r.2.2) ∧ (r.1 = false → q.1 = false)
 | [], r, h => by simp [foldEls] at h; subst h; exact ⟨rfl, fun i x hx => by simp at hx⟩
 | v :: xs, r, h => by
  simp only [foldEls] at h
  rw [bind_some] at h; obtain ⟨a, ha, h⟩ := h
  rw [bind_some] at h; obtain ⟨q, hq, h⟩ := h
  obtain rfl := ya h
  obtain ⟨hl, hh⟩ := zdm hq
  refine ⟨by simp [hl], fun i x hx => ?_⟩
  cases i with
  | zero => simp at hx; subst hx; exact ⟨a, ha, rfl, fun b hb => yq1 _ hb, fun h => by simp at h; exact h.1⟩
  | succ i =>
   obtain ⟨q', h1, h2, h3, h4⟩ := hh i x (by simpa using hx)
   exact ⟨q', h1, by simpa using h2, fun b hb => yr1 _ (h3 b hb), fun h => h4 (by simp at h; exact h.2)⟩
theorem zdC {α β γ : Type} {f : γ → α → Option (Bool × β × List Nat)} : ∀ {ls : List γ} {xs : List α} {r : Bool × List β × List Nat}, zipEls f ls xs = some r →
  r.2.1.length = xs.length ∧ ls.length = xs.length ∧ ∀ (i : Nat) (x : α), xs[i]? = some x → ∃ l q, ls[i]? = some l ∧ f l x = some q ∧ r.2.1[i]? = some q.2.1 ∧ (∀ b ∈ q.2.2, b ∈ r.2.2) ∧ (r.1 = false → q.1 = false)
 | [], [], r, h => by simp [zipEls] at h; subst h; exact ⟨rfl, rfl, fun i x hx => by simp at hx⟩
 | l :: ls, v :: xs, r, h => by
  simp only [zipEls] at h
  rw [bind_some] at h; obtain ⟨a, ha, h⟩ := h
  rw [bind_some] at h; obtain ⟨q, hq, h⟩ := h
  obtain rfl := ya h
  obtain ⟨hl, hl2, hh⟩ := zdC hq
  refine ⟨by simp [hl], by simp [hl2], fun i x hx => ?_⟩
  cases i with
  | zero => simp at hx; subst hx; exact ⟨l, a, rfl, ha, rfl, fun b hb => yq1 _ hb, fun h => by simp at h; exact h.1⟩
  | succ i =>
   obtain ⟨l', q', h0, h1, h2, h3, h4⟩ := hh i x (by simpa using hx)
   exact ⟨l', q', by simpa using h0, h1, by simpa using h2, fun b hb => yr1 _ (h3 b hb), fun h => h4 (by simp at h; exact h.2)⟩
 | [], _ :: _, r, h => by simp [zipEls] at h
 | _ :: _, [], r, h => by simp [zipEls] at h
theorem zfb {α : Type} {e : Nat} : ∀ {n : Nat} {cs : List α} {i : Nat}, i < n → (chunks e n cs)[i]? = some ((cs.drop (i * e)).take e)
 | n + 1, cs, 0, h => by simp [chunks]
 | n + 1, cs, i + 1, h => by
  simp only [chunks, ye1]
  rw [zfb (by omega), List.drop_drop]
  congr 3; rw [yk1]; omega
theorem zam {α : Type} {e : Nat} : ∀ {n : Nat} {cs : List α}, (chunks e n cs).length = n
 | 0, cs => rfl
 | n + 1, cs => by simp [chunks, zam]
theorem sub_zero {r : Row} {o : Nat} {v : View} (h : r.sub o 0 = some v) : (∃ k, v = .ints k []) ∨ (∃ β e, v = .pvs β e []) ∨ (∃ e, v = .avs e []) := by
 cases r <;> simp only [Row.sub] at h <;> first | (cases h; done) | skip <;> rw [za] at h <;> obtain ⟨_, h⟩ := h <;> obtain rfl := ya h <;> simp
theorem PR.intsZ {w : World} {pr : Nat → Nat → Prop} (k : IntKind) (a : Option Addr) (ha : ∀ x, a = some x → x.spot = none) : PR w pr (.ints k []) (.slice a 0 0) := by
 cases a with
 | none => exact .intsNil k _
 | some a => obtain ⟨B, o, s⟩ := a; obtain rfl := ha _ rfl; exact .ints k [] B o 0 (by simp) (fun i x hx => by simp at hx)
theorem PR.slZ {w : World} {pr : Nat → Nat → Prop} {e : Nat} (he : 1 ≤ e) (a : Option Addr) (ha : ∀ x, a = some x → x.spot = none) : PR w pr (.sl e []) (.slice a 0 0) := by
 cases a with
 | none => exact .slNil e _
 | some a => obtain ⟨B, o, s⟩ := a; obtain rfl := ha _ rfl; exact .sl e [] B o 0 (fun _ _ => undef) he (by simp) (fun x hx => by simp at hx) (fun i x c y hx => by simp at hx) (fun i x c y hx => by simp at hx) (fun i x c y hx => by simp at hx)
theorem zpn {r : Row} {o n : Nat} {v : View} (h : r.sub o n = some v) : v.e = r.e := by
 cases r <;> simp only [Row.sub] at h <;> first | (cases h; done) | skip <;> rw [za] at h <;> obtain ⟨_, h⟩ := h <;> obtain rfl := ya h <;> rfl
theorem zeq {k : IntKind} {b : Nat} {v : View} {r : Bool × PV × List Nat} (h : tree.treeInts k b v = some r) (hz : (∃ k, v = .ints k []) ∨ (∃ β e, v = .pvs β e []) ∨ (∃ e, v = .avs e [])) :
  ∃ k', True ∧ r = (false, .ints k' [], [b]) := by
 rcases hz with ⟨k', rfl⟩ | ⟨β, e, rfl⟩ | ⟨e, rfl⟩
 ·simp only [tree.treeInts] at h
  rw [za] at h; obtain ⟨_, h⟩ := h
  exact ⟨k', trivial, (ya h).symm⟩
 ·simp [tree.treeInts] at h
 ·simp only [tree.treeInts] at h
  rw [za] at h; obtain ⟨_, h⟩ := h
  simp [intsOf] at h
  exact ⟨k, trivial, h.symm⟩
theorem zgT {f : LK → AV → Option (Bool × PV × List Nat)} {t : TypeId} {e b : Nat} {v : View} {r : Bool × PV × List Nat} (h : tree.treeSl P f t e b v = some r) (hz : (∃ k, v = .ints k []) ∨ (∃ β e, v = .pvs β e []) ∨ (∃ e, v = .avs e [])) :
  ∃ β, v.e = e ∧ r = (β, .sl e [], [b]) := by
 rcases hz with ⟨k', rfl⟩ | ⟨β, e', rfl⟩ | ⟨e', rfl⟩
 ·simp [tree.treeSl] at h
 ·simp only [tree.treeSl] at h
  rw [za] at h; obtain ⟨he, h⟩ := h
  obtain rfl := beqN.1 he
  exact ⟨β, rfl, (ya h).symm⟩
 ·simp only [tree.treeSl] at h
  rw [za] at h; obtain ⟨he, h⟩ := h
  simp only [yb] at he
  obtain rfl := beqN.1 he.1
  rw [bind_some] at h; obtain ⟨ls, _, h⟩ := h
  have : countBy e ([] : List AV).length = 0 := by
   have := zar (n := 0) (bleN.1 he.2) 0; simpa using this
  rw [this] at h
  simp [chunks, foldEls] at h
  exact ⟨false, rfl, h.symm⟩
theorem zfe {G : Gh} {w : World} {mem : Mem} (hM : MemR G w mem) : ∀ {n : Nat} {l : LK} {v : AV} {r : Bool × PV × List Nat} {cv : Value}, tree P mem n l v = some r → VR G w v cv →
  PR w ((G.frz (InBoxes G w mem r.2.2)).prot r.1) r.2.1 cv ∧ cv.oneCell' = true ∧ r.2.1.cells = [r.2.1]
 | 0, l, v, r, cv, h, hv => by simp [tree] at h
 | n + 1, l, v, r, cv, h, hv => by
  have frzPR : ∀ {ids : List Nat} {β : Bool} {p : PV} {u : Value}, PR w (G.prot β) p u → PR w ((G.frz (InBoxes G w mem ids)).prot β) p u := fun hp => hp.mono (fun _ _ h => .inl h) (fun _ _ _ => rfl)
  have hints : ∀ {k : IntKind} {b : Nat} {x : Box} {wv : View} {q : Bool × PV × List Nat} {vs : List Value} {B o cap : Nat}, mem[b]? = some (some x) → x.row.isOwn = false → G.loc b x.gen = some ⟨some B, x.row.e, x.row.len⟩ → tree.treeInts k b wv = some q →
    ViewR G w wv vs → (∀ j u, vs[j]? = some u → cl w B (o + j) = some u) → wv.len ≤ cap →
    PR w ((G.frz (InBoxes G w mem q.2.2)).prot q.1) q.2.1 (.slice (some ⟨B, o, none⟩) wv.len cap) ∧ q.2.1.cells = [q.2.1] := by
   intro k b x wv q vs B o cap hx how hl hq hview hcl hcap
   have hin : ∀ o', InBoxes G w mem [b] B o' := fun o' => .one (ya2.2 rfl) hx how hl rfl
   unfold tree.treeInts at hq
   split at hq
   ·rename_i k' xs
    rw [za] at hq; obtain ⟨hk, hq⟩ := hq
    obtain rfl := ya hq
    obtain ⟨hlen, _, hh⟩ := hview
    exact ⟨.ints k' xs B o cap hcap (fun i y hy => ⟨hcl _ _ (hh i y hy), .inr (hin _)⟩), rfl⟩
   ·rename_i e cs
    rw [za] at hq; obtain ⟨he, hq⟩ := hq
    obtain rfl := beqN.1 he
    obtain ⟨xs, hxs, rfl⟩ := yd.1 hq
    obtain ⟨hlen, _, hcnt, hh⟩ := hview
    have key : ∀ {cs : List AV} {xs : List Int}, intsOf k cs = some xs → xs.length = cs.length ∧ ∀ (i : Nat) (y : Int), xs[i]? = some y → cs[i]? = some (.lit (.int k y)) := by
     intro cs
     induction cs with
     | nil => intro xs h; simp [intsOf] at h; subst h; exact ⟨rfl, fun i y hy => by simp at hy⟩
     | cons c cs ih =>
      intro xs h
      have hc : ∃ k' z, c = .lit (.int k' z) := by
       cases c with
       | lit v => cases v with
        | int k' z => exact ⟨k', z, rfl⟩
        | _ => simp [intsOf] at h
       | _ => simp [intsOf] at h
      obtain ⟨k', z, rfl⟩ := hc
      simp only [intsOf] at h
      cases hk : kEq k k' with
      | false => rw [hk] at h; simp at h
      | true =>
       rw [hk] at h
       rw [zaR] at hk; subst hk
       simp only [yg] at h
       obtain ⟨xs', h1, rfl⟩ := yd.1 h
       obtain ⟨i1, i2⟩ := ih h1
       refine ⟨by simp [i1], fun i y hy => ?_⟩
       cases i with
       | zero => simp at hy; subst hy; rfl
       | succ i => simpa using i2 i y (by simpa using hy)
    obtain ⟨k1, k2⟩ := key hxs
    have hle : View.len (.avs 1 cs) = xs.length := by rw [k1]; rfl
    rw [hle]
    refine ⟨.ints k xs B o cap (by rw [← hle]; exact hcap) (fun i y hy => ?_), rfl⟩
    obtain ⟨u, hu, hp⟩ := hh i _ (k2 i y hy)
    obtain rfl := hp.lit_inv
    exact ⟨hcl _ _ hu, .inr (hin _)⟩
   ·simp at hq
  have hsl : ∀ {t : TypeId} {e b : Nat} {x : Box} {wv : View} {q : Bool × PV × List Nat} {vs : List Value} {B o cap : Nat}, mem[b]? = some (some x) → x.row.isOwn = false → G.loc b x.gen = some ⟨some B, x.row.e, x.row.len⟩ → tree.treeSl P (tree P mem n) t e b wv = some q →
    1 ≤ wv.e → ViewR G w wv vs → (∀ j u, vs[j]? = some u → cl w B (o + j) = some u) → wv.len ≤ cap →
    PR w ((G.frz (InBoxes G w mem q.2.2)).prot q.1) q.2.1 (.slice (some ⟨B, o, none⟩) wv.len cap) ∧ q.2.1.cells = [q.2.1] := by
   intro t e b x wv q vs B o cap hx how hl hq he1 hview hcl hcap
   have hin : ∀ ids o', b ∈ ids → InBoxes G w mem ids B o' := fun ids o' hb => .one hb hx how hl rfl
   unfold tree.treeSl at hq
   split at hq
   ·rename_i β e' xs
    rw [za] at hq; obtain ⟨he, hq⟩ := hq
    obtain rfl := beqN.1 he
    obtain rfl := ya hq
    obtain ⟨hlen, h1, hh1, hh2⟩ := hview
    refine ⟨.sl e xs B o cap (fun i c => vs.getD (i * e + c) undef) he1 hcap hh1 (fun i x c y hx hy => ?_) (fun i x c y hx hy => ?_) (fun i x c y hx hy => ?_), rfl⟩
    ·obtain ⟨u, hu, hp⟩ := hh2 i x c y hx hy
     rw [yl, hu]
     exact ⟨by rw [yc3]; exact hcl _ _ hu, .inr (hin _ _ (ya2.2 rfl))⟩
    ·obtain ⟨u, hu, hp⟩ := hh2 i x c y hx hy
     rw [yl, hu]
     exact h1 u (yj hu)
    ·obtain ⟨u, hu, hp⟩ := hh2 i x c y hx hy
     rw [yl, hu]
     exact frzPR hp
   ·rename_i e' cs
    rw [za] at hq; obtain ⟨he, hq⟩ := hq
    simp only [yb] at he
    obtain rfl := beqN.1 he.1
    rw [bind_some] at hq; obtain ⟨ls, hls, hq⟩ := hq
    obtain ⟨r0, hr0, rfl⟩ := yd.1 hq
    obtain ⟨hlen, h1, hcnt, hh⟩ := hview
    obtain ⟨fl, ff⟩ := zdm hr0
    rw [zam] at fl
    have hcs : cs.length = countBy e cs.length * e := by rw [yj2]; exact hcnt
    -- element i
    have hel : ∀ i p, r0.2.1[i]? = some p → i < countBy e cs.length ∧ p.cells.length = e ∧ ∀ c y, p.cells[c]? = some y → ∃ u, vs[i * e + c]? = some u ∧ PR w ((G.frz (InBoxes G w mem (b :: r0.2.2))).prot r0.1) y u := by
     intro i p hp
     have hi : i < countBy e cs.length := by rw [← fl]; exact (ye.1 hp).1
     obtain ⟨q1, hq1, hp1, hb1, hlab1⟩ := ff i _ (zfb hi)
     rw [hp] at hp1
     obtain rfl := ya hp1
     rw [bind_some] at hq1; obtain ⟨q2, hq2, hq1⟩ := hq1
     obtain ⟨p', hp', rfl⟩ := yd.1 hq1
     obtain ⟨zl, zl2, zz⟩ := zdC hq2
     have hchl : ((cs.drop (i * e)).take e).length = e := by
      have h2 : i * e + e ≤ cs.length := by
       rw [hcs]
       calc i * e + e = (i + 1) * e := by rw [yk1]; simp
        _ ≤ _ := yy1 _ hi
      simp; omega
     have hcellsEq : p'.cells = q2.2.1 := by
      unfold oneEl at hp'
      split at hp'
      ·obtain rfl := ya hp'; rfl
      ·split at hp'
       ·rename_i c heq
        obtain rfl := ya hp'
        -- a single cell: what tree answers is no struct
        have hlen1 : ((cs.drop (i * e)).take e).length = 1 := by rw [← zl, heq]; rfl
        obtain ⟨lk, q3, _, h3, h4, _⟩ := zz 0 (((cs.drop (i * e)).take e)[0]'(by omega)) (yf _)
        have hcell0 : cs[i * e]? = some (((cs.drop (i * e)).take e)[0]'(by omega)) := by
         have := yf (l := (cs.drop (i * e)).take e) (i := 0) (by omega)
         rw [yg1 (by omega), yb1] at this; simp
        obtain ⟨u, hu, hvr⟩ := hh _ _ hcell0
        have hone := (zfe hM h3 hvr).2.2
        rw [heq] at h4
        simp only [yp2, Option.some.injEq] at h4
        rw [heq, h4]; exact hone
       ·simp at hp'
      ·simp at hp'
     refine ⟨hi, by rw [hcellsEq, zl, hchl], fun c y hy => ?_⟩
     rw [hcellsEq] at hy
     have hc : c < e := by have := (ye.1 hy).1; rw [zl, hchl] at this; exact this
     obtain ⟨lk, q3, _, h3, h4, h5, h6⟩ := zz c (((cs.drop (i * e)).take e)[c]'(by omega)) (yf _)
     have hcell : cs[i * e + c]? = some (((cs.drop (i * e)).take e)[c]'(by omega)) := by
      have := yf (l := (cs.drop (i * e)).take e) (i := c) (by omega)
      rw [yg1 (by omega), yb1] at this; simp
     obtain ⟨u, hu, hvr⟩ := hh _ _ hcell
     have hpr := (zfe hM h3 hvr).1
     rw [hy] at h4
     obtain rfl := ya h4
     refine ⟨u, hu, hpr.mono (fun B' o' hh => ?_) (fun _ _ _ => rfl)⟩
     rcases hh with hh | hh
     ·left
      cases hb : r0.1 with
      | false => rw [h6 (hlab1 hb)] at hh; exact hh
      | true =>
       cases hq3 : q3.1 with
       | false => rw [hq3] at hh; exact hM.lab _ _ hh
       | true => rw [hq3] at hh; exact hh
     ·exact .inr (hh.mono fun b' hb' => yi _ (hb1 b' (h5 b' hb')))
    have hwl : View.len (.avs e cs) = r0.2.1.length := by rw [fl]; rfl
    rw [hwl]
    refine ⟨.sl e r0.2.1 B o cap (fun i c => vs.getD (i * e + c) undef) he1 (by rw [← hwl]; exact hcap) (fun x hx => ?_) (fun i x c y hx hy => ?_) (fun i x c y hx hy => ?_) (fun i x c y hx hy => ?_), rfl⟩
    ·obtain ⟨i, hi, rfl⟩ := ys1 hx
     exact (hel i _ (yf hi)).2.1
    ·obtain ⟨u, hu, hp⟩ := (hel i x hx).2.2 c y hy
     rw [yl, hu]
     exact ⟨by rw [yc3]; exact hcl _ _ hu, .inr (hin _ _ (yn ..))⟩
    ·obtain ⟨u, hu, hp⟩ := (hel i x hx).2.2 c y hy
     rw [yl, hu]
     exact h1 u (yj hu)
    ·obtain ⟨u, hu, hp⟩ := (hel i x hx).2.2 c y hy
     rw [yl, hu]
     exact hp
   ·simp at hq
  unfold tree at h
  split at h
  ·rename_i k k' x
   rw [za] at h; obtain ⟨hk, h⟩ := h
   obtain rfl := ya h
   obtain rfl := hv.lit_inv
   exact ⟨.lit _ rfl, rfl, rfl⟩
  ·obtain rfl := ya h
   obtain rfl := hv.lit_inv
   exact ⟨.lit _ rfl, rfl, rfl⟩
  ·obtain rfl := ya h
   obtain rfl := hv.lit_inv
   exact ⟨.lit _ rfl, rfl, rfl⟩
  ·rename_i k β k' xs
   rw [za] at h; obtain ⟨hk, h⟩ := h
   obtain rfl := ya h
   cases hv with
   | imm _ _ _ hp hs => exact ⟨frzPR hp, by cases hp <;> rfl, rfl⟩
  ·rename_i k
   obtain rfl := ya h
   obtain rfl := hv.lit_inv
   exact ⟨.intsNil k _, rfl, rfl⟩
  ·rename_i k b g
   rw [bind_some] at h; obtain ⟨x, hx, h⟩ := h
   have hx' := (box?_some hx)
   have he := (hM.box b x hx'.1).e
   rcases hM.at_msw hx hv with ⟨B, cap, rfl, hn, hl, hf, _, _, _, hrow, _⟩ | ⟨rfl, hz, hnc, hl⟩
   ·obtain ⟨vs, hvs, hcl⟩ := hrow.toList he (box?_own hx)
    have := hints (o := 0) (cap := cap) hx'.1 (box?_own hx) (by rw [hx'.2]; exact hl) h hvs (fun j u hu => by rw [yy]; rw [hcl _ (ye.1 hu).1]; exact hu) (by rw [zL]; exact hn)
    rw [zL] at this
    exact ⟨this.1, rfl, this.2⟩
   ·unfold tree.treeInts at h
    obtain ⟨gen, frz, row⟩ := x
    cases row with
    | ints k' xs =>
     simp only [Row.len] at hz
     have := yo hz; subst this
     simp only [Row.all] at h
     rw [za] at h; obtain ⟨hk, h⟩ := h
     obtain rfl := ya h
     exact ⟨.intsNil _ _, rfl, rfl⟩
    | pvs β e xs => simp [Row.all] at h
    | cells e cs => simp [Row.isCells] at hnc
    | own e xs hs => exact absurd (box?_own hx) (by simp [Row.isOwn])
  ·rename_i k b g o m
   rw [bind_some] at h; obtain ⟨x, hx, h⟩ := h
   rw [bind_some] at h; obtain ⟨wv, hwv, h⟩ := h
   have hx' := (box?_some hx)
   have he := (hM.box b x hx'.1).e
   rcases hM.at_ms hx hv with ⟨B, cap, rfl, hn, hon, hl, hf, _, _, _, hrow, _⟩ | ⟨rfl, rfl, rfl, hz, hl⟩ | ⟨B, oo, rfl, ho, rfl, hon, hl⟩
   ·obtain ⟨vs, hvs, hcl⟩ := hrow.toList he (box?_own hx)
    obtain ⟨hv', hve, hvl, _⟩ := zec he hwv hvs
    have := hints (o := o * x.row.e) (cap := cap) hx'.1 (box?_own hx) (by rw [hx'.2]; exact hl) h hv' (fun j u hu => by
     have hj : j < m * x.row.e := by have := (ye.1 hu).1; rw [hv'.1, hve, hvl] at this; exact this
     rw [yg1 hj, yb1] at hu
     rw [hcl _ (ye.1 hu).1]; exact hu) (by rw [hvl]; exact hn)
    rw [hvl] at this
    exact ⟨this.1, rfl, this.2⟩
   ·obtain ⟨k', hk', hr⟩ := zeq h (sub_zero hwv); rw [hr]; exact ⟨PR.intsZ k' none (by simp), rfl, rfl⟩
   ·obtain ⟨k', hk', hr⟩ := zeq h (sub_zero hwv); rw [hr]; exact ⟨PR.intsZ k' (some ⟨B, oo, none⟩) (by simp), rfl, rfl⟩
  ·rename_i t e β e' xs
   rw [za] at h; obtain ⟨hk, h⟩ := h
   obtain rfl := ya h
   cases hv with
   | imm _ _ _ hp hs => exact ⟨frzPR hp, by cases hp <;> rfl, rfl⟩
  ·rename_i t e
   obtain rfl := ya h
   obtain rfl := hv.lit_inv
   exact ⟨.slNil e _, rfl, rfl⟩
  ·rename_i t e b g
   rw [bind_some] at h; obtain ⟨x, hx, h⟩ := h
   have hx' := (box?_some hx)
   have he := (hM.box b x hx'.1).e
   rcases hM.at_msw hx hv with ⟨B, cap, rfl, hn, hl, hf, _, _, _, hrow, _⟩ | ⟨rfl, hz, hnc, hl⟩
   ·obtain ⟨vs, hvs, hcl⟩ := hrow.toList he (box?_own hx)
    have := hsl (o := 0) (cap := cap) hx'.1 (box?_own hx) (by rw [hx'.2]; exact hl) h (by rw [zcF]; exact he) hvs (fun j u hu => by rw [yy]; rw [hcl _ (ye.1 hu).1]; exact hu) (by rw [zL]; exact hn)
    rw [zL] at this
    exact ⟨this.1, rfl, this.2⟩
   ·unfold tree.treeSl at h
    obtain ⟨gen, frz, row⟩ := x
    cases row with
    | ints k' xs => simp [Row.all] at h
    | pvs β e' xs =>
     simp only [Row.len] at hz
     have := yo hz; subst this
     simp only [Row.all] at h
     rw [za] at h; obtain ⟨hk, h⟩ := h
     obtain rfl := ya h
     exact ⟨.slNil _ _, rfl, rfl⟩
    | cells e cs => simp [Row.isCells] at hnc
    | own e xs hs => exact absurd (box?_own hx) (by simp [Row.isOwn])
  ·rename_i t e b g o m
   rw [bind_some] at h; obtain ⟨x, hx, h⟩ := h
   rw [bind_some] at h; obtain ⟨wv, hwv, h⟩ := h
   have hx' := (box?_some hx)
   have he := (hM.box b x hx'.1).e
   rcases hM.at_ms hx hv with ⟨B, cap, rfl, hn, hon, hl, hf, _, _, _, hrow, _⟩ | ⟨rfl, rfl, rfl, hz, hl⟩ | ⟨B, oo, rfl, ho, rfl, hon, hl⟩
   ·obtain ⟨vs, hvs, hcl⟩ := hrow.toList he (box?_own hx)
    obtain ⟨hv', hve, hvl, _⟩ := zec he hwv hvs
    have := hsl (o := o * x.row.e) (cap := cap) hx'.1 (box?_own hx) (by rw [hx'.2]; exact hl) h (by rw [hve]; exact he) hv' (fun j u hu => by
     have hj : j < m * x.row.e := by have := (ye.1 hu).1; rw [hv'.1, hve, hvl] at this; exact this
     rw [yg1 hj, yb1] at hu
     rw [hcl _ (ye.1 hu).1]; exact hu) (by rw [hvl]; exact hn)
    rw [hvl] at this
    exact ⟨this.1, rfl, this.2⟩
   ·have he' := zpn hwv
    obtain ⟨e', hk', hr⟩ := zgT h (sub_zero hwv); rw [hr]; exact ⟨PR.slZ (by omega) none (by simp), rfl, rfl⟩
   ·have he' := zpn hwv
    obtain ⟨e', hk', hr⟩ := zgT h (sub_zero hwv); rw [hr]; exact ⟨PR.slZ (by omega) (some ⟨B, oo, none⟩) (by simp), rfl, rfl⟩
  ·simp at h
end
end Go.Ab
end
section
namespace Go.Ab
variable [GTab]
section
variable {P : Program}
theorem zH {mem : Mem} {v : AV} {rd : List Nat} {b : Nat} {x : Box} : ({ v, rd, wr := [(b, x)] } : Out).apply mem = mem.set b (some x) := by simp [Out.apply, setMem]
theorem zch (mem : Mem) : ∀ (a b : List (Nat × Box)), setMem mem (a ++ b) = setMem (setMem mem a) b
 | [], b => rfl
 | (i, x) :: a, b => by simp only [yv2, setMem]; exact zch (mem.set i (some x)) a b
theorem zor {mem : Mem} {v : AV} {rd ids : List Nat} {b : Nat} {x : Box} : ({ v, rd, wr := frozenAt mem ids ++ [(b, x)] } : Out).apply mem = (setMem mem (frozenAt mem ids)).set b (some x) := by
 simp [Out.apply, zch, setMem]
theorem ziz {mem : Mem} {v : AV} {q : Nat × Nat × List PV} (h : treeO mem v = some q) : ∃ g x xs, ((v = .msw q.1 g ∧ q.2.2 = xs) ∨ ∃ n, v = .ms q.1 g 0 n ∧ n ≤ xs.length ∧ q.2.2 = xs.take n) ∧ mem[q.1]? = some (some x) ∧ x.gen = g ∧ x.row = .own q.2.1 xs [] ∧ x.frz = false := by
 unfold treeO at h
 split at h
 ·rename_i b g
  rw [bind_some] at h; obtain ⟨x, hx, h⟩ := h
  obtain ⟨h1, h2, _⟩ := boxO?_some hx
  split at h
  ·rename_i e xs hr
   rw [za] at h; obtain ⟨hf, h⟩ := h
   obtain rfl := ya h
   exact ⟨g, x, xs, .inl ⟨rfl, rfl⟩, h1, h2, hr, by simpa using hf⟩
  ·cases h
 ·rename_i b g n
  rw [bind_some] at h; obtain ⟨x, hx, h⟩ := h
  obtain ⟨h1, h2, _⟩ := boxO?_some hx
  split at h
  ·rename_i e xs hr
   rw [za] at h; obtain ⟨hf, h⟩ := h
   simp only [yb, yt] at hf
   obtain rfl := ya h
   exact ⟨g, x, xs, .inr ⟨n, rfl, bleN.1 hf.2, rfl⟩, h1, h2, hr, hf.1⟩
  ·cases h
 ·cases h
theorem zpl {G : Gh} {w : World} {mem : Mem} (hM : MemR G w mem) {b g e : Nat} {x : Box} {xs : List PV} {cv : Value} (S : Nat → Nat → Prop) (hm : mem[b]? = some (some x)) (hg : x.gen = g) (hrow : x.row = .own e xs []) (hv : VR G w (.msw b g) cv)
  (hS : ∀ B B' o, Blk G b x B → (B' = B ∨ ∃ i c, InnB w B x.row i c B') → S B' o) : PR w ((G.frz S).prot false) (.sl e xs) cv ∧ cv.oneCell' = true := by
 subst hg
 have he := (hM.box b x hm).e
 cases hv with
 | msw _ _ cap L B hl hb hn hf =>
  have hB : Blk G b x B := ⟨L, hl, hb⟩
  obtain ⟨hl', h1, h2, h3, h4, h5⟩ := hM.blk hm hB
  rw [hl] at hl'
  obtain rfl := ya hl'
  have hsh := h4.shut S (by rw [hrow]; rfl) (by rw [hrow]; rfl) (fun i c B' hi o => hS B B' o hB (.inr ⟨i, c, hi⟩))
  rw [hrow] at hsh hn he ⊢
  obtain ⟨hlen, hcell⟩ := hsh
  refine ⟨.sl e xs B 0 cap (fun i c => (cl w B (i * e + c)).getD undef) he hn hlen (fun i x' c y h1 h2 => ?_) (fun i x' c y h1 h2 => ?_) (fun i x' c y h1 h2 => ?_), rfl⟩
  ·obtain ⟨u, hu, _, _⟩ := hcell i x' c y h1 h2
   rw [yy]; exact ⟨by rw [hu]; rfl, .inr (hS B B _ hB (.inl rfl))⟩
  ·obtain ⟨u, hu, h1, _⟩ := hcell i x' c y h1 h2
   rw [hu]; exact h1
  ·obtain ⟨u, hu, _, h1⟩ := hcell i x' c y h1 h2
   rw [hu]; exact h1
 | mswNil _ _ L hl hb hn =>
  obtain ⟨o, hl', hmm⟩ := (hM.box b x hm).loc
  rw [hl] at hl'
  obtain rfl := ya hl'
  rw [hrow] at hn
  obtain rfl := yo hn
  exact ⟨.slNil e _, rfl⟩
theorem zoo {G : Gh} {w : World} {mem : Mem} (hM : MemR G w mem) {b g e n : Nat} {x : Box} {xs : List PV} {cv : Value} (S : Nat → Nat → Prop) (hm : mem[b]? = some (some x)) (hg : x.gen = g) (hrow : x.row = .own e xs []) (hn : n ≤ xs.length) (hv : VR G w (.ms b g 0 n) cv)
  (hS : ∀ B B' o, Blk G b x B → (B' = B ∨ ∃ i c, InnB w B x.row i c B') → S B' o) : PR w ((G.frz S).prot false) (.sl e (xs.take n)) cv ∧ cv.oneCell' = true := by
 subst hg
 have he := (hM.box b x hm).e
 cases hv with
 | ms _ _ _ _ cap L B hl hb hn' hon hf =>
  have hB : Blk G b x B := ⟨L, hl, hb⟩
  obtain ⟨hl', h1, h2, h3, h4, h5⟩ := hM.blk hm hB
  rw [hl] at hl'
  obtain rfl := ya hl'
  have hsh := h4.shut S (by rw [hrow]; rfl) (by rw [hrow]; rfl) (fun i c B' hi o => hS B B' o hB (.inr ⟨i, c, hi⟩))
  rw [hrow] at hsh he ⊢
  obtain ⟨hlen, hcell⟩ := hsh
  have hget : ∀ {i : Nat} {x' : PV}, (xs.take n)[i]? = some x' → xs[i]? = some x' := by
   intro i x' h
   rw [yj1] at h
   split at h
   ·exact h
   ·cases h
  have hl2 : (xs.take n).length = n := by rw [yn2]; omega
  have hz : 0 * x.row.e = 0 := yd3 _
  have key : PR w ((G.frz S).prot false) (.sl e (xs.take n)) (.slice (some ⟨B, 0, none⟩) (xs.take n).length cap) := by
   refine .sl e (xs.take n) B 0 cap (fun i c => (cl w B (i * e + c)).getD undef) he (by rw [hl2]; exact hn') (fun y hy => hlen y (yy2 hy)) (fun i x' c y h1 h2 => ?_) (fun i x' c y h1 h2 => ?_) (fun i x' c y h1 h2 => ?_)
   ·obtain ⟨u, hu, _, _⟩ := hcell i x' c y (hget h1) h2
    rw [yy]; exact ⟨by rw [hu]; rfl, .inr (hS B B _ hB (.inl rfl))⟩
   ·obtain ⟨u, hu, h1, _⟩ := hcell i x' c y (hget h1) h2
    rw [hu]; exact h1
   ·obtain ⟨u, hu, _, h1⟩ := hcell i x' c y (hget h1) h2
    rw [hu]; exact h1
  rw [hl2] at key
  rw [yd3]
  exact ⟨key, rfl⟩
 | msNil _ _ L hl hb => exact ⟨.slNil e _, rfl⟩
 | msZ _ _ _ B oo L hl hb ho hon => omega
theorem zgE {G : Gh} {w : World} {mem : Mem} (hM : MemR G w mem) {l : LK} {v : AV} {r : Bool × PV × List Nat} {cv : Value} (h : treeX P mem l v = some r) (hv : VR G w v cv) :
  PR w ((G.frz (InBoxes G w mem r.2.2)).prot r.1) r.2.1 cv ∧ cv.oneCell' = true ∧ r.2.1.cells = [r.2.1] := by
 unfold treeX at h
 split at h
 ·rename_i q hq
  split at h
  ·rw [za] at h; obtain ⟨he, h⟩ := h
   obtain rfl := beqN.1 he
   obtain rfl := ya h
   obtain ⟨g, x, xs, hvv, hm, hg, hrow, hf⟩ := ziz hq
   rcases hvv with ⟨rfl, hxs⟩ | ⟨n, rfl, hn, hxs⟩
   ·obtain ⟨h1, h2⟩ := zpl hM (InBoxes G w mem [q.1]) hm hg hrow hv (fun B B' o hB h => ⟨q.1, ya2.2 rfl, x, B, hm, by rw [hrow]; rfl, hB, h⟩)
    simp only [hxs]
    exact ⟨h1, h2, rfl⟩
   ·obtain ⟨h1, h2⟩ := zoo hM (InBoxes G w mem [q.1]) hm hg hrow hn hv (fun B B' o hB h => ⟨q.1, ya2.2 rfl, x, B, hm, by rw [hrow]; rfl, hB, h⟩)
    simp only [hxs]
    exact ⟨h1, h2, rfl⟩
  ·cases h
 ·exact zfe hM h hv
theorem zcZ {G : Gh} {w : World} {mem : Mem} (hM : MemR G w mem) {t : TypeId} {v : AV} {r : Bool × PV × List Nat} {cv : Value} (h : toPV P mem t v = some r) (hv : VR G w v cv) :
  r.2.1.cells.length = v.cells.length ∧ ∀ (j : Nat) (y : PV), r.2.1.cells[j]? = some y → ∃ u, cv.cells.toList[j]? = some u ∧ PR w ((G.frz (InBoxes G w mem r.2.2)).prot r.1) y u ∧ u.oneCell' = true := by
 unfold toPV at h
 rw [bind_some] at h; obtain ⟨ls, hls, h⟩ := h
 rw [bind_some] at h; obtain ⟨q, hq, h⟩ := h
 obtain ⟨p, hp, rfl⟩ := yd.1 h
 obtain ⟨zl, zl2, zz⟩ := zdC hq
 have hc := hv.cells
 have key : ∀ (j : Nat) (y : PV), q.2.1[j]? = some y → ∃ u, cv.cells.toList[j]? = some u ∧ PR w ((G.frz (InBoxes G w mem q.2.2)).prot q.1) y u ∧ u.oneCell' = true ∧ y.cells = [y] := by
  intro j y hy
  have hj : j < v.cells.length := by rw [← zl]; exact (ye.1 hy).1
  obtain ⟨lk, q3, _, h3, h4, h5, h6⟩ := zz j (v.cells[j]) (yf hj)
  rw [hy] at h4
  obtain rfl := ya h4
  have hj' : j < cv.cells.toList.length := by rw [← hc.1]; exact hj
  have hvr := hc.2 j _ (yf hj)
  rw [yl, yf hj'] at hvr
  obtain ⟨t1, t2, t3⟩ := zgE hM h3 hvr
  refine ⟨_, yf hj', t1.mono (fun B' o' hh => ?_) (fun _ _ _ => rfl), t2, t3⟩
  rcases hh with hh | hh
  ·left
   cases hb : q.1 with
   | false => rw [h6 hb] at hh; exact hh
   | true =>
    cases hq3 : q3.1 with
    | false => rw [hq3] at hh; exact hM.lab _ _ hh
    | true => rw [hq3] at hh; exact hh
  ·exact .inr (hh.mono h5)
 have hcells : p.cells = q.2.1 := by
  unfold oneEl at hp
  split at hp
  ·obtain rfl := ya hp; rfl
  ·split at hp
   ·rename_i c heq
    obtain rfl := ya hp
    obtain ⟨u, _, _, _, h⟩ := key 0 c (by rw [heq]; rfl)
    rw [heq]; exact h
   ·simp at hp
  ·simp at hp
 simp only
 rw [hcells]
 exact ⟨zl, fun j y hy => by obtain ⟨u, h1, h2, h3, _⟩ := key j y hy; exact ⟨u, h1, h2, h3⟩⟩
theorem ViewR.ofLRs {G : Gh} {w : World} {e : Nat} {cs : List AV} {vs : List Value} (h : LRs G w cs vs) (h1 : onesA cs = true) (hc : cs.length = countBy e cs.length * e) : ViewR G w (.avs e cs) vs := by
 refine ⟨by rw [← h.1]; exact hc, h.ones h1, by rw [yj2]; exact hc, fun j y hy => ?_⟩
 have hj : j < vs.length := by rw [← h.1]; exact (ye.1 hy).1
 have := h.2 j y hy
 rw [yl, yf hj] at this
 exact ⟨_, yf hj, this⟩
theorem ziV {G : Gh} {w : World} {mem : Mem} {b : Nat} {row : Row} {vs : List Value} {rest : Array Value} {t : TypeId} (hM : MemR G w mem) (hb : mem[b]? = some none) (he : 1 ≤ row.e) (hown : row.isOwn = false)
  (hv : ViewR G w row.all vs) : ∃ G', G' = G.put b 0 ⟨some w.heap.size, row.e, row.len⟩ ∧ Gle G G' ∧ Ev G w (w.alloc (.cells (vs.toArray ++ rest) t)) ∧
   MemR G' (w.alloc (.cells (vs.toArray ++ rest) t)) (mem.set b (some { gen := 0, frz := false, row })) ∧ G'.loc b 0 = some ⟨some w.heap.size, row.e, row.len⟩ := by
 have hno : G.loc b 0 = none := hM.unset b 0 (fun x hx => by rw [hb] at hx; cases hx)
 have hg : Gle G (G.put b 0 ⟨some w.heap.size, row.e, row.len⟩) := Gle.put (.inl hno)
 have hev := Ev.alloc G w (.cells (vs.toArray ++ rest) t) hM.away
 refine ⟨_, rfl, hg, hev, hM.make hb he (RowR.ofList hown (hv.mono hg hev) (fun j u hu => ?_)) (fun i c B' hi => by rw [hi.own] at hown; cases hown), Gh.put_self ..⟩
 rw [zaS]
 have hj := (ye.1 hu).1
 rw [yt2 (by simpa using hj)]
 simpa using hu
theorem zit (t : TypeId) (c : Array Value) (w : World) : (newRow t c).run P w = .ok ⟨w.heap.size, 0, none⟩ (w.alloc (.cells c t)) := by
 simp [newRow]
theorem znU {G : Gh} {w : World} {mem : Mem} {b n : Nat} {v : AV} {cv : Value} {t : TypeId} (hM : MemR G w mem) (hb : mem[b]? = some none) (hv : VR G w v cv) (hn : v.cells.length = n) (h1 : 1 ≤ n) (ho : onesA v.cells = true) :
  ∃ G', Gle G G' ∧ Ev G w (w.alloc (.cells cv.cells t)) ∧ MemR G' (w.alloc (.cells cv.cells t)) (mem.set b (some { gen := 0, frz := false, row := .cells 1 v.cells })) ∧
   VR G' (w.alloc (.cells cv.cells t)) (.ptr b 0 0 0) (.pointer (some ⟨w.heap.size, 0, none⟩)) := by
 have hc : v.cells.length = countBy 1 v.cells.length * 1 := by simp [countBy, Nat.beq]
 obtain ⟨G', rfl, hg, hev, hM', hl⟩ := ziV (row := .cells 1 v.cells) (vs := cv.cells.toList) (rest := #[]) (t := t) hM hb (yx 1) rfl (ViewR.ofLRs hv.cells ho hc)
 simp only [yg2, Array.append_empty] at hev hM'
 refine ⟨_, hg, hev, hM', ?_⟩
 have := VR.ptr (G := G.put b 0 ⟨some w.heap.size, (Row.cells 1 v.cells).e, (Row.cells 1 v.cells).len⟩) (w := w.alloc (.cells cv.cells t)) b 0 0 0 _ w.heap.size hl rfl
 simpa using this
theorem znp {G : Gh} {w : World} {mem : Mem} {o : Oper} {a : Act} {t : TypeId} {rs : Nat} {z : AV} (hM : MemR G w mem) (ho : o.op = .alloc t) (hrs : mem[rs]? = some none) (hz : zero? P t = some z)
  (h1 : 1 ≤ z.cells.length) (hones : onesA z.cells = true) :
  OpDone P G w mem o a { v := .ptr rs 0 0 0, wr := [(rs, { gen := 0, frz := false, row := .cells 1 z.cells })] } := by
 obtain ⟨zv, hzr, hzv, _⟩ := zlg hz G w
 obtain ⟨G', hg, hev, hM', hv⟩ := znU (t := t) hM hrs hzv rfl h1 hones
 refine ⟨G', _, _, _, ?_, .inl rfl, hv, hg, hev, by rw [zH]; exact hM'⟩
 simp [execOp, ho, Instr.alloc, hzr, newVar, zit]
theorem zpE {G : Gh} {w : World} {mem : Mem} {o : Oper} {a : Act} {t : TypeId} {x : Operand} {rs n : Nat} {v : AV} (hM : MemR G w mem) (ho : o.op = .box t x) (hrs : mem[rs]? = some none) (hv : VR G w v (a.eval x))
  (hn : v.cells.length = n) (h1 : 1 ≤ n) (hones : onesA v.cells = true) :
  OpDone P G w mem o a { v := .ptr rs 0 0 0, wr := [(rs, { gen := 0, frz := false, row := .cells 1 v.cells })] } := by
 obtain ⟨G', hg, hev, hM', hv'⟩ := znU (t := t) hM hrs hv hn h1 hones
 refine ⟨G', _, _, _, ?_, .inl rfl, hv', hg, hev, by rw [zH]; exact hM'⟩
 simp [execOp, ho, Instr.box, newVar, zit]
theorem zft {t : TypeId} {n B o : Nat} {cv : Value} {w : World} (hn : tsz P t = some n) (hsz : cv.cells.size = n) (hc : ∀ j, j < n → (cl w B (o + j)).isSome = true) (hf : ∀ j, j < n → w.frozen? ⟨B, o + j, none⟩ = false)
  (h1 : ∀ u ∈ cv.cells.toList, u.oneCell' = true) : (storeVar t ⟨B, o, none⟩ cv).run P w = .ok () (w.setCells B o cv.cells.toList) := by
 have hst := run_storeCells_cells (P := P) B o cv.cells.toList 0 w (by simpa [hsz] using hc) (by simpa [hsz] using hf) h1
 rw [ym1] at hst
 simp only [storeVar, Sem.run_bind, zV hn, Result.andThen_ok, Sem.run_ite, hsz, ne_eq, not_true_eq_false, if_false, Sem.run_pure, hst]
theorem zbd : ∀ {xs vs : List Value} {o j : Nat}, o + xs.length ≤ vs.length → (setCellsV vs o xs)[j]? = if o ≤ j ∧ j < o + xs.length then xs[j - o]? else vs[j]?
 | [], vs, o, j, h => by simp [setCellsV]; omega
 | x :: xs, vs, o, j, h => by
  simp only [setCellsV]
  simp only [yh2] at h
  rw [zbd (xs := xs) (by simp; omega)]
  by_cases h1 : o + 1 ≤ j ∧ j < o + 1 + xs.length
  ·rw [if_pos h1, if_pos (by simp; omega), show j - o = (j - (o + 1)) + 1 by omega, ye1]
  ·rw [if_neg h1]
   by_cases h2 : j = o
   ·subst h2
    rw [if_pos (by simp), yw (by omega)]; simp
   ·rw [yq (by omega), if_neg (by simp; omega)]
theorem UpdOk.sub {G : Gh} {w w1 : World} {mem : Mem} {b : Nat} {x x' : Box} {L : Loc} {B : Nat} (hM : MemR G w mem) (hx : mem[b]? = some (some x)) (hB : Blk G b x B) (hL : L.blk = some B)
  (h1 : ∀ B', Other G w mem b B' → w1.heap[B']? = w.heap[B']?) (h2 : ∀ i c B', InnB w1 B x'.row i c B' → InnB w B x.row i c B') : UpdOk G w w1 mem b x' L := by
 have hBB : ∀ {C}, L.blk = some C → C = B := fun h => by rw [hL] at h; exact (ya h).symm
 refine ⟨h1, fun C hC hO => ?_, fun C hC i c B' hi => ?_, fun C hC i c i2 c2 B' hi hi2 => ?_⟩
 ·obtain rfl := hBB hC; exact hM.other_ne hx hB hO rfl
 ·obtain rfl := hBB hC
  have hi := h2 i c B' hi
  refine ⟨hM.other_inn hx hB hi, ?_⟩
  rintro rfl
  exact hM.inA b b x x _ i c _ hx hB hi hx hB
 ·obtain rfl := hBB hC
  obtain ⟨_, h, h'⟩ := hM.inB b b x x _ _ i c i2 c2 B' hx hB (h2 i c B' hi) hx hB (h2 i2 c2 B' hi2)
  exact ⟨h, h'⟩
theorem zjI {G : Gh} {w : World} {mem : Mem} {b : Nat} {x : Box} {B : Nat} {row' : Row} {o : Nat} {xs : List Value} (hM : MemR G w mem) (hx : mem[b]? = some (some x)) (hl : G.loc b x.gen = some ⟨some B, x.row.e, x.row.len⟩)
  (hfrz : x.frz = false) (hsome : ∀ j, j < xs.length → (cl w B (o + j)).isSome = true) (he : row'.e = x.row.e) (hlen : row'.len = x.row.len)
  (hr : Ev G w (w.setCells B o xs) → RowR G (w.setCells B o xs) B row') (hin : ∀ i c B', InnB (w.setCells B o xs) B row' i c B' → InnB w B x.row i c B') :
  Ev G w (w.setCells B o xs) ∧ MemR G (w.setCells B o xs) (mem.set b (some { x with row := row' })) := by
 have hb := hM.box b x hx
 have hB : Blk G b x B := ⟨_, hl, rfl⟩
 obtain ⟨_, h1, h2, h3, h4, h5⟩ := hM.blk hx hB
 have hev := Ev.setCells (G := G) (vs := xs) h1 hsome (h5 hfrz)
 have hbl : b < mem.length := (ye.1 hx).1
 refine ⟨hev, ?_⟩
 have hput : G.put b x.gen ⟨some B, x.row.e, x.row.len⟩ = G := by
  unfold Gh.put
  congr 1
  funext b' g'
  split
  ·rename_i hh; obtain ⟨rfl, rfl⟩ := hh; exact hl.symm
  ·rfl
 have := hM.upd (x' := { x with row := row' }) (L := ⟨some B, x.row.e, x.row.len⟩) hev hbl (.inr hl) (.sub hM hx hB rfl (fun B' hO => zF (w := w) (hM.other_ne hx hB hO) xs o w) hin) (fun g hg => hM.gens b x g hx hg) ?_
 ·rw [hput] at this; exact this
 ·rw [hput]
  exact ⟨by show 1 ≤ row'.e; rw [he]; exact hb.e, some B, by show G.loc b x.gen = some ⟨some B, row'.e, row'.len⟩; rw [he, hlen]; exact hl, h1, by rw [zbc]; exact h2, h3.setCells, hr hev, h5⟩
theorem zgb {G : Gh} {w : World} {mem : Mem} {b : Nat} {x : Box} {B : Nat} {row' : Row} {vs : List Value} {o : Nat} {xs : List Value} (hM : MemR G w mem) (hx : mem[b]? = some (some x)) (hl : G.loc b x.gen = some ⟨some B, x.row.e, x.row.len⟩)
  (hfrz : x.frz = false) (hvs : ∀ j, j < vs.length → cl w B j = vs[j]?) (ho : o + xs.length ≤ vs.length) (he : row'.e = x.row.e) (hlen : row'.len = x.row.len) (hown : row'.isOwn = false)
  (hv : ViewR G w row'.all (setCellsV vs o xs)) :
  Ev G w (w.setCells B o xs) ∧ MemR G (w.setCells B o xs) (mem.set b (some { x with row := row' })) := by
 have hsome : ∀ j, j < xs.length → (cl w B (o + j)).isSome = true := by
  intro j hj; rw [hvs _ (by omega), yf (by omega)]; rfl
 refine zjI hM hx hl hfrz hsome he hlen (fun hev => RowR.ofList hown (hv.mono (Gle.refl G) hev) (fun j u hu => ?_)) (fun i c B' hi => by rw [hi.own] at hown; cases hown)
 rw [zbd ho] at hu
 by_cases hh : o ≤ j ∧ j < o + xs.length
 ·rw [if_pos hh] at hu
  obtain ⟨k, rfl⟩ : ∃ k, j = o + k := ⟨j - o, by omega⟩
  rw [zaN hsome (by omega)]
  rw [yh3, yf (by omega)] at hu; exact hu
 ·rw [if_neg hh] at hu
  rw [zaF (by omega), hvs _ (ye.1 hu).1]; exact hu
end
end Go.Ab
end
section
namespace Go.Ab
variable [GTab]
theorem zcz {b : Nat} : ∀ {l : List Nat}, memN b l = true ↔ b ∈ l
 | [] => by simp [memN]
 | m :: r => by simp only [memN, yw1, beqN, yn1, zcz (l := r)]; constructor <;> rintro (h | h) <;> first | exact .inl h.symm | exact .inr h
theorem zis : ∀ {xs vs : List PV} {o j : Nat}, o + xs.length ≤ vs.length → (setPVs vs o xs)[j]? = if o ≤ j ∧ j < o + xs.length then xs[j - o]? else vs[j]?
 | [], vs, o, j, h => by simp [setPVs]; omega
 | x :: xs, vs, o, j, h => by
  simp only [setPVs]
  simp only [yh2] at h
  rw [zis (xs := xs) (by simp; omega)]
  by_cases h1 : o + 1 ≤ j ∧ j < o + 1 + xs.length
  ·rw [if_pos h1, if_pos (by simp; omega), show j - o = (j - (o + 1)) + 1 by omega, ye1]
  ·rw [if_neg h1]
   by_cases h2 : j = o
   ·subst h2
    rw [if_pos (by simp), yw (by omega)]; simp
   ·rw [yq (by omega), if_neg (by simp; omega)]
section
variable {P : Program}
theorem zkM {G : Gh} {w : World} {mem : Mem} {t : TypeId} {a x : AV} {out : Out} {ca cx : Value} (hM : MemR G w mem) (h : storeA P t mem a x = some out) (ha : VR G w a ca) (hx : VR G w x cx) :
  out.v = .lit undef ∧ ∃ G' w', (Instr.storeAt t ca cx).run P w = .ok () w' ∧ Gle G G' ∧ Ev G w w' ∧ MemR G' w' (out.apply mem) := by
 unfold storeA at h
 split at h
 ·rename_i b g i c
  rw [bind_some] at h; obtain ⟨bx, hbx, h⟩ := h
  rw [bind_some] at h; obtain ⟨n, hn, h⟩ := h
  rw [za] at h; obtain ⟨hg, h⟩ := h
  simp only [yb, yt] at hg
  obtain ⟨hfrz, hlen⟩ := hg
  have hlen := beqN.1 hlen
  obtain ⟨hm, hgen⟩ := box?_some hbx
  obtain ⟨B, rfl, hl, hmine, hB, hfz, hrow, hpr⟩ := hM.at_ptr hbx ha
  have he := (hM.box b bx hm).e
  obtain ⟨vs, hvs, hcl⟩ := hrow.toList he (box?_own hbx)
  have hxc := hx.cells
  have hsz : cx.cells.size = n := by rw [← hlen]; simpa using hxc.1.symm
  have hrun : ∀ o, o + n ≤ vs.length → (∀ u ∈ cx.cells.toList, u.oneCell' = true) → (Instr.storeAt t (.pointer (some ⟨B, o, none⟩)) cx).run P w = .ok () (w.setCells B o cx.cells.toList) := by
   intro o ho h1
   have hsome : ∀ j, j < n → (cl w B (o + j)).isSome = true := fun j hj => by rw [hcl _ (by omega), yf (by omega)]; rfl
   have := zft (P := P) hn hsz hsome (fun j hj => hfz.cell (hsome j hj)) h1
   simp [Instr.storeAt, Instr.sureAddr, this]
  obtain ⟨gen, frz, row⟩ := bx
  simp only at hfrz hgen hl hvs hcl he; subst hgen
  split at h
  ·rename_i e cs hrw
   simp only at hrw; subst hrw
   rw [za] at h; obtain ⟨hc, h⟩ := h
   simp only [yb] at hc
   have hle := bleN.1 hc.1
   obtain rfl := ya h
   refine ⟨rfl, ?_⟩
   obtain ⟨hvl, hv1, hcnt, hvv⟩ := hvs
   have hcl2 : vs.length = cs.length := by rw [hvl]; show countBy e cs.length * e = cs.length; rw [yj2]; exact hcnt.symm
   have hL : LRs G w cs vs := ⟨hcl2.symm, fun j y hy => by obtain ⟨u, hu, hp⟩ := hvv j y hy; rw [yl, hu]; exact hp⟩
   have hones := hxc.ones hc.2
   have hnew := hL.setCells (i := i * e + c) hxc
   have hview : ViewR G w (.avs e (setCells cs (i * e + c) x.cells)) (setCellsV vs (i * e + c) cx.cells.toList) := by
    have hsl : (setCells cs (i * e + c) x.cells).length = cs.length := zbl (as := cs)
    refine ⟨?_, fun u hu => ?_, by rw [hsl]; exact hcnt, fun j y hy => ?_⟩
    ·show _ = countBy e (setCells cs (i * e + c) x.cells).length * e
     rw [zaz, hsl, hcl2, yj2]; exact hcnt
    ·obtain ⟨j, hj, rfl⟩ := ys1 hu
     have hg := zbd (xs := cx.cells.toList) (vs := vs) (o := i * e + c) (j := j) (by simp [hsz]; omega)
     rw [yf hj] at hg
     split at hg
     ·exact hones _ (yj hg.symm)
     ·exact hv1 _ (yj hg.symm)
    ·have hj : j < (setCellsV vs (i * e + c) cx.cells.toList).length := by rw [← hnew.1]; exact (ye.1 hy).1
     have := hnew.2 j y hy
     rw [yl, yf hj] at this
     exact ⟨_, yf hj, this⟩
   have hsl : (setCells cs (i * e + c) x.cells).length = cs.length := zbl (as := cs)
   obtain ⟨hev, hM'⟩ := zgb (row' := .cells e (setCells cs (i * e + c) x.cells)) (o := i * e + c) (xs := cx.cells.toList) hM hm hl hfrz hcl (by simp [hsz]; omega) rfl (by simp only [Row.len]; rw [hsl]) rfl hview
   exact ⟨G, _, hrun _ (by show i * e + c + n ≤ _; omega) hones, Gle.refl G, hev, by rw [zH]; exact hM'⟩
  ·rename_i k xs hrw
   simp only at hrw; subst hrw
   split at h
   ·rename_i k' z _
    rw [za] at h; obtain ⟨hc, h⟩ := h
    simp only [yb] at hc
    obtain ⟨⟨hk, hc0⟩, hi⟩ := hc
    rw [zaR] at hk; subst hk
    obtain rfl := beqN.1 hc0
    have hi := bleN.1 hi
    obtain rfl := ya h
    refine ⟨rfl, ?_⟩
    obtain rfl := hx.lit_inv
    obtain ⟨hvl, hv1, hvv⟩ := hvs
    simp only [Row.all, View.len, View.e, ye3] at hvl
    have hcells : (Value.int k z).cells.toList = [Value.int k z] := rfl
    have hview : ViewR G w (.ints k (xs.set i z)) (setCellsV vs i [Value.int k z]) := by
     refine ⟨by simp [View.len, View.e, zaz, hvl], fun u hu => ?_, fun j y hy => ?_⟩
     ·simp only [setCellsV] at hu
      rcases ye2 hu with h | h
      ·exact hv1 u h
      ·rw [h]; rfl
     ·simp only [setCellsV]
      by_cases e : j = i
      ·subst e
       rw [yw (by omega)] at hy ⊢
       simp at hy; rw [hy]
      ·rw [yq (fun x => e x.symm)] at hy ⊢
       exact hvv j y hy
    have hn1 : n = 1 := by rw [← hlen]; rfl
    subst hn1
    obtain ⟨hev, hM'⟩ := zgb (row' := .ints k (xs.set i z)) (o := i) (xs := [Value.int k z]) hM hm hl hfrz hcl (by simp; omega) rfl (by simp [Row.len]) rfl hview
    refine ⟨G, _, ?_, Gle.refl G, hev, by rw [zH]; exact hM'⟩
    have := hrun i (by omega) (by simp [hcells, Value.oneCell'])
    rw [hcells] at this
    have e0 : i * (Row.ints k xs).e + 0 = i := by simp [Row.e]
    rw [e0]; exact this
   ·simp at h
  ·rename_i β e xs hrw
   simp only at hrw; subst hrw
   rw [bind_some] at h; obtain ⟨p, hp, h⟩ := h
   rw [bind_some] at h; obtain ⟨q, hq, h⟩ := h
   rw [za] at h; obtain ⟨hc, h⟩ := h
   simp only [yb, yt] at hc
   obtain ⟨⟨hce, hpl⟩, hnb⟩ := hc
   have hce := bleN.1 hce
   have hpl := beqN.1 hpl
   have hnb : b ∉ q.2.2 := fun hh => by rw [zcz.2 hh] at hnb; cases hnb
   obtain rfl := ya h
   refine ⟨rfl, ?_⟩
   obtain ⟨ql, qq⟩ := zcZ hM hq hx
   have hM1 := hM.freeze q.2.2
   have hg1 := Gle.frz G (InBoxes G w mem q.2.2) hM.inBoxes
   have hm1 : (setMem mem (frozenAt mem q.2.2))[b]? = some (some ⟨gen, frz, .pvs β e xs⟩) := by
    rw [(zO mem q.2.2 mem b rfl).2.1 (.inl hnb)]; exact hm
   have hvs1 : ViewR (G.frz (InBoxes G w mem q.2.2)) w (.pvs β e xs) vs := hvs.mono hg1 (Ev.refl G w)
   obtain ⟨hvl, hv1, hxl, hvv⟩ := hvs1
   simp only [View.len, View.e] at hvl
   simp only [Row.e] at he
   have hi := (ye.1 hp).1
   have hpos : i * e + c + n ≤ vs.length := by
    rw [hvl]
    calc i * e + c + n ≤ i * e + e := by omega
     _ = (i + 1) * e := by rw [yk1]; simp
     _ ≤ xs.length * e := yy1 _ hi
   have hones : ∀ u ∈ cx.cells.toList, u.oneCell' = true := by
    intro u hu
    obtain ⟨j, hj, rfl⟩ := ys1 hu
    have hj2 : j < q.2.1.cells.length := by rw [ql, hxc.1]; exact hj
    obtain ⟨u', hu', _, h1⟩ := qq j _ (yf hj2)
    rw [yf hj] at hu'
    obtain rfl := ya hu'; exact h1
   generalize hp' : (bif n.beq e && c.beq 0 then q.2.1 else PV.agg (setPVs p.cells c q.2.1.cells)) = p'
   have hp'c : ∀ (j : Nat), p'.cells[j]? = if c ≤ j ∧ j < c + n then q.2.1.cells[j - c]? else p.cells[j]? := by
    intro j
    have hqn : q.2.1.cells.length = n := by rw [ql, hlen]
    cases hcc : (n.beq e && c.beq 0) with
    | true =>
     rw [hcc] at hp'; simp only [yg] at hp'; subst hp'
     simp only [yb] at hcc
     obtain rfl := beqN.1 hcc.1
     obtain rfl := beqN.1 hcc.2
     by_cases hj : j < n
     ·rw [if_pos (by omega)]; simp
     ·rw [if_neg (by omega), ya1 (by omega), ya1 (by omega)]
    | false =>
     rw [hcc] at hp'; simp only [yh] at hp'; subst hp'
     show (setPVs p.cells c q.2.1.cells)[j]? = _
     rw [zis (by omega), hqn]
   have hp'l : p'.cells.length = e := by
    have h1 : p'.cells[e]? = none := by rw [hp'c, if_neg (by omega), ya1 (by omega)]
    have h2 : ∃ y, p'.cells[e - 1]? = some y := by
     rw [hp'c]
     split
     ·rename_i hh; exact ⟨_, yf (by rw [ql, hlen]; omega)⟩
     ·exact ⟨_, yf (by omega)⟩
    obtain ⟨y, hy⟩ := h2
    have := (ye.1 hy).1
    have := List.getElem?_eq_none_iff.1 h1
    omega
   have hview : ViewR (G.frz (InBoxes G w mem q.2.2)) w (.pvs (β || q.1) e (xs.set i p')) (setCellsV vs (i * e + c) cx.cells.toList) := by
    have hg := fun j => zbd (xs := cx.cells.toList) (vs := vs) (o := i * e + c) (j := j) (by simp [hsz]; omega)
    have hlab1 := hM1.lab
    refine ⟨by simp [View.len, View.e, zaz, hvl], fun u hu => ?_, fun x hx => ?_, fun i' x c' y hx hy => ?_⟩
    ·obtain ⟨j, hj, rfl⟩ := ys1 hu
     have hg := hg j
     rw [yf hj] at hg
     split at hg
     ·exact hones _ (yj hg.symm)
     ·exact hv1 _ (yj hg.symm)
    ·rcases ye2 hx with h | h
     ·exact hxl x h
     ·rw [h]; exact hp'l
    ·have hc'e : c' < e := by
      have h0 := (ye.1 hy).1
      have : x.cells.length = e := by
       rcases ye2 (yj hx) with h | h
       ·exact hxl x h
       ·rw [h]; exact hp'l
      omega
     rw [hg]
     simp only [yt1, hsz]
     by_cases hii : i' = i
     ·subst hii
      rw [yw hi] at hx
      obtain rfl := ya hx
      rw [hp'c] at hy
      by_cases hcc : c ≤ c' ∧ c' < c + n
      ·rw [if_pos hcc] at hy
       rw [if_pos (by omega), show i' * e + c' - (i' * e + c) = c' - c by omega]
       obtain ⟨u, hu, hpu, _⟩ := qq _ y hy
       exact ⟨u, hu, hpu.weak' hlab1⟩
      ·rw [if_neg hcc] at hy
       rw [if_neg (by omega)]
       obtain ⟨u, hu, hpu⟩ := hvv i' p c' y hp hy
       exact ⟨u, hu, hpu.weak hlab1⟩
     ·rw [yq (fun x => hii x.symm)] at hx
      obtain ⟨u, hu, hpu⟩ := hvv i' x c' y hx hy
      refine ⟨u, ?_, hpu.weak hlab1⟩
      rw [if_neg ?_]
      ·exact hu
      ·rintro ⟨h1, h2⟩
       rcases Nat.lt_or_gt_of_ne hii with hlt | hlt
       ·have : i' * e + e ≤ i * e := by
         calc i' * e + e = (i' + 1) * e := by rw [yk1]; simp
          _ ≤ i * e := yy1 _ hlt
        omega
       ·have : i * e + e ≤ i' * e := by
         calc i * e + e = (i + 1) * e := by rw [yk1]; simp
          _ ≤ i' * e := yy1 _ hlt
        omega
   obtain ⟨hev, hM'⟩ := zgb (row' := .pvs (β || q.1) e (xs.set i p')) (o := i * e + c) (xs := cx.cells.toList) hM1 hm1 hl hfrz hcl (by simp [hsz]; omega) rfl (by simp [Row.len]) rfl hview
   refine ⟨_, _, hrun _ (by show i * e + c + n ≤ _; omega) hones, hg1, ?_, by rw [zor]; exact hM'⟩
   have hjj : ∀ j, j < cx.cells.toList.length → i * e + c + j < vs.length := fun j hj => by simp [hsz] at hj; omega
   exact Ev.setCells hmine (fun j hj => by show (cl w B (i * e + c + j)).isSome = true; rw [hcl _ (hjj j hj), yf (hjj j hj)]; rfl) (hpr hfrz)
  ·cases h
 ·simp at h
end
end Go.Ab
end
section
namespace Go.Ab
variable [GTab]
section
variable {P : Program}
structure ElemOk (P : Program) (t et : TypeId) (s : Nat) (i : TypeInfo) (z : Value) : Prop where
 under : P.underlying t = some (.slice et)
 info : P.info? et = some i
 size : i.size = s
 zero : i.zero = some z
 zsize : z.cells.size = s
 bytes : i.bytes ≤ 4096
 one : 1 ≤ s
theorem zdU {n bytes : Nat} (hn : n ≤ mostLen) (hb : bytes ≤ 4096) : n * bytes ≤ 140737488355328 := by
 have : n * bytes ≤ n * 4096 := Nat.mul_le_mul_left n hb
 unfold mostLen at hn
 omega
structure GrowOk (G : Gh) (w : World) (mem : Mem) (b g' : Nat) (row' : Row) (Bold : Option Nat) (vs : List Value) : Prop where
 row : ∀ (w1 : World) (B' : Nat), Ev G w w1 → (∀ X, X < w.heap.size → Bold ≠ some X → w1.heap[X]? = w.heap[X]?) → (∀ j u, vs[j]? = some u → cl w1 B' j = some u) → RowR (G.put b g' ⟨some B', row'.e, row'.len⟩) w1 B' row'
 inn : ∀ (w1 : World) (B' i c X : Nat), (∀ j u, vs[j]? = some u → cl w1 B' j = some u) → InnB w1 B' row' i c X → ∃ (x : Box) (B : Nat), mem[b]? = some (some x) ∧ Blk G b x B ∧ InnB w B x.row i c X
theorem GrowOk.plain {G : Gh} {w : World} {mem : Mem} {b g' : Nat} {row' : Row} {Bold : Option Nat} {vs : List Value} (hno : G.loc b g' = none) (ho : row'.isOwn = false) (hv : ViewR G w row'.all vs) : GrowOk G w mem b g' row' Bold vs :=
 ⟨fun w1 B' hev _ hcl => RowR.ofList ho (hv.mono (Gle.put (.inl hno)) hev) hcl, fun w1 B' i c X _ h => by rw [h.own] at ho; cases ho⟩
theorem zln {G : Gh} {w w1 : World} {mem : Mem} {b g' : Nat} {row' : Row} {B' : Nat} {Bold : Option Nat} {vs : List Value} (hM : MemR G w mem) (hb : b < mem.length) (hev : Ev G w w1) (hno : ∀ g, g' ≤ g → G.loc b g = none)
  (he : 1 ≤ row'.e) (hmine : G.mine B') (hlt : B' < w1.heap.size) (hfz : Free w1 B') (hpr : ∀ β o, ¬ G.prot β B' o)
  (hother : ∀ X, X < w.heap.size → Bold ≠ some X → w1.heap[X]? = w.heap[X]?) (hbold : ∀ X, Other G w mem b X → Bold ≠ some X) (hplace : B' = w.heap.size ∨ ∃ x, mem[b]? = some (some x) ∧ Blk G b x B' ∧ Bold = some B')
  (hv : GrowOk G w mem b g' row' Bold vs) (hcl : ∀ j u, vs[j]? = some u → cl w1 B' j = some u) :
  ∃ G', Gle G G' ∧ G'.loc b g' = some ⟨some B', row'.e, row'.len⟩ ∧ MemR G' w1 (mem.set b (some { gen := g', frz := false, row := row' })) := by
 have hg : Gle G (G.put b g' ⟨some B', row'.e, row'.len⟩) := Gle.put (.inl (hno g' (yx _)))
 have hBne : ∀ X, Other G w mem b X → X ≠ B' := by
  intro X hO
  rcases hplace with rfl | ⟨x, hx, hB, _⟩
  ·exact Nat.ne_of_lt (hM.other hO).2.1
  ·exact hM.other_ne hx hB hO
 refine ⟨_, hg, Gh.put_self .., hM.upd (x' := { gen := g', frz := false, row := row' }) hev hb (.inl (hno g' (yx _))) ⟨fun X hO => hother X (hM.other hO).2.1 (hbold X hO), fun C hC hO => ?_, fun C hC i c X hi => ?_, fun C hC i c i2 c2 X hi hi2 => ?_⟩ (fun g hg => hno g (Nat.le_of_lt hg)) ?_⟩
 ·simp only [Option.some.injEq] at hC; subst hC
  exact hBne _ hO rfl
 ·simp only [Option.some.injEq] at hC; subst hC
  obtain ⟨x, B, hx, hB, hi'⟩ := hv.inn w1 B' i c X hcl hi
  refine ⟨hM.other_inn hx hB hi', ?_⟩
  rcases hplace with hp | ⟨x', hx', hB', _⟩
  ·rw [hp]; exact Nat.ne_of_lt (hM.inn hx hB hi').2.1
  ·intro hXB
   rw [hXB] at hi'
   exact hM.inA b b x x' B i c _ hx hB hi' hx' hB'
 ·simp only [Option.some.injEq] at hC; subst hC
  obtain ⟨x, B, hx, hB, hi⟩ := hv.inn w1 B' i c X hcl hi
  obtain ⟨x2, B2, hx2, hB2, hi2⟩ := hv.inn w1 B' i2 c2 X hcl hi2
  exact (hM.inB b b x x2 B B2 i c i2 c2 X hx hB hi hx2 hB2 hi2).2
 ·exact ⟨he, some B', Gh.put_self .., hmine, hlt, hfz, hv.row w1 B' hev hother hcl, fun _ => hpr⟩
theorem zga {G : Gh} {w : World} {mem : Mem} {b g' : Nat} {row' : Row} (hM : MemR G w mem) (hb : b < mem.length) (hno : ∀ g, g' ≤ g → G.loc b g = none)
  (he : 1 ≤ row'.e) (hz : row'.len = 0) (hc : row'.isCells = false) :
  ∃ G', Gle G G' ∧ G'.loc b g' = some ⟨none, row'.e, row'.len⟩ ∧ MemR G' w (mem.set b (some { gen := g', frz := false, row := row' })) := by
 have hg : Gle G (G.put b g' ⟨none, row'.e, row'.len⟩) := Gle.put (.inl (hno g' (yx _)))
 refine ⟨_, hg, Gh.put_self .., hM.upd (x' := { gen := g', frz := false, row := row' }) (Ev.refl G w) hb (.inl (hno g' (yx _))) ⟨fun _ _ => rfl, fun _ h => (nomatch h), fun _ h => (nomatch h), fun _ h => (nomatch h)⟩ (fun g hg => hno g (Nat.le_of_lt hg)) ?_⟩
 exact ⟨he, none, Gh.put_self .., hz, hc⟩
theorem zcB (w : World) (c : Array Value) (t : TypeId) : (∀ B, B < w.heap.size → (w.drew.alloc (.cells c t)).heap[B]? = w.heap[B]?) ∧ (w.drew.alloc (.cells c t)).heap.size = w.heap.size + 1 ∧
  (∀ j, cl (w.drew.alloc (.cells c t)) w.heap.size j = c[j]?) ∧ Free (w.drew.alloc (.cells c t)) w.heap.size := by
 refine ⟨fun B hB => ?_, by simp, fun j => ?_, ?_⟩
 ·have := zZ (w := w.drew) (o := .cells c t) (B := B) (by simpa using hB)
  rw [this]; rfl
 ·have := zaS (w := w.drew) (c := c) (t := t) (fr := (0, 0)) (j := j)
  simpa using this
 ·exact Free.alloc (w := w.drew)
theorem Ev.drew_alloc (G : Gh) (w : World) (o : Obj) (hp : ∀ β B x, G.prot β B x → B < w.heap.size) (ho : ∃ c t, o = .cells c t := by exact ⟨_, _, rfl⟩) : Ev G w (w.drew.alloc o) :=
 (Ev.drew G w).trans (Gle.refl G) (Ev.alloc G w.drew o hp ho)
theorem zmd {G : Gh} {w : World} {mem : Mem} {b g' : Nat} {row' : Row} {t et ty tx : TypeId} {s : Nat} {i : TypeInfo} {z : Value} {base : Option Addr} {len cap n : Nat} {olds news : List Value} {y : Value}
    (hM : MemR G w mem) (hb : b < mem.length) (hno : ∀ g, g' ≤ g → G.loc b g = none) (hE : ElemOk P t et s i z)
    (hold : (Builtin.firstCells i.size len (.slice base len cap)).run P w.drew = .ok olds.toArray w.drew) (hol : olds.length = len * s) (hs : Src P s tx y n news w)
    (hgrow : cap < len + n) (hmost : len + n ≤ mostLen) (he : row'.e = s) (hlen : row'.len = len + n) {Bold : Option Nat} (hbold : ∀ X, Other G w mem b X → Bold ≠ some X) (hv : GrowOk G w mem b g' row' Bold (olds ++ news)) :
    ∃ G' w1 cv, (Builtin.append_ #[t, tx] ty #[.slice base len cap, y]).run P w = .ok cv w1 ∧ VR G' w1 (.msw b g') cv ∧ Gle G G' ∧ Ev G w w1 ∧ MemR G' w1 (mem.set b (some { gen := g', frz := false, row := row' })) := by
  have hfit := growslice_fits (bytes := i.bytes) hgrow (zdU hmost hE.bytes)
  have hrun := run_append_grow_src (P := P) w t tx ty et i z hE.under hE.info hE.zero base len cap olds hold y n news (by rw [hE.size]; exact hs) hgrow (by unfold mostLen at hmost; omega) hfit
  generalize hc : (olds ++ news).toArray ++ Builtin.zeroCells z.cells (grownCap w (len + n) cap et - (len + n)) = c at hrun
  obtain ⟨f1, f2, f3, f4⟩ := zcB w c et
  have hev := Ev.drew_alloc G w (.cells c et) hM.away
  have hcap : len + n ≤ grownCap w (len + n) cap et := grownCap_ge w _ _ _
  have hcl : ∀ j u, (olds ++ news)[j]? = some u → cl (w.drew.alloc (.cells c et)) w.heap.size j = some u := by
    intro j u hu
    rw [f3, ← hc, yt2 (by simpa using (ye.1 hu).1)]
    simpa using hu
  obtain ⟨G', hg, hl, hM'⟩ := zln (row' := row') (B' := w.heap.size) (vs := olds ++ news) hM hb hev hno (by rw [he]; exact hE.one) (hM.own _ (yx _)) (by rw [f2]; omega) f4
    (fun β o hp => absurd (hM.away β _ o hp) (Nat.lt_irrefl _)) (fun X hX _ => f1 X hX) hbold (.inl rfl) hv hcl
  refine ⟨G', _, _, hrun, ?_, hg, hev, hM'⟩
  generalize grownCap w (len + n) cap et = C at hc hcap ⊢
  have hk : VR G' (w.drew.alloc (.cells c et)) (.msw b g') (.slice (some ⟨w.heap.size, 0, none⟩) row'.len C) := by
   refine .msw b g' _ _ w.heap.size hl rfl (by simp only; rw [hlen]; exact hcap) (fun j hj => ?_)
   simp only [he] at hj
   rw [f3, ← hc]
   have hn := hs.newsLen
   rw [yp1 (by
    simp only [Array.size_append, List.size_toArray, yi1, size_zeroCells, hol, hn, hE.zsize]
    rw [← yk1, ← yk1]
    exact yx1 hj (yy1 _ (by omega)))]
   rfl
  rw [hlen] at hk; exact hk
theorem zeT {G : Gh} {w : World} {mem : Mem} {b : Nat} {x : Box} {row' : Row} {B cap len0 len1 : Nat} {vs0 news : List Value} {t et ty tx : TypeId} {s : Nat} {i : TypeInfo} {z : Value} {y : Value}
  (hM : MemR G w mem) (hx : mem[b]? = some (some x)) (hl : G.loc b x.gen = some ⟨some B, x.row.e, x.row.len⟩) (hfrz : x.frz = false) (hE : ElemOk P t et s i z)
  (hv0 : vs0.length = len0 * s) (hcl0 : ∀ j u, vs0[j]? = some u → cl w B j = some u) (hcap : len0 ≤ cap) (hfit : Fits w B (cap * s))
  (hs : Src P s tx y len1 news w) (hre : row'.e = s) (hrl : row'.len = len0 + len1) (hok : GrowOk G w mem b (x.gen + 1) row' (some B) (vs0 ++ news)) (hmost : row'.len ≤ mostLen) :
  ∃ G' w1 cv, (Builtin.append_ #[t, tx] ty #[.slice (some ⟨B, 0, none⟩) len0 cap, y]).run P w = .ok cv w1 ∧ VR G' w1 (.msw b (x.gen + 1)) cv ∧ Gle G G' ∧ Ev G w w1 ∧
   MemR G' w1 (mem.set b (some { gen := x.gen + 1, frz := false, row := row' })) := by
 have hbl : b < mem.length := (ye.1 hx).1
 have hno : ∀ g, x.gen + 1 ≤ g → G.loc b g = none := fun g hg => hM.gens b x g hx hg
 have hB : Blk G b x B := ⟨_, hl, rfl⟩
 have hnl := hs.newsLen
 have hbold : ∀ X, Other G w mem b X → some B ≠ some X := fun X hO h => hM.other_ne hx hB hO (ya h).symm
 by_cases hroom : len0 + len1 ≤ cap
 ·obtain ⟨_, h1, h2, h3, h4, h5⟩ := hM.blk hx hB
  have hsome : ∀ j, j < news.length → (cl w B (len0 * s + j)).isSome = true := by
   intro j hj
   refine hfit _ ?_
   rw [hnl] at hj
   calc len0 * s + j < len0 * s + len1 * s := by omega
    _ = (len0 + len1) * s := by rw [yk1]
    _ ≤ cap * s := yy1 _ hroom
  have hrun := run_append_room_src (P := P) w t tx ty et i hE.under hE.info B 0 len0 cap y len1 news (by rw [hE.size]; exact hs) hroom
   (fun j hj => by rw [hE.size, yy]; exact hsome j hj) (fun j hj => by rw [hE.size, yy]; exact h3.cell (hsome j hj))
  rw [hE.size, yy] at hrun
  have hev := Ev.setCells (G := G) (vs := news) h1 hsome (h5 hfrz)
  have hcl : ∀ j u, (vs0 ++ news)[j]? = some u → cl (w.setCells B (len0 * s) news) B j = some u := by
   intro j u hu
   by_cases hj : j < vs0.length
   ·rw [yp hj] at hu
    rw [zaF (by rw [← hv0]; exact .inl hj)]; exact hcl0 j u hu
   ·rw [yu (by omega)] at hu
    obtain ⟨k, rfl⟩ : ∃ k, j = len0 * s + k := ⟨j - vs0.length, by omega⟩
    rw [hv0, yh3] at hu
    have hk := (ye.1 hu).1
    rw [zaN hsome hk]
    rw [yf hk] at hu; exact hu
  obtain ⟨G', hg, hl2, hM'⟩ := zln (row' := row') (B' := B) (Bold := some B) (vs := vs0 ++ news) hM hbl hev hno (by rw [hre]; exact hE.one) h1 (by rw [zbc]; exact h2)
   h3.setCells (h5 hfrz) (fun X _ hX => zF (w := w) (fun h => hX (by rw [h])) news _ w) hbold (.inr ⟨x, hx, hB, rfl⟩) hok hcl
  refine ⟨G', _, _, hrun, ?_, hg, hev, hM'⟩
  have hk : VR G' (w.setCells B (len0 * s) news) (.msw b (x.gen + 1)) (.slice (some ⟨B, 0, none⟩) row'.len cap) := by
   refine .msw b (x.gen + 1) cap _ B hl2 rfl (by simp only; rw [hrl]; exact hroom) ?_
   simp only [hre]
   exact hfit.mono hev
  rw [hrl] at hk; exact hk
 ·refine zmd (row' := row') (olds := vs0) (s := s) hM hbl hno hE ?_ hv0 hs (by omega) (by rw [← hrl]; exact hmost) hre hrl hbold hok
  rw [hE.size]
  exact run_firstCells_some w.drew s len0 ⟨B, 0, none⟩ len0 cap vs0 hv0 (fun j u hu => by rw [zB, yy]; exact hcl0 j u hu)
theorem zhD {G : Gh} {w : World} {mem : Mem} {b : Nat} {x : Box} {xv yv zv : View} {B cap : Nat} {vs0 news : List Value} {t et ty tx : TypeId} {s : Nat} {i : TypeInfo} {z : Value} {y : Value}
  (hM : MemR G w mem) (hx : mem[b]? = some (some x)) (hl : G.loc b x.gen = some ⟨some B, x.row.e, x.row.len⟩) (hfrz : x.frz = false) (hE : ElemOk P t et s i z) (hse : s = x.row.e)
  (hxe : xv.e = s) (hx0 : ViewR G w xv vs0) (hcl0 : ∀ j u, vs0[j]? = some u → cl w B j = some u) (hcap : xv.len ≤ cap) (hfit : Fits w B (cap * s))
  (hs : Src P s tx y yv.len news w) (hnews : ViewR G w yv news) (happ : xv.app P et yv = some zv) (hmost : zv.len ≤ mostLen) :
  ∃ G' w1 cv, (Builtin.append_ #[t, tx] ty #[.slice (some ⟨B, 0, none⟩) xv.len cap, y]).run P w = .ok cv w1 ∧ VR G' w1 (.msw b (x.gen + 1)) cv ∧ Gle G G' ∧ Ev G w w1 ∧
   MemR G' w1 (mem.set b (some { gen := x.gen + 1, frz := false, row := zv.row })) := by
 obtain ⟨hz, hze, hze2, hzl⟩ := zjR hM.lab happ hx0 hnews
 exact zeT hM hx hl hfrz hE (by rw [hx0.1, hxe]) hcl0 hcap hfit hs (by rw [zbM, hze, hxe]) (by rw [zax, hzl])
  (.plain (hM.gens b x _ hx (yw2 _)) (zbv zv) (by rw [zbw]; exact hz)) (by rw [zax]; exact hmost)
theorem zbj {G : Gh} {w : World} {mem : Mem} {b g' : Nat} {row' : Row} {n : Nat} {news : List Value} {t et ty tx : TypeId} {s : Nat} {i : TypeInfo} {z : Value} {y : Value}
  (hM : MemR G w mem) (hb : b < mem.length) (hno : ∀ g, g' ≤ g → G.loc b g = none) (hE : ElemOk P t et s i z) (hs : Src P s tx y n news w) (hn : n ≤ mostLen) (he : row'.e = s) (hlen : row'.len = n) (hv : GrowOk G w mem b g' row' none news)
  (hc : n = 0 → row'.isCells = false) :
  ∃ G' w1 cv, (Builtin.append_ #[t, tx] ty #[.slice none 0 0, y]).run P w = .ok cv w1 ∧ VR G' w1 (.msw b g') cv ∧ Gle G G' ∧ Ev G w w1 ∧
   MemR G' w1 (mem.set b (some { gen := g', frz := false, row := row' })) := by
 by_cases h0 : n = 0
 ·subst h0
  have hnews : news = [] := yo (by rw [hs.newsLen]; simp)
  subst hnews
  obtain ⟨G', hg, hl, hM'⟩ := zga (row' := row') hM hb hno (by rw [he]; exact hE.one) hlen (hc rfl)
  exact ⟨G', w, _, run_append_nothing (P := P) w t tx ty et i hE.under hE.info none 0 0 (yx _) y (by rw [hE.size]; exact hs), .mswNil b g' _ hl rfl hlen, hg, Ev.refl G w, hM'⟩
 ·exact zmd (row' := row') (olds := []) (base := none) (len := 0) (cap := 0) hM hb hno hE (run_firstCells_none w.drew i.size 0 0 0) (by simp) hs (by omega) (by omega) he (by omega) (Bold := none) (fun _ _ h => by cases h) (by simpa using hv)
end
end Go.Ab
end
section
namespace Go.Ab
variable [GTab]
theorem MemR.protect {G : Gh} {w : World} {mem : Mem} (hM : MemR G w mem) (S : Nat → Nat → Prop) (hS : ∀ B o, S B o → B < w.heap.size ∧ G.mine B ∧ (∀ (b : Nat) (x : Box) (e n : Nat), mem[b]? = some (some x) → x.frz = false → G.loc b x.gen ≠ some ⟨some B, e, n⟩) ∧
   ∀ (b : Nat) (x : Box) (C i c : Nat), mem[b]? = some (some x) → Blk G b x C → ¬ InnB w C x.row i c B) :
  MemR (G.frz S) w mem := by
 refine ⟨fun b x h => ?_, hM.unset, hM.gens, hM.apart, hM.inA, hM.inB, hM.own, fun B o h => h.imp (hM.lab B o) id, fun β B o h => h.elim (hM.away β B o) (fun h => (hS B o h).1), hM.glob.mono (fun _ _ h => .inl h) fun _ _ _ => rfl⟩
 have hx := hM.box b x h
 obtain ⟨o, hl, hm⟩ := hx.loc
 refine ⟨hx.e, o, hl, ?_⟩
 cases o with
 | none => exact hm
 | some B =>
  obtain ⟨h1, h2, h3, h4, h5⟩ := hm
  have hB : Blk G b x B := ⟨_, hl, rfl⟩
  refine ⟨h1, h2, h3, h4.mono (Gle.frz G S fun B o h => (hS B o h).2.1) (Ev.refl G w) (fun _ _ => rfl) (fun i c B' hi => ⟨.of rfl, fun β o hp => ?_⟩), fun hf β o hp => ?_⟩
  ·rcases hp with hp | hp
   ·exact (hM.inn h hB hi).2.2.2 β o hp
   ·exact (hS B' o hp).2.2.2 b x B i c h hB hi
  ·rcases hp with hp | hp
   ·exact h5 hf β o hp
   ·exact (hS B o hp).2.2.1 b x _ _ h hf hl
theorem MemR.new_tree {G : Gh} {w w1 : World} {mem : Mem} (hM : MemR G w mem) (hev : Ev G w w1) (hlt : ∀ B, B < w.heap.size → w1.heap[B]? = w.heap[B]?) (hsz : w1.heap.size = w.heap.size + 1) :
  MemR (G.frz fun B _ => B = w.heap.size) w1 mem := by
 have hM1 := hM.ev hev (.inr hev.size) hlt
 refine hM1.protect _ fun B o h => ?_
 subst h
 refine ⟨by omega, hM.own _ (yx _), fun b x e n hx _ hl => ?_, fun b x C i c hx hC hi => ?_⟩
 ·obtain ⟨o, hl', hm⟩ := (hM.box b x hx).loc
  rw [hl] at hl'
  have := congrArg Loc.blk (ya hl')
  simp only at this; subst this
  exact Nat.lt_irrefl _ hm.2.1
 ·have hs : ∀ o, cl w1 C o = cl w C o := fun o => zI (hlt C (hM.blk hx hC).2.2.1) o
  exact Nat.lt_irrefl _ (hM.inn hx hC (hi.same hs)).2.1
theorem zhb {G : Gh} {w : World} {v : View} {a : AV} {vs : List Value} {B cap : Nat} (hv : ViewR G w v vs) (ha : v.imm? = some a) (he : 1 ≤ v.e) (hcl : ∀ j u, vs[j]? = some u → cl w B j = some u)
  (hp : ∀ β o, G.prot β B o) (hcap : v.len ≤ cap) : VR G w a (.slice (some ⟨B, 0, none⟩) v.len cap) := by
 cases v with
 | ints k xs =>
  obtain rfl := ya ha
  obtain ⟨_, _, h⟩ := hv
  exact .imm _ _ _ (.ints k xs B 0 cap hcap fun i x hx => by rw [yy]; exact ⟨hcl _ _ (h i x hx), hp _ _⟩) rfl
 | pvs β e xs =>
  obtain rfl := ya ha
  obtain ⟨_, h1, h2, h⟩ := hv
  have key : ∀ (i : Nat) (x : PV) (c : Nat) (y : PV), xs[i]? = some x → x.cells[c]? = some y → vs[i * e + c]? = some (vs.getD (i * e + c) undef) ∧ PR w (G.prot β) y (vs.getD (i * e + c) undef) := by
   intro i x c y hx hy
   obtain ⟨u, hu, hpr⟩ := h i x c y hx hy
   rw [yl, hu]; exact ⟨rfl, hpr⟩
  exact .imm _ _ _ (.sl e xs B 0 cap (fun i c => vs.getD (i * e + c) undef) he hcap h2 (fun i x c y hx hy => by rw [yy]; exact ⟨hcl _ _ (key i x c y hx hy).1, hp _ _⟩)
   (fun i x c y hx hy => h1 _ (yj (key i x c y hx hy).1)) (fun i x c y hx hy => (key i x c y hx hy).2)) rfl
 | avs e cs => simp [View.imm?] at ha
theorem zlE {G : Gh} {w : World} {v : View} {a : AV} (ha : v.imm? = some a) (hz : v.len = 0) : VR G w a (.slice none 0 0) := by
 cases v with
 | ints k xs =>
  obtain rfl := ya ha
  obtain rfl := yo hz
  exact .imm _ _ _ (.intsNil k _) rfl
 | pvs β e xs =>
  obtain rfl := ya ha
  obtain rfl := yo hz
  exact .imm _ _ _ (.slNil e _) rfl
 | avs e cs => simp [View.imm?] at ha
section
variable {P : Program}
theorem zjw {t et : TypeId} {s bytes : Nat} {z : AV} (h1 : elemOf? P t = some et) (h2 : tsz P et = some s) (h3 : tbytes P et = some bytes) (h4 : zero? P et = some z) (h5 : bytes ≤ 4096) (h6 : 1 ≤ s) (h7 : z.cells.length = s) :
  ∃ i zv, ElemOk P t et s i zv := by
 obtain ⟨i, zv, hi, hz, hov⟩ := zaU h4
 have hu : P.underlying t = some (.slice et) := by
  unfold elemOf? at h1
  split at h1
  ·obtain rfl := ya h1; assumption
  ·simp at h1
 have hvr := (zbh (G := ⟨fun _ _ => none, fun _ _ _ => False, fun _ => False⟩) (w := default) hov).cells
 refine ⟨i, zv, hu, hi, ?_, hz, ?_, ?_, h6⟩
 ·unfold tsz at h2; rw [hi] at h2; simpa using h2
 ·rw [← h7, hvr.1]; simp
 ·unfold tbytes at h3; rw [hi] at h3; simp at h3; omega
theorem zjg {G : Gh} {w : World} {vars : Bool} {et : TypeId} {v : View} {row : Row} {vs : List Value} (h : newRowOf P vars et v = some row) (hv : ViewR G w v vs) (he : 1 ≤ v.e) :
  row.e = v.e ∧ row.len = v.len ∧ ViewR G w row.all vs ∧ (v.len = 0 → row.isCells = false) := by
 unfold newRowOf at h
 cases vars with
 | true =>
  simp only [yg] at h
  rw [za] at h; obtain ⟨hl, h⟩ := h
  have hl := bleN.1 hl
  rw [bind_some] at h; obtain ⟨cs, hcs, h⟩ := h
  rw [za] at h; obtain ⟨h1, h⟩ := h
  obtain rfl := ya h
  have hL := zgF hcs hv
  have hc : cs.length = v.len * v.e := by rw [hL.1, hv.1]
  refine ⟨rfl, ?_, ViewR.ofLRs hL h1 ?_, fun h0 => by omega⟩
  ·show countBy v.e cs.length = v.len
   rw [hc, zar (n := 0) he]
  ·rw [hc, zar (n := 0) he]
 | false =>
  simp only [yh] at h
  split at h
  ·simp at h
  ·rename_i hne
   obtain rfl := ya h
   refine ⟨zbM _, zax _, by rw [zbw]; exact hv, fun _ => ?_⟩
   cases v with
   | avs e cs => exact absurd rfl (hne e cs)
   | ints k xs => rfl
   | pvs β e xs => rfl
theorem zjV {vars : Bool} {et : TypeId} {v : View} {row : Row} (h : newRowOf P vars et v = some row) : row.isOwn = false := by
 unfold newRowOf at h
 cases vars with
 | true =>
  simp only [yg] at h
  rw [za] at h; obtain ⟨hl, h⟩ := h
  rw [bind_some] at h; obtain ⟨cs, hcs, h⟩ := h
  rw [za] at h; obtain ⟨h1, h⟩ := h
  obtain rfl := ya h
  rfl
 | false =>
  simp only [yh] at h
  split at h
  ·simp at h
  ·obtain rfl := ya h
   exact zbv _
theorem zlr {et : TypeId} {x y z : View} (h : x.app P et y = some z) (hx : x.row.isCells = false) : z.row.isCells = false := by
 unfold View.app at h
 split at h
 ·rw [za] at h; obtain ⟨_, h⟩ := h; obtain rfl := ya h; rfl
 ·rw [za] at h; obtain ⟨_, h⟩ := h; obtain rfl := ya h; rfl
 ·simp [View.row, Row.isCells] at hx
 ·simp at h
theorem zkX {r : Row} {o n : Nat} {v : View} (h : r.sub o n = some v) (hr : r.isCells = false) : v.row.isCells = false := by
 cases r with
 | ints k xs => simp only [Row.sub] at h; rw [za] at h; obtain ⟨_, h⟩ := h; obtain rfl := ya h; rfl
 | pvs β e xs => simp only [Row.sub] at h; rw [za] at h; obtain ⟨_, h⟩ := h; obtain rfl := ya h; rfl
 | cells e cs => simp [Row.isCells] at hr
 | own e xs hs => cases h
theorem zms {r : Row} (hr : r.isCells = false) : r.all.row.isCells = false := by cases r <;> first | rfl | cases hr
theorem zdB {G : Gh} {w : World} {mem : Mem} {b : Nat} {x : Box} {xv yv zv : View} {news : List Value} {t et ty tx : TypeId} {s : Nat} {i : TypeInfo} {z : Value} {y : Value}
  (hM : MemR G w mem) (hx : mem[b]? = some (some x)) (hE : ElemOk P t et s i z) (hxe : xv.e = s) (hx0 : xv.len = 0) (hxc : xv.row.isCells = false) (hvx : ViewR G w xv [])
  (hs : Src P s tx y yv.len news w) (hnews : ViewR G w yv news) (happ : xv.app P et yv = some zv) (hmost : zv.len ≤ mostLen) :
  ∃ G' w1 cv, (Builtin.append_ #[t, tx] ty #[.slice none 0 0, y]).run P w = .ok cv w1 ∧ VR G' w1 (.msw b (x.gen + 1)) cv ∧ Gle G G' ∧ Ev G w w1 ∧
   MemR G' w1 (mem.set b (some { gen := x.gen + 1, frz := false, row := zv.row })) := by
 obtain ⟨hz, hze, _, hzl⟩ := zjR hM.lab happ hvx hnews
 exact zbj hM (ye.1 hx).1 (fun g hg => hM.gens b x g hx hg) hE hs (by omega) (by rw [zbM, hze, hxe]) (by rw [zax]; omega) (.plain (hM.gens b x _ hx (yw2 _)) (zbv zv) (by rw [zbw]; simpa using hz)) (fun _ => zlr happ hxc)
theorem ViewR.nilOf {G : Gh} {w : World} {v : View} (h0 : v.len = 0) (hc : v.row.isCells = false) : ViewR G w v [] := by
 cases v with
 | ints k xs =>
  obtain rfl := yo h0
  exact ⟨rfl, by simp, by simp⟩
 | pvs β e xs =>
  obtain rfl := yo h0
  exact ⟨by simp [View.len], by simp, by simp⟩
 | avs e cs => simp [View.row, Row.isCells] at hc
theorem zpW {r : Row} {o n : Nat} {v : View} (he : 1 ≤ r.e) (h : r.sub o n = some v) : v.len = n := by
 cases r with
 | ints k xs =>
  simp only [Row.sub] at h; rw [za] at h; obtain ⟨hl, h⟩ := h; obtain rfl := ya h
  have := bleN.1 hl
  simp [View.len]; omega
 | pvs β e xs =>
  simp only [Row.sub] at h; rw [za] at h; obtain ⟨hl, h⟩ := h; obtain rfl := ya h
  have := bleN.1 hl
  simp [View.len]; omega
 | cells e cs =>
  simp only [Row.sub] at h; rw [za] at h; obtain ⟨hl, h⟩ := h; obtain rfl := ya h
  have hl := bleN.1 hl
  rw [yk1] at hl
  have : ((cs.drop (o * e)).take (n * e)).length = n * e := by simp; omega
  simp only [View.len]
  rw [this]
  exact zar (n := 0) he n
 | own e xs hs => cases h
theorem zjf {G : Gh} {w : World} {mem : Mem} {boxed vars : Bool} {t tx ty : TypeId} {rs : Nat} {x y : AV} {out : Out} {cx cy : Value} (hM : MemR G w mem) (hrs : mem[rs]? = some none)
  (h : appendA P boxed vars t tx mem rs x y = some out) (hx : VR G w x cx) (hy : VR G w y cy) :
  ∃ G' w1 cv, (Builtin.append_ #[t, tx] ty #[cx, cy]).run P w = .ok cv w1 ∧ VR G' w1 out.v cv ∧ Gle G G' ∧ Ev G w w1 ∧ MemR G' w1 (out.apply mem) := by
 unfold appendA at h
 rw [bind_some] at h; obtain ⟨et, het, h⟩ := h
 rw [bind_some] at h; obtain ⟨s, hs, h⟩ := h
 rw [bind_some] at h; obtain ⟨bytes, hby, h⟩ := h
 rw [bind_some] at h; obtain ⟨z, hz, h⟩ := h
 rw [bind_some] at h; obtain ⟨yv, hyv, h⟩ := h
 rw [za] at h; obtain ⟨hg, h⟩ := h
 simp only [yb] at hg
 obtain ⟨⟨⟨⟨g1, g2⟩, g3⟩, g4⟩, g5⟩ := hg
 have g1 := beqN.1 g1; have g3 := bleN.1 g3; have g4 := bleN.1 g4; have g5 := beqN.1 g5
 obtain ⟨i, zv0, hE⟩ := zjw het hs hby hz g3 g4 g5
 obtain ⟨news, hsrc, hnews⟩ := zfc hM hyv hy (by rw [← g1]; exact hs) g2
 rw [← g1] at hsrc
 split at h
 ·obtain rfl := hx.lit_inv
  rw [za] at h; obtain ⟨hml, h⟩ := h
  have hml := bleN.1 hml
  have hno : ∀ g, 0 ≤ g → G.loc rs g = none := fun g _ => hM.unset rs g (fun x hx => by rw [hrs] at hx; cases hx)
  have hrl := (ye.1 hrs).1
  cases boxed with
  | true =>
   simp only [yg] at h
   obtain ⟨row, hrow, rfl⟩ := yd.1 h
   obtain ⟨r1, r2, r3, r4⟩ := zjg hrow hnews (by omega)
   rw [zH]
   exact zbj hM hrl hno hE hsrc hml (by rw [r1, g1]) r2 (.plain (hno 0 (yx _)) (zjV hrow) r3) r4
  | false =>
   simp only [yh] at h
   obtain ⟨v, hv, rfl⟩ := yd.1 h
   rw [ziJ]
   by_cases h0 : yv.1.len = 0
   ·rw [h0] at hsrc
    have hnn : news = [] := yo (by rw [hsrc.newsLen]; simp)
    subst hnn
    exact ⟨G, w, _, run_append_nothing (P := P) w t tx ty et i hE.under hE.info none 0 0 (yx _) cy (by rw [hE.size]; exact hsrc), zlE hv h0, Gle.refl G, Ev.refl G w, hM⟩
   ·have hrun := run_append_grow_src (P := P) w t tx ty et i zv0 hE.under hE.info hE.zero none 0 0 [] (run_firstCells_none w.drew i.size 0 0 0) cy yv.1.len news (by rw [hE.size]; exact hsrc) (by omega)
     (by unfold mostLen at hml; omega) (growslice_fits (bytes := i.bytes) (by omega) (zdU (by omega) hE.bytes))
    generalize hc : ([] ++ news).toArray ++ Builtin.zeroCells zv0.cells (grownCap w (0 + yv.1.len) 0 et - (0 + yv.1.len)) = c at hrun
    obtain ⟨f1, f2, f3, f4⟩ := zcB w c et
    have hev := Ev.drew_alloc G w (.cells c et) hM.away
    have hM' := hM.new_tree hev f1 f2
    have hg := Gle.frz G (fun B _ => B = w.heap.size) (fun B _ h => by subst h; exact hM.own _ (yx _))
    refine ⟨_, _, _, hrun, ?_, hg, hev, hM'⟩
    have hcap : 0 + yv.1.len ≤ grownCap w (0 + yv.1.len) 0 et := grownCap_ge w _ _ _
    generalize grownCap w (0 + yv.1.len) 0 et = C at hc hcap ⊢
    rw [yy] at hcap ⊢
    refine zhb (vs := news) (hnews.mono hg hev) hv (by omega) (fun j u hu => ?_) (fun β o => .inr rfl) hcap
    rw [f3, ← hc, yt2 (by simpa using (ye.1 hu).1)]
    simpa using hu
 ·rename_i b g
  rw [bind_some] at h; obtain ⟨bx, hbx, h⟩ := h
  rw [bind_some] at h; obtain ⟨zv, hzv, h⟩ := h
  rw [za] at h; obtain ⟨hc, h⟩ := h
  simp only [yb, yt] at hc
  obtain ⟨⟨c1, c2⟩, c3⟩ := hc
  have c2 := beqN.1 c2; have c3 := bleN.1 c3
  obtain rfl := ya h
  rw [zH]
  obtain ⟨hm, rfl⟩ := box?_some hbx
  have he := (hM.box b bx hm).e
  cases hx with
  | msw _ _ cap L B hl hb hn hf =>
   obtain ⟨o, hl', hmm⟩ := (hM.box b bx hm).loc
   have hLL := hl
   rw [hl'] at hLL
   obtain rfl := ya hLL
   simp only at hb; subst hb
   obtain ⟨h1, h2, h3, h4, h5⟩ := hmm
   obtain ⟨vs, hvs, hcl'⟩ := h4.toList he (box?_own hbx)
   have hcl : ∀ j u, vs[j]? = some u → cl w B j = some u := fun j u hu => by rw [hcl' j (ye.1 hu).1]; exact hu
   have := zhD (P := P) (ty := ty) (xv := bx.row.all) (cap := cap) hM hm hl' c1 hE c2 (by rw [zcF, c2]) hvs hcl (by rw [zL]; exact hn) (by rw [c2]; exact hf) hsrc hnews hzv c3
   rw [zL] at this
   exact this
  | mswNil _ _ L hl hb hn =>
   obtain ⟨o, hl', hmm⟩ := (hM.box b bx hm).loc
   have hLL := hl
   rw [hl'] at hLL
   obtain rfl := ya hLL
   simp only at hb; subst hb
   have hc0 := zms hmm.2
   have hl0 : bx.row.all.len = 0 := by rw [zL]; exact hmm.1
   exact zdB hM hm hE (by rw [zcF, c2]) hl0 hc0 (ViewR.nilOf hl0 hc0) hsrc hnews hzv c3
 ·rename_i b g n
  rw [bind_some] at h; obtain ⟨bx, hbx, h⟩ := h
  rw [bind_some] at h; obtain ⟨xv, hxv, h⟩ := h
  rw [bind_some] at h; obtain ⟨zv, hzv, h⟩ := h
  rw [za] at h; obtain ⟨hc, h⟩ := h
  simp only [yb, yt] at hc
  obtain ⟨⟨c1, c2⟩, c3⟩ := hc
  have c2 := beqN.1 c2; have c3 := bleN.1 c3
  obtain rfl := ya h
  rw [zH]
  obtain ⟨hm, rfl⟩ := box?_some hbx
  have he := (hM.box b bx hm).e
  have hxl := zpW he hxv
  have hxe := zpn hxv
  cases hx with
  | ms _ _ _ _ cap L B hl hb hn hon hf =>
   obtain ⟨o, hl', hmm⟩ := (hM.box b bx hm).loc
   have hLL := hl
   rw [hl'] at hLL
   obtain rfl := ya hLL
   simp only at hb; subst hb
   obtain ⟨h1, h2, h3, h4, h5⟩ := hmm
   obtain ⟨vs, hvs, hcl'⟩ := h4.toList he (box?_own hbx)
   have hcl : ∀ j u, vs[j]? = some u → cl w B j = some u := fun j u hu => by rw [hcl' j (ye.1 hu).1]; exact hu
   have hsub := zec he hxv hvs
   simp only [yy] at hf
   have hw0 : ViewR G w xv (vs.take (n * bx.row.e)) := by simpa using hsub.1
   have := zhD (P := P) (ty := ty) (cap := cap) hM hm hl' c1 hE c2 (by rw [hxe, c2]) hw0
    (fun j u hu => by
     refine hcl j u ?_
     have hj := (ye.1 hu).1
     rw [yn2] at hj
     rw [yj1, if_pos (by omega)] at hu; exact hu) (by rw [hxl]; exact hn) (by rw [c2]; exact hf) hsrc hnews hzv c3
   rw [hxl] at this
   simp only [yd3]
   exact this
  | msNil _ _ L hl hb =>
   obtain ⟨o, hl', hmm⟩ := (hM.box b bx hm).loc
   have hLL := hl
   rw [hl'] at hLL
   obtain rfl := ya hLL
   simp only at hb; subst hb
   have hc0 := zkX hxv hmm.2
   exact zdB hM hm hE (by rw [hxe, c2]) hxl hc0 (ViewR.nilOf hxl hc0) hsrc hnews hzv c3
  | msZ _ _ _ B oo L hl hb ho hon => omega
 ·simp at h
end
end Go.Ab
end
section
namespace Go.Ab
variable [GTab]
def flat (us : List Value) : List Value := us.flatMap fun u => u.cells.toList
theorem zav (u : Value) (us : List Value) : flat (u :: us) = u.cells.toList ++ flat us := by simp [flat]
theorem zaq {e : Nat} : ∀ {us : List Value}, (∀ u ∈ us, u.cells.size = e) → (flat us).length = us.length * e
 | [], _ => by simp [flat]
 | u :: us, h => by
  rw [zav, yi1, zaq (fun x hx => h x (yi _ hx)), yt1, h u (yn ..), yh2, yk1]
  omega
theorem zcG {e : Nat} : ∀ {us : List Value} {i c : Nat} {u : Value}, (∀ u ∈ us, u.cells.size = e) → us[i]? = some u → c < e → (flat us)[i * e + c]? = u.cells.toList[c]?
 | [], i, c, u, h, hi, hc => by simp at hi
 | v :: us, 0, c, u, h, hi, hc => by
  simp at hi; subst hi
  rw [zav, yd3, yy, yp (by rw [yt1, h v (yn ..)]; exact hc)]
 | v :: us, i + 1, c, u, h, hi, hc => by
  have hv := h v (yn ..)
  rw [zav, yu (by rw [yt1, hv, yk1]; omega), yt1, hv, show (i + 1) * e + c - e = i * e + c by rw [yk1]; omega]
  exact zcG (fun x hx => h x (yi _ hx)) (by simpa using hi) hc
theorem zli {us : List Value} {x : Value} (h : x ∈ flat us) : ∃ u ∈ us, x ∈ u.cells.toList := List.mem_flatMap.1 h
theorem zdu : ∀ {xs a b : List Value} {k : Nat}, setCellsV (a ++ b) (a.length + k) xs = a ++ setCellsV b k xs
 | [], a, b, k => rfl
 | x :: xs, a, b, k => by
  simp only [setCellsV]
  rw [List.set_append_right _ _ (by omega), yh3, yc3]
  exact zdu
theorem zdI : ∀ {xs a b : List Value} {p : List Value}, xs.length = a.length → setCellsV (p ++ (a ++ b)) p.length xs = p ++ (xs ++ b)
 | [], a, b, p, h => by
  have := yo h.symm
  subst this; simp [setCellsV]
 | x :: xs, [], b, p, h => by simp at h
 | x :: xs, y :: a, b, p, h => by
  simp only [setCellsV]
  rw [List.set_append_right _ _ (by omega), Nat.sub_self]
  simp only [yv2, List.set_cons_zero]
  have := zdI (xs := xs) (a := a) (b := b) (p := p ++ [x]) (by simpa using h)
  simpa using this
theorem zmn {e : Nat} : ∀ {us : List Value} {i : Nat} {v : Value}, (∀ u ∈ us, u.cells.size = e) → v.cells.size = e → i < us.length → setCellsV (flat us) (i * e) v.cells.toList = flat (us.set i v)
 | [], i, v, h, hv, hi => by simp at hi
 | u :: us, 0, v, h, hv, hi => by
  have := zdI (xs := v.cells.toList) (a := u.cells.toList) (b := flat us) (p := []) (by simp [hv, h u (yn ..)])
  rw [List.set_cons_zero, zav, zav, yd3]; exact this
 | u :: us, i + 1, v, h, hv, hi => by
  have hu := h u (yn ..)
  rw [List.set_cons_succ, zav, zav, show (i + 1) * e = u.cells.toList.length + i * e by rw [yt1, hu, yk1]; omega, zdu,
   zmn (fun x hx => h x (yi _ hx)) hv (by simpa using hi)]
def setElsV (us : List Value) : List (Nat × Value) → List Value
 | [] => us
 | (i, v) :: r => setElsV (us.set i v) r
theorem zdS : ∀ {qs : List (Nat × Value)} {us : List Value}, (setElsV us qs).length = us.length
 | [], us => rfl
 | (i, v) :: r, us => by rw [setElsV, zdS]; simp
theorem zcg {e : Nat} : ∀ {qs : List (Nat × Value)} {us : List Value}, (∀ u ∈ us, u.cells.size = e) → (∀ q ∈ qs, q.2.cells.size = e) → ∀ u ∈ setElsV us qs, u.cells.size = e
 | [], us, h, _ => h
 | (i, v) :: r, us, h, hq => by
  refine zcg (qs := r) (us := us.set i v) (fun u hu => ?_) (fun q hq' => hq q (yi _ hq'))
  rcases ye2 hu with h' | h'
  ·exact h u h'
  ·rw [h']; exact hq (i, v) (yn ..)
theorem zgm {s : Nat} : ∀ {qs : List (Nat × Value)} {us : List Value} {c : Array Value}, c.toList = flat us → (∀ u ∈ us, u.cells.size = s) → (∀ q ∈ qs, q.2.cells.size = s ∧ q.1 < us.length) →
  ∃ c', Instr.fill (fun i => some (i * s, s)) c qs = some c' ∧ c'.toList = flat (setElsV us qs)
 | [], us, c, hc, _, _ => ⟨c, rfl, hc⟩
 | (i, v) :: r, us, c, hc, hu, hq => by
  obtain ⟨hv, hi⟩ := hq (i, v) (yn ..)
  simp only at hv hi
  have hset : (v.cells.zipIdx.foldl (fun cs (c, j) => cs.setIfInBounds (i * s + j) c) c).toList = setCellsV c.toList (i * s) v.cells.toList := by
   have := zfW v.cells.toList (i * s) 0 c
   rw [ym1] at this
   rw [← this, ← Array.foldl_toList]
   simp
  have hsz : c.size = us.length * s := by rw [← zaq hu, ← hc]; simp
  have hle : i * s + v.cells.size ≤ c.size := by
   rw [hsz, hv]
   calc i * s + s = (i + 1) * s := by rw [yk1]; omega
    _ ≤ us.length * s := yy1 _ hi
  simp only [Instr.fill]
  rw [if_neg (by simp only [yw1, decide_eq_true_eq]; omega)]
  refine zgm (us := us.set i v) (by rw [hset, hc, zmn hu hv hi]) (fun u h => ?_) (fun q h => ⟨(hq q (yi _ h)).1, by simpa using (hq q (yi _ h)).2⟩)
  rcases ye2 h with h' | h'
  ·exact hu u h'
  ·rw [h']; exact hv
theorem zaL (z : Array Value) (hz : 1 ≤ z.size) : ∀ n, ((Array.range (n * z.size)).map (z[· % z.size]!)).toList = (List.replicate n z.toList).flatten
 | 0 => by simp
 | n + 1 => by
  have ih := zaL z hz n
  simp only [Array.toList_map, Array.toList_range] at ih ⊢
  rw [yk1, Nat.one_mul, List.range_add, yl3, ih, List.replicate_succ', List.flatten_append]
  congr 1
  simp only [List.flatten_cons, List.flatten_nil, yh1, List.map_map]
  apply List.ext_getElem
  ·simp
  ·intro j h1 h2
   simp at h1
   have : (n * z.size + j) % z.size = j := by
    rw [Nat.add_comm, Nat.add_mul_mod_self_right]; exact Nat.mod_eq_of_lt h1
   simp [this, h1]
theorem zae (n : Nat) (z : Value) : flat (List.replicate n z) = (List.replicate n z.cells.toList).flatten := by
 induction n with
 | zero => rfl
 | succ n ih => rw [List.replicate_succ, zav, ih, List.replicate_succ, List.flatten_cons]
theorem zqs {G : Gh} (hlab : ∀ B o, G.prot false B o → G.prot true B o) {β β' : Bool} (h : β' = false → β = false) {w : World} {p : PV} {v : Value} (hp : PR w (G.prot β) p v) : PR w (G.prot β') p v := by
 refine hp.mono (fun B o hb => ?_) (fun _ _ _ => rfl)
 cases β' with
 | false => rw [h rfl] at hb; exact hb
 | true => cases β with
  | true => exact hb
  | false => exact hlab _ _ hb
section
variable {P : Program}
theorem ziH {G : Gh} {w : World} {mem : Mem} {boxed : Bool} {rs : Nat} {v : View} {vs : List Value} {out : Out} {t : TypeId} (hM : MemR G w mem) (hrs : mem[rs]? = some none) (h : madeA boxed rs v = some out)
  (hv : ViewR G w v vs) (he : 1 ≤ v.e) :
  ∃ G', Gle G G' ∧ Ev G w (w.alloc (.cells vs.toArray t)) ∧ MemR G' (w.alloc (.cells vs.toArray t)) (setMem mem out.wr) ∧ VR G' (w.alloc (.cells vs.toArray t)) out.v (.slice (some ⟨w.heap.size, 0, none⟩) v.len v.len) ∧ out.push = [] := by
 have hcl : ∀ j u, vs[j]? = some u → cl (w.alloc (.cells vs.toArray t)) w.heap.size j = some u := fun j u hu => by
  rw [zaS]; simpa using hu
 unfold madeA at h
 cases boxed with
 | true =>
  simp only [yg] at h
  obtain rfl := ya h
  obtain ⟨G', rfl, hg, hev, hM', hl⟩ := ziV (row := v.row) (vs := vs) (rest := #[]) (t := t) hM hrs (by rw [zbM]; exact he) (zbv v) (by rw [zbw]; exact hv)
  rw [Array.append_empty] at hev hM'
  refine ⟨_, hg, hev, hM', ?_, rfl⟩
  have hk : VR (G.put rs 0 ⟨some w.heap.size, v.row.e, v.row.len⟩) (w.alloc (.cells vs.toArray t)) (.msw rs 0) (.slice (some ⟨w.heap.size, 0, none⟩) v.row.len v.len) := by
   refine .msw rs 0 v.len _ w.heap.size hl rfl (by simp only [zax]; exact yx _) (fun j hj => ?_)
   simp only [zbM] at hj
   have hj2 : j < vs.length := by rw [hv.1]; exact hj
   rw [hcl j _ (yf hj2)]; rfl
  rw [zax] at hk ⊢; exact hk
 | false =>
  simp only [yh] at h
  obtain ⟨a, ha, rfl⟩ := yd.1 h
  have hev := Ev.alloc G w (.cells vs.toArray t) hM.away
  have hM' := hM.new_tree hev (fun B hB => zZ hB) (by simp)
  have hgf := Gle.frz G (fun B _ => B = w.heap.size) (fun B _ h => by subst h; exact hM.own _ (yx _))
  refine ⟨_, hgf, hev, hM', ?_, rfl⟩
  exact zhb (vs := vs) (hv.mono hgf hev) ha he hcl (fun β o => .inr rfl) (yx _)
theorem zdd {G : Gh} {w : World} : ∀ {vs : List AV} {us : List Value}, LRs G w vs us → LRs G w (cellsAll vs) (flat us)
 | [], us, h => by
  have := yo h.1.symm
  subst this; exact ⟨rfl, fun j y hy => by simp [cellsAll] at hy⟩
 | v :: vs, [], h => by simp [LRs] at h
 | v :: vs, u :: us, h => by
  rw [cellsAll, zav]
  refine LRs.append (h.2 0 v rfl).cells (zdd ⟨by simpa using h.1, fun j y hy => by simpa using h.2 (j + 1) y (by simpa using hy)⟩)
theorem LRs.get {G : Gh} {w : World} {as : List AV} {vs : List Value} (h : LRs G w as vs) {j : Nat} {a : AV} (ha : as[j]? = some a) : ∃ u, vs[j]? = some u ∧ VR G w a u := by
 have hj : j < vs.length := by rw [← h.1]; exact (ye.1 ha).1
 have := h.2 j a ha
 rw [yl, yf hj] at this
 exact ⟨_, yf hj, this⟩
theorem zeO {k : IntKind} : ∀ {vs : List AV} {xs : List Int}, intsOf k vs = some xs → xs.length = vs.length ∧ ∀ (j : Nat) (x : Int), xs[j]? = some x → vs[j]? = some (.lit (.int k x))
 | [], xs, h => by simp [intsOf] at h; subst h; exact ⟨rfl, fun j x hx => by simp at hx⟩
 | v :: vs, xs, h => by
  unfold intsOf at h
  split at h
  ·simp_all
  ·rename_i k' x r heq
   obtain ⟨rfl, rfl⟩ := yz heq
   cases hk : kEq k k' with
   | false => rw [hk] at h; simp at h
   | true =>
    rw [hk] at h; simp only [yg] at h
    obtain ⟨ys, hys, rfl⟩ := yd.1 h
    rw [zaR] at hk; subst hk
    obtain ⟨hl, hh⟩ := zeO hys
    refine ⟨by simp [hl], fun j x hx => ?_⟩
    cases j with
    | zero => simp at hx; subst hx; rfl
    | succ j => simpa using hh j x (by simpa using hx)
  ·simp at h
theorem zkE {G : Gh} {w : World} {mem : Mem} {vars : Bool} {t : TypeId} {vs : List AV} {us : List Value} {r : View × List Nat} {s : Nat} (hM : MemR G w mem) (h : toView P vars mem t vs = some r) (hL : LRs G w vs us)
  (hus : ∀ u ∈ us, u.cells.size = s) (hs : 1 ≤ s) (hre : r.1.e = s) : ViewR (G.frz (InBoxes G w mem r.2)) w r.1 (flat us) ∧ r.1.len = vs.length := by
 have hfl := zaq hus
 unfold toView at h
 split at h
 ·rename_i k hk
  obtain ⟨xs, hxs, rfl⟩ := yd.1 h
  obtain ⟨hl, hh⟩ := zeO hxs
  simp only [View.e] at hre; subst hre
  have key : ∀ (i : Nat) (x : Int), xs[i]? = some x → (flat us)[i]? = some (.int k x) := by
   intro i x hx
   obtain ⟨u, hu, hvr⟩ := hL.get (hh i x hx)
   obtain rfl := hvr.lit_inv
   have := zcG hus hu (c := 0) (by omega)
   rw [ye3, ym1] at this
   exact this
  refine ⟨⟨by simp only [View.len, View.e]; rw [hfl, hl, hL.1], fun u hu => ?_, key⟩, by simpa [View.len] using hl⟩
  obtain ⟨j, hj, rfl⟩ := ys1 hu
  have hj2 : j < xs.length := by rw [hl, hL.1]; omega
  have := key j _ (yf hj2)
  rw [yf hj] at this
  rw [ya this]; rfl
 ·rw [bind_some] at h; obtain ⟨e, he, h⟩ := h
  cases vars with
  | true =>
   simp only [yg] at h
   rw [za] at h; obtain ⟨hg, h⟩ := h
   simp only [yb] at hg
   obtain rfl := ya h
   simp only [View.e] at hre; subst hre
   have hcs := zdd hL
   have hl : (cellsAll vs).length = vs.length * e := by rw [hcs.1, hfl, hL.1]
   have hcb : countBy e (cellsAll vs).length = vs.length := by rw [hl, zar (n := 0) hs]
   exact ⟨(ViewR.ofLRs hcs hg.2 (by rw [hcb]; exact hl)).mono (Gle.frz G _ hM.inBoxes) (Ev.refl G w), hcb⟩
  | false =>
   simp only [yh] at h
   obtain ⟨q, hq, rfl⟩ := yd.1 h
   simp only [View.e] at hre; subst hre
   obtain ⟨hl, hh⟩ := zdm hq
   have hlab : ∀ B o, (G.frz (InBoxes G w mem q.2.2)).prot false B o → (G.frz (InBoxes G w mem q.2.2)).prot true B o := fun B o h => h.imp (hM.lab B o) id
   have key : ∀ (i : Nat) (x : PV), q.2.1[i]? = some x → ∃ v u q1, vs[i]? = some v ∧ us[i]? = some u ∧ VR G w v u ∧ toPV P mem t v = some q1 ∧ q1.2.1 = x ∧ (∀ b ∈ q1.2.2, b ∈ q.2.2) ∧ (q.1 = false → q1.1 = false) := by
    intro i x hx
    have hi : i < vs.length := by rw [← hl]; exact (ye.1 hx).1
    obtain ⟨q1, h1, h2, h3, h4⟩ := hh i _ (yf hi)
    obtain ⟨u, hu, hvr⟩ := hL.get (yf hi)
    rw [hx] at h2
    exact ⟨_, u, q1, yf hi, hu, hvr, h1, (ya h2).symm, h3, h4⟩
   have hsz : ∀ (i : Nat) (x : PV), q.2.1[i]? = some x → x.cells.length = e := by
    intro i x hx
    obtain ⟨v, u, q1, hv, hu, hvr, h1, rfl, h3, h4⟩ := key i x hx
    obtain ⟨ql, _⟩ := zcZ hM h1 hvr
    rw [ql, hvr.cells.1, yt1]; exact hus u (yj hu)
   have hcell : ∀ (i : Nat) (x : PV) (c : Nat) (y : PV), q.2.1[i]? = some x → x.cells[c]? = some y → ∃ u, (flat us)[i * e + c]? = some u ∧ PR w ((G.frz (InBoxes G w mem q.2.2)).prot q.1) y u ∧ u.oneCell' = true := by
    intro i x c y hx hy
    have hce : c < e := by rw [← hsz i x hx]; exact (ye.1 hy).1
    obtain ⟨v, u, q1, hv, hu, hvr, h1, rfl, h3, h4⟩ := key i x hx
    obtain ⟨ql, qq⟩ := zcZ hM h1 hvr
    obtain ⟨u', hu', hpr, hone⟩ := qq c y hy
    refine ⟨u', by rw [zcG hus hu hce]; exact hu', zqs hlab h4 (hpr.mono (fun B o hb => hb.imp id (fun hi => hi.mono h3)) (fun _ _ _ => rfl)), hone⟩
   refine ⟨⟨by simp only [View.len, View.e]; rw [hfl, hl, hL.1], fun u hu => ?_, fun x hx => ?_, fun i x c y hx hy => ?_⟩, by simpa [View.len] using hl⟩
   ·obtain ⟨j, hj, rfl⟩ := ys1 hu
    have hj' := hj
    rw [hfl] at hj'
    have hi : j / e < us.length := Nat.div_lt_of_lt_mul (by rw [yj2]; exact hj')
    have hc : j % e < e := Nat.mod_lt _ hs
    have hi2 : j / e < q.2.1.length := by rw [hl, hL.1]; exact hi
    have hx := yf hi2
    have hy : j % e < (q.2.1[j / e]).cells.length := by rw [hsz _ _ hx]; exact hc
    obtain ⟨u', hu', _, hone⟩ := hcell _ _ _ _ hx (yf hy)
    have hjj : j / e * e + j % e = j := by rw [yj2]; exact Nat.div_add_mod j e
    rw [hjj, yf hj] at hu'
    rw [ya hu']; exact hone
   ·obtain ⟨j, hj, rfl⟩ := ys1 hx
    exact hsz j _ (yf hj)
   ·obtain ⟨u, hu, hpr, _⟩ := hcell i x c y hx hy
    exact ⟨u, hu, hpr⟩
theorem zeV {G : Gh} {w : World} : ∀ {ps : List (Nat × AV)} {qs : List (Nat × Value)} {vs : List AV} {us : List Value}, LRs G w vs us → PRs G w ps qs → LRs G w (setEls vs ps) (setElsV us qs)
 | [], qs, vs, us, h, hp => by
  have := yo hp.1.symm
  subst this; exact h
 | (i, v) :: r, [], vs, us, h, hp => by simp [PRs] at hp
 | (i, v) :: r, (i', u) :: qs, vs, us, h, hp => by
  obtain ⟨u', hu, hv⟩ := hp.2 0 (i, v) rfl
  simp only [yp2, Option.some.injEq, Prod.mk.injEq] at hu
  obtain ⟨rfl, rfl⟩ := hu
  exact zeV (ps := r) (qs := qs) (h.set hv) ⟨by simpa using hp.1, fun j p hpj => by simpa using hp.2 (j + 1) p (by simpa using hpj)⟩
theorem zcd : ∀ {ps : List (Nat × AV)} {vs : List AV}, (setEls vs ps).length = vs.length
 | [], vs => rfl
 | (i, v) :: r, vs => by rw [setEls, zcd]; simp
theorem zdP {e : Nat} : ∀ {vs : List AV}, sizesOk e vs = true → ∀ v ∈ vs, v.cells.length = e
 | [], _ => by simp
 | v :: vs, h => by
  simp only [sizesOk, yb] at h
  intro x hx
  rcases yn1.1 hx with rfl | hx
  ·exact beqN.1 h.1
  ·exact zdP h.2 x hx
theorem zdN {n : Nat} : ∀ {ps : List (Nat × AV)}, partsLt n ps = true → ∀ p ∈ ps, p.1 < n
 | [], _ => by simp
 | (i, v) :: r, h => by
  simp only [partsLt, yb] at h
  intro x hx
  rcases yn1.1 hx with rfl | hx
  ·exact bleN.1 h.1
  ·exact zdN h.2 x hx
end
end Go.Ab
end
section
namespace Go.Ab
variable [GTab]
theorem zdp : ∀ (l : List Int) (r : ByteArray), l.foldl (fun r n => r.push (UInt8.ofNat n.toNat)) r = ⟨r.data ++ (l.map fun n => UInt8.ofNat n.toNat).toArray⟩
 | [], r => by simp
 | b :: l, r => by
  simp only [List.foldl_cons]
  rw [zdp l]
  simp [ByteArray.push]
theorem zkO (xs : List Int) : xs.foldl (fun r n => r.push (UInt8.ofNat n.toNat)) ByteArray.empty = intsBytes xs := by
 rw [zdp]
 have he0 : ByteArray.empty.data = #[] := rfl
 simp [intsBytes, he0]
section
variable {P : Program}
theorem zhm {G : Gh} {w : World} {mem : Mem} {boxed vars : Bool} {t et : TypeId} {rs len s : Nat} {z : AV} {ps : List (Nat × AV)} {qs : Array (Nat × Value)} {wv : View × List Nat} {o : Out} (hM : MemR G w mem) (hrs : mem[rs]? = some none)
  (het : elemOf? P t = some et) (hz : zero? P et = some z) (hs : tsz P et = some s) (hg : (partsLt len ps && Nat.ble len 4096 && Nat.ble 1 s && Nat.ble s 4096 && sizesOk s (z :: ps.map (·.2))) = true)
  (hv : toView P vars mem et (setEls (List.replicate len z) ps) = some wv) (hwe : Nat.beq wv.1.e s = true) (ho : madeA (boxed || Nat.beq len 0) rs wv.1 = some o) (hp : PRs G w ps qs.toList) :
  ∃ G' w' cv, (Instr.buildSlice t len qs).run P w = .ok cv w' ∧ VR G' w' o.v cv ∧ Gle G G' ∧ Ev G w w' ∧ MemR G' w' (({ v := o.v, rd := wv.2, wr := frozenAt mem wv.2 ++ o.wr } : Out).apply mem) := by
 simp only [yb] at hg
 obtain ⟨⟨⟨⟨g1, g2⟩, g3⟩, g4⟩, g5⟩ := hg
 have g2 := bleN.1 g2; have g3 := bleN.1 g3; have g4 := bleN.1 g4; have hwe := beqN.1 hwe
 have hu : P.underlying t = some (.slice et) := by
  unfold elemOf? at het
  split at het
  ·obtain rfl := ya het; assumption
  ·simp at het
 obtain ⟨i, zv, hi, hzv, hov⟩ := zaU hz
 have his : i.size = s := by unfold tsz at hs; rw [hi] at hs; simpa using hs
 have hzr : VR G w z zv := zbh hov
 have hsz := zdP g5
 have hzs : zv.cells.size = s := by rw [← hsz z (yn ..)]; simpa using hzr.cells.1.symm
 have hL0 : LRs G w (List.replicate len z) (List.replicate len zv) := by
  refine ⟨by simp, fun j y hy => ?_⟩
  obtain ⟨hj, rfl⟩ : j < len ∧ z = y := by
   have h1 := (ye.1 hy)
   obtain ⟨h1, h2⟩ := h1
   simp at h1 h2; exact ⟨h1, h2⟩
  rw [yl, yz1, if_pos hj]; exact hzr
 have hL := zeV hL0 hp
 have hq : ∀ q ∈ qs.toList, q.2.cells.size = s ∧ q.1 < (List.replicate len zv).length := by
  intro q hq
  obtain ⟨j, hj, rfl⟩ := ys1 hq
  have hj2 : j < ps.length := by rw [hp.1]; exact hj
  obtain ⟨v, hv, hvr⟩ := hp.2 j _ (yf hj2)
  rw [yf hj] at hv
  have hqe := ya hv
  rw [hqe]
  refine ⟨?_, by simp only [List.length_replicate]; exact zdN g1 _ (yr2 hj2)⟩
  rw [← hsz (ps[j].2) (yi _ (yu2.2 ⟨_, yr2 hj2, rfl⟩))]
  simpa using hvr.cells.1.symm
 have hz1 : ∀ u ∈ List.replicate len zv, u.cells.size = s := fun u hu => by rw [(yi2.1 hu).2]; exact hzs
 have hus := zcg hz1 (fun q h => (hq q h).1)
 obtain ⟨hview, hvl⟩ := zkE hM hv hL hus g3 hwe
 have hM1 := hM.freeze wv.2
 have hg1 := Gle.frz G (InBoxes G w mem wv.2) hM.inBoxes
 have hrs1 : (setMem mem (frozenAt mem wv.2))[rs]? = some none := by
  rw [(zO mem wv.2 mem rs rfl).2.1 (.inr (fun y hy => by rw [hrs] at hy; cases hy))]; exact hrs
 obtain ⟨G', h1, h2, h3, h4, h5⟩ := ziH (t := et) hM1 hrs1 ho hview (by omega)
 have hlen : wv.1.len = len := by rw [hvl, zcd]; simp
 rw [hlen] at h4
 refine ⟨G', _, _, ?_, h4, hg1.trans h1, ?_, ?_⟩
 ·by_cases h0 : len = 0
  ·subst h0
   have hq0 : qs.toList = [] := by
    cases hh : qs.toList with
    | nil => rfl
    | cons q r => have := (hq q (by rw [hh]; exact yn ..)).2; simp at this
   rw [hq0]
   simp [Instr.buildSlice, run_underlying hu, sizeOf, typeInfo, hi, hq0, Instr.fill, newRow, setElsV, flat, Array.range_zero']
  ·have hlt : len * s ≤ 16777216 := yb2 (Nat.mul_le_mul g2 g4) (by decide)
   have hpos : 0 < len * s := Nat.mul_pos (by omega) (by omega)
   have hc0 : ((Array.range (len * i.size)).map (zv.cells[· % zv.cells.size]!)).toList = flat (List.replicate len zv) := by
    rw [his, zae]
    have := zaL zv.cells (by omega) len
    rw [hzs] at this
    rw [hzs]; exact this
   obtain ⟨c', hf, hc'⟩ := zgm hc0 hz1 hq
   have hcc : c' = (flat (setElsV (List.replicate len zv) qs.toList)).toArray := by rw [← hc']
   rw [← hcc]
   exact run_buildSlice w t et len qs c' i zv hu hi hzv (by rw [his]; omega) (by rw [his]; omega) (by rw [his] at hf ⊢; exact hf)
 ·exact (Ev.refl G w).trans hg1 h2
 ·simp only [Out.apply, yh1]
  rw [zch]; exact h3
theorem zdF {G : Gh} {w : World} {mem : Mem} {boxed : Bool} {t et : TypeId} {rs n s : Nat} {zv : Value} {v : View} {i : TypeInfo} {out : Out} {kl kc : IntKind} (hM : MemR G w mem) (hrs : mem[rs]? = some none)
  (hu : P.underlying t = some (.slice et)) (hi : P.info? et = some i) (hz : i.zero = some zv) (his : i.size = s) (hs1 : 1 ≤ s) (hib : i.bytes ≤ 4096) (hn : n ≤ mostLen) (hzs : zv.cells.size = s)
  (hv : ViewR G w v (flat (List.replicate n zv))) (hvl : v.len = n) (hve : v.e = s) (ho : madeA boxed rs v = some out) :
  ∃ G' w' cv, (Instr.makeSlice t (.int kl (n : Int)) (.int kc (n : Int))).run P w = .ok cv w' ∧ VR G' w' out.v cv ∧ Gle G G' ∧ Ev G w w' ∧ MemR G' w' (out.apply mem) := by
 obtain ⟨G', h1, h2, h3, h4, h5⟩ := ziH (t := et) hM hrs ho hv (by omega)
 have hfit := zdU hn hib
 have hrun := run_make (P := P) w t et i zv hu hi hz kl kc n n (by omega) (Int.le_refl _) (by
   have h : ((n * i.bytes : Nat) : Int) ≤ 281474976710656 := by omega
   rw [Int.natCast_mul, Int.mul_comm] at h; exact h) (by unfold mostLen at hn; omega)
 simp only [yd1] at hrun
 have hc : madeCells zv.cells (n * i.size) = (flat (List.replicate n zv)).toArray := by
  have := zaL zv.cells (by omega) n
  rw [← yg2 (xs := madeCells zv.cells (n * i.size)), zae, ← this, his]
  simp only [madeCells, hzs]
 rw [hc] at hrun
 rw [hvl] at h4
 refine ⟨G', _, _, hrun, h4, h1, h2, ?_⟩
 simp only [Out.apply, h5, yh1]; exact h3
theorem zkn {G : Gh} {w : World} {mem : Mem} {e src dst : TypeId} {x : AV} {xs : List Int} {rd : List Nat} {cv : Value} (hM : MemR G w mem) (hsrc : P.underlying src = some (.slice e)) (he : P.underlying e = some (.int .u8)) (hd : P.underlying dst = some .string)
  (hv : view P e mem x = some (.ints .u8 xs, rd)) (ht : tsz P e = some 1) (hok : srcOk P src x = true) (hx : VR G w x cv) : (convert src dst cv).run P w = .ok (.string (intsBytes xs)) w := by
 obtain ⟨news, hS, hV⟩ := zfc hM hv hx ht hok
 have hnews : news = xs.map (Value.int .u8) := by
  obtain ⟨h1, h2, h3⟩ := hV
  simp only [View.len, View.e, ye3] at h1
  refine List.ext_getElem (by simp [h1]) (fun j hj1 hj2 => ?_)
  have hj : j < xs.length := by omega
  have := h3 j _ (yf hj)
  rw [yf hj1] at this
  rw [ya this]; simp
 have hlen := hS.len w
 have hcells := hS.cells
 have hnl := hS.newsLen
 have hcv : ∃ a c, cv = .slice a xs.length c := by
  cases cv <;> simp [Builtin.lenOf] at hlen
  ·cases hx with
   | lit v h =>
    unfold srcOk at hok
    rw [hsrc] at hok
    simp at hok
   | imm β p v h hs => cases h; simp [PV.isSl] at hs
   | dead v h1 h2 => simp [view] at hv
  ·exact ⟨_, _, by rw [hlen]; rfl⟩
 obtain ⟨a, c, rfl⟩ := hcv
 rw [run_convert_bytes_string w src dst e a xs.length c hsrc he hd]
 cases a with
 | none =>
  simp [Builtin.firstCells] at hcells
  have : news = [] := by
   cases news with
   | nil => rfl
   | cons => simp at hcells
  rw [this] at hnews
  have : xs = [] := List.map_eq_nil_iff.1 hnews.symm
  subst this; rfl
 | some a =>
  simp only [Builtin.firstCells, View.e, View.len, ye3] at hcells
  rw [run_bytesToString w a _ c xs (by rw [← hnews]; exact hcells), zkO]
end
end Go.Ab
end
section
namespace Go.Ab
variable [GTab]
theorem arr1 {vs : Array Value} (h : vs.size = 1) : ∃ x, vs = #[x] := by
 obtain ⟨l⟩ := vs
 match l, h with
 | [x], _ => exact ⟨x, rfl⟩
theorem arr2 {vs : Array Value} (h : vs.size = 2) : ∃ x y, vs = #[x, y] := by
 obtain ⟨l⟩ := vs
 match l, h with
 | [x, y], _ => exact ⟨x, y, rfl⟩
section
variable {P : Program}
def OpW (P : Program) (G : Gh) (w : World) (mem : Mem) (o : Oper) (a : Act) (out : Out) : Prop :=
 ∀ (K : Act → World → Prop) (Q : Exit → Act → World → Prop), (∀ G' w' cv, VR G' w' out.v cv → Gle G G' → Ev G w w' → MemR G' w' (out.apply mem) → K (a.put o.dst cv) w') → o.wp P a w K Q
def CallsW (P : Program) (G : Gh) (w : World) (mem : Mem) (g : FuncId) (args : Array Value) (out : Out) : Prop :=
 (callFunc g args).run P w = .ok (.enter g args) w ∧
 Calls P g args w fun e w' => ∃ G' cv, e = .returned cv ∧ VR G' w' out.v cv ∧ Gle G G' ∧ Ev G w w' ∧ MemR G' w' (out.apply mem)
variable {G : Gh} {w : World} {mem : Mem} {o : Oper} {a : Act} {out : Out}
theorem OpDone.opW (h : OpDone P G w mem o a out) : OpW P G w mem o a out := by
 intro K Q hK
 obtain ⟨G', w', nx, cv, hrun, hnx, hv, hg, hev, hM⟩ := h
 unfold Oper.wp
 rw [hrun]
 rcases hnx with rfl | ⟨rfl, rfl⟩
 ·exact hK G' w' cv hv hg hev hM
 ·exact hK G' w' undef hv hg hev hM
theorem OpW.value {s : Sem Value} (he : execOp a.eval o = (do pure (Next.value (← s))))
  (h : ∃ G' w' cv, s.run P w = .ok cv w' ∧ VR G' w' out.v cv ∧ Gle G G' ∧ Ev G w w' ∧ MemR G' w' (out.apply mem)) : OpW P G w mem o a out := by
 obtain ⟨G', w', cv, hrun, hv, hg, hev, hM⟩ := h
 refine OpDone.opW ⟨G', w', .value cv, cv, ?_, .inl rfl, hv, hg, hev, hM⟩
 rw [he]
 simp only [Sem.run_bind, hrun, Result.andThen_ok, Sem.run_pure]
theorem OpW.still {s : Sem Value} (hM : MemR G w mem) (he : execOp a.eval o = (do pure (Next.value (← s)))) {cv : Value} (hw : out.wr = []) (hp : out.push = [])
  (hrun : s.run P w = .ok cv w) (hv : VR G w out.v cv) : OpW P G w mem o a out :=
 OpW.value he ⟨G, w, cv, hrun, hv, Gle.refl G, Ev.refl G w, by simp only [Out.apply, hw, hp, setMem, yh1]; exact hM⟩
theorem OpW.plain (hM : MemR G w mem) {cv : Value} (he : execOp a.eval o = pure (Next.value cv)) (hw : out.wr = []) (hp : out.push = []) (hv : VR G w out.v cv) : OpW P G w mem o a out :=
 OpDone.opW ⟨G, w, .value cv, cv, by rw [he]; simp, .inl rfl, hv, Gle.refl G, Ev.refl G w, by simp only [Out.apply, hw, hp, setMem, yh1]; exact hM⟩
theorem zbz {ρ : Operand → Option AV} (hρ : EvR G w ρ a) {x : Option Operand} {r : Option Int} (h : optA ρ x = some r) : OptR r (x.map a.eval) := by
 cases x with
 | none => simp [optA] at h; subst h; exact trivial
 | some x =>
  simp only [optA] at h
  rw [bind_some] at h; obtain ⟨v, hv, h⟩ := h
  unfold optInt at h
  split at h
  ·simp at *
  ·rename_i k n heq
   obtain rfl := ya heq
   obtain rfl := ya h
   have := (hρ x _ hv).lit_inv
   exact ⟨k, by simp [this]⟩
  ·simp at h
theorem zbI {t et : TypeId} (h : elemOf? P t = some et) : P.underlying t = some (.slice et) := by
 unfold elemOf? at h
 split at h
 ·obtain rfl := ya h; assumption
 ·simp at h
theorem zbO {l : List Nat} (h : emptyN l = true) : l = [] := by cases l <;> simp_all [emptyN]
theorem znc {k : IntKind} {z : AV} {zv : Value} {zs : List Int} {n : Nat} (h : intsOf k [z] = some zs) (hz : VR G w z zv) : ViewR G w (.ints k (List.replicate n (zs.headD 0))) (flat (List.replicate n zv)) ∧ zv.cells.size = 1 := by
 obtain ⟨hl, hh⟩ := zeO h
 obtain ⟨x, rfl⟩ : ∃ x, zs = [x] := by
  match zs, hl with
  | [x], _ => exact ⟨x, rfl⟩
 have := hh 0 x rfl
 simp at this
 subst this
 obtain rfl := hz.lit_inv
 have hf : flat (List.replicate n (Value.int k x)) = List.replicate n (.int k x) := by
  rw [zae]
  have hc : (Value.int k x).cells.toList = [.int k x] := rfl
  rw [hc]
  induction n with
  | zero => rfl
  | succ n ih => rw [List.replicate_succ, List.flatten_cons, ih, List.replicate_succ]; rfl
 rw [hf]
 refine ⟨⟨by simp [View.len, View.e], fun u hu => by rw [(yi2.1 hu).2]; rfl, fun i y hy => ?_⟩, rfl⟩
 simp only [List.headD_cons] at hy
 rw [yz1] at hy ⊢
 split at hy
 ·rw [if_pos (by assumption)]; rw [← ya hy]
 ·simp at hy
theorem zjH {t : TypeId} {z : AV} {zv : Value} {q : Bool × PV × List Nat} {n e : Nat} (hM : MemR G w mem) (h : toPV P mem t z = some q) (hz : VR G w z zv) (he : z.cells.length = e) (h1 : 1 ≤ e) (hq : q.2.2 = []) :
  ViewR G w (.pvs q.1 e (List.replicate n q.2.1)) (flat (List.replicate n zv)) ∧ zv.cells.size = e := by
 obtain ⟨ql, qq⟩ := zcZ hM h hz
 have hsz : zv.cells.size = e := by rw [← he]; simpa using hz.cells.1.symm
 have hall : ∀ u ∈ List.replicate n zv, u.cells.size = e := fun u hu => by rw [(yi2.1 hu).2]; exact hsz
 have hfl := zaq hall
 have hcell : ∀ (i : Nat) (x : PV) (c : Nat) (y : PV), (List.replicate n q.2.1)[i]? = some x → x.cells[c]? = some y → ∃ u, (flat (List.replicate n zv))[i * e + c]? = some u ∧ PR w (G.prot q.1) y u ∧ u.oneCell' = true := by
  intro i x c y hx hy
  rw [yz1] at hx
  split at hx
  ·rename_i hi
   obtain rfl := ya hx
   have hce : c < e := by rw [← he, ← ql]; exact (ye.1 hy).1
   obtain ⟨u, hu, hpr, hone⟩ := qq c y hy
   refine ⟨u, by rw [zcG hall (u := zv) (by rw [yz1, if_pos hi]) hce]; exact hu, hpr.mono (fun B o hb => ?_) (fun _ _ _ => rfl), hone⟩
   rcases hb with hb | ⟨b, hb, _⟩
   ·exact hb
   ·rw [hq] at hb; simp at hb
  ·simp at hx
 refine ⟨⟨by simp only [View.len, View.e]; rw [hfl]; simp, fun u hu => ?_, fun x hx => by rw [(yi2.1 hx).2, ql, he], fun i x c y hx hy => ?_⟩, hsz⟩
 ·obtain ⟨v, hv, hu⟩ := zli hu
  rw [(yi2.1 hv).2] at hu
  obtain ⟨j, hj, rfl⟩ := ys1 hu
  have hj2 : j < q.2.1.cells.length := by rw [ql, he, ← hsz]; simpa using hj
  obtain ⟨u, hu, _, hone⟩ := qq j _ (yf hj2)
  rw [yf hj] at hu
  rw [ya hu]; exact hone
 ·obtain ⟨u, hu, hpr, _⟩ := hcell i x c y hx hy
  exact ⟨u, hu, hpr⟩
theorem zny {t tx ty : TypeId} {rs : Nat} {n : Int} {kn : IntKind} (hM : MemR G w mem) (hrs : mem[rs]? = some none) (h : zappA P t tx mem rs n = some out) :
  ∃ G' w' cv, (Builtin.append_ #[t, tx] ty #[.slice none 0 0, .int kn n]).run P w = .ok cv w' ∧ VR G' w' out.v cv ∧ Gle G G' ∧ Ev G w w' ∧ MemR G' w' (out.apply mem) := by
 unfold zappA at h
 split at h
 ·rename_i kx hkx
  rw [bind_some] at h; obtain ⟨et, het, h⟩ := h
  rw [bind_some] at h; obtain ⟨z, hz, h⟩ := h
  split at h
  ·rw [bind_some] at h; obtain ⟨q, hq, h⟩ := h
   rw [bind_some] at h; obtain ⟨e, he, h⟩ := h
   rw [bind_some] at h; obtain ⟨bytes, hby, h⟩ := h
   rw [za] at h; obtain ⟨hg, h⟩ := h
   simp only [yb, decide_eq_true_eq] at hg
   obtain ⟨⟨g0, gm⟩, ⟨⟨g1, g2⟩, g3⟩, g4⟩ := hg
   have gm := bleN.1 gm; have g1 := bleN.1 g1; have g2 := bleN.1 g2; have g3 := beqN.1 g3; have g4 := zbO g4
   obtain rfl := ya h
   obtain ⟨i, zv, hi, hzv, hov⟩ := zaU hz
   have hzr : VR G w z zv := zbh hov
   obtain ⟨m, rfl⟩ : ∃ m : Nat, n = (m : Int) := ⟨n.toNat, by omega⟩
   rw [yd1] at gm ⊢
   obtain ⟨hv, hsz⟩ := zjH (n := m) hM hq hzr g3 g1 g4
   have his : i.size = e := by unfold tsz at he; rw [hi] at he; simpa using he
   have hib : i.bytes ≤ 4096 := by unfold tbytes at hby; rw [hi] at hby; simp at hby; omega
   have hfit := zdU gm hib
   have hrun := Lib.run_append_nil_zeros (P := P) w t tx ty et i zv kn kx (zbI het) hkx hi hzv m (by omega) (by omega) (by unfold mostLen at gm; omega) (by omega)
   have hrc := zaL zv.cells (by omega) m
   have hc : Builtin.zeroCells zv.cells m = (flat (List.replicate m zv)).toArray := by
    rw [← yg2 (xs := Builtin.zeroCells zv.cells m), zae, ← hrc]
    rfl
   have hcap : m ≤ grownCap w m 0 et := grownCap_ge w _ _ _
   rw [hc] at hrun
   have hMd := hM.ev (Ev.drew G w) (.inl rfl) (fun B _ => rfl)
   have hvd : ViewR G w.drew (Row.pvs q.1 e (List.replicate m q.2.1)).all (flat (List.replicate m zv)) := hv.mono (Gle.refl G) (Ev.drew G w)
   obtain ⟨G', rfl, hg', hev, hM', hl⟩ := ziV (row := .pvs q.1 e (List.replicate m q.2.1)) (vs := flat (List.replicate m zv)) (rest := Builtin.zeroCells zv.cells (grownCap w m 0 et - m)) (t := et) hMd hrs g1 rfl hvd
   have hfl : (flat (List.replicate m zv)).length = m * e := by
    rw [zaq (e := e) (us := List.replicate m zv) (fun u hu => by rw [(yi2.1 hu).2]; exact hsz)]; simp
   refine ⟨_, _, _, hrun, ?_, hg', (Ev.drew G w).trans (Gle.refl G) hev, by simpa [Out.apply, setMem] using hM'⟩
   generalize grownCap w m 0 et = C at hcap hrun ⊢
   have hk : VR (G.put rs 0 ⟨some w.drew.heap.size, (Row.pvs q.1 e (List.replicate m q.2.1)).e, (Row.pvs q.1 e (List.replicate m q.2.1)).len⟩) (w.drew.alloc (.cells ((flat (List.replicate m zv)).toArray ++ Builtin.zeroCells zv.cells (C - m)) et)) (.msw rs 0) (.slice (some ⟨w.heap.size, 0, none⟩) m C) := by
    have := VR.msw (G := G.put rs 0 ⟨some w.drew.heap.size, (Row.pvs q.1 e (List.replicate m q.2.1)).e, (Row.pvs q.1 e (List.replicate m q.2.1)).len⟩) (w := w.drew.alloc (.cells ((flat (List.replicate m zv)).toArray ++ Builtin.zeroCells zv.cells (C - m)) et)) rs 0 C _ w.drew.heap.size (Gh.put_self ..) rfl (by simp [Row.len]; exact hcap) (fun j hj => by
     rw [zaS]
     simp only [Row.e] at hj
     have hjs : j < ((flat (List.replicate m zv)).toArray ++ Builtin.zeroCells zv.cells (C - m)).size := by
      simp only [Array.size_append, List.size_toArray, size_zeroCells, hfl, hsz]
      rw [← yk1]
      exact yx1 hj (yy1 _ (by omega))
     rw [yp1 hjs]; rfl)
    simpa [Row.len] using this
   exact hk
  ·cases h
 ·cases h
theorem ziS {boxed vars : Bool} {b : Builtin} {ts : Array TypeId} {ty : TypeId} {consts : Array Bool} {rs : Nat} {args : List AV} {vs : Array Value} (hM : MemR G w mem) (hrs : b = .append → mem[rs]? = some none)
  (h : builtinA P boxed vars b ts.toList mem rs args = some out) (hv : VRs G w args vs) :
  ∃ s : Sem Value, builtin b ts ty consts vs = (do pure (Next.value (← s))) ∧ ∃ G' w' cv, s.run P w = .ok cv w' ∧ VR G' w' out.v cv ∧ Gle G G' ∧ Ev G w w' ∧ MemR G' w' (out.apply mem) := by
 have gd : ∀ j, vs.getD j undef = vs.toList.getD j undef := fun j => (zS vs j).symm
 unfold builtinA at h
 split at h
 ·rename_i t x hts
  obtain ⟨n, hn, rfl⟩ := yd.1 h
  have hts' : ts = #[t] := by rw [← hts, yg2]
  obtain ⟨x', rfl⟩ := arr1 hv.1.symm
  have hx := hv.2 0 x rfl
  simp at hx
  subst hts'
  exact ⟨_, rfl, G, w, _, zlZ hM hn hx, .lit _ rfl, Gle.refl G, Ev.refl G w, by simpa [Out.apply, setMem] using hM⟩
 ·rename_i t tx kn n hts
  have hts' : ts = #[t, tx] := by rw [← hts, yg2]
  obtain ⟨x', y', rfl⟩ := arr2 hv.1.symm
  have hx := hv.2 0 _ rfl
  have hy := hv.2 1 _ rfl
  simp at hx hy
  obtain rfl := hx.lit_inv
  obtain rfl := hy.lit_inv
  subst hts'
  exact ⟨_, rfl, zny hM (hrs rfl) h⟩
 ·rename_i t tx x y hno hts
  have hts' : ts = #[t, tx] := by rw [← hts, yg2]
  obtain ⟨x', y', rfl⟩ := arr2 hv.1.symm
  have hx := hv.2 0 x rfl
  have hy := hv.2 1 y rfl
  simp at hx hy
  subst hts'
  exact ⟨_, rfl, zjf hM (hrs rfl) h hx hy⟩
 ·rename_i t hts
  have hts' : ts = #[t] := by rw [← hts, yg2]
  obtain ⟨x', rfl⟩ := arr1 hv.1.symm
  have hx := hv.2 0 _ rfl
  simp at hx
  obtain rfl := hx.lit_inv
  subst hts'
  split at h
  ·rename_i et hu
   obtain rfl := ya h
   exact ⟨_, rfl, G, w, .int .i64 0, by simp [Builtin.cap_, run_underlying hu, goInt], .lit _ rfl, Gle.refl G, Ev.refl G w, by simpa [Out.apply, setMem] using hM⟩
  ·cases h
 ·rename_i k a r
  obtain ⟨v, hv1, rfl⟩ := yd.1 h
  have hx := hv.2 0 _ rfl
  obtain ⟨x', vr, hvs⟩ : ∃ x' vr, vs.toList = x' :: vr := by
   cases hh : vs.toList with
   | nil => have := hv.1; rw [← yt1, hh] at this; simp at this
   | cons x' vr => exact ⟨x', vr, rfl⟩
  rw [gd, hvs] at hx
  obtain rfl := hx.lit_inv
  have := zdE (P := P) (G := G) (w := w) (op := Builtin.min2) (f := minA k) (k := k) (fun a b => by simp [Builtin.min2, minA, Bool.cond_decide]) hv1
   ⟨by have := hv.1; rw [← yt1, hvs] at this; simpa using this, fun j y hy => by have := hv.2 (j + 1) y (by simpa using hy); rw [gd, hvs] at this; simpa using this⟩
  refine ⟨_, rfl, G, w, .int k v, ?_, .lit _ rfl, Gle.refl G, Ev.refl G w, by simpa [Out.apply, setMem] using hM⟩
  simp only [Builtin.min_, hvs]
  exact this
 ·rename_i k a r
  obtain ⟨v, hv1, rfl⟩ := yd.1 h
  have hx := hv.2 0 _ rfl
  obtain ⟨x', vr, hvs⟩ : ∃ x' vr, vs.toList = x' :: vr := by
   cases hh : vs.toList with
   | nil => have := hv.1; rw [← yt1, hh] at this; simp at this
   | cons x' vr => exact ⟨x', vr, rfl⟩
  rw [gd, hvs] at hx
  obtain rfl := hx.lit_inv
  have := zdE (P := P) (G := G) (w := w) (op := Builtin.max2) (f := maxA k) (k := k) (fun a b => by simp [Builtin.max2, maxA, Bool.cond_decide]) hv1
   ⟨by have := hv.1; rw [← yt1, hvs] at this; simpa using this, fun j y hy => by have := hv.2 (j + 1) y (by simpa using hy); rw [gd, hvs] at this; simpa using this⟩
  refine ⟨_, rfl, G, w, .int k v, ?_, .lit _ rfl, Gle.refl G, Ev.refl G w, by simpa [Out.apply, setMem] using hM⟩
  simp only [Builtin.max_, hvs]
  exact this
 ·simp at h
theorem MemR.sameCells {G : Gh} {w w1 : World} {mem : Mem} (hM : MemR G w mem) (hev : Ev G w w1) (hc : ∀ B o, cl w1 B o = cl w B o) (hs : w1.heap.size = w.heap.size) (hf : ∀ B, Free w B → Free w1 B) : MemR G w1 mem where
 box b x h := by
  have hx := hM.box b x h
  obtain ⟨o, hl, hm⟩ := hx.loc
  refine ⟨hx.e, o, hl, ?_⟩
  cases o with
  | none => exact hm
  | some B =>
   obtain ⟨hm1, hm2, hm3, hm4, hm5⟩ := hm
   exact ⟨hm1, by rw [hs]; exact hm2, hf B hm3, hm4.mono (Gle.refl G) hev (fun o _ => hc B o) (fun i c B' hi => ⟨⟨hc B', hf B'⟩, (hM.inn h ⟨_, hl, rfl⟩ hi).2.2.2⟩), hm5⟩
 unset := hM.unset
 gens := hM.gens
 apart := hM.apart
 inA b b' x x' B i c B' h k hi h' := hM.inA b b' x x' B i c B' h k (hi.same (hc B)) h'
 inB b b' x x' B C i c i' c' B' h k hi h' k' hi' := hM.inB b b' x x' B C i c i' c' B' h k (hi.same (hc B)) h' k' (hi'.same (hc C))
 own B h := hM.own B (by rw [← hs]; exact h)
 lab := hM.lab
 away β B o h := by rw [hs]; exact hM.away β B o h
 glob := hM.glob.mono (fun _ _ h => h) (hev.prot true)
theorem markEnd {w : World} {B : Nat} (hf : Free w B) :
  ∃ w1, (∀ k, (markStringish ⟨B, k, none⟩).run P w = .ok () w1) ∧ (∀ B' o, cl w1 B' o = cl w B' o) ∧ w1.heap.size = w.heap.size ∧ w1.output = w.output ∧ w1.os = w.os ∧ w1.tape = w.tape ∧ (∀ B', B' ≠ B → w1.heap[B']? = w.heap[B']?) ∧
   (∀ B', Free w B' → Free w1 B') := by
 obtain ⟨c, el, lo, hi, hb, hr⟩ := hf
 refine ⟨w.freeze ⟨B, c.size, none⟩ 1, fun k => ?_, ?_⟩
 ·simp [markStringish, World.shape?, hb]
 have hh : (w.freeze ⟨B, c.size, none⟩ 1).heap[B]? = some (.cells c el (if lo == hi then (c.size, c.size + 1) else (min lo c.size, max hi (c.size + 1)))) := by
  unfold World.freeze
  rw [if_neg (by decide)]
  simp only [Array.getElem?_modify, if_true, hb, yk]
 have hne : ∀ B', B' ≠ B → (w.freeze ⟨B, c.size, none⟩ 1).heap[B']? = w.heap[B']? := fun B' e => by
  unfold World.freeze
  rw [if_neg (by decide)]
  simp only [Array.getElem?_modify]
  rw [if_neg (fun h => e h.symm)]
 have hsz : (w.freeze ⟨B, c.size, none⟩ 1).heap.size = w.heap.size := by
  unfold World.freeze
  rw [if_neg (by decide)]
  simp
 refine ⟨fun B' o => ?_, hsz, rfl, rfl, rfl, hne, fun B' hf => ?_⟩
 ·by_cases e : B' = B
  ·subst e; unfold cl World.cell?; simp [hh, hb]
  ·exact zI (hne B' e) o
 ·by_cases e : B' = B
  ·subst e
   by_cases h : lo = hi
   ·exact ⟨c, el, c.size, c.size + 1, by rw [hh]; simp [h], .inr (yx _)⟩
   ·have hle : c.size ≤ lo := hr.resolve_left h
    exact ⟨c, el, min lo c.size, max hi (c.size + 1), by rw [hh]; simp [h], .inr (by omega)⟩
  ·exact hf.of_heap (hne B' e)
theorem ziI {boxed : Bool} {src dst : TypeId} {rs : Nat} {x : AV} {cv : Value} (hM : MemR G w mem) (h : convertA P boxed src dst mem rs x = some out) (hx : VR G w x cv) :
  ∃ G' w' r, (convert src dst cv).run P w = .ok r w' ∧ VR G' w' out.v r ∧ Gle G G' ∧ Ev G w w' ∧ MemR G' w' (out.apply mem) := by
 have still : ∀ {o : Out} {r : Value}, o.wr = [] → o.push = [] → (convert src dst cv).run P w = .ok r w → VR G w o.v r →
   ∃ G' w' r, (convert src dst cv).run P w = .ok r w' ∧ VR G' w' o.v r ∧ Gle G G' ∧ Ev G w w' ∧ MemR G' w' (o.apply mem) :=
  fun h1 h2 hr hv => ⟨G, w, _, hr, hv, Gle.refl G, Ev.refl G w, by simp only [Out.apply, h1, h2, setMem, yh1]; exact hM⟩
 unfold convertA at h
 split at h
 ·rename_i k1 k n kk hs hd
  obtain rfl := ya h
  obtain rfl := hx.lit_inv
  exact still rfl rfl (by simp [convert, run_underlying hs, run_underlying hd, Conv.intToInt]) (.lit _ rfl)
 ·rename_i s hs hd
  obtain rfl := ya h
  obtain rfl := hx.lit_inv
  exact still rfl rfl (by simp [convert, run_underlying hs, run_underlying hd]) (.lit _ rfl)
 ·rename_i e hs hd
  split at h
  ·rename_i he
   rw [bind_some] at h; obtain ⟨v, hv, h⟩ := h
   rw [za] at h; obtain ⟨hg, h⟩ := h
   simp only [yb] at hg
   obtain ⟨vw, rd⟩ := v
   simp only at h hv
   split at h
   ·rename_i xs
    obtain rfl := ya h
    have ht : tsz P e = some 1 := by
     have := hg.2
     split at this
     ·assumption
     ·simp at this
    exact still rfl rfl (zkn hM hs he hd hv ht hg.1 hx) (.lit _ rfl)
   ·simp at h
  ·simp at h
 ·rename_i e0 e b g hs hd
  split at h
  ·rename_i he
   rw [za] at h; obtain ⟨hsd, h⟩ := h
   rw [bind_some] at h; obtain ⟨bx, hbx, h⟩ := h
   rw [za] at h; obtain ⟨h1, h⟩ := h
   obtain rfl := ya h
   have hsd := beqN.1 hsd
   have h1 := bleN.1 h1
   have hbx' := box?_some hbx
   obtain ⟨o, hl, hm⟩ := (hM.box b bx hbx'.1).loc
   rw [hbx'.2] at hl
   have hfree : ∃ B cap, cv = .slice (some ⟨B, 0, none⟩) bx.row.len cap ∧ G.mine B ∧ Free w B := by
    cases hx with
    | msw _ _ cap L B hl2 hb hn hf =>
     rw [hl] at hl2
     obtain rfl := ya hl2
     simp only at hb; subst hb
     exact ⟨B, cap, rfl, hm.1, hm.2.2.1⟩
    | mswNil _ _ L hl2 hb hn =>
     rw [hl] at hl2
     obtain rfl := ya hl2
     simp only at hn; omega
   obtain ⟨B, cap, rfl, hmine, hF⟩ := hfree
   obtain ⟨w1, hrun, hc, hsz, ho, hos, htp, hne, hfr⟩ := markEnd (P := P) hF
   have hev : Ev G w w1 := ⟨by rw [hsz]; exact yx _, ho, hos, fun B' _ hn => hne B' (fun e => hn (by rw [e]; exact hmine)), fun B' j hs => by rw [hc]; exact hs, fun _ B' j _ => hc B' j,
    fun B' j hj => by
     by_cases e : B' = B
     ·subst e; rw [hF.cell hj, (hfr _ hF).cell (by rw [hc]; exact hj)]
     ·exact ziB (hne B' e) j, htp⟩
   refine ⟨G, w1, _, ?_, hx.mono (Gle.refl G) hev, Gle.refl G, hev, by simp only [Out.apply, setMem, yh1]; exact hM.sameCells hev hc hsz hfr⟩
   subst hsd
   simp [convert, run_underlying hs, run_underlying he, hrun] <;> simp_all [run_underlying]
  ·simp at h
 ·simp at h
end
end Go.Ab
end
section
namespace Go.Ab
variable [GTab]
section
variable {P : Program}
variable {G : Gh} {w : World} {mem : Mem} {o : Oper} {a : Act} {out : Out}
theorem zmi {c x y r : AV} {cc cx cy : Value} (h : pickA c x y = some r) (hc : VR G w c cc) (hx : VR G w x cx) (hy : VR G w y cy) :
  ∃ t, cc = .bool t ∧ VR G w r (if t then cx else cy) := by
 unfold pickA at h
 split at h
 ·rename_i t
  obtain rfl := hc.lit_inv
  refine ⟨t, rfl, ?_⟩
  split at h
  ·obtain rfl := ya h
   obtain rfl := hx.lit_inv
   obtain rfl := hy.lit_inv
   cases t <;> exact .lit _ rfl
  ·cases t with
   | true => simp only [yg] at h; obtain rfl := ya h; exact hx
   | false => simp only [yh] at h; obtain rfl := ya h; exact hy
 ·simp at h
theorem zgo {x : Operand} (h : isNilC x = true) : x = .const (.slice none 0 0) := by
 unfold isNilC at h
 split at h
 ·rfl
 ·cases h
theorem zfh {t : TypeId} {p : PV} (h : emptyPV P t = some p) : (∃ k, p = .ints k []) ∨ ∃ e, p = .sl e [] ∧ 1 ≤ e := by
 unfold emptyPV at h
 rw [bind_some] at h; obtain ⟨et, _, h⟩ := h
 split at h
 ·rename_i k _; exact .inl ⟨k, (ya h).symm⟩
 ·rw [bind_some] at h; obtain ⟨e, _, h⟩ := h
  rw [za] at h
  exact .inr ⟨e, (ya h.2).symm, bleN.1 h.1⟩
theorem ziN {boxed vars : Bool} {ρ : Operand → Option AV} {rs : Nat} {t : TypeId} {x : Operand} (hM : MemR G w mem) (hrs : isNilC x = true → mem[rs]? = some none) (hρ : EvR G w ρ a)
  (he : execOp a.eval o = pure (Next.value (a.eval x))) (h : opMove P boxed vars ρ t rs x = some out) : OpW P G w mem o a out := by
 unfold opMove at h
 cases hc : (isNilC x && boxed && !vars) with
 | true =>
  rw [hc] at h; simp only [yg] at h
  simp only [yb] at hc
  obtain rfl := zgo hc.1.1
  rw [bind_some] at h; obtain ⟨p, hp, h⟩ := h
  obtain ⟨row, hrow, rfl⟩ := yd.1 h
  have hm := hrs rfl
  have hbl : rs < mem.length := by
   rcases yc2 rs mem.length with h | h
   ·exact h
   ·rw [ya1 h] at hm; cases hm
  have hr : 1 ≤ row.e ∧ row.len = 0 ∧ row.isCells = false := by
   rcases zfh hp with ⟨k, rfl⟩ | ⟨e, rfl, he⟩
   ·obtain rfl := ya hrow; exact ⟨yx _, rfl, rfl⟩
   ·obtain rfl := ya hrow; exact ⟨he, rfl, rfl⟩
  obtain ⟨G', hg, hl, hM'⟩ := zga (b := rs) (g' := 0) (row' := row) hM hbl (fun g _ => hM.unset rs g (fun y hy => by rw [hm] at hy; cases hy)) hr.1 hr.2.1 hr.2.2
  refine OpDone.opW ⟨G', w, .value (a.eval (.const (.slice none 0 0))), _, by rw [he]; simp, .inl rfl, ?_, hg, Ev.refl G w, by simpa [Out.apply, setMem] using hM'⟩
  exact .mswNil rs 0 _ hl rfl hr.2.1
 | false =>
  rw [hc] at h; simp only [yh] at h
  rw [bind_some] at h; obtain ⟨v, hv, h⟩ := h
  have hvr := hρ _ _ hv
  split at h
  ·cases boxed with
   | true => simp only [yg] at h; obtain rfl := ya h; exact OpW.plain hM he rfl rfl hvr
   | false =>
    simp only [yh] at h
    obtain ⟨p, hp, rfl⟩ := yd.1 h
    refine OpW.plain hM he rfl rfl ?_
    rw [hvr.lit_inv]
    rcases zfh hp with ⟨k, rfl⟩ | ⟨e, rfl, _⟩
    ·exact .imm _ _ _ (.intsNil k _) rfl
    ·exact .imm _ _ _ (.slNil e _) rfl
  ·obtain rfl := ya h; exact OpW.plain hM he rfl rfl hvr
theorem zkK {ρ : Operand → Option AV} {t : TypeId} {x ix : Operand} (hM : MemR G w mem) (hρ : EvR G w ρ a)
  (he : execOp a.eval o = (do pure (Next.value (← Instr.index t (a.eval x) (a.eval ix))))) (h : opIndexV P ρ t x ix = some out) : OpW P G w mem o a out := by
 unfold opIndexV at h
 rw [bind_some] at h; obtain ⟨vx, hx, h⟩ := h
 rw [bind_some] at h; obtain ⟨vi, hi, h⟩ := h
 have hxr := hρ _ _ hx
 have hir := hρ _ _ hi
 split at h
 ·rename_i cs k i
  split at h
  ·rename_i n e hu
   rw [bind_some] at h; obtain ⟨ag, hag, h⟩ := h
   rw [bind_some] at h; obtain ⟨s, hs, h⟩ := h
   rw [za] at h; obtain ⟨hg, h⟩ := h
   simp only [yb, yt, decide_eq_true_eq] at hg
   obtain ⟨⟨⟨hag0, hs1⟩, h0⟩, hn⟩ := hg
   obtain rfl := beqN.1 hs1
   obtain ⟨v, hv, rfl⟩ := yd.1 h
   obtain ⟨cvs, hcv, hvr⟩ := hxr.agg_inv
   have hel := hvr.2 _ _ hv
   refine OpW.still hM he rfl rfl (cv := cvs.getD i.toNat undef) ?_ hel
   rw [hcv, hir.lit_inv]
   have hlt : i.toNat < cvs.size := by
    rw [← hvr.1]; exact (ye.1 hv).1
   have := zmq (P := P) hag hs (cs := cvs) (o := i.toNat) w (.inr hlt)
   rw [hag0] at this
   simp only [yk2, if_false] at this
   simp only [Instr.index, asIntOf, Sem.run_bind, Sem.run_pure, Result.andThen_ok, run_underlying hu, h0, hn, and_self, if_true, zV hs, ye3, this]
  ·cases h
 ·rename_i s k i
  split at h
  ·rename_i hu
   obtain ⟨b, hb, rfl⟩ := yd.1 h
   refine OpW.still hM he rfl rfl (cv := .int .u8 b) ?_ (.lit _ rfl)
   rw [hxr.lit_inv, hir.lit_inv]
   obtain ⟨h0, hlt, hb⟩ := zgh hb
   have hs : s[i.toNat]?.map (fun c : UInt8 => (c.toNat : Int)) = some b := by
    unfold bytesInts at hb
    rw [yc1] at hb
    rw [← hb, yo1]
    by_cases hi : i.toNat < s.size
    ·rw [getElem?_pos s _ hi, getElem?_pos s.data _ hi]; rfl
    ·rw [getElem?_neg s _ hi, getElem?_neg s.data _ hi]
   obtain ⟨c, hc, rfl⟩ := yd.1 hs
   simp only [Instr.index, asIntOf, Sem.run_bind, Sem.run_pure, Result.andThen_ok, run_underlying hu, h0, if_true, hc]
  ·cases h
 ·cases h
theorem zoX {C : Oracle} {boxed raw vars : Bool} {ρ : Operand → Option AV} {rs : Nat} (hM : MemR G w mem) (hrs : makes o.op = true → mem[rs]? = some none) (hρ : EvR G w ρ a)
  (hcall : ∀ {raw keep : Bool} {g : FuncId} {ts : List TypeId} {fi args ca : List AV} {out : Out} {fv av cv : Array Value}, callA P C raw keep g ts fi args ca mem = some out → VRs G w fi fv → VRs G w args av → VRs G w ca cv → CallsW P G w mem g (fv ++ av ++ cv) out)
  (h : opA P C boxed raw vars o ρ mem rs = some out) : OpW P G w mem o a out := by
 unfold opA opPick opAlloc opBox opBuild opBuildSlice opStore opNil opBin opUn opFunc opMake opSlice opFieldAddr opField opIndex opExtract opCall at h
 split at h
 ·rename_i x hop
  exact ziN hM (fun hn => hrs (by rw [hop]; exact hn)) hρ (by simp only [execOp, hop]) h
 ·rename_i x hop
  exact ziN hM (fun hn => hrs (by rw [hop]; exact hn)) hρ (by simp only [execOp, hop]) h
 ·rename_i c x y hop
  rw [bind_some] at h; obtain ⟨vc, hc, h⟩ := h
  rw [bind_some] at h; obtain ⟨vx, hx, h⟩ := h
  rw [bind_some] at h; obtain ⟨vy, hy, h⟩ := h
  obtain ⟨r, hr, rfl⟩ := yd.1 h
  obtain ⟨t, ht, hv⟩ := zmi hr (hρ _ _ hc) (hρ _ _ hx) (hρ _ _ hy)
  refine OpDone.opW ⟨G, w, _, _, ?_, .inl rfl, hv, Gle.refl G, Ev.refl G w, by simpa [Out.apply, setMem] using hM⟩
  simp only [execOp, hop, ht, asBool]
  cases t <;> simp
 ·rename_i t hop
  rw [bind_some] at h; obtain ⟨z, hz, h⟩ := h
  rw [za] at h; obtain ⟨hg, h⟩ := h
  simp only [yb] at hg
  obtain rfl := ya h
  exact (znp hM hop (hrs (by rw [hop]; rfl)) hz (bleN.1 hg.1) hg.2).opW
 ·rename_i t x hop
  rw [bind_some] at h; obtain ⟨v, hv, h⟩ := h
  rw [bind_some] at h; obtain ⟨n, hn, h⟩ := h
  rw [za] at h; obtain ⟨hg, h⟩ := h
  simp only [yb] at hg
  obtain rfl := ya h
  exact (zpE hM hop (hrs (by rw [hop]; rfl)) (hρ _ _ hv) (beqN.1 hg.1.1) (bleN.1 hg.1.2) hg.2).opW
 ·rename_i t parts hop
  rw [bind_some] at h; obtain ⟨ps, hps, h⟩ := h
  obtain ⟨v, hv, rfl⟩ := yd.1 h
  obtain ⟨cv, hrun, hvr⟩ := zkt hv (zeS hρ hps)
  exact OpW.still hM (by simp only [execOp, hop] <;> rfl) rfl rfl hrun hvr
 ·rename_i t len parts hop
  rw [bind_some] at h; obtain ⟨et, het, h⟩ := h
  rw [bind_some] at h; obtain ⟨z, hz, h⟩ := h
  rw [bind_some] at h; obtain ⟨s, hs, h⟩ := h
  rw [bind_some] at h; obtain ⟨ps, hps, h⟩ := h
  rw [za] at h; obtain ⟨hg, h⟩ := h
  rw [bind_some] at h; obtain ⟨wv, hwv, h⟩ := h
  rw [za] at h; obtain ⟨hwe, h⟩ := h
  obtain ⟨ov, hov, rfl⟩ := yd.1 h
  exact OpW.value (by simp only [execOp, hop] <;> rfl) (zhm hM (hrs (by rw [hop]; rfl)) het hz hs hg hwv hwe hov (zeS hρ hps))
 ·rename_i t x hop
  rw [bind_some] at h; obtain ⟨v, hv, h⟩ := h
  obtain ⟨r, rd, rfl, cv, hrun, hvr⟩ := zgX hM h (hρ _ _ hv)
  exact OpW.still hM (by simp only [execOp, hop] <;> rfl) rfl rfl hrun hvr
 ·rename_i t x y hop
  rw [bind_some] at h; obtain ⟨vx, hx, h⟩ := h
  rw [bind_some] at h; obtain ⟨vy, hy, h⟩ := h
  obtain ⟨hov, G', w', hrun, hg, hev, hM'⟩ := zkM hM h (hρ _ _ hx) (hρ _ _ hy)
  refine OpDone.opW ⟨G', w', .skip, undef, ?_, .inr ⟨rfl, rfl⟩, by rw [hov]; exact .lit _ rfl, hg, hev, hM'⟩
  simp only [execOp, hop, Sem.run_bind, hrun, Result.andThen_ok, Sem.run_pure]
 ·rename_i x hop
  rw [bind_some] at h; obtain ⟨v, hv, h⟩ := h
  have hvr := hρ _ _ hv
  split at h
  ·obtain rfl := ya h
   refine OpW.plain hM (cv := a.eval x) ?_ rfl rfl hvr
   simp only [execOp, hop]
   generalize a.eval x = cv at hvr
   cases hvr; simp only
  ·obtain rfl := ya h
   refine OpW.plain hM (cv := a.eval x) ?_ rfl rfl hvr
   simp only [execOp, hop]
   generalize a.eval x = cv at hvr
   cases hvr; simp only
  ·obtain rfl := ya h
   refine OpW.plain hM (cv := a.eval x) ?_ rfl rfl hvr
   simp only [execOp, hop]
   generalize a.eval x = cv at hvr
   cases hvr; simp only
  ·simp at h
 ·rename_i op t x y _ hop
  rw [bind_some] at h; obtain ⟨vx, hx, h⟩ := h
  rw [bind_some] at h; obtain ⟨vy, hy, h⟩ := h
  obtain ⟨r, hr, rfl⟩ := yd.1 h
  obtain ⟨cv, h1, h2, hvr⟩ := zpi (x := x) (y := y) hr (hρ _ _ hx) (hρ _ _ hy)
  refine OpW.still hM (s := do eqGuard op t x y (a.eval x) (a.eval y); binOp op t (a.eval x) (a.eval y)) (by simp only [execOp, hop]) rfl rfl ?_ hvr
  simp only [Sem.run_bind, h1, Result.andThen_ok, h2]
 ·rename_i op _ x hop
  rw [bind_some] at h; obtain ⟨vx, hx, h⟩ := h
  split at h
  ·obtain ⟨r, hr, rfl⟩ := yd.1 h
   have hvx := (hρ _ _ hx).lit_inv
   exact OpW.still hM (by simp only [execOp, hop] <;> rfl) rfl rfl (by rw [hvx]; exact zol hr) (.lit _ (zkz hr))
  ·simp at h
 ·rename_i src dst x hop
  rw [bind_some] at h; obtain ⟨vx, hx, h⟩ := h
  exact OpW.value (by simp only [execOp, hop] <;> rfl) (ziI hM h (hρ _ _ hx))
 ·rename_i fn first cap hop
  rw [bind_some] at h; obtain ⟨fi, hfi, h⟩ := h
  obtain ⟨ca, hca, rfl⟩ := yd.1 h
  have h1 := zfD hρ hfi
  have h2 := zfD hρ hca
  exact OpW.still hM (by simp only [execOp, hop] <;> rfl) rfl rfl (cv := .func fn (first.map a.eval) (cap.map a.eval)) (by simp [Instr.makeFunc]) (.fn fn fi ca _ _ h1.1 h2.1 h1.2 h2.2)
 ·rename_i t l c hop
  rw [bind_some] at h; obtain ⟨et, het, h⟩ := h
  rw [bind_some] at h; obtain ⟨z, hz, h⟩ := h
  rw [bind_some] at h; obtain ⟨vl, hl, h⟩ := h
  rw [bind_some] at h; obtain ⟨vc, hc, h⟩ := h
  split at h
  ·rename_i k1 n k2 n'
   rw [za] at h; obtain ⟨hg, h⟩ := h
   simp only [yb, beq_iff_eq, decide_eq_true_eq] at hg
   obtain ⟨⟨hnn, hn0⟩, hml⟩ := hg
   subst hnn
   have hml := bleN.1 hml
   obtain ⟨i, zv, hi, hzv, hov⟩ := zaU hz
   have hzr : VR G w z zv := zbh hov
   have el := (hρ _ _ hl).lit_inv
   have ec := (hρ _ _ hc).lit_inv
   obtain ⟨m, rfl⟩ : ∃ m : Nat, n = (m : Int) := ⟨n.toNat, by omega⟩
   rw [yd1] at hml h
   refine OpW.value (s := Instr.makeSlice t (.int k1 (m : Int)) (.int k2 (m : Int))) (by simp only [execOp, hop, el, ec]) ?_
   have hr := hrs (by rw [hop]; rfl)
   split at h
   ·rename_i k hk
    rw [bind_some] at h; obtain ⟨e, he, h⟩ := h
    rw [bind_some] at h; obtain ⟨bytes, hby, h⟩ := h
    rw [bind_some] at h; obtain ⟨zs, hzs, h⟩ := h
    rw [za] at h; obtain ⟨hg, h⟩ := h
    simp only [yb] at hg
    obtain rfl := beqN.1 hg.1
    have hb := bleN.1 hg.2
    obtain ⟨hv, hsz⟩ := znc (n := m) hzs hzr
    exact zdF hM hr (zbI het) hi hzv (by unfold tsz at he; rw [hi] at he; simpa using he) (yx _) (by unfold tbytes at hby; rw [hi] at hby; simp at hby; omega) hml hsz hv (by simp [View.len]) rfl h
   ·rw [bind_some] at h; obtain ⟨q, hq, h⟩ := h
    rw [bind_some] at h; obtain ⟨e, he, h⟩ := h
    rw [bind_some] at h; obtain ⟨bytes, hby, h⟩ := h
    rw [za] at h; obtain ⟨hg, h⟩ := h
    simp only [yb] at hg
    obtain ⟨⟨⟨g1, g2⟩, g3⟩, g4⟩ := hg
    have g1 := bleN.1 g1; have g2 := bleN.1 g2; have g3 := beqN.1 g3; have g4 := zbO g4
    obtain ⟨hv, hsz⟩ := zjH (n := m) hM hq hzr g3 g1 g4
    exact zdF hM hr (zbI het) hi hzv (by unfold tsz at he; rw [hi] at he; simpa using he) g1 (by unfold tbytes at hby; rw [hi] at hby; simp at hby; omega) hml hsz hv (by simp [View.len]) rfl h
  ·simp at h
 ·rename_i t x lo hi mx hop
  rw [bind_some] at h; obtain ⟨vx, hx, h⟩ := h
  rw [bind_some] at h; obtain ⟨vl, hl, h⟩ := h
  rw [bind_some] at h; obtain ⟨vh, hh, h⟩ := h
  rw [bind_some] at h; obtain ⟨vm, hm, h⟩ := h
  obtain ⟨h1, h2, cv, hrun, hvr⟩ := zkg hM h (hρ _ _ hx) (zbz hρ hl) (zbz hρ hh) (zbz hρ hm)
  exact OpW.still hM (by simp only [execOp, hop] <;> rfl) h1 h2 hrun hvr
 ·rename_i s x f hop
  rw [bind_some] at h; obtain ⟨vx, hx, h⟩ := h
  rw [bind_some] at h; obtain ⟨q, hq, h⟩ := h
  have hvr := hρ _ _ hx
  split at h
  ·rename_i b g i c
   obtain rfl := ya h
   generalize hcx : a.eval x = cv at hvr
   cases hvr with
   | ptr _ _ _ _ L B hl hb =>
    refine OpW.still hM (by simp only [execOp, hop] <;> rfl) rfl rfl (by rw [hcx]; exact zgI hq B _ w) ?_
    rw [yc3]
    exact .ptr b g i (c + q.1) L B hl hb
  ·rename_i β p c
   obtain rfl := ya h
   generalize hcx : a.eval x = cv at hvr
   cases hvr with
   | el _ _ _ B o cv hh hr =>
    refine OpW.still hM (by simp only [execOp, hop] <;> rfl) rfl rfl (by rw [hcx]; exact zgI hq B _ w) ?_
    rw [yc3]
    exact .el β p (c + q.1) B o cv hh hr
  ·simp at h
 ·rename_i s x f hop
  rw [bind_some] at h; obtain ⟨vx, hx, h⟩ := h
  rw [bind_some] at h; obtain ⟨q, hq, h⟩ := h
  split at h
  ·rename_i cs
   rw [bind_some] at h; obtain ⟨ag, hag, h⟩ := h
   have key : ∃ v, (bif ag then guardB (Nat.ble (q.1 + q.2.1) cs.length) (some (AV.agg ((cs.drop q.1).take q.2.1))) else cs[q.1]?) = some v ∧ out = { v } := by
    cases ag with
    | true =>
     simp only [yg] at h ⊢
     rw [za] at h; obtain ⟨hg, h⟩ := h
     exact ⟨_, by rw [hg]; rfl, (ya h).symm⟩
    | false =>
     simp only [yh] at h ⊢
     obtain ⟨v, hv, rfl⟩ := yd.1 h
     exact ⟨v, hv, rfl⟩
   obtain ⟨v, hv, rfl⟩ := key
   obtain ⟨cv, hrun, hvr⟩ := zkD hq hag (hρ _ _ hx) hv
   exact OpW.still hM (by simp only [execOp, hop] <;> rfl) rfl rfl hrun hvr
  ·simp at h
 ·rename_i t x ix hop
  rw [bind_some] at h; obtain ⟨vx, hx, h⟩ := h
  rw [bind_some] at h; obtain ⟨vi, hi, h⟩ := h
  split at h
  ·rename_i k i
   have ei := (hρ _ _ hi).lit_inv
   obtain ⟨v, rd, rfl, cv, hrun, hvr⟩ := zjZ (k := k) hM h (hρ _ _ hx)
   exact OpW.still hM (by simp only [execOp, hop] <;> rfl) rfl rfl (by rw [ei]; exact hrun) hvr
  ·simp at h
 ·rename_i t x ix hop
  exact zkK hM hρ (by simp only [execOp, hop] <;> rfl) h
 ·rename_i t ix hop
  rw [bind_some] at h; obtain ⟨vt, ht, h⟩ := h
  split at h
  ·rename_i vs
   obtain ⟨v, hv, rfl⟩ := yd.1 h
   have hvr := hρ _ _ ht
   generalize hcx : a.eval t = cv at hvr
   cases hvr with
   | tup _ cvs hlen hh =>
    have hix : ix < cvs.size := by rw [← hlen]; exact (ye.1 hv).1
    have := hh ix v hv
    rw [ym, yp1 hix] at this
    refine OpW.still hM (by simp only [execOp, hop] <;> rfl) rfl rfl (cv := cvs[ix]) ?_ this
    rw [hcx]
    simp [Instr.extract, yp1 hix]
  ·simp at h
 ·rename_i c hop
  rw [bind_some] at h; obtain ⟨args, hargs, h⟩ := h
  have hav := zfD hρ hargs
  split at h
  ·rename_i b hc
   obtain ⟨s, hs, hh⟩ := ziS (ty := o.type) (consts := c.args.map fun | .const _ => true | _ => false) hM (fun hb => hrs (by rw [hop]; subst hb; unfold makes; obtain ⟨cc, _, _⟩ := c; simp only at hc; subst hc; rfl)) h hav
   refine OpW.value (s := s) ?_ hh
   rw [← hs]
   simp only [execOp, hop, resolve, hc, invoke]
   rfl
  ·rename_i f hc
   rw [bind_some] at h; obtain ⟨fv, hf, h⟩ := h
   split at h
   ·rename_i g fi ca
    have hvr := hρ _ _ hf
    generalize hcx : a.eval f = cv at hvr
    cases hvr with
    | fn _ _ _ fvs cvs h1 h2 hff hcc =>
     obtain ⟨hen, hcl⟩ := hcall h ⟨h1, hff⟩ hav ⟨h2, hcc⟩
     intro K Q hK
     unfold Oper.wp
     have hx : (execOp a.eval o).run P w = .ok (.enter g (fvs ++ c.args.map a.eval ++ cvs)) w := by
      simp only [execOp, hop, resolve, hc, Deferred.ofValue, hcx, Sem.run_bind, Sem.run_pure, Result.andThen_ok, invoke]
      exact hen
     rw [hx]
     refine Calls.mono hcl fun e w' he => ?_
     obtain ⟨G', cv, rfl, hv, hg, hev, hM'⟩ := he
     exact hK G' w' cv hv hg hev hM'
   ·simp at h
  ·simp at h
 ·simp at h
end
end Go.Ab
end
