/- The evaluator. -/
import Derived.Test.YtdlbbdbbpoggfaaLib1
import Derived.Laws.AppendOwn
import Derived.Deep.Upon
import Derived.Laws.MakeOwn
import Derived.Great.BuildSlice
import Derived.Laws.BytesString
import Derived.Laws.Cells
import Derived.Lib.AppendZeros
set_option linter.unusedVariables false
set_option linter.unusedSectionVars false
set_option linter.unusedSimpArgs false
section
namespace Go.Ab
variable [b4]
section
variable {P : Program}
def bF (G : Gh) (w : World) (v : aI) (vs : List Value) : Prop :=
 vs.length = v.len * v.e ∧ (∀ u ∈ vs, u.oneCell' = true) ∧
 match v with
 | .ints k xs => ∀ (i : Nat) (x : Int), xs[i]? = some x → vs[i]? = some (.int k x)
 | .pvs β e xs => (∀ x ∈ xs, x.cells.length = e) ∧ ∀ (i : Nat) (x : PV) (c : Nat) (y : PV), xs[i]? = some x → x.cells[c]? = some y → ∃ u, vs[i * e + c]? = some u ∧ PR w (G.prot β) y u
 | .avs e cs => cs.length = e * aN e cs.length ∧ ∀ (j : Nat) (y : AV), cs[j]? = some y → ∃ u, vs[j]? = some u ∧ VR G w y u
theorem oP (r : Row) : r.all.e = r.e := by cases r <;> rfl
theorem dQ (r : Row) : r.all.len = r.len := by cases r <;> rfl
theorem mK (v : aI) : v.row.e = v.e := by cases v <;> rfl
theorem gU (v : aI) : v.row.len = v.len := by cases v <;> rfl
theorem lQ (v : aI) : v.row.all = v := by cases v <;> rfl
theorem lT (v : aI) : v.row.isOwn = false := by cases v <;> rfl
theorem gI {e n : Nat} (he : 1 ≤ e) (k : Nat) : aN e (k * e) = k := by
 unfold aN
 have I : Nat.beq e 0 = false := by
  cases e with
  | zero => omega
  | succ e => rfl
 rw [I]; simp only [yk]
 cases H : Nat.beq e 1 with
 | true => rw [Nat.eq_of_beq_eq_true H]; simp
 | false => simp only [yk]; exact Nat.mul_div_cancel k (by omega)
theorem gH.toList {G : Gh} {w : World} {B : Nat} {r : Row} (Z : 1 ≤ r.e) (ho : r.isOwn = false) (h : gH G w B r) :
  ∃ vs : List Value, bF G w r.all vs ∧ ∀ j, j < vs.length → cl w B j = vs[j]? := by
 cases r with
 | ints k xs =>
  refine ⟨xs.map (.int k), ⟨by simp [aI.len, aI.e, Row.all], by simp [Value.oneCell'], fun i x U => by simp [U]⟩, fun j H => ?_⟩
  simp at H
  rw [h j xs[j] (yf H)]; simp [H]
 | pvs β e xs =>
  obtain ⟨K, M⟩ := h
  have O : ∀ j, j < xs.length * e → ∃ v, cl w B j = some v ∧ v.oneCell' = true := by
   intro j H
   have hi : j / e < xs.length := by rw [Nat.div_lt_iff_lt_mul (by simp [Row.e] at Z; omega)]; exact H
   have hc : j % e < (xs[j / e]).cells.length := by rw [K _ (yr2 _)]; exact Nat.mod_lt _ (by simp [Row.e] at Z; omega)
   obtain ⟨v, I, J, _⟩ := M (j / e) (xs[j / e]) (j % e) ((xs[j / e]).cells[j % e]) (yf _) (yf _)
   rw [show j / e * e + j % e = j by rw [yk2]; exact Nat.div_add_mod j e] at I
   exact ⟨v, I, J⟩
  refine ⟨(List.range (xs.length * e)).map (fun j => (cl w B j).getD undef), ⟨by simp [aI.len, aI.e, Row.all], ?_, K, ?_⟩, ?_⟩
  ·intro u Y
   obtain ⟨j, H, rfl⟩ := yu2.1 Y
   obtain ⟨v, I, J⟩ := O j (by simpa using H)
   rw [I]; exact J
  ·intro i x c y U N
   have hi := (yd.1 U).1
   have hc := (yd.1 N).1
   obtain ⟨v, I, _, W⟩ := M i x c y U N
   have V : i * e + c < xs.length * e := by
    rw [K x (yt U)] at hc
    calc i * e + c < i * e + e := by omega
     _ = (i + 1) * e := by rw [yk1]; simp
     _ ≤ xs.length * e := yz1 _ hi
   exact ⟨v, by simp [V, I], W⟩
  ·intro j H
   simp at H
   obtain ⟨v, I, _⟩ := O j H
   simp [H, I]
 | cells e cs =>
  obtain ⟨K, M⟩ := h
  refine ⟨(List.range cs.length).map (fun j => (cl w B j).getD undef), ⟨?_, ?_, K, ?_⟩, ?_⟩
  ·simp only [aI.len, aI.e, Row.all, ye1, List.length_range]
   rw [yk2]; exact K
  ·intro u Y
   obtain ⟨j, H, rfl⟩ := yu2.1 Y
   obtain ⟨v, I, J, _⟩ := M j (cs[j]'(by simpa using H)) (yf _)
   rw [I]; exact J
  ·intro j y N
   have H := (yd.1 N).1
   obtain ⟨v, I, _, W⟩ := M j y N
   exact ⟨v, by simp [H, I], W⟩
  ·intro j H
   simp at H
   obtain ⟨v, I, _⟩ := M j (cs[j]) (yf _)
   simp [H, I]
 | own e xs hs => cases ho
theorem gH.ofList {G : Gh} {w : World} {B : Nat} {r : Row} {vs : List Value} (O : r.isOwn = false) (h : bF G w r.all vs) (I : ∀ j u, vs[j]? = some u → cl w B j = some u) : gH G w B r := by
 obtain ⟨hl, N, h⟩ := h
 cases r with
 | ints k xs => exact fun i x M => I _ _ (h i x M)
 | pvs β e xs =>
  refine ⟨h.1, fun i x c y M K => ?_⟩
  obtain ⟨u, H, J⟩ := h.2 i x c y M K
  exact ⟨u, I _ _ H, N u (yt H), J⟩
 | cells e cs =>
  refine ⟨h.1, fun j y K => ?_⟩
  obtain ⟨u, H, J⟩ := h.2 j y K
  exact ⟨u, I _ _ H, N u (yt H), J⟩
 | own e xs hs => cases O
theorem bF.mono {G M : Gh} {w N : World} (O : c8 G M) (K : Ev G w N) {v : aI} {vs : List Value} (h : bF G w v vs) : bF M N v vs := by
 obtain ⟨V, U, h⟩ := h
 refine ⟨V, U, ?_⟩
 cases v with
 | ints k xs => exact h
 | pvs β e xs => exact ⟨h.1, fun i x c y W I => by obtain ⟨u, J, H⟩ := h.2 i x c y W I; exact ⟨u, J, H.mono (O.prot β) (K.prot β)⟩⟩
 | avs e cs => exact ⟨h.1, fun j y I => by obtain ⟨u, J, H⟩ := h.2 j y I; exact ⟨u, J, H.mono O K⟩⟩
theorem OT {G : Gh} {w : World} {β : Bool} {t : TypeId} {p : PV} {c : Nat} {a : AV} (h : LR P β t p c = some a) {cv : Nat → Value} (hr : ∀ j y, p.cells[j]? = some y → PR w (G.prot β) y (cv j)) :
  ∀ (j : Nat) (y : AV), a.cells[j]? = some y → VR G w y (cv (c + j)) ∧ ∃ q, p.cells[c + j]? = some q := by
 unfold LR at h
 split at h
 ·rw [bind_some] at h; obtain ⟨ls, V, h⟩ := h
  rw [bind_some] at h; obtain ⟨n, hn, h⟩ := h
  rw [aA] at h; obtain ⟨N, h⟩ := h
  rw [bind_some] at h; obtain ⟨as, J, h⟩ := h
  obtain rfl := ya h
  obtain ⟨M, O⟩ := mP (G := G) (w := w) J
  obtain ⟨U, Y⟩ := O (fun j => cv (c + j)) (fun j y H _ => hr _ y H)
  intro j y H
  have H : as[j]? = some y := H
  exact ⟨Y j y H, U j (by rw [← M]; exact (yd.1 H).1)⟩
 ·rw [bind_some] at h; obtain ⟨l, M, h⟩ := h
  rw [bind_some] at h; obtain ⟨q, K, h⟩ := h
  have W := p9 (G := G) (w := w) h (hr c q K)
  intro j y H
  have I : a.cells = [a] := by
   unfold fT at h
   split at h <;> (rw [bind_some] at h; obtain ⟨x, _, h⟩ := h; obtain rfl := ya h; rfl)
  rw [I] at H
  cases j with
  | zero => simp at H; subst H; exact ⟨W, q, K⟩
  | succ j => simp at H
 ·simp at h
theorem Ce {G : Gh} {w : World} {β : Bool} {t : TypeId} {e : Nat} : ∀ {xs : List PV} {cs : List AV} {vs : List Value}, E6 P t β e xs = some cs → vs.length = xs.length * e →
  (∀ (i : Nat) (x : PV) (c : Nat) (y : PV), xs[i]? = some x → x.cells[c]? = some y → ∃ u, vs[i * e + c]? = some u ∧ PR w (G.prot β) y u) → gW G w cs vs
 | [], cs, vs, h, J, _ => by
  simp [E6] at h; subst h
  simp at J; subst J
  exact ⟨rfl, fun j y H => by simp at H⟩
 | p :: r, cs, vs, h, J, V => by
  simp only [E6] at h
  rw [bind_some] at h; obtain ⟨v, hv, h⟩ := h
  rw [aA] at h; obtain ⟨M, h⟩ := h
  have M := bJ.1 M
  obtain ⟨cs', N, rfl⟩ := yc.1 h
  have I : vs.length = e + r.length * e := by rw [J]; simp [yk1, Nat.add_comm]
  have W := Ce (G := G) (w := w) (vs := vs.drop e) N (by simp [I]) (fun i x c y Z H => by
   obtain ⟨u, K, O⟩ := V (i + 1) x c y (by simpa using Z) H
   refine ⟨u, ?_, O⟩
   rw [yz, show e + (i * e + c) = (i + 1) * e + c by rw [yk1]; omega]; exact K)
  have U := OT (P := P) (G := G) (w := w) hv (cv := fun j => vs.getD j undef) (fun j y H => by
   obtain ⟨u, K, O⟩ := V 0 p j y rfl H
   simp only [yd3, yc1] at K
   rw [yi, K]; exact O)
  refine ⟨by rw [yi1, M, W.1]; simp; omega, fun j y H => ?_⟩
  by_cases Y : j < v.cells.length
  ·rw [yn Y] at H
   simpa using (U j y H).1
  ·rw [yu (by omega)] at H
   have := W.2 _ y H
   rw [yi, yz] at this
   rw [yi, show j = e + (j - v.cells.length) by omega]
   exact this
theorem GO : ∀ {cs : List AV}, iV cs = true → ∀ v ∈ cs, H7 v = true
 | v :: r, h, u, H => by
  simp only [iV, yb] at h
  cases H with
  | head => exact h.1
  | tail _ H => exact GO h.2 u H
theorem Jv {G : Gh} {w : World} {a : AV} {v : Value} (h : VR G w a v) (H : H7 a = true) : v.oneCell' = true := by
 cases h with
 | lit v hv => exact H
 | imm β p v I hs => cases I <;> first | rfl | simp [PV.isSl] at hs
 | dead v h h' => exact h
 | agg => simp [H7] at H
 | tup => simp [H7] at H
 | _ => rfl
theorem gW.ones {G : Gh} {w : World} {cs : List AV} {vs : List Value} (h : gW G w cs vs) (J : iV cs = true) : ∀ u ∈ vs, u.oneCell' = true := by
 intro u K
 obtain ⟨j, I, rfl⟩ := yt1 K
 have H : j < cs.length := by rw [h.1]; exact I
 have := h.2 j cs[j] (yf H)
 rw [yi, yf I] at this
 exact Jv this (GO J _ (yr2 _))
theorem B9 {G : Gh} {w : World} {t : TypeId} {v : aI} {cs : List AV} {vs : List Value} (h : v.toAvs P t = some cs) (H : bF G w v vs) : gW G w cs vs := by
 obtain ⟨I, h1, H⟩ := H
 cases v with
 | ints k xs =>
  obtain rfl := ya h
  simp only [aI.len, aI.e, ye3] at I
  refine ⟨by simp [I], fun j y J => ?_⟩
  obtain ⟨x, hx, rfl⟩ : ∃ x, xs[j]? = some x ∧ AV.lit (.int k x) = y := by simpa using J
  rw [yi, H j x hx]; exact .lit _ rfl
 | pvs β e xs => exact Ce h I H.2
 | avs e N =>
  obtain rfl := ya h
  simp only [aI.len, aI.e] at I
  refine ⟨by rw [I, yk2]; exact H.1, fun j y J => ?_⟩
  obtain ⟨u, M, K⟩ := H.2 j y J
  rw [yi, M]; exact K
theorem gW.append {G : Gh} {w : World} {a b : List AV} {u v : List Value} (h : gW G w a u) (I : gW G w b v) : gW G w (a ++ b) (u ++ v) := by
 refine ⟨by simp [h.1, I.1], fun j y H => ?_⟩
 by_cases J : j < a.length
 ·rw [yn J] at H
  rw [yi, yn (by rw [← h.1]; exact J), ← yi]; exact h.2 j y H
 ·rw [yu (by omega)] at H
  rw [yi, yu (by rw [← h.1]; omega), ← yi, ← h.1]; exact I.2 _ y H
theorem PR.weak {w : World} {G : Gh} (H : ∀ B o, G.prot false B o → G.prot true B o) {β β' : Bool} {p : PV} {v : Value} (h : PR w (G.prot β) p v) : PR w (G.prot (β || β')) p v := by
 cases β <;> cases β' <;> first | exact h | exact h.mono (fun _ _ x => H _ _ x) (fun _ _ _ => rfl)
theorem PR.weak' {w : World} {G : Gh} (H : ∀ B o, G.prot false B o → G.prot true B o) {β β' : Bool} {p : PV} {v : Value} (h : PR w (G.prot β) p v) : PR w (G.prot (β' || β)) p v := by
 rw [Bool.or_comm]; exact h.weak H
theorem Gf {G : Gh} {w : World} (O : ∀ B o, G.prot false B o → G.prot true B o) {t : TypeId} {x y z : aI} {vs us : List Value} (h : x.app P t y = some z) (I : bF G w x vs) (W : bF G w y us) :
  bF G w z (vs ++ us) ∧ z.e = x.e ∧ z.e = y.e ∧ z.len = x.len + y.len := by
 unfold aI.app at h
 split at h
 ·rename_i k xs k' Z
  rw [aA] at h; obtain ⟨hk, h⟩ := h
  rw [jO] at hk; subst hk
  obtain rfl := ya h
  obtain ⟨K, o1, U⟩ := I; obtain ⟨Y, o2, y2⟩ := W
  simp only [aI.len, aI.e, ye3] at K Y
  refine ⟨⟨by simp [aI.len, aI.e, K, Y], fun u J => (yo1.1 J).elim (o1 u) (o2 u), fun i x I => ?_⟩, rfl, rfl, by simp [aI.len]⟩
  by_cases hi : i < xs.length
  ·rw [yn hi] at I; rw [yn (by omega)]; exact U i x I
  ·rw [yu (by omega)] at I; rw [yu (by omega), K]; exact y2 _ x I
 ·rename_i β e xs β' e' Z
  rw [aA] at h; obtain ⟨he, h⟩ := h
  obtain rfl := bJ.1 he
  obtain rfl := ya h
  obtain ⟨K, o1, U⟩ := I; obtain ⟨Y, o2, y2⟩ := W
  simp only [aI.len, aI.e] at K Y
  refine ⟨⟨by simp [aI.len, aI.e, K, Y, yk1], fun u J => (yo1.1 J).elim (o1 u) (o2 u), fun x I => (yo1.1 I).elim (U.1 x) (y2.1 x), fun i x c y I W => ?_⟩, rfl, rfl, by simp [aI.len]⟩
  by_cases hi : i < xs.length
  ·rw [yn hi] at I
   obtain ⟨u, J, hp⟩ := U.2 i x c y I W
   exact ⟨u, by rw [yn (yd.1 J).1]; exact J, hp.weak O⟩
  ·rw [yu (by omega)] at I
   obtain ⟨u, J, hp⟩ := y2.2 _ x c y I W
   refine ⟨u, ?_, hp.weak' O⟩
   have e1 : i * e = xs.length * e + (i - xs.length) * e := by rw [← yk1]; congr 1; omega
   rw [yu (by rw [K, e1]; omega), K, show i * e + c - xs.length * e = (i - xs.length) * e + c by omega]; exact J
 ·rename_i e xs
  rw [bind_some] at h; obtain ⟨Z, hys, h⟩ := h
  rw [aA] at h; obtain ⟨hc, h⟩ := h
  obtain rfl := ya h
  simp only [yb] at hc
  obtain ⟨⟨hones, he⟩, V⟩ := hc
  obtain rfl := bJ.1 he
  have V := cX.1 V
  have hL := B9 hys W
  obtain ⟨K, o1, U⟩ := I; obtain ⟨Y, o2, y2⟩ := W
  replace K : vs.length = aN y.e xs.length * y.e := K
  have hcx : xs.length = aN y.e xs.length * y.e := by rw [yk2]; exact U.1
  have hcy : Z.length = y.len * y.e := by rw [hL.1]; exact Y
  have M : (xs ++ Z).length = (aN y.e xs.length + y.len) * y.e := by rw [yi1, hcy, yk1]; omega
  have H : aN y.e (xs ++ Z).length = aN y.e xs.length + y.len := by rw [M]; exact gI (n := 0) V _
  have hxv : gW G w xs vs := ⟨by rw [K]; exact hcx, fun j z hz => by obtain ⟨u, J, hp⟩ := U.2 j z hz; rw [yi, J]; exact hp⟩
  have N := hxv.append hL
  refine ⟨⟨?_, fun u J => (yo1.1 J).elim (o1 u) (o2 u), ?_, fun j z hz => ?_⟩, rfl, rfl, ?_⟩
  ·show (vs ++ us).length = aN y.e (xs ++ Z).length * y.e
   rw [H, ← M, N.1]
  ·rw [H, yk2]; exact M
  ·have hj : j < (vs ++ us).length := by rw [← N.1]; exact (yd.1 hz).1
   have := N.2 j z hz
   rw [yi, yf hj] at this
   exact ⟨_, yf hj, this⟩
  ·exact H
 ·simp at h
end
end Go.Ab
end
section
namespace Go.Ab
variable [b4]
section
variable {P : Program}
theorem BV {e i c n : Nat} (hc : c < e) (H : i < n) : i * e + c < n * e := by
 calc i * e + c < i * e + e := by omega
  _ = (i + 1) * e := by rw [yk1]; simp
  _ ≤ n * e := yz1 _ H
theorem Bz {e i c : Nat} (H : c < e) : (i * e + c) / e = i ∧ (i * e + c) % e = c := by
 constructor
 ·rw [yk2, Nat.mul_add_div (by omega), Nat.div_eq_of_lt H]; simp
 ·rw [yk2, Nat.mul_add_mod, Nat.mod_eq_of_lt H]
theorem Jp {P : Program} (w : World) {size : Nat} {I J : TypeId} (H : P.underlying I = some (.slice J)) (a : Option Addr) : Src P size I (.slice a 0 0) 0 [] w := by
 cases a with
 | none => exact Src.ofNil w H 0
 | some a => exact Src.ofSlice w H a 0 0 [] (by simp) (fun j u K => by simp at K) (by simp)
theorem PR.view {w : World} {G : Gh} {β : Bool} {e : Nat} {xs : List PV} {cv : Value} (h : PR w (G.prot β) (.sl e xs) cv) :
  (xs = [] ∧ ∃ a, cv = .slice a 0 0) ∨ ∃ B o cap vs, cv = .slice (some ⟨B, o, none⟩) xs.length cap ∧ 1 ≤ e ∧ xs.length ≤ cap ∧ bF G w (.pvs β e xs) vs ∧ ∀ j u, vs[j]? = some u → cl w B (o + j) = some u ∧ G.prot β B (o + j) := by
 cases h with
 | slNil _ a => exact .inl ⟨rfl, a, rfl⟩
 | sl _ _ B o cap cv W U H h Y hr =>
  have O : ∀ j, j < xs.length * e → ∃ x y, xs[j / e]? = some x ∧ x.cells[j % e]? = some y := by
   intro j J
   have V : j / e < xs.length := by rw [Nat.div_lt_iff_lt_mul (by omega)]; exact J
   have M : j % e < (xs[j / e]).cells.length := by rw [H _ (yr2 _)]; exact Nat.mod_lt _ (by omega)
   exact ⟨_, _, yf V, yf M⟩
  refine .inr ⟨B, o, cap, (List.range (xs.length * e)).map (fun j => cv (j / e) (j % e)), rfl, W, U, ⟨by simp [aI.len, aI.e], ?_, H, ?_⟩, ?_⟩
  ·intro u N
   obtain ⟨j, J, rfl⟩ := yu2.1 N
   obtain ⟨x, y, I, K⟩ := O j (by simpa using J)
   exact Y _ x _ y I K
  ·intro i x c y I K
   have V := (yd.1 I).1
   have M := (yd.1 K).1
   rw [H x (yt I)] at M
   obtain ⟨e1, Z⟩ := Bz (i := i) M
   exact ⟨cv i c, by simp [BV M V, e1, Z], hr i x c y I K⟩
  ·intro j u N
   have J : j < xs.length * e := by have := (yd.1 N).1; simpa using this
   simp [J] at N; subst N
   obtain ⟨x, y, I, K⟩ := O j J
   have := h _ x _ y I K
   rw [show o + j / e * e + j % e = o + j by rw [yc3, yk2, Nat.div_add_mod]] at this
   exact this
theorem wA {G : Gh} {w : World} {r : Row} {o n : Nat} {v : aI} {vs : List Value} (Y : 1 ≤ r.e) (h : r.sub o n = some v) (hr : bF G w r.all vs) :
  bF G w v ((vs.drop (o * r.e)).take (n * r.e)) ∧ v.e = r.e ∧ v.len = n ∧ o + n ≤ r.len := by
 obtain ⟨N, h1, hr⟩ := hr
 have K : ∀ u ∈ (vs.drop (o * r.e)).take (n * r.e), u.oneCell' = true := fun u V => h1 u (List.mem_of_mem_drop (yy2 V))
 cases r with
 | ints k xs =>
  simp only [Row.sub] at h
  rw [aA] at h; obtain ⟨H, h⟩ := h
  have H := cX.1 H
  obtain rfl := ya h
  simp only [Row.all, aI.len, aI.e, ye3] at N
  refine ⟨⟨by simp [aI.len, aI.e, Row.e, N], K, fun i x M => ?_⟩, rfl, by simp [aI.len]; omega, H⟩
  have W : i < n := by have := (yd.1 M).1; simp at this; omega
  rw [yf1 W, yz] at M
  simp only [Row.e, ye3]
  rw [yf1 W, yz]
  exact hr _ _ M
 | pvs β e xs =>
  simp only [Row.sub] at h
  rw [aA] at h; obtain ⟨H, h⟩ := h
  have H := cX.1 H
  obtain rfl := ya h
  simp only [Row.all, aI.len, aI.e] at N
  simp only [Row.e] at Y
  have J : ((xs.drop o).take n).length = n := by simp; omega
  refine ⟨⟨?_, K, fun x M => hr.1 x (List.mem_of_mem_drop (yy2 M)), fun i x c y M O => ?_⟩, rfl, J, H⟩
  ·simp only [aI.len, aI.e, J, Row.e, yb3, List.length_drop, N]
   rw [← Nat.mul_sub_right_distrib]
   exact Nat.min_eq_left (yz1 _ (by omega))
  ·have W : i < n := by have := (yd.1 M).1; omega
   rw [yf1 W, yz] at M
   obtain ⟨u, V, Z⟩ := hr.2 _ x c y M O
   have hc := (yd.1 O).1
   rw [hr.1 x (yt M)] at hc
   refine ⟨u, ?_, Z⟩
   simp only [Row.e]
   rw [yf1 (BV hc W), yz, show o * e + (i * e + c) = (o + i) * e + c by rw [yk1]; omega]
   exact V
 | cells e cs =>
  simp only [Row.sub] at h
  rw [aA] at h; obtain ⟨H, h⟩ := h
  have H := cX.1 H
  obtain rfl := ya h
  simp only [Row.e] at Y
  have U : cs.length = aN e cs.length * e := by rw [yk2]; exact hr.1
  replace N : vs.length = aN e cs.length * e := N
  have hon : o + n ≤ aN e cs.length := by
   rw [U] at H
   exact Nat.le_of_mul_le_mul_right H (by omega)
  have J : ((cs.drop (o * e)).take (n * e)).length = n * e := by
   simp only [yb3, List.length_drop]; rw [yk1] at H; omega
  have I : aN e ((cs.drop (o * e)).take (n * e)).length = n := by rw [J]; exact gI (n := 0) Y n
  refine ⟨⟨?_, K, ?_, fun j y O => ?_⟩, rfl, I, hon⟩
  ·show _ = aN e ((cs.drop (o * e)).take (n * e)).length * e
   rw [I]
   simp only [Row.e, yb3, List.length_drop, N]
   rw [← U]; rw [yk1] at H; omega
  ·rw [I, J, yk2]
  ·have hj : j < n * e := by have := (yd.1 O).1; omega
   rw [yf1 hj, yz] at O
   obtain ⟨u, V, Z⟩ := hr.2 _ y O
   refine ⟨u, ?_, Z⟩
   simp only [Row.e]
   rw [yf1 hj, yz]; exact V
 | own e xs hs => cases h
theorem Fd (G : Gh) (w : World) (s : ByteArray) : bF G w (.ints .u8 (e9 s)) (byteCells s) := by
 refine ⟨by simp [aI.len, aI.e, e9, byteCells], fun u J => ?_, fun i x H => ?_⟩
 ·obtain ⟨b, _, rfl⟩ := yu2.1 J; rfl
 ·unfold e9 at H
  unfold byteCells
  rw [yb1] at H ⊢
  obtain ⟨b, I, rfl⟩ := yc.1 H
  rw [I]; rfl
theorem bF.unmark {G : Gh} {w : World} {β β' : Bool} {e : Nat} {xs : List PV} {vs : List Value} (K : xs.all BO = true) (h : bF G w (.pvs β e xs) vs) : bF G w (.pvs β' e xs) vs := by
 refine ⟨h.1, h.2.1, h.2.2.1, fun i x c y J I => ?_⟩
 obtain ⟨u, O, N⟩ := h.2.2.2 i x c y J I
 refine ⟨u, O, ?_⟩
 have M := yr1.1 K x (yt J)
 have H := yr1.1 M y (yt I)
 cases y with
 | lit v =>
  cases N with
  | lit _ h => exact .lit _ h
 | ints _ _ => cases H
 | sl _ _ => cases H
 | agg _ => cases H
theorem bF.unmarkIf {G : Gh} {w : World} {c β : Bool} {e : Nat} {xs : List PV} {vs : List Value} (h : bF G w (.pvs β e xs) vs) : bF G w (.pvs (bif c && xs.all BO then false else β) e xs) vs := by
 cases H : (c && xs.all BO) with
 | false => exact h
 | true => exact h.unmark (yb _ _ ▸ H).2
theorem y3 {G : Gh} {w : World} {mem : aH} {et tx : TypeId} {y : AV} {v : aI × List Nat} {cv : Value} (hM : aF G w mem) (h : view P et mem y = some v) (hy : VR G w y cv) (hs : iR P et = some v.1.e) (K : yL P tx y = true) :
  ∃ news, Src P v.1.e tx cv v.1.len news w ∧ bF G w v.1 news := by
 have I : (∀ s, y ≠ .lit (.string s)) → ∃ e', P.underlying tx = some (.slice e') := by
  intro hne
  unfold yL at K
  split at K
  ·rename_i s _; exact absurd rfl (hne s)
  ·simp at K
  ·exact ⟨_, by assumption⟩
  ·simp at K
 unfold view at h
 split at h
 ·rename_i β k xs
  obtain rfl := ya h
  obtain ⟨e', M⟩ := I (by simp)
  cases hy with
  | imm _ _ _ hp =>
   cases hp with
   | intsNil _ a => exact ⟨[], Jp w M a, by simp [aI.len, aI.e], by simp, fun i x O => by simp at O⟩
   | ints _ _ B o cap hcap hh =>
    refine ⟨xs.map (.int k), Src.ofSlice w M ⟨B, o, none⟩ _ cap _ (by simp [aI.len, aI.e]) (fun j u U => ?_) (by simp [Value.oneCell']), by simp [aI.len, aI.e], by simp [Value.oneCell'], fun i x O => by simp [O]⟩
    obtain ⟨x, O, rfl⟩ : ∃ x, xs[j]? = some x ∧ Value.int k x = u := by simpa using U
    rw [dA]; exact (hh j x O).1
 ·rename_i β e xs
  obtain rfl := ya h
  obtain ⟨e', M⟩ := I (by simp)
  cases hy with
  | imm _ _ _ hp =>
   rcases hp.view with ⟨rfl, a, rfl⟩ | ⟨B, o, cap, vs, rfl, he, hcap, hv, hc⟩
   ·exact ⟨[], Jp w M a, by simp [aI.len, aI.e], by simp, fun x O => by simp at O, fun i x c y O => by simp at O⟩
   ·exact ⟨vs, Src.ofSlice w M ⟨B, o, none⟩ _ cap vs hv.1 (fun j u U => by rw [dA]; exact (hc j u U).1) hv.2.1, hv.unmarkIf⟩
 ·rename_i b g o n
  rw [bind_some] at h; obtain ⟨V, N, h⟩ := h
  obtain ⟨vw, H, rfl⟩ := yc.1 h
  obtain ⟨e', M⟩ := I (by simp)
  have he := (hM.box b V (box?_some N).1).e
  rcases hM.at_ms N hy with ⟨B, cap, rfl, hn, hon, hl, hf, _, _, _, Z, _⟩ | ⟨rfl, rfl, rfl, hz, hl⟩ | ⟨B, oo, rfl, ho, rfl, hon, hl⟩
  ·obtain ⟨vs, W, hcl⟩ := Z.toList he (box?_own N)
   obtain ⟨hv, hve, hvl, _⟩ := wA he H W
   refine ⟨_, ?_, hv⟩
   simp only at hs ⊢
   rw [hve, hvl]
   refine Src.ofSlice w M ⟨B, o * V.row.e, none⟩ n cap _ (by rw [hv.1, hve, hvl]) (fun j u U => ?_) hv.2.1
   rw [dA]
   have hj : j < n * V.row.e := by
    have := (yd.1 U).1
    rw [hv.1, hve, hvl] at this; exact this
   rw [yf1 hj, yz] at U
   have := hcl _ (yd.1 U).1
   rw [U] at this; exact this
  ·have Y : vw.len = 0 ∧ vw.e = V.row.e := by
    obtain ⟨gen, frz, row⟩ := V
    cases row <;> simp only [Row.sub] at H <;> first | (cases H; done) | skip <;> rw [aA] at H <;> obtain ⟨_, H⟩ := H <;> obtain rfl := ya H <;> simp [aI.len, aI.e, Row.e, aN]
   have J : bF G w vw [] := by
    refine ⟨by simp [Y.1], by simp, ?_⟩
    obtain ⟨gen, frz, row⟩ := V
    cases row <;> simp only [Row.sub] at H <;> first | (cases H; done) | skip <;> rw [aA] at H <;> obtain ⟨_, H⟩ := H <;> obtain rfl := ya H <;> simp [aN]
   refine ⟨[], ?_, J⟩
   simp only; rw [Y.1]
   exact Src.ofNil w M 0
  ·have Y : vw.len = 0 ∧ vw.e = V.row.e := by
    obtain ⟨gen, frz, row⟩ := V
    cases row <;> simp only [Row.sub] at H <;> first | (cases H; done) | skip <;> rw [aA] at H <;> obtain ⟨_, H⟩ := H <;> obtain rfl := ya H <;> simp [aI.len, aI.e, Row.e, aN]
   have J : bF G w vw [] := by
    refine ⟨by simp [Y.1], by simp, ?_⟩
    obtain ⟨gen, frz, row⟩ := V
    cases row <;> simp only [Row.sub] at H <;> first | (cases H; done) | skip <;> rw [aA] at H <;> obtain ⟨_, H⟩ := H <;> obtain rfl := ya H <;> simp [aN]
   refine ⟨[], ?_, J⟩
   simp only; rw [Y.1]
   exact Src.ofSlice w M ⟨B, oo, none⟩ 0 0 [] (by simp) (fun j u U => by simp at U) (by simp)
 ·rename_i b g
  rw [bind_some] at h; obtain ⟨V, N, h⟩ := h
  obtain rfl := ya h
  obtain ⟨e', M⟩ := I (by simp)
  have he := (hM.box b V (box?_some N).1).e
  rcases hM.at_msw N hy with ⟨B, cap, rfl, hn, hl, hf, _, _, _, Z, _⟩ | ⟨rfl, hz, hnc, hl⟩
  ·obtain ⟨vs, W, hcl⟩ := Z.toList he (box?_own N)
   refine ⟨vs, ?_, W⟩
   simp only [oP, dQ]
   refine Src.ofSlice w M ⟨B, 0, none⟩ _ cap vs (by rw [W.1, oP, dQ]) (fun j u U => ?_) W.2.1
   rw [dA, yc1]
   have := hcl _ (yd.1 U).1
   rw [U] at this; exact this
  ·have J : bF G w V.row.all [] := by
    refine ⟨by rw [dQ, hz]; simp, by simp, ?_⟩
    obtain ⟨gen, frz, row⟩ := V
    cases row with
    | ints k xs => simp only [Row.len] at hz; have := yo hz; subst this; simp [Row.all]
    | pvs β e xs => simp only [Row.len] at hz; have := yo hz; subst this; simp [Row.all]
    | cells e cs => simp [Row.isCells] at hnc
    | own e xs hs => exact absurd (box?_own N) (by simp [Row.isOwn])
   refine ⟨[], ?_, J⟩
   simp only [dQ, hz]
   exact Src.ofNil w M 0
 ·rename_i s
  obtain rfl := ya h
  obtain rfl := hy.lit_inv
  have M : P.underlying tx = some .string := by
   unfold yL at K; split at K <;> simp_all
  refine ⟨byteCells s, ?_, Fd G w s⟩
  have := Src.ofString (P := P) w M s
  simpa [aI.len, aI.e, e9] using this
 ·obtain ⟨e', M⟩ := I (by simp)
  obtain rfl := hy.lit_inv
  split at h
  ·obtain rfl := ya h
   exact ⟨[], Src.ofNil w M 0, by simp [aI.len, aI.e], by simp, fun i x O => by simp at O⟩
  ·obtain ⟨e, he, rfl⟩ := yc.1 h
   exact ⟨[], Src.ofNil w M 0, by simp [aI.len, aI.e], by simp, fun x O => by simp at O, fun i x c y O => by simp at O⟩
 ·simp at h
end
end Go.Ab
end
section
namespace Go.Ab
variable [b4]
def aR (G : Gh) (w : World) (mem : aH) (ids : List Nat) (B _o : Nat) : Prop := ∃ b ∈ ids, ∃ (x : a9) (C : Nat), mem[b]? = some (some x) ∧ x.row.okShut = true ∧ eK G b x C ∧ (B = C ∨ ∃ i c, cP w C x.row i c B)
def Gh.frz (G : Gh) (S : Nat → Nat → Prop) : Gh := { G with prot := fun β B o => G.prot β B o ∨ S B o }
theorem c8.frz (G : Gh) (S : Nat → Nat → Prop) (hS : ∀ B o, S B o → G.mine B) : c8 G (G.frz S) := ⟨rfl, fun _ _ _ h => .inl h, fun _ _ _ h => h, fun _ B o h => h.imp id (hS B o)⟩
theorem aF.mine {G : Gh} {w : World} {mem : aH} (hM : aF G w mem) {b : Nat} {x : a9} {L : z5} {B : Nat} (H : mem[b]? = some (some x)) (I : G.loc b x.gen = some L) (hB : L.blk = some B) : G.mine B :=
 (hM.blk H ⟨L, I, hB⟩).2.1
theorem aF.inBoxes {G : Gh} {w : World} {mem : aH} (hM : aF G w mem) {ids : List Nat} : ∀ B o, aR G w mem ids B o → G.mine B := by
 rintro B o ⟨b, _, x, C, H, _, hB, h⟩
 rcases h with rfl | ⟨i, c, I⟩
 ·exact (hM.blk H hB).2.1
 ·exact (hM.inn H hB I).1
theorem aF.inBoxes_lt {G : Gh} {w : World} {mem : aH} (hM : aF G w mem) {ids : List Nat} : ∀ B o, aR G w mem ids B o → B < w.heap.size := by
 rintro B o ⟨b, _, x, C, H, _, hB, h⟩
 rcases h with rfl | ⟨i, c, I⟩
 ·exact (hM.blk H hB).2.2.1
 ·exact (hM.inn H hB I).2.1
theorem aR.mono {G : Gh} {w : World} {mem : aH} {ids H : List Nat} (h : ∀ b ∈ ids, b ∈ H) {B o : Nat} (J : aR G w mem ids B o) : aR G w mem H B o := by
 obtain ⟨b, I, r⟩ := J; exact ⟨b, h b I, r⟩
theorem ML {r : Row} (h : r.isOwn = false) : r.okShut = true := by cases r <;> first | rfl | cases h
theorem Ow {r : Row} (h : r.isOwn = false) : r.shut = r := by cases r <;> first | rfl | cases h
theorem Dr (r : Row) : r.shut.isOwn = false := by cases r <;> rfl
theorem Oj (r : Row) : r.shut.e = r.e := by cases r <;> rfl
theorem IY (r : Row) : r.shut.len = r.len := by cases r <;> rfl
theorem Ka (r : Row) : r.shut.isCells = r.isCells := by cases r <;> rfl
theorem aR.one {G : Gh} {w : World} {mem : aH} {ids : List Nat} {b : Nat} {x : a9} {L : z5} {B o : Nat} (I : b ∈ ids) (J : mem[b]? = some (some x)) (H : x.row.isOwn = false) (K : G.loc b x.gen = some L) (hB : L.blk = some B) : aR G w mem ids B o :=
 ⟨b, I, x, B, J, ML H, ⟨L, K, hB⟩, .inl rfl⟩
theorem dV (mem : aH) : ∀ (ids : List Nat) (m : aH) (b : Nat), m.length = mem.length →
  (∀ x, mem[b]? = some (some x) → x.row.okShut = true → b ∈ ids → (aJ m (bY mem ids))[b]? = some (some { x with frz := true, row := x.row.shut })) ∧
  ((b ∉ ids ∨ ∀ x, mem[b]? = some (some x) → x.row.okShut = false) → (aJ m (bY mem ids))[b]? = m[b]?) ∧ (aJ m (bY mem ids)).length = mem.length
 | [], m, b, M => ⟨fun x _ _ h => by simp at h, fun _ => rfl, M⟩
 | a :: r, m, b, M => by
  unfold bY
  split
  ·rename_i x V
   have Z : a < m.length := by rw [M]; exact (yd.1 V).1
   cases K : x.row.okShut with
   | true =>
    simp only [yl, aJ]
    obtain ⟨U, N, O⟩ := dV mem r (m.set a (some { x with frz := true, row := x.row.shut })) b (by simpa using M)
    refine ⟨fun y J I H => ?_, fun H => ?_, O⟩
    ·by_cases hr : b ∈ r
     ·exact U y J I hr
     ·have : b = a := by simp at H; exact H.resolve_right hr
      subst this
      rw [N (.inl hr), yw Z]
      rw [V] at J; simp at J; subst J; rfl
    ·have Y : a ≠ b := by
      rintro rfl
      rcases H with H | H
      ·exact H (ym ..)
      ·rw [H x V] at K; cases K
     rw [N (H.imp (fun h hr => h (yh _ hr)) id), yp Y]
   | false =>
    simp only [yk]
    obtain ⟨U, N, O⟩ := dV mem r m b M
    refine ⟨fun y J I H => ?_, fun H => N (H.imp (fun h hr => h (yh _ hr)) id), O⟩
    have : b ≠ a := by rintro rfl; rw [V] at J; simp at J; subst J; rw [I] at K; cases K
    exact U y J I (by simp at H; exact H.resolve_left this)
  ·rename_i W
   obtain ⟨U, N, O⟩ := dV mem r m b M
   refine ⟨fun y J I H => ?_, fun H => N (H.imp (fun h hr => h (yh _ hr)) id), O⟩
   have : b ≠ a := by rintro rfl; exact W y J
   exact U y J I (by simp at H; exact H.resolve_left this)
theorem gH.shut {G : Gh} {w : World} {B : Nat} {r : Row} (S : Nat → Nat → Prop) (h : gH G w B r) (ho : r.isOwn = true) (Y : r.okShut = true) (hS : ∀ i c B', cP w B r i c B' → ∀ o, S B' o) : gH (G.frz S) w B r.shut := by
 cases r with
 | own e xs hs =>
  cases hs with
  | cons _ _ => cases Y
  | nil =>
   obtain ⟨_, hl, hc⟩ := h
   refine ⟨hl, fun i x c y K h2 => ?_⟩
   obtain ⟨v, hv, U, W⟩ := hc i x c y K h2
   refine ⟨v, hv, U, ?_⟩
   rcases W with ⟨u, rfl, rfl⟩ | ⟨row, H, W⟩
   ·exact .lit _ U
   ·have O : ∀ B' n cap, v = .slice (some ⟨B', 0, none⟩) n cap → ∀ o, S B' o := fun B' n cap hvv => hS i c B' ⟨⟨x, y, row, K, h2, H⟩, rfl, n, cap, by rw [hv, hvv]⟩
    cases y with
    | ints k ys =>
     obtain rfl := ya H
     rcases W with ⟨rfl, h0⟩ | ⟨B', cap, rfl, I, _, _, _, _, hr, _⟩
     ·obtain rfl := yo h0; exact .intsNil k _
     ·exact .ints k ys B' 0 cap I fun j z hz => ⟨by rw [yc1]; exact hr j z hz, .inr (O B' _ _ rfl _)⟩
    | sl e' ys =>
     simp only [cW] at H; rw [aA] at H; obtain ⟨he, H⟩ := H
     obtain rfl := ya H
     rcases W with ⟨rfl, h0⟩ | ⟨B', cap, rfl, I, _, _, _, _, hr, _⟩
     ·obtain rfl := yo h0; exact .slNil e' _
     ·obtain ⟨Z, J⟩ := hr
      refine .sl e' ys B' 0 cap (fun i c => (cl w B' (i * e' + c)).getD undef) (cX.1 he) I Z (fun j z c q M V => ?_) (fun j z c q M V => ?_) (fun j z c q M V => ?_)
      ·obtain ⟨u, N, _, _⟩ := J j z c q M V
       rw [yc1]; exact ⟨by rw [N]; rfl, .inr (O B' _ _ rfl _)⟩
      ·obtain ⟨u, N, K, _⟩ := J j z c q M V
       rw [N]; exact K
      ·obtain ⟨u, N, _, K⟩ := J j z c q M V
       rw [N]; exact K.mono (fun _ _ h => .inl h) (fun _ _ _ => rfl)
    | lit u => simp [cW] at H
    | agg cs => simp [cW] at H
 | _ => cases ho
theorem aF.freeze {G : Gh} {w : World} {mem : aH} (hM : aF G w mem) (ids : List Nat) : aF (G.frz (aR G w mem ids)) w (aJ mem (bY mem ids)) := by
 have hg := c8.frz G (aR G w mem ids) hM.inBoxes
 have K : ∀ (b : Nat) (y : a9), (aJ mem (bY mem ids))[b]? = some (some y) → ∃ x, mem[b]? = some (some x) ∧ y.gen = x.gen ∧ ((b ∈ ids ∧ x.row.okShut = true ∧ y.frz = true ∧ y.row = x.row.shut) ∨ ((b ∉ ids ∨ x.row.okShut = false) ∧ y = x)) := by
  intro b y h
  obtain ⟨i1, i2, _⟩ := dV mem ids mem b rfl
  by_cases Z : ∃ x, mem[b]? = some (some x)
  ·obtain ⟨x, I⟩ := Z
   by_cases W : b ∈ ids ∧ x.row.okShut = true
   ·rw [i1 x I W.2 W.1] at h; simp at h; subst h; exact ⟨x, I, rfl, .inl ⟨W.1, W.2, rfl, rfl⟩⟩
   ·have N : b ∉ ids ∨ x.row.okShut = false := by
     by_cases h1 : b ∈ ids
     ·exact .inr (by cases h2 : x.row.okShut <;> simp_all)
     ·exact .inl h1
    rw [i2 (N.imp id (fun h x' J => by rw [I] at J; simp at J; subst J; exact h)), I] at h; simp at h; subst h; exact ⟨x, I, rfl, .inr ⟨N, rfl⟩⟩
  ·rw [i2 (.inr (fun x I => absurd ⟨x, I⟩ Z))] at h; exact absurd ⟨y, h⟩ Z
 have U : ∀ {b : Nat} {x y : a9} {B : Nat}, y.gen = x.gen → eK (G.frz (aR G w mem ids)) b y B → eK G b x B := by
  rintro b x y B hge ⟨L, Z, hB⟩; exact ⟨L, by rw [← hge]; exact Z, hB⟩
 -- blocks of a box that stays as it is are not among those
 have hout : ∀ {b : Nat} {x : a9} {B B' : Nat}, mem[b]? = some (some x) → (b ∉ ids ∨ x.row.okShut = false) → eK G b x B → (B' = B ∨ ∃ i c, cP w B x.row i c B') → ∀ o, ¬ aR G w mem ids B' o := by
  intro b x B B' I N hB h o hin
  obtain ⟨b2, hb2, x2, C, hx2, hok2, hC, h2⟩ := hin
  have hne : b2 ≠ b := by
   rintro rfl
   rw [I] at hx2; simp at hx2; subst hx2
   rcases N with h | h
   ·exact h hb2
   ·rw [hok2] at h; cases h
  have hO : iX G w mem b B' := ⟨b2, x2, C, hne, hx2, hC, h2⟩
  rcases h with rfl | ⟨i, c, V⟩
  ·exact hM.other_ne I hB hO rfl
  ·exact hM.other_inn I hB V hO
 refine ⟨fun b y h => ?_, fun b g h => ?_, fun b y g h hlt => ?_, fun b b' y y' L L' B h h' l l' k k' => ?_, fun b b' y y' B i c B' h k V h' k' => ?_, fun b b' y y' B C i c i' c' B' h k V h' k' hi' => ?_, hM.own, fun B o h => ?_, fun β B o h => ?_, hM.glob.mono (hg.prot true) fun _ _ _ => rfl⟩
 ·obtain ⟨x, I, M, hc⟩ := K b y h
  have W := hM.box b x I
  obtain ⟨o, Z, hm⟩ := W.loc
  rcases hc with ⟨hb1, hok, hf, H⟩ | ⟨N, rfl⟩
  ·refine ⟨by rw [H, Oj]; exact W.e, o, by rw [M, H, Oj, IY]; exact Z, ?_⟩
   cases o with
   | none => rw [H, IY, Ka]; exact hm
   | some B =>
    obtain ⟨h1, h2, h3, h4, h5⟩ := hm
    have hB : eK G b x B := ⟨_, Z, rfl⟩
    refine ⟨h1, h2, h3, ?_, fun hff => by rw [hf] at hff; cases hff⟩
    rw [H]
    cases how : x.row.isOwn with
    | true => exact h4.shut _ how hok fun i c B' V o => ⟨b, hb1, x, B, I, hok, hB, .inr ⟨i, c, V⟩⟩
    | false => rw [Ow how]; exact h4.mono hg (Ev.refl G w) (fun _ _ => rfl) fun i c B' V => by rw [V.own] at how; cases how
  ·refine ⟨W.e, o, Z, ?_⟩
   cases o with
   | none => exact hm
   | some B =>
    obtain ⟨h1, h2, h3, h4, h5⟩ := hm
    have hB : eK G b y B := ⟨_, Z, rfl⟩
    refine ⟨h1, h2, h3, h4.mono hg (Ev.refl G w) (fun _ _ => rfl) (fun i c B' V => ⟨.of rfl, fun β o Y => ?_⟩), fun hf β o Y => ?_⟩
    ·rcases Y with Y | Y
     ·exact (hM.inn I hB V).2.2.2 β o Y
     ·exact hout I N hB (.inr ⟨i, c, V⟩) o Y
    ·rcases Y with Y | Y
     ·exact h5 hf β o Y
     ·exact hout I N hB (.inl rfl) o Y
 ·refine hM.unset b g fun x I => ?_
  obtain ⟨i1, i2, _⟩ := dV mem ids mem b rfl
  by_cases W : b ∈ ids ∧ x.row.okShut = true
  ·exact h _ (i1 x I W.2 W.1)
  ·have N : b ∉ ids ∨ ∀ x' : a9, mem[b]? = some (some x') → x'.row.okShut = false := by
    by_cases h1 : b ∈ ids
    ·exact .inr fun x' J => by rw [I] at J; simp at J; subst J; cases h2 : x.row.okShut <;> simp_all
    ·exact .inl h1
   exact h x (by rw [i2 N]; exact I)
 ·obtain ⟨x, I, M, hc⟩ := K b y h
  exact hM.gens b x g I (by rw [← M]; exact hlt)
 ·obtain ⟨x, I, M, hc⟩ := K b y h
  obtain ⟨x', J, O, hc'⟩ := K b' y' h'
  rw [M] at l; rw [O] at l'
  exact hM.apart b b' x x' L L' B I J l l' k k'
 ·obtain ⟨x, I, M, hc⟩ := K b y h
  obtain ⟨x', J, O, hc'⟩ := K b' y' h'
  rcases hc with ⟨_, _, _, H⟩ | ⟨_, rfl⟩
  ·have := V.own; rw [H, Dr] at this; cases this
  ·exact hM.inA b b' y x' B i c B' I (U rfl k) V J (U O k')
 ·obtain ⟨x, I, M, hc⟩ := K b y h
  obtain ⟨x', J, O, hc'⟩ := K b' y' h'
  rcases hc with ⟨_, _, _, H⟩ | ⟨_, rfl⟩
  ·have := V.own; rw [H, Dr] at this; cases this
  ·rcases hc' with ⟨_, _, _, H⟩ | ⟨_, rfl⟩
   ·have := hi'.own; rw [H, Dr] at this; cases this
   ·exact hM.inB b b' y y' B C i c i' c' B' I (U rfl k) V J (U rfl k') hi'
 ·rcases h with h | h
  ·exact .inl (hM.lab B o h)
  ·exact .inr h
 ·rcases h with h | h
  ·exact hM.away β B o h
  ·exact hM.inBoxes_lt B o h
section
variable {P : Program}
theorem q6 {α β : Type} {f : α → Option (Bool × β × List Nat)} : ∀ {xs : List α} {r : Bool × List β × List Nat}, f0 f xs = some r →
  r.2.1.length = xs.length ∧ ∀ (i : Nat) (x : α), xs[i]? = some x → ∃ q, f x = some q ∧ r.2.1[i]? = some q.2.1 ∧ (∀ b ∈ q.2.2, b ∈ r.2.2) ∧ (r.1 = false → q.1 = false)
 | [], r, h => by simp [f0] at h; subst h; exact ⟨rfl, fun i x H => by simp at H⟩
 | v :: xs, r, h => by
  simp only [f0] at h
  rw [bind_some] at h; obtain ⟨a, V, h⟩ := h
  rw [bind_some] at h; obtain ⟨q, N, h⟩ := h
  obtain rfl := ya h
  obtain ⟨O, K⟩ := q6 N
  refine ⟨by simp [O], fun i x H => ?_⟩
  cases i with
  | zero => simp at H; subst H; exact ⟨a, V, rfl, fun b I => yq1 _ I, fun h => by simp at h; exact h.1⟩
  | succ i =>
   obtain ⟨U, M, W, Y, J⟩ := K i x (by simpa using H)
   exact ⟨U, M, by simpa using W, fun b I => ys1 _ (Y b I), fun h => J (by simp at h; exact h.2)⟩
theorem vB {α β γ : Type} {f : γ → α → Option (Bool × β × List Nat)} : ∀ {ls : List γ} {xs : List α} {r : Bool × List β × List Nat}, b3 f ls xs = some r →
  r.2.1.length = xs.length ∧ ls.length = xs.length ∧ ∀ (i : Nat) (x : α), xs[i]? = some x → ∃ l q, ls[i]? = some l ∧ f l x = some q ∧ r.2.1[i]? = some q.2.1 ∧ (∀ b ∈ q.2.2, b ∈ r.2.2) ∧ (r.1 = false → q.1 = false)
 | [], [], r, h => by simp [b3] at h; subst h; exact ⟨rfl, rfl, fun i x H => by simp at H⟩
 | l :: ls, v :: xs, r, h => by
  simp only [b3] at h
  rw [bind_some] at h; obtain ⟨a, Y, h⟩ := h
  rw [bind_some] at h; obtain ⟨q, U, h⟩ := h
  obtain rfl := ya h
  obtain ⟨V, J, N⟩ := vB U
  refine ⟨by simp [V], by simp [J], fun i x H => ?_⟩
  cases i with
  | zero => simp at H; subst H; exact ⟨l, a, rfl, Y, rfl, fun b I => yq1 _ I, fun h => by simp at h; exact h.1⟩
  | succ i =>
   obtain ⟨l', W, K, O, Z, h3, M⟩ := N i x (by simpa using H)
   exact ⟨l', W, by simpa using K, O, by simpa using Z, fun b I => ys1 _ (h3 b I), fun h => M (by simp at h; exact h.2)⟩
 | [], _ :: _, r, h => by simp [b3] at h
 | _ :: _, [], r, h => by simp [b3] at h
theorem y5 {α : Type} {e : Nat} : ∀ {n : Nat} {cs : List α} {i : Nat}, i < n → (chunks e n cs)[i]? = some ((cs.drop (i * e)).take e)
 | n + 1, cs, 0, h => by simp [chunks]
 | n + 1, cs, i + 1, h => by
  simp only [chunks, yd1]
  rw [y5 (by omega), List.drop_drop]
  congr 3; rw [yk1]; omega
theorem fO {α : Type} {e : Nat} : ∀ {n : Nat} {cs : List α}, (chunks e n cs).length = n
 | 0, cs => rfl
 | n + 1, cs => by simp [chunks, fO]
theorem sub_zero {r : Row} {o : Nat} {v : aI} (h : r.sub o 0 = some v) : (∃ k, v = .ints k []) ∨ (∃ β e, v = .pvs β e []) ∨ (∃ e, v = .avs e []) := by
 cases r <;> simp only [Row.sub] at h <;> first | (cases h; done) | skip <;> rw [aA] at h <;> obtain ⟨_, h⟩ := h <;> obtain rfl := ya h <;> simp
theorem PR.intsZ {w : World} {J : Nat → Nat → Prop} (k : IntKind) (a : Option Addr) (I : ∀ x, a = some x → x.spot = none) : PR w J (.ints k []) (.slice a 0 0) := by
 cases a with
 | none => exact .intsNil k _
 | some a => obtain ⟨B, o, s⟩ := a; obtain rfl := I _ rfl; exact .ints k [] B o 0 (by simp) (fun i x H => by simp at H)
theorem PR.slZ {w : World} {K : Nat → Nat → Prop} {e : Nat} (I : 1 ≤ e) (a : Option Addr) (J : ∀ x, a = some x → x.spot = none) : PR w K (.sl e []) (.slice a 0 0) := by
 cases a with
 | none => exact .slNil e _
 | some a => obtain ⟨B, o, s⟩ := a; obtain rfl := J _ rfl; exact .sl e [] B o 0 (fun _ _ => undef) I (by simp) (fun x H => by simp at H) (fun i x c y H => by simp at H) (fun i x c y H => by simp at H) (fun i x c y H => by simp at H)
theorem Nd {r : Row} {o n : Nat} {v : aI} (h : r.sub o n = some v) : v.e = r.e := by
 cases r <;> simp only [Row.sub] at h <;> first | (cases h; done) | skip <;> rw [aA] at h <;> obtain ⟨_, h⟩ := h <;> obtain rfl := ya h <;> rfl
theorem yH {k : IntKind} {b : Nat} {v : aI} {r : Bool × PV × List Nat} (h : a5.treeInts k b v = some r) (I : (∃ k, v = .ints k []) ∨ (∃ β e, v = .pvs β e []) ∨ (∃ e, v = .avs e [])) :
  ∃ H, True ∧ r = (false, .ints H [], [b]) := by
 rcases I with ⟨H, rfl⟩ | ⟨β, e, rfl⟩ | ⟨e, rfl⟩
 ·simp only [a5.treeInts] at h
  rw [aA] at h; obtain ⟨_, h⟩ := h
  exact ⟨H, trivial, (ya h).symm⟩
 ·simp [a5.treeInts] at h
 ·simp only [a5.treeInts] at h
  rw [aA] at h; obtain ⟨_, h⟩ := h
  simp [e5] at h
  exact ⟨k, trivial, h.symm⟩
theorem Cv {f : LK → AV → Option (Bool × PV × List Nat)} {t : TypeId} {e b : Nat} {v : aI} {r : Bool × PV × List Nat} (h : a5.treeSl P f t e b v = some r) (I : (∃ k, v = .ints k []) ∨ (∃ β e, v = .pvs β e []) ∨ (∃ e, v = .avs e [])) :
  ∃ β, v.e = e ∧ r = (β, .sl e [], [b]) := by
 rcases I with ⟨k', rfl⟩ | ⟨β, J, rfl⟩ | ⟨J, rfl⟩
 ·simp [a5.treeSl] at h
 ·simp only [a5.treeSl] at h
  rw [aA] at h; obtain ⟨H, h⟩ := h
  obtain rfl := bJ.1 H
  exact ⟨β, rfl, (ya h).symm⟩
 ·simp only [a5.treeSl] at h
  rw [aA] at h; obtain ⟨H, h⟩ := h
  simp only [yb] at H
  obtain rfl := bJ.1 H.1
  rw [bind_some] at h; obtain ⟨ls, _, h⟩ := h
  have : aN e ([] : List AV).length = 0 := by
   have := gI (n := 0) (cX.1 H.2) 0; simpa using this
  rw [this] at h
  simp [chunks, f0] at h
  exact ⟨false, rfl, h.symm⟩
theorem yZ {G : Gh} {w : World} {mem : aH} (hM : aF G w mem) : ∀ {n : Nat} {l : LK} {v : AV} {r : Bool × PV × List Nat} {cv : Value}, a5 P mem n l v = some r → VR G w v cv →
  PR w ((G.frz (aR G w mem r.2.2)).prot r.1) r.2.1 cv ∧ cv.oneCell' = true ∧ r.2.1.cells = [r.2.1]
 | 0, l, v, r, cv, h, hv => by simp [a5] at h
 | n + 1, l, v, r, cv, h, hv => by
  have frzPR : ∀ {ids : List Nat} {β : Bool} {p : PV} {u : Value}, PR w (G.prot β) p u → PR w ((G.frz (aR G w mem ids)).prot β) p u := fun W => W.mono (fun _ _ h => .inl h) (fun _ _ _ => rfl)
  have hints : ∀ {k : IntKind} {b : Nat} {x : a9} {wv : aI} {q : Bool × PV × List Nat} {vs : List Value} {B o cap : Nat}, mem[b]? = some (some x) → x.row.isOwn = false → G.loc b x.gen = some ⟨some B, x.row.e, x.row.len⟩ → a5.treeInts k b wv = some q →
    bF G w wv vs → (∀ j u, vs[j]? = some u → cl w B (o + j) = some u) → wv.len ≤ cap →
    PR w ((G.frz (aR G w mem q.2.2)).prot q.1) q.2.1 (.slice (some ⟨B, o, none⟩) wv.len cap) ∧ q.2.1.cells = [q.2.1] := by
   intro k b x wv q vs B o cap H how hl M O K hcap
   have hin : ∀ o', aR G w mem [b] B o' := fun o' => .one (yb2.2 rfl) H how hl rfl
   unfold a5.treeInts at M
   split at M
   ·rename_i k' xs
    rw [aA] at M; obtain ⟨hk, M⟩ := M
    obtain rfl := ya M
    obtain ⟨hlen, _, hh⟩ := O
    exact ⟨.ints k' xs B o cap hcap (fun i y N => ⟨K _ _ (hh i y N), .inr (hin _)⟩), rfl⟩
   ·rename_i e cs
    rw [aA] at M; obtain ⟨Z, M⟩ := M
    obtain rfl := bJ.1 Z
    obtain ⟨xs, hxs, rfl⟩ := yc.1 M
    obtain ⟨hlen, _, hcnt, hh⟩ := O
    have key : ∀ {cs : List AV} {xs : List Int}, e5 k cs = some xs → xs.length = cs.length ∧ ∀ (i : Nat) (y : Int), xs[i]? = some y → cs[i]? = some (.lit (.int k y)) := by
     intro cs
     induction cs with
     | nil => intro xs h; simp [e5] at h; subst h; exact ⟨rfl, fun i y N => by simp at N⟩
     | cons c cs ih =>
      intro xs h
      have hc : ∃ k' z, c = .lit (.int k' z) := by
       cases c with
       | lit v => cases v with
        | int k' z => exact ⟨k', z, rfl⟩
        | _ => simp [e5] at h
       | _ => simp [e5] at h
      obtain ⟨k', z, rfl⟩ := hc
      simp only [e5] at h
      cases hk : gK k k' with
      | false => rw [hk] at h; simp at h
      | true =>
       rw [hk] at h
       rw [jO] at hk; subst hk
       simp only [yl] at h
       obtain ⟨xs', h1, rfl⟩ := yc.1 h
       obtain ⟨i1, i2⟩ := ih h1
       refine ⟨by simp [i1], fun i y N => ?_⟩
       cases i with
       | zero => simp at N; subst N; rfl
       | succ i => simpa using i2 i y (by simpa using N)
    obtain ⟨k1, k2⟩ := key hxs
    have hle : aI.len (.avs 1 cs) = xs.length := by rw [k1]; rfl
    rw [hle]
    refine ⟨.ints k xs B o cap (by rw [← hle]; exact hcap) (fun i y N => ?_), rfl⟩
    obtain ⟨u, I, W⟩ := hh i _ (k2 i y N)
    obtain rfl := W.lit_inv
    exact ⟨K _ _ I, .inr (hin _)⟩
   ·simp at M
  have hsl : ∀ {t : TypeId} {e b : Nat} {x : a9} {wv : aI} {q : Bool × PV × List Nat} {vs : List Value} {B o cap : Nat}, mem[b]? = some (some x) → x.row.isOwn = false → G.loc b x.gen = some ⟨some B, x.row.e, x.row.len⟩ → a5.treeSl P (a5 P mem n) t e b wv = some q →
    1 ≤ wv.e → bF G w wv vs → (∀ j u, vs[j]? = some u → cl w B (o + j) = some u) → wv.len ≤ cap →
    PR w ((G.frz (aR G w mem q.2.2)).prot q.1) q.2.1 (.slice (some ⟨B, o, none⟩) wv.len cap) ∧ q.2.1.cells = [q.2.1] := by
   intro t e b x wv q vs B o cap H how hl M he1 O K hcap
   have hin : ∀ ids o', b ∈ ids → aR G w mem ids B o' := fun ids o' hb => .one hb H how hl rfl
   unfold a5.treeSl at M
   split at M
   ·rename_i β e' xs
    rw [aA] at M; obtain ⟨Z, M⟩ := M
    obtain rfl := bJ.1 Z
    obtain rfl := ya M
    obtain ⟨hlen, h1, hh1, hh2⟩ := O
    refine ⟨.sl e xs B o cap (fun i c => vs.getD (i * e + c) undef) he1 hcap hh1 (fun i x c y H N => ?_) (fun i x c y H N => ?_) (fun i x c y H N => ?_), rfl⟩
    ·obtain ⟨u, I, W⟩ := hh2 i x c y H N
     rw [yi, I]
     exact ⟨by rw [yc3]; exact K _ _ I, .inr (hin _ _ (yb2.2 rfl))⟩
    ·obtain ⟨u, I, W⟩ := hh2 i x c y H N
     rw [yi, I]
     exact h1 u (yt I)
    ·obtain ⟨u, I, W⟩ := hh2 i x c y H N
     rw [yi, I]
     exact frzPR W
   ·rename_i e' cs
    rw [aA] at M; obtain ⟨Z, M⟩ := M
    simp only [yb] at Z
    obtain rfl := bJ.1 Z.1
    rw [bind_some] at M; obtain ⟨ls, hls, M⟩ := M
    obtain ⟨r0, hr0, rfl⟩ := yc.1 M
    obtain ⟨hlen, h1, hcnt, hh⟩ := O
    obtain ⟨fl, ff⟩ := q6 hr0
    rw [fO] at fl
    have hcs : cs.length = aN e cs.length * e := by rw [yk2]; exact hcnt
    -- element i
    have hel : ∀ i p, r0.2.1[i]? = some p → i < aN e cs.length ∧ p.cells.length = e ∧ ∀ c y, p.cells[c]? = some y → ∃ u, vs[i * e + c]? = some u ∧ PR w ((G.frz (aR G w mem (b :: r0.2.2))).prot r0.1) y u := by
     intro i p W
     have hi : i < aN e cs.length := by rw [← fl]; exact (yd.1 W).1
     obtain ⟨q1, hq1, hp1, hb1, hlab1⟩ := ff i _ (y5 hi)
     rw [W] at hp1
     obtain rfl := ya hp1
     rw [bind_some] at hq1; obtain ⟨q2, hq2, hq1⟩ := hq1
     obtain ⟨p', hp', rfl⟩ := yc.1 hq1
     obtain ⟨zl, zl2, zz⟩ := vB hq2
     have hchl : ((cs.drop (i * e)).take e).length = e := by
      have h2 : i * e + e ≤ cs.length := by
       rw [hcs]
       calc i * e + e = (i + 1) * e := by rw [yk1]; simp
        _ ≤ _ := yz1 _ hi
      simp; omega
     have V : p'.cells = q2.2.1 := by
      unfold sJ at hp'
      split at hp'
      ·obtain rfl := ya hp'; rfl
      ·split at hp'
       ·rename_i c heq
        obtain rfl := ya hp'
        -- a single cell: what a5 answers is no struct
        have hlen1 : ((cs.drop (i * e)).take e).length = 1 := by rw [← zl, heq]; rfl
        obtain ⟨lk, q3, _, h3, h4, _⟩ := zz 0 (((cs.drop (i * e)).take e)[0]'(by omega)) (yf _)
        have hcell0 : cs[i * e]? = some (((cs.drop (i * e)).take e)[0]'(by omega)) := by
         have := yf (l := (cs.drop (i * e)).take e) (i := 0) (by omega)
         rw [yf1 (by omega), yz] at this; simp
        obtain ⟨u, I, hvr⟩ := hh _ _ hcell0
        have hone := (yZ hM h3 hvr).2.2
        rw [heq] at h4
        simp only [yq2, Option.some.injEq] at h4
        rw [heq, h4]; exact hone
       ·simp at hp'
      ·simp at hp'
     refine ⟨hi, by rw [V, zl, hchl], fun c y N => ?_⟩
     rw [V] at N
     have hc : c < e := by have := (yd.1 N).1; rw [zl, hchl] at this; exact this
     obtain ⟨lk, q3, _, h3, h4, h5, h6⟩ := zz c (((cs.drop (i * e)).take e)[c]'(by omega)) (yf _)
     have hcell : cs[i * e + c]? = some (((cs.drop (i * e)).take e)[c]'(by omega)) := by
      have := yf (l := (cs.drop (i * e)).take e) (i := c) (by omega)
      rw [yf1 (by omega), yz] at this; simp
     obtain ⟨u, I, hvr⟩ := hh _ _ hcell
     have hpr := (yZ hM h3 hvr).1
     rw [N] at h4
     obtain rfl := ya h4
     refine ⟨u, I, hpr.mono (fun B' o' hh => ?_) (fun _ _ _ => rfl)⟩
     rcases hh with hh | hh
     ·left
      cases hb : r0.1 with
      | false => rw [h6 (hlab1 hb)] at hh; exact hh
      | true =>
       cases hq3 : q3.1 with
       | false => rw [hq3] at hh; exact hM.lab _ _ hh
       | true => rw [hq3] at hh; exact hh
     ·exact .inr (hh.mono fun b' hb' => yh _ (hb1 b' (h5 b' hb')))
    have hwl : aI.len (.avs e cs) = r0.2.1.length := by rw [fl]; rfl
    rw [hwl]
    refine ⟨.sl e r0.2.1 B o cap (fun i c => vs.getD (i * e + c) undef) he1 (by rw [← hwl]; exact hcap) (fun x H => ?_) (fun i x c y H N => ?_) (fun i x c y H N => ?_) (fun i x c y H N => ?_), rfl⟩
    ·obtain ⟨i, hi, rfl⟩ := yt1 H
     exact (hel i _ (yf hi)).2.1
    ·obtain ⟨u, I, W⟩ := (hel i x H).2.2 c y N
     rw [yi, I]
     exact ⟨by rw [yc3]; exact K _ _ I, .inr (hin _ _ (ym ..))⟩
    ·obtain ⟨u, I, W⟩ := (hel i x H).2.2 c y N
     rw [yi, I]
     exact h1 u (yt I)
    ·obtain ⟨u, I, W⟩ := (hel i x H).2.2 c y N
     rw [yi, I]
     exact W
   ·simp at M
  unfold a5 at h
  split at h
  ·rename_i k k' x
   rw [aA] at h; obtain ⟨hk, h⟩ := h
   obtain rfl := ya h
   obtain rfl := hv.lit_inv
   exact ⟨.lit _ rfl, rfl, rfl⟩
  ·obtain rfl := ya h
   obtain rfl := hv.lit_inv
   exact ⟨.lit _ rfl, rfl, rfl⟩
  ·obtain rfl := ya h
   obtain rfl := hv.lit_inv
   exact ⟨.lit _ rfl, rfl, rfl⟩
  ·rename_i k β k' xs
   rw [aA] at h; obtain ⟨hk, h⟩ := h
   obtain rfl := ya h
   cases hv with
   | imm _ _ _ W hs => exact ⟨frzPR W, by cases W <;> rfl, rfl⟩
  ·rename_i k
   obtain rfl := ya h
   obtain rfl := hv.lit_inv
   exact ⟨.intsNil k _, rfl, rfl⟩
  ·rename_i k b g
   rw [bind_some] at h; obtain ⟨x, H, h⟩ := h
   have J := (box?_some H)
   have Z := (hM.box b x J.1).e
   rcases hM.at_msw H hv with ⟨B, cap, rfl, hn, hl, hf, _, _, _, U, _⟩ | ⟨rfl, hz, hnc, hl⟩
   ·obtain ⟨vs, hvs, K⟩ := U.toList Z (box?_own H)
    have := hints (o := 0) (cap := cap) J.1 (box?_own H) (by rw [J.2]; exact hl) h hvs (fun j u I => by rw [yc1]; rw [K _ (yd.1 I).1]; exact I) (by rw [dQ]; exact hn)
    rw [dQ] at this
    exact ⟨this.1, rfl, this.2⟩
   ·unfold a5.treeInts at h
    obtain ⟨gen, frz, row⟩ := x
    cases row with
    | ints k' xs =>
     simp only [Row.len] at hz
     have := yo hz; subst this
     simp only [Row.all] at h
     rw [aA] at h; obtain ⟨hk, h⟩ := h
     obtain rfl := ya h
     exact ⟨.intsNil _ _, rfl, rfl⟩
    | pvs β e xs => simp [Row.all] at h
    | cells e cs => simp [Row.isCells] at hnc
    | own e xs hs => exact absurd (box?_own H) (by simp [Row.isOwn])
  ·rename_i k b g o m
   rw [bind_some] at h; obtain ⟨x, H, h⟩ := h
   rw [bind_some] at h; obtain ⟨wv, Y, h⟩ := h
   have J := (box?_some H)
   have Z := (hM.box b x J.1).e
   rcases hM.at_ms H hv with ⟨B, cap, rfl, hn, hon, hl, hf, _, _, _, U, _⟩ | ⟨rfl, rfl, rfl, hz, hl⟩ | ⟨B, oo, rfl, ho, rfl, hon, hl⟩
   ·obtain ⟨vs, hvs, K⟩ := U.toList Z (box?_own H)
    obtain ⟨hv', hve, hvl, _⟩ := wA Z Y hvs
    have := hints (o := o * x.row.e) (cap := cap) J.1 (box?_own H) (by rw [J.2]; exact hl) h hv' (fun j u I => by
     have hj : j < m * x.row.e := by have := (yd.1 I).1; rw [hv'.1, hve, hvl] at this; exact this
     rw [yf1 hj, yz] at I
     rw [K _ (yd.1 I).1]; exact I) (by rw [hvl]; exact hn)
    rw [hvl] at this
    exact ⟨this.1, rfl, this.2⟩
   ·obtain ⟨k', hk', hr⟩ := yH h (sub_zero Y); rw [hr]; exact ⟨PR.intsZ k' none (by simp), rfl, rfl⟩
   ·obtain ⟨k', hk', hr⟩ := yH h (sub_zero Y); rw [hr]; exact ⟨PR.intsZ k' (some ⟨B, oo, none⟩) (by simp), rfl, rfl⟩
  ·rename_i t e β e' xs
   rw [aA] at h; obtain ⟨hk, h⟩ := h
   obtain rfl := ya h
   cases hv with
   | imm _ _ _ W hs => exact ⟨frzPR W, by cases W <;> rfl, rfl⟩
  ·rename_i t e
   obtain rfl := ya h
   obtain rfl := hv.lit_inv
   exact ⟨.slNil e _, rfl, rfl⟩
  ·rename_i t e b g
   rw [bind_some] at h; obtain ⟨x, H, h⟩ := h
   have J := (box?_some H)
   have Z := (hM.box b x J.1).e
   rcases hM.at_msw H hv with ⟨B, cap, rfl, hn, hl, hf, _, _, _, U, _⟩ | ⟨rfl, hz, hnc, hl⟩
   ·obtain ⟨vs, hvs, K⟩ := U.toList Z (box?_own H)
    have := hsl (o := 0) (cap := cap) J.1 (box?_own H) (by rw [J.2]; exact hl) h (by rw [oP]; exact Z) hvs (fun j u I => by rw [yc1]; rw [K _ (yd.1 I).1]; exact I) (by rw [dQ]; exact hn)
    rw [dQ] at this
    exact ⟨this.1, rfl, this.2⟩
   ·unfold a5.treeSl at h
    obtain ⟨gen, frz, row⟩ := x
    cases row with
    | ints k' xs => simp [Row.all] at h
    | pvs β e' xs =>
     simp only [Row.len] at hz
     have := yo hz; subst this
     simp only [Row.all] at h
     rw [aA] at h; obtain ⟨hk, h⟩ := h
     obtain rfl := ya h
     exact ⟨.slNil _ _, rfl, rfl⟩
    | cells e cs => simp [Row.isCells] at hnc
    | own e xs hs => exact absurd (box?_own H) (by simp [Row.isOwn])
  ·rename_i t e b g o m
   rw [bind_some] at h; obtain ⟨x, H, h⟩ := h
   rw [bind_some] at h; obtain ⟨wv, Y, h⟩ := h
   have J := (box?_some H)
   have Z := (hM.box b x J.1).e
   rcases hM.at_ms H hv with ⟨B, cap, rfl, hn, hon, hl, hf, _, _, _, U, _⟩ | ⟨rfl, rfl, rfl, hz, hl⟩ | ⟨B, oo, rfl, ho, rfl, hon, hl⟩
   ·obtain ⟨vs, hvs, K⟩ := U.toList Z (box?_own H)
    obtain ⟨hv', hve, hvl, _⟩ := wA Z Y hvs
    have := hsl (o := o * x.row.e) (cap := cap) J.1 (box?_own H) (by rw [J.2]; exact hl) h (by rw [hve]; exact Z) hv' (fun j u I => by
     have hj : j < m * x.row.e := by have := (yd.1 I).1; rw [hv'.1, hve, hvl] at this; exact this
     rw [yf1 hj, yz] at I
     rw [K _ (yd.1 I).1]; exact I) (by rw [hvl]; exact hn)
    rw [hvl] at this
    exact ⟨this.1, rfl, this.2⟩
   ·have he' := Nd Y
    obtain ⟨e', hk', hr⟩ := Cv h (sub_zero Y); rw [hr]; exact ⟨PR.slZ (by omega) none (by simp), rfl, rfl⟩
   ·have he' := Nd Y
    obtain ⟨e', hk', hr⟩ := Cv h (sub_zero Y); rw [hr]; exact ⟨PR.slZ (by omega) (some ⟨B, oo, none⟩) (by simp), rfl, rfl⟩
  ·simp at h
end
end Go.Ab
end
section
namespace Go.Ab
variable [b4]
section
variable {P : Program}
theorem dG {mem : aH} {v : AV} {rd : List Nat} {b : Nat} {x : a9} : ({ v, rd, wr := [(b, x)] } : dD).apply mem = mem.set b (some x) := by simp [dD.apply, aJ]
theorem n4 (mem : aH) : ∀ (a b : List (Nat × a9)), aJ mem (a ++ b) = aJ (aJ mem a) b
 | [], b => rfl
 | (i, x) :: a, b => by simp only [yp2, aJ]; exact n4 (mem.set i (some x)) a b
theorem Mf {mem : aH} {v : AV} {rd ids : List Nat} {b : Nat} {x : a9} : ({ v, rd, wr := bY mem ids ++ [(b, x)] } : dD).apply mem = (aJ mem (bY mem ids)).set b (some x) := by
 simp [dD.apply, n4, aJ]
theorem Fl {mem : aH} {v : AV} {q : Nat × Nat × List PV} (h : nS mem v = some q) : ∃ g x xs, ((v = .msw q.1 g ∧ q.2.2 = xs) ∨ ∃ n, v = .ms q.1 g 0 n ∧ n ≤ xs.length ∧ q.2.2 = xs.take n) ∧ mem[q.1]? = some (some x) ∧ x.gen = g ∧ x.row = .own q.2.1 xs [] ∧ x.frz = false := by
 unfold nS at h
 split at h
 ·rename_i b g
  rw [bind_some] at h; obtain ⟨x, K, h⟩ := h
  obtain ⟨I, J, _⟩ := boxO?_some K
  split at h
  ·rename_i e xs hr
   rw [aA] at h; obtain ⟨H, h⟩ := h
   obtain rfl := ya h
   exact ⟨g, x, xs, .inl ⟨rfl, rfl⟩, I, J, hr, by simpa using H⟩
  ·cases h
 ·rename_i b g n
  rw [bind_some] at h; obtain ⟨x, K, h⟩ := h
  obtain ⟨I, J, _⟩ := boxO?_some K
  split at h
  ·rename_i e xs hr
   rw [aA] at h; obtain ⟨H, h⟩ := h
   simp only [yb, yq] at H
   obtain rfl := ya h
   exact ⟨g, x, xs, .inr ⟨n, rfl, cX.1 H.2, rfl⟩, I, J, hr, H.1⟩
  ·cases h
 ·cases h
theorem N4 {G : Gh} {w : World} {mem : aH} (hM : aF G w mem) {b g e : Nat} {x : a9} {xs : List PV} {cv : Value} (S : Nat → Nat → Prop) (hm : mem[b]? = some (some x)) (hg : x.gen = g) (I : x.row = .own e xs []) (hv : VR G w (.msw b g) cv)
  (hS : ∀ B B' o, eK G b x B → (B' = B ∨ ∃ i c, cP w B x.row i c B') → S B' o) : PR w ((G.frz S).prot false) (.sl e xs) cv ∧ cv.oneCell' = true := by
 subst hg
 have W := (hM.box b x hm).e
 cases hv with
 | msw _ _ cap L B V Y hn hf =>
  have hB : eK G b x B := ⟨L, V, Y⟩
  obtain ⟨J, K, M, h3, Z, h5⟩ := hM.blk hm hB
  rw [V] at J
  obtain rfl := ya J
  have U := Z.shut S (by rw [I]; rfl) (by rw [I]; rfl) (fun i c B' hi o => hS B B' o hB (.inr ⟨i, c, hi⟩))
  rw [I] at U hn W ⊢
  obtain ⟨O, H⟩ := U
  refine ⟨.sl e xs B 0 cap (fun i c => (cl w B (i * e + c)).getD undef) W hn O (fun i x' c y K M => ?_) (fun i x' c y K M => ?_) (fun i x' c y K M => ?_), rfl⟩
  ·obtain ⟨u, N, _, _⟩ := H i x' c y K M
   rw [yc1]; exact ⟨by rw [N]; rfl, .inr (hS B B _ hB (.inl rfl))⟩
  ·obtain ⟨u, N, K, _⟩ := H i x' c y K M
   rw [N]; exact K
  ·obtain ⟨u, N, _, K⟩ := H i x' c y K M
   rw [N]; exact K
 | mswNil _ _ L V Y hn =>
  obtain ⟨o, J, hmm⟩ := (hM.box b x hm).loc
  rw [V] at J
  obtain rfl := ya J
  rw [I] at hn
  obtain rfl := yo hn
  exact ⟨.slNil e _, rfl⟩
theorem MR {G : Gh} {w : World} {mem : aH} (hM : aF G w mem) {b g e n : Nat} {x : a9} {xs : List PV} {cv : Value} (S : Nat → Nat → Prop) (hm : mem[b]? = some (some x)) (hg : x.gen = g) (J : x.row = .own e xs []) (hn : n ≤ xs.length) (hv : VR G w (.ms b g 0 n) cv)
  (hS : ∀ B B' o, eK G b x B → (B' = B ∨ ∃ i c, cP w B x.row i c B') → S B' o) : PR w ((G.frz S).prot false) (.sl e (xs.take n)) cv ∧ cv.oneCell' = true := by
 subst hg
 have he := (hM.box b x hm).e
 cases hv with
 | ms _ _ _ _ cap L B Z hb hn' hon hf =>
  have hB : eK G b x B := ⟨L, Z, hb⟩
  obtain ⟨N, K, M, h3, h4, h5⟩ := hM.blk hm hB
  rw [Z] at N
  obtain rfl := ya N
  have Y := h4.shut S (by rw [J]; rfl) (by rw [J]; rfl) (fun i c B' hi o => hS B B' o hB (.inr ⟨i, c, hi⟩))
  rw [J] at Y he ⊢
  obtain ⟨V, H⟩ := Y
  have I : ∀ {i : Nat} {x' : PV}, (xs.take n)[i]? = some x' → xs[i]? = some x' := by
   intro i x' h
   rw [yj1] at h
   split at h
   ·exact h
   ·cases h
  have W : (xs.take n).length = n := by rw [yb3]; omega
  have hz : 0 * x.row.e = 0 := yd3 _
  have U : PR w ((G.frz S).prot false) (.sl e (xs.take n)) (.slice (some ⟨B, 0, none⟩) (xs.take n).length cap) := by
   refine .sl e (xs.take n) B 0 cap (fun i c => (cl w B (i * e + c)).getD undef) he (by rw [W]; exact hn') (fun y hy => V y (yy2 hy)) (fun i x' c y K M => ?_) (fun i x' c y K M => ?_) (fun i x' c y K M => ?_)
   ·obtain ⟨u, O, _, _⟩ := H i x' c y (I K) M
    rw [yc1]; exact ⟨by rw [O]; rfl, .inr (hS B B _ hB (.inl rfl))⟩
   ·obtain ⟨u, O, K, _⟩ := H i x' c y (I K) M
    rw [O]; exact K
   ·obtain ⟨u, O, _, K⟩ := H i x' c y (I K) M
    rw [O]; exact K
  rw [W] at U
  rw [yd3]
  exact ⟨U, rfl⟩
 | msNil _ _ L Z hb => exact ⟨.slNil e _, rfl⟩
 | msZ _ _ _ B oo L Z hb ho hon => omega
theorem Ch {G : Gh} {w : World} {mem : aH} (hM : aF G w mem) {l : LK} {v : AV} {r : Bool × PV × List Nat} {cv : Value} (h : i4 P mem l v = some r) (N : VR G w v cv) :
  PR w ((G.frz (aR G w mem r.2.2)).prot r.1) r.2.1 cv ∧ cv.oneCell' = true ∧ r.2.1.cells = [r.2.1] := by
 unfold i4 at h
 split at h
 ·rename_i q V
  split at h
  ·rw [aA] at h; obtain ⟨U, h⟩ := h
   obtain rfl := bJ.1 U
   obtain rfl := ya h
   obtain ⟨g, x, xs, M, hm, O, H, hf⟩ := Fl V
   rcases M with ⟨rfl, I⟩ | ⟨n, rfl, hn, I⟩
   ·obtain ⟨J, K⟩ := N4 hM (aR G w mem [q.1]) hm O H N (fun B B' o hB h => ⟨q.1, yb2.2 rfl, x, B, hm, by rw [H]; rfl, hB, h⟩)
    simp only [I]
    exact ⟨J, K, rfl⟩
   ·obtain ⟨J, K⟩ := MR hM (aR G w mem [q.1]) hm O H hn N (fun B B' o hB h => ⟨q.1, yb2.2 rfl, x, B, hm, by rw [H]; rfl, hB, h⟩)
    simp only [I]
    exact ⟨J, K, rfl⟩
  ·cases h
 ·exact yZ hM h N
theorem pG {G : Gh} {w : World} {mem : aH} (hM : aF G w mem) {t : TypeId} {v : AV} {r : Bool × PV × List Nat} {cv : Value} (h : rQ P mem t v = some r) (hv : VR G w v cv) :
  r.2.1.cells.length = v.cells.length ∧ ∀ (j : Nat) (y : PV), r.2.1.cells[j]? = some y → ∃ u, cv.cells.toList[j]? = some u ∧ PR w ((G.frz (aR G w mem r.2.2)).prot r.1) y u ∧ u.oneCell' = true := by
 unfold rQ at h
 rw [bind_some] at h; obtain ⟨ls, hls, h⟩ := h
 rw [bind_some] at h; obtain ⟨q, hq, h⟩ := h
 obtain ⟨p, J, rfl⟩ := yc.1 h
 obtain ⟨zl, zl2, zz⟩ := vB hq
 have hc := hv.cells
 have N : ∀ (j : Nat) (y : PV), q.2.1[j]? = some y → ∃ u, cv.cells.toList[j]? = some u ∧ PR w ((G.frz (aR G w mem q.2.2)).prot q.1) y u ∧ u.oneCell' = true ∧ y.cells = [y] := by
  intro j y V
  have W : j < v.cells.length := by rw [← zl]; exact (yd.1 V).1
  obtain ⟨lk, q3, _, Y, Z, h5, h6⟩ := zz j (v.cells[j]) (yf W)
  rw [V] at Z
  obtain rfl := ya Z
  have M : j < cv.cells.toList.length := by rw [← hc.1]; exact W
  have K := hc.2 j _ (yf W)
  rw [yi, yf M] at K
  obtain ⟨t1, t2, t3⟩ := Ch hM Y K
  refine ⟨_, yf M, t1.mono (fun B' o' H => ?_) (fun _ _ _ => rfl), t2, t3⟩
  rcases H with H | H
  ·left
   cases hb : q.1 with
   | false => rw [h6 hb] at H; exact H
   | true =>
    cases O : q3.1 with
    | false => rw [O] at H; exact hM.lab _ _ H
    | true => rw [O] at H; exact H
  ·exact .inr (H.mono h5)
 have I : p.cells = q.2.1 := by
  unfold sJ at J
  split at J
  ·obtain rfl := ya J; rfl
  ·split at J
   ·rename_i c U
    obtain rfl := ya J
    obtain ⟨u, _, _, _, h⟩ := N 0 c (by rw [U]; rfl)
    rw [U]; exact h
   ·simp at J
  ·simp at J
 simp only
 rw [I]
 exact ⟨zl, fun j y V => by obtain ⟨u, h1, h2, Y, _⟩ := N j y V; exact ⟨u, h1, h2, Y⟩⟩
theorem bF.ofLRs {G : Gh} {w : World} {e : Nat} {cs : List AV} {vs : List Value} (h : gW G w cs vs) (K : iV cs = true) (J : cs.length = aN e cs.length * e) : bF G w (.avs e cs) vs := by
 refine ⟨by rw [← h.1]; exact J, h.ones K, by rw [yk2]; exact J, fun j y I => ?_⟩
 have H : j < vs.length := by rw [← h.1]; exact (yd.1 I).1
 have := h.2 j y I
 rw [yi, yf H] at this
 exact ⟨_, yf H, this⟩
theorem FP {G : Gh} {w : World} {mem : aH} {b : Nat} {row : Row} {vs : List Value} {rest : Array Value} {t : TypeId} (hM : aF G w mem) (M : mem[b]? = some none) (V : 1 ≤ row.e) (H : row.isOwn = false)
  (Z : bF G w row.all vs) : ∃ J, J = G.put b 0 ⟨some w.heap.size, row.e, row.len⟩ ∧ c8 G J ∧ Ev G w (w.alloc (.cells (vs.toArray ++ rest) t)) ∧
   aF J (w.alloc (.cells (vs.toArray ++ rest) t)) (mem.set b (some { gen := 0, frz := false, row })) ∧ J.loc b 0 = some ⟨some w.heap.size, row.e, row.len⟩ := by
 have K : G.loc b 0 = none := hM.unset b 0 (fun x O => by rw [M] at O; cases O)
 have U : c8 G (G.put b 0 ⟨some w.heap.size, row.e, row.len⟩) := c8.put (.inl K)
 have I := Ev.alloc G w (.cells (vs.toArray ++ rest) t) hM.away
 refine ⟨_, rfl, U, I, hM.make M V (gH.ofList H (Z.mono U I) (fun j u N => ?_)) (fun i c B' Y => by rw [Y.own] at H; cases H), Gh.put_self ..⟩
 rw [jJ]
 have W := (yd.1 N).1
 rw [yn2 (by simpa using W)]
 simpa using N
theorem Fs (t : TypeId) (c : Array Value) (w : World) : (newRow t c).run P w = .ok ⟨w.heap.size, 0, none⟩ (w.alloc (.cells c t)) := by
 simp [newRow]
theorem LA {G : Gh} {w : World} {mem : aH} {b n : Nat} {v : AV} {cv : Value} {t : TypeId} (hM : aF G w mem) (K : mem[b]? = some none) (U : VR G w v cv) (hn : v.cells.length = n) (h1 : 1 ≤ n) (N : iV v.cells = true) :
  ∃ J, c8 G J ∧ Ev G w (w.alloc (.cells cv.cells t)) ∧ aF J (w.alloc (.cells cv.cells t)) (mem.set b (some { gen := 0, frz := false, row := .cells 1 v.cells })) ∧
   VR J (w.alloc (.cells cv.cells t)) (.ptr b 0 0 0) (.pointer (some ⟨w.heap.size, 0, none⟩)) := by
 have M : v.cells.length = aN 1 v.cells.length * 1 := by simp [aN, Nat.beq]
 obtain ⟨J, rfl, V, H, I, O⟩ := FP (row := .cells 1 v.cells) (vs := cv.cells.toList) (rest := #[]) (t := t) hM K (yy 1) rfl (bF.ofLRs U.cells N M)
 simp only [yf2, Array.append_empty] at H I
 refine ⟨_, V, H, I, ?_⟩
 have := VR.ptr (G := G.put b 0 ⟨some w.heap.size, (Row.cells 1 v.cells).e, (Row.cells 1 v.cells).len⟩) (w := w.alloc (.cells cv.cells t)) b 0 0 0 _ w.heap.size O rfl
 simpa using this
theorem Lm {G : Gh} {w : World} {mem : aH} {o : Oper} {a : Act} {t : TypeId} {rs : Nat} {z : AV} (hM : aF G w mem) (V : o.op = .alloc t) (N : mem[rs]? = some none) (U : zero? P t = some z)
  (W : 1 ≤ z.cells.length) (H : iV z.cells = true) :
  jX P G w mem o a { v := .ptr rs 0 0 0, wr := [(rs, { gen := 0, frz := false, row := .cells 1 z.cells })] } := by
 obtain ⟨zv, M, I, _⟩ := IL U G w
 obtain ⟨O, Z, J, K, Y⟩ := LA (t := t) hM N I rfl W H
 refine ⟨O, _, _, _, ?_, .inl rfl, Y, Z, J, by rw [dG]; exact K⟩
 simp [execOp, V, Instr.alloc, M, newVar, Fs]
theorem Ob {G : Gh} {w : World} {mem : aH} {o : Oper} {a : Act} {t : TypeId} {x : Operand} {rs n : Nat} {v : AV} (hM : aF G w mem) (O : o.op = .box t x) (M : mem[rs]? = some none) (V : VR G w v (a.eval x))
  (hn : v.cells.length = n) (U : 1 ≤ n) (H : iV v.cells = true) :
  jX P G w mem o a { v := .ptr rs 0 0 0, wr := [(rs, { gen := 0, frz := false, row := .cells 1 v.cells })] } := by
 obtain ⟨N, W, I, J, K⟩ := LA (t := t) hM M V hn U H
 refine ⟨N, _, _, _, ?_, .inl rfl, K, W, I, by rw [dG]; exact J⟩
 simp [execOp, O, Instr.box, newVar, Fs]
theorem AJ {t : TypeId} {n B o : Nat} {cv : Value} {w : World} (hn : iR P t = some n) (H : cv.cells.size = n) (K : ∀ j, j < n → (cl w B (o + j)).isSome = true) (M : ∀ j, j < n → w.frozen? ⟨B, o + j, none⟩ = false)
  (J : ∀ u ∈ cv.cells.toList, u.oneCell' = true) : (storeVar t ⟨B, o, none⟩ cv).run P w = .ok () (w.setCells B o cv.cells.toList) := by
 have I := run_storeCells_cells (P := P) B o cv.cells.toList 0 w (by simpa [H] using K) (by simpa [H] using M) J
 rw [ym1] at I
 simp only [storeVar, Sem.run_bind, eD hn, Result.andThen_ok, Sem.run_ite, H, ne_eq, not_true_eq_false, if_false, Sem.run_pure, I]
theorem kK : ∀ {xs vs : List Value} {o j : Nat}, o + xs.length ≤ vs.length → (a6 vs o xs)[j]? = if o ≤ j ∧ j < o + xs.length then xs[j - o]? else vs[j]?
 | [], vs, o, j, h => by simp [a6]; omega
 | x :: xs, vs, o, j, h => by
  simp only [a6]
  simp only [yg2] at h
  rw [kK (xs := xs) (by simp; omega)]
  by_cases H : o + 1 ≤ j ∧ j < o + 1 + xs.length
  ·rw [if_pos H, if_pos (by simp; omega), show j - o = (j - (o + 1)) + 1 by omega, yd1]
  ·rw [if_neg H]
   by_cases I : j = o
   ·subst I
    rw [if_pos (by simp), yw (by omega)]; simp
   ·rw [yp (by omega), if_neg (by simp; omega)]
theorem JF.sub {G : Gh} {w J : World} {mem : aH} {b : Nat} {x x' : a9} {L : z5} {B : Nat} (hM : aF G w mem) (I : mem[b]? = some (some x)) (hB : eK G b x B) (hL : L.blk = some B)
  (U : ∀ B', iX G w mem b B' → J.heap[B']? = w.heap[B']?) (M : ∀ i c B', cP J B x'.row i c B' → cP w B x.row i c B') : JF G w J mem b x' L := by
 have PB : ∀ {C}, L.blk = some C → C = B := fun h => by rw [hL] at h; exact (ya h).symm
 refine ⟨U, fun C hC hO => ?_, fun C hC i c B' H => ?_, fun C hC i c N O B' H K => ?_⟩
 ·obtain rfl := PB hC; exact hM.other_ne I hB hO rfl
 ·obtain rfl := PB hC
  have H := M i c B' H
  refine ⟨hM.other_inn I hB H, ?_⟩
  rintro rfl
  exact hM.inA b b x x _ i c _ I hB H I hB
 ·obtain rfl := PB hC
  obtain ⟨_, h, V⟩ := hM.inB b b x x _ _ i c N O B' I hB (M i c B' H) I hB (M N O B' K)
  exact ⟨h, V⟩
theorem Gr {G : Gh} {w : World} {mem : aH} {b : Nat} {x : a9} {B : Nat} {row' : Row} {o : Nat} {xs : List Value} (hM : aF G w mem) (K : mem[b]? = some (some x)) (O : G.loc b x.gen = some ⟨some B, x.row.e, x.row.len⟩)
  (M : x.frz = false) (I : ∀ j, j < xs.length → (cl w B (o + j)).isSome = true) (W : row'.e = x.row.e) (N : row'.len = x.row.len)
  (hr : Ev G w (w.setCells B o xs) → gH G (w.setCells B o xs) B row') (U : ∀ i c B', cP (w.setCells B o xs) B row' i c B' → cP w B x.row i c B') :
  Ev G w (w.setCells B o xs) ∧ aF G (w.setCells B o xs) (mem.set b (some { x with row := row' })) := by
 have hb := hM.box b x K
 have hB : eK G b x B := ⟨_, O, rfl⟩
 obtain ⟨_, Z, h2, h3, h4, Y⟩ := hM.blk K hB
 have J := Ev.setCells (G := G) (vs := xs) Z I (Y M)
 have V : b < mem.length := (yd.1 K).1
 refine ⟨J, ?_⟩
 have H : G.put b x.gen ⟨some B, x.row.e, x.row.len⟩ = G := by
  unfold Gh.put
  congr 1
  funext b' g'
  split
  ·rename_i hh; obtain ⟨rfl, rfl⟩ := hh; exact O.symm
  ·rfl
 have := hM.upd (x' := { x with row := row' }) (L := ⟨some B, x.row.e, x.row.len⟩) J V (.inr O) (.sub hM K hB rfl (fun B' hO => dJ (w := w) (hM.other_ne K hB hO) xs o w) U) (fun g hg => hM.gens b x g K hg) ?_
 ·rw [H] at this; exact this
 ·rw [H]
  exact ⟨by show 1 ≤ row'.e; rw [W]; exact hb.e, some B, by show G.loc b x.gen = some ⟨some B, row'.e, row'.len⟩; rw [W, N]; exact O, Z, by rw [kP]; exact h2, h3.setCells, hr J, Y⟩
theorem BL {G : Gh} {w : World} {mem : aH} {b : Nat} {x : a9} {B : Nat} {row' : Row} {vs : List Value} {o : Nat} {xs : List Value} (hM : aF G w mem) (hx : mem[b]? = some (some x)) (Y : G.loc b x.gen = some ⟨some B, x.row.e, x.row.len⟩)
  (K : x.frz = false) (M : ∀ j, j < vs.length → cl w B j = vs[j]?) (W : o + xs.length ≤ vs.length) (V : row'.e = x.row.e) (N : row'.len = x.row.len) (I : row'.isOwn = false)
  (hv : bF G w row'.all (a6 vs o xs)) :
  Ev G w (w.setCells B o xs) ∧ aF G (w.setCells B o xs) (mem.set b (some { x with row := row' })) := by
 have H : ∀ j, j < xs.length → (cl w B (o + j)).isSome = true := by
  intro j hj; rw [M _ (by omega), yf (by omega)]; rfl
 refine Gr hM hx Y K H V N (fun O => gH.ofList I (hv.mono (c8.refl G) O) (fun j u J => ?_)) (fun i c B' Z => by rw [Z.own] at I; cases I)
 rw [kK W] at J
 by_cases U : o ≤ j ∧ j < o + xs.length
 ·rw [if_pos U] at J
  obtain ⟨k, rfl⟩ : ∃ k, j = o + k := ⟨j - o, by omega⟩
  rw [jG H (by omega)]
  rw [yf3, yf (by omega)] at J; exact J
 ·rw [if_neg U] at J
  rw [iK (by omega), M _ (yd.1 J).1]; exact J
end
end Go.Ab
end
section
namespace Go.Ab
variable [b4]
theorem o0 {b : Nat} : ∀ {l : List Nat}, eZ b l = true ↔ b ∈ l
 | [] => by simp [eZ]
 | m :: r => by simp only [eZ, yy1, bJ, yn1, o0 (l := r)]; constructor <;> rintro (h | h) <;> first | exact .inl h.symm | exact .inr h
theorem Dq : ∀ {xs vs : List PV} {o j : Nat}, o + xs.length ≤ vs.length → (n5 vs o xs)[j]? = if o ≤ j ∧ j < o + xs.length then xs[j - o]? else vs[j]?
 | [], vs, o, j, h => by simp [n5]; omega
 | x :: xs, vs, o, j, h => by
  simp only [n5]
  simp only [yg2] at h
  rw [Dq (xs := xs) (by simp; omega)]
  by_cases H : o + 1 ≤ j ∧ j < o + 1 + xs.length
  ·rw [if_pos H, if_pos (by simp; omega), show j - o = (j - (o + 1)) + 1 by omega, yd1]
  ·rw [if_neg H]
   by_cases I : j = o
   ·subst I
    rw [if_pos (by simp), yw (by omega)]; simp
   ·rw [yp (by omega), if_neg (by simp; omega)]
section
variable {P : Program}
theorem Hx {G : Gh} {w : World} {mem : aH} {t : TypeId} {a x : AV} {out : dD} {ca Y : Value} (hM : aF G w mem) (h : iO P t mem a x = some out) (ha : VR G w a ca) (hx : VR G w x Y) :
  out.v = .lit undef ∧ ∃ G' w', (Instr.storeAt t ca Y).run P w = .ok () w' ∧ c8 G G' ∧ Ev G w w' ∧ aF G' w' (out.apply mem) := by
 unfold iO at h
 split at h
 ·rename_i b g i c
  rw [bind_some] at h; obtain ⟨bx, hbx, h⟩ := h
  rw [bind_some] at h; obtain ⟨n, hn, h⟩ := h
  rw [aA] at h; obtain ⟨Z, h⟩ := h
  simp only [yb, yq] at Z
  obtain ⟨N, K⟩ := Z
  have K := bJ.1 K
  obtain ⟨hm, hgen⟩ := box?_some hbx
  obtain ⟨B, rfl, hl, hmine, hB, hfz, hrow, hpr⟩ := hM.at_ptr hbx ha
  have he := (hM.box b bx hm).e
  obtain ⟨vs, hvs, hcl⟩ := hrow.toList he (box?_own hbx)
  have hxc := hx.cells
  have hsz : Y.cells.size = n := by rw [← K]; simpa using hxc.1.symm
  have hrun : ∀ o, o + n ≤ vs.length → (∀ u ∈ Y.cells.toList, u.oneCell' = true) → (Instr.storeAt t (.pointer (some ⟨B, o, none⟩)) Y).run P w = .ok () (w.setCells B o Y.cells.toList) := by
   intro o ho h1
   have hsome : ∀ j, j < n → (cl w B (o + j)).isSome = true := fun j M => by rw [hcl _ (by omega), yf (by omega)]; rfl
   have := AJ (P := P) hn hsz hsome (fun j M => hfz.cell (hsome j M)) h1
   simp [Instr.storeAt, Instr.sureAddr, this]
  obtain ⟨gen, frz, row⟩ := bx
  simp only at N hgen hl hvs hcl he; subst hgen
  split at h
  ·rename_i e cs U
   simp only at U; subst U
   rw [aA] at h; obtain ⟨hc, h⟩ := h
   simp only [yb] at hc
   have hle := cX.1 hc.1
   obtain rfl := ya h
   refine ⟨rfl, ?_⟩
   obtain ⟨V, hv1, hcnt, hvv⟩ := hvs
   have hcl2 : vs.length = cs.length := by rw [V]; show aN e cs.length * e = cs.length; rw [yk2]; exact hcnt.symm
   have hL : gW G w cs vs := ⟨hcl2.symm, fun j y J => by obtain ⟨u, W, hp⟩ := hvv j y J; rw [yi, W]; exact hp⟩
   have I := hxc.ones hc.2
   have hnew := hL.setCells (i := i * e + c) hxc
   have H : bF G w (.avs e (setCells cs (i * e + c) x.cells)) (a6 vs (i * e + c) Y.cells.toList) := by
    have hsl : (setCells cs (i * e + c) x.cells).length = cs.length := lK (as := cs)
    refine ⟨?_, fun u W => ?_, by rw [hsl]; exact hcnt, fun j y J => ?_⟩
    ·show _ = aN e (setCells cs (i * e + c) x.cells).length * e
     rw [gP, hsl, hcl2, yk2]; exact hcnt
    ·obtain ⟨j, M, rfl⟩ := yt1 W
     have Z := kK (xs := Y.cells.toList) (vs := vs) (o := i * e + c) (j := j) (by simp [hsz]; omega)
     rw [yf M] at Z
     split at Z
     ·exact I _ (yt Z.symm)
     ·exact hv1 _ (yt Z.symm)
    ·have M : j < (a6 vs (i * e + c) Y.cells.toList).length := by rw [← hnew.1]; exact (yd.1 J).1
     have := hnew.2 j y J
     rw [yi, yf M] at this
     exact ⟨_, yf M, this⟩
   have hsl : (setCells cs (i * e + c) x.cells).length = cs.length := lK (as := cs)
   obtain ⟨hev, hM'⟩ := BL (row' := .cells e (setCells cs (i * e + c) x.cells)) (o := i * e + c) (xs := Y.cells.toList) hM hm hl N hcl (by simp [hsz]; omega) rfl (by simp only [Row.len]; rw [hsl]) rfl H
   exact ⟨G, _, hrun _ (by show i * e + c + n ≤ _; omega) I, c8.refl G, hev, by rw [dG]; exact hM'⟩
  ·rename_i k xs U
   simp only at U; subst U
   split at h
   ·rename_i k' z _
    rw [aA] at h; obtain ⟨hc, h⟩ := h
    simp only [yb] at hc
    obtain ⟨⟨hk, hc0⟩, hi⟩ := hc
    rw [jO] at hk; subst hk
    obtain rfl := bJ.1 hc0
    have hi := cX.1 hi
    obtain rfl := ya h
    refine ⟨rfl, ?_⟩
    obtain rfl := hx.lit_inv
    obtain ⟨V, hv1, hvv⟩ := hvs
    simp only [Row.all, aI.len, aI.e, ye3] at V
    have hcells : (Value.int k z).cells.toList = [Value.int k z] := rfl
    have H : bF G w (.ints k (xs.set i z)) (a6 vs i [Value.int k z]) := by
     refine ⟨by simp [aI.len, aI.e, gP, V], fun u W => ?_, fun j y J => ?_⟩
     ·simp only [a6] at W
      rcases yl2 W with h | h
      ·exact hv1 u h
      ·rw [h]; rfl
     ·simp only [a6]
      by_cases e : j = i
      ·subst e
       rw [yw (by omega)] at J ⊢
       simp at J; rw [J]
      ·rw [yp (fun x => e x.symm)] at J ⊢
       exact hvv j y J
    have hn1 : n = 1 := by rw [← K]; rfl
    subst hn1
    obtain ⟨hev, hM'⟩ := BL (row' := .ints k (xs.set i z)) (o := i) (xs := [Value.int k z]) hM hm hl N hcl (by simp; omega) rfl (by simp [Row.len]) rfl H
    refine ⟨G, _, ?_, c8.refl G, hev, by rw [dG]; exact hM'⟩
    have := hrun i (by omega) (by simp [hcells, Value.oneCell'])
    rw [hcells] at this
    have e0 : i * (Row.ints k xs).e + 0 = i := by simp [Row.e]
    rw [e0]; exact this
   ·simp at h
  ·rename_i β e xs U
   simp only at U; subst U
   rw [bind_some] at h; obtain ⟨p, hp, h⟩ := h
   rw [bind_some] at h; obtain ⟨q, hq, h⟩ := h
   rw [aA] at h; obtain ⟨hc, h⟩ := h
   simp only [yb, yq] at hc
   obtain ⟨⟨hce, hpl⟩, hnb⟩ := hc
   have hce := cX.1 hce
   have hpl := bJ.1 hpl
   have hnb : b ∉ q.2.2 := fun hh => by rw [o0.2 hh] at hnb; cases hnb
   obtain rfl := ya h
   refine ⟨rfl, ?_⟩
   obtain ⟨ql, qq⟩ := pG hM hq hx
   have hM1 := hM.freeze q.2.2
   have hg1 := c8.frz G (aR G w mem q.2.2) hM.inBoxes
   have hm1 : (aJ mem (bY mem q.2.2))[b]? = some (some ⟨gen, frz, .pvs β e xs⟩) := by
    rw [(dV mem q.2.2 mem b rfl).2.1 (.inl hnb)]; exact hm
   have hvs1 : bF (G.frz (aR G w mem q.2.2)) w (.pvs β e xs) vs := hvs.mono hg1 (Ev.refl G w)
   obtain ⟨V, hv1, hxl, hvv⟩ := hvs1
   simp only [aI.len, aI.e] at V
   simp only [Row.e] at he
   have hi := (yd.1 hp).1
   have hpos : i * e + c + n ≤ vs.length := by
    rw [V]
    calc i * e + c + n ≤ i * e + e := by omega
     _ = (i + 1) * e := by rw [yk1]; simp
     _ ≤ xs.length * e := yz1 _ hi
   have I : ∀ u ∈ Y.cells.toList, u.oneCell' = true := by
    intro u W
    obtain ⟨j, M, rfl⟩ := yt1 W
    have hj2 : j < q.2.1.cells.length := by rw [ql, hxc.1]; exact M
    obtain ⟨u', hu', _, h1⟩ := qq j _ (yf hj2)
    rw [yf M] at hu'
    obtain rfl := ya hu'; exact h1
   generalize hp' : (bif n.beq e && c.beq 0 then q.2.1 else PV.agg (n5 p.cells c q.2.1.cells)) = p'
   have hp'c : ∀ (j : Nat), p'.cells[j]? = if c ≤ j ∧ j < c + n then q.2.1.cells[j - c]? else p.cells[j]? := by
    intro j
    have hqn : q.2.1.cells.length = n := by rw [ql, K]
    cases O : (n.beq e && c.beq 0) with
    | true =>
     rw [O] at hp'; simp only [yl] at hp'; subst hp'
     simp only [yb] at O
     obtain rfl := bJ.1 O.1
     obtain rfl := bJ.1 O.2
     by_cases M : j < n
     ·rw [if_pos (by omega)]; simp
     ·rw [if_neg (by omega), ya1 (by omega), ya1 (by omega)]
    | false =>
     rw [O] at hp'; simp only [yk] at hp'; subst hp'
     show (n5 p.cells c q.2.1.cells)[j]? = _
     rw [Dq (by omega), hqn]
   have hp'l : p'.cells.length = e := by
    have h1 : p'.cells[e]? = none := by rw [hp'c, if_neg (by omega), ya1 (by omega)]
    have h2 : ∃ y, p'.cells[e - 1]? = some y := by
     rw [hp'c]
     split
     ·rename_i hh; exact ⟨_, yf (by rw [ql, K]; omega)⟩
     ·exact ⟨_, yf (by omega)⟩
    obtain ⟨y, J⟩ := h2
    have := (yd.1 J).1
    have := List.getElem?_eq_none_iff.1 h1
    omega
   have H : bF (G.frz (aR G w mem q.2.2)) w (.pvs (β || q.1) e (xs.set i p')) (a6 vs (i * e + c) Y.cells.toList) := by
    have Z := fun j => kK (xs := Y.cells.toList) (vs := vs) (o := i * e + c) (j := j) (by simp [hsz]; omega)
    have hlab1 := hM1.lab
    refine ⟨by simp [aI.len, aI.e, gP, V], fun u W => ?_, fun x hx => ?_, fun i' x c' y hx J => ?_⟩
    ·obtain ⟨j, M, rfl⟩ := yt1 W
     have Z := Z j
     rw [yf M] at Z
     split at Z
     ·exact I _ (yt Z.symm)
     ·exact hv1 _ (yt Z.symm)
    ·rcases yl2 hx with h | h
     ·exact hxl x h
     ·rw [h]; exact hp'l
    ·have hc'e : c' < e := by
      have h0 := (yd.1 J).1
      have : x.cells.length = e := by
       rcases yl2 (yt hx) with h | h
       ·exact hxl x h
       ·rw [h]; exact hp'l
      omega
     rw [Z]
     simp only [yu1, hsz]
     by_cases hii : i' = i
     ·subst hii
      rw [yw hi] at hx
      obtain rfl := ya hx
      rw [hp'c] at J
      by_cases O : c ≤ c' ∧ c' < c + n
      ·rw [if_pos O] at J
       rw [if_pos (by omega), show i' * e + c' - (i' * e + c) = c' - c by omega]
       obtain ⟨u, W, hpu, _⟩ := qq _ y J
       exact ⟨u, W, hpu.weak' hlab1⟩
      ·rw [if_neg O] at J
       rw [if_neg (by omega)]
       obtain ⟨u, W, hpu⟩ := hvv i' p c' y hp J
       exact ⟨u, W, hpu.weak hlab1⟩
     ·rw [yp (fun x => hii x.symm)] at hx
      obtain ⟨u, W, hpu⟩ := hvv i' x c' y hx J
      refine ⟨u, ?_, hpu.weak hlab1⟩
      rw [if_neg ?_]
      ·exact W
      ·rintro ⟨h1, h2⟩
       rcases Nat.lt_or_gt_of_ne hii with hlt | hlt
       ·have : i' * e + e ≤ i * e := by
         calc i' * e + e = (i' + 1) * e := by rw [yk1]; simp
          _ ≤ i * e := yz1 _ hlt
        omega
       ·have : i * e + e ≤ i' * e := by
         calc i * e + e = (i + 1) * e := by rw [yk1]; simp
          _ ≤ i' * e := yz1 _ hlt
        omega
   obtain ⟨hev, hM'⟩ := BL (row' := .pvs (β || q.1) e (xs.set i p')) (o := i * e + c) (xs := Y.cells.toList) hM1 hm1 hl N hcl (by simp [hsz]; omega) rfl (by simp [Row.len]) rfl H
   refine ⟨_, _, hrun _ (by show i * e + c + n ≤ _; omega) I, hg1, ?_, by rw [Mf]; exact hM'⟩
   have hjj : ∀ j, j < Y.cells.toList.length → i * e + c + j < vs.length := fun j M => by simp [hsz] at M; omega
   exact Ev.setCells hmine (fun j M => by show (cl w B (i * e + c + j)).isSome = true; rw [hcl _ (hjj j M), yf (hjj j M)]; rfl) (hpr N)
  ·cases h
 ·simp at h
end
end Go.Ab
end
section
namespace Go.Ab
variable [b4]
section
variable {P : Program}
structure A7 (P : Program) (t et : TypeId) (s : Nat) (i : TypeInfo) (z : Value) : Prop where
 under : P.underlying t = some (.slice et)
 info : P.info? et = some i
 size : i.size = s
 zero : i.zero = some z
 zsize : z.cells.size = s
 bytes : i.bytes ≤ 4096
 one : 1 ≤ s
theorem vP {n bytes : Nat} (hn : n ≤ bA) (H : bytes ≤ 4096) : n * bytes ≤ 140737488355328 := by
 have : n * bytes ≤ n * 4096 := Nat.mul_le_mul_left n H
 unfold bA at hn
 omega
structure sR (G : Gh) (w : World) (mem : aH) (b g' : Nat) (row' : Row) (Bold : Option Nat) (vs : List Value) : Prop where
 row : ∀ (w1 : World) (B' : Nat), Ev G w w1 → (∀ X, X < w.heap.size → Bold ≠ some X → w1.heap[X]? = w.heap[X]?) → (∀ j u, vs[j]? = some u → cl w1 B' j = some u) → gH (G.put b g' ⟨some B', row'.e, row'.len⟩) w1 B' row'
 inn : ∀ (w1 : World) (B' i c X : Nat), (∀ j u, vs[j]? = some u → cl w1 B' j = some u) → cP w1 B' row' i c X → ∃ (x : a9) (B : Nat), mem[b]? = some (some x) ∧ eK G b x B ∧ cP w B x.row i c X
theorem sR.plain {G : Gh} {w : World} {mem : aH} {b g' : Nat} {row' : Row} {Bold : Option Nat} {vs : List Value} (H : G.loc b g' = none) (J : row'.isOwn = false) (N : bF G w row'.all vs) : sR G w mem b g' row' Bold vs :=
 ⟨fun M B' I _ K => gH.ofList J (N.mono (c8.put (.inl H)) I) K, fun M B' i c X _ h => by rw [h.own] at J; cases J⟩
theorem IP {G : Gh} {w J : World} {mem : aH} {b g' : Nat} {row' : Row} {B' : Nat} {Bold : Option Nat} {vs : List Value} (hM : aF G w mem) (hb : b < mem.length) (Y : Ev G w J) (N : ∀ g, g' ≤ g → G.loc b g = none)
  (he : 1 ≤ row'.e) (O : G.mine B') (hlt : B' < J.heap.size) (hfz : fR J B') (hpr : ∀ β o, ¬ G.prot β B' o)
  (H : ∀ X, X < w.heap.size → Bold ≠ some X → J.heap[X]? = w.heap[X]?) (W : ∀ X, iX G w mem b X → Bold ≠ some X) (I : B' = w.heap.size ∨ ∃ x, mem[b]? = some (some x) ∧ eK G b x B' ∧ Bold = some B')
  (hv : sR G w mem b g' row' Bold vs) (M : ∀ j u, vs[j]? = some u → cl J B' j = some u) :
  ∃ G', c8 G G' ∧ G'.loc b g' = some ⟨some B', row'.e, row'.len⟩ ∧ aF G' J (mem.set b (some { gen := g', frz := false, row := row' })) := by
 have hg : c8 G (G.put b g' ⟨some B', row'.e, row'.len⟩) := c8.put (.inl (N g' (yy _)))
 have hBne : ∀ X, iX G w mem b X → X ≠ B' := by
  intro X hO
  rcases I with rfl | ⟨x, V, hB, _⟩
  ·exact Nat.ne_of_lt (hM.other hO).2.1
  ·exact hM.other_ne V hB hO
 refine ⟨_, hg, Gh.put_self .., hM.upd (x' := { gen := g', frz := false, row := row' }) Y hb (.inl (N g' (yy _))) ⟨fun X hO => H X (hM.other hO).2.1 (W X hO), fun C hC hO => ?_, fun C hC i c X Z => ?_, fun C hC i c i2 c2 X Z U => ?_⟩ (fun g hg => N g (Nat.le_of_lt hg)) ?_⟩
 ·simp only [Option.some.injEq] at hC; subst hC
  exact hBne _ hO rfl
 ·simp only [Option.some.injEq] at hC; subst hC
  obtain ⟨x, B, V, hB, K⟩ := hv.inn J B' i c X M Z
  refine ⟨hM.other_inn V hB K, ?_⟩
  rcases I with hp | ⟨x', hx', hB', _⟩
  ·rw [hp]; exact Nat.ne_of_lt (hM.inn V hB K).2.1
  ·intro hXB
   rw [hXB] at K
   exact hM.inA b b x x' B i c _ V hB K hx' hB'
 ·simp only [Option.some.injEq] at hC; subst hC
  obtain ⟨x, B, V, hB, Z⟩ := hv.inn J B' i c X M Z
  obtain ⟨x2, B2, hx2, hB2, U⟩ := hv.inn J B' i2 c2 X M U
  exact (hM.inB b b x x2 B B2 i c i2 c2 X V hB Z hx2 hB2 U).2
 ·exact ⟨he, some B', Gh.put_self .., O, hlt, hfz, hv.row J B' Y H M, fun _ => hpr⟩
theorem BK {G : Gh} {w : World} {mem : aH} {b g' : Nat} {row' : Row} (hM : aF G w mem) (M : b < mem.length) (H : ∀ g, g' ≤ g → G.loc b g = none)
  (K : 1 ≤ row'.e) (O : row'.len = 0) (N : row'.isCells = false) :
  ∃ I, c8 G I ∧ I.loc b g' = some ⟨none, row'.e, row'.len⟩ ∧ aF I w (mem.set b (some { gen := g', frz := false, row := row' })) := by
 have J : c8 G (G.put b g' ⟨none, row'.e, row'.len⟩) := c8.put (.inl (H g' (yy _)))
 refine ⟨_, J, Gh.put_self .., hM.upd (x' := { gen := g', frz := false, row := row' }) (Ev.refl G w) M (.inl (H g' (yy _))) ⟨fun _ _ => rfl, fun _ h => (nomatch h), fun _ h => (nomatch h), fun _ h => (nomatch h)⟩ (fun g J => H g (Nat.le_of_lt J)) ?_⟩
 exact ⟨K, none, Gh.put_self .., O, N⟩
theorem oY (w : World) (c : Array Value) (t : TypeId) : (∀ B, B < w.heap.size → (w.drew.alloc (.cells c t)).heap[B]? = w.heap[B]?) ∧ (w.drew.alloc (.cells c t)).heap.size = w.heap.size + 1 ∧
  (∀ j, cl (w.drew.alloc (.cells c t)) w.heap.size j = c[j]?) ∧ fR (w.drew.alloc (.cells c t)) w.heap.size := by
 refine ⟨fun B hB => ?_, by simp, fun j => ?_, ?_⟩
 ·have := eT (w := w.drew) (o := .cells c t) (B := B) (by simpa using hB)
  rw [this]; rfl
 ·have := jJ (w := w.drew) (c := c) (t := t) (fr := (0, 0)) (j := j)
  simpa using this
 ·exact fR.alloc (w := w.drew)
theorem Ev.drew_alloc (G : Gh) (w : World) (o : Obj) (I : ∀ β B x, G.prot β B x → B < w.heap.size) (H : ∃ c t, o = .cells c t := by exact ⟨_, _, rfl⟩) : Ev G w (w.drew.alloc o) :=
 (Ev.drew G w).trans (c8.refl G) (Ev.alloc G w.drew o I H)
theorem IC {G : Gh} {w : World} {mem : aH} {b g' : Nat} {row' : Row} {t K ty tx : TypeId} {s : Nat} {i : TypeInfo} {z : Value} {base : Option Addr} {len cap n : Nat} {olds H : List Value} {y : Value}
    (hM : aF G w mem) (hb : b < mem.length) (hno : ∀ g, g' ≤ g → G.loc b g = none) (hE : A7 P t K s i z)
    (Z : (Builtin.firstCells i.size len (.slice base len cap)).run P w.drew = .ok olds.toArray w.drew) (hol : olds.length = len * s) (hs : Src P s tx y n H w)
    (J : cap < len + n) (I : len + n ≤ bA) (he : row'.e = s) (N : row'.len = len + n) {Bold : Option Nat} (U : ∀ X, iX G w mem b X → Bold ≠ some X) (hv : sR G w mem b g' row' Bold (olds ++ H)) :
    ∃ V w1 cv, (Builtin.append_ #[t, tx] ty #[.slice base len cap, y]).run P w = .ok cv w1 ∧ VR V w1 (.msw b g') cv ∧ c8 G V ∧ Ev G w w1 ∧ aF V w1 (mem.set b (some { gen := g', frz := false, row := row' })) := by
  have W := growslice_fits (bytes := i.bytes) J (vP I hE.bytes)
  have M := run_append_grow_src (P := P) w t tx ty K i z hE.under hE.info hE.zero base len cap olds Z y n H (by rw [hE.size]; exact hs) J (by unfold bA at I; omega) W
  generalize hc : (olds ++ H).toArray ++ Builtin.zeroCells z.cells (grownCap w (len + n) cap K - (len + n)) = c at M
  obtain ⟨f1, f2, f3, f4⟩ := oY w c K
  have Y := Ev.drew_alloc G w (.cells c K) hM.away
  have O : len + n ≤ grownCap w (len + n) cap K := grownCap_ge w _ _ _
  have hcl : ∀ j u, (olds ++ H)[j]? = some u → cl (w.drew.alloc (.cells c K)) w.heap.size j = some u := by
    intro j u hu
    rw [f3, ← hc, yn2 (by simpa using (yd.1 hu).1)]
    simpa using hu
  obtain ⟨V, hg, hl, hM'⟩ := IP (row' := row') (B' := w.heap.size) (vs := olds ++ H) hM hb Y hno (by rw [he]; exact hE.one) (hM.own _ (yy _)) (by rw [f2]; omega) f4
    (fun β o hp => absurd (hM.away β _ o hp) (Nat.lt_irrefl _)) (fun X hX _ => f1 X hX) U (.inl rfl) hv hcl
  refine ⟨V, _, _, M, ?_, hg, Y, hM'⟩
  generalize grownCap w (len + n) cap K = C at hc O ⊢
  have hk : VR V (w.drew.alloc (.cells c K)) (.msw b g') (.slice (some ⟨w.heap.size, 0, none⟩) row'.len C) := by
   refine .msw b g' _ _ w.heap.size hl rfl (by simp only; rw [N]; exact O) (fun j hj => ?_)
   simp only [he] at hj
   rw [f3, ← hc]
   have hn := hs.newsLen
   rw [yl1 (by
    simp only [Array.size_append, List.size_toArray, yi1, size_zeroCells, hol, hn, hE.zsize]
    rw [← yk1, ← yk1]
    exact yh1 hj (yz1 _ (by omega)))]
   rfl
  rw [N] at hk; exact hk
theorem y0 {G : Gh} {w : World} {mem : aH} {b : Nat} {x : a9} {row' : Row} {B cap H J : Nat} {vs0 I : List Value} {t et ty tx : TypeId} {s : Nat} {i : TypeInfo} {z : Value} {y : Value}
  (hM : aF G w mem) (hx : mem[b]? = some (some x)) (hl : G.loc b x.gen = some ⟨some B, x.row.e, x.row.len⟩) (W : x.frz = false) (hE : A7 P t et s i z)
  (V : vs0.length = H * s) (hcl0 : ∀ j u, vs0[j]? = some u → cl w B j = some u) (hcap : H ≤ cap) (Y : BP w B (cap * s))
  (hs : Src P s tx y J I w) (hre : row'.e = s) (U : row'.len = H + J) (hok : sR G w mem b (x.gen + 1) row' (some B) (vs0 ++ I)) (hmost : row'.len ≤ bA) :
  ∃ G' w1 cv, (Builtin.append_ #[t, tx] ty #[.slice (some ⟨B, 0, none⟩) H cap, y]).run P w = .ok cv w1 ∧ VR G' w1 (.msw b (x.gen + 1)) cv ∧ c8 G G' ∧ Ev G w w1 ∧
   aF G' w1 (mem.set b (some { gen := x.gen + 1, frz := false, row := row' })) := by
 have hbl : b < mem.length := (yd.1 hx).1
 have hno : ∀ g, x.gen + 1 ≤ g → G.loc b g = none := fun g hg => hM.gens b x g hx hg
 have hB : eK G b x B := ⟨_, hl, rfl⟩
 have hnl := hs.newsLen
 have N : ∀ X, iX G w mem b X → some B ≠ some X := fun X hO h => hM.other_ne hx hB hO (ya h).symm
 by_cases M : H + J ≤ cap
 ·obtain ⟨_, h1, h2, h3, h4, h5⟩ := hM.blk hx hB
  have K : ∀ j, j < I.length → (cl w B (H * s + j)).isSome = true := by
   intro j hj
   refine Y _ ?_
   rw [hnl] at hj
   calc H * s + j < H * s + J * s := by omega
    _ = (H + J) * s := by rw [yk1]
    _ ≤ cap * s := yz1 _ M
  have Z := run_append_room_src (P := P) w t tx ty et i hE.under hE.info B 0 H cap y J I (by rw [hE.size]; exact hs) M
   (fun j hj => by rw [hE.size, yc1]; exact K j hj) (fun j hj => by rw [hE.size, yc1]; exact h3.cell (K j hj))
  rw [hE.size, yc1] at Z
  have hev := Ev.setCells (G := G) (vs := I) h1 K (h5 W)
  have hcl : ∀ j u, (vs0 ++ I)[j]? = some u → cl (w.setCells B (H * s) I) B j = some u := by
   intro j u O
   by_cases hj : j < vs0.length
   ·rw [yn hj] at O
    rw [iK (by rw [← V]; exact .inl hj)]; exact hcl0 j u O
   ·rw [yu (by omega)] at O
    obtain ⟨k, rfl⟩ : ∃ k, j = H * s + k := ⟨j - vs0.length, by omega⟩
    rw [V, yf3] at O
    have hk := (yd.1 O).1
    rw [jG K hk]
    rw [yf hk] at O; exact O
  obtain ⟨G', hg, hl2, hM'⟩ := IP (row' := row') (B' := B) (Bold := some B) (vs := vs0 ++ I) hM hbl hev hno (by rw [hre]; exact hE.one) h1 (by rw [kP]; exact h2)
   h3.setCells (h5 W) (fun X _ hX => dJ (w := w) (fun h => hX (by rw [h])) I _ w) N (.inr ⟨x, hx, hB, rfl⟩) hok hcl
  refine ⟨G', _, _, Z, ?_, hg, hev, hM'⟩
  have hk : VR G' (w.setCells B (H * s) I) (.msw b (x.gen + 1)) (.slice (some ⟨B, 0, none⟩) row'.len cap) := by
   refine .msw b (x.gen + 1) cap _ B hl2 rfl (by simp only; rw [U]; exact M) ?_
   simp only [hre]
   exact Y.mono hev
  rw [U] at hk; exact hk
 ·refine IC (row' := row') (olds := vs0) (s := s) hM hbl hno hE ?_ V hs (by omega) (by rw [← U]; exact hmost) hre U N hok
  rw [hE.size]
  exact run_firstCells_some w.drew s H ⟨B, 0, none⟩ H cap vs0 V (fun j u O => by rw [dA, yc1]; exact hcl0 j u O)
theorem Do {G : Gh} {w : World} {mem : aH} {b : Nat} {x : a9} {xv yv Z : aI} {B cap : Nat} {vs0 H : List Value} {t et ty tx : TypeId} {s : Nat} {i : TypeInfo} {z : Value} {y : Value}
  (hM : aF G w mem) (hx : mem[b]? = some (some x)) (hl : G.loc b x.gen = some ⟨some B, x.row.e, x.row.len⟩) (K : x.frz = false) (hE : A7 P t et s i z) (hse : s = x.row.e)
  (M : xv.e = s) (O : bF G w xv vs0) (W : ∀ j u, vs0[j]? = some u → cl w B j = some u) (V : xv.len ≤ cap) (N : BP w B (cap * s))
  (hs : Src P s tx y yv.len H w) (I : bF G w yv H) (U : xv.app P et yv = some Z) (J : Z.len ≤ bA) :
  ∃ G' Y cv, (Builtin.append_ #[t, tx] ty #[.slice (some ⟨B, 0, none⟩) xv.len cap, y]).run P w = .ok cv Y ∧ VR G' Y (.msw b (x.gen + 1)) cv ∧ c8 G G' ∧ Ev G w Y ∧
   aF G' Y (mem.set b (some { gen := x.gen + 1, frz := false, row := Z.row })) := by
 obtain ⟨hz, hze, hze2, hzl⟩ := Gf hM.lab U O I
 exact y0 hM hx hl K hE (by rw [O.1, M]) W V N hs (by rw [mK, hze, M]) (by rw [gU, hzl])
  (.plain (hM.gens b x _ hx (yx2 _)) (lT Z) (by rw [lQ]; exact hz)) (by rw [gU]; exact J)
theorem kW {G : Gh} {w : World} {mem : aH} {b g' : Nat} {row' : Row} {n : Nat} {H : List Value} {t Y ty O : TypeId} {s : Nat} {i : TypeInfo} {z : Value} {y : Value}
  (hM : aF G w mem) (W : b < mem.length) (K : ∀ g, g' ≤ g → G.loc b g = none) (hE : A7 P t Y s i z) (hs : Src P s O y n H w) (hn : n ≤ bA) (V : row'.e = s) (I : row'.len = n) (hv : sR G w mem b g' row' none H)
  (hc : n = 0 → row'.isCells = false) :
  ∃ M N cv, (Builtin.append_ #[t, O] ty #[.slice none 0 0, y]).run P w = .ok cv N ∧ VR M N (.msw b g') cv ∧ c8 G M ∧ Ev G w N ∧
   aF M N (mem.set b (some { gen := g', frz := false, row := row' })) := by
 by_cases Z : n = 0
 ·subst Z
  have J : H = [] := yo (by rw [hs.newsLen]; simp)
  subst J
  obtain ⟨M, hg, hl, U⟩ := BK (row' := row') hM W K (by rw [V]; exact hE.one) I (hc rfl)
  exact ⟨M, w, _, run_append_nothing (P := P) w t O ty Y i hE.under hE.info none 0 0 (yy _) y (by rw [hE.size]; exact hs), .mswNil b g' _ hl rfl I, hg, Ev.refl G w, U⟩
 ·exact IC (row' := row') (olds := []) (base := none) (len := 0) (cap := 0) hM W K hE (run_firstCells_none w.drew i.size 0 0 0) (by simp) hs (by omega) (by omega) V (by omega) (Bold := none) (fun _ _ h => by cases h) (by simpa using hv)
end
end Go.Ab
end
section
namespace Go.Ab
variable [b4]
theorem aF.protect {G : Gh} {w : World} {mem : aH} (hM : aF G w mem) (S : Nat → Nat → Prop) (hS : ∀ B o, S B o → B < w.heap.size ∧ G.mine B ∧ (∀ (b : Nat) (x : a9) (e n : Nat), mem[b]? = some (some x) → x.frz = false → G.loc b x.gen ≠ some ⟨some B, e, n⟩) ∧
   ∀ (b : Nat) (x : a9) (C i c : Nat), mem[b]? = some (some x) → eK G b x C → ¬ cP w C x.row i c B) :
  aF (G.frz S) w mem := by
 refine ⟨fun b x h => ?_, hM.unset, hM.gens, hM.apart, hM.inA, hM.inB, hM.own, fun B o h => h.imp (hM.lab B o) id, fun β B o h => h.elim (hM.away β B o) (fun h => (hS B o h).1), hM.glob.mono (fun _ _ h => .inl h) fun _ _ _ => rfl⟩
 have M := hM.box b x h
 obtain ⟨o, I, hm⟩ := M.loc
 refine ⟨M.e, o, I, ?_⟩
 cases o with
 | none => exact hm
 | some B =>
  obtain ⟨U, V, W, O, N⟩ := hm
  have hB : eK G b x B := ⟨_, I, rfl⟩
  refine ⟨U, V, W, O.mono (c8.frz G S fun B o h => (hS B o h).2.1) (Ev.refl G w) (fun _ _ => rfl) (fun i c B' K => ⟨.of rfl, fun β o H => ?_⟩), fun J β o H => ?_⟩
  ·rcases H with H | H
   ·exact (hM.inn h hB K).2.2.2 β o H
   ·exact (hS B' o H).2.2.2 b x B i c h hB K
  ·rcases H with H | H
   ·exact N J β o H
   ·exact (hS B o H).2.2.1 b x _ _ h J I
theorem aF.new_tree {G : Gh} {w I : World} {mem : aH} (hM : aF G w mem) (J : Ev G w I) (H : ∀ B, B < w.heap.size → I.heap[B]? = w.heap[B]?) (V : I.heap.size = w.heap.size + 1) :
  aF (G.frz fun B _ => B = w.heap.size) I mem := by
 have N := hM.ev J (.inr J.size) H
 refine N.protect _ fun B o h => ?_
 subst h
 refine ⟨by omega, hM.own _ (yy _), fun b x e n M _ O => ?_, fun b x C i c M hC U => ?_⟩
 ·obtain ⟨o, K, hm⟩ := (hM.box b x M).loc
  rw [O] at K
  have := congrArg z5.blk (ya K)
  simp only at this; subst this
  exact Nat.lt_irrefl _ hm.2.1
 ·have hs : ∀ o, cl I C o = cl w C o := fun o => cG (H C (hM.blk M hC).2.2.1) o
  exact Nat.lt_irrefl _ (hM.inn M hC (U.same hs)).2.1
theorem CJ {G : Gh} {w : World} {v : aI} {a : AV} {vs : List Value} {B cap : Nat} (V : bF G w v vs) (O : v.imm? = some a) (W : 1 ≤ v.e) (M : ∀ j u, vs[j]? = some u → cl w B j = some u)
  (U : ∀ β o, G.prot β B o) (I : v.len ≤ cap) : VR G w a (.slice (some ⟨B, 0, none⟩) v.len cap) := by
 cases v with
 | ints k xs =>
  obtain rfl := ya O
  obtain ⟨_, _, h⟩ := V
  exact .imm _ _ _ (.ints k xs B 0 cap I fun i x H => by rw [yc1]; exact ⟨M _ _ (h i x H), U _ _⟩) rfl
 | pvs β e xs =>
  obtain rfl := ya O
  obtain ⟨_, Y, h2, h⟩ := V
  have K : ∀ (i : Nat) (x : PV) (c : Nat) (y : PV), xs[i]? = some x → x.cells[c]? = some y → vs[i * e + c]? = some (vs.getD (i * e + c) undef) ∧ PR w (G.prot β) y (vs.getD (i * e + c) undef) := by
   intro i x c y H J
   obtain ⟨u, Z, N⟩ := h i x c y H J
   rw [yi, Z]; exact ⟨rfl, N⟩
  exact .imm _ _ _ (.sl e xs B 0 cap (fun i c => vs.getD (i * e + c) undef) W I h2 (fun i x c y H J => by rw [yc1]; exact ⟨M _ _ (K i x c y H J).1, U _ _⟩)
   (fun i x c y H J => Y _ (yt (K i x c y H J).1)) (fun i x c y H J => (K i x c y H J).2)) rfl
 | avs e cs => simp [aI.imm?] at O
theorem I7 {G : Gh} {w : World} {v : aI} {a : AV} (H : v.imm? = some a) (I : v.len = 0) : VR G w a (.slice none 0 0) := by
 cases v with
 | ints k xs =>
  obtain rfl := ya H
  obtain rfl := yo I
  exact .imm _ _ _ (.intsNil k _) rfl
 | pvs β e xs =>
  obtain rfl := ya H
  obtain rfl := yo I
  exact .imm _ _ _ (.slNil e _) rfl
 | avs e cs => simp [aI.imm?] at H
section
variable {P : Program}
theorem GF {t H : TypeId} {s bytes : Nat} {z : AV} (I : elemOf? P t = some H) (N : iR P H = some s) (O : jI P H = some bytes) (V : zero? P H = some z) (h5 : bytes ≤ 4096) (h6 : 1 ≤ s) (Z : z.cells.length = s) :
  ∃ i U, A7 P t H s i U := by
 obtain ⟨i, U, M, W, J⟩ := jV V
 have Y : P.underlying t = some (.slice H) := by
  unfold elemOf? at I
  split at I
  ·obtain rfl := ya I; assumption
  ·simp at I
 have K := (kX (G := ⟨fun _ _ => none, fun _ _ _ => False, fun _ => False⟩) (w := default) J).cells
 refine ⟨i, U, Y, M, ?_, W, ?_, ?_, h6⟩
 ·unfold iR at N; rw [M] at N; simpa using N
 ·rw [← Z, K.1]; simp
 ·unfold jI at O; rw [M] at O; simp at O; omega
theorem F5 {G : Gh} {w : World} {vars : Bool} {O : TypeId} {v : aI} {row : Row} {vs : List Value} (h : kT P vars O v = some row) (J : bF G w v vs) (K : 1 ≤ v.e) :
  row.e = v.e ∧ row.len = v.len ∧ bF G w row.all vs ∧ (v.len = 0 → row.isCells = false) := by
 unfold kT at h
 cases vars with
 | true =>
  simp only [yl] at h
  rw [aA] at h; obtain ⟨N, h⟩ := h
  have N := cX.1 N
  rw [bind_some] at h; obtain ⟨cs, H, h⟩ := h
  rw [aA] at h; obtain ⟨U, h⟩ := h
  obtain rfl := ya h
  have hL := B9 H J
  have M : cs.length = v.len * v.e := by rw [hL.1, J.1]
  refine ⟨rfl, ?_, bF.ofLRs hL U ?_, fun h0 => by omega⟩
  ·show aN v.e cs.length = v.len
   rw [M, gI (n := 0) K]
  ·rw [M, gI (n := 0) K]
 | false =>
  simp only [yk] at h
  split at h
  ·simp at h
  ·rename_i I
   obtain rfl := ya h
   refine ⟨mK _, gU _, by rw [lQ]; exact J, fun _ => ?_⟩
   cases v with
   | avs e cs => exact absurd rfl (I e cs)
   | ints k xs => rfl
   | pvs β e xs => rfl
theorem Hk {vars : Bool} {H : TypeId} {v : aI} {row : Row} (h : kT P vars H v = some row) : row.isOwn = false := by
 unfold kT at h
 cases vars with
 | true =>
  simp only [yl] at h
  rw [aA] at h; obtain ⟨hl, h⟩ := h
  rw [bind_some] at h; obtain ⟨cs, I, h⟩ := h
  rw [aA] at h; obtain ⟨h1, h⟩ := h
  obtain rfl := ya h
  rfl
 | false =>
  simp only [yk] at h
  split at h
  ·simp at h
  ·obtain rfl := ya h
   exact lT _
theorem J0 {H : TypeId} {x y z : aI} (h : x.app P H y = some z) (I : x.row.isCells = false) : z.row.isCells = false := by
 unfold aI.app at h
 split at h
 ·rw [aA] at h; obtain ⟨_, h⟩ := h; obtain rfl := ya h; rfl
 ·rw [aA] at h; obtain ⟨_, h⟩ := h; obtain rfl := ya h; rfl
 ·simp [aI.row, Row.isCells] at I
 ·simp at h
theorem IV {r : Row} {o n : Nat} {v : aI} (h : r.sub o n = some v) (hr : r.isCells = false) : v.row.isCells = false := by
 cases r with
 | ints k xs => simp only [Row.sub] at h; rw [aA] at h; obtain ⟨_, h⟩ := h; obtain rfl := ya h; rfl
 | pvs β e xs => simp only [Row.sub] at h; rw [aA] at h; obtain ⟨_, h⟩ := h; obtain rfl := ya h; rfl
 | cells e cs => simp [Row.isCells] at hr
 | own e xs hs => cases h
theorem JC {r : Row} (hr : r.isCells = false) : r.all.row.isCells = false := by cases r <;> first | rfl | cases hr
theorem sE {G : Gh} {w : World} {mem : aH} {b : Nat} {x : a9} {xv U M : aI} {I : List Value} {t et ty tx : TypeId} {s : Nat} {i : TypeInfo} {z : Value} {y : Value}
  (hM : aF G w mem) (V : mem[b]? = some (some x)) (hE : A7 P t et s i z) (N : xv.e = s) (hx0 : xv.len = 0) (W : xv.row.isCells = false) (hvx : bF G w xv [])
  (hs : Src P s tx y U.len I w) (J : bF G w U I) (H : xv.app P et U = some M) (Y : M.len ≤ bA) :
  ∃ O K cv, (Builtin.append_ #[t, tx] ty #[.slice none 0 0, y]).run P w = .ok cv K ∧ VR O K (.msw b (x.gen + 1)) cv ∧ c8 G O ∧ Ev G w K ∧
   aF O K (mem.set b (some { gen := x.gen + 1, frz := false, row := M.row })) := by
 obtain ⟨hz, Z, _, hzl⟩ := Gf hM.lab H hvx J
 exact kW hM (yd.1 V).1 (fun g hg => hM.gens b x g V hg) hE hs (by omega) (by rw [mK, Z, N]) (by rw [gU]; omega) (.plain (hM.gens b x _ V (yx2 _)) (lT M) (by rw [lQ]; simpa using hz)) (fun _ => J0 H W)
theorem bF.nilOf {G : Gh} {w : World} {v : aI} (H : v.len = 0) (I : v.row.isCells = false) : bF G w v [] := by
 cases v with
 | ints k xs =>
  obtain rfl := yo H
  exact ⟨rfl, by simp, by simp⟩
 | pvs β e xs =>
  obtain rfl := yo H
  exact ⟨by simp [aI.len], by simp, by simp⟩
 | avs e cs => simp [aI.row, Row.isCells] at I
theorem OZ {r : Row} {o n : Nat} {v : aI} (I : 1 ≤ r.e) (h : r.sub o n = some v) : v.len = n := by
 cases r with
 | ints k xs =>
  simp only [Row.sub] at h; rw [aA] at h; obtain ⟨H, h⟩ := h; obtain rfl := ya h
  have := cX.1 H
  simp [aI.len]; omega
 | pvs β e xs =>
  simp only [Row.sub] at h; rw [aA] at h; obtain ⟨H, h⟩ := h; obtain rfl := ya h
  have := cX.1 H
  simp [aI.len]; omega
 | cells e cs =>
  simp only [Row.sub] at h; rw [aA] at h; obtain ⟨H, h⟩ := h; obtain rfl := ya h
  have H := cX.1 H
  rw [yk1] at H
  have : ((cs.drop (o * e)).take (n * e)).length = n * e := by simp; omega
  simp only [aI.len]
  rw [this]
  exact gI (n := 0) I n
 | own e xs hs => cases h
theorem Ga {G : Gh} {w : World} {mem : aH} {boxed vars : Bool} {t tx ty : TypeId} {rs : Nat} {x y : AV} {out : dD} {cx cy : Value} (hM : aF G w mem) (hrs : mem[rs]? = some none)
  (h : gN P boxed vars t tx mem rs x y = some out) (hx : VR G w x cx) (hy : VR G w y cy) :
  ∃ G' w1 cv, (Builtin.append_ #[t, tx] ty #[cx, cy]).run P w = .ok cv w1 ∧ VR G' w1 out.v cv ∧ c8 G G' ∧ Ev G w w1 ∧ aF G' w1 (out.apply mem) := by
 unfold gN at h
 rw [bind_some] at h; obtain ⟨et, het, h⟩ := h
 rw [bind_some] at h; obtain ⟨s, hs, h⟩ := h
 rw [bind_some] at h; obtain ⟨bytes, hby, h⟩ := h
 rw [bind_some] at h; obtain ⟨z, hz, h⟩ := h
 rw [bind_some] at h; obtain ⟨yv, hyv, h⟩ := h
 rw [aA] at h; obtain ⟨hg, h⟩ := h
 simp only [yb] at hg
 obtain ⟨⟨⟨⟨g1, g2⟩, g3⟩, g4⟩, g5⟩ := hg
 have g1 := bJ.1 g1; have g3 := cX.1 g3; have g4 := cX.1 g4; have g5 := bJ.1 g5
 obtain ⟨i, zv0, hE⟩ := GF het hs hby hz g3 g4 g5
 obtain ⟨N, H, I⟩ := y3 hM hyv hy (by rw [← g1]; exact hs) g2
 rw [← g1] at H
 split at h
 ·obtain rfl := hx.lit_inv
  rw [aA] at h; obtain ⟨hml, h⟩ := h
  have hml := cX.1 hml
  have hno : ∀ g, 0 ≤ g → G.loc rs g = none := fun g _ => hM.unset rs g (fun x hx => by rw [hrs] at hx; cases hx)
  have hrl := (yd.1 hrs).1
  cases boxed with
  | true =>
   simp only [yl] at h
   obtain ⟨row, hrow, rfl⟩ := yc.1 h
   obtain ⟨r1, r2, r3, r4⟩ := F5 hrow I (by omega)
   rw [dG]
   exact kW hM hrl hno hE H hml (by rw [r1, g1]) r2 (.plain (hno 0 (yy _)) (Hk hrow) r3) r4
  | false =>
   simp only [yk] at h
   obtain ⟨v, hv, rfl⟩ := yc.1 h
   rw [El]
   by_cases h0 : yv.1.len = 0
   ·rw [h0] at H
    have hnn : N = [] := yo (by rw [H.newsLen]; simp)
    subst hnn
    exact ⟨G, w, _, run_append_nothing (P := P) w t tx ty et i hE.under hE.info none 0 0 (yy _) cy (by rw [hE.size]; exact H), I7 hv h0, c8.refl G, Ev.refl G w, hM⟩
   ·have hrun := run_append_grow_src (P := P) w t tx ty et i zv0 hE.under hE.info hE.zero none 0 0 [] (run_firstCells_none w.drew i.size 0 0 0) cy yv.1.len N (by rw [hE.size]; exact H) (by omega)
     (by unfold bA at hml; omega) (growslice_fits (bytes := i.bytes) (by omega) (vP (by omega) hE.bytes))
    generalize hc : ([] ++ N).toArray ++ Builtin.zeroCells zv0.cells (grownCap w (0 + yv.1.len) 0 et - (0 + yv.1.len)) = c at hrun
    obtain ⟨f1, f2, f3, f4⟩ := oY w c et
    have hev := Ev.drew_alloc G w (.cells c et) hM.away
    have hM' := hM.new_tree hev f1 f2
    have hg := c8.frz G (fun B _ => B = w.heap.size) (fun B _ h => by subst h; exact hM.own _ (yy _))
    refine ⟨_, _, _, hrun, ?_, hg, hev, hM'⟩
    have hcap : 0 + yv.1.len ≤ grownCap w (0 + yv.1.len) 0 et := grownCap_ge w _ _ _
    generalize grownCap w (0 + yv.1.len) 0 et = C at hc hcap ⊢
    rw [yc1] at hcap ⊢
    refine CJ (vs := N) (I.mono hg hev) hv (by omega) (fun j u V => ?_) (fun β o => .inr rfl) hcap
    rw [f3, ← hc, yn2 (by simpa using (yd.1 V).1)]
    simpa using V
 ·rename_i b g
  rw [bind_some] at h; obtain ⟨bx, W, h⟩ := h
  rw [bind_some] at h; obtain ⟨zv, Z, h⟩ := h
  rw [aA] at h; obtain ⟨hc, h⟩ := h
  simp only [yb, yq] at hc
  obtain ⟨⟨c1, O⟩, c3⟩ := hc
  have O := bJ.1 O; have c3 := cX.1 c3
  obtain rfl := ya h
  rw [dG]
  obtain ⟨hm, rfl⟩ := box?_some W
  have he := (hM.box b bx hm).e
  cases hx with
  | msw _ _ cap L B hl U hn hf =>
   obtain ⟨o, K, M⟩ := (hM.box b bx hm).loc
   have J := hl
   rw [K] at J
   obtain rfl := ya J
   simp only at U; subst U
   obtain ⟨h1, h2, h3, h4, h5⟩ := M
   obtain ⟨vs, hvs, Y⟩ := h4.toList he (box?_own W)
   have hcl : ∀ j u, vs[j]? = some u → cl w B j = some u := fun j u V => by rw [Y j (yd.1 V).1]; exact V
   have := Do (P := P) (ty := ty) (xv := bx.row.all) (cap := cap) hM hm K c1 hE O (by rw [oP, O]) hvs hcl (by rw [dQ]; exact hn) (by rw [O]; exact hf) H I Z c3
   rw [dQ] at this
   exact this
  | mswNil _ _ L hl U hn =>
   obtain ⟨o, K, M⟩ := (hM.box b bx hm).loc
   have J := hl
   rw [K] at J
   obtain rfl := ya J
   simp only at U; subst U
   have hc0 := JC M.2
   have hl0 : bx.row.all.len = 0 := by rw [dQ]; exact M.1
   exact sE hM hm hE (by rw [oP, O]) hl0 hc0 (bF.nilOf hl0 hc0) H I Z c3
 ·rename_i b g n
  rw [bind_some] at h; obtain ⟨bx, W, h⟩ := h
  rw [bind_some] at h; obtain ⟨xv, hxv, h⟩ := h
  rw [bind_some] at h; obtain ⟨zv, Z, h⟩ := h
  rw [aA] at h; obtain ⟨hc, h⟩ := h
  simp only [yb, yq] at hc
  obtain ⟨⟨c1, O⟩, c3⟩ := hc
  have O := bJ.1 O; have c3 := cX.1 c3
  obtain rfl := ya h
  rw [dG]
  obtain ⟨hm, rfl⟩ := box?_some W
  have he := (hM.box b bx hm).e
  have hxl := OZ he hxv
  have hxe := Nd hxv
  cases hx with
  | ms _ _ _ _ cap L B hl U hn hon hf =>
   obtain ⟨o, K, M⟩ := (hM.box b bx hm).loc
   have J := hl
   rw [K] at J
   obtain rfl := ya J
   simp only at U; subst U
   obtain ⟨h1, h2, h3, h4, h5⟩ := M
   obtain ⟨vs, hvs, Y⟩ := h4.toList he (box?_own W)
   have hcl : ∀ j u, vs[j]? = some u → cl w B j = some u := fun j u V => by rw [Y j (yd.1 V).1]; exact V
   have hsub := wA he hxv hvs
   simp only [yc1] at hf
   have hw0 : bF G w xv (vs.take (n * bx.row.e)) := by simpa using hsub.1
   have := Do (P := P) (ty := ty) (cap := cap) hM hm K c1 hE O (by rw [hxe, O]) hw0
    (fun j u V => by
     refine hcl j u ?_
     have hj := (yd.1 V).1
     rw [yb3] at hj
     rw [yj1, if_pos (by omega)] at V; exact V) (by rw [hxl]; exact hn) (by rw [O]; exact hf) H I Z c3
   rw [hxl] at this
   simp only [yd3]
   exact this
  | msNil _ _ L hl U =>
   obtain ⟨o, K, M⟩ := (hM.box b bx hm).loc
   have J := hl
   rw [K] at J
   obtain rfl := ya J
   simp only at U; subst U
   have hc0 := IV hxv M.2
   exact sE hM hm hE (by rw [hxe, O]) hxl hc0 (bF.nilOf hxl hc0) H I Z c3
  | msZ _ _ _ B oo L hl U ho hon => omega
 ·simp at h
end
end Go.Ab
end
section
namespace Go.Ab
variable [b4]
def flat (us : List Value) : List Value := us.flatMap fun u => u.cells.toList
theorem gT (u : Value) (us : List Value) : flat (u :: us) = u.cells.toList ++ flat us := by simp [flat]
theorem f9 {e : Nat} : ∀ {us : List Value}, (∀ u ∈ us, u.cells.size = e) → (flat us).length = us.length * e
 | [], _ => by simp [flat]
 | u :: us, h => by
  rw [gT, yi1, f9 (fun x H => h x (yh _ H)), yu1, h u (ym ..), yg2, yk1]
  omega
theorem pA {e : Nat} : ∀ {us : List Value} {i c : Nat} {u : Value}, (∀ u ∈ us, u.cells.size = e) → us[i]? = some u → c < e → (flat us)[i * e + c]? = u.cells.toList[c]?
 | [], i, c, u, h, H, I => by simp at H
 | v :: us, 0, c, u, h, H, I => by
  simp at H; subst H
  rw [gT, yd3, yc1, yn (by rw [yu1, h v (ym ..)]; exact I)]
 | v :: us, i + 1, c, u, h, H, I => by
  have J := h v (ym ..)
  rw [gT, yu (by rw [yu1, J, yk1]; omega), yu1, J, show (i + 1) * e + c - e = i * e + c by rw [yk1]; omega]
  exact pA (fun x K => h x (yh _ K)) (by simpa using H) I
theorem JM {us : List Value} {x : Value} (h : x ∈ flat us) : ∃ u ∈ us, x ∈ u.cells.toList := List.mem_flatMap.1 h
theorem sG : ∀ {xs a b : List Value} {k : Nat}, a6 (a ++ b) (a.length + k) xs = a ++ a6 b k xs
 | [], a, b, k => rfl
 | x :: xs, a, b, k => by
  simp only [a6]
  rw [List.set_append_right _ _ (by omega), yf3, yc3]
  exact sG
theorem s0 : ∀ {xs a b : List Value} {p : List Value}, xs.length = a.length → a6 (p ++ (a ++ b)) p.length xs = p ++ (xs ++ b)
 | [], a, b, p, h => by
  have := yo h.symm
  subst this; simp [a6]
 | x :: xs, [], b, p, h => by simp at h
 | x :: xs, y :: a, b, p, h => by
  simp only [a6]
  rw [List.set_append_right _ _ (by omega), Nat.sub_self]
  simp only [yp2, List.set_cons_zero]
  have := s0 (xs := xs) (a := a) (b := b) (p := p ++ [x]) (by simpa using h)
  simpa using this
theorem J5 {e : Nat} : ∀ {us : List Value} {i : Nat} {v : Value}, (∀ u ∈ us, u.cells.size = e) → v.cells.size = e → i < us.length → a6 (flat us) (i * e) v.cells.toList = flat (us.set i v)
 | [], i, v, h, I, H => by simp at H
 | u :: us, 0, v, h, I, H => by
  have := s0 (xs := v.cells.toList) (a := u.cells.toList) (b := flat us) (p := []) (by simp [I, h u (ym ..)])
  rw [List.set_cons_zero, gT, gT, yd3]; exact this
 | u :: us, i + 1, v, h, I, H => by
  have K := h u (ym ..)
  rw [List.set_cons_succ, gT, gT, show (i + 1) * e = u.cells.toList.length + i * e by rw [yu1, K, yk1]; omega, sG,
   J5 (fun x J => h x (yh _ J)) I (by simpa using H)]
def fL (us : List Value) : List (Nat × Value) → List Value
 | [] => us
 | (i, v) :: r => fL (us.set i v) r
theorem sS : ∀ {qs : List (Nat × Value)} {us : List Value}, (fL us qs).length = us.length
 | [], us => rfl
 | (i, v) :: r, us => by rw [fL, sS]; simp
theorem oB {e : Nat} : ∀ {qs : List (Nat × Value)} {us : List Value}, (∀ u ∈ us, u.cells.size = e) → (∀ q ∈ qs, q.2.cells.size = e) → ∀ u ∈ fL us qs, u.cells.size = e
 | [], us, h, _ => h
 | (i, v) :: r, us, h, J => by
  refine oB (qs := r) (us := us.set i v) (fun u K => ?_) (fun q H => J q (yh _ H))
  rcases yl2 K with I | I
  ·exact h u I
  ·rw [I]; exact J (i, v) (ym ..)
theorem Bj {s : Nat} : ∀ {qs : List (Nat × Value)} {us : List Value} {c : Array Value}, c.toList = flat us → (∀ u ∈ us, u.cells.size = s) → (∀ q ∈ qs, q.2.cells.size = s ∧ q.1 < us.length) →
  ∃ V, Instr.fill (fun i => some (i * s, s)) c qs = some V ∧ V.toList = flat (fL us qs)
 | [], us, c, I, _, _ => ⟨c, rfl, I⟩
 | (i, v) :: r, us, c, I, M, K => by
  obtain ⟨J, N⟩ := K (i, v) (ym ..)
  simp only at J N
  have H : (v.cells.zipIdx.foldl (fun cs (c, j) => cs.setIfInBounds (i * s + j) c) c).toList = a6 c.toList (i * s) v.cells.toList := by
   have := Bg v.cells.toList (i * s) 0 c
   rw [ym1] at this
   rw [← this, ← Array.foldl_toList]
   simp
  have O : c.size = us.length * s := by rw [← f9 M, ← I]; simp
  have W : i * s + v.cells.size ≤ c.size := by
   rw [O, J]
   calc i * s + s = (i + 1) * s := by rw [yk1]; omega
    _ ≤ us.length * s := yz1 _ N
  simp only [Instr.fill]
  rw [if_neg (by simp only [yy1, decide_eq_true_eq]; omega)]
  refine Bj (us := us.set i v) (by rw [H, I, J5 M J N]) (fun u h => ?_) (fun q h => ⟨(K q (yh _ h)).1, by simpa using (K q (yh _ h)).2⟩)
  rcases yl2 h with U | U
  ·exact M u U
  ·rw [U]; exact J
theorem i5 (z : Array Value) (J : 1 ≤ z.size) : ∀ n, ((Array.range (n * z.size)).map (z[· % z.size]!)).toList = (List.replicate n z.toList).flatten
 | 0 => by simp
 | n + 1 => by
  have I := i5 z J n
  simp only [Array.toList_map, Array.toList_range] at I ⊢
  rw [yk1, Nat.one_mul, List.range_add, yk3, I, List.replicate_succ', List.flatten_append]
  congr 1
  simp only [List.flatten_cons, List.flatten_nil, yg1, List.map_map]
  apply List.ext_getElem
  ·simp
  ·intro j H h2
   simp at H
   have : (n * z.size + j) % z.size = j := by
    rw [Nat.add_comm, Nat.add_mul_mod_self_right]; exact Nat.mod_eq_of_lt H
   simp [this, H]
theorem e6 (n : Nat) (z : Value) : flat (List.replicate n z) = (List.replicate n z.cells.toList).flatten := by
 induction n with
 | zero => rfl
 | succ n H => rw [List.replicate_succ, gT, H, List.replicate_succ, List.flatten_cons]
theorem Pw {G : Gh} (H : ∀ B o, G.prot false B o → G.prot true B o) {β β' : Bool} (h : β' = false → β = false) {w : World} {p : PV} {v : Value} (J : PR w (G.prot β) p v) : PR w (G.prot β') p v := by
 refine J.mono (fun B o I => ?_) (fun _ _ _ => rfl)
 cases β' with
 | false => rw [h rfl] at I; exact I
 | true => cases β with
  | true => exact I
  | false => exact H _ _ I
section
variable {P : Program}
theorem FV {G : Gh} {w : World} {mem : aH} {boxed : Bool} {rs : Nat} {v : aI} {vs : List Value} {out : dD} {t : TypeId} (hM : aF G w mem) (U : mem[rs]? = some none) (h : rA boxed rs v = some out)
  (O : bF G w v vs) (V : 1 ≤ v.e) :
  ∃ M, c8 G M ∧ Ev G w (w.alloc (.cells vs.toArray t)) ∧ aF M (w.alloc (.cells vs.toArray t)) (aJ mem out.wr) ∧ VR M (w.alloc (.cells vs.toArray t)) out.v (.slice (some ⟨w.heap.size, 0, none⟩) v.len v.len) ∧ out.push = [] := by
 have K : ∀ j u, vs[j]? = some u → cl (w.alloc (.cells vs.toArray t)) w.heap.size j = some u := fun j u hu => by
  rw [jJ]; simpa using hu
 unfold rA at h
 cases boxed with
 | true =>
  simp only [yl] at h
  obtain rfl := ya h
  obtain ⟨M, rfl, hg, H, I, Z⟩ := FP (row := v.row) (vs := vs) (rest := #[]) (t := t) hM U (by rw [mK]; exact V) (lT v) (by rw [lQ]; exact O)
  rw [Array.append_empty] at H I
  refine ⟨_, hg, H, I, ?_, rfl⟩
  have W : VR (G.put rs 0 ⟨some w.heap.size, v.row.e, v.row.len⟩) (w.alloc (.cells vs.toArray t)) (.msw rs 0) (.slice (some ⟨w.heap.size, 0, none⟩) v.row.len v.len) := by
   refine .msw rs 0 v.len _ w.heap.size Z rfl (by simp only [gU]; exact yy _) (fun j Y => ?_)
   simp only [mK] at Y
   have N : j < vs.length := by rw [O.1]; exact Y
   rw [K j _ (yf N)]; rfl
  rw [gU] at W ⊢; exact W
 | false =>
  simp only [yk] at h
  obtain ⟨a, ha, rfl⟩ := yc.1 h
  have H := Ev.alloc G w (.cells vs.toArray t) hM.away
  have I := hM.new_tree H (fun B hB => eT hB) (by simp)
  have J := c8.frz G (fun B _ => B = w.heap.size) (fun B _ h => by subst h; exact hM.own _ (yy _))
  refine ⟨_, J, H, I, ?_, rfl⟩
  exact CJ (vs := vs) (O.mono J H) ha V K (fun β o => .inr rfl) (yy _)
theorem pO {G : Gh} {w : World} : ∀ {vs : List AV} {us : List Value}, gW G w vs us → gW G w (gA vs) (flat us)
 | [], us, h => by
  have := yo h.1.symm
  subst this; exact ⟨rfl, fun j y H => by simp [gA] at H⟩
 | v :: vs, [], h => by simp [gW] at h
 | v :: vs, u :: us, h => by
  rw [gA, gT]
  refine gW.append (h.2 0 v rfl).cells (pO ⟨by simpa using h.1, fun j y H => by simpa using h.2 (j + 1) y (by simpa using H)⟩)
theorem gW.get {G : Gh} {w : World} {as : List AV} {vs : List Value} (h : gW G w as vs) {j : Nat} {a : AV} (I : as[j]? = some a) : ∃ u, vs[j]? = some u ∧ VR G w a u := by
 have H : j < vs.length := by rw [← h.1]; exact (yd.1 I).1
 have := h.2 j a I
 rw [yi, yf H] at this
 exact ⟨_, yf H, this⟩
theorem zM {k : IntKind} : ∀ {vs : List AV} {xs : List Int}, e5 k vs = some xs → xs.length = vs.length ∧ ∀ (j : Nat) (x : Int), xs[j]? = some x → vs[j]? = some (.lit (.int k x))
 | [], xs, h => by simp [e5] at h; subst h; exact ⟨rfl, fun j x H => by simp at H⟩
 | v :: vs, xs, h => by
  unfold e5 at h
  split at h
  ·simp_all
  ·rename_i N x r K
   obtain ⟨rfl, rfl⟩ := yx K
   cases I : gK k N with
   | false => rw [I] at h; simp at h
   | true =>
    rw [I] at h; simp only [yl] at h
    obtain ⟨ys, J, rfl⟩ := yc.1 h
    rw [jO] at I; subst I
    obtain ⟨M, O⟩ := zM J
    refine ⟨by simp [M], fun j x H => ?_⟩
    cases j with
    | zero => simp at H; subst H; rfl
    | succ j => simpa using O j x (by simpa using H)
  ·simp at h
theorem Hh {G : Gh} {w : World} {mem : aH} {vars : Bool} {t : TypeId} {vs : List AV} {us : List Value} {r : aI × List Nat} {s : Nat} (hM : aF G w mem) (h : mE P vars mem t vs = some r) (hL : gW G w vs us)
  (V : ∀ u ∈ us, u.cells.size = s) (hs : 1 ≤ s) (K : r.1.e = s) : bF (G.frz (aR G w mem r.2)) w r.1 (flat us) ∧ r.1.len = vs.length := by
 have W := f9 V
 unfold mE at h
 split at h
 ·rename_i k hk
  obtain ⟨xs, hxs, rfl⟩ := yc.1 h
  obtain ⟨N, hh⟩ := zM hxs
  simp only [aI.e] at K; subst K
  have O : ∀ (i : Nat) (x : Int), xs[i]? = some x → (flat us)[i]? = some (.int k x) := by
   intro i x I
   obtain ⟨u, J, H⟩ := hL.get (hh i x I)
   obtain rfl := H.lit_inv
   have := pA V J (c := 0) (by omega)
   rw [ye3, ym1] at this
   exact this
  refine ⟨⟨by simp only [aI.len, aI.e]; rw [W, N, hL.1], fun u J => ?_, O⟩, by simpa [aI.len] using N⟩
  obtain ⟨j, hj, rfl⟩ := yt1 J
  have hj2 : j < xs.length := by rw [N, hL.1]; omega
  have := O j _ (yf hj2)
  rw [yf hj] at this
  rw [ya this]; rfl
 ·rw [bind_some] at h; obtain ⟨e, he, h⟩ := h
  cases vars with
  | true =>
   simp only [yl] at h
   rw [aA] at h; obtain ⟨hg, h⟩ := h
   simp only [yb] at hg
   obtain rfl := ya h
   simp only [aI.e] at K; subst K
   have hcs := pO hL
   have N : (gA vs).length = vs.length * e := by rw [hcs.1, W, hL.1]
   have hcb : aN e (gA vs).length = vs.length := by rw [N, gI (n := 0) hs]
   exact ⟨(bF.ofLRs hcs hg.2 (by rw [hcb]; exact N)).mono (c8.frz G _ hM.inBoxes) (Ev.refl G w), hcb⟩
  | false =>
   simp only [yk] at h
   obtain ⟨q, hq, rfl⟩ := yc.1 h
   simp only [aI.e] at K; subst K
   obtain ⟨N, hh⟩ := q6 hq
   have hlab : ∀ B o, (G.frz (aR G w mem q.2.2)).prot false B o → (G.frz (aR G w mem q.2.2)).prot true B o := fun B o h => h.imp (hM.lab B o) id
   have O : ∀ (i : Nat) (x : PV), q.2.1[i]? = some x → ∃ v u Z, vs[i]? = some v ∧ us[i]? = some u ∧ VR G w v u ∧ rQ P mem t v = some Z ∧ Z.2.1 = x ∧ (∀ b ∈ Z.2.2, b ∈ q.2.2) ∧ (q.1 = false → Z.1 = false) := by
    intro i x I
    have hi : i < vs.length := by rw [← N]; exact (yd.1 I).1
    obtain ⟨Z, h1, h2, h3, h4⟩ := hh i _ (yf hi)
    obtain ⟨u, J, H⟩ := hL.get (yf hi)
    rw [I] at h2
    exact ⟨_, u, Z, yf hi, J, H, h1, (ya h2).symm, h3, h4⟩
   have hsz : ∀ (i : Nat) (x : PV), q.2.1[i]? = some x → x.cells.length = e := by
    intro i x I
    obtain ⟨v, u, Z, hv, J, H, h1, rfl, h3, h4⟩ := O i x I
    obtain ⟨ql, _⟩ := pG hM h1 H
    rw [ql, H.cells.1, yu1]; exact V u (yt J)
   have U : ∀ (i : Nat) (x : PV) (c : Nat) (y : PV), q.2.1[i]? = some x → x.cells[c]? = some y → ∃ u, (flat us)[i * e + c]? = some u ∧ PR w ((G.frz (aR G w mem q.2.2)).prot q.1) y u ∧ u.oneCell' = true := by
    intro i x c y I hy
    have hce : c < e := by rw [← hsz i x I]; exact (yd.1 hy).1
    obtain ⟨v, u, Z, hv, J, H, h1, rfl, h3, h4⟩ := O i x I
    obtain ⟨ql, qq⟩ := pG hM h1 H
    obtain ⟨u', Y, hpr, M⟩ := qq c y hy
    refine ⟨u', by rw [pA V J hce]; exact Y, Pw hlab h4 (hpr.mono (fun B o hb => hb.imp id (fun hi => hi.mono h3)) (fun _ _ _ => rfl)), M⟩
   refine ⟨⟨by simp only [aI.len, aI.e]; rw [W, N, hL.1], fun u J => ?_, fun x I => ?_, fun i x c y I hy => ?_⟩, by simpa [aI.len] using N⟩
   ·obtain ⟨j, hj, rfl⟩ := yt1 J
    have hj' := hj
    rw [W] at hj'
    have hi : j / e < us.length := Nat.div_lt_of_lt_mul (by rw [yk2]; exact hj')
    have hc : j % e < e := Nat.mod_lt _ hs
    have hi2 : j / e < q.2.1.length := by rw [N, hL.1]; exact hi
    have I := yf hi2
    have hy : j % e < (q.2.1[j / e]).cells.length := by rw [hsz _ _ I]; exact hc
    obtain ⟨u', Y, _, M⟩ := U _ _ _ _ I (yf hy)
    have hjj : j / e * e + j % e = j := by rw [yk2]; exact Nat.div_add_mod j e
    rw [hjj, yf hj] at Y
    rw [ya Y]; exact M
   ·obtain ⟨j, hj, rfl⟩ := yt1 I
    exact hsz j _ (yf hj)
   ·obtain ⟨u, J, hpr, _⟩ := U i x c y I hy
    exact ⟨u, J, hpr⟩
theorem y9 {G : Gh} {w : World} : ∀ {ps : List (Nat × AV)} {qs : List (Nat × Value)} {vs : List AV} {us : List Value}, gW G w vs us → Pu G w ps qs → gW G w (mJ vs ps) (fL us qs)
 | [], qs, vs, us, h, H => by
  have := yo H.1.symm
  subst this; exact h
 | (i, v) :: r, [], vs, us, h, H => by simp [Pu] at H
 | (i, v) :: r, (i', u) :: qs, vs, us, h, H => by
  obtain ⟨u', J, K⟩ := H.2 0 (i, v) rfl
  simp only [yq2, Option.some.injEq, Prod.mk.injEq] at J
  obtain ⟨rfl, rfl⟩ := J
  exact y9 (ps := r) (qs := qs) (h.set K) ⟨by simpa using H.1, fun j p I => by simpa using H.2 (j + 1) p (by simpa using I)⟩
theorem oD : ∀ {ps : List (Nat × AV)} {vs : List AV}, (mJ vs ps).length = vs.length
 | [], vs => rfl
 | (i, v) :: r, vs => by rw [mJ, oD]; simp
theorem sX {e : Nat} : ∀ {vs : List AV}, lP e vs = true → ∀ v ∈ vs, v.cells.length = e
 | [], _ => by simp
 | v :: vs, h => by
  simp only [lP, yb] at h
  intro x H
  rcases yn1.1 H with rfl | H
  ·exact bJ.1 h.1
  ·exact sX h.2 x H
theorem sB {n : Nat} : ∀ {ps : List (Nat × AV)}, nB n ps = true → ∀ p ∈ ps, p.1 < n
 | [], _ => by simp
 | (i, v) :: r, h => by
  simp only [nB, yb] at h
  intro x H
  rcases yn1.1 H with rfl | H
  ·exact cX.1 h.1
  ·exact sB h.2 x H
end
end Go.Ab
end
section
namespace Go.Ab
variable [b4]
theorem rC : ∀ (l : List Int) (r : ByteArray), l.foldl (fun r n => r.push (UInt8.ofNat n.toNat)) r = ⟨r.data ++ (l.map fun n => UInt8.ofNat n.toNat).toArray⟩
 | [], r => by simp
 | b :: l, r => by
  simp only [List.foldl_cons]
  rw [rC l]
  simp [ByteArray.push]
theorem Ia (xs : List Int) : xs.foldl (fun r n => r.push (UInt8.ofNat n.toNat)) ByteArray.empty = i7 xs := by
 rw [rC]
 have H : ByteArray.empty.data = #[] := rfl
 simp [i7, H]
section
variable {P : Program}
theorem CT {G : Gh} {w : World} {mem : aH} {boxed vars : Bool} {t K : TypeId} {rs len s : Nat} {z : AV} {ps : List (Nat × AV)} {qs : Array (Nat × Value)} {wv : aI × List Nat} {o : dD} (hM : aF G w mem) (hrs : mem[rs]? = some none)
  (I : elemOf? P t = some K) (hz : zero? P K = some z) (hs : iR P K = some s) (hg : (nB len ps && Nat.ble len 4096 && Nat.ble 1 s && Nat.ble s 4096 && lP s (z :: ps.map (·.2))) = true)
  (hv : mE P vars mem K (mJ (List.replicate len z) ps) = some wv) (U : Nat.beq wv.1.e s = true) (ho : rA (boxed || Nat.beq len 0) rs wv.1 = some o) (hp : Pu G w ps qs.toList) :
  ∃ G' w' cv, (Instr.buildSlice t len qs).run P w = .ok cv w' ∧ VR G' w' o.v cv ∧ c8 G G' ∧ Ev G w w' ∧ aF G' w' (({ v := o.v, rd := wv.2, wr := bY mem wv.2 ++ o.wr } : dD).apply mem) := by
 simp only [yb] at hg
 obtain ⟨⟨⟨⟨g1, g2⟩, g3⟩, g4⟩, g5⟩ := hg
 have g2 := cX.1 g2; have g3 := cX.1 g3; have g4 := cX.1 g4; have U := bJ.1 U
 have hu : P.underlying t = some (.slice K) := by
  unfold elemOf? at I
  split at I
  ·obtain rfl := ya I; assumption
  ·simp at I
 obtain ⟨i, H, hi, hzv, hov⟩ := jV hz
 have J : i.size = s := by unfold iR at hs; rw [hi] at hs; simpa using hs
 have hzr : VR G w z H := kX hov
 have Z := sX g5
 have O : H.cells.size = s := by rw [← Z z (ym ..)]; simpa using hzr.cells.1.symm
 have hL0 : gW G w (List.replicate len z) (List.replicate len H) := by
  refine ⟨by simp, fun j y hy => ?_⟩
  obtain ⟨hj, rfl⟩ : j < len ∧ z = y := by
   have V := (yd.1 hy)
   obtain ⟨V, h2⟩ := V
   simp at V h2; exact ⟨V, h2⟩
  rw [yi, yw1, if_pos hj]; exact hzr
 have hL := y9 hL0 hp
 have W : ∀ q ∈ qs.toList, q.2.cells.size = s ∧ q.1 < (List.replicate len H).length := by
  intro q W
  obtain ⟨j, hj, rfl⟩ := yt1 W
  have N : j < ps.length := by rw [hp.1]; exact hj
  obtain ⟨v, hv, hvr⟩ := hp.2 j _ (yf N)
  rw [yf hj] at hv
  have hqe := ya hv
  rw [hqe]
  refine ⟨?_, by simp only [yv2]; exact sB g1 _ (yr2 N)⟩
  rw [← Z (ps[j].2) (yh _ (yu2.2 ⟨_, yr2 N, rfl⟩))]
  simpa using hvr.cells.1.symm
 have hz1 : ∀ u ∈ List.replicate len H, u.cells.size = s := fun u hu => by rw [(yj2.1 hu).2]; exact O
 have hus := oB hz1 (fun q h => (W q h).1)
 obtain ⟨M, hvl⟩ := Hh hM hv hL hus g3 U
 have hM1 := hM.freeze wv.2
 have hg1 := c8.frz G (aR G w mem wv.2) hM.inBoxes
 have Y : (aJ mem (bY mem wv.2))[rs]? = some none := by
  rw [(dV mem wv.2 mem rs rfl).2.1 (.inr (fun y hy => by rw [hrs] at hy; cases hy))]; exact hrs
 obtain ⟨G', V, h2, h3, h4, h5⟩ := FV (t := K) hM1 Y ho M (by omega)
 have hlen : wv.1.len = len := by rw [hvl, oD]; simp
 rw [hlen] at h4
 refine ⟨G', _, _, ?_, h4, hg1.trans V, ?_, ?_⟩
 ·by_cases h0 : len = 0
  ·subst h0
   have hq0 : qs.toList = [] := by
    cases hh : qs.toList with
    | nil => rfl
    | cons q r => have := (W q (by rw [hh]; exact ym ..)).2; simp at this
   rw [hq0]
   simp [Instr.buildSlice, run_underlying hu, sizeOf, typeInfo, hi, hq0, Instr.fill, newRow, fL, flat, Array.range_zero']
  ·have hlt : len * s ≤ 16777216 := ya2 (Nat.mul_le_mul g2 g4) (by decide)
   have hpos : 0 < len * s := Nat.mul_pos (by omega) (by omega)
   have hc0 : ((Array.range (len * i.size)).map (H.cells[· % H.cells.size]!)).toList = flat (List.replicate len H) := by
    rw [J, e6]
    have := i5 H.cells (by omega) len
    rw [O] at this
    rw [O]; exact this
   obtain ⟨c', hf, hc'⟩ := Bj hc0 hz1 W
   have hcc : c' = (flat (fL (List.replicate len H) qs.toList)).toArray := by rw [← hc']
   rw [← hcc]
   exact run_buildSlice w t K len qs c' i H hu hi hzv (by rw [J]; omega) (by rw [J]; omega) (by rw [J] at hf ⊢; exact hf)
 ·exact (Ev.refl G w).trans hg1 h2
 ·simp only [dD.apply, yg1]
  rw [n4]; exact h3
theorem vQ {G : Gh} {w : World} {mem : aH} {boxed : Bool} {t K : TypeId} {rs n s : Nat} {I : Value} {v : aI} {i : TypeInfo} {out : dD} {kl kc : IntKind} (hM : aF G w mem) (V : mem[rs]? = some none)
  (hu : P.underlying t = some (.slice K)) (hi : P.info? K = some i) (hz : i.zero = some I) (W : i.size = s) (hs1 : 1 ≤ s) (U : i.bytes ≤ 4096) (hn : n ≤ bA) (N : I.cells.size = s)
  (hv : bF G w v (flat (List.replicate n I))) (O : v.len = n) (hve : v.e = s) (ho : rA boxed rs v = some out) :
  ∃ J M cv, (Instr.makeSlice t (.int kl (n : Int)) (.int kc (n : Int))).run P w = .ok cv M ∧ VR J M out.v cv ∧ c8 G J ∧ Ev G w M ∧ aF J M (out.apply mem) := by
 obtain ⟨J, h1, h2, h3, Z, h5⟩ := FV (t := K) hM V ho hv (by omega)
 have Y := vP hn U
 have H := run_make (P := P) w t K i I hu hi hz kl kc n n (by omega) (Int.le_refl _) (by
   have h : ((n * i.bytes : Nat) : Int) ≤ 281474976710656 := by omega
   rw [Int.natCast_mul, Int.mul_comm] at h; exact h) (by unfold bA at hn; omega)
 simp only [ym3] at H
 have hc : madeCells I.cells (n * i.size) = (flat (List.replicate n I)).toArray := by
  have := i5 I.cells (by omega) n
  rw [← yf2 (xs := madeCells I.cells (n * i.size)), e6, ← this, W]
  simp only [madeCells, N]
 rw [hc] at H
 rw [O] at Z
 refine ⟨J, _, _, H, Z, h1, h2, ?_⟩
 simp only [dD.apply, h5, yg1]; exact h3
theorem H1 {G : Gh} {w : World} {mem : aH} {e M dst : TypeId} {x : AV} {xs : List Int} {rd : List Nat} {cv : Value} (hM : aF G w mem) (N : P.underlying M = some (.slice e)) (he : P.underlying e = some (.int .u8)) (hd : P.underlying dst = some .string)
  (Z : view P e mem x = some (.ints .u8 xs, rd)) (ht : iR P e = some 1) (K : yL P M x = true) (Y : VR G w x cv) : (convert M dst cv).run P w = .ok (.string (i7 xs)) w := by
 obtain ⟨J, hS, hV⟩ := y3 hM Z Y ht K
 have I : J = xs.map (Value.int .u8) := by
  obtain ⟨U, h2, h3⟩ := hV
  simp only [aI.len, aI.e, ye3] at U
  refine List.ext_getElem (by simp [U]) (fun j V hj2 => ?_)
  have hj : j < xs.length := by omega
  have := h3 j _ (yf hj)
  rw [yf V] at this
  rw [ya this]; simp
 have O := hS.len w
 have H := hS.cells
 have hnl := hS.newsLen
 have W : ∃ a c, cv = .slice a xs.length c := by
  cases cv <;> simp [Builtin.lenOf] at O
  ·cases Y with
   | lit v h =>
    unfold yL at K
    rw [N] at K
    simp at K
   | imm β p v h hs => cases h; simp [PV.isSl] at hs
   | dead v U h2 => simp [view] at Z
  ·exact ⟨_, _, by rw [O]; rfl⟩
 obtain ⟨a, c, rfl⟩ := W
 rw [run_convert_bytes_string w M dst e a xs.length c N he hd]
 cases a with
 | none =>
  simp [Builtin.firstCells] at H
  have : J = [] := by
   cases J with
   | nil => rfl
   | cons => simp at H
  rw [this] at I
  have : xs = [] := List.map_eq_nil_iff.1 I.symm
  subst this; rfl
 | some a =>
  simp only [Builtin.firstCells, aI.e, aI.len, ye3] at H
  rw [run_bytesToString w a _ c xs (by rw [← I]; exact H), Ia]
end
end Go.Ab
end
section
namespace Go.Ab
variable [b4]
theorem Pd {vs : Array Value} (h : vs.size = 1) : ∃ x, vs = #[x] := by
 obtain ⟨l⟩ := vs
 match l, h with
 | [x], _ => exact ⟨x, rfl⟩
theorem Pr {vs : Array Value} (h : vs.size = 2) : ∃ x y, vs = #[x, y] := by
 obtain ⟨l⟩ := vs
 match l, h with
 | [x, y], _ => exact ⟨x, y, rfl⟩
section
variable {P : Program}
def n8 (P : Program) (G : Gh) (w : World) (mem : aH) (o : Oper) (a : Act) (out : dD) : Prop :=
 ∀ (K : Act → World → Prop) (Q : Exit → Act → World → Prop), (∀ G' w' cv, VR G' w' out.v cv → c8 G G' → Ev G w w' → aF G' w' (out.apply mem) → K (a.put o.dst cv) w') → o.wp P a w K Q
def Kt (P : Program) (G : Gh) (w : World) (mem : aH) (g : FuncId) (args : Array Value) (out : dD) : Prop :=
 (callFunc g args).run P w = .ok (.enter g args) w ∧
 Calls P g args w fun e w' => ∃ G' cv, e = .returned cv ∧ VR G' w' out.v cv ∧ c8 G G' ∧ Ev G w w' ∧ aF G' w' (out.apply mem)
variable {G : Gh} {w : World} {mem : aH} {o : Oper} {a : Act} {out : dD}
theorem jX.opW (h : jX P G w mem o a out) : n8 P G w mem o a out := by
 intro K Q hK
 obtain ⟨U, M, nx, cv, H, J, N, O, I, hM⟩ := h
 unfold Oper.wp
 rw [H]
 rcases J with rfl | ⟨rfl, rfl⟩
 ·exact hK U M cv N O I hM
 ·exact hK U M undef N O I hM
theorem n8.value {s : Sem Value} (M : execOp a.eval o = (do pure (Next.value (← s))))
  (h : ∃ J H cv, s.run P w = .ok cv H ∧ VR J H out.v cv ∧ c8 G J ∧ Ev G w H ∧ aF J H (out.apply mem)) : n8 P G w mem o a out := by
 obtain ⟨J, H, cv, I, O, N, K, hM⟩ := h
 refine jX.opW ⟨J, H, .value cv, cv, ?_, .inl rfl, O, N, K, hM⟩
 rw [M]
 simp only [Sem.run_bind, I, Result.andThen_ok, Sem.run_pure]
theorem n8.still {s : Sem Value} (hM : aF G w mem) (I : execOp a.eval o = (do pure (Next.value (← s)))) {cv : Value} (K : out.wr = []) (J : out.push = [])
  (H : s.run P w = .ok cv w) (M : VR G w out.v cv) : n8 P G w mem o a out :=
 n8.value I ⟨G, w, cv, H, M, c8.refl G, Ev.refl G w, by simp only [dD.apply, K, J, aJ, yg1]; exact hM⟩
theorem n8.plain (hM : aF G w mem) {cv : Value} (H : execOp a.eval o = pure (Next.value cv)) (J : out.wr = []) (I : out.push = []) (K : VR G w out.v cv) : n8 P G w mem o a out :=
 jX.opW ⟨G, w, .value cv, cv, by rw [H]; simp, .inl rfl, K, c8.refl G, Ev.refl G w, by simp only [dD.apply, J, I, aJ, yg1]; exact hM⟩
theorem l8 {ρ : Operand → Option AV} (I : Nn G w ρ a) {x : Option Operand} {r : Option Int} (h : AH ρ x = some r) : m6 r (x.map a.eval) := by
 cases x with
 | none => simp [AH] at h; subst h; exact trivial
 | some x =>
  simp only [AH] at h
  rw [bind_some] at h; obtain ⟨v, J, h⟩ := h
  unfold KC at h
  split at h
  ·simp at *
  ·rename_i k n H
   obtain rfl := ya H
   obtain rfl := ya h
   have := (I x _ J).lit_inv
   exact ⟨k, by simp [this]⟩
  ·simp at h
theorem mG {t H : TypeId} (h : elemOf? P t = some H) : P.underlying t = some (.slice H) := by
 unfold elemOf? at h
 split at h
 ·obtain rfl := ya h; assumption
 ·simp at h
theorem mW {l : List Nat} (h : fM l = true) : l = [] := by cases l <;> simp_all [fM]
theorem La {k : IntKind} {z : AV} {J : Value} {I : List Int} {n : Nat} (h : e5 k [z] = some I) (O : VR G w z J) : bF G w (.ints k (List.replicate n (I.headD 0))) (flat (List.replicate n J)) ∧ J.cells.size = 1 := by
 obtain ⟨U, N⟩ := zM h
 obtain ⟨x, rfl⟩ : ∃ x, I = [x] := by
  match I, U with
  | [x], _ => exact ⟨x, rfl⟩
 have := N 0 x rfl
 simp at this
 subst this
 obtain rfl := O.lit_inv
 have K : flat (List.replicate n (Value.int k x)) = List.replicate n (.int k x) := by
  rw [e6]
  have M : (Value.int k x).cells.toList = [.int k x] := rfl
  rw [M]
  induction n with
  | zero => rfl
  | succ n W => rw [List.replicate_succ, List.flatten_cons, W, List.replicate_succ]; rfl
 rw [K]
 refine ⟨⟨by simp [aI.len, aI.e], fun u V => by rw [(yj2.1 V).2]; rfl, fun i y H => ?_⟩, rfl⟩
 simp only [List.headD_cons] at H
 rw [yw1] at H ⊢
 split at H
 ·rw [if_pos (by assumption)]; rw [← ya H]
 ·simp at H
theorem Gi {t : TypeId} {z : AV} {N : Value} {q : Bool × PV × List Nat} {n e : Nat} (hM : aF G w mem) (h : rQ P mem t z = some q) (hz : VR G w z N) (W : z.cells.length = e) (h1 : 1 ≤ e) (hq : q.2.2 = []) :
  bF G w (.pvs q.1 e (List.replicate n q.2.1)) (flat (List.replicate n N)) ∧ N.cells.size = e := by
 obtain ⟨ql, qq⟩ := pG hM h hz
 have O : N.cells.size = e := by rw [← W]; simpa using hz.cells.1.symm
 have J : ∀ u ∈ List.replicate n N, u.cells.size = e := fun u H => by rw [(yj2.1 H).2]; exact O
 have hfl := f9 J
 have U : ∀ (i : Nat) (x : PV) (c : Nat) (y : PV), (List.replicate n q.2.1)[i]? = some x → x.cells[c]? = some y → ∃ u, (flat (List.replicate n N))[i * e + c]? = some u ∧ PR w (G.prot q.1) y u ∧ u.oneCell' = true := by
  intro i x c y K Y
  rw [yw1] at K
  split at K
  ·rename_i hi
   obtain rfl := ya K
   have hce : c < e := by rw [← W, ← ql]; exact (yd.1 Y).1
   obtain ⟨u, H, M, I⟩ := qq c y Y
   refine ⟨u, by rw [pA J (u := N) (by rw [yw1, if_pos hi]) hce]; exact H, M.mono (fun B o V => ?_) (fun _ _ _ => rfl), I⟩
   rcases V with V | ⟨b, V, _⟩
   ·exact V
   ·rw [hq] at V; simp at V
  ·simp at K
 refine ⟨⟨by simp only [aI.len, aI.e]; rw [hfl]; simp, fun u H => ?_, fun x K => by rw [(yj2.1 K).2, ql, W], fun i x c y K Y => ?_⟩, O⟩
 ·obtain ⟨v, hv, H⟩ := JM H
  rw [(yj2.1 hv).2] at H
  obtain ⟨j, hj, rfl⟩ := yt1 H
  have Z : j < q.2.1.cells.length := by rw [ql, W, ← O]; simpa using hj
  obtain ⟨u, H, _, I⟩ := qq j _ (yf Z)
  rw [yf hj] at H
  rw [ya H]; exact I
 ·obtain ⟨u, H, M, _⟩ := U i x c y K Y
  exact ⟨u, H, M⟩
theorem K5 {t tx ty : TypeId} {rs : Nat} {n : Int} {kn : IntKind} (hM : aF G w mem) (hrs : mem[rs]? = some none) (h : Cj P t tx mem rs n = some out) :
  ∃ U W cv, (Builtin.append_ #[t, tx] ty #[.slice none 0 0, .int kn n]).run P w = .ok cv W ∧ VR U W out.v cv ∧ c8 G U ∧ Ev G w W ∧ aF U W (out.apply mem) := by
 unfold Cj at h
 split at h
 ·rename_i kx hkx
  rw [bind_some] at h; obtain ⟨K, het, h⟩ := h
  rw [bind_some] at h; obtain ⟨z, hz, h⟩ := h
  split at h
  ·rw [bind_some] at h; obtain ⟨q, hq, h⟩ := h
   rw [bind_some] at h; obtain ⟨e, Y, h⟩ := h
   rw [bind_some] at h; obtain ⟨bytes, M, h⟩ := h
   rw [aA] at h; obtain ⟨hg, h⟩ := h
   simp only [yb, decide_eq_true_eq] at hg
   obtain ⟨⟨g0, O⟩, ⟨⟨V, g2⟩, g3⟩, g4⟩ := hg
   have O := cX.1 O; have V := cX.1 V; have g2 := cX.1 g2; have g3 := bJ.1 g3; have g4 := mW g4
   obtain rfl := ya h
   obtain ⟨i, H, hi, hzv, hov⟩ := jV hz
   have hzr : VR G w z H := kX hov
   obtain ⟨m, rfl⟩ : ∃ m : Nat, n = (m : Int) := ⟨n.toNat, by omega⟩
   rw [ym3] at O ⊢
   obtain ⟨hv, N⟩ := Gi (n := m) hM hq hzr g3 V g4
   have his : i.size = e := by unfold iR at Y; rw [hi] at Y; simpa using Y
   have hib : i.bytes ≤ 4096 := by unfold jI at M; rw [hi] at M; simp at M; omega
   have hfit := vP O hib
   have I := Lib.run_append_nil_zeros (P := P) w t tx ty K i H kn kx (mG het) hkx hi hzv m (by omega) (by omega) (by unfold bA at O; omega) (by omega)
   have Z := i5 H.cells (by omega) m
   have hc : Builtin.zeroCells H.cells m = (flat (List.replicate m H)).toArray := by
    rw [← yf2 (xs := Builtin.zeroCells H.cells m), e6, ← Z]
    rfl
   have J : m ≤ grownCap w m 0 K := grownCap_ge w _ _ _
   rw [hc] at I
   have hMd := hM.ev (Ev.drew G w) (.inl rfl) (fun B _ => rfl)
   have hvd : bF G w.drew (Row.pvs q.1 e (List.replicate m q.2.1)).all (flat (List.replicate m H)) := hv.mono (c8.refl G) (Ev.drew G w)
   obtain ⟨U, rfl, hg', hev, hM', hl⟩ := FP (row := .pvs q.1 e (List.replicate m q.2.1)) (vs := flat (List.replicate m H)) (rest := Builtin.zeroCells H.cells (grownCap w m 0 K - m)) (t := K) hMd hrs V rfl hvd
   have hfl : (flat (List.replicate m H)).length = m * e := by
    rw [f9 (e := e) (us := List.replicate m H) (fun u hu => by rw [(yj2.1 hu).2]; exact N)]; simp
   refine ⟨_, _, _, I, ?_, hg', (Ev.drew G w).trans (c8.refl G) hev, by simpa [dD.apply, aJ] using hM'⟩
   generalize grownCap w m 0 K = C at J I ⊢
   have hk : VR (G.put rs 0 ⟨some w.drew.heap.size, (Row.pvs q.1 e (List.replicate m q.2.1)).e, (Row.pvs q.1 e (List.replicate m q.2.1)).len⟩) (w.drew.alloc (.cells ((flat (List.replicate m H)).toArray ++ Builtin.zeroCells H.cells (C - m)) K)) (.msw rs 0) (.slice (some ⟨w.heap.size, 0, none⟩) m C) := by
    have := VR.msw (G := G.put rs 0 ⟨some w.drew.heap.size, (Row.pvs q.1 e (List.replicate m q.2.1)).e, (Row.pvs q.1 e (List.replicate m q.2.1)).len⟩) (w := w.drew.alloc (.cells ((flat (List.replicate m H)).toArray ++ Builtin.zeroCells H.cells (C - m)) K)) rs 0 C _ w.drew.heap.size (Gh.put_self ..) rfl (by simp [Row.len]; exact J) (fun j hj => by
     rw [jJ]
     simp only [Row.e] at hj
     have hjs : j < ((flat (List.replicate m H)).toArray ++ Builtin.zeroCells H.cells (C - m)).size := by
      simp only [Array.size_append, List.size_toArray, size_zeroCells, hfl, N]
      rw [← yk1]
      exact yh1 hj (yz1 _ (by omega))
     rw [yl1 hjs]; rfl)
    simpa [Row.len] using this
   exact hk
  ·cases h
 ·cases h
theorem FH {boxed vars : Bool} {b : Builtin} {ts : Array TypeId} {ty : TypeId} {consts : Array Bool} {rs : Nat} {args : List AV} {vs : Array Value} (hM : aF G w mem) (U : b = .append → mem[rs]? = some none)
  (h : d4 P boxed vars b ts.toList mem rs args = some out) (I : m8 G w args vs) :
  ∃ s : Sem Value, builtin b ts ty consts vs = (do pure (Next.value (← s))) ∧ ∃ Z V cv, s.run P w = .ok cv V ∧ VR Z V out.v cv ∧ c8 G Z ∧ Ev G w V ∧ aF Z V (out.apply mem) := by
 have W : ∀ j, vs.getD j undef = vs.toList.getD j undef := fun j => (eA vs j).symm
 unfold d4 at h
 split at h
 ·rename_i t x K
  obtain ⟨n, hn, rfl⟩ := yc.1 h
  have H : ts = #[t] := by rw [← K, yf2]
  obtain ⟨x', rfl⟩ := Pd I.1.symm
  have J := I.2 0 x rfl
  simp at J
  subst H
  exact ⟨_, rfl, G, w, _, IN hM hn J, .lit _ rfl, c8.refl G, Ev.refl G w, by simpa [dD.apply, aJ] using hM⟩
 ·rename_i t Y kn n K
  have H : ts = #[t, Y] := by rw [← K, yf2]
  obtain ⟨x', y', rfl⟩ := Pr I.1.symm
  have J := I.2 0 _ rfl
  have M := I.2 1 _ rfl
  simp at J M
  obtain rfl := J.lit_inv
  obtain rfl := M.lit_inv
  subst H
  exact ⟨_, rfl, K5 hM (U rfl) h⟩
 ·rename_i t Y x y hno K
  have H : ts = #[t, Y] := by rw [← K, yf2]
  obtain ⟨x', y', rfl⟩ := Pr I.1.symm
  have J := I.2 0 x rfl
  have M := I.2 1 y rfl
  simp at J M
  subst H
  exact ⟨_, rfl, Ga hM (U rfl) h J M⟩
 ·rename_i t K
  have H : ts = #[t] := by rw [← K, yf2]
  obtain ⟨x', rfl⟩ := Pd I.1.symm
  have J := I.2 0 _ rfl
  simp at J
  obtain rfl := J.lit_inv
  subst H
  split at h
  ·rename_i et hu
   obtain rfl := ya h
   exact ⟨_, rfl, G, w, .int .i64 0, by simp [Builtin.cap_, run_underlying hu, goInt], .lit _ rfl, c8.refl G, Ev.refl G w, by simpa [dD.apply, aJ] using hM⟩
  ·cases h
 ·rename_i k a r
  obtain ⟨v, O, rfl⟩ := yc.1 h
  have J := I.2 0 _ rfl
  obtain ⟨x', N, hvs⟩ : ∃ x' N, vs.toList = x' :: N := by
   cases hh : vs.toList with
   | nil => have := I.1; rw [← yu1, hh] at this; simp at this
   | cons x' N => exact ⟨x', N, rfl⟩
  rw [W, hvs] at J
  obtain rfl := J.lit_inv
  have := sZ (P := P) (G := G) (w := w) (op := Builtin.min2) (f := ON k) (k := k) (fun a b => by simp [Builtin.min2, ON, Bool.cond_decide]) O
   ⟨by have := I.1; rw [← yu1, hvs] at this; simpa using this, fun j y M => by have := I.2 (j + 1) y (by simpa using M); rw [W, hvs] at this; simpa using this⟩
  refine ⟨_, rfl, G, w, .int k v, ?_, .lit _ rfl, c8.refl G, Ev.refl G w, by simpa [dD.apply, aJ] using hM⟩
  simp only [Builtin.min_, hvs]
  exact this
 ·rename_i k a r
  obtain ⟨v, O, rfl⟩ := yc.1 h
  have J := I.2 0 _ rfl
  obtain ⟨x', N, hvs⟩ : ∃ x' N, vs.toList = x' :: N := by
   cases hh : vs.toList with
   | nil => have := I.1; rw [← yu1, hh] at this; simp at this
   | cons x' N => exact ⟨x', N, rfl⟩
  rw [W, hvs] at J
  obtain rfl := J.lit_inv
  have := sZ (P := P) (G := G) (w := w) (op := Builtin.max2) (f := OS k) (k := k) (fun a b => by simp [Builtin.max2, OS, Bool.cond_decide]) O
   ⟨by have := I.1; rw [← yu1, hvs] at this; simpa using this, fun j y M => by have := I.2 (j + 1) y (by simpa using M); rw [W, hvs] at this; simpa using this⟩
  refine ⟨_, rfl, G, w, .int k v, ?_, .lit _ rfl, c8.refl G, Ev.refl G w, by simpa [dD.apply, aJ] using hM⟩
  simp only [Builtin.max_, hvs]
  exact this
 ·simp at h
theorem aF.sameCells {G : Gh} {w H : World} {mem : aH} (hM : aF G w mem) (J : Ev G w H) (I : ∀ B o, cl H B o = cl w B o) (hs : H.heap.size = w.heap.size) (W : ∀ B, fR w B → fR H B) : aF G H mem where
 box b x h := by
  have Z := hM.box b x h
  obtain ⟨o, Y, hm⟩ := Z.loc
  refine ⟨Z.e, o, Y, ?_⟩
  cases o with
  | none => exact hm
  | some B =>
   obtain ⟨O, U, M, V, N⟩ := hm
   exact ⟨O, by rw [hs]; exact U, W B M, V.mono (c8.refl G) J (fun o _ => I B o) (fun i c B' K => ⟨⟨I B', W B'⟩, (hM.inn h ⟨_, Y, rfl⟩ K).2.2.2⟩), N⟩
 unset := hM.unset
 gens := hM.gens
 apart := hM.apart
 inA b b' x x' B i c B' h k K h' := hM.inA b b' x x' B i c B' h k (K.same (I B)) h'
 inB b b' x x' B C i c i' c' B' h k K h' k' hi' := hM.inB b b' x x' B C i c i' c' B' h k (K.same (I B)) h' k' (hi'.same (I C))
 own B h := hM.own B (by rw [← hs]; exact h)
 lab := hM.lab
 away β B o h := by rw [hs]; exact hM.away β B o h
 glob := hM.glob.mono (fun _ _ h => h) (J.prot true)
theorem OI {w : World} {B : Nat} (N : fR w B) :
  ∃ H, (∀ k, (markStringish ⟨B, k, none⟩).run P w = .ok () H) ∧ (∀ B' o, cl H B' o = cl w B' o) ∧ H.heap.size = w.heap.size ∧ H.output = w.output ∧ H.os = w.os ∧ H.tape = w.tape ∧ (∀ B', B' ≠ B → H.heap[B']? = w.heap[B']?) ∧
   (∀ B', fR w B' → fR H B') := by
 obtain ⟨c, el, J, K, M, hr⟩ := N
 refine ⟨w.freeze ⟨B, c.size, none⟩ 1, fun k => ?_, ?_⟩
 ·simp [markStringish, World.shape?, M]
 have O : (w.freeze ⟨B, c.size, none⟩ 1).heap[B]? = some (.cells c el (if J == K then (c.size, c.size + 1) else (min J c.size, max K (c.size + 1)))) := by
  unfold World.freeze
  rw [if_neg (by decide)]
  simp only [yt2, if_true, M, yg]
 have I : ∀ B', B' ≠ B → (w.freeze ⟨B, c.size, none⟩ 1).heap[B']? = w.heap[B']? := fun B' e => by
  unfold World.freeze
  rw [if_neg (by decide)]
  simp only [yt2]
  rw [if_neg (fun h => e h.symm)]
 have U : (w.freeze ⟨B, c.size, none⟩ 1).heap.size = w.heap.size := by
  unfold World.freeze
  rw [if_neg (by decide)]
  simp
 refine ⟨fun B' o => ?_, U, rfl, rfl, rfl, I, fun B' N => ?_⟩
 ·by_cases e : B' = B
  ·subst e; unfold cl World.cell?; simp [O, M]
  ·exact cG (I B' e) o
 ·by_cases e : B' = B
  ·subst e
   by_cases h : J = K
   ·exact ⟨c, el, c.size, c.size + 1, by rw [O]; simp [h], .inr (yy _)⟩
   ·have V : c.size ≤ J := hr.resolve_left h
    exact ⟨c, el, min J c.size, max K (c.size + 1), by rw [O]; simp [h], .inr (by omega)⟩
  ·exact N.of_heap (I B' e)
theorem Ea {boxed : Bool} {J dst : TypeId} {rs : Nat} {x : AV} {cv : Value} (hM : aF G w mem) (h : k8 P boxed J dst mem rs x = some out) (hx : VR G w x cv) :
  ∃ N I r, (convert J dst cv).run P w = .ok r I ∧ VR N I out.v r ∧ c8 G N ∧ Ev G w I ∧ aF N I (out.apply mem) := by
 have still : ∀ {o : dD} {r : Value}, o.wr = [] → o.push = [] → (convert J dst cv).run P w = .ok r w → VR G w o.v r →
   ∃ N I r, (convert J dst cv).run P w = .ok r I ∧ VR N I o.v r ∧ c8 G N ∧ Ev G w I ∧ aF N I (o.apply mem) :=
  fun h1 h2 hr hv => ⟨G, w, _, hr, hv, c8.refl G, Ev.refl G w, by simp only [dD.apply, h1, h2, aJ, yg1]; exact hM⟩
 unfold k8 at h
 split at h
 ·rename_i k1 k n kk hs W
  obtain rfl := ya h
  obtain rfl := hx.lit_inv
  exact still rfl rfl (by simp [convert, run_underlying hs, run_underlying W, Conv.intToInt]) (.lit _ rfl)
 ·rename_i s hs W
  obtain rfl := ya h
  obtain rfl := hx.lit_inv
  exact still rfl rfl (by simp [convert, run_underlying hs, run_underlying W]) (.lit _ rfl)
 ·rename_i e hs W
  split at h
  ·rename_i he
   rw [bind_some] at h; obtain ⟨v, hv, h⟩ := h
   rw [aA] at h; obtain ⟨hg, h⟩ := h
   simp only [yb] at hg
   obtain ⟨vw, rd⟩ := v
   simp only at h hv
   split at h
   ·rename_i xs
    obtain rfl := ya h
    have ht : iR P e = some 1 := by
     have := hg.2
     split at this
     ·assumption
     ·simp at this
    exact still rfl rfl (H1 hM hs he W hv ht hg.1 hx) (.lit _ rfl)
   ·simp at h
  ·simp at h
 ·rename_i e0 e b g hs W
  split at h
  ·rename_i he
   rw [aA] at h; obtain ⟨V, h⟩ := h
   rw [bind_some] at h; obtain ⟨bx, hbx, h⟩ := h
   rw [aA] at h; obtain ⟨h1, h⟩ := h
   obtain rfl := ya h
   have V := bJ.1 V
   have h1 := cX.1 h1
   have K := box?_some hbx
   obtain ⟨o, hl, hm⟩ := (hM.box b bx K.1).loc
   rw [K.2] at hl
   have U : ∃ B cap, cv = .slice (some ⟨B, 0, none⟩) bx.row.len cap ∧ G.mine B ∧ fR w B := by
    cases hx with
    | msw _ _ cap L B H hb hn hf =>
     rw [hl] at H
     obtain rfl := ya H
     simp only at hb; subst hb
     exact ⟨B, cap, rfl, hm.1, hm.2.2.1⟩
    | mswNil _ _ L H hb hn =>
     rw [hl] at H
     obtain rfl := ya H
     simp only at hn; omega
   obtain ⟨B, cap, rfl, M, hF⟩ := U
   obtain ⟨w1, Y, hc, hsz, ho, hos, htp, hne, Z⟩ := OI (P := P) hF
   have O : Ev G w w1 := ⟨by rw [hsz]; exact yy _, ho, hos, fun B' _ hn => hne B' (fun e => hn (by rw [e]; exact M)), fun B' j hs => by rw [hc]; exact hs, fun _ B' j _ => hc B' j,
    fun B' j hj => by
     by_cases e : B' = B
     ·subst e; rw [hF.cell hj, (Z _ hF).cell (by rw [hc]; exact hj)]
     ·exact s6 (hne B' e) j, htp⟩
   refine ⟨G, w1, _, ?_, hx.mono (c8.refl G) O, c8.refl G, O, by simp only [dD.apply, aJ, yg1]; exact hM.sameCells O hc hsz Z⟩
   subst V
   simp [convert, run_underlying hs, run_underlying he, Y] <;> simp_all [run_underlying]
  ·simp at h
 ·simp at h
end
end Go.Ab
end
section
namespace Go.Ab
variable [b4]
section
variable {P : Program}
variable {G : Gh} {w : World} {mem : aH} {o : Oper} {a : Act} {out : dD}
theorem JZ {c x y r : AV} {J H M : Value} (h : Gn c x y = some r) (N : VR G w c J) (I : VR G w x H) (K : VR G w y M) :
  ∃ t, J = .bool t ∧ VR G w r (if t then H else M) := by
 unfold Gn at h
 split at h
 ·rename_i t
  obtain rfl := N.lit_inv
  refine ⟨t, rfl, ?_⟩
  split at h
  ·obtain rfl := ya h
   obtain rfl := I.lit_inv
   obtain rfl := K.lit_inv
   cases t <;> exact .lit _ rfl
  ·cases t with
   | true => simp only [yl] at h; obtain rfl := ya h; exact I
   | false => simp only [yk] at h; obtain rfl := ya h; exact K
 ·simp at h
theorem BB {x : Operand} (h : jP x = true) : x = .const (.slice none 0 0) := by
 unfold jP at h
 split at h
 ·rfl
 ·cases h
theorem zW {t : TypeId} {p : PV} (h : qB P t = some p) : (∃ k, p = .ints k []) ∨ ∃ e, p = .sl e [] ∧ 1 ≤ e := by
 unfold qB at h
 rw [bind_some] at h; obtain ⟨et, _, h⟩ := h
 split at h
 ·rename_i k _; exact .inl ⟨k, (ya h).symm⟩
 ·rw [bind_some] at h; obtain ⟨e, _, h⟩ := h
  rw [aA] at h
  exact .inr ⟨e, (ya h.2).symm, cX.1 h.1⟩
theorem Fu {boxed vars : Bool} {ρ : Operand → Option AV} {rs : Nat} {t : TypeId} {x : Operand} (hM : aF G w mem) (U : jP x = true → mem[rs]? = some none) (hρ : Nn G w ρ a)
  (J : execOp a.eval o = pure (Next.value (a.eval x))) (h : sO P boxed vars ρ t rs x = some out) : n8 P G w mem o a out := by
 unfold sO at h
 cases K : (jP x && boxed && !vars) with
 | true =>
  rw [K] at h; simp only [yl] at h
  simp only [yb] at K
  obtain rfl := BB K.1.1
  rw [bind_some] at h; obtain ⟨p, M, h⟩ := h
  obtain ⟨row, H, rfl⟩ := yc.1 h
  have hm := U rfl
  have O : rs < mem.length := by
   rcases yc2 rs mem.length with h | h
   ·exact h
   ·rw [ya1 h] at hm; cases hm
  have hr : 1 ≤ row.e ∧ row.len = 0 ∧ row.isCells = false := by
   rcases zW M with ⟨k, rfl⟩ | ⟨e, rfl, J⟩
   ·obtain rfl := ya H; exact ⟨yy _, rfl, rfl⟩
   ·obtain rfl := ya H; exact ⟨J, rfl, rfl⟩
  obtain ⟨W, hg, Y, N⟩ := BK (b := rs) (g' := 0) (row' := row) hM O (fun g _ => hM.unset rs g (fun y V => by rw [hm] at V; cases V)) hr.1 hr.2.1 hr.2.2
  refine jX.opW ⟨W, w, .value (a.eval (.const (.slice none 0 0))), _, by rw [J]; simp, .inl rfl, ?_, hg, Ev.refl G w, by simpa [dD.apply, aJ] using N⟩
  exact .mswNil rs 0 _ Y rfl hr.2.1
 | false =>
  rw [K] at h; simp only [yk] at h
  rw [bind_some] at h; obtain ⟨v, Z, h⟩ := h
  have I := hρ _ _ Z
  split at h
  ·cases boxed with
   | true => simp only [yl] at h; obtain rfl := ya h; exact n8.plain hM J rfl rfl I
   | false =>
    simp only [yk] at h
    obtain ⟨p, M, rfl⟩ := yc.1 h
    refine n8.plain hM J rfl rfl ?_
    rw [I.lit_inv]
    rcases zW M with ⟨k, rfl⟩ | ⟨e, rfl, _⟩
    ·exact .imm _ _ _ (.intsNil k _) rfl
    ·exact .imm _ _ _ (.slNil e _) rfl
  ·obtain rfl := ya h; exact n8.plain hM J rfl rfl I
theorem Ie {ρ : Operand → Option AV} {t : TypeId} {x ix : Operand} (hM : aF G w mem) (hρ : Nn G w ρ a)
  (he : execOp a.eval o = (do pure (Next.value (← Instr.index t (a.eval x) (a.eval ix))))) (h : oO P ρ t x ix = some out) : n8 P G w mem o a out := by
 unfold oO at h
 rw [bind_some] at h; obtain ⟨vx, hx, h⟩ := h
 rw [bind_some] at h; obtain ⟨vi, H, h⟩ := h
 have O := hρ _ _ hx
 have M := hρ _ _ H
 split at h
 ·rename_i cs k i
  split at h
  ·rename_i n e W
   rw [bind_some] at h; obtain ⟨ag, Y, h⟩ := h
   rw [bind_some] at h; obtain ⟨s, hs, h⟩ := h
   rw [aA] at h; obtain ⟨hg, h⟩ := h
   simp only [yb, yq, decide_eq_true_eq] at hg
   obtain ⟨⟨⟨N, V⟩, U⟩, hn⟩ := hg
   obtain rfl := bJ.1 V
   obtain ⟨v, hv, rfl⟩ := yc.1 h
   obtain ⟨cvs, hcv, K⟩ := O.agg_inv
   have Z := K.2 _ _ hv
   refine n8.still hM he rfl rfl (cv := cvs.getD i.toNat undef) ?_ Z
   rw [hcv, M.lit_inv]
   have I : i.toNat < cvs.size := by
    rw [← K.1]; exact (yd.1 hv).1
   have := IK (P := P) Y hs (cs := cvs) (o := i.toNat) w (.inr I)
   rw [N] at this
   simp only [yi2, if_false] at this
   simp only [Instr.index, asIntOf, Sem.run_bind, Sem.run_pure, Result.andThen_ok, run_underlying W, U, hn, and_self, if_true, eD hs, ye3, this]
  ·cases h
 ·rename_i s k i
  split at h
  ·rename_i W
   obtain ⟨b, J, rfl⟩ := yc.1 h
   refine n8.still hM he rfl rfl (cv := .int .u8 b) ?_ (.lit _ rfl)
   rw [O.lit_inv, M.lit_inv]
   obtain ⟨U, I, J⟩ := Bl J
   have hs : s[i.toNat]?.map (fun c : UInt8 => (c.toNat : Int)) = some b := by
    unfold e9 at J
    rw [yb1] at J
    rw [← J, yp1]
    by_cases H : i.toNat < s.size
    ·rw [getElem?_pos s _ H, getElem?_pos s.data _ H]; rfl
    ·rw [getElem?_neg s _ H, getElem?_neg s.data _ H]
   obtain ⟨c, hc, rfl⟩ := yc.1 hs
   simp only [Instr.index, asIntOf, Sem.run_bind, Sem.run_pure, Result.andThen_ok, run_underlying W, U, if_true, hc]
  ·cases h
 ·cases h
theorem MM {C : bQ} {boxed raw vars : Bool} {ρ : Operand → Option AV} {rs : Nat} (hM : aF G w mem) (Y : dY o.op = true → mem[rs]? = some none) (M : Nn G w ρ a)
  (hcall : ∀ {raw keep : Bool} {g : FuncId} {ts : List TypeId} {fi args ca : List AV} {out : dD} {fv av cv : Array Value}, yI P C raw keep g ts fi args ca mem = some out → m8 G w fi fv → m8 G w args av → m8 G w ca cv → Kt P G w mem g (fv ++ av ++ cv) out)
  (h : Ly P C boxed raw vars o ρ mem rs = some out) : n8 P G w mem o a out := by
 unfold Ly Ef Ac Jy AB fH wM JE J1 Ni FG Bi wQ kV AR wH oR BU at h
 split at h
 ·rename_i x H
  exact Fu hM (fun hn => Y (by rw [H]; exact hn)) M (by simp only [execOp, H]) h
 ·rename_i x H
  exact Fu hM (fun hn => Y (by rw [H]; exact hn)) M (by simp only [execOp, H]) h
 ·rename_i c x y H
  rw [bind_some] at h; obtain ⟨vc, hc, h⟩ := h
  rw [bind_some] at h; obtain ⟨vx, U, h⟩ := h
  rw [bind_some] at h; obtain ⟨vy, hy, h⟩ := h
  obtain ⟨r, hr, rfl⟩ := yc.1 h
  obtain ⟨t, ht, O⟩ := JZ hr (M _ _ hc) (M _ _ U) (M _ _ hy)
  refine jX.opW ⟨G, w, _, _, ?_, .inl rfl, O, c8.refl G, Ev.refl G w, by simpa [dD.apply, aJ] using hM⟩
  simp only [execOp, H, ht, asBool]
  cases t <;> simp
 ·rename_i t H
  rw [bind_some] at h; obtain ⟨z, hz, h⟩ := h
  rw [aA] at h; obtain ⟨N, h⟩ := h
  simp only [yb] at N
  obtain rfl := ya h
  exact (Lm hM H (Y (by rw [H]; rfl)) hz (cX.1 N.1) N.2).opW
 ·rename_i t x H
  rw [bind_some] at h; obtain ⟨v, O, h⟩ := h
  rw [bind_some] at h; obtain ⟨n, hn, h⟩ := h
  rw [aA] at h; obtain ⟨N, h⟩ := h
  simp only [yb] at N
  obtain rfl := ya h
  exact (Ob hM H (Y (by rw [H]; rfl)) (M _ _ O) (bJ.1 N.1.1) (cX.1 N.1.2) N.2).opW
 ·rename_i t parts H
  rw [bind_some] at h; obtain ⟨ps, hps, h⟩ := h
  obtain ⟨v, O, rfl⟩ := yc.1 h
  obtain ⟨cv, J, I⟩ := Hg O (yU M hps)
  exact n8.still hM (by simp only [execOp, H] <;> rfl) rfl rfl J I
 ·rename_i t len parts H
  rw [bind_some] at h; obtain ⟨et, het, h⟩ := h
  rw [bind_some] at h; obtain ⟨z, hz, h⟩ := h
  rw [bind_some] at h; obtain ⟨s, hs, h⟩ := h
  rw [bind_some] at h; obtain ⟨ps, hps, h⟩ := h
  rw [aA] at h; obtain ⟨N, h⟩ := h
  rw [bind_some] at h; obtain ⟨wv, hwv, h⟩ := h
  rw [aA] at h; obtain ⟨hwe, h⟩ := h
  obtain ⟨ov, hov, rfl⟩ := yc.1 h
  exact n8.value (by simp only [execOp, H] <;> rfl) (CT hM (Y (by rw [H]; rfl)) het hz hs N hwv hwe hov (yU M hps))
 ·rename_i t x H
  rw [bind_some] at h; obtain ⟨v, O, h⟩ := h
  obtain ⟨r, rd, rfl, cv, J, I⟩ := B0 hM h (M _ _ O)
  exact n8.still hM (by simp only [execOp, H] <;> rfl) rfl rfl J I
 ·rename_i t x y H
  rw [bind_some] at h; obtain ⟨vx, U, h⟩ := h
  rw [bind_some] at h; obtain ⟨vy, hy, h⟩ := h
  obtain ⟨hov, G', w', J, N, hev, hM'⟩ := Hx hM h (M _ _ U) (M _ _ hy)
  refine jX.opW ⟨G', w', .skip, undef, ?_, .inr ⟨rfl, rfl⟩, by rw [hov]; exact .lit _ rfl, N, hev, hM'⟩
  simp only [execOp, H, Sem.run_bind, J, Result.andThen_ok, Sem.run_pure]
 ·rename_i x H
  rw [bind_some] at h; obtain ⟨v, O, h⟩ := h
  have I := M _ _ O
  split at h
  ·obtain rfl := ya h
   refine n8.plain hM (cv := a.eval x) ?_ rfl rfl I
   simp only [execOp, H]
   generalize a.eval x = cv at I
   cases I; simp only
  ·obtain rfl := ya h
   refine n8.plain hM (cv := a.eval x) ?_ rfl rfl I
   simp only [execOp, H]
   generalize a.eval x = cv at I
   cases I; simp only
  ·obtain rfl := ya h
   refine n8.plain hM (cv := a.eval x) ?_ rfl rfl I
   simp only [execOp, H]
   generalize a.eval x = cv at I
   cases I; simp only
  ·simp at h
 ·rename_i op t x y _ H
  rw [bind_some] at h; obtain ⟨vx, U, h⟩ := h
  rw [bind_some] at h; obtain ⟨vy, hy, h⟩ := h
  obtain ⟨r, hr, rfl⟩ := yc.1 h
  obtain ⟨cv, h1, h2, I⟩ := Nf (x := x) (y := y) hr (M _ _ U) (M _ _ hy)
  refine n8.still hM (s := do eqGuard op t x y (a.eval x) (a.eval y); binOp op t (a.eval x) (a.eval y)) (by simp only [execOp, H]) rfl rfl ?_ I
  simp only [Sem.run_bind, h1, Result.andThen_ok, h2]
 ·rename_i op _ x H
  rw [bind_some] at h; obtain ⟨vx, U, h⟩ := h
  split at h
  ·obtain ⟨r, hr, rfl⟩ := yc.1 h
   have hvx := (M _ _ U).lit_inv
   exact n8.still hM (by simp only [execOp, H] <;> rfl) rfl rfl (by rw [hvx]; exact Mb hr) (.lit _ (HJ hr))
  ·simp at h
 ·rename_i src dst x H
  rw [bind_some] at h; obtain ⟨vx, U, h⟩ := h
  exact n8.value (by simp only [execOp, H] <;> rfl) (Ea hM h (M _ _ U))
 ·rename_i fn first cap H
  rw [bind_some] at h; obtain ⟨fi, hfi, h⟩ := h
  obtain ⟨ca, hca, rfl⟩ := yc.1 h
  have h1 := AS M hfi
  have h2 := AS M hca
  exact n8.still hM (by simp only [execOp, H] <;> rfl) rfl rfl (cv := .func fn (first.map a.eval) (cap.map a.eval)) (by simp [Instr.makeFunc]) (.fn fn fi ca _ _ h1.1 h2.1 h1.2 h2.2)
 ·rename_i t l c H
  rw [bind_some] at h; obtain ⟨et, het, h⟩ := h
  rw [bind_some] at h; obtain ⟨z, hz, h⟩ := h
  rw [bind_some] at h; obtain ⟨vl, hl, h⟩ := h
  rw [bind_some] at h; obtain ⟨vc, hc, h⟩ := h
  split at h
  ·rename_i k1 n k2 n'
   rw [aA] at h; obtain ⟨N, h⟩ := h
   simp only [yb, beq_iff_eq, decide_eq_true_eq] at N
   obtain ⟨⟨hnn, hn0⟩, Z⟩ := N
   subst hnn
   have Z := cX.1 Z
   obtain ⟨i, zv, hi, hzv, hov⟩ := jV hz
   have hzr : VR G w z zv := kX hov
   have el := (M _ _ hl).lit_inv
   have ec := (M _ _ hc).lit_inv
   obtain ⟨m, rfl⟩ : ∃ m : Nat, n = (m : Int) := ⟨n.toNat, by omega⟩
   rw [ym3] at Z h
   refine n8.value (s := Instr.makeSlice t (.int k1 (m : Int)) (.int k2 (m : Int))) (by simp only [execOp, H, el, ec]) ?_
   have hr := Y (by rw [H]; rfl)
   split at h
   ·rename_i k hk
    rw [bind_some] at h; obtain ⟨e, he, h⟩ := h
    rw [bind_some] at h; obtain ⟨bytes, W, h⟩ := h
    rw [bind_some] at h; obtain ⟨zs, hzs, h⟩ := h
    rw [aA] at h; obtain ⟨N, h⟩ := h
    simp only [yb] at N
    obtain rfl := bJ.1 N.1
    have hb := cX.1 N.2
    obtain ⟨O, hsz⟩ := La (n := m) hzs hzr
    exact vQ hM hr (mG het) hi hzv (by unfold iR at he; rw [hi] at he; simpa using he) (yy _) (by unfold jI at W; rw [hi] at W; simp at W; omega) Z hsz O (by simp [aI.len]) rfl h
   ·rw [bind_some] at h; obtain ⟨q, hq, h⟩ := h
    rw [bind_some] at h; obtain ⟨e, he, h⟩ := h
    rw [bind_some] at h; obtain ⟨bytes, W, h⟩ := h
    rw [aA] at h; obtain ⟨N, h⟩ := h
    simp only [yb] at N
    obtain ⟨⟨⟨g1, g2⟩, g3⟩, g4⟩ := N
    have g1 := cX.1 g1; have g2 := cX.1 g2; have g3 := bJ.1 g3; have g4 := mW g4
    obtain ⟨O, hsz⟩ := Gi (n := m) hM hq hzr g3 g1 g4
    exact vQ hM hr (mG het) hi hzv (by unfold iR at he; rw [hi] at he; simpa using he) g1 (by unfold jI at W; rw [hi] at W; simp at W; omega) Z hsz O (by simp [aI.len]) rfl h
  ·simp at h
 ·rename_i t x lo hi mx H
  rw [bind_some] at h; obtain ⟨vx, U, h⟩ := h
  rw [bind_some] at h; obtain ⟨vl, hl, h⟩ := h
  rw [bind_some] at h; obtain ⟨vh, hh, h⟩ := h
  rw [bind_some] at h; obtain ⟨vm, hm, h⟩ := h
  obtain ⟨h1, h2, cv, J, I⟩ := Ha hM h (M _ _ U) (l8 M hl) (l8 M hh) (l8 M hm)
  exact n8.still hM (by simp only [execOp, H] <;> rfl) h1 h2 J I
 ·rename_i s x f H
  rw [bind_some] at h; obtain ⟨vx, U, h⟩ := h
  rw [bind_some] at h; obtain ⟨q, hq, h⟩ := h
  have I := M _ _ U
  split at h
  ·rename_i b g i c
   obtain rfl := ya h
   generalize V : a.eval x = cv at I
   cases I with
   | ptr _ _ _ _ L B hl hb =>
    refine n8.still hM (by simp only [execOp, H] <;> rfl) rfl rfl (by rw [V]; exact B4 hq B _ w) ?_
    rw [yc3]
    exact .ptr b g i (c + q.1) L B hl hb
  ·rename_i β p c
   obtain rfl := ya h
   generalize V : a.eval x = cv at I
   cases I with
   | el _ _ _ B o cv hh hr =>
    refine n8.still hM (by simp only [execOp, H] <;> rfl) rfl rfl (by rw [V]; exact B4 hq B _ w) ?_
    rw [yc3]
    exact .el β p (c + q.1) B o cv hh hr
  ·simp at h
 ·rename_i s x f H
  rw [bind_some] at h; obtain ⟨vx, U, h⟩ := h
  rw [bind_some] at h; obtain ⟨q, hq, h⟩ := h
  split at h
  ·rename_i cs
   rw [bind_some] at h; obtain ⟨ag, hag, h⟩ := h
   have key : ∃ v, (bif ag then guardB (Nat.ble (q.1 + q.2.1) cs.length) (some (AV.agg ((cs.drop q.1).take q.2.1))) else cs[q.1]?) = some v ∧ out = { v } := by
    cases ag with
    | true =>
     simp only [yl] at h ⊢
     rw [aA] at h; obtain ⟨N, h⟩ := h
     exact ⟨_, by rw [N]; rfl, (ya h).symm⟩
    | false =>
     simp only [yk] at h ⊢
     obtain ⟨v, O, rfl⟩ := yc.1 h
     exact ⟨v, O, rfl⟩
   obtain ⟨v, O, rfl⟩ := key
   obtain ⟨cv, J, I⟩ := HD hq hag (M _ _ U) O
   exact n8.still hM (by simp only [execOp, H] <;> rfl) rfl rfl J I
  ·simp at h
 ·rename_i t x ix H
  rw [bind_some] at h; obtain ⟨vx, U, h⟩ := h
  rw [bind_some] at h; obtain ⟨vi, hi, h⟩ := h
  split at h
  ·rename_i k i
   have ei := (M _ _ hi).lit_inv
   obtain ⟨v, rd, rfl, cv, J, I⟩ := In (k := k) hM h (M _ _ U)
   exact n8.still hM (by simp only [execOp, H] <;> rfl) rfl rfl (by rw [ei]; exact J) I
  ·simp at h
 ·rename_i t x ix H
  exact Ie hM M (by simp only [execOp, H] <;> rfl) h
 ·rename_i t ix H
  rw [bind_some] at h; obtain ⟨vt, ht, h⟩ := h
  split at h
  ·rename_i vs
   obtain ⟨v, O, rfl⟩ := yc.1 h
   have I := M _ _ ht
   generalize V : a.eval t = cv at I
   cases I with
   | tup _ cvs hlen hh =>
    have hix : ix < cvs.size := by rw [← hlen]; exact (yd.1 O).1
    have := hh ix v O
    rw [yj, yl1 hix] at this
    refine n8.still hM (by simp only [execOp, H] <;> rfl) rfl rfl (cv := cvs[ix]) ?_ this
    rw [V]
    simp [Instr.extract, yl1 hix]
  ·simp at h
 ·rename_i c H
  rw [bind_some] at h; obtain ⟨args, hargs, h⟩ := h
  have hav := AS M hargs
  split at h
  ·rename_i b hc
   obtain ⟨s, hs, hh⟩ := FH (ty := o.type) (consts := c.args.map fun | .const _ => true | _ => false) hM (fun hb => Y (by rw [H]; subst hb; unfold dY; obtain ⟨cc, _, _⟩ := c; simp only at hc; subst hc; rfl)) h hav
   refine n8.value (s := s) ?_ hh
   rw [← hs]
   simp only [execOp, H, resolve, hc, invoke]
   rfl
  ·rename_i f hc
   rw [bind_some] at h; obtain ⟨fv, hf, h⟩ := h
   split at h
   ·rename_i g fi ca
    have I := M _ _ hf
    generalize V : a.eval f = cv at I
    cases I with
    | fn _ _ _ fvs cvs h1 h2 hff hcc =>
     obtain ⟨hen, hcl⟩ := hcall h ⟨h1, hff⟩ hav ⟨h2, hcc⟩
     intro K Q hK
     unfold Oper.wp
     have U : (execOp a.eval o).run P w = .ok (.enter g (fvs ++ c.args.map a.eval ++ cvs)) w := by
      simp only [execOp, H, resolve, hc, Deferred.ofValue, V, Sem.run_bind, Sem.run_pure, Result.andThen_ok, invoke]
      exact hen
     rw [U]
     refine Calls.mono hcl fun e w' he => ?_
     obtain ⟨G', cv, rfl, O, N, hev, hM'⟩ := he
     exact hK G' w' cv O N hev hM'
   ·simp at h
  ·simp at h
 ·simp at h
end
end Go.Ab
end
