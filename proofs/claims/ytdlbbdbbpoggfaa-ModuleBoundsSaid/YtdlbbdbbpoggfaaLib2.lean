/- The evaluator. -/
import Derived.Test.YtdlbbdbbpoggfaaLib1
import Derived.Laws.AppendOwn
import Derived.Deep.Upon
import Derived.Laws.MakeOwn
import Derived.Great.BuildSlice
import Derived.Laws.BytesString
import Derived.Laws.Cells
import Derived.Lib.AppendZeros
set_option linter.unusedVariables false
set_option linter.unusedSectionVars false
set_option linter.unusedSimpArgs false
section
namespace Go.Ab
variable [b4]
section
variable {P : Program}
def bF (G : Gh) (w : World) (v : aI) (vs : List Value) : Prop :=
 vs.length = v.len * v.e ∧ (∀ u ∈ vs, u.oneCell' = true) ∧
 match v with
 | .ints k xs => ∀ (i : Nat) (x : Int), xs[i]? = some x → vs[i]? = some (.int k x)
 | .pvs β e xs => (∀ x ∈ xs, x.cells.length = e) ∧ ∀ (i : Nat) (x : PV) (c : Nat) (y : PV), xs[i]? = some x → x.cells[c]? = some y → ∃ u, vs[i * e + c]? = some u ∧ PR w (G.prot β) y u
 | .avs e cs => cs.length = e * aN e cs.length ∧ ∀ (j : Nat) (y : AV), cs[j]? = some y → ∃ u, vs[j]? = some u ∧ VR G w y u
theorem oV (r : Row) : r.all.e = r.e := by cases r <;> rfl
theorem dP (r : Row) : r.all.len = r.len := by cases r <;> rfl
theorem mV (v : aI) : v.row.e = v.e := by cases v <;> rfl
theorem gS (v : aI) : v.row.len = v.len := by cases v <;> rfl
theorem lL (v : aI) : v.row.all = v := by cases v <;> rfl
theorem lU (v : aI) : v.row.isOwn = false := by cases v <;> rfl
theorem gB {e n : Nat} (he : 1 ≤ e) (k : Nat) : aN e (k * e) = k := by
 unfold aN
 have I : Nat.beq e 0 = false := by
  cases e with
  | zero => omega
  | succ e => rfl
 rw [I]; simp only [yk]
 cases H : Nat.beq e 1 with
 | true => rw [Nat.eq_of_beq_eq_true H]; simp
 | false => simp only [yk]; exact Nat.mul_div_cancel k (by omega)
theorem gI.toList {G : Gh} {w : World} {B : Nat} {r : Row} (he : 1 ≤ r.e) (ho : r.isOwn = false) (h : gI G w B r) :
  ∃ vs : List Value, bF G w r.all vs ∧ ∀ j, j < vs.length → cl w B j = vs[j]? := by
 cases r with
 | ints k xs =>
  refine ⟨xs.map (.int k), ⟨by simp [aI.len, aI.e, Row.all], by simp [Value.oneCell'], fun i x U => by simp [U]⟩, fun j H => ?_⟩
  simp at H
  rw [h j xs[j] (yf H)]; simp [H]
 | pvs β e xs =>
  obtain ⟨K, M⟩ := h
  have N : ∀ j, j < xs.length * e → ∃ v, cl w B j = some v ∧ v.oneCell' = true := by
   intro j H
   have Z : j / e < xs.length := by rw [Nat.div_lt_iff_lt_mul (by simp [Row.e] at he; omega)]; exact H
   have hc : j % e < (xs[j / e]).cells.length := by rw [K _ (yr2 _)]; exact Nat.mod_lt _ (by simp [Row.e] at he; omega)
   obtain ⟨v, I, J, _⟩ := M (j / e) (xs[j / e]) (j % e) ((xs[j / e]).cells[j % e]) (yf _) (yf _)
   rw [show j / e * e + j % e = j by rw [yk2]; exact Nat.div_add_mod j e] at I
   exact ⟨v, I, J⟩
  refine ⟨(List.range (xs.length * e)).map (fun j => (cl w B j).getD undef), ⟨by simp [aI.len, aI.e, Row.all], ?_, K, ?_⟩, ?_⟩
  ·intro u W
   obtain ⟨j, H, rfl⟩ := yu2.1 W
   obtain ⟨v, I, J⟩ := N j (by simpa using H)
   rw [I]; exact J
  ·intro i x c y U O
   have Z := (yd.1 U).1
   have hc := (yd.1 O).1
   obtain ⟨v, I, _, V⟩ := M i x c y U O
   have Y : i * e + c < xs.length * e := by
    rw [K x (yt U)] at hc
    calc i * e + c < i * e + e := by omega
     _ = (i + 1) * e := by rw [yk1]; simp
     _ ≤ xs.length * e := yz1 _ Z
   exact ⟨v, by simp [Y, I], V⟩
  ·intro j H
   simp at H
   obtain ⟨v, I, _⟩ := N j H
   simp [H, I]
 | cells e cs =>
  obtain ⟨K, M⟩ := h
  refine ⟨(List.range cs.length).map (fun j => (cl w B j).getD undef), ⟨?_, ?_, K, ?_⟩, ?_⟩
  ·simp only [aI.len, aI.e, Row.all, ye1, List.length_range]
   rw [yk2]; exact K
  ·intro u W
   obtain ⟨j, H, rfl⟩ := yu2.1 W
   obtain ⟨v, I, J, _⟩ := M j (cs[j]'(by simpa using H)) (yf _)
   rw [I]; exact J
  ·intro j y O
   have H := (yd.1 O).1
   obtain ⟨v, I, _, V⟩ := M j y O
   exact ⟨v, by simp [H, I], V⟩
  ·intro j H
   simp at H
   obtain ⟨v, I, _⟩ := M j (cs[j]) (yf _)
   simp [H, I]
 | own e xs hs => cases ho
theorem gI.ofList {G : Gh} {w : World} {B : Nat} {r : Row} {vs : List Value} (O : r.isOwn = false) (h : bF G w r.all vs) (J : ∀ j u, vs[j]? = some u → cl w B j = some u) : gI G w B r := by
 obtain ⟨hl, N, h⟩ := h
 cases r with
 | ints k xs => exact fun i x M => J _ _ (h i x M)
 | pvs β e xs =>
  refine ⟨h.1, fun i x c y M K => ?_⟩
  obtain ⟨u, H, I⟩ := h.2 i x c y M K
  exact ⟨u, J _ _ H, N u (yt H), I⟩
 | cells e cs =>
  refine ⟨h.1, fun j y K => ?_⟩
  obtain ⟨u, H, I⟩ := h.2 j y K
  exact ⟨u, J _ _ H, N u (yt H), I⟩
 | own e xs hs => cases O
theorem bF.mono {G N : Gh} {w K : World} (M : c8 G N) (O : Ev G w K) {v : aI} {vs : List Value} (h : bF G w v vs) : bF N K v vs := by
 obtain ⟨U, V, h⟩ := h
 refine ⟨U, V, ?_⟩
 cases v with
 | ints k xs => exact h
 | pvs β e xs => exact ⟨h.1, fun i x c y W J => by obtain ⟨u, I, H⟩ := h.2 i x c y W J; exact ⟨u, I, H.mono (M.prot β) (O.prot β)⟩⟩
 | avs e cs => exact ⟨h.1, fun j y J => by obtain ⟨u, I, H⟩ := h.2 j y J; exact ⟨u, I, H.mono M O⟩⟩
theorem Oy {G : Gh} {w : World} {β : Bool} {t : TypeId} {p : PV} {c : Nat} {a : AV} (h : L4 P β t p c = some a) {cv : Nat → Value} (hr : ∀ j y, p.cells[j]? = some y → PR w (G.prot β) y (cv j)) :
  ∀ (j : Nat) (y : AV), a.cells[j]? = some y → VR G w y (cv (c + j)) ∧ ∃ q, p.cells[c + j]? = some q := by
 unfold L4 at h
 split at h
 ·rw [bind_some] at h; obtain ⟨ls, W, h⟩ := h
  rw [bind_some] at h; obtain ⟨n, hn, h⟩ := h
  rw [aA] at h; obtain ⟨Y, h⟩ := h
  rw [bind_some] at h; obtain ⟨as, J, h⟩ := h
  obtain rfl := ya h
  obtain ⟨K, U⟩ := mO (G := G) (w := w) J
  obtain ⟨N, O⟩ := U (fun j => cv (c + j)) (fun j y H _ => hr _ y H)
  intro j y H
  have H : as[j]? = some y := H
  exact ⟨O j y H, N j (by rw [← K]; exact (yd.1 H).1)⟩
 ·rw [bind_some] at h; obtain ⟨l, K, h⟩ := h
  rw [bind_some] at h; obtain ⟨q, M, h⟩ := h
  have V := pU (G := G) (w := w) h (hr c q M)
  intro j y H
  have I : a.cells = [a] := by
   unfold fT at h
   split at h <;> (rw [bind_some] at h; obtain ⟨x, _, h⟩ := h; obtain rfl := ya h; rfl)
  rw [I] at H
  cases j with
  | zero => simp at H; subst H; exact ⟨V, q, M⟩
  | succ j => simp at H
 ·simp at h
theorem BW {G : Gh} {w : World} {β : Bool} {t : TypeId} {e : Nat} : ∀ {xs : List PV} {cs : List AV} {vs : List Value}, Ea P t β e xs = some cs → vs.length = xs.length * e →
  (∀ (i : Nat) (x : PV) (c : Nat) (y : PV), xs[i]? = some x → x.cells[c]? = some y → ∃ u, vs[i * e + c]? = some u ∧ PR w (G.prot β) y u) → gW G w cs vs
 | [], cs, vs, h, J, _ => by
  simp [Ea] at h; subst h
  simp at J; subst J
  exact ⟨rfl, fun j y H => by simp at H⟩
 | p :: r, cs, vs, h, J, W => by
  simp only [Ea] at h
  rw [bind_some] at h; obtain ⟨v, hv, h⟩ := h
  rw [aA] at h; obtain ⟨U, h⟩ := h
  have U := bJ.1 U
  obtain ⟨Z, O, rfl⟩ := yc.1 h
  have I : vs.length = e + r.length * e := by rw [J]; simp [yk1, Nat.add_comm]
  have V := BW (G := G) (w := w) (vs := vs.drop e) O (by simp [I]) (fun i x c y hx H => by
   obtain ⟨u, K, M⟩ := W (i + 1) x c y (by simpa using hx) H
   refine ⟨u, ?_, M⟩
   rw [yz, show e + (i * e + c) = (i + 1) * e + c by rw [yk1]; omega]; exact K)
  have N := Oy (P := P) (G := G) (w := w) hv (cv := fun j => vs.getD j undef) (fun j y H => by
   obtain ⟨u, K, M⟩ := W 0 p j y rfl H
   simp only [yd3, yc1] at K
   rw [yi, K]; exact M)
  refine ⟨by rw [yi1, U, V.1]; simp; omega, fun j y H => ?_⟩
  by_cases Y : j < v.cells.length
  ·rw [yn Y] at H
   simpa using (N j y H).1
  ·rw [yu (by omega)] at H
   have := V.2 _ y H
   rw [yi, yz] at this
   rw [yi, show j = e + (j - v.cells.length) by omega]
   exact this
theorem Gp : ∀ {cs : List AV}, jB cs = true → ∀ v ∈ cs, H0 v = true
 | v :: r, h, u, H => by
  simp only [jB, yb] at h
  cases H with
  | head => exact h.1
  | tail _ H => exact Gp h.2 u H
theorem Ix {G : Gh} {w : World} {a : AV} {v : Value} (h : VR G w a v) (H : H0 a = true) : v.oneCell' = true := by
 cases h with
 | lit v hv => exact H
 | imm β p v I hs => cases I <;> first | rfl | simp [PV.isSl] at hs
 | dead v h h' => exact h
 | agg => simp [H0] at H
 | tup => simp [H0] at H
 | _ => rfl
theorem gW.ones {G : Gh} {w : World} {cs : List AV} {vs : List Value} (h : gW G w cs vs) (J : jB cs = true) : ∀ u ∈ vs, u.oneCell' = true := by
 intro u K
 obtain ⟨j, I, rfl⟩ := yt1 K
 have H : j < cs.length := by rw [h.1]; exact I
 have := h.2 j cs[j] (yf H)
 rw [yi, yf I] at this
 exact Ix this (Gp J _ (yr2 _))
theorem Cd {G : Gh} {w : World} {t : TypeId} {v : aI} {cs : List AV} {vs : List Value} (h : v.toAvs P t = some cs) (H : bF G w v vs) : gW G w cs vs := by
 obtain ⟨I, h1, H⟩ := H
 cases v with
 | ints k xs =>
  obtain rfl := ya h
  simp only [aI.len, aI.e, ye3] at I
  refine ⟨by simp [I], fun j y J => ?_⟩
  obtain ⟨x, hx, rfl⟩ : ∃ x, xs[j]? = some x ∧ AV.lit (.int k x) = y := by simpa using J
  rw [yi, H j x hx]; exact .lit _ rfl
 | pvs β e xs => exact BW h I H.2
 | avs e K =>
  obtain rfl := ya h
  simp only [aI.len, aI.e] at I
  refine ⟨by rw [I, yk2]; exact H.1, fun j y J => ?_⟩
  obtain ⟨u, N, M⟩ := H.2 j y J
  rw [yi, N]; exact M
theorem gW.append {G : Gh} {w : World} {a b : List AV} {u v : List Value} (h : gW G w a u) (J : gW G w b v) : gW G w (a ++ b) (u ++ v) := by
 refine ⟨by simp [h.1, J.1], fun j y H => ?_⟩
 by_cases I : j < a.length
 ·rw [yn I] at H
  rw [yi, yn (by rw [← h.1]; exact I), ← yi]; exact h.2 j y H
 ·rw [yu (by omega)] at H
  rw [yi, yu (by rw [← h.1]; omega), ← yi, ← h.1]; exact J.2 _ y H
theorem PR.weak {w : World} {G : Gh} (H : ∀ B o, G.prot false B o → G.prot true B o) {β β' : Bool} {p : PV} {v : Value} (h : PR w (G.prot β) p v) : PR w (G.prot (β || β')) p v := by
 cases β <;> cases β' <;> first | exact h | exact h.mono (fun _ _ x => H _ _ x) (fun _ _ _ => rfl)
theorem PR.weak' {w : World} {G : Gh} (H : ∀ B o, G.prot false B o → G.prot true B o) {β β' : Bool} {p : PV} {v : Value} (h : PR w (G.prot β) p v) : PR w (G.prot (β' || β)) p v := by
 rw [Bool.or_comm]; exact h.weak H
theorem Gl {G : Gh} {w : World} (O : ∀ B o, G.prot false B o → G.prot true B o) {t : TypeId} {x y z : aI} {vs us : List Value} (h : x.app P t y = some z) (I : bF G w x vs) (W : bF G w y us) :
  bF G w z (vs ++ us) ∧ z.e = x.e ∧ z.e = y.e ∧ z.len = x.len + y.len := by
 unfold aI.app at h
 split at h
 ·rename_i k xs k' Z
  rw [aA] at h; obtain ⟨hk, h⟩ := h
  rw [jL] at hk; subst hk
  obtain rfl := ya h
  obtain ⟨K, o1, V⟩ := I; obtain ⟨U, o2, y2⟩ := W
  simp only [aI.len, aI.e, ye3] at K U
  refine ⟨⟨by simp [aI.len, aI.e, K, U], fun u J => (yo1.1 J).elim (o1 u) (o2 u), fun i x I => ?_⟩, rfl, rfl, by simp [aI.len]⟩
  by_cases hi : i < xs.length
  ·rw [yn hi] at I; rw [yn (by omega)]; exact V i x I
  ·rw [yu (by omega)] at I; rw [yu (by omega), K]; exact y2 _ x I
 ·rename_i β e xs β' e' Z
  rw [aA] at h; obtain ⟨he, h⟩ := h
  obtain rfl := bJ.1 he
  obtain rfl := ya h
  obtain ⟨K, o1, V⟩ := I; obtain ⟨U, o2, y2⟩ := W
  simp only [aI.len, aI.e] at K U
  refine ⟨⟨by simp [aI.len, aI.e, K, U, yk1], fun u J => (yo1.1 J).elim (o1 u) (o2 u), fun x I => (yo1.1 I).elim (V.1 x) (y2.1 x), fun i x c y I W => ?_⟩, rfl, rfl, by simp [aI.len]⟩
  by_cases hi : i < xs.length
  ·rw [yn hi] at I
   obtain ⟨u, J, hp⟩ := V.2 i x c y I W
   exact ⟨u, by rw [yn (yd.1 J).1]; exact J, hp.weak O⟩
  ·rw [yu (by omega)] at I
   obtain ⟨u, J, hp⟩ := y2.2 _ x c y I W
   refine ⟨u, ?_, hp.weak' O⟩
   have e1 : i * e = xs.length * e + (i - xs.length) * e := by rw [← yk1]; congr 1; omega
   rw [yu (by rw [K, e1]; omega), K, show i * e + c - xs.length * e = (i - xs.length) * e + c by omega]; exact J
 ·rename_i e xs
  rw [bind_some] at h; obtain ⟨Z, hys, h⟩ := h
  rw [aA] at h; obtain ⟨hc, h⟩ := h
  obtain rfl := ya h
  simp only [yb] at hc
  obtain ⟨⟨hones, he⟩, Y⟩ := hc
  obtain rfl := bJ.1 he
  have Y := cU.1 Y
  have hL := Cd hys W
  obtain ⟨K, o1, V⟩ := I; obtain ⟨U, o2, y2⟩ := W
  replace K : vs.length = aN y.e xs.length * y.e := K
  have hcx : xs.length = aN y.e xs.length * y.e := by rw [yk2]; exact V.1
  have hcy : Z.length = y.len * y.e := by rw [hL.1]; exact U
  have M : (xs ++ Z).length = (aN y.e xs.length + y.len) * y.e := by rw [yi1, hcy, yk1]; omega
  have H : aN y.e (xs ++ Z).length = aN y.e xs.length + y.len := by rw [M]; exact gB (n := 0) Y _
  have hxv : gW G w xs vs := ⟨by rw [K]; exact hcx, fun j z hz => by obtain ⟨u, J, hp⟩ := V.2 j z hz; rw [yi, J]; exact hp⟩
  have N := hxv.append hL
  refine ⟨⟨?_, fun u J => (yo1.1 J).elim (o1 u) (o2 u), ?_, fun j z hz => ?_⟩, rfl, rfl, ?_⟩
  ·show (vs ++ us).length = aN y.e (xs ++ Z).length * y.e
   rw [H, ← M, N.1]
  ·rw [H, yk2]; exact M
  ·have hj : j < (vs ++ us).length := by rw [← N.1]; exact (yd.1 hz).1
   have := N.2 j z hz
   rw [yi, yf hj] at this
   exact ⟨_, yf hj, this⟩
  ·exact H
 ·simp at h
end
end Go.Ab
end
section
namespace Go.Ab
variable [b4]
section
variable {P : Program}
theorem Bn {e i c n : Nat} (hc : c < e) (H : i < n) : i * e + c < n * e := by
 calc i * e + c < i * e + e := by omega
  _ = (i + 1) * e := by rw [yk1]; simp
  _ ≤ n * e := yz1 _ H
theorem BT {e i c : Nat} (H : c < e) : (i * e + c) / e = i ∧ (i * e + c) % e = c := by
 constructor
 ·rw [yk2, Nat.mul_add_div (by omega), Nat.div_eq_of_lt H]; simp
 ·rw [yk2, Nat.mul_add_mod, Nat.mod_eq_of_lt H]
theorem IR {P : Program} (w : World) {size : Nat} {H J : TypeId} (I : P.underlying H = some (.slice J)) (a : Option Addr) : Src P size H (.slice a 0 0) 0 [] w := by
 cases a with
 | none => exact Src.ofNil w I 0
 | some a => exact Src.ofSlice w I a 0 0 [] (by simp) (fun j u K => by simp at K) (by simp)
theorem PR.view {w : World} {G : Gh} {β : Bool} {e : Nat} {xs : List PV} {cv : Value} (h : PR w (G.prot β) (.sl e xs) cv) :
  (xs = [] ∧ ∃ a, cv = .slice a 0 0) ∨ ∃ B o cap vs, cv = .slice (some ⟨B, o, none⟩) xs.length cap ∧ 1 ≤ e ∧ xs.length ≤ cap ∧ bF G w (.pvs β e xs) vs ∧ ∀ j u, vs[j]? = some u → cl w B (o + j) = some u ∧ G.prot β B (o + j) := by
 cases h with
 | slNil _ a => exact .inl ⟨rfl, a, rfl⟩
 | sl _ _ B o cap cv he M H h W hr =>
  have O : ∀ j, j < xs.length * e → ∃ x y, xs[j / e]? = some x ∧ x.cells[j % e]? = some y := by
   intro j J
   have V : j / e < xs.length := by rw [Nat.div_lt_iff_lt_mul (by omega)]; exact J
   have U : j % e < (xs[j / e]).cells.length := by rw [H _ (yr2 _)]; exact Nat.mod_lt _ (by omega)
   exact ⟨_, _, yf V, yf U⟩
  refine .inr ⟨B, o, cap, (List.range (xs.length * e)).map (fun j => cv (j / e) (j % e)), rfl, he, M, ⟨by simp [aI.len, aI.e], ?_, H, ?_⟩, ?_⟩
  ·intro u N
   obtain ⟨j, J, rfl⟩ := yu2.1 N
   obtain ⟨x, y, I, K⟩ := O j (by simpa using J)
   exact W _ x _ y I K
  ·intro i x c y I K
   have V := (yd.1 I).1
   have U := (yd.1 K).1
   rw [H x (yt I)] at U
   obtain ⟨Y, Z⟩ := BT (i := i) U
   exact ⟨cv i c, by simp [Bn U V, Y, Z], hr i x c y I K⟩
  ·intro j u N
   have J : j < xs.length * e := by have := (yd.1 N).1; simpa using this
   simp [J] at N; subst N
   obtain ⟨x, y, I, K⟩ := O j J
   have := h _ x _ y I K
   rw [show o + j / e * e + j % e = o + j by rw [yc3, yk2, Nat.div_add_mod]] at this
   exact this
theorem wA {G : Gh} {w : World} {r : Row} {o n : Nat} {v : aI} {vs : List Value} (he : 1 ≤ r.e) (h : r.sub o n = some v) (hr : bF G w r.all vs) :
  bF G w v ((vs.drop (o * r.e)).take (n * r.e)) ∧ v.e = r.e ∧ v.len = n ∧ o + n ≤ r.len := by
 obtain ⟨N, h1, hr⟩ := hr
 have K : ∀ u ∈ (vs.drop (o * r.e)).take (n * r.e), u.oneCell' = true := fun u V => h1 u (List.mem_of_mem_drop (yy2 V))
 cases r with
 | ints k xs =>
  simp only [Row.sub] at h
  rw [aA] at h; obtain ⟨H, h⟩ := h
  have H := cU.1 H
  obtain rfl := ya h
  simp only [Row.all, aI.len, aI.e, ye3] at N
  refine ⟨⟨by simp [aI.len, aI.e, Row.e, N], K, fun i x M => ?_⟩, rfl, by simp [aI.len]; omega, H⟩
  have U : i < n := by have := (yd.1 M).1; simp at this; omega
  rw [yf1 U, yz] at M
  simp only [Row.e, ye3]
  rw [yf1 U, yz]
  exact hr _ _ M
 | pvs β e xs =>
  simp only [Row.sub] at h
  rw [aA] at h; obtain ⟨H, h⟩ := h
  have H := cU.1 H
  obtain rfl := ya h
  simp only [Row.all, aI.len, aI.e] at N
  simp only [Row.e] at he
  have J : ((xs.drop o).take n).length = n := by simp; omega
  refine ⟨⟨?_, K, fun x M => hr.1 x (List.mem_of_mem_drop (yy2 M)), fun i x c y M O => ?_⟩, rfl, J, H⟩
  ·simp only [aI.len, aI.e, J, Row.e, yb3, List.length_drop, N]
   rw [← Nat.mul_sub_right_distrib]
   exact Nat.min_eq_left (yz1 _ (by omega))
  ·have U : i < n := by have := (yd.1 M).1; omega
   rw [yf1 U, yz] at M
   obtain ⟨u, V, Z⟩ := hr.2 _ x c y M O
   have hc := (yd.1 O).1
   rw [hr.1 x (yt M)] at hc
   refine ⟨u, ?_, Z⟩
   simp only [Row.e]
   rw [yf1 (Bn hc U), yz, show o * e + (i * e + c) = (o + i) * e + c by rw [yk1]; omega]
   exact V
 | cells e cs =>
  simp only [Row.sub] at h
  rw [aA] at h; obtain ⟨H, h⟩ := h
  have H := cU.1 H
  obtain rfl := ya h
  simp only [Row.e] at he
  have W : cs.length = aN e cs.length * e := by rw [yk2]; exact hr.1
  replace N : vs.length = aN e cs.length * e := N
  have Y : o + n ≤ aN e cs.length := by
   rw [W] at H
   exact Nat.le_of_mul_le_mul_right H (by omega)
  have J : ((cs.drop (o * e)).take (n * e)).length = n * e := by
   simp only [yb3, List.length_drop]; rw [yk1] at H; omega
  have I : aN e ((cs.drop (o * e)).take (n * e)).length = n := by rw [J]; exact gB (n := 0) he n
  refine ⟨⟨?_, K, ?_, fun j y O => ?_⟩, rfl, I, Y⟩
  ·show _ = aN e ((cs.drop (o * e)).take (n * e)).length * e
   rw [I]
   simp only [Row.e, yb3, List.length_drop, N]
   rw [← W]; rw [yk1] at H; omega
  ·rw [I, J, yk2]
  ·have hj : j < n * e := by have := (yd.1 O).1; omega
   rw [yf1 hj, yz] at O
   obtain ⟨u, V, Z⟩ := hr.2 _ y O
   refine ⟨u, ?_, Z⟩
   simp only [Row.e]
   rw [yf1 hj, yz]; exact V
 | own e xs hs => cases h
theorem FL (G : Gh) (w : World) (s : ByteArray) : bF G w (.ints .u8 (e4 s)) (byteCells s) := by
 refine ⟨by simp [aI.len, aI.e, e4, byteCells], fun u J => ?_, fun i x H => ?_⟩
 ·obtain ⟨b, _, rfl⟩ := yu2.1 J; rfl
 ·unfold e4 at H
  unfold byteCells
  rw [yb1] at H ⊢
  obtain ⟨b, I, rfl⟩ := yc.1 H
  rw [I]; rfl
theorem bF.unmark {G : Gh} {w : World} {β β' : Bool} {e : Nat} {xs : List PV} {vs : List Value} (M : xs.all Bq = true) (h : bF G w (.pvs β e xs) vs) : bF G w (.pvs β' e xs) vs := by
 refine ⟨h.1, h.2.1, h.2.2.1, fun i x c y J I => ?_⟩
 obtain ⟨u, O, N⟩ := h.2.2.2 i x c y J I
 refine ⟨u, O, ?_⟩
 have K := yr1.1 M x (yt J)
 have H := yr1.1 K y (yt I)
 cases y with
 | lit v =>
  cases N with
  | lit _ h => exact .lit _ h
 | ints _ _ => cases H
 | sl _ _ => cases H
 | agg _ => cases H
theorem bF.unmarkIf {G : Gh} {w : World} {c β : Bool} {e : Nat} {xs : List PV} {vs : List Value} (h : bF G w (.pvs β e xs) vs) : bF G w (.pvs (bif c && xs.all Bq then false else β) e xs) vs := by
 cases H : (c && xs.all Bq) with
 | false => exact h
 | true => exact h.unmark (yb _ _ ▸ H).2
theorem yT {G : Gh} {w : World} {mem : aH} {et tx : TypeId} {y : AV} {v : aI × List Nat} {cv : Value} (hM : aF G w mem) (h : view P et mem y = some v) (hy : VR G w y cv) (hs : iN P et = some v.1.e) (K : yQ P tx y = true) :
  ∃ news, Src P v.1.e tx cv v.1.len news w ∧ bF G w v.1 news := by
 have I : (∀ s, y ≠ .lit (.string s)) → ∃ e', P.underlying tx = some (.slice e') := by
  intro hne
  unfold yQ at K
  split at K
  ·rename_i s _; exact absurd rfl (hne s)
  ·simp at K
  ·exact ⟨_, by assumption⟩
  ·simp at K
 unfold view at h
 split at h
 ·rename_i β k xs
  obtain rfl := ya h
  obtain ⟨e', M⟩ := I (by simp)
  cases hy with
  | imm _ _ _ hp =>
   cases hp with
   | intsNil _ a => exact ⟨[], IR w M a, by simp [aI.len, aI.e], by simp, fun i x O => by simp at O⟩
   | ints _ _ B o cap hcap hh =>
    refine ⟨xs.map (.int k), Src.ofSlice w M ⟨B, o, none⟩ _ cap _ (by simp [aI.len, aI.e]) (fun j u U => ?_) (by simp [Value.oneCell']), by simp [aI.len, aI.e], by simp [Value.oneCell'], fun i x O => by simp [O]⟩
    obtain ⟨x, O, rfl⟩ : ∃ x, xs[j]? = some x ∧ Value.int k x = u := by simpa using U
    rw [dA]; exact (hh j x O).1
 ·rename_i β e xs
  obtain rfl := ya h
  obtain ⟨e', M⟩ := I (by simp)
  cases hy with
  | imm _ _ _ hp =>
   rcases hp.view with ⟨rfl, a, rfl⟩ | ⟨B, o, cap, vs, rfl, he, hcap, hv, hc⟩
   ·exact ⟨[], IR w M a, by simp [aI.len, aI.e], by simp, fun x O => by simp at O, fun i x c y O => by simp at O⟩
   ·exact ⟨vs, Src.ofSlice w M ⟨B, o, none⟩ _ cap vs hv.1 (fun j u U => by rw [dA]; exact (hc j u U).1) hv.2.1, hv.unmarkIf⟩
 ·rename_i b g o n
  rw [bind_some] at h; obtain ⟨V, N, h⟩ := h
  obtain ⟨vw, H, rfl⟩ := yc.1 h
  obtain ⟨e', M⟩ := I (by simp)
  have he := (hM.box b V (box?_some N).1).e
  rcases hM.at_ms N hy with ⟨B, cap, rfl, hn, hon, hl, hf, _, _, _, W, _⟩ | ⟨rfl, rfl, rfl, hz, hl⟩ | ⟨B, oo, rfl, ho, rfl, hon, hl⟩
  ·obtain ⟨vs, Y, hcl⟩ := W.toList he (box?_own N)
   obtain ⟨hv, hve, hvl, _⟩ := wA he H Y
   refine ⟨_, ?_, hv⟩
   simp only at hs ⊢
   rw [hve, hvl]
   refine Src.ofSlice w M ⟨B, o * V.row.e, none⟩ n cap _ (by rw [hv.1, hve, hvl]) (fun j u U => ?_) hv.2.1
   rw [dA]
   have hj : j < n * V.row.e := by
    have := (yd.1 U).1
    rw [hv.1, hve, hvl] at this; exact this
   rw [yf1 hj, yz] at U
   have := hcl _ (yd.1 U).1
   rw [U] at this; exact this
  ·have Z : vw.len = 0 ∧ vw.e = V.row.e := by
    obtain ⟨gen, frz, row⟩ := V
    cases row <;> simp only [Row.sub] at H <;> first | (cases H; done) | skip <;> rw [aA] at H <;> obtain ⟨_, H⟩ := H <;> obtain rfl := ya H <;> simp [aI.len, aI.e, Row.e, aN]
   have J : bF G w vw [] := by
    refine ⟨by simp [Z.1], by simp, ?_⟩
    obtain ⟨gen, frz, row⟩ := V
    cases row <;> simp only [Row.sub] at H <;> first | (cases H; done) | skip <;> rw [aA] at H <;> obtain ⟨_, H⟩ := H <;> obtain rfl := ya H <;> simp [aN]
   refine ⟨[], ?_, J⟩
   simp only; rw [Z.1]
   exact Src.ofNil w M 0
  ·have Z : vw.len = 0 ∧ vw.e = V.row.e := by
    obtain ⟨gen, frz, row⟩ := V
    cases row <;> simp only [Row.sub] at H <;> first | (cases H; done) | skip <;> rw [aA] at H <;> obtain ⟨_, H⟩ := H <;> obtain rfl := ya H <;> simp [aI.len, aI.e, Row.e, aN]
   have J : bF G w vw [] := by
    refine ⟨by simp [Z.1], by simp, ?_⟩
    obtain ⟨gen, frz, row⟩ := V
    cases row <;> simp only [Row.sub] at H <;> first | (cases H; done) | skip <;> rw [aA] at H <;> obtain ⟨_, H⟩ := H <;> obtain rfl := ya H <;> simp [aN]
   refine ⟨[], ?_, J⟩
   simp only; rw [Z.1]
   exact Src.ofSlice w M ⟨B, oo, none⟩ 0 0 [] (by simp) (fun j u U => by simp at U) (by simp)
 ·rename_i b g
  rw [bind_some] at h; obtain ⟨V, N, h⟩ := h
  obtain rfl := ya h
  obtain ⟨e', M⟩ := I (by simp)
  have he := (hM.box b V (box?_some N).1).e
  rcases hM.at_msw N hy with ⟨B, cap, rfl, hn, hl, hf, _, _, _, W, _⟩ | ⟨rfl, hz, hnc, hl⟩
  ·obtain ⟨vs, Y, hcl⟩ := W.toList he (box?_own N)
   refine ⟨vs, ?_, Y⟩
   simp only [oV, dP]
   refine Src.ofSlice w M ⟨B, 0, none⟩ _ cap vs (by rw [Y.1, oV, dP]) (fun j u U => ?_) Y.2.1
   rw [dA, yc1]
   have := hcl _ (yd.1 U).1
   rw [U] at this; exact this
  ·have J : bF G w V.row.all [] := by
    refine ⟨by rw [dP, hz]; simp, by simp, ?_⟩
    obtain ⟨gen, frz, row⟩ := V
    cases row with
    | ints k xs => simp only [Row.len] at hz; have := yo hz; subst this; simp [Row.all]
    | pvs β e xs => simp only [Row.len] at hz; have := yo hz; subst this; simp [Row.all]
    | cells e cs => simp [Row.isCells] at hnc
    | own e xs hs => exact absurd (box?_own N) (by simp [Row.isOwn])
   refine ⟨[], ?_, J⟩
   simp only [dP, hz]
   exact Src.ofNil w M 0
 ·rename_i s
  obtain rfl := ya h
  obtain rfl := hy.lit_inv
  have M : P.underlying tx = some .string := by
   unfold yQ at K; split at K <;> simp_all
  refine ⟨byteCells s, ?_, FL G w s⟩
  have := Src.ofString (P := P) w M s
  simpa [aI.len, aI.e, e4] using this
 ·obtain ⟨e', M⟩ := I (by simp)
  obtain rfl := hy.lit_inv
  split at h
  ·obtain rfl := ya h
   exact ⟨[], Src.ofNil w M 0, by simp [aI.len, aI.e], by simp, fun i x O => by simp at O⟩
  ·obtain ⟨e, he, rfl⟩ := yc.1 h
   exact ⟨[], Src.ofNil w M 0, by simp [aI.len, aI.e], by simp, fun x O => by simp at O, fun i x c y O => by simp at O⟩
 ·simp at h
end
end Go.Ab
end
section
namespace Go.Ab
variable [b4]
def aR (G : Gh) (w : World) (mem : aH) (ids : List Nat) (B _o : Nat) : Prop := ∃ b ∈ ids, ∃ (x : a9) (C : Nat), mem[b]? = some (some x) ∧ x.row.okShut = true ∧ eK G b x C ∧ (B = C ∨ ∃ i c, cP w C x.row i c B)
def Gh.frz (G : Gh) (S : Nat → Nat → Prop) : Gh := { G with prot := fun β B o => G.prot β B o ∨ S B o }
theorem c8.frz (G : Gh) (S : Nat → Nat → Prop) (hS : ∀ B o, S B o → G.mine B) : c8 G (G.frz S) := ⟨rfl, fun _ _ _ h => .inl h, fun _ _ _ h => h, fun _ B o h => h.imp id (hS B o)⟩
theorem aF.mine {G : Gh} {w : World} {mem : aH} (hM : aF G w mem) {b : Nat} {x : a9} {L : z4} {B : Nat} (I : mem[b]? = some (some x)) (H : G.loc b x.gen = some L) (hB : L.blk = some B) : G.mine B :=
 (hM.blk I ⟨L, H, hB⟩).2.1
theorem aF.inBoxes {G : Gh} {w : World} {mem : aH} (hM : aF G w mem) {ids : List Nat} : ∀ B o, aR G w mem ids B o → G.mine B := by
 rintro B o ⟨b, _, x, C, H, _, hB, h⟩
 rcases h with rfl | ⟨i, c, I⟩
 ·exact (hM.blk H hB).2.1
 ·exact (hM.inn H hB I).1
theorem aF.inBoxes_lt {G : Gh} {w : World} {mem : aH} (hM : aF G w mem) {ids : List Nat} : ∀ B o, aR G w mem ids B o → B < w.heap.size := by
 rintro B o ⟨b, _, x, C, H, _, hB, h⟩
 rcases h with rfl | ⟨i, c, I⟩
 ·exact (hM.blk H hB).2.2.1
 ·exact (hM.inn H hB I).2.1
theorem aR.mono {G : Gh} {w : World} {mem : aH} {ids H : List Nat} (h : ∀ b ∈ ids, b ∈ H) {B o : Nat} (I : aR G w mem ids B o) : aR G w mem H B o := by
 obtain ⟨b, J, r⟩ := I; exact ⟨b, h b J, r⟩
theorem MJ {r : Row} (h : r.isOwn = false) : r.okShut = true := by cases r <;> first | rfl | cases h
theorem Ox {r : Row} (h : r.isOwn = false) : r.shut = r := by cases r <;> first | rfl | cases h
theorem D6 (r : Row) : r.shut.isOwn = false := by cases r <;> rfl
theorem Oa (r : Row) : r.shut.e = r.e := by cases r <;> rfl
theorem Je (r : Row) : r.shut.len = r.len := by cases r <;> rfl
theorem KO (r : Row) : r.shut.isCells = r.isCells := by cases r <;> rfl
theorem aR.one {G : Gh} {w : World} {mem : aH} {ids : List Nat} {b : Nat} {x : a9} {L : z4} {B o : Nat} (H : b ∈ ids) (J : mem[b]? = some (some x)) (K : x.row.isOwn = false) (I : G.loc b x.gen = some L) (hB : L.blk = some B) : aR G w mem ids B o :=
 ⟨b, H, x, B, J, MJ K, ⟨L, I, hB⟩, .inl rfl⟩
theorem dV (mem : aH) : ∀ (ids : List Nat) (m : aH) (b : Nat), m.length = mem.length →
  (∀ x, mem[b]? = some (some x) → x.row.okShut = true → b ∈ ids → (aJ m (bZ mem ids))[b]? = some (some { x with frz := true, row := x.row.shut })) ∧
  ((b ∉ ids ∨ ∀ x, mem[b]? = some (some x) → x.row.okShut = false) → (aJ m (bZ mem ids))[b]? = m[b]?) ∧ (aJ m (bZ mem ids)).length = mem.length
 | [], m, b, M => ⟨fun x _ _ h => by simp at h, fun _ => rfl, M⟩
 | a :: r, m, b, M => by
  unfold bZ
  split
  ·rename_i x V
   have Z : a < m.length := by rw [M]; exact (yd.1 V).1
   cases K : x.row.okShut with
   | true =>
    simp only [yl, aJ]
    obtain ⟨O, N, U⟩ := dV mem r (m.set a (some { x with frz := true, row := x.row.shut })) b (by simpa using M)
    refine ⟨fun y J I H => ?_, fun H => ?_, U⟩
    ·by_cases hr : b ∈ r
     ·exact O y J I hr
     ·have : b = a := by simp at H; exact H.resolve_right hr
      subst this
      rw [N (.inl hr), yw Z]
      rw [V] at J; simp at J; subst J; rfl
    ·have W : a ≠ b := by
      rintro rfl
      rcases H with H | H
      ·exact H (ym ..)
      ·rw [H x V] at K; cases K
     rw [N (H.imp (fun h hr => h (yh _ hr)) id), yp W]
   | false =>
    simp only [yk]
    obtain ⟨O, N, U⟩ := dV mem r m b M
    refine ⟨fun y J I H => ?_, fun H => N (H.imp (fun h hr => h (yh _ hr)) id), U⟩
    have : b ≠ a := by rintro rfl; rw [V] at J; simp at J; subst J; rw [I] at K; cases K
    exact O y J I (by simp at H; exact H.resolve_left this)
  ·rename_i Y
   obtain ⟨O, N, U⟩ := dV mem r m b M
   refine ⟨fun y J I H => ?_, fun H => N (H.imp (fun h hr => h (yh _ hr)) id), U⟩
   have : b ≠ a := by rintro rfl; exact Y y J
   exact O y J I (by simp at H; exact H.resolve_left this)
theorem gI.shut {G : Gh} {w : World} {B : Nat} {r : Row} (S : Nat → Nat → Prop) (h : gI G w B r) (ho : r.isOwn = true) (hok : r.okShut = true) (hS : ∀ i c B', cP w B r i c B' → ∀ o, S B' o) : gI (G.frz S) w B r.shut := by
 cases r with
 | own e xs hs =>
  cases hs with
  | cons _ _ => cases hok
  | nil =>
   obtain ⟨_, hl, hc⟩ := h
   refine ⟨hl, fun i x c y K h2 => ?_⟩
   obtain ⟨v, hv, N, W⟩ := hc i x c y K h2
   refine ⟨v, hv, N, ?_⟩
   rcases W with ⟨u, rfl, rfl⟩ | ⟨row, H, W⟩
   ·exact .lit _ N
   ·have U : ∀ B' n cap, v = .slice (some ⟨B', 0, none⟩) n cap → ∀ o, S B' o := fun B' n cap hvv => hS i c B' ⟨⟨x, y, row, K, h2, H⟩, rfl, n, cap, by rw [hv, hvv]⟩
    cases y with
    | ints k ys =>
     obtain rfl := ya H
     rcases W with ⟨rfl, Z⟩ | ⟨B', cap, rfl, I, _, _, _, _, hr, _⟩
     ·obtain rfl := yo Z; exact .intsNil k _
     ·exact .ints k ys B' 0 cap I fun j z hz => ⟨by rw [yc1]; exact hr j z hz, .inr (U B' _ _ rfl _)⟩
    | sl e' ys =>
     simp only [cV] at H; rw [aA] at H; obtain ⟨he, H⟩ := H
     obtain rfl := ya H
     rcases W with ⟨rfl, Z⟩ | ⟨B', cap, rfl, I, _, _, _, _, hr, _⟩
     ·obtain rfl := yo Z; exact .slNil e' _
     ·obtain ⟨Y, J⟩ := hr
      refine .sl e' ys B' 0 cap (fun i c => (cl w B' (i * e' + c)).getD undef) (cU.1 he) I Y (fun j z c q V M => ?_) (fun j z c q V M => ?_) (fun j z c q V M => ?_)
      ·obtain ⟨u, O, _, _⟩ := J j z c q V M
       rw [yc1]; exact ⟨by rw [O]; rfl, .inr (U B' _ _ rfl _)⟩
      ·obtain ⟨u, O, K, _⟩ := J j z c q V M
       rw [O]; exact K
      ·obtain ⟨u, O, _, K⟩ := J j z c q V M
       rw [O]; exact K.mono (fun _ _ h => .inl h) (fun _ _ _ => rfl)
    | lit u => simp [cV] at H
    | agg cs => simp [cV] at H
 | _ => cases ho
theorem aF.freeze {G : Gh} {w : World} {mem : aH} (hM : aF G w mem) (ids : List Nat) : aF (G.frz (aR G w mem ids)) w (aJ mem (bZ mem ids)) := by
 have hg := c8.frz G (aR G w mem ids) hM.inBoxes
 have K : ∀ (b : Nat) (y : a9), (aJ mem (bZ mem ids))[b]? = some (some y) → ∃ x, mem[b]? = some (some x) ∧ y.gen = x.gen ∧ ((b ∈ ids ∧ x.row.okShut = true ∧ y.frz = true ∧ y.row = x.row.shut) ∨ ((b ∉ ids ∨ x.row.okShut = false) ∧ y = x)) := by
  intro b y h
  obtain ⟨i1, i2, _⟩ := dV mem ids mem b rfl
  by_cases Z : ∃ x, mem[b]? = some (some x)
  ·obtain ⟨x, I⟩ := Z
   by_cases W : b ∈ ids ∧ x.row.okShut = true
   ·rw [i1 x I W.2 W.1] at h; simp at h; subst h; exact ⟨x, I, rfl, .inl ⟨W.1, W.2, rfl, rfl⟩⟩
   ·have O : b ∉ ids ∨ x.row.okShut = false := by
     by_cases h1 : b ∈ ids
     ·exact .inr (by cases h2 : x.row.okShut <;> simp_all)
     ·exact .inl h1
    rw [i2 (O.imp id (fun h x' J => by rw [I] at J; simp at J; subst J; exact h)), I] at h; simp at h; subst h; exact ⟨x, I, rfl, .inr ⟨O, rfl⟩⟩
  ·rw [i2 (.inr (fun x I => absurd ⟨x, I⟩ Z))] at h; exact absurd ⟨y, h⟩ Z
 have V : ∀ {b : Nat} {x y : a9} {B : Nat}, y.gen = x.gen → eK (G.frz (aR G w mem ids)) b y B → eK G b x B := by
  rintro b x y B hge ⟨L, Z, hB⟩; exact ⟨L, by rw [← hge]; exact Z, hB⟩
 -- blocks of a box that stays as it is are not among those
 have hout : ∀ {b : Nat} {x : a9} {B B' : Nat}, mem[b]? = some (some x) → (b ∉ ids ∨ x.row.okShut = false) → eK G b x B → (B' = B ∨ ∃ i c, cP w B x.row i c B') → ∀ o, ¬ aR G w mem ids B' o := by
  intro b x B B' I O hB h o hin
  obtain ⟨b2, hb2, x2, C, hx2, hok2, hC, h2⟩ := hin
  have hne : b2 ≠ b := by
   rintro rfl
   rw [I] at hx2; simp at hx2; subst hx2
   rcases O with h | h
   ·exact h hb2
   ·rw [hok2] at h; cases h
  have hO : iU G w mem b B' := ⟨b2, x2, C, hne, hx2, hC, h2⟩
  rcases h with rfl | ⟨i, c, U⟩
  ·exact hM.other_ne I hB hO rfl
  ·exact hM.other_inn I hB U hO
 refine ⟨fun b y h => ?_, fun b g h => ?_, fun b y g h hlt => ?_, fun b b' y y' L L' B h h' l l' k k' => ?_, fun b b' y y' B i c B' h k U h' k' => ?_, fun b b' y y' B C i c i' c' B' h k U h' k' hi' => ?_, hM.own, fun B o h => ?_, fun β B o h => ?_, hM.glob.mono (hg.prot true) fun _ _ _ => rfl⟩
 ·obtain ⟨x, I, M, hc⟩ := K b y h
  have W := hM.box b x I
  obtain ⟨o, Z, hm⟩ := W.loc
  rcases hc with ⟨hb1, hok, hf, H⟩ | ⟨O, rfl⟩
  ·refine ⟨by rw [H, Oa]; exact W.e, o, by rw [M, H, Oa, Je]; exact Z, ?_⟩
   cases o with
   | none => rw [H, Je, KO]; exact hm
   | some B =>
    obtain ⟨h1, h2, h3, h4, h5⟩ := hm
    have hB : eK G b x B := ⟨_, Z, rfl⟩
    refine ⟨h1, h2, h3, ?_, fun hff => by rw [hf] at hff; cases hff⟩
    rw [H]
    cases how : x.row.isOwn with
    | true => exact h4.shut _ how hok fun i c B' U o => ⟨b, hb1, x, B, I, hok, hB, .inr ⟨i, c, U⟩⟩
    | false => rw [Ox how]; exact h4.mono hg (Ev.refl G w) (fun _ _ => rfl) fun i c B' U => by rw [U.own] at how; cases how
  ·refine ⟨W.e, o, Z, ?_⟩
   cases o with
   | none => exact hm
   | some B =>
    obtain ⟨h1, h2, h3, h4, h5⟩ := hm
    have hB : eK G b y B := ⟨_, Z, rfl⟩
    refine ⟨h1, h2, h3, h4.mono hg (Ev.refl G w) (fun _ _ => rfl) (fun i c B' U => ⟨.of rfl, fun β o Y => ?_⟩), fun hf β o Y => ?_⟩
    ·rcases Y with Y | Y
     ·exact (hM.inn I hB U).2.2.2 β o Y
     ·exact hout I O hB (.inr ⟨i, c, U⟩) o Y
    ·rcases Y with Y | Y
     ·exact h5 hf β o Y
     ·exact hout I O hB (.inl rfl) o Y
 ·refine hM.unset b g fun x I => ?_
  obtain ⟨i1, i2, _⟩ := dV mem ids mem b rfl
  by_cases W : b ∈ ids ∧ x.row.okShut = true
  ·exact h _ (i1 x I W.2 W.1)
  ·have O : b ∉ ids ∨ ∀ x' : a9, mem[b]? = some (some x') → x'.row.okShut = false := by
    by_cases h1 : b ∈ ids
    ·exact .inr fun x' J => by rw [I] at J; simp at J; subst J; cases h2 : x.row.okShut <;> simp_all
    ·exact .inl h1
   exact h x (by rw [i2 O]; exact I)
 ·obtain ⟨x, I, M, hc⟩ := K b y h
  exact hM.gens b x g I (by rw [← M]; exact hlt)
 ·obtain ⟨x, I, M, hc⟩ := K b y h
  obtain ⟨x', J, N, hc'⟩ := K b' y' h'
  rw [M] at l; rw [N] at l'
  exact hM.apart b b' x x' L L' B I J l l' k k'
 ·obtain ⟨x, I, M, hc⟩ := K b y h
  obtain ⟨x', J, N, hc'⟩ := K b' y' h'
  rcases hc with ⟨_, _, _, H⟩ | ⟨_, rfl⟩
  ·have := U.own; rw [H, D6] at this; cases this
  ·exact hM.inA b b' y x' B i c B' I (V rfl k) U J (V N k')
 ·obtain ⟨x, I, M, hc⟩ := K b y h
  obtain ⟨x', J, N, hc'⟩ := K b' y' h'
  rcases hc with ⟨_, _, _, H⟩ | ⟨_, rfl⟩
  ·have := U.own; rw [H, D6] at this; cases this
  ·rcases hc' with ⟨_, _, _, H⟩ | ⟨_, rfl⟩
   ·have := hi'.own; rw [H, D6] at this; cases this
   ·exact hM.inB b b' y y' B C i c i' c' B' I (V rfl k) U J (V rfl k') hi'
 ·rcases h with h | h
  ·exact .inl (hM.lab B o h)
  ·exact .inr h
 ·rcases h with h | h
  ·exact hM.away β B o h
  ·exact hM.inBoxes_lt B o h
section
variable {P : Program}
theorem qF {α β : Type} {f : α → Option (Bool × β × List Nat)} : ∀ {xs : List α} {r : Bool × List β × List Nat}, fY f xs = some r →
  r.2.1.length = xs.length ∧ ∀ (i : Nat) (x : α), xs[i]? = some x → ∃ q, f x = some q ∧ r.2.1[i]? = some q.2.1 ∧ (∀ b ∈ q.2.2, b ∈ r.2.2) ∧ (r.1 = false → q.1 = false)
 | [], r, h => by simp [fY] at h; subst h; exact ⟨rfl, fun i x H => by simp at H⟩
 | v :: xs, r, h => by
  simp only [fY] at h
  rw [bind_some] at h; obtain ⟨a, Y, h⟩ := h
  rw [bind_some] at h; obtain ⟨q, V, h⟩ := h
  obtain rfl := ya h
  obtain ⟨J, W⟩ := qF V
  refine ⟨by simp [J], fun i x H => ?_⟩
  cases i with
  | zero => simp at H; subst H; exact ⟨a, Y, rfl, fun b I => yq1 _ I, fun h => by simp at h; exact h.1⟩
  | succ i =>
   obtain ⟨U, K, M, O, N⟩ := W i x (by simpa using H)
   exact ⟨U, K, by simpa using M, fun b I => ys1 _ (O b I), fun h => N (by simp at h; exact h.2)⟩
theorem sN {α β γ : Type} {f : γ → α → Option (Bool × β × List Nat)} : ∀ {ls : List γ} {xs : List α} {r : Bool × List β × List Nat}, b3 f ls xs = some r →
  r.2.1.length = xs.length ∧ ls.length = xs.length ∧ ∀ (i : Nat) (x : α), xs[i]? = some x → ∃ l q, ls[i]? = some l ∧ f l x = some q ∧ r.2.1[i]? = some q.2.1 ∧ (∀ b ∈ q.2.2, b ∈ r.2.2) ∧ (r.1 = false → q.1 = false)
 | [], [], r, h => by simp [b3] at h; subst h; exact ⟨rfl, rfl, fun i x H => by simp at H⟩
 | l :: ls, v :: xs, r, h => by
  simp only [b3] at h
  rw [bind_some] at h; obtain ⟨a, ha, h⟩ := h
  rw [bind_some] at h; obtain ⟨q, Z, h⟩ := h
  obtain rfl := ya h
  obtain ⟨K, J, hh⟩ := sN Z
  refine ⟨by simp [K], by simp [J], fun i x H => ?_⟩
  cases i with
  | zero => simp at H; subst H; exact ⟨l, a, rfl, ha, rfl, fun b I => yq1 _ I, fun h => by simp at h; exact h.1⟩
  | succ i =>
   obtain ⟨M, Y, W, N, O, V, U⟩ := hh i x (by simpa using H)
   exact ⟨M, Y, by simpa using W, N, by simpa using O, fun b I => ys1 _ (V b I), fun h => U (by simp at h; exact h.2)⟩
 | [], _ :: _, r, h => by simp [b3] at h
 | _ :: _, [], r, h => by simp [b3] at h
theorem y9 {α : Type} {e : Nat} : ∀ {n : Nat} {cs : List α} {i : Nat}, i < n → (chunks e n cs)[i]? = some ((cs.drop (i * e)).take e)
 | n + 1, cs, 0, h => by simp [chunks]
 | n + 1, cs, i + 1, h => by
  simp only [chunks, yd1]
  rw [y9 (by omega), List.drop_drop]
  congr 3; rw [yk1]; omega
theorem fP {α : Type} {e : Nat} : ∀ {n : Nat} {cs : List α}, (chunks e n cs).length = n
 | 0, cs => rfl
 | n + 1, cs => by simp [chunks, fP]
theorem sub_zero {r : Row} {o : Nat} {v : aI} (h : r.sub o 0 = some v) : (∃ k, v = .ints k []) ∨ (∃ β e, v = .pvs β e []) ∨ (∃ e, v = .avs e []) := by
 cases r <;> simp only [Row.sub] at h <;> first | (cases h; done) | skip <;> rw [aA] at h <;> obtain ⟨_, h⟩ := h <;> obtain rfl := ya h <;> simp
theorem PR.intsZ {w : World} {J : Nat → Nat → Prop} (k : IntKind) (a : Option Addr) (H : ∀ x, a = some x → x.spot = none) : PR w J (.ints k []) (.slice a 0 0) := by
 cases a with
 | none => exact .intsNil k _
 | some a => obtain ⟨B, o, s⟩ := a; obtain rfl := H _ rfl; exact .ints k [] B o 0 (by simp) (fun i x I => by simp at I)
theorem PR.slZ {w : World} {J : Nat → Nat → Prop} {e : Nat} (K : 1 ≤ e) (a : Option Addr) (I : ∀ x, a = some x → x.spot = none) : PR w J (.sl e []) (.slice a 0 0) := by
 cases a with
 | none => exact .slNil e _
 | some a => obtain ⟨B, o, s⟩ := a; obtain rfl := I _ rfl; exact .sl e [] B o 0 (fun _ _ => undef) K (by simp) (fun x H => by simp at H) (fun i x c y H => by simp at H) (fun i x c y H => by simp at H) (fun i x c y H => by simp at H)
theorem NC {r : Row} {o n : Nat} {v : aI} (h : r.sub o n = some v) : v.e = r.e := by
 cases r <;> simp only [Row.sub] at h <;> first | (cases h; done) | skip <;> rw [aA] at h <;> obtain ⟨_, h⟩ := h <;> obtain rfl := ya h <;> rfl
theorem w8 {k : IntKind} {b : Nat} {v : aI} {r : Bool × PV × List Nat} (h : a5.treeInts k b v = some r) (I : (∃ k, v = .ints k []) ∨ (∃ β e, v = .pvs β e []) ∨ (∃ e, v = .avs e [])) :
  ∃ H, True ∧ r = (false, .ints H [], [b]) := by
 rcases I with ⟨H, rfl⟩ | ⟨β, e, rfl⟩ | ⟨e, rfl⟩
 ·simp only [a5.treeInts] at h
  rw [aA] at h; obtain ⟨_, h⟩ := h
  exact ⟨H, trivial, (ya h).symm⟩
 ·simp [a5.treeInts] at h
 ·simp only [a5.treeInts] at h
  rw [aA] at h; obtain ⟨_, h⟩ := h
  simp [fA] at h
  exact ⟨k, trivial, h.symm⟩
theorem Cb {f : LK → AV → Option (Bool × PV × List Nat)} {t : TypeId} {e b : Nat} {v : aI} {r : Bool × PV × List Nat} (h : a5.treeSl P f t e b v = some r) (J : (∃ k, v = .ints k []) ∨ (∃ β e, v = .pvs β e []) ∨ (∃ e, v = .avs e [])) :
  ∃ β, v.e = e ∧ r = (β, .sl e [], [b]) := by
 rcases J with ⟨k', rfl⟩ | ⟨β, I, rfl⟩ | ⟨I, rfl⟩
 ·simp [a5.treeSl] at h
 ·simp only [a5.treeSl] at h
  rw [aA] at h; obtain ⟨H, h⟩ := h
  obtain rfl := bJ.1 H
  exact ⟨β, rfl, (ya h).symm⟩
 ·simp only [a5.treeSl] at h
  rw [aA] at h; obtain ⟨H, h⟩ := h
  simp only [yb] at H
  obtain rfl := bJ.1 H.1
  rw [bind_some] at h; obtain ⟨ls, _, h⟩ := h
  have : aN e ([] : List AV).length = 0 := by
   have := gB (n := 0) (cU.1 H.2) 0; simpa using this
  rw [this] at h
  simp [chunks, fY] at h
  exact ⟨false, rfl, h.symm⟩
theorem y7 {G : Gh} {w : World} {mem : aH} (hM : aF G w mem) : ∀ {n : Nat} {l : LK} {v : AV} {r : Bool × PV × List Nat} {cv : Value}, a5 P mem n l v = some r → VR G w v cv →
  PR w ((G.frz (aR G w mem r.2.2)).prot r.1) r.2.1 cv ∧ cv.oneCell' = true ∧ r.2.1.cells = [r.2.1]
 | 0, l, v, r, cv, h, hv => by simp [a5] at h
 | n + 1, l, v, r, cv, h, hv => by
  have frzPR : ∀ {ids : List Nat} {β : Bool} {p : PV} {u : Value}, PR w (G.prot β) p u → PR w ((G.frz (aR G w mem ids)).prot β) p u := fun W => W.mono (fun _ _ h => .inl h) (fun _ _ _ => rfl)
  have hints : ∀ {k : IntKind} {b : Nat} {x : a9} {wv : aI} {q : Bool × PV × List Nat} {vs : List Value} {B o cap : Nat}, mem[b]? = some (some x) → x.row.isOwn = false → G.loc b x.gen = some ⟨some B, x.row.e, x.row.len⟩ → a5.treeInts k b wv = some q →
    bF G w wv vs → (∀ j u, vs[j]? = some u → cl w B (o + j) = some u) → wv.len ≤ cap →
    PR w ((G.frz (aR G w mem q.2.2)).prot q.1) q.2.1 (.slice (some ⟨B, o, none⟩) wv.len cap) ∧ q.2.1.cells = [q.2.1] := by
   intro k b x wv q vs B o cap H how hl M O K hcap
   have hin : ∀ o', aR G w mem [b] B o' := fun o' => .one (yb2.2 rfl) H how hl rfl
   unfold a5.treeInts at M
   split at M
   ·rename_i k' xs
    rw [aA] at M; obtain ⟨hk, M⟩ := M
    obtain rfl := ya M
    obtain ⟨hlen, _, hh⟩ := O
    exact ⟨.ints k' xs B o cap hcap (fun i y N => ⟨K _ _ (hh i y N), .inr (hin _)⟩), rfl⟩
   ·rename_i e cs
    rw [aA] at M; obtain ⟨Z, M⟩ := M
    obtain rfl := bJ.1 Z
    obtain ⟨xs, hxs, rfl⟩ := yc.1 M
    obtain ⟨hlen, _, hcnt, hh⟩ := O
    have key : ∀ {cs : List AV} {xs : List Int}, fA k cs = some xs → xs.length = cs.length ∧ ∀ (i : Nat) (y : Int), xs[i]? = some y → cs[i]? = some (.lit (.int k y)) := by
     intro cs
     induction cs with
     | nil => intro xs h; simp [fA] at h; subst h; exact ⟨rfl, fun i y N => by simp at N⟩
     | cons c cs ih =>
      intro xs h
      have hc : ∃ k' z, c = .lit (.int k' z) := by
       cases c with
       | lit v => cases v with
        | int k' z => exact ⟨k', z, rfl⟩
        | _ => simp [fA] at h
       | _ => simp [fA] at h
      obtain ⟨k', z, rfl⟩ := hc
      simp only [fA] at h
      cases hk : gK k k' with
      | false => rw [hk] at h; simp at h
      | true =>
       rw [hk] at h
       rw [jL] at hk; subst hk
       simp only [yl] at h
       obtain ⟨xs', h1, rfl⟩ := yc.1 h
       obtain ⟨i1, i2⟩ := ih h1
       refine ⟨by simp [i1], fun i y N => ?_⟩
       cases i with
       | zero => simp at N; subst N; rfl
       | succ i => simpa using i2 i y (by simpa using N)
    obtain ⟨k1, k2⟩ := key hxs
    have hle : aI.len (.avs 1 cs) = xs.length := by rw [k1]; rfl
    rw [hle]
    refine ⟨.ints k xs B o cap (by rw [← hle]; exact hcap) (fun i y N => ?_), rfl⟩
    obtain ⟨u, I, W⟩ := hh i _ (k2 i y N)
    obtain rfl := W.lit_inv
    exact ⟨K _ _ I, .inr (hin _)⟩
   ·simp at M
  have hsl : ∀ {t : TypeId} {e b : Nat} {x : a9} {wv : aI} {q : Bool × PV × List Nat} {vs : List Value} {B o cap : Nat}, mem[b]? = some (some x) → x.row.isOwn = false → G.loc b x.gen = some ⟨some B, x.row.e, x.row.len⟩ → a5.treeSl P (a5 P mem n) t e b wv = some q →
    1 ≤ wv.e → bF G w wv vs → (∀ j u, vs[j]? = some u → cl w B (o + j) = some u) → wv.len ≤ cap →
    PR w ((G.frz (aR G w mem q.2.2)).prot q.1) q.2.1 (.slice (some ⟨B, o, none⟩) wv.len cap) ∧ q.2.1.cells = [q.2.1] := by
   intro t e b x wv q vs B o cap H how hl M he1 O K hcap
   have hin : ∀ ids o', b ∈ ids → aR G w mem ids B o' := fun ids o' hb => .one hb H how hl rfl
   unfold a5.treeSl at M
   split at M
   ·rename_i β e' xs
    rw [aA] at M; obtain ⟨Z, M⟩ := M
    obtain rfl := bJ.1 Z
    obtain rfl := ya M
    obtain ⟨hlen, h1, hh1, hh2⟩ := O
    refine ⟨.sl e xs B o cap (fun i c => vs.getD (i * e + c) undef) he1 hcap hh1 (fun i x c y H N => ?_) (fun i x c y H N => ?_) (fun i x c y H N => ?_), rfl⟩
    ·obtain ⟨u, I, W⟩ := hh2 i x c y H N
     rw [yi, I]
     exact ⟨by rw [yc3]; exact K _ _ I, .inr (hin _ _ (yb2.2 rfl))⟩
    ·obtain ⟨u, I, W⟩ := hh2 i x c y H N
     rw [yi, I]
     exact h1 u (yt I)
    ·obtain ⟨u, I, W⟩ := hh2 i x c y H N
     rw [yi, I]
     exact frzPR W
   ·rename_i e' cs
    rw [aA] at M; obtain ⟨Z, M⟩ := M
    simp only [yb] at Z
    obtain rfl := bJ.1 Z.1
    rw [bind_some] at M; obtain ⟨ls, hls, M⟩ := M
    obtain ⟨r0, hr0, rfl⟩ := yc.1 M
    obtain ⟨hlen, h1, hcnt, hh⟩ := O
    obtain ⟨fl, ff⟩ := qF hr0
    rw [fP] at fl
    have hcs : cs.length = aN e cs.length * e := by rw [yk2]; exact hcnt
    -- element i
    have hel : ∀ i p, r0.2.1[i]? = some p → i < aN e cs.length ∧ p.cells.length = e ∧ ∀ c y, p.cells[c]? = some y → ∃ u, vs[i * e + c]? = some u ∧ PR w ((G.frz (aR G w mem (b :: r0.2.2))).prot r0.1) y u := by
     intro i p W
     have hi : i < aN e cs.length := by rw [← fl]; exact (yd.1 W).1
     obtain ⟨q1, hq1, hp1, hb1, hlab1⟩ := ff i _ (y9 hi)
     rw [W] at hp1
     obtain rfl := ya hp1
     rw [bind_some] at hq1; obtain ⟨q2, hq2, hq1⟩ := hq1
     obtain ⟨p', hp', rfl⟩ := yc.1 hq1
     obtain ⟨zl, zl2, zz⟩ := sN hq2
     have hchl : ((cs.drop (i * e)).take e).length = e := by
      have h2 : i * e + e ≤ cs.length := by
       rw [hcs]
       calc i * e + e = (i + 1) * e := by rw [yk1]; simp
        _ ≤ _ := yz1 _ hi
      simp; omega
     have V : p'.cells = q2.2.1 := by
      unfold vO at hp'
      split at hp'
      ·obtain rfl := ya hp'; rfl
      ·split at hp'
       ·rename_i c heq
        obtain rfl := ya hp'
        -- a single cell: what a5 answers is no struct
        have hlen1 : ((cs.drop (i * e)).take e).length = 1 := by rw [← zl, heq]; rfl
        obtain ⟨lk, q3, _, h3, h4, _⟩ := zz 0 (((cs.drop (i * e)).take e)[0]'(by omega)) (yf _)
        have hcell0 : cs[i * e]? = some (((cs.drop (i * e)).take e)[0]'(by omega)) := by
         have := yf (l := (cs.drop (i * e)).take e) (i := 0) (by omega)
         rw [yf1 (by omega), yz] at this; simp
        obtain ⟨u, I, hvr⟩ := hh _ _ hcell0
        have hone := (y7 hM h3 hvr).2.2
        rw [heq] at h4
        simp only [yq2, Option.some.injEq] at h4
        rw [heq, h4]; exact hone
       ·simp at hp'
      ·simp at hp'
     refine ⟨hi, by rw [V, zl, hchl], fun c y N => ?_⟩
     rw [V] at N
     have hc : c < e := by have := (yd.1 N).1; rw [zl, hchl] at this; exact this
     obtain ⟨lk, q3, _, h3, h4, h5, h6⟩ := zz c (((cs.drop (i * e)).take e)[c]'(by omega)) (yf _)
     have hcell : cs[i * e + c]? = some (((cs.drop (i * e)).take e)[c]'(by omega)) := by
      have := yf (l := (cs.drop (i * e)).take e) (i := c) (by omega)
      rw [yf1 (by omega), yz] at this; simp
     obtain ⟨u, I, hvr⟩ := hh _ _ hcell
     have hpr := (y7 hM h3 hvr).1
     rw [N] at h4
     obtain rfl := ya h4
     refine ⟨u, I, hpr.mono (fun B' o' hh => ?_) (fun _ _ _ => rfl)⟩
     rcases hh with hh | hh
     ·left
      cases hb : r0.1 with
      | false => rw [h6 (hlab1 hb)] at hh; exact hh
      | true =>
       cases hq3 : q3.1 with
       | false => rw [hq3] at hh; exact hM.lab _ _ hh
       | true => rw [hq3] at hh; exact hh
     ·exact .inr (hh.mono fun b' hb' => yh _ (hb1 b' (h5 b' hb')))
    have hwl : aI.len (.avs e cs) = r0.2.1.length := by rw [fl]; rfl
    rw [hwl]
    refine ⟨.sl e r0.2.1 B o cap (fun i c => vs.getD (i * e + c) undef) he1 (by rw [← hwl]; exact hcap) (fun x H => ?_) (fun i x c y H N => ?_) (fun i x c y H N => ?_) (fun i x c y H N => ?_), rfl⟩
    ·obtain ⟨i, hi, rfl⟩ := yt1 H
     exact (hel i _ (yf hi)).2.1
    ·obtain ⟨u, I, W⟩ := (hel i x H).2.2 c y N
     rw [yi, I]
     exact ⟨by rw [yc3]; exact K _ _ I, .inr (hin _ _ (ym ..))⟩
    ·obtain ⟨u, I, W⟩ := (hel i x H).2.2 c y N
     rw [yi, I]
     exact h1 u (yt I)
    ·obtain ⟨u, I, W⟩ := (hel i x H).2.2 c y N
     rw [yi, I]
     exact W
   ·simp at M
  unfold a5 at h
  split at h
  ·rename_i k k' x
   rw [aA] at h; obtain ⟨hk, h⟩ := h
   obtain rfl := ya h
   obtain rfl := hv.lit_inv
   exact ⟨.lit _ rfl, rfl, rfl⟩
  ·obtain rfl := ya h
   obtain rfl := hv.lit_inv
   exact ⟨.lit _ rfl, rfl, rfl⟩
  ·obtain rfl := ya h
   obtain rfl := hv.lit_inv
   exact ⟨.lit _ rfl, rfl, rfl⟩
  ·rename_i k β k' xs
   rw [aA] at h; obtain ⟨hk, h⟩ := h
   obtain rfl := ya h
   cases hv with
   | imm _ _ _ W hs => exact ⟨frzPR W, by cases W <;> rfl, rfl⟩
  ·rename_i k
   obtain rfl := ya h
   obtain rfl := hv.lit_inv
   exact ⟨.intsNil k _, rfl, rfl⟩
  ·rename_i k b g
   rw [bind_some] at h; obtain ⟨x, H, h⟩ := h
   have J := (box?_some H)
   have Z := (hM.box b x J.1).e
   rcases hM.at_msw H hv with ⟨B, cap, rfl, hn, hl, hf, _, _, _, U, _⟩ | ⟨rfl, hz, hnc, hl⟩
   ·obtain ⟨vs, hvs, K⟩ := U.toList Z (box?_own H)
    have := hints (o := 0) (cap := cap) J.1 (box?_own H) (by rw [J.2]; exact hl) h hvs (fun j u I => by rw [yc1]; rw [K _ (yd.1 I).1]; exact I) (by rw [dP]; exact hn)
    rw [dP] at this
    exact ⟨this.1, rfl, this.2⟩
   ·unfold a5.treeInts at h
    obtain ⟨gen, frz, row⟩ := x
    cases row with
    | ints k' xs =>
     simp only [Row.len] at hz
     have := yo hz; subst this
     simp only [Row.all] at h
     rw [aA] at h; obtain ⟨hk, h⟩ := h
     obtain rfl := ya h
     exact ⟨.intsNil _ _, rfl, rfl⟩
    | pvs β e xs => simp [Row.all] at h
    | cells e cs => simp [Row.isCells] at hnc
    | own e xs hs => exact absurd (box?_own H) (by simp [Row.isOwn])
  ·rename_i k b g o m
   rw [bind_some] at h; obtain ⟨x, H, h⟩ := h
   rw [bind_some] at h; obtain ⟨wv, Y, h⟩ := h
   have J := (box?_some H)
   have Z := (hM.box b x J.1).e
   rcases hM.at_ms H hv with ⟨B, cap, rfl, hn, hon, hl, hf, _, _, _, U, _⟩ | ⟨rfl, rfl, rfl, hz, hl⟩ | ⟨B, oo, rfl, ho, rfl, hon, hl⟩
   ·obtain ⟨vs, hvs, K⟩ := U.toList Z (box?_own H)
    obtain ⟨hv', hve, hvl, _⟩ := wA Z Y hvs
    have := hints (o := o * x.row.e) (cap := cap) J.1 (box?_own H) (by rw [J.2]; exact hl) h hv' (fun j u I => by
     have hj : j < m * x.row.e := by have := (yd.1 I).1; rw [hv'.1, hve, hvl] at this; exact this
     rw [yf1 hj, yz] at I
     rw [K _ (yd.1 I).1]; exact I) (by rw [hvl]; exact hn)
    rw [hvl] at this
    exact ⟨this.1, rfl, this.2⟩
   ·obtain ⟨k', hk', hr⟩ := w8 h (sub_zero Y); rw [hr]; exact ⟨PR.intsZ k' none (by simp), rfl, rfl⟩
   ·obtain ⟨k', hk', hr⟩ := w8 h (sub_zero Y); rw [hr]; exact ⟨PR.intsZ k' (some ⟨B, oo, none⟩) (by simp), rfl, rfl⟩
  ·rename_i t e β e' xs
   rw [aA] at h; obtain ⟨hk, h⟩ := h
   obtain rfl := ya h
   cases hv with
   | imm _ _ _ W hs => exact ⟨frzPR W, by cases W <;> rfl, rfl⟩
  ·rename_i t e
   obtain rfl := ya h
   obtain rfl := hv.lit_inv
   exact ⟨.slNil e _, rfl, rfl⟩
  ·rename_i t e b g
   rw [bind_some] at h; obtain ⟨x, H, h⟩ := h
   have J := (box?_some H)
   have Z := (hM.box b x J.1).e
   rcases hM.at_msw H hv with ⟨B, cap, rfl, hn, hl, hf, _, _, _, U, _⟩ | ⟨rfl, hz, hnc, hl⟩
   ·obtain ⟨vs, hvs, K⟩ := U.toList Z (box?_own H)
    have := hsl (o := 0) (cap := cap) J.1 (box?_own H) (by rw [J.2]; exact hl) h (by rw [oV]; exact Z) hvs (fun j u I => by rw [yc1]; rw [K _ (yd.1 I).1]; exact I) (by rw [dP]; exact hn)
    rw [dP] at this
    exact ⟨this.1, rfl, this.2⟩
   ·unfold a5.treeSl at h
    obtain ⟨gen, frz, row⟩ := x
    cases row with
    | ints k' xs => simp [Row.all] at h
    | pvs β e' xs =>
     simp only [Row.len] at hz
     have := yo hz; subst this
     simp only [Row.all] at h
     rw [aA] at h; obtain ⟨hk, h⟩ := h
     obtain rfl := ya h
     exact ⟨.slNil _ _, rfl, rfl⟩
    | cells e cs => simp [Row.isCells] at hnc
    | own e xs hs => exact absurd (box?_own H) (by simp [Row.isOwn])
  ·rename_i t e b g o m
   rw [bind_some] at h; obtain ⟨x, H, h⟩ := h
   rw [bind_some] at h; obtain ⟨wv, Y, h⟩ := h
   have J := (box?_some H)
   have Z := (hM.box b x J.1).e
   rcases hM.at_ms H hv with ⟨B, cap, rfl, hn, hon, hl, hf, _, _, _, U, _⟩ | ⟨rfl, rfl, rfl, hz, hl⟩ | ⟨B, oo, rfl, ho, rfl, hon, hl⟩
   ·obtain ⟨vs, hvs, K⟩ := U.toList Z (box?_own H)
    obtain ⟨hv', hve, hvl, _⟩ := wA Z Y hvs
    have := hsl (o := o * x.row.e) (cap := cap) J.1 (box?_own H) (by rw [J.2]; exact hl) h (by rw [hve]; exact Z) hv' (fun j u I => by
     have hj : j < m * x.row.e := by have := (yd.1 I).1; rw [hv'.1, hve, hvl] at this; exact this
     rw [yf1 hj, yz] at I
     rw [K _ (yd.1 I).1]; exact I) (by rw [hvl]; exact hn)
    rw [hvl] at this
    exact ⟨this.1, rfl, this.2⟩
   ·have he' := NC Y
    obtain ⟨e', hk', hr⟩ := Cb h (sub_zero Y); rw [hr]; exact ⟨PR.slZ (by omega) none (by simp), rfl, rfl⟩
   ·have he' := NC Y
    obtain ⟨e', hk', hr⟩ := Cb h (sub_zero Y); rw [hr]; exact ⟨PR.slZ (by omega) (some ⟨B, oo, none⟩) (by simp), rfl, rfl⟩
  ·simp at h
end
end Go.Ab
end
section
namespace Go.Ab
variable [b4]
section
variable {P : Program}
theorem dI {mem : aH} {v : AV} {rd : List Nat} {b : Nat} {x : a9} : ({ v, rd, wr := [(b, x)] } : dE).apply mem = mem.set b (some x) := by simp [dE.apply, aJ]
theorem nY (mem : aH) : ∀ (a b : List (Nat × a9)), aJ mem (a ++ b) = aJ (aJ mem a) b
 | [], b => rfl
 | (i, x) :: a, b => by simp only [yp2, aJ]; exact nY (mem.set i (some x)) a b
theorem MN {mem : aH} {v : AV} {rd ids : List Nat} {b : Nat} {x : a9} : ({ v, rd, wr := bZ mem ids ++ [(b, x)] } : dE).apply mem = (aJ mem (bZ mem ids)).set b (some x) := by
 simp [dE.apply, nY, aJ]
theorem Eo {mem : aH} {v : AV} {q : Nat × Nat × List PV} (h : nK mem v = some q) : ∃ g x xs, ((v = .msw q.1 g ∧ q.2.2 = xs) ∨ ∃ n, v = .ms q.1 g 0 n ∧ n ≤ xs.length ∧ q.2.2 = xs.take n) ∧ mem[q.1]? = some (some x) ∧ x.gen = g ∧ x.row = .own q.2.1 xs [] ∧ x.frz = false := by
 unfold nK at h
 split at h
 ·rename_i b g
  rw [bind_some] at h; obtain ⟨x, I, h⟩ := h
  obtain ⟨J, K, _⟩ := boxO?_some I
  split at h
  ·rename_i e xs hr
   rw [aA] at h; obtain ⟨H, h⟩ := h
   obtain rfl := ya h
   exact ⟨g, x, xs, .inl ⟨rfl, rfl⟩, J, K, hr, by simpa using H⟩
  ·cases h
 ·rename_i b g n
  rw [bind_some] at h; obtain ⟨x, I, h⟩ := h
  obtain ⟨J, K, _⟩ := boxO?_some I
  split at h
  ·rename_i e xs hr
   rw [aA] at h; obtain ⟨H, h⟩ := h
   simp only [yb, yq] at H
   obtain rfl := ya h
   exact ⟨g, x, xs, .inr ⟨n, rfl, cU.1 H.2, rfl⟩, J, K, hr, H.1⟩
  ·cases h
 ·cases h
theorem Np {G : Gh} {w : World} {mem : aH} (hM : aF G w mem) {b g e : Nat} {x : a9} {xs : List PV} {cv : Value} (S : Nat → Nat → Prop) (hm : mem[b]? = some (some x)) (hg : x.gen = g) (I : x.row = .own e xs []) (hv : VR G w (.msw b g) cv)
  (hS : ∀ B B' o, eK G b x B → (B' = B ∨ ∃ i c, cP w B x.row i c B') → S B' o) : PR w ((G.frz S).prot false) (.sl e xs) cv ∧ cv.oneCell' = true := by
 subst hg
 have Y := (hM.box b x hm).e
 cases hv with
 | msw _ _ cap L B V W hn hf =>
  have hB : eK G b x B := ⟨L, V, W⟩
  obtain ⟨J, K, M, h3, Z, h5⟩ := hM.blk hm hB
  rw [V] at J
  obtain rfl := ya J
  have N := Z.shut S (by rw [I]; rfl) (by rw [I]; rfl) (fun i c B' hi o => hS B B' o hB (.inr ⟨i, c, hi⟩))
  rw [I] at N hn Y ⊢
  obtain ⟨U, H⟩ := N
  refine ⟨.sl e xs B 0 cap (fun i c => (cl w B (i * e + c)).getD undef) Y hn U (fun i x' c y K M => ?_) (fun i x' c y K M => ?_) (fun i x' c y K M => ?_), rfl⟩
  ·obtain ⟨u, O, _, _⟩ := H i x' c y K M
   rw [yc1]; exact ⟨by rw [O]; rfl, .inr (hS B B _ hB (.inl rfl))⟩
  ·obtain ⟨u, O, K, _⟩ := H i x' c y K M
   rw [O]; exact K
  ·obtain ⟨u, O, _, K⟩ := H i x' c y K M
   rw [O]; exact K
 | mswNil _ _ L V W hn =>
  obtain ⟨o, J, hmm⟩ := (hM.box b x hm).loc
  rw [V] at J
  obtain rfl := ya J
  rw [I] at hn
  obtain rfl := yo hn
  exact ⟨.slNil e _, rfl⟩
theorem MV {G : Gh} {w : World} {mem : aH} (hM : aF G w mem) {b g e n : Nat} {x : a9} {xs : List PV} {cv : Value} (S : Nat → Nat → Prop) (hm : mem[b]? = some (some x)) (hg : x.gen = g) (J : x.row = .own e xs []) (hn : n ≤ xs.length) (hv : VR G w (.ms b g 0 n) cv)
  (hS : ∀ B B' o, eK G b x B → (B' = B ∨ ∃ i c, cP w B x.row i c B') → S B' o) : PR w ((G.frz S).prot false) (.sl e (xs.take n)) cv ∧ cv.oneCell' = true := by
 subst hg
 have he := (hM.box b x hm).e
 cases hv with
 | ms _ _ _ _ cap L B Z hb hn' hon hf =>
  have hB : eK G b x B := ⟨L, Z, hb⟩
  obtain ⟨O, K, M, h3, h4, h5⟩ := hM.blk hm hB
  rw [Z] at O
  obtain rfl := ya O
  have N := h4.shut S (by rw [J]; rfl) (by rw [J]; rfl) (fun i c B' hi o => hS B B' o hB (.inr ⟨i, c, hi⟩))
  rw [J] at N he ⊢
  obtain ⟨Y, H⟩ := N
  have I : ∀ {i : Nat} {x' : PV}, (xs.take n)[i]? = some x' → xs[i]? = some x' := by
   intro i x' h
   rw [yj1] at h
   split at h
   ·exact h
   ·cases h
  have U : (xs.take n).length = n := by rw [yb3]; omega
  have hz : 0 * x.row.e = 0 := yd3 _
  have W : PR w ((G.frz S).prot false) (.sl e (xs.take n)) (.slice (some ⟨B, 0, none⟩) (xs.take n).length cap) := by
   refine .sl e (xs.take n) B 0 cap (fun i c => (cl w B (i * e + c)).getD undef) he (by rw [U]; exact hn') (fun y hy => Y y (yy2 hy)) (fun i x' c y K M => ?_) (fun i x' c y K M => ?_) (fun i x' c y K M => ?_)
   ·obtain ⟨u, V, _, _⟩ := H i x' c y (I K) M
    rw [yc1]; exact ⟨by rw [V]; rfl, .inr (hS B B _ hB (.inl rfl))⟩
   ·obtain ⟨u, V, K, _⟩ := H i x' c y (I K) M
    rw [V]; exact K
   ·obtain ⟨u, V, _, K⟩ := H i x' c y (I K) M
    rw [V]; exact K
  rw [U] at W
  rw [yd3]
  exact ⟨W, rfl⟩
 | msNil _ _ L Z hb => exact ⟨.slNil e _, rfl⟩
 | msZ _ _ _ B oo L Z hb ho hon => omega
theorem Cl {G : Gh} {w : World} {mem : aH} (hM : aF G w mem) {l : LK} {v : AV} {r : Bool × PV × List Nat} {cv : Value} (h : i9 P mem l v = some r) (M : VR G w v cv) :
  PR w ((G.frz (aR G w mem r.2.2)).prot r.1) r.2.1 cv ∧ cv.oneCell' = true ∧ r.2.1.cells = [r.2.1] := by
 unfold i9 at h
 split at h
 ·rename_i q U
  split at h
  ·rw [aA] at h; obtain ⟨V, h⟩ := h
   obtain rfl := bJ.1 V
   obtain rfl := ya h
   obtain ⟨g, x, xs, N, hm, O, H, hf⟩ := Eo U
   rcases N with ⟨rfl, I⟩ | ⟨n, rfl, hn, I⟩
   ·obtain ⟨J, K⟩ := Np hM (aR G w mem [q.1]) hm O H M (fun B B' o hB h => ⟨q.1, yb2.2 rfl, x, B, hm, by rw [H]; rfl, hB, h⟩)
    simp only [I]
    exact ⟨J, K, rfl⟩
   ·obtain ⟨J, K⟩ := MV hM (aR G w mem [q.1]) hm O H hn M (fun B B' o hB h => ⟨q.1, yb2.2 rfl, x, B, hm, by rw [H]; rfl, hB, h⟩)
    simp only [I]
    exact ⟨J, K, rfl⟩
  ·cases h
 ·exact y7 hM h M
theorem qQ {G : Gh} {w : World} {mem : aH} (hM : aF G w mem) {t : TypeId} {v : AV} {r : Bool × PV × List Nat} {cv : Value} (h : rP P mem t v = some r) (hv : VR G w v cv) :
  r.2.1.cells.length = v.cells.length ∧ ∀ (j : Nat) (y : PV), r.2.1.cells[j]? = some y → ∃ u, cv.cells.toList[j]? = some u ∧ PR w ((G.frz (aR G w mem r.2.2)).prot r.1) y u ∧ u.oneCell' = true := by
 unfold rP at h
 rw [bind_some] at h; obtain ⟨ls, hls, h⟩ := h
 rw [bind_some] at h; obtain ⟨q, hq, h⟩ := h
 obtain ⟨p, J, rfl⟩ := yc.1 h
 obtain ⟨zl, zl2, zz⟩ := sN hq
 have hc := hv.cells
 have O : ∀ (j : Nat) (y : PV), q.2.1[j]? = some y → ∃ u, cv.cells.toList[j]? = some u ∧ PR w ((G.frz (aR G w mem q.2.2)).prot q.1) y u ∧ u.oneCell' = true ∧ y.cells = [y] := by
  intro j y V
  have W : j < v.cells.length := by rw [← zl]; exact (yd.1 V).1
  obtain ⟨lk, q3, _, Y, Z, h5, h6⟩ := zz j (v.cells[j]) (yf W)
  rw [V] at Z
  obtain rfl := ya Z
  have K : j < cv.cells.toList.length := by rw [← hc.1]; exact W
  have M := hc.2 j _ (yf W)
  rw [yi, yf K] at M
  obtain ⟨t1, t2, t3⟩ := Cl hM Y M
  refine ⟨_, yf K, t1.mono (fun B' o' H => ?_) (fun _ _ _ => rfl), t2, t3⟩
  rcases H with H | H
  ·left
   cases hb : q.1 with
   | false => rw [h6 hb] at H; exact H
   | true =>
    cases N : q3.1 with
    | false => rw [N] at H; exact hM.lab _ _ H
    | true => rw [N] at H; exact H
  ·exact .inr (H.mono h5)
 have I : p.cells = q.2.1 := by
  unfold vO at J
  split at J
  ·obtain rfl := ya J; rfl
  ·split at J
   ·rename_i c U
    obtain rfl := ya J
    obtain ⟨u, _, _, _, h⟩ := O 0 c (by rw [U]; rfl)
    rw [U]; exact h
   ·simp at J
  ·simp at J
 simp only
 rw [I]
 exact ⟨zl, fun j y V => by obtain ⟨u, h1, h2, Y, _⟩ := O j y V; exact ⟨u, h1, h2, Y⟩⟩
theorem bF.ofLRs {G : Gh} {w : World} {e : Nat} {cs : List AV} {vs : List Value} (h : gW G w cs vs) (K : jB cs = true) (I : cs.length = aN e cs.length * e) : bF G w (.avs e cs) vs := by
 refine ⟨by rw [← h.1]; exact I, h.ones K, by rw [yk2]; exact I, fun j y H => ?_⟩
 have J : j < vs.length := by rw [← h.1]; exact (yd.1 H).1
 have := h.2 j y H
 rw [yi, yf J] at this
 exact ⟨_, yf J, this⟩
theorem Fe {G : Gh} {w : World} {mem : aH} {b : Nat} {row : Row} {vs : List Value} {rest : Array Value} {t : TypeId} (hM : aF G w mem) (M : mem[b]? = some none) (Z : 1 ≤ row.e) (H : row.isOwn = false)
  (Y : bF G w row.all vs) : ∃ J, J = G.put b 0 ⟨some w.heap.size, row.e, row.len⟩ ∧ c8 G J ∧ Ev G w (w.alloc (.cells (vs.toArray ++ rest) t)) ∧
   aF J (w.alloc (.cells (vs.toArray ++ rest) t)) (mem.set b (some { gen := 0, frz := false, row })) ∧ J.loc b 0 = some ⟨some w.heap.size, row.e, row.len⟩ := by
 have K : G.loc b 0 = none := hM.unset b 0 (fun x U => by rw [M] at U; cases U)
 have O : c8 G (G.put b 0 ⟨some w.heap.size, row.e, row.len⟩) := c8.put (.inl K)
 have I := Ev.alloc G w (.cells (vs.toArray ++ rest) t) hM.away
 refine ⟨_, rfl, O, I, hM.make M Z (gI.ofList H (Y.mono O I) (fun j u N => ?_)) (fun i c B' W => by rw [W.own] at H; cases H), Gh.put_self ..⟩
 rw [jG]
 have V := (yd.1 N).1
 rw [yn2 (by simpa using V)]
 simpa using N
theorem Dt (t : TypeId) (c : Array Value) (w : World) : (newRow t c).run P w = .ok ⟨w.heap.size, 0, none⟩ (w.alloc (.cells c t)) := by
 simp [newRow]
theorem LW {G : Gh} {w : World} {mem : aH} {b n : Nat} {v : AV} {cv : Value} {t : TypeId} (hM : aF G w mem) (K : mem[b]? = some none) (N : VR G w v cv) (hn : v.cells.length = n) (h1 : 1 ≤ n) (V : jB v.cells = true) :
  ∃ J, c8 G J ∧ Ev G w (w.alloc (.cells cv.cells t)) ∧ aF J (w.alloc (.cells cv.cells t)) (mem.set b (some { gen := 0, frz := false, row := .cells 1 v.cells })) ∧
   VR J (w.alloc (.cells cv.cells t)) (.ptr b 0 0 0) (.pointer (some ⟨w.heap.size, 0, none⟩)) := by
 have O : v.cells.length = aN 1 v.cells.length * 1 := by simp [aN, Nat.beq]
 obtain ⟨J, rfl, U, H, I, M⟩ := Fe (row := .cells 1 v.cells) (vs := cv.cells.toList) (rest := #[]) (t := t) hM K (yy 1) rfl (bF.ofLRs N.cells V O)
 simp only [yf2, Array.append_empty] at H I
 refine ⟨_, U, H, I, ?_⟩
 have := VR.ptr (G := G.put b 0 ⟨some w.heap.size, (Row.cells 1 v.cells).e, (Row.cells 1 v.cells).len⟩) (w := w.alloc (.cells cv.cells t)) b 0 0 0 _ w.heap.size M rfl
 simpa using this
theorem Le {G : Gh} {w : World} {mem : aH} {o : Oper} {a : Act} {t : TypeId} {rs : Nat} {z : AV} (hM : aF G w mem) (Y : o.op = .alloc t) (N : mem[rs]? = some none) (Z : zero? P t = some z)
  (O : 1 ≤ z.cells.length) (H : jB z.cells = true) :
  kB P G w mem o a { v := .ptr rs 0 0 0, wr := [(rs, { gen := 0, frz := false, row := .cells 1 z.cells })] } := by
 obtain ⟨zv, I, J, _⟩ := Jf Z G w
 obtain ⟨W, V, K, M, U⟩ := LW (t := t) hM N J rfl O H
 refine ⟨W, _, _, _, ?_, .inl rfl, U, V, K, by rw [dI]; exact M⟩
 simp [execOp, Y, Instr.alloc, I, newVar, Dt]
theorem N5 {G : Gh} {w : World} {mem : aH} {o : Oper} {a : Act} {t : TypeId} {x : Operand} {rs n : Nat} {v : AV} (hM : aF G w mem) (W : o.op = .box t x) (K : mem[rs]? = some none) (O : VR G w v (a.eval x))
  (hn : v.cells.length = n) (N : 1 ≤ n) (H : jB v.cells = true) :
  kB P G w mem o a { v := .ptr rs 0 0 0, wr := [(rs, { gen := 0, frz := false, row := .cells 1 v.cells })] } := by
 obtain ⟨V, U, I, J, M⟩ := LW (t := t) hM K O hn N H
 refine ⟨V, _, _, _, ?_, .inl rfl, M, U, I, by rw [dI]; exact J⟩
 simp [execOp, W, Instr.box, newVar, Dt]
theorem AU {t : TypeId} {n B o : Nat} {cv : Value} {w : World} (hn : iN P t = some n) (H : cv.cells.size = n) (M : ∀ j, j < n → (cl w B (o + j)).isSome = true) (J : ∀ j, j < n → w.frozen? ⟨B, o + j, none⟩ = false)
  (K : ∀ u ∈ cv.cells.toList, u.oneCell' = true) : (storeVar t ⟨B, o, none⟩ cv).run P w = .ok () (w.setCells B o cv.cells.toList) := by
 have I := run_storeCells_cells (P := P) B o cv.cells.toList 0 w (by simpa [H] using M) (by simpa [H] using J) K
 rw [ym1] at I
 simp only [storeVar, Sem.run_bind, eD hn, Result.andThen_ok, Sem.run_ite, H, ne_eq, not_true_eq_false, if_false, Sem.run_pure, I]
theorem kK : ∀ {xs vs : List Value} {o j : Nat}, o + xs.length ≤ vs.length → (a6 vs o xs)[j]? = if o ≤ j ∧ j < o + xs.length then xs[j - o]? else vs[j]?
 | [], vs, o, j, h => by simp [a6]; omega
 | x :: xs, vs, o, j, h => by
  simp only [a6]
  simp only [yg2] at h
  rw [kK (xs := xs) (by simp; omega)]
  by_cases H : o + 1 ≤ j ∧ j < o + 1 + xs.length
  ·rw [if_pos H, if_pos (by simp; omega), show j - o = (j - (o + 1)) + 1 by omega, yd1]
  ·rw [if_neg H]
   by_cases I : j = o
   ·subst I
    rw [if_pos (by simp), yw (by omega)]; simp
   ·rw [yp (by omega), if_neg (by simp; omega)]
theorem JT.sub {G : Gh} {w M : World} {mem : aH} {b : Nat} {x x' : a9} {L : z4} {B : Nat} (hM : aF G w mem) (I : mem[b]? = some (some x)) (hB : eK G b x B) (hL : L.blk = some B)
  (U : ∀ B', iU G w mem b B' → M.heap[B']? = w.heap[B']?) (J : ∀ i c B', cP M B x'.row i c B' → cP w B x.row i c B') : JT G w M mem b x' L := by
 have PA : ∀ {C}, L.blk = some C → C = B := fun h => by rw [hL] at h; exact (ya h).symm
 refine ⟨U, fun C hC hO => ?_, fun C hC i c B' H => ?_, fun C hC i c N O B' H K => ?_⟩
 ·obtain rfl := PA hC; exact hM.other_ne I hB hO rfl
 ·obtain rfl := PA hC
  have H := J i c B' H
  refine ⟨hM.other_inn I hB H, ?_⟩
  rintro rfl
  exact hM.inA b b x x _ i c _ I hB H I hB
 ·obtain rfl := PA hC
  obtain ⟨_, h, V⟩ := hM.inB b b x x _ _ i c N O B' I hB (J i c B' H) I hB (J N O B' K)
  exact ⟨h, V⟩
theorem Gu {G : Gh} {w : World} {mem : aH} {b : Nat} {x : a9} {B : Nat} {row' : Row} {o : Nat} {xs : List Value} (hM : aF G w mem) (K : mem[b]? = some (some x)) (O : G.loc b x.gen = some ⟨some B, x.row.e, x.row.len⟩)
  (N : x.frz = false) (J : ∀ j, j < xs.length → (cl w B (o + j)).isSome = true) (Z : row'.e = x.row.e) (M : row'.len = x.row.len)
  (hr : Ev G w (w.setCells B o xs) → gI G (w.setCells B o xs) B row') (U : ∀ i c B', cP (w.setCells B o xs) B row' i c B' → cP w B x.row i c B') :
  Ev G w (w.setCells B o xs) ∧ aF G (w.setCells B o xs) (mem.set b (some { x with row := row' })) := by
 have hb := hM.box b x K
 have hB : eK G b x B := ⟨_, O, rfl⟩
 obtain ⟨_, W, h2, h3, h4, Y⟩ := hM.blk K hB
 have I := Ev.setCells (G := G) (vs := xs) W J (Y N)
 have V : b < mem.length := (yd.1 K).1
 refine ⟨I, ?_⟩
 have H : G.put b x.gen ⟨some B, x.row.e, x.row.len⟩ = G := by
  unfold Gh.put
  congr 1
  funext b' g'
  split
  ·rename_i hh; obtain ⟨rfl, rfl⟩ := hh; exact O.symm
  ·rfl
 have := hM.upd (x' := { x with row := row' }) (L := ⟨some B, x.row.e, x.row.len⟩) I V (.inr O) (.sub hM K hB rfl (fun B' hO => dG (w := w) (hM.other_ne K hB hO) xs o w) U) (fun g hg => hM.gens b x g K hg) ?_
 ·rw [H] at this; exact this
 ·rw [H]
  exact ⟨by show 1 ≤ row'.e; rw [Z]; exact hb.e, some B, by show G.loc b x.gen = some ⟨some B, row'.e, row'.len⟩; rw [Z, M]; exact O, W, by rw [kF]; exact h2, h3.setCells, hr I, Y⟩
theorem BP {G : Gh} {w : World} {mem : aH} {b : Nat} {x : a9} {B : Nat} {row' : Row} {vs : List Value} {o : Nat} {xs : List Value} (hM : aF G w mem) (Z : mem[b]? = some (some x)) (V : G.loc b x.gen = some ⟨some B, x.row.e, x.row.len⟩)
  (N : x.frz = false) (K : ∀ j, j < vs.length → cl w B j = vs[j]?) (ho : o + xs.length ≤ vs.length) (he : row'.e = x.row.e) (M : row'.len = x.row.len) (I : row'.isOwn = false)
  (Y : bF G w row'.all (a6 vs o xs)) :
  Ev G w (w.setCells B o xs) ∧ aF G (w.setCells B o xs) (mem.set b (some { x with row := row' })) := by
 have H : ∀ j, j < xs.length → (cl w B (o + j)).isSome = true := by
  intro j hj; rw [K _ (by omega), yf (by omega)]; rfl
 refine Gu hM Z V N H he M (fun O => gI.ofList I (Y.mono (c8.refl G) O) (fun j u J => ?_)) (fun i c B' W => by rw [W.own] at I; cases I)
 rw [kK ho] at J
 by_cases U : o ≤ j ∧ j < o + xs.length
 ·rw [if_pos U] at J
  obtain ⟨k, rfl⟩ : ∃ k, j = o + k := ⟨j - o, by omega⟩
  rw [jK H (by omega)]
  rw [yf3, yf (by omega)] at J; exact J
 ·rw [if_neg U] at J
  rw [iL (by omega), K _ (yd.1 J).1]; exact J
end
end Go.Ab
end
section
namespace Go.Ab
variable [b4]
theorem oP {b : Nat} : ∀ {l : List Nat}, eZ b l = true ↔ b ∈ l
 | [] => by simp [eZ]
 | m :: r => by simp only [eZ, yy1, bJ, yn1, oP (l := r)]; constructor <;> rintro (h | h) <;> first | exact .inl h.symm | exact .inr h
theorem FA : ∀ {xs vs : List PV} {o j : Nat}, o + xs.length ≤ vs.length → (oC vs o xs)[j]? = if o ≤ j ∧ j < o + xs.length then xs[j - o]? else vs[j]?
 | [], vs, o, j, h => by simp [oC]; omega
 | x :: xs, vs, o, j, h => by
  simp only [oC]
  simp only [yg2] at h
  rw [FA (xs := xs) (by simp; omega)]
  by_cases H : o + 1 ≤ j ∧ j < o + 1 + xs.length
  ·rw [if_pos H, if_pos (by simp; omega), show j - o = (j - (o + 1)) + 1 by omega, yd1]
  ·rw [if_neg H]
   by_cases I : j = o
   ·subst I
    rw [if_pos (by simp), yw (by omega)]; simp
   ·rw [yp (by omega), if_neg (by simp; omega)]
section
variable {P : Program}
theorem Il {G : Gh} {w : World} {mem : aH} {t : TypeId} {a x : AV} {out : dE} {ca Z : Value} (hM : aF G w mem) (h : iR P t mem a x = some out) (ha : VR G w a ca) (hx : VR G w x Z) :
  out.v = .lit undef ∧ ∃ G' w', (Instr.storeAt t ca Z).run P w = .ok () w' ∧ c8 G G' ∧ Ev G w w' ∧ aF G' w' (out.apply mem) := by
 unfold iR at h
 split at h
 ·rename_i b g i c
  rw [bind_some] at h; obtain ⟨bx, hbx, h⟩ := h
  rw [bind_some] at h; obtain ⟨n, hn, h⟩ := h
  rw [aA] at h; obtain ⟨hg, h⟩ := h
  simp only [yb, yq] at hg
  obtain ⟨O, J⟩ := hg
  have J := bJ.1 J
  obtain ⟨hm, hgen⟩ := box?_some hbx
  obtain ⟨B, rfl, hl, hmine, hB, hfz, hrow, hpr⟩ := hM.at_ptr hbx ha
  have he := (hM.box b bx hm).e
  obtain ⟨vs, hvs, hcl⟩ := hrow.toList he (box?_own hbx)
  have hxc := hx.cells
  have hsz : Z.cells.size = n := by rw [← J]; simpa using hxc.1.symm
  have hrun : ∀ o, o + n ≤ vs.length → (∀ u ∈ Z.cells.toList, u.oneCell' = true) → (Instr.storeAt t (.pointer (some ⟨B, o, none⟩)) Z).run P w = .ok () (w.setCells B o Z.cells.toList) := by
   intro o ho h1
   have hsome : ∀ j, j < n → (cl w B (o + j)).isSome = true := fun j M => by rw [hcl _ (by omega), yf (by omega)]; rfl
   have := AU (P := P) hn hsz hsome (fun j M => hfz.cell (hsome j M)) h1
   simp [Instr.storeAt, Instr.sureAddr, this]
  obtain ⟨gen, frz, row⟩ := bx
  simp only at O hgen hl hvs hcl he; subst hgen
  split at h
  ·rename_i e cs U
   simp only at U; subst U
   rw [aA] at h; obtain ⟨hc, h⟩ := h
   simp only [yb] at hc
   have hle := cU.1 hc.1
   obtain rfl := ya h
   refine ⟨rfl, ?_⟩
   obtain ⟨V, hv1, hcnt, hvv⟩ := hvs
   have hcl2 : vs.length = cs.length := by rw [V]; show aN e cs.length * e = cs.length; rw [yk2]; exact hcnt.symm
   have hL : gW G w cs vs := ⟨hcl2.symm, fun j y K => by obtain ⟨u, W, hp⟩ := hvv j y K; rw [yi, W]; exact hp⟩
   have H := hxc.ones hc.2
   have hnew := hL.setCells (i := i * e + c) hxc
   have I : bF G w (.avs e (setCells cs (i * e + c) x.cells)) (a6 vs (i * e + c) Z.cells.toList) := by
    have hsl : (setCells cs (i * e + c) x.cells).length = cs.length := lH (as := cs)
    refine ⟨?_, fun u W => ?_, by rw [hsl]; exact hcnt, fun j y K => ?_⟩
    ·show _ = aN e (setCells cs (i * e + c) x.cells).length * e
     rw [gU, hsl, hcl2, yk2]; exact hcnt
    ·obtain ⟨j, M, rfl⟩ := yt1 W
     have hg := kK (xs := Z.cells.toList) (vs := vs) (o := i * e + c) (j := j) (by simp [hsz]; omega)
     rw [yf M] at hg
     split at hg
     ·exact H _ (yt hg.symm)
     ·exact hv1 _ (yt hg.symm)
    ·have M : j < (a6 vs (i * e + c) Z.cells.toList).length := by rw [← hnew.1]; exact (yd.1 K).1
     have := hnew.2 j y K
     rw [yi, yf M] at this
     exact ⟨_, yf M, this⟩
   have hsl : (setCells cs (i * e + c) x.cells).length = cs.length := lH (as := cs)
   obtain ⟨hev, hM'⟩ := BP (row' := .cells e (setCells cs (i * e + c) x.cells)) (o := i * e + c) (xs := Z.cells.toList) hM hm hl O hcl (by simp [hsz]; omega) rfl (by simp only [Row.len]; rw [hsl]) rfl I
   exact ⟨G, _, hrun _ (by show i * e + c + n ≤ _; omega) H, c8.refl G, hev, by rw [dI]; exact hM'⟩
  ·rename_i k xs U
   simp only at U; subst U
   split at h
   ·rename_i k' z _
    rw [aA] at h; obtain ⟨hc, h⟩ := h
    simp only [yb] at hc
    obtain ⟨⟨hk, hc0⟩, hi⟩ := hc
    rw [jL] at hk; subst hk
    obtain rfl := bJ.1 hc0
    have hi := cU.1 hi
    obtain rfl := ya h
    refine ⟨rfl, ?_⟩
    obtain rfl := hx.lit_inv
    obtain ⟨V, hv1, hvv⟩ := hvs
    simp only [Row.all, aI.len, aI.e, ye3] at V
    have hcells : (Value.int k z).cells.toList = [Value.int k z] := rfl
    have I : bF G w (.ints k (xs.set i z)) (a6 vs i [Value.int k z]) := by
     refine ⟨by simp [aI.len, aI.e, gU, V], fun u W => ?_, fun j y K => ?_⟩
     ·simp only [a6] at W
      rcases yl2 W with h | h
      ·exact hv1 u h
      ·rw [h]; rfl
     ·simp only [a6]
      by_cases e : j = i
      ·subst e
       rw [yw (by omega)] at K ⊢
       simp at K; rw [K]
      ·rw [yp (fun x => e x.symm)] at K ⊢
       exact hvv j y K
    have hn1 : n = 1 := by rw [← J]; rfl
    subst hn1
    obtain ⟨hev, hM'⟩ := BP (row' := .ints k (xs.set i z)) (o := i) (xs := [Value.int k z]) hM hm hl O hcl (by simp; omega) rfl (by simp [Row.len]) rfl I
    refine ⟨G, _, ?_, c8.refl G, hev, by rw [dI]; exact hM'⟩
    have := hrun i (by omega) (by simp [hcells, Value.oneCell'])
    rw [hcells] at this
    have e0 : i * (Row.ints k xs).e + 0 = i := by simp [Row.e]
    rw [e0]; exact this
   ·simp at h
  ·rename_i β e xs U
   simp only at U; subst U
   rw [bind_some] at h; obtain ⟨p, hp, h⟩ := h
   rw [bind_some] at h; obtain ⟨q, hq, h⟩ := h
   rw [aA] at h; obtain ⟨hc, h⟩ := h
   simp only [yb, yq] at hc
   obtain ⟨⟨hce, hpl⟩, hnb⟩ := hc
   have hce := cU.1 hce
   have hpl := bJ.1 hpl
   have hnb : b ∉ q.2.2 := fun hh => by rw [oP.2 hh] at hnb; cases hnb
   obtain rfl := ya h
   refine ⟨rfl, ?_⟩
   obtain ⟨ql, qq⟩ := qQ hM hq hx
   have hM1 := hM.freeze q.2.2
   have hg1 := c8.frz G (aR G w mem q.2.2) hM.inBoxes
   have hm1 : (aJ mem (bZ mem q.2.2))[b]? = some (some ⟨gen, frz, .pvs β e xs⟩) := by
    rw [(dV mem q.2.2 mem b rfl).2.1 (.inl hnb)]; exact hm
   have hvs1 : bF (G.frz (aR G w mem q.2.2)) w (.pvs β e xs) vs := hvs.mono hg1 (Ev.refl G w)
   obtain ⟨V, hv1, hxl, hvv⟩ := hvs1
   simp only [aI.len, aI.e] at V
   simp only [Row.e] at he
   have hi := (yd.1 hp).1
   have hpos : i * e + c + n ≤ vs.length := by
    rw [V]
    calc i * e + c + n ≤ i * e + e := by omega
     _ = (i + 1) * e := by rw [yk1]; simp
     _ ≤ xs.length * e := yz1 _ hi
   have H : ∀ u ∈ Z.cells.toList, u.oneCell' = true := by
    intro u W
    obtain ⟨j, M, rfl⟩ := yt1 W
    have hj2 : j < q.2.1.cells.length := by rw [ql, hxc.1]; exact M
    obtain ⟨u', hu', _, h1⟩ := qq j _ (yf hj2)
    rw [yf M] at hu'
    obtain rfl := ya hu'; exact h1
   generalize hp' : (bif n.beq e && c.beq 0 then q.2.1 else PV.agg (oC p.cells c q.2.1.cells)) = p'
   have hp'c : ∀ (j : Nat), p'.cells[j]? = if c ≤ j ∧ j < c + n then q.2.1.cells[j - c]? else p.cells[j]? := by
    intro j
    have hqn : q.2.1.cells.length = n := by rw [ql, J]
    cases N : (n.beq e && c.beq 0) with
    | true =>
     rw [N] at hp'; simp only [yl] at hp'; subst hp'
     simp only [yb] at N
     obtain rfl := bJ.1 N.1
     obtain rfl := bJ.1 N.2
     by_cases M : j < n
     ·rw [if_pos (by omega)]; simp
     ·rw [if_neg (by omega), ya1 (by omega), ya1 (by omega)]
    | false =>
     rw [N] at hp'; simp only [yk] at hp'; subst hp'
     show (oC p.cells c q.2.1.cells)[j]? = _
     rw [FA (by omega), hqn]
   have hp'l : p'.cells.length = e := by
    have h1 : p'.cells[e]? = none := by rw [hp'c, if_neg (by omega), ya1 (by omega)]
    have h2 : ∃ y, p'.cells[e - 1]? = some y := by
     rw [hp'c]
     split
     ·rename_i hh; exact ⟨_, yf (by rw [ql, J]; omega)⟩
     ·exact ⟨_, yf (by omega)⟩
    obtain ⟨y, K⟩ := h2
    have := (yd.1 K).1
    have := List.getElem?_eq_none_iff.1 h1
    omega
   have I : bF (G.frz (aR G w mem q.2.2)) w (.pvs (β || q.1) e (xs.set i p')) (a6 vs (i * e + c) Z.cells.toList) := by
    have hg := fun j => kK (xs := Z.cells.toList) (vs := vs) (o := i * e + c) (j := j) (by simp [hsz]; omega)
    have Y := hM1.lab
    refine ⟨by simp [aI.len, aI.e, gU, V], fun u W => ?_, fun x hx => ?_, fun i' x c' y hx K => ?_⟩
    ·obtain ⟨j, M, rfl⟩ := yt1 W
     have hg := hg j
     rw [yf M] at hg
     split at hg
     ·exact H _ (yt hg.symm)
     ·exact hv1 _ (yt hg.symm)
    ·rcases yl2 hx with h | h
     ·exact hxl x h
     ·rw [h]; exact hp'l
    ·have hc'e : c' < e := by
      have h0 := (yd.1 K).1
      have : x.cells.length = e := by
       rcases yl2 (yt hx) with h | h
       ·exact hxl x h
       ·rw [h]; exact hp'l
      omega
     rw [hg]
     simp only [yu1, hsz]
     by_cases hii : i' = i
     ·subst hii
      rw [yw hi] at hx
      obtain rfl := ya hx
      rw [hp'c] at K
      by_cases N : c ≤ c' ∧ c' < c + n
      ·rw [if_pos N] at K
       rw [if_pos (by omega), show i' * e + c' - (i' * e + c) = c' - c by omega]
       obtain ⟨u, W, hpu, _⟩ := qq _ y K
       exact ⟨u, W, hpu.weak' Y⟩
      ·rw [if_neg N] at K
       rw [if_neg (by omega)]
       obtain ⟨u, W, hpu⟩ := hvv i' p c' y hp K
       exact ⟨u, W, hpu.weak Y⟩
     ·rw [yp (fun x => hii x.symm)] at hx
      obtain ⟨u, W, hpu⟩ := hvv i' x c' y hx K
      refine ⟨u, ?_, hpu.weak Y⟩
      rw [if_neg ?_]
      ·exact W
      ·rintro ⟨h1, h2⟩
       rcases Nat.lt_or_gt_of_ne hii with hlt | hlt
       ·have : i' * e + e ≤ i * e := by
         calc i' * e + e = (i' + 1) * e := by rw [yk1]; simp
          _ ≤ i * e := yz1 _ hlt
        omega
       ·have : i * e + e ≤ i' * e := by
         calc i * e + e = (i + 1) * e := by rw [yk1]; simp
          _ ≤ i' * e := yz1 _ hlt
        omega
   obtain ⟨hev, hM'⟩ := BP (row' := .pvs (β || q.1) e (xs.set i p')) (o := i * e + c) (xs := Z.cells.toList) hM1 hm1 hl O hcl (by simp [hsz]; omega) rfl (by simp [Row.len]) rfl I
   refine ⟨_, _, hrun _ (by show i * e + c + n ≤ _; omega) H, hg1, ?_, by rw [MN]; exact hM'⟩
   have hjj : ∀ j, j < Z.cells.toList.length → i * e + c + j < vs.length := fun j M => by simp [hsz] at M; omega
   exact Ev.setCells hmine (fun j M => by show (cl w B (i * e + c + j)).isSome = true; rw [hcl _ (hjj j M), yf (hjj j M)]; rfl) (hpr O)
  ·cases h
 ·simp at h
end
end Go.Ab
end
section
namespace Go.Ab
variable [b4]
section
variable {P : Program}
structure A6 (P : Program) (t et : TypeId) (s : Nat) (i : TypeInfo) (z : Value) : Prop where
 under : P.underlying t = some (.slice et)
 info : P.info? et = some i
 size : i.size = s
 zero : i.zero = some z
 zsize : z.cells.size = s
 bytes : i.bytes ≤ 4096
 one : 1 ≤ s
theorem sI {n bytes : Nat} (hn : n ≤ bD) (H : bytes ≤ 4096) : n * bytes ≤ 140737488355328 := by
 have : n * bytes ≤ n * 4096 := Nat.mul_le_mul_left n H
 unfold bD at hn
 omega
structure vN (G : Gh) (w : World) (mem : aH) (b g' : Nat) (row' : Row) (Bold : Option Nat) (vs : List Value) : Prop where
 row : ∀ (w1 : World) (B' : Nat), Ev G w w1 → (∀ X, X < w.heap.size → Bold ≠ some X → w1.heap[X]? = w.heap[X]?) → (∀ j u, vs[j]? = some u → cl w1 B' j = some u) → gI (G.put b g' ⟨some B', row'.e, row'.len⟩) w1 B' row'
 inn : ∀ (w1 : World) (B' i c X : Nat), (∀ j u, vs[j]? = some u → cl w1 B' j = some u) → cP w1 B' row' i c X → ∃ (x : a9) (B : Nat), mem[b]? = some (some x) ∧ eK G b x B ∧ cP w B x.row i c X
theorem vN.plain {G : Gh} {w : World} {mem : aH} {b g' : Nat} {row' : Row} {Bold : Option Nat} {vs : List Value} (J : G.loc b g' = none) (K : row'.isOwn = false) (M : bF G w row'.all vs) : vN G w mem b g' row' Bold vs :=
 ⟨fun N B' I _ H => gI.ofList K (M.mono (c8.put (.inl J)) I) H, fun N B' i c X _ h => by rw [h.own] at K; cases K⟩
theorem Jq {G : Gh} {w J : World} {mem : aH} {b g' : Nat} {row' : Row} {B' : Nat} {Bold : Option Nat} {vs : List Value} (hM : aF G w mem) (hb : b < mem.length) (Z : Ev G w J) (O : ∀ g, g' ≤ g → G.loc b g = none)
  (he : 1 ≤ row'.e) (V : G.mine B') (hlt : B' < J.heap.size) (hfz : fS J B') (hpr : ∀ β o, ¬ G.prot β B' o)
  (H : ∀ X, X < w.heap.size → Bold ≠ some X → J.heap[X]? = w.heap[X]?) (W : ∀ X, iU G w mem b X → Bold ≠ some X) (I : B' = w.heap.size ∨ ∃ x, mem[b]? = some (some x) ∧ eK G b x B' ∧ Bold = some B')
  (hv : vN G w mem b g' row' Bold vs) (K : ∀ j u, vs[j]? = some u → cl J B' j = some u) :
  ∃ G', c8 G G' ∧ G'.loc b g' = some ⟨some B', row'.e, row'.len⟩ ∧ aF G' J (mem.set b (some { gen := g', frz := false, row := row' })) := by
 have hg : c8 G (G.put b g' ⟨some B', row'.e, row'.len⟩) := c8.put (.inl (O g' (yy _)))
 have Y : ∀ X, iU G w mem b X → X ≠ B' := by
  intro X hO
  rcases I with rfl | ⟨x, U, hB, _⟩
  ·exact Nat.ne_of_lt (hM.other hO).2.1
  ·exact hM.other_ne U hB hO
 refine ⟨_, hg, Gh.put_self .., hM.upd (x' := { gen := g', frz := false, row := row' }) Z hb (.inl (O g' (yy _))) ⟨fun X hO => H X (hM.other hO).2.1 (W X hO), fun C hC hO => ?_, fun C hC i c X hi => ?_, fun C hC i c i2 c2 X hi N => ?_⟩ (fun g hg => O g (Nat.le_of_lt hg)) ?_⟩
 ·simp only [Option.some.injEq] at hC; subst hC
  exact Y _ hO rfl
 ·simp only [Option.some.injEq] at hC; subst hC
  obtain ⟨x, B, U, hB, M⟩ := hv.inn J B' i c X K hi
  refine ⟨hM.other_inn U hB M, ?_⟩
  rcases I with hp | ⟨x', hx', hB', _⟩
  ·rw [hp]; exact Nat.ne_of_lt (hM.inn U hB M).2.1
  ·intro hXB
   rw [hXB] at M
   exact hM.inA b b x x' B i c _ U hB M hx' hB'
 ·simp only [Option.some.injEq] at hC; subst hC
  obtain ⟨x, B, U, hB, hi⟩ := hv.inn J B' i c X K hi
  obtain ⟨x2, B2, hx2, hB2, N⟩ := hv.inn J B' i2 c2 X K N
  exact (hM.inB b b x x2 B B2 i c i2 c2 X U hB hi hx2 hB2 N).2
 ·exact ⟨he, some B', Gh.put_self .., V, hlt, hfz, hv.row J B' Z H K, fun _ => hpr⟩
theorem Ba {G : Gh} {w : World} {mem : aH} {b g' : Nat} {row' : Row} (hM : aF G w mem) (K : b < mem.length) (H : ∀ g, g' ≤ g → G.loc b g = none)
  (N : 1 ≤ row'.e) (O : row'.len = 0) (M : row'.isCells = false) :
  ∃ I, c8 G I ∧ I.loc b g' = some ⟨none, row'.e, row'.len⟩ ∧ aF I w (mem.set b (some { gen := g', frz := false, row := row' })) := by
 have J : c8 G (G.put b g' ⟨none, row'.e, row'.len⟩) := c8.put (.inl (H g' (yy _)))
 refine ⟨_, J, Gh.put_self .., hM.upd (x' := { gen := g', frz := false, row := row' }) (Ev.refl G w) K (.inl (H g' (yy _))) ⟨fun _ _ => rfl, fun _ h => (nomatch h), fun _ h => (nomatch h), fun _ h => (nomatch h)⟩ (fun g J => H g (Nat.le_of_lt J)) ?_⟩
 exact ⟨N, none, Gh.put_self .., O, M⟩
theorem oZ (w : World) (c : Array Value) (t : TypeId) : (∀ B, B < w.heap.size → (w.drew.alloc (.cells c t)).heap[B]? = w.heap[B]?) ∧ (w.drew.alloc (.cells c t)).heap.size = w.heap.size + 1 ∧
  (∀ j, cl (w.drew.alloc (.cells c t)) w.heap.size j = c[j]?) ∧ fS (w.drew.alloc (.cells c t)) w.heap.size := by
 refine ⟨fun B hB => ?_, by simp, fun j => ?_, ?_⟩
 ·have := eV (w := w.drew) (o := .cells c t) (B := B) (by simpa using hB)
  rw [this]; rfl
 ·have := jG (w := w.drew) (c := c) (t := t) (fr := (0, 0)) (j := j)
  simpa using this
 ·exact fS.alloc (w := w.drew)
theorem Ev.drew_alloc (G : Gh) (w : World) (o : Obj) (I : ∀ β B x, G.prot β B x → B < w.heap.size) (H : ∃ c t, o = .cells c t := by exact ⟨_, _, rfl⟩) : Ev G w (w.drew.alloc o) :=
 (Ev.drew G w).trans (c8.refl G) (Ev.alloc G w.drew o I H)
theorem II {G : Gh} {w : World} {mem : aH} {b g' : Nat} {row' : Row} {t K ty tx : TypeId} {s : Nat} {i : TypeInfo} {z : Value} {base : Option Addr} {len cap n : Nat} {olds H : List Value} {y : Value}
    (hM : aF G w mem) (hb : b < mem.length) (hno : ∀ g, g' ≤ g → G.loc b g = none) (hE : A6 P t K s i z)
    (Y : (Builtin.firstCells i.size len (.slice base len cap)).run P w.drew = .ok olds.toArray w.drew) (hol : olds.length = len * s) (hs : Src P s tx y n H w)
    (J : cap < len + n) (I : len + n ≤ bD) (he : row'.e = s) (N : row'.len = len + n) {Bold : Option Nat} (U : ∀ X, iU G w mem b X → Bold ≠ some X) (hv : vN G w mem b g' row' Bold (olds ++ H)) :
    ∃ V w1 cv, (Builtin.append_ #[t, tx] ty #[.slice base len cap, y]).run P w = .ok cv w1 ∧ VR V w1 (.msw b g') cv ∧ c8 G V ∧ Ev G w w1 ∧ aF V w1 (mem.set b (some { gen := g', frz := false, row := row' })) := by
  have Z := growslice_fits (bytes := i.bytes) J (sI I hE.bytes)
  have O := run_append_grow_src (P := P) w t tx ty K i z hE.under hE.info hE.zero base len cap olds Y y n H (by rw [hE.size]; exact hs) J (by unfold bD at I; omega) Z
  generalize hc : (olds ++ H).toArray ++ Builtin.zeroCells z.cells (grownCap w (len + n) cap K - (len + n)) = c at O
  obtain ⟨f1, f2, f3, f4⟩ := oZ w c K
  have W := Ev.drew_alloc G w (.cells c K) hM.away
  have M : len + n ≤ grownCap w (len + n) cap K := grownCap_ge w _ _ _
  have hcl : ∀ j u, (olds ++ H)[j]? = some u → cl (w.drew.alloc (.cells c K)) w.heap.size j = some u := by
    intro j u hu
    rw [f3, ← hc, yn2 (by simpa using (yd.1 hu).1)]
    simpa using hu
  obtain ⟨V, hg, hl, hM'⟩ := Jq (row' := row') (B' := w.heap.size) (vs := olds ++ H) hM hb W hno (by rw [he]; exact hE.one) (hM.own _ (yy _)) (by rw [f2]; omega) f4
    (fun β o hp => absurd (hM.away β _ o hp) (Nat.lt_irrefl _)) (fun X hX _ => f1 X hX) U (.inl rfl) hv hcl
  refine ⟨V, _, _, O, ?_, hg, W, hM'⟩
  generalize grownCap w (len + n) cap K = C at hc M ⊢
  have hk : VR V (w.drew.alloc (.cells c K)) (.msw b g') (.slice (some ⟨w.heap.size, 0, none⟩) row'.len C) := by
   refine .msw b g' _ _ w.heap.size hl rfl (by simp only; rw [N]; exact M) (fun j hj => ?_)
   simp only [he] at hj
   rw [f3, ← hc]
   have hn := hs.newsLen
   rw [yl1 (by
    simp only [Array.size_append, List.size_toArray, yi1, size_zeroCells, hol, hn, hE.zsize]
    rw [← yk1, ← yk1]
    exact yh1 hj (yz1 _ (by omega)))]
   rfl
  rw [N] at hk; exact hk
theorem zE {G : Gh} {w : World} {mem : aH} {b : Nat} {x : a9} {row' : Row} {B cap H J : Nat} {vs0 I : List Value} {t et ty tx : TypeId} {s : Nat} {i : TypeInfo} {z : Value} {y : Value}
  (hM : aF G w mem) (hx : mem[b]? = some (some x)) (hl : G.loc b x.gen = some ⟨some B, x.row.e, x.row.len⟩) (hfrz : x.frz = false) (hE : A6 P t et s i z)
  (O : vs0.length = H * s) (Z : ∀ j u, vs0[j]? = some u → cl w B j = some u) (hcap : H ≤ cap) (Y : Bk w B (cap * s))
  (hs : Src P s tx y J I w) (hre : row'.e = s) (V : row'.len = H + J) (hok : vN G w mem b (x.gen + 1) row' (some B) (vs0 ++ I)) (hmost : row'.len ≤ bD) :
  ∃ G' w1 cv, (Builtin.append_ #[t, tx] ty #[.slice (some ⟨B, 0, none⟩) H cap, y]).run P w = .ok cv w1 ∧ VR G' w1 (.msw b (x.gen + 1)) cv ∧ c8 G G' ∧ Ev G w w1 ∧
   aF G' w1 (mem.set b (some { gen := x.gen + 1, frz := false, row := row' })) := by
 have hbl : b < mem.length := (yd.1 hx).1
 have hno : ∀ g, x.gen + 1 ≤ g → G.loc b g = none := fun g hg => hM.gens b x g hx hg
 have hB : eK G b x B := ⟨_, hl, rfl⟩
 have hnl := hs.newsLen
 have N : ∀ X, iU G w mem b X → some B ≠ some X := fun X hO h => hM.other_ne hx hB hO (ya h).symm
 by_cases M : H + J ≤ cap
 ·obtain ⟨_, h1, h2, h3, h4, h5⟩ := hM.blk hx hB
  have K : ∀ j, j < I.length → (cl w B (H * s + j)).isSome = true := by
   intro j W
   refine Y _ ?_
   rw [hnl] at W
   calc H * s + j < H * s + J * s := by omega
    _ = (H + J) * s := by rw [yk1]
    _ ≤ cap * s := yz1 _ M
  have hrun := run_append_room_src (P := P) w t tx ty et i hE.under hE.info B 0 H cap y J I (by rw [hE.size]; exact hs) M
   (fun j W => by rw [hE.size, yc1]; exact K j W) (fun j W => by rw [hE.size, yc1]; exact h3.cell (K j W))
  rw [hE.size, yc1] at hrun
  have hev := Ev.setCells (G := G) (vs := I) h1 K (h5 hfrz)
  have hcl : ∀ j u, (vs0 ++ I)[j]? = some u → cl (w.setCells B (H * s) I) B j = some u := by
   intro j u U
   by_cases W : j < vs0.length
   ·rw [yn W] at U
    rw [iL (by rw [← O]; exact .inl W)]; exact Z j u U
   ·rw [yu (by omega)] at U
    obtain ⟨k, rfl⟩ : ∃ k, j = H * s + k := ⟨j - vs0.length, by omega⟩
    rw [O, yf3] at U
    have hk := (yd.1 U).1
    rw [jK K hk]
    rw [yf hk] at U; exact U
  obtain ⟨G', hg, hl2, hM'⟩ := Jq (row' := row') (B' := B) (Bold := some B) (vs := vs0 ++ I) hM hbl hev hno (by rw [hre]; exact hE.one) h1 (by rw [kF]; exact h2)
   h3.setCells (h5 hfrz) (fun X _ hX => dG (w := w) (fun h => hX (by rw [h])) I _ w) N (.inr ⟨x, hx, hB, rfl⟩) hok hcl
  refine ⟨G', _, _, hrun, ?_, hg, hev, hM'⟩
  have hk : VR G' (w.setCells B (H * s) I) (.msw b (x.gen + 1)) (.slice (some ⟨B, 0, none⟩) row'.len cap) := by
   refine .msw b (x.gen + 1) cap _ B hl2 rfl (by simp only; rw [V]; exact M) ?_
   simp only [hre]
   exact Y.mono hev
  rw [V] at hk; exact hk
 ·refine II (row' := row') (olds := vs0) (s := s) hM hbl hno hE ?_ O hs (by omega) (by rw [← V]; exact hmost) hre V N hok
  rw [hE.size]
  exact run_firstCells_some w.drew s H ⟨B, 0, none⟩ H cap vs0 O (fun j u U => by rw [dA, yc1]; exact Z j u U)
theorem FP {G : Gh} {w : World} {mem : aH} {b : Nat} {x : a9} {xv yv Y : aI} {B cap : Nat} {vs0 H : List Value} {t et ty tx : TypeId} {s : Nat} {i : TypeInfo} {z : Value} {y : Value}
  (hM : aF G w mem) (hx : mem[b]? = some (some x)) (hl : G.loc b x.gen = some ⟨some B, x.row.e, x.row.len⟩) (V : x.frz = false) (hE : A6 P t et s i z) (hse : s = x.row.e)
  (W : xv.e = s) (K : bF G w xv vs0) (O : ∀ j u, vs0[j]? = some u → cl w B j = some u) (N : xv.len ≤ cap) (M : Bk w B (cap * s))
  (hs : Src P s tx y yv.len H w) (J : bF G w yv H) (U : xv.app P et yv = some Y) (I : Y.len ≤ bD) :
  ∃ G' Z cv, (Builtin.append_ #[t, tx] ty #[.slice (some ⟨B, 0, none⟩) xv.len cap, y]).run P w = .ok cv Z ∧ VR G' Z (.msw b (x.gen + 1)) cv ∧ c8 G G' ∧ Ev G w Z ∧
   aF G' Z (mem.set b (some { gen := x.gen + 1, frz := false, row := Y.row })) := by
 obtain ⟨hz, hze, hze2, hzl⟩ := Gl hM.lab U K J
 exact zE hM hx hl V hE (by rw [K.1, W]) O N M hs (by rw [mV, hze, W]) (by rw [gS, hzl])
  (.plain (hM.gens b x _ hx (yx2 _)) (lU Y) (by rw [lL]; exact hz)) (by rw [gS]; exact I)
theorem kR {G : Gh} {w : World} {mem : aH} {b g' : Nat} {row' : Row} {n : Nat} {H : List Value} {t W ty U : TypeId} {s : Nat} {i : TypeInfo} {z : Value} {y : Value}
  (hM : aF G w mem) (V : b < mem.length) (K : ∀ g, g' ≤ g → G.loc b g = none) (hE : A6 P t W s i z) (hs : Src P s U y n H w) (hn : n ≤ bD) (Y : row'.e = s) (I : row'.len = n) (hv : vN G w mem b g' row' none H)
  (hc : n = 0 → row'.isCells = false) :
  ∃ M N cv, (Builtin.append_ #[t, U] ty #[.slice none 0 0, y]).run P w = .ok cv N ∧ VR M N (.msw b g') cv ∧ c8 G M ∧ Ev G w N ∧
   aF M N (mem.set b (some { gen := g', frz := false, row := row' })) := by
 by_cases h0 : n = 0
 ·subst h0
  have J : H = [] := yo (by rw [hs.newsLen]; simp)
  subst J
  obtain ⟨M, hg, Z, O⟩ := Ba (row' := row') hM V K (by rw [Y]; exact hE.one) I (hc rfl)
  exact ⟨M, w, _, run_append_nothing (P := P) w t U ty W i hE.under hE.info none 0 0 (yy _) y (by rw [hE.size]; exact hs), .mswNil b g' _ Z rfl I, hg, Ev.refl G w, O⟩
 ·exact II (row' := row') (olds := []) (base := none) (len := 0) (cap := 0) hM V K hE (run_firstCells_none w.drew i.size 0 0 0) (by simp) hs (by omega) (by omega) Y (by omega) (Bold := none) (fun _ _ h => by cases h) (by simpa using hv)
end
end Go.Ab
end
section
namespace Go.Ab
variable [b4]
theorem aF.protect {G : Gh} {w : World} {mem : aH} (hM : aF G w mem) (S : Nat → Nat → Prop) (hS : ∀ B o, S B o → B < w.heap.size ∧ G.mine B ∧ (∀ (b : Nat) (x : a9) (e n : Nat), mem[b]? = some (some x) → x.frz = false → G.loc b x.gen ≠ some ⟨some B, e, n⟩) ∧
   ∀ (b : Nat) (x : a9) (C i c : Nat), mem[b]? = some (some x) → eK G b x C → ¬ cP w C x.row i c B) :
  aF (G.frz S) w mem := by
 refine ⟨fun b x h => ?_, hM.unset, hM.gens, hM.apart, hM.inA, hM.inB, hM.own, fun B o h => h.imp (hM.lab B o) id, fun β B o h => h.elim (hM.away β B o) (fun h => (hS B o h).1), hM.glob.mono (fun _ _ h => .inl h) fun _ _ _ => rfl⟩
 have M := hM.box b x h
 obtain ⟨o, I, hm⟩ := M.loc
 refine ⟨M.e, o, I, ?_⟩
 cases o with
 | none => exact hm
 | some B =>
  obtain ⟨N, O, V, U, W⟩ := hm
  have hB : eK G b x B := ⟨_, I, rfl⟩
  refine ⟨N, O, V, U.mono (c8.frz G S fun B o h => (hS B o h).2.1) (Ev.refl G w) (fun _ _ => rfl) (fun i c B' J => ⟨.of rfl, fun β o H => ?_⟩), fun K β o H => ?_⟩
  ·rcases H with H | H
   ·exact (hM.inn h hB J).2.2.2 β o H
   ·exact (hS B' o H).2.2.2 b x B i c h hB J
  ·rcases H with H | H
   ·exact W K β o H
   ·exact (hS B o H).2.2.1 b x _ _ h K I
theorem aF.new_tree {G : Gh} {w J : World} {mem : aH} (hM : aF G w mem) (H : Ev G w J) (K : ∀ B, B < w.heap.size → J.heap[B]? = w.heap[B]?) (V : J.heap.size = w.heap.size + 1) :
  aF (G.frz fun B _ => B = w.heap.size) J mem := by
 have N := hM.ev H (.inr H.size) K
 refine N.protect _ fun B o h => ?_
 subst h
 refine ⟨by omega, hM.own _ (yy _), fun b x e n M _ O => ?_, fun b x C i c M hC U => ?_⟩
 ·obtain ⟨o, I, hm⟩ := (hM.box b x M).loc
  rw [O] at I
  have := congrArg z4.blk (ya I)
  simp only at this; subst this
  exact Nat.lt_irrefl _ hm.2.1
 ·have hs : ∀ o, cl J C o = cl w C o := fun o => cI (K C (hM.blk M hC).2.2.1) o
  exact Nat.lt_irrefl _ (hM.inn M hC (U.same hs)).2.1
theorem CJ {G : Gh} {w : World} {v : aI} {a : AV} {vs : List Value} {B cap : Nat} (U : bF G w v vs) (N : v.imm? = some a) (he : 1 ≤ v.e) (M : ∀ j u, vs[j]? = some u → cl w B j = some u)
  (V : ∀ β o, G.prot β B o) (I : v.len ≤ cap) : VR G w a (.slice (some ⟨B, 0, none⟩) v.len cap) := by
 cases v with
 | ints k xs =>
  obtain rfl := ya N
  obtain ⟨_, _, h⟩ := U
  exact .imm _ _ _ (.ints k xs B 0 cap I fun i x H => by rw [yc1]; exact ⟨M _ _ (h i x H), V _ _⟩) rfl
 | pvs β e xs =>
  obtain rfl := ya N
  obtain ⟨_, W, Y, h⟩ := U
  have J : ∀ (i : Nat) (x : PV) (c : Nat) (y : PV), xs[i]? = some x → x.cells[c]? = some y → vs[i * e + c]? = some (vs.getD (i * e + c) undef) ∧ PR w (G.prot β) y (vs.getD (i * e + c) undef) := by
   intro i x c y H K
   obtain ⟨u, Z, O⟩ := h i x c y H K
   rw [yi, Z]; exact ⟨rfl, O⟩
  exact .imm _ _ _ (.sl e xs B 0 cap (fun i c => vs.getD (i * e + c) undef) he I Y (fun i x c y H K => by rw [yc1]; exact ⟨M _ _ (J i x c y H K).1, V _ _⟩)
   (fun i x c y H K => W _ (yt (J i x c y H K).1)) (fun i x c y H K => (J i x c y H K).2)) rfl
 | avs e cs => simp [aI.imm?] at N
theorem I8 {G : Gh} {w : World} {v : aI} {a : AV} (H : v.imm? = some a) (I : v.len = 0) : VR G w a (.slice none 0 0) := by
 cases v with
 | ints k xs =>
  obtain rfl := ya H
  obtain rfl := yo I
  exact .imm _ _ _ (.intsNil k _) rfl
 | pvs β e xs =>
  obtain rfl := ya H
  obtain rfl := yo I
  exact .imm _ _ _ (.slNil e _) rfl
 | avs e cs => simp [aI.imm?] at H
section
variable {P : Program}
theorem Gf {t H : TypeId} {s bytes : Nat} {z : AV} (I : elemOf? P t = some H) (J : iN P H = some s) (M : jI P H = some bytes) (V : zero? P H = some z) (h5 : bytes ≤ 4096) (Y : 1 ≤ s) (W : z.cells.length = s) :
  ∃ i U, A6 P t H s i U := by
 obtain ⟨i, U, N, hz, K⟩ := j1 V
 have Z : P.underlying t = some (.slice H) := by
  unfold elemOf? at I
  split at I
  ·obtain rfl := ya I; assumption
  ·simp at I
 have O := (k8 (G := ⟨fun _ _ => none, fun _ _ _ => False, fun _ => False⟩) (w := default) K).cells
 refine ⟨i, U, Z, N, ?_, hz, ?_, ?_, Y⟩
 ·unfold iN at J; rw [N] at J; simpa using J
 ·rw [← W, O.1]; simp
 ·unfold jI at M; rw [N] at M; simp at M; omega
theorem F5 {G : Gh} {w : World} {vars : Bool} {U : TypeId} {v : aI} {row : Row} {vs : List Value} (h : kT P vars U v = some row) (I : bF G w v vs) (N : 1 ≤ v.e) :
  row.e = v.e ∧ row.len = v.len ∧ bF G w row.all vs ∧ (v.len = 0 → row.isCells = false) := by
 unfold kT at h
 cases vars with
 | true =>
  simp only [yl] at h
  rw [aA] at h; obtain ⟨K, h⟩ := h
  have K := cU.1 K
  rw [bind_some] at h; obtain ⟨cs, J, h⟩ := h
  rw [aA] at h; obtain ⟨O, h⟩ := h
  obtain rfl := ya h
  have hL := Cd J I
  have M : cs.length = v.len * v.e := by rw [hL.1, I.1]
  refine ⟨rfl, ?_, bF.ofLRs hL O ?_, fun h0 => by omega⟩
  ·show aN v.e cs.length = v.len
   rw [M, gB (n := 0) N]
  ·rw [M, gB (n := 0) N]
 | false =>
  simp only [yk] at h
  split at h
  ·simp at h
  ·rename_i H
   obtain rfl := ya h
   refine ⟨mV _, gS _, by rw [lL]; exact I, fun _ => ?_⟩
   cases v with
   | avs e cs => exact absurd rfl (H e cs)
   | ints k xs => rfl
   | pvs β e xs => rfl
theorem Ib {vars : Bool} {H : TypeId} {v : aI} {row : Row} (h : kT P vars H v = some row) : row.isOwn = false := by
 unfold kT at h
 cases vars with
 | true =>
  simp only [yl] at h
  rw [aA] at h; obtain ⟨hl, h⟩ := h
  rw [bind_some] at h; obtain ⟨cs, I, h⟩ := h
  rw [aA] at h; obtain ⟨h1, h⟩ := h
  obtain rfl := ya h
  rfl
 | false =>
  simp only [yk] at h
  split at h
  ·simp at h
  ·obtain rfl := ya h
   exact lU _
theorem J0 {H : TypeId} {x y z : aI} (h : x.app P H y = some z) (I : x.row.isCells = false) : z.row.isCells = false := by
 unfold aI.app at h
 split at h
 ·rw [aA] at h; obtain ⟨_, h⟩ := h; obtain rfl := ya h; rfl
 ·rw [aA] at h; obtain ⟨_, h⟩ := h; obtain rfl := ya h; rfl
 ·simp [aI.row, Row.isCells] at I
 ·simp at h
theorem Jo {r : Row} {o n : Nat} {v : aI} (h : r.sub o n = some v) (hr : r.isCells = false) : v.row.isCells = false := by
 cases r with
 | ints k xs => simp only [Row.sub] at h; rw [aA] at h; obtain ⟨_, h⟩ := h; obtain rfl := ya h; rfl
 | pvs β e xs => simp only [Row.sub] at h; rw [aA] at h; obtain ⟨_, h⟩ := h; obtain rfl := ya h; rfl
 | cells e cs => simp [Row.isCells] at hr
 | own e xs hs => cases h
theorem J6 {r : Row} (hr : r.isCells = false) : r.all.row.isCells = false := by cases r <;> first | rfl | cases hr
theorem s8 {G : Gh} {w : World} {mem : aH} {b : Nat} {x : a9} {xv U K : aI} {I : List Value} {t et ty tx : TypeId} {s : Nat} {i : TypeInfo} {z : Value} {y : Value}
  (hM : aF G w mem) (Y : mem[b]? = some (some x)) (hE : A6 P t et s i z) (Z : xv.e = s) (hx0 : xv.len = 0) (N : xv.row.isCells = false) (W : bF G w xv [])
  (hs : Src P s tx y U.len I w) (J : bF G w U I) (H : xv.app P et U = some K) (O : K.len ≤ bD) :
  ∃ V M cv, (Builtin.append_ #[t, tx] ty #[.slice none 0 0, y]).run P w = .ok cv M ∧ VR V M (.msw b (x.gen + 1)) cv ∧ c8 G V ∧ Ev G w M ∧
   aF V M (mem.set b (some { gen := x.gen + 1, frz := false, row := K.row })) := by
 obtain ⟨hz, hze, _, hzl⟩ := Gl hM.lab H W J
 exact kR hM (yd.1 Y).1 (fun g hg => hM.gens b x g Y hg) hE hs (by omega) (by rw [mV, hze, Z]) (by rw [gS]; omega) (.plain (hM.gens b x _ Y (yx2 _)) (lU K) (by rw [lL]; simpa using hz)) (fun _ => J0 H N)
theorem bF.nilOf {G : Gh} {w : World} {v : aI} (H : v.len = 0) (I : v.row.isCells = false) : bF G w v [] := by
 cases v with
 | ints k xs =>
  obtain rfl := yo H
  exact ⟨rfl, by simp, by simp⟩
 | pvs β e xs =>
  obtain rfl := yo H
  exact ⟨by simp [aI.len], by simp, by simp⟩
 | avs e cs => simp [aI.row, Row.isCells] at I
theorem OW {r : Row} {o n : Nat} {v : aI} (I : 1 ≤ r.e) (h : r.sub o n = some v) : v.len = n := by
 cases r with
 | ints k xs =>
  simp only [Row.sub] at h; rw [aA] at h; obtain ⟨H, h⟩ := h; obtain rfl := ya h
  have := cU.1 H
  simp [aI.len]; omega
 | pvs β e xs =>
  simp only [Row.sub] at h; rw [aA] at h; obtain ⟨H, h⟩ := h; obtain rfl := ya h
  have := cU.1 H
  simp [aI.len]; omega
 | cells e cs =>
  simp only [Row.sub] at h; rw [aA] at h; obtain ⟨H, h⟩ := h; obtain rfl := ya h
  have H := cU.1 H
  rw [yk1] at H
  have : ((cs.drop (o * e)).take (n * e)).length = n * e := by simp; omega
  simp only [aI.len]
  rw [this]
  exact gB (n := 0) I n
 | own e xs hs => cases h
theorem F9 {G : Gh} {w : World} {mem : aH} {boxed vars : Bool} {t tx ty : TypeId} {rs : Nat} {x y : AV} {out : dE} {cx cy : Value} (hM : aF G w mem) (hrs : mem[rs]? = some none)
  (h : gO P boxed vars t tx mem rs x y = some out) (hx : VR G w x cx) (hy : VR G w y cy) :
  ∃ G' w1 cv, (Builtin.append_ #[t, tx] ty #[cx, cy]).run P w = .ok cv w1 ∧ VR G' w1 out.v cv ∧ c8 G G' ∧ Ev G w w1 ∧ aF G' w1 (out.apply mem) := by
 unfold gO at h
 rw [bind_some] at h; obtain ⟨et, het, h⟩ := h
 rw [bind_some] at h; obtain ⟨s, hs, h⟩ := h
 rw [bind_some] at h; obtain ⟨bytes, hby, h⟩ := h
 rw [bind_some] at h; obtain ⟨z, hz, h⟩ := h
 rw [bind_some] at h; obtain ⟨yv, hyv, h⟩ := h
 rw [aA] at h; obtain ⟨hg, h⟩ := h
 simp only [yb] at hg
 obtain ⟨⟨⟨⟨g1, g2⟩, g3⟩, g4⟩, g5⟩ := hg
 have g1 := bJ.1 g1; have g3 := cU.1 g3; have g4 := cU.1 g4; have g5 := bJ.1 g5
 obtain ⟨i, zv0, hE⟩ := Gf het hs hby hz g3 g4 g5
 obtain ⟨N, H, I⟩ := yT hM hyv hy (by rw [← g1]; exact hs) g2
 rw [← g1] at H
 split at h
 ·obtain rfl := hx.lit_inv
  rw [aA] at h; obtain ⟨hml, h⟩ := h
  have hml := cU.1 hml
  have hno : ∀ g, 0 ≤ g → G.loc rs g = none := fun g _ => hM.unset rs g (fun x hx => by rw [hrs] at hx; cases hx)
  have hrl := (yd.1 hrs).1
  cases boxed with
  | true =>
   simp only [yl] at h
   obtain ⟨row, hrow, rfl⟩ := yc.1 h
   obtain ⟨r1, r2, r3, r4⟩ := F5 hrow I (by omega)
   rw [dI]
   exact kR hM hrl hno hE H hml (by rw [r1, g1]) r2 (.plain (hno 0 (yy _)) (Ib hrow) r3) r4
  | false =>
   simp only [yk] at h
   obtain ⟨v, hv, rfl⟩ := yc.1 h
   rw [FS]
   by_cases h0 : yv.1.len = 0
   ·rw [h0] at H
    have hnn : N = [] := yo (by rw [H.newsLen]; simp)
    subst hnn
    exact ⟨G, w, _, run_append_nothing (P := P) w t tx ty et i hE.under hE.info none 0 0 (yy _) cy (by rw [hE.size]; exact H), I8 hv h0, c8.refl G, Ev.refl G w, hM⟩
   ·have hrun := run_append_grow_src (P := P) w t tx ty et i zv0 hE.under hE.info hE.zero none 0 0 [] (run_firstCells_none w.drew i.size 0 0 0) cy yv.1.len N (by rw [hE.size]; exact H) (by omega)
     (by unfold bD at hml; omega) (growslice_fits (bytes := i.bytes) (by omega) (sI (by omega) hE.bytes))
    generalize hc : ([] ++ N).toArray ++ Builtin.zeroCells zv0.cells (grownCap w (0 + yv.1.len) 0 et - (0 + yv.1.len)) = c at hrun
    obtain ⟨f1, f2, f3, f4⟩ := oZ w c et
    have hev := Ev.drew_alloc G w (.cells c et) hM.away
    have hM' := hM.new_tree hev f1 f2
    have hg := c8.frz G (fun B _ => B = w.heap.size) (fun B _ h => by subst h; exact hM.own _ (yy _))
    refine ⟨_, _, _, hrun, ?_, hg, hev, hM'⟩
    have Y : 0 + yv.1.len ≤ grownCap w (0 + yv.1.len) 0 et := grownCap_ge w _ _ _
    generalize grownCap w (0 + yv.1.len) 0 et = C at hc Y ⊢
    rw [yc1] at Y ⊢
    refine CJ (vs := N) (I.mono hg hev) hv (by omega) (fun j u V => ?_) (fun β o => .inr rfl) Y
    rw [f3, ← hc, yn2 (by simpa using (yd.1 V).1)]
    simpa using V
 ·rename_i b g
  rw [bind_some] at h; obtain ⟨bx, W, h⟩ := h
  rw [bind_some] at h; obtain ⟨zv, Z, h⟩ := h
  rw [aA] at h; obtain ⟨hc, h⟩ := h
  simp only [yb, yq] at hc
  obtain ⟨⟨c1, O⟩, c3⟩ := hc
  have O := bJ.1 O; have c3 := cU.1 c3
  obtain rfl := ya h
  rw [dI]
  obtain ⟨hm, rfl⟩ := box?_some W
  have he := (hM.box b bx hm).e
  cases hx with
  | msw _ _ cap L B hl U hn hf =>
   obtain ⟨o, K, M⟩ := (hM.box b bx hm).loc
   have J := hl
   rw [K] at J
   obtain rfl := ya J
   simp only at U; subst U
   obtain ⟨h1, h2, h3, h4, h5⟩ := M
   obtain ⟨vs, hvs, hcl'⟩ := h4.toList he (box?_own W)
   have hcl : ∀ j u, vs[j]? = some u → cl w B j = some u := fun j u V => by rw [hcl' j (yd.1 V).1]; exact V
   have := FP (P := P) (ty := ty) (xv := bx.row.all) (cap := cap) hM hm K c1 hE O (by rw [oV, O]) hvs hcl (by rw [dP]; exact hn) (by rw [O]; exact hf) H I Z c3
   rw [dP] at this
   exact this
  | mswNil _ _ L hl U hn =>
   obtain ⟨o, K, M⟩ := (hM.box b bx hm).loc
   have J := hl
   rw [K] at J
   obtain rfl := ya J
   simp only at U; subst U
   have hc0 := J6 M.2
   have hl0 : bx.row.all.len = 0 := by rw [dP]; exact M.1
   exact s8 hM hm hE (by rw [oV, O]) hl0 hc0 (bF.nilOf hl0 hc0) H I Z c3
 ·rename_i b g n
  rw [bind_some] at h; obtain ⟨bx, W, h⟩ := h
  rw [bind_some] at h; obtain ⟨xv, hxv, h⟩ := h
  rw [bind_some] at h; obtain ⟨zv, Z, h⟩ := h
  rw [aA] at h; obtain ⟨hc, h⟩ := h
  simp only [yb, yq] at hc
  obtain ⟨⟨c1, O⟩, c3⟩ := hc
  have O := bJ.1 O; have c3 := cU.1 c3
  obtain rfl := ya h
  rw [dI]
  obtain ⟨hm, rfl⟩ := box?_some W
  have he := (hM.box b bx hm).e
  have hxl := OW he hxv
  have hxe := NC hxv
  cases hx with
  | ms _ _ _ _ cap L B hl U hn hon hf =>
   obtain ⟨o, K, M⟩ := (hM.box b bx hm).loc
   have J := hl
   rw [K] at J
   obtain rfl := ya J
   simp only at U; subst U
   obtain ⟨h1, h2, h3, h4, h5⟩ := M
   obtain ⟨vs, hvs, hcl'⟩ := h4.toList he (box?_own W)
   have hcl : ∀ j u, vs[j]? = some u → cl w B j = some u := fun j u V => by rw [hcl' j (yd.1 V).1]; exact V
   have hsub := wA he hxv hvs
   simp only [yc1] at hf
   have hw0 : bF G w xv (vs.take (n * bx.row.e)) := by simpa using hsub.1
   have := FP (P := P) (ty := ty) (cap := cap) hM hm K c1 hE O (by rw [hxe, O]) hw0
    (fun j u V => by
     refine hcl j u ?_
     have hj := (yd.1 V).1
     rw [yb3] at hj
     rw [yj1, if_pos (by omega)] at V; exact V) (by rw [hxl]; exact hn) (by rw [O]; exact hf) H I Z c3
   rw [hxl] at this
   simp only [yd3]
   exact this
  | msNil _ _ L hl U =>
   obtain ⟨o, K, M⟩ := (hM.box b bx hm).loc
   have J := hl
   rw [K] at J
   obtain rfl := ya J
   simp only at U; subst U
   have hc0 := Jo hxv M.2
   exact s8 hM hm hE (by rw [hxe, O]) hxl hc0 (bF.nilOf hxl hc0) H I Z c3
  | msZ _ _ _ B oo L hl U ho hon => omega
 ·simp at h
end
end Go.Ab
end
section
namespace Go.Ab
variable [b4]
def flat (us : List Value) : List Value := us.flatMap fun u => u.cells.toList
theorem gQ (u : Value) (us : List Value) : flat (u :: us) = u.cells.toList ++ flat us := by simp [flat]
theorem gD {e : Nat} : ∀ {us : List Value}, (∀ u ∈ us, u.cells.size = e) → (flat us).length = us.length * e
 | [], _ => by simp [flat]
 | u :: us, h => by
  rw [gQ, yi1, gD (fun x H => h x (yh _ H)), yu1, h u (ym ..), yg2, yk1]
  omega
theorem o6 {e : Nat} : ∀ {us : List Value} {i c : Nat} {u : Value}, (∀ u ∈ us, u.cells.size = e) → us[i]? = some u → c < e → (flat us)[i * e + c]? = u.cells.toList[c]?
 | [], i, c, u, h, H, I => by simp at H
 | v :: us, 0, c, u, h, H, I => by
  simp at H; subst H
  rw [gQ, yd3, yc1, yn (by rw [yu1, h v (ym ..)]; exact I)]
 | v :: us, i + 1, c, u, h, H, I => by
  have J := h v (ym ..)
  rw [gQ, yu (by rw [yu1, J, yk1]; omega), yu1, J, show (i + 1) * e + c - e = i * e + c by rw [yk1]; omega]
  exact o6 (fun x K => h x (yh _ K)) (by simpa using H) I
theorem IJ {us : List Value} {x : Value} (h : x ∈ flat us) : ∃ u ∈ us, x ∈ u.cells.toList := List.mem_flatMap.1 h
theorem sG : ∀ {xs a b : List Value} {k : Nat}, a6 (a ++ b) (a.length + k) xs = a ++ a6 b k xs
 | [], a, b, k => rfl
 | x :: xs, a, b, k => by
  simp only [a6]
  rw [List.set_append_right _ _ (by omega), yf3, yc3]
  exact sG
theorem sO : ∀ {xs a b : List Value} {p : List Value}, xs.length = a.length → a6 (p ++ (a ++ b)) p.length xs = p ++ (xs ++ b)
 | [], a, b, p, h => by
  have := yo h.symm
  subst this; simp [a6]
 | x :: xs, [], b, p, h => by simp at h
 | x :: xs, y :: a, b, p, h => by
  simp only [a6]
  rw [List.set_append_right _ _ (by omega), Nat.sub_self]
  simp only [yp2, List.set_cons_zero]
  have := sO (xs := xs) (a := a) (b := b) (p := p ++ [x]) (by simpa using h)
  simpa using this
theorem I6 {e : Nat} : ∀ {us : List Value} {i : Nat} {v : Value}, (∀ u ∈ us, u.cells.size = e) → v.cells.size = e → i < us.length → a6 (flat us) (i * e) v.cells.toList = flat (us.set i v)
 | [], i, v, h, I, H => by simp at H
 | u :: us, 0, v, h, I, H => by
  have := sO (xs := v.cells.toList) (a := u.cells.toList) (b := flat us) (p := []) (by simp [I, h u (ym ..)])
  rw [List.set_cons_zero, gQ, gQ, yd3]; exact this
 | u :: us, i + 1, v, h, I, H => by
  have K := h u (ym ..)
  rw [List.set_cons_succ, gQ, gQ, show (i + 1) * e = u.cells.toList.length + i * e by rw [yu1, K, yk1]; omega, sG,
   I6 (fun x J => h x (yh _ J)) I (by simpa using H)]
def fL (us : List Value) : List (Nat × Value) → List Value
 | [] => us
 | (i, v) :: r => fL (us.set i v) r
theorem sK : ∀ {qs : List (Nat × Value)} {us : List Value}, (fL us qs).length = us.length
 | [], us => rfl
 | (i, v) :: r, us => by rw [fL, sK]; simp
theorem oE {e : Nat} : ∀ {qs : List (Nat × Value)} {us : List Value}, (∀ u ∈ us, u.cells.size = e) → (∀ q ∈ qs, q.2.cells.size = e) → ∀ u ∈ fL us qs, u.cells.size = e
 | [], us, h, _ => h
 | (i, v) :: r, us, h, J => by
  refine oE (qs := r) (us := us.set i v) (fun u K => ?_) (fun q I => J q (yh _ I))
  rcases yl2 K with H | H
  ·exact h u H
  ·rw [H]; exact J (i, v) (ym ..)
theorem Bf {s : Nat} : ∀ {qs : List (Nat × Value)} {us : List Value} {c : Array Value}, c.toList = flat us → (∀ u ∈ us, u.cells.size = s) → (∀ q ∈ qs, q.2.cells.size = s ∧ q.1 < us.length) →
  ∃ V, Instr.fill (fun i => some (i * s, s)) c qs = some V ∧ V.toList = flat (fL us qs)
 | [], us, c, J, _, _ => ⟨c, rfl, J⟩
 | (i, v) :: r, us, c, J, N, O => by
  obtain ⟨I, M⟩ := O (i, v) (ym ..)
  simp only at I M
  have H : (v.cells.zipIdx.foldl (fun cs (c, j) => cs.setIfInBounds (i * s + j) c) c).toList = a6 c.toList (i * s) v.cells.toList := by
   have := Bi v.cells.toList (i * s) 0 c
   rw [ym1] at this
   rw [← this, ← Array.foldl_toList]
   simp
  have U : c.size = us.length * s := by rw [← gD N, ← J]; simp
  have W : i * s + v.cells.size ≤ c.size := by
   rw [U, I]
   calc i * s + s = (i + 1) * s := by rw [yk1]; omega
    _ ≤ us.length * s := yz1 _ M
  simp only [Instr.fill]
  rw [if_neg (by simp only [yy1, decide_eq_true_eq]; omega)]
  refine Bf (us := us.set i v) (by rw [H, J, I6 N I M]) (fun u h => ?_) (fun q h => ⟨(O q (yh _ h)).1, by simpa using (O q (yh _ h)).2⟩)
  rcases yl2 h with K | K
  ·exact N u K
  ·rw [K]; exact I
theorem iY (z : Array Value) (J : 1 ≤ z.size) : ∀ n, ((Array.range (n * z.size)).map (z[· % z.size]!)).toList = (List.replicate n z.toList).flatten
 | 0 => by simp
 | n + 1 => by
  have I := iY z J n
  simp only [Array.toList_map, Array.toList_range] at I ⊢
  rw [yk1, Nat.one_mul, List.range_add, yk3, I, List.replicate_succ', List.flatten_append]
  congr 1
  simp only [List.flatten_cons, List.flatten_nil, yg1, List.map_map]
  apply List.ext_getElem
  ·simp
  ·intro j H h2
   simp at H
   have : (n * z.size + j) % z.size = j := by
    rw [Nat.add_comm, Nat.add_mul_mod_self_right]; exact Nat.mod_eq_of_lt H
   simp [this, H]
theorem e6 (n : Nat) (z : Value) : flat (List.replicate n z) = (List.replicate n z.cells.toList).flatten := by
 induction n with
 | zero => rfl
 | succ n H => rw [List.replicate_succ, gQ, H, List.replicate_succ, List.flatten_cons]
theorem Py {G : Gh} (H : ∀ B o, G.prot false B o → G.prot true B o) {β β' : Bool} (h : β' = false → β = false) {w : World} {p : PV} {v : Value} (J : PR w (G.prot β) p v) : PR w (G.prot β') p v := by
 refine J.mono (fun B o I => ?_) (fun _ _ _ => rfl)
 cases β' with
 | false => rw [h rfl] at I; exact I
 | true => cases β with
  | true => exact I
  | false => exact H _ _ I
section
variable {P : Program}
theorem D0 {G : Gh} {w : World} {mem : aH} {boxed : Bool} {rs : Nat} {v : aI} {vs : List Value} {out : dE} {t : TypeId} (hM : aF G w mem) (U : mem[rs]? = some none) (h : rD boxed rs v = some out)
  (N : bF G w v vs) (Y : 1 ≤ v.e) :
  ∃ M, c8 G M ∧ Ev G w (w.alloc (.cells vs.toArray t)) ∧ aF M (w.alloc (.cells vs.toArray t)) (aJ mem out.wr) ∧ VR M (w.alloc (.cells vs.toArray t)) out.v (.slice (some ⟨w.heap.size, 0, none⟩) v.len v.len) ∧ out.push = [] := by
 have J : ∀ j u, vs[j]? = some u → cl (w.alloc (.cells vs.toArray t)) w.heap.size j = some u := fun j u hu => by
  rw [jG]; simpa using hu
 unfold rD at h
 cases boxed with
 | true =>
  simp only [yl] at h
  obtain rfl := ya h
  obtain ⟨M, rfl, hg, H, I, Z⟩ := Fe (row := v.row) (vs := vs) (rest := #[]) (t := t) hM U (by rw [mV]; exact Y) (lU v) (by rw [lL]; exact N)
  rw [Array.append_empty] at H I
  refine ⟨_, hg, H, I, ?_, rfl⟩
  have W : VR (G.put rs 0 ⟨some w.heap.size, v.row.e, v.row.len⟩) (w.alloc (.cells vs.toArray t)) (.msw rs 0) (.slice (some ⟨w.heap.size, 0, none⟩) v.row.len v.len) := by
   refine .msw rs 0 v.len _ w.heap.size Z rfl (by simp only [gS]; exact yy _) (fun j V => ?_)
   simp only [mV] at V
   have O : j < vs.length := by rw [N.1]; exact V
   rw [J j _ (yf O)]; rfl
  rw [gS] at W ⊢; exact W
 | false =>
  simp only [yk] at h
  obtain ⟨a, ha, rfl⟩ := yc.1 h
  have H := Ev.alloc G w (.cells vs.toArray t) hM.away
  have I := hM.new_tree H (fun B hB => eV hB) (by simp)
  have K := c8.frz G (fun B _ => B = w.heap.size) (fun B _ h => by subst h; exact hM.own _ (yy _))
  refine ⟨_, K, H, I, ?_, rfl⟩
  exact CJ (vs := vs) (N.mono K H) ha Y J (fun β o => .inr rfl) (yy _)
theorem pL {G : Gh} {w : World} : ∀ {vs : List AV} {us : List Value}, gW G w vs us → gW G w (gC vs) (flat us)
 | [], us, h => by
  have := yo h.1.symm
  subst this; exact ⟨rfl, fun j y H => by simp [gC] at H⟩
 | v :: vs, [], h => by simp [gW] at h
 | v :: vs, u :: us, h => by
  rw [gC, gQ]
  refine gW.append (h.2 0 v rfl).cells (pL ⟨by simpa using h.1, fun j y H => by simpa using h.2 (j + 1) y (by simpa using H)⟩)
theorem gW.get {G : Gh} {w : World} {as : List AV} {vs : List Value} (h : gW G w as vs) {j : Nat} {a : AV} (H : as[j]? = some a) : ∃ u, vs[j]? = some u ∧ VR G w a u := by
 have I : j < vs.length := by rw [← h.1]; exact (yd.1 H).1
 have := h.2 j a H
 rw [yi, yf I] at this
 exact ⟨_, yf I, this⟩
theorem zG {k : IntKind} : ∀ {vs : List AV} {xs : List Int}, fA k vs = some xs → xs.length = vs.length ∧ ∀ (j : Nat) (x : Int), xs[j]? = some x → vs[j]? = some (.lit (.int k x))
 | [], xs, h => by simp [fA] at h; subst h; exact ⟨rfl, fun j x H => by simp at H⟩
 | v :: vs, xs, h => by
  unfold fA at h
  split at h
  ·simp_all
  ·rename_i M x r K
   obtain ⟨rfl, rfl⟩ := yx K
   cases I : gK k M with
   | false => rw [I] at h; simp at h
   | true =>
    rw [I] at h; simp only [yl] at h
    obtain ⟨ys, J, rfl⟩ := yc.1 h
    rw [jL] at I; subst I
    obtain ⟨N, O⟩ := zG J
    refine ⟨by simp [N], fun j x H => ?_⟩
    cases j with
    | zero => simp at H; subst H; rfl
    | succ j => simpa using O j x (by simpa using H)
  ·simp at h
theorem Hh {G : Gh} {w : World} {mem : aH} {vars : Bool} {t : TypeId} {vs : List AV} {us : List Value} {r : aI × List Nat} {s : Nat} (hM : aF G w mem) (h : mR P vars mem t vs = some r) (hL : gW G w vs us)
  (Y : ∀ u ∈ us, u.cells.size = s) (hs : 1 ≤ s) (J : r.1.e = s) : bF (G.frz (aR G w mem r.2)) w r.1 (flat us) ∧ r.1.len = vs.length := by
 have V := gD Y
 unfold mR at h
 split at h
 ·rename_i k hk
  obtain ⟨xs, hxs, rfl⟩ := yc.1 h
  obtain ⟨M, hh⟩ := zG hxs
  simp only [aI.e] at J; subst J
  have N : ∀ (i : Nat) (x : Int), xs[i]? = some x → (flat us)[i]? = some (.int k x) := by
   intro i x I
   obtain ⟨u, K, H⟩ := hL.get (hh i x I)
   obtain rfl := H.lit_inv
   have := o6 Y K (c := 0) (by omega)
   rw [ye3, ym1] at this
   exact this
  refine ⟨⟨by simp only [aI.len, aI.e]; rw [V, M, hL.1], fun u K => ?_, N⟩, by simpa [aI.len] using M⟩
  obtain ⟨j, hj, rfl⟩ := yt1 K
  have hj2 : j < xs.length := by rw [M, hL.1]; omega
  have := N j _ (yf hj2)
  rw [yf hj] at this
  rw [ya this]; rfl
 ·rw [bind_some] at h; obtain ⟨e, he, h⟩ := h
  cases vars with
  | true =>
   simp only [yl] at h
   rw [aA] at h; obtain ⟨hg, h⟩ := h
   simp only [yb] at hg
   obtain rfl := ya h
   simp only [aI.e] at J; subst J
   have hcs := pL hL
   have M : (gC vs).length = vs.length * e := by rw [hcs.1, V, hL.1]
   have hcb : aN e (gC vs).length = vs.length := by rw [M, gB (n := 0) hs]
   exact ⟨(bF.ofLRs hcs hg.2 (by rw [hcb]; exact M)).mono (c8.frz G _ hM.inBoxes) (Ev.refl G w), hcb⟩
  | false =>
   simp only [yk] at h
   obtain ⟨q, hq, rfl⟩ := yc.1 h
   simp only [aI.e] at J; subst J
   obtain ⟨M, hh⟩ := qF hq
   have hlab : ∀ B o, (G.frz (aR G w mem q.2.2)).prot false B o → (G.frz (aR G w mem q.2.2)).prot true B o := fun B o h => h.imp (hM.lab B o) id
   have N : ∀ (i : Nat) (x : PV), q.2.1[i]? = some x → ∃ v u Z, vs[i]? = some v ∧ us[i]? = some u ∧ VR G w v u ∧ rP P mem t v = some Z ∧ Z.2.1 = x ∧ (∀ b ∈ Z.2.2, b ∈ q.2.2) ∧ (q.1 = false → Z.1 = false) := by
    intro i x I
    have hi : i < vs.length := by rw [← M]; exact (yd.1 I).1
    obtain ⟨Z, h1, h2, h3, h4⟩ := hh i _ (yf hi)
    obtain ⟨u, K, H⟩ := hL.get (yf hi)
    rw [I] at h2
    exact ⟨_, u, Z, yf hi, K, H, h1, (ya h2).symm, h3, h4⟩
   have hsz : ∀ (i : Nat) (x : PV), q.2.1[i]? = some x → x.cells.length = e := by
    intro i x I
    obtain ⟨v, u, Z, hv, K, H, h1, rfl, h3, h4⟩ := N i x I
    obtain ⟨ql, _⟩ := qQ hM h1 H
    rw [ql, H.cells.1, yu1]; exact Y u (yt K)
   have U : ∀ (i : Nat) (x : PV) (c : Nat) (y : PV), q.2.1[i]? = some x → x.cells[c]? = some y → ∃ u, (flat us)[i * e + c]? = some u ∧ PR w ((G.frz (aR G w mem q.2.2)).prot q.1) y u ∧ u.oneCell' = true := by
    intro i x c y I hy
    have hce : c < e := by rw [← hsz i x I]; exact (yd.1 hy).1
    obtain ⟨v, u, Z, hv, K, H, h1, rfl, h3, h4⟩ := N i x I
    obtain ⟨ql, qq⟩ := qQ hM h1 H
    obtain ⟨u', W, hpr, O⟩ := qq c y hy
    refine ⟨u', by rw [o6 Y K hce]; exact W, Py hlab h4 (hpr.mono (fun B o hb => hb.imp id (fun hi => hi.mono h3)) (fun _ _ _ => rfl)), O⟩
   refine ⟨⟨by simp only [aI.len, aI.e]; rw [V, M, hL.1], fun u K => ?_, fun x I => ?_, fun i x c y I hy => ?_⟩, by simpa [aI.len] using M⟩
   ·obtain ⟨j, hj, rfl⟩ := yt1 K
    have hj' := hj
    rw [V] at hj'
    have hi : j / e < us.length := Nat.div_lt_of_lt_mul (by rw [yk2]; exact hj')
    have hc : j % e < e := Nat.mod_lt _ hs
    have hi2 : j / e < q.2.1.length := by rw [M, hL.1]; exact hi
    have I := yf hi2
    have hy : j % e < (q.2.1[j / e]).cells.length := by rw [hsz _ _ I]; exact hc
    obtain ⟨u', W, _, O⟩ := U _ _ _ _ I (yf hy)
    have hjj : j / e * e + j % e = j := by rw [yk2]; exact Nat.div_add_mod j e
    rw [hjj, yf hj] at W
    rw [ya W]; exact O
   ·obtain ⟨j, hj, rfl⟩ := yt1 I
    exact hsz j _ (yf hj)
   ·obtain ⟨u, K, hpr, _⟩ := U i x c y I hy
    exact ⟨u, K, hpr⟩
theorem zD {G : Gh} {w : World} : ∀ {ps : List (Nat × AV)} {qs : List (Nat × Value)} {vs : List AV} {us : List Value}, gW G w vs us → Pf G w ps qs → gW G w (mS vs ps) (fL us qs)
 | [], qs, vs, us, h, H => by
  have := yo H.1.symm
  subst this; exact h
 | (i, v) :: r, [], vs, us, h, H => by simp [Pf] at H
 | (i, v) :: r, (i', u) :: qs, vs, us, h, H => by
  obtain ⟨u', J, K⟩ := H.2 0 (i, v) rfl
  simp only [yq2, Option.some.injEq, Prod.mk.injEq] at J
  obtain ⟨rfl, rfl⟩ := J
  exact zD (ps := r) (qs := qs) (h.set K) ⟨by simpa using H.1, fun j p I => by simpa using H.2 (j + 1) p (by simpa using I)⟩
theorem oI : ∀ {ps : List (Nat × AV)} {vs : List AV}, (mS vs ps).length = vs.length
 | [], vs => rfl
 | (i, v) :: r, vs => by rw [mS, oI]; simp
theorem sJ {e : Nat} : ∀ {vs : List AV}, lV e vs = true → ∀ v ∈ vs, v.cells.length = e
 | [], _ => by simp
 | v :: vs, h => by
  simp only [lV, yb] at h
  intro x H
  rcases yn1.1 H with rfl | H
  ·exact bJ.1 h.1
  ·exact sJ h.2 x H
theorem r9 {n : Nat} : ∀ {ps : List (Nat × AV)}, nG n ps = true → ∀ p ∈ ps, p.1 < n
 | [], _ => by simp
 | (i, v) :: r, h => by
  simp only [nG, yb] at h
  intro x H
  rcases yn1.1 H with rfl | H
  ·exact cU.1 h.1
  ·exact r9 h.2 x H
end
end Go.Ab
end
section
namespace Go.Ab
variable [b4]
theorem rJ : ∀ (l : List Int) (r : ByteArray), l.foldl (fun r n => r.push (UInt8.ofNat n.toNat)) r = ⟨r.data ++ (l.map fun n => UInt8.ofNat n.toNat).toArray⟩
 | [], r => by simp
 | b :: l, r => by
  simp only [List.foldl_cons]
  rw [rJ l]
  simp [ByteArray.push]
theorem HY (xs : List Int) : xs.foldl (fun r n => r.push (UInt8.ofNat n.toNat)) ByteArray.empty = i6 xs := by
 rw [rJ]
 have H : ByteArray.empty.data = #[] := rfl
 simp [i6, H]
section
variable {P : Program}
theorem CW {G : Gh} {w : World} {mem : aH} {boxed vars : Bool} {t U : TypeId} {rs len s : Nat} {z : AV} {ps : List (Nat × AV)} {qs : Array (Nat × Value)} {wv : aI × List Nat} {o : dE} (hM : aF G w mem) (hrs : mem[rs]? = some none)
  (I : elemOf? P t = some U) (hz : zero? P U = some z) (hs : iN P U = some s) (hg : (nG len ps && Nat.ble len 4096 && Nat.ble 1 s && Nat.ble s 4096 && lV s (z :: ps.map (·.2))) = true)
  (hv : mR P vars mem U (mS (List.replicate len z) ps) = some wv) (K : Nat.beq wv.1.e s = true) (ho : rD (boxed || Nat.beq len 0) rs wv.1 = some o) (hp : Pf G w ps qs.toList) :
  ∃ G' w' cv, (Instr.buildSlice t len qs).run P w = .ok cv w' ∧ VR G' w' o.v cv ∧ c8 G G' ∧ Ev G w w' ∧ aF G' w' (({ v := o.v, rd := wv.2, wr := bZ mem wv.2 ++ o.wr } : dE).apply mem) := by
 simp only [yb] at hg
 obtain ⟨⟨⟨⟨g1, g2⟩, g3⟩, g4⟩, g5⟩ := hg
 have g2 := cU.1 g2; have g3 := cU.1 g3; have g4 := cU.1 g4; have K := bJ.1 K
 have hu : P.underlying t = some (.slice U) := by
  unfold elemOf? at I
  split at I
  ·obtain rfl := ya I; assumption
  ·simp at I
 obtain ⟨i, H, hi, hzv, hov⟩ := j1 hz
 have J : i.size = s := by unfold iN at hs; rw [hi] at hs; simpa using hs
 have hzr : VR G w z H := k8 hov
 have hsz := sJ g5
 have O : H.cells.size = s := by rw [← hsz z (ym ..)]; simpa using hzr.cells.1.symm
 have hL0 : gW G w (List.replicate len z) (List.replicate len H) := by
  refine ⟨by simp, fun j y hy => ?_⟩
  obtain ⟨hj, rfl⟩ : j < len ∧ z = y := by
   have V := (yd.1 hy)
   obtain ⟨V, h2⟩ := V
   simp at V h2; exact ⟨V, h2⟩
  rw [yi, yw1, if_pos hj]; exact hzr
 have hL := zD hL0 hp
 have hq : ∀ q ∈ qs.toList, q.2.cells.size = s ∧ q.1 < (List.replicate len H).length := by
  intro q hq
  obtain ⟨j, hj, rfl⟩ := yt1 hq
  have M : j < ps.length := by rw [hp.1]; exact hj
  obtain ⟨v, hv, hvr⟩ := hp.2 j _ (yf M)
  rw [yf hj] at hv
  have hqe := ya hv
  rw [hqe]
  refine ⟨?_, by simp only [yv2]; exact r9 g1 _ (yr2 M)⟩
  rw [← hsz (ps[j].2) (yh _ (yu2.2 ⟨_, yr2 M, rfl⟩))]
  simpa using hvr.cells.1.symm
 have Z : ∀ u ∈ List.replicate len H, u.cells.size = s := fun u hu => by rw [(yj2.1 hu).2]; exact O
 have hus := oE Z (fun q h => (hq q h).1)
 obtain ⟨N, hvl⟩ := Hh hM hv hL hus g3 K
 have hM1 := hM.freeze wv.2
 have hg1 := c8.frz G (aR G w mem wv.2) hM.inBoxes
 have hrs1 : (aJ mem (bZ mem wv.2))[rs]? = some none := by
  rw [(dV mem wv.2 mem rs rfl).2.1 (.inr (fun y hy => by rw [hrs] at hy; cases hy))]; exact hrs
 obtain ⟨G', V, h2, h3, h4, h5⟩ := D0 (t := U) hM1 hrs1 ho N (by omega)
 have Y : wv.1.len = len := by rw [hvl, oI]; simp
 rw [Y] at h4
 refine ⟨G', _, _, ?_, h4, hg1.trans V, ?_, ?_⟩
 ·by_cases h0 : len = 0
  ·subst h0
   have W : qs.toList = [] := by
    cases hh : qs.toList with
    | nil => rfl
    | cons q r => have := (hq q (by rw [hh]; exact ym ..)).2; simp at this
   rw [W]
   simp [Instr.buildSlice, run_underlying hu, sizeOf, typeInfo, hi, W, Instr.fill, newRow, fL, flat, Array.range_zero']
  ·have hlt : len * s ≤ 16777216 := ya2 (Nat.mul_le_mul g2 g4) (by decide)
   have hpos : 0 < len * s := Nat.mul_pos (by omega) (by omega)
   have hc0 : ((Array.range (len * i.size)).map (H.cells[· % H.cells.size]!)).toList = flat (List.replicate len H) := by
    rw [J, e6]
    have := iY H.cells (by omega) len
    rw [O] at this
    rw [O]; exact this
   obtain ⟨c', hf, hc'⟩ := Bf hc0 Z hq
   have hcc : c' = (flat (fL (List.replicate len H) qs.toList)).toArray := by rw [← hc']
   rw [← hcc]
   exact run_buildSlice w t U len qs c' i H hu hi hzv (by rw [J]; omega) (by rw [J]; omega) (by rw [J] at hf ⊢; exact hf)
 ·exact (Ev.refl G w).trans hg1 h2
 ·simp only [dE.apply, yg1]
  rw [nY]; exact h3
theorem sX {G : Gh} {w : World} {mem : aH} {boxed : Bool} {t M : TypeId} {rs n s : Nat} {I : Value} {v : aI} {i : TypeInfo} {out : dE} {kl Z : IntKind} (hM : aF G w mem) (O : mem[rs]? = some none)
  (hu : P.underlying t = some (.slice M)) (hi : P.info? M = some i) (hz : i.zero = some I) (U : i.size = s) (hs1 : 1 ≤ s) (N : i.bytes ≤ 4096) (hn : n ≤ bD) (V : I.cells.size = s)
  (hv : bF G w v (flat (List.replicate n I))) (W : v.len = n) (hve : v.e = s) (ho : rD boxed rs v = some out) :
  ∃ J K cv, (Instr.makeSlice t (.int kl (n : Int)) (.int Z (n : Int))).run P w = .ok cv K ∧ VR J K out.v cv ∧ c8 G J ∧ Ev G w K ∧ aF J K (out.apply mem) := by
 obtain ⟨J, h1, h2, h3, Y, h5⟩ := D0 (t := M) hM O ho hv (by omega)
 have hfit := sI hn N
 have H := run_make (P := P) w t M i I hu hi hz kl Z n n (by omega) (Int.le_refl _) (by
   have h : ((n * i.bytes : Nat) : Int) ≤ 281474976710656 := by omega
   rw [Int.natCast_mul, Int.mul_comm] at h; exact h) (by unfold bD at hn; omega)
 simp only [ym3] at H
 have hc : madeCells I.cells (n * i.size) = (flat (List.replicate n I)).toArray := by
  have := iY I.cells (by omega) n
  rw [← yf2 (xs := madeCells I.cells (n * i.size)), e6, ← this, U]
  simp only [madeCells, V]
 rw [hc] at H
 rw [W] at Y
 refine ⟨J, _, _, H, Y, h1, h2, ?_⟩
 simp only [dE.apply, h5, yg1]; exact h3
theorem Hs {G : Gh} {w : World} {mem : aH} {e M dst : TypeId} {x : AV} {xs : List Int} {rd : List Nat} {cv : Value} (hM : aF G w mem) (O : P.underlying M = some (.slice e)) (he : P.underlying e = some (.int .u8)) (hd : P.underlying dst = some .string)
  (Y : view P e mem x = some (.ints .u8 xs, rd)) (ht : iN P e = some 1) (K : yQ P M x = true) (Z : VR G w x cv) : (convert M dst cv).run P w = .ok (.string (i6 xs)) w := by
 obtain ⟨J, hS, hV⟩ := yT hM Y Z ht K
 have I : J = xs.map (Value.int .u8) := by
  obtain ⟨U, h2, h3⟩ := hV
  simp only [aI.len, aI.e, ye3] at U
  refine List.ext_getElem (by simp [U]) (fun j V hj2 => ?_)
  have hj : j < xs.length := by omega
  have := h3 j _ (yf hj)
  rw [yf V] at this
  rw [ya this]; simp
 have N := hS.len w
 have H := hS.cells
 have hnl := hS.newsLen
 have W : ∃ a c, cv = .slice a xs.length c := by
  cases cv <;> simp [Builtin.lenOf] at N
  ·cases Z with
   | lit v h =>
    unfold yQ at K
    rw [O] at K
    simp at K
   | imm β p v h hs => cases h; simp [PV.isSl] at hs
   | dead v U h2 => simp [view] at Y
  ·exact ⟨_, _, by rw [N]; rfl⟩
 obtain ⟨a, c, rfl⟩ := W
 rw [run_convert_bytes_string w M dst e a xs.length c O he hd]
 cases a with
 | none =>
  simp [Builtin.firstCells] at H
  have : J = [] := by
   cases J with
   | nil => rfl
   | cons => simp at H
  rw [this] at I
  have : xs = [] := List.map_eq_nil_iff.1 I.symm
  subst this; rfl
 | some a =>
  simp only [Builtin.firstCells, aI.e, aI.len, ye3] at H
  rw [run_bytesToString w a _ c xs (by rw [← I]; exact H), HY]
end
end Go.Ab
end
section
namespace Go.Ab
variable [b4]
theorem O9 {vs : Array Value} (h : vs.size = 1) : ∃ x, vs = #[x] := by
 obtain ⟨l⟩ := vs
 match l, h with
 | [x], _ => exact ⟨x, rfl⟩
theorem Ps {vs : Array Value} (h : vs.size = 2) : ∃ x y, vs = #[x, y] := by
 obtain ⟨l⟩ := vs
 match l, h with
 | [x, y], _ => exact ⟨x, y, rfl⟩
section
variable {P : Program}
def n6 (P : Program) (G : Gh) (w : World) (mem : aH) (o : Oper) (a : Act) (out : dE) : Prop :=
 ∀ (K : Act → World → Prop) (Q : Exit → Act → World → Prop), (∀ G' w' cv, VR G' w' out.v cv → c8 G G' → Ev G w w' → aF G' w' (out.apply mem) → K (a.put o.dst cv) w') → o.wp P a w K Q
def KI (P : Program) (G : Gh) (w : World) (mem : aH) (g : FuncId) (args : Array Value) (out : dE) : Prop :=
 (callFunc g args).run P w = .ok (.enter g args) w ∧
 Calls P g args w fun e w' => ∃ G' cv, e = .returned cv ∧ VR G' w' out.v cv ∧ c8 G G' ∧ Ev G w w' ∧ aF G' w' (out.apply mem)
variable {G : Gh} {w : World} {mem : aH} {o : Oper} {a : Act} {out : dE}
theorem kB.opW (h : kB P G w mem o a out) : n6 P G w mem o a out := by
 intro K Q hK
 obtain ⟨M, N, nx, cv, I, J, U, O, H, hM⟩ := h
 unfold Oper.wp
 rw [I]
 rcases J with rfl | ⟨rfl, rfl⟩
 ·exact hK M N cv U O H hM
 ·exact hK M N undef U O H hM
theorem n6.value {s : Sem Value} (O : execOp a.eval o = (do pure (Next.value (← s))))
  (h : ∃ I H cv, s.run P w = .ok cv H ∧ VR I H out.v cv ∧ c8 G I ∧ Ev G w H ∧ aF I H (out.apply mem)) : n6 P G w mem o a out := by
 obtain ⟨I, H, cv, J, N, M, K, hM⟩ := h
 refine kB.opW ⟨I, H, .value cv, cv, ?_, .inl rfl, N, M, K, hM⟩
 rw [O]
 simp only [Sem.run_bind, J, Result.andThen_ok, Sem.run_pure]
theorem n6.still {s : Sem Value} (hM : aF G w mem) (M : execOp a.eval o = (do pure (Next.value (← s)))) {cv : Value} (I : out.wr = []) (K : out.push = [])
  (H : s.run P w = .ok cv w) (J : VR G w out.v cv) : n6 P G w mem o a out :=
 n6.value M ⟨G, w, cv, H, J, c8.refl G, Ev.refl G w, by simp only [dE.apply, I, K, aJ, yg1]; exact hM⟩
theorem n6.plain (hM : aF G w mem) {cv : Value} (K : execOp a.eval o = pure (Next.value cv)) (H : out.wr = []) (J : out.push = []) (I : VR G w out.v cv) : n6 P G w mem o a out :=
 kB.opW ⟨G, w, .value cv, cv, by rw [K]; simp, .inl rfl, I, c8.refl G, Ev.refl G w, by simp only [dE.apply, H, J, aJ, yg1]; exact hM⟩
theorem mB {ρ : Operand → Option AV} (I : Ny G w ρ a) {x : Option Operand} {r : Option Int} (h : z6 ρ x = some r) : m7 r (x.map a.eval) := by
 cases x with
 | none => simp [z6] at h; subst h; exact trivial
 | some x =>
  simp only [z6] at h
  rw [bind_some] at h; obtain ⟨v, J, h⟩ := h
  unfold Lm at h
  split at h
  ·simp at *
  ·rename_i k n H
   obtain rfl := ya H
   obtain rfl := ya h
   have := (I x _ J).lit_inv
   exact ⟨k, by simp [this]⟩
  ·simp at h
theorem mI {t H : TypeId} (h : elemOf? P t = some H) : P.underlying t = some (.slice H) := by
 unfold elemOf? at h
 split at h
 ·obtain rfl := ya h; assumption
 ·simp at h
theorem mL {l : List Nat} (h : fM l = true) : l = [] := by cases l <;> simp_all [fM]
theorem K0 {k : IntKind} {z : AV} {J : Value} {I : List Int} {n : Nat} (h : fA k [z] = some I) (W : VR G w z J) : bF G w (.ints k (List.replicate n (I.headD 0))) (flat (List.replicate n J)) ∧ J.cells.size = 1 := by
 obtain ⟨K, O⟩ := zG h
 obtain ⟨x, rfl⟩ : ∃ x, I = [x] := by
  match I, K with
  | [x], _ => exact ⟨x, rfl⟩
 have := O 0 x rfl
 simp at this
 subst this
 obtain rfl := W.lit_inv
 have M : flat (List.replicate n (Value.int k x)) = List.replicate n (.int k x) := by
  rw [e6]
  have U : (Value.int k x).cells.toList = [.int k x] := rfl
  rw [U]
  induction n with
  | zero => rfl
  | succ n V => rw [List.replicate_succ, List.flatten_cons, V, List.replicate_succ]; rfl
 rw [M]
 refine ⟨⟨by simp [aI.len, aI.e], fun u N => by rw [(yj2.1 N).2]; rfl, fun i y H => ?_⟩, rfl⟩
 simp only [List.headD_cons] at H
 rw [yw1] at H ⊢
 split at H
 ·rw [if_pos (by assumption)]; rw [← ya H]
 ·simp at H
theorem GM {t : TypeId} {z : AV} {M : Value} {q : Bool × PV × List Nat} {n e : Nat} (hM : aF G w mem) (h : rP P mem t z = some q) (hz : VR G w z M) (Y : z.cells.length = e) (h1 : 1 ≤ e) (hq : q.2.2 = []) :
  bF G w (.pvs q.1 e (List.replicate n q.2.1)) (flat (List.replicate n M)) ∧ M.cells.size = e := by
 obtain ⟨ql, qq⟩ := qQ hM h hz
 have N : M.cells.size = e := by rw [← Y]; simpa using hz.cells.1.symm
 have J : ∀ u ∈ List.replicate n M, u.cells.size = e := fun u H => by rw [(yj2.1 H).2]; exact N
 have Z := gD J
 have U : ∀ (i : Nat) (x : PV) (c : Nat) (y : PV), (List.replicate n q.2.1)[i]? = some x → x.cells[c]? = some y → ∃ u, (flat (List.replicate n M))[i * e + c]? = some u ∧ PR w (G.prot q.1) y u ∧ u.oneCell' = true := by
  intro i x c y K W
  rw [yw1] at K
  split at K
  ·rename_i hi
   obtain rfl := ya K
   have hce : c < e := by rw [← Y, ← ql]; exact (yd.1 W).1
   obtain ⟨u, H, O, I⟩ := qq c y W
   refine ⟨u, by rw [o6 J (u := M) (by rw [yw1, if_pos hi]) hce]; exact H, O.mono (fun B o V => ?_) (fun _ _ _ => rfl), I⟩
   rcases V with V | ⟨b, V, _⟩
   ·exact V
   ·rw [hq] at V; simp at V
  ·simp at K
 refine ⟨⟨by simp only [aI.len, aI.e]; rw [Z]; simp, fun u H => ?_, fun x K => by rw [(yj2.1 K).2, ql, Y], fun i x c y K W => ?_⟩, N⟩
 ·obtain ⟨v, hv, H⟩ := IJ H
  rw [(yj2.1 hv).2] at H
  obtain ⟨j, hj, rfl⟩ := yt1 H
  have hj2 : j < q.2.1.cells.length := by rw [ql, Y, ← N]; simpa using hj
  obtain ⟨u, H, _, I⟩ := qq j _ (yf hj2)
  rw [yf hj] at H
  rw [ya H]; exact I
 ·obtain ⟨u, H, O, _⟩ := U i x c y K W
  exact ⟨u, H, O⟩
theorem KM {t tx ty : TypeId} {rs : Nat} {n : Int} {kn : IntKind} (hM : aF G w mem) (hrs : mem[rs]? = some none) (h : CD P t tx mem rs n = some out) :
  ∃ V U cv, (Builtin.append_ #[t, tx] ty #[.slice none 0 0, .int kn n]).run P w = .ok cv U ∧ VR V U out.v cv ∧ c8 G V ∧ Ev G w U ∧ aF V U (out.apply mem) := by
 unfold CD at h
 split at h
 ·rename_i kx hkx
  rw [bind_some] at h; obtain ⟨K, het, h⟩ := h
  rw [bind_some] at h; obtain ⟨z, hz, h⟩ := h
  split at h
  ·rw [bind_some] at h; obtain ⟨q, hq, h⟩ := h
   rw [bind_some] at h; obtain ⟨e, he, h⟩ := h
   rw [bind_some] at h; obtain ⟨bytes, M, h⟩ := h
   rw [aA] at h; obtain ⟨hg, h⟩ := h
   simp only [yb, decide_eq_true_eq] at hg
   obtain ⟨⟨g0, N⟩, ⟨⟨W, g2⟩, g3⟩, g4⟩ := hg
   have N := cU.1 N; have W := cU.1 W; have g2 := cU.1 g2; have g3 := bJ.1 g3; have g4 := mL g4
   obtain rfl := ya h
   obtain ⟨i, H, hi, hzv, hov⟩ := j1 hz
   have Z : VR G w z H := k8 hov
   obtain ⟨m, rfl⟩ : ∃ m : Nat, n = (m : Int) := ⟨n.toNat, by omega⟩
   rw [ym3] at N ⊢
   obtain ⟨hv, O⟩ := GM (n := m) hM hq Z g3 W g4
   have his : i.size = e := by unfold iN at he; rw [hi] at he; simpa using he
   have hib : i.bytes ≤ 4096 := by unfold jI at M; rw [hi] at M; simp at M; omega
   have hfit := sI N hib
   have I := Lib.run_append_nil_zeros (P := P) w t tx ty K i H kn kx (mI het) hkx hi hzv m (by omega) (by omega) (by unfold bD at N; omega) (by omega)
   have hrc := iY H.cells (by omega) m
   have hc : Builtin.zeroCells H.cells m = (flat (List.replicate m H)).toArray := by
    rw [← yf2 (xs := Builtin.zeroCells H.cells m), e6, ← hrc]
    rfl
   have J : m ≤ grownCap w m 0 K := grownCap_ge w _ _ _
   rw [hc] at I
   have hMd := hM.ev (Ev.drew G w) (.inl rfl) (fun B _ => rfl)
   have hvd : bF G w.drew (Row.pvs q.1 e (List.replicate m q.2.1)).all (flat (List.replicate m H)) := hv.mono (c8.refl G) (Ev.drew G w)
   obtain ⟨V, rfl, hg', hev, hM', hl⟩ := Fe (row := .pvs q.1 e (List.replicate m q.2.1)) (vs := flat (List.replicate m H)) (rest := Builtin.zeroCells H.cells (grownCap w m 0 K - m)) (t := K) hMd hrs W rfl hvd
   have Y : (flat (List.replicate m H)).length = m * e := by
    rw [gD (e := e) (us := List.replicate m H) (fun u hu => by rw [(yj2.1 hu).2]; exact O)]; simp
   refine ⟨_, _, _, I, ?_, hg', (Ev.drew G w).trans (c8.refl G) hev, by simpa [dE.apply, aJ] using hM'⟩
   generalize grownCap w m 0 K = C at J I ⊢
   have hk : VR (G.put rs 0 ⟨some w.drew.heap.size, (Row.pvs q.1 e (List.replicate m q.2.1)).e, (Row.pvs q.1 e (List.replicate m q.2.1)).len⟩) (w.drew.alloc (.cells ((flat (List.replicate m H)).toArray ++ Builtin.zeroCells H.cells (C - m)) K)) (.msw rs 0) (.slice (some ⟨w.heap.size, 0, none⟩) m C) := by
    have := VR.msw (G := G.put rs 0 ⟨some w.drew.heap.size, (Row.pvs q.1 e (List.replicate m q.2.1)).e, (Row.pvs q.1 e (List.replicate m q.2.1)).len⟩) (w := w.drew.alloc (.cells ((flat (List.replicate m H)).toArray ++ Builtin.zeroCells H.cells (C - m)) K)) rs 0 C _ w.drew.heap.size (Gh.put_self ..) rfl (by simp [Row.len]; exact J) (fun j hj => by
     rw [jG]
     simp only [Row.e] at hj
     have hjs : j < ((flat (List.replicate m H)).toArray ++ Builtin.zeroCells H.cells (C - m)).size := by
      simp only [Array.size_append, List.size_toArray, size_zeroCells, Y, O]
      rw [← yk1]
      exact yh1 hj (yz1 _ (by omega))
     rw [yl1 hjs]; rfl)
    simpa [Row.len] using this
   exact hk
  ·cases h
 ·cases h
theorem Eg {boxed vars : Bool} {b : Builtin} {ts : Array TypeId} {ty : TypeId} {consts : Array Bool} {rs : Nat} {args : List AV} {vs : Array Value} (hM : aF G w mem) (U : b = .append → mem[rs]? = some none)
  (h : dX P boxed vars b ts.toList mem rs args = some out) (I : nC G w args vs) :
  ∃ s : Sem Value, builtin b ts ty consts vs = (do pure (Next.value (← s))) ∧ ∃ Z V cv, s.run P w = .ok cv V ∧ VR Z V out.v cv ∧ c8 G Z ∧ Ev G w V ∧ aF Z V (out.apply mem) := by
 have W : ∀ j, vs.getD j undef = vs.toList.getD j undef := fun j => (d9 vs j).symm
 unfold dX at h
 split at h
 ·rename_i t x K
  obtain ⟨n, hn, rfl⟩ := yc.1 h
  have H : ts = #[t] := by rw [← K, yf2]
  obtain ⟨x', rfl⟩ := O9 I.1.symm
  have J := I.2 0 x rfl
  simp at J
  subst H
  exact ⟨_, rfl, G, w, _, It hM hn J, .lit _ rfl, c8.refl G, Ev.refl G w, by simpa [dE.apply, aJ] using hM⟩
 ·rename_i t tx kn n K
  have H : ts = #[t, tx] := by rw [← K, yf2]
  obtain ⟨x', y', rfl⟩ := Ps I.1.symm
  have J := I.2 0 _ rfl
  have N := I.2 1 _ rfl
  simp at J N
  obtain rfl := J.lit_inv
  obtain rfl := N.lit_inv
  subst H
  exact ⟨_, rfl, KM hM (U rfl) h⟩
 ·rename_i t tx x y hno K
  have H : ts = #[t, tx] := by rw [← K, yf2]
  obtain ⟨x', y', rfl⟩ := Ps I.1.symm
  have J := I.2 0 x rfl
  have N := I.2 1 y rfl
  simp at J N
  subst H
  exact ⟨_, rfl, F9 hM (U rfl) h J N⟩
 ·rename_i t K
  have H : ts = #[t] := by rw [← K, yf2]
  obtain ⟨x', rfl⟩ := O9 I.1.symm
  have J := I.2 0 _ rfl
  simp at J
  obtain rfl := J.lit_inv
  subst H
  split at h
  ·rename_i et hu
   obtain rfl := ya h
   exact ⟨_, rfl, G, w, .int .i64 0, by simp [Builtin.cap_, run_underlying hu, goInt], .lit _ rfl, c8.refl G, Ev.refl G w, by simpa [dE.apply, aJ] using hM⟩
  ·cases h
 ·rename_i k a r
  obtain ⟨v, O, rfl⟩ := yc.1 h
  have J := I.2 0 _ rfl
  obtain ⟨x', M, hvs⟩ : ∃ x' M, vs.toList = x' :: M := by
   cases Y : vs.toList with
   | nil => have := I.1; rw [← yu1, Y] at this; simp at this
   | cons x' M => exact ⟨x', M, rfl⟩
  rw [W, hvs] at J
  obtain rfl := J.lit_inv
  have := vR (P := P) (G := G) (w := w) (op := Builtin.min2) (f := O0 k) (k := k) (fun a b => by simp [Builtin.min2, O0, Bool.cond_decide]) O
   ⟨by have := I.1; rw [← yu1, hvs] at this; simpa using this, fun j y N => by have := I.2 (j + 1) y (by simpa using N); rw [W, hvs] at this; simpa using this⟩
  refine ⟨_, rfl, G, w, .int k v, ?_, .lit _ rfl, c8.refl G, Ev.refl G w, by simpa [dE.apply, aJ] using hM⟩
  simp only [Builtin.min_, hvs]
  exact this
 ·rename_i k a r
  obtain ⟨v, O, rfl⟩ := yc.1 h
  have J := I.2 0 _ rfl
  obtain ⟨x', M, hvs⟩ : ∃ x' M, vs.toList = x' :: M := by
   cases Y : vs.toList with
   | nil => have := I.1; rw [← yu1, Y] at this; simp at this
   | cons x' M => exact ⟨x', M, rfl⟩
  rw [W, hvs] at J
  obtain rfl := J.lit_inv
  have := vR (P := P) (G := G) (w := w) (op := Builtin.max2) (f := OI k) (k := k) (fun a b => by simp [Builtin.max2, OI, Bool.cond_decide]) O
   ⟨by have := I.1; rw [← yu1, hvs] at this; simpa using this, fun j y N => by have := I.2 (j + 1) y (by simpa using N); rw [W, hvs] at this; simpa using this⟩
  refine ⟨_, rfl, G, w, .int k v, ?_, .lit _ rfl, c8.refl G, Ev.refl G w, by simpa [dE.apply, aJ] using hM⟩
  simp only [Builtin.max_, hvs]
  exact this
 ·simp at h
theorem aF.sameCells {G : Gh} {w K : World} {mem : aH} (hM : aF G w mem) (H : Ev G w K) (J : ∀ B o, cl K B o = cl w B o) (hs : K.heap.size = w.heap.size) (Y : ∀ B, fS w B → fS K B) : aF G K mem where
 box b x h := by
  have Z := hM.box b x h
  obtain ⟨o, W, hm⟩ := Z.loc
  refine ⟨Z.e, o, W, ?_⟩
  cases o with
  | none => exact hm
  | some B =>
   obtain ⟨O, M, V, N, U⟩ := hm
   exact ⟨O, by rw [hs]; exact M, Y B V, N.mono (c8.refl G) H (fun o _ => J B o) (fun i c B' I => ⟨⟨J B', Y B'⟩, (hM.inn h ⟨_, W, rfl⟩ I).2.2.2⟩), U⟩
 unset := hM.unset
 gens := hM.gens
 apart := hM.apart
 inA b b' x x' B i c B' h k I h' := hM.inA b b' x x' B i c B' h k (I.same (J B)) h'
 inB b b' x x' B C i c i' c' B' h k I h' k' hi' := hM.inB b b' x x' B C i c i' c' B' h k (I.same (J B)) h' k' (hi'.same (J C))
 own B h := hM.own B (by rw [← hs]; exact h)
 lab := hM.lab
 away β B o h := by rw [hs]; exact hM.away β B o h
 glob := hM.glob.mono (fun _ _ h => h) (H.prot true)
theorem OD {w : World} {B : Nat} (N : fS w B) :
  ∃ H, (∀ k, (markStringish ⟨B, k, none⟩).run P w = .ok () H) ∧ (∀ B' o, cl H B' o = cl w B' o) ∧ H.heap.size = w.heap.size ∧ H.output = w.output ∧ H.os = w.os ∧ H.tape = w.tape ∧ (∀ B', B' ≠ B → H.heap[B']? = w.heap[B']?) ∧
   (∀ B', fS w B' → fS H B') := by
 obtain ⟨c, el, J, K, M, hr⟩ := N
 refine ⟨w.freeze ⟨B, c.size, none⟩ 1, fun k => ?_, ?_⟩
 ·simp [markStringish, World.shape?, M]
 have O : (w.freeze ⟨B, c.size, none⟩ 1).heap[B]? = some (.cells c el (if J == K then (c.size, c.size + 1) else (min J c.size, max K (c.size + 1)))) := by
  unfold World.freeze
  rw [if_neg (by decide)]
  simp only [yt2, if_true, M, yg]
 have I : ∀ B', B' ≠ B → (w.freeze ⟨B, c.size, none⟩ 1).heap[B']? = w.heap[B']? := fun B' e => by
  unfold World.freeze
  rw [if_neg (by decide)]
  simp only [yt2]
  rw [if_neg (fun h => e h.symm)]
 have U : (w.freeze ⟨B, c.size, none⟩ 1).heap.size = w.heap.size := by
  unfold World.freeze
  rw [if_neg (by decide)]
  simp
 refine ⟨fun B' o => ?_, U, rfl, rfl, rfl, I, fun B' N => ?_⟩
 ·by_cases e : B' = B
  ·subst e; unfold cl World.cell?; simp [O, M]
  ·exact cI (I B' e) o
 ·by_cases e : B' = B
  ·subst e
   by_cases h : J = K
   ·exact ⟨c, el, c.size, c.size + 1, by rw [O]; simp [h], .inr (yy _)⟩
   ·have V : c.size ≤ J := hr.resolve_left h
    exact ⟨c, el, min J c.size, max K (c.size + 1), by rw [O]; simp [h], .inr (by omega)⟩
  ·exact N.of_heap (I B' e)
theorem FJ {boxed : Bool} {J dst : TypeId} {rs : Nat} {x : AV} {cv : Value} (hM : aF G w mem) (h : kX P boxed J dst mem rs x = some out) (hx : VR G w x cv) :
  ∃ O I r, (convert J dst cv).run P w = .ok r I ∧ VR O I out.v r ∧ c8 G O ∧ Ev G w I ∧ aF O I (out.apply mem) := by
 have still : ∀ {o : dE} {r : Value}, o.wr = [] → o.push = [] → (convert J dst cv).run P w = .ok r w → VR G w o.v r →
   ∃ O I r, (convert J dst cv).run P w = .ok r I ∧ VR O I o.v r ∧ c8 G O ∧ Ev G w I ∧ aF O I (o.apply mem) :=
  fun h1 h2 hr hv => ⟨G, w, _, hr, hv, c8.refl G, Ev.refl G w, by simp only [dE.apply, h1, h2, aJ, yg1]; exact hM⟩
 unfold kX at h
 split at h
 ·rename_i k1 k n kk hs W
  obtain rfl := ya h
  obtain rfl := hx.lit_inv
  exact still rfl rfl (by simp [convert, run_underlying hs, run_underlying W, Conv.intToInt]) (.lit _ rfl)
 ·rename_i s hs W
  obtain rfl := ya h
  obtain rfl := hx.lit_inv
  exact still rfl rfl (by simp [convert, run_underlying hs, run_underlying W]) (.lit _ rfl)
 ·rename_i e hs W
  split at h
  ·rename_i he
   rw [bind_some] at h; obtain ⟨v, hv, h⟩ := h
   rw [aA] at h; obtain ⟨hg, h⟩ := h
   simp only [yb] at hg
   obtain ⟨vw, rd⟩ := v
   simp only at h hv
   split at h
   ·rename_i xs
    obtain rfl := ya h
    have ht : iN P e = some 1 := by
     have := hg.2
     split at this
     ·assumption
     ·simp at this
    exact still rfl rfl (Hs hM hs he W hv ht hg.1 hx) (.lit _ rfl)
   ·simp at h
  ·simp at h
 ·rename_i e0 e b g hs W
  split at h
  ·rename_i he
   rw [aA] at h; obtain ⟨M, h⟩ := h
   rw [bind_some] at h; obtain ⟨bx, hbx, h⟩ := h
   rw [aA] at h; obtain ⟨h1, h⟩ := h
   obtain rfl := ya h
   have M := bJ.1 M
   have h1 := cU.1 h1
   have K := box?_some hbx
   obtain ⟨o, hl, hm⟩ := (hM.box b bx K.1).loc
   rw [K.2] at hl
   have U : ∃ B cap, cv = .slice (some ⟨B, 0, none⟩) bx.row.len cap ∧ G.mine B ∧ fS w B := by
    cases hx with
    | msw _ _ cap L B H hb hn hf =>
     rw [hl] at H
     obtain rfl := ya H
     simp only at hb; subst hb
     exact ⟨B, cap, rfl, hm.1, hm.2.2.1⟩
    | mswNil _ _ L H hb hn =>
     rw [hl] at H
     obtain rfl := ya H
     simp only at hn; omega
   obtain ⟨B, cap, rfl, V, hF⟩ := U
   obtain ⟨w1, hrun, hc, hsz, ho, hos, htp, Y, Z⟩ := OD (P := P) hF
   have N : Ev G w w1 := ⟨by rw [hsz]; exact yy _, ho, hos, fun B' _ hn => Y B' (fun e => hn (by rw [e]; exact V)), fun B' j hs => by rw [hc]; exact hs, fun _ B' j _ => hc B' j,
    fun B' j hj => by
     by_cases e : B' = B
     ·subst e; rw [hF.cell hj, (Z _ hF).cell (by rw [hc]; exact hj)]
     ·exact vF (Y B' e) j, htp⟩
   refine ⟨G, w1, _, ?_, hx.mono (c8.refl G) N, c8.refl G, N, by simp only [dE.apply, aJ, yg1]; exact hM.sameCells N hc hsz Z⟩
   subst M
   simp [convert, run_underlying hs, run_underlying he, hrun] <;> simp_all [run_underlying]
  ·simp at h
 ·simp at h
end
end Go.Ab
end
section
namespace Go.Ab
variable [b4]
section
variable {P : Program}
variable {G : Gh} {w : World} {mem : aH} {o : Oper} {a : Act} {out : dE}
theorem IP {c x y r : AV} {I K M : Value} (h : GO c x y = some r) (N : VR G w c I) (J : VR G w x K) (H : VR G w y M) :
  ∃ t, I = .bool t ∧ VR G w r (if t then K else M) := by
 unfold GO at h
 split at h
 ·rename_i t
  obtain rfl := N.lit_inv
  refine ⟨t, rfl, ?_⟩
  split at h
  ·obtain rfl := ya h
   obtain rfl := J.lit_inv
   obtain rfl := H.lit_inv
   cases t <;> exact .lit _ rfl
  ·cases t with
   | true => simp only [yl] at h; obtain rfl := ya h; exact J
   | false => simp only [yk] at h; obtain rfl := ya h; exact H
 ·simp at h
theorem Bz {x : Operand} (h : jM x = true) : x = .const (.slice none 0 0) := by
 unfold jM at h
 split at h
 ·rfl
 ·cases h
theorem Af {t : TypeId} {p : PV} (h : qL P t = some p) : (∃ k, p = .ints k []) ∨ ∃ e, p = .sl e [] ∧ 1 ≤ e := by
 unfold qL at h
 rw [bind_some] at h; obtain ⟨et, _, h⟩ := h
 split at h
 ·rename_i k _; exact .inl ⟨k, (ya h).symm⟩
 ·rw [bind_some] at h; obtain ⟨e, _, h⟩ := h
  rw [aA] at h
  exact .inr ⟨e, (ya h.2).symm, cU.1 h.1⟩
theorem D8 {boxed vars : Bool} {ρ : Operand → Option AV} {rs : Nat} {t : TypeId} {x : Operand} (hM : aF G w mem) (O : jM x = true → mem[rs]? = some none) (Y : Ny G w ρ a)
  (J : execOp a.eval o = pure (Next.value (a.eval x))) (h : rX P boxed vars ρ t rs x = some out) : n6 P G w mem o a out := by
 unfold rX at h
 cases K : (jM x && boxed && !vars) with
 | true =>
  rw [K] at h; simp only [yl] at h
  simp only [yb] at K
  obtain rfl := Bz K.1.1
  rw [bind_some] at h; obtain ⟨p, N, h⟩ := h
  obtain ⟨row, H, rfl⟩ := yc.1 h
  have hm := O rfl
  have U : rs < mem.length := by
   rcases yc2 rs mem.length with h | h
   ·exact h
   ·rw [ya1 h] at hm; cases hm
  have hr : 1 ≤ row.e ∧ row.len = 0 ∧ row.isCells = false := by
   rcases Af N with ⟨k, rfl⟩ | ⟨e, rfl, J⟩
   ·obtain rfl := ya H; exact ⟨yy _, rfl, rfl⟩
   ·obtain rfl := ya H; exact ⟨J, rfl, rfl⟩
  obtain ⟨G', hg, W, M⟩ := Ba (b := rs) (g' := 0) (row' := row) hM U (fun g _ => hM.unset rs g (fun y V => by rw [hm] at V; cases V)) hr.1 hr.2.1 hr.2.2
  refine kB.opW ⟨G', w, .value (a.eval (.const (.slice none 0 0))), _, by rw [J]; simp, .inl rfl, ?_, hg, Ev.refl G w, by simpa [dE.apply, aJ] using M⟩
  exact .mswNil rs 0 _ W rfl hr.2.1
 | false =>
  rw [K] at h; simp only [yk] at h
  rw [bind_some] at h; obtain ⟨v, Z, h⟩ := h
  have I := Y _ _ Z
  split at h
  ·cases boxed with
   | true => simp only [yl] at h; obtain rfl := ya h; exact n6.plain hM J rfl rfl I
   | false =>
    simp only [yk] at h
    obtain ⟨p, N, rfl⟩ := yc.1 h
    refine n6.plain hM J rfl rfl ?_
    rw [I.lit_inv]
    rcases Af N with ⟨k, rfl⟩ | ⟨e, rfl, _⟩
    ·exact .imm _ _ _ (.intsNil k _) rfl
    ·exact .imm _ _ _ (.slNil e _) rfl
  ·obtain rfl := ya h; exact n6.plain hM J rfl rfl I
theorem HI {ρ : Operand → Option AV} {t : TypeId} {x ix : Operand} (hM : aF G w mem) (hρ : Ny G w ρ a)
  (he : execOp a.eval o = (do pure (Next.value (← Instr.index t (a.eval x) (a.eval ix))))) (h : oR P ρ t x ix = some out) : n6 P G w mem o a out := by
 unfold oR at h
 rw [bind_some] at h; obtain ⟨vx, hx, h⟩ := h
 rw [bind_some] at h; obtain ⟨vi, H, h⟩ := h
 have K := hρ _ _ hx
 have N := hρ _ _ H
 split at h
 ·rename_i cs k i
  split at h
  ·rename_i n e Y
   rw [bind_some] at h; obtain ⟨ag, U, h⟩ := h
   rw [bind_some] at h; obtain ⟨s, hs, h⟩ := h
   rw [aA] at h; obtain ⟨hg, h⟩ := h
   simp only [yb, yq, decide_eq_true_eq] at hg
   obtain ⟨⟨⟨I, hs1⟩, W⟩, hn⟩ := hg
   obtain rfl := bJ.1 hs1
   obtain ⟨v, hv, rfl⟩ := yc.1 h
   obtain ⟨cvs, Z, M⟩ := K.agg_inv
   have V := M.2 _ _ hv
   refine n6.still hM he rfl rfl (cv := cvs.getD i.toNat undef) ?_ V
   rw [Z, N.lit_inv]
   have O : i.toNat < cvs.size := by
    rw [← M.1]; exact (yd.1 hv).1
   have := Jh (P := P) U hs (cs := cvs) (o := i.toNat) w (.inr O)
   rw [I] at this
   simp only [yi2, if_false] at this
   simp only [Instr.index, asIntOf, Sem.run_bind, Sem.run_pure, Result.andThen_ok, run_underlying Y, W, hn, and_self, if_true, eD hs, ye3, this]
  ·cases h
 ·rename_i s k i
  split at h
  ·rename_i Y
   obtain ⟨b, J, rfl⟩ := yc.1 h
   refine n6.still hM he rfl rfl (cv := .int .u8 b) ?_ (.lit _ rfl)
   rw [K.lit_inv, N.lit_inv]
   obtain ⟨W, O, J⟩ := BN J
   have hs : s[i.toNat]?.map (fun c : UInt8 => (c.toNat : Int)) = some b := by
    unfold e4 at J
    rw [yb1] at J
    rw [← J, yp1]
    by_cases H : i.toNat < s.size
    ·rw [getElem?_pos s _ H, getElem?_pos s.data _ H]; rfl
    ·rw [getElem?_neg s _ H, getElem?_neg s.data _ H]
   obtain ⟨c, hc, rfl⟩ := yc.1 hs
   simp only [Instr.index, asIntOf, Sem.run_bind, Sem.run_pure, Result.andThen_ok, run_underlying Y, W, if_true, hc]
  ·cases h
 ·cases h
theorem Mx {C : bQ} {boxed raw vars : Bool} {ρ : Operand → Option AV} {rs : Nat} (hM : aF G w mem) (Y : d4 o.op = true → mem[rs]? = some none) (M : Ny G w ρ a)
  (hcall : ∀ {raw keep : Bool} {g : FuncId} {ts : List TypeId} {fi args ca : List AV} {out : dE} {fv av cv : Array Value}, yI P C raw keep g ts fi args ca mem = some out → nC G w fi fv → nC G w args av → nC G w ca cv → KI P G w mem g (fv ++ av ++ cv) out)
  (h : LC P C boxed raw vars o ρ mem rs = some out) : n6 P G w mem o a out := by
 unfold LC Dv AL IL Aw fJ wS Jj Ju Nk Ei BQ wU kU z7 wI oY Bd at h
 split at h
 ·rename_i x H
  exact D8 hM (fun hn => Y (by rw [H]; exact hn)) M (by simp only [execOp, H]) h
 ·rename_i x H
  exact D8 hM (fun hn => Y (by rw [H]; exact hn)) M (by simp only [execOp, H]) h
 ·rename_i c x y H
  rw [bind_some] at h; obtain ⟨vc, hc, h⟩ := h
  rw [bind_some] at h; obtain ⟨vx, U, h⟩ := h
  rw [bind_some] at h; obtain ⟨vy, hy, h⟩ := h
  obtain ⟨r, hr, rfl⟩ := yc.1 h
  obtain ⟨t, ht, O⟩ := IP hr (M _ _ hc) (M _ _ U) (M _ _ hy)
  refine kB.opW ⟨G, w, _, _, ?_, .inl rfl, O, c8.refl G, Ev.refl G w, by simpa [dE.apply, aJ] using hM⟩
  simp only [execOp, H, ht, asBool]
  cases t <;> simp
 ·rename_i t H
  rw [bind_some] at h; obtain ⟨z, hz, h⟩ := h
  rw [aA] at h; obtain ⟨N, h⟩ := h
  simp only [yb] at N
  obtain rfl := ya h
  exact (Le hM H (Y (by rw [H]; rfl)) hz (cU.1 N.1) N.2).opW
 ·rename_i t x H
  rw [bind_some] at h; obtain ⟨v, O, h⟩ := h
  rw [bind_some] at h; obtain ⟨n, hn, h⟩ := h
  rw [aA] at h; obtain ⟨N, h⟩ := h
  simp only [yb] at N
  obtain rfl := ya h
  exact (N5 hM H (Y (by rw [H]; rfl)) (M _ _ O) (bJ.1 N.1.1) (cU.1 N.1.2) N.2).opW
 ·rename_i t parts H
  rw [bind_some] at h; obtain ⟨ps, hps, h⟩ := h
  obtain ⟨v, O, rfl⟩ := yc.1 h
  obtain ⟨cv, J, I⟩ := HF O (yX M hps)
  exact n6.still hM (by simp only [execOp, H] <;> rfl) rfl rfl J I
 ·rename_i t len parts H
  rw [bind_some] at h; obtain ⟨et, het, h⟩ := h
  rw [bind_some] at h; obtain ⟨z, hz, h⟩ := h
  rw [bind_some] at h; obtain ⟨s, hs, h⟩ := h
  rw [bind_some] at h; obtain ⟨ps, hps, h⟩ := h
  rw [aA] at h; obtain ⟨N, h⟩ := h
  rw [bind_some] at h; obtain ⟨wv, hwv, h⟩ := h
  rw [aA] at h; obtain ⟨hwe, h⟩ := h
  obtain ⟨ov, hov, rfl⟩ := yc.1 h
  exact n6.value (by simp only [execOp, H] <;> rfl) (CW hM (Y (by rw [H]; rfl)) het hz hs N hwv hwe hov (yX M hps))
 ·rename_i t x H
  rw [bind_some] at h; obtain ⟨v, O, h⟩ := h
  obtain ⟨r, rd, rfl, cv, J, I⟩ := CB hM h (M _ _ O)
  exact n6.still hM (by simp only [execOp, H] <;> rfl) rfl rfl J I
 ·rename_i t x y H
  rw [bind_some] at h; obtain ⟨vx, U, h⟩ := h
  rw [bind_some] at h; obtain ⟨vy, hy, h⟩ := h
  obtain ⟨hov, G', w', J, N, hev, hM'⟩ := Il hM h (M _ _ U) (M _ _ hy)
  refine kB.opW ⟨G', w', .skip, undef, ?_, .inr ⟨rfl, rfl⟩, by rw [hov]; exact .lit _ rfl, N, hev, hM'⟩
  simp only [execOp, H, Sem.run_bind, J, Result.andThen_ok, Sem.run_pure]
 ·rename_i x H
  rw [bind_some] at h; obtain ⟨v, O, h⟩ := h
  have I := M _ _ O
  split at h
  ·obtain rfl := ya h
   refine n6.plain hM (cv := a.eval x) ?_ rfl rfl I
   simp only [execOp, H]
   generalize a.eval x = cv at I
   cases I; simp only
  ·obtain rfl := ya h
   refine n6.plain hM (cv := a.eval x) ?_ rfl rfl I
   simp only [execOp, H]
   generalize a.eval x = cv at I
   cases I; simp only
  ·obtain rfl := ya h
   refine n6.plain hM (cv := a.eval x) ?_ rfl rfl I
   simp only [execOp, H]
   generalize a.eval x = cv at I
   cases I; simp only
  ·simp at h
 ·rename_i op t x y _ H
  rw [bind_some] at h; obtain ⟨vx, U, h⟩ := h
  rw [bind_some] at h; obtain ⟨vy, hy, h⟩ := h
  obtain ⟨r, hr, rfl⟩ := yc.1 h
  obtain ⟨cv, h1, h2, I⟩ := Ns (x := x) (y := y) hr (M _ _ U) (M _ _ hy)
  refine n6.still hM (s := do eqGuard op t x y (a.eval x) (a.eval y); binOp op t (a.eval x) (a.eval y)) (by simp only [execOp, H]) rfl rfl ?_ I
  simp only [Sem.run_bind, h1, Result.andThen_ok, h2]
 ·rename_i op _ x H
  rw [bind_some] at h; obtain ⟨vx, U, h⟩ := h
  split at h
  ·obtain ⟨r, hr, rfl⟩ := yc.1 h
   have hvx := (M _ _ U).lit_inv
   exact n6.still hM (by simp only [execOp, H] <;> rfl) rfl rfl (by rw [hvx]; exact M5 hr) (.lit _ (Hy hr))
  ·simp at h
 ·rename_i src dst x H
  rw [bind_some] at h; obtain ⟨vx, U, h⟩ := h
  exact n6.value (by simp only [execOp, H] <;> rfl) (FJ hM h (M _ _ U))
 ·rename_i fn first cap H
  rw [bind_some] at h; obtain ⟨fi, hfi, h⟩ := h
  obtain ⟨ca, hca, rfl⟩ := yc.1 h
  have h1 := AT M hfi
  have h2 := AT M hca
  exact n6.still hM (by simp only [execOp, H] <;> rfl) rfl rfl (cv := .func fn (first.map a.eval) (cap.map a.eval)) (by simp [Instr.makeFunc]) (.fn fn fi ca _ _ h1.1 h2.1 h1.2 h2.2)
 ·rename_i t l c H
  rw [bind_some] at h; obtain ⟨et, het, h⟩ := h
  rw [bind_some] at h; obtain ⟨z, hz, h⟩ := h
  rw [bind_some] at h; obtain ⟨vl, hl, h⟩ := h
  rw [bind_some] at h; obtain ⟨vc, hc, h⟩ := h
  split at h
  ·rename_i k1 n k2 n'
   rw [aA] at h; obtain ⟨N, h⟩ := h
   simp only [yb, beq_iff_eq, decide_eq_true_eq] at N
   obtain ⟨⟨hnn, hn0⟩, Z⟩ := N
   subst hnn
   have Z := cU.1 Z
   obtain ⟨i, zv, hi, hzv, hov⟩ := j1 hz
   have hzr : VR G w z zv := k8 hov
   have el := (M _ _ hl).lit_inv
   have ec := (M _ _ hc).lit_inv
   obtain ⟨m, rfl⟩ : ∃ m : Nat, n = (m : Int) := ⟨n.toNat, by omega⟩
   rw [ym3] at Z h
   refine n6.value (s := Instr.makeSlice t (.int k1 (m : Int)) (.int k2 (m : Int))) (by simp only [execOp, H, el, ec]) ?_
   have hr := Y (by rw [H]; rfl)
   split at h
   ·rename_i k hk
    rw [bind_some] at h; obtain ⟨e, he, h⟩ := h
    rw [bind_some] at h; obtain ⟨bytes, W, h⟩ := h
    rw [bind_some] at h; obtain ⟨zs, hzs, h⟩ := h
    rw [aA] at h; obtain ⟨N, h⟩ := h
    simp only [yb] at N
    obtain rfl := bJ.1 N.1
    have hb := cU.1 N.2
    obtain ⟨O, hsz⟩ := K0 (n := m) hzs hzr
    exact sX hM hr (mI het) hi hzv (by unfold iN at he; rw [hi] at he; simpa using he) (yy _) (by unfold jI at W; rw [hi] at W; simp at W; omega) Z hsz O (by simp [aI.len]) rfl h
   ·rw [bind_some] at h; obtain ⟨q, hq, h⟩ := h
    rw [bind_some] at h; obtain ⟨e, he, h⟩ := h
    rw [bind_some] at h; obtain ⟨bytes, W, h⟩ := h
    rw [aA] at h; obtain ⟨N, h⟩ := h
    simp only [yb] at N
    obtain ⟨⟨⟨g1, g2⟩, g3⟩, g4⟩ := N
    have g1 := cU.1 g1; have g2 := cU.1 g2; have g3 := bJ.1 g3; have g4 := mL g4
    obtain ⟨O, hsz⟩ := GM (n := m) hM hq hzr g3 g1 g4
    exact sX hM hr (mI het) hi hzv (by unfold iN at he; rw [hi] at he; simpa using he) g1 (by unfold jI at W; rw [hi] at W; simp at W; omega) Z hsz O (by simp [aI.len]) rfl h
  ·simp at h
 ·rename_i t x lo hi mx H
  rw [bind_some] at h; obtain ⟨vx, U, h⟩ := h
  rw [bind_some] at h; obtain ⟨vl, hl, h⟩ := h
  rw [bind_some] at h; obtain ⟨vh, hh, h⟩ := h
  rw [bind_some] at h; obtain ⟨vm, hm, h⟩ := h
  obtain ⟨h1, h2, cv, J, I⟩ := HD hM h (M _ _ U) (mB M hl) (mB M hh) (mB M hm)
  exact n6.still hM (by simp only [execOp, H] <;> rfl) h1 h2 J I
 ·rename_i s x f H
  rw [bind_some] at h; obtain ⟨vx, U, h⟩ := h
  rw [bind_some] at h; obtain ⟨q, hq, h⟩ := h
  have I := M _ _ U
  split at h
  ·rename_i b g i c
   obtain rfl := ya h
   generalize V : a.eval x = cv at I
   cases I with
   | ptr _ _ _ _ L B hl hb =>
    refine n6.still hM (by simp only [execOp, H] <;> rfl) rfl rfl (by rw [V]; exact B6 hq B _ w) ?_
    rw [yc3]
    exact .ptr b g i (c + q.1) L B hl hb
  ·rename_i β p c
   obtain rfl := ya h
   generalize V : a.eval x = cv at I
   cases I with
   | el _ _ _ B o cv hh hr =>
    refine n6.still hM (by simp only [execOp, H] <;> rfl) rfl rfl (by rw [V]; exact B6 hq B _ w) ?_
    rw [yc3]
    exact .el β p (c + q.1) B o cv hh hr
  ·simp at h
 ·rename_i s x f H
  rw [bind_some] at h; obtain ⟨vx, U, h⟩ := h
  rw [bind_some] at h; obtain ⟨q, hq, h⟩ := h
  split at h
  ·rename_i cs
   rw [bind_some] at h; obtain ⟨ag, hag, h⟩ := h
   have key : ∃ v, (bif ag then guardB (Nat.ble (q.1 + q.2.1) cs.length) (some (AV.agg ((cs.drop q.1).take q.2.1))) else cs[q.1]?) = some v ∧ out = { v } := by
    cases ag with
    | true =>
     simp only [yl] at h ⊢
     rw [aA] at h; obtain ⟨N, h⟩ := h
     exact ⟨_, by rw [N]; rfl, (ya h).symm⟩
    | false =>
     simp only [yk] at h ⊢
     obtain ⟨v, O, rfl⟩ := yc.1 h
     exact ⟨v, O, rfl⟩
   obtain ⟨v, O, rfl⟩ := key
   obtain ⟨cv, J, I⟩ := Hj hq hag (M _ _ U) O
   exact n6.still hM (by simp only [execOp, H] <;> rfl) rfl rfl J I
  ·simp at h
 ·rename_i t x ix H
  rw [bind_some] at h; obtain ⟨vx, U, h⟩ := h
  rw [bind_some] at h; obtain ⟨vi, hi, h⟩ := h
  split at h
  ·rename_i k i
   have ei := (M _ _ hi).lit_inv
   obtain ⟨v, rd, rfl, cv, J, I⟩ := HS (k := k) hM h (M _ _ U)
   exact n6.still hM (by simp only [execOp, H] <;> rfl) rfl rfl (by rw [ei]; exact J) I
  ·simp at h
 ·rename_i t x ix H
  exact HI hM M (by simp only [execOp, H] <;> rfl) h
 ·rename_i t ix H
  rw [bind_some] at h; obtain ⟨vt, ht, h⟩ := h
  split at h
  ·rename_i vs
   obtain ⟨v, O, rfl⟩ := yc.1 h
   have I := M _ _ ht
   generalize V : a.eval t = cv at I
   cases I with
   | tup _ cvs hlen hh =>
    have hix : ix < cvs.size := by rw [← hlen]; exact (yd.1 O).1
    have := hh ix v O
    rw [yj, yl1 hix] at this
    refine n6.still hM (by simp only [execOp, H] <;> rfl) rfl rfl (cv := cvs[ix]) ?_ this
    rw [V]
    simp [Instr.extract, yl1 hix]
  ·simp at h
 ·rename_i c H
  rw [bind_some] at h; obtain ⟨args, hargs, h⟩ := h
  have hav := AT M hargs
  split at h
  ·rename_i b hc
   obtain ⟨s, hs, hh⟩ := Eg (ty := o.type) (consts := c.args.map fun | .const _ => true | _ => false) hM (fun hb => Y (by rw [H]; subst hb; unfold d4; obtain ⟨cc, _, _⟩ := c; simp only at hc; subst hc; rfl)) h hav
   refine n6.value (s := s) ?_ hh
   rw [← hs]
   simp only [execOp, H, resolve, hc, invoke]
   rfl
  ·rename_i f hc
   rw [bind_some] at h; obtain ⟨fv, hf, h⟩ := h
   split at h
   ·rename_i g fi ca
    have I := M _ _ hf
    generalize V : a.eval f = cv at I
    cases I with
    | fn _ _ _ fvs cvs h1 h2 hff hcc =>
     obtain ⟨hen, hcl⟩ := hcall h ⟨h1, hff⟩ hav ⟨h2, hcc⟩
     intro K Q hK
     unfold Oper.wp
     have U : (execOp a.eval o).run P w = .ok (.enter g (fvs ++ c.args.map a.eval ++ cvs)) w := by
      simp only [execOp, H, resolve, hc, Deferred.ofValue, V, Sem.run_bind, Sem.run_pure, Result.andThen_ok, invoke]
      exact hen
     rw [U]
     refine Calls.mono hcl fun e w' he => ?_
     obtain ⟨G', cv, rfl, O, N, hev, hM'⟩ := he
     exact hK G' w' cv O N hev hM'
   ·simp at h
  ·simp at h
 ·simp at h
end
end Go.Ab
end
