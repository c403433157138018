import Derived.Test.YtdlbbdbbpoggfaaGreatDoorLib31
import GoSem.ClaimJoined
import Derived.FnData
set_option linter.unusedVariables false
set_option linter.unusedSectionVars false
namespace Go.Ab
variable [cD]
def La (P : Program) (t : TypeId) : Bool := match P.underlying t with | some (.int .i64) => true | _ => false
def M3 (P : Program) (n : String) (g : Nat) : Bool :=
 match P.globalNamed n with
 | some g' => Nat.beq g' g && (match (P.globals[g']?).map (·.type) with
  | some t => (match P.underlying t with
   | some (.struct fs) => (match fs.toList with
    | [a, b] => Nat.beq a.offset 0 && Nat.beq b.offset 1 && La P a.type && La P b.type && Nat.beq (P.cellsOf a.type) 1 && Nat.beq (P.cellsOf b.type) 1 && Nat.beq (P.cellsOf t) 2
    | _ => false)
   | _ => false)
  | none => false)
 | none => false
theorem IQ {P : Program} {t : TypeId} (h : La P t = true) : P.underlying t = some (.int .i64) := by
 unfold La at h
 split at h
 ·assumption
 ·cases h
theorem H5 {P : Program} {w : World} {H : Type} {enc : TypeId × Value → H} {base : Nat} {A : Nat → Bool} {z : Bool} {t : TypeId} (ht : P.underlying t = some (.int .i64)) {fuel : Nat} {c : Value} {x : DataW H × List MemPlace}
  (h : DataW.trod enc P w base A z fuel t [c] = some x) : ∃ n, c = .int .i64 n ∧ x.1 = .lit (.int .i64 n) := by
 cases fuel with
 | zero => simp [DataW.trod] at h
 | succ fuel =>
  unfold DataW.trod at h
  rw [ht] at h
  cases c <;> simp at h
  rename_i k n
  obtain ⟨⟨rfl, _⟩, rfl⟩ := h
  exact ⟨n, rfl, rfl⟩
theorem Mn {P : Program} {w : World} {H : Type} {enc : TypeId × Value → H} {base : Nat} {Y : Nat → Bool} {A : Bool} {t : TypeId} {fs : Array Field} {K M : Field} (ht : P.underlying t = some (.struct fs)) (N : fs.toList = [K, M])
  (o0 : K.offset = 0) (W : M.offset = 1) (V : P.underlying K.type = some (.int .i64)) (u1 : P.underlying M.type = some (.int .i64)) (O : P.cellsOf K.type = 1) (c1 : P.cellsOf M.type = 1) (ct : P.cellsOf t = 2)
  {fuel : Nat} {cs : List Value} {a b : Int} {p : List MemPlace} (h : DataW.trod enc P w base Y A fuel t cs = some (.agg [.lit (.int .i64 a), .lit (.int .i64 b)], p)) : cs = [.int .i64 a, .int .i64 b] := by
 cases fuel with
 | zero => simp [DataW.trod] at h
 | succ fuel =>
  unfold DataW.trod at h
  rw [ht] at h
  simp only [N, ct] at h
  split at h
  ·rename_i hl
   match cs, hl with
   | [x, y], _ =>
    simp only [List.mapM_cons, List.mapM_nil, o0, W, O, c1, yl1, List.take_succ_cons, List.take_zero, List.drop_succ_cons] at h
    obtain ⟨xs, hx, he⟩ := yf.1 h
    simp only [Option.bind_eq_bind, yo1, Option.pure_def, Option.some.injEq] at hx
    obtain ⟨u, Z, vs, ⟨v, U, ws, rfl, rfl⟩, rfl⟩ := hx
    obtain ⟨n, rfl, h1⟩ := H5 V Z
    obtain ⟨m, rfl, h2⟩ := H5 u1 U
    have e := (Prod.mk.inj he).1
    simp only [yh2, List.map_nil, h1, h2] at e
    injection e with e
    injection e with J z
    injection z with z _
    injection J with J
    injection J with _ J
    injection z with z
    injection z with _ z
    rw [J, z]
  ·cases h
theorem Fq {α : Type} : ∀ {l : List (Nat × α)} {n : Nat} {x : α}, dU n l = some x → (n, x) ∈ l
 | [], n, x, h => by cases h
 | (m, y) :: r, n, x, h => by
  unfold dU at h
  cases z : Nat.beq m n with
  | true => rw [z] at h; obtain rfl := yb h; obtain rfl := nb.1 z; exact .head _
  | false => rw [z] at h; exact .tail _ (Fq h)
theorem Ji (l : List (String × Nat × Int × Int)) {g : Nat} {q : Int × Int} (h : dU g (l.map (·.2)) = some q) : ∃ x ∈ l, x.2.1 = g ∧ x.2.2 = q := by
 obtain ⟨x, hx, e⟩ := yc3.1 (Fq h)
 exact ⟨x, hx, by rw [e], by rw [e]⟩
theorem KA {P : Program} {w : World} : ∀ {l : List (String × DataW Unit)} {ps : List MemPlace}, DataW.LaidVars P w l ps → ∀ x ∈ l, ∃ g t cs fuel p, P.globalNamed x.1 = some g ∧ (P.globals[g]?).map (·.type) = some t ∧ w.var? P x.1 = some cs ∧ DataW.trod (fun _ => ()) P w 0 (fun _ => true) false fuel t cs.toList = some (x.2, p)
 | [], ps, h, x, hx => by cases hx
 | (n, d) :: r, ps, h, x, hx => by
  obtain ⟨g, t, cs, fuel, p, q, h1, h2, H, z, A, _⟩ := h
  rcases yq1.1 hx with rfl | hx
  ·exact ⟨g, t, cs, fuel, p, h1, h2, H, z⟩
  ·exact KA A x hx
theorem o9 {P : Program} {W : World} {A : List (String × DataW Unit)} (l : List (String × Nat × Int × Int)) (h : laidMet P A W) (hl : ∀ x ∈ l, (x.1, DataW.agg [.lit (.int .i64 x.2.2.1), .lit (.int .i64 x.2.2.2)]) ∈ A) (K : (l.all fun x => M3 P x.1 x.2.1) = true)
  (H : ∀ g q, cD.tab g = some q → ∃ x ∈ l, x.2.1 = g ∧ x.2.2 = q) : oS (F7 W) W := by
 intro g q Z
 obtain ⟨x, hx, rfl, rfl⟩ := H g q Z
 obtain ⟨ps, h, _⟩ := h
 obtain ⟨g', t, cs, fuel, p, h1, h2, N, Y⟩ := KA h _ (hl x hx)
 have z := yx.1 K x hx
 unfold M3 at z
 simp only [h1, h2, yc] at z
 obtain ⟨U, z⟩ := z
 obtain rfl := nb.1 U
 split at z
 ·rename_i fs ht
  split at z
  ·rename_i f0 f1 J
   simp only [yc] at z
   obtain ⟨⟨⟨⟨⟨⟨o0, o1⟩, V⟩, u1⟩, O⟩, c1⟩, ct⟩ := z
   have e := Mn ht J (nb.1 o0) (nb.1 o1) (IQ V) (IQ u1) (nb.1 O) (nb.1 c1) (nb.1 ct) Y
   have M : cl W x.2.1 0 = some (.int .i64 x.2.2.1) := by
    have := World.var?_cell h1 N 0
    rw [← yk1, e] at this
    exact this
   have k1 : cl W x.2.1 1 = some (.int .i64 x.2.2.2) := by
    have := World.var?_cell h1 N 1
    rw [← yk1, e] at this
    exact this
   exact ⟨⟨M, Db (by rw [M]; rfl)⟩, k1, Db (by rw [k1]; rfl)⟩
  ·cases z
 ·cases z
end Go.Ab
