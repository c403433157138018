/- Package variables of two numbers, as a row lists them. -/
import Derived.Test.YtliamnpngkojdaaDoorLib31
import GoSem.ClaimJoined
import Derived.FnData
set_option linter.unusedVariables false
set_option linter.unusedSectionVars false
namespace Go.Ab
variable [GTab]
def isI64 (P : Program) (t : TypeId) : Bool := match P.underlying t with | some (.int .i64) => true | _ => false
def pairOk (P : Program) (n : String) (g : Nat) : Bool :=
 match P.globalNamed n with
 | some g' => Nat.beq g' g && (match (P.globals[g']?).map (·.type) with
  | some t => (match P.underlying t with
   | some (.struct fs) => (match fs.toList with
    | [a, b] => Nat.beq a.offset 0 && Nat.beq b.offset 1 && isI64 P a.type && isI64 P b.type && Nat.beq (P.cellsOf a.type) 1 && Nat.beq (P.cellsOf b.type) 1 && Nat.beq (P.cellsOf t) 2
    | _ => false)
   | _ => false)
  | none => false)
 | none => false
theorem zkS {P : Program} {t : TypeId} (h : isI64 P t = true) : P.underlying t = some (.int .i64) := by
 unfold isI64 at h
 split at h
 ·assumption
 ·cases h
theorem zkY {P : Program} {w : World} {H : Type} {enc : TypeId × Value → H} {base : Nat} {sp : Nat → Bool} {held : Bool} {t : TypeId} (ht : P.underlying t = some (.int .i64)) {fuel : Nat} {c : Value} {x : DataW H × List MemPlace}
  (h : DataW.trod enc P w base sp held fuel t [c] = some x) : ∃ n, c = .int .i64 n ∧ x.1 = .lit (.int .i64 n) := by
 cases fuel with
 | zero => simp [DataW.trod] at h
 | succ fuel =>
  unfold DataW.trod at h
  rw [ht] at h
  cases c <;> simp at h
  rename_i k n
  obtain ⟨⟨rfl, _⟩, rfl⟩ := h
  exact ⟨n, rfl, rfl⟩
theorem zng {P : Program} {w : World} {H : Type} {enc : TypeId × Value → H} {base : Nat} {sp : Nat → Bool} {held : Bool} {t : TypeId} {fs : Array Field} {f0 f1 : Field} (ht : P.underlying t = some (.struct fs)) (hfs : fs.toList = [f0, f1])
  (o0 : f0.offset = 0) (o1 : f1.offset = 1) (u0 : P.underlying f0.type = some (.int .i64)) (u1 : P.underlying f1.type = some (.int .i64)) (c0 : P.cellsOf f0.type = 1) (c1 : P.cellsOf f1.type = 1) (ct : P.cellsOf t = 2)
  {fuel : Nat} {cs : List Value} {a b : Int} {p : List MemPlace} (h : DataW.trod enc P w base sp held fuel t cs = some (.agg [.lit (.int .i64 a), .lit (.int .i64 b)], p)) : cs = [.int .i64 a, .int .i64 b] := by
 cases fuel with
 | zero => simp [DataW.trod] at h
 | succ fuel =>
  unfold DataW.trod at h
  rw [ht] at h
  simp only [hfs, ct] at h
  split at h
  ·rename_i hl
   match cs, hl with
   | [x, y], _ =>
    simp only [List.mapM_cons, List.mapM_nil, o0, o1, c0, c1, List.drop_zero, List.take_succ_cons, List.take_zero, List.drop_succ_cons] at h
    obtain ⟨xs, hx, he⟩ := Option.map_eq_some_iff.1 h
    simp only [Option.bind_eq_bind, Option.bind_eq_some_iff, Option.pure_def, Option.some.injEq] at hx
    obtain ⟨u, hu, vs, ⟨v, hv, ws, rfl, rfl⟩, rfl⟩ := hx
    obtain ⟨n, rfl, h1⟩ := zkY u0 hu
    obtain ⟨m, rfl, h2⟩ := zkY u1 hv
    have e := (Prod.mk.inj he).1
    simp only [List.map_cons, List.map_nil, h1, h2] at e
    injection e with e
    injection e with e1 e2
    injection e2 with e2 _
    injection e1 with e1
    injection e1 with _ e1
    injection e2 with e2
    injection e2 with _ e2
    rw [e1, e2]
  ·cases h
theorem zji {α : Type} : ∀ {l : List (Nat × α)} {n : Nat} {x : α}, assoc n l = some x → (n, x) ∈ l
 | [], n, x, h => by cases h
 | (m, y) :: r, n, x, h => by
  unfold assoc at h
  cases hb : Nat.beq m n with
  | true => rw [hb] at h; obtain rfl := Option.some.inj h; obtain rfl := nb.1 hb; exact .head _
  | false => rw [hb] at h; exact .tail _ (zji h)
theorem zfK (l : List (String × Nat × Int × Int)) {g : Nat} {q : Int × Int} (h : assoc g (l.map (·.2)) = some q) : ∃ x ∈ l, x.2.1 = g ∧ x.2.2 = q := by
 obtain ⟨x, hx, e⟩ := List.mem_map.1 (zji h)
 exact ⟨x, hx, by rw [e], by rw [e]⟩
theorem zmV {P : Program} {w : World} : ∀ {l : List (String × DataW Unit)} {ps : List MemPlace}, DataW.LaidVars P w l ps → ∀ x ∈ l, ∃ g t cs fuel p, P.globalNamed x.1 = some g ∧ (P.globals[g]?).map (·.type) = some t ∧ w.var? P x.1 = some cs ∧ DataW.trod (fun _ => ()) P w 0 (fun _ => true) false fuel t cs.toList = some (x.2, p)
 | [], ps, h, x, hx => by cases hx
 | (n, d) :: r, ps, h, x, hx => by
  obtain ⟨g, t, cs, fuel, p, q, h1, h2, h3, h4, h5, _⟩ := h
  rcases List.mem_cons.1 hx with rfl | hx
  ·exact ⟨g, t, cs, fuel, p, h1, h2, h3, h4⟩
  ·exact zmV h5 x hx
theorem zas {P : Program} {W : World} {laid : List (String × DataW Unit)} (l : List (String × Nat × Int × Int)) (h : laidMet P laid W) (hl : ∀ x ∈ l, (x.1, DataW.agg [.lit (.int .i64 x.2.2.1), .lit (.int .i64 x.2.2.2)]) ∈ laid) (hok : (l.all fun x => pairOk P x.1 x.2.1) = true)
  (htab : ∀ g q, GTab.tab g = some q → ∃ x ∈ l, x.2.1 = g ∧ x.2.2 = q) : GlobR (Gst W) W := by
 intro g q hq
 obtain ⟨x, hx, rfl, rfl⟩ := htab g q hq
 obtain ⟨ps, h, _⟩ := h
 obtain ⟨g', t, cs, fuel, p, h1, h2, h3, h4⟩ := zmV h _ (hl x hx)
 have ho := List.all_eq_true.1 hok x hx
 unfold pairOk at ho
 simp only [h1, h2, Bool.and_eq_true] at ho
 obtain ⟨hg, ho⟩ := ho
 obtain rfl := nb.1 hg
 split at ho
 ·rename_i fs ht
  split at ho
  ·rename_i f0 f1 hfs
   simp only [Bool.and_eq_true] at ho
   obtain ⟨⟨⟨⟨⟨⟨o0, o1⟩, u0⟩, u1⟩, c0⟩, c1⟩, ct⟩ := ho
   have e := zng ht hfs (nb.1 o0) (nb.1 o1) (zkS u0) (zkS u1) (nb.1 c0) (nb.1 c1) (nb.1 ct) h4
   have k0 : cl W x.2.1 0 = some (.int .i64 x.2.2.1) := by
    have := World.var?_cell h1 h3 0
    rw [← Array.getElem?_toList, e] at this
    exact this
   have k1 : cl W x.2.1 1 = some (.int .i64 x.2.2.2) := by
    have := World.var?_cell h1 h3 1
    rw [← Array.getElem?_toList, e] at this
    exact this
   exact ⟨⟨k0, zie (by rw [k0]; rfl)⟩, k1, zie (by rw [k1]; rfl)⟩
  ·cases ho
 ·cases ho
end Go.Ab
