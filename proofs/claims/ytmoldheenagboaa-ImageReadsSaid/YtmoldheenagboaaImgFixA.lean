import Derived.RangeFuncBox
import Derived.RangeFuncLeaves
import Derived.Shelf.Abstract
import Derived.WalkKit
import Derived.OwnWalkIn
import Derived.TacticsInMore
import Derived.LoopNIn
import Derived.LoopIn
import Derived.Test.YtmoldheenagboaaProg
set_option linter.unusedVariables false
set_option linter.unusedSimpArgs false
namespace Go.Proofs
open Go.RowKit Go.Shelf
attribute [local go_sem] Oper.semAt_some
def Fx.upto {α : Type} (f : Nat → α) (k : Nat) : List α := (List.range k).map f
theorem Fx.upto_succ {α : Type} (f : Nat → α) (k : Nat) : Fx.upto f (k + 1) = Fx.upto f k ++ [f k] := by simp [Fx.upto, List.range_succ]
theorem Fx.upto_length {α : Type} (f : Nat → α) (k : Nat) : (Fx.upto f k).length = k := by simp [Fx.upto]
def Fx.But (n₀ B5 : Nat) (W W' : World) : Prop := ∀ B, B < n₀ → B ≠ B5 → W'.heap[B]? = W.heap[B]?
theorem Fx.But.refl (n₀ B5 : Nat) (W : World) : Fx.But n₀ B5 W W := fun _ _ _ => rfl
theorem Fx.But.trans {n₀ B5 : Nat} {A B C : World} (h : Fx.But n₀ B5 A B) (k : Fx.But n₀ B5 B C) : Fx.But n₀ B5 A C := fun b h1 h2 => (k b h1 h2).trans (h b h1 h2)
theorem Fx.But.cell {n₀ B5 : Nat} {A B : World} (h : Fx.But n₀ B5 A B) {p : Addr} (hp : p.block < n₀) (hne : p.block ≠ B5) : B.cell? p = A.cell? p := World.cell?_of_block (h _ hp hne)
def Fx.Row (n₀ B5 : Nat) (W : World) (sv : Value) (zs : List Int) : Prop :=
 (∃ a, sv = .slice a 0 0 ∧ zs = []) ∨ ∃ b off cap, sv = .slice (some ⟨b, off, none⟩) zs.length cap ∧ ∀ j, j < zs.length → b < n₀ ∧ b ≠ B5 ∧ W.cell? ⟨b, off + j, none⟩ = some (.int .u8 (zs[j]?.getD 0))
def Fx.nth (zs : List Int) (k : Nat) : Nat × Int := (zs.length - 1 - k, zs[zs.length - 1 - k]?.getD 0)
set_option maxRecDepth 100000 in
set_option maxHeartbeats 2000000 in
theorem Fx.back1_in (F : Fence) (n : Nat) (hC : F.fn 99) (hro : F.round = none) (hn : 1 ≤ n) (l Bs n₀ B5 b off cap : Nat) (zs : List Int) (hreach : zs.length ≤ 140737488351232) (hBn : Bs < n₀) (hBne : Bs ≠ B5) (J Jx : List (Nat × Int) → World → Prop)
  (hY : ∀ pre x W, J pre W → pre.length < zs.length → YieldAt F (n - 1) Try.prog l #[.int .i64 (x.1 : Int), .int .u8 x.2] W fun e W' =>
   (e = .returned (.bool true) ∧ J (pre ++ [x]) W' ∧ Fx.But n₀ B5 W W') ∨ (e = .returned (.bool false) ∧ Jx (pre ++ [x]) W'))
  (W : World) (hBs : W.cell? ⟨Bs, 0, none⟩ = some (.slice (some ⟨b, off, none⟩) zs.length cap)) (hc : ∀ j, j < zs.length → b < n₀ ∧ b ≠ B5 ∧ W.cell? ⟨b, off + j, none⟩ = some (.int .u8 (zs[j]?.getD 0))) (h0 : J [] W) :
  CallsIn F n Try.prog 99 #[.func (.yield l) #[] #[], .pointer (some ⟨Bs, 0, none⟩)] W fun e W' => (∃ v, e = .returned v) ∧
   ((∃ ys, ys = Fx.upto (Fx.nth zs) zs.length ∧ J ys W') ∨ (∃ pre, (∃ k, k ≤ zs.length ∧ pre = Fx.upto (Fx.nth zs) k) ∧ Jx pre W')) := by
 refine callsIn_of_wp Try.func99 rfl hC ?_ hro
 simp only [Try.ntmps99, List.size_toArray, List.length_cons, List.length_nil, Nat.reduceAdd, Nat.reduceSub, Array.replicate_succ, Array.replicate_zero, List.push_toArray, List.append_toArray, List.nil_append, List.cons_append]
 gi_wp2
 gi_loopw [3] (fun i wr => ∃ k : Nat, k ≤ zs.length ∧ i = .int .i64 ((zs.length : Int) - 1 - k) ∧ J (Fx.upto (Fx.nth zs) k) wr ∧ Fx.But n₀ B5 W wr)
  (fun i _ => (intOf i + 1).toNat)
 case atStart => exact ⟨0, Nat.zero_le _, by simp, h0, Fx.But.refl _ _ _⟩
 case round =>
  obtain ⟨k, hk, rfl, hJs, hnx⟩ := hrel
  have hBs' : wr.cell? ⟨Bs, 0, none⟩ = some (.slice (some ⟨b, off, none⟩) zs.length cap) := (hnx.cell (p := ⟨Bs, 0, none⟩) hBn hBne).trans hBs
  by_cases hlt : k < zs.length
  ·have he : ((zs.length : Int) - 1 - k) = ((zs.length - 1 - k : Nat) : Int) := by omega
   have hcx : wr.cell? ⟨b, off + (zs.length - 1 - k), none⟩ = some (.int .u8 (zs[zs.length - 1 - k]?.getD 0)) := (hnx.cell (p := ⟨b, off + (zs.length - 1 - k), none⟩) (hc 0 (by omega)).1 (hc 0 (by omega)).2.1).trans (hc _ (by omega)).2.2
   obtain ⟨fn, tmps, assign, body, hy, hR⟩ := hY _ (Fx.nth zs k) wr hJs (by rw [Fx.upto_length]; exact hlt)
   simp only [Fx.nth] at hy
   have hi : zs.length - 1 - k < zs.length := by omega
   rw [he]
   generalize hq : zs.length - 1 - k = q at hy hcx hi ⊢
   have hg : zs[q]?.getD 0 = zs[q] := by simp [hi]
   rw [hg] at hy hcx
   gi_wp2
   refine hR.mono ?_
   rintro e W3 (⟨rfl, hJ3, hk3⟩ | ⟨rfl, hJx3⟩)
   ·gi_wp2
    go_roundw
    case rel => exact ⟨k + 1, by omega, by simp; omega, by rw [Fx.upto_succ]; exact hJ3, hnx.trans hk3⟩
    case measure => simp [intOf]
   ·gi_wp2
    refine bodyPost_ret (results_none rfl _ _ _) rfl ?_
    exact ⟨⟨_, rfl⟩, .inr ⟨_, ⟨k + 1, by omega, (Fx.upto_succ _ _).symm⟩, hJx3⟩⟩
  ·obtain rfl : k = zs.length := by omega
   gi_wp2
   go_end0
   exact ⟨⟨_, rfl⟩, .inl ⟨_, rfl, hJs⟩⟩
set_option maxRecDepth 100000 in
set_option maxHeartbeats 1000000 in
theorem Fx.back1_nil_in (F : Fence) (n : Nat) (hC : F.fn 99) (hro : F.round = none) (l Bs : Nat) (a : Option Addr) (J : List (Nat × Int) → World → Prop) (W : World) (hBs : W.cell? ⟨Bs, 0, none⟩ = some (.slice a 0 0)) (h0 : J [] W) :
  CallsIn F n Try.prog 99 #[.func (.yield l) #[] #[], .pointer (some ⟨Bs, 0, none⟩)] W fun e W' => (∃ v, e = .returned v) ∧ J [] W' := by
 refine callsIn_of_wp Try.func99 rfl hC ?_ hro
 simp only [Try.ntmps99, List.size_toArray, List.length_cons, List.length_nil, Nat.reduceAdd, Nat.reduceSub, Array.replicate_succ, Array.replicate_zero, List.push_toArray, List.append_toArray, List.nil_append, List.cons_append]
 gi_wp2
 gi_loopw [3] (fun i wr => i = .int .i64 (-1) ∧ J [] wr) (fun _ _ => 0)
 case atStart => exact ⟨rfl, h0⟩
 case round =>
  obtain ⟨rfl, hJs⟩ := hrel
  gi_wp2
  go_end0
  exact ⟨⟨_, rfl⟩, hJs⟩
theorem Fx.back_stops (F : Fence) (n : Nat) (hC : F.fn 99) (hro : F.round = none) (hn : 1 ≤ n) (Bs n₀ B5 : Nat) (sv : Value) (zs : List Int) (hreach : zs.length ≤ 140737488351232) (w : World) (hn₀ : n₀ ≤ w.heap.size) (hBn : Bs < n₀) (hBne : Bs ≠ B5)
  (hc : w.cell? ⟨Bs, 0, none⟩ = some sv) (hI : Fx.Row n₀ B5 w sv zs) :
  SeqStopsK F n Try.prog 99 #[.pointer (some ⟨Bs, 0, none⟩)] (fun x : Nat × Int => #[Value.int .i64 (x.1 : Int), Value.int .u8 x.2]) (Fx.But n₀ B5) (fun ys => ys = Fx.upto (Fx.nth zs) zs.length)
   (fun pre => ∃ k, k ≤ zs.length ∧ pre = Fx.upto (Fx.nth zs) k) zs.length w := fun l J Jx W hW _ _ hY h0 => by
 have hc' := (hW.cell (p := ⟨Bs, 0, none⟩) (Nat.lt_of_lt_of_le hBn hn₀)).trans hc
 rcases hI with ⟨a, rfl, rfl⟩ | ⟨b, off, cap, rfl, hcs⟩
 ·exact (Fx.back1_nil_in F n hC hro l Bs a J W hc' h0).mono fun e W' ⟨he, hj⟩ => ⟨he, .inl ⟨_, rfl, hj⟩⟩
 ·exact Fx.back1_in F n hC hro hn l Bs n₀ B5 b off cap zs hreach hBn hBne J Jx hY W hc' (fun j hj => ⟨(hcs j hj).1, (hcs j hj).2.1, (hW.cell (p := ⟨b, off + j, none⟩) (Nat.lt_of_lt_of_le (hcs j hj).1 hn₀)).trans (hcs j hj).2.2⟩) h0
end Go.Proofs
