import Derived.RangeFuncBox
import Derived.RangeFuncLeaves
import Derived.Shelf.Abstract
import Derived.WalkKit
import Derived.OwnWalkIn
import Derived.TacticsInMore
import Derived.LoopNIn
import Derived.LoopIn
import Derived.Test.YtdlbbdbbpoggfaaProg
set_option linter.unusedVariables false
set_option linter.unusedSimpArgs false
namespace Go.Proofs
open Go.RowKit Go.Shelf
attribute [local go_sem] Oper.semAt_some
def Fx.upto {α : Type} (f : Nat → α) (k : Nat) : List α := (List.range k).map f
theorem Fx.upto_succ {α : Type} (f : Nat → α) (k : Nat) : Fx.upto f (k + 1) = Fx.upto f k ++ [f k] := by simp [Fx.upto, List.range_succ]
theorem Fx.upto_length {α : Type} (f : Nat → α) (k : Nat) : (Fx.upto f k).length = k := by simp [Fx.upto]
def Fx.But (n₀ B5 : Nat) (W W' : World) : Prop := ∀ B, B < n₀ → B ≠ B5 → W'.heap[B]? = W.heap[B]?
theorem Fx.But.refl (H I : Nat) (W : World) : Fx.But H I W W := fun _ _ _ => rfl
theorem Fx.But.trans {H I : Nat} {A B C : World} (h : Fx.But H I A B) (k : Fx.But H I B C) : Fx.But H I A C := fun b J K => (k b J K).trans (h b J K)
theorem Fx.But.cell {I J : Nat} {A B : World} (h : Fx.But I J A B) {p : Addr} (K : p.block < I) (H : p.block ≠ J) : B.cell? p = A.cell? p := World.cell?_of_block (h _ K H)
def Fx.Row (n₀ B5 : Nat) (W : World) (sv : Value) (zs : List Int) : Prop :=
 (∃ a, sv = .slice a 0 0 ∧ zs = []) ∨ ∃ b off cap, sv = .slice (some ⟨b, off, none⟩) zs.length cap ∧ ∀ j, j < zs.length → b < n₀ ∧ b ≠ B5 ∧ W.cell? ⟨b, off + j, none⟩ = some (.int .u8 (zs[j]?.getD 0))
def Fx.nth (zs : List Int) (k : Nat) : Nat × Int := (zs.length - 1 - k, zs[zs.length - 1 - k]?.getD 0)
set_option maxRecDepth 100000 in
set_option maxHeartbeats 2000000 in
theorem Fx.back1_in (F : Fence) (n : Nat) (hC : F.fn 123) (hro : F.round = none) (hn : 1 ≤ n) (l N n₀ B5 b K cap : Nat) (H : List Int) (hreach : H.length ≤ 140737488351232) (hBn : N < n₀) (Z : N ≠ B5) (J Jx : List (Nat × Int) → World → Prop)
  (hY : ∀ I x W, J I W → I.length < H.length → YieldAt F (n - 1) Try.prog l #[.int .i64 (x.1 : Int), .int .u8 x.2] W fun e O =>
   (e = .returned (.bool true) ∧ J (I ++ [x]) O ∧ Fx.But n₀ B5 W O) ∨ (e = .returned (.bool false) ∧ Jx (I ++ [x]) O))
  (W : World) (hBs : W.cell? ⟨N, 0, none⟩ = some (.slice (some ⟨b, K, none⟩) H.length cap)) (hc : ∀ j, j < H.length → b < n₀ ∧ b ≠ B5 ∧ W.cell? ⟨b, K + j, none⟩ = some (.int .u8 (H[j]?.getD 0))) (h0 : J [] W) :
  CallsIn F n Try.prog 123 #[.func (.yield l) #[] #[], .pointer (some ⟨N, 0, none⟩)] W fun e O => (∃ v, e = .returned v) ∧
   ((∃ ys, ys = Fx.upto (Fx.nth H) H.length ∧ J ys O) ∨ (∃ I, (∃ k, k ≤ H.length ∧ I = Fx.upto (Fx.nth H) k) ∧ Jx I O)) := by
 refine callsIn_of_wp Try.func123 rfl hC ?_ hro
 simp only [Try.ntmps123, List.size_toArray, yg2, List.length_nil, Nat.reduceAdd, Nat.reduceSub, Array.replicate_succ, Array.replicate_zero, List.push_toArray, List.append_toArray, ya3, yp2]
 gi_wp2
 gi_loopw [3] (fun i wr => ∃ k : Nat, k ≤ H.length ∧ i = .int .i64 ((H.length : Int) - 1 - k) ∧ J (Fx.upto (Fx.nth H) k) wr ∧ Fx.But n₀ B5 W wr)
  (fun i _ => (intOf i + 1).toNat)
 case atStart => exact ⟨0, Nat.zero_le _, by simp, h0, Fx.But.refl _ _ _⟩
 case round =>
  obtain ⟨k, hk, rfl, U, M⟩ := hrel
  have hBs' : wr.cell? ⟨N, 0, none⟩ = some (.slice (some ⟨b, K, none⟩) H.length cap) := (M.cell (p := ⟨N, 0, none⟩) hBn Z).trans hBs
  by_cases hlt : k < H.length
  ·have he : ((H.length : Int) - 1 - k) = ((H.length - 1 - k : Nat) : Int) := by omega
   have V : wr.cell? ⟨b, K + (H.length - 1 - k), none⟩ = some (.int .u8 (H[H.length - 1 - k]?.getD 0)) := (M.cell (p := ⟨b, K + (H.length - 1 - k), none⟩) (hc 0 (by omega)).1 (hc 0 (by omega)).2.1).trans (hc _ (by omega)).2.2
   obtain ⟨fn, tmps, assign, body, hy, hR⟩ := hY _ (Fx.nth H k) wr U (by rw [Fx.upto_length]; exact hlt)
   simp only [Fx.nth] at hy
   have hi : H.length - 1 - k < H.length := by omega
   rw [he]
   generalize hq : H.length - 1 - k = q at hy V hi ⊢
   have hg : H[q]?.getD 0 = H[q] := by simp [hi]
   rw [hg] at hy V
   gi_wp2
   refine hR.mono ?_
   rintro e W3 (⟨rfl, hJ3, hk3⟩ | ⟨rfl, Y⟩)
   ·gi_wp2
    go_roundw
    case rel => exact ⟨k + 1, by omega, by simp; omega, by rw [Fx.upto_succ]; exact hJ3, M.trans hk3⟩
    case measure => simp [intOf]
   ·gi_wp2
    refine bodyPost_ret (results_none rfl _ _ _) rfl ?_
    exact ⟨⟨_, rfl⟩, .inr ⟨_, ⟨k + 1, by omega, (Fx.upto_succ _ _).symm⟩, Y⟩⟩
  ·obtain rfl : k = H.length := by omega
   gi_wp2
   go_end0
   exact ⟨⟨_, rfl⟩, .inl ⟨_, rfl, U⟩⟩
set_option maxRecDepth 100000 in
set_option maxHeartbeats 1000000 in
theorem Fx.back1_nil_in (F : Fence) (n : Nat) (hC : F.fn 123) (I : F.round = none) (l K : Nat) (a : Option Addr) (J : List (Nat × Int) → World → Prop) (W : World) (N : W.cell? ⟨K, 0, none⟩ = some (.slice a 0 0)) (M : J [] W) :
  CallsIn F n Try.prog 123 #[.func (.yield l) #[] #[], .pointer (some ⟨K, 0, none⟩)] W fun e O => (∃ v, e = .returned v) ∧ J [] O := by
 refine callsIn_of_wp Try.func123 rfl hC ?_ I
 simp only [Try.ntmps123, List.size_toArray, yg2, List.length_nil, Nat.reduceAdd, Nat.reduceSub, Array.replicate_succ, Array.replicate_zero, List.push_toArray, List.append_toArray, ya3, yp2]
 gi_wp2
 gi_loopw [3] (fun i wr => i = .int .i64 (-1) ∧ J [] wr) (fun _ _ => 0)
 case atStart => exact ⟨rfl, M⟩
 case round =>
  obtain ⟨rfl, H⟩ := hrel
  gi_wp2
  go_end0
  exact ⟨⟨_, rfl⟩, H⟩
theorem Fx.back_stops (F : Fence) (n : Nat) (hC : F.fn 123) (V : F.round = none) (hn : 1 ≤ n) (M Z B5 : Nat) (sv : Value) (K : List Int) (I : K.length ≤ 140737488351232) (w : World) (O : Z ≤ w.heap.size) (hBn : M < Z) (Y : M ≠ B5)
  (hc : w.cell? ⟨M, 0, none⟩ = some sv) (hI : Fx.Row Z B5 w sv K) :
  SeqStopsK F n Try.prog 123 #[.pointer (some ⟨M, 0, none⟩)] (fun x : Nat × Int => #[Value.int .i64 (x.1 : Int), Value.int .u8 x.2]) (Fx.But Z B5) (fun ys => ys = Fx.upto (Fx.nth K) K.length)
   (fun pre => ∃ k, k ≤ K.length ∧ pre = Fx.upto (Fx.nth K) k) K.length w := fun l J Jx W hW _ _ hY h0 => by
 have hc' := (hW.cell (p := ⟨M, 0, none⟩) (yh1 hBn O)).trans hc
 rcases hI with ⟨a, rfl, rfl⟩ | ⟨b, U, cap, rfl, H⟩
 ·exact (Fx.back1_nil_in F n hC V l M a J W hc' h0).mono fun e W' ⟨he, N⟩ => ⟨he, .inl ⟨_, rfl, N⟩⟩
 ·exact Fx.back1_in F n hC V hn l M Z B5 b U cap K I hBn Y J Jx hY W hc' (fun j N => ⟨(H j N).1, (H j N).2.1, (hW.cell (p := ⟨b, U + j, none⟩) (yh1 (H j N).1 O)).trans (H j N).2.2⟩) h0
end Go.Proofs
