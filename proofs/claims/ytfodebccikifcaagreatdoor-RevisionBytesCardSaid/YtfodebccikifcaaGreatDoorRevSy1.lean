/- Spoiled revisions. No condition. -/
import Derived.Test.YtfodebccikifcaaGreatDoorMakey1
import Derived.Test.YtfodebccikifcaaGreatDoorRevEy1
namespace Go.Proofs.YtfodebccikifcaaGreatDoor
open Go Go.Dc
theorem pathsOf {N : Nat} {L : List File} (h : ∀ f ∈ L, f.1.size ≤ 1048576) (hN : 3000000 < N) : PathsOk N L := fun g hg => Path_eq (by have := h g hg; omega) (by have := h g hg; omega)
theorem made_small {L : List File} (h : Made L) : ∀ f ∈ L, f.1.size ≤ 1048576 := fun f hf => by
 have := path_small (h.path hf); omega
theorem spoiled_ok {N : Nat} {l : List Int} {a : Int} (hN : 3000 < N) (h0 : 0 ≤ a) (h1 : a < 10000000000000000) : Ok (testgatelaw07_spoiled N (l, a)) fun y => ∃ a' L, y = ((l, a'), L) ∧ a ≤ a' ∧ a' ≤ a + 2000000 ∧ L.length ≤ 8 ∧ ∀ f ∈ L, f.1.size ≤ 1048576 := by
 simp only [testgatelaw07_spoiled]
 refine Ok.bind (Revision_ok hN h0 h1) ?_
 rintro _ ⟨a', L, rfl, k1, k2, hm, hl⟩
 have hs := made_small hm
 dsimp only
 refine Ok.iteb (fun _ => Ok.someb ?_) (fun hne => ?_)
 ·dsimp only
  exact Ok.tt (Ok.mk ⟨a', L, rfl, k1, by omega, by omega, hs⟩)
 ·have hl0 : 0 < L.length := by
   rcases Nat.eq_zero_or_pos L.length with h | h
   ·exact absurd (by rw [h]; rfl) hne
   ·exact h
  refine Ok.assoc (Ok.chance (by omega) (by omega) (by omega) (by omega) fun r => Ok.someb ?_)
  dsimp only
  refine Ok.ite (fun _ => Ok.mk ⟨a' + 1, L, rfl, by omega, by omega, by omega, hs⟩) (fun _ => ?_)
  rw [appM_some (by omega) (by omega)]
  refine Ok.someb (Ok.next (by omega) (by omega) (by omega) (by omega) fun q q0 q1 => ?_)
  obtain ⟨k, rfl⟩ : ∃ k : Nat, q = k := ⟨q.toNat, by omega⟩
  have hk : k < L.length := by omega
  dsimp only
  refine Ok.next (by omega) (by omega) (by omega) (by omega) fun r r0 r1 => ?_
  dsimp only
  refine Ok.iteb (fun _ => ?_) fun _ => Ok.iteb (fun _ => ?_) fun _ => Ok.iteb (fun _ => ?_) fun _ => Ok.iteb (fun _ => ?_) fun _ => ?_
  ·refine Ok.assoc (Ok.one (by omega) (by omega) (by decide) (by decide) fun x hx => ?_)
   dsimp only
   rw [idx_nat hk]
   refine Ok.someb (Ok.someb ?_)
   dsimp only
   refine Ok.mk ⟨_, _, rfl, by omega, by omega, by rw [List.length_set]; omega, fun f hf => ?_⟩
   rcases List.mem_or_eq_of_mem_set hf with hf | rfl
   ·exact hs f hf
   ·have : ∀ x ∈ ([(⟨#[]⟩ : ByteArray), (⟨#[65]⟩ : ByteArray), (⟨#[97, 47, 47, 98]⟩ : ByteArray), (⟨#[122, 122]⟩ : ByteArray), (⟨#[97, 46, 100, 97, 116]⟩ : ByteArray)]), x.size ≤ 1048576 := by decide
    exact this x hx
  ·rw [idx_nat hk]
   refine Ok.assoc (Ok.someb (Ok.assoc ?_))
   rw [appendS_some (by simp only [List.length_cons, List.length_nil]; omega) (by omega)]
   refine Ok.someb (Ok.someb ?_)
   dsimp only
   refine Ok.mk ⟨_, _, rfl, by omega, by omega, by simp only [List.length_append, List.length_cons, List.length_nil]; omega, fun f hf => ?_⟩
   rcases List.mem_append.1 hf with hf | hf
   ·exact hs f hf
   ·obtain rfl := List.mem_singleton.1 hf
    exact hs _ (List.getElem_mem hk)
  ·rw [subS_some (by omega) (by omega) (by omega)]
   refine Ok.assoc (Ok.someb ?_)
   rw [idx_nat hk]
   refine Ok.assoc (Ok.someb ?_)
   rw [subS_some (by omega) (by omega) (by omega)]
   refine Ok.assoc (Ok.someb (Ok.assoc ?_))
   rw [appendS_some (by simp only [List.length_cons, List.length_nil, List.length_drop, List.length_take]; omega) (by omega)]
   refine Ok.someb (Ok.assoc ?_)
   rw [appendS_some (by simp only [List.length_append, List.length_cons, List.length_nil, List.length_drop, List.length_take]; omega) (by omega)]
   refine Ok.someb (Ok.someb ?_)
   dsimp only
   refine Ok.mk ⟨_, _, rfl, by omega, by omega, by simp only [List.length_append, List.length_cons, List.length_nil, List.length_drop, List.length_take]; omega, fun f hf => ?_⟩
   rcases List.mem_append.1 hf with hf | hf
   ·exact hs f (List.mem_of_mem_take (List.mem_of_mem_drop hf))
   ·rcases List.mem_append.1 hf with hf | hf
    ·obtain rfl := List.mem_singleton.1 hf
     exact hs _ (List.getElem_mem hk)
    ·exact hs f (List.mem_of_mem_take (List.mem_of_mem_drop hf))
  ·refine Ok.assoc (Ok.next (by omega) (by omega) (by omega) (by omega) fun v v0 v1 => ?_)
   dsimp only
   have hw : IntKind.wrap .i64 (16384 + v) = 16384 + v := wi64 (by omega) (by omega)
   have hmk : makeA 1 (0 : UInt8) (IntKind.wrap .i64 (16384 + v)) = some (List.replicate (16384 + v).toNat 0) := by
    unfold makeA
    rw [hw, if_pos ⟨by omega, by omega, by simp only [maxLen]; omega⟩]
   rw [hmk]
   refine Ok.assoc (Ok.someb ?_)
   rw [idx_nat hk]
   refine Ok.assoc (Ok.someb (Ok.someb ?_))
   dsimp only
   refine Ok.mk ⟨_, _, rfl, by omega, by omega, by rw [List.length_set]; omega, fun f hf => ?_⟩
   rcases List.mem_or_eq_of_mem_set hf with hf | rfl
   ·exact hs f hf
   ·exact hs L[k] (List.getElem_mem hk)
  ·refine Ok.someb ?_
   dsimp only
   exact Ok.mk ⟨_, _, rfl, by omega, by omega, by omega, hs⟩
end Go.Proofs.YtfodebccikifcaaGreatDoor
