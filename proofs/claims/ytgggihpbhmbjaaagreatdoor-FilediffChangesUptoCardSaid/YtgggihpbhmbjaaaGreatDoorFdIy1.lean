/- FilediffChanges: the changes between any two revisions. What is read of the arguments is small. -/
import Derived.Test.YtgggihpbhmbjaaaGreatDoorFdHy1
namespace Go.Proofs.YtgggihpbhmbjaaaGreatDoor
open Go Go.Dc Go.Sort Go.Proofs
theorem changes_step {N : Nat} {a b : List File} (hPa : PathsOk N a) (hPb : PathsOk N b) (hN : 2000 < N) {β : Type} (k : Bool → Option β) :
  ((filediff_Diff N a b).bind fun y2 => (testgateref15_Diff N a b).bind fun y3 => (if (y2.2 != y3.2) = true then (some true) else ((testgateref15_Same N y2.1 y3.1).bind fun y4 => some (!y4)) : Option (Bool)).bind k) = k false := by
 rw [Diff_eq hPa hPb hN, refDiff_eq hN]
 simp only [Option.bind_some, bne_self_eq_false, Bool.false_eq_true, if_false]
 have := diffP_len a b
 rw [sameC_refl (by omega) (by omega)]
 rfl
theorem testgatelaw15_FilediffChanges_true (l : List Int) (_gl : l.length ≤ 1048576 ∧ ∀ x ∈ l, (Lit.int .i64 x).wf = true) (raw : List File) (graw : raw.length ≤ 1048576 ∧ ∀ f ∈ raw, f.1.size ≤ 1048576 ∧ f.2.size ≤ 1048576) : ∃ N, testgatelaw15_FilediffChanges N l raw = some true := by
 refine ⟨4000000, ?_⟩
 have key : Ok (testgatelaw15_FilediffChanges 4000000 l raw) fun b => b = true := by
  unfold testgatelaw15_FilediffChanges
  refine Ok.bind (two_ok (by decide)) ?_
  rintro _ ⟨a', A, B, rfl, u1, u2, u3, u4, u5, u6⟩
  have pA : PathsOk 4000000 A := made_paths u3 (by decide)
  have pB : PathsOk 4000000 B := made_paths u4 (by decide)
  have pR : PathsOk 4000000 raw := small_paths (fun f hf => (graw.2 f hf).1) (by decide)
  have p0 : PathsOk 4000000 [] := fun g hg => by cases hg
  generalize hX : [(A, B), (B, A), (A, A), (A, raw), (raw, B), (([] : List File), B), (A, ([] : List File))] = X
  have hXl : X.length = 7 := by rw [← hX]; rfl
  have hXp : ∀ x ∈ X, PathsOk 4000000 x.1 ∧ PathsOk 4000000 x.2 := by
   intro x hx
   rw [← hX] at hx
   simp only [List.mem_cons, List.not_mem_nil, or_false] at hx
   rcases hx with rfl | rfl | rfl | rfl | rfl | rfl | rfl
   ·exact ⟨pA, pB⟩
   ·exact ⟨pB, pA⟩
   ·exact ⟨pA, pA⟩
   ·exact ⟨pA, pR⟩
   ·exact ⟨pR, pB⟩
   ·exact ⟨p0, pB⟩
   ·exact ⟨pA, p0⟩
  refine Ok.loop (fun s => ∃ j : Nat, s = (j : Int) ∧ j ≤ 7) (fun s => 7 - s.toNat) (fun b => b = .inl ()) (fun s hs => ?_) ⟨0, rfl, by decide⟩ (by decide) fun o ho => ?_
  ·obtain ⟨j, rfl, hj⟩ := hs
   unfold testgatelaw15_FilediffChanges_L1
   dsimp only
   rw [hX]
   refine Ok.ite (fun hc => ?_) fun hc => Ok.mk rfl
   have hc := of_decide_eq_true hc
   have hjl : j < X.length := by omega
   rw [idx_nat hjl]
   simp only [Option.bind_some]
   have hp := hXp X[j] (List.getElem_mem hjl)
   rw [changes_step hp.1 hp.2 (by decide)]
   simp only [Bool.false_eq_true, if_false, wi1 (show j < 1000000 by omega)]
   exact Ok.mk ⟨⟨j + 1, rfl, by omega⟩, by simp only [Int.toNat_natCast]; omega⟩
  ·subst ho
   simp only
   rw [fd_awake (by decide)]
   exact Ok.mk rfl
 obtain ⟨b, h1, rfl⟩ := key
 exact h1
end Go.Proofs.YtgggihpbhmbjaaaGreatDoor
