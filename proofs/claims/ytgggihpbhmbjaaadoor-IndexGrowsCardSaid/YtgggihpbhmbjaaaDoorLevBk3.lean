/- Levels: what takes the place of a key that was made. No condition. -/
import Derived.Test.YtgggihpbhmbjaaaDoorLevAk3
import Derived.Test.YtgggihpbhmbjaaaDoorOkbk3
import Derived.Test.YtgggihpbhmbjaaaDoorPthNk3
import Derived.Test.YtgggihpbhmbjaaaDoorPthZk3
namespace Go.Proofs.YtgggihpbhmbjaaaDoor
open Go Go.Dc Go.Sort Go.Proofs
def e0 : ByteArray := ⟨#[]⟩
def pkgL : List ByteArray := [⟨#[112]⟩, ⟨#[113]⟩, ⟨#[115]⟩]
def fnL : List ByteArray := [⟨#[102]⟩, ⟨#[103]⟩, ⟨#[104]⟩, ⟨#[107]⟩]
def tsL : List ByteArray := [⟨#[116]⟩, ⟨#[117]⟩, ⟨#[118]⟩]
def paL : List ByteArray := [⟨#[97, 46, 100, 97, 116]⟩, ⟨#[100, 47, 98, 46, 100, 97, 116]⟩, ⟨#[99]⟩, ⟨#[97, 46, 115, 114, 99]⟩, ⟨#[120, 46, 115, 114, 99]⟩]
def vaL : List ByteArray := [⟨#[110]⟩, ⟨#[109]⟩]
def madeL : List Ky :=
 (pkgL.flatMap fun p => fnL.map fun f => (1, p, f)) ++ (pkgL.flatMap fun p => tsL.map fun f => (2, p, f)) ++ paL.map (fun p => (3, p, e0)) ++ paL.map (fun p => (4, p, e0)) ++ vaL.map (fun p => (5, p, e0)) ++ pkgL.map (fun p => (6, p, e0)) ++ pkgL.map (fun p => (7, p, e0))
def checkP (k : Ky) : Bool :=
 if k.1 = 1 ∨ k.1 = 2 then nameP k.2.1 && nameP k.2.2 else if k.1 = 3 ∨ k.1 = 4 then pathB k.2.1.data.toList && decide (k.2.2 = e0) else if k.1 = 5 ∨ k.1 = 6 ∨ k.1 = 7 then nameP k.2.1 && decide (k.2.2 = e0) else false
theorem beq_e0 (s : ByteArray) : (s.toList == (⟨#[]⟩ : ByteArray).toList) = decide (s = e0) := by
 rw [Bool.eq_iff_iff]
 simp only [beq_iff_eq, decide_eq_true_eq]
 constructor
 ·intro h
  rw [ByteArray.toList_eq, ByteArray.toList_eq] at h
  exact Go.WideShapes.bytes_inj h
 ·rintro rfl; rfl
theorem fact_Check_eq {N : Nat} {k : Ky} (h1 : k.2.1.size < 100000000) (hN : 2 * k.2.1.size + 1000 < N) : fact_Check N k = some (checkP k) := by
 obtain ⟨q, x, y⟩ := k
 simp only at h1 hN
 simp only [fact_Check, checkP, Name_eq (N := N) (s := x) (by omega), Name_eq (N := N) (s := y) (by omega), Path_eq h1 hN, Option.bind_some, beq_e0]
 by_cases g1 : q = 1
 ·subst g1; simp; cases nameP x <;> rfl
 by_cases g2 : q = 2
 ·subst g2; simp; cases nameP x <;> rfl
 by_cases g3 : q = 3
 ·subst g3; simp; cases pathB x.data.toList <;> rfl
 by_cases g4 : q = 4
 ·subst g4; simp; cases pathB x.data.toList <;> rfl
 by_cases g5 : q = 5
 ·subst g5; simp; cases nameP x <;> rfl
 by_cases g6 : q = 6
 ·subst g6; simp; cases nameP x <;> rfl
 by_cases g7 : q = 7
 ·subst g7; simp; cases nameP x <;> rfl
 simp [g1, g2, g3, g4, g5, g6, g7]
theorem made_checkP : (madeL.all fun k => checkP k && decide (k.2.1.size < 100)) = true := by kernel_rfl
section
variable {N : Nat} {l : List Int} {a : Int}
theorem Key_ok (h0 : 0 ≤ a) (h1 : a < 1000000000000000000) : Ok (testgatemake_Key N (l, a)) fun y => ∃ a' k, y = ((l, a'), k) ∧ a ≤ a' ∧ a' ≤ a + 3 ∧ k ∈ madeL := by
 unfold testgatemake_Key testgatemake_Packages testgatemake_Functions testgatemake_Tests testgatemake_Paths testgatemake_Variables
 refine Ok.next h0 (by omega) (by decide) (by decide) fun r r0 r1 => ?_
 simp only [Option.bind_some]
 refine Ok.one (by omega) (by omega) (by decide) (by decide) fun p hp => ?_
 have hp : p ∈ pkgL := hp
 have hr : r = 0 ∨ r = 1 ∨ r = 2 ∨ r = 3 ∨ r = 4 ∨ r = 5 ∨ r = 6 := by omega
 have w : ∀ z : Int, 0 ≤ z → z ≤ 6 → IntKind.wrap .i64 (1 + z) = 1 + z := fun z h0 h1 => wi64 (by omega) (by omega)
 rw [w r r0 (by omega)]
 have mem : ∀ {k : Ky} {A B : List Ky}, k ∈ A ∨ k ∈ B → k ∈ A ++ B := fun h => List.mem_append.2 h
 rcases hr with rfl | rfl | rfl | rfl | rfl | rfl | rfl
 ·refine Ok.assoc (Ok.one (by simp only; omega) (by simp only; omega) (by decide) (by decide) fun f hf => Ok.someb (Ok.mk ⟨_, _, rfl, by simp only; omega, by simp only; omega, ?_⟩))
  have hf : f ∈ fnL := hf
  simp only [madeL, List.mem_append, List.mem_flatMap, List.mem_map]
  exact .inl (.inl (.inl (.inl (.inl (.inl ⟨p, hp, f, hf, rfl⟩)))))
 ·refine Ok.assoc (Ok.one (by simp only; omega) (by simp only; omega) (by decide) (by decide) fun f hf => Ok.someb (Ok.mk ⟨_, _, rfl, by simp only; omega, by simp only; omega, ?_⟩))
  have hf : f ∈ tsL := hf
  simp only [madeL, List.mem_append, List.mem_flatMap, List.mem_map]
  exact .inl (.inl (.inl (.inl (.inl (.inr ⟨p, hp, f, hf, rfl⟩)))))
 ·refine Ok.assoc (Ok.one (by simp only; omega) (by simp only; omega) (by decide) (by decide) fun f hf => Ok.someb (Ok.mk ⟨_, _, rfl, by simp only; omega, by simp only; omega, ?_⟩))
  have hf : f ∈ paL := hf
  simp only [madeL, List.mem_append, List.mem_flatMap, List.mem_map]
  exact .inl (.inl (.inl (.inl (.inr ⟨f, hf, rfl⟩))))
 ·refine Ok.assoc (Ok.one (by simp only; omega) (by simp only; omega) (by decide) (by decide) fun f hf => Ok.someb (Ok.mk ⟨_, _, rfl, by simp only; omega, by simp only; omega, ?_⟩))
  have hf : f ∈ paL := hf
  simp only [madeL, List.mem_append, List.mem_flatMap, List.mem_map]
  exact .inl (.inl (.inl (.inr ⟨f, hf, rfl⟩)))
 ·refine Ok.assoc (Ok.one (by simp only; omega) (by simp only; omega) (by decide) (by decide) fun f hf => Ok.someb (Ok.mk ⟨_, _, rfl, by simp only; omega, by simp only; omega, ?_⟩))
  have hf : f ∈ vaL := hf
  simp only [madeL, List.mem_append, List.mem_flatMap, List.mem_map]
  exact .inl (.inl (.inr ⟨f, hf, rfl⟩))
 ·refine Ok.someb (Ok.mk ⟨_, _, rfl, by simp only; omega, by simp only; omega, ?_⟩)
  simp only [madeL, List.mem_append, List.mem_flatMap, List.mem_map]
  exact .inl (.inr ⟨p, hp, rfl⟩)
 ·refine Ok.someb (Ok.mk ⟨_, _, rfl, by simp only; omega, by simp only; omega, ?_⟩)
  simp only [madeL, List.mem_append, List.mem_flatMap, List.mem_map]
  exact .inr ⟨p, hp, rfl⟩
end
theorem in_made {k : Ky} (h : (madeL.any fun k' => decide (k' = k)) = true) : k ∈ madeL := by
 obtain ⟨k', h4, h5⟩ := List.any_eq_true.1 h
 rw [← of_decide_eq_true h5]; exact h4
end Go.Proofs.YtgggihpbhmbjaaaDoor
