/- LevelTwice: a level that is applied twice, or after a finer one, gives the same keys as once. No condition. -/
import Derived.Test.YtgggihpbhmbjaaaDoorLevBt1
namespace Go.Proofs.YtgggihpbhmbjaaaDoor
open Go Go.Dc Go.Sort Go.Proofs
section
variable {N : Nat} {l : List Int} {a : Int}
theorem LevelTwice_true (p0 : List Int) : ∃ N, testgatelaw12_LevelTwice N p0 = some true := by
 refine ⟨4000, ?_⟩
 have key : Ok (testgatelaw12_LevelTwice (4000) p0) fun b => b = true := by
  unfold testgatelaw12_LevelTwice
  refine Ok.next (by omega) (by omega) (by decide) (by decide) fun r r0 r1 => ?_
  refine Ok.loop (fun s => ∃ (a : Int), s.2.2.1 = p0 ∧ s.2.2.2 = a ∧ 0 ≤ a ∧ a + 3 * s.2.1 ≤ 100 ∧ 0 ≤ s.2.1 ∧ s.2.1 + s.1.length ≤ 8 ∧ ∀ k ∈ s.1, k ∈ madeL) (fun s => s.2.1.toNat) (fun b => b.1.length ≤ 8 ∧ ∀ k ∈ b.1, k ∈ madeL)
   (fun s hs => ?_) ⟨0 + 1, rfl, rfl, by omega, by simp only; omega, r0, by simp only [List.length_nil]; omega, fun k hk => by simp at hk⟩ (by simp only; omega) fun b hb => ?_
  ·obtain ⟨L, i, t, a⟩ := s
   obtain ⟨a', h1, h2, h3, h4, h5, h6, h7⟩ := hs
   simp only at h1 h2 h3 h4 h5 h6 h7
   subst h1; subst h2
   unfold testgatelaw12_LevelTwice_L1
   refine Ok.ite (fun hc => ?_) fun hc => ?_
   ·have hc := of_decide_eq_true hc
    simp only at hc
    refine Ok.bind (Key_ok (l := t) (a := a) h3 (by omega)) ?_
    rintro _ ⟨a2, k, rfl, g1, g2, g3⟩
    refine Ok.app (by simp only [List.length_cons, List.length_nil]; omega) (by decide) (Ok.mk ?_)
    have w : IntKind.wrap .i64 (i - 1) = i - 1 := wi64 (by omega) (by omega)
    refine ⟨⟨a2, rfl, rfl, by omega, ?_, ?_, ?_, fun k' hk' => ?_⟩, ?_⟩
    ·simp only [w]; omega
    ·simp only [w]; omega
    ·simp only [w, List.length_append, List.length_cons, List.length_nil]; omega
    ·rcases List.mem_append.1 hk' with hk' | hk'
     ·exact h7 k' hk'
     ·simp only [List.mem_cons, List.not_mem_nil, or_false] at hk'; subst hk'; exact g3
    ·simp only [w]; omega
   ·exact Ok.mk ⟨by simp only at h5 ⊢; omega, h7⟩
  ·obtain ⟨hb1, hb2⟩ := hb
   refine Ok.loop (fun s => 1 ≤ s ∧ s ≤ 4) (fun s => (4 - s).toNat) (fun b => b = .inl ()) (fun s hs => ?_) ⟨by decide, by decide⟩ (by decide) fun o ho => ?_
   ·obtain ⟨s1, s2⟩ := hs
    unfold testgatelaw12_LevelTwice_L2
    refine Ok.ite (fun hc => ?_) fun hc => Ok.mk rfl
    have hc := of_decide_eq_true hc
    rw [Keys_ok s1 hc (by omega) (by omega) hb2]
    simp only [Option.bind_some, bne_self_eq_false, Bool.false_eq_true, if_false]
    have hcl := canon_len (b.1.map (keyP s))
    simp only [List.length_map] at hcl
    have hcm := canon_made s1 hc hb2
    refine Ok.loop (fun m => s ≤ m ∧ m ≤ 4) (fun s => (4 - s).toNat) (fun b => b = .inl ()) (fun m hm => ?_) ⟨by omega, by omega⟩ (by omega) fun o ho => ?_
    ·obtain ⟨m1, m2⟩ := hm
     unfold testgatelaw12_LevelTwice_L3
     refine Ok.ite (fun hc => ?_) fun hc => Ok.mk rfl
     have hc := of_decide_eq_true hc
     rw [Keys_ok (by omega) hc (by omega) (by omega) hb2, Keys_ok (by omega) hc (by omega) (by omega) hcm, twice_eq s1 m1 hc]
     have hcl2 := canon_len (b.1.map (keyP m))
     simp only [List.length_map] at hcl2
     simp only [Option.bind_some, bne_self_eq_false, Bool.false_eq_true, if_false]
     rw [Same_refl (by omega) (by omega)]
     simp only [Option.bind_some, Bool.not_true, Bool.false_eq_true, if_false]
     have w : IntKind.wrap .i64 (m + 1) = m + 1 := wi64 (by omega) (by omega)
     rw [w]
     exact Ok.mk ⟨⟨by omega, by omega⟩, by omega⟩
    ·subst ho
     have w : IntKind.wrap .i64 (s + 1) = s + 1 := wi64 (by omega) (by omega)
     simp only [w]
     exact Ok.mk ⟨⟨by omega, by omega⟩, by omega⟩
   ·subst ho
    simp only
    rw [level_awake (by decide)]
    exact Ok.mk rfl
 obtain ⟨b, h1, rfl⟩ := key
 exact h1
theorem testgatelaw12_LevelTwice_true (p0 : List Int) (_g : p0.length * 8 ≤ reachBytes ∧ ∀ x ∈ p0, (Lit.int .i64 x).wf = true) : ∃ N, testgatelaw12_LevelTwice N p0 = some true := LevelTwice_true p0
end
end Go.Proofs.YtgggihpbhmbjaaaDoor
