/- IndexGrows: the law. No condition. -/
import Derived.Test.YtgggihpbhmbjaaaDoorIdxEk3
namespace Go.Proofs.YtgggihpbhmbjaaaDoor
open Go Go.Dc Go.Sort Go.Proofs
def kC : Ky := (4, (⟨#[99]⟩ : ByteArray), (⟨#[]⟩ : ByteArray))
def rC : Rcd := (((⟨#[]⟩ : ByteArray), (⟨#[]⟩ : ByteArray)), 0, 0, 0, (0, 0, 0), false, [(kC, 0)])
def r0 : Rcd := (((⟨#[]⟩ : ByteArray), (⟨#[]⟩ : ByteArray)), 0, 0, 0, (0, 0, 0), false, [])
theorem kC_made : kC ∈ madeL := in_made (by kernel_rfl)
theorem kC_check : checkP kC = true := (made_size kC_made).2
theorem canon_one (k : Ky) : canon [k] = [k] := by simp [canon, dedup]
theorem canon_nil : canon [] = [] := by simp [canon, dedup]
theorem kC_self : ¬ cK kC kC < 0 := by have := (cK_lin.zero kC kC).2 rfl; omega
theorem rC_keys : recKeys rC = [kC] := rfl
theorem r0_keys : recKeys r0 = [] := rfl
theorem g1 : grownP emptyX rC = ([(kC, [0])], 1) := by
 simp only [grownP, rC_keys, canon_one, emptyX, List.length_nil, List.length_cons, mergeF]
 rfl
theorem g2 : grownP ([(kC, [0])], 1) r0 = ([(kC, [0])], 2) := by
 simp only [grownP, r0_keys, canon_nil, List.length_nil, List.length_cons, mergeF]
 rfl
theorem g3 (R : List Int) (n : Int) : grownP ([(kC, R)], n) rC = ([(kC, R ++ [n])], n + 1) := by
 simp only [grownP, rC_keys, canon_one, List.length_nil, List.length_cons, mergeF, kC_self, if_false, if_true]
theorem sC : SmallR rC := ⟨by decide, fun k hk => by
 rw [rC_keys] at hk
 simp only [List.mem_cons, List.not_mem_nil, or_false] at hk
 subst hk; have := (made_size kC_made).1; omega⟩
theorem s0 : SmallR r0 := ⟨by decide, fun k hk => by rw [r0_keys] at hk; simp at hk⟩
theorem wC : wellC rC = true := by show (checkP kC && true) = true; rw [kC_check]; rfl
theorem w0 : wellC r0 = true := rfl
theorem x3_ok : InvX 3 ([(kC, [0, 2])], 3) ∧ WellX ([(kC, [0, 2])], 3) := by
 have h := fold_ok [rC, r0, rC] 0 emptyX empty_inv empty_well (by decide) (fun c hc => by
  simp only [List.mem_cons, List.not_mem_nil, or_false] at hc
  rcases hc with rfl | rfl | rfl
  ·exact sC
  ·exact s0
  ·exact sC) (by simp only [List.all_cons, wC, w0, List.all_nil, Bool.and_self])
 simp only [List.foldl_cons, List.foldl_nil, g1, g2, g3] at h
 exact h
theorem x4_ok : InvX 4 ([(kC, [0, 2, 3])], 4) ∧ WellX ([(kC, [0, 2, 3])], 4) := by
 have h := fold_ok [rC] 3 _ x3_ok.1 x3_ok.2 (by decide) (fun c hc => by
  simp only [List.mem_cons, List.not_mem_nil, or_false] at hc
  subst hc; exact sC) (by simp only [List.all_cons, wC, List.all_nil, Bool.and_self])
 simp only [List.foldl_cons, List.foldl_nil, g3] at h
 exact h
theorem bindE {α β : Type} {x : Option α} {v : α} {f : α → Option β} {r : Option β} (h : x = some v) (k : f v = r) : x.bind f = r := by rw [h]; exact k
theorem index_awake {N : Nat} (hN : 3000000 < N) : testgatelaw18_awake N = some true := by
 have hB : index_Build N [rC, r0, rC] = some (([(kC, [0, 2])], 3), 0) := by
  rw [Build_eq hN (by decide) (fun c hc => by
   simp only [List.mem_cons, List.not_mem_nil, or_false] at hc
   rcases hc with rfl | rfl | rfl
   ·exact sC
   ·exact s0
   ·exact sC), if_pos (by simp only [List.all_cons, wC, w0, List.all_nil, Bool.and_self])]
  simp only [List.foldl_cons, List.foldl_nil, g1, g2, g3]
  rfl
 have hA : index_Add N ([(kC, [0, 2])], 3) rC = some (([(kC, [0, 2, 3])], 4), 0) := by
  have h := Add_eq (N := N) hN (i := 3) (by decide) x3_ok.1 x3_ok.2 sC wC
  rw [g3] at h
  exact h
 have hk1 : ∀ k ∈ [kC], k.2.1.size ≤ 1048576 := fun k hk => by
  simp only [List.mem_cons, List.not_mem_nil, or_false] at hk
  subst hk; have := (made_size kC_made).1; omega
 have hd : ∀ b, divideP ([(kC, [0, 2, 3])], 4) [kC] b = (selB b 0 [true, false, true, true], 0) := fun b => by
  unfold divideP
  rw [if_pos ⟨checkX_iff.2 x4_ok.2, by simp only [List.all_cons, kC_check, List.all_nil, Bool.and_self]⟩]
  have hf : findL [(kC, [0, 2, 3])] kC = [0, 2, 3] := by simp only [findL, if_true]
  simp only [marksL, List.foldl_cons, List.foldl_nil, hf]
  rfl
 have hAf := Affected_eq hN (inv_small (by decide) x4_ok.1) (keys := [kC]) (by decide) hk1
 have hUn := Unaffected_eq hN (inv_small (by decide) x4_ok.1) (keys := [kC]) (by decide) hk1
 rw [hd] at hAf hUn
 have hC := Check_eq hN (inv_small (by decide) x3_ok.1)
 rw [checkX_iff.2 x3_ok.2] at hC
 have hF := Find_eq (N := N) hN (k := kC) (inv_small (by decide) x3_ok.1)
 rw [checkX_iff.2 x3_ok.2, if_pos rfl] at hF
 have hf : findL [(kC, [0, 2])] kC = [0, 2] := by simp only [findL, if_true]
 rw [hf] at hF
 have q1 : testgatemake_SameInts N [0, 2] [0, 2] = some true := sints_refl (by decide) (by simp only [List.length_cons, List.length_nil]; omega)
 have q2 : testgatemake_SameInts N (selB true 0 [true, false, true, true]) [0, 2, 3] = some true := sints_refl (L := [0, 2, 3]) (by decide) (by simp only [List.length_cons, List.length_nil]; omega)
 have q3 : testgatemake_SameInts N (selB false 0 [true, false, true, true]) [1] = some true := sints_refl (L := [1]) (by decide) (by simp only [List.length_cons, List.length_nil]; omega)
 unfold testgatelaw18_awake
 refine bindE hB ?_
 refine bindE hA ?_
 refine bindE hAf ?_
 refine bindE hUn ?_
 simp only [beq_self_eq_true, if_true]
 rw [show index_Check N ([(kC, [0, 2])], 3) = some true from hC]
 simp only [Option.bind_some, if_true]
 rw [show index_Find N ([(kC, [0, 2])], 3) (4, (⟨#[99]⟩ : ByteArray), (⟨#[]⟩ : ByteArray)) = some [0, 2] from hF]
 simp only [Option.bind_some, if_true, q1, q2, q3]
theorem IndexGrows_ok {N : Nat} (hN : 3000000 < N) (p0 : List Int) : Ok (testgatelaw18_IndexGrows N p0) fun b => b = true := by
 unfold testgatelaw18_IndexGrows
 refine Ok.bind (records_ok hN (Int.le_refl 0) (by decide)) ?_
 rintro _ ⟨a', L, rfl, u1, u2, u3, u4⟩
 rw [Build_eq hN (show L.length ≤ 512 by omega) u4]
 simp only [Option.bind_some]
 by_cases hall : L.all wellC = true
 ·obtain ⟨i1, i2⟩ := fold_ok L 0 emptyX empty_inv empty_well (by omega) u4 hall
  rw [Nat.zero_add] at i1
  have hg : loopM (testgatelaw18_IndexGrows_L1 N ((p0, a'), L)) N (0, ([] : List Pst), 0) = some (.inl (L.foldl grownP emptyX)) := grows_loop hN (by omega) u4 hall L.length 0 N emptyX (by omega) (by omega) empty_inv empty_well
  rw [if_pos hall]
  simp only [bne_self_eq_false, Bool.false_eq_true, if_false]
  rw [hg]
  simp only [Option.bind_some]
  generalize L.foldl grownP emptyX = X at i1 i2
  have hs := inv_small (by omega) i1
  refine Ok.bind (Key_ok (l := p0) (a := a') (by omega) (by omega)) ?_
  rintro _ ⟨a1, k1, rfl, b1, b2, b3⟩
  refine Ok.bind (Key_ok (l := p0) (a := a1) (by omega) (by omega)) ?_
  rintro _ ⟨a2, k2, rfl, c1, c2, c3⟩
  refine Ok.bind (Key_ok (l := p0) (a := a2) (by omega) (by omega)) ?_
  rintro _ ⟨a3, k3, rfl, d1, d2, d3⟩
  have hm : ∀ k ∈ [k1, k2, k3], k ∈ madeL := fun k hk => by
   simp only [List.mem_cons, List.not_mem_nil, or_false] at hk
   rcases hk with rfl | rfl | rfl
   ·exact b3
   ·exact c3
   ·exact d3
  have hk1 : ∀ k ∈ [k1, k2, k3], k.2.1.size ≤ 1048576 := fun k hk => by have := (made_size (hm k hk)).1; omega
  have hkc : [k1, k2, k3].all checkP = true := List.all_eq_true.2 fun k hk => (made_size (hm k hk)).2
  rw [show index_Affected N (X.1, X.2) [(k1.1, k1.2.1, k1.2.2), (k2.1, k2.2.1, k2.2.2), (k3.1, k3.2.1, k3.2.2)] = some (divideP X [k1, k2, k3] true) from Affected_eq hN hs (by simp only [List.length_cons, List.length_nil]; omega) hk1,
   show index_Unaffected N (X.1, X.2) [(k1.1, k1.2.1, k1.2.2), (k2.1, k2.2.1, k2.2.2), (k3.1, k3.2.1, k3.2.2)] = some (divideP X [k1, k2, k3] false) from Unaffected_eq hN hs (by simp only [List.length_cons, List.length_nil]; omega) hk1]
  simp only [Option.bind_some, divideP, checkX_iff.2 i2, hkc, and_self, if_true, beq_self_eq_true]
  rw [sameX_refl hN hs]
  have hlen := selB_len 0 (marksL X.1 [k1, k2, k3] (List.replicate X.2.toNat false))
  rw [marksL_len, List.length_replicate] at hlen
  have hx2 := i1.1
  have w : IntKind.wrap .i64 (((selB true 0 (marksL X.1 [k1, k2, k3] (List.replicate X.2.toNat false))).length : Int) + ((selB false 0 (marksL X.1 [k1, k2, k3] (List.replicate X.2.toNat false))).length : Int)) = (L.length : Int) := by
   rw [wi64 (by omega) (by omega)]; omega
  simp only [Option.bind_some, if_true, w, beq_self_eq_true, index_awake hN]
  exact Ok.mk rfl
 ·rw [if_neg hall]
  have : ((1 : Int) != 0) = true := rfl
  simp only [this, if_true, index_awake hN, Option.bind_some]
  exact Ok.mk rfl
theorem testgatelaw18_IndexGrows_true (p0 : List Int) (_g : p0.length * 8 ≤ reachBytes ∧ ∀ x ∈ p0, (Lit.int .i64 x).wf = true) : ∃ N, testgatelaw18_IndexGrows N p0 = some true := by
 refine ⟨4000000, ?_⟩
 obtain ⟨x, h1, rfl⟩ := IndexGrows_ok (N := 4000000) (by decide) p0
 exact h1
end Go.Proofs.YtgggihpbhmbjaaaDoor
