/- Made revisions: they are well-formed. No condition. -/
import Derived.Test.YtgggihpbhmbjaaaGreatDoorFrBy6
import Derived.Test.YtgggihpbhmbjaaaGreatDoorOky6
namespace Go.Proofs.YtgggihpbhmbjaaaGreatDoor
open Go Go.Dc
theorem qLl {N : Nat} {L : List File} {p b : ByteArray} (hl : L.length < 1000000) (ha : Asc L) : ∀ (d i M : Nat) (done : Bool) (acc : List File), i + d = L.length → d < M → acc.length ≤ i + done.toNat → (done = true → ∀ f ∈ L.drop i, f.1 ≠ p) →
  Ok (qBf (qDt N L (p, b)) M (done, (i : Int), acc)) fun o => o.2.length ≤ L.length + 1 ∧ (if o.1 = true then o.2 else o.2 ++ [(p, b)]) = acc ++ (if done = true then L.drop i else fput (L.drop i) p b)
 | _, _, 0, _, _, _, h, _, _ => by omega
 | 0, i, M + 1, done, acc, hd, _, hacc, _ => by
  refine ⟨(done, acc), ?_, by simp only; cases done <;> simp only [Bool.toNat_true, Bool.toNat_false] at hacc <;> omega, ?_⟩
  ·simp only [qBf, qDt]
   rw [if_neg (by simp only [decide_eq_true_eq]; omega)]
   rfl
  ·rw [List.drop_eq_nil_of_le (by omega)]
   cases done <;> simp [fput]
 | d + 1, i, M + 1, done, acc, hd, hM, hacc, hno => by
  have hi : i < L.length := by omega
  have e1 : (i : Int) + 1 = ((i + 1 : Nat) : Int) := by omega
  have hgt : ∀ f ∈ L.drop (i + 1), blt (L[i]).1 f.1 = true := by
   have := (List.pairwise_cons.1 (by rw [← List.drop_eq_getElem_cons hi]; exact List.Pairwise.sublist (List.drop_sublist _ _) ha : Asc (L[i] :: L.drop (i + 1)))).1
   exact this
  simp only [qBf, qDt]
  rw [if_pos (by simp only [decide_eq_true_eq]; omega), qCe hi, wi64 (by omega) (by omega), e1]
  rw [List.drop_eq_getElem_cons hi] at hno ⊢
  simp only [Option.bind_some, eqB]
  cases done with
  | true =>
   simp only [Bool.toNat_true] at hacc
   have hne := hno rfl _ (List.mem_cons_self ..)
   have ih := qLl (N := N) (p := p) (b := b) hl ha d (i + 1) M true (acc ++ [((L[i]).1, (L[i]).2)]) (by omega) (by omega) (by simp; omega) (fun h f hf => hno rfl f (List.mem_cons_of_mem _ hf))
   simp only [Bool.not_true, Bool.false_eq_true, if_false, Option.bind_some]
   rw [if_pos (by simp [hne]), qCn (by simp only [List.length_cons, List.length_nil]; omega) (by omega)]
   simp only [Option.bind_some]
   refine ih.mono fun o ho => ⟨ho.1, ?_⟩
   rw [ho.2]; simp only [if_true, List.append_assoc, List.cons_append, List.nil_append]
  | false =>
   simp only [Bool.toNat_false] at hacc
   simp only [Bool.not_false, if_true, Option.bind_some]
   rcases qMq p (L[i]).1 with h | h | h
   ·have h' : Op.bytesLess p.toList (L[i]).1.toList = true := h
    have hne : (L[i]).1 ≠ p := fun e => blt_ne h e.symm
    have ih := qLl (N := N) (p := p) (b := b) hl ha d (i + 1) M true ((acc ++ [(p, b)]) ++ [((L[i]).1, (L[i]).2)]) (by omega) (by omega) (by simp; omega) (fun _ f hf e => by
     have := qJy h (hgt f hf); rw [e, qIm] at this; cases this)
    rw [h', Bool.true_or, if_pos rfl, qCn (by simp only [List.length_cons, List.length_nil]; omega) (by omega)]
    simp only [Option.bind_some]
    rw [if_pos (by simp [hne]), qCn (by simp only [List.length_append, List.length_cons, List.length_nil]; omega) (by omega)]
    simp only [Option.bind_some]
    refine ih.mono fun o ho => ⟨ho.1, ?_⟩
    have g3 : fput (L[i] :: L.drop (i + 1)) p b = (p, b) :: L[i] :: L.drop (i + 1) := by rw [fput, if_pos h]
    rw [ho.2, g3]; simp only [if_true, List.append_assoc, List.cons_append, List.nil_append, Bool.false_eq_true, if_false]
   ·have ih := qLl (N := N) (p := p) (b := b) hl ha d (i + 1) M true (acc ++ [(p, b)]) (by omega) (by omega) (by simp; omega) (fun _ f hf e => by
     have := hgt f hf; rw [← h, e, qIm] at this; cases this)
    rw [decide_eq_true h, Bool.or_true, if_pos rfl, qCn (by simp only [List.length_cons, List.length_nil]; omega) (by omega)]
    simp only [Option.bind_some]
    rw [if_neg (by simp [h])]
    simp only [Option.bind_some]
    refine ih.mono fun o ho => ⟨ho.1, ?_⟩
    have g3 : fput (L[i] :: L.drop (i + 1)) p b = (p, b) :: L.drop (i + 1) := by rw [fput, if_neg (by rw [h, qIm]; simp), if_pos h.symm]
    rw [ho.2, g3]; simp only [if_true, List.append_assoc, List.cons_append, List.nil_append, Bool.false_eq_true, if_false]
   ·have hne : (L[i]).1 ≠ p := blt_ne h
    have h' : Op.bytesLess p.toList (L[i]).1.toList = false := blt_asymm h
    have ih := qLl (N := N) (p := p) (b := b) hl ha d (i + 1) M false (acc ++ [((L[i]).1, (L[i]).2)]) (by omega) (by omega) (by simp; omega) (fun h => by cases h)
    rw [h', decide_eq_false (fun e => hne e.symm), Bool.or_false, if_neg (by simp)]
    simp only [Option.bind_some]
    rw [if_pos (by simp [hne]), qCn (by simp only [List.length_cons, List.length_nil]; omega) (by omega)]
    simp only [Option.bind_some]
    refine ih.mono fun o ho => ⟨ho.1, ?_⟩
    have g3 : fput (L[i] :: L.drop (i + 1)) p b = L[i] :: fput (L.drop (i + 1)) p b := by rw [fput, if_neg (by rw [show blt p (L[i]).1 = false from h']; simp), if_neg hne]
    rw [ho.2, g3]; simp only [List.append_assoc, List.cons_append, List.nil_append, Bool.false_eq_true, if_false]
theorem qJs {N : Nat} {L : List File} (p b : ByteArray) (hl : L.length < 1000000) (ha : Asc L) (hN : L.length < N) : qBx N L (p, b) = some (fput L p b) := by
 obtain ⟨o, h1, h2, h3⟩ := qLl (N := N) (p := p) (b := b) hl ha L.length 0 N false [] (by omega) hN (by simp) (fun h => by cases h)
 simp only [qBx]
 rw [show ((0 : Nat) : Int) = 0 from rfl] at h1
 rw [h1]
 simp only [List.drop_zero, List.nil_append, Bool.false_eq_true, if_false] at h3
 simp only [Option.bind_some]
 cases ho : o.1 with
 | true => rw [ho] at h3; simp only [if_true] at h3; simp [h3]
 | false =>
  rw [ho] at h3
  simp only [Bool.false_eq_true, if_false] at h3
  simp only [Bool.not_false, if_true]
  rw [qCn (by simp only [List.length_cons, List.length_nil]; omega) (by omega), h3]
  rfl
def srcL : List ByteArray := [(⟨#[97, 46, 115, 114, 99]⟩ : ByteArray), (⟨#[98, 46, 115, 114, 99]⟩ : ByteArray), (⟨#[100, 47, 99, 46, 115, 114, 99]⟩ : ByteArray), (⟨#[120, 46, 115, 114, 99]⟩ : ByteArray)]
def datL : List ByteArray := [(⟨#[97, 46, 100, 97, 116]⟩ : ByteArray), (⟨#[100, 47, 98, 46, 100, 97, 116]⟩ : ByteArray), (⟨#[99]⟩ : ByteArray)]
theorem srcL_ok : (srcL.all fun p => qIp p.data.toList) = true := by kernel_rfl
theorem datL_ok : (datL.all fun p => qIp p.data.toList) = true := by kernel_rfl
def Made (L : List File) : Prop := Asc L ∧ ∀ f ∈ L, f.1 ∈ srcL ++ datL ∧ f.2.size ≤ 4700
theorem Made.put {L : List File} (h : Made L) {p b : ByteArray} (hp : p ∈ srcL ++ datL) (hb : b.size ≤ 4700) : Made (fput L p b) :=
 ⟨h.1.put p b, fun f hf => by
  rcases fput_mem hf with rfl | hf
  ·exact ⟨hp, hb⟩
  ·exact h.2 f hf⟩
theorem Made.path {L : List File} (h : Made L) {f : File} (hf : f ∈ L) : qIp f.1.data.toList = true := by
 rcases List.mem_append.1 (h.2 f hf).1 with h | h
 ·exact List.all_eq_true.1 srcL_ok _ h
 ·exact List.all_eq_true.1 datL_ok _ h
theorem made_src {N : Nat} {y1 : List ByteArray} {s1 : Int × (List (ByteArray × ByteArray)) × List (Int) × Int} : qEc N y1 s1 =
 if (decide (s1.1 < (List.length y1 : Int))) = true then (((idx y1 s1.1).bind fun x1 => (qBq N (s1.2.2.1, s1.2.2.2) 3 4).bind fun y2 => if y2.2 = true then ((qCs N).bind fun y3 => (qAv N (y2.1.1, y2.1.2) y3).bind fun y4 => (qDm N (y4.1.1, y4.1.2) y4.2).bind fun y5 => (qBx N s1.2.1 (x1, y5.2)).bind fun y6 => some (y6, y5.1.1, y5.1.2)) else (some (s1.2.1, y2.1.1, y2.1.2)) : Option ((List (ByteArray × ByteArray)) × List (Int) × Int)).bind fun o2 => some (.inl (IntKind.wrap .i64 (s1.1 + 1), o2.1, o2.2.1, o2.2.2))) else (some (.inr (s1.2.1, s1.2.2.1, s1.2.2.2))) := rfl
theorem made_dat {N : Nat} {s2 : Int × (List (ByteArray × ByteArray)) × List (Int) × Int} : qFv N s2 =
 if (decide (s2.1 < (List.length datL : Int))) = true then (((idx datL s2.1).bind fun x2 => (qBq N (s2.2.2.1, s2.2.2.2) 1 3).bind fun y7 => if y7.2 = true then ((qFf N (y7.1.1, y7.1.2)).bind fun y8 => (qBx N s2.2.1 (x2, y8.2)).bind fun y9 => some (y9, y8.1.1, y8.1.2)) else (some (s2.2.1, y7.1.1, y7.1.2)) : Option ((List (ByteArray × ByteArray)) × List (Int) × Int)).bind fun o4 => some (.inl (IntKind.wrap .i64 (s2.1 + 1), o4.1, o4.2.1, o4.2.2))) else (some (.inr (s2.2.1, s2.2.2.1, s2.2.2.2))) := rfl
theorem strOf_size (l : List UInt8) : (qNa l).size = l.length := by simp [qNa, ByteArray.size]
theorem data_ok {N : Nat} {l : List Int} {a : Int} (hN : 100 < N) (h0 : 0 ≤ a) (h1 : a < 1000000000000000000) : Ok (qFf N (l, a)) fun y => ∃ a' s, y = ((l, a'), s) ∧ a ≤ a' ∧ a' ≤ a + 10 ∧ s.size ≤ 10 := by
 simp only [qFf]
 refine Ok.next (by omega) (by omega) (by omega) (by omega) fun r g1 g2 => ?_
 dsimp only
 simp only [qGr]
 refine Ok.assoc ?_
 refine Ok.loop (fun st => ∃ L n a', st = (L, n, l, a') ∧ 0 ≤ n ∧ n ≤ r ∧ (L.length : Int) = n ∧ a ≤ a' ∧ a' ≤ a + 1 + n) (fun st => (r - st.2.1).toNat) (fun b => ∃ L a', b = (L, l, a') ∧ L.length ≤ 4 ∧ a ≤ a' ∧ a' ≤ a + 5) ?_ ⟨[], 0, a + 1, rfl, by omega, by omega, rfl, by omega, by omega⟩ (by dsimp only; omega) ?_
 ·rintro _ ⟨L, n, a', rfl, k1, k2, k3, k4, k5⟩
  have h5 : ByteArray.size (⟨#[97, 98, 0, 255, 48]⟩ : ByteArray) = 5 := rfl
  simp only [qFj, h5]
  by_cases hn : n < r
  ·rw [if_pos (by simpa using hn)]
   refine Ok.next (by omega) (by omega) (by omega) (by omega) fun q v1 v2 => ?_
   dsimp only
   have hq : q.toNat < ByteArray.size (⟨#[97, 98, 0, 255, 48]⟩ : ByteArray) := by rw [h5]; omega
   have hx : idxB (⟨#[97, 98, 0, 255, 48]⟩ : ByteArray) q = some ((⟨#[97, 98, 0, 255, 48]⟩ : ByteArray)[q.toNat]) := by
    have := idxB_nat hq
    rw [Int.toNat_of_nonneg v1] at this
    exact this
   rw [hx]
   refine Ok.someb (Ok.app (by simp only [List.length_cons, List.length_nil]; omega) (by decide) (Ok.mk ?_))
   dsimp only
   rw [wi64 (by omega) (by omega)]
   exact ⟨⟨_, _, _, rfl, by omega, by omega, by simp only [List.length_append, List.length_cons, List.length_nil]; omega, by omega, by omega⟩, by omega⟩
  ·rw [if_neg (by simpa using hn)]
   exact Ok.mk ⟨L, a', rfl, by omega, by omega, by omega⟩
 ·rintro _ ⟨L, a', rfl, v1, v2, v3⟩
  refine Ok.someb (Ok.mk ?_)
  dsimp only
  refine ⟨_, _, rfl, ?_, ?_, ?_⟩
  ·omega
  ·omega
  ·rw [strOf_size]; omega
theorem Revision_ok {N : Nat} {l : List Int} {a : Int} (hN : 3000 < N) (h0 : 0 ≤ a) (h1 : a < 10000000000000000) : Ok (qEe N (l, a)) fun y => ∃ a' L, y = ((l, a'), L) ∧ a ≤ a' ∧ a' ≤ a + 1000000 ∧ Made L ∧ L.length ≤ 7 := by
 simp only [qEe, qEt]
 refine Ok.someb ?_
 show Ok ((qBf (qEc N srcL) N (0, [], l, a)).bind _) _
 refine Ok.loop (fun st => ∃ (n : Nat) (L : List File) (a' : Int), st = ((n : Int), L, l, a') ∧ n ≤ 4 ∧ L.length ≤ n ∧ Made L ∧ a ≤ a' ∧ a' ≤ a + 100010 * n) (fun st => 4 - st.1.toNat) (fun b => ∃ L a', b = (L, l, a') ∧ L.length ≤ 4 ∧ Made L ∧ a ≤ a' ∧ a' ≤ a + 500000) ?_ ⟨0, [], a, rfl, by omega, by simp, ⟨List.Pairwise.nil, by simp⟩, by omega, by omega⟩ (by dsimp only; omega) ?_
 ·rintro _ ⟨n, L, a', rfl, k1, k2, k3, k4, k5⟩
  rw [made_src]
  have hlen : srcL.length = 4 := rfl
  dsimp only
  by_cases hn : n < 4
  ·rw [if_pos (by simp only [decide_eq_true_eq, hlen]; omega), qCe (l := srcL) (by omega)]
   refine Ok.assoc (Ok.someb ?_)
   refine Ok.assoc (Ok.chance (by omega) (by omega) (by omega) (by omega) fun c => ?_)
   dsimp only
   refine Ok.iteb (fun _ => ?_) fun _ => ?_
   ·refine Ok.assoc (Ok.someb ?_)
    refine Ok.assoc (Ok.oneS (by omega) (by omega) (by decide) fun x hx => ?_)
    dsimp only
    refine Ok.assoc (Ok.bind (Source_ok hN (by omega) (by omega) hx) ?_)
    rintro _ ⟨a2, s, rfl, v1, v2, v3⟩
    dsimp only
    rw [qJs _ _ (by omega) k3.1 (by omega)]
    refine Ok.assoc (Ok.someb (Ok.someb (Ok.mk ?_)))
    dsimp only
    have hf := qLo L (srcL[n]) s
    refine ⟨⟨n + 1, _, _, by rw [wi64 (by omega) (by omega)]; rfl, by omega, by omega, k3.put (List.mem_append_left _ (List.getElem_mem _)) v3, by omega, by omega⟩, ?_⟩
    rw [wi64 (by omega) (by omega)]; omega
   ·refine Ok.someb (Ok.mk ?_)
    dsimp only
    refine ⟨⟨n + 1, _, _, by rw [wi64 (by omega) (by omega)]; rfl, by omega, by omega, k3, by omega, by omega⟩, ?_⟩
    rw [wi64 (by omega) (by omega)]; omega
  ·rw [if_neg (by simp only [decide_eq_true_eq, hlen]; omega)]
   exact Ok.mk ⟨L, a', rfl, by omega, k3, by omega, by omega⟩
 rintro _ ⟨L1, a1, rfl, u1, u2, u3, u4⟩
 dsimp only
 refine Ok.loop (fun st => ∃ (n : Nat) (L : List File) (a' : Int), st = ((n : Int), L, l, a') ∧ n ≤ 3 ∧ L.length ≤ 4 + n ∧ Made L ∧ a ≤ a' ∧ a' ≤ a + 500000 + 20 * n) (fun st => 3 - st.1.toNat) (fun b => ∃ L a', b = (L, l, a') ∧ L.length ≤ 7 ∧ Made L ∧ a ≤ a' ∧ a' ≤ a + 600000) ?_ ⟨0, L1, a1, rfl, by omega, by omega, u2, by omega, by omega⟩ (by dsimp only; omega) ?_
 ·rintro _ ⟨n, L, a', rfl, k1, k2, k3, k4, k5⟩
  rw [made_dat]
  have hlen : datL.length = 3 := rfl
  dsimp only
  by_cases hn : n < 3
  ·rw [if_pos (by simp only [decide_eq_true_eq, hlen]; omega), qCe (l := datL) (by omega)]
   refine Ok.assoc (Ok.someb ?_)
   refine Ok.assoc (Ok.chance (by omega) (by omega) (by omega) (by omega) fun c => ?_)
   dsimp only
   refine Ok.iteb (fun _ => ?_) fun _ => ?_
   ·refine Ok.assoc (Ok.bind (data_ok (by omega) (by omega) (by omega)) ?_)
    rintro _ ⟨a2, s, rfl, v1, v2, v3⟩
    dsimp only
    rw [qJs _ _ (by omega) k3.1 (by omega)]
    refine Ok.assoc (Ok.someb (Ok.someb (Ok.mk ?_)))
    dsimp only
    have hf := qLo L (datL[n]) s
    refine ⟨⟨n + 1, _, _, by rw [wi64 (by omega) (by omega)]; rfl, by omega, by omega, k3.put (List.mem_append_right _ (List.getElem_mem _)) (by omega), by omega, by omega⟩, ?_⟩
    rw [wi64 (by omega) (by omega)]; omega
   ·refine Ok.someb (Ok.mk ?_)
    dsimp only
    refine ⟨⟨n + 1, _, _, by rw [wi64 (by omega) (by omega)]; rfl, by omega, by omega, k3, by omega, by omega⟩, ?_⟩
    rw [wi64 (by omega) (by omega)]; omega
  ·rw [if_neg (by simp only [decide_eq_true_eq, hlen]; omega)]
   exact Ok.mk ⟨L, a', rfl, by omega, k3, by omega, by omega⟩
 rintro _ ⟨L2, a2, rfl, w1, w2, w3, w4⟩
 refine Ok.mk ?_
 exact ⟨a2, L2, rfl, by omega, by omega, w2, w1⟩
theorem Made.wf {L : List File} (h : Made L) (hl : L.length ≤ 64) : WF L := ⟨hl, h.1, fun f hf => ⟨h.path hf, Nat.le_trans (h.2 f hf).2 (by decide)⟩⟩
end Go.Proofs.YtgggihpbhmbjaaaGreatDoor
