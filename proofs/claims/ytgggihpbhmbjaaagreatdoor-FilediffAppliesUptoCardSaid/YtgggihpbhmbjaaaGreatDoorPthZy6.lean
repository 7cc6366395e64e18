/- strings.Split at slashes; the lexer's paths; the plain law of LexerRaw. No condition. -/
import Derived.Test.YtgggihpbhmbjaaaGreatDoorPthQy6
import Derived.Lib.Bytealg
namespace Go.Proofs.YtgggihpbhmbjaaaGreatDoor
open Go Go.Dc
theorem tw_is {p : UInt8 → Bool} {l : List UInt8} {k : Nat} (hk : k < l.length) (h1 : ∀ j, ∀ h : j < l.length, j < k → p l[j] = true) (h2 : p l[k] = false) : tw p l 0 = k := by
 have key : ∀ d j, j + d = k → tw p l j = k := by
  intro d
  induction d with
  | zero =>
   intro j h
   have : j = k := by omega
   subst this
   exact tw_stop hk h2
  | succ d ih => intro j h; rw [← tw_step (by omega) (h1 j (by omega) (by omega))]; exact ih (j + 1) (by omega)
 exact key k 0 (by omega)
theorem ix_eq (x : ByteArray) : ixB x 47 = if (x.data.toList.takeWhile qKu).length = x.data.toList.length then -1 else ((x.data.toList.takeWhile qKu).length : Int) := by
 have hs := qGu x
 have htw : tw qKu x.data.toList 0 = (x.data.toList.takeWhile qKu).length := by simp [tw]
 have hget : ∀ j, ∀ h : j < x.data.toList.length, x[j]! = x.data.toList[j] := by
  intro j hj
  rw [getElem!_pos x j (by omega)]
  simp [ByteArray.getElem_eq_getElem_data]
 have h47 : (47 : Int).toNat.toUInt8 = 47 := rfl
 rw [← htw]
 unfold ixB
 rw [h47, ← hs]
 cases hf : (List.range x.data.toList.length).find? (fun j => x[j]! == 47) with
 | none =>
  rw [List.find?_eq_none] at hf
  simp only
  rw [if_pos]
  refine tw_all fun c hc => ?_
  obtain ⟨j, hj, rfl⟩ := List.getElem_of_mem hc
  have := hf j (List.mem_range.2 hj)
  rw [hget j hj] at this
  simpa [qKu] using this
 | some k =>
  have h1 := List.find?_some hf
  have hk : k < x.data.toList.length := List.mem_range.1 (List.mem_of_find?_eq_some hf)
  rw [hget k hk] at h1
  have e : tw qKu x.data.toList 0 = k := by
   refine tw_is hk (fun j h hj => ?_) (by simpa [qKu] using h1)
   have := (List.find?_range_eq_some.1 hf).2.2 j hj
   rw [hget j h] at this
   simpa [qKu] using this
  simp only
  rw [e, if_neg (by omega)]
theorem Index_eq {N : Nat} (x : ByteArray) : qIk N x (⟨#[47]⟩ : ByteArray) = some (ixB x 47) := by
 have h1 : idxB (⟨#[47]⟩ : ByteArray) 0 = some 47 := by kernel_rfl
 simp only [qIk, qEx, qDq, show (⟨#[47]⟩ : ByteArray).size = 1 from rfl, bytes_eq']
 rw [if_neg (by decide)]
 simp only [Option.bind_some, decide_eq_true_eq]
 by_cases h : (⟨#[47]⟩ : ByteArray) = x
 ·have h0 : ixB (⟨#[47]⟩ : ByteArray) 47 = 0 := by kernel_rfl
  rw [if_pos h, ← h, h0]
  rfl
 ·rw [if_neg h, if_pos (by decide), h1]
  rfl
theorem cnt_eq (x : ByteArray) : cntB x 47 = ((x.data.toList.count 47 : Nat) : Int) := by
 unfold cntB
 rw [Go.Lib.foldl_data]
 have key : ∀ (l : List UInt8) (n : Int), l.foldl (fun n x => if x == (47 : Int).toNat.toUInt8 then n + 1 else n) n = n + ((l.count 47 : Nat) : Int) := by
  intro l
  induction l with
  | nil => intro n; simp
  | cons c l ih =>
   intro n
   rw [List.foldl_cons, ih, List.count_cons]
   have h47 : (47 : Int).toNat.toUInt8 = 47 := rfl
   rw [h47]
   by_cases h : (c == 47) = true
   ·simp only [h, if_true]; omega
   ·simp only [h, Bool.false_eq_true, if_false]; omega
 rw [key]
 omega
theorem set_mid {α : Type} (l : List α) (k : Nat) (a b : α) : (l ++ List.replicate (k + 1) a).set l.length b = (l ++ [b]) ++ List.replicate k a := by
 rw [List.set_append_right _ _ (Nat.le_refl _)]
 simp [List.replicate_succ]
theorem split_loop {N n : Nat} {s : ByteArray} (hn : n < 1000000000) (hns : n ≤ s.size + 1) (hs : s.size < 1000000000) : ∀ (r M : Nat) (x : ByteArray) (done : List ByteArray), (sp x.data.toList).length = r → done.length + r = n → r < M → x.size < 1000000000 →
  ∃ y D, qBf (qGl N s (⟨#[47]⟩ : ByteArray) 0 (n : Int)) M (x, (done.length : Int), done ++ List.replicate r (⟨#[]⟩ : ByteArray)) = some (y, ((n - 1 : Nat) : Int), D ++ [(⟨#[]⟩ : ByteArray)]) ∧ D.length = n - 1 ∧ D ++ [y] = done ++ (sp x.data.toList).map qNa
 | _, 0, _, _, _, _, h, _ => by omega
 | 0, _, x, _, h, _, _, _ => by exact absurd (List.length_eq_zero_iff.1 h) (sp_ne _)
 | r + 1, M + 1, x, done, h1, h2, h3, h4 => by
  have hxs := qGu x
  have hmin : (if IntKind.wrap .i64 ((s.size : Int) + 1) < (n : Int) then IntKind.wrap .i64 ((s.size : Int) + 1) else (n : Int)) = (n : Int) := by
   rw [wi64 (by omega) (by omega)]; split <;> omega
  have hstep := sp_step x.data.toList
  simp only [qBf, qGl]
  rw [hmin, wi64 (x := (n : Int) - 1) (by omega) (by omega)]
  by_cases hlast : (x.data.toList.takeWhile qKu).length = x.data.toList.length
  ·rw [if_pos hlast] at hstep
   rw [hstep] at h1
   simp only [List.length_cons, List.length_nil] at h1
   have hr : r = 0 := by omega
   subst hr
   rw [if_neg (by simp only [decide_eq_true_eq]; omega)]
   refine ⟨x, done, ?_, by omega, ?_⟩
   ·simp only [Option.bind_some]
    rw [show (n - 1 : Nat) = done.length by omega]
    rfl
   ·rw [hstep]; simp [qNa]
  ·rw [if_neg hlast] at hstep
   rw [hstep] at h1
   simp only [List.length_cons] at h1
   have hpos : 0 < (sp (x.data.toList.drop ((x.data.toList.takeWhile qKu).length + 1))).length := List.length_pos_iff.2 (sp_ne _)
   have hle : (x.data.toList.takeWhile qKu).length ≤ x.data.toList.length := (List.takeWhile_sublist _).length_le
   have hix := ix_eq x
   rw [if_neg hlast] at hix
   rw [if_pos (by simp only [decide_eq_true_eq]; omega), Index_eq, hix]
   simp only [Option.bind_some, show (⟨#[47]⟩ : ByteArray).size = 1 from rfl]
   have he : (x.data.toList.takeWhile qKu) = x.data.toList.take (x.data.toList.takeWhile qKu).length := List.prefix_iff_eq_take.1 (List.takeWhile_prefix _)
   have hx1 : x.extract 0 (x.data.toList.takeWhile qKu).length = qNa (x.data.toList.takeWhile qKu) := by
    apply Go.WideShapes.bytes_inj
    simp only [ByteArray.data_extract, Array.toList_extract, List.extract_eq_take_drop, qNa, List.drop_zero, Nat.sub_zero]
    exact he.symm
   have hx2 : (x.extract ((x.data.toList.takeWhile qKu).length + 1) x.data.toList.length).data.toList = x.data.toList.drop ((x.data.toList.takeWhile qKu).length + 1) := by
    simp only [ByteArray.data_extract, Array.toList_extract, List.extract_eq_take_drop]
    exact List.take_of_length_le (by simp only [List.length_drop]; omega)
   generalize hk : (x.data.toList.takeWhile qKu).length = k at *
   rw [if_neg (by simp only [decide_eq_true_eq]; omega), wi64 (x := (k : Int) + 0) (by omega) (by omega), Int.add_zero]
   have hsub0 : subB x 0 (k : Int) = some (x.extract 0 k) := by
    have := sub_list (s := x) (i := 0) (e := k) (by omega) (by omega)
    simpa only [Int.natCast_zero] using this
   rw [hsub0]
   simp only [Option.bind_some]
   rw [qCe (by simp), wi64 (x := (k : Int) + ((1 : Nat) : Int)) (by omega) (by omega), show ((k : Int) + ((1 : Nat) : Int)) = ((k + 1 : Nat) : Int) by omega, sub_list' (by omega)]
   simp only [Option.bind_some, Int.toNat_natCast]
   rw [set_mid, hx1, wi64 (by omega) (by omega)]
   have hxs2 := qGu (x.extract (k + 1) x.data.toList.length)
   rw [hx2, List.length_drop] at hxs2
   obtain ⟨y, D, g1, g2, g3⟩ := split_loop (N := N) hn hns hs r M (x.extract (k + 1) x.data.toList.length) (done ++ [qNa (x.data.toList.takeWhile qKu)]) (by rw [hx2]; omega) (by simp; omega) (by omega) (by omega)
   refine ⟨y, D, ?_, g2, ?_⟩
   ·rw [← g1]; simp
   ·rw [g3, hx2, hstep]; simp
termination_by r => r
theorem Split_eq {N : Nat} {s : ByteArray} (hl : s.size < 100000000) (hN : 2 * s.size + 1000 < N) : qJz N s (⟨#[47]⟩ : ByteArray) = some ((sp s.data.toList).map qNa) := by
 have hs := qGu s
 have hlen := sp_len s.data.toList
 have hc : s.data.toList.count 47 ≤ s.data.toList.length := List.count_le_length
 have h1 : idxB (⟨#[47]⟩ : ByteArray) 0 = some 47 := by kernel_rfl
 have hcount : qJp N s (⟨#[47]⟩ : ByteArray) = some ((s.data.toList.count 47 : Nat) : Int) := by
  simp only [qJp, show (⟨#[47]⟩ : ByteArray).size = 1 from rfl]
  rw [if_neg (by decide), if_pos (by decide), h1]
  simp only [Option.bind_some]
  rw [← cnt_eq]; rfl
 simp only [qJz, qIw, bytes_eq', hcount, Option.bind_some]
 rw [if_neg (by decide), if_neg (by decide), if_pos (by decide)]
 simp only [Option.bind_some]
 rw [wi64 (x := ((s.data.toList.count 47 : Nat) : Int) + 1) (by omega) (by omega), show ((s.data.toList.count 47 : Nat) : Int) + 1 = (((sp s.data.toList).length : Nat) : Int) by omega]
 generalize hn : (sp s.data.toList).length = n at *
 have hmin : (if IntKind.wrap .i64 ((s.size : Int) + 1) < (n : Int) then IntKind.wrap .i64 ((s.size : Int) + 1) else (n : Int)) = (n : Int) := by
  rw [wi64 (by omega) (by omega)]; split <;> omega
 rw [hmin]
 have hm : makeA 16 (⟨#[]⟩ : ByteArray) (n : Int) = some (List.replicate n (⟨#[]⟩ : ByteArray)) := by
  unfold makeA
  rw [if_pos (by simp only [maxLen]; omega), Int.toNat_natCast]
 rw [hm]
 simp only [Option.bind_some]
 obtain ⟨y, D, g1, g2, g3⟩ := split_loop (N := N) (n := n) (s := s) (by omega) (by omega) (by omega) n N s [] hn (by simp) (by omega) (by omega)
 simp only [List.length_nil, List.nil_append] at g1 g3
 rw [show ((0 : Nat) : Int) = 0 from rfl] at g1
 rw [g1]
 simp only [Option.bind_some]
 rw [qCe (by simp; omega)]
 simp only [Option.bind_some, Int.toNat_natCast]
 have hset : (D ++ [(⟨#[]⟩ : ByteArray)]).set (n - 1) y = D ++ [y] := by
  rw [← g2, List.set_append_right _ _ (Nat.le_refl _)]; simp
 rw [hset, g3, wi64 (by omega) (by omega), show ((n - 1 : Nat) : Int) + 1 = (n : Int) by omega, subS_some (by omega) (by omega) (by rw [List.length_map, hn]; omega)]
 simp only [Option.bind_some, Int.toNat_natCast, Int.toNat_zero, List.drop_zero]
 rw [List.take_of_length_le (by rw [List.length_map, hn]; exact Nat.le_refl _)]
theorem tw_iff {p : UInt8 → Bool} {l : List UInt8} : tw p l 0 = l.length ↔ ∀ c ∈ l, p c = true := by
 constructor
 ·intro h c hc
  have h1 : (l.takeWhile p).length = l.length := by simpa [tw] using h
  have h2 := (List.takeWhile_prefix p (l := l)).eq_of_length h1
  rw [← h2] at hc
  exact mem_tw hc
 ·exact tw_all
def partB (x : ByteArray) : Bool := decide (1 ≤ x.data.toList.length ∧ x.data.toList.length ≤ 24 ∧ ∀ c ∈ x.data.toList, inK [1, 2, 3, 4] c = true)
theorem partB_iff (x : ByteArray) : partB x = true ↔ 1 ≤ x.data.toList.length ∧ x.data.toList.length ≤ 24 ∧ ∀ c ∈ x.data.toList, inK [1, 2, 3, 4] c = true := decide_eq_true_iff
theorem part_eq {N : Nat} {x : ByteArray} (hN : 100 < N) : (if (decide ((x.size : Int) < 1)) = true then (some true) else (if (decide ((x.size : Int) > 24)) = true then (some true) else ((qLf N x 0 (some kdL) ([1, 2, 3, 4])).bind fun y3 => some (y3 != (x.size : Int))))) = some (!partB x) := by
 have hs := qGu x
 have hno : ∀ h : ¬ (1 ≤ x.data.toList.length ∧ x.data.toList.length ≤ 24 ∧ ∀ c ∈ x.data.toList, inK [1, 2, 3, 4] c = true), partB x = false := fun h => decide_eq_false h
 by_cases h1 : 1 ≤ x.data.toList.length
 ·rw [if_neg (by simp only [decide_eq_true_eq]; omega)]
  by_cases h2 : x.data.toList.length ≤ 24
  ·rw [if_neg (by simp only [decide_eq_true_eq]; omega)]
   have hsp := span_eq (N := N) (s := x) (ks := [1, 2, 3, 4]) (i := 0) (by omega) (by omega) (by simp) (by omega)
   rw [show ((0 : Nat) : Int) = 0 from rfl] at hsp
   rw [hsp]
   simp only [Option.bind_some]
   refine congrArg some ?_
   by_cases h3 : tw (inK [1, 2, 3, 4]) x.data.toList 0 = x.data.toList.length
   ·have : partB x = true := decide_eq_true ⟨h1, h2, tw_iff.1 h3⟩
    rw [this, h3, hs]
    simp
   ·rw [hno fun h => h3 (tw_iff.2 h.2.2)]
    simp only [Bool.not_false, bne_iff_ne, ne_eq]
    omega
  ·rw [if_pos (by simp only [decide_eq_true_eq]; omega), hno fun h => h2 h.2.1]
   rfl
 ·rw [if_pos (by simp only [decide_eq_true_eq]; omega), hno fun h => h1 h.1]
  rfl
theorem path_loop {N : Nat} {L : List ByteArray} (hL : L.length < 1000) (hN : 100 < N) : ∀ (d j M : Nat), j + d = L.length → d < M → qBf (qIn N L (some kdL)) M (j : Int) = some (if (L.drop j).all partB = true then .inl () else .inr false)
 | d, j, 0, _, h => by omega
 | 0, j, M + 1, h1, h2 => by
  simp only [qBf, qIn]
  rw [if_neg (by simp only [decide_eq_true_eq]; omega), List.drop_eq_nil_of_le (by omega)]
  rfl
 | d + 1, j, M + 1, h1, h2 => by
  have hj : j < L.length := by omega
  simp only [qBf, qIn]
  rw [if_pos (by simp only [decide_eq_true_eq]; omega), qCe hj]
  simp only [Option.bind_some, part_eq hN]
  rw [List.drop_eq_getElem_cons hj, List.all_cons]
  cases hp : partB L[j] with
  | true =>
   rw [if_neg (by simp), wi64 (by omega) (by omega)]
   simp only [Option.bind_some, Bool.true_and]
   exact path_loop hL hN d (j + 1) M (by omega) (by omega)
  | false => simp
theorem Path_eq {N : Nat} {s : ByteArray} (hl : s.size < 100000000) (hN : 2 * s.size + 1000 < N) : qJn N s = some (qIp s.data.toList) := by
 have hs := qGu s
 have hno : ∀ h : ¬ (s.data.toList.length ≤ 80 ∧ (sp s.data.toList).length ≤ 8 ∧ ∀ p ∈ sp s.data.toList, 1 ≤ p.length ∧ p.length ≤ 24 ∧ ∀ c ∈ p, inK [1, 2, 3, 4] c = true), qIp s.data.toList = false := fun h => decide_eq_false h
 simp only [qJn, Split_eq hl hN, Option.bind_some, List.length_map]
 by_cases h80 : s.data.toList.length ≤ 80
 ·rw [if_neg (by simp only [decide_eq_true_eq]; omega)]
  by_cases h8 : (sp s.data.toList).length ≤ 8
  ·have e8 : decide (((sp s.data.toList).length : Int) > 8) = false := decide_eq_false (by omega)
   simp only [Option.bind_some, e8, Bool.false_eq_true, if_false, kinds_eq (show 30 < N by omega)]
   have key := path_loop (N := N) (L := (sp s.data.toList).map qNa) (by rw [List.length_map]; omega) (by omega) _ 0 N (Nat.zero_add _) (by rw [List.length_map]; omega)
   rw [show ((0 : Nat) : Int) = 0 from rfl, List.drop_zero] at key
   rw [key]
   simp only [Option.bind_some]
   by_cases hp : ((sp s.data.toList).map qNa).all partB = true
   ·have : qIp s.data.toList = true := decide_eq_true ⟨h80, h8, fun p hp' => by
     have := (partB_iff _).1 (List.all_eq_true.1 hp (qNa p) (List.mem_map_of_mem hp'))
     simpa [qNa] using this⟩
    rw [if_pos hp, this]
   ·rw [if_neg hp, hno fun h => hp (List.all_eq_true.2 fun x hx => by
     obtain ⟨p, hp', rfl⟩ := List.mem_map.1 hx
     exact (partB_iff _).2 (by simpa [qNa] using h.2.2 p hp'))]
  ·have e8 : decide (((sp s.data.toList).length : Int) > 8) = true := decide_eq_true (by omega)
   simp only [Option.bind_some, e8, if_true]
   rw [hno fun h => h8 h.2.1]
 ·rw [if_pos (by simp only [decide_eq_true_eq]; omega)]
  simp only [Option.bind_some, if_true]
  rw [hno fun h => h80 h.1]
end Go.Proofs.YtgggihpbhmbjaaaGreatDoor
