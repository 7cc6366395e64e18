/- MADE BY gen.py: plain functions and the proofs that the Go functions compute them. No condition but those of each theorem. -/
import Derived.Test.YtfodebccikifcaaGreatDoorProg
import Derived.Test.YtfodebccikifcaaGreatDoorInsy1
import Derived.Test.YtfodebccikifcaaGreatDoorTConDy1
namespace Go.Proofs.YtfodebccikifcaaGreatDoor
open Go Go.Dc
set_option maxHeartbeats 4000000 in
set_option maxRecDepth 100000 in
theorem slices_Delete_api_File_api_File_own {m : Mem} {own : List Piece} {w : World} {l : List (ByteArray × ByteArray)} {i : Nat} {a : Option Addr} {cap nn : Nat} {T : List Value} (st : St m (opc a (acellsM (fun x : ByteArray × ByteArray => ([.string x.1, .string x.2] : List Value)) l T) 46 :: own) w) (hs : OAS a nn cap 2 T) (hn : List.length l = nn) (hi : i < List.length l)
  (hmx : List.length l + 1 ≤ maxLen) : Calls Tryz.prog 70 #[.slice a nn cap, .int .i64 (i : Int), .int .i64 ((i : Int) + 1)] w fun e w' => ∃ (ra1 : Option Addr) (rc1 : Nat) (m' : Mem), e = .returned (.slice ra1 (List.length (List.take i l ++ List.drop (i + 1) l)) rc1) ∧ m.le m' ∧ St m' (.room ra1 (List.length (List.take i l ++ List.drop (i + 1) l)) rc1 46 2 :: own) w' ∧ RepS (cPair cStr cStr) m' ra1 rc1 (List.take i l ++ List.drop (i + 1) l) := by
 subst hn
 have hm := m.le_refl
 have hcap := hs.1
 have hlen : List.length (List.take i l ++ List.drop (i + 1) l) = List.length l - 1 := by simp; omega
 have hmxI : (maxLen : Int) = 9223372036854775807 := rfl
 have hone : ∀ y : ByteArray × ByteArray, ∀ v ∈ (fun x : ByteArray × ByteArray => ([.string x.1, .string x.2] : List Value)) y, v.oneCell' = true := fun y => (cPair cStr cStr).one m y _ ((fun _ x => ⟨_, _, rfl, rfl, rfl⟩) m y)
 have honeL : ∀ k : List (ByteArray × ByteArray), ∀ v ∈ k.flatMap (fun x : ByteArray × ByteArray => ([.string x.1, .string x.2] : List Value)), v.oneCell' = true := fun k v hv => by
  obtain ⟨y, _, hy⟩ := List.mem_flatMap.1 hv; exact hone y v hy
 have ha := hs.some rfl hi
 generalize ab a = b at ha
 subst ha
 have hcapT : List.length l * 2 + T.length = cap * 2 := hs.2.2.2
 have st : St m (.blk b (.cells (acellsM (fun x : ByteArray × ByteArray => ([.string x.1, .string x.2] : List Value)) l T) 46 (0, 0)) :: own) w := st
 obtain ⟨A, hA⟩ : ∃ A, A = (l.take i).flatMap (fun x : ByteArray × ByteArray => ([.string x.1, .string x.2] : List Value)) := ⟨_, rfl⟩
 obtain ⟨B, hB⟩ : ∃ B, B = (l.drop (i + 1)).flatMap (fun x : ByteArray × ByteArray => ([.string x.1, .string x.2] : List Value)) := ⟨_, rfl⟩
 obtain ⟨X, hX⟩ : ∃ X, X = (fun x : ByteArray × ByteArray => ([.string x.1, .string x.2] : List Value)) l[i] := ⟨_, rfl⟩
 have hAl : A.length = i * 2 := by rw [hA, flat_len (k := 2) (fun _ => rfl), List.length_take, Nat.min_eq_left (by omega)]
 have hBl : B.length = (List.length l - (i + 1)) * 2 := by rw [hB, flat_len (k := 2) (fun _ => rfl), List.length_drop]
 have hXl : X.length = 2 := by rw [hX]; rfl
 have hC : acellsM (fun x : ByteArray × ByteArray => ([.string x.1, .string x.2] : List Value)) l T = (A ++ (X ++ (B ++ T))).toArray := by
  have e : l = l.take i ++ l[i] :: l.drop (i + 1) := by rw [List.getElem_cons_drop, List.take_append_drop]
  unfold acellsM
  conv => lhs; rw [e]
  rw [hA, hB, hX, List.flatMap_append, List.flatMap_cons]; simp only [List.append_assoc]
 rw [hC] at st
 have hoB : ∀ v ∈ B, v.oneCell' = true := by rw [hB]; exact honeL _
 have hfin : ∀ T' : List Value, (A ++ (B ++ T')).toArray = acellsM (fun x : ByteArray × ByteArray => ([.string x.1, .string x.2] : List Value)) (List.take i l ++ List.drop (i + 1) l) T' := fun T' => by
  unfold acellsM; rw [List.flatMap_append, ← hA, ← hB]; simp only [List.append_assoc]
 refine W_calls Tryz.func70 rfl Tryz.ntmps70 [(0, .slice (some ⟨b, 0, none⟩) (List.length l) cap), (1, .int .i64 (i : Int)), (2, .int .i64 ((i : Int) + 1))] kr rfl ?_
 refine W_sr (WO_seg 1 [] kr kr ?_)
 refine WO_et rfl (W_sr ?_)
 refine WO_seg 5 [(8, .slice (some ⟨b, 0, none⟩) (List.length l) cap), (9, .int .i64 (i : Int)), (10, .int .i64 ((i : Int) + 1)), (12, .int .i64 (List.length l : Int))] kr kr ?_
 refine WO_one rfl (One_slice3any (d := 13) (t := 27) (e := 46) (k := 2) (x := (.tmp 8)) (y1 := (.tmp 9)) (y2 := (.tmp 10)) (y3 := (.tmp 12)) kr rfl (ev (.slice (some ⟨b, 0, none⟩) (List.length l) cap)) kr (ev (.int .i64 (i : Int))) (ev (.int .i64 ((i : Int) + 1))) (ev (.int .i64 (List.length l : Int))) (by omega) (by omega) (by omega) (by omega) ?_)
 intro v13
 refine WO_env [(0, .slice (some ⟨b, 0, none⟩) (List.length l) cap), (1, .int .i64 (i : Int)), (2, .int .i64 ((i : Int) + 1))] kr ?_
 refine WO_et rfl (W_seq ?_)
 refine W_sr (WO_seg 3 [(16, .bool ((i : Int) == ((i : Int) + 1)))] kr kr ?_)
 refine WO_et rfl (W_cond ((i : Int) == ((i : Int) + 1)) kr ?_ ?_)
 ·intro hc
  have := eq_of_beq hc
  omega
 intro _
 refine W_skip ?_
 refine X_then ?_
 refine W_sr (WO_seg 3 [(7, .int .i64 (List.length l : Int))] kr kr ?_)
 refine WO_et rfl (W_seq ?_)
 refine W_draw [(8, fun _ => True)] kr st ?_
 clear st
 intro w4 _ st
 refine ⟨⟨.inr trivial, trivial⟩, ?_⟩
 refine WA_pure 0 20 (.slice (some ⟨b, 0, none⟩) (List.length l) cap) kr rfl kr (.head _) (QP_then QP_body) ?_
 refine WA_pure 1 21 (.int .i64 (i : Int)) kr rfl kr (.head _) (QP_then QP_body) ?_
 refine WA_sliceO (t := 27) (e := 46) (k := 2) (x := (.tmp 20)) (lo := none) (hi := some (.tmp 21)) (li := 0) (hix := (i : Int)) 2 22 (.slice (some ⟨b, 0, none⟩) i cap) kr rfl kr (.head _) (QP_then QP_body) (ev (.slice (some ⟨b, 0, none⟩) (List.length l) cap)) kr (.inl ⟨rfl, rfl⟩) (.inr ⟨_, _, rfl, (ev (.int .i64 (i : Int)))⟩) (by omega) (by omega) (by omega) (by rw [slA_some (by simp; omega)]; simp) ?_
 refine WA_pure 3 23 (.slice (some ⟨b, 0, none⟩) (List.length l) cap) kr rfl kr (.head _) (QP_then QP_body) ?_
 refine WA_pure 4 24 (.int .i64 ((i : Int) + 1)) kr rfl kr (.head _) (QP_then QP_body) ?_
 refine WA_sliceO (t := 27) (e := 46) (k := 2) (x := (.tmp 23)) (lo := some (.tmp 24)) (hi := none) (li := (i : Int) + 1) (hix := (List.length l : Int)) 5 25 (.slice (slA (some ⟨b, 0, none⟩) cap (i + 1) 2) (List.length l - (i + 1)) (cap - (i + 1))) kr rfl kr (.head _) (QP_then QP_body) (ev (.slice (some ⟨b, 0, none⟩) (List.length l) cap)) kr (.inr ⟨_, _, rfl, (ev (.int .i64 ((i : Int) + 1)))⟩) (.inl ⟨rfl, rfl⟩) (by omega) (by omega) (by omega) (by rw [show ((i : Int) + 1).toNat = i + 1 by omega, Int.toNat_natCast]) ?_
 have hfB : (Builtin.firstCells 2 (List.length l - (i + 1)) (.slice (slA (some ⟨b, 0, none⟩) cap (i + 1) 2) (List.length l - (i + 1)) (cap - (i + 1)))).run Tryz.prog w4 = .ok B.toArray w4 := by
  by_cases hq : i + 1 < cap
  ·rw [slA_some hq]
   refine first_own (C := (A ++ (X ++ (B ++ T))).toArray) (e := 46) st.head.1 ?_ hBl
   simp only
   have e2 : List.drop 2 (X ++ (B ++ T)) = B ++ T := by
    conv => lhs; arg 1; rw [← hXl]
    exact List.drop_left
   rw [show 0 + (i + 1) * 2 = A.length + 2 by omega, List.drop_length_add_append, e2, ← hBl]
   exact List.take_left
  ·have hz : List.length l - (i + 1) = 0 := by omega
   have hB0 : B = [] := List.eq_nil_of_length_eq_zero (by rw [hBl, hz, Nat.zero_mul])
   rw [hz, hB0]
   unfold slA
   rw [if_pos (by omega)]
   exact run_firstCells_some w4 2 0 _ 0 _ [] (by simp) (fun j v hv => by simp at hv)
 refine WA_one 6 kr (One_appendInO (d := 26) (t := 27) (u := 27) (e := 46) (by_ := 32) (k := 2) (x := (.tmp 22)) (y := (.tmp 25)) (S := B) (C' := A ++ (B ++ (X ++ (B ++ T)).drop B.length)) kr rfl (ev (.slice (some ⟨b, 0, none⟩) i cap)) (ev (.slice (slA (some ⟨b, 0, none⟩) cap (i + 1) 2) (List.length l - (i + 1)) (cap - (i + 1)))) kr kr st hfB hBl hoB (by omega) (by simp only [List.size_toArray, List.length_append]; omega) (by simp only; rw [← hAl, List.take_left, List.drop_length_add_append, List.append_assoc]) ?_)
 clear st hfB
 intro w5 st
 refine ⟨⟨.inr trivial, trivial⟩, ?_⟩
 have hR : ((X ++ (B ++ T)).drop B.length).length = 2 + T.length := by simp only [List.length_drop, List.length_append]; omega
 generalize (X ++ (B ++ T)).drop B.length = R at st hR
 have hsum : i + (List.length l - (i + 1)) = List.length l - 1 := by omega
 rw [hsum]
 refine WA_pure 7 0 (.slice (some ⟨b, 0, none⟩) (List.length l - 1) cap) kr rfl kr (.head _) (QP_then QP_body) ?_
 refine WA_done kr ?_
 refine X_then ?_
 refine W_sr (WO_seg 4 [(27, .slice (some ⟨b, 0, none⟩) (List.length l - 1) cap), (29, .int .i64 ((List.length l - 1 : Nat) : Int)), (30, .int .i64 (List.length l : Int))] kr kr ?_)
 refine WO_one rfl (One_sliceO (d := 31) (t := 27) (e := 46) (k := 2) (x := (.tmp 27)) (lo := some (.tmp 29)) (hi := some (.tmp 30)) (li := ((List.length l - 1 : Nat) : Int)) (hix := (List.length l : Int)) (.slice (some ⟨b, (A ++ B).length, none⟩) (0 + 1) (cap - (List.length l - 1))) kr rfl (ev (.slice (some ⟨b, 0, none⟩) (List.length l - 1) cap)) kr (.inr ⟨_, _, rfl, (ev (.int .i64 ((List.length l - 1 : Nat) : Int)))⟩) (.inr ⟨_, _, rfl, (ev (.int .i64 (List.length l : Int)))⟩) (by omega) (by omega) (by omega) (by
  rw [Int.toNat_natCast, slA_some (by omega), Int.toNat_natCast, show 0 + (List.length l - 1) * 2 = (A ++ B).length by rw [List.length_append]; omega, show List.length l - (List.length l - 1) = 0 + 1 by omega]) ?_)
 refine WO_one rfl (One_clearO (t := 27) (e := 46) (k := 2) (zs := 2) (x := (.tmp 31)) (dl := 0) (z := (.agg #[.string (⟨#[]⟩ : ByteArray), .string (⟨#[]⟩ : ByteArray)])) (A ++ (B ++ ((Builtin.zeroCells ((.agg #[.string (⟨#[]⟩ : ByteArray), .string (⟨#[]⟩ : ByteArray)]) : Value).cells 1).toList ++ R.drop 2))) kr (ev (.slice (some ⟨b, (A ++ B).length, none⟩) (0 + 1) (cap - (List.length l - 1)))) kr kr rfl (allOne_mem kr) st (by simp only [List.size_toArray, List.length_append]; omega) (by
  have hz : (Builtin.zeroCells ((.agg #[.string (⟨#[]⟩ : ByteArray), .string (⟨#[]⟩ : ByteArray)]) : Value).cells (0 + 1)).toList.length = 2 := by rw [Array.length_toList, size_zeroCells]; rfl
  simp only [hz]
  rw [← List.append_assoc A B R, List.take_left, List.drop_length_add_append]
  simp only [List.append_assoc]) ?_)
 clear st
 intro w6 st
 refine WO_et rfl (W_sr ?_)
 refine WO_seg 2 [(6, .slice (some ⟨b, 0, none⟩) (List.length l - 1) cap)] kr kr ?_
 refine WO_et rfl (W_ret ?_)
 refine X_ret [.tmp 6] [.slice (some ⟨b, 0, none⟩) (List.length l - 1) cap] rfl (ResAll.cons (ResAt.tmp kr) ResAll.nil) ?_
 rw [hfin] at st
 have hzl : (Builtin.zeroCells ((.agg #[.string (⟨#[]⟩ : ByteArray), .string (⟨#[]⟩ : ByteArray)]) : Value).cells 1).toList.length = 2 := by rw [Array.length_toList, size_zeroCells]; rfl
 generalize (Builtin.zeroCells ((.agg #[.string (⟨#[]⟩ : ByteArray), .string (⟨#[]⟩ : ByteArray)]) : Value).cells 1).toList = Zc at st hzl
 have st : St m (opc (some ⟨b, 0, none⟩) (acellsM (fun x : ByteArray × ByteArray => ([.string x.1, .string x.2] : List Value)) (List.take i l ++ List.drop (i + 1) l) (Zc ++ R.drop 2)) 46 :: own) w6 := st
 obtain ⟨m1, hle1, st, r1⟩ := St.freezeM (c := (cPair cStr cStr)) (f := (fun x : ByteArray × ByteArray => ([.string x.1, .string x.2] : List Value))) (nn := List.length l - 1) (cc := cap) st ⟨by omega, hs.2.1, rfl, (show (List.length l - 1) * 2 + List.length (Zc ++ R.drop 2) = cap * 2 by simp only [List.length_append, List.length_drop, hzl]; omega)⟩ hlen (fun _ => rfl) (fun _ x => ⟨_, _, rfl, rfl, rfl⟩)
 rw [hlen] at st ⊢
 exact ⟨_, cap, m1, rfl, Mem.le_trans hm hle1, st, r1⟩
theorem slices_Delete_api_File_api_File_ok2 {m : Mem} {own : List Piece} {w : World} {l r : List (ByteArray × ByteArray)} {ix jx : Int} {a : Option Addr} {cap nn : Nat} {T : List Value} (st : St m (opc a (acellsM (fun x : ByteArray × ByteArray => ([.string x.1, .string x.2] : List Value)) l T) 46 :: own) w) (hs : OAS a nn cap 2 T) (hn : List.length l = nn) (hr : deleteS l ix jx = some r) :
  Calls Tryz.prog 70 #[.slice a nn cap, .int .i64 ix, .int .i64 jx] w fun e w' => ∃ (ra1 : Option Addr) (rc1 : Nat) (m' : Mem), e = .returned (.slice ra1 (List.length r) rc1) ∧ m.le m' ∧ St m' (.room ra1 (List.length r) rc1 46 2 :: own) w' ∧ RepS (cPair cStr cStr) m' ra1 rc1 r := by
 obtain ⟨i, rfl, rfl, h2, h3, rfl⟩ := deleteS_some hr
 exact slices_Delete_api_File_api_File_own st hs hn h2 h3
def revision_Remove (N : Nat) (p0 : (List (ByteArray × ByteArray))) (p1 : ByteArray) : Option (((List (ByteArray × ByteArray))) × Int) :=
 (revision_Check N p0).bind fun y1 => if (y1 != 0) = true then (some (([] : List (ByteArray × ByteArray)), y1)) else ((revision_at N p0 p1).bind fun y2 => if (!y2.2) = true then (some (([] : List (ByteArray × ByteArray)), 18)) else ((slices_Clone_api_File_api_File_O p0).bind fun y3 => (deleteS y3 y2.1 (IntKind.wrap .i64 (y2.1 + 1))).bind fun y4 => some (y4, 0)))
set_option maxHeartbeats 4000000 in
set_option maxRecDepth 100000 in
theorem revision_Remove_ok {N : Nat} {m : Mem} {own : List Piece} {w : World} {p0 : (List (ByteArray × ByteArray))} {p1 : ByteArray} {a1 : Option Addr} {c1 : Nat} {r : ((List (ByteArray × ByteArray))) × Int} (st : St m (own) w) (r1 : RepS (cPair cStr cStr) m a1 c1 p0) (hr : revision_Remove N p0 p1 = some r) : Calls Tryz.prog 51 #[.agg #[.slice a1 (List.length p0) c1], .string p1] w fun e w' => ∃ (ra1 : Option Addr) (rc1 : Nat) (m' : Mem), e = .returned (.tuple #[.agg #[.slice ra1 (List.length r.1) rc1], .int .i64 r.2]) ∧ m.le m' ∧ St m' (.room ra1 (List.length r.1) rc1 46 2 :: own) w' ∧ RepS (cPair cStr cStr) m' ra1 rc1 r.1 := by
 unfold revision_Remove at hr
 have hm := m.le_refl
 refine W_calls Tryz.func51 rfl Tryz.ntmps51 [(0, .agg #[.slice a1 (List.length p0) c1]), (1, .string p1)] kr rfl ?_
 refine W_sr (WO_one rfl (One_box (d := 2) (e := 29) (x := (.tmp 0)) (.agg #[.slice a1 (List.length p0) c1]) kr rfl kr st ?_))
 clear st
 intro b1 m1 w1 hle1 st hb1
 have hm := Mem.le_trans hm hle1
 have r1 := r1.mono hle1
 refine WO_one rfl (One_alloc (d := 4) (e := 29) (.agg #[.slice none 0 0]) kr rfl kr st ?_)
 clear st
 intro b2 w2 st
 refine WO_seg 1 [] kr kr ?_
 refine WO_et rfl (W_seq ?_)
 refine W_sr (WO_one rfl (One_load_row (d := 9) (t := 29) (x := (.tmp 2)) (.agg #[.slice a1 (List.length p0) c1]) kr rfl (ev (.pointer (some ⟨b1, 0, none⟩))) st hb1 kr ?_))
 replace ⟨y1, hx1, hr⟩ := bindS hr
 refine WO_one rfl (One_fn 10 16 #[.agg #[.slice a1 (List.length p0) c1]] kr rfl ?_)
 refine (revision_Check_ok st r1 hx1).mono ?_
 clear st
 rintro _ w3 ⟨m2, rfl, hle2, st⟩
 refine ⟨_, rfl, ?_⟩
 have hm := Mem.le_trans hm hle2
 have hb1 := hb1.mono hle2
 have r1 := r1.mono hle2
 refine WO_seg 1 [(6, .int .i64 y1)] kr kr ?_
 refine WO_et rfl (W_sr ?_)
 refine WO_seg 2 [(12, .bool (y1 != 0))] kr kr ?_
 refine WO_et rfl (W_cond (y1 != 0) kr ?_ ?_)
 ·intro hc
  rw [if_pos hc] at hr
  refine W_sr (WO_seg 2 [(13, .agg #[.slice none (List.length ([] : List (ByteArray × ByteArray))) 0]), (14, .int .i64 y1)] kr kr ?_)
  refine WO_one rfl (One_store (t := 29) (x := (.tmp 4)) (y := (.tmp 13)) (v := .agg #[.slice none (List.length ([] : List (ByteArray × ByteArray))) 0]) (c' := #[.slice none (List.length ([] : List (ByteArray × ByteArray))) 0]) kr (ev (.pointer (some ⟨b2, 0, none⟩))) (ev (.agg #[.slice none (List.length ([] : List (ByteArray × ByteArray))) 0])) st kr kr ?_)
  clear st
  intro w4 st
  refine WO_seg 1 [(5, .int .i64 y1)] kr kr ?_
  refine WO_et rfl (W_ret ?_)
  refine X_then_ret ?_
  obtain rfl := Option.some.inj hr
  refine X_ret [.cell 4 29, .tmp 5] [.agg #[.slice none (List.length ([] : List (ByteArray × ByteArray))) 0], .int .i64 y1] rfl (ResAll.cons (ResAt.blk (v := .agg #[.slice none (List.length ([] : List (ByteArray × ByteArray))) 0]) (o := 0) kr st.head kr) (ResAll.cons (ResAt.tmp kr) ResAll.nil)) ?_
  have st := st.nilroom 46 2
  have st := st.front1
  have st := st.tail
  exact ⟨none, 0, m2, rfl, hm, st, (RepS.nil _ _)⟩
 ·intro hc
  rw [if_neg (not_true hc)] at hr
  refine W_skip ?_
  refine X_then ?_
  refine W_sr (WO_one rfl (One_load_row (d := 16) (t := 29) (x := (.tmp 2)) (.agg #[.slice a1 (List.length p0) c1]) kr rfl (ev (.pointer (some ⟨b1, 0, none⟩))) st hb1 kr ?_))
  refine WO_seg 1 [(17, .string p1)] kr kr ?_
  replace ⟨y2, hx2, hr⟩ := bindS hr
  refine WO_one rfl (One_fn 18 48 #[.agg #[.slice a1 (List.length p0) c1], .string p1] kr rfl ?_)
  refine (revision_at_ok st r1 hx2).mono ?_
  clear st
  rintro _ w5 ⟨m3, rfl, hle3, st⟩
  refine ⟨_, rfl, ?_⟩
  have hm := Mem.le_trans hm hle3
  have hb1 := hb1.mono hle3
  have r1 := r1.mono hle3
  refine WO_seg 5 [(7, .int .i64 y2.1), (8, .bool y2.2)] kr kr ?_
  refine WO_et rfl (W_seq ?_)
  refine W_sr (WO_seg 2 [(22, .bool (!y2.2))] kr kr ?_)
  refine WO_et rfl (W_cond (!y2.2) kr ?_ ?_)
  ·intro hc
   rw [if_pos hc] at hr
   refine W_sr (WO_seg 1 [(23, .agg #[.slice none (List.length ([] : List (ByteArray × ByteArray))) 0])] kr kr ?_)
   refine WO_one rfl (One_store (t := 29) (x := (.tmp 4)) (y := (.tmp 23)) (v := .agg #[.slice none (List.length ([] : List (ByteArray × ByteArray))) 0]) (c' := #[.slice none (List.length ([] : List (ByteArray × ByteArray))) 0]) kr (ev (.pointer (some ⟨b2, 0, none⟩))) (ev (.agg #[.slice none (List.length ([] : List (ByteArray × ByteArray))) 0])) st kr kr ?_)
   clear st
   intro w6 st
   refine WO_seg 1 [(5, .int .i64 18)] kr kr ?_
   refine WO_et rfl (W_ret ?_)
   refine X_then_ret ?_
   obtain rfl := Option.some.inj hr
   refine X_ret [.cell 4 29, .tmp 5] [.agg #[.slice none (List.length ([] : List (ByteArray × ByteArray))) 0], .int .i64 18] rfl (ResAll.cons (ResAt.blk (v := .agg #[.slice none (List.length ([] : List (ByteArray × ByteArray))) 0]) (o := 0) kr st.head kr) (ResAll.cons (ResAt.tmp kr) ResAll.nil)) ?_
   have st := st.nilroom 46 2
   have st := st.front1
   have st := st.tail
   exact ⟨none, 0, m3, rfl, hm, st, (RepS.nil _ _)⟩
  ·intro hc
   rw [if_neg (not_true hc)] at hr
   refine W_skip ?_
   refine X_then ?_
   refine W_sr (WO_seg 1 [(24, .pointer (some ⟨b1, 0, none⟩))] kr kr ?_)
   refine WO_one rfl (One_load_row (d := 25) (t := 27) (x := (.tmp 24)) (.slice a1 (List.length p0) c1) kr rfl (ev (.pointer (some ⟨b1, 0, none⟩))) st hb1 kr ?_)
   replace ⟨y3, hx3, hr⟩ := bindS hr
   refine WO_one rfl (One_fn 26 49 #[.slice a1 (List.length p0) c1] kr rfl ?_)
   refine (slices_Clone_api_File_api_File_own st r1 hx3).mono ?_
   clear st
   rintro _ w7 ⟨a2, c2, T1, m4, rfl, hle4, hs1, st⟩
   refine ⟨_, rfl, ?_⟩
   have hm := Mem.le_trans hm hle4
   have hb1 := hb1.mono hle4
   have r1 := r1.mono hle4
   refine WO_seg 3 [(27, .int .i64 y2.1), (29, .int .i64 (IntKind.wrap .i64 (y2.1 + 1)))] kr kr ?_
   replace ⟨y4, hx4, hr⟩ := bindS hr
   refine WO_one rfl (One_fn 30 70 #[.slice a2 (List.length y3) c2, .int .i64 y2.1, .int .i64 (IntKind.wrap .i64 (y2.1 + 1))] kr rfl ?_)
   refine (slices_Delete_api_File_api_File_ok2 st hs1 rfl hx4).mono ?_
   clear st
   rintro _ w8 ⟨a3, c3, m5, rfl, hle5, st, r2⟩
   refine ⟨_, rfl, ?_⟩
   have hm := Mem.le_trans hm hle5
   have hb1 := hb1.mono hle5
   have r1 := r1.mono hle5
   refine WO_seg 1 [(31, .agg #[.slice a3 (List.length y4) c3])] kr kr ?_
   have st := st.front1
   refine WO_one rfl (One_store (t := 29) (x := (.tmp 4)) (y := (.tmp 31)) (v := .agg #[.slice a3 (List.length y4) c3]) (c' := #[.slice a3 (List.length y4) c3]) kr (ev (.pointer (some ⟨b2, 0, none⟩))) (ev (.agg #[.slice a3 (List.length y4) c3])) st kr kr ?_)
   clear st
   intro w9 st
   refine WO_seg 1 [(5, .int .i64 0)] kr kr ?_
   refine WO_et rfl (W_ret ?_)
   obtain rfl := Option.some.inj hr
   refine X_ret [.cell 4 29, .tmp 5] [.agg #[.slice a3 (List.length y4) c3], .int .i64 0] rfl (ResAll.cons (ResAt.blk (v := .agg #[.slice a3 (List.length y4) c3]) (o := 0) kr st.head kr) (ResAll.cons (ResAt.tmp kr) ResAll.nil)) ?_
   have st := st.tail
   exact ⟨a3, c3, m5, rfl, hm, st, r2⟩
def revision_Move (N : Nat) (p0 : (List (ByteArray × ByteArray))) (p1 : ByteArray) (p2 : ByteArray) : Option (((List (ByteArray × ByteArray))) × Int) :=
 (revision_Check N p0).bind fun y1 => if (y1 != 0) = true then (some (([] : List (ByteArray × ByteArray)), y1)) else ((lexer_Path N p2).bind fun y2 => if (!y2) = true then (some (([] : List (ByteArray × ByteArray)), 6)) else ((revision_Find N p0 p1).bind fun y3 => if (!y3.2) = true then (some (([] : List (ByteArray × ByteArray)), 18)) else ((revision_at N p0 p2).bind fun y4 => if y4.2 = true then (some (([] : List (ByteArray × ByteArray)), 19)) else ((revision_Remove N p0 p1).bind fun y5 => (revision_Put N y5.1 p2 y3.1).bind fun y6 => some (y6.1, y6.2)))))
set_option maxHeartbeats 4000000 in
set_option maxRecDepth 100000 in
theorem revision_Move_ok {N : Nat} {m : Mem} {own : List Piece} {w : World} {p0 : (List (ByteArray × ByteArray))} {p1 : ByteArray} {p2 : ByteArray} {a1 : Option Addr} {c1 : Nat} {r : ((List (ByteArray × ByteArray))) × Int} (st : St m (own) w) (r1 : RepS (cPair cStr cStr) m a1 c1 p0) (hr : revision_Move N p0 p1 p2 = some r) : Calls Tryz.prog 29 #[.agg #[.slice a1 (List.length p0) c1], .string p1, .string p2] w fun e w' => ∃ (ra1 : Option Addr) (rc1 : Nat) (m' : Mem), e = .returned (.tuple #[.agg #[.slice ra1 (List.length r.1) rc1], .int .i64 r.2]) ∧ m.le m' ∧ St m' (.room ra1 (List.length r.1) rc1 46 2 :: own) w' ∧ RepS (cPair cStr cStr) m' ra1 rc1 r.1 := by
 unfold revision_Move at hr
 have hm := m.le_refl
 refine W_calls Tryz.func29 rfl Tryz.ntmps29 [(0, .agg #[.slice a1 (List.length p0) c1]), (1, .string p1), (2, .string p2)] kr rfl ?_
 refine W_sr (WO_one rfl (One_box_own (d := 3) (e := 29) (x := (.tmp 0)) (.agg #[.slice a1 (List.length p0) c1]) kr rfl kr st ?_))
 clear st
 intro b1 w1 st
 refine WO_one rfl (One_alloc (d := 6) (e := 29) (.agg #[.slice none 0 0]) kr rfl kr st ?_)
 clear st
 intro b2 w2 st
 refine WO_seg 1 [] kr kr ?_
 refine WO_et rfl (W_seq ?_)
 refine W_sr (WO_one rfl (One_load_own (d := 13) (t := 29) (x := (.tmp 3)) (.agg #[.slice a1 (List.length p0) c1]) kr rfl (ev (.pointer (some ⟨b1, 0, none⟩))) st.tail.head kr ?_))
 replace ⟨y1, hx1, hr⟩ := bindS hr
 refine WO_one rfl (One_fn 14 16 #[.agg #[.slice a1 (List.length p0) c1]] kr rfl ?_)
 refine (revision_Check_ok st r1 hx1).mono ?_
 clear st
 rintro _ w3 ⟨m2, rfl, hle2, st⟩
 refine ⟨_, rfl, ?_⟩
 have hm := Mem.le_trans hm hle2
 have r1 := r1.mono hle2
 refine WO_seg 1 [(8, .int .i64 y1)] kr kr ?_
 refine WO_et rfl (W_sr ?_)
 refine WO_seg 2 [(16, .bool (y1 != 0))] kr kr ?_
 refine WO_et rfl (W_cond (y1 != 0) kr ?_ ?_)
 ·intro hc
  rw [if_pos hc] at hr
  refine W_sr (WO_seg 2 [(17, .agg #[.slice none (List.length ([] : List (ByteArray × ByteArray))) 0]), (18, .int .i64 y1)] kr kr ?_)
  refine WO_one rfl (One_store (t := 29) (x := (.tmp 6)) (y := (.tmp 17)) (v := .agg #[.slice none (List.length ([] : List (ByteArray × ByteArray))) 0]) (c' := #[.slice none (List.length ([] : List (ByteArray × ByteArray))) 0]) kr (ev (.pointer (some ⟨b2, 0, none⟩))) (ev (.agg #[.slice none (List.length ([] : List (ByteArray × ByteArray))) 0])) st kr kr ?_)
  clear st
  intro w4 st
  refine WO_seg 1 [(7, .int .i64 y1)] kr kr ?_
  refine WO_et rfl (W_ret ?_)
  refine X_then_ret ?_
  obtain rfl := Option.some.inj hr
  refine X_ret [.cell 6 29, .tmp 7] [.agg #[.slice none (List.length ([] : List (ByteArray × ByteArray))) 0], .int .i64 y1] rfl (ResAll.cons (ResAt.blk (v := .agg #[.slice none (List.length ([] : List (ByteArray × ByteArray))) 0]) (o := 0) kr st.head kr) (ResAll.cons (ResAt.tmp kr) ResAll.nil)) ?_
  have st := st.nilroom 46 2
  have st := st.front1
  have st := st.tail
  have st := st.front1
  have st := st.tail
  exact ⟨none, 0, m2, rfl, hm, st, (RepS.nil _ _)⟩
 ·intro hc
  rw [if_neg (not_true hc)] at hr
  refine W_skip ?_
  refine X_then ?_
  refine W_seq ?_
  refine W_sr (WO_seg 1 [(19, .string p2)] kr kr ?_)
  replace ⟨y2, hx2, hr⟩ := bindS hr
  refine WO_one rfl (One_fn 20 38 #[.string p2] kr rfl ?_)
  refine (lexer_Path_ok st hx2).mono ?_
  clear st
  rintro _ w5 ⟨m3, rfl, hle3, st⟩
  refine ⟨_, rfl, ?_⟩
  have hm := Mem.le_trans hm hle3
  have r1 := r1.mono hle3
  refine WO_seg 1 [(21, .bool (!y2))] kr kr ?_
  refine WO_et rfl (W_cond (!y2) kr ?_ ?_)
  ·intro hc
   rw [if_pos hc] at hr
   refine W_sr (WO_seg 1 [(22, .agg #[.slice none (List.length ([] : List (ByteArray × ByteArray))) 0])] kr kr ?_)
   refine WO_one rfl (One_store (t := 29) (x := (.tmp 6)) (y := (.tmp 22)) (v := .agg #[.slice none (List.length ([] : List (ByteArray × ByteArray))) 0]) (c' := #[.slice none (List.length ([] : List (ByteArray × ByteArray))) 0]) kr (ev (.pointer (some ⟨b2, 0, none⟩))) (ev (.agg #[.slice none (List.length ([] : List (ByteArray × ByteArray))) 0])) st kr kr ?_)
   clear st
   intro w6 st
   refine WO_seg 1 [(7, .int .i64 6)] kr kr ?_
   refine WO_et rfl (W_ret ?_)
   refine X_then_ret ?_
   obtain rfl := Option.some.inj hr
   refine X_ret [.cell 6 29, .tmp 7] [.agg #[.slice none (List.length ([] : List (ByteArray × ByteArray))) 0], .int .i64 6] rfl (ResAll.cons (ResAt.blk (v := .agg #[.slice none (List.length ([] : List (ByteArray × ByteArray))) 0]) (o := 0) kr st.head kr) (ResAll.cons (ResAt.tmp kr) ResAll.nil)) ?_
   have st := st.nilroom 46 2
   have st := st.front1
   have st := st.tail
   have st := st.front1
   have st := st.tail
   exact ⟨none, 0, m3, rfl, hm, st, (RepS.nil _ _)⟩
  ·intro hc
   rw [if_neg (not_true hc)] at hr
   refine W_skip ?_
   refine X_then ?_
   refine W_sr (WO_one rfl (One_load_own (d := 24) (t := 29) (x := (.tmp 3)) (.agg #[.slice a1 (List.length p0) c1]) kr rfl (ev (.pointer (some ⟨b1, 0, none⟩))) st.tail.head kr ?_))
   refine WO_seg 1 [(25, .string p1)] kr kr ?_
   replace ⟨y3, hx3, hr⟩ := bindS hr
   refine WO_one rfl (One_fn 26 30 #[.agg #[.slice a1 (List.length p0) c1], .string p1] kr rfl ?_)
   refine (revision_Find_ok st r1 hx3).mono ?_
   clear st
   rintro _ w7 ⟨m4, rfl, hle4, st⟩
   refine ⟨_, rfl, ?_⟩
   have hm := Mem.le_trans hm hle4
   have r1 := r1.mono hle4
   refine WO_seg 5 [(9, .string y3.1), (10, .bool y3.2)] kr kr ?_
   refine WO_et rfl (W_seq ?_)
   refine W_sr (WO_seg 2 [(30, .bool (!y3.2))] kr kr ?_)
   refine WO_et rfl (W_cond (!y3.2) kr ?_ ?_)
   ·intro hc
    rw [if_pos hc] at hr
    refine W_sr (WO_seg 1 [(31, .agg #[.slice none (List.length ([] : List (ByteArray × ByteArray))) 0])] kr kr ?_)
    refine WO_one rfl (One_store (t := 29) (x := (.tmp 6)) (y := (.tmp 31)) (v := .agg #[.slice none (List.length ([] : List (ByteArray × ByteArray))) 0]) (c' := #[.slice none (List.length ([] : List (ByteArray × ByteArray))) 0]) kr (ev (.pointer (some ⟨b2, 0, none⟩))) (ev (.agg #[.slice none (List.length ([] : List (ByteArray × ByteArray))) 0])) st kr kr ?_)
    clear st
    intro w8 st
    refine WO_seg 1 [(7, .int .i64 18)] kr kr ?_
    refine WO_et rfl (W_ret ?_)
    refine X_then_ret ?_
    obtain rfl := Option.some.inj hr
    refine X_ret [.cell 6 29, .tmp 7] [.agg #[.slice none (List.length ([] : List (ByteArray × ByteArray))) 0], .int .i64 18] rfl (ResAll.cons (ResAt.blk (v := .agg #[.slice none (List.length ([] : List (ByteArray × ByteArray))) 0]) (o := 0) kr st.head kr) (ResAll.cons (ResAt.tmp kr) ResAll.nil)) ?_
    have st := st.nilroom 46 2
    have st := st.front1
    have st := st.tail
    have st := st.front1
    have st := st.tail
    exact ⟨none, 0, m4, rfl, hm, st, (RepS.nil _ _)⟩
   ·intro hc
    rw [if_neg (not_true hc)] at hr
    refine W_skip ?_
    refine X_then ?_
    refine W_seq ?_
    refine W_sr (WO_one rfl (One_load_own (d := 33) (t := 29) (x := (.tmp 3)) (.agg #[.slice a1 (List.length p0) c1]) kr rfl (ev (.pointer (some ⟨b1, 0, none⟩))) st.tail.head kr ?_))
    refine WO_seg 1 [(34, .string p2)] kr kr ?_
    replace ⟨y4, hx4, hr⟩ := bindS hr
    refine WO_one rfl (One_fn 35 48 #[.agg #[.slice a1 (List.length p0) c1], .string p2] kr rfl ?_)
    refine (revision_at_ok st r1 hx4).mono ?_
    clear st
    rintro _ w9 ⟨m5, rfl, hle5, st⟩
    refine ⟨_, rfl, ?_⟩
    have hm := Mem.le_trans hm hle5
    have r1 := r1.mono hle5
    refine WO_seg 5 [(12, .bool y4.2)] kr kr ?_
    refine WO_et rfl (W_sr ?_)
    refine WO_seg 1 [(38, .bool y4.2)] kr kr ?_
    refine WO_et rfl (W_cond y4.2 kr ?_ ?_)
    ·intro hc
     rw [if_pos hc] at hr
     refine W_sr (WO_seg 1 [(39, .agg #[.slice none (List.length ([] : List (ByteArray × ByteArray))) 0])] kr kr ?_)
     refine WO_one rfl (One_store (t := 29) (x := (.tmp 6)) (y := (.tmp 39)) (v := .agg #[.slice none (List.length ([] : List (ByteArray × ByteArray))) 0]) (c' := #[.slice none (List.length ([] : List (ByteArray × ByteArray))) 0]) kr (ev (.pointer (some ⟨b2, 0, none⟩))) (ev (.agg #[.slice none (List.length ([] : List (ByteArray × ByteArray))) 0])) st kr kr ?_)
     clear st
     intro w10 st
     refine WO_seg 1 [(7, .int .i64 19)] kr kr ?_
     refine WO_et rfl (W_ret ?_)
     refine X_then_ret ?_
     obtain rfl := Option.some.inj hr
     refine X_ret [.cell 6 29, .tmp 7] [.agg #[.slice none (List.length ([] : List (ByteArray × ByteArray))) 0], .int .i64 19] rfl (ResAll.cons (ResAt.blk (v := .agg #[.slice none (List.length ([] : List (ByteArray × ByteArray))) 0]) (o := 0) kr st.head kr) (ResAll.cons (ResAt.tmp kr) ResAll.nil)) ?_
     have st := st.nilroom 46 2
     have st := st.front1
     have st := st.tail
     have st := st.front1
     have st := st.tail
     exact ⟨none, 0, m5, rfl, hm, st, (RepS.nil _ _)⟩
    ·intro hc
     rw [if_neg (not_true hc)] at hr
     refine W_skip ?_
     refine X_then ?_
     refine W_sr (WO_one rfl (One_load_own (d := 41) (t := 29) (x := (.tmp 3)) (.agg #[.slice a1 (List.length p0) c1]) kr rfl (ev (.pointer (some ⟨b1, 0, none⟩))) st.tail.head kr ?_))
     refine WO_seg 1 [(42, .string p1)] kr kr ?_
     replace ⟨y5, hx5, hr⟩ := bindS hr
     refine WO_one rfl (One_fn 43 51 #[.agg #[.slice a1 (List.length p0) c1], .string p1] kr rfl ?_)
     refine (revision_Remove_ok st r1 hx5).mono ?_
     clear st
     rintro _ w11 ⟨a2, c2, m6, rfl, hle6, st, r2⟩
     refine ⟨_, rfl, ?_⟩
     have hm := Mem.le_trans hm hle6
     have r1 := r1.mono hle6
     refine WO_seg 3 [(44, .agg #[.slice a2 (List.length y5.1) c2])] kr kr ?_
     have st := st.front2
     refine WO_one rfl (One_store (t := 29) (x := (.tmp 3)) (y := (.tmp 44)) (v := .agg #[.slice a2 (List.length y5.1) c2]) (c' := #[.slice a2 (List.length y5.1) c2]) kr (ev (.pointer (some ⟨b1, 0, none⟩))) (ev (.agg #[.slice a2 (List.length y5.1) c2])) st kr kr ?_)
     clear st
     intro w12 st
     refine WO_et rfl (W_sr ?_)
     refine WO_one rfl (One_load_own (d := 46) (t := 29) (x := (.tmp 3)) (.agg #[.slice a2 (List.length y5.1) c2]) kr rfl (ev (.pointer (some ⟨b1, 0, none⟩))) st.head kr ?_)
     refine WO_seg 2 [(47, .string p2), (48, .string y3.1)] kr kr ?_
     replace ⟨y6, hx6, hr⟩ := bindS hr
     refine WO_one rfl (One_fn 49 28 #[.agg #[.slice a2 (List.length y5.1) c2], .string p2, .string y3.1] kr rfl ?_)
     refine (revision_Put_ok st r2 hx6).mono ?_
     clear st
     rintro _ w13 ⟨a3, c3, m7, rfl, hle7, st, r3⟩
     refine ⟨_, rfl, ?_⟩
     have hm := Mem.le_trans hm hle7
     have r2 := r2.mono hle7
     refine WO_seg 2 [(50, .agg #[.slice a3 (List.length y6.1) c3]), (51, .int .i64 y6.2)] kr kr ?_
     have st := st.front3
     refine WO_one rfl (One_store (t := 29) (x := (.tmp 6)) (y := (.tmp 50)) (v := .agg #[.slice a3 (List.length y6.1) c3]) (c' := #[.slice a3 (List.length y6.1) c3]) kr (ev (.pointer (some ⟨b2, 0, none⟩))) (ev (.agg #[.slice a3 (List.length y6.1) c3])) st kr kr ?_)
     clear st
     intro w14 st
     refine WO_seg 1 [(7, .int .i64 y6.2)] kr kr ?_
     refine WO_et rfl (W_ret ?_)
     obtain rfl := Option.some.inj hr
     refine X_ret [.cell 6 29, .tmp 7] [.agg #[.slice a3 (List.length y6.1) c3], .int .i64 y6.2] rfl (ResAll.cons (ResAt.blk (v := .agg #[.slice a3 (List.length y6.1) c3]) (o := 0) kr st.head kr) (ResAll.cons (ResAt.tmp kr) ResAll.nil)) ?_
     have st := st.tail
     have st := st.front1
     have st := st.tail
     have st := st.front1
     have st := st.tail
     exact ⟨a3, c3, m7, rfl, hm, st, r3⟩
def slices_Equal_api_File_api_File_L1 (N : Nat) (p0 : List (ByteArray × ByteArray)) (p1 : List (ByteArray × ByteArray)) (s1 : Int) : Option ((Int) ⊕ ((Unit) ⊕ (Bool))) :=
 if (decide (s1 < (List.length p0 : Int))) = true then ((idx p0 s1).bind fun x1 => (idx p1 s1).bind fun x2 => if (!((x1.1.toList == x2.1.toList) && ((x1.2.toList == x2.2.toList) && true))) = true then (some (.inr (.inr (false)))) else (some (.inl (IntKind.wrap .i64 (s1 + 1))))) else (some (.inr (.inl ())))
def slices_Equal_api_File_api_File (N : Nat) (p0 : List (ByteArray × ByteArray)) (p1 : List (ByteArray × ByteArray)) : Option (Bool) :=
 if ((List.length p0 : Int) != (List.length p1 : Int)) = true then (some false) else ((loopM (slices_Equal_api_File_api_File_L1 N p0 p1) N 0).bind fun out1 => (match out1 with | .inl o1 => some true | .inr (z) => some z))
set_option maxHeartbeats 4000000 in
set_option maxRecDepth 100000 in
theorem slices_Equal_api_File_api_File_ok {N : Nat} {m : Mem} {own : List Piece} {w : World} {p0 : List (ByteArray × ByteArray)} {p1 : List (ByteArray × ByteArray)} {a1 : Option Addr} {c1 : Nat} {a2 : Option Addr} {c2 : Nat} {r : Bool} (st : St m (own) w) (r1 : RepS (cPair cStr cStr) m a1 c1 p0) (r2 : RepS (cPair cStr cStr) m a2 c2 p1) (hr : slices_Equal_api_File_api_File N p0 p1 = some r) : Calls Tryz.prog 52 #[.slice a1 (List.length p0) c1, .slice a2 (List.length p1) c2] w fun e w' => ∃ (m' : Mem), e = .returned (.bool r) ∧ m.le m' ∧ St m' (own) w' := by
 unfold slices_Equal_api_File_api_File at hr
 have hm := m.le_refl
 refine W_calls Tryz.func52 rfl Tryz.ntmps52 [(0, .slice a1 (List.length p0) c1), (1, .slice a2 (List.length p1) c2)] kr rfl ?_
 refine W_sr (WO_seg 1 [] kr kr ?_)
 refine WO_et rfl (W_seq ?_)
 refine W_sr (WO_seg 5 [(10, .bool ((List.length p0 : Int) != (List.length p1 : Int)))] kr kr ?_)
 refine WO_et rfl (W_cond ((List.length p0 : Int) != (List.length p1 : Int)) kr ?_ ?_)
 ·intro hc
  rw [if_pos hc] at hr
  refine W_sr (WO_seg 1 [(4, .bool false)] kr kr ?_)
  refine WO_et rfl (W_ret ?_)
  refine X_then_ret ?_
  obtain rfl := Option.some.inj hr
  refine X_ret [.tmp 4] [.bool false] rfl (ResAll.cons (ResAt.tmp kr) ResAll.nil) ?_
  exact ⟨m, rfl, hm, st⟩
 ·intro hc
  rw [if_neg (not_true hc)] at hr
  refine W_skip ?_
  refine X_then ?_
  refine W_seq ?_
  refine W_sr (WO_seg 3 [(12, .int .i64 (List.length p0 : Int)), (13, .int .i64 0)] kr kr ?_)
  refine WO_et rfl (W_block ?_)
  replace ⟨out1, hr, hrKu1⟩ := bindS hr
  refine W_cut (.exit 0) (fun L' w' => ∃ (o1 : Unit) (m1 : Mem), (.inl o1) = out1 ∧ L' = [] ∧ m.le m1 ∧ St m1 (own) w') ?_ ?_
  ·clear hr st
   rintro _ w1 ⟨o1, m1, rfl, rfl, hm, st⟩
   have hr := hrKu1
   clear hrKu1
   dsimp only at hr
   refine X_block_eq ?_
   refine X_then ?_
   refine W_sr (WO_seg 1 [(4, .bool true)] kr kr ?_)
   refine WO_et rfl (W_ret ?_)
   obtain rfl := Option.some.inj hr
   refine X_ret [.tmp 4] [.bool true] rfl (ResAll.cons (ResAt.tmp kr) ResAll.nil) ?_
   exact ⟨m1, rfl, hm, st⟩
  intro K0_u1
  refine W_env _ kr (W_loop (fun k1 L' w' => ∃ (s1 : Int) (m2 : Mem), loopM (slices_Equal_api_File_api_File_L1 N p0 p1) k1 s1 = some out1 ∧ L' = [(0, .slice a1 (List.length p0) c1), (1, .slice a2 (List.length p1) c2), (12, .int .i64 (List.length p0 : Int)), (13, .int .i64 s1)] ∧ m.le m2 ∧ St m2 (own) w' ∧ RepS (cPair cStr cStr) m2 a1 c1 p0 ∧ RepS (cPair cStr cStr) m2 a2 c2 p1) N ⟨0, m, hr, rfl, hm, st, r1, r2⟩ ?_)
  clear st hr
  rintro k1 _ w2 ⟨s1, m2, hL, rfl, hm, st, r1, r2⟩
  rcases k1 with _ | k1
  ·exact loopM_zero hL
  ·obtain ⟨qu1, hr, hSu1, hBu1⟩ := loopM_succ hL
   clear hL
   unfold slices_Equal_api_File_api_File_L1 at hr
   refine W_sr (WO_seg 1 [(14, .bool (decide (s1 < (List.length p0 : Int))))] kr kr ?_)
   refine WO_et rfl (W_seq ?_)
   refine W_cond (decide (s1 < (List.length p0 : Int))) kr ?_ ?_
   ·intro hc
    rw [if_pos hc] at hr
    refine W_skip ?_
    refine X_then ?_
    refine W_seq ?_
    refine W_block ?_
    refine W_sr (WO_seg 2 [(5, .int .i64 s1)] kr kr ?_)
    refine WO_et rfl (W_seq ?_)
    refine W_draw [(9, fun w' => Inv m2 w' ∧ True)] kr st ?_
    clear st
    intro w3 _ st
    have hmS1 := m2.le_refl
    refine ⟨⟨.inr ⟨Inv.anti st.inv hmS1, trivial⟩, trivial⟩, ?_⟩
    refine WA_pure 0 16 (.slice a1 (List.length p0) c1) kr rfl kr (.head _) (QP_then (QP_block (QP_then (QP_then (QP_block (QP_then QP_body)))))) ?_
    refine WA_pure 1 17 (.int .i64 s1) kr rfl kr (.head _) (QP_then (QP_block (QP_then (QP_then (QP_block (QP_then QP_body)))))) ?_
    replace ⟨x1, hx1, hr⟩ := bindS hr
    refine WA_index (t := 27) (e := 46) (x := (.tmp 16)) (y := (.tmp 17)) 2 18 (cPair cStr cStr) kr rfl kr (.head _) (QP_then (QP_block (QP_then (QP_then (QP_block (QP_then QP_body)))))) (ev (.slice a1 (List.length p0) c1)) (ev (.int .i64 s1)) kr r1 hx1 ?_
    rintro b1 f1 cs1 ⟨_, _, rfl, rfl, rfl⟩ hq1
    refine WA_load_row (t := 46) (x := (.tmp 18)) 3 19 (.agg #[.string x1.1, .string x1.2]) kr rfl kr (.head _) (QP_then (QP_block (QP_then (QP_then (QP_block (QP_then QP_body)))))) (fun _ h => h.1) (ev (.pointer (some ⟨b1, f1, none⟩))) hq1 kr ?_
    refine WA_pure 4 20 (.slice a2 (List.length p1) c2) kr rfl kr (.head _) (QP_then (QP_block (QP_then (QP_then (QP_block (QP_then QP_body)))))) ?_
    refine WA_pure 5 21 (.int .i64 s1) kr rfl kr (.head _) (QP_then (QP_block (QP_then (QP_then (QP_block (QP_then QP_body)))))) ?_
    replace ⟨x2, hx2, hr⟩ := bindS hr
    refine WA_index (t := 27) (e := 46) (x := (.tmp 20)) (y := (.tmp 21)) 6 22 (cPair cStr cStr) kr rfl kr (.head _) (QP_then (QP_block (QP_then (QP_then (QP_block (QP_then QP_body)))))) (ev (.slice a2 (List.length p1) c2)) (ev (.int .i64 s1)) kr r2 hx2 ?_
    rintro b2 f2 cs2 ⟨_, _, rfl, rfl, rfl⟩ hq2
    refine WA_load_row (t := 46) (x := (.tmp 22)) 7 23 (.agg #[.string x2.1, .string x2.2]) kr rfl kr (.head _) (QP_then (QP_block (QP_then (QP_then (QP_block (QP_then QP_body)))))) (fun _ h => h.1) (ev (.pointer (some ⟨b2, f2, none⟩))) hq2 kr ?_
    refine WA_one 8 kr  (One_neAgg (d := 24) (t := 46) (t2 := 46) (x := (.tmp 19)) (y := (.tmp 23)) (xs := #[.string x1.1, .string x1.2]) (ys := #[.string x2.1, .string x2.2]) ((x1.1.toList == x2.1.toList) && ((x1.2.toList == x2.2.toList) && true)) kr rfl (ev (.agg #[.string x1.1, .string x1.2])) (ev (.agg #[.string x2.1, .string x2.2])) kr kr kr ?_)
    refine ⟨⟨.inr ⟨Inv.anti st.inv hmS1, trivial⟩, trivial⟩, ?_⟩
    refine WA_done kr ?_
    refine X_then ?_
    refine W_cond (!((x1.1.toList == x2.1.toList) && ((x1.2.toList == x2.2.toList) && true))) kr ?_ ?_
    ·intro hc
     rw [if_pos hc] at hr
     refine W_sr (WO_seg 1 [(4, .bool false)] kr kr ?_)
     refine WO_et rfl (W_ret ?_)
     refine X_block_ret ?_
     refine X_then_ret ?_
     obtain rfl := Option.some.inj hr
     have ho := hBu1 _ rfl
     subst ho
     have hr := hrKu1
     dsimp only at hr
     refine X_then_ret ?_
     refine X_block_ret ?_
     refine X_then_ret ?_
     obtain rfl := Option.some.inj hr
     refine X_ret [.tmp 4] [.bool false] rfl (ResAll.cons (ResAt.tmp kr) ResAll.nil) ?_
     exact ⟨m2, rfl, hm, st⟩
    ·intro hc
     rw [if_neg (not_true hc)] at hr
     refine W_skip ?_
     refine X_block ?_
     refine X_then ?_
     refine W_region ?_
     refine WO_seg 2 [(13, .int .i64 (IntKind.wrap .i64 (s1 + 1)))] kr kr ?_
     refine WO_end rfl ?_
     obtain rfl := Option.some.inj hr
     have hL := hSu1 _ rfl
     exact X_env _ kr (X_round k1 (Nat.lt_succ_self _) ⟨IntKind.wrap .i64 (s1 + 1), m2, hL, rfl, hm, st, r1, r2⟩)
   ·intro hc
    rw [if_neg (not_true hc)] at hr
    refine W_exit ?_
    refine X_then_exit ?_
    obtain rfl := Option.some.inj hr
    have ho := hBu1 _ rfl
    refine X_then_exit ?_
    exact X_env _ kr (K0_u1 _ _ ⟨(), m2, ho, rfl, hm, st⟩)
def revision_Same (N : Nat) (p0 : (List (ByteArray × ByteArray))) (p1 : (List (ByteArray × ByteArray))) : Option (Bool) :=
 (slices_Equal_api_File_api_File N p0 p1).bind fun y1 => some y1
set_option maxHeartbeats 4000000 in
set_option maxRecDepth 100000 in
theorem revision_Same_ok {N : Nat} {m : Mem} {own : List Piece} {w : World} {p0 : (List (ByteArray × ByteArray))} {p1 : (List (ByteArray × ByteArray))} {a1 : Option Addr} {c1 : Nat} {a2 : Option Addr} {c2 : Nat} {r : Bool} (st : St m (own) w) (r1 : RepS (cPair cStr cStr) m a1 c1 p0) (r2 : RepS (cPair cStr cStr) m a2 c2 p1) (hr : revision_Same N p0 p1 = some r) : Calls Tryz.prog 31 #[.agg #[.slice a1 (List.length p0) c1], .agg #[.slice a2 (List.length p1) c2]] w fun e w' => ∃ (m' : Mem), e = .returned (.bool r) ∧ m.le m' ∧ St m' (own) w' := by
 unfold revision_Same at hr
 have hm := m.le_refl
 refine W_calls Tryz.func31 rfl Tryz.ntmps31 [(0, .agg #[.slice a1 (List.length p0) c1]), (1, .agg #[.slice a2 (List.length p1) c2])] kr rfl ?_
 refine W_sr (WO_one rfl (One_box (d := 2) (e := 29) (x := (.tmp 0)) (.agg #[.slice a1 (List.length p0) c1]) kr rfl kr st ?_))
 clear st
 intro b1 m1 w1 hle1 st hb1
 have hm := Mem.le_trans hm hle1
 have r1 := r1.mono hle1
 have r2 := r2.mono hle1
 refine WO_one rfl (One_box (d := 3) (e := 29) (x := (.tmp 1)) (.agg #[.slice a2 (List.length p1) c2]) kr rfl kr st ?_)
 clear st
 intro b2 m2 w2 hle2 st hb2
 have hm := Mem.le_trans hm hle2
 have r1 := r1.mono hle2
 have r2 := r2.mono hle2
 have hb1 := hb1.mono hle2
 refine WO_seg 1 [] kr kr ?_
 refine WO_et rfl (W_sr ?_)
 refine WO_seg 1 [(5, .pointer (some ⟨b1, 0, none⟩))] kr kr ?_
 refine WO_one rfl (One_load_row (d := 6) (t := 27) (x := (.tmp 5)) (.slice a1 (List.length p0) c1) kr rfl (ev (.pointer (some ⟨b1, 0, none⟩))) st hb1 kr ?_)
 refine WO_seg 1 [(7, .pointer (some ⟨b2, 0, none⟩))] kr kr ?_
 refine WO_one rfl (One_load_row (d := 8) (t := 27) (x := (.tmp 7)) (.slice a2 (List.length p1) c2) kr rfl (ev (.pointer (some ⟨b2, 0, none⟩))) st hb2 kr ?_)
 replace ⟨y1, hx1, hr⟩ := bindS hr
 refine WO_one rfl (One_fn 9 52 #[.slice a1 (List.length p0) c1, .slice a2 (List.length p1) c2] kr rfl ?_)
 refine (slices_Equal_api_File_api_File_ok st r1 r2 hx1).mono ?_
 clear st
 rintro _ w3 ⟨m3, rfl, hle3, st⟩
 refine ⟨_, rfl, ?_⟩
 have hm := Mem.le_trans hm hle3
 have hb1 := hb1.mono hle3
 have r1 := r1.mono hle3
 have hb2 := hb2.mono hle3
 have r2 := r2.mono hle3
 refine WO_seg 1 [(4, .bool y1)] kr kr ?_
 refine WO_et rfl (W_ret ?_)
 obtain rfl := Option.some.inj hr
 refine X_ret [.tmp 4] [.bool y1] rfl (ResAll.cons (ResAt.tmp kr) ResAll.nil) ?_
 exact ⟨m3, rfl, hm, st⟩
def internal_stringslite_HasSuffix (N : Nat) (p0 : ByteArray) (p1 : ByteArray) : Option (Bool) :=
 (if (decide ((ByteArray.size p0 : Int) ≥ (ByteArray.size p1 : Int))) = true then ((subB p0 (IntKind.wrap .i64 ((ByteArray.size p0 : Int) - (ByteArray.size p1 : Int))) (ByteArray.size p0 : Int)).bind fun s1 => some (s1.toList == p1.toList)) else (some false) : Option (Bool)).bind fun o1 => some o1
set_option maxHeartbeats 4000000 in
set_option maxRecDepth 100000 in
theorem internal_stringslite_HasSuffix_ok {N : Nat} {m : Mem} {own : List Piece} {w : World} {p0 : ByteArray} {p1 : ByteArray} {r : Bool} (st : St m (own) w) (hr : internal_stringslite_HasSuffix N p0 p1 = some r) : Calls Tryz.prog 71 #[.string p0, .string p1] w fun e w' => ∃ (m' : Mem), e = .returned (.bool r) ∧ m.le m' ∧ St m' (own) w' := by
 unfold internal_stringslite_HasSuffix at hr
 have hm := m.le_refl
 refine W_calls Tryz.func71 rfl Tryz.ntmps71 [(0, .string p0), (1, .string p1)] kr rfl ?_
 refine W_sr (WO_seg 1 [] kr kr ?_)
 refine WO_et rfl (W_sr ?_)
 replace ⟨o1, hr, hrK⟩ := bindS hr
 refine WO_cut (j := 17) (fun L' w' => ∃ (m1 : Mem), L' = [(4, .bool o1)] ∧ m.le m1 ∧ St m1 (own) w') ?_ ?_
 ·clear hr st
  have hr := hrK
  clear hrK
  rintro _ w1 ⟨m1, rfl, hm, st⟩
  refine WO_et rfl (W_ret ?_)
  obtain rfl := Option.some.inj hr
  refine X_ret [.tmp 4] [.bool o1] rfl (ResAll.cons (ResAt.tmp kr) ResAll.nil) ?_
  exact ⟨m1, rfl, hm, st⟩
 ·intro K
  clear hrK
  refine WO_seg 6 [(10, .bool (decide ((ByteArray.size p0 : Int) ≥ (ByteArray.size p1 : Int))))] kr kr ?_
  rcases bcases (decide ((ByteArray.size p0 : Int) ≥ (ByteArray.size p1 : Int))) with hc | hc
  ·rw [if_pos hc] at hr
   refine WO_fact (t := 10) (b := true) (decide ((ByteArray.size p0 : Int) ≥ (ByteArray.size p1 : Int))) kr hc ?_
   refine WO_seg 6 [(11, .string p0), (16, .int .i64 (IntKind.wrap .i64 ((ByteArray.size p0 : Int) - (ByteArray.size p1 : Int))))] kr kr ?_
   replace ⟨s1, hx1, hr⟩ := bindS hr
   refine WO_one rfl (One_strSlice (d := 17) (t := 9) (x := (.tmp 11)) (lo := (some (.tmp 16))) (hi := none) kr rfl (ev (.string p0)) kr (.inr ⟨_, _, rfl, (ev (.int .i64 (IntKind.wrap .i64 ((ByteArray.size p0 : Int) - (ByteArray.size p1 : Int)))))⟩) (.inl ⟨rfl, rfl⟩) hx1 ?_)
   refine WO_seg 4 [(4, .bool (s1.toList == p1.toList))] kr kr ?_
   obtain rfl := Option.some.inj hr
   exact WO_env _ kr (K _ _ ⟨m, rfl, hm, st⟩)
  ·rw [if_neg (not_true hc)] at hr
   refine WO_fact (t := 10) (b := false) (decide ((ByteArray.size p0 : Int) ≥ (ByteArray.size p1 : Int))) kr hc ?_
   refine WO_seg 11 [(4, .bool false)] kr kr ?_
   obtain rfl := Option.some.inj hr
   exact WO_env _ kr (K _ _ ⟨m, rfl, hm, st⟩)
def strings_HasSuffix (N : Nat) (p0 : ByteArray) (p1 : ByteArray) : Option (Bool) :=
 (internal_stringslite_HasSuffix N p0 p1).bind fun y1 => some y1
set_option maxHeartbeats 4000000 in
set_option maxRecDepth 100000 in
theorem strings_HasSuffix_ok {N : Nat} {m : Mem} {own : List Piece} {w : World} {p0 : ByteArray} {p1 : ByteArray} {r : Bool} (st : St m (own) w) (hr : strings_HasSuffix N p0 p1 = some r) : Calls Tryz.prog 53 #[.string p0, .string p1] w fun e w' => ∃ (m' : Mem), e = .returned (.bool r) ∧ m.le m' ∧ St m' (own) w' := by
 unfold strings_HasSuffix at hr
 have hm := m.le_refl
 refine W_calls Tryz.func53 rfl Tryz.ntmps53 [(0, .string p0), (1, .string p1)] kr rfl ?_
 refine W_sr (WO_seg 1 [] kr kr ?_)
 refine WO_et rfl (W_sr ?_)
 refine WO_seg 2 [(5, .string p0), (6, .string p1)] kr kr ?_
 replace ⟨y1, hx1, hr⟩ := bindS hr
 refine WO_one rfl (One_fn 7 71 #[.string p0, .string p1] kr rfl ?_)
 refine (internal_stringslite_HasSuffix_ok st hx1).mono ?_
 clear st
 rintro _ w1 ⟨m1, rfl, hle1, st⟩
 refine ⟨_, rfl, ?_⟩
 have hm := Mem.le_trans hm hle1
 refine WO_seg 1 [(4, .bool y1)] kr kr ?_
 refine WO_et rfl (W_ret ?_)
 obtain rfl := Option.some.inj hr
 refine X_ret [.tmp 4] [.bool y1] rfl (ResAll.cons (ResAt.tmp kr) ResAll.nil) ?_
 exact ⟨m1, rfl, hm, st⟩
def revision_IsSource (N : Nat) (p0 : ByteArray) : Option (Bool) :=
 ((lexer_Path N p0).bind fun y1 => if y1 = true then (if (decide ((ByteArray.size p0 : Int) > 4)) = true then ((strings_HasSuffix N p0 (⟨#[46, 115, 114, 99]⟩ : ByteArray)).bind fun y2 => some y2) else (some false)) else (some false) : Option (Bool)).bind fun o1 => some o1
set_option maxHeartbeats 4000000 in
set_option maxRecDepth 100000 in
theorem revision_IsSource_ok {N : Nat} {m : Mem} {own : List Piece} {w : World} {p0 : ByteArray} {r : Bool} (st : St m (own) w) (hr : revision_IsSource N p0 = some r) : Calls Tryz.prog 32 #[.string p0] w fun e w' => ∃ (m' : Mem), e = .returned (.bool r) ∧ m.le m' ∧ St m' (own) w' := by
 unfold revision_IsSource at hr
 have hm := m.le_refl
 refine W_calls Tryz.func32 rfl Tryz.ntmps32 [(0, .string p0)] kr rfl ?_
 refine W_sr (WO_seg 1 [] kr kr ?_)
 refine WO_et rfl (W_sr ?_)
 replace ⟨o1, hr, hrK⟩ := bindS hr
 refine WO_cut (j := 12) (fun L' w' => ∃ (m1 : Mem), L' = [(2, .bool o1)] ∧ m.le m1 ∧ St m1 (own) w') ?_ ?_
 ·clear hr st
  have hr := hrK
  clear hrK
  rintro _ w1 ⟨m1, rfl, hm, st⟩
  refine WO_et rfl (W_ret ?_)
  obtain rfl := Option.some.inj hr
  refine X_ret [.tmp 2] [.bool o1] rfl (ResAll.cons (ResAt.tmp kr) ResAll.nil) ?_
  exact ⟨m1, rfl, hm, st⟩
 ·intro K
  clear hrK
  refine WO_seg 1 [(3, .string p0)] kr kr ?_
  replace ⟨y1, hx1, hr⟩ := bindS hr
  refine WO_one rfl (One_fn 4 38 #[.string p0] kr rfl ?_)
  refine (lexer_Path_ok st hx1).mono ?_
  clear st
  rintro _ w2 ⟨m2, rfl, hle1, st⟩
  refine ⟨_, rfl, ?_⟩
  have hm := Mem.le_trans hm hle1
  refine WO_seg 1 [(5, .bool y1)] kr kr ?_
  rcases bcases y1 with hc | hc
  ·rw [if_pos hc] at hr
   refine WO_fact (t := 5) (b := true) y1 kr hc ?_
   refine WO_seg 5 [(10, .bool (decide ((ByteArray.size p0 : Int) > 4)))] kr kr ?_
   rcases bcases (decide ((ByteArray.size p0 : Int) > 4)) with hc | hc
   ·rw [if_pos hc] at hr
    refine WO_fact (t := 10) (b := true) (decide ((ByteArray.size p0 : Int) > 4)) kr hc ?_
    refine WO_seg 1 [(11, .string p0)] kr kr ?_
    replace ⟨y2, hx2, hr⟩ := bindS hr
    refine WO_one rfl (One_fn 12 53 #[.string p0, .string (⟨#[46, 115, 114, 99]⟩ : ByteArray)] kr rfl ?_)
    refine (strings_HasSuffix_ok st hx2).mono ?_
    clear st
    rintro _ w3 ⟨m3, rfl, hle2, st⟩
    refine ⟨_, rfl, ?_⟩
    have hm := Mem.le_trans hm hle2
    refine WO_seg 2 [(2, .bool y2)] kr kr ?_
    obtain rfl := Option.some.inj hr
    exact WO_env _ kr (K _ _ ⟨m3, rfl, hm, st⟩)
   ·rw [if_neg (not_true hc)] at hr
    refine WO_fact (t := 10) (b := false) (decide ((ByteArray.size p0 : Int) > 4)) kr hc ?_
    refine WO_seg 4 [(2, .bool false)] kr kr ?_
    obtain rfl := Option.some.inj hr
    exact WO_env _ kr (K _ _ ⟨m2, rfl, hm, st⟩)
  ·rw [if_neg (not_true hc)] at hr
   refine WO_fact (t := 5) (b := false) y1 kr hc ?_
   refine WO_seg 9 [(2, .bool false)] kr kr ?_
   obtain rfl := Option.some.inj hr
   exact WO_env _ kr (K _ _ ⟨m2, rfl, hm, st⟩)
def testgatelaw07_awake (N : Nat) : Option (Bool) :=
 (revision_Put N ([] : List (ByteArray × ByteArray)) (⟨#[97, 46, 115, 114, 99]⟩ : ByteArray) (⟨#[120]⟩ : ByteArray)).bind fun y1 => (revision_Move N y1.1 (⟨#[97, 46, 115, 114, 99]⟩ : ByteArray) (⟨#[98, 46, 115, 114, 99]⟩ : ByteArray)).bind fun y2 => (revision_Find N y2.1 (⟨#[98, 46, 115, 114, 99]⟩ : ByteArray)).bind fun y3 => (revision_Encode N y2.1).bind fun y4 => (revision_Decode N y4.1).bind fun y5 => (if (y1.2 == 0) = true then (if (y2.2 == 0) = true then (if (y4.2 == 0) = true then (if (y5.2 == 0) = true then (if y3.2 = true then (if (y3.1.toList == (⟨#[120]⟩ : ByteArray).toList) = true then ((revision_Same N y2.1 y5.1).bind fun y6 => if y6 = true then ((revision_IsSource N (⟨#[98, 46, 115, 114, 99]⟩ : ByteArray)).bind fun y7 => if y7 = true then ((revision_IsSource N (⟨#[46, 115, 114, 99]⟩ : ByteArray)).bind fun y8 => some (!y8)) else (some false)) else (some false)) else (some false)) else (some false)) else (some false)) else (some false)) else (some false)) else (some false) : Option (Bool)).bind fun o1 => some o1
set_option maxHeartbeats 4000000 in
set_option maxRecDepth 100000 in
theorem testgatelaw07_awake_ok {N : Nat} {m : Mem} {own : List Piece} {w : World} {r : Bool} (st : St m (own) w) (hr : testgatelaw07_awake N = some r) : Calls Tryz.prog 10 #[] w fun e w' => ∃ (m' : Mem), e = .returned (.bool r) ∧ m.le m' ∧ St m' (own) w' := by
 unfold testgatelaw07_awake at hr
 have hm := m.le_refl
 refine W_calls Tryz.func10 rfl Tryz.ntmps10 [] kr rfl ?_
 refine W_sr (WO_seg 1 [] kr kr ?_)
 refine WO_et rfl (W_sr ?_)
 refine WO_seg 1 [(11, .agg #[.slice none (List.length ([] : List (ByteArray × ByteArray))) 0])] kr kr ?_
 replace ⟨y1, hx1, hr⟩ := bindS hr
 refine WO_one rfl (One_fn 12 28 #[.agg #[.slice none (List.length ([] : List (ByteArray × ByteArray))) 0], .string (⟨#[97, 46, 115, 114, 99]⟩ : ByteArray), .string (⟨#[120]⟩ : ByteArray)] kr rfl ?_)
 refine (revision_Put_ok st (RepS.nil _ _) hx1).mono ?_
 clear st
 rintro _ w1 ⟨a1, c1, m1, rfl, hle1, st, r1⟩
 refine ⟨_, rfl, ?_⟩
 have hm := Mem.le_trans hm hle1
 refine WO_seg 3 [(13, .agg #[.slice a1 (List.length y1.1) c1]), (14, .int .i64 y1.2)] kr kr ?_
 refine WO_one rfl (One_alloc (d := 1) (e := 29) (.agg #[.slice none 0 0]) kr rfl kr st ?_)
 clear st
 intro b1 w2 st
 refine WO_one rfl (One_store (t := 29) (x := (.tmp 1)) (y := (.tmp 13)) (v := .agg #[.slice a1 (List.length y1.1) c1]) (c' := #[.slice a1 (List.length y1.1) c1]) kr (ev (.pointer (some ⟨b1, 0, none⟩))) (ev (.agg #[.slice a1 (List.length y1.1) c1])) st kr kr ?_)
 clear st
 intro w3 st
 refine WO_seg 1 [(2, .int .i64 y1.2)] kr kr ?_
 refine WO_et rfl (W_sr ?_)
 refine WO_one rfl (One_load_own (d := 16) (t := 29) (x := (.tmp 1)) (.agg #[.slice a1 (List.length y1.1) c1]) kr rfl (ev (.pointer (some ⟨b1, 0, none⟩))) st.head kr ?_)
 replace ⟨y2, hx2, hr⟩ := bindS hr
 refine WO_one rfl (One_fn 17 29 #[.agg #[.slice a1 (List.length y1.1) c1], .string (⟨#[97, 46, 115, 114, 99]⟩ : ByteArray), .string (⟨#[98, 46, 115, 114, 99]⟩ : ByteArray)] kr rfl ?_)
 refine (revision_Move_ok st r1 hx2).mono ?_
 clear st
 rintro _ w4 ⟨a2, c2, m2, rfl, hle2, st, r2⟩
 refine ⟨_, rfl, ?_⟩
 have hm := Mem.le_trans hm hle2
 have r1 := r1.mono hle2
 refine WO_seg 3 [(18, .agg #[.slice a2 (List.length y2.1) c2]), (19, .int .i64 y2.2)] kr kr ?_
 have st := st.front1
 refine WO_one rfl (One_store (t := 29) (x := (.tmp 1)) (y := (.tmp 18)) (v := .agg #[.slice a2 (List.length y2.1) c2]) (c' := #[.slice a2 (List.length y2.1) c2]) kr (ev (.pointer (some ⟨b1, 0, none⟩))) (ev (.agg #[.slice a2 (List.length y2.1) c2])) st kr kr ?_)
 clear st
 intro w5 st
 refine WO_seg 1 [(3, .int .i64 y2.2)] kr kr ?_
 refine WO_end rfl ?_
 have st := st.front2
 have st := st.tail
 refine X_then ?_
 refine W_sr (WO_one rfl (One_load_own (d := 21) (t := 29) (x := (.tmp 1)) (.agg #[.slice a2 (List.length y2.1) c2]) kr rfl (ev (.pointer (some ⟨b1, 0, none⟩))) st.head kr ?_))
 replace ⟨y3, hx3, hr⟩ := bindS hr
 refine WO_one rfl (One_fn 22 30 #[.agg #[.slice a2 (List.length y2.1) c2], .string (⟨#[98, 46, 115, 114, 99]⟩ : ByteArray)] kr rfl ?_)
 refine (revision_Find_ok st r2 hx3).mono ?_
 clear st
 rintro _ w6 ⟨m3, rfl, hle3, st⟩
 refine ⟨_, rfl, ?_⟩
 have hm := Mem.le_trans hm hle3
 have r2 := r2.mono hle3
 refine WO_seg 5 [(4, .string y3.1), (5, .bool y3.2)] kr kr ?_
 refine WO_et rfl (W_sr ?_)
 refine WO_one rfl (One_load_own (d := 26) (t := 29) (x := (.tmp 1)) (.agg #[.slice a2 (List.length y2.1) c2]) kr rfl (ev (.pointer (some ⟨b1, 0, none⟩))) st.head kr ?_)
 replace ⟨y4, hx4, hr⟩ := bindS hr
 refine WO_one rfl (One_fn 27 5 #[.agg #[.slice a2 (List.length y2.1) c2]] kr rfl ?_)
 refine (revision_Encode_ok st r2 hx4).mono ?_
 clear st
 rintro _ w7 ⟨a3, c3, m4, rfl, hle4, st, r3⟩
 refine ⟨_, rfl, ?_⟩
 have hm := Mem.le_trans hm hle4
 have r2 := r2.mono hle4
 refine WO_seg 5 [(6, .slice a3 (List.length y4.1) c3), (7, .int .i64 y4.2)] kr kr ?_
 refine WO_et rfl (W_sr ?_)
 refine WO_seg 1 [(31, .slice a3 (List.length y4.1) c3)] kr kr ?_
 replace ⟨y5, hx5, hr⟩ := bindS hr
 refine WO_one rfl (One_fn 32 25 #[.slice a3 (List.length y4.1) c3] kr rfl ?_)
 refine (revision_Decode_ok st r3 hx5).mono ?_
 clear st
 rintro _ w8 ⟨a4, c4, m5, rfl, hle5, st, r4⟩
 refine ⟨_, rfl, ?_⟩
 have hm := Mem.le_trans hm hle5
 have r3 := r3.mono hle5
 have r2 := r2.mono hle5
 refine WO_seg 3 [(33, .agg #[.slice a4 (List.length y5.1) c4]), (34, .int .i64 y5.2)] kr kr ?_
 refine WO_one rfl (One_alloc (d := 8) (e := 29) (.agg #[.slice none 0 0]) kr rfl kr st ?_)
 clear st
 intro b2 w9 st
 refine WO_one rfl (One_store (t := 29) (x := (.tmp 8)) (y := (.tmp 33)) (v := .agg #[.slice a4 (List.length y5.1) c4]) (c' := #[.slice a4 (List.length y5.1) c4]) kr (ev (.pointer (some ⟨b2, 0, none⟩))) (ev (.agg #[.slice a4 (List.length y5.1) c4])) st kr kr ?_)
 clear st
 intro w10 st
 refine WO_seg 1 [(9, .int .i64 y5.2)] kr kr ?_
 refine WO_end rfl ?_
 have st := st.front2
 have st := st.tail
 refine X_then ?_
 refine W_sr ?_
 replace ⟨o1, hr, hrK⟩ := bindS hr
 refine WO_cut (j := 34) (fun L' w' => ∃ (m6 : Mem), L' = [(0, .bool o1)] ∧ m.le m6 ∧ St m6 (.blk b2 (.cells #[.slice a4 (List.length y5.1) c4] 29 (0, 0)) :: .blk b1 (.cells #[.slice a2 (List.length y2.1) c2] 29 (0, 0)) :: .room a4 (List.length y5.1) c4 46 2 :: .room a2 (List.length y2.1) c2 46 2 :: own) w' ∧ RepS (cPair cStr cStr) m6 a4 c4 y5.1 ∧ RepS (cPair cStr cStr) m6 a2 c2 y2.1) ?_ ?_
 ·clear hr st
  have hr := hrK
  clear hrK
  rintro _ w11 ⟨m6, rfl, hm, st, r4, r2⟩
  refine WO_et rfl (W_ret ?_)
  obtain rfl := Option.some.inj hr
  refine X_ret [.tmp 0] [.bool o1] rfl (ResAll.cons (ResAt.tmp kr) ResAll.nil) ?_
  have st := st.tail
  have st := st.tail
  have st := st.tail
  have st := st.tail
  exact ⟨m6, rfl, hm, st⟩
 ·intro K
  clear hrK
  refine WO_seg 3 [(37, .bool (y1.2 == 0))] kr kr ?_
  rcases bcases (y1.2 == 0) with hc | hc
  ·rw [if_pos hc] at hr
   refine WO_fact (t := 37) (b := true) (y1.2 == 0) kr hc ?_
   refine WO_seg 4 [(41, .bool (y2.2 == 0))] kr kr ?_
   rcases bcases (y2.2 == 0) with hc | hc
   ·rw [if_pos hc] at hr
    refine WO_fact (t := 41) (b := true) (y2.2 == 0) kr hc ?_
    refine WO_seg 4 [(45, .bool (y4.2 == 0))] kr kr ?_
    rcases bcases (y4.2 == 0) with hc | hc
    ·rw [if_pos hc] at hr
     refine WO_fact (t := 45) (b := true) (y4.2 == 0) kr hc ?_
     refine WO_seg 4 [(49, .bool (y5.2 == 0))] kr kr ?_
     rcases bcases (y5.2 == 0) with hc | hc
     ·rw [if_pos hc] at hr
      refine WO_fact (t := 49) (b := true) (y5.2 == 0) kr hc ?_
      refine WO_seg 3 [(52, .bool y3.2)] kr kr ?_
      rcases bcases y3.2 with hc | hc
      ·rw [if_pos hc] at hr
       refine WO_fact (t := 52) (b := true) y3.2 kr hc ?_
       refine WO_seg 4 [(56, .bool (y3.1.toList == (⟨#[120]⟩ : ByteArray).toList))] kr kr ?_
       rcases bcases (y3.1.toList == (⟨#[120]⟩ : ByteArray).toList) with hc | hc
       ·rw [if_pos hc] at hr
        refine WO_fact (t := 56) (b := true) (y3.1.toList == (⟨#[120]⟩ : ByteArray).toList) kr hc ?_
        refine WO_one rfl (One_load_own (d := 57) (t := 29) (x := (.tmp 1)) (.agg #[.slice a2 (List.length y2.1) c2]) kr rfl (ev (.pointer (some ⟨b1, 0, none⟩))) st.tail.tail.head kr ?_)
        refine WO_one rfl (One_load_own (d := 58) (t := 29) (x := (.tmp 8)) (.agg #[.slice a4 (List.length y5.1) c4]) kr rfl (ev (.pointer (some ⟨b2, 0, none⟩))) st.head kr ?_)
        replace ⟨y6, hx6, hr⟩ := bindS hr
        refine WO_one rfl (One_fn 59 31 #[.agg #[.slice a2 (List.length y2.1) c2], .agg #[.slice a4 (List.length y5.1) c4]] kr rfl ?_)
        refine (revision_Same_ok st r2 r4 hx6).mono ?_
        clear st
        rintro _ w12 ⟨m7, rfl, hle6, st⟩
        refine ⟨_, rfl, ?_⟩
        have hm := Mem.le_trans hm hle6
        have r2 := r2.mono hle6
        have r4 := r4.mono hle6
        refine WO_seg 2 [(61, .bool y6)] kr kr ?_
        rcases bcases y6 with hc | hc
        ·rw [if_pos hc] at hr
         refine WO_fact (t := 61) (b := true) y6 kr hc ?_
         replace ⟨y7, hx7, hr⟩ := bindS hr
         refine WO_one rfl (One_fn 62 32 #[.string (⟨#[98, 46, 115, 114, 99]⟩ : ByteArray)] kr rfl ?_)
         refine (revision_IsSource_ok st hx7).mono ?_
         clear st
         rintro _ w13 ⟨m8, rfl, hle7, st⟩
         refine ⟨_, rfl, ?_⟩
         have hm := Mem.le_trans hm hle7
         have r2 := r2.mono hle7
         have r4 := r4.mono hle7
         refine WO_seg 2 [(64, .bool y7)] kr kr ?_
         rcases bcases y7 with hc | hc
         ·rw [if_pos hc] at hr
          refine WO_fact (t := 64) (b := true) y7 kr hc ?_
          replace ⟨y8, hx8, hr⟩ := bindS hr
          refine WO_one rfl (One_fn 65 32 #[.string (⟨#[46, 115, 114, 99]⟩ : ByteArray)] kr rfl ?_)
          refine (revision_IsSource_ok st hx8).mono ?_
          clear st
          rintro _ w14 ⟨m9, rfl, hle8, st⟩
          refine ⟨_, rfl, ?_⟩
          have hm := Mem.le_trans hm hle8
          have r2 := r2.mono hle8
          have r4 := r4.mono hle8
          refine WO_seg 3 [(0, .bool (!y8))] kr kr ?_
          obtain rfl := Option.some.inj hr
          have st := st.front3.front2.front3.front3
          exact WO_env _ kr (K _ _ ⟨m9, rfl, hm, st, r4, r2⟩)
         ·rw [if_neg (not_true hc)] at hr
          refine WO_fact (t := 64) (b := false) y7 kr hc ?_
          refine WO_seg 4 [(0, .bool false)] kr kr ?_
          obtain rfl := Option.some.inj hr
          have st := st.front3.front2.front3.front3
          exact WO_env _ kr (K _ _ ⟨m8, rfl, hm, st, r4, r2⟩)
        ·rw [if_neg (not_true hc)] at hr
         refine WO_fact (t := 61) (b := false) y6 kr hc ?_
         refine WO_seg 7 [(0, .bool false)] kr kr ?_
         obtain rfl := Option.some.inj hr
         have st := st.front3.front2.front3.front3
         exact WO_env _ kr (K _ _ ⟨m7, rfl, hm, st, r4, r2⟩)
       ·rw [if_neg (not_true hc)] at hr
        refine WO_fact (t := 56) (b := false) (y3.1.toList == (⟨#[120]⟩ : ByteArray).toList) kr hc ?_
        refine WO_seg 12 [(0, .bool false)] kr kr ?_
        obtain rfl := Option.some.inj hr
        have st := st.front3.front2.front3.front3
        exact WO_env _ kr (K _ _ ⟨m5, rfl, hm, st, r4, r2⟩)
      ·rw [if_neg (not_true hc)] at hr
       refine WO_fact (t := 52) (b := false) y3.2 kr hc ?_
       refine WO_seg 16 [(0, .bool false)] kr kr ?_
       obtain rfl := Option.some.inj hr
       have st := st.front3.front2.front3.front3
       exact WO_env _ kr (K _ _ ⟨m5, rfl, hm, st, r4, r2⟩)
     ·rw [if_neg (not_true hc)] at hr
      refine WO_fact (t := 49) (b := false) (y5.2 == 0) kr hc ?_
      refine WO_seg 19 [(0, .bool false)] kr kr ?_
      obtain rfl := Option.some.inj hr
      have st := st.front3.front2.front3.front3
      exact WO_env _ kr (K _ _ ⟨m5, rfl, hm, st, r4, r2⟩)
    ·rw [if_neg (not_true hc)] at hr
     refine WO_fact (t := 45) (b := false) (y4.2 == 0) kr hc ?_
     refine WO_seg 23 [(0, .bool false)] kr kr ?_
     obtain rfl := Option.some.inj hr
     have st := st.front3.front2.front3.front3
     exact WO_env _ kr (K _ _ ⟨m5, rfl, hm, st, r4, r2⟩)
   ·rw [if_neg (not_true hc)] at hr
    refine WO_fact (t := 41) (b := false) (y2.2 == 0) kr hc ?_
    refine WO_seg 27 [(0, .bool false)] kr kr ?_
    obtain rfl := Option.some.inj hr
    have st := st.front3.front2.front3.front3
    exact WO_env _ kr (K _ _ ⟨m5, rfl, hm, st, r4, r2⟩)
  ·rw [if_neg (not_true hc)] at hr
   refine WO_fact (t := 37) (b := false) (y1.2 == 0) kr hc ?_
   refine WO_seg 31 [(0, .bool false)] kr kr ?_
   obtain rfl := Option.some.inj hr
   have st := st.front3.front2.front3.front3
   exact WO_env _ kr (K _ _ ⟨m5, rfl, hm, st, r4, r2⟩)
def testgatelaw07_RevisionBytes (N : Nat) (p0 : List Int) (p1 : Int) (p2 : Int) (p3 : Int) (p4 : List UInt8) : Option (Bool) :=
 (testgatelaw07_spoiled N (p0, 0)).bind fun y1 => (revision_Encode N y1.2).bind fun y2 => (testgateref07_Encode N y1.2).bind fun y3 => (if (y2.2 != y3.2) = true then (some true) else ((testgateref03_Same N y2.1 y3.1).bind fun y4 => some (!y4)) : Option (Bool)).bind fun o1 => if o1 = true then (some false) else ((if (decide ((List.length p4 : Int) > 60)) = true then ((subS p4 0 60).bind fun l1 => some l1) else (some p4) : Option (List (UInt8))).bind fun o2 => (testgateref03_Frame N (IntKind.wrap .i64 (1 + (IntKind.wrap .i64 (Int.tmod p3 4))), o2)).bind fun y5 => ((testgatelaw07_decodes N y2.1).bind fun y6 => if (!y6) = true then (some true) else ((appendS 1 ([] : List (UInt8)) y2.1).bind fun l2 => (appendS 1 l2 y5.1).bind fun l3 => (testgatelaw07_decodes N l3).bind fun y7 => if (!y7) = true then (some true) else ((appendS 1 ([] : List (UInt8)) y5.1).bind fun l4 => (appendS 1 l4 y2.1).bind fun l5 => (testgatelaw07_decodes N l5).bind fun y8 => some (!y8))) : Option (Bool)).bind fun o3 => if o3 = true then (some false) else (if ((List.length y2.1 : Int) == 0) = true then ((testgatelaw07_awake N).bind fun y9 => some y9) else ((testgatemake_Fold N p1 (List.length y2.1 : Int)).bind fun y10 => (appA 1 y2.1).bind fun l6 => (idx l6 y10).bind fun x1 => (idx l6 y10).bind fun x2 => ((testgatelaw07_decodes N (List.set l6 (Int.toNat y10) (toU8 (iXor .u8 (x1.toNat : Int) p2)))).bind fun y11 => if y11 = true then ((subS y2.1 0 y10).bind fun l7 => (testgatelaw07_decodes N l7).bind fun y12 => if y12 = true then ((testgatelaw07_awake N).bind fun y13 => some y13) else (some false)) else (some false) : Option (Bool)).bind fun o4 => some o4)))
set_option maxHeartbeats 4000000 in
set_option maxRecDepth 100000 in
theorem testgatelaw07_RevisionBytes_ok {N : Nat} {m : Mem} {own : List Piece} {w : World} {p0 : List Int} {p1 : Int} {p2 : Int} {p3 : Int} {p4 : List UInt8} {a1 : Option Addr} {c1 : Nat} {a2 : Option Addr} {c2 : Nat} {r : Bool} (st : St m (own) w) (r1 : RepS (cInt .i64) m a1 c1 p0) (r2 : RepS cU8 m a2 c2 p4) (hr : testgatelaw07_RevisionBytes N p0 p1 p2 p3 p4 = some r) : Calls Tryz.prog 3 #[.slice a1 (List.length p0) c1, .int .i64 p1, .int .u8 p2, .int .u8 p3, .slice a2 (List.length p4) c2] w fun e w' => ∃ (m' : Mem), e = .returned (.bool r) ∧ m.le m' ∧ St m' (own) w' := by
 unfold testgatelaw07_RevisionBytes at hr
 have hm := m.le_refl
 refine W_calls Tryz.func3 rfl Tryz.ntmps3 [(0, .slice a1 (List.length p0) c1), (1, .int .i64 p1), (2, .int .u8 p2), (3, .int .u8 p3), (4, .slice a2 (List.length p4) c2)] kr rfl ?_
 refine W_sr (WO_seg 1 [] kr kr ?_)
 refine WO_et rfl (W_sr ?_)
 refine WO_seg 2 [(22, .agg #[.slice a1 (List.length p0) c1, .int .i64 0])] kr kr ?_
 refine WO_one rfl (One_box_own (d := 23) (e := 26) (x := (.tmp 22)) (.agg #[.slice a1 (List.length p0) c1, .int .i64 0]) kr rfl kr st ?_)
 clear st
 intro b1 w1 st
 refine WO_seg 1 [(11, .pointer (some ⟨b1, 0, none⟩))] kr kr ?_
 refine WO_et rfl (W_sr ?_)
 refine WO_seg 1 [(24, .pointer (some ⟨b1, 0, none⟩))] kr kr ?_
 replace ⟨y1, hx1, hr⟩ := bindS hr
 refine WO_one rfl (One_fn 25 4 #[.pointer (some ⟨b1, 0, none⟩)] kr rfl ?_)
 refine (testgatelaw07_spoiled_ok st r1 hx1).mono ?_
 clear st
 rintro _ w2 ⟨a3, c3, a4, c4, m2, rfl, hle2, st, r3, r4⟩
 refine ⟨_, rfl, ?_⟩
 have hm := Mem.le_trans hm hle2
 have r2 := r2.mono hle2
 have r1 := r1.mono hle2
 refine WO_one rfl (One_alloc (d := 12) (e := 29) (.agg #[.slice none 0 0]) kr rfl kr st ?_)
 clear st
 intro b2 w3 st
 refine WO_one rfl (One_store (t := 29) (x := (.tmp 12)) (y := (.tmp 25)) (v := .agg #[.slice a4 (List.length y1.2) c4]) (c' := #[.slice a4 (List.length y1.2) c4]) kr (ev (.pointer (some ⟨b2, 0, none⟩))) (ev (.agg #[.slice a4 (List.length y1.2) c4])) st kr kr ?_)
 clear st
 intro w4 st
 refine WO_et rfl (W_sr ?_)
 refine WO_one rfl (One_load_own (d := 27) (t := 29) (x := (.tmp 12)) (.agg #[.slice a4 (List.length y1.2) c4]) kr rfl (ev (.pointer (some ⟨b2, 0, none⟩))) st.head kr ?_)
 replace ⟨y2, hx2, hr⟩ := bindS hr
 refine WO_one rfl (One_fn 28 5 #[.agg #[.slice a4 (List.length y1.2) c4]] kr rfl ?_)
 refine (revision_Encode_ok st r4 hx2).mono ?_
 clear st
 rintro _ w5 ⟨a5, c5, m3, rfl, hle3, st, r5⟩
 refine ⟨_, rfl, ?_⟩
 have hm := Mem.le_trans hm hle3
 have r2 := r2.mono hle3
 have r4 := r4.mono hle3
 have r3 := r3.mono hle3
 refine WO_seg 5 [(13, .slice a5 (List.length y2.1) c5), (14, .int .i64 y2.2)] kr kr ?_
 refine WO_et rfl (W_sr ?_)
 refine WO_one rfl (One_load_own (d := 32) (t := 29) (x := (.tmp 12)) (.agg #[.slice a4 (List.length y1.2) c4]) kr rfl (ev (.pointer (some ⟨b2, 0, none⟩))) st.tail.head kr ?_)
 replace ⟨y3, hx3, hr⟩ := bindS hr
 refine WO_one rfl (One_fn 33 6 #[.agg #[.slice a4 (List.length y1.2) c4]] kr rfl ?_)
 refine (testgateref07_Encode_ok st r4 hx3).mono ?_
 clear st
 rintro _ w6 ⟨a6, c6, m4, rfl, hle4, st, r6⟩
 refine ⟨_, rfl, ?_⟩
 have hm := Mem.le_trans hm hle4
 have r2 := r2.mono hle4
 have r5 := r5.mono hle4
 have r4 := r4.mono hle4
 have r3 := r3.mono hle4
 refine WO_seg 5 [(15, .slice a6 (List.length y3.1) c6), (16, .int .i64 y3.2)] kr kr ?_
 refine WO_et rfl (W_seq ?_)
 refine W_sr ?_
 replace ⟨o1, hr, hrK⟩ := bindS hr
 refine WO_cut (j := 9) (fun L' w' => ∃ (m5 : Mem), L' = [(1, .int .i64 p1), (2, .int .u8 p2), (3, .int .u8 p3), (4, .slice a2 (List.length p4) c2), (13, .slice a5 (List.length y2.1) c5), (44, .bool o1)] ∧ m.le m5 ∧ St m5 (.blk b2 (.cells #[.slice a4 (List.length y1.2) c4] 29 (0, 0)) :: .blk b1 (.cells #[.slice a3 (List.length y1.1.1) c3, .int .i64 y1.1.2] 26 (0, 0)) :: .room a6 (List.length y3.1) c6 5 1 :: .room a5 (List.length y2.1) c5 5 1 :: own) w' ∧ RepS cU8 m5 a2 c2 p4 ∧ RepS cU8 m5 a5 c5 y2.1 ∧ RepS (cPair cStr cStr) m5 a4 c4 y1.2 ∧ RepS (cInt .i64) m5 a3 c3 y1.1.1) ?_ ?_
 ·clear hr st
  have hr := hrK
  clear hrK
  rintro _ w7 ⟨m5, rfl, hm, st, r2, r5, r4, r3⟩
  refine WO_et rfl (W_cond o1 kr ?_ ?_)
  ·intro hc
   rw [if_pos hc] at hr
   refine W_sr (WO_seg 1 [(10, .bool false)] kr kr ?_)
   refine WO_end rfl ?_
   have st := st.front2
   have st := st.tail
   have st := st.front2
   have st := st.tail
   refine X_then ?_
   refine W_ret ?_
   refine X_then_ret ?_
   obtain rfl := Option.some.inj hr
   refine X_ret [.tmp 10] [.bool false] rfl (ResAll.cons (ResAt.tmp kr) ResAll.nil) ?_
   have st := st.tail
   have st := st.tail
   exact ⟨m5, rfl, hm, st⟩
  ·intro hc
   rw [if_neg (not_true hc)] at hr
   refine W_skip ?_
   refine X_then ?_
   refine W_seq ?_
   refine W_sr (WO_seg 3 [(47, .bool (decide ((List.length p4 : Int) > 60)))] kr kr ?_)
   refine WO_end rfl ?_
   have st := st.front2
   have st := st.tail
   refine X_then ?_
   replace ⟨o2, hr, hrKu1⟩ := bindS hr
   refine W_cut .normal (fun L' w' => ∃ (a7 : Option Addr) (c7 : Nat) (m7 : Mem), L' = [(1, .int .i64 p1), (2, .int .u8 p2), (3, .int .u8 p3), (4, .slice a7 (List.length o2) c7), (13, .slice a5 (List.length y2.1) c5)] ∧ m.le m7 ∧ St m7 (.blk b2 (.cells #[.slice a4 (List.length y1.2) c4] 29 (0, 0)) :: .blk b1 (.cells #[.slice a3 (List.length y1.1.1) c3, .int .i64 y1.1.2] 26 (0, 0)) :: .room a5 (List.length y2.1) c5 5 1 :: own) w' ∧ RepS cU8 m7 a7 c7 o2 ∧ RepS cU8 m7 a5 c5 y2.1 ∧ RepS (cPair cStr cStr) m7 a4 c4 y1.2 ∧ RepS (cInt .i64) m7 a3 c3 y1.1.1) ?_ ?_
   ·clear hr st
    have hr := hrKu1
    clear hrKu1
    rintro _ w9 ⟨a7, c7, m7, rfl, hm, st, r7, r5, r4, r3⟩
    refine X_then ?_
    refine W_sr (WO_seg 6 [(56, .agg #[.int .i64 (IntKind.wrap .i64 (1 + (IntKind.wrap .i64 (Int.tmod p3 4)))), .slice a7 (List.length o2) c7])] kr kr ?_)
    replace ⟨y5, hx6, hr⟩ := bindS hr
    refine WO_one rfl (One_fn 57 8 #[.agg #[.int .i64 (IntKind.wrap .i64 (1 + (IntKind.wrap .i64 (Int.tmod p3 4)))), .slice a7 (List.length o2) c7]] kr rfl ?_)
    refine (testgateref03_Frame_ok st r7 hx6).mono ?_
    clear st
    rintro _ w10 ⟨a9, c9, m8, rfl, hle6, st, r9⟩
    refine ⟨_, rfl, ?_⟩
    have hm := Mem.le_trans hm hle6
    have r7 := r7.mono hle6
    have r5 := r5.mono hle6
    have r4 := r4.mono hle6
    have r3 := r3.mono hle6
    refine WO_seg 5 [(17, .slice a9 (List.length y5.1) c9)] kr kr ?_
    refine WO_et rfl (W_seq ?_)
    refine W_sr ?_
    replace ⟨o3, hr, hrK⟩ := bindS hr
    refine WO_cut (j := 19) (fun L' w' => ∃ (m9 : Mem), L' = [(1, .int .i64 p1), (2, .int .u8 p2), (13, .slice a5 (List.length y2.1) c5), (78, .bool o3)] ∧ m.le m9 ∧ St m9 (.blk b2 (.cells #[.slice a4 (List.length y1.2) c4] 29 (0, 0)) :: .blk b1 (.cells #[.slice a3 (List.length y1.1.1) c3, .int .i64 y1.1.2] 26 (0, 0)) :: .room a9 (List.length y5.1) c9 5 1 :: .room a5 (List.length y2.1) c5 5 1 :: own) w' ∧ RepS cU8 m9 a5 c5 y2.1 ∧ RepS (cPair cStr cStr) m9 a4 c4 y1.2 ∧ RepS (cInt .i64) m9 a3 c3 y1.1.1) ?_ ?_
    ·clear hr st
     have hr := hrK
     clear hrK
     rintro _ w11 ⟨m9, rfl, hm, st, r5, r4, r3⟩
     refine WO_et rfl (W_cond o3 kr ?_ ?_)
     ·intro hc
      rw [if_pos hc] at hr
      refine W_sr (WO_seg 1 [(10, .bool false)] kr kr ?_)
      refine WO_end rfl ?_
      have st := st.front2
      have st := st.tail
      have st := st.front2
      have st := st.tail
      refine X_then ?_
      refine W_ret ?_
      refine X_then_ret ?_
      obtain rfl := Option.some.inj hr
      refine X_ret [.tmp 10] [.bool false] rfl (ResAll.cons (ResAt.tmp kr) ResAll.nil) ?_
      have st := st.tail
      have st := st.tail
      exact ⟨m9, rfl, hm, st⟩
     ·intro hc
      rw [if_neg (not_true hc)] at hr
      refine W_skip ?_
      refine X_then ?_
      refine W_seq ?_
      refine W_sr (WO_seg 3 [(81, .bool ((List.length y2.1 : Int) == 0))] kr kr ?_)
      refine WO_end rfl ?_
      have st := st.front2
      have st := st.tail
      refine X_then ?_
      refine W_cond ((List.length y2.1 : Int) == 0) kr ?_ ?_
      ·intro hc
       rw [if_pos hc] at hr
       refine W_sr ?_
       replace ⟨y9, hx14, hr⟩ := bindS hr
       refine WO_one rfl (One_fn 82 10 #[] kr rfl ?_)
       refine (testgatelaw07_awake_ok st hx14).mono ?_
       clear st
       rintro _ w19 ⟨m17, rfl, hle14, st⟩
       refine ⟨_, rfl, ?_⟩
       have hm := Mem.le_trans hm hle14
       have r5 := r5.mono hle14
       have r4 := r4.mono hle14
       have r3 := r3.mono hle14
       refine WO_seg 1 [(10, .bool y9)] kr kr ?_
       refine WO_end rfl ?_
       have st := st.front2
       have st := st.tail
       refine X_then ?_
       refine W_ret ?_
       refine X_then_ret ?_
       obtain rfl := Option.some.inj hr
       refine X_ret [.tmp 10] [.bool y9] rfl (ResAll.cons (ResAt.tmp kr) ResAll.nil) ?_
       have st := st.tail
       have st := st.tail
       exact ⟨m17, rfl, hm, st⟩
      ·intro hc
       rw [if_neg (not_true hc)] at hr
       refine W_skip ?_
       refine X_then ?_
       refine W_sr (WO_seg 3 [(83, .int .i64 p1), (85, .int .i64 (List.length y2.1 : Int))] kr kr ?_)
       replace ⟨y10, hx15, hr⟩ := bindS hr
       refine WO_one rfl (One_fn 86 11 #[.int .i64 p1, .int .i64 (List.length y2.1 : Int)] kr rfl ?_)
       refine (testgatemake_Fold_ok st hx15).mono ?_
       clear st
       rintro _ w20 ⟨m18, rfl, hle15, st⟩
       refine ⟨_, rfl, ?_⟩
       have hm := Mem.le_trans hm hle15
       have r5 := r5.mono hle15
       have r4 := r4.mono hle15
       have r3 := r3.mono hle15
       refine WO_seg 1 [(19, .int .i64 y10)] kr kr ?_
       refine WO_et rfl (W_sr ?_)
       refine WO_seg 1 [(87, .slice a5 (List.length y2.1) c5)] kr kr ?_
       replace ⟨l6, hx16, hr⟩ := bindS hr
       refine WO_one rfl (One_appArr (d := 88) (t := 23) (u := 23) (e := 5) (by_ := 1) (x := (.const (.slice none 0 0))) (y := (.tmp 87)) cU8 (fun x : UInt8 => Value.int .u8 (x.toNat : Int)) kr rfl (ev (.slice none (List.length ([] : List (UInt8))) 0)) (ev (.slice a5 (List.length y2.1) c5)) st kr (.inl kr) rfl (fun _ _ _ h => h) r5.src hx16 ?_)
       clear st
       intro b3 c14 T1 w21 hn1 hn2 hn3 st
       refine WO_seg 1 [(20, .slice (some ⟨b3, 0, none⟩) (List.length l6) c14)] kr kr ?_
       refine WO_et rfl (W_sr ?_)
       refine WO_seg 2 [(89, .slice (some ⟨b3, 0, none⟩) (List.length l6) c14), (90, .int .i64 y10)] kr kr ?_
       replace ⟨x1, hx17, hr⟩ := bindS hr
       refine WO_one rfl (One_arrIndex (d := 91) (t := 23) (e := 5) (x := (.tmp 89)) (y := (.tmp 90)) kr rfl (ev (.slice (some ⟨b3, 0, none⟩) (List.length l6) c14)) (ev (.int .i64 y10)) kr rfl hx17 ?_)
       refine WO_one rfl (One_arrLoad (d := 92) (t := 5) (x := (.tmp 91)) kr rfl (ev (.pointer (some ⟨b3, Int.toNat y10, none⟩))) st.head hx17 kr ?_)
       refine WO_seg 2 [(94, .int .u8 (iXor .u8 (x1.toNat : Int) p2))] kr kr ?_
       replace ⟨x2, hx18, hr⟩ := bindS hr
       refine WO_one rfl (One_arrIndex (d := 95) (t := 23) (e := 5) (x := (.tmp 89)) (y := (.tmp 90)) kr rfl (ev (.slice (some ⟨b3, 0, none⟩) (List.length l6) c14)) (ev (.int .i64 y10)) kr rfl hx18 ?_)
       refine WO_one rfl (One_arrStore (f := (fun x : UInt8 => Value.int .u8 (x.toNat : Int))) (u := toU8 (iXor .u8 (x1.toNat : Int) p2)) (t := 5) (x := (.tmp 95)) (y := (.tmp 94)) kr (ev (.pointer (some ⟨b3, Int.toNat y10, none⟩))) ((ev (.int .u8 (iXor .u8 (x1.toNat : Int) p2))).trans (congrArg (fun z => some (Value.int .u8 z)) (toU8_wrap _).symm)) st hx18 rfl kr ?_)
       clear st
       intro w22 st
       have hn4 : List.length (List.set l6 (Int.toNat y10) (toU8 (iXor .u8 (x1.toNat : Int) p2))) = (List.length l6) := set_len rfl _ _
       refine WO_et rfl (W_sr ?_)
       replace ⟨o4, hr, hrK⟩ := bindS hr
       refine WO_cut (j := 12) (fun L' w' => ∃ (m19 : Mem), L' = [(10, .bool o4)] ∧ m.le m19 ∧ St m19 (.blk b2 (.cells #[.slice a4 (List.length y1.2) c4] 29 (0, 0)) :: .blk b1 (.cells #[.slice a3 (List.length y1.1.1) c3, .int .i64 y1.1.2] 26 (0, 0)) :: .room a5 (List.length y2.1) c5 5 1 :: own) w' ∧ RepS (cPair cStr cStr) m19 a4 c4 y1.2 ∧ RepS (cInt .i64) m19 a3 c3 y1.1.1) ?_ ?_
       ·clear hr st
        have hr := hrK
        clear hrK
        rintro _ w23 ⟨m19, rfl, hm, st, r4, r3⟩
        refine WO_et rfl (W_ret ?_)
        obtain rfl := Option.some.inj hr
        refine X_ret [.tmp 10] [.bool o4] rfl (ResAll.cons (ResAt.tmp kr) ResAll.nil) ?_
        have st := st.tail
        have st := st.tail
        have st := st.tail
        exact ⟨m19, rfl, hm, st⟩
       ·intro K
        clear hrK
        refine WO_seg 1 [(96, .slice (some ⟨b3, 0, none⟩) (List.length l6) c14)] kr kr ?_
        obtain ⟨m20, hle16, st, r14⟩ := St.freeze (c := cU8) st hn4 hn1 hn2 (acells_size hn4 hn3) rfl (fun _ _ => rfl)
        have hm := Mem.le_trans hm hle16
        have r5 := r5.mono hle16
        have r4 := r4.mono hle16
        have r3 := r3.mono hle16
        refine WO_env [(13, .slice a5 (List.length y2.1) c5), (19, .int .i64 y10), (20, .slice (some ⟨b3, 0, none⟩) (List.length (List.set l6 (Int.toNat y10) (toU8 (iXor .u8 (x1.toNat : Int) p2)))) c14), (96, .slice (some ⟨b3, 0, none⟩) (List.length (List.set l6 (Int.toNat y10) (toU8 (iXor .u8 (x1.toNat : Int) p2)))) c14)] (by (try simp only [hn4]); kernel_rfl) ?_
        replace ⟨y11, hx19, hr⟩ := bindS hr
        refine WO_one rfl (One_fn 97 9 #[.slice (some ⟨b3, 0, none⟩) (List.length (List.set l6 (Int.toNat y10) (toU8 (iXor .u8 (x1.toNat : Int) p2)))) c14] kr rfl ?_)
        refine (testgatelaw07_decodes_ok st r14 hx19).mono ?_
        clear st
        rintro _ w24 ⟨m21, rfl, hle17, st⟩
        refine ⟨_, rfl, ?_⟩
        have hm := Mem.le_trans hm hle17
        have r5 := r5.mono hle17
        have r14 := r14.mono hle17
        have r4 := r4.mono hle17
        have r3 := r3.mono hle17
        refine WO_seg 1 [(98, .bool y11)] kr kr ?_
        rcases bcases y11 with hc | hc
        ·rw [if_pos hc] at hr
         refine WO_fact (t := 98) (b := true) y11 kr hc ?_
         refine WO_seg 2 [(99, .slice a5 (List.length y2.1) c5), (100, .int .i64 y10)] kr kr ?_
         replace ⟨l7, hx20, hr⟩ := bindS hr
         refine WO_one rfl (One_slice (d := 101) (t := 23) (e := 5) (x := (.tmp 99)) (lo := none) (hi := (some (.tmp 100))) cU8 kr rfl (ev (.slice a5 (List.length y2.1) c5)) kr r5 (.inl ⟨rfl, rfl⟩) (.inr ⟨_, _, rfl, (ev (.int .i64 y10))⟩) hx20 ?_)
         intro a14 c15 r15
         replace ⟨y12, hx21, hr⟩ := bindS hr
         refine WO_one rfl (One_fn 102 9 #[.slice a14 (List.length l7) c15] kr rfl ?_)
         refine (testgatelaw07_decodes_ok st r15 hx21).mono ?_
         clear st
         rintro _ w25 ⟨m22, rfl, hle18, st⟩
         refine ⟨_, rfl, ?_⟩
         have hm := Mem.le_trans hm hle18
         have r5 := r5.mono hle18
         have r14 := r14.mono hle18
         have r15 := r15.mono hle18
         have r4 := r4.mono hle18
         have r3 := r3.mono hle18
         refine WO_seg 2 [(104, .bool y12)] kr kr ?_
         rcases bcases y12 with hc | hc
         ·rw [if_pos hc] at hr
          refine WO_fact (t := 104) (b := true) y12 kr hc ?_
          replace ⟨y13, hx22, hr⟩ := bindS hr
          refine WO_one rfl (One_fn 105 10 #[] kr rfl ?_)
          refine (testgatelaw07_awake_ok st hx22).mono ?_
          clear st
          rintro _ w26 ⟨m23, rfl, hle19, st⟩
          refine ⟨_, rfl, ?_⟩
          have hm := Mem.le_trans hm hle19
          have r5 := r5.mono hle19
          have r14 := r14.mono hle19
          have r15 := r15.mono hle19
          have r4 := r4.mono hle19
          have r3 := r3.mono hle19
          refine WO_seg 2 [(10, .bool y13)] kr kr ?_
          obtain rfl := Option.some.inj hr
          have st := st.tail
          have st := st.front2.front2.front2
          exact WO_env _ kr (K _ _ ⟨m23, rfl, hm, st, r4, r3⟩)
         ·rw [if_neg (not_true hc)] at hr
          refine WO_fact (t := 104) (b := false) y12 kr hc ?_
          refine WO_seg 3 [(10, .bool false)] kr kr ?_
          obtain rfl := Option.some.inj hr
          have st := st.tail
          have st := st.front2.front2.front2
          exact WO_env _ kr (K _ _ ⟨m22, rfl, hm, st, r4, r3⟩)
        ·rw [if_neg (not_true hc)] at hr
         refine WO_fact (t := 98) (b := false) y11 kr hc ?_
         refine WO_seg 9 [(10, .bool false)] kr kr ?_
         obtain rfl := Option.some.inj hr
         have st := st.tail
         have st := st.front2.front2.front2
         exact WO_env _ kr (K _ _ ⟨m21, rfl, hm, st, r4, r3⟩)
    ·intro K
     clear hrK
     refine WO_seg 1 [(60, .slice a5 (List.length y2.1) c5)] kr kr ?_
     replace ⟨y6, hx7, hr⟩ := bindS hr
     refine WO_one rfl (One_fn 61 9 #[.slice a5 (List.length y2.1) c5] kr rfl ?_)
     refine (testgatelaw07_decodes_ok st r5 hx7).mono ?_
     clear st
     rintro _ w12 ⟨m10, rfl, hle7, st⟩
     refine ⟨_, rfl, ?_⟩
     have hm := Mem.le_trans hm hle7
     have r5 := r5.mono hle7
     have r9 := r9.mono hle7
     have r4 := r4.mono hle7
     have r3 := r3.mono hle7
     refine WO_seg 2 [(63, .bool (!y6))] kr kr ?_
     rcases bcases (!y6) with hc | hc
     ·rw [if_pos hc] at hr
      refine WO_fact (t := 63) (b := true) (!y6) kr hc ?_
      refine WO_seg 15 [(78, .bool true)] kr kr ?_
      obtain rfl := Option.some.inj hr
      have st := st.front3.front1.front3.front3
      exact WO_env _ kr (K _ _ ⟨m10, rfl, hm, st, r5, r4, r3⟩)
     ·rw [if_neg (not_true hc)] at hr
      refine WO_fact (t := 63) (b := false) (!y6) kr hc ?_
      refine WO_seg 1 [(64, .slice a5 (List.length y2.1) c5)] kr kr ?_
      have st := st.nilroom 5 1
      replace ⟨l2, hx8, hr⟩ := bindS hr
      refine WO_one rfl (One_append (d := 65) (t := 23) (u := 23) (e := 5) (by_ := 1) (x := (.const (.slice none 0 0))) (y := (.tmp 64)) cU8 kr rfl (ev (.slice none (List.length ([] : List (UInt8))) 0)) (ev (.slice a5 (List.length y2.1) c5)) st kr (.inl kr) (RepS.nil _ _) r5.src hx8 ?_)
      clear st
      intro a10 c10 m11 w13 hle8 st r10
      have hm := Mem.le_trans hm hle8
      have r5 := r5.mono hle8
      have r9 := r9.mono hle8
      have r4 := r4.mono hle8
      have r3 := r3.mono hle8
      refine WO_seg 1 [(66, .slice a9 (List.length y5.1) c9)] kr kr ?_
      replace ⟨l3, hx9, hr⟩ := bindS hr
      refine WO_one rfl (One_append (d := 67) (t := 23) (u := 23) (e := 5) (by_ := 1) (x := (.tmp 65)) (y := (.tmp 66)) cU8 kr rfl (ev (.slice a10 (List.length l2) c10)) (ev (.slice a9 (List.length y5.1) c9)) st kr (.inl kr) r10 r9.src hx9 ?_)
      clear st
      intro a11 c11 m12 w14 hle9 st r11
      have hm := Mem.le_trans hm hle9
      have r5 := r5.mono hle9
      have r9 := r9.mono hle9
      have r10 := r10.mono hle9
      have r4 := r4.mono hle9
      have r3 := r3.mono hle9
      replace ⟨y7, hx10, hr⟩ := bindS hr
      refine WO_one rfl (One_fn 68 9 #[.slice a11 (List.length l3) c11] kr rfl ?_)
      refine (testgatelaw07_decodes_ok st r11 hx10).mono ?_
      clear st
      rintro _ w15 ⟨m13, rfl, hle10, st⟩
      refine ⟨_, rfl, ?_⟩
      have hm := Mem.le_trans hm hle10
      have r5 := r5.mono hle10
      have r9 := r9.mono hle10
      have r10 := r10.mono hle10
      have r11 := r11.mono hle10
      have r4 := r4.mono hle10
      have r3 := r3.mono hle10
      refine WO_seg 3 [(71, .bool (!y7))] kr kr ?_
      rcases bcases (!y7) with hc | hc
      ·rw [if_pos hc] at hr
       refine WO_fact (t := 71) (b := true) (!y7) kr hc ?_
       refine WO_seg 7 [(78, .bool true)] kr kr ?_
       obtain rfl := Option.some.inj hr
       have st := st.tail
       have st := st.front3.front1.front3.front3
       exact WO_env _ kr (K _ _ ⟨m13, rfl, hm, st, r5, r4, r3⟩)
      ·rw [if_neg (not_true hc)] at hr
       refine WO_fact (t := 71) (b := false) (!y7) kr hc ?_
       refine WO_seg 1 [(72, .slice a9 (List.length y5.1) c9)] kr kr ?_
       have st := st.nilroom 5 1
       replace ⟨l4, hx11, hr⟩ := bindS hr
       refine WO_one rfl (One_append (d := 73) (t := 23) (u := 23) (e := 5) (by_ := 1) (x := (.const (.slice none 0 0))) (y := (.tmp 72)) cU8 kr rfl (ev (.slice none (List.length ([] : List (UInt8))) 0)) (ev (.slice a9 (List.length y5.1) c9)) st kr (.inl kr) (RepS.nil _ _) r9.src hx11 ?_)
       clear st
       intro a12 c12 m14 w16 hle11 st r12
       have hm := Mem.le_trans hm hle11
       have r5 := r5.mono hle11
       have r9 := r9.mono hle11
       have r10 := r10.mono hle11
       have r11 := r11.mono hle11
       have r4 := r4.mono hle11
       have r3 := r3.mono hle11
       refine WO_seg 1 [(74, .slice a5 (List.length y2.1) c5)] kr kr ?_
       replace ⟨l5, hx12, hr⟩ := bindS hr
       refine WO_one rfl (One_append (d := 75) (t := 23) (u := 23) (e := 5) (by_ := 1) (x := (.tmp 73)) (y := (.tmp 74)) cU8 kr rfl (ev (.slice a12 (List.length l4) c12)) (ev (.slice a5 (List.length y2.1) c5)) st kr (.inl kr) r12 r5.src hx12 ?_)
       clear st
       intro a13 c13 m15 w17 hle12 st r13
       have hm := Mem.le_trans hm hle12
       have r5 := r5.mono hle12
       have r9 := r9.mono hle12
       have r10 := r10.mono hle12
       have r11 := r11.mono hle12
       have r12 := r12.mono hle12
       have r4 := r4.mono hle12
       have r3 := r3.mono hle12
       replace ⟨y8, hx13, hr⟩ := bindS hr
       refine WO_one rfl (One_fn 76 9 #[.slice a13 (List.length l5) c13] kr rfl ?_)
       refine (testgatelaw07_decodes_ok st r13 hx13).mono ?_
       clear st
       rintro _ w18 ⟨m16, rfl, hle13, st⟩
       refine ⟨_, rfl, ?_⟩
       have hm := Mem.le_trans hm hle13
       have r5 := r5.mono hle13
       have r9 := r9.mono hle13
       have r10 := r10.mono hle13
       have r11 := r11.mono hle13
       have r12 := r12.mono hle13
       have r13 := r13.mono hle13
       have r4 := r4.mono hle13
       have r3 := r3.mono hle13
       refine WO_seg 2 [(78, .bool (!y8))] kr kr ?_
       obtain rfl := Option.some.inj hr
       have st := st.tail
       have st := st.tail
       have st := st.front3.front1.front3.front3
       exact WO_env _ kr (K _ _ ⟨m16, rfl, hm, st, r5, r4, r3⟩)
   ·intro Ku1
    clear hrKu1
    refine W_cond (decide ((List.length p4 : Int) > 60)) kr ?_ ?_
    ·intro hc
     rw [if_pos hc] at hr
     refine W_region ?_
     refine WO_seg 1 [(48, .slice a2 (List.length p4) c2)] kr kr ?_
     replace ⟨l1, hx5, hr⟩ := bindS hr
     refine WO_one rfl (One_slice (d := 49) (t := 23) (e := 5) (x := (.tmp 48)) (lo := none) (hi := (some (.const (.int .i64 60)))) cU8 kr rfl (ev (.slice a2 (List.length p4) c2)) kr r2 (.inl ⟨rfl, rfl⟩) (.inr ⟨_, _, rfl, (ev (.int .i64 60))⟩) hx5 ?_)
     intro a8 c8 r8
     refine WO_seg 1 [(4, .slice a8 (List.length l1) c8)] kr kr ?_
     refine WO_end rfl ?_
     obtain rfl := Option.some.inj hr
     have st := st.front2.front2.front2
     exact X_env _ kr (Ku1 _ _ ⟨a8, c8, m5, rfl, hm, st, r8, r5, r4, r3⟩)
    ·intro hc
     rw [if_neg (not_true hc)] at hr
     refine W_skip ?_
     obtain rfl := Option.some.inj hr
     have st := st.front2.front2.front2
     exact X_env _ kr (Ku1 _ _ ⟨a2, c2, m5, rfl, hm, st, r2, r5, r4, r3⟩)
 ·intro K
  clear hrK
  refine WO_seg 4 [(39, .bool (y2.2 != y3.2))] kr kr ?_
  rcases bcases (y2.2 != y3.2) with hc | hc
  ·rw [if_pos hc] at hr
   refine WO_fact (t := 39) (b := true) (y2.2 != y3.2) kr hc ?_
   refine WO_seg 5 [(44, .bool true)] kr kr ?_
   obtain rfl := Option.some.inj hr
   have st := st.front1.front1.front3.front3
   exact WO_env _ kr (K _ _ ⟨m4, rfl, hm, st, r2, r5, r4, r3⟩)
  ·rw [if_neg (not_true hc)] at hr
   refine WO_fact (t := 39) (b := false) (y2.2 != y3.2) kr hc ?_
   refine WO_seg 2 [(40, .slice a5 (List.length y2.1) c5), (41, .slice a6 (List.length y3.1) c6)] kr kr ?_
   replace ⟨y4, hx4, hr⟩ := bindS hr
   refine WO_one rfl (One_fn 42 7 #[.slice a5 (List.length y2.1) c5, .slice a6 (List.length y3.1) c6] kr rfl ?_)
   refine (testgateref03_Same_ok st r5 r6 hx4).mono ?_
   clear st
   rintro _ w8 ⟨m6, rfl, hle5, st⟩
   refine ⟨_, rfl, ?_⟩
   have hm := Mem.le_trans hm hle5
   have r2 := r2.mono hle5
   have r5 := r5.mono hle5
   have r6 := r6.mono hle5
   have r4 := r4.mono hle5
   have r3 := r3.mono hle5
   refine WO_seg 2 [(44, .bool (!y4))] kr kr ?_
   obtain rfl := Option.some.inj hr
   have st := st.front1.front1.front3.front3
   exact WO_env _ kr (K _ _ ⟨m6, rfl, hm, st, r2, r5, r4, r3⟩)
end Go.Proofs.YtfodebccikifcaaGreatDoor
