/- MADE BY gen.py: plain functions and the proofs that the Go functions compute them. No condition but those of each theorem. -/
import Derived.Test.YtfodebccikifcaaDoorProg
import Derived.Test.YtfodebccikifcaaDoorIns
import Derived.Test.YtfodebccikifcaaDoorTConm8C
namespace Go.Proofs.YtfodebccikifcaaDoor
open Go Go.Dc



set_option maxHeartbeats 4000000 in
set_option maxRecDepth 100000 in
theorem slices_Delete_api_File_api_File_own {m : Mem} {own : List Piece} {w : World} {l : List (ByteArray × ByteArray)} {i : Nat} {a : Option Addr} {cap nn : Nat} {T : List Value} (st : St m (opc a (acellsM (fun x : ByteArray × ByteArray => ([.string x.1, .string x.2] : List Value)) l T) 66 :: own) w) (hs : OAS a nn cap 2 T) (hn : List.length l = nn) (hi : i < List.length l)
  (hmx : List.length l + 1 ≤ maxLen) : Calls Go.Proofs.Tryd.prog 64 #[.slice a nn cap, .int .i64 (i : Int), .int .i64 ((i : Int) + 1)] w fun e w' => ∃ (ra1 : Option Addr) (rc1 : Nat) (m' : Mem), e = .returned (.slice ra1 (List.length (List.take i l ++ List.drop (i + 1) l)) rc1) ∧ m.le m' ∧ St m' (.room ra1 (List.length (List.take i l ++ List.drop (i + 1) l)) rc1 66 2 :: own) w' ∧ RepS (cPair cStr cStr) m' ra1 rc1 (List.take i l ++ List.drop (i + 1) l) := by
 subst hn
 have hm := m.le_refl
 have hcap := hs.1
 have hlen : List.length (List.take i l ++ List.drop (i + 1) l) = List.length l - 1 := by simp; omega
 have hmxI : (maxLen : Int) = 9223372036854775807 := rfl
 have hone : ∀ y : ByteArray × ByteArray, ∀ v ∈ (fun x : ByteArray × ByteArray => ([.string x.1, .string x.2] : List Value)) y, v.oneCell' = true := fun y => (cPair cStr cStr).one m y _ ((fun _ x => ⟨_, _, rfl, rfl, rfl⟩) m y)
 have honeL : ∀ k : List (ByteArray × ByteArray), ∀ v ∈ k.flatMap (fun x : ByteArray × ByteArray => ([.string x.1, .string x.2] : List Value)), v.oneCell' = true := fun k v hv => by
  obtain ⟨y, _, hy⟩ := List.mem_flatMap.1 hv; exact hone y v hy
 have ha := hs.some rfl hi
 generalize ab a = b at ha
 subst ha
 have hcapT : List.length l * 2 + T.length = cap * 2 := hs.2.2.2
 have st : St m (.blk b (.cells (acellsM (fun x : ByteArray × ByteArray => ([.string x.1, .string x.2] : List Value)) l T) 66 (0, 0)) :: own) w := st
 obtain ⟨A, hA⟩ : ∃ A, A = (l.take i).flatMap (fun x : ByteArray × ByteArray => ([.string x.1, .string x.2] : List Value)) := ⟨_, rfl⟩
 obtain ⟨B, hB⟩ : ∃ B, B = (l.drop (i + 1)).flatMap (fun x : ByteArray × ByteArray => ([.string x.1, .string x.2] : List Value)) := ⟨_, rfl⟩
 obtain ⟨X, hX⟩ : ∃ X, X = (fun x : ByteArray × ByteArray => ([.string x.1, .string x.2] : List Value)) l[i] := ⟨_, rfl⟩
 have hAl : A.length = i * 2 := by rw [hA, flat_len (k := 2) (fun _ => rfl), List.length_take, Nat.min_eq_left (by omega)]
 have hBl : B.length = (List.length l - (i + 1)) * 2 := by rw [hB, flat_len (k := 2) (fun _ => rfl), List.length_drop]
 have hXl : X.length = 2 := by rw [hX]; rfl
 have hC : acellsM (fun x : ByteArray × ByteArray => ([.string x.1, .string x.2] : List Value)) l T = (A ++ (X ++ (B ++ T))).toArray := by
  have e : l = l.take i ++ l[i] :: l.drop (i + 1) := by rw [List.getElem_cons_drop, List.take_append_drop]
  unfold acellsM
  conv => lhs; rw [e]
  rw [hA, hB, hX, List.flatMap_append, List.flatMap_cons]; simp only [List.append_assoc]
 rw [hC] at st
 have hoB : ∀ v ∈ B, v.oneCell' = true := by rw [hB]; exact honeL _
 have hfin : ∀ T' : List Value, (A ++ (B ++ T')).toArray = acellsM (fun x : ByteArray × ByteArray => ([.string x.1, .string x.2] : List Value)) (List.take i l ++ List.drop (i + 1) l) T' := fun T' => by
  unfold acellsM; rw [List.flatMap_append, ← hA, ← hB]; simp only [List.append_assoc]
 refine W_calls Go.Proofs.Tryd.func64 rfl Go.Proofs.Tryd.ntmps64 [(0, .slice (some ⟨b, 0, none⟩) (List.length l) cap), (1, .int .i64 (i : Int)), (2, .int .i64 ((i : Int) + 1))] (by kernel_rfl) rfl ?_
 refine W_sr ?_
 refine WO_seg 1 [] (by kernel_rfl) (by kernel_rfl) ?_
 refine WO_et rfl ?_
 refine W_sr ?_
 refine WO_seg 5 [(8, .slice (some ⟨b, 0, none⟩) (List.length l) cap), (9, .int .i64 (i : Int)), (10, .int .i64 ((i : Int) + 1)), (12, .int .i64 (List.length l : Int))] (by kernel_rfl) (by kernel_rfl) ?_
 refine WO_one rfl (One_slice3any (d := 13) (t := 45) (e := 66) (k := 2) (x := (.tmp 8)) (y1 := (.tmp 9)) (y2 := (.tmp 10)) (y3 := (.tmp 12)) (by kernel_rfl) rfl (show evL _ _ = some (.slice (some ⟨b, 0, none⟩) (List.length l) cap) from (by kernel_rfl)) (by kernel_rfl) (show evL _ _ = some (.int .i64 (i : Int)) from (by kernel_rfl)) (show evL _ _ = some (.int .i64 ((i : Int) + 1)) from (by kernel_rfl)) (show evL _ _ = some (.int .i64 (List.length l : Int)) from (by kernel_rfl)) (by omega) (by omega) (by omega) (by omega) ?_)
 intro v13
 refine WO_env [(0, .slice (some ⟨b, 0, none⟩) (List.length l) cap), (1, .int .i64 (i : Int)), (2, .int .i64 ((i : Int) + 1))] (by kernel_rfl) ?_
 refine WO_et rfl ?_
 refine W_seq ?_
 refine W_sr ?_
 refine WO_seg 3 [(16, .bool ((i : Int) == ((i : Int) + 1)))] (by kernel_rfl) (by kernel_rfl) ?_
 refine WO_et rfl ?_
 refine W_cond ((i : Int) == ((i : Int) + 1)) (by kernel_rfl) ?_ ?_
 ·intro hc
  have := eq_of_beq hc
  omega
 intro _
 refine W_skip ?_
 refine X_then ?_
 refine W_sr ?_
 refine WO_seg 3 [(7, .int .i64 (List.length l : Int))] (by kernel_rfl) (by kernel_rfl) ?_
 refine WO_et rfl ?_
 refine W_seq ?_
 refine W_draw [(8, fun _ => True)] (by kernel_rfl) st ?_
 clear st
 intro w4 _ st
 refine ⟨⟨.inr trivial, trivial⟩, ?_⟩
 refine WA_pure 0 20 (.slice (some ⟨b, 0, none⟩) (List.length l) cap) (by kernel_rfl) rfl (by kernel_rfl) (.head _) (QP_then QP_body) ?_
 refine WA_pure 1 21 (.int .i64 (i : Int)) (by kernel_rfl) rfl (by kernel_rfl) (.head _) (QP_then QP_body) ?_
 refine WA_sliceO (t := 45) (e := 66) (k := 2) (x := (.tmp 20)) (lo := none) (hi := some (.tmp 21)) (li := 0) (hix := (i : Int)) 2 22 (.slice (some ⟨b, 0, none⟩) i cap) (by kernel_rfl) rfl (by kernel_rfl) (.head _) (QP_then QP_body) (show evL _ _ = some (.slice (some ⟨b, 0, none⟩) (List.length l) cap) from (by kernel_rfl)) (by kernel_rfl) (.inl ⟨rfl, rfl⟩) (.inr ⟨_, _, rfl, (show evL _ _ = some (.int .i64 (i : Int)) from (by kernel_rfl))⟩) (by omega) (by omega) (by omega) (by rw [slA_some (by simp; omega)]; simp) ?_
 refine WA_pure 3 23 (.slice (some ⟨b, 0, none⟩) (List.length l) cap) (by kernel_rfl) rfl (by kernel_rfl) (.head _) (QP_then QP_body) ?_
 refine WA_pure 4 24 (.int .i64 ((i : Int) + 1)) (by kernel_rfl) rfl (by kernel_rfl) (.head _) (QP_then QP_body) ?_
 refine WA_sliceO (t := 45) (e := 66) (k := 2) (x := (.tmp 23)) (lo := some (.tmp 24)) (hi := none) (li := (i : Int) + 1) (hix := (List.length l : Int)) 5 25 (.slice (slA (some ⟨b, 0, none⟩) cap (i + 1) 2) (List.length l - (i + 1)) (cap - (i + 1))) (by kernel_rfl) rfl (by kernel_rfl) (.head _) (QP_then QP_body) (show evL _ _ = some (.slice (some ⟨b, 0, none⟩) (List.length l) cap) from (by kernel_rfl)) (by kernel_rfl) (.inr ⟨_, _, rfl, (show evL _ _ = some (.int .i64 ((i : Int) + 1)) from (by kernel_rfl))⟩) (.inl ⟨rfl, rfl⟩) (by omega) (by omega) (by omega) (by rw [show ((i : Int) + 1).toNat = i + 1 by omega, Int.toNat_natCast]) ?_
 have hfB : (Builtin.firstCells 2 (List.length l - (i + 1)) (.slice (slA (some ⟨b, 0, none⟩) cap (i + 1) 2) (List.length l - (i + 1)) (cap - (i + 1)))).run Go.Proofs.Tryd.prog w4 = .ok B.toArray w4 := by
  by_cases hq : i + 1 < cap
  ·rw [slA_some hq]
   refine first_own (C := (A ++ (X ++ (B ++ T))).toArray) (e := 66) st.head.1 ?_ hBl
   simp only
   have e2 : List.drop 2 (X ++ (B ++ T)) = B ++ T := by
    conv => lhs; arg 1; rw [← hXl]
    exact List.drop_left
   rw [show 0 + (i + 1) * 2 = A.length + 2 by omega, List.drop_length_add_append, e2, ← hBl]
   exact List.take_left
  ·have hz : List.length l - (i + 1) = 0 := by omega
   have hB0 : B = [] := List.eq_nil_of_length_eq_zero (by rw [hBl, hz, Nat.zero_mul])
   rw [hz, hB0]
   unfold slA
   rw [if_pos (by omega)]
   exact run_firstCells_some w4 2 0 _ 0 _ [] (by simp) (fun j v hv => by simp at hv)
 refine WA_one 6 (by kernel_rfl) (One_appendInO (d := 26) (t := 45) (u := 45) (e := 66) (by_ := 32) (k := 2) (x := (.tmp 22)) (y := (.tmp 25)) (S := B) (C' := A ++ (B ++ (X ++ (B ++ T)).drop B.length)) (by kernel_rfl) rfl (show evL _ _ = some (.slice (some ⟨b, 0, none⟩) i cap) from (by kernel_rfl)) (show evL _ _ = some (.slice (slA (some ⟨b, 0, none⟩) cap (i + 1) 2) (List.length l - (i + 1)) (cap - (i + 1))) from (by kernel_rfl)) (by kernel_rfl) (by kernel_rfl) st hfB hBl hoB (by omega) (by simp only [List.size_toArray, List.length_append]; omega) (by simp only; rw [← hAl, List.take_left, List.drop_length_add_append, List.append_assoc]) ?_)
 clear st hfB
 intro w5 st
 refine ⟨⟨.inr trivial, trivial⟩, ?_⟩
 have hR : ((X ++ (B ++ T)).drop B.length).length = 2 + T.length := by simp only [List.length_drop, List.length_append]; omega
 generalize (X ++ (B ++ T)).drop B.length = R at st hR
 have hsum : i + (List.length l - (i + 1)) = List.length l - 1 := by omega
 rw [hsum]
 refine WA_pure 7 0 (.slice (some ⟨b, 0, none⟩) (List.length l - 1) cap) (by kernel_rfl) rfl (by kernel_rfl) (.head _) (QP_then QP_body) ?_
 refine WA_done (by kernel_rfl) ?_
 refine X_then ?_
 refine W_sr ?_
 refine WO_seg 4 [(27, .slice (some ⟨b, 0, none⟩) (List.length l - 1) cap), (29, .int .i64 ((List.length l - 1 : Nat) : Int)), (30, .int .i64 (List.length l : Int))] (by kernel_rfl) (by kernel_rfl) ?_
 refine WO_one rfl (One_sliceO (d := 31) (t := 45) (e := 66) (k := 2) (x := (.tmp 27)) (lo := some (.tmp 29)) (hi := some (.tmp 30)) (li := ((List.length l - 1 : Nat) : Int)) (hix := (List.length l : Int)) (.slice (some ⟨b, (A ++ B).length, none⟩) (0 + 1) (cap - (List.length l - 1))) (by kernel_rfl) rfl (show evL _ _ = some (.slice (some ⟨b, 0, none⟩) (List.length l - 1) cap) from (by kernel_rfl)) (by kernel_rfl) (.inr ⟨_, _, rfl, (show evL _ _ = some (.int .i64 ((List.length l - 1 : Nat) : Int)) from (by kernel_rfl))⟩) (.inr ⟨_, _, rfl, (show evL _ _ = some (.int .i64 (List.length l : Int)) from (by kernel_rfl))⟩) (by omega) (by omega) (by omega) (by
  rw [Int.toNat_natCast, slA_some (by omega), Int.toNat_natCast, show 0 + (List.length l - 1) * 2 = (A ++ B).length by rw [List.length_append]; omega, show List.length l - (List.length l - 1) = 0 + 1 by omega]) ?_)
 refine WO_one rfl (One_clearO (t := 45) (e := 66) (k := 2) (zs := 2) (x := (.tmp 31)) (dl := 0) (z := (.agg #[.string (⟨#[]⟩ : ByteArray), .string (⟨#[]⟩ : ByteArray)])) (A ++ (B ++ ((Builtin.zeroCells ((.agg #[.string (⟨#[]⟩ : ByteArray), .string (⟨#[]⟩ : ByteArray)]) : Value).cells 1).toList ++ R.drop 2))) (by kernel_rfl) (show evL _ _ = some (.slice (some ⟨b, (A ++ B).length, none⟩) (0 + 1) (cap - (List.length l - 1))) from (by kernel_rfl)) (by kernel_rfl) (by kernel_rfl) rfl (allOne_mem (by kernel_rfl)) st (by simp only [List.size_toArray, List.length_append]; omega) (by
  have hz : (Builtin.zeroCells ((.agg #[.string (⟨#[]⟩ : ByteArray), .string (⟨#[]⟩ : ByteArray)]) : Value).cells (0 + 1)).toList.length = 2 := by rw [Array.length_toList, size_zeroCells]; rfl
  simp only [hz]
  rw [← List.append_assoc A B R, List.take_left, List.drop_length_add_append]
  simp only [List.append_assoc]) ?_)
 clear st
 intro w6 st
 refine WO_et rfl ?_
 refine W_sr ?_
 refine WO_seg 2 [(6, .slice (some ⟨b, 0, none⟩) (List.length l - 1) cap)] (by kernel_rfl) (by kernel_rfl) ?_
 refine WO_et rfl ?_
 refine W_ret ?_
 refine X_ret [.tmp 6] [.slice (some ⟨b, 0, none⟩) (List.length l - 1) cap] rfl (ResAll.cons (ResAt.tmp (by kernel_rfl)) ResAll.nil) ?_
 rw [hfin] at st
 have hzl : (Builtin.zeroCells ((.agg #[.string (⟨#[]⟩ : ByteArray), .string (⟨#[]⟩ : ByteArray)]) : Value).cells 1).toList.length = 2 := by rw [Array.length_toList, size_zeroCells]; rfl
 generalize (Builtin.zeroCells ((.agg #[.string (⟨#[]⟩ : ByteArray), .string (⟨#[]⟩ : ByteArray)]) : Value).cells 1).toList = Zc at st hzl
 have st : St m (opc (some ⟨b, 0, none⟩) (acellsM (fun x : ByteArray × ByteArray => ([.string x.1, .string x.2] : List Value)) (List.take i l ++ List.drop (i + 1) l) (Zc ++ R.drop 2)) 66 :: own) w6 := st
 obtain ⟨m1, hle1, st, r1⟩ := St.freezeM (c := (cPair cStr cStr)) (f := (fun x : ByteArray × ByteArray => ([.string x.1, .string x.2] : List Value))) (nn := List.length l - 1) (cc := cap) st ⟨by omega, hs.2.1, rfl, (show (List.length l - 1) * 2 + List.length (Zc ++ R.drop 2) = cap * 2 by simp only [List.length_append, List.length_drop, hzl]; omega)⟩ hlen (fun _ => rfl) (fun _ x => ⟨_, _, rfl, rfl, rfl⟩)
 rw [hlen] at st ⊢
 exact ⟨_, cap, m1, rfl, Mem.le_trans hm hle1, st, r1⟩

theorem slices_Delete_api_File_api_File_ok2 {m : Mem} {own : List Piece} {w : World} {l r : List (ByteArray × ByteArray)} {ix jx : Int} {a : Option Addr} {cap nn : Nat} {T : List Value} (st : St m (opc a (acellsM (fun x : ByteArray × ByteArray => ([.string x.1, .string x.2] : List Value)) l T) 66 :: own) w) (hs : OAS a nn cap 2 T) (hn : List.length l = nn) (hr : deleteS l ix jx = some r) :
  Calls Go.Proofs.Tryd.prog 64 #[.slice a nn cap, .int .i64 ix, .int .i64 jx] w fun e w' => ∃ (ra1 : Option Addr) (rc1 : Nat) (m' : Mem), e = .returned (.slice ra1 (List.length r) rc1) ∧ m.le m' ∧ St m' (.room ra1 (List.length r) rc1 66 2 :: own) w' ∧ RepS (cPair cStr cStr) m' ra1 rc1 r := by
 obtain ⟨i, rfl, rfl, h2, h3, rfl⟩ := deleteS_some hr
 exact slices_Delete_api_File_api_File_own st hs hn h2 h3

def revision_Remove (N : Nat) (p0 : (List (ByteArray × ByteArray))) (p1 : ByteArray) : Option (((List (ByteArray × ByteArray))) × Int) :=
 (revision_Check N p0).bind fun y1 => if (y1 != 0) = true then (some (([] : List (ByteArray × ByteArray)), y1)) else ((revision_at N p0 p1).bind fun y2 => if (!y2.2) = true then (some (([] : List (ByteArray × ByteArray)), 18)) else ((slices_Clone_api_File_api_File_O p0).bind fun y3 => (deleteS y3 y2.1 (IntKind.wrap .i64 (y2.1 + 1))).bind fun y4 => some (y4, 0)))

set_option maxHeartbeats 4000000 in
set_option maxRecDepth 100000 in
theorem revision_Remove_ok {N : Nat} {m : Mem} {own : List Piece} {w : World} {p0 : (List (ByteArray × ByteArray))} {p1 : ByteArray} {a1 : Option Addr} {c1 : Nat} {r : ((List (ByteArray × ByteArray))) × Int} (st : St m (own) w) (r1 : RepS (cPair cStr cStr) m a1 c1 p0) (hr : revision_Remove N p0 p1 = some r) : Calls Go.Proofs.Tryd.prog 36 #[.agg #[.slice a1 (List.length p0) c1], .string p1] w fun e w' => ∃ (ra1 : Option Addr) (rc1 : Nat) (m' : Mem), e = .returned (.tuple #[.agg #[.slice ra1 (List.length r.1) rc1], .int .i64 r.2]) ∧ m.le m' ∧ St m' (.room ra1 (List.length r.1) rc1 66 2 :: own) w' ∧ RepS (cPair cStr cStr) m' ra1 rc1 r.1 := by
 unfold revision_Remove at hr
 have hm := m.le_refl
 refine W_calls Go.Proofs.Tryd.func36 rfl Go.Proofs.Tryd.ntmps36 [(0, .agg #[.slice a1 (List.length p0) c1]), (1, .string p1)] (by kernel_rfl) rfl ?_
 refine W_sr ?_
 refine WO_one rfl (One_box (d := 2) (e := 47) (x := (.tmp 0)) (.agg #[.slice a1 (List.length p0) c1]) (by kernel_rfl) rfl (by kernel_rfl) st ?_)
 clear st
 intro b1 m1 w1 hle1 st hb1
 have hm := Mem.le_trans hm hle1
 have r1 := r1.mono hle1
 refine WO_one rfl (One_alloc (d := 4) (e := 47) (.agg #[.slice none 0 0]) (by kernel_rfl) rfl (by kernel_rfl) st ?_)
 clear st
 intro b2 w2 st
 refine WO_seg 1 [] (by kernel_rfl) (by kernel_rfl) ?_
 refine WO_et rfl ?_
 refine W_seq ?_
 refine W_sr ?_
 refine WO_one rfl (One_load_row (d := 9) (t := 47) (x := (.tmp 2)) (.agg #[.slice a1 (List.length p0) c1]) (by kernel_rfl) rfl (show evL _ _ = some (.pointer (some ⟨b1, 0, none⟩)) from (by kernel_rfl)) st hb1 (by kernel_rfl) ?_)
 replace hr := bindS hr
 obtain ⟨y1, hx1, hr⟩ := hr
 refine WO_one rfl (One_fn 10 26 #[.agg #[.slice a1 (List.length p0) c1]] (by kernel_rfl) rfl ?_)
 refine (revision_Check_ok st r1 hx1).mono ?_
 clear st
 rintro _ w3 ⟨m2, rfl, hle2, st⟩
 refine ⟨_, rfl, ?_⟩
 have hm := Mem.le_trans hm hle2
 have hb1 := hb1.mono hle2
 have r1 := r1.mono hle2
 refine WO_seg 1 [(6, .int .i64 y1)] (by kernel_rfl) (by kernel_rfl) ?_
 refine WO_et rfl ?_
 refine W_sr ?_
 refine WO_seg 2 [(12, .bool (y1 != 0))] (by kernel_rfl) (by kernel_rfl) ?_
 refine WO_et rfl ?_
 refine W_cond (y1 != 0) (by kernel_rfl) ?_ ?_
 ·intro hc
  rw [if_pos hc] at hr
  refine W_sr ?_
  refine WO_seg 2 [(13, .agg #[.slice none (List.length ([] : List (ByteArray × ByteArray))) 0]), (14, .int .i64 y1)] (by kernel_rfl) (by kernel_rfl) ?_
  refine WO_one rfl (One_store (t := 47) (x := (.tmp 4)) (y := (.tmp 13)) (v := .agg #[.slice none (List.length ([] : List (ByteArray × ByteArray))) 0]) (c' := #[.slice none (List.length ([] : List (ByteArray × ByteArray))) 0]) (by kernel_rfl) (show evL _ _ = some (.pointer (some ⟨b2, 0, none⟩)) from (by kernel_rfl)) (show evL _ _ = some (.agg #[.slice none (List.length ([] : List (ByteArray × ByteArray))) 0]) from (by kernel_rfl)) st (by kernel_rfl) (by kernel_rfl) ?_)
  clear st
  intro w4 st
  refine WO_seg 1 [(5, .int .i64 y1)] (by kernel_rfl) (by kernel_rfl) ?_
  refine WO_et rfl ?_
  refine W_ret ?_
  refine X_then_ret ?_
  obtain rfl := Option.some.inj hr
  refine X_ret [.cell 4 47, .tmp 5] [.agg #[.slice none (List.length ([] : List (ByteArray × ByteArray))) 0], .int .i64 y1] rfl (ResAll.cons (ResAt.blk (v := .agg #[.slice none (List.length ([] : List (ByteArray × ByteArray))) 0]) (o := 0) (by kernel_rfl) st.head (by kernel_rfl)) (ResAll.cons (ResAt.tmp (by kernel_rfl)) ResAll.nil)) ?_
  have st := st.nilroom 66 2
  have st := st.front1
  have st := st.tail
  exact ⟨none, 0, m2, rfl, hm, st, (RepS.nil _ _)⟩
 ·intro hc
  rw [if_neg (not_true hc)] at hr
  refine W_skip ?_
  refine X_then ?_
  refine W_sr ?_
  refine WO_one rfl (One_load_row (d := 16) (t := 47) (x := (.tmp 2)) (.agg #[.slice a1 (List.length p0) c1]) (by kernel_rfl) rfl (show evL _ _ = some (.pointer (some ⟨b1, 0, none⟩)) from (by kernel_rfl)) st hb1 (by kernel_rfl) ?_)
  refine WO_seg 1 [(17, .string p1)] (by kernel_rfl) (by kernel_rfl) ?_
  replace hr := bindS hr
  obtain ⟨y2, hx2, hr⟩ := hr
  refine WO_one rfl (One_fn 18 58 #[.agg #[.slice a1 (List.length p0) c1], .string p1] (by kernel_rfl) rfl ?_)
  refine (revision_at_ok st r1 hx2).mono ?_
  clear st
  rintro _ w5 ⟨m3, rfl, hle3, st⟩
  refine ⟨_, rfl, ?_⟩
  have hm := Mem.le_trans hm hle3
  have hb1 := hb1.mono hle3
  have r1 := r1.mono hle3
  refine WO_seg 5 [(7, .int .i64 y2.1), (8, .bool y2.2)] (by kernel_rfl) (by kernel_rfl) ?_
  refine WO_et rfl ?_
  refine W_seq ?_
  refine W_sr ?_
  refine WO_seg 2 [(22, .bool (!y2.2))] (by kernel_rfl) (by kernel_rfl) ?_
  refine WO_et rfl ?_
  refine W_cond (!y2.2) (by kernel_rfl) ?_ ?_
  ·intro hc
   rw [if_pos hc] at hr
   refine W_sr ?_
   refine WO_seg 1 [(23, .agg #[.slice none (List.length ([] : List (ByteArray × ByteArray))) 0])] (by kernel_rfl) (by kernel_rfl) ?_
   refine WO_one rfl (One_store (t := 47) (x := (.tmp 4)) (y := (.tmp 23)) (v := .agg #[.slice none (List.length ([] : List (ByteArray × ByteArray))) 0]) (c' := #[.slice none (List.length ([] : List (ByteArray × ByteArray))) 0]) (by kernel_rfl) (show evL _ _ = some (.pointer (some ⟨b2, 0, none⟩)) from (by kernel_rfl)) (show evL _ _ = some (.agg #[.slice none (List.length ([] : List (ByteArray × ByteArray))) 0]) from (by kernel_rfl)) st (by kernel_rfl) (by kernel_rfl) ?_)
   clear st
   intro w6 st
   refine WO_seg 1 [(5, .int .i64 18)] (by kernel_rfl) (by kernel_rfl) ?_
   refine WO_et rfl ?_
   refine W_ret ?_
   refine X_then_ret ?_
   obtain rfl := Option.some.inj hr
   refine X_ret [.cell 4 47, .tmp 5] [.agg #[.slice none (List.length ([] : List (ByteArray × ByteArray))) 0], .int .i64 18] rfl (ResAll.cons (ResAt.blk (v := .agg #[.slice none (List.length ([] : List (ByteArray × ByteArray))) 0]) (o := 0) (by kernel_rfl) st.head (by kernel_rfl)) (ResAll.cons (ResAt.tmp (by kernel_rfl)) ResAll.nil)) ?_
   have st := st.nilroom 66 2
   have st := st.front1
   have st := st.tail
   exact ⟨none, 0, m3, rfl, hm, st, (RepS.nil _ _)⟩
  ·intro hc
   rw [if_neg (not_true hc)] at hr
   refine W_skip ?_
   refine X_then ?_
   refine W_sr ?_
   refine WO_seg 1 [(24, .pointer (some ⟨b1, 0, none⟩))] (by kernel_rfl) (by kernel_rfl) ?_
   refine WO_one rfl (One_load_row (d := 25) (t := 45) (x := (.tmp 24)) (.slice a1 (List.length p0) c1) (by kernel_rfl) rfl (show evL _ _ = some (.pointer (some ⟨b1, 0, none⟩)) from (by kernel_rfl)) st hb1 (by kernel_rfl) ?_)
   replace hr := bindS hr
   obtain ⟨y3, hx3, hr⟩ := hr
   refine WO_one rfl (One_fn 26 60 #[.slice a1 (List.length p0) c1] (by kernel_rfl) rfl ?_)
   refine (slices_Clone_api_File_api_File_own st r1 hx3).mono ?_
   clear st
   rintro _ w7 ⟨a2, c2, T1, m4, rfl, hle4, hs1, st⟩
   refine ⟨_, rfl, ?_⟩
   have hm := Mem.le_trans hm hle4
   have hb1 := hb1.mono hle4
   have r1 := r1.mono hle4
   refine WO_seg 3 [(27, .int .i64 y2.1), (29, .int .i64 (IntKind.wrap .i64 (y2.1 + 1)))] (by kernel_rfl) (by kernel_rfl) ?_
   replace hr := bindS hr
   obtain ⟨y4, hx4, hr⟩ := hr
   refine WO_one rfl (One_fn 30 64 #[.slice a2 (List.length y3) c2, .int .i64 y2.1, .int .i64 (IntKind.wrap .i64 (y2.1 + 1))] (by kernel_rfl) rfl ?_)
   refine (slices_Delete_api_File_api_File_ok2 st hs1 rfl hx4).mono ?_
   clear st
   rintro _ w8 ⟨a3, c3, m5, rfl, hle5, st, r2⟩
   refine ⟨_, rfl, ?_⟩
   have hm := Mem.le_trans hm hle5
   have hb1 := hb1.mono hle5
   have r1 := r1.mono hle5
   refine WO_seg 1 [(31, .agg #[.slice a3 (List.length y4) c3])] (by kernel_rfl) (by kernel_rfl) ?_
   have st := st.front1
   refine WO_one rfl (One_store (t := 47) (x := (.tmp 4)) (y := (.tmp 31)) (v := .agg #[.slice a3 (List.length y4) c3]) (c' := #[.slice a3 (List.length y4) c3]) (by kernel_rfl) (show evL _ _ = some (.pointer (some ⟨b2, 0, none⟩)) from (by kernel_rfl)) (show evL _ _ = some (.agg #[.slice a3 (List.length y4) c3]) from (by kernel_rfl)) st (by kernel_rfl) (by kernel_rfl) ?_)
   clear st
   intro w9 st
   refine WO_seg 1 [(5, .int .i64 0)] (by kernel_rfl) (by kernel_rfl) ?_
   refine WO_et rfl ?_
   refine W_ret ?_
   obtain rfl := Option.some.inj hr
   refine X_ret [.cell 4 47, .tmp 5] [.agg #[.slice a3 (List.length y4) c3], .int .i64 0] rfl (ResAll.cons (ResAt.blk (v := .agg #[.slice a3 (List.length y4) c3]) (o := 0) (by kernel_rfl) st.head (by kernel_rfl)) (ResAll.cons (ResAt.tmp (by kernel_rfl)) ResAll.nil)) ?_
   have st := st.tail
   exact ⟨a3, c3, m5, rfl, hm, st, r2⟩

def revision_Move (N : Nat) (p0 : (List (ByteArray × ByteArray))) (p1 : ByteArray) (p2 : ByteArray) : Option (((List (ByteArray × ByteArray))) × Int) :=
 (revision_Check N p0).bind fun y1 => if (y1 != 0) = true then (some (([] : List (ByteArray × ByteArray)), y1)) else ((lexer_Path N p2).bind fun y2 => if (!y2) = true then (some (([] : List (ByteArray × ByteArray)), 6)) else ((revision_Find N p0 p1).bind fun y3 => if (!y3.2) = true then (some (([] : List (ByteArray × ByteArray)), 18)) else ((revision_at N p0 p2).bind fun y4 => if y4.2 = true then (some (([] : List (ByteArray × ByteArray)), 19)) else ((revision_Remove N p0 p1).bind fun y5 => (revision_Put N y5.1 p2 y3.1).bind fun y6 => some (y6.1, y6.2)))))

set_option maxHeartbeats 4000000 in
set_option maxRecDepth 100000 in
theorem revision_Move_ok {N : Nat} {m : Mem} {own : List Piece} {w : World} {p0 : (List (ByteArray × ByteArray))} {p1 : ByteArray} {p2 : ByteArray} {a1 : Option Addr} {c1 : Nat} {r : ((List (ByteArray × ByteArray))) × Int} (st : St m (own) w) (r1 : RepS (cPair cStr cStr) m a1 c1 p0) (hr : revision_Move N p0 p1 p2 = some r) : Calls Go.Proofs.Tryd.prog 38 #[.agg #[.slice a1 (List.length p0) c1], .string p1, .string p2] w fun e w' => ∃ (ra1 : Option Addr) (rc1 : Nat) (m' : Mem), e = .returned (.tuple #[.agg #[.slice ra1 (List.length r.1) rc1], .int .i64 r.2]) ∧ m.le m' ∧ St m' (.room ra1 (List.length r.1) rc1 66 2 :: own) w' ∧ RepS (cPair cStr cStr) m' ra1 rc1 r.1 := by
 unfold revision_Move at hr
 have hm := m.le_refl
 refine W_calls Go.Proofs.Tryd.func38 rfl Go.Proofs.Tryd.ntmps38 [(0, .agg #[.slice a1 (List.length p0) c1]), (1, .string p1), (2, .string p2)] (by kernel_rfl) rfl ?_
 refine W_sr ?_
 refine WO_one rfl (One_box_own (d := 3) (e := 47) (x := (.tmp 0)) (.agg #[.slice a1 (List.length p0) c1]) (by kernel_rfl) rfl (by kernel_rfl) st ?_)
 clear st
 intro b1 w1 st
 refine WO_one rfl (One_alloc (d := 6) (e := 47) (.agg #[.slice none 0 0]) (by kernel_rfl) rfl (by kernel_rfl) st ?_)
 clear st
 intro b2 w2 st
 refine WO_seg 1 [] (by kernel_rfl) (by kernel_rfl) ?_
 refine WO_et rfl ?_
 refine W_seq ?_
 refine W_sr ?_
 refine WO_one rfl (One_load_own (d := 13) (t := 47) (x := (.tmp 3)) (.agg #[.slice a1 (List.length p0) c1]) (by kernel_rfl) rfl (show evL _ _ = some (.pointer (some ⟨b1, 0, none⟩)) from (by kernel_rfl)) st.tail.head (by kernel_rfl) ?_)
 replace hr := bindS hr
 obtain ⟨y1, hx1, hr⟩ := hr
 refine WO_one rfl (One_fn 14 26 #[.agg #[.slice a1 (List.length p0) c1]] (by kernel_rfl) rfl ?_)
 refine (revision_Check_ok st r1 hx1).mono ?_
 clear st
 rintro _ w3 ⟨m2, rfl, hle2, st⟩
 refine ⟨_, rfl, ?_⟩
 have hm := Mem.le_trans hm hle2
 have r1 := r1.mono hle2
 refine WO_seg 1 [(8, .int .i64 y1)] (by kernel_rfl) (by kernel_rfl) ?_
 refine WO_et rfl ?_
 refine W_sr ?_
 refine WO_seg 2 [(16, .bool (y1 != 0))] (by kernel_rfl) (by kernel_rfl) ?_
 refine WO_et rfl ?_
 refine W_cond (y1 != 0) (by kernel_rfl) ?_ ?_
 ·intro hc
  rw [if_pos hc] at hr
  refine W_sr ?_
  refine WO_seg 2 [(17, .agg #[.slice none (List.length ([] : List (ByteArray × ByteArray))) 0]), (18, .int .i64 y1)] (by kernel_rfl) (by kernel_rfl) ?_
  refine WO_one rfl (One_store (t := 47) (x := (.tmp 6)) (y := (.tmp 17)) (v := .agg #[.slice none (List.length ([] : List (ByteArray × ByteArray))) 0]) (c' := #[.slice none (List.length ([] : List (ByteArray × ByteArray))) 0]) (by kernel_rfl) (show evL _ _ = some (.pointer (some ⟨b2, 0, none⟩)) from (by kernel_rfl)) (show evL _ _ = some (.agg #[.slice none (List.length ([] : List (ByteArray × ByteArray))) 0]) from (by kernel_rfl)) st (by kernel_rfl) (by kernel_rfl) ?_)
  clear st
  intro w4 st
  refine WO_seg 1 [(7, .int .i64 y1)] (by kernel_rfl) (by kernel_rfl) ?_
  refine WO_et rfl ?_
  refine W_ret ?_
  refine X_then_ret ?_
  obtain rfl := Option.some.inj hr
  refine X_ret [.cell 6 47, .tmp 7] [.agg #[.slice none (List.length ([] : List (ByteArray × ByteArray))) 0], .int .i64 y1] rfl (ResAll.cons (ResAt.blk (v := .agg #[.slice none (List.length ([] : List (ByteArray × ByteArray))) 0]) (o := 0) (by kernel_rfl) st.head (by kernel_rfl)) (ResAll.cons (ResAt.tmp (by kernel_rfl)) ResAll.nil)) ?_
  have st := st.nilroom 66 2
  have st := st.front1
  have st := st.tail
  have st := st.front1
  have st := st.tail
  exact ⟨none, 0, m2, rfl, hm, st, (RepS.nil _ _)⟩
 ·intro hc
  rw [if_neg (not_true hc)] at hr
  refine W_skip ?_
  refine X_then ?_
  refine W_seq ?_
  refine W_sr ?_
  refine WO_seg 1 [(19, .string p2)] (by kernel_rfl) (by kernel_rfl) ?_
  replace hr := bindS hr
  obtain ⟨y2, hx2, hr⟩ := hr
  refine WO_one rfl (One_fn 20 17 #[.string p2] (by kernel_rfl) rfl ?_)
  refine (lexer_Path_ok st hx2).mono ?_
  clear st
  rintro _ w5 ⟨m3, rfl, hle3, st⟩
  refine ⟨_, rfl, ?_⟩
  have hm := Mem.le_trans hm hle3
  have r1 := r1.mono hle3
  refine WO_seg 1 [(21, .bool (!y2))] (by kernel_rfl) (by kernel_rfl) ?_
  refine WO_et rfl ?_
  refine W_cond (!y2) (by kernel_rfl) ?_ ?_
  ·intro hc
   rw [if_pos hc] at hr
   refine W_sr ?_
   refine WO_seg 1 [(22, .agg #[.slice none (List.length ([] : List (ByteArray × ByteArray))) 0])] (by kernel_rfl) (by kernel_rfl) ?_
   refine WO_one rfl (One_store (t := 47) (x := (.tmp 6)) (y := (.tmp 22)) (v := .agg #[.slice none (List.length ([] : List (ByteArray × ByteArray))) 0]) (c' := #[.slice none (List.length ([] : List (ByteArray × ByteArray))) 0]) (by kernel_rfl) (show evL _ _ = some (.pointer (some ⟨b2, 0, none⟩)) from (by kernel_rfl)) (show evL _ _ = some (.agg #[.slice none (List.length ([] : List (ByteArray × ByteArray))) 0]) from (by kernel_rfl)) st (by kernel_rfl) (by kernel_rfl) ?_)
   clear st
   intro w6 st
   refine WO_seg 1 [(7, .int .i64 6)] (by kernel_rfl) (by kernel_rfl) ?_
   refine WO_et rfl ?_
   refine W_ret ?_
   refine X_then_ret ?_
   obtain rfl := Option.some.inj hr
   refine X_ret [.cell 6 47, .tmp 7] [.agg #[.slice none (List.length ([] : List (ByteArray × ByteArray))) 0], .int .i64 6] rfl (ResAll.cons (ResAt.blk (v := .agg #[.slice none (List.length ([] : List (ByteArray × ByteArray))) 0]) (o := 0) (by kernel_rfl) st.head (by kernel_rfl)) (ResAll.cons (ResAt.tmp (by kernel_rfl)) ResAll.nil)) ?_
   have st := st.nilroom 66 2
   have st := st.front1
   have st := st.tail
   have st := st.front1
   have st := st.tail
   exact ⟨none, 0, m3, rfl, hm, st, (RepS.nil _ _)⟩
  ·intro hc
   rw [if_neg (not_true hc)] at hr
   refine W_skip ?_
   refine X_then ?_
   refine W_sr ?_
   refine WO_one rfl (One_load_own (d := 24) (t := 47) (x := (.tmp 3)) (.agg #[.slice a1 (List.length p0) c1]) (by kernel_rfl) rfl (show evL _ _ = some (.pointer (some ⟨b1, 0, none⟩)) from (by kernel_rfl)) st.tail.head (by kernel_rfl) ?_)
   refine WO_seg 1 [(25, .string p1)] (by kernel_rfl) (by kernel_rfl) ?_
   replace hr := bindS hr
   obtain ⟨y3, hx3, hr⟩ := hr
   refine WO_one rfl (One_fn 26 30 #[.agg #[.slice a1 (List.length p0) c1], .string p1] (by kernel_rfl) rfl ?_)
   refine (revision_Find_ok st r1 hx3).mono ?_
   clear st
   rintro _ w7 ⟨m4, rfl, hle4, st⟩
   refine ⟨_, rfl, ?_⟩
   have hm := Mem.le_trans hm hle4
   have r1 := r1.mono hle4
   refine WO_seg 5 [(9, .string y3.1), (10, .bool y3.2)] (by kernel_rfl) (by kernel_rfl) ?_
   refine WO_et rfl ?_
   refine W_seq ?_
   refine W_sr ?_
   refine WO_seg 2 [(30, .bool (!y3.2))] (by kernel_rfl) (by kernel_rfl) ?_
   refine WO_et rfl ?_
   refine W_cond (!y3.2) (by kernel_rfl) ?_ ?_
   ·intro hc
    rw [if_pos hc] at hr
    refine W_sr ?_
    refine WO_seg 1 [(31, .agg #[.slice none (List.length ([] : List (ByteArray × ByteArray))) 0])] (by kernel_rfl) (by kernel_rfl) ?_
    refine WO_one rfl (One_store (t := 47) (x := (.tmp 6)) (y := (.tmp 31)) (v := .agg #[.slice none (List.length ([] : List (ByteArray × ByteArray))) 0]) (c' := #[.slice none (List.length ([] : List (ByteArray × ByteArray))) 0]) (by kernel_rfl) (show evL _ _ = some (.pointer (some ⟨b2, 0, none⟩)) from (by kernel_rfl)) (show evL _ _ = some (.agg #[.slice none (List.length ([] : List (ByteArray × ByteArray))) 0]) from (by kernel_rfl)) st (by kernel_rfl) (by kernel_rfl) ?_)
    clear st
    intro w8 st
    refine WO_seg 1 [(7, .int .i64 18)] (by kernel_rfl) (by kernel_rfl) ?_
    refine WO_et rfl ?_
    refine W_ret ?_
    refine X_then_ret ?_
    obtain rfl := Option.some.inj hr
    refine X_ret [.cell 6 47, .tmp 7] [.agg #[.slice none (List.length ([] : List (ByteArray × ByteArray))) 0], .int .i64 18] rfl (ResAll.cons (ResAt.blk (v := .agg #[.slice none (List.length ([] : List (ByteArray × ByteArray))) 0]) (o := 0) (by kernel_rfl) st.head (by kernel_rfl)) (ResAll.cons (ResAt.tmp (by kernel_rfl)) ResAll.nil)) ?_
    have st := st.nilroom 66 2
    have st := st.front1
    have st := st.tail
    have st := st.front1
    have st := st.tail
    exact ⟨none, 0, m4, rfl, hm, st, (RepS.nil _ _)⟩
   ·intro hc
    rw [if_neg (not_true hc)] at hr
    refine W_skip ?_
    refine X_then ?_
    refine W_seq ?_
    refine W_sr ?_
    refine WO_one rfl (One_load_own (d := 33) (t := 47) (x := (.tmp 3)) (.agg #[.slice a1 (List.length p0) c1]) (by kernel_rfl) rfl (show evL _ _ = some (.pointer (some ⟨b1, 0, none⟩)) from (by kernel_rfl)) st.tail.head (by kernel_rfl) ?_)
    refine WO_seg 1 [(34, .string p2)] (by kernel_rfl) (by kernel_rfl) ?_
    replace hr := bindS hr
    obtain ⟨y4, hx4, hr⟩ := hr
    refine WO_one rfl (One_fn 35 58 #[.agg #[.slice a1 (List.length p0) c1], .string p2] (by kernel_rfl) rfl ?_)
    refine (revision_at_ok st r1 hx4).mono ?_
    clear st
    rintro _ w9 ⟨m5, rfl, hle5, st⟩
    refine ⟨_, rfl, ?_⟩
    have hm := Mem.le_trans hm hle5
    have r1 := r1.mono hle5
    refine WO_seg 5 [(12, .bool y4.2)] (by kernel_rfl) (by kernel_rfl) ?_
    refine WO_et rfl ?_
    refine W_sr ?_
    refine WO_seg 1 [(38, .bool y4.2)] (by kernel_rfl) (by kernel_rfl) ?_
    refine WO_et rfl ?_
    refine W_cond y4.2 (by kernel_rfl) ?_ ?_
    ·intro hc
     rw [if_pos hc] at hr
     refine W_sr ?_
     refine WO_seg 1 [(39, .agg #[.slice none (List.length ([] : List (ByteArray × ByteArray))) 0])] (by kernel_rfl) (by kernel_rfl) ?_
     refine WO_one rfl (One_store (t := 47) (x := (.tmp 6)) (y := (.tmp 39)) (v := .agg #[.slice none (List.length ([] : List (ByteArray × ByteArray))) 0]) (c' := #[.slice none (List.length ([] : List (ByteArray × ByteArray))) 0]) (by kernel_rfl) (show evL _ _ = some (.pointer (some ⟨b2, 0, none⟩)) from (by kernel_rfl)) (show evL _ _ = some (.agg #[.slice none (List.length ([] : List (ByteArray × ByteArray))) 0]) from (by kernel_rfl)) st (by kernel_rfl) (by kernel_rfl) ?_)
     clear st
     intro w10 st
     refine WO_seg 1 [(7, .int .i64 19)] (by kernel_rfl) (by kernel_rfl) ?_
     refine WO_et rfl ?_
     refine W_ret ?_
     refine X_then_ret ?_
     obtain rfl := Option.some.inj hr
     refine X_ret [.cell 6 47, .tmp 7] [.agg #[.slice none (List.length ([] : List (ByteArray × ByteArray))) 0], .int .i64 19] rfl (ResAll.cons (ResAt.blk (v := .agg #[.slice none (List.length ([] : List (ByteArray × ByteArray))) 0]) (o := 0) (by kernel_rfl) st.head (by kernel_rfl)) (ResAll.cons (ResAt.tmp (by kernel_rfl)) ResAll.nil)) ?_
     have st := st.nilroom 66 2
     have st := st.front1
     have st := st.tail
     have st := st.front1
     have st := st.tail
     exact ⟨none, 0, m5, rfl, hm, st, (RepS.nil _ _)⟩
    ·intro hc
     rw [if_neg (not_true hc)] at hr
     refine W_skip ?_
     refine X_then ?_
     refine W_sr ?_
     refine WO_one rfl (One_load_own (d := 41) (t := 47) (x := (.tmp 3)) (.agg #[.slice a1 (List.length p0) c1]) (by kernel_rfl) rfl (show evL _ _ = some (.pointer (some ⟨b1, 0, none⟩)) from (by kernel_rfl)) st.tail.head (by kernel_rfl) ?_)
     refine WO_seg 1 [(42, .string p1)] (by kernel_rfl) (by kernel_rfl) ?_
     replace hr := bindS hr
     obtain ⟨y5, hx5, hr⟩ := hr
     refine WO_one rfl (One_fn 43 36 #[.agg #[.slice a1 (List.length p0) c1], .string p1] (by kernel_rfl) rfl ?_)
     refine (revision_Remove_ok st r1 hx5).mono ?_
     clear st
     rintro _ w11 ⟨a2, c2, m6, rfl, hle6, st, r2⟩
     refine ⟨_, rfl, ?_⟩
     have hm := Mem.le_trans hm hle6
     have r1 := r1.mono hle6
     refine WO_seg 3 [(44, .agg #[.slice a2 (List.length y5.1) c2])] (by kernel_rfl) (by kernel_rfl) ?_
     have st := st.front2
     refine WO_one rfl (One_store (t := 47) (x := (.tmp 3)) (y := (.tmp 44)) (v := .agg #[.slice a2 (List.length y5.1) c2]) (c' := #[.slice a2 (List.length y5.1) c2]) (by kernel_rfl) (show evL _ _ = some (.pointer (some ⟨b1, 0, none⟩)) from (by kernel_rfl)) (show evL _ _ = some (.agg #[.slice a2 (List.length y5.1) c2]) from (by kernel_rfl)) st (by kernel_rfl) (by kernel_rfl) ?_)
     clear st
     intro w12 st
     refine WO_et rfl ?_
     refine W_sr ?_
     refine WO_one rfl (One_load_own (d := 46) (t := 47) (x := (.tmp 3)) (.agg #[.slice a2 (List.length y5.1) c2]) (by kernel_rfl) rfl (show evL _ _ = some (.pointer (some ⟨b1, 0, none⟩)) from (by kernel_rfl)) st.head (by kernel_rfl) ?_)
     refine WO_seg 2 [(47, .string p2), (48, .string y3.1)] (by kernel_rfl) (by kernel_rfl) ?_
     replace hr := bindS hr
     obtain ⟨y6, hx6, hr⟩ := hr
     refine WO_one rfl (One_fn 49 34 #[.agg #[.slice a2 (List.length y5.1) c2], .string p2, .string y3.1] (by kernel_rfl) rfl ?_)
     refine (revision_Put_ok st r2 hx6).mono ?_
     clear st
     rintro _ w13 ⟨a3, c3, m7, rfl, hle7, st, r3⟩
     refine ⟨_, rfl, ?_⟩
     have hm := Mem.le_trans hm hle7
     have r2 := r2.mono hle7
     refine WO_seg 2 [(50, .agg #[.slice a3 (List.length y6.1) c3]), (51, .int .i64 y6.2)] (by kernel_rfl) (by kernel_rfl) ?_
     have st := st.front3
     refine WO_one rfl (One_store (t := 47) (x := (.tmp 6)) (y := (.tmp 50)) (v := .agg #[.slice a3 (List.length y6.1) c3]) (c' := #[.slice a3 (List.length y6.1) c3]) (by kernel_rfl) (show evL _ _ = some (.pointer (some ⟨b2, 0, none⟩)) from (by kernel_rfl)) (show evL _ _ = some (.agg #[.slice a3 (List.length y6.1) c3]) from (by kernel_rfl)) st (by kernel_rfl) (by kernel_rfl) ?_)
     clear st
     intro w14 st
     refine WO_seg 1 [(7, .int .i64 y6.2)] (by kernel_rfl) (by kernel_rfl) ?_
     refine WO_et rfl ?_
     refine W_ret ?_
     obtain rfl := Option.some.inj hr
     refine X_ret [.cell 6 47, .tmp 7] [.agg #[.slice a3 (List.length y6.1) c3], .int .i64 y6.2] rfl (ResAll.cons (ResAt.blk (v := .agg #[.slice a3 (List.length y6.1) c3]) (o := 0) (by kernel_rfl) st.head (by kernel_rfl)) (ResAll.cons (ResAt.tmp (by kernel_rfl)) ResAll.nil)) ?_
     have st := st.tail
     have st := st.front1
     have st := st.tail
     have st := st.front1
     have st := st.tail
     exact ⟨a3, c3, m7, rfl, hm, st, r3⟩

def slices_Equal_api_File_api_File_L1 (N : Nat) (p0 : List (ByteArray × ByteArray)) (p1 : List (ByteArray × ByteArray)) (s1 : Int) : Option ((Int) ⊕ ((Unit) ⊕ (Bool))) :=
 if (decide (s1 < (List.length p0 : Int))) = true then ((idx p0 s1).bind fun x1 => (idx p1 s1).bind fun x2 => if (!((x1.1.toList == x2.1.toList) && ((x1.2.toList == x2.2.toList) && true))) = true then (some (.inr (.inr (false)))) else (some (.inl (IntKind.wrap .i64 (s1 + 1))))) else (some (.inr (.inl ())))

def slices_Equal_api_File_api_File (N : Nat) (p0 : List (ByteArray × ByteArray)) (p1 : List (ByteArray × ByteArray)) : Option (Bool) :=
 if ((List.length p0 : Int) != (List.length p1 : Int)) = true then (some false) else ((loopM (slices_Equal_api_File_api_File_L1 N p0 p1) N 0).bind fun out1 => (match out1 with | .inl o1 => some true | .inr (z) => some z))

set_option maxHeartbeats 4000000 in
set_option maxRecDepth 100000 in
theorem slices_Equal_api_File_api_File_ok {N : Nat} {m : Mem} {own : List Piece} {w : World} {p0 : List (ByteArray × ByteArray)} {p1 : List (ByteArray × ByteArray)} {a1 : Option Addr} {c1 : Nat} {a2 : Option Addr} {c2 : Nat} {r : Bool} (st : St m (own) w) (r1 : RepS (cPair cStr cStr) m a1 c1 p0) (r2 : RepS (cPair cStr cStr) m a2 c2 p1) (hr : slices_Equal_api_File_api_File N p0 p1 = some r) : Calls Go.Proofs.Tryd.prog 57 #[.slice a1 (List.length p0) c1, .slice a2 (List.length p1) c2] w fun e w' => ∃ (m' : Mem), e = .returned (.bool r) ∧ m.le m' ∧ St m' (own) w' := by
 unfold slices_Equal_api_File_api_File at hr
 have hm := m.le_refl
 refine W_calls Go.Proofs.Tryd.func57 rfl Go.Proofs.Tryd.ntmps57 [(0, .slice a1 (List.length p0) c1), (1, .slice a2 (List.length p1) c2)] (by kernel_rfl) rfl ?_
 refine W_sr ?_
 refine WO_seg 1 [] (by kernel_rfl) (by kernel_rfl) ?_
 refine WO_et rfl ?_
 refine W_seq ?_
 refine W_sr ?_
 refine WO_seg 5 [(10, .bool ((List.length p0 : Int) != (List.length p1 : Int)))] (by kernel_rfl) (by kernel_rfl) ?_
 refine WO_et rfl ?_
 refine W_cond ((List.length p0 : Int) != (List.length p1 : Int)) (by kernel_rfl) ?_ ?_
 ·intro hc
  rw [if_pos hc] at hr
  refine W_sr ?_
  refine WO_seg 1 [(4, .bool false)] (by kernel_rfl) (by kernel_rfl) ?_
  refine WO_et rfl ?_
  refine W_ret ?_
  refine X_then_ret ?_
  obtain rfl := Option.some.inj hr
  refine X_ret [.tmp 4] [.bool false] rfl (ResAll.cons (ResAt.tmp (by kernel_rfl)) ResAll.nil) ?_
  exact ⟨m, rfl, hm, st⟩
 ·intro hc
  rw [if_neg (not_true hc)] at hr
  refine W_skip ?_
  refine X_then ?_
  refine W_seq ?_
  refine W_sr ?_
  refine WO_seg 3 [(12, .int .i64 (List.length p0 : Int)), (13, .int .i64 0)] (by kernel_rfl) (by kernel_rfl) ?_
  refine WO_et rfl ?_
  refine W_block ?_
  replace hr := bindS hr
  obtain ⟨out1, hr, hrKu1⟩ := hr
  refine W_cut (.exit 0) (fun L' w' => ∃ (o1 : Unit) (m1 : Mem), (.inl o1) = out1 ∧ L' = [] ∧ m.le m1 ∧ St m1 (own) w') ?_ ?_
  ·clear hr st
   rintro _ w1 ⟨o1, m1, rfl, rfl, hm, st⟩
   have hr := hrKu1
   clear hrKu1
   dsimp only at hr
   refine X_block_eq ?_
   refine X_then ?_
   refine W_sr ?_
   refine WO_seg 1 [(4, .bool true)] (by kernel_rfl) (by kernel_rfl) ?_
   refine WO_et rfl ?_
   refine W_ret ?_
   obtain rfl := Option.some.inj hr
   refine X_ret [.tmp 4] [.bool true] rfl (ResAll.cons (ResAt.tmp (by kernel_rfl)) ResAll.nil) ?_
   exact ⟨m1, rfl, hm, st⟩
  intro K0_u1
  refine W_env _ (by kernel_rfl) (W_loop (fun k1 L' w' => ∃ (s1 : Int) (m2 : Mem), loopM (slices_Equal_api_File_api_File_L1 N p0 p1) k1 s1 = some out1 ∧ L' = [(0, .slice a1 (List.length p0) c1), (1, .slice a2 (List.length p1) c2), (12, .int .i64 (List.length p0 : Int)), (13, .int .i64 s1)] ∧ m.le m2 ∧ St m2 (own) w' ∧ RepS (cPair cStr cStr) m2 a1 c1 p0 ∧ RepS (cPair cStr cStr) m2 a2 c2 p1) N ⟨0, m, hr, rfl, hm, st, r1, r2⟩ ?_)
  clear st hr
  rintro k1 _ w2 ⟨s1, m2, hL, rfl, hm, st, r1, r2⟩
  rcases k1 with _ | k1
  ·exact loopM_zero hL
  ·obtain ⟨qu1, hr, hSu1, hBu1⟩ := loopM_succ hL
   clear hL
   unfold slices_Equal_api_File_api_File_L1 at hr
   refine W_sr ?_
   refine WO_seg 1 [(14, .bool (decide (s1 < (List.length p0 : Int))))] (by kernel_rfl) (by kernel_rfl) ?_
   refine WO_et rfl ?_
   refine W_seq ?_
   refine W_cond (decide (s1 < (List.length p0 : Int))) (by kernel_rfl) ?_ ?_
   ·intro hc
    rw [if_pos hc] at hr
    refine W_skip ?_
    refine X_then ?_
    refine W_seq ?_
    refine W_block ?_
    refine W_sr ?_
    refine WO_seg 2 [(5, .int .i64 s1)] (by kernel_rfl) (by kernel_rfl) ?_
    refine WO_et rfl ?_
    refine W_seq ?_
    refine W_draw [(9, fun w' => Inv m2 w' ∧ True)] (by kernel_rfl) st ?_
    clear st
    intro w3 _ st
    have hmS1 := m2.le_refl
    refine ⟨⟨.inr ⟨Inv.anti st.inv hmS1, trivial⟩, trivial⟩, ?_⟩
    refine WA_pure 0 16 (.slice a1 (List.length p0) c1) (by kernel_rfl) rfl (by kernel_rfl) (.head _) (QP_then (QP_block (QP_then (QP_then (QP_block (QP_then QP_body)))))) ?_
    refine WA_pure 1 17 (.int .i64 s1) (by kernel_rfl) rfl (by kernel_rfl) (.head _) (QP_then (QP_block (QP_then (QP_then (QP_block (QP_then QP_body)))))) ?_
    replace hr := bindS hr
    obtain ⟨x1, hx1, hr⟩ := hr
    refine WA_index (t := 45) (e := 66) (x := (.tmp 16)) (y := (.tmp 17)) 2 18 (cPair cStr cStr) (by kernel_rfl) rfl (by kernel_rfl) (.head _) (QP_then (QP_block (QP_then (QP_then (QP_block (QP_then QP_body)))))) (show evL _ _ = some (.slice a1 (List.length p0) c1) from (by kernel_rfl)) (show evL _ _ = some (.int .i64 s1) from (by kernel_rfl)) (by kernel_rfl) r1 hx1 ?_
    rintro b1 f1 cs1 ⟨_, _, rfl, rfl, rfl⟩ hq1
    refine WA_load_row (t := 66) (x := (.tmp 18)) 3 19 (.agg #[.string x1.1, .string x1.2]) (by kernel_rfl) rfl (by kernel_rfl) (.head _) (QP_then (QP_block (QP_then (QP_then (QP_block (QP_then QP_body)))))) (fun _ h => h.1) (show evL _ _ = some (.pointer (some ⟨b1, f1, none⟩)) from (by kernel_rfl)) hq1 (by kernel_rfl) ?_
    refine WA_pure 4 20 (.slice a2 (List.length p1) c2) (by kernel_rfl) rfl (by kernel_rfl) (.head _) (QP_then (QP_block (QP_then (QP_then (QP_block (QP_then QP_body)))))) ?_
    refine WA_pure 5 21 (.int .i64 s1) (by kernel_rfl) rfl (by kernel_rfl) (.head _) (QP_then (QP_block (QP_then (QP_then (QP_block (QP_then QP_body)))))) ?_
    replace hr := bindS hr
    obtain ⟨x2, hx2, hr⟩ := hr
    refine WA_index (t := 45) (e := 66) (x := (.tmp 20)) (y := (.tmp 21)) 6 22 (cPair cStr cStr) (by kernel_rfl) rfl (by kernel_rfl) (.head _) (QP_then (QP_block (QP_then (QP_then (QP_block (QP_then QP_body)))))) (show evL _ _ = some (.slice a2 (List.length p1) c2) from (by kernel_rfl)) (show evL _ _ = some (.int .i64 s1) from (by kernel_rfl)) (by kernel_rfl) r2 hx2 ?_
    rintro b2 f2 cs2 ⟨_, _, rfl, rfl, rfl⟩ hq2
    refine WA_load_row (t := 66) (x := (.tmp 22)) 7 23 (.agg #[.string x2.1, .string x2.2]) (by kernel_rfl) rfl (by kernel_rfl) (.head _) (QP_then (QP_block (QP_then (QP_then (QP_block (QP_then QP_body)))))) (fun _ h => h.1) (show evL _ _ = some (.pointer (some ⟨b2, f2, none⟩)) from (by kernel_rfl)) hq2 (by kernel_rfl) ?_
    refine WA_one 8 (by kernel_rfl)  (One_neAgg (d := 24) (t := 66) (t2 := 66) (x := (.tmp 19)) (y := (.tmp 23)) (xs := #[.string x1.1, .string x1.2]) (ys := #[.string x2.1, .string x2.2]) ((x1.1.toList == x2.1.toList) && ((x1.2.toList == x2.2.toList) && true)) (by kernel_rfl) rfl (show evL _ _ = some (.agg #[.string x1.1, .string x1.2]) from (by kernel_rfl)) (show evL _ _ = some (.agg #[.string x2.1, .string x2.2]) from (by kernel_rfl)) (by kernel_rfl) (by kernel_rfl) (by kernel_rfl) ?_)
    refine ⟨⟨.inr ⟨Inv.anti st.inv hmS1, trivial⟩, trivial⟩, ?_⟩
    refine WA_done (by kernel_rfl) ?_
    refine X_then ?_
    refine W_cond (!((x1.1.toList == x2.1.toList) && ((x1.2.toList == x2.2.toList) && true))) (by kernel_rfl) ?_ ?_
    ·intro hc
     rw [if_pos hc] at hr
     refine W_sr ?_
     refine WO_seg 1 [(4, .bool false)] (by kernel_rfl) (by kernel_rfl) ?_
     refine WO_et rfl ?_
     refine W_ret ?_
     refine X_block_ret ?_
     refine X_then_ret ?_
     obtain rfl := Option.some.inj hr
     have ho := hBu1 _ rfl
     subst ho
     have hr := hrKu1
     dsimp only at hr
     refine X_then_ret ?_
     refine X_block_ret ?_
     refine X_then_ret ?_
     obtain rfl := Option.some.inj hr
     refine X_ret [.tmp 4] [.bool false] rfl (ResAll.cons (ResAt.tmp (by kernel_rfl)) ResAll.nil) ?_
     exact ⟨m2, rfl, hm, st⟩
    ·intro hc
     rw [if_neg (not_true hc)] at hr
     refine W_skip ?_
     refine X_block ?_
     refine X_then ?_
     refine W_region ?_
     refine WO_seg 2 [(13, .int .i64 (IntKind.wrap .i64 (s1 + 1)))] (by kernel_rfl) (by kernel_rfl) ?_
     refine WO_end rfl ?_
     obtain rfl := Option.some.inj hr
     have hL := hSu1 _ rfl
     exact X_env _ (by kernel_rfl) (X_round k1 (Nat.lt_succ_self _) ⟨IntKind.wrap .i64 (s1 + 1), m2, hL, rfl, hm, st, r1, r2⟩)
   ·intro hc
    rw [if_neg (not_true hc)] at hr
    refine W_exit ?_
    refine X_then_exit ?_
    obtain rfl := Option.some.inj hr
    have ho := hBu1 _ rfl
    refine X_then_exit ?_
    exact X_env _ (by kernel_rfl) (K0_u1 _ _ ⟨(), m2, ho, rfl, hm, st⟩)

def revision_Same (N : Nat) (p0 : (List (ByteArray × ByteArray))) (p1 : (List (ByteArray × ByteArray))) : Option (Bool) :=
 (slices_Equal_api_File_api_File N p0 p1).bind fun y1 => some y1

set_option maxHeartbeats 4000000 in
set_option maxRecDepth 100000 in
theorem revision_Same_ok {N : Nat} {m : Mem} {own : List Piece} {w : World} {p0 : (List (ByteArray × ByteArray))} {p1 : (List (ByteArray × ByteArray))} {a1 : Option Addr} {c1 : Nat} {a2 : Option Addr} {c2 : Nat} {r : Bool} (st : St m (own) w) (r1 : RepS (cPair cStr cStr) m a1 c1 p0) (r2 : RepS (cPair cStr cStr) m a2 c2 p1) (hr : revision_Same N p0 p1 = some r) : Calls Go.Proofs.Tryd.prog 28 #[.agg #[.slice a1 (List.length p0) c1], .agg #[.slice a2 (List.length p1) c2]] w fun e w' => ∃ (m' : Mem), e = .returned (.bool r) ∧ m.le m' ∧ St m' (own) w' := by
 unfold revision_Same at hr
 have hm := m.le_refl
 refine W_calls Go.Proofs.Tryd.func28 rfl Go.Proofs.Tryd.ntmps28 [(0, .agg #[.slice a1 (List.length p0) c1]), (1, .agg #[.slice a2 (List.length p1) c2])] (by kernel_rfl) rfl ?_
 refine W_sr ?_
 refine WO_one rfl (One_box (d := 2) (e := 47) (x := (.tmp 0)) (.agg #[.slice a1 (List.length p0) c1]) (by kernel_rfl) rfl (by kernel_rfl) st ?_)
 clear st
 intro b1 m1 w1 hle1 st hb1
 have hm := Mem.le_trans hm hle1
 have r1 := r1.mono hle1
 have r2 := r2.mono hle1
 refine WO_one rfl (One_box (d := 3) (e := 47) (x := (.tmp 1)) (.agg #[.slice a2 (List.length p1) c2]) (by kernel_rfl) rfl (by kernel_rfl) st ?_)
 clear st
 intro b2 m2 w2 hle2 st hb2
 have hm := Mem.le_trans hm hle2
 have r1 := r1.mono hle2
 have r2 := r2.mono hle2
 have hb1 := hb1.mono hle2
 refine WO_seg 1 [] (by kernel_rfl) (by kernel_rfl) ?_
 refine WO_et rfl ?_
 refine W_sr ?_
 refine WO_seg 1 [(5, .pointer (some ⟨b1, 0, none⟩))] (by kernel_rfl) (by kernel_rfl) ?_
 refine WO_one rfl (One_load_row (d := 6) (t := 45) (x := (.tmp 5)) (.slice a1 (List.length p0) c1) (by kernel_rfl) rfl (show evL _ _ = some (.pointer (some ⟨b1, 0, none⟩)) from (by kernel_rfl)) st hb1 (by kernel_rfl) ?_)
 refine WO_seg 1 [(7, .pointer (some ⟨b2, 0, none⟩))] (by kernel_rfl) (by kernel_rfl) ?_
 refine WO_one rfl (One_load_row (d := 8) (t := 45) (x := (.tmp 7)) (.slice a2 (List.length p1) c2) (by kernel_rfl) rfl (show evL _ _ = some (.pointer (some ⟨b2, 0, none⟩)) from (by kernel_rfl)) st hb2 (by kernel_rfl) ?_)
 replace hr := bindS hr
 obtain ⟨y1, hx1, hr⟩ := hr
 refine WO_one rfl (One_fn 9 57 #[.slice a1 (List.length p0) c1, .slice a2 (List.length p1) c2] (by kernel_rfl) rfl ?_)
 refine (slices_Equal_api_File_api_File_ok st r1 r2 hx1).mono ?_
 clear st
 rintro _ w3 ⟨m3, rfl, hle3, st⟩
 refine ⟨_, rfl, ?_⟩
 have hm := Mem.le_trans hm hle3
 have hb1 := hb1.mono hle3
 have r1 := r1.mono hle3
 have hb2 := hb2.mono hle3
 have r2 := r2.mono hle3
 refine WO_seg 1 [(4, .bool y1)] (by kernel_rfl) (by kernel_rfl) ?_
 refine WO_et rfl ?_
 refine W_ret ?_
 obtain rfl := Option.some.inj hr
 refine X_ret [.tmp 4] [.bool y1] rfl (ResAll.cons (ResAt.tmp (by kernel_rfl)) ResAll.nil) ?_
 exact ⟨m3, rfl, hm, st⟩

def internal_stringslite_HasSuffix (N : Nat) (p0 : ByteArray) (p1 : ByteArray) : Option (Bool) :=
 (if (decide ((ByteArray.size p0 : Int) ≥ (ByteArray.size p1 : Int))) = true then ((subB p0 (IntKind.wrap .i64 ((ByteArray.size p0 : Int) - (ByteArray.size p1 : Int))) (ByteArray.size p0 : Int)).bind fun s1 => some (s1.toList == p1.toList)) else (some false) : Option (Bool)).bind fun o1 => some o1

set_option maxHeartbeats 4000000 in
set_option maxRecDepth 100000 in
theorem internal_stringslite_HasSuffix_ok {N : Nat} {m : Mem} {own : List Piece} {w : World} {p0 : ByteArray} {p1 : ByteArray} {r : Bool} (st : St m (own) w) (hr : internal_stringslite_HasSuffix N p0 p1 = some r) : Calls Go.Proofs.Tryd.prog 89 #[.string p0, .string p1] w fun e w' => ∃ (m' : Mem), e = .returned (.bool r) ∧ m.le m' ∧ St m' (own) w' := by
 unfold internal_stringslite_HasSuffix at hr
 have hm := m.le_refl
 refine W_calls Go.Proofs.Tryd.func89 rfl Go.Proofs.Tryd.ntmps89 [(0, .string p0), (1, .string p1)] (by kernel_rfl) rfl ?_
 refine W_sr ?_
 refine WO_seg 1 [] (by kernel_rfl) (by kernel_rfl) ?_
 refine WO_et rfl ?_
 refine W_sr ?_
 replace hr := bindS hr
 obtain ⟨o1, hr, hrK⟩ := hr
 refine WO_cut (j := 17) (fun L' w' => ∃ (m1 : Mem), L' = [(4, .bool o1)] ∧ m.le m1 ∧ St m1 (own) w') ?_ ?_
 ·clear hr st
  have hr := hrK
  clear hrK
  rintro _ w1 ⟨m1, rfl, hm, st⟩
  refine WO_et rfl ?_
  refine W_ret ?_
  obtain rfl := Option.some.inj hr
  refine X_ret [.tmp 4] [.bool o1] rfl (ResAll.cons (ResAt.tmp (by kernel_rfl)) ResAll.nil) ?_
  exact ⟨m1, rfl, hm, st⟩
 ·intro K
  clear hrK
  refine WO_seg 6 [(10, .bool (decide ((ByteArray.size p0 : Int) ≥ (ByteArray.size p1 : Int))))] (by kernel_rfl) (by kernel_rfl) ?_
  rcases bcases (decide ((ByteArray.size p0 : Int) ≥ (ByteArray.size p1 : Int))) with hc | hc
  ·rw [if_pos hc] at hr
   refine WO_fact (t := 10) (b := true) (decide ((ByteArray.size p0 : Int) ≥ (ByteArray.size p1 : Int))) (by kernel_rfl) hc ?_
   refine WO_seg 6 [(11, .string p0), (16, .int .i64 (IntKind.wrap .i64 ((ByteArray.size p0 : Int) - (ByteArray.size p1 : Int))))] (by kernel_rfl) (by kernel_rfl) ?_
   replace hr := bindS hr
   obtain ⟨s1, hx1, hr⟩ := hr
   refine WO_one rfl (One_strSlice (d := 17) (t := 9) (x := (.tmp 11)) (lo := (some (.tmp 16))) (hi := none) (by kernel_rfl) rfl (show evL _ _ = some (.string p0) from (by kernel_rfl)) (by kernel_rfl) (.inr ⟨_, _, rfl, (show evL _ _ = some (.int .i64 (IntKind.wrap .i64 ((ByteArray.size p0 : Int) - (ByteArray.size p1 : Int)))) from (by kernel_rfl))⟩) (.inl ⟨rfl, rfl⟩) hx1 ?_)
   refine WO_seg 4 [(4, .bool (s1.toList == p1.toList))] (by kernel_rfl) (by kernel_rfl) ?_
   obtain rfl := Option.some.inj hr
   exact WO_env _ (by kernel_rfl) (K _ _ ⟨m, rfl, hm, st⟩)
  ·rw [if_neg (not_true hc)] at hr
   refine WO_fact (t := 10) (b := false) (decide ((ByteArray.size p0 : Int) ≥ (ByteArray.size p1 : Int))) (by kernel_rfl) hc ?_
   refine WO_seg 11 [(4, .bool false)] (by kernel_rfl) (by kernel_rfl) ?_
   obtain rfl := Option.some.inj hr
   exact WO_env _ (by kernel_rfl) (K _ _ ⟨m, rfl, hm, st⟩)

def strings_HasSuffix (N : Nat) (p0 : ByteArray) (p1 : ByteArray) : Option (Bool) :=
 (internal_stringslite_HasSuffix N p0 p1).bind fun y1 => some y1

set_option maxHeartbeats 4000000 in
set_option maxRecDepth 100000 in
theorem strings_HasSuffix_ok {N : Nat} {m : Mem} {own : List Piece} {w : World} {p0 : ByteArray} {p1 : ByteArray} {r : Bool} (st : St m (own) w) (hr : strings_HasSuffix N p0 p1 = some r) : Calls Go.Proofs.Tryd.prog 59 #[.string p0, .string p1] w fun e w' => ∃ (m' : Mem), e = .returned (.bool r) ∧ m.le m' ∧ St m' (own) w' := by
 unfold strings_HasSuffix at hr
 have hm := m.le_refl
 refine W_calls Go.Proofs.Tryd.func59 rfl Go.Proofs.Tryd.ntmps59 [(0, .string p0), (1, .string p1)] (by kernel_rfl) rfl ?_
 refine W_sr ?_
 refine WO_seg 1 [] (by kernel_rfl) (by kernel_rfl) ?_
 refine WO_et rfl ?_
 refine W_sr ?_
 refine WO_seg 2 [(5, .string p0), (6, .string p1)] (by kernel_rfl) (by kernel_rfl) ?_
 replace hr := bindS hr
 obtain ⟨y1, hx1, hr⟩ := hr
 refine WO_one rfl (One_fn 7 89 #[.string p0, .string p1] (by kernel_rfl) rfl ?_)
 refine (internal_stringslite_HasSuffix_ok st hx1).mono ?_
 clear st
 rintro _ w1 ⟨m1, rfl, hle1, st⟩
 refine ⟨_, rfl, ?_⟩
 have hm := Mem.le_trans hm hle1
 refine WO_seg 1 [(4, .bool y1)] (by kernel_rfl) (by kernel_rfl) ?_
 refine WO_et rfl ?_
 refine W_ret ?_
 obtain rfl := Option.some.inj hr
 refine X_ret [.tmp 4] [.bool y1] rfl (ResAll.cons (ResAt.tmp (by kernel_rfl)) ResAll.nil) ?_
 exact ⟨m1, rfl, hm, st⟩

def revision_IsSource (N : Nat) (p0 : ByteArray) : Option (Bool) :=
 ((lexer_Path N p0).bind fun y1 => if y1 = true then (if (decide ((ByteArray.size p0 : Int) > 4)) = true then ((strings_HasSuffix N p0 (⟨#[46, 115, 114, 99]⟩ : ByteArray)).bind fun y2 => some y2) else (some false)) else (some false) : Option (Bool)).bind fun o1 => some o1

set_option maxHeartbeats 4000000 in
set_option maxRecDepth 100000 in
theorem revision_IsSource_ok {N : Nat} {m : Mem} {own : List Piece} {w : World} {p0 : ByteArray} {r : Bool} (st : St m (own) w) (hr : revision_IsSource N p0 = some r) : Calls Go.Proofs.Tryd.prog 32 #[.string p0] w fun e w' => ∃ (m' : Mem), e = .returned (.bool r) ∧ m.le m' ∧ St m' (own) w' := by
 unfold revision_IsSource at hr
 have hm := m.le_refl
 refine W_calls Go.Proofs.Tryd.func32 rfl Go.Proofs.Tryd.ntmps32 [(0, .string p0)] (by kernel_rfl) rfl ?_
 refine W_sr ?_
 refine WO_seg 1 [] (by kernel_rfl) (by kernel_rfl) ?_
 refine WO_et rfl ?_
 refine W_sr ?_
 replace hr := bindS hr
 obtain ⟨o1, hr, hrK⟩ := hr
 refine WO_cut (j := 12) (fun L' w' => ∃ (m1 : Mem), L' = [(2, .bool o1)] ∧ m.le m1 ∧ St m1 (own) w') ?_ ?_
 ·clear hr st
  have hr := hrK
  clear hrK
  rintro _ w1 ⟨m1, rfl, hm, st⟩
  refine WO_et rfl ?_
  refine W_ret ?_
  obtain rfl := Option.some.inj hr
  refine X_ret [.tmp 2] [.bool o1] rfl (ResAll.cons (ResAt.tmp (by kernel_rfl)) ResAll.nil) ?_
  exact ⟨m1, rfl, hm, st⟩
 ·intro K
  clear hrK
  refine WO_seg 1 [(3, .string p0)] (by kernel_rfl) (by kernel_rfl) ?_
  replace hr := bindS hr
  obtain ⟨y1, hx1, hr⟩ := hr
  refine WO_one rfl (One_fn 4 17 #[.string p0] (by kernel_rfl) rfl ?_)
  refine (lexer_Path_ok st hx1).mono ?_
  clear st
  rintro _ w2 ⟨m2, rfl, hle1, st⟩
  refine ⟨_, rfl, ?_⟩
  have hm := Mem.le_trans hm hle1
  refine WO_seg 1 [(5, .bool y1)] (by kernel_rfl) (by kernel_rfl) ?_
  rcases bcases y1 with hc | hc
  ·rw [if_pos hc] at hr
   refine WO_fact (t := 5) (b := true) y1 (by kernel_rfl) hc ?_
   refine WO_seg 5 [(10, .bool (decide ((ByteArray.size p0 : Int) > 4)))] (by kernel_rfl) (by kernel_rfl) ?_
   rcases bcases (decide ((ByteArray.size p0 : Int) > 4)) with hc | hc
   ·rw [if_pos hc] at hr
    refine WO_fact (t := 10) (b := true) (decide ((ByteArray.size p0 : Int) > 4)) (by kernel_rfl) hc ?_
    refine WO_seg 1 [(11, .string p0)] (by kernel_rfl) (by kernel_rfl) ?_
    replace hr := bindS hr
    obtain ⟨y2, hx2, hr⟩ := hr
    refine WO_one rfl (One_fn 12 59 #[.string p0, .string (⟨#[46, 115, 114, 99]⟩ : ByteArray)] (by kernel_rfl) rfl ?_)
    refine (strings_HasSuffix_ok st hx2).mono ?_
    clear st
    rintro _ w3 ⟨m3, rfl, hle2, st⟩
    refine ⟨_, rfl, ?_⟩
    have hm := Mem.le_trans hm hle2
    refine WO_seg 2 [(2, .bool y2)] (by kernel_rfl) (by kernel_rfl) ?_
    obtain rfl := Option.some.inj hr
    exact WO_env _ (by kernel_rfl) (K _ _ ⟨m3, rfl, hm, st⟩)
   ·rw [if_neg (not_true hc)] at hr
    refine WO_fact (t := 10) (b := false) (decide ((ByteArray.size p0 : Int) > 4)) (by kernel_rfl) hc ?_
    refine WO_seg 4 [(2, .bool false)] (by kernel_rfl) (by kernel_rfl) ?_
    obtain rfl := Option.some.inj hr
    exact WO_env _ (by kernel_rfl) (K _ _ ⟨m2, rfl, hm, st⟩)
  ·rw [if_neg (not_true hc)] at hr
   refine WO_fact (t := 5) (b := false) y1 (by kernel_rfl) hc ?_
   refine WO_seg 9 [(2, .bool false)] (by kernel_rfl) (by kernel_rfl) ?_
   obtain rfl := Option.some.inj hr
   exact WO_env _ (by kernel_rfl) (K _ _ ⟨m2, rfl, hm, st⟩)

def testgatelaw07_awake (N : Nat) : Option (Bool) :=
 (revision_Put N ([] : List (ByteArray × ByteArray)) (⟨#[97, 46, 115, 114, 99]⟩ : ByteArray) (⟨#[120]⟩ : ByteArray)).bind fun y1 => (revision_Move N y1.1 (⟨#[97, 46, 115, 114, 99]⟩ : ByteArray) (⟨#[98, 46, 115, 114, 99]⟩ : ByteArray)).bind fun y2 => (revision_Find N y2.1 (⟨#[98, 46, 115, 114, 99]⟩ : ByteArray)).bind fun y3 => (revision_Encode N y2.1).bind fun y4 => (revision_Decode N y4.1).bind fun y5 => (if (y1.2 == 0) = true then (if (y2.2 == 0) = true then (if (y4.2 == 0) = true then (if (y5.2 == 0) = true then (if y3.2 = true then (if (y3.1.toList == (⟨#[120]⟩ : ByteArray).toList) = true then ((revision_Same N y2.1 y5.1).bind fun y6 => if y6 = true then ((revision_IsSource N (⟨#[98, 46, 115, 114, 99]⟩ : ByteArray)).bind fun y7 => if y7 = true then ((revision_IsSource N (⟨#[46, 115, 114, 99]⟩ : ByteArray)).bind fun y8 => some (!y8)) else (some false)) else (some false)) else (some false)) else (some false)) else (some false)) else (some false)) else (some false)) else (some false) : Option (Bool)).bind fun o1 => some o1

set_option maxHeartbeats 4000000 in
set_option maxRecDepth 100000 in
theorem testgatelaw07_awake_ok {N : Nat} {m : Mem} {own : List Piece} {w : World} {r : Bool} (st : St m (own) w) (hr : testgatelaw07_awake N = some r) : Calls Go.Proofs.Tryd.prog 40 #[] w fun e w' => ∃ (m' : Mem), e = .returned (.bool r) ∧ m.le m' ∧ St m' (own) w' := by
 unfold testgatelaw07_awake at hr
 have hm := m.le_refl
 refine W_calls Go.Proofs.Tryd.func40 rfl Go.Proofs.Tryd.ntmps40 [] (by kernel_rfl) rfl ?_
 refine W_sr ?_
 refine WO_seg 1 [] (by kernel_rfl) (by kernel_rfl) ?_
 refine WO_et rfl ?_
 refine W_sr ?_
 refine WO_seg 1 [(11, .agg #[.slice none (List.length ([] : List (ByteArray × ByteArray))) 0])] (by kernel_rfl) (by kernel_rfl) ?_
 replace hr := bindS hr
 obtain ⟨y1, hx1, hr⟩ := hr
 refine WO_one rfl (One_fn 12 34 #[.agg #[.slice none (List.length ([] : List (ByteArray × ByteArray))) 0], .string (⟨#[97, 46, 115, 114, 99]⟩ : ByteArray), .string (⟨#[120]⟩ : ByteArray)] (by kernel_rfl) rfl ?_)
 refine (revision_Put_ok st (RepS.nil _ _) hx1).mono ?_
 clear st
 rintro _ w1 ⟨a1, c1, m1, rfl, hle1, st, r1⟩
 refine ⟨_, rfl, ?_⟩
 have hm := Mem.le_trans hm hle1
 refine WO_seg 3 [(13, .agg #[.slice a1 (List.length y1.1) c1]), (14, .int .i64 y1.2)] (by kernel_rfl) (by kernel_rfl) ?_
 refine WO_one rfl (One_alloc (d := 1) (e := 47) (.agg #[.slice none 0 0]) (by kernel_rfl) rfl (by kernel_rfl) st ?_)
 clear st
 intro b1 w2 st
 refine WO_one rfl (One_store (t := 47) (x := (.tmp 1)) (y := (.tmp 13)) (v := .agg #[.slice a1 (List.length y1.1) c1]) (c' := #[.slice a1 (List.length y1.1) c1]) (by kernel_rfl) (show evL _ _ = some (.pointer (some ⟨b1, 0, none⟩)) from (by kernel_rfl)) (show evL _ _ = some (.agg #[.slice a1 (List.length y1.1) c1]) from (by kernel_rfl)) st (by kernel_rfl) (by kernel_rfl) ?_)
 clear st
 intro w3 st
 refine WO_seg 1 [(2, .int .i64 y1.2)] (by kernel_rfl) (by kernel_rfl) ?_
 refine WO_et rfl ?_
 refine W_sr ?_
 refine WO_one rfl (One_load_own (d := 16) (t := 47) (x := (.tmp 1)) (.agg #[.slice a1 (List.length y1.1) c1]) (by kernel_rfl) rfl (show evL _ _ = some (.pointer (some ⟨b1, 0, none⟩)) from (by kernel_rfl)) st.head (by kernel_rfl) ?_)
 replace hr := bindS hr
 obtain ⟨y2, hx2, hr⟩ := hr
 refine WO_one rfl (One_fn 17 38 #[.agg #[.slice a1 (List.length y1.1) c1], .string (⟨#[97, 46, 115, 114, 99]⟩ : ByteArray), .string (⟨#[98, 46, 115, 114, 99]⟩ : ByteArray)] (by kernel_rfl) rfl ?_)
 refine (revision_Move_ok st r1 hx2).mono ?_
 clear st
 rintro _ w4 ⟨a2, c2, m2, rfl, hle2, st, r2⟩
 refine ⟨_, rfl, ?_⟩
 have hm := Mem.le_trans hm hle2
 have r1 := r1.mono hle2
 refine WO_seg 3 [(18, .agg #[.slice a2 (List.length y2.1) c2]), (19, .int .i64 y2.2)] (by kernel_rfl) (by kernel_rfl) ?_
 have st := st.front1
 refine WO_one rfl (One_store (t := 47) (x := (.tmp 1)) (y := (.tmp 18)) (v := .agg #[.slice a2 (List.length y2.1) c2]) (c' := #[.slice a2 (List.length y2.1) c2]) (by kernel_rfl) (show evL _ _ = some (.pointer (some ⟨b1, 0, none⟩)) from (by kernel_rfl)) (show evL _ _ = some (.agg #[.slice a2 (List.length y2.1) c2]) from (by kernel_rfl)) st (by kernel_rfl) (by kernel_rfl) ?_)
 clear st
 intro w5 st
 refine WO_seg 1 [(3, .int .i64 y2.2)] (by kernel_rfl) (by kernel_rfl) ?_
 refine WO_end rfl ?_
 have st := st.front2
 have st := st.tail
 refine X_then ?_
 refine W_sr ?_
 refine WO_one rfl (One_load_own (d := 21) (t := 47) (x := (.tmp 1)) (.agg #[.slice a2 (List.length y2.1) c2]) (by kernel_rfl) rfl (show evL _ _ = some (.pointer (some ⟨b1, 0, none⟩)) from (by kernel_rfl)) st.head (by kernel_rfl) ?_)
 replace hr := bindS hr
 obtain ⟨y3, hx3, hr⟩ := hr
 refine WO_one rfl (One_fn 22 30 #[.agg #[.slice a2 (List.length y2.1) c2], .string (⟨#[98, 46, 115, 114, 99]⟩ : ByteArray)] (by kernel_rfl) rfl ?_)
 refine (revision_Find_ok st r2 hx3).mono ?_
 clear st
 rintro _ w6 ⟨m3, rfl, hle3, st⟩
 refine ⟨_, rfl, ?_⟩
 have hm := Mem.le_trans hm hle3
 have r2 := r2.mono hle3
 refine WO_seg 5 [(4, .string y3.1), (5, .bool y3.2)] (by kernel_rfl) (by kernel_rfl) ?_
 refine WO_et rfl ?_
 refine W_sr ?_
 refine WO_one rfl (One_load_own (d := 26) (t := 47) (x := (.tmp 1)) (.agg #[.slice a2 (List.length y2.1) c2]) (by kernel_rfl) rfl (show evL _ _ = some (.pointer (some ⟨b1, 0, none⟩)) from (by kernel_rfl)) st.head (by kernel_rfl) ?_)
 replace hr := bindS hr
 obtain ⟨y4, hx4, hr⟩ := hr
 refine WO_one rfl (One_fn 27 41 #[.agg #[.slice a2 (List.length y2.1) c2]] (by kernel_rfl) rfl ?_)
 refine (revision_Encode_ok st r2 hx4).mono ?_
 clear st
 rintro _ w7 ⟨a3, c3, m4, rfl, hle4, st, r3⟩
 refine ⟨_, rfl, ?_⟩
 have hm := Mem.le_trans hm hle4
 have r2 := r2.mono hle4
 refine WO_seg 5 [(6, .slice a3 (List.length y4.1) c3), (7, .int .i64 y4.2)] (by kernel_rfl) (by kernel_rfl) ?_
 refine WO_et rfl ?_
 refine W_sr ?_
 refine WO_seg 1 [(31, .slice a3 (List.length y4.1) c3)] (by kernel_rfl) (by kernel_rfl) ?_
 replace hr := bindS hr
 obtain ⟨y5, hx5, hr⟩ := hr
 refine WO_one rfl (One_fn 32 46 #[.slice a3 (List.length y4.1) c3] (by kernel_rfl) rfl ?_)
 refine (revision_Decode_ok st r3 hx5).mono ?_
 clear st
 rintro _ w8 ⟨a4, c4, m5, rfl, hle5, st, r4⟩
 refine ⟨_, rfl, ?_⟩
 have hm := Mem.le_trans hm hle5
 have r3 := r3.mono hle5
 have r2 := r2.mono hle5
 refine WO_seg 3 [(33, .agg #[.slice a4 (List.length y5.1) c4]), (34, .int .i64 y5.2)] (by kernel_rfl) (by kernel_rfl) ?_
 refine WO_one rfl (One_alloc (d := 8) (e := 47) (.agg #[.slice none 0 0]) (by kernel_rfl) rfl (by kernel_rfl) st ?_)
 clear st
 intro b2 w9 st
 refine WO_one rfl (One_store (t := 47) (x := (.tmp 8)) (y := (.tmp 33)) (v := .agg #[.slice a4 (List.length y5.1) c4]) (c' := #[.slice a4 (List.length y5.1) c4]) (by kernel_rfl) (show evL _ _ = some (.pointer (some ⟨b2, 0, none⟩)) from (by kernel_rfl)) (show evL _ _ = some (.agg #[.slice a4 (List.length y5.1) c4]) from (by kernel_rfl)) st (by kernel_rfl) (by kernel_rfl) ?_)
 clear st
 intro w10 st
 refine WO_seg 1 [(9, .int .i64 y5.2)] (by kernel_rfl) (by kernel_rfl) ?_
 refine WO_end rfl ?_
 have st := st.front2
 have st := st.tail
 refine X_then ?_
 refine W_sr ?_
 replace hr := bindS hr
 obtain ⟨o1, hr, hrK⟩ := hr
 refine WO_cut (j := 34) (fun L' w' => ∃ (m6 : Mem), L' = [(0, .bool o1)] ∧ m.le m6 ∧ St m6 (.blk b2 (.cells #[.slice a4 (List.length y5.1) c4] 47 (0, 0)) :: .blk b1 (.cells #[.slice a2 (List.length y2.1) c2] 47 (0, 0)) :: .room a4 (List.length y5.1) c4 66 2 :: .room a2 (List.length y2.1) c2 66 2 :: own) w' ∧ RepS (cPair cStr cStr) m6 a4 c4 y5.1 ∧ RepS (cPair cStr cStr) m6 a2 c2 y2.1) ?_ ?_
 ·clear hr st
  have hr := hrK
  clear hrK
  rintro _ w11 ⟨m6, rfl, hm, st, r4, r2⟩
  refine WO_et rfl ?_
  refine W_ret ?_
  obtain rfl := Option.some.inj hr
  refine X_ret [.tmp 0] [.bool o1] rfl (ResAll.cons (ResAt.tmp (by kernel_rfl)) ResAll.nil) ?_
  have st := st.tail
  have st := st.tail
  have st := st.tail
  have st := st.tail
  exact ⟨m6, rfl, hm, st⟩
 ·intro K
  clear hrK
  refine WO_seg 3 [(37, .bool (y1.2 == 0))] (by kernel_rfl) (by kernel_rfl) ?_
  rcases bcases (y1.2 == 0) with hc | hc
  ·rw [if_pos hc] at hr
   refine WO_fact (t := 37) (b := true) (y1.2 == 0) (by kernel_rfl) hc ?_
   refine WO_seg 4 [(41, .bool (y2.2 == 0))] (by kernel_rfl) (by kernel_rfl) ?_
   rcases bcases (y2.2 == 0) with hc | hc
   ·rw [if_pos hc] at hr
    refine WO_fact (t := 41) (b := true) (y2.2 == 0) (by kernel_rfl) hc ?_
    refine WO_seg 4 [(45, .bool (y4.2 == 0))] (by kernel_rfl) (by kernel_rfl) ?_
    rcases bcases (y4.2 == 0) with hc | hc
    ·rw [if_pos hc] at hr
     refine WO_fact (t := 45) (b := true) (y4.2 == 0) (by kernel_rfl) hc ?_
     refine WO_seg 4 [(49, .bool (y5.2 == 0))] (by kernel_rfl) (by kernel_rfl) ?_
     rcases bcases (y5.2 == 0) with hc | hc
     ·rw [if_pos hc] at hr
      refine WO_fact (t := 49) (b := true) (y5.2 == 0) (by kernel_rfl) hc ?_
      refine WO_seg 3 [(52, .bool y3.2)] (by kernel_rfl) (by kernel_rfl) ?_
      rcases bcases y3.2 with hc | hc
      ·rw [if_pos hc] at hr
       refine WO_fact (t := 52) (b := true) y3.2 (by kernel_rfl) hc ?_
       refine WO_seg 4 [(56, .bool (y3.1.toList == (⟨#[120]⟩ : ByteArray).toList))] (by kernel_rfl) (by kernel_rfl) ?_
       rcases bcases (y3.1.toList == (⟨#[120]⟩ : ByteArray).toList) with hc | hc
       ·rw [if_pos hc] at hr
        refine WO_fact (t := 56) (b := true) (y3.1.toList == (⟨#[120]⟩ : ByteArray).toList) (by kernel_rfl) hc ?_
        refine WO_one rfl (One_load_own (d := 57) (t := 47) (x := (.tmp 1)) (.agg #[.slice a2 (List.length y2.1) c2]) (by kernel_rfl) rfl (show evL _ _ = some (.pointer (some ⟨b1, 0, none⟩)) from (by kernel_rfl)) st.tail.tail.head (by kernel_rfl) ?_)
        refine WO_one rfl (One_load_own (d := 58) (t := 47) (x := (.tmp 8)) (.agg #[.slice a4 (List.length y5.1) c4]) (by kernel_rfl) rfl (show evL _ _ = some (.pointer (some ⟨b2, 0, none⟩)) from (by kernel_rfl)) st.head (by kernel_rfl) ?_)
        replace hr := bindS hr
        obtain ⟨y6, hx6, hr⟩ := hr
        refine WO_one rfl (One_fn 59 28 #[.agg #[.slice a2 (List.length y2.1) c2], .agg #[.slice a4 (List.length y5.1) c4]] (by kernel_rfl) rfl ?_)
        refine (revision_Same_ok st r2 r4 hx6).mono ?_
        clear st
        rintro _ w12 ⟨m7, rfl, hle6, st⟩
        refine ⟨_, rfl, ?_⟩
        have hm := Mem.le_trans hm hle6
        have r2 := r2.mono hle6
        have r4 := r4.mono hle6
        refine WO_seg 2 [(61, .bool y6)] (by kernel_rfl) (by kernel_rfl) ?_
        rcases bcases y6 with hc | hc
        ·rw [if_pos hc] at hr
         refine WO_fact (t := 61) (b := true) y6 (by kernel_rfl) hc ?_
         replace hr := bindS hr
         obtain ⟨y7, hx7, hr⟩ := hr
         refine WO_one rfl (One_fn 62 32 #[.string (⟨#[98, 46, 115, 114, 99]⟩ : ByteArray)] (by kernel_rfl) rfl ?_)
         refine (revision_IsSource_ok st hx7).mono ?_
         clear st
         rintro _ w13 ⟨m8, rfl, hle7, st⟩
         refine ⟨_, rfl, ?_⟩
         have hm := Mem.le_trans hm hle7
         have r2 := r2.mono hle7
         have r4 := r4.mono hle7
         refine WO_seg 2 [(64, .bool y7)] (by kernel_rfl) (by kernel_rfl) ?_
         rcases bcases y7 with hc | hc
         ·rw [if_pos hc] at hr
          refine WO_fact (t := 64) (b := true) y7 (by kernel_rfl) hc ?_
          replace hr := bindS hr
          obtain ⟨y8, hx8, hr⟩ := hr
          refine WO_one rfl (One_fn 65 32 #[.string (⟨#[46, 115, 114, 99]⟩ : ByteArray)] (by kernel_rfl) rfl ?_)
          refine (revision_IsSource_ok st hx8).mono ?_
          clear st
          rintro _ w14 ⟨m9, rfl, hle8, st⟩
          refine ⟨_, rfl, ?_⟩
          have hm := Mem.le_trans hm hle8
          have r2 := r2.mono hle8
          have r4 := r4.mono hle8
          refine WO_seg 3 [(0, .bool (!y8))] (by kernel_rfl) (by kernel_rfl) ?_
          obtain rfl := Option.some.inj hr
          have st := st.front3
          have st := st.front2
          have st := st.front3
          have st := st.front3
          exact WO_env _ (by kernel_rfl) (K _ _ ⟨m9, rfl, hm, st, r4, r2⟩)
         ·rw [if_neg (not_true hc)] at hr
          refine WO_fact (t := 64) (b := false) y7 (by kernel_rfl) hc ?_
          refine WO_seg 4 [(0, .bool false)] (by kernel_rfl) (by kernel_rfl) ?_
          obtain rfl := Option.some.inj hr
          have st := st.front3
          have st := st.front2
          have st := st.front3
          have st := st.front3
          exact WO_env _ (by kernel_rfl) (K _ _ ⟨m8, rfl, hm, st, r4, r2⟩)
        ·rw [if_neg (not_true hc)] at hr
         refine WO_fact (t := 61) (b := false) y6 (by kernel_rfl) hc ?_
         refine WO_seg 7 [(0, .bool false)] (by kernel_rfl) (by kernel_rfl) ?_
         obtain rfl := Option.some.inj hr
         have st := st.front3
         have st := st.front2
         have st := st.front3
         have st := st.front3
         exact WO_env _ (by kernel_rfl) (K _ _ ⟨m7, rfl, hm, st, r4, r2⟩)
       ·rw [if_neg (not_true hc)] at hr
        refine WO_fact (t := 56) (b := false) (y3.1.toList == (⟨#[120]⟩ : ByteArray).toList) (by kernel_rfl) hc ?_
        refine WO_seg 12 [(0, .bool false)] (by kernel_rfl) (by kernel_rfl) ?_
        obtain rfl := Option.some.inj hr
        have st := st.front3
        have st := st.front2
        have st := st.front3
        have st := st.front3
        exact WO_env _ (by kernel_rfl) (K _ _ ⟨m5, rfl, hm, st, r4, r2⟩)
      ·rw [if_neg (not_true hc)] at hr
       refine WO_fact (t := 52) (b := false) y3.2 (by kernel_rfl) hc ?_
       refine WO_seg 16 [(0, .bool false)] (by kernel_rfl) (by kernel_rfl) ?_
       obtain rfl := Option.some.inj hr
       have st := st.front3
       have st := st.front2
       have st := st.front3
       have st := st.front3
       exact WO_env _ (by kernel_rfl) (K _ _ ⟨m5, rfl, hm, st, r4, r2⟩)
     ·rw [if_neg (not_true hc)] at hr
      refine WO_fact (t := 49) (b := false) (y5.2 == 0) (by kernel_rfl) hc ?_
      refine WO_seg 19 [(0, .bool false)] (by kernel_rfl) (by kernel_rfl) ?_
      obtain rfl := Option.some.inj hr
      have st := st.front3
      have st := st.front2
      have st := st.front3
      have st := st.front3
      exact WO_env _ (by kernel_rfl) (K _ _ ⟨m5, rfl, hm, st, r4, r2⟩)
    ·rw [if_neg (not_true hc)] at hr
     refine WO_fact (t := 45) (b := false) (y4.2 == 0) (by kernel_rfl) hc ?_
     refine WO_seg 23 [(0, .bool false)] (by kernel_rfl) (by kernel_rfl) ?_
     obtain rfl := Option.some.inj hr
     have st := st.front3
     have st := st.front2
     have st := st.front3
     have st := st.front3
     exact WO_env _ (by kernel_rfl) (K _ _ ⟨m5, rfl, hm, st, r4, r2⟩)
   ·rw [if_neg (not_true hc)] at hr
    refine WO_fact (t := 41) (b := false) (y2.2 == 0) (by kernel_rfl) hc ?_
    refine WO_seg 27 [(0, .bool false)] (by kernel_rfl) (by kernel_rfl) ?_
    obtain rfl := Option.some.inj hr
    have st := st.front3
    have st := st.front2
    have st := st.front3
    have st := st.front3
    exact WO_env _ (by kernel_rfl) (K _ _ ⟨m5, rfl, hm, st, r4, r2⟩)
  ·rw [if_neg (not_true hc)] at hr
   refine WO_fact (t := 37) (b := false) (y1.2 == 0) (by kernel_rfl) hc ?_
   refine WO_seg 31 [(0, .bool false)] (by kernel_rfl) (by kernel_rfl) ?_
   obtain rfl := Option.some.inj hr
   have st := st.front3
   have st := st.front2
   have st := st.front3
   have st := st.front3
   exact WO_env _ (by kernel_rfl) (K _ _ ⟨m5, rfl, hm, st, r4, r2⟩)

def testgatelaw07_RevisionBack (N : Nat) (p0 : List Int) (p1 : Int) : Option (Bool) :=
 (testgatemake_Revision N (p0, 0)).bind fun y1 => (revision_Encode N y1.2).bind fun y2 => (revision_Decode N y2.1).bind fun y3 => (if (y2.2 != 0) = true then (some true) else (if (y3.2 != 0) = true then (some true) else ((testgateref07_Same N y1.2 y3.1).bind fun y4 => if (!y4) = true then (some true) else (some ((List.length y2.1 : Int) == 0)))) : Option (Bool)).bind fun o1 => if o1 = true then (some false) else ((testgatemake_Fold N p1 (List.length y2.1 : Int)).bind fun y5 => (subS y2.1 0 y5).bind fun l1 => (revision_Decode N l1).bind fun y6 => (if (y6.2 != 0) = true then ((testgatelaw07_awake N).bind fun y7 => some y7) else (some false) : Option (Bool)).bind fun o2 => some o2)

set_option maxHeartbeats 4000000 in
set_option maxRecDepth 100000 in
theorem testgatelaw07_RevisionBack_ok {N : Nat} {m : Mem} {own : List Piece} {w : World} {p0 : List Int} {p1 : Int} {a1 : Option Addr} {c1 : Nat} {r : Bool} (st : St m (own) w) (r1 : RepS (cInt .i64) m a1 c1 p0) (hr : testgatelaw07_RevisionBack N p0 p1 = some r) : Calls Go.Proofs.Tryd.prog 11 #[.slice a1 (List.length p0) c1, .int .i64 p1] w fun e w' => ∃ (m' : Mem), e = .returned (.bool r) ∧ m.le m' ∧ St m' (own) w' := by
 unfold testgatelaw07_RevisionBack at hr
 have hm := m.le_refl
 refine W_calls Go.Proofs.Tryd.func11 rfl Go.Proofs.Tryd.ntmps11 [(0, .slice a1 (List.length p0) c1), (1, .int .i64 p1)] (by kernel_rfl) rfl ?_
 refine W_sr ?_
 refine WO_seg 1 [] (by kernel_rfl) (by kernel_rfl) ?_
 refine WO_et rfl ?_
 refine W_sr ?_
 refine WO_seg 2 [(11, .agg #[.slice a1 (List.length p0) c1, .int .i64 0])] (by kernel_rfl) (by kernel_rfl) ?_
 refine WO_one rfl (One_box_own (d := 12) (e := 29) (x := (.tmp 11)) (.agg #[.slice a1 (List.length p0) c1, .int .i64 0]) (by kernel_rfl) rfl (by kernel_rfl) st ?_)
 clear st
 intro b1 w1 st
 replace hr := bindS hr
 obtain ⟨y1, hx1, hr⟩ := hr
 refine WO_one rfl (One_fn 13 45 #[.pointer (some ⟨b1, 0, none⟩)] (by kernel_rfl) rfl ?_)
 refine (testgatemake_Revision_ok st r1 hx1).mono ?_
 clear st
 rintro _ w2 ⟨a2, c2, a3, c3, m2, rfl, hle2, st, r2, r3⟩
 refine ⟨_, rfl, ?_⟩
 have hm := Mem.le_trans hm hle2
 have r1 := r1.mono hle2
 refine WO_one rfl (One_alloc (d := 5) (e := 47) (.agg #[.slice none 0 0]) (by kernel_rfl) rfl (by kernel_rfl) st ?_)
 clear st
 intro b2 w3 st
 refine WO_one rfl (One_store (t := 47) (x := (.tmp 5)) (y := (.tmp 13)) (v := .agg #[.slice a3 (List.length y1.2) c3]) (c' := #[.slice a3 (List.length y1.2) c3]) (by kernel_rfl) (show evL _ _ = some (.pointer (some ⟨b2, 0, none⟩)) from (by kernel_rfl)) (show evL _ _ = some (.agg #[.slice a3 (List.length y1.2) c3]) from (by kernel_rfl)) st (by kernel_rfl) (by kernel_rfl) ?_)
 clear st
 intro w4 st
 refine WO_et rfl ?_
 refine W_sr ?_
 refine WO_one rfl (One_load_own (d := 15) (t := 47) (x := (.tmp 5)) (.agg #[.slice a3 (List.length y1.2) c3]) (by kernel_rfl) rfl (show evL _ _ = some (.pointer (some ⟨b2, 0, none⟩)) from (by kernel_rfl)) st.head (by kernel_rfl) ?_)
 replace hr := bindS hr
 obtain ⟨y2, hx2, hr⟩ := hr
 refine WO_one rfl (One_fn 16 41 #[.agg #[.slice a3 (List.length y1.2) c3]] (by kernel_rfl) rfl ?_)
 refine (revision_Encode_ok st r3 hx2).mono ?_
 clear st
 rintro _ w5 ⟨a4, c4, m3, rfl, hle3, st, r4⟩
 refine ⟨_, rfl, ?_⟩
 have hm := Mem.le_trans hm hle3
 have r3 := r3.mono hle3
 have r2 := r2.mono hle3
 refine WO_seg 5 [(6, .slice a4 (List.length y2.1) c4), (7, .int .i64 y2.2)] (by kernel_rfl) (by kernel_rfl) ?_
 refine WO_et rfl ?_
 refine W_sr ?_
 refine WO_seg 1 [(20, .slice a4 (List.length y2.1) c4)] (by kernel_rfl) (by kernel_rfl) ?_
 replace hr := bindS hr
 obtain ⟨y3, hx3, hr⟩ := hr
 refine WO_one rfl (One_fn 21 46 #[.slice a4 (List.length y2.1) c4] (by kernel_rfl) rfl ?_)
 refine (revision_Decode_ok st r4 hx3).mono ?_
 clear st
 rintro _ w6 ⟨a5, c5, m4, rfl, hle4, st, r5⟩
 refine ⟨_, rfl, ?_⟩
 have hm := Mem.le_trans hm hle4
 have r4 := r4.mono hle4
 have r3 := r3.mono hle4
 have r2 := r2.mono hle4
 refine WO_seg 3 [(22, .agg #[.slice a5 (List.length y3.1) c5]), (23, .int .i64 y3.2)] (by kernel_rfl) (by kernel_rfl) ?_
 refine WO_one rfl (One_alloc (d := 8) (e := 47) (.agg #[.slice none 0 0]) (by kernel_rfl) rfl (by kernel_rfl) st ?_)
 clear st
 intro b3 w7 st
 refine WO_one rfl (One_store (t := 47) (x := (.tmp 8)) (y := (.tmp 22)) (v := .agg #[.slice a5 (List.length y3.1) c5]) (c' := #[.slice a5 (List.length y3.1) c5]) (by kernel_rfl) (show evL _ _ = some (.pointer (some ⟨b3, 0, none⟩)) from (by kernel_rfl)) (show evL _ _ = some (.agg #[.slice a5 (List.length y3.1) c5]) from (by kernel_rfl)) st (by kernel_rfl) (by kernel_rfl) ?_)
 clear st
 intro w8 st
 refine WO_seg 1 [(9, .int .i64 y3.2)] (by kernel_rfl) (by kernel_rfl) ?_
 refine WO_et rfl ?_
 refine W_seq ?_
 refine W_sr ?_
 replace hr := bindS hr
 obtain ⟨o1, hr, hrK⟩ := hr
 refine WO_cut (j := 17) (fun L' w' => ∃ (m5 : Mem), L' = [(1, .int .i64 p1), (6, .slice a4 (List.length y2.1) c4), (40, .bool o1)] ∧ m.le m5 ∧ St m5 (.blk b3 (.cells #[.slice a5 (List.length y3.1) c5] 47 (0, 0)) :: .blk b2 (.cells #[.slice a3 (List.length y1.2) c3] 47 (0, 0)) :: .blk b1 (.cells #[.slice a2 (List.length y1.1.1) c2, .int .i64 y1.1.2] 29 (0, 0)) :: .room a5 (List.length y3.1) c5 66 2 :: .room a4 (List.length y2.1) c4 5 1 :: .room a3 (List.length y1.2) c3 66 2 :: own) w' ∧ RepS cU8 m5 a4 c4 y2.1 ∧ RepS (cPair cStr cStr) m5 a5 c5 y3.1 ∧ RepS (cPair cStr cStr) m5 a3 c3 y1.2 ∧ RepS (cInt .i64) m5 a2 c2 y1.1.1) ?_ ?_
 ·clear hr st
  have hr := hrK
  clear hrK
  rintro _ w9 ⟨m5, rfl, hm, st, r4, r5, r3, r2⟩
  refine WO_et rfl ?_
  refine W_cond o1 (by kernel_rfl) ?_ ?_
  ·intro hc
   rw [if_pos hc] at hr
   refine W_sr ?_
   refine WO_seg 1 [(4, .bool false)] (by kernel_rfl) (by kernel_rfl) ?_
   refine WO_end rfl ?_
   have st := st.front4
   have st := st.tail
   refine X_then ?_
   refine W_ret ?_
   refine X_then_ret ?_
   obtain rfl := Option.some.inj hr
   refine X_ret [.tmp 4] [.bool false] rfl (ResAll.cons (ResAt.tmp (by kernel_rfl)) ResAll.nil) ?_
   have st := st.tail
   have st := st.tail
   have st := st.tail
   have st := st.tail
   have st := st.tail
   exact ⟨m5, rfl, hm, st⟩
  ·intro hc
   rw [if_neg (not_true hc)] at hr
   refine W_skip ?_
   refine X_then ?_
   refine W_sr ?_
   refine WO_seg 4 [(42, .slice a4 (List.length y2.1) c4), (43, .int .i64 p1), (45, .int .i64 (List.length y2.1 : Int))] (by kernel_rfl) (by kernel_rfl) ?_
   replace hr := bindS hr
   obtain ⟨y5, hx5, hr⟩ := hr
   refine WO_one rfl (One_fn 46 47 #[.int .i64 p1, .int .i64 (List.length y2.1 : Int)] (by kernel_rfl) rfl ?_)
   refine (testgatemake_Fold_ok st hx5).mono ?_
   clear st
   rintro _ w11 ⟨m7, rfl, hle6, st⟩
   refine ⟨_, rfl, ?_⟩
   have hm := Mem.le_trans hm hle6
   have r4 := r4.mono hle6
   have r5 := r5.mono hle6
   have r3 := r3.mono hle6
   have r2 := r2.mono hle6
   replace hr := bindS hr
   obtain ⟨l1, hx6, hr⟩ := hr
   refine WO_one rfl (One_slice (d := 47) (t := 43) (e := 5) (x := (.tmp 42)) (lo := none) (hi := (some (.tmp 46))) cU8 (by kernel_rfl) rfl (show evL _ _ = some (.slice a4 (List.length y2.1) c4) from (by kernel_rfl)) (by kernel_rfl) r4 (.inl ⟨rfl, rfl⟩) (.inr ⟨_, _, rfl, (show evL _ _ = some (.int .i64 y5) from (by kernel_rfl))⟩) hx6 ?_)
   intro a6 c6 r6
   replace hr := bindS hr
   obtain ⟨y6, hx7, hr⟩ := hr
   refine WO_one rfl (One_fn 48 46 #[.slice a6 (List.length l1) c6] (by kernel_rfl) rfl ?_)
   refine (revision_Decode_ok st r6 hx7).mono ?_
   clear st
   rintro _ w12 ⟨a7, c7, m8, rfl, hle7, st, r7⟩
   refine ⟨_, rfl, ?_⟩
   have hm := Mem.le_trans hm hle7
   have r4 := r4.mono hle7
   have r6 := r6.mono hle7
   have r5 := r5.mono hle7
   have r3 := r3.mono hle7
   have r2 := r2.mono hle7
   refine WO_seg 4 [(9, .int .i64 y6.2)] (by kernel_rfl) (by kernel_rfl) ?_
   refine WO_end rfl ?_
   have st := st.tail
   have st := st.front4
   have st := st.tail
   refine X_then ?_
   refine W_sr ?_
   replace hr := bindS hr
   obtain ⟨o2, hr, hrK⟩ := hr
   refine WO_cut (j := 6) (fun L' w' => ∃ (m9 : Mem), L' = [(4, .bool o2)] ∧ m.le m9 ∧ St m9 (.blk b3 (.cells #[.slice a5 (List.length y3.1) c5] 47 (0, 0)) :: .blk b2 (.cells #[.slice a3 (List.length y1.2) c3] 47 (0, 0)) :: .blk b1 (.cells #[.slice a2 (List.length y1.1.1) c2, .int .i64 y1.1.2] 29 (0, 0)) :: .room a5 (List.length y3.1) c5 66 2 :: .room a3 (List.length y1.2) c3 66 2 :: own) w' ∧ RepS (cPair cStr cStr) m9 a5 c5 y3.1 ∧ RepS (cPair cStr cStr) m9 a3 c3 y1.2 ∧ RepS (cInt .i64) m9 a2 c2 y1.1.1) ?_ ?_
   ·clear hr st
    have hr := hrK
    clear hrK
    rintro _ w13 ⟨m9, rfl, hm, st, r5, r3, r2⟩
    refine WO_et rfl ?_
    refine W_ret ?_
    obtain rfl := Option.some.inj hr
    refine X_ret [.tmp 4] [.bool o2] rfl (ResAll.cons (ResAt.tmp (by kernel_rfl)) ResAll.nil) ?_
    have st := st.tail
    have st := st.tail
    have st := st.tail
    have st := st.tail
    have st := st.tail
    exact ⟨m9, rfl, hm, st⟩
   ·intro K
    clear hrK
    refine WO_seg 3 [(53, .bool (y6.2 != 0))] (by kernel_rfl) (by kernel_rfl) ?_
    rcases bcases (y6.2 != 0) with hc | hc
    ·rw [if_pos hc] at hr
     refine WO_fact (t := 53) (b := true) (y6.2 != 0) (by kernel_rfl) hc ?_
     replace hr := bindS hr
     obtain ⟨y7, hx8, hr⟩ := hr
     refine WO_one rfl (One_fn 54 40 #[] (by kernel_rfl) rfl ?_)
     refine (testgatelaw07_awake_ok st hx8).mono ?_
     clear st
     rintro _ w14 ⟨m10, rfl, hle8, st⟩
     refine ⟨_, rfl, ?_⟩
     have hm := Mem.le_trans hm hle8
     have r5 := r5.mono hle8
     have r3 := r3.mono hle8
     have r2 := r2.mono hle8
     refine WO_seg 2 [(4, .bool y7)] (by kernel_rfl) (by kernel_rfl) ?_
     obtain rfl := Option.some.inj hr
     have st := st.front4
     have st := st.front4
     have st := st.front4
     have st := st.front4
     have st := st.front4
     exact WO_env _ (by kernel_rfl) (K _ _ ⟨m10, rfl, hm, st, r5, r3, r2⟩)
    ·rw [if_neg (not_true hc)] at hr
     refine WO_fact (t := 53) (b := false) (y6.2 != 0) (by kernel_rfl) hc ?_
     refine WO_seg 3 [(4, .bool false)] (by kernel_rfl) (by kernel_rfl) ?_
     obtain rfl := Option.some.inj hr
     have st := st.front4
     have st := st.front4
     have st := st.front4
     have st := st.front4
     have st := st.front4
     exact WO_env _ (by kernel_rfl) (K _ _ ⟨m8, rfl, hm, st, r5, r3, r2⟩)
 ·intro K
  clear hrK
  refine WO_seg 3 [(26, .bool (y2.2 != 0))] (by kernel_rfl) (by kernel_rfl) ?_
  rcases bcases (y2.2 != 0) with hc | hc
  ·rw [if_pos hc] at hr
   refine WO_fact (t := 26) (b := true) (y2.2 != 0) (by kernel_rfl) hc ?_
   refine WO_seg 14 [(40, .bool true)] (by kernel_rfl) (by kernel_rfl) ?_
   obtain rfl := Option.some.inj hr
   have st := st.front4
   have st := st.front3
   have st := st.front3
   have st := st.front5
   have st := st.front5
   have st := st.front5
   exact WO_env _ (by kernel_rfl) (K _ _ ⟨m4, rfl, hm, st, r4, r5, r3, r2⟩)
  ·rw [if_neg (not_true hc)] at hr
   refine WO_fact (t := 26) (b := false) (y2.2 != 0) (by kernel_rfl) hc ?_
   refine WO_seg 4 [(30, .bool (y3.2 != 0))] (by kernel_rfl) (by kernel_rfl) ?_
   rcases bcases (y3.2 != 0) with hc | hc
   ·rw [if_pos hc] at hr
    refine WO_fact (t := 30) (b := true) (y3.2 != 0) (by kernel_rfl) hc ?_
    refine WO_seg 10 [(40, .bool true)] (by kernel_rfl) (by kernel_rfl) ?_
    obtain rfl := Option.some.inj hr
    have st := st.front4
    have st := st.front3
    have st := st.front3
    have st := st.front5
    have st := st.front5
    have st := st.front5
    exact WO_env _ (by kernel_rfl) (K _ _ ⟨m4, rfl, hm, st, r4, r5, r3, r2⟩)
   ·rw [if_neg (not_true hc)] at hr
    refine WO_fact (t := 30) (b := false) (y3.2 != 0) (by kernel_rfl) hc ?_
    refine WO_one rfl (One_load_own (d := 31) (t := 47) (x := (.tmp 5)) (.agg #[.slice a3 (List.length y1.2) c3]) (by kernel_rfl) rfl (show evL _ _ = some (.pointer (some ⟨b2, 0, none⟩)) from (by kernel_rfl)) st.tail.tail.tail.head (by kernel_rfl) ?_)
    refine WO_one rfl (One_load_own (d := 32) (t := 47) (x := (.tmp 8)) (.agg #[.slice a5 (List.length y3.1) c5]) (by kernel_rfl) rfl (show evL _ _ = some (.pointer (some ⟨b3, 0, none⟩)) from (by kernel_rfl)) st.head (by kernel_rfl) ?_)
    replace hr := bindS hr
    obtain ⟨y4, hx4, hr⟩ := hr
    refine WO_one rfl (One_fn 33 29 #[.agg #[.slice a3 (List.length y1.2) c3], .agg #[.slice a5 (List.length y3.1) c5]] (by kernel_rfl) rfl ?_)
    refine (testgateref07_Same_ok st r3 r5 hx4).mono ?_
    clear st
    rintro _ w10 ⟨m6, rfl, hle5, st⟩
    refine ⟨_, rfl, ?_⟩
    have hm := Mem.le_trans hm hle5
    have r4 := r4.mono hle5
    have r3 := r3.mono hle5
    have r5 := r5.mono hle5
    have r2 := r2.mono hle5
    refine WO_seg 3 [(36, .bool (!y4))] (by kernel_rfl) (by kernel_rfl) ?_
    rcases bcases (!y4) with hc | hc
    ·rw [if_pos hc] at hr
     refine WO_fact (t := 36) (b := true) (!y4) (by kernel_rfl) hc ?_
     refine WO_seg 4 [(40, .bool true)] (by kernel_rfl) (by kernel_rfl) ?_
     obtain rfl := Option.some.inj hr
     have st := st.front4
     have st := st.front3
     have st := st.front3
     have st := st.front5
     have st := st.front5
     have st := st.front5
     exact WO_env _ (by kernel_rfl) (K _ _ ⟨m6, rfl, hm, st, r4, r5, r3, r2⟩)
    ·rw [if_neg (not_true hc)] at hr
     refine WO_fact (t := 36) (b := false) (!y4) (by kernel_rfl) hc ?_
     refine WO_seg 4 [(40, .bool ((List.length y2.1 : Int) == 0))] (by kernel_rfl) (by kernel_rfl) ?_
     obtain rfl := Option.some.inj hr
     have st := st.front4
     have st := st.front3
     have st := st.front3
     have st := st.front5
     have st := st.front5
     have st := st.front5
     exact WO_env _ (by kernel_rfl) (K _ _ ⟨m6, rfl, hm, st, r4, r5, r3, r2⟩)

end Go.Proofs.YtfodebccikifcaaDoor
