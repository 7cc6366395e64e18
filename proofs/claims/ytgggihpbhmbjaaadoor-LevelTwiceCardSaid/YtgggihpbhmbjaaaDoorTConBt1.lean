/- MADE BY gen.py: plain functions and the proofs that the Go functions compute them. No condition but those of each theorem. -/
import Derived.Test.YtgggihpbhmbjaaaDoorProg
import Derived.Test.YtgggihpbhmbjaaaDoorViewt1
import Derived.Test.YtgggihpbhmbjaaaDoorMapDt1
import Derived.Test.YtgggihpbhmbjaaaDoorLint1
import Derived.Test.YtgggihpbhmbjaaaDoorTConAt1
namespace Go.Proofs.YtgggihpbhmbjaaaDoor
open Go Go.Dc
def fact_Set_L2 (N : Nat) (y2 : List (Int × ByteArray × ByteArray)) (s1 : Int) (s2 : Int × Int × (List (Int × ByteArray × ByteArray))) : Option ((Int × Int × (List (Int × ByteArray × ByteArray))) ⊕ ((Int × (List (Int × ByteArray × ByteArray))))) :=
 if (decide (s2.2.1 < ((Int.toNat (List.length y2 : Int) - Int.toNat s1 : Nat) : Int))) = true then (((idx (List.drop (Int.toNat s1) (List.take (Int.toNat (List.length y2 : Int)) s2.2.2)) s2.2.1).bind fun x3 => (idx (List.drop (Int.toNat s1) (List.take (Int.toNat (List.length y2 : Int)) s2.2.2)) (IntKind.wrap .i64 (s2.2.1 - 1))).bind fun x4 => if (!((x3.1 == x4.1) && ((x3.2.1.toList == x4.2.1.toList) && ((x3.2.2.toList == x4.2.2.toList) && true)))) = true then ((idx (List.drop (Int.toNat s1) (List.take (Int.toNat (List.length y2 : Int)) s2.2.2)) s2.2.1).bind fun x5 => (idx s2.2.2 s2.1).bind fun x6 => some (IntKind.wrap .i64 (s2.1 + 1), List.set s2.2.2 (Int.toNat s2.1) (x5.1, x5.2.1, x5.2.2))) else (some (s2.1, s2.2.2)) : Option (Int × (List (Int × ByteArray × ByteArray)))).bind fun o4 => some (.inl (o4.1, IntKind.wrap .i64 (s2.2.1 + 1), o4.2))) else (some (.inr (s2.1, s2.2.2)))
def fact_Set_L1 (N : Nat) (y1 : List (Int × ByteArray × ByteArray)) (y2 : List (Int × ByteArray × ByteArray)) (s1 : Int) : Option ((Int) ⊕ ((Unit) ⊕ ((List (Int × ByteArray × ByteArray))))) :=
 if (decide (s1 < ((List.length y1) : Int))) = true then ((idx y2 s1).bind fun x1 => (idx y2 (IntKind.wrap .i64 (s1 - 1))).bind fun x2 => if ((x1.1 == x2.1) && ((x1.2.1.toList == x2.2.1.toList) && ((x1.2.2.toList == x2.2.2.toList) && true))) = true then ((chkS y2 s1 (List.length y2 : Int)).bind fun u3 => (loopM (fact_Set_L2 N y2 s1) N (s1, 1, y2)).bind fun o3 => (chkS o3.2 o3.1 (List.length o3.2 : Int)).bind fun u6 => (clearM o3.2 o3.1 (0, (⟨#[]⟩ : ByteArray), (⟨#[]⟩ : ByteArray))).bind fun l1 => (chkS l1 0 o3.1).bind fun u7 => some (.inr (.inr (List.take (Int.toNat o3.1) l1)))) else (some (.inl (IntKind.wrap .i64 (s1 + 1))))) else (some (.inr (.inl ())))
def fact_Set (N : Nat) (p0 : List (Int × ByteArray × ByteArray)) : Option (List (Int × ByteArray × ByteArray)) :=
 (slices_Clone_api_Key_api_Key_O p0).bind fun y1 => (slices_SortFunc_api_Key_api_Key_S_fact_Compare N y1).bind fun y2 => (if (decide (((List.length y1) : Int) < 2)) = true then (some y2) else ((loopM (fact_Set_L1 N y1 y2) N 1).bind fun out1 => (match out1 with | .inl o2 => some y2 | .inr (z) => some z)) : Option ((List (Int × ByteArray × ByteArray)))).bind fun o1 => some o1
set_option maxHeartbeats 4000000 in
set_option maxRecDepth 100000 in
theorem fact_Set_ok {N : Nat} {m : Mem} {own : List Piece} {w : World} {p0 : List (Int × ByteArray × ByteArray)} {a1 : Option Addr} {c1 : Nat} {r : List (Int × ByteArray × ByteArray)} (st : St m (own) w) (r1 : RepS (cPair (cInt .i64) (cPair cStr cStr)) m a1 c1 p0) (hr : fact_Set N p0 = some r) : Calls Tryd.prog 38 #[.slice a1 (List.length p0) c1] w fun e w' => ∃ (ra1 : Option Addr) (rc1 : Nat) (m' : Mem), e = .returned (.slice ra1 (List.length r) rc1) ∧ m.le m' ∧ St m' (.room ra1 (List.length r) rc1 29 3 :: own) w' ∧ RepS (cPair (cInt .i64) (cPair cStr cStr)) m' ra1 rc1 r := by
 unfold fact_Set at hr
 have hm := m.le_refl
 refine W_calls Tryd.func38 rfl Tryd.ntmps38 [(0, .slice a1 (List.length p0) c1)] kr rfl ?_
 refine W_sr (WO_seg 1 [] kr kr ?_)
 refine WO_et rfl (W_sr ?_)
 refine WO_seg 1 [(3, .slice a1 (List.length p0) c1)] kr kr ?_
 replace ⟨y1, hx1, hr⟩ := bindS hr
 refine WO_one rfl (One_fn 4 65 #[.slice a1 (List.length p0) c1] kr rfl ?_)
 refine (slices_Clone_api_Key_api_Key_own st r1 hx1).mono ?_
 clear st
 rintro _ w1 ⟨a2, c2, T1, m1, rfl, hle1, hs1, st⟩
 refine ⟨_, rfl, ?_⟩
 have hm := Mem.le_trans hm hle1
 have r1 := r1.mono hle1
 refine WO_seg 1 [(0, .slice a2 (List.length y1) c2)] kr kr ?_
 refine WO_et rfl (W_sr ?_)
 refine WO_seg 1 [(5, .slice a2 (List.length y1) c2)] kr kr ?_
 replace ⟨y2, hx2, hr⟩ := bindS hr
 refine WO_one rfl (One_fn 6 66 #[.slice a2 (List.length y1) c2, .func (.func 67) #[] #[]] kr rfl ?_)
 refine (slices_SortFunc_api_Key_api_Key_own_fact_Compare st hs1 rfl hx2).mono ?_
 clear st
 rintro _ w2 ⟨rfl, st⟩
 refine ⟨_, rfl, ?_⟩
 have hn1 := ((slices_SortFunc_api_Key_api_Key_len_fact_Compare hx2).trans rfl)
 refine WO_et rfl (W_sr ?_)
 refine WO_seg 1 [(7, .slice a2 (List.length y1) c2)] kr kr ?_
 replace ⟨o1, hr, hrKu1⟩ := bindS hr
 refine WO_one rfl (One_fn 8 68 #[.slice a2 (List.length y1) c2] kr rfl ?_)
 refine Calls_cut (fun v' w' => ∃ (a4 : Option Addr) (c4 : Nat) (m3 : Mem), v' = (.slice a4 (List.length o1) c4) ∧ m.le m3 ∧ St m3 (.room a4 (List.length o1) c4 29 3 :: own) w' ∧ RepS (cPair (cInt .i64) (cPair cStr cStr)) m3 a4 c4 o1) ?_ ?_
 ·clear hr st
  have hr := hrKu1
  clear hrKu1
  rintro _ w3 ⟨a4, c4, m3, rfl, hm, st, r3⟩
  refine ⟨_, rfl, ?_⟩
  refine WO_seg 1 [(2, .slice a4 (List.length o1) c4)] kr kr ?_
  refine WO_et rfl (W_ret ?_)
  obtain rfl := Option.some.inj hr
  refine X_ret [.tmp 2] [.slice a4 (List.length o1) c4] rfl (ResAll.cons (ResAt.tmp kr) ResAll.nil) ?_
  exact ⟨a4, c4, m3, rfl, hm, st, r3⟩
 ·clear hrKu1
  refine W_calls Tryd.func68 rfl Tryd.ntmps68 [(0, .slice a2 (List.length y1) c2)] kr rfl ?_
  refine W_sr (WO_seg 1 [] kr kr ?_)
  refine WO_et rfl (W_seq ?_)
  refine W_sr (WO_seg 3 [(8, .bool (decide (((List.length y1) : Int) < 2)))] kr kr ?_)
  refine WO_et rfl (W_cond (decide (((List.length y1) : Int) < 2)) kr ?_ ?_)
  ·intro hc
   rw [if_pos hc] at hr
   refine W_sr (WO_seg 2 [(2, .slice a2 (List.length y1) c2)] kr kr ?_)
   refine WO_et rfl (W_ret ?_)
   refine X_then_ret ?_
   obtain rfl := Option.some.inj hr
   obtain ⟨m4, hle3, st, r4⟩ := St.freezeM (c := (cPair (cInt .i64) (cPair cStr cStr))) (f := (fun x : Int × ByteArray × ByteArray => ([.int .i64 x.1, .string x.2.1, .string x.2.2] : List Value))) st hs1 hn1 (fun _ => rfl) (fun _ x => ⟨_, _, rfl, rfl, ⟨_, _, rfl, rfl, rfl⟩⟩)
   have hm := Mem.le_trans hm hle3
   refine X_env [(2, .slice a2 (List.length y2) c2)] (by (try simp only [hn1]); kernel_rfl) ?_
   refine X_ret [.tmp 2] [.slice a2 (List.length y2) c2] rfl (ResAll.cons (ResAt.tmp kr) ResAll.nil) ?_
   exact ⟨_, rfl, ⟨a2, c2, m4, rfl, hm, st, r4⟩⟩
  ·intro hc
   rw [if_neg (not_true hc)] at hr
   refine W_skip ?_
   refine X_then ?_
   refine W_seq ?_
   refine W_sr (WO_seg 1 [(3, .int .i64 1)] kr kr ?_)
   refine WO_et rfl (W_block ?_)
   replace ⟨out1, hr, hrKu2⟩ := bindS hr
   refine W_cut (.exit 0) (fun L' w' => ∃ (o2 : Unit) (m5 : Mem), (.inl o2) = out1 ∧ L' = [(0, .slice a2 (List.length y1) c2)] ∧ m.le m5 ∧ St m5 (opc a2 (acellsM (fun x : Int × ByteArray × ByteArray => ([.int .i64 x.1, .string x.2.1, .string x.2.2] : List Value)) y2 T1) 29 :: own) w' ∧ List.length y2 = (List.length y1)) ?_ ?_
   ·clear hr st
    rintro _ w4 ⟨o2, m5, rfl, rfl, hm, st, hn1⟩
    have hr := hrKu2
    clear hrKu2
    dsimp only at hr
    refine X_block_eq ?_
    refine X_then ?_
    refine W_sr (WO_seg 2 [(2, .slice a2 (List.length y1) c2)] kr kr ?_)
    refine WO_et rfl (W_ret ?_)
    obtain rfl := Option.some.inj hr
    obtain ⟨m11, hle5, st, r6⟩ := St.freezeM (c := (cPair (cInt .i64) (cPair cStr cStr))) (f := (fun x : Int × ByteArray × ByteArray => ([.int .i64 x.1, .string x.2.1, .string x.2.2] : List Value))) st hs1 hn1 (fun _ => rfl) (fun _ x => ⟨_, _, rfl, rfl, ⟨_, _, rfl, rfl, rfl⟩⟩)
    have hm := Mem.le_trans hm hle5
    refine X_env [(2, .slice a2 (List.length y2) c2)] (by (try simp only [hn1]); kernel_rfl) ?_
    refine X_ret [.tmp 2] [.slice a2 (List.length y2) c2] rfl (ResAll.cons (ResAt.tmp kr) ResAll.nil) ?_
    exact ⟨_, rfl, ⟨a2, c2, m11, rfl, hm, st, r6⟩⟩
   intro K0_u2
   refine W_env _ kr (W_loop (fun k1 L' w' => ∃ (s1 : Int) (m6 : Mem), loopM (fact_Set_L1 N y1 y2) k1 s1 = some out1 ∧ L' = [(0, .slice a2 (List.length y1) c2), (3, .int .i64 s1)] ∧ m.le m6 ∧ St m6 (opc a2 (acellsM (fun x : Int × ByteArray × ByteArray => ([.int .i64 x.1, .string x.2.1, .string x.2.2] : List Value)) y2 T1) 29 :: own) w' ∧ List.length y2 = (List.length y1)) N ⟨1, m1, hr, rfl, hm, st, hn1⟩ ?_)
   clear st hr
   rintro k1 _ w5 ⟨s1, m6, hL, rfl, hm, st, hn1⟩
   rcases k1 with _ | k1
   ·exact loopM_zero hL
   ·obtain ⟨qu2, hr, hSu2, hBu2⟩ := loopM_succ hL
    clear hL
    unfold fact_Set_L1 at hr
    refine W_seq ?_
    refine W_sr (WO_seg 4 [(13, .bool (decide (s1 < ((List.length y1) : Int))))] kr kr ?_)
    refine WO_et rfl (W_cond (decide (s1 < ((List.length y1) : Int))) kr ?_ ?_)
    ·intro hc
     rw [if_pos hc] at hr
     refine W_skip ?_
     refine X_then ?_
     refine W_seq ?_
     refine W_block ?_
     refine W_seq ?_
     refine W_draw [(10, fun w' => Inv m6 w' ∧ Piece.holds m6 w' (opc a2 (acellsM (fun x : Int × ByteArray × ByteArray => ([.int .i64 x.1, .string x.2.1, .string x.2.2] : List Value)) y2 T1) 29) ∧ True)] kr st ?_
     clear st
     intro w6 _ st
     have hmS1 := m6.le_refl
     refine ⟨⟨.inr ⟨Inv.anti st.inv hmS1, opc_anti st.head hmS1, trivial⟩, trivial⟩, ?_⟩
     refine WA_pure 0 16 (.slice a2 (List.length y1) c2) kr rfl kr (.head _) (QP_then (QP_block (QP_then (QP_then (QP_block (QP_then QP_body)))))) ?_
     refine WA_pure 1 17 (.int .i64 s1) kr rfl kr (.head _) (QP_then (QP_block (QP_then (QP_then (QP_block (QP_then QP_body)))))) ?_
     replace ⟨x1, hx3, hr⟩ := bindS hr
     refine WA_arrIndexM (t := 23) (e := 29) (x := (.tmp 16)) (y := (.tmp 17)) (k := 3) 2 18 kr rfl kr (.head _) (QP_then (QP_block (QP_then (QP_then (QP_block (QP_then QP_body)))))) (ev (.slice a2 (List.length y1) c2)) (ev (.int .i64 s1)) kr hs1 hn1 hx3 ?_
     refine WA_arrLoadM (t := 29) (x := (.tmp 18)) (o := 0) (f := (fun x : Int × ByteArray × ByteArray => ([.int .i64 x.1, .string x.2.1, .string x.2.2] : List Value))) (z := x1) (v := .agg #[.int .i64 x1.1, .string x1.2.1, .string x1.2.2]) 3 19 (fun _ => rfl) (Int.toNat s1 * 3) rfl kr rfl kr (.head _) (QP_then (QP_block (QP_then (QP_then (QP_block (QP_then QP_body)))))) (fun _ h => h.2.1) (ev (.pointer (some ⟨ab a2, Int.toNat s1 * 3, none⟩))) hs1 hn1 hx3 kr ?_
     refine WA_pure 4 20 (.slice a2 (List.length y1) c2) kr rfl kr (.head _) (QP_then (QP_block (QP_then (QP_then (QP_block (QP_then QP_body)))))) ?_
     refine WA_pure 5 21 (.int .i64 s1) kr rfl kr (.head _) (QP_then (QP_block (QP_then (QP_then (QP_block (QP_then QP_body)))))) ?_
     refine WA_pure 6 22 (.int .i64 (IntKind.wrap .i64 (s1 - 1))) kr rfl kr (.head _) (QP_then (QP_block (QP_then (QP_then (QP_block (QP_then QP_body)))))) ?_
     replace ⟨x2, hx4, hr⟩ := bindS hr
     refine WA_arrIndexM (t := 23) (e := 29) (x := (.tmp 20)) (y := (.tmp 22)) (k := 3) 7 23 kr rfl kr (.head _) (QP_then (QP_block (QP_then (QP_then (QP_block (QP_then QP_body)))))) (ev (.slice a2 (List.length y1) c2)) (ev (.int .i64 (IntKind.wrap .i64 (s1 - 1)))) kr hs1 hn1 hx4 ?_
     refine WA_arrLoadM (t := 29) (x := (.tmp 23)) (o := 0) (f := (fun x : Int × ByteArray × ByteArray => ([.int .i64 x.1, .string x.2.1, .string x.2.2] : List Value))) (z := x2) (v := .agg #[.int .i64 x2.1, .string x2.2.1, .string x2.2.2]) 8 24 (fun _ => rfl) (Int.toNat (IntKind.wrap .i64 (s1 - 1)) * 3) rfl kr rfl kr (.head _) (QP_then (QP_block (QP_then (QP_then (QP_block (QP_then QP_body)))))) (fun _ h => h.2.1) (ev (.pointer (some ⟨ab a2, Int.toNat (IntKind.wrap .i64 (s1 - 1)) * 3, none⟩))) hs1 hn1 hx4 kr ?_
     refine WA_one 9 kr  (One_eqAgg (d := 25) (t := 29) (t2 := 29) (x := (.tmp 19)) (y := (.tmp 24)) (xs := #[.int .i64 x1.1, .string x1.2.1, .string x1.2.2]) (ys := #[.int .i64 x2.1, .string x2.2.1, .string x2.2.2]) ((x1.1 == x2.1) && ((x1.2.1.toList == x2.2.1.toList) && ((x1.2.2.toList == x2.2.2.toList) && true))) kr rfl (ev (.agg #[.int .i64 x1.1, .string x1.2.1, .string x1.2.2])) (ev (.agg #[.int .i64 x2.1, .string x2.2.1, .string x2.2.2])) kr kr kr ?_)
     refine ⟨⟨.inr ⟨Inv.anti st.inv hmS1, opc_anti st.head hmS1, trivial⟩, trivial⟩, ?_⟩
     refine WA_done kr ?_
     refine X_then ?_
     refine W_cond ((x1.1 == x2.1) && ((x1.2.1.toList == x2.2.1.toList) && ((x1.2.2.toList == x2.2.2.toList) && true))) kr ?_ ?_
     ·intro hc
      rw [if_pos hc] at hr
      refine W_sr (WO_seg 2 [(26, .slice a2 (List.length y1) c2), (27, .int .i64 s1)] kr kr ?_)
      replace ⟨u3, hx5, hr⟩ := bindS hr
      refine WO_one rfl (One_viewM (d := 28) (t := 23) (e := 29) (k := 3) (x := (.tmp 26)) (lo := (some (.tmp 27))) (hi := none) (li := s1) (hix := (List.length y2 : Int)) kr rfl (ev (.slice a2 (List.length y1) c2)) kr (.inr ⟨_, _, rfl, (ev (.int .i64 s1))⟩) (.inl ⟨rfl, congrArg Nat.cast hn1⟩) hs1 hn1 hx5 ?_)
      have hv1 := chk_n hx5 hn1
      refine WO_seg 1 [(4, .slice (slA a2 c2 (Int.toNat s1) 3) (Int.toNat (List.length y2 : Int) - Int.toNat s1) (c2 - Int.toNat s1))] kr kr ?_
      refine WO_et rfl (W_seq ?_)
      refine W_sr (WO_seg 1 [(5, .int .i64 1)] kr kr ?_)
      refine WO_et rfl (W_block ?_)
      replace ⟨out2, hr, hrKu4⟩ := bindS hr
      refine W_cut (.exit 2) (fun L' w' => ∃ (o3 : Int × (List (Int × ByteArray × ByteArray))) (m7 : Mem), o3 = out2 ∧ L' = [(0, .slice a2 (List.length y1) c2), (3, .int .i64 o3.1)] ∧ m.le m7 ∧ St m7 (opc a2 (acellsM (fun x : Int × ByteArray × ByteArray => ([.int .i64 x.1, .string x.2.1, .string x.2.2] : List Value)) o3.2 T1) 29 :: own) w' ∧ List.length o3.2 = (List.length y1)) ?_ ?_
      ·clear hr st
       rintro _ w7 ⟨o3, m7, rfl, rfl, hm, st, hn2⟩
       have hr := hrKu4
       clear hrKu4
       refine X_block_eq ?_
       refine X_then ?_
       refine W_sr (WO_seg 2 [(54, .slice a2 (List.length y1) c2), (55, .int .i64 o3.1)] kr kr ?_)
       replace ⟨u6, hx13, hr⟩ := bindS hr
       refine WO_one rfl (One_viewM (d := 56) (t := 23) (e := 29) (k := 3) (x := (.tmp 54)) (lo := (some (.tmp 55))) (hi := none) (li := o3.1) (hix := (List.length o3.2 : Int)) kr rfl (ev (.slice a2 (List.length y1) c2)) kr (.inr ⟨_, _, rfl, (ev (.int .i64 o3.1))⟩) (.inl ⟨rfl, congrArg Nat.cast hn2⟩) hs1 hn2 hx13 ?_)
       have hv2 := chk_n hx13 hn2
       replace ⟨l1, hx14, hr⟩ := bindS hr
       refine WO_one rfl (One_clearM (t := 23) (e := 29) (k := 3) (x := (.tmp 56)) (f := (fun x : Int × ByteArray × ByteArray => ([.int .i64 x.1, .string x.2.1, .string x.2.2] : List Value))) (l := o3.2) (lo := o3.1) (z := .agg #[.int .i64 0, .string (⟨#[]⟩ : ByteArray), .string (⟨#[]⟩ : ByteArray)]) (z0 := (0, (⟨#[]⟩ : ByteArray), (⟨#[]⟩ : ByteArray))) (fun _ => rfl) (fun _ _ hv => by simp only [List.mem_cons, List.not_mem_nil, or_false] at hv; rcases hv with rfl | rfl | rfl <;> rfl) kr (ev (.slice (slA a2 c2 (Int.toNat o3.1) 3) (Int.toNat (List.length o3.2 : Int) - Int.toNat o3.1) (c2 - Int.toNat o3.1))) rfl kr kr rfl st hs1 hn2 hx14 ?_)
       clear st
       intro w12 st
       have hn6 := ((clearM_len hx14).trans hn2)
       refine WO_et rfl (W_sr ?_)
       refine WO_seg 2 [(57, .slice a2 (List.length y1) c2), (58, .int .i64 o3.1)] kr kr ?_
       replace ⟨u7, hx15, hr⟩ := bindS hr
       refine WO_one rfl (One_viewM (d := 59) (t := 23) (e := 29) (k := 3) (x := (.tmp 57)) (lo := none) (hi := (some (.tmp 58))) (li := 0) (hix := o3.1) kr rfl (ev (.slice a2 (List.length y1) c2)) kr (.inl ⟨rfl, rfl⟩) (.inr ⟨_, _, rfl, (ev (.int .i64 o3.1))⟩) hs1 hn6 hx15 ?_)
       have hv3 := chk_n hx15 hn6
       refine WO_seg 1 [(2, .slice (slA a2 c2 (Int.toNat 0) 3) (Int.toNat o3.1 - Int.toNat 0) (c2 - Int.toNat 0))] kr kr ?_
       refine WO_et rfl (W_ret ?_)
       refine X_block_ret ?_
       refine X_then_ret ?_
       obtain rfl := Option.some.inj hr
       have ho := hBu2 _ rfl
       subst ho
       have hr := hrKu2
       dsimp only at hr
       refine X_then_ret ?_
       refine X_block_ret ?_
       refine X_then_ret ?_
       obtain rfl := Option.some.inj hr
       have hw1 := view0 (k := 3) (l := l1) hs1 hn6 hv3
       obtain ⟨m10, hle4, st, r5⟩ := St.freezeView (c := (cPair (cInt .i64) (cPair cStr cStr))) (f := (fun x : Int × ByteArray × ByteArray => ([.int .i64 x.1, .string x.2.1, .string x.2.2] : List Value))) (hi := o3.1) st hs1 hn6 (fun _ => rfl) (fun _ x => ⟨_, _, rfl, rfl, ⟨_, _, rfl, rfl, rfl⟩⟩) hv3
       have hm := Mem.le_trans hm hle4
       refine X_env [(2, .slice a2 (List.length (List.take (Int.toNat o3.1) l1)) c2)] (by (try simp only [hw1]); kernel_rfl) ?_
       refine X_ret [.tmp 2] [.slice a2 (List.length (List.take (Int.toNat o3.1) l1)) c2] rfl (ResAll.cons (ResAt.tmp kr) ResAll.nil) ?_
       exact ⟨_, rfl, ⟨a2, c2, m10, rfl, hm, st, r5⟩⟩
      intro K2_u4
      clear hrKu4
      refine W_env _ kr (W_loop (fun k2 L' w' => ∃ (s2 : Int × Int × (List (Int × ByteArray × ByteArray))) (m8 : Mem), loopM (fact_Set_L2 N y2 s1) k2 s2 = some out2 ∧ L' = [(0, .slice a2 (List.length y1) c2), (3, .int .i64 s2.1), (4, .slice (slA a2 c2 (Int.toNat s1) 3) (Int.toNat (List.length y2 : Int) - Int.toNat s1) (c2 - Int.toNat s1)), (5, .int .i64 s2.2.1)] ∧ m.le m8 ∧ St m8 (opc a2 (acellsM (fun x : Int × ByteArray × ByteArray => ([.int .i64 x.1, .string x.2.1, .string x.2.2] : List Value)) s2.2.2 T1) 29 :: own) w' ∧ List.length s2.2.2 = (List.length y1)) N ⟨(s1, 1, y2), m6, hr, rfl, hm, st, hn1⟩ ?_)
      clear st hr
      rintro k2 _ w8 ⟨s2, m8, hL, rfl, hm, st, hn3⟩
      rcases k2 with _ | k2
      ·exact loopM_zero hL
      ·obtain ⟨qu4, hr, hSu4, hBu4⟩ := loopM_succ hL
       clear hL
       unfold fact_Set_L2 at hr
       refine W_seq ?_
       refine W_sr (WO_seg 4 [(32, .bool (decide (s2.2.1 < ((Int.toNat (List.length y2 : Int) - Int.toNat s1 : Nat) : Int))))] kr kr ?_)
       refine WO_et rfl (W_cond (decide (s2.2.1 < ((Int.toNat (List.length y2 : Int) - Int.toNat s1 : Nat) : Int))) kr ?_ ?_)
       ·intro hc
        rw [if_pos hc] at hr
        refine W_skip ?_
        refine X_then ?_
        refine W_seq ?_
        replace ⟨o4, hr, hrKu5⟩ := bindS hr
        refine W_cut .normal (fun L' w' => ∃ (m9 : Mem), L' = [(0, .slice a2 (List.length y1) c2), (3, .int .i64 o4.1), (4, .slice (slA a2 c2 (Int.toNat s1) 3) (Int.toNat (List.length y2 : Int) - Int.toNat s1) (c2 - Int.toNat s1)), (5, .int .i64 s2.2.1)] ∧ m.le m9 ∧ St m9 (opc a2 (acellsM (fun x : Int × ByteArray × ByteArray => ([.int .i64 x.1, .string x.2.1, .string x.2.2] : List Value)) o4.2 T1) 29 :: own) w' ∧ List.length o4.2 = (List.length y1)) ?_ ?_
        ·clear hr st
         have hr := hrKu5
         clear hrKu5
         rintro _ w9 ⟨m9, rfl, hm, st, hn4⟩
         refine X_then ?_
         refine W_region ?_
         refine WO_seg 3 [(5, .int .i64 (IntKind.wrap .i64 (s2.2.1 + 1)))] kr kr ?_
         refine WO_end rfl ?_
         obtain rfl := Option.some.inj hr
         have hL := hSu4 _ rfl
         exact X_env _ kr (X_round k2 (Nat.lt_succ_self _) ⟨(o4.1, IntKind.wrap .i64 (s2.2.1 + 1), o4.2), m9, hL, rfl, hm, st, hn4⟩)
        ·intro Ku5
         clear hrKu5
         refine W_block ?_
         refine W_seq ?_
         refine W_draw [(10, fun w' => Inv m8 w' ∧ Piece.holds m8 w' (opc a2 (acellsM (fun x : Int × ByteArray × ByteArray => ([.int .i64 x.1, .string x.2.1, .string x.2.2] : List Value)) s2.2.2 T1) 29) ∧ True)] kr st ?_
         clear st
         intro w10 _ st
         have hmS2 := m8.le_refl
         refine ⟨⟨.inr ⟨Inv.anti st.inv hmS2, opc_anti st.head hmS2, trivial⟩, trivial⟩, ?_⟩
         refine WA_pure 0 35 (.slice (slA a2 c2 (Int.toNat s1) 3) (Int.toNat (List.length y2 : Int) - Int.toNat s1) (c2 - Int.toNat s1)) kr rfl kr (.head _) (QP_then (QP_block (QP_then (QP_then (QP_block (QP_then (QP_block (QP_then (QP_then (QP_block (QP_then QP_body))))))))))) ?_
         refine WA_pure 1 36 (.int .i64 s2.2.1) kr rfl kr (.head _) (QP_then (QP_block (QP_then (QP_then (QP_block (QP_then (QP_block (QP_then (QP_then (QP_block (QP_then QP_body))))))))))) ?_
         replace ⟨x3, hx6, hr⟩ := bindS hr
         refine WA_viewIndex (t := 23) (e := 29) (k := 3) (x := (.tmp 35)) (y := (.tmp 36)) (lo := s1) (hi := (List.length y2 : Int)) (ix := s2.2.1) 2 37 kr rfl kr (.head _) (QP_then (QP_block (QP_then (QP_then (QP_block (QP_then (QP_block (QP_then (QP_then (QP_block (QP_then QP_body))))))))))) (ev (.slice (slA a2 c2 (Int.toNat s1) 3) (Int.toNat (List.length y2 : Int) - Int.toNat s1) (c2 - Int.toNat s1))) (ev (.int .i64 s2.2.1)) kr hs1 hn3 hv1 hx6 ?_
         have hx7 := (idx_view hv1.1 hx6).1
         refine WA_arrLoadM (t := 29) (x := (.tmp 37)) (o := 0) (f := (fun x : Int × ByteArray × ByteArray => ([.int .i64 x.1, .string x.2.1, .string x.2.2] : List Value))) (z := x3) (v := .agg #[.int .i64 x3.1, .string x3.2.1, .string x3.2.2]) 3 38 (fun _ => rfl) (Int.toNat (s1 + s2.2.1) * 3) rfl kr rfl kr (.head _) (QP_then (QP_block (QP_then (QP_then (QP_block (QP_then (QP_block (QP_then (QP_then (QP_block (QP_then QP_body))))))))))) (fun _ h => h.2.1) (ev (.pointer (some ⟨ab a2, Int.toNat (s1 + s2.2.1) * 3, none⟩))) hs1 hn3 hx7 kr ?_
         refine WA_pure 4 39 (.slice (slA a2 c2 (Int.toNat s1) 3) (Int.toNat (List.length y2 : Int) - Int.toNat s1) (c2 - Int.toNat s1)) kr rfl kr (.head _) (QP_then (QP_block (QP_then (QP_then (QP_block (QP_then (QP_block (QP_then (QP_then (QP_block (QP_then QP_body))))))))))) ?_
         refine WA_pure 5 40 (.int .i64 s2.2.1) kr rfl kr (.head _) (QP_then (QP_block (QP_then (QP_then (QP_block (QP_then (QP_block (QP_then (QP_then (QP_block (QP_then QP_body))))))))))) ?_
         refine WA_pure 6 41 (.int .i64 (IntKind.wrap .i64 (s2.2.1 - 1))) kr rfl kr (.head _) (QP_then (QP_block (QP_then (QP_then (QP_block (QP_then (QP_block (QP_then (QP_then (QP_block (QP_then QP_body))))))))))) ?_
         replace ⟨x4, hx8, hr⟩ := bindS hr
         refine WA_viewIndex (t := 23) (e := 29) (k := 3) (x := (.tmp 39)) (y := (.tmp 41)) (lo := s1) (hi := (List.length y2 : Int)) (ix := IntKind.wrap .i64 (s2.2.1 - 1)) 7 42 kr rfl kr (.head _) (QP_then (QP_block (QP_then (QP_then (QP_block (QP_then (QP_block (QP_then (QP_then (QP_block (QP_then QP_body))))))))))) (ev (.slice (slA a2 c2 (Int.toNat s1) 3) (Int.toNat (List.length y2 : Int) - Int.toNat s1) (c2 - Int.toNat s1))) (ev (.int .i64 (IntKind.wrap .i64 (s2.2.1 - 1)))) kr hs1 hn3 hv1 hx8 ?_
         have hx9 := (idx_view hv1.1 hx8).1
         refine WA_arrLoadM (t := 29) (x := (.tmp 42)) (o := 0) (f := (fun x : Int × ByteArray × ByteArray => ([.int .i64 x.1, .string x.2.1, .string x.2.2] : List Value))) (z := x4) (v := .agg #[.int .i64 x4.1, .string x4.2.1, .string x4.2.2]) 8 43 (fun _ => rfl) (Int.toNat (s1 + (IntKind.wrap .i64 (s2.2.1 - 1))) * 3) rfl kr rfl kr (.head _) (QP_then (QP_block (QP_then (QP_then (QP_block (QP_then (QP_block (QP_then (QP_then (QP_block (QP_then QP_body))))))))))) (fun _ h => h.2.1) (ev (.pointer (some ⟨ab a2, Int.toNat (s1 + (IntKind.wrap .i64 (s2.2.1 - 1))) * 3, none⟩))) hs1 hn3 hx9 kr ?_
         refine WA_one 9 kr  (One_neAgg (d := 44) (t := 29) (t2 := 29) (x := (.tmp 38)) (y := (.tmp 43)) (xs := #[.int .i64 x3.1, .string x3.2.1, .string x3.2.2]) (ys := #[.int .i64 x4.1, .string x4.2.1, .string x4.2.2]) ((x3.1 == x4.1) && ((x3.2.1.toList == x4.2.1.toList) && ((x3.2.2.toList == x4.2.2.toList) && true))) kr rfl (ev (.agg #[.int .i64 x3.1, .string x3.2.1, .string x3.2.2])) (ev (.agg #[.int .i64 x4.1, .string x4.2.1, .string x4.2.2])) kr kr kr ?_)
         refine ⟨⟨.inr ⟨Inv.anti st.inv hmS2, opc_anti st.head hmS2, trivial⟩, trivial⟩, ?_⟩
         refine WA_done kr ?_
         refine X_then ?_
         refine W_cond (!((x3.1 == x4.1) && ((x3.2.1.toList == x4.2.1.toList) && ((x3.2.2.toList == x4.2.2.toList) && true)))) kr ?_ ?_
         ·intro hc
          rw [if_pos hc] at hr
          refine W_sr (WO_seg 4 [(45, .slice a2 (List.length y1) c2), (46, .int .i64 s2.1), (47, .slice (slA a2 c2 (Int.toNat s1) 3) (Int.toNat (List.length y2 : Int) - Int.toNat s1) (c2 - Int.toNat s1)), (48, .int .i64 s2.2.1)] kr kr ?_)
          replace ⟨x5, hx10, hr⟩ := bindS hr
          refine WO_one rfl (One_viewIndex (d := 49) (t := 23) (e := 29) (k := 3) (x := (.tmp 47)) (y := (.tmp 48)) (lo := s1) (hi := (List.length y2 : Int)) (ix := s2.2.1) kr rfl (ev (.slice (slA a2 c2 (Int.toNat s1) 3) (Int.toNat (List.length y2 : Int) - Int.toNat s1) (c2 - Int.toNat s1))) (ev (.int .i64 s2.2.1)) kr hs1 hn3 hv1 hx10 ?_)
          have hx11 := (idx_view hv1.1 hx10).1
          refine WO_one rfl (One_arrLoadM (d := 50) (t := 29) (x := (.tmp 49)) (o := 0) (f := (fun x : Int × ByteArray × ByteArray => ([.int .i64 x.1, .string x.2.1, .string x.2.2] : List Value))) (z := x5) (v := .agg #[.int .i64 x5.1, .string x5.2.1, .string x5.2.2]) (fun _ => rfl) (Int.toNat (s1 + s2.2.1) * 3) rfl kr rfl (ev (.pointer (some ⟨ab a2, Int.toNat (s1 + s2.2.1) * 3, none⟩))) st.head hs1 hn3 hx11 kr ?_)
          replace ⟨x6, hx12, hr⟩ := bindS hr
          refine WO_one rfl (One_arrIndexM (d := 51) (t := 23) (e := 29) (x := (.tmp 45)) (y := (.tmp 46)) (k := 3) kr rfl (ev (.slice a2 (List.length y1) c2)) (ev (.int .i64 s2.1)) kr hs1 hn3 hx12 ?_)
          refine WO_one rfl (One_arrStoreM (t := 29) (x := (.tmp 51)) (y := (.tmp 50)) (o := 0) (f := (fun x : Int × ByteArray × ByteArray => ([.int .i64 x.1, .string x.2.1, .string x.2.2] : List Value))) (z := x6) (u := (x5.1, x5.2.1, x5.2.2)) (v := .agg #[.int .i64 x5.1, .string x5.2.1, .string x5.2.2]) (fun _ => rfl) (Int.toNat s2.1 * 3) rfl kr (ev (.pointer (some ⟨ab a2, Int.toNat s2.1 * 3, none⟩))) (ev (.agg #[.int .i64 x5.1, .string x5.2.1, .string x5.2.2])) st hs1 hn3 hx12 kr rfl ?_)
          clear st
          intro w11 st
          have hn5 : List.length (List.set s2.2.2 (Int.toNat s2.1) (x5.1, x5.2.1, x5.2.2)) = (List.length y1) := set_len hn3 _ _
          refine WO_et rfl (W_region ?_)
          refine WO_seg 3 [(3, .int .i64 (IntKind.wrap .i64 (s2.1 + 1)))] kr kr ?_
          refine WO_end rfl ?_
          refine X_block ?_
          obtain rfl := Option.some.inj hr
          exact X_env _ kr (Ku5 _ _ ⟨m8, rfl, hm, st, hn5⟩)
         ·intro hc
          rw [if_neg (not_true hc)] at hr
          refine W_skip ?_
          refine X_block ?_
          obtain rfl := Option.some.inj hr
          exact X_env _ kr (Ku5 _ _ ⟨m8, rfl, hm, st, hn3⟩)
       ·intro hc
        rw [if_neg (not_true hc)] at hr
        refine W_exit ?_
        refine X_then_exit ?_
        obtain rfl := Option.some.inj hr
        have ho := hBu4 _ rfl
        refine X_then_exit ?_
        exact X_env _ kr (K2_u4 _ _ ⟨(s2.1, s2.2.2), m8, ho, rfl, hm, st, hn3⟩)
     ·intro hc
      rw [if_neg (not_true hc)] at hr
      refine W_skip ?_
      refine X_block ?_
      refine X_then ?_
      refine W_region ?_
      refine WO_seg 3 [(3, .int .i64 (IntKind.wrap .i64 (s1 + 1)))] kr kr ?_
      refine WO_end rfl ?_
      obtain rfl := Option.some.inj hr
      have hL := hSu2 _ rfl
      exact X_env _ kr (X_round k1 (Nat.lt_succ_self _) ⟨IntKind.wrap .i64 (s1 + 1), m6, hL, rfl, hm, st, hn1⟩)
    ·intro hc
     rw [if_neg (not_true hc)] at hr
     refine W_exit ?_
     refine X_then_exit ?_
     obtain rfl := Option.some.inj hr
     have ho := hBu2 _ rfl
     refine X_then_exit ?_
     exact X_env _ kr (K0_u2 _ _ ⟨(), m6, ho, rfl, hm, st, hn1⟩)
def level_Keys_L1 (N : Nat) (p0 : List (Int × ByteArray × ByteArray)) (p1 : Int) (s1 : (List (Int × ByteArray × ByteArray)) × Int) : Option (((List (Int × ByteArray × ByteArray)) × Int) ⊕ (((List (Int × ByteArray × ByteArray))) ⊕ ((List (Int × ByteArray × ByteArray)) × Int))) :=
 if (decide (s1.2 < (List.length p0 : Int))) = true then ((idx p0 s1.2).bind fun x1 => (level_Key N (x1.1, x1.2.1, x1.2.2) p1).bind fun y2 => if (y2.2 != 0) = true then (some (.inr (.inr ((([] : List (Int × ByteArray × ByteArray)), y2.2))))) else ((appendS 40 s1.1 ([(y2.1.1, y2.1.2.1, y2.1.2.2)])).bind fun l1 => some (.inl (l1, IntKind.wrap .i64 (s1.2 + 1))))) else (some (.inr (.inl s1.1)))
def level_Keys (N : Nat) (p0 : List (Int × ByteArray × ByteArray)) (p1 : Int) : Option ((List (Int × ByteArray × ByteArray)) × Int) :=
 (level_known N p1).bind fun y1 => if (!y1) = true then (some (([] : List (Int × ByteArray × ByteArray)), 3)) else ((loopM (level_Keys_L1 N p0 p1) N (([] : List (Int × ByteArray × ByteArray)), 0)).bind fun out1 => (match out1 with | .inl o1 => (fact_Set N o1).bind fun y3 => some (y3, 0) | .inr (z) => some z))
set_option maxHeartbeats 4000000 in
set_option maxRecDepth 100000 in
theorem level_Keys_ok {N : Nat} {m : Mem} {own : List Piece} {w : World} {p0 : List (Int × ByteArray × ByteArray)} {p1 : Int} {a1 : Option Addr} {c1 : Nat} {r : (List (Int × ByteArray × ByteArray)) × Int} (st : St m (own) w) (r1 : RepS (cPair (cInt .i64) (cPair cStr cStr)) m a1 c1 p0) (hr : level_Keys N p0 p1 = some r) : Calls Tryd.prog 10 #[.slice a1 (List.length p0) c1, .int .i64 p1] w fun e w' => ∃ (ra1 : Option Addr) (rc1 : Nat) (m' : Mem), e = .returned (.tuple #[.slice ra1 (List.length r.1) rc1, .int .i64 r.2]) ∧ m.le m' ∧ St m' (.room ra1 (List.length r.1) rc1 29 3 :: own) w' ∧ RepS (cPair (cInt .i64) (cPair cStr cStr)) m' ra1 rc1 r.1 := by
 unfold level_Keys at hr
 have hm := m.le_refl
 refine W_calls Tryd.func10 rfl Tryd.ntmps10 [(0, .slice a1 (List.length p0) c1), (1, .int .i64 p1)] kr rfl ?_
 refine W_sr (WO_seg 2 [] kr kr ?_)
 refine WO_et rfl (W_seq ?_)
 refine W_sr (WO_seg 1 [(11, .int .i64 p1)] kr kr ?_)
 replace ⟨y1, hx1, hr⟩ := bindS hr
 refine WO_one rfl (One_fn 12 37 #[.int .i64 p1] kr rfl ?_)
 refine (level_known_ok st hx1).mono ?_
 clear st
 rintro _ w1 ⟨m1, rfl, hle1, st⟩
 refine ⟨_, rfl, ?_⟩
 have hm := Mem.le_trans hm hle1
 have r1 := r1.mono hle1
 refine WO_seg 1 [(13, .bool (!y1))] kr kr ?_
 refine WO_et rfl (W_cond (!y1) kr ?_ ?_)
 ·intro hc
  rw [if_pos hc] at hr
  refine W_sr (WO_seg 2 [(4, .slice none (List.length ([] : List (Int × ByteArray × ByteArray))) 0), (5, .int .i64 3)] kr kr ?_)
  refine WO_et rfl (W_ret ?_)
  refine X_then_ret ?_
  obtain rfl := Option.some.inj hr
  refine X_ret [.tmp 4, .tmp 5] [.slice none (List.length ([] : List (Int × ByteArray × ByteArray))) 0, .int .i64 3] rfl (ResAll.cons (ResAt.tmp kr) (ResAll.cons (ResAt.tmp kr) ResAll.nil)) ?_
  have st := st.nilroom 29 3
  exact ⟨none, 0, m1, rfl, hm, st, (RepS.nil _ _)⟩
 ·intro hc
  rw [if_neg (not_true hc)] at hr
  refine W_skip ?_
  refine X_then ?_
  refine W_sr (WO_seg 1 [(6, .slice none (List.length ([] : List (Int × ByteArray × ByteArray))) 0)] kr kr ?_)
  refine WO_et rfl (W_seq ?_)
  refine W_sr (WO_seg 3 [(14, .slice a1 (List.length p0) c1), (15, .int .i64 (List.length p0 : Int)), (16, .int .i64 0)] kr kr ?_)
  refine WO_et rfl (W_block ?_)
  replace ⟨out1, hr, hrKu1⟩ := bindS hr
  refine W_cut (.exit 0) (fun L' w' => ∃ (o1 : (List (Int × ByteArray × ByteArray))) (a2 : Option Addr) (c2 : Nat) (m2 : Mem), (.inl o1) = out1 ∧ L' = [(6, .slice a2 (List.length o1) c2)] ∧ m.le m2 ∧ St m2 (.room a2 (List.length o1) c2 29 3 :: own) w' ∧ RepS (cPair (cInt .i64) (cPair cStr cStr)) m2 a2 c2 o1) ?_ ?_
  ·clear hr st
   rintro _ w2 ⟨o1, a2, c2, m2, rfl, rfl, hm, st, r2⟩
   have hr := hrKu1
   clear hrKu1
   dsimp only at hr
   refine X_block_eq ?_
   refine X_then ?_
   refine W_sr (WO_seg 1 [(34, .slice a2 (List.length o1) c2)] kr kr ?_)
   replace ⟨y3, hx5, hr⟩ := bindS hr
   refine WO_one rfl (One_fn 35 38 #[.slice a2 (List.length o1) c2] kr rfl ?_)
   refine (fact_Set_ok st r2 hx5).mono ?_
   clear st
   rintro _ w11 ⟨a5, c5, m7, rfl, hle5, st, r6⟩
   refine ⟨_, rfl, ?_⟩
   have hm := Mem.le_trans hm hle5
   have r2 := r2.mono hle5
   refine WO_seg 2 [(4, .slice a5 (List.length y3) c5), (5, .int .i64 0)] kr kr ?_
   refine WO_end rfl ?_
   have st := st.front1
   have st := st.tail
   refine X_then ?_
   refine W_ret ?_
   obtain rfl := Option.some.inj hr
   refine X_ret [.tmp 4, .tmp 5] [.slice a5 (List.length y3) c5, .int .i64 0] rfl (ResAll.cons (ResAt.tmp kr) (ResAll.cons (ResAt.tmp kr) ResAll.nil)) ?_
   exact ⟨a5, c5, m7, rfl, hm, st, r6⟩
  intro K0_u1
  have st := st.nilroom 29 3
  refine W_env _ kr (W_loop (fun k1 L' w' => ∃ (s1 : (List (Int × ByteArray × ByteArray)) × Int) (a3 : Option Addr) (c3 : Nat) (m3 : Mem), loopM (level_Keys_L1 N p0 p1) k1 s1 = some out1 ∧ L' = [(1, .int .i64 p1), (6, .slice a3 (List.length s1.1) c3), (14, .slice a1 (List.length p0) c1), (15, .int .i64 (List.length p0 : Int)), (16, .int .i64 s1.2)] ∧ m.le m3 ∧ St m3 (.room a3 (List.length s1.1) c3 29 3 :: own) w' ∧ RepS (cPair (cInt .i64) (cPair cStr cStr)) m3 a3 c3 s1.1 ∧ RepS (cPair (cInt .i64) (cPair cStr cStr)) m3 a1 c1 p0) N ⟨(([] : List (Int × ByteArray × ByteArray)), 0), none, 0, m1, hr, rfl, hm, st, (RepS.nil _ _), r1⟩ ?_)
  clear st hr
  rintro k1 _ w3 ⟨s1, a3, c3, m3, hL, rfl, hm, st, r3, r1⟩
  rcases k1 with _ | k1
  ·exact loopM_zero hL
  ·obtain ⟨qu1, hr, hSu1, hBu1⟩ := loopM_succ hL
   clear hL
   unfold level_Keys_L1 at hr
   refine W_sr (WO_seg 1 [(17, .bool (decide (s1.2 < (List.length p0 : Int))))] kr kr ?_)
   refine WO_et rfl (W_seq ?_)
   refine W_cond (decide (s1.2 < (List.length p0 : Int))) kr ?_ ?_
   ·intro hc
    rw [if_pos hc] at hr
    refine W_skip ?_
    refine X_then ?_
    refine W_seq ?_
    refine W_block ?_
    refine W_sr ?_
    replace ⟨x1, hx2, hr⟩ := bindS hr
    refine WO_one rfl (One_index (d := 18) (t := 23) (e := 29) (x := (.tmp 14)) (y := (.tmp 16)) (cPair (cInt .i64) (cPair cStr cStr)) kr rfl (ev (.slice a1 (List.length p0) c1)) (ev (.int .i64 s1.2)) kr r1 hx2 ?_)
    rintro b1 f1 cs1 ⟨_, _, rfl, rfl, ⟨_, _, rfl, rfl, rfl⟩⟩ hq1
    refine WO_one rfl (One_load_row (d := 19) (t := 29) (x := (.tmp 18)) (.agg #[.int .i64 x1.1, .string x1.2.1, .string x1.2.2]) kr rfl (ev (.pointer (some ⟨b1, f1, none⟩))) st hq1 kr ?_)
    refine WO_one rfl (One_alloc (d := 8) (e := 29) (.agg #[.int .i64 0, .string (⟨#[]⟩ : ByteArray), .string (⟨#[]⟩ : ByteArray)]) kr rfl kr st ?_)
    clear st
    intro b2 w4 st
    refine WO_one rfl (One_store (t := 29) (x := (.tmp 8)) (y := (.tmp 19)) (v := .agg #[.int .i64 x1.1, .string x1.2.1, .string x1.2.2]) (c' := #[.int .i64 x1.1, .string x1.2.1, .string x1.2.2]) kr (ev (.pointer (some ⟨b2, 0, none⟩))) (ev (.agg #[.int .i64 x1.1, .string x1.2.1, .string x1.2.2])) st kr kr ?_)
    clear st
    intro w5 st
    refine WO_et rfl (W_sr ?_)
    refine WO_one rfl (One_load_own (d := 21) (t := 29) (x := (.tmp 8)) (.agg #[.int .i64 x1.1, .string x1.2.1, .string x1.2.2]) kr rfl (ev (.pointer (some ⟨b2, 0, none⟩))) st.head kr ?_)
    refine WO_seg 1 [(22, .int .i64 p1)] kr kr ?_
    replace ⟨y2, hx3, hr⟩ := bindS hr
    refine WO_one rfl (One_fn 23 15 #[.agg #[.int .i64 x1.1, .string x1.2.1, .string x1.2.2], .int .i64 p1] kr rfl ?_)
    refine (level_Key_ok st hx3).mono ?_
    clear st
    rintro _ w6 ⟨m4, rfl, hle2, st⟩
    refine ⟨_, rfl, ?_⟩
    have hm := Mem.le_trans hm hle2
    have r3 := r3.mono hle2
    have r1 := r1.mono hle2
    refine WO_seg 3 [(24, .agg #[.int .i64 y2.1.1, .string y2.1.2.1, .string y2.1.2.2]), (25, .int .i64 y2.2)] kr kr ?_
    refine WO_one rfl (One_alloc (d := 9) (e := 29) (.agg #[.int .i64 0, .string (⟨#[]⟩ : ByteArray), .string (⟨#[]⟩ : ByteArray)]) kr rfl kr st ?_)
    clear st
    intro b3 w7 st
    refine WO_one rfl (One_store (t := 29) (x := (.tmp 9)) (y := (.tmp 24)) (v := .agg #[.int .i64 y2.1.1, .string y2.1.2.1, .string y2.1.2.2]) (c' := #[.int .i64 y2.1.1, .string y2.1.2.1, .string y2.1.2.2]) kr (ev (.pointer (some ⟨b3, 0, none⟩))) (ev (.agg #[.int .i64 y2.1.1, .string y2.1.2.1, .string y2.1.2.2])) st kr kr ?_)
    clear st
    intro w8 st
    refine WO_seg 1 [(10, .int .i64 y2.2)] kr kr ?_
    refine WO_et rfl (W_seq ?_)
    refine W_sr (WO_seg 2 [(27, .bool (y2.2 != 0))] kr kr ?_)
    refine WO_et rfl (W_cond (y2.2 != 0) kr ?_ ?_)
    ·intro hc
     rw [if_pos hc] at hr
     refine W_sr (WO_seg 3 [(4, .slice none (List.length ([] : List (Int × ByteArray × ByteArray))) 0), (5, .int .i64 y2.2)] kr kr ?_)
     refine WO_end rfl ?_
     have st := st.front2
     have st := st.tail
     refine X_then ?_
     refine W_ret ?_
     refine X_then_ret ?_
     refine X_block_ret ?_
     refine X_then_ret ?_
     obtain rfl := Option.some.inj hr
     have ho := hBu1 _ rfl
     subst ho
     have hr := hrKu1
     dsimp only at hr
     refine X_then_ret ?_
     refine X_block_ret ?_
     refine X_then_ret ?_
     obtain rfl := Option.some.inj hr
     refine X_ret [.tmp 4, .tmp 5] [.slice none (List.length ([] : List (Int × ByteArray × ByteArray))) 0, .int .i64 y2.2] rfl (ResAll.cons (ResAt.tmp kr) (ResAll.cons (ResAt.tmp kr) ResAll.nil)) ?_
     have st := st.nilroom 29 3
     have st := st.front1
     have st := st.tail
     have st := st.front1
     have st := st.tail
     exact ⟨none, 0, m4, rfl, hm, st, (RepS.nil _ _)⟩
    ·intro hc
     rw [if_neg (not_true hc)] at hr
     refine W_skip ?_
     refine X_then ?_
     refine W_region ?_
     refine WO_seg 1 [(29, .slice a3 (List.length s1.1) c3)] kr kr ?_
     refine WO_one rfl (One_load_own (d := 30) (t := 29) (x := (.tmp 9)) (.agg #[.int .i64 y2.1.1, .string y2.1.2.1, .string y2.1.2.2]) kr rfl (ev (.pointer (some ⟨b3, 0, none⟩))) st.head kr ?_)
     refine WO_one rfl (One_buildSlice (d := 31) (t := 23) (e := 29) (len := 1) (parts := #[(0, (.tmp 30))]) (cPair (cInt .i64) (cPair cStr cStr)) (xs := [(y2.1.1, y2.1.2.1, y2.1.2.2)]) [.int .i64 y2.1.1, .string y2.1.2.1, .string y2.1.2.2] kr rfl (fun _ => buildCells_run kr _) rfl rfl st ⟨[.int .i64 y2.1.1, .string y2.1.2.1, .string y2.1.2.2], _, rfl, ⟨_, _, rfl, rfl, ⟨_, _, rfl, rfl, rfl⟩⟩, rfl⟩ ?_)
     clear st
     intro b4 m5 w9 hle3 st r4
     have hm := Mem.le_trans hm hle3
     have r3 := r3.mono hle3
     have r1 := r1.mono hle3
     have st := st.front3
     replace ⟨l1, hx4, hr⟩ := bindS hr
     refine WO_one rfl (One_append (d := 32) (t := 23) (u := 23) (e := 29) (by_ := 40) (x := (.tmp 29)) (y := (.tmp 31)) (cPair (cInt .i64) (cPair cStr cStr)) kr rfl (ev (.slice a3 (List.length s1.1) c3)) (ev (.slice (some ⟨b4, 0, none⟩) (List.length ([(y2.1.1, y2.1.2.1, y2.1.2.2)])) 1)) st kr (.inl kr) r3 r4.src hx4 ?_)
     clear st
     intro a4 c4 m6 w10 hle4 st r5
     have hm := Mem.le_trans hm hle4
     have r3 := r3.mono hle4
     have r1 := r1.mono hle4
     have r4 := r4.mono hle4
     refine WO_seg 1 [(6, .slice a4 (List.length l1) c4)] kr kr ?_
     refine WO_end rfl ?_
     have st := st.front1
     have st := st.tail
     refine X_block ?_
     refine X_then ?_
     refine W_region ?_
     refine WO_seg 2 [(16, .int .i64 (IntKind.wrap .i64 (s1.2 + 1)))] kr kr ?_
     refine WO_end rfl ?_
     obtain rfl := Option.some.inj hr
     have hL := hSu1 _ rfl
     have st := st.front1
     have st := st.tail
     have st := st.front1
     have st := st.tail
     exact X_env _ kr (X_round k1 (Nat.lt_succ_self _) ⟨(l1, IntKind.wrap .i64 (s1.2 + 1)), a4, c4, m6, hL, rfl, hm, st, r5, r1⟩)
   ·intro hc
    rw [if_neg (not_true hc)] at hr
    refine W_exit ?_
    refine X_then_exit ?_
    obtain rfl := Option.some.inj hr
    have ho := hBu1 _ rfl
    refine X_then_exit ?_
    exact X_env _ kr (K0_u1 _ _ ⟨s1.1, a3, c3, m3, ho, rfl, hm, st, r3⟩)
def testgateref11_Same_L1 (N : Nat) (p0 : List (Int × ByteArray × ByteArray)) (p1 : List (Int × ByteArray × ByteArray)) (s1 : Int) : Option ((Int) ⊕ ((Unit) ⊕ (Bool))) :=
 if (decide (s1 < (List.length p0 : Int))) = true then ((idx p0 s1).bind fun x1 => (idx p1 s1).bind fun x2 => if (!((x1.1 == x2.1) && ((x1.2.1.toList == x2.2.1.toList) && ((x1.2.2.toList == x2.2.2.toList) && true)))) = true then (some (.inr (.inr (false)))) else (some (.inl (IntKind.wrap .i64 (s1 + 1))))) else (some (.inr (.inl ())))
def testgateref11_Same (N : Nat) (p0 : List (Int × ByteArray × ByteArray)) (p1 : List (Int × ByteArray × ByteArray)) : Option (Bool) :=
 if ((List.length p0 : Int) != (List.length p1 : Int)) = true then (some false) else ((loopM (testgateref11_Same_L1 N p0 p1) N 0).bind fun out1 => (match out1 with | .inl o1 => some true | .inr (z) => some z))
set_option maxHeartbeats 4000000 in
set_option maxRecDepth 100000 in
theorem testgateref11_Same_ok {N : Nat} {m : Mem} {own : List Piece} {w : World} {p0 : List (Int × ByteArray × ByteArray)} {p1 : List (Int × ByteArray × ByteArray)} {a1 : Option Addr} {c1 : Nat} {a2 : Option Addr} {c2 : Nat} {r : Bool} (st : St m (own) w) (r1 : RepS (cPair (cInt .i64) (cPair cStr cStr)) m a1 c1 p0) (r2 : RepS (cPair (cInt .i64) (cPair cStr cStr)) m a2 c2 p1) (hr : testgateref11_Same N p0 p1 = some r) : Calls Tryd.prog 12 #[.slice a1 (List.length p0) c1, .slice a2 (List.length p1) c2] w fun e w' => ∃ (m' : Mem), e = .returned (.bool r) ∧ m.le m' ∧ St m' (own) w' := by
 unfold testgateref11_Same at hr
 have hm := m.le_refl
 refine W_calls Tryd.func12 rfl Tryd.ntmps12 [(0, .slice a1 (List.length p0) c1), (1, .slice a2 (List.length p1) c2)] kr rfl ?_
 refine W_sr (WO_seg 1 [] kr kr ?_)
 refine WO_et rfl (W_seq ?_)
 refine W_sr (WO_seg 5 [(10, .bool ((List.length p0 : Int) != (List.length p1 : Int)))] kr kr ?_)
 refine WO_et rfl (W_cond ((List.length p0 : Int) != (List.length p1 : Int)) kr ?_ ?_)
 ·intro hc
  rw [if_pos hc] at hr
  refine W_sr (WO_seg 1 [(4, .bool false)] kr kr ?_)
  refine WO_et rfl (W_ret ?_)
  refine X_then_ret ?_
  obtain rfl := Option.some.inj hr
  refine X_ret [.tmp 4] [.bool false] rfl (ResAll.cons (ResAt.tmp kr) ResAll.nil) ?_
  exact ⟨m, rfl, hm, st⟩
 ·intro hc
  rw [if_neg (not_true hc)] at hr
  refine W_skip ?_
  refine X_then ?_
  refine W_seq ?_
  refine W_sr (WO_seg 3 [(12, .int .i64 (List.length p0 : Int)), (13, .int .i64 0)] kr kr ?_)
  refine WO_et rfl (W_block ?_)
  replace ⟨out1, hr, hrKu1⟩ := bindS hr
  refine W_cut (.exit 0) (fun L' w' => ∃ (o1 : Unit) (m1 : Mem), (.inl o1) = out1 ∧ L' = [] ∧ m.le m1 ∧ St m1 (own) w') ?_ ?_
  ·clear hr st
   rintro _ w1 ⟨o1, m1, rfl, rfl, hm, st⟩
   have hr := hrKu1
   clear hrKu1
   dsimp only at hr
   refine X_block_eq ?_
   refine X_then ?_
   refine W_sr (WO_seg 1 [(4, .bool true)] kr kr ?_)
   refine WO_et rfl (W_ret ?_)
   obtain rfl := Option.some.inj hr
   refine X_ret [.tmp 4] [.bool true] rfl (ResAll.cons (ResAt.tmp kr) ResAll.nil) ?_
   exact ⟨m1, rfl, hm, st⟩
  intro K0_u1
  refine W_env _ kr (W_loop (fun k1 L' w' => ∃ (s1 : Int) (m2 : Mem), loopM (testgateref11_Same_L1 N p0 p1) k1 s1 = some out1 ∧ L' = [(0, .slice a1 (List.length p0) c1), (1, .slice a2 (List.length p1) c2), (12, .int .i64 (List.length p0 : Int)), (13, .int .i64 s1)] ∧ m.le m2 ∧ St m2 (own) w' ∧ RepS (cPair (cInt .i64) (cPair cStr cStr)) m2 a1 c1 p0 ∧ RepS (cPair (cInt .i64) (cPair cStr cStr)) m2 a2 c2 p1) N ⟨0, m, hr, rfl, hm, st, r1, r2⟩ ?_)
  clear st hr
  rintro k1 _ w2 ⟨s1, m2, hL, rfl, hm, st, r1, r2⟩
  rcases k1 with _ | k1
  ·exact loopM_zero hL
  ·obtain ⟨qu1, hr, hSu1, hBu1⟩ := loopM_succ hL
   clear hL
   unfold testgateref11_Same_L1 at hr
   refine W_sr (WO_seg 1 [(14, .bool (decide (s1 < (List.length p0 : Int))))] kr kr ?_)
   refine WO_et rfl (W_seq ?_)
   refine W_cond (decide (s1 < (List.length p0 : Int))) kr ?_ ?_
   ·intro hc
    rw [if_pos hc] at hr
    refine W_skip ?_
    refine X_then ?_
    refine W_seq ?_
    refine W_block ?_
    refine W_sr (WO_seg 2 [(5, .int .i64 s1)] kr kr ?_)
    refine WO_et rfl (W_seq ?_)
    refine W_draw [(9, fun w' => Inv m2 w' ∧ True)] kr st ?_
    clear st
    intro w3 _ st
    have hmS1 := m2.le_refl
    refine ⟨⟨.inr ⟨Inv.anti st.inv hmS1, trivial⟩, trivial⟩, ?_⟩
    refine WA_pure 0 16 (.slice a1 (List.length p0) c1) kr rfl kr (.head _) (QP_then (QP_block (QP_then (QP_then (QP_block (QP_then QP_body)))))) ?_
    refine WA_pure 1 17 (.int .i64 s1) kr rfl kr (.head _) (QP_then (QP_block (QP_then (QP_then (QP_block (QP_then QP_body)))))) ?_
    replace ⟨x1, hx1, hr⟩ := bindS hr
    refine WA_index (t := 23) (e := 29) (x := (.tmp 16)) (y := (.tmp 17)) 2 18 (cPair (cInt .i64) (cPair cStr cStr)) kr rfl kr (.head _) (QP_then (QP_block (QP_then (QP_then (QP_block (QP_then QP_body)))))) (ev (.slice a1 (List.length p0) c1)) (ev (.int .i64 s1)) kr r1 hx1 ?_
    rintro b1 f1 cs1 ⟨_, _, rfl, rfl, ⟨_, _, rfl, rfl, rfl⟩⟩ hq1
    refine WA_load_row (t := 29) (x := (.tmp 18)) 3 19 (.agg #[.int .i64 x1.1, .string x1.2.1, .string x1.2.2]) kr rfl kr (.head _) (QP_then (QP_block (QP_then (QP_then (QP_block (QP_then QP_body)))))) (fun _ h => h.1) (ev (.pointer (some ⟨b1, f1, none⟩))) hq1 kr ?_
    refine WA_pure 4 20 (.slice a2 (List.length p1) c2) kr rfl kr (.head _) (QP_then (QP_block (QP_then (QP_then (QP_block (QP_then QP_body)))))) ?_
    refine WA_pure 5 21 (.int .i64 s1) kr rfl kr (.head _) (QP_then (QP_block (QP_then (QP_then (QP_block (QP_then QP_body)))))) ?_
    replace ⟨x2, hx2, hr⟩ := bindS hr
    refine WA_index (t := 23) (e := 29) (x := (.tmp 20)) (y := (.tmp 21)) 6 22 (cPair (cInt .i64) (cPair cStr cStr)) kr rfl kr (.head _) (QP_then (QP_block (QP_then (QP_then (QP_block (QP_then QP_body)))))) (ev (.slice a2 (List.length p1) c2)) (ev (.int .i64 s1)) kr r2 hx2 ?_
    rintro b2 f2 cs2 ⟨_, _, rfl, rfl, ⟨_, _, rfl, rfl, rfl⟩⟩ hq2
    refine WA_load_row (t := 29) (x := (.tmp 22)) 7 23 (.agg #[.int .i64 x2.1, .string x2.2.1, .string x2.2.2]) kr rfl kr (.head _) (QP_then (QP_block (QP_then (QP_then (QP_block (QP_then QP_body)))))) (fun _ h => h.1) (ev (.pointer (some ⟨b2, f2, none⟩))) hq2 kr ?_
    refine WA_one 8 kr  (One_neAgg (d := 24) (t := 29) (t2 := 29) (x := (.tmp 19)) (y := (.tmp 23)) (xs := #[.int .i64 x1.1, .string x1.2.1, .string x1.2.2]) (ys := #[.int .i64 x2.1, .string x2.2.1, .string x2.2.2]) ((x1.1 == x2.1) && ((x1.2.1.toList == x2.2.1.toList) && ((x1.2.2.toList == x2.2.2.toList) && true))) kr rfl (ev (.agg #[.int .i64 x1.1, .string x1.2.1, .string x1.2.2])) (ev (.agg #[.int .i64 x2.1, .string x2.2.1, .string x2.2.2])) kr kr kr ?_)
    refine ⟨⟨.inr ⟨Inv.anti st.inv hmS1, trivial⟩, trivial⟩, ?_⟩
    refine WA_done kr ?_
    refine X_then ?_
    refine W_cond (!((x1.1 == x2.1) && ((x1.2.1.toList == x2.2.1.toList) && ((x1.2.2.toList == x2.2.2.toList) && true)))) kr ?_ ?_
    ·intro hc
     rw [if_pos hc] at hr
     refine W_sr (WO_seg 1 [(4, .bool false)] kr kr ?_)
     refine WO_et rfl (W_ret ?_)
     refine X_block_ret ?_
     refine X_then_ret ?_
     obtain rfl := Option.some.inj hr
     have ho := hBu1 _ rfl
     subst ho
     have hr := hrKu1
     dsimp only at hr
     refine X_then_ret ?_
     refine X_block_ret ?_
     refine X_then_ret ?_
     obtain rfl := Option.some.inj hr
     refine X_ret [.tmp 4] [.bool false] rfl (ResAll.cons (ResAt.tmp kr) ResAll.nil) ?_
     exact ⟨m2, rfl, hm, st⟩
    ·intro hc
     rw [if_neg (not_true hc)] at hr
     refine W_skip ?_
     refine X_block ?_
     refine X_then ?_
     refine W_region ?_
     refine WO_seg 2 [(13, .int .i64 (IntKind.wrap .i64 (s1 + 1)))] kr kr ?_
     refine WO_end rfl ?_
     obtain rfl := Option.some.inj hr
     have hL := hSu1 _ rfl
     exact X_env _ kr (X_round k1 (Nat.lt_succ_self _) ⟨IntKind.wrap .i64 (s1 + 1), m2, hL, rfl, hm, st, r1, r2⟩)
   ·intro hc
    rw [if_neg (not_true hc)] at hr
    refine W_exit ?_
    refine X_then_exit ?_
    obtain rfl := Option.some.inj hr
    have ho := hBu1 _ rfl
    refine X_then_exit ?_
    exact X_env _ kr (K0_u1 _ _ ⟨(), m2, ho, rfl, hm, st⟩)
def level_Finer (N : Nat) (p0 : Int) (p1 : Int) : Option (Bool) :=
 ((level_known N p0).bind fun y1 => if y1 = true then ((level_known N p1).bind fun y2 => if y2 = true then ((idx ([0, 1, 2, 3] : List Int) p0).bind fun x1 => (idx ([0, 1, 2, 3] : List Int) p1).bind fun x2 => some (decide (x1 < x2))) else (some false)) else (some false) : Option (Bool)).bind fun o1 => some o1
set_option maxHeartbeats 4000000 in
set_option maxRecDepth 100000 in
theorem level_Finer_ok {N : Nat} {m : Mem} {own : List Piece} {w : World} {p0 : Int} {p1 : Int} {r : Bool} (st : St m (own) w) (hr : level_Finer N p0 p1 = some r) : Calls Tryd.prog 13 #[.int .i64 p0, .int .i64 p1] w fun e w' => ∃ (m' : Mem), e = .returned (.bool r) ∧ m.le m' ∧ St m' (own) w' := by
 unfold level_Finer at hr
 have hm := m.le_refl
 refine W_calls Tryd.func13 rfl Tryd.ntmps13 [(0, .int .i64 p0), (1, .int .i64 p1)] kr rfl ?_
 refine W_sr (WO_seg 1 [] kr kr ?_)
 refine WO_et rfl (W_sr ?_)
 refine WO_seg 1 [(6, .agg #[.int .i64 0, .int .i64 1, .int .i64 2, .int .i64 3])] kr kr ?_
 refine WO_one rfl (One_alloc (d := 5) (e := 81) (.agg #[.int .i64 0, .int .i64 0, .int .i64 0, .int .i64 0]) kr rfl kr st ?_)
 clear st
 intro b1 w1 st
 refine WO_one rfl (One_store (t := 81) (x := (.tmp 5)) (y := (.tmp 6)) (v := .agg #[.int .i64 0, .int .i64 1, .int .i64 2, .int .i64 3]) (c' := #[.int .i64 0, .int .i64 1, .int .i64 2, .int .i64 3]) kr (ev (.pointer (some ⟨b1, 0, none⟩))) (ev (.agg #[.int .i64 0, .int .i64 1, .int .i64 2, .int .i64 3])) st kr kr ?_)
 clear st
 intro w2 st
 obtain ⟨m1, hle1, st, hb1⟩ := St.settle st
 have hm := Mem.le_trans hm hle1
 refine WO_et rfl (W_seq ?_)
 replace ⟨o1, hr, hrK⟩ := bindS hr
 refine W_cut .normal (fun L' w' => ∃ (m2 : Mem), L' = [(4, .bool o1)] ∧ m.le m2 ∧ St m2 (own) w') ?_ ?_
 ·clear hr st
  have hr := hrK
  clear hrK
  rintro _ w3 ⟨m2, rfl, hm, st⟩
  refine X_then ?_
  refine W_ret ?_
  obtain rfl := Option.some.inj hr
  refine X_ret [.tmp 4] [.bool o1] rfl (ResAll.cons (ResAt.tmp kr) ResAll.nil) ?_
  exact ⟨m2, rfl, hm, st⟩
 ·intro K
  clear hrK
  refine W_draw [(16, fun w' => Inv m1 w' ∧ True)] kr st ?_
  clear st
  intro w4 _ st
  have hmS1 := m1.le_refl
  refine ⟨⟨.inr ⟨Inv.anti st.inv hmS1, trivial⟩, trivial⟩, ?_⟩
  have hb1S := hb1
  refine WA_pure 0 7 (.int .i64 p0) kr rfl kr (.head _) (QP_then QP_body) ?_
  replace ⟨y1, hx1, hr⟩ := bindS hr
  refine WA_one 1 kr  (One_fn 8 37 #[.int .i64 p0] kr rfl ?_)
  refine (level_known_ok st hx1).mono ?_
  clear st
  rintro _ w5 ⟨m3, rfl, hle2, st⟩
  refine ⟨_, rfl, ?_⟩
  have hm := Mem.le_trans hm hle2
  have hb1 := hb1.mono hle2
  have hmS1 := Mem.le_trans hmS1 hle2
  refine ⟨⟨.inr ⟨Inv.anti st.inv hmS1, trivial⟩, trivial⟩, ?_⟩
  refine WA_pure 2 9 (.bool y1) kr rfl kr (.head _) (QP_then QP_body) ?_
  rcases bcases y1 with hc | hc
  ·rw [if_pos hc] at hr
   refine WA_fact (t := 9) (b := true) y1 kr hc ?_
   refine WA_pure 3 10 (.int .i64 p1) kr rfl kr (.head _) (QP_then QP_body) ?_
   replace ⟨y2, hx2, hr⟩ := bindS hr
   refine WA_one 4 kr  (One_fn 11 37 #[.int .i64 p1] kr rfl ?_)
   refine (level_known_ok st hx2).mono ?_
   clear st
   rintro _ w6 ⟨m4, rfl, hle3, st⟩
   refine ⟨_, rfl, ?_⟩
   have hm := Mem.le_trans hm hle3
   have hb1 := hb1.mono hle3
   have hmS1 := Mem.le_trans hmS1 hle3
   refine ⟨⟨.inr ⟨Inv.anti st.inv hmS1, trivial⟩, trivial⟩, ?_⟩
   refine WA_pure 5 12 (.bool y2) kr rfl kr (.head _) (QP_then QP_body) ?_
   refine WA_pure 6 13 (.bool y2) kr rfl kr (.head _) (QP_then QP_body) ?_
   rcases bcases y2 with hc | hc
   ·rw [if_pos hc] at hr
    refine WA_fact (t := 13) (b := true) y2 kr hc ?_
    refine WA_pure 7 14 (.int .i64 p0) kr rfl kr (.head _) (QP_then QP_body) ?_
    replace ⟨x1, hx3, hr⟩ := bindS hr
    have hq1 := MRow_elem (f := (fun x : Int => ([.int .i64 x] : List Value))) (k := 1) hb1S (fun _ => rfl) hx3
    refine WA_tabIndex (t := 81) (e := 3) (x := (.tmp 5)) (y := (.tmp 14)) (nn := 4) (k := 1) 8 15 (Int.toNat p0 * 1) (Nat.zero_add _).symm kr rfl kr (.head _) (QP_then QP_body) (ev (.pointer (some ⟨b1, 0, none⟩))) (ev (.int .i64 p0)) kr (tab_lt hx3).1 (tab_lt hx3).2 ?_
    have hq1S := hq1
    refine WA_load_row (t := 3) (x := (.tmp 15)) 9 16 (.int .i64 x1) kr rfl kr (.head _) (QP_then QP_body) (fun _ h => h.1) (ev (.pointer (some ⟨b1, Int.toNat p0 * 1, none⟩))) hq1S kr ?_
    refine WA_pure 10 17 (.int .i64 p1) kr rfl kr (.head _) (QP_then QP_body) ?_
    replace ⟨x2, hx4, hr⟩ := bindS hr
    have hq2 := MRow_elem (f := (fun x : Int => ([.int .i64 x] : List Value))) (k := 1) hb1S (fun _ => rfl) hx4
    refine WA_tabIndex (t := 81) (e := 3) (x := (.tmp 5)) (y := (.tmp 17)) (nn := 4) (k := 1) 11 18 (Int.toNat p1 * 1) (Nat.zero_add _).symm kr rfl kr (.head _) (QP_then QP_body) (ev (.pointer (some ⟨b1, 0, none⟩))) (ev (.int .i64 p1)) kr (tab_lt hx4).1 (tab_lt hx4).2 ?_
    have hq2S := hq2
    refine WA_load_row (t := 3) (x := (.tmp 18)) 12 19 (.int .i64 x2) kr rfl kr (.head _) (QP_then QP_body) (fun _ h => h.1) (ev (.pointer (some ⟨b1, Int.toNat p1 * 1, none⟩))) hq2S kr ?_
    refine WA_pure 13 20 (.bool (decide (x1 < x2))) kr rfl kr (.head _) (QP_then QP_body) ?_
    refine WA_pure 14 21 (.bool (decide (x1 < x2))) kr rfl kr (.head _) (QP_then QP_body) ?_
    refine WA_pure 15 4 (.bool (decide (x1 < x2))) kr rfl kr (.head _) (QP_then QP_body) ?_
    obtain rfl := Option.some.inj hr
    exact WA_done kr (X_env _ kr (K _ _ ⟨m4, rfl, hm, st⟩))
   ·rw [if_neg (not_true hc)] at hr
    refine WA_fact (t := 13) (b := false) y2 kr hc ?_
    refine WA_not 7 14 kr rfl kr (.head _) (QP_then QP_body) ?_
    refine WA_not 8 15 kr rfl kr (.head _) (QP_then QP_body) ?_
    refine WA_not 9 16 kr rfl kr (.head _) (QP_then QP_body) ?_
    refine WA_not 10 17 kr rfl kr (.head _) (QP_then QP_body) ?_
    refine WA_not 11 18 kr rfl kr (.head _) (QP_then QP_body) ?_
    refine WA_not 12 19 kr rfl kr (.head _) (QP_then QP_body) ?_
    refine WA_not 13 20 kr rfl kr (.head _) (QP_then QP_body) ?_
    refine WA_pure 14 21 (.bool false) kr rfl kr (.head _) (QP_then QP_body) ?_
    refine WA_pure 15 4 (.bool false) kr rfl kr (.head _) (QP_then QP_body) ?_
    obtain rfl := Option.some.inj hr
    exact WA_done kr (X_env _ kr (K _ _ ⟨m4, rfl, hm, st⟩))
  ·rw [if_neg (not_true hc)] at hr
   refine WA_fact (t := 9) (b := false) y1 kr hc ?_
   refine WA_not 3 10 kr rfl kr (.head _) (QP_then QP_body) ?_
   refine WA_not 4 11 kr rfl kr (.head _) (QP_then QP_body) ?_
   refine WA_pure 5 12 (.bool false) kr rfl kr (.head _) (QP_then QP_body) ?_
   refine WA_pure 6 13 (.bool false) kr rfl kr (.head _) (QP_then QP_body) ?_
   refine WA_not 7 14 kr rfl kr (.head _) (QP_then QP_body) ?_
   refine WA_not 8 15 kr rfl kr (.head _) (QP_then QP_body) ?_
   refine WA_not 9 16 kr rfl kr (.head _) (QP_then QP_body) ?_
   refine WA_not 10 17 kr rfl kr (.head _) (QP_then QP_body) ?_
   refine WA_not 11 18 kr rfl kr (.head _) (QP_then QP_body) ?_
   refine WA_not 12 19 kr rfl kr (.head _) (QP_then QP_body) ?_
   refine WA_not 13 20 kr rfl kr (.head _) (QP_then QP_body) ?_
   refine WA_pure 14 21 (.bool false) kr rfl kr (.head _) (QP_then QP_body) ?_
   refine WA_pure 15 4 (.bool false) kr rfl kr (.head _) (QP_then QP_body) ?_
   obtain rfl := Option.some.inj hr
   exact WA_done kr (X_env _ kr (K _ _ ⟨m3, rfl, hm, st⟩))
def testgatelaw12_awake (N : Nat) : Option (Bool) :=
 (level_Key N (1, (⟨#[112]⟩ : ByteArray), (⟨#[102]⟩ : ByteArray)) 2).bind fun y1 => (level_Keys N ([(1, (⟨#[112]⟩ : ByteArray), (⟨#[102]⟩ : ByteArray)), (2, (⟨#[112]⟩ : ByteArray), (⟨#[116]⟩ : ByteArray))]) 3).bind fun y2 => (if (y1.2 == 0) = true then (if (y2.2 == 0) = true then (if ((y1.1.1 == 6) && ((y1.1.2.1.toList == (⟨#[112]⟩ : ByteArray).toList) && ((y1.1.2.2.toList == (⟨#[]⟩ : ByteArray).toList) && true))) = true then (if ((List.length y2.1 : Int) == 1) = true then ((idx y2.1 0).bind fun x1 => if (x1.1 == 7) = true then ((level_Finer N 1 2).bind fun y3 => some y3) else (some false)) else (some false)) else (some false)) else (some false)) else (some false) : Option (Bool)).bind fun o1 => some o1
set_option maxHeartbeats 4000000 in
set_option maxRecDepth 100000 in
theorem testgatelaw12_awake_ok {N : Nat} {m : Mem} {own : List Piece} {w : World} {r : Bool} (st : St m (own) w) (hr : testgatelaw12_awake N = some r) : Calls Tryd.prog 17 #[] w fun e w' => ∃ (m' : Mem), e = .returned (.bool r) ∧ m.le m' ∧ St m' (own) w' := by
 unfold testgatelaw12_awake at hr
 have hm := m.le_refl
 refine W_calls Tryd.func17 rfl Tryd.ntmps17 [] kr rfl ?_
 refine W_sr (WO_seg 1 [] kr kr ?_)
 refine WO_et rfl (W_sr ?_)
 refine WO_seg 1 [(6, .agg #[.int .i64 1, .string (⟨#[112]⟩ : ByteArray), .string (⟨#[102]⟩ : ByteArray)])] kr kr ?_
 replace ⟨y1, hx1, hr⟩ := bindS hr
 refine WO_one rfl (One_fn 7 15 #[.agg #[.int .i64 1, .string (⟨#[112]⟩ : ByteArray), .string (⟨#[102]⟩ : ByteArray)], .int .i64 2] kr rfl ?_)
 refine (level_Key_ok st hx1).mono ?_
 clear st
 rintro _ w1 ⟨m1, rfl, hle1, st⟩
 refine ⟨_, rfl, ?_⟩
 have hm := Mem.le_trans hm hle1
 refine WO_seg 3 [(8, .agg #[.int .i64 y1.1.1, .string y1.1.2.1, .string y1.1.2.2]), (9, .int .i64 y1.2)] kr kr ?_
 refine WO_one rfl (One_alloc (d := 1) (e := 29) (.agg #[.int .i64 0, .string (⟨#[]⟩ : ByteArray), .string (⟨#[]⟩ : ByteArray)]) kr rfl kr st ?_)
 clear st
 intro b1 w2 st
 refine WO_one rfl (One_store (t := 29) (x := (.tmp 1)) (y := (.tmp 8)) (v := .agg #[.int .i64 y1.1.1, .string y1.1.2.1, .string y1.1.2.2]) (c' := #[.int .i64 y1.1.1, .string y1.1.2.1, .string y1.1.2.2]) kr (ev (.pointer (some ⟨b1, 0, none⟩))) (ev (.agg #[.int .i64 y1.1.1, .string y1.1.2.1, .string y1.1.2.2])) st kr kr ?_)
 clear st
 intro w3 st
 refine WO_seg 1 [(2, .int .i64 y1.2)] kr kr ?_
 refine WO_et rfl (W_sr ?_)
 refine WO_seg 2 [(11, .agg #[.int .i64 1, .string (⟨#[112]⟩ : ByteArray), .string (⟨#[102]⟩ : ByteArray)]), (12, .agg #[.int .i64 2, .string (⟨#[112]⟩ : ByteArray), .string (⟨#[116]⟩ : ByteArray)])] kr kr ?_
 refine WO_one rfl (One_buildSlice (d := 13) (t := 23) (e := 29) (len := 2) (parts := #[(0, (.tmp 11)), (1, (.tmp 12))]) (cPair (cInt .i64) (cPair cStr cStr)) (xs := [(1, (⟨#[112]⟩ : ByteArray), (⟨#[102]⟩ : ByteArray)), (2, (⟨#[112]⟩ : ByteArray), (⟨#[116]⟩ : ByteArray))]) [.int .i64 1, .string (⟨#[112]⟩ : ByteArray), .string (⟨#[102]⟩ : ByteArray), .int .i64 2, .string (⟨#[112]⟩ : ByteArray), .string (⟨#[116]⟩ : ByteArray)] kr rfl (fun _ => buildCells_run kr _) rfl rfl st ⟨[.int .i64 1, .string (⟨#[112]⟩ : ByteArray), .string (⟨#[102]⟩ : ByteArray)], _, rfl, ⟨_, _, rfl, rfl, ⟨_, _, rfl, rfl, rfl⟩⟩, ⟨[.int .i64 2, .string (⟨#[112]⟩ : ByteArray), .string (⟨#[116]⟩ : ByteArray)], _, rfl, ⟨_, _, rfl, rfl, ⟨_, _, rfl, rfl, rfl⟩⟩, rfl⟩⟩ ?_)
 clear st
 intro b2 m2 w4 hle2 st r1
 have hm := Mem.le_trans hm hle2
 replace ⟨y2, hx2, hr⟩ := bindS hr
 refine WO_one rfl (One_fn 14 10 #[.slice (some ⟨b2, 0, none⟩) (List.length ([(1, (⟨#[112]⟩ : ByteArray), (⟨#[102]⟩ : ByteArray)), (2, (⟨#[112]⟩ : ByteArray), (⟨#[116]⟩ : ByteArray))])) 2, .int .i64 3] kr rfl ?_)
 refine (level_Keys_ok st r1 hx2).mono ?_
 clear st
 rintro _ w5 ⟨a1, c1, m3, rfl, hle3, st, r2⟩
 refine ⟨_, rfl, ?_⟩
 have hm := Mem.le_trans hm hle3
 have r1 := r1.mono hle3
 refine WO_seg 5 [(3, .slice a1 (List.length y2.1) c1), (4, .int .i64 y2.2)] kr kr ?_
 refine WO_end rfl ?_
 have st := st.front1
 have st := st.tail
 refine X_then ?_
 refine W_sr ?_
 replace ⟨o1, hr, hrK⟩ := bindS hr
 refine WO_cut (j := 27) (fun L' w' => ∃ (m4 : Mem), L' = [(0, .bool o1)] ∧ m.le m4 ∧ St m4 (.blk b1 (.cells #[.int .i64 y1.1.1, .string y1.1.2.1, .string y1.1.2.2] 29 (0, 0)) :: .room a1 (List.length y2.1) c1 29 3 :: own) w') ?_ ?_
 ·clear hr st
  have hr := hrK
  clear hrK
  rintro _ w6 ⟨m4, rfl, hm, st⟩
  refine WO_et rfl (W_ret ?_)
  obtain rfl := Option.some.inj hr
  refine X_ret [.tmp 0] [.bool o1] rfl (ResAll.cons (ResAt.tmp kr) ResAll.nil) ?_
  have st := st.tail
  have st := st.tail
  exact ⟨m4, rfl, hm, st⟩
 ·intro K
  clear hrK
  refine WO_seg 3 [(19, .bool (y1.2 == 0))] kr kr ?_
  rcases bcases (y1.2 == 0) with hc | hc
  ·rw [if_pos hc] at hr
   refine WO_fact (t := 19) (b := true) (y1.2 == 0) kr hc ?_
   refine WO_seg 4 [(23, .bool (y2.2 == 0))] kr kr ?_
   rcases bcases (y2.2 == 0) with hc | hc
   ·rw [if_pos hc] at hr
    refine WO_fact (t := 23) (b := true) (y2.2 == 0) kr hc ?_
    refine WO_one rfl (One_load_own (d := 24) (t := 29) (x := (.tmp 1)) (.agg #[.int .i64 y1.1.1, .string y1.1.2.1, .string y1.1.2.2]) kr rfl (ev (.pointer (some ⟨b1, 0, none⟩))) st.tail.head kr ?_)
    refine WO_seg 1 [(25, .agg #[.int .i64 6, .string (⟨#[112]⟩ : ByteArray), .string (⟨#[]⟩ : ByteArray)])] kr kr ?_
    refine WO_one rfl (One_eqAgg (d := 26) (t := 29) (t2 := 29) (x := (.tmp 24)) (y := (.tmp 25)) (xs := #[.int .i64 y1.1.1, .string y1.1.2.1, .string y1.1.2.2]) (ys := #[.int .i64 6, .string (⟨#[112]⟩ : ByteArray), .string (⟨#[]⟩ : ByteArray)]) ((y1.1.1 == 6) && ((y1.1.2.1.toList == (⟨#[112]⟩ : ByteArray).toList) && ((y1.1.2.2.toList == (⟨#[]⟩ : ByteArray).toList) && true))) kr rfl (ev (.agg #[.int .i64 y1.1.1, .string y1.1.2.1, .string y1.1.2.2])) (ev (.agg #[.int .i64 6, .string (⟨#[112]⟩ : ByteArray), .string (⟨#[]⟩ : ByteArray)])) kr kr kr ?_)
    refine WO_seg 2 [(28, .bool ((y1.1.1 == 6) && ((y1.1.2.1.toList == (⟨#[112]⟩ : ByteArray).toList) && ((y1.1.2.2.toList == (⟨#[]⟩ : ByteArray).toList) && true))))] kr kr ?_
    rcases bcases ((y1.1.1 == 6) && ((y1.1.2.1.toList == (⟨#[112]⟩ : ByteArray).toList) && ((y1.1.2.2.toList == (⟨#[]⟩ : ByteArray).toList) && true))) with hc | hc
    ·rw [if_pos hc] at hr
     refine WO_fact (t := 28) (b := true) ((y1.1.1 == 6) && ((y1.1.2.1.toList == (⟨#[112]⟩ : ByteArray).toList) && ((y1.1.2.2.toList == (⟨#[]⟩ : ByteArray).toList) && true))) kr hc ?_
     refine WO_seg 5 [(33, .bool ((List.length y2.1 : Int) == 1))] kr kr ?_
     rcases bcases ((List.length y2.1 : Int) == 1) with hc | hc
     ·rw [if_pos hc] at hr
      refine WO_fact (t := 33) (b := true) ((List.length y2.1 : Int) == 1) kr hc ?_
      refine WO_seg 1 [(34, .slice a1 (List.length y2.1) c1)] kr kr ?_
      replace ⟨x1, hx3, hr⟩ := bindS hr
      refine WO_one rfl (One_index (d := 35) (t := 23) (e := 29) (x := (.tmp 34)) (y := (.const (.int .i64 0))) (cPair (cInt .i64) (cPair cStr cStr)) kr rfl (ev (.slice a1 (List.length y2.1) c1)) (ev (.int .i64 0)) kr r2 hx3 ?_)
      rintro b3 f1 cs1 ⟨_, _, rfl, rfl, ⟨_, _, rfl, rfl, rfl⟩⟩ hq1
      refine WO_seg 1 [(36, .pointer (some ⟨b3, f1, none⟩))] kr kr ?_
      refine WO_one rfl (One_load_row (d := 37) (t := 3) (x := (.tmp 36)) (.int .i64 x1.1) kr rfl (ev (.pointer (some ⟨b3, f1, none⟩))) st hq1 kr ?_)
      refine WO_seg 3 [(40, .bool (x1.1 == 7))] kr kr ?_
      rcases bcases (x1.1 == 7) with hc | hc
      ·rw [if_pos hc] at hr
       refine WO_fact (t := 40) (b := true) (x1.1 == 7) kr hc ?_
       replace ⟨y3, hx4, hr⟩ := bindS hr
       refine WO_one rfl (One_fn 41 13 #[.int .i64 1, .int .i64 2] kr rfl ?_)
       refine (level_Finer_ok st hx4).mono ?_
       clear st
       rintro _ w7 ⟨m5, rfl, hle4, st⟩
       refine ⟨_, rfl, ?_⟩
       have hm := Mem.le_trans hm hle4
       have r2 := r2.mono hle4
       have hq1 := hq1.mono hle4
       refine WO_seg 2 [(0, .bool y3)] kr kr ?_
       obtain rfl := Option.some.inj hr
       have st := st.front1
       exact WO_env _ kr (K _ _ ⟨m5, rfl, hm, st⟩)
      ·rw [if_neg (not_true hc)] at hr
       refine WO_fact (t := 40) (b := false) (x1.1 == 7) kr hc ?_
       refine WO_seg 3 [(0, .bool false)] kr kr ?_
       obtain rfl := Option.some.inj hr
       have st := st.front1
       exact WO_env _ kr (K _ _ ⟨m3, rfl, hm, st⟩)
     ·rw [if_neg (not_true hc)] at hr
      refine WO_fact (t := 33) (b := false) ((List.length y2.1 : Int) == 1) kr hc ?_
      refine WO_seg 10 [(0, .bool false)] kr kr ?_
      obtain rfl := Option.some.inj hr
      have st := st.front1
      exact WO_env _ kr (K _ _ ⟨m3, rfl, hm, st⟩)
    ·rw [if_neg (not_true hc)] at hr
     refine WO_fact (t := 28) (b := false) ((y1.1.1 == 6) && ((y1.1.2.1.toList == (⟨#[112]⟩ : ByteArray).toList) && ((y1.1.2.2.toList == (⟨#[]⟩ : ByteArray).toList) && true))) kr hc ?_
     refine WO_seg 15 [(0, .bool false)] kr kr ?_
     obtain rfl := Option.some.inj hr
     have st := st.front1
     exact WO_env _ kr (K _ _ ⟨m3, rfl, hm, st⟩)
   ·rw [if_neg (not_true hc)] at hr
    refine WO_fact (t := 23) (b := false) (y2.2 == 0) kr hc ?_
    refine WO_seg 20 [(0, .bool false)] kr kr ?_
    obtain rfl := Option.some.inj hr
    have st := st.front1
    exact WO_env _ kr (K _ _ ⟨m3, rfl, hm, st⟩)
  ·rw [if_neg (not_true hc)] at hr
   refine WO_fact (t := 19) (b := false) (y1.2 == 0) kr hc ?_
   refine WO_seg 24 [(0, .bool false)] kr kr ?_
   obtain rfl := Option.some.inj hr
   have st := st.front1
   exact WO_env _ kr (K _ _ ⟨m3, rfl, hm, st⟩)
def testgatelaw12_LevelTwice_L1 (N : Nat) (s1 : (List (Int × ByteArray × ByteArray)) × Int × List (Int) × Int) : Option (((List (Int × ByteArray × ByteArray)) × Int × List (Int) × Int) ⊕ (((List (Int × ByteArray × ByteArray)) × List (Int) × Int))) :=
 if (decide (s1.2.1 > 0)) = true then ((testgatemake_Key N (s1.2.2.1, s1.2.2.2)).bind fun y2 => (appendS 40 s1.1 ([(y2.2.1, y2.2.2.1, y2.2.2.2)])).bind fun l1 => some (.inl (l1, IntKind.wrap .i64 (s1.2.1 - 1), y2.1.1, y2.1.2))) else (some (.inr (s1.1, s1.2.2.1, s1.2.2.2)))
def testgatelaw12_LevelTwice_L3 (N : Nat) (o1 : (List (Int × ByteArray × ByteArray)) × List (Int) × Int) (y3 : (List (Int × ByteArray × ByteArray)) × Int) (s3 : Int) : Option ((Int) ⊕ ((Unit) ⊕ (Bool))) :=
 if (decide (s3 ≤ 3)) = true then ((level_Keys N y3.1 s3).bind fun y4 => (level_Keys N o1.1 s3).bind fun y5 => (if (y4.2 != 0) = true then (some true) else (if (y5.2 != 0) = true then (some true) else ((testgateref11_Same N y4.1 y5.1).bind fun y6 => some (!y6))) : Option (Bool)).bind fun o4 => if o4 = true then (some (.inr (.inr (false)))) else (some (.inl (IntKind.wrap .i64 (s3 + 1))))) else (some (.inr (.inl ())))
def testgatelaw12_LevelTwice_L2 (N : Nat) (o1 : (List (Int × ByteArray × ByteArray)) × List (Int) × Int) (s2 : Int) : Option ((Int) ⊕ ((Unit) ⊕ (Bool))) :=
 if (decide (s2 ≤ 3)) = true then ((level_Keys N o1.1 s2).bind fun y3 => if (y3.2 != 0) = true then (some (.inr (.inr (false)))) else ((loopM (testgatelaw12_LevelTwice_L3 N o1 y3) N s2).bind fun out3 => (match out3 with | .inl o3 => some (.inl (IntKind.wrap .i64 (s2 + 1))) | .inr (z) => some (.inr (.inr (z)))))) else (some (.inr (.inl ())))
def testgatelaw12_LevelTwice (N : Nat) (p0 : List Int) : Option (Bool) :=
 (testgatemake_Tape_Next N (p0, 0) 8).bind fun y1 => (loopM (testgatelaw12_LevelTwice_L1 N) N (([] : List (Int × ByteArray × ByteArray)), y1.2, y1.1.1, y1.1.2)).bind fun o1 => (loopM (testgatelaw12_LevelTwice_L2 N o1) N 1).bind fun out2 => (match out2 with | .inl o2 => (testgatelaw12_awake N).bind fun y7 => some y7 | .inr (z) => some z)
set_option maxHeartbeats 4000000 in
set_option maxRecDepth 100000 in
theorem testgatelaw12_LevelTwice_ok {N : Nat} {m : Mem} {own : List Piece} {w : World} {p0 : List Int} {a1 : Option Addr} {c1 : Nat} {r : Bool} (st : St m (own) w) (r1 : RepS (cInt .i64) m a1 c1 p0) (hr : testgatelaw12_LevelTwice N p0 = some r) : Calls Tryd.prog 4 #[.slice a1 (List.length p0) c1] w fun e w' => ∃ (m' : Mem), e = .returned (.bool r) ∧ m.le m' ∧ St m' (own) w' := by
 unfold testgatelaw12_LevelTwice at hr
 have hm := m.le_refl
 refine W_calls Tryd.func4 rfl Tryd.ntmps4 [(0, .slice a1 (List.length p0) c1)] kr rfl ?_
 refine W_sr (WO_seg 1 [] kr kr ?_)
 refine WO_et rfl (W_sr ?_)
 refine WO_seg 2 [(15, .agg #[.slice a1 (List.length p0) c1, .int .i64 0])] kr kr ?_
 refine WO_one rfl (One_box_own (d := 16) (e := 26) (x := (.tmp 15)) (.agg #[.slice a1 (List.length p0) c1, .int .i64 0]) kr rfl kr st ?_)
 clear st
 intro b1 w1 st
 refine WO_seg 1 [(3, .pointer (some ⟨b1, 0, none⟩))] kr kr ?_
 refine WO_et rfl (W_sr ?_)
 refine WO_seg 1 [(4, .slice none (List.length ([] : List (Int × ByteArray × ByteArray))) 0)] kr kr ?_
 refine WO_et rfl (W_seq ?_)
 refine W_sr (WO_seg 1 [(17, .pointer (some ⟨b1, 0, none⟩))] kr kr ?_)
 replace ⟨y1, hx1, hr⟩ := bindS hr
 refine WO_one rfl (One_fn 18 7 #[.pointer (some ⟨b1, 0, none⟩), .int .i64 8] kr rfl ?_)
 refine (testgatemake_Tape_Next_ok st r1 hx1).mono ?_
 clear st
 rintro _ w2 ⟨a2, c2, m2, rfl, hle2, st, r2⟩
 refine ⟨_, rfl, ?_⟩
 have hm := Mem.le_trans hm hle2
 have r1 := r1.mono hle2
 refine WO_seg 1 [(5, .int .i64 y1.2)] kr kr ?_
 refine WO_et rfl (W_block ?_)
 replace ⟨out1, hr, hrKu1⟩ := bindS hr
 refine W_cut (.exit 0) (fun L' w' => ∃ (o1 : (List (Int × ByteArray × ByteArray)) × List (Int) × Int) (a3 : Option Addr) (c3 : Nat) (a4 : Option Addr) (c4 : Nat) (m3 : Mem), o1 = out1 ∧ L' = [(4, .slice a3 (List.length o1.1) c3)] ∧ m.le m3 ∧ St m3 (.blk b1 (.cells #[.slice a4 (List.length o1.2.1) c4, .int .i64 o1.2.2] 26 (0, 0)) :: .room a3 (List.length o1.1) c3 29 3 :: own) w' ∧ RepS (cPair (cInt .i64) (cPair cStr cStr)) m3 a3 c3 o1.1 ∧ RepS (cInt .i64) m3 a4 c4 o1.2.1) ?_ ?_
 ·clear hr st
  rintro _ w3 ⟨o1, a3, c3, a4, c4, m3, rfl, rfl, hm, st, r3, r4⟩
  have hr := hrKu1
  clear hrKu1
  refine X_block_eq ?_
  refine X_then ?_
  refine W_seq ?_
  refine W_sr (WO_seg 1 [(6, .int .i64 1)] kr kr ?_)
  refine WO_et rfl (W_block ?_)
  replace ⟨out2, hr, hrKu2⟩ := bindS hr
  refine W_cut (.exit 2) (fun L' w' => ∃ (o2 : Unit) (m8 : Mem), (.inl o2) = out2 ∧ L' = [] ∧ m.le m8 ∧ St m8 (.blk b1 (.cells #[.slice a4 (List.length o1.2.1) c4, .int .i64 o1.2.2] 26 (0, 0)) :: .room a3 (List.length o1.1) c3 29 3 :: own) w' ∧ RepS (cInt .i64) m8 a4 c4 o1.2.1) ?_ ?_
  ·clear hr st
   rintro _ w8 ⟨o2, m8, rfl, rfl, hm, st, r4⟩
   have hr := hrKu2
   clear hrKu2
   dsimp only at hr
   refine X_block_eq ?_
   refine X_then ?_
   refine W_sr ?_
   replace ⟨y7, hx8, hr⟩ := bindS hr
   refine WO_one rfl (One_fn 69 17 #[] kr rfl ?_)
   refine (testgatelaw12_awake_ok st hx8).mono ?_
   clear st
   rintro _ w17 ⟨m17, rfl, hle10, st⟩
   refine ⟨_, rfl, ?_⟩
   have hm := Mem.le_trans hm hle10
   have r4 := r4.mono hle10
   refine WO_seg 1 [(2, .bool y7)] kr kr ?_
   refine WO_end rfl ?_
   have st := st.front1
   have st := st.tail
   refine X_then ?_
   refine W_ret ?_
   obtain rfl := Option.some.inj hr
   refine X_ret [.tmp 2] [.bool y7] rfl (ResAll.cons (ResAt.tmp kr) ResAll.nil) ?_
   have st := st.tail
   exact ⟨m17, rfl, hm, st⟩
  intro K2_u2
  have st := st.front1.front1
  refine W_env _ kr (W_loop (fun k2 L' w' => ∃ (s2 : Int) (m9 : Mem), loopM (testgatelaw12_LevelTwice_L2 N o1) k2 s2 = some out2 ∧ L' = [(4, .slice a3 (List.length o1.1) c3), (6, .int .i64 s2)] ∧ m.le m9 ∧ St m9 (.blk b1 (.cells #[.slice a4 (List.length o1.2.1) c4, .int .i64 o1.2.2] 26 (0, 0)) :: .room a3 (List.length o1.1) c3 29 3 :: own) w' ∧ RepS (cPair (cInt .i64) (cPair cStr cStr)) m9 a3 c3 o1.1 ∧ RepS (cInt .i64) m9 a4 c4 o1.2.1) N ⟨1, m3, hr, rfl, hm, st, r3, r4⟩ ?_)
  clear st hr
  rintro k2 _ w9 ⟨s2, m9, hL, rfl, hm, st, r3, r4⟩
  rcases k2 with _ | k2
  ·exact loopM_zero hL
  ·obtain ⟨qu2, hr, hSu2, hBu2⟩ := loopM_succ hL
   clear hL
   unfold testgatelaw12_LevelTwice_L2 at hr
   refine W_seq ?_
   refine W_sr (WO_seg 2 [(29, .bool (decide (s2 ≤ 3)))] kr kr ?_)
   refine WO_et rfl (W_cond (decide (s2 ≤ 3)) kr ?_ ?_)
   ·intro hc
    rw [if_pos hc] at hr
    refine W_skip ?_
    refine X_then ?_
    refine W_seq ?_
    refine W_block ?_
    refine W_sr (WO_seg 2 [(33, .slice a3 (List.length o1.1) c3), (34, .int .i64 s2)] kr kr ?_)
    replace ⟨y3, hx4, hr⟩ := bindS hr
    refine WO_one rfl (One_fn 35 10 #[.slice a3 (List.length o1.1) c3, .int .i64 s2] kr rfl ?_)
    refine (level_Keys_ok st r3 hx4).mono ?_
    clear st
    rintro _ w10 ⟨a9, c9, m10, rfl, hle6, st, r10⟩
    refine ⟨_, rfl, ?_⟩
    have hm := Mem.le_trans hm hle6
    have r3 := r3.mono hle6
    have r4 := r4.mono hle6
    refine WO_seg 5 [(7, .slice a9 (List.length y3.1) c9), (8, .int .i64 y3.2)] kr kr ?_
    refine WO_et rfl (W_seq ?_)
    refine W_sr (WO_seg 2 [(39, .bool (y3.2 != 0))] kr kr ?_)
    refine WO_et rfl (W_cond (y3.2 != 0) kr ?_ ?_)
    ·intro hc
     rw [if_pos hc] at hr
     refine W_sr (WO_seg 1 [(2, .bool false)] kr kr ?_)
     refine WO_end rfl ?_
     have st := st.tail
     have st := st.front1
     have st := st.tail
     refine X_then ?_
     refine W_ret ?_
     refine X_then_ret ?_
     refine X_block_ret ?_
     refine X_then_ret ?_
     obtain rfl := Option.some.inj hr
     have ho := hBu2 _ rfl
     subst ho
     have hr := hrKu2
     dsimp only at hr
     refine X_then_ret ?_
     refine X_block_ret ?_
     refine X_then_ret ?_
     obtain rfl := Option.some.inj hr
     refine X_ret [.tmp 2] [.bool false] rfl (ResAll.cons (ResAt.tmp kr) ResAll.nil) ?_
     have st := st.tail
     exact ⟨m10, rfl, hm, st⟩
    ·intro hc
     rw [if_neg (not_true hc)] at hr
     refine W_skip ?_
     refine X_then ?_
     refine W_sr (WO_seg 2 [(9, .int .i64 s2)] kr kr ?_)
     refine WO_et rfl (W_block ?_)
     replace ⟨out3, hr, hrKu3⟩ := bindS hr
     refine W_cut (.exit 4) (fun L' w' => ∃ (o3 : Unit) (m11 : Mem), (.inl o3) = out3 ∧ L' = [(4, .slice a3 (List.length o1.1) c3), (6, .int .i64 s2)] ∧ m.le m11 ∧ St m11 (.blk b1 (.cells #[.slice a4 (List.length o1.2.1) c4, .int .i64 o1.2.2] 26 (0, 0)) :: .room a9 (List.length y3.1) c9 29 3 :: .room a3 (List.length o1.1) c3 29 3 :: own) w' ∧ RepS (cPair (cInt .i64) (cPair cStr cStr)) m11 a3 c3 o1.1 ∧ RepS (cInt .i64) m11 a4 c4 o1.2.1) ?_ ?_
     ·clear hr st
      rintro _ w11 ⟨o3, m11, rfl, rfl, hm, st, r3, r4⟩
      have hr := hrKu3
      clear hrKu3
      dsimp only at hr
      refine X_block_eq ?_
      refine X_block ?_
      refine X_then ?_
      refine W_region ?_
      refine WO_seg 3 [(6, .int .i64 (IntKind.wrap .i64 (s2 + 1)))] kr kr ?_
      refine WO_end rfl ?_
      have st := st.front1
      have st := st.tail
      obtain rfl := Option.some.inj hr
      have hL := hSu2 _ rfl
      have st := st.front1.front1
      exact X_env _ kr (X_round k2 (Nat.lt_succ_self _) ⟨IntKind.wrap .i64 (s2 + 1), m11, hL, rfl, hm, st, r3, r4⟩)
     intro K4_u3
     have st := st.front2.front1.front2
     refine W_env _ kr (W_loop (fun k3 L' w' => ∃ (s3 : Int) (m12 : Mem), loopM (testgatelaw12_LevelTwice_L3 N o1 y3) k3 s3 = some out3 ∧ L' = [(4, .slice a3 (List.length o1.1) c3), (6, .int .i64 s2), (7, .slice a9 (List.length y3.1) c9), (9, .int .i64 s3)] ∧ m.le m12 ∧ St m12 (.blk b1 (.cells #[.slice a4 (List.length o1.2.1) c4, .int .i64 o1.2.2] 26 (0, 0)) :: .room a9 (List.length y3.1) c9 29 3 :: .room a3 (List.length o1.1) c3 29 3 :: own) w' ∧ RepS (cPair (cInt .i64) (cPair cStr cStr)) m12 a3 c3 o1.1 ∧ RepS (cPair (cInt .i64) (cPair cStr cStr)) m12 a9 c9 y3.1 ∧ RepS (cInt .i64) m12 a4 c4 o1.2.1) N ⟨s2, m10, hr, rfl, hm, st, r3, r10, r4⟩ ?_)
     clear st hr
     rintro k3 _ w12 ⟨s3, m12, hL, rfl, hm, st, r3, r10, r4⟩
     rcases k3 with _ | k3
     ·exact loopM_zero hL
     ·obtain ⟨qu3, hr, hSu3, hBu3⟩ := loopM_succ hL
      clear hL
      unfold testgatelaw12_LevelTwice_L3 at hr
      refine W_seq ?_
      refine W_sr (WO_seg 2 [(42, .bool (decide (s3 ≤ 3)))] kr kr ?_)
      refine WO_et rfl (W_cond (decide (s3 ≤ 3)) kr ?_ ?_)
      ·intro hc
       rw [if_pos hc] at hr
       refine W_skip ?_
       refine X_then ?_
       refine W_seq ?_
       refine W_block ?_
       refine W_sr (WO_seg 2 [(46, .slice a9 (List.length y3.1) c9), (47, .int .i64 s3)] kr kr ?_)
       replace ⟨y4, hx5, hr⟩ := bindS hr
       refine WO_one rfl (One_fn 48 10 #[.slice a9 (List.length y3.1) c9, .int .i64 s3] kr rfl ?_)
       refine (level_Keys_ok st r10 hx5).mono ?_
       clear st
       rintro _ w13 ⟨a10, c10, m13, rfl, hle7, st, r11⟩
       refine ⟨_, rfl, ?_⟩
       have hm := Mem.le_trans hm hle7
       have r3 := r3.mono hle7
       have r10 := r10.mono hle7
       have r4 := r4.mono hle7
       refine WO_seg 5 [(10, .slice a10 (List.length y4.1) c10), (11, .int .i64 y4.2)] kr kr ?_
       refine WO_et rfl (W_sr ?_)
       refine WO_seg 2 [(52, .slice a3 (List.length o1.1) c3), (53, .int .i64 s3)] kr kr ?_
       replace ⟨y5, hx6, hr⟩ := bindS hr
       refine WO_one rfl (One_fn 54 10 #[.slice a3 (List.length o1.1) c3, .int .i64 s3] kr rfl ?_)
       refine (level_Keys_ok st r3 hx6).mono ?_
       clear st
       rintro _ w14 ⟨a11, c11, m14, rfl, hle8, st, r12⟩
       refine ⟨_, rfl, ?_⟩
       have hm := Mem.le_trans hm hle8
       have r3 := r3.mono hle8
       have r10 := r10.mono hle8
       have r11 := r11.mono hle8
       have r4 := r4.mono hle8
       refine WO_seg 5 [(12, .slice a11 (List.length y5.1) c11), (13, .int .i64 y5.2)] kr kr ?_
       refine WO_et rfl (W_sr ?_)
       replace ⟨o4, hr, hrK⟩ := bindS hr
       refine WO_cut (j := 12) (fun L' w' => ∃ (m15 : Mem), L' = [(4, .slice a3 (List.length o1.1) c3), (6, .int .i64 s2), (7, .slice a9 (List.length y3.1) c9), (9, .int .i64 s3), (68, .bool o4)] ∧ m.le m15 ∧ St m15 (.blk b1 (.cells #[.slice a4 (List.length o1.2.1) c4, .int .i64 o1.2.2] 26 (0, 0)) :: .room a11 (List.length y5.1) c11 29 3 :: .room a10 (List.length y4.1) c10 29 3 :: .room a9 (List.length y3.1) c9 29 3 :: .room a3 (List.length o1.1) c3 29 3 :: own) w' ∧ RepS (cPair (cInt .i64) (cPair cStr cStr)) m15 a3 c3 o1.1 ∧ RepS (cPair (cInt .i64) (cPair cStr cStr)) m15 a9 c9 y3.1 ∧ RepS (cInt .i64) m15 a4 c4 o1.2.1) ?_ ?_
       ·clear hr st
        have hr := hrK
        clear hrK
        rintro _ w15 ⟨m15, rfl, hm, st, r3, r10, r4⟩
        refine WO_et rfl (W_cond o4 kr ?_ ?_)
        ·intro hc
         rw [if_pos hc] at hr
         refine W_sr (WO_seg 1 [(2, .bool false)] kr kr ?_)
         refine WO_end rfl ?_
         have st := st.front1
         have st := st.tail
         have st := st.front1
         have st := st.tail
         have st := st.front1
         have st := st.tail
         have st := st.front1
         have st := st.tail
         refine X_then ?_
         refine W_ret ?_
         refine X_block_ret ?_
         refine X_then_ret ?_
         obtain rfl := Option.some.inj hr
         have ho := hBu3 _ rfl
         subst ho
         have hr := hrKu3
         dsimp only at hr
         refine X_then_ret ?_
         refine X_block_ret ?_
         refine X_block_ret ?_
         refine X_then_ret ?_
         obtain rfl := Option.some.inj hr
         have ho := hBu2 _ rfl
         subst ho
         have hr := hrKu2
         dsimp only at hr
         refine X_then_ret ?_
         refine X_block_ret ?_
         refine X_then_ret ?_
         obtain rfl := Option.some.inj hr
         refine X_ret [.tmp 2] [.bool false] rfl (ResAll.cons (ResAt.tmp kr) ResAll.nil) ?_
         have st := st.tail
         exact ⟨m15, rfl, hm, st⟩
        ·intro hc
         rw [if_neg (not_true hc)] at hr
         refine W_skip ?_
         refine X_block ?_
         refine X_then ?_
         refine W_region ?_
         refine WO_seg 3 [(9, .int .i64 (IntKind.wrap .i64 (s3 + 1)))] kr kr ?_
         refine WO_end rfl ?_
         have st := st.front1
         have st := st.tail
         have st := st.front1
         have st := st.tail
         obtain rfl := Option.some.inj hr
         have hL := hSu3 _ rfl
         have st := st.front2.front2.front2
         exact X_env _ kr (X_round k3 (Nat.lt_succ_self _) ⟨IntKind.wrap .i64 (s3 + 1), m15, hL, rfl, hm, st, r3, r10, r4⟩)
       ·intro K
        clear hrK
        refine WO_seg 3 [(59, .bool (y4.2 != 0))] kr kr ?_
        rcases bcases (y4.2 != 0) with hc | hc
        ·rw [if_pos hc] at hr
         refine WO_fact (t := 59) (b := true) (y4.2 != 0) kr hc ?_
         refine WO_seg 9 [(68, .bool true)] kr kr ?_
         obtain rfl := Option.some.inj hr
         have st := st.front4.front4.front3.front3.front4
         exact WO_env _ kr (K _ _ ⟨m14, rfl, hm, st, r3, r10, r4⟩)
        ·rw [if_neg (not_true hc)] at hr
         refine WO_fact (t := 59) (b := false) (y4.2 != 0) kr hc ?_
         refine WO_seg 4 [(63, .bool (y5.2 != 0))] kr kr ?_
         rcases bcases (y5.2 != 0) with hc | hc
         ·rw [if_pos hc] at hr
          refine WO_fact (t := 63) (b := true) (y5.2 != 0) kr hc ?_
          refine WO_seg 5 [(68, .bool true)] kr kr ?_
          obtain rfl := Option.some.inj hr
          have st := st.front4.front4.front3.front3.front4
          exact WO_env _ kr (K _ _ ⟨m14, rfl, hm, st, r3, r10, r4⟩)
         ·rw [if_neg (not_true hc)] at hr
          refine WO_fact (t := 63) (b := false) (y5.2 != 0) kr hc ?_
          refine WO_seg 2 [(64, .slice a10 (List.length y4.1) c10), (65, .slice a11 (List.length y5.1) c11)] kr kr ?_
          replace ⟨y6, hx7, hr⟩ := bindS hr
          refine WO_one rfl (One_fn 66 12 #[.slice a10 (List.length y4.1) c10, .slice a11 (List.length y5.1) c11] kr rfl ?_)
          refine (testgateref11_Same_ok st r11 r12 hx7).mono ?_
          clear st
          rintro _ w16 ⟨m16, rfl, hle9, st⟩
          refine ⟨_, rfl, ?_⟩
          have hm := Mem.le_trans hm hle9
          have r3 := r3.mono hle9
          have r10 := r10.mono hle9
          have r11 := r11.mono hle9
          have r12 := r12.mono hle9
          have r4 := r4.mono hle9
          refine WO_seg 2 [(68, .bool (!y6))] kr kr ?_
          obtain rfl := Option.some.inj hr
          have st := st.front4.front4.front3.front3.front4
          exact WO_env _ kr (K _ _ ⟨m16, rfl, hm, st, r3, r10, r4⟩)
      ·intro hc
       rw [if_neg (not_true hc)] at hr
       refine W_exit ?_
       refine X_then_exit ?_
       obtain rfl := Option.some.inj hr
       have ho := hBu3 _ rfl
       have st := st.front2.front2.front2
       refine X_then_exit ?_
       exact X_env _ kr (K4_u3 _ _ ⟨(), m12, ho, rfl, hm, st, r3, r4⟩)
   ·intro hc
    rw [if_neg (not_true hc)] at hr
    refine W_exit ?_
    refine X_then_exit ?_
    obtain rfl := Option.some.inj hr
    have ho := hBu2 _ rfl
    have st := st.front1.front1
    refine X_then_exit ?_
    exact X_env _ kr (K2_u2 _ _ ⟨(), m9, ho, rfl, hm, st, r4⟩)
 intro K0_u1
 clear hrKu1
 have st := st.nilroom 29 3
 have st := st.front1
 refine W_env _ kr (W_loop (fun k1 L' w' => ∃ (s1 : (List (Int × ByteArray × ByteArray)) × Int × List (Int) × Int) (a5 : Option Addr) (c5 : Nat) (a6 : Option Addr) (c6 : Nat) (m4 : Mem), loopM (testgatelaw12_LevelTwice_L1 N) k1 s1 = some out1 ∧ L' = [(3, .pointer (some ⟨b1, 0, none⟩)), (4, .slice a5 (List.length s1.1) c5), (5, .int .i64 s1.2.1)] ∧ m.le m4 ∧ St m4 (.blk b1 (.cells #[.slice a6 (List.length s1.2.2.1) c6, .int .i64 s1.2.2.2] 26 (0, 0)) :: .room a5 (List.length s1.1) c5 29 3 :: own) w' ∧ RepS (cPair (cInt .i64) (cPair cStr cStr)) m4 a5 c5 s1.1 ∧ RepS (cInt .i64) m4 a6 c6 s1.2.2.1) N ⟨(([] : List (Int × ByteArray × ByteArray)), y1.2, y1.1.1, y1.1.2), none, 0, a2, c2, m2, hr, rfl, hm, st, (RepS.nil _ _), r2⟩ ?_)
 clear st hr
 rintro k1 _ w4 ⟨s1, a5, c5, a6, c6, m4, hL, rfl, hm, st, r5, r6⟩
 rcases k1 with _ | k1
 ·exact loopM_zero hL
 ·obtain ⟨qu1, hr, hSu1, hBu1⟩ := loopM_succ hL
  clear hL
  unfold testgatelaw12_LevelTwice_L1 at hr
  refine W_seq ?_
  refine W_sr (WO_seg 2 [(20, .bool (decide (s1.2.1 > 0)))] kr kr ?_)
  refine WO_et rfl (W_cond (decide (s1.2.1 > 0)) kr ?_ ?_)
  ·intro hc
   rw [if_pos hc] at hr
   refine W_skip ?_
   refine X_then ?_
   refine W_seq ?_
   refine W_block ?_
   refine W_region ?_
   refine WO_seg 2 [(23, .slice a5 (List.length s1.1) c5), (24, .pointer (some ⟨b1, 0, none⟩))] kr kr ?_
   replace ⟨y2, hx2, hr⟩ := bindS hr
   refine WO_one rfl (One_fn 25 8 #[.pointer (some ⟨b1, 0, none⟩)] kr rfl ?_)
   refine (testgatemake_Key_ok st r6 hx2).mono ?_
   clear st
   rintro _ w5 ⟨a7, c7, m5, rfl, hle3, st, r7⟩
   refine ⟨_, rfl, ?_⟩
   have hm := Mem.le_trans hm hle3
   have r5 := r5.mono hle3
   have r6 := r6.mono hle3
   refine WO_one rfl (One_buildSlice (d := 26) (t := 23) (e := 29) (len := 1) (parts := #[(0, (.tmp 25))]) (cPair (cInt .i64) (cPair cStr cStr)) (xs := [(y2.2.1, y2.2.2.1, y2.2.2.2)]) [.int .i64 y2.2.1, .string y2.2.2.1, .string y2.2.2.2] kr rfl (fun _ => buildCells_run kr _) rfl rfl st ⟨[.int .i64 y2.2.1, .string y2.2.2.1, .string y2.2.2.2], _, rfl, ⟨_, _, rfl, rfl, ⟨_, _, rfl, rfl, rfl⟩⟩, rfl⟩ ?_)
   clear st
   intro b2 m6 w6 hle4 st r8
   have hm := Mem.le_trans hm hle4
   have r5 := r5.mono hle4
   have r7 := r7.mono hle4
   have st := st.front2
   replace ⟨l1, hx3, hr⟩ := bindS hr
   refine WO_one rfl (One_append (d := 27) (t := 23) (u := 23) (e := 29) (by_ := 40) (x := (.tmp 23)) (y := (.tmp 26)) (cPair (cInt .i64) (cPair cStr cStr)) kr rfl (ev (.slice a5 (List.length s1.1) c5)) (ev (.slice (some ⟨b2, 0, none⟩) (List.length ([(y2.2.1, y2.2.2.1, y2.2.2.2)])) 1)) st kr (.inl kr) r5 r8.src hx3 ?_)
   clear st
   intro a8 c8 m7 w7 hle5 st r9
   have hm := Mem.le_trans hm hle5
   have r5 := r5.mono hle5
   have r8 := r8.mono hle5
   have r7 := r7.mono hle5
   refine WO_seg 1 [(4, .slice a8 (List.length l1) c8)] kr kr ?_
   refine WO_end rfl ?_
   have st := st.front1
   have st := st.tail
   refine X_block ?_
   refine X_then ?_
   refine W_region ?_
   refine WO_seg 3 [(5, .int .i64 (IntKind.wrap .i64 (s1.2.1 - 1)))] kr kr ?_
   refine WO_end rfl ?_
   obtain rfl := Option.some.inj hr
   have hL := hSu1 _ rfl
   have st := st.front1
   exact X_env _ kr (X_round k1 (Nat.lt_succ_self _) ⟨(l1, IntKind.wrap .i64 (s1.2.1 - 1), y2.1.1, y2.1.2), a8, c8, a7, c7, m7, hL, rfl, hm, st, r9, r7⟩)
  ·intro hc
   rw [if_neg (not_true hc)] at hr
   refine W_exit ?_
   refine X_then_exit ?_
   obtain rfl := Option.some.inj hr
   have ho := hBu1 _ rfl
   have st := st.front1.front1
   refine X_then_exit ?_
   exact X_env _ kr (K0_u1 _ _ ⟨(s1.1, s1.2.2.1, s1.2.2.2), a5, c5, a6, c6, m4, ho, rfl, hm, st, r5, r6⟩)
end Go.Proofs.YtgggihpbhmbjaaaDoor
