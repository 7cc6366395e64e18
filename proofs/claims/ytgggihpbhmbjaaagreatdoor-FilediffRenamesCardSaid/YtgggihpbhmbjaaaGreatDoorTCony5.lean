/- MADE BY gen.py: plain functions and the proofs that the Go functions compute them. No condition but those of each theorem. -/
import Derived.Test.YtgggihpbhmbjaaaGreatDoorProg
import Derived.Test.YtgggihpbhmbjaaaGreatDoorViewy5
import Derived.Test.YtgggihpbhmbjaaaGreatDoorMapDy5
import Derived.Test.YtgggihpbhmbjaaaGreatDoorLiny5
import Derived.Test.YtgggihpbhmbjaaaGreatDoorTConCy5
namespace Go.Proofs.YtgggihpbhmbjaaaGreatDoor
open Go Go.Dc
def filediff_Apply_L1 (N : Nat) (p1 : List (Int × ByteArray × ByteArray × ByteArray)) (s1 : Int) : Option ((Int) ⊕ ((Unit) ⊕ (Int))) :=
 if (decide (s1 < (List.length p1 : Int))) = true then ((idx p1 s1).bind fun x1 => (filediff_Apply_1 N (x1.1, x1.2.1, x1.2.2.1, x1.2.2.2)).bind fun y2 => if y2 = true then (some (.inr (.inr (s1)))) else (some (.inl (IntKind.wrap .i64 (s1 + 1))))) else (some (.inr (.inl ())))
def filediff_Apply_L2 (N : Nat) (p0 : (List (ByteArray × ByteArray))) (s2 : Int × (Option (List (ByteArray × ByteArray)))) : Option ((Int × (Option (List (ByteArray × ByteArray)))) ⊕ (((Option (List (ByteArray × ByteArray)))))) :=
 if (decide (s2.1 < (List.length p0 : Int))) = true then ((idx p0 s2.1).bind fun x2 => (msetQ s2.2 x2.1 x2.2).bind fun mp1 => some (.inl (IntKind.wrap .i64 (s2.1 + 1), mp1))) else (some (.inr s2.2))
def filediff_Apply_L3 (N : Nat) (p1 : List (Int × ByteArray × ByteArray × ByteArray)) (o4 : (Option (List (ByteArray × ByteArray)))) (s3 : Bool × Bool × Int × (Option (List (ByteArray × Bool))) × (Option (List (ByteArray × Bool)))) : Option ((Bool × Bool × Int × (Option (List (ByteArray × Bool))) × (Option (List (ByteArray × Bool)))) ⊕ ((Bool × Bool × (Option (List (ByteArray × Bool))) × (Option (List (ByteArray × Bool)))))) :=
 if (decide (s3.2.2.1 < (List.length p1 : Int))) = true then (((idx p1 s3.2.2.1).bind fun x3 => (filediff_taken N (x3.1, x3.2.1, x3.2.2.1, x3.2.2.2)).bind fun y3 => (if y3.2 = true then ((if s3.1 = true then (if s3.2.1 = true then (some (true, true)) else (some (true, !((mgetQ o4 y3.1).isSome)))) else (if s3.2.1 = true then (some (((mgetQ s3.2.2.2.2 y3.1).getD false), true)) else (some (((mgetQ s3.2.2.2.2 y3.1).getD false), !((mgetQ o4 y3.1).isSome)))) : Option (Bool × Bool)).bind fun o8 => (msetQ s3.2.2.2.2 y3.1 true).bind fun mp2 => some (o8.1, o8.2, mp2)) else (some (s3.1, s3.2.1, s3.2.2.2.2)) : Option (Bool × Bool × (Option (List (ByteArray × Bool))))).bind fun o7 => (filediff_put N (x3.1, x3.2.1, x3.2.2.1, x3.2.2.2)).bind fun y4 => if y4 = true then ((if o7.1 = true then (some true) else (some ((mgetQ s3.2.2.2.1 x3.2.1).getD false)) : Option (Bool)).bind fun o9 => (msetQ s3.2.2.2.1 x3.2.1 true).bind fun mp3 => some (o9, o7.2.1, mp3, o7.2.2)) else (some (o7.1, o7.2.1, s3.2.2.2.1, o7.2.2)) : Option (Bool × Bool × (Option (List (ByteArray × Bool))) × (Option (List (ByteArray × Bool))))).bind fun o6 => some (.inl (o6.1, o6.2.1, IntKind.wrap .i64 (s3.2.2.1 + 1), o6.2.2.1, o6.2.2.2))) else (some (.inr (s3.1, s3.2.1, s3.2.2.2.1, s3.2.2.2.2)))
def filediff_Apply_L4 (N : Nat) (z1 : Option (ByteArray × ByteArray)) (s4 : (Option (List (ByteArray × ByteArray)))) : Option (((Option (List (ByteArray × ByteArray)))) ⊕ (((Option (List (ByteArray × ByteArray)))))) :=
 (match z1 with | none => some (.inr s4) | some kv1 => (msetQ s4 kv1.1 kv1.2).bind fun mp4 => some (.inl mp4))
def filediff_Apply_L5 (N : Nat) (z2 : Option (ByteArray × Bool)) (s5 : (Option (List (ByteArray × ByteArray)))) : Option (((Option (List (ByteArray × ByteArray)))) ⊕ (((Option (List (ByteArray × ByteArray)))))) :=
 (match z2 with | none => some (.inr s5) | some kv2 => some (.inl (mdelQ s5 kv2.1)))
def filediff_Apply_L6 (N : Nat) (p1 : List (Int × ByteArray × ByteArray × ByteArray)) (o4 : (Option (List (ByteArray × ByteArray)))) (o5 : Bool × Bool × (Option (List (ByteArray × Bool))) × (Option (List (ByteArray × Bool)))) (s6 : Int × (Option (List (ByteArray × ByteArray)))) : Option ((Int × (Option (List (ByteArray × ByteArray)))) ⊕ (((Option (List (ByteArray × ByteArray)))) ⊕ (((List (ByteArray × ByteArray))) × Int))) :=
 if (decide (s6.1 < (List.length p1 : Int))) = true then (((idx p1 s6.1).bind fun x4 => (filediff_put N (x4.1, x4.2.1, x4.2.2.1, x4.2.2.2)).bind fun y5 => if (!y5) = true then (some (.inl s6.2)) else ((if ((mgetQ o4 x4.2.1).isSome) = true then (some (!((mgetQ o5.2.2.2 x4.2.1).getD false))) else (some false) : Option (Bool)).bind fun o14 => if o14 = true then (some (.inr (.inr (.inr ((([] : List (ByteArray × ByteArray)), 19)))))) else ((msetQ s6.2 x4.2.1 x4.2.2.2).bind fun mp5 => if (x4.1 == 4) = true then ((msetQ mp5 x4.2.1 ((mgetQ o4 x4.2.2.1).getD (⟨#[]⟩ : ByteArray))).bind fun mp6 => some (.inl mp6)) else (some (.inl mp5)))) : Option (((Option (List (ByteArray × ByteArray)))) ⊕ ((Int × (Option (List (ByteArray × ByteArray)))) ⊕ (((Option (List (ByteArray × ByteArray)))) ⊕ (((List (ByteArray × ByteArray))) × Int))))).bind fun qu12 => (match qu12 with | .inl o13 => some (.inl (IntKind.wrap .i64 (s6.1 + 1), o13)) | .inr z => some z)) else (some (.inr (.inl s6.2)))
def filediff_Apply_L7 (N : Nat) (z3 : Option (ByteArray × ByteArray)) (s7 : (List (ByteArray × ByteArray))) : Option (((List (ByteArray × ByteArray))) ⊕ (((List (ByteArray × ByteArray))))) :=
 (match z3 with | none => some (.inr s7) | some kv3 => (appendS 32 s7 ([(kv3.1, kv3.2)])).bind fun l1 => some (.inl l1))
def filediff_Apply (N : Nat) (p0 : (List (ByteArray × ByteArray))) (p1 : List (Int × ByteArray × ByteArray × ByteArray)) : Option (((List (ByteArray × ByteArray))) × Int) :=
 ((revision_Check N p0).bind fun y1 => if (y1 != 0) = true then (some true) else (((loopM (filediff_Apply_L1 N p1) N 0).bind fun out1 => (match out1 with | .inl o3 => some (-1) | .inr (z) => some z) : Option (Int)).bind fun o2 => some (decide (o2 ≥ 0))) : Option (Bool)).bind fun o1 => if o1 = true then (some (([] : List (ByteArray × ByteArray)), 1)) else ((loopM (filediff_Apply_L2 N p0) N (0, (some [] : Option (List (ByteArray × ByteArray))))).bind fun o4 => (loopM (filediff_Apply_L3 N p1 o4) N (false, false, 0, (some [] : Option (List (ByteArray × Bool))), (some [] : Option (List (ByteArray × Bool))))).bind fun o5 => if o5.1 = true then (some (([] : List (ByteArray × ByteArray)), 10)) else (if o5.2.1 = true then (some (([] : List (ByteArray × ByteArray)), 18)) else (mrangeK (filediff_Apply_L4 N) (Option.getD o4 []) (some [] : Option (List (ByteArray × ByteArray))) (fun o10 => mrangeK (filediff_Apply_L5 N) (Option.getD o5.2.2.2 []) o10 (fun o11 => (loopM (filediff_Apply_L6 N p1 o4 o5) N (0, o11)).bind fun out6 => (match out6 with | .inl o12 => mrangeK (filediff_Apply_L7 N) (Option.getD o12 []) ([] : List (ByteArray × ByteArray)) (fun o15 => (slices_SortFunc_api_File_api_File_S_filediff_Apply_2 N o15).bind fun y6 => (revision_Check N y6).bind fun y7 => if (y7 != 0) = true then (some (([] : List (ByteArray × ByteArray)), 1)) else (some (y6, 0))) | .inr (z) => some z))))))
set_option maxHeartbeats 4000000 in
set_option maxRecDepth 100000 in
theorem filediff_Apply_ok {N : Nat} {m : Mem} {own : List Piece} {w : World} {p0 : (List (ByteArray × ByteArray))} {p1 : List (Int × ByteArray × ByteArray × ByteArray)} {a1 : Option Addr} {c1 : Nat} {a2 : Option Addr} {c2 : Nat} {r : ((List (ByteArray × ByteArray))) × Int} (st : St m (own) w) (r1 : RepS (cPair cStr cStr) m a1 c1 p0) (r2 : RepS (cPair (cInt .i64) (cPair cStr (cPair cStr cStr))) m a2 c2 p1) (hr : filediff_Apply N p0 p1 = some r) : Calls Tryz.prog 30 #[.agg #[.slice a1 (List.length p0) c1], .slice a2 (List.length p1) c2] w fun e w' => ∃ (ra1 : Option Addr) (rc1 : Nat) (m' : Mem), e = .returned (.tuple #[.agg #[.slice ra1 (List.length r.1) rc1], .int .i64 r.2]) ∧ m.le m' ∧ St m' (.room ra1 (List.length r.1) rc1 74 2 :: own) w' ∧ RepS (cPair cStr cStr) m' ra1 rc1 r.1 := by
 unfold filediff_Apply at hr
 have hm := m.le_refl
 refine W_calls Tryz.func30 rfl Tryz.ntmps30 [(0, .agg #[.slice a1 (List.length p0) c1]), (1, .slice a2 (List.length p1) c2)] kr rfl ?_
 refine W_sr (WO_one rfl (One_box (d := 2) (e := 25) (x := (.tmp 0)) (.agg #[.slice a1 (List.length p0) c1]) kr rfl kr st ?_))
 clear st
 intro b1 m1 w1 hle1 st hb1
 have hm := Mem.le_trans hm hle1
 have r1 := r1.mono hle1
 have r2 := r2.mono hle1
 refine WO_one rfl (One_alloc (d := 4) (e := 25) (.agg #[.slice none 0 0]) kr rfl kr st ?_)
 clear st
 intro b2 w2 st
 refine WO_seg 1 [] kr kr ?_
 refine WO_et rfl (W_seq ?_)
 refine W_sr ?_
 replace ⟨o1, hr, hrK⟩ := bindS hr
 refine WO_cut (j := 7) (fun L' w' => ∃ (m2 : Mem), L' = [(1, .slice a2 (List.length p1) c2), (2, .pointer (some ⟨b1, 0, none⟩)), (4, .pointer (some ⟨b2, 0, none⟩)), (36, .bool o1)] ∧ m.le m2 ∧ St m2 (.blk b2 (.cells #[.slice none (List.length ([] : List (ByteArray × ByteArray))) 0] 25 (0, 0)) :: own) w' ∧ RepS (cPair (cInt .i64) (cPair cStr (cPair cStr cStr))) m2 a2 c2 p1 ∧ MRow m2 b1 0 [.slice a1 (List.length p0) c1] ∧ RepS (cPair cStr cStr) m2 a1 c1 p0) ?_ ?_
 ·clear hr st
  have hr := hrK
  clear hrK
  rintro _ w3 ⟨m2, rfl, hm, st, r2, hb1, r1⟩
  refine WO_et rfl (W_cond o1 kr ?_ ?_)
  ·intro hc
   rw [if_pos hc] at hr
   refine W_sr (WO_seg 1 [(37, .agg #[.slice none (List.length ([] : List (ByteArray × ByteArray))) 0])] kr kr ?_)
   refine WO_one rfl (One_store (t := 25) (x := (.tmp 4)) (y := (.tmp 37)) (v := .agg #[.slice none (List.length ([] : List (ByteArray × ByteArray))) 0]) (c' := #[.slice none (List.length ([] : List (ByteArray × ByteArray))) 0]) kr (ev (.pointer (some ⟨b2, 0, none⟩))) (ev (.agg #[.slice none (List.length ([] : List (ByteArray × ByteArray))) 0])) st kr kr ?_)
   clear st
   intro w9 st
   refine WO_seg 1 [(5, .int .i64 1)] kr kr ?_
   refine WO_et rfl (W_ret ?_)
   refine X_then_ret ?_
   obtain rfl := Option.some.inj hr
   refine X_ret [.cell 4 25, .tmp 5] [.agg #[.slice none (List.length ([] : List (ByteArray × ByteArray))) 0], .int .i64 1] rfl (ResAll.cons (ResAt.blk (v := .agg #[.slice none (List.length ([] : List (ByteArray × ByteArray))) 0]) (o := 0) kr st.head kr) (ResAll.cons (ResAt.tmp kr) ResAll.nil)) ?_
   have st := st.nilroom 74 2
   have st := st.front1
   have st := st.tail
   exact ⟨none, 0, m2, rfl, hm, st, (RepS.nil _ _)⟩
  ·intro hc
   rw [if_neg (not_true hc)] at hr
   refine W_skip ?_
   refine X_then ?_
   refine W_sr (WO_one rfl (One_makeMap (d := 38) (t := 136) kr rfl st ?_))
   clear st
   intro b4 w10 st
   refine WO_seg 1 [(6, .map (some b4))] kr kr ?_
   refine WO_et rfl (W_seq ?_)
   refine W_sr (WO_seg 1 [(39, .pointer (some ⟨b1, 0, none⟩))] kr kr ?_)
   refine WO_one rfl (One_load_row (d := 40) (t := 23) (x := (.tmp 39)) (.slice a1 (List.length p0) c1) kr rfl (ev (.pointer (some ⟨b1, 0, none⟩))) st hb1 kr ?_)
   refine WO_seg 2 [(41, .int .i64 (List.length p0 : Int)), (42, .int .i64 0)] kr kr ?_
   refine WO_et rfl (W_block ?_)
   replace ⟨out2, hr, hrKu3⟩ := bindS hr
   refine W_cut (.exit 0) (fun L' w' => ∃ (o4 : (Option (List (ByteArray × ByteArray)))) (es1 : Array MapEntry) (ck1 : Nat) (m8 : Mem), o4 = out2 ∧ L' = [(1, .slice a2 (List.length p1) c2), (4, .pointer (some ⟨b2, 0, none⟩)), (6, .map (some b4))] ∧ m.le m8 ∧ St m8 (.blk b2 (.cells #[.slice none (List.length ([] : List (ByteArray × ByteArray))) 0] 25 (0, 0)) :: mpiece (some b4) es1 ck1 :: own) w' ∧ RepS (cPair (cInt .i64) (cPair cStr (cPair cStr cStr))) m8 a2 c2 p1 ∧ MapQ (fun s : ByteArray => Value.string s) cStr false m8 (some b4) es1 ck1 o4) ?_ ?_
   ·clear hr st
    rintro _ w11 ⟨o4, es1, ck1, m8, rfl, rfl, hm, st, r2, r3⟩
    have hr := hrKu3
    clear hrKu3
    refine X_block_eq ?_
    refine X_then ?_
    refine W_sr (WO_one rfl (One_makeMap (d := 52) (t := 137) kr rfl st ?_))
    clear st
    intro b7 w16 st
    refine WO_one rfl (One_makeMap (d := 53) (t := 137) kr rfl st ?_)
    clear st
    intro b8 w17 st
    refine WO_seg 2 [(9, .map (some b7)), (10, .map (some b8))] kr kr ?_
    refine WO_et rfl (W_sr ?_)
    refine WO_seg 2 [(11, .bool false), (12, .bool false)] kr kr ?_
    refine WO_et rfl (W_seq ?_)
    refine W_sr (WO_seg 3 [(54, .slice a2 (List.length p1) c2), (55, .int .i64 (List.length p1 : Int)), (56, .int .i64 0)] kr kr ?_)
    refine WO_et rfl (W_block ?_)
    replace ⟨out3, hr, hrKu4⟩ := bindS hr
    refine W_cut (.exit 2) (fun L' w' => ∃ (o5 : Bool × Bool × (Option (List (ByteArray × Bool))) × (Option (List (ByteArray × Bool)))) (es4 : Array MapEntry) (ck4 : Nat) (es5 : Array MapEntry) (ck5 : Nat) (m10 : Mem), o5 = out3 ∧ L' = [(1, .slice a2 (List.length p1) c2), (4, .pointer (some ⟨b2, 0, none⟩)), (6, .map (some b4)), (9, .map (some b7)), (11, .bool o5.1), (12, .bool o5.2.1)] ∧ m.le m10 ∧ St m10 (.blk b2 (.cells #[.slice none (List.length ([] : List (ByteArray × ByteArray))) 0] 25 (0, 0)) :: mpiece (some b8) es4 ck4 :: mpiece (some b7) es5 ck5 :: mpiece (some b4) es1 ck1 :: own) w' ∧ RepS (cPair (cInt .i64) (cPair cStr (cPair cStr cStr))) m10 a2 c2 p1 ∧ MapQ (fun s : ByteArray => Value.string s) cBool false m10 (some b8) es4 ck4 o5.2.2.1 ∧ MapQ (fun s : ByteArray => Value.string s) cBool false m10 (some b7) es5 ck5 o5.2.2.2 ∧ MapQ (fun s : ByteArray => Value.string s) cStr false m10 (some b4) es1 ck1 o4) ?_ ?_
    ·clear hr st
     rintro _ w18 ⟨o5, es4, ck4, es5, ck5, m10, rfl, rfl, hm, st, r2, r6, r7, r3⟩
     have hr := hrKu4
     clear hrKu4
     refine X_block_eq ?_
     refine X_then ?_
     refine W_seq ?_
     refine W_block ?_
     refine W_sr (WO_seg 2 [(98, .bool o5.1)] kr kr ?_)
     refine WO_et rfl (W_cond o5.1 kr ?_ ?_)
     ·intro hc
      rw [if_pos hc] at hr
      refine W_sr (WO_seg 1 [(100, .agg #[.slice none (List.length ([] : List (ByteArray × ByteArray))) 0])] kr kr ?_)
      refine WO_one rfl (One_store (t := 25) (x := (.tmp 4)) (y := (.tmp 100)) (v := .agg #[.slice none (List.length ([] : List (ByteArray × ByteArray))) 0]) (c' := #[.slice none (List.length ([] : List (ByteArray × ByteArray))) 0]) kr (ev (.pointer (some ⟨b2, 0, none⟩))) (ev (.agg #[.slice none (List.length ([] : List (ByteArray × ByteArray))) 0])) st kr kr ?_)
      clear st
      intro w30 st
      refine WO_seg 1 [(5, .int .i64 10)] kr kr ?_
      refine WO_et rfl (W_ret ?_)
      refine X_block_ret ?_
      refine X_then_ret ?_
      obtain rfl := Option.some.inj hr
      refine X_ret [.cell 4 25, .tmp 5] [.agg #[.slice none (List.length ([] : List (ByteArray × ByteArray))) 0], .int .i64 10] rfl (ResAll.cons (ResAt.blk (v := .agg #[.slice none (List.length ([] : List (ByteArray × ByteArray))) 0]) (o := 0) kr st.head kr) (ResAll.cons (ResAt.tmp kr) ResAll.nil)) ?_
      have st := st.nilroom 74 2
      have st := st.front1
      have st := st.tail
      have st := st.front1
      have st := st.tail
      have st := st.front1
      have st := st.tail
      have st := st.front1
      have st := st.tail
      exact ⟨none, 0, m10, rfl, hm, st, (RepS.nil _ _)⟩
     ·intro hc
      rw [if_neg (not_true hc)] at hr
      refine W_sr (WO_seg 2 [(101, .bool o5.2.1)] kr kr ?_)
      refine WO_et rfl (W_cond o5.2.1 kr ?_ ?_)
      ·intro hc
       rw [if_pos hc] at hr
       refine W_sr (WO_seg 1 [(103, .agg #[.slice none (List.length ([] : List (ByteArray × ByteArray))) 0])] kr kr ?_)
       refine WO_one rfl (One_store (t := 25) (x := (.tmp 4)) (y := (.tmp 103)) (v := .agg #[.slice none (List.length ([] : List (ByteArray × ByteArray))) 0]) (c' := #[.slice none (List.length ([] : List (ByteArray × ByteArray))) 0]) kr (ev (.pointer (some ⟨b2, 0, none⟩))) (ev (.agg #[.slice none (List.length ([] : List (ByteArray × ByteArray))) 0])) st kr kr ?_)
       clear st
       intro w31 st
       refine WO_seg 1 [(5, .int .i64 18)] kr kr ?_
       refine WO_et rfl (W_ret ?_)
       refine X_block_ret ?_
       refine X_then_ret ?_
       obtain rfl := Option.some.inj hr
       refine X_ret [.cell 4 25, .tmp 5] [.agg #[.slice none (List.length ([] : List (ByteArray × ByteArray))) 0], .int .i64 18] rfl (ResAll.cons (ResAt.blk (v := .agg #[.slice none (List.length ([] : List (ByteArray × ByteArray))) 0]) (o := 0) kr st.head kr) (ResAll.cons (ResAt.tmp kr) ResAll.nil)) ?_
       have st := st.nilroom 74 2
       have st := st.front1
       have st := st.tail
       have st := st.front1
       have st := st.tail
       have st := st.front1
       have st := st.tail
       have st := st.front1
       have st := st.tail
       exact ⟨none, 0, m10, rfl, hm, st, (RepS.nil _ _)⟩
      ·intro hc
       rw [if_neg (not_true hc)] at hr
       refine W_skip ?_
       refine X_block ?_
       refine X_then ?_
       refine W_sr (WO_one rfl (One_makeMap (d := 104) (t := 136) kr rfl st ?_))
       clear st
       intro b11 w32 st
       refine WO_seg 1 [(19, .map (some b11))] kr kr ?_
       refine WO_et rfl (W_seq ?_)
       refine W_sr (WO_seg 1 [(105, .map (some b4))] kr kr ?_)
       have st := st.front4
       refine WO_one rfl (One_range (ek := (fun s : ByteArray => Value.string s)) (c := cStr) (agg := false) (d := 106) (t := 136) (kt := 9) (et := 9) (x := (.tmp 105)) kr rfl (ev (.map (some b4))) kr st r3 ?_)
       clear st
       intro b12 w33 st hi1
       refine WO_et rfl (W_block ?_)
       obtain ⟨PKu9, hPKu9, hr⟩ := LoopP.start hr
       refine W_cut (.exit 5) (fun L' w' => ∃ (o10 : (Option (List (ByteArray × ByteArray)))) (es13 : Array MapEntry) (ck13 : Nat) (sn1 : Array Nat) (rem1 : List (ByteArray × ByteArray)) (m18 : Mem), PKu9 o10 ∧ L' = [(1, .slice a2 (List.length p1) c2), (4, .pointer (some ⟨b2, 0, none⟩)), (6, .map (some b4)), (9, .map (some b7)), (19, .map (some b11))] ∧ m.le m18 ∧ St m18 (.blk b2 (.cells #[.slice none (List.length ([] : List (ByteArray × ByteArray))) 0] 25 (0, 0)) :: mpiece (some b4) es1 ck1 :: mpiece (some b11) es13 ck13 :: mpiece (some b8) es4 ck4 :: mpiece (some b7) es5 ck5 :: itpiece b12 (some b4) ck1 sn1 :: own) w' ∧ RepS (cPair (cInt .i64) (cPair cStr (cPair cStr cStr))) m18 a2 c2 p1 ∧ MapQ (fun s : ByteArray => Value.string s) cStr false m18 (some b4) es1 ck1 o4 ∧ MapQ (fun s : ByteArray => Value.string s) cStr false m18 (some b11) es13 ck13 o10 ∧ MapQ (fun s : ByteArray => Value.string s) cBool false m18 (some b8) es4 ck4 o5.2.2.1 ∧ MapQ (fun s : ByteArray => Value.string s) cBool false m18 (some b7) es5 ck5 o5.2.2.2 ∧ ItR (fun s : ByteArray => Value.string s) cStr false m18 es1 sn1 rem1) ?_ ?_
       ·clear hr st
        rintro _ w34 ⟨o10, es13, ck13, sn1, rem1, m18, hPou9, rfl, hm, st, r2, r3, r15, r6, r7, hi2⟩
        have hr := hPKu9 _ hPou9
        clear hPou9 hPKu9
        try dsimp only at hr
        refine X_block_eq ?_
        refine X_then ?_
        refine W_seq ?_
        refine W_sr (WO_seg 1 [(115, .map (some b7))] kr kr ?_)
        have st := st.front4
        refine WO_one rfl (One_range (ek := (fun s : ByteArray => Value.string s)) (c := cBool) (agg := false) (d := 116) (t := 137) (kt := 9) (et := 4) (x := (.tmp 115)) kr rfl (ev (.map (some b7))) kr st r7 ?_)
        clear st
        intro b13 w39 st hi5
        refine WO_end rfl ?_
        have st := st.front6
        have st := st.tail
        refine X_then ?_
        refine W_block ?_
        obtain ⟨PKu10, hPKu10, hr⟩ := LoopP.start hr
        refine W_cut (.exit 7) (fun L' w' => ∃ (o11 : (Option (List (ByteArray × ByteArray)))) (es16 : Array MapEntry) (ck16 : Nat) (sn4 : Array Nat) (rem4 : List (ByteArray × Bool)) (m20 : Mem), PKu10 o11 ∧ L' = [(1, .slice a2 (List.length p1) c2), (4, .pointer (some ⟨b2, 0, none⟩)), (6, .map (some b4)), (9, .map (some b7)), (19, .map (some b11))] ∧ m.le m20 ∧ St m20 (.blk b2 (.cells #[.slice none (List.length ([] : List (ByteArray × ByteArray))) 0] 25 (0, 0)) :: mpiece (some b7) es5 ck5 :: mpiece (some b4) es1 ck1 :: mpiece (some b11) es16 ck16 :: mpiece (some b8) es4 ck4 :: itpiece b13 (some b7) ck5 sn4 :: own) w' ∧ RepS (cPair (cInt .i64) (cPair cStr (cPair cStr cStr))) m20 a2 c2 p1 ∧ MapQ (fun s : ByteArray => Value.string s) cBool false m20 (some b7) es5 ck5 o5.2.2.2 ∧ MapQ (fun s : ByteArray => Value.string s) cStr false m20 (some b4) es1 ck1 o4 ∧ MapQ (fun s : ByteArray => Value.string s) cStr false m20 (some b11) es16 ck16 o11 ∧ MapQ (fun s : ByteArray => Value.string s) cBool false m20 (some b8) es4 ck4 o5.2.2.1 ∧ ItR (fun s : ByteArray => Value.string s) cBool false m20 es5 sn4 rem4) ?_ ?_
        ·clear hr st
         rintro _ w40 ⟨o11, es16, ck16, sn4, rem4, m20, hPou10, rfl, hm, st, r2, r7, r3, r18, r6, hi6⟩
         have hr := hPKu10 _ hPou10
         clear hPou10 hPKu10
         try dsimp only at hr
         refine X_block_eq ?_
         refine X_then ?_
         refine W_seq ?_
         refine W_sr (WO_seg 3 [(123, .slice a2 (List.length p1) c2), (124, .int .i64 (List.length p1 : Int)), (125, .int .i64 0)] kr kr ?_)
         refine WO_end rfl ?_
         have st := st.front5
         have st := st.tail
         refine X_then ?_
         refine W_block ?_
         replace ⟨out6, hr, hrKu11⟩ := bindS hr
         refine W_cut (.exit 9) (fun L' w' => ∃ (o12 : (Option (List (ByteArray × ByteArray)))) (es19 : Array MapEntry) (ck18 : Nat) (m22 : Mem), (.inl o12) = out6 ∧ L' = [(4, .pointer (some ⟨b2, 0, none⟩)), (19, .map (some b11))] ∧ m.le m22 ∧ St m22 (.blk b2 (.cells #[.slice none (List.length ([] : List (ByteArray × ByteArray))) 0] 25 (0, 0)) :: mpiece (some b7) es5 ck5 :: mpiece (some b4) es1 ck1 :: mpiece (some b11) es19 ck18 :: mpiece (some b8) es4 ck4 :: own) w' ∧ MapQ (fun s : ByteArray => Value.string s) cBool false m22 (some b7) es5 ck5 o5.2.2.2 ∧ MapQ (fun s : ByteArray => Value.string s) cStr false m22 (some b4) es1 ck1 o4 ∧ MapQ (fun s : ByteArray => Value.string s) cStr false m22 (some b11) es19 ck18 o12 ∧ MapQ (fun s : ByteArray => Value.string s) cBool false m22 (some b8) es4 ck4 o5.2.2.1) ?_ ?_
         ·clear hr st
          rintro _ w45 ⟨o12, es19, ck18, m22, rfl, rfl, hm, st, r7, r3, r21, r6⟩
          have hr := hrKu11
          clear hrKu11
          dsimp only at hr
          refine X_block_eq ?_
          refine X_then ?_
          refine W_sr (WO_one rfl (One_alloc (d := 27) (e := 25) (.agg #[.slice none 0 0]) kr rfl kr st ?_))
          clear st
          intro b16 w55 st
          refine WO_et rfl (W_seq ?_)
          refine W_sr (WO_seg 1 [(164, .map (some b11))] kr kr ?_)
          have st := st.front4
          refine WO_one rfl (One_range (ek := (fun s : ByteArray => Value.string s)) (c := cStr) (agg := false) (d := 165) (t := 136) (kt := 9) (et := 9) (x := (.tmp 164)) kr rfl (ev (.map (some b11))) kr st r21 ?_)
          clear st
          intro b17 w56 st hi9
          refine WO_et rfl (W_block ?_)
          have st := room_opc (f := (fun x : ByteArray × ByteArray => ([.string x.1, .string x.2] : List Value))) (st.nilroom 74 2)
          obtain ⟨PKu14, hPKu14, hr⟩ := LoopP.start hr
          refine W_cut (.exit 11) (fun L' w' => ∃ (o15 : (List (ByteArray × ByteArray))) (a3 : Option Addr) (c3 : Nat) (T1 : List Value) (sn7 : Array Nat) (rem7 : List (ByteArray × ByteArray)) (m27 : Mem), PKu14 o15 ∧ L' = [(4, .pointer (some ⟨b2, 0, none⟩)), (27, .pointer (some ⟨b16, 0, none⟩))] ∧ m.le m27 ∧ St m27 (.blk b16 (.cells #[.slice a3 (List.length o15) c3] 25 (0, 0)) :: .blk b2 (.cells #[.slice none (List.length ([] : List (ByteArray × ByteArray))) 0] 25 (0, 0)) :: mpiece (some b11) es19 ck18 :: mpiece (some b7) es5 ck5 :: mpiece (some b4) es1 ck1 :: mpiece (some b8) es4 ck4 :: opc a3 (acellsM (fun x : ByteArray × ByteArray => ([.string x.1, .string x.2] : List Value)) o15 T1) 74 :: itpiece b17 (some b11) ck18 sn7 :: own) w' ∧ MapQ (fun s : ByteArray => Value.string s) cStr false m27 (some b11) es19 ck18 o12 ∧ MapQ (fun s : ByteArray => Value.string s) cBool false m27 (some b7) es5 ck5 o5.2.2.2 ∧ MapQ (fun s : ByteArray => Value.string s) cStr false m27 (some b4) es1 ck1 o4 ∧ MapQ (fun s : ByteArray => Value.string s) cBool false m27 (some b8) es4 ck4 o5.2.2.1 ∧ OAS a3 (List.length o15) c3 2 T1 ∧ ItR (fun s : ByteArray => Value.string s) cStr false m27 es19 sn7 rem7) ?_ ?_
          ·clear hr st
           rintro _ w57 ⟨o15, a3, c3, T1, sn7, rem7, m27, hPou14, rfl, hm, st, r21, r7, r3, r6, hs1, hi10⟩
           have hr := hPKu14 _ hPou14
           clear hPou14 hPKu14
           try dsimp only at hr
           refine X_block_eq ?_
           refine X_then ?_
           refine W_sr (WO_seg 1 [(179, .pointer (some ⟨b16, 0, none⟩))] kr kr ?_)
           refine WO_one rfl (One_load_own (d := 180) (t := 23) (x := (.tmp 179)) (.slice a3 (List.length o15) c3) kr rfl (ev (.pointer (some ⟨b16, 0, none⟩))) st.head kr ?_)
           replace ⟨y6, hx23, hr⟩ := bindS hr
           have st := st.front6
           refine WO_one rfl (One_fn 181 89 #[.slice a3 (List.length o15) c3, .func (.func 90) #[] #[]] kr rfl ?_)
           refine (slices_SortFunc_api_File_api_File_own_filediff_Apply_2 st hs1 rfl hx23).mono ?_
           clear st
           rintro _ w64 ⟨rfl, st⟩
           refine ⟨_, rfl, ?_⟩
           have hn1 := ((slices_SortFunc_api_File_api_File_len_filediff_Apply_2 hx23).trans rfl)
           refine WO_end rfl ?_
           have st := st.front7
           have st := st.tail
           refine X_then ?_
           refine W_seq ?_
           refine W_sr (WO_one rfl (One_load_own (d := 182) (t := 25) (x := (.tmp 27)) (.agg #[.slice a3 (List.length o15) c3]) kr rfl (ev (.pointer (some ⟨b16, 0, none⟩))) st.tail.head kr ?_))
           obtain ⟨m31, hle9, st, r28⟩ := St.freezeM (c := (cPair cStr cStr)) (f := (fun x : ByteArray × ByteArray => ([.string x.1, .string x.2] : List Value))) st hs1 hn1 (fun _ => rfl) (fun _ x => ⟨_, _, rfl, rfl, rfl⟩)
           have hm := Mem.le_trans hm hle9
           have r21 := r21.mono hle9
           have r7 := r7.mono hle9
           have r3 := r3.mono hle9
           have r6 := r6.mono hle9
           have st : St m31 (.room a3 (List.length y6) c3 74 2 :: .blk b16 (.cells #[.slice a3 (List.length y6) c3] 25 (0, 0)) :: .blk b2 (.cells #[.slice none (List.length ([] : List (ByteArray × ByteArray))) 0] 25 (0, 0)) :: mpiece (some b11) es19 ck18 :: mpiece (some b7) es5 ck5 :: mpiece (some b4) es1 ck1 :: mpiece (some b8) es4 ck4 :: own) w64 := by (try simp only [hn1]); (try simp only [hn1] at st); exact st
           refine WO_env [(4, .pointer (some ⟨b2, 0, none⟩)), (27, .pointer (some ⟨b16, 0, none⟩)), (182, .agg #[.slice a3 (List.length y6) c3])] (by (try simp only [hn1]); kernel_rfl) ?_
           replace ⟨y7, hx24, hr⟩ := bindS hr
           refine WO_one rfl (One_fn 183 75 #[.agg #[.slice a3 (List.length y6) c3]] kr rfl ?_)
           refine (revision_Check_ok st r28 hx24).mono ?_
           clear st
           rintro _ w65 ⟨m32, rfl, hle10, st⟩
           refine ⟨_, rfl, ?_⟩
           have hm := Mem.le_trans hm hle10
           have r28 := r28.mono hle10
           have r21 := r21.mono hle10
           have r7 := r7.mono hle10
           have r3 := r3.mono hle10
           have r6 := r6.mono hle10
           refine WO_seg 1 [(184, .bool (y7 != 0))] kr kr ?_
           refine WO_et rfl (W_cond (y7 != 0) kr ?_ ?_)
           ·intro hc
            rw [if_pos hc] at hr
            refine W_sr (WO_seg 1 [(185, .agg #[.slice none (List.length ([] : List (ByteArray × ByteArray))) 0])] kr kr ?_)
            have st := st.front2
            refine WO_one rfl (One_store (t := 25) (x := (.tmp 4)) (y := (.tmp 185)) (v := .agg #[.slice none (List.length ([] : List (ByteArray × ByteArray))) 0]) (c' := #[.slice none (List.length ([] : List (ByteArray × ByteArray))) 0]) kr (ev (.pointer (some ⟨b2, 0, none⟩))) (ev (.agg #[.slice none (List.length ([] : List (ByteArray × ByteArray))) 0])) st kr kr ?_)
            clear st
            intro w66 st
            refine WO_seg 1 [(5, .int .i64 1)] kr kr ?_
            refine WO_et rfl (W_ret ?_)
            refine X_then_ret ?_
            obtain rfl := Option.some.inj hr
            refine X_ret [.cell 4 25, .tmp 5] [.agg #[.slice none (List.length ([] : List (ByteArray × ByteArray))) 0], .int .i64 1] rfl (ResAll.cons (ResAt.blk (v := .agg #[.slice none (List.length ([] : List (ByteArray × ByteArray))) 0]) (o := 0) kr st.head kr) (ResAll.cons (ResAt.tmp kr) ResAll.nil)) ?_
            have st := st.nilroom 74 2
            have st := st.front1
            have st := st.tail
            have st := st.front1
            have st := st.tail
            have st := st.front1
            have st := st.tail
            have st := st.front1
            have st := st.tail
            have st := st.front1
            have st := st.tail
            have st := st.front1
            have st := st.tail
            have st := st.front1
            have st := st.tail
            exact ⟨none, 0, m32, rfl, hm, st, (RepS.nil _ _)⟩
           ·intro hc
            rw [if_neg (not_true hc)] at hr
            refine W_skip ?_
            refine X_then ?_
            refine W_sr (WO_one rfl (One_load_own (d := 186) (t := 25) (x := (.tmp 27)) (.agg #[.slice a3 (List.length y6) c3]) kr rfl (ev (.pointer (some ⟨b16, 0, none⟩))) st.tail.head kr ?_))
            have st := st.front2
            refine WO_one rfl (One_store (t := 25) (x := (.tmp 4)) (y := (.tmp 186)) (v := .agg #[.slice a3 (List.length y6) c3]) (c' := #[.slice a3 (List.length y6) c3]) kr (ev (.pointer (some ⟨b2, 0, none⟩))) (ev (.agg #[.slice a3 (List.length y6) c3])) st kr kr ?_)
            clear st
            intro w67 st
            refine WO_seg 1 [(5, .int .i64 0)] kr kr ?_
            refine WO_et rfl (W_ret ?_)
            obtain rfl := Option.some.inj hr
            refine X_ret [.cell 4 25, .tmp 5] [.agg #[.slice a3 (List.length y6) c3], .int .i64 0] rfl (ResAll.cons (ResAt.blk (v := .agg #[.slice a3 (List.length y6) c3]) (o := 0) kr st.head kr) (ResAll.cons (ResAt.tmp kr) ResAll.nil)) ?_
            have st := st.tail
            have st := st.front1
            have st := st.tail
            have st := st.front1
            have st := st.tail
            have st := st.front1
            have st := st.tail
            have st := st.front1
            have st := st.tail
            have st := st.front1
            have st := st.tail
            exact ⟨a3, c3, m32, rfl, hm, st, r28⟩
          intro K11_u14
          have st := st.front1.front1.front7.front7.front7.front5.front7.front7
          refine W_env _ kr (W_loop (fun k7 L' w' => ∃ (s7 : (List (ByteArray × ByteArray))) (a4 : Option Addr) (c4 : Nat) (T2 : List Value) (sn8 : Array Nat) (rem8 : List (ByteArray × ByteArray)) (m28 : Mem), LoopP (filediff_Apply_L7 N) rem8 s7 PKu14 k7 ∧ L' = [(4, .pointer (some ⟨b2, 0, none⟩)), (27, .pointer (some ⟨b16, 0, none⟩)), (165, .pointer (some ⟨b17, 0, none⟩))] ∧ m.le m28 ∧ St m28 (.blk b16 (.cells #[.slice a4 (List.length s7) c4] 25 (0, 0)) :: .blk b2 (.cells #[.slice none (List.length ([] : List (ByteArray × ByteArray))) 0] 25 (0, 0)) :: mpiece (some b11) es19 ck18 :: mpiece (some b7) es5 ck5 :: mpiece (some b4) es1 ck1 :: mpiece (some b8) es4 ck4 :: opc a4 (acellsM (fun x : ByteArray × ByteArray => ([.string x.1, .string x.2] : List Value)) s7 T2) 74 :: itpiece b17 (some b11) ck18 sn8 :: own) w' ∧ MapQ (fun s : ByteArray => Value.string s) cStr false m28 (some b11) es19 ck18 o12 ∧ MapQ (fun s : ByteArray => Value.string s) cBool false m28 (some b7) es5 ck5 o5.2.2.2 ∧ MapQ (fun s : ByteArray => Value.string s) cStr false m28 (some b4) es1 ck1 o4 ∧ MapQ (fun s : ByteArray => Value.string s) cBool false m28 (some b8) es4 ck4 o5.2.2.1 ∧ OAS a4 (List.length s7) c4 2 T2 ∧ ItR (fun s : ByteArray => Value.string s) cStr false m28 es19 sn8 rem8) (List.length (Option.getD o12 []) + 1) ⟨([] : List (ByteArray × ByteArray)), none, 0, [], #[], (Option.getD o12 []), m22, hr, rfl, hm, st, r21, r7, r3, r6, (OAS.nil 2), hi9⟩ ?_)
          clear st hr
          rintro k7 _ w58 ⟨s7, a4, c4, T2, sn8, rem8, m28, hL, rfl, hm, st, r21, r7, r3, r6, hs2, hi11⟩
          rcases k7 with _ | k7
          ·exact LoopP.zero hL
          ·refine W_sr ?_
           have st := st.front2.front7
           refine WO_one rfl (One_next (ek := (fun s : ByteArray => Value.string s)) (c := cStr) (agg := false) (d := 166) (x := (.tmp 165)) kr rfl (ev (.pointer (some ⟨b17, 0, none⟩))) st r21 hi11 ?_ ?_)
           ·intro hx20 w59 st
            obtain ⟨qu14, hr, hSu14, hBu14⟩ := hL.nil hx20
            clear hL
            unfold filediff_Apply_L7 at hr
            dsimp only at hr
            refine WO_seg 1 [(167, .bool false)] kr kr ?_
            refine WO_et rfl (W_seq ?_)
            refine W_cond false kr (fun h => Bool.noConfusion h) ?_
            intro _
            refine W_exit ?_
            refine X_then_exit ?_
            obtain rfl := Option.some.inj hr
            have ho := hBu14 _ rfl
            have st := st.front7.front7.front7.front7.front5.front7.front7
            refine X_then_exit ?_
            exact X_env _ kr (K11_u14 _ _ ⟨s7, a4, c4, T2, sn8, rem8, m28, ho, rfl, hm, st, r21, r7, r3, r6, hs2, hi11⟩)
           ·rintro kv3 rem9 sn9 cs13 w60 hx21 rfl st hi12 he3
            obtain ⟨qu14, hr, hSu14, hBu14⟩ := hL.cons hx21
            clear hL
            unfold filediff_Apply_L7 at hr
            dsimp only at hr
            refine WO_seg 1 [(167, .bool true)] kr kr ?_
            refine WO_et rfl (W_seq ?_)
            refine W_cond true kr ?_ (fun h => Bool.noConfusion h)
            intro _
            refine W_skip ?_
            refine X_then ?_
            refine W_block ?_
            refine W_sr ?_
            have st := st.front1.front1
            refine WO_one rfl (One_entry (ek := (fun s : ByteArray => Value.string s)) (c := cStr) (agg := false) (d := 168) (x := (.tmp 165)) (K := .string kv3.1) (V := .string kv3.2) kr rfl (ev (.pointer (some ⟨b17, 0, none⟩))) st r21 he3 ?_)
            refine WO_seg 4 [(28, .string kv3.1), (29, .string kv3.2)] kr kr ?_
            refine WO_et rfl (W_region ?_)
            refine WO_seg 1 [(171, .pointer (some ⟨b16, 0, none⟩))] kr kr ?_
            refine WO_one rfl (One_load_own (d := 172) (t := 23) (x := (.tmp 171)) (.slice a4 (List.length s7) c4) kr rfl (ev (.pointer (some ⟨b16, 0, none⟩))) st.tail.tail.head kr ?_)
            refine WO_seg 3 [(175, .agg #[.string kv3.1, .string kv3.2])] kr kr ?_
            refine WO_one rfl (One_buildSlice (d := 176) (t := 23) (e := 74) (len := 1) (parts := #[(0, (.tmp 175))]) (cPair cStr cStr) (xs := [(kv3.1, kv3.2)]) [.string kv3.1, .string kv3.2] kr rfl (fun _ => buildCells_run kr _) rfl rfl st ⟨[.string kv3.1, .string kv3.2], _, rfl, ⟨_, _, rfl, rfl, rfl⟩, rfl⟩ ?_)
            clear st
            intro b18 m29 w61 hle7 st r26
            have hm := Mem.le_trans hm hle7
            have hi12 := hi12.mono hle7
            have r21 := r21.mono hle7
            have r7 := r7.mono hle7
            have r3 := r3.mono hle7
            have r6 := r6.mono hle7
            have st := st.front8
            replace ⟨l1, hx22, hr⟩ := bindS hr
            refine WO_one rfl (One_appendM (d := 177) (t := 23) (u := 23) (e := 74) (by_ := 32) (x := (.tmp 172)) (y := (.tmp 176)) (c := (cPair cStr cStr)) (f := (fun x : ByteArray × ByteArray => ([.string x.1, .string x.2] : List Value))) (l := s7) (fun _ _ _ h => by obtain ⟨_, _, rfl, rfl, rfl⟩ := h; rfl) (fun _ => rfl) kr rfl (ev (.slice a4 (List.length s7) c4)) (ev (.slice (some ⟨b18, 0, none⟩) (List.length ([(kv3.1, kv3.2)])) 1)) st hs2 rfl kr (.inl kr) r26.src hx22 ?_)
            clear st
            intro a5 c5 T3 w62 hs3 st
            refine WO_seg 1 [(178, .pointer (some ⟨b16, 0, none⟩))] kr kr ?_
            have st := st.front4
            refine WO_one rfl (One_store (t := 23) (x := (.tmp 178)) (y := (.tmp 177)) (v := .slice a5 (List.length l1) c5) (c' := #[.slice a5 (List.length l1) c5]) kr (ev (.pointer (some ⟨b16, 0, none⟩))) (ev (.slice a5 (List.length l1) c5)) st kr kr ?_)
            clear st
            intro w63 st
            refine WO_end rfl ?_
            have st := st.front2
            have st := st.tail
            refine X_block ?_
            obtain rfl := Option.some.inj hr
            have hL := hSu14 _ rfl
            have st := st.front2.front2.front7.front7.front7.front6.front7.front7
            exact X_env _ kr (X_round k7 (Nat.lt_succ_self _) ⟨l1, a5, c5, T3, sn9, rem9, m29, hL, rfl, hm, st, r21, r7, r3, r6, hs3, hi12⟩)
         intro K9_u11
         have st := st.front4.front4.front4.front4.front4
         refine W_env _ kr (W_loop (fun k6 L' w' => ∃ (s6 : Int × (Option (List (ByteArray × ByteArray)))) (es20 : Array MapEntry) (ck19 : Nat) (m23 : Mem), loopM (filediff_Apply_L6 N p1 o4 o5) k6 s6 = some out6 ∧ L' = [(4, .pointer (some ⟨b2, 0, none⟩)), (6, .map (some b4)), (9, .map (some b7)), (19, .map (some b11)), (123, .slice a2 (List.length p1) c2), (124, .int .i64 (List.length p1 : Int)), (125, .int .i64 s6.1)] ∧ m.le m23 ∧ St m23 (.blk b2 (.cells #[.slice none (List.length ([] : List (ByteArray × ByteArray))) 0] 25 (0, 0)) :: mpiece (some b7) es5 ck5 :: mpiece (some b4) es1 ck1 :: mpiece (some b11) es20 ck19 :: mpiece (some b8) es4 ck4 :: own) w' ∧ RepS (cPair (cInt .i64) (cPair cStr (cPair cStr cStr))) m23 a2 c2 p1 ∧ MapQ (fun s : ByteArray => Value.string s) cBool false m23 (some b7) es5 ck5 o5.2.2.2 ∧ MapQ (fun s : ByteArray => Value.string s) cStr false m23 (some b4) es1 ck1 o4 ∧ MapQ (fun s : ByteArray => Value.string s) cStr false m23 (some b11) es20 ck19 s6.2 ∧ MapQ (fun s : ByteArray => Value.string s) cBool false m23 (some b8) es4 ck4 o5.2.2.1) N ⟨(0, o11), es16, ck16, m20, hr, rfl, hm, st, r2, r7, r3, r18, r6⟩ ?_)
         clear st hr
         rintro k6 _ w46 ⟨s6, es20, ck19, m23, hL, rfl, hm, st, r2, r7, r3, r22, r6⟩
         rcases k6 with _ | k6
         ·exact loopM_zero hL
         ·obtain ⟨qu11, hr, hSu11, hBu11⟩ := loopM_succ hL
          clear hL
          unfold filediff_Apply_L6 at hr
          refine W_sr (WO_seg 1 [(126, .bool (decide (s6.1 < (List.length p1 : Int))))] kr kr ?_)
          refine WO_et rfl (W_seq ?_)
          refine W_cond (decide (s6.1 < (List.length p1 : Int))) kr ?_ ?_
          ·intro hc
           rw [if_pos hc] at hr
           refine W_skip ?_
           refine X_then ?_
           refine W_seq ?_
           replace ⟨qu12, hr, hrKu12⟩ := bindS hr
           refine W_cut .normal (fun L' w' => ∃ (o13 : (Option (List (ByteArray × ByteArray)))) (es21 : Array MapEntry) (ck20 : Nat) (m24 : Mem), (.inl o13 : ((Option (List (ByteArray × ByteArray)))) ⊕ ((Int × (Option (List (ByteArray × ByteArray)))) ⊕ (((Option (List (ByteArray × ByteArray)))) ⊕ (((List (ByteArray × ByteArray))) × Int)))) = qu12 ∧ L' = [(4, .pointer (some ⟨b2, 0, none⟩)), (6, .map (some b4)), (9, .map (some b7)), (19, .map (some b11)), (123, .slice a2 (List.length p1) c2), (124, .int .i64 (List.length p1 : Int)), (125, .int .i64 s6.1)] ∧ m.le m24 ∧ St m24 (.blk b2 (.cells #[.slice none (List.length ([] : List (ByteArray × ByteArray))) 0] 25 (0, 0)) :: mpiece (some b7) es5 ck5 :: mpiece (some b4) es1 ck1 :: mpiece (some b11) es21 ck20 :: mpiece (some b8) es4 ck4 :: own) w' ∧ RepS (cPair (cInt .i64) (cPair cStr (cPair cStr cStr))) m24 a2 c2 p1 ∧ MapQ (fun s : ByteArray => Value.string s) cBool false m24 (some b7) es5 ck5 o5.2.2.2 ∧ MapQ (fun s : ByteArray => Value.string s) cStr false m24 (some b4) es1 ck1 o4 ∧ MapQ (fun s : ByteArray => Value.string s) cStr false m24 (some b11) es21 ck20 o13 ∧ MapQ (fun s : ByteArray => Value.string s) cBool false m24 (some b8) es4 ck4 o5.2.2.1) ?_ ?_
           ·clear hr st
            rintro _ w47 ⟨o13, es21, ck20, m24, rfl, rfl, hm, st, r2, r7, r3, r23, r6⟩
            have hr := hrKu12
            clear hrKu12
            dsimp only at hr
            refine X_then ?_
            refine W_region ?_
            refine WO_seg 2 [(125, .int .i64 (IntKind.wrap .i64 (s6.1 + 1)))] kr kr ?_
            refine WO_end rfl ?_
            obtain rfl := Option.some.inj hr
            have hL := hSu11 _ rfl
            have st := st.front4.front4.front4.front4.front4
            exact X_env _ kr (X_round k6 (Nat.lt_succ_self _) ⟨(IntKind.wrap .i64 (s6.1 + 1), o13), es21, ck20, m24, hL, rfl, hm, st, r2, r7, r3, r23, r6⟩)
           ·intro Ku12
            refine W_block ?_
            refine W_sr ?_
            replace ⟨x4, hx16, hr⟩ := bindS hr
            refine WO_one rfl (One_index (d := 127) (t := 58) (e := 72) (x := (.tmp 123)) (y := (.tmp 125)) (cPair (cInt .i64) (cPair cStr (cPair cStr cStr))) kr rfl (ev (.slice a2 (List.length p1) c2)) (ev (.int .i64 s6.1)) kr r2 hx16 ?_)
            rintro b14 f4 cs9 ⟨_, _, rfl, rfl, ⟨_, _, rfl, rfl, ⟨_, _, rfl, rfl, rfl⟩⟩⟩ hq4
            refine WO_one rfl (One_load_row (d := 128) (t := 72) (x := (.tmp 127)) (.agg #[.int .i64 x4.1, .string x4.2.1, .string x4.2.2.1, .string x4.2.2.2]) kr rfl (ev (.pointer (some ⟨b14, f4, none⟩))) st hq4 kr ?_)
            refine WO_one rfl (One_alloc (d := 24) (e := 72) (.agg #[.int .i64 0, .string (⟨#[]⟩ : ByteArray), .string (⟨#[]⟩ : ByteArray), .string (⟨#[]⟩ : ByteArray)]) kr rfl kr st ?_)
            clear st
            intro b15 w48 st
            refine WO_one rfl (One_store (t := 72) (x := (.tmp 24)) (y := (.tmp 128)) (v := .agg #[.int .i64 x4.1, .string x4.2.1, .string x4.2.2.1, .string x4.2.2.2]) (c' := #[.int .i64 x4.1, .string x4.2.1, .string x4.2.2.1, .string x4.2.2.2]) kr (ev (.pointer (some ⟨b15, 0, none⟩))) (ev (.agg #[.int .i64 x4.1, .string x4.2.1, .string x4.2.2.1, .string x4.2.2.2])) st kr kr ?_)
            clear st
            intro w49 st
            refine WO_et rfl (W_seq ?_)
            refine W_sr (WO_one rfl (One_load_own (d := 129) (t := 72) (x := (.tmp 24)) (.agg #[.int .i64 x4.1, .string x4.2.1, .string x4.2.2.1, .string x4.2.2.2]) kr rfl (ev (.pointer (some ⟨b15, 0, none⟩))) st.head kr ?_))
            replace ⟨y5, hx17, hr⟩ := bindS hr
            refine WO_one rfl (One_fn 130 88 #[.agg #[.int .i64 x4.1, .string x4.2.1, .string x4.2.2.1, .string x4.2.2.2]] kr rfl ?_)
            refine (filediff_put_ok st hx17).mono ?_
            clear st
            rintro _ w50 ⟨m25, rfl, hle6, st⟩
            refine ⟨_, rfl, ?_⟩
            have hm := Mem.le_trans hm hle6
            have r2 := r2.mono hle6
            have r7 := r7.mono hle6
            have r3 := r3.mono hle6
            have r22 := r22.mono hle6
            have r6 := r6.mono hle6
            refine WO_seg 1 [(131, .bool (!y5))] kr kr ?_
            refine WO_et rfl (W_cond (!y5) kr ?_ ?_)
            ·intro hc
             rw [if_pos hc] at hr
             refine W_exit ?_
             refine X_then_exit ?_
             refine X_block_eq ?_
             have hqu12 := Option.some.inj hr
             have st := st.tail
             have st := st.front4.front4.front4.front4.front4
             exact X_env _ kr (Ku12 _ _ ⟨s6.2, es20, ck19, m25, hqu12, rfl, hm, st, r2, r7, r3, r22, r6⟩)
            ·intro hc
             rw [if_neg (not_true hc)] at hr
             refine W_skip ?_
             refine X_then ?_
             refine W_seq ?_
             refine W_sr (WO_seg 2 [(133, .map (some b4)), (134, .pointer (some ⟨b15, 1, none⟩))] kr kr ?_)
             refine WO_one rfl (One_load_own (d := 135) (t := 9) (x := (.tmp 134)) (.string x4.2.1) kr rfl (ev (.pointer (some ⟨b15, 1, none⟩))) st.head kr ?_)
             refine WO_one rfl (One_lookup (ek := (fun s : ByteArray => Value.string s)) (c := cStr) (agg := false) (k := x4.2.1) (zx := (⟨#[]⟩ : ByteArray)) (zcs := [.string (⟨#[]⟩ : ByteArray)]) (z := (.string (⟨#[]⟩ : ByteArray))) (kt := 9) (et := 9) (d := 136) (t := 136) (x := (.tmp 133)) (y := (.tmp 135)) (ok := true) kr rfl (ev (.map (some b4))) (ev (.string x4.2.1)) kr (keyStr kr) st.tail.tail.tail.head r3 rfl rfl ?_)
             rintro cs10 rfl
             refine WO_seg 5 [(26, .bool ((mgetQ o4 x4.2.1).isSome))] kr kr ?_
             refine WO_et rfl (W_sr ?_)
             replace ⟨o14, hr, hrK⟩ := bindS hr
             refine WO_cut (j := 8) (fun L' w' => ∃ (m26 : Mem), L' = [(4, .pointer (some ⟨b2, 0, none⟩)), (6, .map (some b4)), (9, .map (some b7)), (19, .map (some b11)), (24, .pointer (some ⟨b15, 0, none⟩)), (123, .slice a2 (List.length p1) c2), (124, .int .i64 (List.length p1 : Int)), (125, .int .i64 s6.1), (146, .bool o14)] ∧ m.le m26 ∧ St m26 (.blk b15 (.cells #[.int .i64 x4.1, .string x4.2.1, .string x4.2.2.1, .string x4.2.2.2] 72 (0, 0)) :: .blk b2 (.cells #[.slice none (List.length ([] : List (ByteArray × ByteArray))) 0] 25 (0, 0)) :: mpiece (some b7) es5 ck5 :: mpiece (some b4) es1 ck1 :: mpiece (some b11) es20 ck19 :: mpiece (some b8) es4 ck4 :: own) w' ∧ RepS (cPair (cInt .i64) (cPair cStr (cPair cStr cStr))) m26 a2 c2 p1 ∧ MapQ (fun s : ByteArray => Value.string s) cBool false m26 (some b7) es5 ck5 o5.2.2.2 ∧ MapQ (fun s : ByteArray => Value.string s) cStr false m26 (some b4) es1 ck1 o4 ∧ MapQ (fun s : ByteArray => Value.string s) cStr false m26 (some b11) es20 ck19 s6.2 ∧ MapQ (fun s : ByteArray => Value.string s) cBool false m26 (some b8) es4 ck4 o5.2.2.1) ?_ ?_
             ·clear hr st
              have hr := hrK
              clear hrK
              rintro _ w51 ⟨m26, rfl, hm, st, r2, r7, r3, r22, r6⟩
              refine WO_et rfl (W_cond o14 kr ?_ ?_)
              ·intro hc
               rw [if_pos hc] at hr
               refine W_sr (WO_seg 1 [(147, .agg #[.slice none (List.length ([] : List (ByteArray × ByteArray))) 0])] kr kr ?_)
               have st := st.front1
               refine WO_one rfl (One_store (t := 25) (x := (.tmp 4)) (y := (.tmp 147)) (v := .agg #[.slice none (List.length ([] : List (ByteArray × ByteArray))) 0]) (c' := #[.slice none (List.length ([] : List (ByteArray × ByteArray))) 0]) kr (ev (.pointer (some ⟨b2, 0, none⟩))) (ev (.agg #[.slice none (List.length ([] : List (ByteArray × ByteArray))) 0])) st kr kr ?_)
               clear st
               intro w52 st
               refine WO_seg 1 [(5, .int .i64 19)] kr kr ?_
               refine WO_et rfl (W_ret ?_)
               refine X_then_ret ?_
               refine X_block_ret ?_
               obtain rfl := Option.some.inj hr
               have hr := hrKu12
               try dsimp only at hr
               refine X_then_ret ?_
               obtain rfl := Option.some.inj hr
               have ho := hBu11 _ rfl
               subst ho
               have hr := hrKu11
               dsimp only at hr
               refine X_then_ret ?_
               refine X_block_ret ?_
               refine X_then_ret ?_
               obtain rfl := Option.some.inj hr
               refine X_ret [.cell 4 25, .tmp 5] [.agg #[.slice none (List.length ([] : List (ByteArray × ByteArray))) 0], .int .i64 19] rfl (ResAll.cons (ResAt.blk (v := .agg #[.slice none (List.length ([] : List (ByteArray × ByteArray))) 0]) (o := 0) kr st.head kr) (ResAll.cons (ResAt.tmp kr) ResAll.nil)) ?_
               have st := st.nilroom 74 2
               have st := st.front1
               have st := st.tail
               have st := st.front1
               have st := st.tail
               have st := st.front1
               have st := st.tail
               have st := st.front1
               have st := st.tail
               have st := st.front1
               have st := st.tail
               have st := st.front1
               have st := st.tail
               exact ⟨none, 0, m26, rfl, hm, st, (RepS.nil _ _)⟩
              ·intro hc
               rw [if_neg (not_true hc)] at hr
               refine W_skip ?_
               refine X_then ?_
               refine W_sr (WO_seg 2 [(148, .map (some b11)), (149, .pointer (some ⟨b15, 1, none⟩))] kr kr ?_)
               refine WO_one rfl (One_load_own (d := 150) (t := 9) (x := (.tmp 149)) (.string x4.2.1) kr rfl (ev (.pointer (some ⟨b15, 1, none⟩))) st.head kr ?_)
               refine WO_seg 1 [(151, .pointer (some ⟨b15, 3, none⟩))] kr kr ?_
               refine WO_one rfl (One_load_own (d := 152) (t := 9) (x := (.tmp 151)) (.string x4.2.2.2) kr rfl (ev (.pointer (some ⟨b15, 3, none⟩))) st.head kr ?_)
               have st := st.front4
               replace ⟨mp5, hx18, hr⟩ := bindS hr
               refine WO_one rfl (One_mapUpdate (ek := (fun s : ByteArray => Value.string s)) (c := cStr) (agg := false) (k := x4.2.1) (yv := x4.2.2.2) (cs := [.string x4.2.2.2]) (z := (.string (⟨#[]⟩ : ByteArray))) (v := (.string x4.2.2.2)) (kt := 9) (et := 9) (t := 136) (x := (.tmp 148)) (y := (.tmp 150)) (u := (.tmp 152)) kr (ev (.map (some b11))) (ev (.string x4.2.1)) (ev (.string x4.2.2.2)) kr (keyStr kr) st r22 rfl rfl hx18 ?_)
               clear st
               intro es22 ck21 w53 st r24
               refine WO_et rfl (W_sr ?_)
               refine WO_seg 1 [(153, .pointer (some ⟨b15, 0, none⟩))] kr kr ?_
               refine WO_one rfl (One_load_own (d := 154) (t := 3) (x := (.tmp 153)) (.int .i64 x4.1) kr rfl (ev (.pointer (some ⟨b15, 0, none⟩))) st.tail.head kr ?_)
               refine WO_seg 1 [(155, .bool (x4.1 == 4))] kr kr ?_
               refine WO_et rfl (W_cond (x4.1 == 4) kr ?_ ?_)
               ·intro hc
                rw [if_pos hc] at hr
                refine W_region ?_
                refine WO_seg 2 [(156, .map (some b11)), (157, .pointer (some ⟨b15, 1, none⟩))] kr kr ?_
                refine WO_one rfl (One_load_own (d := 158) (t := 9) (x := (.tmp 157)) (.string x4.2.1) kr rfl (ev (.pointer (some ⟨b15, 1, none⟩))) st.tail.head kr ?_)
                refine WO_seg 2 [(159, .map (some b4)), (160, .pointer (some ⟨b15, 2, none⟩))] kr kr ?_
                refine WO_one rfl (One_load_own (d := 161) (t := 9) (x := (.tmp 160)) (.string x4.2.2.1) kr rfl (ev (.pointer (some ⟨b15, 2, none⟩))) st.tail.head kr ?_)
                refine WO_one rfl (One_lookup (ek := (fun s : ByteArray => Value.string s)) (c := cStr) (agg := false) (k := x4.2.2.1) (zx := (⟨#[]⟩ : ByteArray)) (zcs := [.string (⟨#[]⟩ : ByteArray)]) (z := (.string (⟨#[]⟩ : ByteArray))) (kt := 9) (et := 9) (d := 162) (t := 136) (x := (.tmp 159)) (y := (.tmp 161)) (ok := false) kr rfl (ev (.map (some b4))) (ev (.string x4.2.2.1)) kr (keyStr kr) st.tail.tail.tail.tail.head r3 rfl rfl ?_)
                rintro cs12 rfl
                replace ⟨mp6, hx19, hr⟩ := bindS hr
                refine WO_one rfl (One_mapUpdate (ek := (fun s : ByteArray => Value.string s)) (c := cStr) (agg := false) (k := x4.2.1) (yv := ((mgetQ o4 x4.2.2.1).getD (⟨#[]⟩ : ByteArray))) (cs := [.string ((mgetQ o4 x4.2.2.1).getD (⟨#[]⟩ : ByteArray))]) (z := (.string (⟨#[]⟩ : ByteArray))) (v := (.string ((mgetQ o4 x4.2.2.1).getD (⟨#[]⟩ : ByteArray)))) (kt := 9) (et := 9) (t := 136) (x := (.tmp 156)) (y := (.tmp 158)) (u := (.tmp 162)) kr (ev (.map (some b11))) (ev (.string x4.2.1)) (ev (.string ((mgetQ o4 x4.2.2.1).getD (⟨#[]⟩ : ByteArray)))) kr (keyStr kr) st r24 rfl rfl hx19 ?_)
                clear st
                intro es23 ck22 w54 st r25
                refine WO_end rfl ?_
                refine X_block ?_
                have hqu12 := Option.some.inj hr
                have st := st.front1
                have st := st.tail
                have st := st.front4.front1.front4.front4.front4
                exact X_env _ kr (Ku12 _ _ ⟨mp6, es23, ck22, m26, hqu12, rfl, hm, st, r2, r7, r3, r25, r6⟩)
               ·intro hc
                rw [if_neg (not_true hc)] at hr
                refine W_skip ?_
                refine X_block ?_
                have hqu12 := Option.some.inj hr
                have st := st.front1
                have st := st.tail
                have st := st.front4.front1.front4.front4.front4
                exact X_env _ kr (Ku12 _ _ ⟨mp5, es22, ck21, m26, hqu12, rfl, hm, st, r2, r7, r3, r24, r6⟩)
             ·intro K
              clear hrK
              refine WO_seg 2 [(140, .bool ((mgetQ o4 x4.2.1).isSome))] kr kr ?_
              rcases bcases ((mgetQ o4 x4.2.1).isSome) with hc | hc
              ·rw [if_pos hc] at hr
               refine WO_fact (t := 140) (b := true) ((mgetQ o4 x4.2.1).isSome) kr hc ?_
               refine WO_seg 2 [(141, .map (some b7)), (142, .pointer (some ⟨b15, 1, none⟩))] kr kr ?_
               refine WO_one rfl (One_load_own (d := 143) (t := 9) (x := (.tmp 142)) (.string x4.2.1) kr rfl (ev (.pointer (some ⟨b15, 1, none⟩))) st.head kr ?_)
               refine WO_one rfl (One_lookup (ek := (fun s : ByteArray => Value.string s)) (c := cBool) (agg := false) (k := x4.2.1) (zx := false) (zcs := [.bool false]) (z := (.bool false)) (kt := 9) (et := 4) (d := 144) (t := 137) (x := (.tmp 141)) (y := (.tmp 143)) (ok := false) kr rfl (ev (.map (some b7))) (ev (.string x4.2.1)) kr (keyStr kr) st.tail.tail.head r7 rfl rfl ?_)
               rintro cs11 rfl
               refine WO_seg 2 [(146, .bool (!((mgetQ o5.2.2.2 x4.2.1).getD false)))] kr kr ?_
               obtain rfl := Option.some.inj hr
               have st := st.front5.front5.front5.front5.front5.front5
               exact WO_env _ kr (K _ _ ⟨m25, rfl, hm, st, r2, r7, r3, r22, r6⟩)
              ·rw [if_neg (not_true hc)] at hr
               refine WO_fact (t := 140) (b := false) ((mgetQ o4 x4.2.1).isSome) kr hc ?_
               refine WO_seg 6 [(146, .bool false)] kr kr ?_
               obtain rfl := Option.some.inj hr
               have st := st.front5.front5.front5.front5.front5.front5
               exact WO_env _ kr (K _ _ ⟨m25, rfl, hm, st, r2, r7, r3, r22, r6⟩)
          ·intro hc
           rw [if_neg (not_true hc)] at hr
           refine W_exit ?_
           refine X_then_exit ?_
           obtain rfl := Option.some.inj hr
           have ho := hBu11 _ rfl
           have st := st.front4.front4.front4.front4.front4
           refine X_then_exit ?_
           exact X_env _ kr (K9_u11 _ _ ⟨s6.2, es20, ck19, m23, ho, rfl, hm, st, r7, r3, r22, r6⟩)
        intro K7_u10
        have st := st.front5.front5.front5.front4.front5
        refine W_env _ kr (W_loop (fun k5 L' w' => ∃ (s5 : (Option (List (ByteArray × ByteArray)))) (es17 : Array MapEntry) (ck17 : Nat) (sn5 : Array Nat) (rem5 : List (ByteArray × Bool)) (m21 : Mem), LoopP (filediff_Apply_L5 N) rem5 s5 PKu10 k5 ∧ L' = [(1, .slice a2 (List.length p1) c2), (4, .pointer (some ⟨b2, 0, none⟩)), (6, .map (some b4)), (9, .map (some b7)), (19, .map (some b11)), (116, .pointer (some ⟨b13, 0, none⟩))] ∧ m.le m21 ∧ St m21 (.blk b2 (.cells #[.slice none (List.length ([] : List (ByteArray × ByteArray))) 0] 25 (0, 0)) :: mpiece (some b7) es5 ck5 :: mpiece (some b4) es1 ck1 :: mpiece (some b11) es17 ck17 :: mpiece (some b8) es4 ck4 :: itpiece b13 (some b7) ck5 sn5 :: own) w' ∧ RepS (cPair (cInt .i64) (cPair cStr (cPair cStr cStr))) m21 a2 c2 p1 ∧ MapQ (fun s : ByteArray => Value.string s) cBool false m21 (some b7) es5 ck5 o5.2.2.2 ∧ MapQ (fun s : ByteArray => Value.string s) cStr false m21 (some b4) es1 ck1 o4 ∧ MapQ (fun s : ByteArray => Value.string s) cStr false m21 (some b11) es17 ck17 s5 ∧ MapQ (fun s : ByteArray => Value.string s) cBool false m21 (some b8) es4 ck4 o5.2.2.1 ∧ ItR (fun s : ByteArray => Value.string s) cBool false m21 es5 sn5 rem5) (List.length (Option.getD o5.2.2.2 []) + 1) ⟨o10, es13, ck13, #[], (Option.getD o5.2.2.2 []), m18, hr, rfl, hm, st, r2, r7, r3, r15, r6, hi5⟩ ?_)
        clear st hr
        rintro k5 _ w41 ⟨s5, es17, ck17, sn5, rem5, m21, hL, rfl, hm, st, r2, r7, r3, r19, r6, hi7⟩
        rcases k5 with _ | k5
        ·exact LoopP.zero hL
        ·refine W_sr ?_
         have st := st.front1.front5
         refine WO_one rfl (One_next (ek := (fun s : ByteArray => Value.string s)) (c := cBool) (agg := false) (d := 117) (x := (.tmp 116)) kr rfl (ev (.pointer (some ⟨b13, 0, none⟩))) st r7 hi7 ?_ ?_)
         ·intro hx14 w42 st
          obtain ⟨qu10, hr, hSu10, hBu10⟩ := hL.nil hx14
          clear hL
          unfold filediff_Apply_L5 at hr
          dsimp only at hr
          refine WO_seg 1 [(118, .bool false)] kr kr ?_
          refine WO_et rfl (W_seq ?_)
          refine W_cond false kr (fun h => Bool.noConfusion h) ?_
          intro _
          refine W_exit ?_
          refine X_then_exit ?_
          obtain rfl := Option.some.inj hr
          have ho := hBu10 _ rfl
          have st := st.front5.front5.front5.front4.front5
          refine X_then_exit ?_
          exact X_env _ kr (K7_u10 _ _ ⟨s5, es17, ck17, sn5, rem5, m21, ho, rfl, hm, st, r2, r7, r3, r19, r6, hi7⟩)
         ·rintro kv2 rem6 sn6 cs8 w43 hx15 rfl st hi8 he2
          obtain ⟨qu10, hr, hSu10, hBu10⟩ := hL.cons hx15
          clear hL
          unfold filediff_Apply_L5 at hr
          dsimp only at hr
          refine WO_seg 1 [(118, .bool true)] kr kr ?_
          refine WO_et rfl (W_seq ?_)
          refine W_cond true kr ?_ (fun h => Bool.noConfusion h)
          intro _
          refine W_skip ?_
          refine X_then ?_
          refine W_block ?_
          refine W_sr ?_
          have st := st.front1.front1
          refine WO_one rfl (One_entry (ek := (fun s : ByteArray => Value.string s)) (c := cBool) (agg := false) (d := 119) (x := (.tmp 116)) (K := .string kv2.1) (V := .bool kv2.2) kr rfl (ev (.pointer (some ⟨b13, 0, none⟩))) st r7 he2 ?_)
          refine WO_seg 2 [(22, .string kv2.1)] kr kr ?_
          refine WO_et rfl (W_region ?_)
          refine WO_seg 2 [(121, .map (some b11)), (122, .string kv2.1)] kr kr ?_
          have st := st.front4
          refine WO_one rfl (One_delete (ek := (fun s : ByteArray => Value.string s)) (c := cStr) (agg := false) (k := kv2.1) (z := (.string (⟨#[]⟩ : ByteArray))) (kt := 9) (et := 9) (t := 136) (t2 := 9) (x := (.tmp 121)) (y := (.tmp 122)) kr (ev (.map (some b11))) (ev (.string kv2.1)) kr (keyStr kr) st r19 ?_)
          clear st
          intro es18 w44 st r20
          refine WO_end rfl ?_
          refine X_block ?_
          obtain rfl := Option.some.inj hr
          have hL := hSu10 _ rfl
          have st := st.front1.front5.front2.front5.front4.front5
          exact X_env _ kr (X_round k5 (Nat.lt_succ_self _) ⟨mdelQ s5 kv2.1, es18, ck17, sn6, rem6, m21, hL, rfl, hm, st, r2, r7, r3, r20, r6, hi8⟩)
       intro K5_u9
       have st := st.front5.front5.front4.front4.front5
       refine W_env _ kr (W_loop (fun k4 L' w' => ∃ (s4 : (Option (List (ByteArray × ByteArray)))) (es14 : Array MapEntry) (ck14 : Nat) (sn2 : Array Nat) (rem2 : List (ByteArray × ByteArray)) (m19 : Mem), LoopP (filediff_Apply_L4 N) rem2 s4 PKu9 k4 ∧ L' = [(1, .slice a2 (List.length p1) c2), (4, .pointer (some ⟨b2, 0, none⟩)), (6, .map (some b4)), (9, .map (some b7)), (19, .map (some b11)), (106, .pointer (some ⟨b12, 0, none⟩))] ∧ m.le m19 ∧ St m19 (.blk b2 (.cells #[.slice none (List.length ([] : List (ByteArray × ByteArray))) 0] 25 (0, 0)) :: mpiece (some b4) es1 ck1 :: mpiece (some b11) es14 ck14 :: mpiece (some b8) es4 ck4 :: mpiece (some b7) es5 ck5 :: itpiece b12 (some b4) ck1 sn2 :: own) w' ∧ RepS (cPair (cInt .i64) (cPair cStr (cPair cStr cStr))) m19 a2 c2 p1 ∧ MapQ (fun s : ByteArray => Value.string s) cStr false m19 (some b4) es1 ck1 o4 ∧ MapQ (fun s : ByteArray => Value.string s) cStr false m19 (some b11) es14 ck14 s4 ∧ MapQ (fun s : ByteArray => Value.string s) cBool false m19 (some b8) es4 ck4 o5.2.2.1 ∧ MapQ (fun s : ByteArray => Value.string s) cBool false m19 (some b7) es5 ck5 o5.2.2.2 ∧ ItR (fun s : ByteArray => Value.string s) cStr false m19 es1 sn2 rem2) (List.length (Option.getD o4 []) + 1) ⟨(some [] : Option (List (ByteArray × ByteArray))), #[], 0, #[], (Option.getD o4 []), m10, hr, rfl, hm, st, r2, r3, (MapQ.new (fun s : ByteArray => Value.string s) cStr false _ _), r6, r7, hi1⟩ ?_)
       clear st hr
       rintro k4 _ w35 ⟨s4, es14, ck14, sn2, rem2, m19, hL, rfl, hm, st, r2, r3, r16, r6, r7, hi3⟩
       rcases k4 with _ | k4
       ·exact LoopP.zero hL
       ·refine W_sr ?_
        have st := st.front1.front5
        refine WO_one rfl (One_next (ek := (fun s : ByteArray => Value.string s)) (c := cStr) (agg := false) (d := 107) (x := (.tmp 106)) kr rfl (ev (.pointer (some ⟨b12, 0, none⟩))) st r3 hi3 ?_ ?_)
        ·intro hx11 w36 st
         obtain ⟨qu9, hr, hSu9, hBu9⟩ := hL.nil hx11
         clear hL
         unfold filediff_Apply_L4 at hr
         dsimp only at hr
         refine WO_seg 1 [(108, .bool false)] kr kr ?_
         refine WO_et rfl (W_seq ?_)
         refine W_cond false kr (fun h => Bool.noConfusion h) ?_
         intro _
         refine W_exit ?_
         refine X_then_exit ?_
         obtain rfl := Option.some.inj hr
         have ho := hBu9 _ rfl
         have st := st.front5.front5.front5.front4.front5
         refine X_then_exit ?_
         exact X_env _ kr (K5_u9 _ _ ⟨s4, es14, ck14, sn2, rem2, m19, ho, rfl, hm, st, r2, r3, r16, r6, r7, hi3⟩)
        ·rintro kv1 rem3 sn3 cs7 w37 hx12 rfl st hi4 he1
         obtain ⟨qu9, hr, hSu9, hBu9⟩ := hL.cons hx12
         clear hL
         unfold filediff_Apply_L4 at hr
         dsimp only at hr
         refine WO_seg 1 [(108, .bool true)] kr kr ?_
         refine WO_et rfl (W_seq ?_)
         refine W_cond true kr ?_ (fun h => Bool.noConfusion h)
         intro _
         refine W_skip ?_
         refine X_then ?_
         refine W_block ?_
         refine W_sr ?_
         have st := st.front1.front1
         refine WO_one rfl (One_entry (ek := (fun s : ByteArray => Value.string s)) (c := cStr) (agg := false) (d := 109) (x := (.tmp 106)) (K := .string kv1.1) (V := .string kv1.2) kr rfl (ev (.pointer (some ⟨b12, 0, none⟩))) st r3 he1 ?_)
         refine WO_seg 4 [(20, .string kv1.1), (21, .string kv1.2)] kr kr ?_
         refine WO_et rfl (W_region ?_)
         refine WO_seg 3 [(112, .map (some b11)), (113, .string kv1.1), (114, .string kv1.2)] kr kr ?_
         have st := st.front3
         replace ⟨mp4, hx13, hr⟩ := bindS hr
         refine WO_one rfl (One_mapUpdate (ek := (fun s : ByteArray => Value.string s)) (c := cStr) (agg := false) (k := kv1.1) (yv := kv1.2) (cs := [.string kv1.2]) (z := (.string (⟨#[]⟩ : ByteArray))) (v := (.string kv1.2)) (kt := 9) (et := 9) (t := 136) (x := (.tmp 112)) (y := (.tmp 113)) (u := (.tmp 114)) kr (ev (.map (some b11))) (ev (.string kv1.1)) (ev (.string kv1.2)) kr (keyStr kr) st r16 rfl rfl hx13 ?_)
         clear st
         intro es15 ck15 w38 st r17
         refine WO_end rfl ?_
         refine X_block ?_
         obtain rfl := Option.some.inj hr
         have hL := hSu9 _ rfl
         have st := st.front1.front5.front5.front3.front4.front5
         exact X_env _ kr (X_round k4 (Nat.lt_succ_self _) ⟨mp4, es15, ck15, sn3, rem3, m19, hL, rfl, hm, st, r2, r3, r17, r6, r7, hi4⟩)
    intro K2_u4
    clear hrKu4
    have st := st.front3.front2.front2.front3
    refine W_env _ kr (W_loop (fun k3 L' w' => ∃ (s3 : Bool × Bool × Int × (Option (List (ByteArray × Bool))) × (Option (List (ByteArray × Bool)))) (es6 : Array MapEntry) (ck6 : Nat) (es7 : Array MapEntry) (ck7 : Nat) (m11 : Mem), loopM (filediff_Apply_L3 N p1 o4) k3 s3 = some out3 ∧ L' = [(1, .slice a2 (List.length p1) c2), (4, .pointer (some ⟨b2, 0, none⟩)), (6, .map (some b4)), (9, .map (some b7)), (10, .map (some b8)), (11, .bool s3.1), (12, .bool s3.2.1), (54, .slice a2 (List.length p1) c2), (55, .int .i64 (List.length p1 : Int)), (56, .int .i64 s3.2.2.1)] ∧ m.le m11 ∧ St m11 (.blk b2 (.cells #[.slice none (List.length ([] : List (ByteArray × ByteArray))) 0] 25 (0, 0)) :: mpiece (some b8) es6 ck6 :: mpiece (some b7) es7 ck7 :: mpiece (some b4) es1 ck1 :: own) w' ∧ RepS (cPair (cInt .i64) (cPair cStr (cPair cStr cStr))) m11 a2 c2 p1 ∧ MapQ (fun s : ByteArray => Value.string s) cBool false m11 (some b8) es6 ck6 s3.2.2.2.1 ∧ MapQ (fun s : ByteArray => Value.string s) cBool false m11 (some b7) es7 ck7 s3.2.2.2.2 ∧ MapQ (fun s : ByteArray => Value.string s) cStr false m11 (some b4) es1 ck1 o4) N ⟨(false, false, 0, (some [] : Option (List (ByteArray × Bool))), (some [] : Option (List (ByteArray × Bool)))), #[], 0, #[], 0, m8, hr, rfl, hm, st, r2, (MapQ.new (fun s : ByteArray => Value.string s) cBool false _ _), (MapQ.new (fun s : ByteArray => Value.string s) cBool false _ _), r3⟩ ?_)
    clear st hr
    rintro k3 _ w19 ⟨s3, es6, ck6, es7, ck7, m11, hL, rfl, hm, st, r2, r8, r9, r3⟩
    rcases k3 with _ | k3
    ·exact loopM_zero hL
    ·obtain ⟨qu4, hr, hSu4, hBu4⟩ := loopM_succ hL
     clear hL
     unfold filediff_Apply_L3 at hr
     refine W_sr (WO_seg 1 [(57, .bool (decide (s3.2.2.1 < (List.length p1 : Int))))] kr kr ?_)
     refine WO_et rfl (W_seq ?_)
     refine W_cond (decide (s3.2.2.1 < (List.length p1 : Int))) kr ?_ ?_
     ·intro hc
      rw [if_pos hc] at hr
      refine W_skip ?_
      refine X_then ?_
      refine W_seq ?_
      replace ⟨o6, hr, hrKu5⟩ := bindS hr
      refine W_cut .normal (fun L' w' => ∃ (es8 : Array MapEntry) (ck8 : Nat) (es9 : Array MapEntry) (ck9 : Nat) (m12 : Mem), L' = [(1, .slice a2 (List.length p1) c2), (4, .pointer (some ⟨b2, 0, none⟩)), (6, .map (some b4)), (9, .map (some b7)), (10, .map (some b8)), (11, .bool o6.1), (12, .bool o6.2.1), (54, .slice a2 (List.length p1) c2), (55, .int .i64 (List.length p1 : Int)), (56, .int .i64 s3.2.2.1)] ∧ m.le m12 ∧ St m12 (.blk b2 (.cells #[.slice none (List.length ([] : List (ByteArray × ByteArray))) 0] 25 (0, 0)) :: mpiece (some b8) es8 ck8 :: mpiece (some b7) es9 ck9 :: mpiece (some b4) es1 ck1 :: own) w' ∧ RepS (cPair (cInt .i64) (cPair cStr (cPair cStr cStr))) m12 a2 c2 p1 ∧ MapQ (fun s : ByteArray => Value.string s) cBool false m12 (some b8) es8 ck8 o6.2.2.1 ∧ MapQ (fun s : ByteArray => Value.string s) cBool false m12 (some b7) es9 ck9 o6.2.2.2 ∧ MapQ (fun s : ByteArray => Value.string s) cStr false m12 (some b4) es1 ck1 o4) ?_ ?_
      ·clear hr st
       have hr := hrKu5
       clear hrKu5
       rintro _ w20 ⟨es8, ck8, es9, ck9, m12, rfl, hm, st, r2, r10, r11, r3⟩
       refine X_then ?_
       refine W_region ?_
       refine WO_seg 2 [(56, .int .i64 (IntKind.wrap .i64 (s3.2.2.1 + 1)))] kr kr ?_
       refine WO_end rfl ?_
       obtain rfl := Option.some.inj hr
       have hL := hSu4 _ rfl
       have st := st.front3.front3.front3.front3
       exact X_env _ kr (X_round k3 (Nat.lt_succ_self _) ⟨(o6.1, o6.2.1, IntKind.wrap .i64 (s3.2.2.1 + 1), o6.2.2.1, o6.2.2.2), es8, ck8, es9, ck9, m12, hL, rfl, hm, st, r2, r10, r11, r3⟩)
      ·intro Ku5
       clear hrKu5
       refine W_block ?_
       refine W_sr ?_
       replace ⟨x3, hx6, hr⟩ := bindS hr
       refine WO_one rfl (One_index (d := 58) (t := 58) (e := 72) (x := (.tmp 54)) (y := (.tmp 56)) (cPair (cInt .i64) (cPair cStr (cPair cStr cStr))) kr rfl (ev (.slice a2 (List.length p1) c2)) (ev (.int .i64 s3.2.2.1)) kr r2 hx6 ?_)
       rintro b9 f3 cs3 ⟨_, _, rfl, rfl, ⟨_, _, rfl, rfl, ⟨_, _, rfl, rfl, rfl⟩⟩⟩ hq3
       refine WO_one rfl (One_load_row (d := 59) (t := 72) (x := (.tmp 58)) (.agg #[.int .i64 x3.1, .string x3.2.1, .string x3.2.2.1, .string x3.2.2.2]) kr rfl (ev (.pointer (some ⟨b9, f3, none⟩))) st hq3 kr ?_)
       refine WO_one rfl (One_alloc (d := 14) (e := 72) (.agg #[.int .i64 0, .string (⟨#[]⟩ : ByteArray), .string (⟨#[]⟩ : ByteArray), .string (⟨#[]⟩ : ByteArray)]) kr rfl kr st ?_)
       clear st
       intro b10 w21 st
       refine WO_one rfl (One_store (t := 72) (x := (.tmp 14)) (y := (.tmp 59)) (v := .agg #[.int .i64 x3.1, .string x3.2.1, .string x3.2.2.1, .string x3.2.2.2]) (c' := #[.int .i64 x3.1, .string x3.2.1, .string x3.2.2.1, .string x3.2.2.2]) kr (ev (.pointer (some ⟨b10, 0, none⟩))) (ev (.agg #[.int .i64 x3.1, .string x3.2.1, .string x3.2.2.1, .string x3.2.2.2])) st kr kr ?_)
       clear st
       intro w22 st
       refine WO_et rfl (W_seq ?_)
       refine W_sr (WO_one rfl (One_load_own (d := 61) (t := 72) (x := (.tmp 14)) (.agg #[.int .i64 x3.1, .string x3.2.1, .string x3.2.2.1, .string x3.2.2.2]) kr rfl (ev (.pointer (some ⟨b10, 0, none⟩))) st.head kr ?_))
       replace ⟨y3, hx7, hr⟩ := bindS hr
       refine WO_one rfl (One_fn 62 87 #[.agg #[.int .i64 x3.1, .string x3.2.1, .string x3.2.2.1, .string x3.2.2.2]] kr rfl ?_)
       refine (filediff_taken_ok st hx7).mono ?_
       clear st
       rintro _ w23 ⟨m13, rfl, hle4, st⟩
       refine ⟨_, rfl, ?_⟩
       have hm := Mem.le_trans hm hle4
       have r2 := r2.mono hle4
       have r8 := r8.mono hle4
       have r9 := r9.mono hle4
       have r3 := r3.mono hle4
       refine WO_seg 5 [(15, .string y3.1), (16, .bool y3.2)] kr kr ?_
       refine WO_et rfl (W_sr ?_)
       refine WO_seg 1 [(65, .bool y3.2)] kr kr ?_
       refine WO_et rfl ?_
       replace ⟨o7, hr, hrKu6⟩ := bindS hr
       refine W_cut .normal (fun L' w' => ∃ (es10 : Array MapEntry) (ck10 : Nat) (m14 : Mem), L' = [(1, .slice a2 (List.length p1) c2), (4, .pointer (some ⟨b2, 0, none⟩)), (6, .map (some b4)), (9, .map (some b7)), (10, .map (some b8)), (11, .bool o7.1), (12, .bool o7.2.1), (14, .pointer (some ⟨b10, 0, none⟩)), (54, .slice a2 (List.length p1) c2), (55, .int .i64 (List.length p1 : Int)), (56, .int .i64 s3.2.2.1)] ∧ m.le m14 ∧ St m14 (.blk b10 (.cells #[.int .i64 x3.1, .string x3.2.1, .string x3.2.2.1, .string x3.2.2.2] 72 (0, 0)) :: .blk b2 (.cells #[.slice none (List.length ([] : List (ByteArray × ByteArray))) 0] 25 (0, 0)) :: mpiece (some b8) es6 ck6 :: mpiece (some b7) es10 ck10 :: mpiece (some b4) es1 ck1 :: own) w' ∧ RepS (cPair (cInt .i64) (cPair cStr (cPair cStr cStr))) m14 a2 c2 p1 ∧ MapQ (fun s : ByteArray => Value.string s) cBool false m14 (some b8) es6 ck6 s3.2.2.2.1 ∧ MapQ (fun s : ByteArray => Value.string s) cBool false m14 (some b7) es10 ck10 o7.2.2 ∧ MapQ (fun s : ByteArray => Value.string s) cStr false m14 (some b4) es1 ck1 o4) ?_ ?_
       ·clear hr st
        have hr := hrKu6
        clear hrKu6
        rintro _ w24 ⟨es10, ck10, m14, rfl, hm, st, r2, r8, r12, r3⟩
        refine X_then ?_
        refine W_sr (WO_one rfl (One_load_own (d := 85) (t := 72) (x := (.tmp 14)) (.agg #[.int .i64 x3.1, .string x3.2.1, .string x3.2.2.1, .string x3.2.2.2]) kr rfl (ev (.pointer (some ⟨b10, 0, none⟩))) st.head kr ?_))
        replace ⟨y4, hx9, hr⟩ := bindS hr
        refine WO_one rfl (One_fn 86 88 #[.agg #[.int .i64 x3.1, .string x3.2.1, .string x3.2.2.1, .string x3.2.2.2]] kr rfl ?_)
        refine (filediff_put_ok st hx9).mono ?_
        clear st
        rintro _ w27 ⟨m16, rfl, hle5, st⟩
        refine ⟨_, rfl, ?_⟩
        have hm := Mem.le_trans hm hle5
        have r2 := r2.mono hle5
        have r8 := r8.mono hle5
        have r12 := r12.mono hle5
        have r3 := r3.mono hle5
        refine WO_et rfl (W_cond y4 kr ?_ ?_)
        ·intro hc
         rw [if_pos hc] at hr
         refine W_sr ?_
         replace ⟨o9, hr, hrK⟩ := bindS hr
         refine WO_cut (j := 8) (fun L' w' => ∃ (m17 : Mem), L' = [(1, .slice a2 (List.length p1) c2), (4, .pointer (some ⟨b2, 0, none⟩)), (6, .map (some b4)), (9, .map (some b7)), (10, .map (some b8)), (11, .bool o9), (12, .bool o7.2.1), (14, .pointer (some ⟨b10, 0, none⟩)), (54, .slice a2 (List.length p1) c2), (55, .int .i64 (List.length p1 : Int)), (56, .int .i64 s3.2.2.1)] ∧ m.le m17 ∧ St m17 (.blk b10 (.cells #[.int .i64 x3.1, .string x3.2.1, .string x3.2.2.1, .string x3.2.2.2] 72 (0, 0)) :: .blk b2 (.cells #[.slice none (List.length ([] : List (ByteArray × ByteArray))) 0] 25 (0, 0)) :: mpiece (some b8) es6 ck6 :: mpiece (some b7) es10 ck10 :: mpiece (some b4) es1 ck1 :: own) w' ∧ RepS (cPair (cInt .i64) (cPair cStr (cPair cStr cStr))) m17 a2 c2 p1 ∧ MapQ (fun s : ByteArray => Value.string s) cBool false m17 (some b8) es6 ck6 s3.2.2.2.1 ∧ MapQ (fun s : ByteArray => Value.string s) cBool false m17 (some b7) es10 ck10 o7.2.2 ∧ MapQ (fun s : ByteArray => Value.string s) cStr false m17 (some b4) es1 ck1 o4) ?_ ?_
         ·clear hr st
          have hr := hrK
          clear hrK
          rintro _ w28 ⟨m17, rfl, hm, st, r2, r8, r12, r3⟩
          refine WO_et rfl (W_region ?_)
          refine WO_seg 2 [(94, .map (some b8)), (95, .pointer (some ⟨b10, 1, none⟩))] kr kr ?_
          refine WO_one rfl (One_load_own (d := 96) (t := 9) (x := (.tmp 95)) (.string x3.2.1) kr rfl (ev (.pointer (some ⟨b10, 1, none⟩))) st.head kr ?_)
          have st := st.front2
          replace ⟨mp3, hx10, hr⟩ := bindS hr
          refine WO_one rfl (One_mapUpdate (ek := (fun s : ByteArray => Value.string s)) (c := cBool) (agg := false) (k := x3.2.1) (yv := true) (cs := [.bool true]) (z := (.bool false)) (v := (.bool true)) (kt := 9) (et := 4) (t := 137) (x := (.tmp 94)) (y := (.tmp 96)) (u := (.const (.bool true))) kr (ev (.map (some b8))) (ev (.string x3.2.1)) (ev (.bool true)) kr (keyStr kr) st r8 rfl rfl hx10 ?_)
          clear st
          intro es12 ck12 w29 st r14
          refine WO_end rfl ?_
          refine X_block ?_
          obtain rfl := Option.some.inj hr
          have st := st.front1
          have st := st.tail
          have st := st.front3.front3.front2.front3
          exact X_env _ kr (Ku5 _ _ ⟨es12, ck12, es10, ck10, m17, rfl, hm, st, r2, r14, r12, r3⟩)
         ·intro K
          clear hrK
          refine WO_seg 2 [(88, .bool o7.1)] kr kr ?_
          rcases bcases o7.1 with hc | hc
          ·rw [if_pos hc] at hr
           refine WO_fact (t := 88) (b := true) o7.1 kr hc ?_
           refine WO_seg 6 [(11, .bool true)] kr kr ?_
           obtain rfl := Option.some.inj hr
           have st := st.front4.front4.front4.front4.front4
           exact WO_env _ kr (K _ _ ⟨m16, rfl, hm, st, r2, r8, r12, r3⟩)
          ·rw [if_neg (not_true hc)] at hr
           refine WO_fact (t := 88) (b := false) o7.1 kr hc ?_
           refine WO_seg 2 [(89, .map (some b8)), (90, .pointer (some ⟨b10, 1, none⟩))] kr kr ?_
           refine WO_one rfl (One_load_own (d := 91) (t := 9) (x := (.tmp 90)) (.string x3.2.1) kr rfl (ev (.pointer (some ⟨b10, 1, none⟩))) st.head kr ?_)
           refine WO_one rfl (One_lookup (ek := (fun s : ByteArray => Value.string s)) (c := cBool) (agg := false) (k := x3.2.1) (zx := false) (zcs := [.bool false]) (z := (.bool false)) (kt := 9) (et := 4) (d := 92) (t := 137) (x := (.tmp 89)) (y := (.tmp 91)) (ok := false) kr rfl (ev (.map (some b8))) (ev (.string x3.2.1)) kr (keyStr kr) st.tail.tail.head r8 rfl rfl ?_)
           rintro cs6 rfl
           refine WO_seg 2 [(11, .bool ((mgetQ s3.2.2.2.1 x3.2.1).getD false))] kr kr ?_
           obtain rfl := Option.some.inj hr
           have st := st.front4.front4.front4.front4.front4
           exact WO_env _ kr (K _ _ ⟨m16, rfl, hm, st, r2, r8, r12, r3⟩)
        ·intro hc
         rw [if_neg (not_true hc)] at hr
         refine W_skip ?_
         refine X_block ?_
         obtain rfl := Option.some.inj hr
         have st := st.tail
         have st := st.front3.front3.front3.front3
         exact X_env _ kr (Ku5 _ _ ⟨es6, ck6, es10, ck10, m16, rfl, hm, st, r2, r8, r12, r3⟩)
       ·intro Ku6
        clear hrKu6
        refine W_cond y3.2 kr ?_ ?_
        ·intro hc
         rw [if_pos hc] at hr
         refine W_sr (WO_seg 2 [(67, .map (some b4)), (68, .string y3.1)] kr kr ?_)
         refine WO_one rfl (One_lookup (ek := (fun s : ByteArray => Value.string s)) (c := cStr) (agg := false) (k := y3.1) (zx := (⟨#[]⟩ : ByteArray)) (zcs := [.string (⟨#[]⟩ : ByteArray)]) (z := (.string (⟨#[]⟩ : ByteArray))) (kt := 9) (et := 9) (d := 69) (t := 136) (x := (.tmp 67)) (y := (.tmp 68)) (ok := true) kr rfl (ev (.map (some b4))) (ev (.string y3.1)) kr (keyStr kr) st.tail.tail.tail.tail.head r3 rfl rfl ?_)
         rintro cs4 rfl
         refine WO_seg 5 [(18, .bool ((mgetQ o4 y3.1).isSome))] kr kr ?_
         refine WO_et rfl (W_sr ?_)
         replace ⟨o8, hr, hrK⟩ := bindS hr
         refine WO_cut (j := 13) (fun L' w' => ∃ (m15 : Mem), L' = [(1, .slice a2 (List.length p1) c2), (4, .pointer (some ⟨b2, 0, none⟩)), (6, .map (some b4)), (9, .map (some b7)), (10, .map (some b8)), (11, .bool o8.1), (12, .bool o8.2), (14, .pointer (some ⟨b10, 0, none⟩)), (15, .string y3.1), (54, .slice a2 (List.length p1) c2), (55, .int .i64 (List.length p1 : Int)), (56, .int .i64 s3.2.2.1)] ∧ m.le m15 ∧ St m15 (.blk b10 (.cells #[.int .i64 x3.1, .string x3.2.1, .string x3.2.2.1, .string x3.2.2.2] 72 (0, 0)) :: .blk b2 (.cells #[.slice none (List.length ([] : List (ByteArray × ByteArray))) 0] 25 (0, 0)) :: mpiece (some b8) es6 ck6 :: mpiece (some b7) es7 ck7 :: mpiece (some b4) es1 ck1 :: own) w' ∧ RepS (cPair (cInt .i64) (cPair cStr (cPair cStr cStr))) m15 a2 c2 p1 ∧ MapQ (fun s : ByteArray => Value.string s) cBool false m15 (some b8) es6 ck6 s3.2.2.2.1 ∧ MapQ (fun s : ByteArray => Value.string s) cBool false m15 (some b7) es7 ck7 s3.2.2.2.2 ∧ MapQ (fun s : ByteArray => Value.string s) cStr false m15 (some b4) es1 ck1 o4) ?_ ?_
         ·clear hr st
          have hr := hrK
          clear hrK
          rintro _ w25 ⟨m15, rfl, hm, st, r2, r8, r9, r3⟩
          refine WO_et rfl (W_region ?_)
          refine WO_seg 2 [(83, .map (some b7)), (84, .string y3.1)] kr kr ?_
          have st := st.front3
          replace ⟨mp2, hx8, hr⟩ := bindS hr
          refine WO_one rfl (One_mapUpdate (ek := (fun s : ByteArray => Value.string s)) (c := cBool) (agg := false) (k := y3.1) (yv := true) (cs := [.bool true]) (z := (.bool false)) (v := (.bool true)) (kt := 9) (et := 4) (t := 137) (x := (.tmp 83)) (y := (.tmp 84)) (u := (.const (.bool true))) kr (ev (.map (some b7))) (ev (.string y3.1)) (ev (.bool true)) kr (keyStr kr) st r9 rfl rfl hx8 ?_)
          clear st
          intro es11 ck11 w26 st r13
          refine WO_end rfl ?_
          obtain rfl := Option.some.inj hr
          have st := st.front4.front1.front4.front4.front4
          exact X_env _ kr (Ku6 _ _ ⟨es11, ck11, m15, rfl, hm, st, r2, r8, r13, r3⟩)
         ·intro K
          clear hrK
          refine WO_seg 2 [(73, .bool s3.1)] kr kr ?_
          rcases bcases s3.1 with hc | hc
          ·rw [if_pos hc] at hr
           refine WO_fact (t := 73) (b := true) s3.1 kr hc ?_
           refine WO_seg 6 [(77, .bool true), (79, .bool s3.2.1)] kr kr ?_
           rcases bcases s3.2.1 with hc | hc
           ·rw [if_pos hc] at hr
            refine WO_fact (t := 79) (b := true) s3.2.1 kr hc ?_
            refine WO_seg 5 [(11, .bool true), (12, .bool true)] kr kr ?_
            obtain rfl := Option.some.inj hr
            have st := st.front4.front4.front4.front4.front4
            exact WO_env _ kr (K _ _ ⟨m13, rfl, hm, st, r2, r8, r9, r3⟩)
           ·rw [if_neg (not_true hc)] at hr
            refine WO_fact (t := 79) (b := false) s3.2.1 kr hc ?_
            refine WO_seg 5 [(11, .bool true), (12, .bool (!((mgetQ o4 y3.1).isSome)))] kr kr ?_
            obtain rfl := Option.some.inj hr
            have st := st.front4.front4.front4.front4.front4
            exact WO_env _ kr (K _ _ ⟨m13, rfl, hm, st, r2, r8, r9, r3⟩)
          ·rw [if_neg (not_true hc)] at hr
           refine WO_fact (t := 73) (b := false) s3.1 kr hc ?_
           refine WO_seg 2 [(74, .map (some b7)), (75, .string y3.1)] kr kr ?_
           refine WO_one rfl (One_lookup (ek := (fun s : ByteArray => Value.string s)) (c := cBool) (agg := false) (k := y3.1) (zx := false) (zcs := [.bool false]) (z := (.bool false)) (kt := 9) (et := 4) (d := 76) (t := 137) (x := (.tmp 74)) (y := (.tmp 75)) (ok := false) kr rfl (ev (.map (some b7))) (ev (.string y3.1)) kr (keyStr kr) st.tail.tail.tail.head r9 rfl rfl ?_)
           rintro cs5 rfl
           refine WO_seg 3 [(77, .bool ((mgetQ s3.2.2.2.2 y3.1).getD false)), (79, .bool s3.2.1)] kr kr ?_
           rcases bcases s3.2.1 with hc | hc
           ·rw [if_pos hc] at hr
            refine WO_fact (t := 79) (b := true) s3.2.1 kr hc ?_
            refine WO_seg 5 [(11, .bool ((mgetQ s3.2.2.2.2 y3.1).getD false)), (12, .bool true)] kr kr ?_
            obtain rfl := Option.some.inj hr
            have st := st.front4.front4.front4.front4.front4
            exact WO_env _ kr (K _ _ ⟨m13, rfl, hm, st, r2, r8, r9, r3⟩)
           ·rw [if_neg (not_true hc)] at hr
            refine WO_fact (t := 79) (b := false) s3.2.1 kr hc ?_
            refine WO_seg 5 [(11, .bool ((mgetQ s3.2.2.2.2 y3.1).getD false)), (12, .bool (!((mgetQ o4 y3.1).isSome)))] kr kr ?_
            obtain rfl := Option.some.inj hr
            have st := st.front4.front4.front4.front4.front4
            exact WO_env _ kr (K _ _ ⟨m13, rfl, hm, st, r2, r8, r9, r3⟩)
        ·intro hc
         rw [if_neg (not_true hc)] at hr
         refine W_skip ?_
         obtain rfl := Option.some.inj hr
         have st := st.front4.front4.front4.front4.front4
         exact X_env _ kr (Ku6 _ _ ⟨es7, ck7, m13, rfl, hm, st, r2, r8, r9, r3⟩)
     ·intro hc
      rw [if_neg (not_true hc)] at hr
      refine W_exit ?_
      refine X_then_exit ?_
      obtain rfl := Option.some.inj hr
      have ho := hBu4 _ rfl
      have st := st.front3.front3.front3.front3
      refine X_then_exit ?_
      exact X_env _ kr (K2_u4 _ _ ⟨(s3.1, s3.2.1, s3.2.2.2.1, s3.2.2.2.2), es6, ck6, es7, ck7, m11, ho, rfl, hm, st, r2, r8, r9, r3⟩)
   intro K0_u3
   clear hrKu3
   have st := st.front1
   refine W_env _ kr (W_loop (fun k2 L' w' => ∃ (s2 : Int × (Option (List (ByteArray × ByteArray)))) (es2 : Array MapEntry) (ck2 : Nat) (m9 : Mem), loopM (filediff_Apply_L2 N p0) k2 s2 = some out2 ∧ L' = [(1, .slice a2 (List.length p1) c2), (4, .pointer (some ⟨b2, 0, none⟩)), (6, .map (some b4)), (40, .slice a1 (List.length p0) c1), (41, .int .i64 (List.length p0 : Int)), (42, .int .i64 s2.1)] ∧ m.le m9 ∧ St m9 (.blk b2 (.cells #[.slice none (List.length ([] : List (ByteArray × ByteArray))) 0] 25 (0, 0)) :: mpiece (some b4) es2 ck2 :: own) w' ∧ RepS (cPair (cInt .i64) (cPair cStr (cPair cStr cStr))) m9 a2 c2 p1 ∧ RepS (cPair cStr cStr) m9 a1 c1 p0 ∧ MapQ (fun s : ByteArray => Value.string s) cStr false m9 (some b4) es2 ck2 s2.2) N ⟨(0, (some [] : Option (List (ByteArray × ByteArray)))), #[], 0, m2, hr, rfl, hm, st, r2, r1, (MapQ.new (fun s : ByteArray => Value.string s) cStr false _ _)⟩ ?_)
   clear st hr
   rintro k2 _ w12 ⟨s2, es2, ck2, m9, hL, rfl, hm, st, r2, r1, r4⟩
   rcases k2 with _ | k2
   ·exact loopM_zero hL
   ·obtain ⟨qu3, hr, hSu3, hBu3⟩ := loopM_succ hL
    clear hL
    unfold filediff_Apply_L2 at hr
    refine W_sr (WO_seg 1 [(43, .bool (decide (s2.1 < (List.length p0 : Int))))] kr kr ?_)
    refine WO_et rfl (W_seq ?_)
    refine W_cond (decide (s2.1 < (List.length p0 : Int))) kr ?_ ?_
    ·intro hc
     rw [if_pos hc] at hr
     refine W_skip ?_
     refine X_then ?_
     refine W_seq ?_
     refine W_block ?_
     refine W_sr ?_
     replace ⟨x2, hx4, hr⟩ := bindS hr
     refine WO_one rfl (One_index (d := 44) (t := 23) (e := 74) (x := (.tmp 40)) (y := (.tmp 42)) (cPair cStr cStr) kr rfl (ev (.slice a1 (List.length p0) c1)) (ev (.int .i64 s2.1)) kr r1 hx4 ?_)
     rintro b5 f2 cs2 ⟨_, _, rfl, rfl, rfl⟩ hq2
     refine WO_one rfl (One_load_row (d := 45) (t := 74) (x := (.tmp 44)) (.agg #[.string x2.1, .string x2.2]) kr rfl (ev (.pointer (some ⟨b5, f2, none⟩))) st hq2 kr ?_)
     refine WO_one rfl (One_alloc (d := 8) (e := 74) (.agg #[.string (⟨#[]⟩ : ByteArray), .string (⟨#[]⟩ : ByteArray)]) kr rfl kr st ?_)
     clear st
     intro b6 w13 st
     refine WO_one rfl (One_store (t := 74) (x := (.tmp 8)) (y := (.tmp 45)) (v := .agg #[.string x2.1, .string x2.2]) (c' := #[.string x2.1, .string x2.2]) kr (ev (.pointer (some ⟨b6, 0, none⟩))) (ev (.agg #[.string x2.1, .string x2.2])) st kr kr ?_)
     clear st
     intro w14 st
     refine WO_et rfl (W_region ?_)
     refine WO_seg 2 [(46, .map (some b4)), (47, .pointer (some ⟨b6, 0, none⟩))] kr kr ?_
     refine WO_one rfl (One_load_own (d := 48) (t := 9) (x := (.tmp 47)) (.string x2.1) kr rfl (ev (.pointer (some ⟨b6, 0, none⟩))) st.head kr ?_)
     refine WO_seg 1 [(49, .pointer (some ⟨b6, 1, none⟩))] kr kr ?_
     refine WO_one rfl (One_load_own (d := 50) (t := 9) (x := (.tmp 49)) (.string x2.2) kr rfl (ev (.pointer (some ⟨b6, 1, none⟩))) st.head kr ?_)
     have st := st.front2
     replace ⟨mp1, hx5, hr⟩ := bindS hr
     refine WO_one rfl (One_mapUpdate (ek := (fun s : ByteArray => Value.string s)) (c := cStr) (agg := false) (k := x2.1) (yv := x2.2) (cs := [.string x2.2]) (z := (.string (⟨#[]⟩ : ByteArray))) (v := (.string x2.2)) (kt := 9) (et := 9) (t := 136) (x := (.tmp 46)) (y := (.tmp 48)) (u := (.tmp 50)) kr (ev (.map (some b4))) (ev (.string x2.1)) (ev (.string x2.2)) kr (keyStr kr) st r4 rfl rfl hx5 ?_)
     clear st
     intro es3 ck3 w15 st r5
     refine WO_end rfl ?_
     refine X_block ?_
     refine X_then ?_
     refine W_region ?_
     refine WO_seg 2 [(42, .int .i64 (IntKind.wrap .i64 (s2.1 + 1)))] kr kr ?_
     refine WO_end rfl ?_
     obtain rfl := Option.some.inj hr
     have hL := hSu3 _ rfl
     have st := st.front1
     have st := st.tail
     have st := st.front1
     exact X_env _ kr (X_round k2 (Nat.lt_succ_self _) ⟨(IntKind.wrap .i64 (s2.1 + 1), mp1), es3, ck3, m9, hL, rfl, hm, st, r2, r1, r5⟩)
    ·intro hc
     rw [if_neg (not_true hc)] at hr
     refine W_exit ?_
     refine X_then_exit ?_
     obtain rfl := Option.some.inj hr
     have ho := hBu3 _ rfl
     have st := st.front1.front1
     refine X_then_exit ?_
     exact X_env _ kr (K0_u3 _ _ ⟨s2.2, es2, ck2, m9, ho, rfl, hm, st, r2, r4⟩)
 ·intro K
  clear hrK
  refine WO_one rfl (One_load_row (d := 30) (t := 25) (x := (.tmp 2)) (.agg #[.slice a1 (List.length p0) c1]) kr rfl (ev (.pointer (some ⟨b1, 0, none⟩))) st hb1 kr ?_)
  replace ⟨y1, hx1, hr⟩ := bindS hr
  refine WO_one rfl (One_fn 31 75 #[.agg #[.slice a1 (List.length p0) c1]] kr rfl ?_)
  refine (revision_Check_ok st r1 hx1).mono ?_
  clear st
  rintro _ w4 ⟨m3, rfl, hle2, st⟩
  refine ⟨_, rfl, ?_⟩
  have hm := Mem.le_trans hm hle2
  have r2 := r2.mono hle2
  have hb1 := hb1.mono hle2
  have r1 := r1.mono hle2
  refine WO_seg 2 [(33, .bool (y1 != 0))] kr kr ?_
  rcases bcases (y1 != 0) with hc | hc
  ·rw [if_pos hc] at hr
   refine WO_fact (t := 33) (b := true) (y1 != 0) kr hc ?_
   refine WO_seg 3 [(36, .bool true)] kr kr ?_
   obtain rfl := Option.some.inj hr
   exact WO_env _ kr (K _ _ ⟨m3, rfl, hm, st, r2, hb1, r1⟩)
  ·rw [if_neg (not_true hc)] at hr
   refine WO_fact (t := 33) (b := false) (y1 != 0) kr hc ?_
   refine WO_seg 1 [(34, .slice a2 (List.length p1) c2)] kr kr ?_
   refine WO_one rfl (One_fn 35 84 #[.slice a2 (List.length p1) c2, .func (.func 85) #[] #[]] kr rfl ?_)
   refine W_calls Tryz.func84 rfl Tryz.ntmps84 [(0, .slice a2 (List.length p1) c2), (1, .func (.func 85) #[] #[])] kr rfl ?_
   refine W_sr (WO_seg 1 [] kr kr ?_)
   refine WO_et rfl (W_sr ?_)
   refine WO_seg 2 [(5, .slice a2 (List.length p1) c2), (6, .func (.func 85) #[] #[])] kr kr ?_
   replace ⟨o2, hr, hrKu1⟩ := bindS hr
   refine WO_one rfl (One_fn 7 136 #[.slice a2 (List.length p1) c2, .func (.func 85) #[] #[]] kr rfl ?_)
   refine Calls_cut (fun v' w' => ∃ (m4 : Mem), v' = (.int .i64 o2) ∧ m.le m4 ∧ St m4 (.blk b2 (.cells #[.slice none (List.length ([] : List (ByteArray × ByteArray))) 0] 25 (0, 0)) :: own) w' ∧ RepS (cPair (cInt .i64) (cPair cStr (cPair cStr cStr))) m4 a2 c2 p1 ∧ MRow m4 b1 0 [.slice a1 (List.length p0) c1] ∧ RepS (cPair cStr cStr) m4 a1 c1 p0) ?_ ?_
   ·clear hr st
    have hr := hrKu1
    clear hrKu1
    rintro _ w5 ⟨m4, rfl, hm, st, r2, hb1, r1⟩
    refine ⟨_, rfl, ?_⟩
    refine WO_seg 2 [(4, .bool (decide (o2 ≥ 0)))] kr kr ?_
    refine WO_et rfl (W_ret ?_)
    refine X_ret [.tmp 4] [.bool (decide (o2 ≥ 0))] rfl (ResAll.cons (ResAt.tmp kr) ResAll.nil) ?_
    refine ⟨_, rfl, ?_⟩
    refine WO_seg 1 [(36, .bool (decide (o2 ≥ 0)))] kr kr ?_
    obtain rfl := Option.some.inj hr
    exact WO_env _ kr (K _ _ ⟨m4, rfl, hm, st, r2, hb1, r1⟩)
   ·clear hrKu1
    refine W_calls Tryz.func136 rfl Tryz.ntmps136 [(0, .slice a2 (List.length p1) c2), (1, .func (.func 85) #[] #[])] kr rfl ?_
    refine W_sr (WO_seg 1 [] kr kr ?_)
    refine WO_et rfl (W_seq ?_)
    refine W_sr (WO_seg 3 [(7, .int .i64 (List.length p1 : Int)), (8, .int .i64 0)] kr kr ?_)
    refine WO_et rfl (W_block ?_)
    replace ⟨out1, hr, hrKu2⟩ := bindS hr
    refine W_cut (.exit 0) (fun L' w' => ∃ (o3 : Unit) (m5 : Mem), (.inl o3) = out1 ∧ L' = [] ∧ m.le m5 ∧ St m5 (.blk b2 (.cells #[.slice none (List.length ([] : List (ByteArray × ByteArray))) 0] 25 (0, 0)) :: own) w' ∧ RepS (cPair (cInt .i64) (cPair cStr (cPair cStr cStr))) m5 a2 c2 p1 ∧ MRow m5 b1 0 [.slice a1 (List.length p0) c1] ∧ RepS (cPair cStr cStr) m5 a1 c1 p0) ?_ ?_
    ·clear hr st
     rintro _ w6 ⟨o3, m5, rfl, rfl, hm, st, r2, hb1, r1⟩
     have hr := hrKu2
     clear hrKu2
     dsimp only at hr
     refine X_block_eq ?_
     refine X_then ?_
     refine W_sr (WO_seg 1 [(4, .int .i64 (-1))] kr kr ?_)
     refine WO_et rfl (W_ret ?_)
     obtain rfl := Option.some.inj hr
     refine X_ret [.tmp 4] [.int .i64 (-1)] rfl (ResAll.cons (ResAt.tmp kr) ResAll.nil) ?_
     exact ⟨_, rfl, ⟨m5, rfl, hm, st, r2, hb1, r1⟩⟩
    intro K0_u2
    refine W_env _ kr (W_loop (fun k1 L' w' => ∃ (s1 : Int) (m6 : Mem), loopM (filediff_Apply_L1 N p1) k1 s1 = some out1 ∧ L' = [(0, .slice a2 (List.length p1) c2), (1, .func (.func 85) #[] #[]), (7, .int .i64 (List.length p1 : Int)), (8, .int .i64 s1)] ∧ m.le m6 ∧ St m6 (.blk b2 (.cells #[.slice none (List.length ([] : List (ByteArray × ByteArray))) 0] 25 (0, 0)) :: own) w' ∧ RepS (cPair (cInt .i64) (cPair cStr (cPair cStr cStr))) m6 a2 c2 p1 ∧ MRow m6 b1 0 [.slice a1 (List.length p0) c1] ∧ RepS (cPair cStr cStr) m6 a1 c1 p0) N ⟨0, m3, hr, rfl, hm, st, r2, hb1, r1⟩ ?_)
    clear st hr
    rintro k1 _ w7 ⟨s1, m6, hL, rfl, hm, st, r2, hb1, r1⟩
    rcases k1 with _ | k1
    ·exact loopM_zero hL
    ·obtain ⟨qu2, hr, hSu2, hBu2⟩ := loopM_succ hL
     clear hL
     unfold filediff_Apply_L1 at hr
     refine W_sr (WO_seg 1 [(9, .bool (decide (s1 < (List.length p1 : Int))))] kr kr ?_)
     refine WO_et rfl (W_seq ?_)
     refine W_cond (decide (s1 < (List.length p1 : Int))) kr ?_ ?_
     ·intro hc
      rw [if_pos hc] at hr
      refine W_skip ?_
      refine X_then ?_
      refine W_seq ?_
      refine W_block ?_
      refine W_sr (WO_seg 2 [(5, .int .i64 s1)] kr kr ?_)
      refine WO_et rfl (W_sr ?_)
      refine WO_seg 3 [(11, .func (.func 85) #[] #[]), (12, .slice a2 (List.length p1) c2), (13, .int .i64 s1)] kr kr ?_
      replace ⟨x1, hx2, hr⟩ := bindS hr
      refine WO_one rfl (One_index (d := 14) (t := 58) (e := 72) (x := (.tmp 12)) (y := (.tmp 13)) (cPair (cInt .i64) (cPair cStr (cPair cStr cStr))) kr rfl (ev (.slice a2 (List.length p1) c2)) (ev (.int .i64 s1)) kr r2 hx2 ?_)
      rintro b3 f1 cs1 ⟨_, _, rfl, rfl, ⟨_, _, rfl, rfl, ⟨_, _, rfl, rfl, rfl⟩⟩⟩ hq1
      refine WO_one rfl (One_load_row (d := 15) (t := 72) (x := (.tmp 14)) (.agg #[.int .i64 x1.1, .string x1.2.1, .string x1.2.2.1, .string x1.2.2.2]) kr rfl (ev (.pointer (some ⟨b3, f1, none⟩))) st hq1 kr ?_)
      replace ⟨y2, hx3, hr⟩ := bindS hr
      refine WO_one rfl (One_fn 16 85 #[.agg #[.int .i64 x1.1, .string x1.2.1, .string x1.2.2.1, .string x1.2.2.2]] kr rfl ?_)
      refine (filediff_Apply_1_ok st hx3).mono ?_
      clear st
      rintro _ w8 ⟨m7, rfl, hle3, st⟩
      refine ⟨_, rfl, ?_⟩
      have hm := Mem.le_trans hm hle3
      have r2 := r2.mono hle3
      have hq1 := hq1.mono hle3
      have hb1 := hb1.mono hle3
      have r1 := r1.mono hle3
      refine WO_et rfl (W_cond y2 kr ?_ ?_)
      ·intro hc
       rw [if_pos hc] at hr
       refine W_sr (WO_seg 2 [(4, .int .i64 s1)] kr kr ?_)
       refine WO_et rfl (W_ret ?_)
       refine X_block_ret ?_
       refine X_then_ret ?_
       obtain rfl := Option.some.inj hr
       have ho := hBu2 _ rfl
       subst ho
       have hr := hrKu2
       dsimp only at hr
       refine X_then_ret ?_
       refine X_block_ret ?_
       refine X_then_ret ?_
       obtain rfl := Option.some.inj hr
       refine X_ret [.tmp 4] [.int .i64 s1] rfl (ResAll.cons (ResAt.tmp kr) ResAll.nil) ?_
       exact ⟨_, rfl, ⟨m7, rfl, hm, st, r2, hb1, r1⟩⟩
      ·intro hc
       rw [if_neg (not_true hc)] at hr
       refine W_skip ?_
       refine X_block ?_
       refine X_then ?_
       refine W_region ?_
       refine WO_seg 2 [(8, .int .i64 (IntKind.wrap .i64 (s1 + 1)))] kr kr ?_
       refine WO_end rfl ?_
       obtain rfl := Option.some.inj hr
       have hL := hSu2 _ rfl
       exact X_env _ kr (X_round k1 (Nat.lt_succ_self _) ⟨IntKind.wrap .i64 (s1 + 1), m7, hL, rfl, hm, st, r2, hb1, r1⟩)
     ·intro hc
      rw [if_neg (not_true hc)] at hr
      refine W_exit ?_
      refine X_then_exit ?_
      obtain rfl := Option.some.inj hr
      have ho := hBu2 _ rfl
      refine X_then_exit ?_
      exact X_env _ kr (K0_u2 _ _ ⟨(), m6, ho, rfl, hm, st, r2, hb1, r1⟩)
def filediff_Invert (N : Nat) (p0 : (List (ByteArray × ByteArray))) (p1 : List (Int × ByteArray × ByteArray × ByteArray)) : Option ((List (Int × ByteArray × ByteArray × ByteArray)) × Int) :=
 (filediff_Apply N p0 p1).bind fun y1 => if (y1.2 != 0) = true then (some (([] : List (Int × ByteArray × ByteArray × ByteArray)), y1.2)) else ((filediff_Diff N y1.1 p0).bind fun y2 => some (y2.1, y2.2))
set_option maxHeartbeats 4000000 in
set_option maxRecDepth 100000 in
theorem filediff_Invert_ok {N : Nat} {m : Mem} {own : List Piece} {w : World} {p0 : (List (ByteArray × ByteArray))} {p1 : List (Int × ByteArray × ByteArray × ByteArray)} {a1 : Option Addr} {c1 : Nat} {a2 : Option Addr} {c2 : Nat} {r : (List (Int × ByteArray × ByteArray × ByteArray)) × Int} (st : St m (own) w) (r1 : RepS (cPair cStr cStr) m a1 c1 p0) (r2 : RepS (cPair (cInt .i64) (cPair cStr (cPair cStr cStr))) m a2 c2 p1) (hr : filediff_Invert N p0 p1 = some r) : Calls Tryz.prog 33 #[.agg #[.slice a1 (List.length p0) c1], .slice a2 (List.length p1) c2] w fun e w' => ∃ (ra1 : Option Addr) (rc1 : Nat) (m' : Mem), e = .returned (.tuple #[.slice ra1 (List.length r.1) rc1, .int .i64 r.2]) ∧ m.le m' ∧ St m' (.room ra1 (List.length r.1) rc1 72 4 :: own) w' ∧ RepS (cPair (cInt .i64) (cPair cStr (cPair cStr cStr))) m' ra1 rc1 r.1 := by
 unfold filediff_Invert at hr
 have hm := m.le_refl
 refine W_calls Tryz.func33 rfl Tryz.ntmps33 [(0, .agg #[.slice a1 (List.length p0) c1]), (1, .slice a2 (List.length p1) c2)] kr rfl ?_
 refine W_sr (WO_one rfl (One_box (d := 2) (e := 25) (x := (.tmp 0)) (.agg #[.slice a1 (List.length p0) c1]) kr rfl kr st ?_))
 clear st
 intro b1 m1 w1 hle1 st hb1
 have hm := Mem.le_trans hm hle1
 have r1 := r1.mono hle1
 have r2 := r2.mono hle1
 refine WO_seg 2 [] kr kr ?_
 refine WO_et rfl (W_sr ?_)
 refine WO_one rfl (One_load_row (d := 9) (t := 25) (x := (.tmp 2)) (.agg #[.slice a1 (List.length p0) c1]) kr rfl (ev (.pointer (some ⟨b1, 0, none⟩))) st hb1 kr ?_)
 refine WO_seg 1 [(10, .slice a2 (List.length p1) c2)] kr kr ?_
 replace ⟨y1, hx1, hr⟩ := bindS hr
 refine WO_one rfl (One_fn 11 30 #[.agg #[.slice a1 (List.length p0) c1], .slice a2 (List.length p1) c2] kr rfl ?_)
 refine (filediff_Apply_ok st r1 r2 hx1).mono ?_
 clear st
 rintro _ w2 ⟨a3, c3, m2, rfl, hle2, st, r3⟩
 refine ⟨_, rfl, ?_⟩
 have hm := Mem.le_trans hm hle2
 have r2 := r2.mono hle2
 have hb1 := hb1.mono hle2
 have r1 := r1.mono hle2
 refine WO_seg 3 [(12, .agg #[.slice a3 (List.length y1.1) c3]), (13, .int .i64 y1.2)] kr kr ?_
 refine WO_one rfl (One_alloc (d := 6) (e := 25) (.agg #[.slice none 0 0]) kr rfl kr st ?_)
 clear st
 intro b2 w3 st
 refine WO_one rfl (One_store (t := 25) (x := (.tmp 6)) (y := (.tmp 12)) (v := .agg #[.slice a3 (List.length y1.1) c3]) (c' := #[.slice a3 (List.length y1.1) c3]) kr (ev (.pointer (some ⟨b2, 0, none⟩))) (ev (.agg #[.slice a3 (List.length y1.1) c3])) st kr kr ?_)
 clear st
 intro w4 st
 refine WO_seg 1 [(7, .int .i64 y1.2)] kr kr ?_
 refine WO_et rfl (W_seq ?_)
 refine W_sr (WO_seg 2 [(15, .bool (y1.2 != 0))] kr kr ?_)
 refine WO_et rfl (W_cond (y1.2 != 0) kr ?_ ?_)
 ·intro hc
  rw [if_pos hc] at hr
  refine W_sr (WO_seg 3 [(4, .slice none (List.length ([] : List (Int × ByteArray × ByteArray × ByteArray))) 0), (5, .int .i64 y1.2)] kr kr ?_)
  refine WO_et rfl (W_ret ?_)
  refine X_then_ret ?_
  obtain rfl := Option.some.inj hr
  refine X_ret [.tmp 4, .tmp 5] [.slice none (List.length ([] : List (Int × ByteArray × ByteArray × ByteArray))) 0, .int .i64 y1.2] rfl (ResAll.cons (ResAt.tmp kr) (ResAll.cons (ResAt.tmp kr) ResAll.nil)) ?_
  have st := st.nilroom 72 4
  have st := st.front1
  have st := st.tail
  have st := st.front1
  have st := st.tail
  exact ⟨none, 0, m2, rfl, hm, st, (RepS.nil _ _)⟩
 ·intro hc
  rw [if_neg (not_true hc)] at hr
  refine W_skip ?_
  refine X_then ?_
  refine W_sr (WO_one rfl (One_load_own (d := 17) (t := 25) (x := (.tmp 6)) (.agg #[.slice a3 (List.length y1.1) c3]) kr rfl (ev (.pointer (some ⟨b2, 0, none⟩))) st.head kr ?_))
  refine WO_one rfl (One_load_row (d := 18) (t := 25) (x := (.tmp 2)) (.agg #[.slice a1 (List.length p0) c1]) kr rfl (ev (.pointer (some ⟨b1, 0, none⟩))) st hb1 kr ?_)
  replace ⟨y2, hx2, hr⟩ := bindS hr
  refine WO_one rfl (One_fn 19 24 #[.agg #[.slice a3 (List.length y1.1) c3], .agg #[.slice a1 (List.length p0) c1]] kr rfl ?_)
  refine (filediff_Diff_ok st r3 r1 hx2).mono ?_
  clear st
  rintro _ w5 ⟨a4, c4, m3, rfl, hle3, st, r4⟩
  refine ⟨_, rfl, ?_⟩
  have hm := Mem.le_trans hm hle3
  have hb1 := hb1.mono hle3
  have r1 := r1.mono hle3
  have r3 := r3.mono hle3
  refine WO_seg 4 [(4, .slice a4 (List.length y2.1) c4), (5, .int .i64 y2.2)] kr kr ?_
  refine WO_et rfl (W_ret ?_)
  obtain rfl := Option.some.inj hr
  refine X_ret [.tmp 4, .tmp 5] [.slice a4 (List.length y2.1) c4, .int .i64 y2.2] rfl (ResAll.cons (ResAt.tmp kr) (ResAll.cons (ResAt.tmp kr) ResAll.nil)) ?_
  have st := st.front1
  have st := st.tail
  have st := st.front1
  have st := st.tail
  exact ⟨a4, c4, m3, rfl, hm, st, r4⟩
def testgateref07_Same_L1 (N : Nat) (p0 : (List (ByteArray × ByteArray))) (p1 : (List (ByteArray × ByteArray))) (s1 : Int) : Option ((Int) ⊕ ((Unit) ⊕ (Bool))) :=
 if (decide (s1 < (List.length p0 : Int))) = true then ((idx p0 s1).bind fun x1 => (idx p1 s1).bind fun x2 => if (!((x1.1.toList == x2.1.toList) && ((x1.2.toList == x2.2.toList) && true))) = true then (some (.inr (.inr (false)))) else (some (.inl (IntKind.wrap .i64 (s1 + 1))))) else (some (.inr (.inl ())))
def testgateref07_Same (N : Nat) (p0 : (List (ByteArray × ByteArray))) (p1 : (List (ByteArray × ByteArray))) : Option (Bool) :=
 if ((List.length p0 : Int) != (List.length p1 : Int)) = true then (some false) else ((loopM (testgateref07_Same_L1 N p0 p1) N 0).bind fun out1 => (match out1 with | .inl o1 => some true | .inr (z) => some z))
set_option maxHeartbeats 4000000 in
set_option maxRecDepth 100000 in
theorem testgateref07_Same_ok {N : Nat} {m : Mem} {own : List Piece} {w : World} {p0 : (List (ByteArray × ByteArray))} {p1 : (List (ByteArray × ByteArray))} {a1 : Option Addr} {c1 : Nat} {a2 : Option Addr} {c2 : Nat} {r : Bool} (st : St m (own) w) (r1 : RepS (cPair cStr cStr) m a1 c1 p0) (r2 : RepS (cPair cStr cStr) m a2 c2 p1) (hr : testgateref07_Same N p0 p1 = some r) : Calls Tryz.prog 32 #[.agg #[.slice a1 (List.length p0) c1], .agg #[.slice a2 (List.length p1) c2]] w fun e w' => ∃ (m' : Mem), e = .returned (.bool r) ∧ m.le m' ∧ St m' (own) w' := by
 unfold testgateref07_Same at hr
 have hm := m.le_refl
 refine W_calls Tryz.func32 rfl Tryz.ntmps32 [(0, .agg #[.slice a1 (List.length p0) c1]), (1, .agg #[.slice a2 (List.length p1) c2])] kr rfl ?_
 refine W_sr (WO_one rfl (One_box (d := 2) (e := 25) (x := (.tmp 0)) (.agg #[.slice a1 (List.length p0) c1]) kr rfl kr st ?_))
 clear st
 intro b1 m1 w1 hle1 st hb1
 have hm := Mem.le_trans hm hle1
 have r1 := r1.mono hle1
 have r2 := r2.mono hle1
 refine WO_one rfl (One_box (d := 3) (e := 25) (x := (.tmp 1)) (.agg #[.slice a2 (List.length p1) c2]) kr rfl kr st ?_)
 clear st
 intro b2 m2 w2 hle2 st hb2
 have hm := Mem.le_trans hm hle2
 have r1 := r1.mono hle2
 have r2 := r2.mono hle2
 have hb1 := hb1.mono hle2
 refine WO_seg 1 [] kr kr ?_
 refine WO_et rfl (W_seq ?_)
 refine W_sr (WO_seg 1 [(6, .pointer (some ⟨b1, 0, none⟩))] kr kr ?_)
 refine WO_one rfl (One_load_row (d := 7) (t := 23) (x := (.tmp 6)) (.slice a1 (List.length p0) c1) kr rfl (ev (.pointer (some ⟨b1, 0, none⟩))) st hb1 kr ?_)
 refine WO_seg 2 [(8, .int .i64 (List.length p0 : Int)), (9, .pointer (some ⟨b2, 0, none⟩))] kr kr ?_
 refine WO_one rfl (One_load_row (d := 10) (t := 23) (x := (.tmp 9)) (.slice a2 (List.length p1) c2) kr rfl (ev (.pointer (some ⟨b2, 0, none⟩))) st hb2 kr ?_)
 refine WO_seg 2 [(12, .bool ((List.length p0 : Int) != (List.length p1 : Int)))] kr kr ?_
 refine WO_et rfl (W_cond ((List.length p0 : Int) != (List.length p1 : Int)) kr ?_ ?_)
 ·intro hc
  rw [if_pos hc] at hr
  refine W_sr (WO_seg 1 [(4, .bool false)] kr kr ?_)
  refine WO_et rfl (W_ret ?_)
  refine X_then_ret ?_
  obtain rfl := Option.some.inj hr
  refine X_ret [.tmp 4] [.bool false] rfl (ResAll.cons (ResAt.tmp kr) ResAll.nil) ?_
  exact ⟨m2, rfl, hm, st⟩
 ·intro hc
  rw [if_neg (not_true hc)] at hr
  refine W_skip ?_
  refine X_then ?_
  refine W_seq ?_
  refine W_sr (WO_seg 1 [(13, .pointer (some ⟨b1, 0, none⟩))] kr kr ?_)
  refine WO_one rfl (One_load_row (d := 14) (t := 23) (x := (.tmp 13)) (.slice a1 (List.length p0) c1) kr rfl (ev (.pointer (some ⟨b1, 0, none⟩))) st hb1 kr ?_)
  refine WO_seg 2 [(15, .int .i64 (List.length p0 : Int)), (16, .int .i64 0)] kr kr ?_
  refine WO_et rfl (W_block ?_)
  replace ⟨out1, hr, hrKu1⟩ := bindS hr
  refine W_cut (.exit 0) (fun L' w' => ∃ (o1 : Unit) (m3 : Mem), (.inl o1) = out1 ∧ L' = [] ∧ m.le m3 ∧ St m3 (own) w') ?_ ?_
  ·clear hr st
   rintro _ w3 ⟨o1, m3, rfl, rfl, hm, st⟩
   have hr := hrKu1
   clear hrKu1
   dsimp only at hr
   refine X_block_eq ?_
   refine X_then ?_
   refine W_sr (WO_seg 1 [(4, .bool true)] kr kr ?_)
   refine WO_et rfl (W_ret ?_)
   obtain rfl := Option.some.inj hr
   refine X_ret [.tmp 4] [.bool true] rfl (ResAll.cons (ResAt.tmp kr) ResAll.nil) ?_
   exact ⟨m3, rfl, hm, st⟩
  intro K0_u1
  refine W_env _ kr (W_loop (fun k1 L' w' => ∃ (s1 : Int) (m4 : Mem), loopM (testgateref07_Same_L1 N p0 p1) k1 s1 = some out1 ∧ L' = [(2, .pointer (some ⟨b1, 0, none⟩)), (3, .pointer (some ⟨b2, 0, none⟩)), (15, .int .i64 (List.length p0 : Int)), (16, .int .i64 s1)] ∧ m.le m4 ∧ St m4 (own) w' ∧ MRow m4 b1 0 [.slice a1 (List.length p0) c1] ∧ RepS (cPair cStr cStr) m4 a1 c1 p0 ∧ MRow m4 b2 0 [.slice a2 (List.length p1) c2] ∧ RepS (cPair cStr cStr) m4 a2 c2 p1) N ⟨0, m2, hr, rfl, hm, st, hb1, r1, hb2, r2⟩ ?_)
  clear st hr
  rintro k1 _ w4 ⟨s1, m4, hL, rfl, hm, st, hb1, r1, hb2, r2⟩
  rcases k1 with _ | k1
  ·exact loopM_zero hL
  ·obtain ⟨qu1, hr, hSu1, hBu1⟩ := loopM_succ hL
   clear hL
   unfold testgateref07_Same_L1 at hr
   refine W_sr (WO_seg 1 [(17, .bool (decide (s1 < (List.length p0 : Int))))] kr kr ?_)
   refine WO_et rfl (W_seq ?_)
   refine W_cond (decide (s1 < (List.length p0 : Int))) kr ?_ ?_
   ·intro hc
    rw [if_pos hc] at hr
    refine W_skip ?_
    refine X_then ?_
    refine W_seq ?_
    refine W_block ?_
    refine W_sr (WO_seg 2 [(5, .int .i64 s1)] kr kr ?_)
    refine WO_et rfl (W_seq ?_)
    refine W_draw [(11, fun w' => Inv m4 w' ∧ True)] kr st ?_
    clear st
    intro w5 _ st
    have hmS1 := m4.le_refl
    refine ⟨⟨.inr ⟨Inv.anti st.inv hmS1, trivial⟩, trivial⟩, ?_⟩
    refine WA_pure 0 19 (.pointer (some ⟨b1, 0, none⟩)) kr rfl kr (.head _) (QP_then (QP_block (QP_then (QP_then (QP_block (QP_then QP_body)))))) ?_
    refine WA_load_row (t := 23) (x := (.tmp 19)) 1 20 (.slice a1 (List.length p0) c1) kr rfl kr (.head _) (QP_then (QP_block (QP_then (QP_then (QP_block (QP_then QP_body)))))) (fun _ h => h.1) (ev (.pointer (some ⟨b1, 0, none⟩))) hb1 kr ?_
    refine WA_pure 2 21 (.int .i64 s1) kr rfl kr (.head _) (QP_then (QP_block (QP_then (QP_then (QP_block (QP_then QP_body)))))) ?_
    replace ⟨x1, hx1, hr⟩ := bindS hr
    refine WA_index (t := 23) (e := 74) (x := (.tmp 20)) (y := (.tmp 21)) 3 22 (cPair cStr cStr) kr rfl kr (.head _) (QP_then (QP_block (QP_then (QP_then (QP_block (QP_then QP_body)))))) (ev (.slice a1 (List.length p0) c1)) (ev (.int .i64 s1)) kr r1 hx1 ?_
    rintro b3 f1 cs1 ⟨_, _, rfl, rfl, rfl⟩ hq1
    refine WA_load_row (t := 74) (x := (.tmp 22)) 4 23 (.agg #[.string x1.1, .string x1.2]) kr rfl kr (.head _) (QP_then (QP_block (QP_then (QP_then (QP_block (QP_then QP_body)))))) (fun _ h => h.1) (ev (.pointer (some ⟨b3, f1, none⟩))) hq1 kr ?_
    refine WA_pure 5 24 (.pointer (some ⟨b2, 0, none⟩)) kr rfl kr (.head _) (QP_then (QP_block (QP_then (QP_then (QP_block (QP_then QP_body)))))) ?_
    refine WA_load_row (t := 23) (x := (.tmp 24)) 6 25 (.slice a2 (List.length p1) c2) kr rfl kr (.head _) (QP_then (QP_block (QP_then (QP_then (QP_block (QP_then QP_body)))))) (fun _ h => h.1) (ev (.pointer (some ⟨b2, 0, none⟩))) hb2 kr ?_
    refine WA_pure 7 26 (.int .i64 s1) kr rfl kr (.head _) (QP_then (QP_block (QP_then (QP_then (QP_block (QP_then QP_body)))))) ?_
    replace ⟨x2, hx2, hr⟩ := bindS hr
    refine WA_index (t := 23) (e := 74) (x := (.tmp 25)) (y := (.tmp 26)) 8 27 (cPair cStr cStr) kr rfl kr (.head _) (QP_then (QP_block (QP_then (QP_then (QP_block (QP_then QP_body)))))) (ev (.slice a2 (List.length p1) c2)) (ev (.int .i64 s1)) kr r2 hx2 ?_
    rintro b4 f2 cs2 ⟨_, _, rfl, rfl, rfl⟩ hq2
    refine WA_load_row (t := 74) (x := (.tmp 27)) 9 28 (.agg #[.string x2.1, .string x2.2]) kr rfl kr (.head _) (QP_then (QP_block (QP_then (QP_then (QP_block (QP_then QP_body)))))) (fun _ h => h.1) (ev (.pointer (some ⟨b4, f2, none⟩))) hq2 kr ?_
    refine WA_one 10 kr  (One_neAgg (d := 29) (t := 74) (t2 := 74) (x := (.tmp 23)) (y := (.tmp 28)) (xs := #[.string x1.1, .string x1.2]) (ys := #[.string x2.1, .string x2.2]) ((x1.1.toList == x2.1.toList) && ((x1.2.toList == x2.2.toList) && true)) kr rfl (ev (.agg #[.string x1.1, .string x1.2])) (ev (.agg #[.string x2.1, .string x2.2])) kr kr kr ?_)
    refine ⟨⟨.inr ⟨Inv.anti st.inv hmS1, trivial⟩, trivial⟩, ?_⟩
    refine WA_done kr ?_
    refine X_then ?_
    refine W_cond (!((x1.1.toList == x2.1.toList) && ((x1.2.toList == x2.2.toList) && true))) kr ?_ ?_
    ·intro hc
     rw [if_pos hc] at hr
     refine W_sr (WO_seg 1 [(4, .bool false)] kr kr ?_)
     refine WO_et rfl (W_ret ?_)
     refine X_block_ret ?_
     refine X_then_ret ?_
     obtain rfl := Option.some.inj hr
     have ho := hBu1 _ rfl
     subst ho
     have hr := hrKu1
     dsimp only at hr
     refine X_then_ret ?_
     refine X_block_ret ?_
     refine X_then_ret ?_
     obtain rfl := Option.some.inj hr
     refine X_ret [.tmp 4] [.bool false] rfl (ResAll.cons (ResAt.tmp kr) ResAll.nil) ?_
     exact ⟨m4, rfl, hm, st⟩
    ·intro hc
     rw [if_neg (not_true hc)] at hr
     refine W_skip ?_
     refine X_block ?_
     refine X_then ?_
     refine W_region ?_
     refine WO_seg 2 [(16, .int .i64 (IntKind.wrap .i64 (s1 + 1)))] kr kr ?_
     refine WO_end rfl ?_
     obtain rfl := Option.some.inj hr
     have hL := hSu1 _ rfl
     exact X_env _ kr (X_round k1 (Nat.lt_succ_self _) ⟨IntKind.wrap .i64 (s1 + 1), m4, hL, rfl, hm, st, hb1, r1, hb2, r2⟩)
   ·intro hc
    rw [if_neg (not_true hc)] at hr
    refine W_exit ?_
    refine X_then_exit ?_
    obtain rfl := Option.some.inj hr
    have ho := hBu1 _ rfl
    refine X_then_exit ?_
    exact X_env _ kr (K0_u1 _ _ ⟨(), m4, ho, rfl, hm, st⟩)
def testgatelaw15_awake (N : Nat) : Option (Bool) :=
 (filediff_Diff N ([((⟨#[97]⟩ : ByteArray), (⟨#[49]⟩ : ByteArray))]) ([((⟨#[98]⟩ : ByteArray), (⟨#[49]⟩ : ByteArray)), ((⟨#[99]⟩ : ByteArray), (⟨#[50]⟩ : ByteArray))])).bind fun y1 => (filediff_Apply N ([((⟨#[97]⟩ : ByteArray), (⟨#[49]⟩ : ByteArray))]) y1.1).bind fun y2 => (filediff_Invert N ([((⟨#[97]⟩ : ByteArray), (⟨#[49]⟩ : ByteArray))]) y1.1).bind fun y3 => (if (y1.2 == 0) = true then (if (y2.2 == 0) = true then (if (y3.2 == 0) = true then (if ((List.length y1.1 : Int) == 2) = true then ((idx y1.1 0).bind fun x1 => if ((x1.1 == 4) && ((x1.2.1.toList == (⟨#[98]⟩ : ByteArray).toList) && ((x1.2.2.1.toList == (⟨#[97]⟩ : ByteArray).toList) && ((x1.2.2.2.toList == (⟨#[]⟩ : ByteArray).toList) && true)))) = true then ((testgateref07_Same N y2.1 ([((⟨#[98]⟩ : ByteArray), (⟨#[49]⟩ : ByteArray)), ((⟨#[99]⟩ : ByteArray), (⟨#[50]⟩ : ByteArray))])).bind fun y4 => if y4 = true then (some ((List.length y3.1 : Int) == 2)) else (some false)) else (some false)) else (some false)) else (some false)) else (some false)) else (some false) : Option (Bool)).bind fun o1 => some o1
set_option maxHeartbeats 4000000 in
set_option maxRecDepth 100000 in
theorem testgatelaw15_awake_ok {N : Nat} {m : Mem} {own : List Piece} {w : World} {r : Bool} (st : St m (own) w) (hr : testgatelaw15_awake N = some r) : Calls Tryz.prog 27 #[] w fun e w' => ∃ (m' : Mem), e = .returned (.bool r) ∧ m.le m' ∧ St m' (own) w' := by
 unfold testgatelaw15_awake at hr
 have hm := m.le_refl
 refine W_calls Tryz.func27 rfl Tryz.ntmps27 [] kr rfl ?_
 refine W_sr (WO_seg 1 [] kr kr ?_)
 refine WO_et rfl (W_sr ?_)
 refine WO_seg 1 [(9, .agg #[.string (⟨#[97]⟩ : ByteArray), .string (⟨#[49]⟩ : ByteArray)])] kr kr ?_
 refine WO_one rfl (One_buildSlice (d := 10) (t := 23) (e := 74) (len := 1) (parts := #[(0, (.tmp 9))]) (cPair cStr cStr) (xs := [((⟨#[97]⟩ : ByteArray), (⟨#[49]⟩ : ByteArray))]) [.string (⟨#[97]⟩ : ByteArray), .string (⟨#[49]⟩ : ByteArray)] kr rfl (fun _ => buildCells_run kr _) rfl rfl st ⟨[.string (⟨#[97]⟩ : ByteArray), .string (⟨#[49]⟩ : ByteArray)], _, rfl, ⟨_, _, rfl, rfl, rfl⟩, rfl⟩ ?_)
 clear st
 intro b1 m1 w1 hle1 st r1
 have hm := Mem.le_trans hm hle1
 refine WO_seg 1 [(11, .agg #[.slice (some ⟨b1, 0, none⟩) (List.length ([((⟨#[97]⟩ : ByteArray), (⟨#[49]⟩ : ByteArray))])) 1])] kr kr ?_
 refine WO_one rfl (One_alloc (d := 1) (e := 25) (.agg #[.slice none 0 0]) kr rfl kr st ?_)
 clear st
 intro b2 w2 st
 refine WO_one rfl (One_store (t := 25) (x := (.tmp 1)) (y := (.tmp 11)) (v := .agg #[.slice (some ⟨b1, 0, none⟩) (List.length ([((⟨#[97]⟩ : ByteArray), (⟨#[49]⟩ : ByteArray))])) 1]) (c' := #[.slice (some ⟨b1, 0, none⟩) (List.length ([((⟨#[97]⟩ : ByteArray), (⟨#[49]⟩ : ByteArray))])) 1]) kr (ev (.pointer (some ⟨b2, 0, none⟩))) (ev (.agg #[.slice (some ⟨b1, 0, none⟩) (List.length ([((⟨#[97]⟩ : ByteArray), (⟨#[49]⟩ : ByteArray))])) 1])) st kr kr ?_)
 clear st
 intro w3 st
 refine WO_et rfl (W_sr ?_)
 refine WO_seg 2 [(12, .agg #[.string (⟨#[98]⟩ : ByteArray), .string (⟨#[49]⟩ : ByteArray)]), (13, .agg #[.string (⟨#[99]⟩ : ByteArray), .string (⟨#[50]⟩ : ByteArray)])] kr kr ?_
 refine WO_one rfl (One_buildSlice (d := 14) (t := 23) (e := 74) (len := 2) (parts := #[(0, (.tmp 12)), (1, (.tmp 13))]) (cPair cStr cStr) (xs := [((⟨#[98]⟩ : ByteArray), (⟨#[49]⟩ : ByteArray)), ((⟨#[99]⟩ : ByteArray), (⟨#[50]⟩ : ByteArray))]) [.string (⟨#[98]⟩ : ByteArray), .string (⟨#[49]⟩ : ByteArray), .string (⟨#[99]⟩ : ByteArray), .string (⟨#[50]⟩ : ByteArray)] kr rfl (fun _ => buildCells_run kr _) rfl rfl st ⟨[.string (⟨#[98]⟩ : ByteArray), .string (⟨#[49]⟩ : ByteArray)], _, rfl, ⟨_, _, rfl, rfl, rfl⟩, ⟨[.string (⟨#[99]⟩ : ByteArray), .string (⟨#[50]⟩ : ByteArray)], _, rfl, ⟨_, _, rfl, rfl, rfl⟩, rfl⟩⟩ ?_)
 clear st
 intro b3 m2 w4 hle2 st r2
 have hm := Mem.le_trans hm hle2
 have r1 := r1.mono hle2
 refine WO_seg 1 [(15, .agg #[.slice (some ⟨b3, 0, none⟩) (List.length ([((⟨#[98]⟩ : ByteArray), (⟨#[49]⟩ : ByteArray)), ((⟨#[99]⟩ : ByteArray), (⟨#[50]⟩ : ByteArray))])) 2])] kr kr ?_
 refine WO_one rfl (One_alloc (d := 2) (e := 25) (.agg #[.slice none 0 0]) kr rfl kr st ?_)
 clear st
 intro b4 w5 st
 refine WO_one rfl (One_store (t := 25) (x := (.tmp 2)) (y := (.tmp 15)) (v := .agg #[.slice (some ⟨b3, 0, none⟩) (List.length ([((⟨#[98]⟩ : ByteArray), (⟨#[49]⟩ : ByteArray)), ((⟨#[99]⟩ : ByteArray), (⟨#[50]⟩ : ByteArray))])) 2]) (c' := #[.slice (some ⟨b3, 0, none⟩) (List.length ([((⟨#[98]⟩ : ByteArray), (⟨#[49]⟩ : ByteArray)), ((⟨#[99]⟩ : ByteArray), (⟨#[50]⟩ : ByteArray))])) 2]) kr (ev (.pointer (some ⟨b4, 0, none⟩))) (ev (.agg #[.slice (some ⟨b3, 0, none⟩) (List.length ([((⟨#[98]⟩ : ByteArray), (⟨#[49]⟩ : ByteArray)), ((⟨#[99]⟩ : ByteArray), (⟨#[50]⟩ : ByteArray))])) 2])) st kr kr ?_)
 clear st
 intro w6 st
 refine WO_et rfl (W_sr ?_)
 refine WO_one rfl (One_load_own (d := 17) (t := 25) (x := (.tmp 1)) (.agg #[.slice (some ⟨b1, 0, none⟩) (List.length ([((⟨#[97]⟩ : ByteArray), (⟨#[49]⟩ : ByteArray))])) 1]) kr rfl (ev (.pointer (some ⟨b2, 0, none⟩))) st.tail.tail.head kr ?_)
 refine WO_one rfl (One_load_own (d := 18) (t := 25) (x := (.tmp 2)) (.agg #[.slice (some ⟨b3, 0, none⟩) (List.length ([((⟨#[98]⟩ : ByteArray), (⟨#[49]⟩ : ByteArray)), ((⟨#[99]⟩ : ByteArray), (⟨#[50]⟩ : ByteArray))])) 2]) kr rfl (ev (.pointer (some ⟨b4, 0, none⟩))) st.head kr ?_)
 replace ⟨y1, hx1, hr⟩ := bindS hr
 refine WO_one rfl (One_fn 19 24 #[.agg #[.slice (some ⟨b1, 0, none⟩) (List.length ([((⟨#[97]⟩ : ByteArray), (⟨#[49]⟩ : ByteArray))])) 1], .agg #[.slice (some ⟨b3, 0, none⟩) (List.length ([((⟨#[98]⟩ : ByteArray), (⟨#[49]⟩ : ByteArray)), ((⟨#[99]⟩ : ByteArray), (⟨#[50]⟩ : ByteArray))])) 2]] kr rfl ?_)
 refine (filediff_Diff_ok st r1 r2 hx1).mono ?_
 clear st
 rintro _ w7 ⟨a1, c1, m3, rfl, hle3, st, r3⟩
 refine ⟨_, rfl, ?_⟩
 have hm := Mem.le_trans hm hle3
 have r1 := r1.mono hle3
 have r2 := r2.mono hle3
 refine WO_seg 5 [(3, .slice a1 (List.length y1.1) c1), (4, .int .i64 y1.2)] kr kr ?_
 refine WO_et rfl (W_sr ?_)
 refine WO_one rfl (One_load_own (d := 23) (t := 25) (x := (.tmp 1)) (.agg #[.slice (some ⟨b1, 0, none⟩) (List.length ([((⟨#[97]⟩ : ByteArray), (⟨#[49]⟩ : ByteArray))])) 1]) kr rfl (ev (.pointer (some ⟨b2, 0, none⟩))) st.tail.tail.tail.head kr ?_)
 refine WO_seg 1 [(24, .slice a1 (List.length y1.1) c1)] kr kr ?_
 replace ⟨y2, hx2, hr⟩ := bindS hr
 refine WO_one rfl (One_fn 25 30 #[.agg #[.slice (some ⟨b1, 0, none⟩) (List.length ([((⟨#[97]⟩ : ByteArray), (⟨#[49]⟩ : ByteArray))])) 1], .slice a1 (List.length y1.1) c1] kr rfl ?_)
 refine (filediff_Apply_ok st r1 r3 hx2).mono ?_
 clear st
 rintro _ w8 ⟨a2, c2, m4, rfl, hle4, st, r4⟩
 refine ⟨_, rfl, ?_⟩
 have hm := Mem.le_trans hm hle4
 have r3 := r3.mono hle4
 have r1 := r1.mono hle4
 have r2 := r2.mono hle4
 refine WO_seg 3 [(26, .agg #[.slice a2 (List.length y2.1) c2]), (27, .int .i64 y2.2)] kr kr ?_
 refine WO_one rfl (One_alloc (d := 5) (e := 25) (.agg #[.slice none 0 0]) kr rfl kr st ?_)
 clear st
 intro b5 w9 st
 refine WO_one rfl (One_store (t := 25) (x := (.tmp 5)) (y := (.tmp 26)) (v := .agg #[.slice a2 (List.length y2.1) c2]) (c' := #[.slice a2 (List.length y2.1) c2]) kr (ev (.pointer (some ⟨b5, 0, none⟩))) (ev (.agg #[.slice a2 (List.length y2.1) c2])) st kr kr ?_)
 clear st
 intro w10 st
 refine WO_seg 1 [(6, .int .i64 y2.2)] kr kr ?_
 refine WO_et rfl (W_sr ?_)
 refine WO_one rfl (One_load_own (d := 29) (t := 25) (x := (.tmp 1)) (.agg #[.slice (some ⟨b1, 0, none⟩) (List.length ([((⟨#[97]⟩ : ByteArray), (⟨#[49]⟩ : ByteArray))])) 1]) kr rfl (ev (.pointer (some ⟨b2, 0, none⟩))) st.tail.tail.tail.tail.tail.head kr ?_)
 refine WO_seg 1 [(30, .slice a1 (List.length y1.1) c1)] kr kr ?_
 replace ⟨y3, hx3, hr⟩ := bindS hr
 refine WO_one rfl (One_fn 31 33 #[.agg #[.slice (some ⟨b1, 0, none⟩) (List.length ([((⟨#[97]⟩ : ByteArray), (⟨#[49]⟩ : ByteArray))])) 1], .slice a1 (List.length y1.1) c1] kr rfl ?_)
 refine (filediff_Invert_ok st r1 r3 hx3).mono ?_
 clear st
 rintro _ w11 ⟨a3, c3, m5, rfl, hle5, st, r5⟩
 refine ⟨_, rfl, ?_⟩
 have hm := Mem.le_trans hm hle5
 have r3 := r3.mono hle5
 have r1 := r1.mono hle5
 have r4 := r4.mono hle5
 have r2 := r2.mono hle5
 refine WO_seg 5 [(7, .slice a3 (List.length y3.1) c3), (8, .int .i64 y3.2)] kr kr ?_
 refine WO_et rfl (W_sr ?_)
 replace ⟨o1, hr, hrK⟩ := bindS hr
 refine WO_cut (j := 33) (fun L' w' => ∃ (m6 : Mem), L' = [(0, .bool o1)] ∧ m.le m6 ∧ St m6 (.blk b5 (.cells #[.slice a2 (List.length y2.1) c2] 25 (0, 0)) :: .blk b4 (.cells #[.slice (some ⟨b3, 0, none⟩) (List.length ([((⟨#[98]⟩ : ByteArray), (⟨#[49]⟩ : ByteArray)), ((⟨#[99]⟩ : ByteArray), (⟨#[50]⟩ : ByteArray))])) 2] 25 (0, 0)) :: .blk b2 (.cells #[.slice (some ⟨b1, 0, none⟩) (List.length ([((⟨#[97]⟩ : ByteArray), (⟨#[49]⟩ : ByteArray))])) 1] 25 (0, 0)) :: .room a3 (List.length y3.1) c3 72 4 :: .room a2 (List.length y2.1) c2 74 2 :: .room a1 (List.length y1.1) c1 72 4 :: .room (some ⟨b3, 0, none⟩) (List.length ([((⟨#[98]⟩ : ByteArray), (⟨#[49]⟩ : ByteArray)), ((⟨#[99]⟩ : ByteArray), (⟨#[50]⟩ : ByteArray))])) 2 74 2 :: .room (some ⟨b1, 0, none⟩) (List.length ([((⟨#[97]⟩ : ByteArray), (⟨#[49]⟩ : ByteArray))])) 1 74 2 :: own) w' ∧ RepS (cPair cStr cStr) m6 a2 c2 y2.1 ∧ RepS (cPair cStr cStr) m6 (some ⟨b3, 0, none⟩) 2 ([((⟨#[98]⟩ : ByteArray), (⟨#[49]⟩ : ByteArray)), ((⟨#[99]⟩ : ByteArray), (⟨#[50]⟩ : ByteArray))]) ∧ RepS (cPair cStr cStr) m6 (some ⟨b1, 0, none⟩) 1 ([((⟨#[97]⟩ : ByteArray), (⟨#[49]⟩ : ByteArray))])) ?_ ?_
 ·clear hr st
  have hr := hrK
  clear hrK
  rintro _ w12 ⟨m6, rfl, hm, st, r4, r2, r1⟩
  refine WO_et rfl (W_ret ?_)
  obtain rfl := Option.some.inj hr
  refine X_ret [.tmp 0] [.bool o1] rfl (ResAll.cons (ResAt.tmp kr) ResAll.nil) ?_
  have st := st.tail
  have st := st.tail
  have st := st.tail
  have st := st.tail
  have st := st.tail
  have st := st.tail
  have st := st.tail
  have st := st.tail
  exact ⟨m6, rfl, hm, st⟩
 ·intro K
  clear hrK
  refine WO_seg 3 [(36, .bool (y1.2 == 0))] kr kr ?_
  rcases bcases (y1.2 == 0) with hc | hc
  ·rw [if_pos hc] at hr
   refine WO_fact (t := 36) (b := true) (y1.2 == 0) kr hc ?_
   refine WO_seg 4 [(40, .bool (y2.2 == 0))] kr kr ?_
   rcases bcases (y2.2 == 0) with hc | hc
   ·rw [if_pos hc] at hr
    refine WO_fact (t := 40) (b := true) (y2.2 == 0) kr hc ?_
    refine WO_seg 4 [(44, .bool (y3.2 == 0))] kr kr ?_
    rcases bcases (y3.2 == 0) with hc | hc
    ·rw [if_pos hc] at hr
     refine WO_fact (t := 44) (b := true) (y3.2 == 0) kr hc ?_
     refine WO_seg 5 [(49, .bool ((List.length y1.1 : Int) == 2))] kr kr ?_
     rcases bcases ((List.length y1.1 : Int) == 2) with hc | hc
     ·rw [if_pos hc] at hr
      refine WO_fact (t := 49) (b := true) ((List.length y1.1 : Int) == 2) kr hc ?_
      refine WO_seg 1 [(50, .slice a1 (List.length y1.1) c1)] kr kr ?_
      replace ⟨x1, hx4, hr⟩ := bindS hr
      refine WO_one rfl (One_index (d := 51) (t := 58) (e := 72) (x := (.tmp 50)) (y := (.const (.int .i64 0))) (cPair (cInt .i64) (cPair cStr (cPair cStr cStr))) kr rfl (ev (.slice a1 (List.length y1.1) c1)) (ev (.int .i64 0)) kr r3 hx4 ?_)
      rintro b6 f1 cs1 ⟨_, _, rfl, rfl, ⟨_, _, rfl, rfl, ⟨_, _, rfl, rfl, rfl⟩⟩⟩ hq1
      refine WO_one rfl (One_load_row (d := 52) (t := 72) (x := (.tmp 51)) (.agg #[.int .i64 x1.1, .string x1.2.1, .string x1.2.2.1, .string x1.2.2.2]) kr rfl (ev (.pointer (some ⟨b6, f1, none⟩))) st hq1 kr ?_)
      refine WO_seg 1 [(53, .agg #[.int .i64 4, .string (⟨#[98]⟩ : ByteArray), .string (⟨#[97]⟩ : ByteArray), .string (⟨#[]⟩ : ByteArray)])] kr kr ?_
      refine WO_one rfl (One_eqAgg (d := 54) (t := 72) (t2 := 72) (x := (.tmp 52)) (y := (.tmp 53)) (xs := #[.int .i64 x1.1, .string x1.2.1, .string x1.2.2.1, .string x1.2.2.2]) (ys := #[.int .i64 4, .string (⟨#[98]⟩ : ByteArray), .string (⟨#[97]⟩ : ByteArray), .string (⟨#[]⟩ : ByteArray)]) ((x1.1 == 4) && ((x1.2.1.toList == (⟨#[98]⟩ : ByteArray).toList) && ((x1.2.2.1.toList == (⟨#[97]⟩ : ByteArray).toList) && ((x1.2.2.2.toList == (⟨#[]⟩ : ByteArray).toList) && true)))) kr rfl (ev (.agg #[.int .i64 x1.1, .string x1.2.1, .string x1.2.2.1, .string x1.2.2.2])) (ev (.agg #[.int .i64 4, .string (⟨#[98]⟩ : ByteArray), .string (⟨#[97]⟩ : ByteArray), .string (⟨#[]⟩ : ByteArray)])) kr kr kr ?_)
      refine WO_seg 2 [(56, .bool ((x1.1 == 4) && ((x1.2.1.toList == (⟨#[98]⟩ : ByteArray).toList) && ((x1.2.2.1.toList == (⟨#[97]⟩ : ByteArray).toList) && ((x1.2.2.2.toList == (⟨#[]⟩ : ByteArray).toList) && true)))))] kr kr ?_
      rcases bcases ((x1.1 == 4) && ((x1.2.1.toList == (⟨#[98]⟩ : ByteArray).toList) && ((x1.2.2.1.toList == (⟨#[97]⟩ : ByteArray).toList) && ((x1.2.2.2.toList == (⟨#[]⟩ : ByteArray).toList) && true)))) with hc | hc
      ·rw [if_pos hc] at hr
       refine WO_fact (t := 56) (b := true) ((x1.1 == 4) && ((x1.2.1.toList == (⟨#[98]⟩ : ByteArray).toList) && ((x1.2.2.1.toList == (⟨#[97]⟩ : ByteArray).toList) && ((x1.2.2.2.toList == (⟨#[]⟩ : ByteArray).toList) && true)))) kr hc ?_
       refine WO_one rfl (One_load_own (d := 57) (t := 25) (x := (.tmp 5)) (.agg #[.slice a2 (List.length y2.1) c2]) kr rfl (ev (.pointer (some ⟨b5, 0, none⟩))) st.tail.head kr ?_)
       refine WO_one rfl (One_load_own (d := 58) (t := 25) (x := (.tmp 2)) (.agg #[.slice (some ⟨b3, 0, none⟩) (List.length ([((⟨#[98]⟩ : ByteArray), (⟨#[49]⟩ : ByteArray)), ((⟨#[99]⟩ : ByteArray), (⟨#[50]⟩ : ByteArray))])) 2]) kr rfl (ev (.pointer (some ⟨b4, 0, none⟩))) st.tail.tail.tail.tail.head kr ?_)
       replace ⟨y4, hx5, hr⟩ := bindS hr
       refine WO_one rfl (One_fn 59 32 #[.agg #[.slice a2 (List.length y2.1) c2], .agg #[.slice (some ⟨b3, 0, none⟩) (List.length ([((⟨#[98]⟩ : ByteArray), (⟨#[49]⟩ : ByteArray)), ((⟨#[99]⟩ : ByteArray), (⟨#[50]⟩ : ByteArray))])) 2]] kr rfl ?_)
       refine (testgateref07_Same_ok st r4 r2 hx5).mono ?_
       clear st
       rintro _ w13 ⟨m7, rfl, hle6, st⟩
       refine ⟨_, rfl, ?_⟩
       have hm := Mem.le_trans hm hle6
       have r3 := r3.mono hle6
       have r5 := r5.mono hle6
       have hq1 := hq1.mono hle6
       have r4 := r4.mono hle6
       have r2 := r2.mono hle6
       have r1 := r1.mono hle6
       refine WO_seg 2 [(61, .bool y4)] kr kr ?_
       rcases bcases y4 with hc | hc
       ·rw [if_pos hc] at hr
        refine WO_fact (t := 61) (b := true) y4 kr hc ?_
        refine WO_seg 5 [(0, .bool ((List.length y3.1 : Int) == 2))] kr kr ?_
        obtain rfl := Option.some.inj hr
        have st := st.front7.front6.front5.front5.front4.front7.front7.front7
        exact WO_env _ kr (K _ _ ⟨m7, rfl, hm, st, r4, r2, r1⟩)
       ·rw [if_neg (not_true hc)] at hr
        refine WO_fact (t := 61) (b := false) y4 kr hc ?_
        refine WO_seg 5 [(0, .bool false)] kr kr ?_
        obtain rfl := Option.some.inj hr
        have st := st.front7.front6.front5.front5.front4.front7.front7.front7
        exact WO_env _ kr (K _ _ ⟨m7, rfl, hm, st, r4, r2, r1⟩)
      ·rw [if_neg (not_true hc)] at hr
       refine WO_fact (t := 56) (b := false) ((x1.1 == 4) && ((x1.2.1.toList == (⟨#[98]⟩ : ByteArray).toList) && ((x1.2.2.1.toList == (⟨#[97]⟩ : ByteArray).toList) && ((x1.2.2.2.toList == (⟨#[]⟩ : ByteArray).toList) && true)))) kr hc ?_
       refine WO_seg 10 [(0, .bool false)] kr kr ?_
       obtain rfl := Option.some.inj hr
       have st := st.front7.front6.front5.front5.front4.front7.front7.front7
       exact WO_env _ kr (K _ _ ⟨m5, rfl, hm, st, r4, r2, r1⟩)
     ·rw [if_neg (not_true hc)] at hr
      refine WO_fact (t := 49) (b := false) ((List.length y1.1 : Int) == 2) kr hc ?_
      refine WO_seg 17 [(0, .bool false)] kr kr ?_
      obtain rfl := Option.some.inj hr
      have st := st.front7.front6.front5.front5.front4.front7.front7.front7
      exact WO_env _ kr (K _ _ ⟨m5, rfl, hm, st, r4, r2, r1⟩)
    ·rw [if_neg (not_true hc)] at hr
     refine WO_fact (t := 44) (b := false) (y3.2 == 0) kr hc ?_
     refine WO_seg 22 [(0, .bool false)] kr kr ?_
     obtain rfl := Option.some.inj hr
     have st := st.front7.front6.front5.front5.front4.front7.front7.front7
     exact WO_env _ kr (K _ _ ⟨m5, rfl, hm, st, r4, r2, r1⟩)
   ·rw [if_neg (not_true hc)] at hr
    refine WO_fact (t := 40) (b := false) (y2.2 == 0) kr hc ?_
    refine WO_seg 26 [(0, .bool false)] kr kr ?_
    obtain rfl := Option.some.inj hr
    have st := st.front7.front6.front5.front5.front4.front7.front7.front7
    exact WO_env _ kr (K _ _ ⟨m5, rfl, hm, st, r4, r2, r1⟩)
  ·rw [if_neg (not_true hc)] at hr
   refine WO_fact (t := 36) (b := false) (y1.2 == 0) kr hc ?_
   refine WO_seg 30 [(0, .bool false)] kr kr ?_
   obtain rfl := Option.some.inj hr
   have st := st.front7.front6.front5.front5.front4.front7.front7.front7
   exact WO_env _ kr (K _ _ ⟨m5, rfl, hm, st, r4, r2, r1⟩)
def testgatelaw15_FilediffRenames_L2 (N : Nat) (y1 : (List Int × Int) × ((List (ByteArray × ByteArray)))) (x1 : ByteArray × ByteArray) (s2 : Bool × Int) : Option ((Bool × Int) ⊕ ((Bool))) :=
 if (decide (s2.2 < (List.length y1.2 : Int))) = true then ((idx y1.2 s2.2).bind fun x2 => (if s2.1 = true then (some true) else (if (!(x2.1.toList == x1.1.toList)) = true then (some (x2.2.toList == x1.2.toList)) else (some false)) : Option (Bool)).bind fun o4 => some (.inl (o4, IntKind.wrap .i64 (s2.2 + 1)))) else (some (.inr s2.1))
def testgatelaw15_FilediffRenames_L1 (N : Nat) (y1 : (List Int × Int) × ((List (ByteArray × ByteArray)))) (s1 : Int × Int × (List (ByteArray × ByteArray)) × List (Int) × Int) : Option ((Int × Int × (List (ByteArray × ByteArray)) × List (Int) × Int) ⊕ ((Int × (List (ByteArray × ByteArray)) × List (Int) × Int))) :=
 if (decide (s1.2.1 < (List.length y1.2 : Int))) = true then (((idx y1.2 s1.2.1).bind fun x1 => (loopM (testgatelaw15_FilediffRenames_L2 N y1 x1) N (false, 0)).bind fun o3 => (if o3 = true then (some (true, s1.2.2.2.1, s1.2.2.2.2)) else ((testgatemake_Tape_Chance N (s1.2.2.2.1, s1.2.2.2.2) 1 2).bind fun y2 => some (y2.2, y2.1.1, y2.1.2)) : Option (Bool × List (Int) × Int)).bind fun o5 => if o5.1 = true then (some (s1.1, s1.2.2.1, o5.2.1, o5.2.2)) else ((catB (⟨#[110, 101, 119, 47]⟩ : ByteArray) x1.1).bind fun s3 => (testgateref07_Move N s1.2.2.1 x1.1 s3).bind fun y3 => if (y3.2 == 0) = true then (some (IntKind.wrap .i64 (s1.1 + 1), y3.1, o5.2.1, o5.2.2)) else (some (s1.1, s1.2.2.1, o5.2.1, o5.2.2))) : Option (Int × (List (ByteArray × ByteArray)) × List (Int) × Int)).bind fun o2 => some (.inl (o2.1, IntKind.wrap .i64 (s1.2.1 + 1), o2.2.1, o2.2.2.1, o2.2.2.2))) else (some (.inr (s1.1, s1.2.2.1, s1.2.2.2.1, s1.2.2.2.2)))
def testgatelaw15_FilediffRenames_L3 (N : Nat) (y4 : (List (Int × ByteArray × ByteArray × ByteArray)) × Int) (s4 : Int) : Option ((Int) ⊕ ((Unit) ⊕ (Bool))) :=
 if (decide (s4 < (List.length y4.1 : Int))) = true then ((idx y4.1 s4).bind fun x3 => (if (x3.1 != 4) = true then (some true) else ((catB (⟨#[110, 101, 119, 47]⟩ : ByteArray) x3.2.2.1).bind fun s5 => some (!(x3.2.1.toList == s5.toList))) : Option (Bool)).bind fun o8 => if o8 = true then (some (.inr (.inr (false)))) else (some (.inl (IntKind.wrap .i64 (s4 + 1))))) else (some (.inr (.inl ())))
def testgatelaw15_FilediffRenames (N : Nat) (p0 : List Int) : Option (Bool) :=
 (testgatemake_Revision N (p0, 0)).bind fun y1 => (loopM (testgatelaw15_FilediffRenames_L1 N y1) N (0, 0, y1.2, y1.1.1, y1.1.2)).bind fun o1 => (filediff_Diff N y1.2 o1.2.1).bind fun y4 => (if (y4.2 != 0) = true then (some true) else (some ((List.length y4.1 : Int) != o1.1)) : Option (Bool)).bind fun o6 => if o6 = true then (some false) else ((loopM (testgatelaw15_FilediffRenames_L3 N y4) N 0).bind fun out3 => (match out3 with | .inl o7 => (testgatelaw15_awake N).bind fun y5 => some y5 | .inr (z) => some z))
set_option maxHeartbeats 4000000 in
set_option maxRecDepth 100000 in
theorem testgatelaw15_FilediffRenames_ok {N : Nat} {m : Mem} {own : List Piece} {w : World} {p0 : List Int} {a1 : Option Addr} {c1 : Nat} {r : Bool} (st : St m (own) w) (r1 : RepS (cInt .i64) m a1 c1 p0) (hr : testgatelaw15_FilediffRenames N p0 = some r) : Calls Tryz.prog 9 #[.slice a1 (List.length p0) c1] w fun e w' => ∃ (m' : Mem), e = .returned (.bool r) ∧ m.le m' ∧ St m' (own) w' := by
 unfold testgatelaw15_FilediffRenames at hr
 have hm := m.le_refl
 refine W_calls Tryz.func9 rfl Tryz.ntmps9 [(0, .slice a1 (List.length p0) c1)] kr rfl ?_
 refine W_sr (WO_seg 1 [] kr kr ?_)
 refine WO_et rfl (W_sr ?_)
 refine WO_seg 2 [(19, .agg #[.slice a1 (List.length p0) c1, .int .i64 0])] kr kr ?_
 refine WO_one rfl (One_box_own (d := 20) (e := 28) (x := (.tmp 19)) (.agg #[.slice a1 (List.length p0) c1, .int .i64 0]) kr rfl kr st ?_)
 clear st
 intro b1 w1 st
 refine WO_seg 1 [(3, .pointer (some ⟨b1, 0, none⟩))] kr kr ?_
 refine WO_et rfl (W_sr ?_)
 refine WO_seg 1 [(21, .pointer (some ⟨b1, 0, none⟩))] kr kr ?_
 replace ⟨y1, hx1, hr⟩ := bindS hr
 refine WO_one rfl (One_fn 22 12 #[.pointer (some ⟨b1, 0, none⟩)] kr rfl ?_)
 refine (testgatemake_Revision_ok st r1 hx1).mono ?_
 clear st
 rintro _ w2 ⟨a2, c2, a3, c3, m2, rfl, hle2, st, r2, r3⟩
 refine ⟨_, rfl, ?_⟩
 have hm := Mem.le_trans hm hle2
 have r1 := r1.mono hle2
 refine WO_one rfl (One_alloc (d := 4) (e := 25) (.agg #[.slice none 0 0]) kr rfl kr st ?_)
 clear st
 intro b2 w3 st
 refine WO_one rfl (One_store (t := 25) (x := (.tmp 4)) (y := (.tmp 22)) (v := .agg #[.slice a3 (List.length y1.2) c3]) (c' := #[.slice a3 (List.length y1.2) c3]) kr (ev (.pointer (some ⟨b2, 0, none⟩))) (ev (.agg #[.slice a3 (List.length y1.2) c3])) st kr kr ?_)
 clear st
 intro w4 st
 refine WO_et rfl (W_sr ?_)
 refine WO_one rfl (One_load_own (d := 23) (t := 25) (x := (.tmp 4)) (.agg #[.slice a3 (List.length y1.2) c3]) kr rfl (ev (.pointer (some ⟨b2, 0, none⟩))) st.head kr ?_)
 refine WO_one rfl (One_alloc (d := 5) (e := 25) (.agg #[.slice none 0 0]) kr rfl kr st ?_)
 clear st
 intro b3 w5 st
 refine WO_one rfl (One_store (t := 25) (x := (.tmp 5)) (y := (.tmp 23)) (v := .agg #[.slice a3 (List.length y1.2) c3]) (c' := #[.slice a3 (List.length y1.2) c3]) kr (ev (.pointer (some ⟨b3, 0, none⟩))) (ev (.agg #[.slice a3 (List.length y1.2) c3])) st kr kr ?_)
 clear st
 intro w6 st
 refine WO_et rfl (W_sr ?_)
 refine WO_seg 1 [(6, .int .i64 0)] kr kr ?_
 refine WO_et rfl (W_seq ?_)
 refine W_sr (WO_seg 1 [(24, .pointer (some ⟨b2, 0, none⟩))] kr kr ?_)
 refine WO_one rfl (One_load_own (d := 25) (t := 23) (x := (.tmp 24)) (.slice a3 (List.length y1.2) c3) kr rfl (ev (.pointer (some ⟨b2, 0, none⟩))) st.tail.head kr ?_)
 refine WO_seg 2 [(26, .int .i64 (List.length y1.2 : Int)), (27, .int .i64 0)] kr kr ?_
 refine WO_et rfl (W_block ?_)
 replace ⟨out1, hr, hrKu1⟩ := bindS hr
 refine W_cut (.exit 0) (fun L' w' => ∃ (o1 : Int × (List (ByteArray × ByteArray)) × List (Int) × Int) (a4 : Option Addr) (c4 : Nat) (a5 : Option Addr) (c5 : Nat) (m3 : Mem), o1 = out1 ∧ L' = [(4, .pointer (some ⟨b2, 0, none⟩)), (5, .pointer (some ⟨b3, 0, none⟩)), (6, .int .i64 o1.1)] ∧ m.le m3 ∧ St m3 (.blk b3 (.cells #[.slice a4 (List.length o1.2.1) c4] 25 (0, 0)) :: .blk b2 (.cells #[.slice a3 (List.length y1.2) c3] 25 (0, 0)) :: .blk b1 (.cells #[.slice a5 (List.length o1.2.2.1) c5, .int .i64 o1.2.2.2] 28 (0, 0)) :: .room a4 (List.length o1.2.1) c4 74 2 :: own) w' ∧ RepS (cPair cStr cStr) m3 a4 c4 o1.2.1 ∧ RepS (cPair cStr cStr) m3 a3 c3 y1.2 ∧ RepS (cInt .i64) m3 a5 c5 o1.2.2.1) ?_ ?_
 ·clear hr st
  rintro _ w7 ⟨o1, a4, c4, a5, c5, m3, rfl, rfl, hm, st, r4, r3, r5⟩
  have hr := hrKu1
  clear hrKu1
  refine X_block_eq ?_
  refine X_then ?_
  refine W_sr (WO_one rfl (One_load_own (d := 76) (t := 25) (x := (.tmp 4)) (.agg #[.slice a3 (List.length y1.2) c3]) kr rfl (ev (.pointer (some ⟨b2, 0, none⟩))) st.tail.head kr ?_))
  refine WO_one rfl (One_load_own (d := 77) (t := 25) (x := (.tmp 5)) (.agg #[.slice a4 (List.length o1.2.1) c4]) kr rfl (ev (.pointer (some ⟨b3, 0, none⟩))) st.head kr ?_)
  replace ⟨y4, hx7, hr⟩ := bindS hr
  refine WO_one rfl (One_fn 78 24 #[.agg #[.slice a3 (List.length y1.2) c3], .agg #[.slice a4 (List.length o1.2.1) c4]] kr rfl ?_)
  refine (filediff_Diff_ok st r3 r4 hx7).mono ?_
  clear st
  rintro _ w23 ⟨a13, c13, m12, rfl, hle5, st, r13⟩
  refine ⟨_, rfl, ?_⟩
  have hm := Mem.le_trans hm hle5
  have r3 := r3.mono hle5
  have r4 := r4.mono hle5
  have r5 := r5.mono hle5
  refine WO_seg 5 [(14, .slice a13 (List.length y4.1) c13), (15, .int .i64 y4.2)] kr kr ?_
  refine WO_et rfl (W_seq ?_)
  refine W_sr ?_
  replace ⟨o6, hr, hrK⟩ := bindS hr
  refine WO_cut (j := 8) (fun L' w' => ∃ (m13 : Mem), L' = [(14, .slice a13 (List.length y4.1) c13), (88, .bool o6)] ∧ m.le m13 ∧ St m13 (.blk b3 (.cells #[.slice a4 (List.length o1.2.1) c4] 25 (0, 0)) :: .blk b2 (.cells #[.slice a3 (List.length y1.2) c3] 25 (0, 0)) :: .blk b1 (.cells #[.slice a5 (List.length o1.2.2.1) c5, .int .i64 o1.2.2.2] 28 (0, 0)) :: .room a13 (List.length y4.1) c13 72 4 :: .room a4 (List.length o1.2.1) c4 74 2 :: own) w' ∧ RepS (cPair (cInt .i64) (cPair cStr (cPair cStr cStr))) m13 a13 c13 y4.1 ∧ RepS (cPair cStr cStr) m13 a4 c4 o1.2.1 ∧ RepS (cPair cStr cStr) m13 a3 c3 y1.2 ∧ RepS (cInt .i64) m13 a5 c5 o1.2.2.1) ?_ ?_
  ·clear hr st
   have hr := hrK
   clear hrK
   rintro _ w24 ⟨m13, rfl, hm, st, r13, r4, r3, r5⟩
   refine WO_et rfl (W_cond o6 kr ?_ ?_)
   ·intro hc
    rw [if_pos hc] at hr
    refine W_sr (WO_seg 1 [(2, .bool false)] kr kr ?_)
    refine WO_end rfl ?_
    have st := st.front3
    have st := st.tail
    refine X_then ?_
    refine W_ret ?_
    refine X_then_ret ?_
    obtain rfl := Option.some.inj hr
    refine X_ret [.tmp 2] [.bool false] rfl (ResAll.cons (ResAt.tmp kr) ResAll.nil) ?_
    have st := st.tail
    have st := st.tail
    have st := st.tail
    have st := st.tail
    exact ⟨m13, rfl, hm, st⟩
   ·intro hc
    rw [if_neg (not_true hc)] at hr
    refine W_skip ?_
    refine X_then ?_
    refine W_seq ?_
    refine W_sr (WO_seg 3 [(89, .slice a13 (List.length y4.1) c13), (90, .int .i64 (List.length y4.1 : Int)), (91, .int .i64 0)] kr kr ?_)
    refine WO_et rfl (W_block ?_)
    replace ⟨out3, hr, hrKu6⟩ := bindS hr
    refine W_cut (.exit 4) (fun L' w' => ∃ (o7 : Unit) (m14 : Mem), (.inl o7) = out3 ∧ L' = [] ∧ m.le m14 ∧ St m14 (.blk b3 (.cells #[.slice a4 (List.length o1.2.1) c4] 25 (0, 0)) :: .blk b2 (.cells #[.slice a3 (List.length y1.2) c3] 25 (0, 0)) :: .blk b1 (.cells #[.slice a5 (List.length o1.2.2.1) c5, .int .i64 o1.2.2.2] 28 (0, 0)) :: .room a13 (List.length y4.1) c13 72 4 :: .room a4 (List.length o1.2.1) c4 74 2 :: own) w' ∧ RepS (cPair cStr cStr) m14 a4 c4 o1.2.1 ∧ RepS (cPair cStr cStr) m14 a3 c3 y1.2 ∧ RepS (cInt .i64) m14 a5 c5 o1.2.2.1) ?_ ?_
    ·clear hr st
     rintro _ w25 ⟨o7, m14, rfl, rfl, hm, st, r4, r3, r5⟩
     have hr := hrKu6
     clear hrKu6
     dsimp only at hr
     refine X_block_eq ?_
     refine X_then ?_
     refine W_sr ?_
     replace ⟨y5, hx10, hr⟩ := bindS hr
     refine WO_one rfl (One_fn 107 27 #[] kr rfl ?_)
     refine (testgatelaw15_awake_ok st hx10).mono ?_
     clear st
     rintro _ w30 ⟨m17, rfl, hle6, st⟩
     refine ⟨_, rfl, ?_⟩
     have hm := Mem.le_trans hm hle6
     have r4 := r4.mono hle6
     have r3 := r3.mono hle6
     have r5 := r5.mono hle6
     refine WO_seg 1 [(2, .bool y5)] kr kr ?_
     refine WO_end rfl ?_
     have st := st.front3
     have st := st.tail
     refine X_then ?_
     refine W_ret ?_
     obtain rfl := Option.some.inj hr
     refine X_ret [.tmp 2] [.bool y5] rfl (ResAll.cons (ResAt.tmp kr) ResAll.nil) ?_
     have st := st.tail
     have st := st.tail
     have st := st.tail
     have st := st.tail
     exact ⟨m17, rfl, hm, st⟩
    intro K4_u6
    have st := st.front4.front4.front4.front4.front4
    refine W_env _ kr (W_loop (fun k3 L' w' => ∃ (s4 : Int) (m15 : Mem), loopM (testgatelaw15_FilediffRenames_L3 N y4) k3 s4 = some out3 ∧ L' = [(89, .slice a13 (List.length y4.1) c13), (90, .int .i64 (List.length y4.1 : Int)), (91, .int .i64 s4)] ∧ m.le m15 ∧ St m15 (.blk b3 (.cells #[.slice a4 (List.length o1.2.1) c4] 25 (0, 0)) :: .blk b2 (.cells #[.slice a3 (List.length y1.2) c3] 25 (0, 0)) :: .blk b1 (.cells #[.slice a5 (List.length o1.2.2.1) c5, .int .i64 o1.2.2.2] 28 (0, 0)) :: .room a13 (List.length y4.1) c13 72 4 :: .room a4 (List.length o1.2.1) c4 74 2 :: own) w' ∧ RepS (cPair (cInt .i64) (cPair cStr (cPair cStr cStr))) m15 a13 c13 y4.1 ∧ RepS (cPair cStr cStr) m15 a4 c4 o1.2.1 ∧ RepS (cPair cStr cStr) m15 a3 c3 y1.2 ∧ RepS (cInt .i64) m15 a5 c5 o1.2.2.1) N ⟨0, m13, hr, rfl, hm, st, r13, r4, r3, r5⟩ ?_)
    clear st hr
    rintro k3 _ w26 ⟨s4, m15, hL, rfl, hm, st, r13, r4, r3, r5⟩
    rcases k3 with _ | k3
    ·exact loopM_zero hL
    ·obtain ⟨qu6, hr, hSu6, hBu6⟩ := loopM_succ hL
     clear hL
     unfold testgatelaw15_FilediffRenames_L3 at hr
     refine W_sr (WO_seg 1 [(92, .bool (decide (s4 < (List.length y4.1 : Int))))] kr kr ?_)
     refine WO_et rfl (W_seq ?_)
     refine W_cond (decide (s4 < (List.length y4.1 : Int))) kr ?_ ?_
     ·intro hc
      rw [if_pos hc] at hr
      refine W_skip ?_
      refine X_then ?_
      refine W_seq ?_
      refine W_block ?_
      refine W_sr ?_
      replace ⟨x3, hx8, hr⟩ := bindS hr
      refine WO_one rfl (One_index (d := 93) (t := 58) (e := 72) (x := (.tmp 89)) (y := (.tmp 91)) (cPair (cInt .i64) (cPair cStr (cPair cStr cStr))) kr rfl (ev (.slice a13 (List.length y4.1) c13)) (ev (.int .i64 s4)) kr r13 hx8 ?_)
      rintro b9 f3 cs3 ⟨_, _, rfl, rfl, ⟨_, _, rfl, rfl, ⟨_, _, rfl, rfl, rfl⟩⟩⟩ hq3
      refine WO_one rfl (One_load_row (d := 94) (t := 72) (x := (.tmp 93)) (.agg #[.int .i64 x3.1, .string x3.2.1, .string x3.2.2.1, .string x3.2.2.2]) kr rfl (ev (.pointer (some ⟨b9, f3, none⟩))) st hq3 kr ?_)
      refine WO_one rfl (One_alloc (d := 17) (e := 72) (.agg #[.int .i64 0, .string (⟨#[]⟩ : ByteArray), .string (⟨#[]⟩ : ByteArray), .string (⟨#[]⟩ : ByteArray)]) kr rfl kr st ?_)
      clear st
      intro b10 w27 st
      refine WO_one rfl (One_store (t := 72) (x := (.tmp 17)) (y := (.tmp 94)) (v := .agg #[.int .i64 x3.1, .string x3.2.1, .string x3.2.2.1, .string x3.2.2.2]) (c' := #[.int .i64 x3.1, .string x3.2.1, .string x3.2.2.1, .string x3.2.2.2]) kr (ev (.pointer (some ⟨b10, 0, none⟩))) (ev (.agg #[.int .i64 x3.1, .string x3.2.1, .string x3.2.2.1, .string x3.2.2.2])) st kr kr ?_)
      clear st
      intro w28 st
      refine WO_et rfl (W_sr ?_)
      replace ⟨o8, hr, hrK⟩ := bindS hr
      refine WO_cut (j := 11) (fun L' w' => ∃ (m16 : Mem), L' = [(89, .slice a13 (List.length y4.1) c13), (90, .int .i64 (List.length y4.1 : Int)), (91, .int .i64 s4), (105, .bool o8)] ∧ m.le m16 ∧ St m16 (.blk b10 (.cells #[.int .i64 x3.1, .string x3.2.1, .string x3.2.2.1, .string x3.2.2.2] 72 (0, 0)) :: .blk b3 (.cells #[.slice a4 (List.length o1.2.1) c4] 25 (0, 0)) :: .blk b2 (.cells #[.slice a3 (List.length y1.2) c3] 25 (0, 0)) :: .blk b1 (.cells #[.slice a5 (List.length o1.2.2.1) c5, .int .i64 o1.2.2.2] 28 (0, 0)) :: .room a13 (List.length y4.1) c13 72 4 :: .room a4 (List.length o1.2.1) c4 74 2 :: own) w' ∧ RepS (cPair (cInt .i64) (cPair cStr (cPair cStr cStr))) m16 a13 c13 y4.1 ∧ RepS (cPair cStr cStr) m16 a4 c4 o1.2.1 ∧ RepS (cPair cStr cStr) m16 a3 c3 y1.2 ∧ RepS (cInt .i64) m16 a5 c5 o1.2.2.1) ?_ ?_
      ·clear hr st
       have hr := hrK
       clear hrK
       rintro _ w29 ⟨m16, rfl, hm, st, r13, r4, r3, r5⟩
       refine WO_et rfl (W_cond o8 kr ?_ ?_)
       ·intro hc
        rw [if_pos hc] at hr
        refine W_sr (WO_seg 1 [(2, .bool false)] kr kr ?_)
        refine WO_end rfl ?_
        have st := st.front4
        have st := st.tail
        refine X_then ?_
        refine W_ret ?_
        refine X_block_ret ?_
        refine X_then_ret ?_
        obtain rfl := Option.some.inj hr
        have ho := hBu6 _ rfl
        subst ho
        have hr := hrKu6
        dsimp only at hr
        refine X_then_ret ?_
        refine X_block_ret ?_
        refine X_then_ret ?_
        obtain rfl := Option.some.inj hr
        refine X_ret [.tmp 2] [.bool false] rfl (ResAll.cons (ResAt.tmp kr) ResAll.nil) ?_
        have st := st.tail
        have st := st.tail
        have st := st.tail
        have st := st.tail
        have st := st.tail
        exact ⟨m16, rfl, hm, st⟩
       ·intro hc
        rw [if_neg (not_true hc)] at hr
        refine W_skip ?_
        refine X_block ?_
        refine X_then ?_
        refine W_region ?_
        refine WO_seg 2 [(91, .int .i64 (IntKind.wrap .i64 (s4 + 1)))] kr kr ?_
        refine WO_end rfl ?_
        obtain rfl := Option.some.inj hr
        have hL := hSu6 _ rfl
        have st := st.tail
        have st := st.front4.front4.front4.front4.front4
        exact X_env _ kr (X_round k3 (Nat.lt_succ_self _) ⟨IntKind.wrap .i64 (s4 + 1), m16, hL, rfl, hm, st, r13, r4, r3, r5⟩)
      ·intro K
       clear hrK
       refine WO_seg 1 [(95, .pointer (some ⟨b10, 0, none⟩))] kr kr ?_
       refine WO_one rfl (One_load_own (d := 96) (t := 3) (x := (.tmp 95)) (.int .i64 x3.1) kr rfl (ev (.pointer (some ⟨b10, 0, none⟩))) st.head kr ?_)
       refine WO_seg 2 [(98, .bool (x3.1 != 4))] kr kr ?_
       rcases bcases (x3.1 != 4) with hc | hc
       ·rw [if_pos hc] at hr
        refine WO_fact (t := 98) (b := true) (x3.1 != 4) kr hc ?_
        refine WO_seg 7 [(105, .bool true)] kr kr ?_
        obtain rfl := Option.some.inj hr
        have st := st.front5.front5.front5.front5.front5.front5
        exact WO_env _ kr (K _ _ ⟨m15, rfl, hm, st, r13, r4, r3, r5⟩)
       ·rw [if_neg (not_true hc)] at hr
        refine WO_fact (t := 98) (b := false) (x3.1 != 4) kr hc ?_
        refine WO_seg 1 [(99, .pointer (some ⟨b10, 1, none⟩))] kr kr ?_
        refine WO_one rfl (One_load_own (d := 100) (t := 9) (x := (.tmp 99)) (.string x3.2.1) kr rfl (ev (.pointer (some ⟨b10, 1, none⟩))) st.head kr ?_)
        refine WO_seg 1 [(101, .pointer (some ⟨b10, 2, none⟩))] kr kr ?_
        refine WO_one rfl (One_load_own (d := 102) (t := 9) (x := (.tmp 101)) (.string x3.2.2.1) kr rfl (ev (.pointer (some ⟨b10, 2, none⟩))) st.head kr ?_)
        replace ⟨s5, hx9, hr⟩ := bindS hr
        refine WO_one rfl (One_cat (d := 103) (t := 9) (t2 := 9) (x := (.const (.string (⟨#[110, 101, 119, 47]⟩ : ByteArray)))) (y := (.tmp 102)) kr rfl (ev (.string (⟨#[110, 101, 119, 47]⟩ : ByteArray))) (ev (.string x3.2.2.1)) hx9 ?_)
        refine WO_seg 2 [(105, .bool (!(x3.2.1.toList == s5.toList)))] kr kr ?_
        obtain rfl := Option.some.inj hr
        have st := st.front5.front5.front5.front5.front5.front5
        exact WO_env _ kr (K _ _ ⟨m15, rfl, hm, st, r13, r4, r3, r5⟩)
     ·intro hc
      rw [if_neg (not_true hc)] at hr
      refine W_exit ?_
      refine X_then_exit ?_
      obtain rfl := Option.some.inj hr
      have ho := hBu6 _ rfl
      have st := st.front4.front4.front4.front4.front4
      refine X_then_exit ?_
      exact X_env _ kr (K4_u6 _ _ ⟨(), m15, ho, rfl, hm, st, r4, r3, r5⟩)
  ·intro K
   clear hrK
   refine WO_seg 3 [(83, .bool (y4.2 != 0))] kr kr ?_
   rcases bcases (y4.2 != 0) with hc | hc
   ·rw [if_pos hc] at hr
    refine WO_fact (t := 83) (b := true) (y4.2 != 0) kr hc ?_
    refine WO_seg 5 [(88, .bool true)] kr kr ?_
    obtain rfl := Option.some.inj hr
    have st := st.front4.front1.front4.front4.front4
    exact WO_env _ kr (K _ _ ⟨m12, rfl, hm, st, r13, r4, r3, r5⟩)
   ·rw [if_neg (not_true hc)] at hr
    refine WO_fact (t := 83) (b := false) (y4.2 != 0) kr hc ?_
    refine WO_seg 5 [(88, .bool ((List.length y4.1 : Int) != o1.1))] kr kr ?_
    obtain rfl := Option.some.inj hr
    have st := st.front4.front1.front4.front4.front4
    exact WO_env _ kr (K _ _ ⟨m12, rfl, hm, st, r13, r4, r3, r5⟩)
 intro K0_u1
 clear hrKu1
 have st := st.front2.front3.front3.front3
 refine W_env _ kr (W_loop (fun k1 L' w' => ∃ (s1 : Int × Int × (List (ByteArray × ByteArray)) × List (Int) × Int) (a6 : Option Addr) (c6 : Nat) (a7 : Option Addr) (c7 : Nat) (m4 : Mem), loopM (testgatelaw15_FilediffRenames_L1 N y1) k1 s1 = some out1 ∧ L' = [(3, .pointer (some ⟨b1, 0, none⟩)), (4, .pointer (some ⟨b2, 0, none⟩)), (5, .pointer (some ⟨b3, 0, none⟩)), (6, .int .i64 s1.1), (25, .slice a3 (List.length y1.2) c3), (26, .int .i64 (List.length y1.2 : Int)), (27, .int .i64 s1.2.1)] ∧ m.le m4 ∧ St m4 (.blk b3 (.cells #[.slice a6 (List.length s1.2.2.1) c6] 25 (0, 0)) :: .blk b2 (.cells #[.slice a3 (List.length y1.2) c3] 25 (0, 0)) :: .blk b1 (.cells #[.slice a7 (List.length s1.2.2.2.1) c7, .int .i64 s1.2.2.2.2] 28 (0, 0)) :: .room a6 (List.length s1.2.2.1) c6 74 2 :: own) w' ∧ RepS (cPair cStr cStr) m4 a3 c3 y1.2 ∧ RepS (cPair cStr cStr) m4 a6 c6 s1.2.2.1 ∧ RepS (cInt .i64) m4 a7 c7 s1.2.2.2.1) N ⟨(0, 0, y1.2, y1.1.1, y1.1.2), a3, c3, a2, c2, m2, hr, rfl, hm, st, r3, r3, r2⟩ ?_)
 clear st hr
 rintro k1 _ w8 ⟨s1, a6, c6, a7, c7, m4, hL, rfl, hm, st, r3, r6, r7⟩
 rcases k1 with _ | k1
 ·exact loopM_zero hL
 ·obtain ⟨qu1, hr, hSu1, hBu1⟩ := loopM_succ hL
  clear hL
  unfold testgatelaw15_FilediffRenames_L1 at hr
  refine W_sr (WO_seg 1 [(28, .bool (decide (s1.2.1 < (List.length y1.2 : Int))))] kr kr ?_)
  refine WO_et rfl (W_seq ?_)
  refine W_cond (decide (s1.2.1 < (List.length y1.2 : Int))) kr ?_ ?_
  ·intro hc
   rw [if_pos hc] at hr
   refine W_skip ?_
   refine X_then ?_
   refine W_seq ?_
   replace ⟨o2, hr, hrKu2⟩ := bindS hr
   refine W_cut .normal (fun L' w' => ∃ (a8 : Option Addr) (c8 : Nat) (a9 : Option Addr) (c9 : Nat) (m5 : Mem), L' = [(3, .pointer (some ⟨b1, 0, none⟩)), (4, .pointer (some ⟨b2, 0, none⟩)), (5, .pointer (some ⟨b3, 0, none⟩)), (6, .int .i64 o2.1), (25, .slice a3 (List.length y1.2) c3), (26, .int .i64 (List.length y1.2 : Int)), (27, .int .i64 s1.2.1)] ∧ m.le m5 ∧ St m5 (.blk b3 (.cells #[.slice a8 (List.length o2.2.1) c8] 25 (0, 0)) :: .blk b2 (.cells #[.slice a3 (List.length y1.2) c3] 25 (0, 0)) :: .blk b1 (.cells #[.slice a9 (List.length o2.2.2.1) c9, .int .i64 o2.2.2.2] 28 (0, 0)) :: .room a8 (List.length o2.2.1) c8 74 2 :: own) w' ∧ RepS (cPair cStr cStr) m5 a3 c3 y1.2 ∧ RepS (cPair cStr cStr) m5 a8 c8 o2.2.1 ∧ RepS (cInt .i64) m5 a9 c9 o2.2.2.1) ?_ ?_
   ·clear hr st
    have hr := hrKu2
    clear hrKu2
    rintro _ w9 ⟨a8, c8, a9, c9, m5, rfl, hm, st, r3, r8, r9⟩
    refine X_then ?_
    refine W_region ?_
    refine WO_seg 2 [(27, .int .i64 (IntKind.wrap .i64 (s1.2.1 + 1)))] kr kr ?_
    refine WO_end rfl ?_
    obtain rfl := Option.some.inj hr
    have hL := hSu1 _ rfl
    have st := st.front3.front3.front3.front3
    exact X_env _ kr (X_round k1 (Nat.lt_succ_self _) ⟨(o2.1, IntKind.wrap .i64 (s1.2.1 + 1), o2.2.1, o2.2.2.1, o2.2.2.2), a8, c8, a9, c9, m5, hL, rfl, hm, st, r3, r8, r9⟩)
   ·intro Ku2
    clear hrKu2
    refine W_block ?_
    refine W_sr ?_
    replace ⟨x1, hx2, hr⟩ := bindS hr
    refine WO_one rfl (One_index (d := 29) (t := 23) (e := 74) (x := (.tmp 25)) (y := (.tmp 27)) (cPair cStr cStr) kr rfl (ev (.slice a3 (List.length y1.2) c3)) (ev (.int .i64 s1.2.1)) kr r3 hx2 ?_)
    rintro b4 f1 cs1 ⟨_, _, rfl, rfl, rfl⟩ hq1
    refine WO_one rfl (One_load_row (d := 30) (t := 74) (x := (.tmp 29)) (.agg #[.string x1.1, .string x1.2]) kr rfl (ev (.pointer (some ⟨b4, f1, none⟩))) st hq1 kr ?_)
    refine WO_one rfl (One_alloc (d := 8) (e := 74) (.agg #[.string (⟨#[]⟩ : ByteArray), .string (⟨#[]⟩ : ByteArray)]) kr rfl kr st ?_)
    clear st
    intro b5 w10 st
    refine WO_one rfl (One_store (t := 74) (x := (.tmp 8)) (y := (.tmp 30)) (v := .agg #[.string x1.1, .string x1.2]) (c' := #[.string x1.1, .string x1.2]) kr (ev (.pointer (some ⟨b5, 0, none⟩))) (ev (.agg #[.string x1.1, .string x1.2])) st kr kr ?_)
    clear st
    intro w11 st
    refine WO_et rfl (W_sr ?_)
    refine WO_seg 1 [(9, .bool false)] kr kr ?_
    refine WO_et rfl (W_seq ?_)
    refine W_sr (WO_seg 1 [(31, .pointer (some ⟨b2, 0, none⟩))] kr kr ?_)
    refine WO_one rfl (One_load_own (d := 32) (t := 23) (x := (.tmp 31)) (.slice a3 (List.length y1.2) c3) kr rfl (ev (.pointer (some ⟨b2, 0, none⟩))) st.tail.tail.head kr ?_)
    refine WO_seg 2 [(33, .int .i64 (List.length y1.2 : Int)), (34, .int .i64 0)] kr kr ?_
    refine WO_et rfl (W_block ?_)
    replace ⟨out2, hr, hrKu3⟩ := bindS hr
    refine W_cut (.exit 2) (fun L' w' => ∃ (o3 : Bool) (m6 : Mem), o3 = out2 ∧ L' = [(3, .pointer (some ⟨b1, 0, none⟩)), (4, .pointer (some ⟨b2, 0, none⟩)), (5, .pointer (some ⟨b3, 0, none⟩)), (6, .int .i64 s1.1), (8, .pointer (some ⟨b5, 0, none⟩)), (9, .bool o3), (25, .slice a3 (List.length y1.2) c3), (26, .int .i64 (List.length y1.2 : Int)), (27, .int .i64 s1.2.1)] ∧ m.le m6 ∧ St m6 (.blk b5 (.cells #[.string x1.1, .string x1.2] 74 (0, 0)) :: .blk b3 (.cells #[.slice a6 (List.length s1.2.2.1) c6] 25 (0, 0)) :: .blk b2 (.cells #[.slice a3 (List.length y1.2) c3] 25 (0, 0)) :: .blk b1 (.cells #[.slice a7 (List.length s1.2.2.2.1) c7, .int .i64 s1.2.2.2.2] 28 (0, 0)) :: .room a6 (List.length s1.2.2.1) c6 74 2 :: own) w' ∧ RepS (cPair cStr cStr) m6 a3 c3 y1.2 ∧ RepS (cPair cStr cStr) m6 a6 c6 s1.2.2.1 ∧ RepS (cInt .i64) m6 a7 c7 s1.2.2.2.1) ?_ ?_
    ·clear hr st
     rintro _ w12 ⟨o3, m6, rfl, rfl, hm, st, r3, r6, r7⟩
     have hr := hrKu3
     clear hrKu3
     refine X_block_eq ?_
     refine X_then ?_
     refine W_seq ?_
     refine W_sr ?_
     replace ⟨o5, hr, hrK⟩ := bindS hr
     refine WO_cut (j := 5) (fun L' w' => ∃ (a10 : Option Addr) (c10 : Nat) (m9 : Mem), L' = [(3, .pointer (some ⟨b1, 0, none⟩)), (4, .pointer (some ⟨b2, 0, none⟩)), (5, .pointer (some ⟨b3, 0, none⟩)), (6, .int .i64 s1.1), (8, .pointer (some ⟨b5, 0, none⟩)), (25, .slice a3 (List.length y1.2) c3), (26, .int .i64 (List.length y1.2 : Int)), (27, .int .i64 s1.2.1), (58, .bool o5.1)] ∧ m.le m9 ∧ St m9 (.blk b5 (.cells #[.string x1.1, .string x1.2] 74 (0, 0)) :: .blk b3 (.cells #[.slice a6 (List.length s1.2.2.1) c6] 25 (0, 0)) :: .blk b2 (.cells #[.slice a3 (List.length y1.2) c3] 25 (0, 0)) :: .blk b1 (.cells #[.slice a10 (List.length o5.2.1) c10, .int .i64 o5.2.2] 28 (0, 0)) :: .room a6 (List.length s1.2.2.1) c6 74 2 :: own) w' ∧ RepS (cPair cStr cStr) m9 a3 c3 y1.2 ∧ RepS (cPair cStr cStr) m9 a6 c6 s1.2.2.1 ∧ RepS (cInt .i64) m9 a10 c10 o5.2.1) ?_ ?_
     ·clear hr st
      have hr := hrK
      clear hrK
      rintro _ w17 ⟨a10, c10, m9, rfl, hm, st, r3, r6, r10⟩
      refine WO_et rfl (W_cond o5.1 kr ?_ ?_)
      ·intro hc
       rw [if_pos hc] at hr
       refine W_exit ?_
       refine X_then_exit ?_
       refine X_block_eq ?_
       obtain rfl := Option.some.inj hr
       have st := st.tail
       have st := st.front3.front3.front3.front3
       exact X_env _ kr (Ku2 _ _ ⟨a6, c6, a10, c10, m9, rfl, hm, st, r3, r6, r10⟩)
      ·intro hc
       rw [if_neg (not_true hc)] at hr
       refine W_skip ?_
       refine X_then ?_
       refine W_sr (WO_one rfl (One_load_own (d := 60) (t := 25) (x := (.tmp 5)) (.agg #[.slice a6 (List.length s1.2.2.1) c6]) kr rfl (ev (.pointer (some ⟨b3, 0, none⟩))) st.tail.head kr ?_))
       refine WO_seg 1 [(61, .pointer (some ⟨b5, 0, none⟩))] kr kr ?_
       refine WO_one rfl (One_load_own (d := 62) (t := 9) (x := (.tmp 61)) (.string x1.1) kr rfl (ev (.pointer (some ⟨b5, 0, none⟩))) st.head kr ?_)
       refine WO_seg 1 [(63, .pointer (some ⟨b5, 0, none⟩))] kr kr ?_
       refine WO_one rfl (One_load_own (d := 64) (t := 9) (x := (.tmp 63)) (.string x1.1) kr rfl (ev (.pointer (some ⟨b5, 0, none⟩))) st.head kr ?_)
       replace ⟨s3, hx5, hr⟩ := bindS hr
       refine WO_one rfl (One_cat (d := 65) (t := 9) (t2 := 9) (x := (.const (.string (⟨#[110, 101, 119, 47]⟩ : ByteArray)))) (y := (.tmp 64)) kr rfl (ev (.string (⟨#[110, 101, 119, 47]⟩ : ByteArray))) (ev (.string x1.1)) hx5 ?_)
       replace ⟨y3, hx6, hr⟩ := bindS hr
       refine WO_one rfl (One_fn 66 35 #[.agg #[.slice a6 (List.length s1.2.2.1) c6], .string x1.1, .string s3] kr rfl ?_)
       refine (testgateref07_Move_ok st r6 hx6).mono ?_
       clear st
       rintro _ w19 ⟨a12, c12, m11, rfl, hle4, st, r12⟩
       refine ⟨_, rfl, ?_⟩
       have hm := Mem.le_trans hm hle4
       have r3 := r3.mono hle4
       have r6 := r6.mono hle4
       have r10 := r10.mono hle4
       refine WO_seg 3 [(67, .agg #[.slice a12 (List.length y3.1) c12]), (68, .int .i64 y3.2)] kr kr ?_
       refine WO_one rfl (One_alloc (d := 12) (e := 25) (.agg #[.slice none 0 0]) kr rfl kr st ?_)
       clear st
       intro b8 w20 st
       refine WO_one rfl (One_store (t := 25) (x := (.tmp 12)) (y := (.tmp 67)) (v := .agg #[.slice a12 (List.length y3.1) c12]) (c' := #[.slice a12 (List.length y3.1) c12]) kr (ev (.pointer (some ⟨b8, 0, none⟩))) (ev (.agg #[.slice a12 (List.length y3.1) c12])) st kr kr ?_)
       clear st
       intro w21 st
       refine WO_seg 1 [(13, .int .i64 y3.2)] kr kr ?_
       refine WO_et rfl (W_sr ?_)
       refine WO_seg 2 [(70, .bool (y3.2 == 0))] kr kr ?_
       refine WO_et rfl (W_cond (y3.2 == 0) kr ?_ ?_)
       ·intro hc
        rw [if_pos hc] at hr
        refine W_sr (WO_one rfl (One_load_own (d := 71) (t := 25) (x := (.tmp 12)) (.agg #[.slice a12 (List.length y3.1) c12]) kr rfl (ev (.pointer (some ⟨b8, 0, none⟩))) st.head kr ?_))
        have st := st.front3
        refine WO_one rfl (One_store (t := 25) (x := (.tmp 5)) (y := (.tmp 71)) (v := .agg #[.slice a12 (List.length y3.1) c12]) (c' := #[.slice a12 (List.length y3.1) c12]) kr (ev (.pointer (some ⟨b3, 0, none⟩))) (ev (.agg #[.slice a12 (List.length y3.1) c12])) st kr kr ?_)
        clear st
        intro w22 st
        refine WO_end rfl ?_
        have st := st.front6
        have st := st.tail
        refine X_then ?_
        refine W_region ?_
        refine WO_seg 3 [(6, .int .i64 (IntKind.wrap .i64 (s1.1 + 1)))] kr kr ?_
        refine WO_end rfl ?_
        refine X_block ?_
        obtain rfl := Option.some.inj hr
        have st := st.front1
        have st := st.tail
        have st := st.front2
        have st := st.tail
        have st := st.front1.front3.front3.front3
        exact X_env _ kr (Ku2 _ _ ⟨a12, c12, a10, c10, m11, rfl, hm, st, r3, r12, r10⟩)
       ·intro hc
        rw [if_neg (not_true hc)] at hr
        refine W_skip ?_
        refine X_block ?_
        obtain rfl := Option.some.inj hr
        have st := st.tail
        have st := st.tail
        have st := st.tail
        have st := st.front3.front3.front3.front3
        exact X_env _ kr (Ku2 _ _ ⟨a6, c6, a10, c10, m11, rfl, hm, st, r3, r6, r10⟩)
     ·intro K
      clear hrK
      refine WO_seg 2 [(55, .bool o3)] kr kr ?_
      rcases bcases o3 with hc | hc
      ·rw [if_pos hc] at hr
       refine WO_fact (t := 55) (b := true) o3 kr hc ?_
       refine WO_seg 3 [(58, .bool true)] kr kr ?_
       obtain rfl := Option.some.inj hr
       have st := st.front4.front4.front4.front4.front4
       exact WO_env _ kr (K _ _ ⟨a7, c7, m6, rfl, hm, st, r3, r6, r7⟩)
      ·rw [if_neg (not_true hc)] at hr
       refine WO_fact (t := 55) (b := false) o3 kr hc ?_
       refine WO_seg 1 [(56, .pointer (some ⟨b1, 0, none⟩))] kr kr ?_
       have st := st.front3
       replace ⟨y2, hx4, hr⟩ := bindS hr
       refine WO_one rfl (One_fn 57 29 #[.pointer (some ⟨b1, 0, none⟩), .int .i64 1, .int .i64 2] kr rfl ?_)
       refine (testgatemake_Tape_Chance_ok st r7 hx4).mono ?_
       clear st
       rintro _ w18 ⟨a11, c11, m10, rfl, hle3, st, r11⟩
       refine ⟨_, rfl, ?_⟩
       have hm := Mem.le_trans hm hle3
       have r3 := r3.mono hle3
       have r7 := r7.mono hle3
       have r6 := r6.mono hle3
       refine WO_seg 1 [(58, .bool y2.2)] kr kr ?_
       obtain rfl := Option.some.inj hr
       have st := st.front4.front1.front4.front4.front4
       exact WO_env _ kr (K _ _ ⟨a11, c11, m10, rfl, hm, st, r3, r6, r11⟩)
    intro K2_u3
    clear hrKu3
    have st := st.front4.front4.front4.front4.front4
    refine W_env _ kr (W_loop (fun k2 L' w' => ∃ (s2 : Bool × Int) (m7 : Mem), loopM (testgatelaw15_FilediffRenames_L2 N y1 x1) k2 s2 = some out2 ∧ L' = [(3, .pointer (some ⟨b1, 0, none⟩)), (4, .pointer (some ⟨b2, 0, none⟩)), (5, .pointer (some ⟨b3, 0, none⟩)), (6, .int .i64 s1.1), (8, .pointer (some ⟨b5, 0, none⟩)), (9, .bool s2.1), (25, .slice a3 (List.length y1.2) c3), (26, .int .i64 (List.length y1.2 : Int)), (27, .int .i64 s1.2.1), (32, .slice a3 (List.length y1.2) c3), (33, .int .i64 (List.length y1.2 : Int)), (34, .int .i64 s2.2)] ∧ m.le m7 ∧ St m7 (.blk b5 (.cells #[.string x1.1, .string x1.2] 74 (0, 0)) :: .blk b3 (.cells #[.slice a6 (List.length s1.2.2.1) c6] 25 (0, 0)) :: .blk b2 (.cells #[.slice a3 (List.length y1.2) c3] 25 (0, 0)) :: .blk b1 (.cells #[.slice a7 (List.length s1.2.2.2.1) c7, .int .i64 s1.2.2.2.2] 28 (0, 0)) :: .room a6 (List.length s1.2.2.1) c6 74 2 :: own) w' ∧ RepS (cPair cStr cStr) m7 a3 c3 y1.2 ∧ RepS (cPair cStr cStr) m7 a6 c6 s1.2.2.1 ∧ RepS (cInt .i64) m7 a7 c7 s1.2.2.2.1) N ⟨(false, 0), m4, hr, rfl, hm, st, r3, r6, r7⟩ ?_)
    clear st hr
    rintro k2 _ w13 ⟨s2, m7, hL, rfl, hm, st, r3, r6, r7⟩
    rcases k2 with _ | k2
    ·exact loopM_zero hL
    ·obtain ⟨qu3, hr, hSu3, hBu3⟩ := loopM_succ hL
     clear hL
     unfold testgatelaw15_FilediffRenames_L2 at hr
     refine W_sr (WO_seg 1 [(35, .bool (decide (s2.2 < (List.length y1.2 : Int))))] kr kr ?_)
     refine WO_et rfl (W_seq ?_)
     refine W_cond (decide (s2.2 < (List.length y1.2 : Int))) kr ?_ ?_
     ·intro hc
      rw [if_pos hc] at hr
      refine W_skip ?_
      refine X_then ?_
      refine W_seq ?_
      refine W_block ?_
      refine W_sr ?_
      replace ⟨x2, hx3, hr⟩ := bindS hr
      refine WO_one rfl (One_index (d := 36) (t := 23) (e := 74) (x := (.tmp 32)) (y := (.tmp 34)) (cPair cStr cStr) kr rfl (ev (.slice a3 (List.length y1.2) c3)) (ev (.int .i64 s2.2)) kr r3 hx3 ?_)
      rintro b6 f2 cs2 ⟨_, _, rfl, rfl, rfl⟩ hq2
      refine WO_one rfl (One_load_row (d := 37) (t := 74) (x := (.tmp 36)) (.agg #[.string x2.1, .string x2.2]) kr rfl (ev (.pointer (some ⟨b6, f2, none⟩))) st hq2 kr ?_)
      refine WO_one rfl (One_alloc (d := 11) (e := 74) (.agg #[.string (⟨#[]⟩ : ByteArray), .string (⟨#[]⟩ : ByteArray)]) kr rfl kr st ?_)
      clear st
      intro b7 w14 st
      refine WO_one rfl (One_store (t := 74) (x := (.tmp 11)) (y := (.tmp 37)) (v := .agg #[.string x2.1, .string x2.2]) (c' := #[.string x2.1, .string x2.2]) kr (ev (.pointer (some ⟨b7, 0, none⟩))) (ev (.agg #[.string x2.1, .string x2.2])) st kr kr ?_)
      clear st
      intro w15 st
      refine WO_et rfl (W_region ?_)
      replace ⟨o4, hr, hrK⟩ := bindS hr
      refine WO_cut (j := 16) (fun L' w' => ∃ (m8 : Mem), L' = [(3, .pointer (some ⟨b1, 0, none⟩)), (4, .pointer (some ⟨b2, 0, none⟩)), (5, .pointer (some ⟨b3, 0, none⟩)), (6, .int .i64 s1.1), (8, .pointer (some ⟨b5, 0, none⟩)), (9, .bool o4), (25, .slice a3 (List.length y1.2) c3), (26, .int .i64 (List.length y1.2 : Int)), (27, .int .i64 s1.2.1), (32, .slice a3 (List.length y1.2) c3), (33, .int .i64 (List.length y1.2 : Int)), (34, .int .i64 s2.2)] ∧ m.le m8 ∧ St m8 (.blk b7 (.cells #[.string x2.1, .string x2.2] 74 (0, 0)) :: .blk b5 (.cells #[.string x1.1, .string x1.2] 74 (0, 0)) :: .blk b3 (.cells #[.slice a6 (List.length s1.2.2.1) c6] 25 (0, 0)) :: .blk b2 (.cells #[.slice a3 (List.length y1.2) c3] 25 (0, 0)) :: .blk b1 (.cells #[.slice a7 (List.length s1.2.2.2.1) c7, .int .i64 s1.2.2.2.2] 28 (0, 0)) :: .room a6 (List.length s1.2.2.1) c6 74 2 :: own) w' ∧ RepS (cPair cStr cStr) m8 a3 c3 y1.2 ∧ RepS (cPair cStr cStr) m8 a6 c6 s1.2.2.1 ∧ RepS (cInt .i64) m8 a7 c7 s1.2.2.2.1) ?_ ?_
      ·clear hr st
       have hr := hrK
       clear hrK
       rintro _ w16 ⟨m8, rfl, hm, st, r3, r6, r7⟩
       refine WO_end rfl ?_
       refine X_block ?_
       refine X_then ?_
       refine W_region ?_
       refine WO_seg 2 [(34, .int .i64 (IntKind.wrap .i64 (s2.2 + 1)))] kr kr ?_
       refine WO_end rfl ?_
       obtain rfl := Option.some.inj hr
       have hL := hSu3 _ rfl
       have st := st.tail
       have st := st.front4.front4.front4.front4.front4
       exact X_env _ kr (X_round k2 (Nat.lt_succ_self _) ⟨(o4, IntKind.wrap .i64 (s2.2 + 1)), m8, hL, rfl, hm, st, r3, r6, r7⟩)
      ·intro K
       clear hrK
       refine WO_seg 2 [(39, .bool s2.1)] kr kr ?_
       rcases bcases s2.1 with hc | hc
       ·rw [if_pos hc] at hr
        refine WO_fact (t := 39) (b := true) s2.1 kr hc ?_
        refine WO_seg 14 [(9, .bool true)] kr kr ?_
        obtain rfl := Option.some.inj hr
        have st := st.front5.front5.front5.front5.front5.front5
        exact WO_env _ kr (K _ _ ⟨m7, rfl, hm, st, r3, r6, r7⟩)
       ·rw [if_neg (not_true hc)] at hr
        refine WO_fact (t := 39) (b := false) s2.1 kr hc ?_
        refine WO_seg 1 [(40, .pointer (some ⟨b7, 0, none⟩))] kr kr ?_
        refine WO_one rfl (One_load_own (d := 41) (t := 9) (x := (.tmp 40)) (.string x2.1) kr rfl (ev (.pointer (some ⟨b7, 0, none⟩))) st.head kr ?_)
        refine WO_seg 1 [(42, .pointer (some ⟨b5, 0, none⟩))] kr kr ?_
        refine WO_one rfl (One_load_own (d := 43) (t := 9) (x := (.tmp 42)) (.string x1.1) kr rfl (ev (.pointer (some ⟨b5, 0, none⟩))) st.tail.head kr ?_)
        refine WO_seg 2 [(45, .bool (!(x2.1.toList == x1.1.toList)))] kr kr ?_
        rcases bcases (!(x2.1.toList == x1.1.toList)) with hc | hc
        ·rw [if_pos hc] at hr
         refine WO_fact (t := 45) (b := true) (!(x2.1.toList == x1.1.toList)) kr hc ?_
         refine WO_seg 1 [(46, .pointer (some ⟨b7, 1, none⟩))] kr kr ?_
         refine WO_one rfl (One_load_own (d := 47) (t := 9) (x := (.tmp 46)) (.string x2.2) kr rfl (ev (.pointer (some ⟨b7, 1, none⟩))) st.head kr ?_)
         refine WO_seg 1 [(48, .pointer (some ⟨b5, 1, none⟩))] kr kr ?_
         refine WO_one rfl (One_load_own (d := 49) (t := 9) (x := (.tmp 48)) (.string x1.2) kr rfl (ev (.pointer (some ⟨b5, 1, none⟩))) st.tail.head kr ?_)
         refine WO_seg 4 [(9, .bool (x2.2.toList == x1.2.toList))] kr kr ?_
         obtain rfl := Option.some.inj hr
         have st := st.front5.front5.front5.front5.front5.front5
         exact WO_env _ kr (K _ _ ⟨m7, rfl, hm, st, r3, r6, r7⟩)
        ·rw [if_neg (not_true hc)] at hr
         refine WO_fact (t := 45) (b := false) (!(x2.1.toList == x1.1.toList)) kr hc ?_
         refine WO_seg 8 [(9, .bool false)] kr kr ?_
         obtain rfl := Option.some.inj hr
         have st := st.front5.front5.front5.front5.front5.front5
         exact WO_env _ kr (K _ _ ⟨m7, rfl, hm, st, r3, r6, r7⟩)
     ·intro hc
      rw [if_neg (not_true hc)] at hr
      refine W_exit ?_
      refine X_then_exit ?_
      obtain rfl := Option.some.inj hr
      have ho := hBu3 _ rfl
      have st := st.front4.front4.front4.front4.front4
      refine X_then_exit ?_
      exact X_env _ kr (K2_u3 _ _ ⟨s2.1, m7, ho, rfl, hm, st, r3, r6, r7⟩)
  ·intro hc
   rw [if_neg (not_true hc)] at hr
   refine W_exit ?_
   refine X_then_exit ?_
   obtain rfl := Option.some.inj hr
   have ho := hBu1 _ rfl
   have st := st.front3.front3.front3.front3
   refine X_then_exit ?_
   exact X_env _ kr (K0_u1 _ _ ⟨(s1.1, s1.2.2.1, s1.2.2.2.1, s1.2.2.2.2), a6, c6, a7, c7, m4, ho, rfl, hm, st, r6, r3, r7⟩)
end Go.Proofs.YtgggihpbhmbjaaaGreatDoor
