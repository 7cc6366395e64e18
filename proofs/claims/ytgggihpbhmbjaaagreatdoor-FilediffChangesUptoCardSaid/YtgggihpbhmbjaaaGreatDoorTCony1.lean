/- MADE BY gen.py: plain functions and the proofs that the Go functions compute them. No condition but those of each theorem. -/
import Derived.Test.YtgggihpbhmbjaaaGreatDoorProg
import Derived.Test.YtgggihpbhmbjaaaGreatDoorViewy1
import Derived.Test.YtgggihpbhmbjaaaGreatDoorMapDy1
import Derived.Test.YtgggihpbhmbjaaaGreatDoorLiny1
import Derived.Test.YtgggihpbhmbjaaaGreatDoorTConDy1
namespace Go.Proofs.YtgggihpbhmbjaaaGreatDoor
open Go Go.Dc
def testgatelaw15_FilediffChanges_L1 (N : Nat) (p1 : (List (ByteArray × ByteArray))) (y1 : (List Int × Int) × ((List (ByteArray × ByteArray))) × ((List (ByteArray × ByteArray)))) (s1 : Int) : Option ((Int) ⊕ ((Unit) ⊕ (Bool))) :=
 if (decide (s1 < (List.length ([(y1.2.1, y1.2.2), (y1.2.2, y1.2.1), (y1.2.1, y1.2.1), (y1.2.1, p1), (p1, y1.2.2), (([] : List (ByteArray × ByteArray)), y1.2.2), (y1.2.1, ([] : List (ByteArray × ByteArray)))]) : Int))) = true then ((idx ([(y1.2.1, y1.2.2), (y1.2.2, y1.2.1), (y1.2.1, y1.2.1), (y1.2.1, p1), (p1, y1.2.2), (([] : List (ByteArray × ByteArray)), y1.2.2), (y1.2.1, ([] : List (ByteArray × ByteArray)))]) s1).bind fun x1 => (filediff_Diff N x1.1 x1.2).bind fun y2 => (testgateref15_Diff N x1.1 x1.2).bind fun y3 => (if (y2.2 != y3.2) = true then (some true) else ((testgateref15_Same N y2.1 y3.1).bind fun y4 => some (!y4)) : Option (Bool)).bind fun o2 => if o2 = true then (some (.inr (.inr (false)))) else (some (.inl (IntKind.wrap .i64 (s1 + 1))))) else (some (.inr (.inl ())))
def testgatelaw15_FilediffChanges (N : Nat) (p0 : List Int) (p1 : (List (ByteArray × ByteArray))) : Option (Bool) :=
 (testgatelaw15_two N (p0, 0)).bind fun y1 => (loopM (testgatelaw15_FilediffChanges_L1 N p1 y1) N 0).bind fun out1 => (match out1 with | .inl o1 => (testgatelaw15_awake N).bind fun y5 => some y5 | .inr (z) => some z)
set_option maxHeartbeats 4000000 in
set_option maxRecDepth 100000 in
theorem testgatelaw15_FilediffChanges_ok {N : Nat} {m : Mem} {own : List Piece} {w : World} {p0 : List Int} {p1 : (List (ByteArray × ByteArray))} {a1 : Option Addr} {c1 : Nat} {a2 : Option Addr} {c2 : Nat} {r : Bool} (st : St m (own) w) (r1 : RepS (cInt .i64) m a1 c1 p0) (r2 : RepS (cPair cStr cStr) m a2 c2 p1) (hr : testgatelaw15_FilediffChanges N p0 p1 = some r) : Calls Tryz.prog 5 #[.slice a1 (List.length p0) c1, .agg #[.slice a2 (List.length p1) c2]] w fun e w' => ∃ (m' : Mem), e = .returned (.bool r) ∧ m.le m' ∧ St m' (own) w' := by
 unfold testgatelaw15_FilediffChanges at hr
 have hm := m.le_refl
 refine W_calls Tryz.func5 rfl Tryz.ntmps5 [(0, .slice a1 (List.length p0) c1), (1, .agg #[.slice a2 (List.length p1) c2])] kr rfl ?_
 refine W_sr (WO_one rfl (One_box (d := 3) (e := 25) (x := (.tmp 1)) (.agg #[.slice a2 (List.length p1) c2]) kr rfl kr st ?_))
 clear st
 intro b1 m1 w1 hle1 st hb1
 have hm := Mem.le_trans hm hle1
 have r1 := r1.mono hle1
 have r2 := r2.mono hle1
 refine WO_seg 1 [] kr kr ?_
 refine WO_et rfl (W_sr ?_)
 refine WO_seg 2 [(15, .agg #[.slice a1 (List.length p0) c1, .int .i64 0])] kr kr ?_
 refine WO_one rfl (One_box_own (d := 16) (e := 28) (x := (.tmp 15)) (.agg #[.slice a1 (List.length p0) c1, .int .i64 0]) kr rfl kr st ?_)
 clear st
 intro b2 w2 st
 replace ⟨y1, hx1, hr⟩ := bindS hr
 refine WO_one rfl (One_fn 17 23 #[.pointer (some ⟨b2, 0, none⟩)] kr rfl ?_)
 refine (testgatelaw15_two_ok st r1 hx1).mono ?_
 clear st
 rintro _ w3 ⟨a3, c3, a4, c4, a5, c5, m3, rfl, hle3, st, r3, r4, r5⟩
 refine ⟨_, rfl, ?_⟩
 have hm := Mem.le_trans hm hle3
 have r1 := r1.mono hle3
 have hb1 := hb1.mono hle3
 have r2 := r2.mono hle3
 refine WO_seg 3 [(18, .agg #[.slice a4 (List.length y1.2.1) c4]), (19, .agg #[.slice a5 (List.length y1.2.2) c5])] kr kr ?_
 refine WO_one rfl (One_alloc (d := 5) (e := 25) (.agg #[.slice none 0 0]) kr rfl kr st ?_)
 clear st
 intro b3 w4 st
 refine WO_one rfl (One_alloc (d := 6) (e := 25) (.agg #[.slice none 0 0]) kr rfl kr st ?_)
 clear st
 intro b4 w5 st
 have st := st.front1
 refine WO_one rfl (One_store (t := 25) (x := (.tmp 5)) (y := (.tmp 18)) (v := .agg #[.slice a4 (List.length y1.2.1) c4]) (c' := #[.slice a4 (List.length y1.2.1) c4]) kr (ev (.pointer (some ⟨b3, 0, none⟩))) (ev (.agg #[.slice a4 (List.length y1.2.1) c4])) st kr kr ?_)
 clear st
 intro w6 st
 have st := st.front1
 refine WO_one rfl (One_store (t := 25) (x := (.tmp 6)) (y := (.tmp 19)) (v := .agg #[.slice a5 (List.length y1.2.2) c5]) (c' := #[.slice a5 (List.length y1.2.2) c5]) kr (ev (.pointer (some ⟨b4, 0, none⟩))) (ev (.agg #[.slice a5 (List.length y1.2.2) c5])) st kr kr ?_)
 clear st
 intro w7 st
 refine WO_et rfl (W_seq ?_)
 refine W_sr (WO_one rfl (One_load_own (d := 20) (t := 25) (x := (.tmp 5)) (.agg #[.slice a4 (List.length y1.2.1) c4]) kr rfl (ev (.pointer (some ⟨b3, 0, none⟩))) st.tail.head kr ?_))
 refine WO_one rfl (One_load_own (d := 21) (t := 25) (x := (.tmp 6)) (.agg #[.slice a5 (List.length y1.2.2) c5]) kr rfl (ev (.pointer (some ⟨b4, 0, none⟩))) st.head kr ?_)
 refine WO_seg 1 [(22, .agg #[.slice a4 (List.length y1.2.1) c4, .slice a5 (List.length y1.2.2) c5])] kr kr ?_
 refine WO_one rfl (One_load_own (d := 23) (t := 25) (x := (.tmp 6)) (.agg #[.slice a5 (List.length y1.2.2) c5]) kr rfl (ev (.pointer (some ⟨b4, 0, none⟩))) st.head kr ?_)
 refine WO_one rfl (One_load_own (d := 24) (t := 25) (x := (.tmp 5)) (.agg #[.slice a4 (List.length y1.2.1) c4]) kr rfl (ev (.pointer (some ⟨b3, 0, none⟩))) st.tail.head kr ?_)
 refine WO_seg 1 [(25, .agg #[.slice a5 (List.length y1.2.2) c5, .slice a4 (List.length y1.2.1) c4])] kr kr ?_
 refine WO_one rfl (One_load_own (d := 26) (t := 25) (x := (.tmp 5)) (.agg #[.slice a4 (List.length y1.2.1) c4]) kr rfl (ev (.pointer (some ⟨b3, 0, none⟩))) st.tail.head kr ?_)
 refine WO_one rfl (One_load_own (d := 27) (t := 25) (x := (.tmp 5)) (.agg #[.slice a4 (List.length y1.2.1) c4]) kr rfl (ev (.pointer (some ⟨b3, 0, none⟩))) st.tail.head kr ?_)
 refine WO_seg 1 [(28, .agg #[.slice a4 (List.length y1.2.1) c4, .slice a4 (List.length y1.2.1) c4])] kr kr ?_
 refine WO_one rfl (One_load_own (d := 29) (t := 25) (x := (.tmp 5)) (.agg #[.slice a4 (List.length y1.2.1) c4]) kr rfl (ev (.pointer (some ⟨b3, 0, none⟩))) st.tail.head kr ?_)
 refine WO_one rfl (One_load_row (d := 30) (t := 25) (x := (.tmp 3)) (.agg #[.slice a2 (List.length p1) c2]) kr rfl (ev (.pointer (some ⟨b1, 0, none⟩))) st hb1 kr ?_)
 refine WO_seg 1 [(31, .agg #[.slice a4 (List.length y1.2.1) c4, .slice a2 (List.length p1) c2])] kr kr ?_
 refine WO_one rfl (One_load_row (d := 32) (t := 25) (x := (.tmp 3)) (.agg #[.slice a2 (List.length p1) c2]) kr rfl (ev (.pointer (some ⟨b1, 0, none⟩))) st hb1 kr ?_)
 refine WO_one rfl (One_load_own (d := 33) (t := 25) (x := (.tmp 6)) (.agg #[.slice a5 (List.length y1.2.2) c5]) kr rfl (ev (.pointer (some ⟨b4, 0, none⟩))) st.head kr ?_)
 refine WO_seg 2 [(34, .agg #[.slice a2 (List.length p1) c2, .slice a5 (List.length y1.2.2) c5]), (35, .agg #[.slice none (List.length ([] : List (ByteArray × ByteArray))) 0])] kr kr ?_
 refine WO_one rfl (One_load_own (d := 36) (t := 25) (x := (.tmp 6)) (.agg #[.slice a5 (List.length y1.2.2) c5]) kr rfl (ev (.pointer (some ⟨b4, 0, none⟩))) st.head kr ?_)
 refine WO_seg 1 [(37, .agg #[.slice none (List.length ([] : List (ByteArray × ByteArray))) 0, .slice a5 (List.length y1.2.2) c5])] kr kr ?_
 refine WO_one rfl (One_load_own (d := 38) (t := 25) (x := (.tmp 5)) (.agg #[.slice a4 (List.length y1.2.1) c4]) kr rfl (ev (.pointer (some ⟨b3, 0, none⟩))) st.tail.head kr ?_)
 refine WO_seg 2 [(40, .agg #[.slice a4 (List.length y1.2.1) c4, .slice none (List.length ([] : List (ByteArray × ByteArray))) 0])] kr kr ?_
 refine WO_one rfl (One_buildSlice (d := 41) (t := 57) (e := 56) (len := 7) (parts := #[(0, (.tmp 22)), (1, (.tmp 25)), (2, (.tmp 28)), (3, (.tmp 31)), (4, (.tmp 34)), (5, (.tmp 37)), (6, (.tmp 40))]) (cPair (cSl (cPair cStr cStr)) (cSl (cPair cStr cStr))) (xs := [(y1.2.1, y1.2.2), (y1.2.2, y1.2.1), (y1.2.1, y1.2.1), (y1.2.1, p1), (p1, y1.2.2), (([] : List (ByteArray × ByteArray)), y1.2.2), (y1.2.1, ([] : List (ByteArray × ByteArray)))]) [.slice a4 (List.length y1.2.1) c4, .slice a5 (List.length y1.2.2) c5, .slice a5 (List.length y1.2.2) c5, .slice a4 (List.length y1.2.1) c4, .slice a4 (List.length y1.2.1) c4, .slice a4 (List.length y1.2.1) c4, .slice a4 (List.length y1.2.1) c4, .slice a2 (List.length p1) c2, .slice a2 (List.length p1) c2, .slice a5 (List.length y1.2.2) c5, .slice none (List.length ([] : List (ByteArray × ByteArray))) 0, .slice a5 (List.length y1.2.2) c5, .slice a4 (List.length y1.2.1) c4, .slice none (List.length ([] : List (ByteArray × ByteArray))) 0] kr rfl (fun _ => buildCells_run kr _) rfl rfl st ⟨[.slice a4 (List.length y1.2.1) c4, .slice a5 (List.length y1.2.2) c5], _, rfl, ⟨_, _, rfl, (cSl_mk r4), (cSl_mk r5)⟩, ⟨[.slice a5 (List.length y1.2.2) c5, .slice a4 (List.length y1.2.1) c4], _, rfl, ⟨_, _, rfl, (cSl_mk r5), (cSl_mk r4)⟩, ⟨[.slice a4 (List.length y1.2.1) c4, .slice a4 (List.length y1.2.1) c4], _, rfl, ⟨_, _, rfl, (cSl_mk r4), (cSl_mk r4)⟩, ⟨[.slice a4 (List.length y1.2.1) c4, .slice a2 (List.length p1) c2], _, rfl, ⟨_, _, rfl, (cSl_mk r4), (cSl_mk r2)⟩, ⟨[.slice a2 (List.length p1) c2, .slice a5 (List.length y1.2.2) c5], _, rfl, ⟨_, _, rfl, (cSl_mk r2), (cSl_mk r5)⟩, ⟨[.slice none (List.length ([] : List (ByteArray × ByteArray))) 0, .slice a5 (List.length y1.2.2) c5], _, rfl, ⟨_, _, rfl, (cSl_mk (RepS.nil _ _)), (cSl_mk r5)⟩, ⟨[.slice a4 (List.length y1.2.1) c4, .slice none (List.length ([] : List (ByteArray × ByteArray))) 0], _, rfl, ⟨_, _, rfl, (cSl_mk r4), (cSl_mk (RepS.nil _ _))⟩, rfl⟩⟩⟩⟩⟩⟩⟩ ?_)
 clear st
 intro b5 m4 w8 hle4 st r6
 have hm := Mem.le_trans hm hle4
 have hb1 := hb1.mono hle4
 have r2 := r2.mono hle4
 have r4 := r4.mono hle4
 have r5 := r5.mono hle4
 have r3 := r3.mono hle4
 refine WO_seg 2 [(42, .int .i64 (List.length ([(y1.2.1, y1.2.2), (y1.2.2, y1.2.1), (y1.2.1, y1.2.1), (y1.2.1, p1), (p1, y1.2.2), (([] : List (ByteArray × ByteArray)), y1.2.2), (y1.2.1, ([] : List (ByteArray × ByteArray)))]) : Int)), (43, .int .i64 0)] kr kr ?_
 refine WO_et rfl (W_block ?_)
 replace ⟨out1, hr, hrKu1⟩ := bindS hr
 refine W_cut (.exit 0) (fun L' w' => ∃ (o1 : Unit) (m5 : Mem), (.inl o1) = out1 ∧ L' = [] ∧ m.le m5 ∧ St m5 (.blk b4 (.cells #[.slice a5 (List.length y1.2.2) c5] 25 (0, 0)) :: .blk b3 (.cells #[.slice a4 (List.length y1.2.1) c4] 25 (0, 0)) :: .blk b2 (.cells #[.slice a3 (List.length y1.1.1) c3, .int .i64 y1.1.2] 28 (0, 0)) :: .room (some ⟨b5, 0, none⟩) (List.length ([(y1.2.1, y1.2.2), (y1.2.2, y1.2.1), (y1.2.1, y1.2.1), (y1.2.1, p1), (p1, y1.2.2), (([] : List (ByteArray × ByteArray)), y1.2.2), (y1.2.1, ([] : List (ByteArray × ByteArray)))])) 7 56 2 :: .room a5 (List.length y1.2.2) c5 74 2 :: own) w' ∧ RepS (cPair cStr cStr) m5 a5 c5 y1.2.2 ∧ RepS (cPair cStr cStr) m5 a4 c4 y1.2.1 ∧ RepS (cInt .i64) m5 a3 c3 y1.1.1) ?_ ?_
 ·clear hr st
  rintro _ w9 ⟨o1, m5, rfl, rfl, hm, st, r5, r4, r3⟩
  have hr := hrKu1
  clear hrKu1
  dsimp only at hr
  refine X_block_eq ?_
  refine X_then ?_
  refine W_sr ?_
  replace ⟨y5, hx6, hr⟩ := bindS hr
  refine WO_one rfl (One_fn 73 27 #[] kr rfl ?_)
  refine (testgatelaw15_awake_ok st hx6).mono ?_
  clear st
  rintro _ w17 ⟨m12, rfl, hle9, st⟩
  refine ⟨_, rfl, ?_⟩
  have hm := Mem.le_trans hm hle9
  have r5 := r5.mono hle9
  have r4 := r4.mono hle9
  have r3 := r3.mono hle9
  refine WO_seg 1 [(4, .bool y5)] kr kr ?_
  refine WO_end rfl ?_
  have st := st.front3
  have st := st.tail
  refine X_then ?_
  refine W_ret ?_
  obtain rfl := Option.some.inj hr
  refine X_ret [.tmp 4] [.bool y5] rfl (ResAll.cons (ResAt.tmp kr) ResAll.nil) ?_
  have st := st.tail
  have st := st.tail
  have st := st.tail
  have st := st.tail
  exact ⟨m12, rfl, hm, st⟩
 intro K0_u1
 have st := st.front3.front1.front4.front4.front4
 refine W_env _ kr (W_loop (fun k1 L' w' => ∃ (s1 : Int) (m6 : Mem), loopM (testgatelaw15_FilediffChanges_L1 N p1 y1) k1 s1 = some out1 ∧ L' = [(41, .slice (some ⟨b5, 0, none⟩) (List.length ([(y1.2.1, y1.2.2), (y1.2.2, y1.2.1), (y1.2.1, y1.2.1), (y1.2.1, p1), (p1, y1.2.2), (([] : List (ByteArray × ByteArray)), y1.2.2), (y1.2.1, ([] : List (ByteArray × ByteArray)))])) 7), (42, .int .i64 (List.length ([(y1.2.1, y1.2.2), (y1.2.2, y1.2.1), (y1.2.1, y1.2.1), (y1.2.1, p1), (p1, y1.2.2), (([] : List (ByteArray × ByteArray)), y1.2.2), (y1.2.1, ([] : List (ByteArray × ByteArray)))]) : Int)), (43, .int .i64 s1)] ∧ m.le m6 ∧ St m6 (.blk b4 (.cells #[.slice a5 (List.length y1.2.2) c5] 25 (0, 0)) :: .blk b3 (.cells #[.slice a4 (List.length y1.2.1) c4] 25 (0, 0)) :: .blk b2 (.cells #[.slice a3 (List.length y1.1.1) c3, .int .i64 y1.1.2] 28 (0, 0)) :: .room (some ⟨b5, 0, none⟩) (List.length ([(y1.2.1, y1.2.2), (y1.2.2, y1.2.1), (y1.2.1, y1.2.1), (y1.2.1, p1), (p1, y1.2.2), (([] : List (ByteArray × ByteArray)), y1.2.2), (y1.2.1, ([] : List (ByteArray × ByteArray)))])) 7 56 2 :: .room a5 (List.length y1.2.2) c5 74 2 :: own) w' ∧ RepS (cPair (cSl (cPair cStr cStr)) (cSl (cPair cStr cStr))) m6 (some ⟨b5, 0, none⟩) 7 ([(y1.2.1, y1.2.2), (y1.2.2, y1.2.1), (y1.2.1, y1.2.1), (y1.2.1, p1), (p1, y1.2.2), (([] : List (ByteArray × ByteArray)), y1.2.2), (y1.2.1, ([] : List (ByteArray × ByteArray)))]) ∧ RepS (cPair cStr cStr) m6 a5 c5 y1.2.2 ∧ RepS (cPair cStr cStr) m6 a4 c4 y1.2.1 ∧ RepS (cInt .i64) m6 a3 c3 y1.1.1) N ⟨0, m4, hr, rfl, hm, st, r6, r5, r4, r3⟩ ?_)
 clear st hr
 rintro k1 _ w10 ⟨s1, m6, hL, rfl, hm, st, r6, r5, r4, r3⟩
 rcases k1 with _ | k1
 ·exact loopM_zero hL
 ·obtain ⟨qu1, hr, hSu1, hBu1⟩ := loopM_succ hL
  clear hL
  unfold testgatelaw15_FilediffChanges_L1 at hr
  refine W_sr (WO_seg 1 [(44, .bool (decide (s1 < (List.length ([(y1.2.1, y1.2.2), (y1.2.2, y1.2.1), (y1.2.1, y1.2.1), (y1.2.1, p1), (p1, y1.2.2), (([] : List (ByteArray × ByteArray)), y1.2.2), (y1.2.1, ([] : List (ByteArray × ByteArray)))]) : Int))))] kr kr ?_)
  refine WO_et rfl (W_seq ?_)
  refine W_cond (decide (s1 < (List.length ([(y1.2.1, y1.2.2), (y1.2.2, y1.2.1), (y1.2.1, y1.2.1), (y1.2.1, p1), (p1, y1.2.2), (([] : List (ByteArray × ByteArray)), y1.2.2), (y1.2.1, ([] : List (ByteArray × ByteArray)))]) : Int))) kr ?_ ?_
  ·intro hc
   rw [if_pos hc] at hr
   refine W_skip ?_
   refine X_then ?_
   refine W_seq ?_
   refine W_block ?_
   refine W_sr ?_
   replace ⟨x1, hx2, hr⟩ := bindS hr
   refine WO_one rfl (One_index (d := 45) (t := 57) (e := 56) (x := (.tmp 41)) (y := (.tmp 43)) (cPair (cSl (cPair cStr cStr)) (cSl (cPair cStr cStr))) kr rfl (ev (.slice (some ⟨b5, 0, none⟩) (List.length ([(y1.2.1, y1.2.2), (y1.2.2, y1.2.1), (y1.2.1, y1.2.1), (y1.2.1, p1), (p1, y1.2.2), (([] : List (ByteArray × ByteArray)), y1.2.2), (y1.2.1, ([] : List (ByteArray × ByteArray)))])) 7)) (ev (.int .i64 s1)) kr r6 hx2 ?_)
   rintro b6 f1 cs1 ⟨_, _, rfl, ⟨a6, c6, rfl, r7⟩, ⟨a7, c7, rfl, r8⟩⟩ hq1
   refine WO_one rfl (One_load_row (d := 46) (t := 56) (x := (.tmp 45)) (.agg #[.slice a6 (List.length x1.1) c6, .slice a7 (List.length x1.2) c7]) kr rfl (ev (.pointer (some ⟨b6, f1, none⟩))) st hq1 kr ?_)
   refine WO_one rfl (One_alloc (d := 8) (e := 56) (.agg #[.slice none 0 0, .slice none 0 0]) kr rfl kr st ?_)
   clear st
   intro b7 w11 st
   refine WO_one rfl (One_store (t := 56) (x := (.tmp 8)) (y := (.tmp 46)) (v := .agg #[.slice a6 (List.length x1.1) c6, .slice a7 (List.length x1.2) c7]) (c' := #[.slice a6 (List.length x1.1) c6, .slice a7 (List.length x1.2) c7]) kr (ev (.pointer (some ⟨b7, 0, none⟩))) (ev (.agg #[.slice a6 (List.length x1.1) c6, .slice a7 (List.length x1.2) c7])) st kr kr ?_)
   clear st
   intro w12 st
   obtain ⟨m7, hle5, st, hb3⟩ := St.settle st
   have hm := Mem.le_trans hm hle5
   have r6 := r6.mono hle5
   have hq1 := hq1.mono hle5
   have r7 := r7.mono hle5
   have r8 := r8.mono hle5
   have r5 := r5.mono hle5
   have r4 := r4.mono hle5
   have r3 := r3.mono hle5
   refine WO_et rfl (W_sr ?_)
   refine WO_one rfl (One_tabIndex (d := 48) (t := 56) (e := 25) (x := (.tmp 8)) (y := (.const (.int .i64 0))) (nn := 2) (k := 1) (0) kr kr rfl (ev (.pointer (some ⟨b7, 0, none⟩))) (ev (.int .i64 0)) kr (by decide) (by decide) ?_)
   refine WO_one rfl (One_load_row (d := 49) (t := 25) (x := (.tmp 48)) (.agg #[.slice a6 (List.length x1.1) c6]) kr rfl (ev (.pointer (some ⟨b7, 0, none⟩))) st hb3 kr ?_)
   refine WO_one rfl (One_tabIndex (d := 50) (t := 56) (e := 25) (x := (.tmp 8)) (y := (.const (.int .i64 1))) (nn := 2) (k := 1) (1) kr kr rfl (ev (.pointer (some ⟨b7, 0, none⟩))) (ev (.int .i64 1)) kr (by decide) (by decide) ?_)
   refine WO_one rfl (One_load_row (d := 51) (t := 25) (x := (.tmp 50)) (.agg #[.slice a7 (List.length x1.2) c7]) kr rfl (ev (.pointer (some ⟨b7, 1, none⟩))) st (hb3.drop 1) kr ?_)
   replace ⟨y2, hx3, hr⟩ := bindS hr
   refine WO_one rfl (One_fn 52 24 #[.agg #[.slice a6 (List.length x1.1) c6], .agg #[.slice a7 (List.length x1.2) c7]] kr rfl ?_)
   refine (filediff_Diff_ok st r7 r8 hx3).mono ?_
   clear st
   rintro _ w13 ⟨a8, c8, m8, rfl, hle6, st, r9⟩
   refine ⟨_, rfl, ?_⟩
   have hm := Mem.le_trans hm hle6
   have r6 := r6.mono hle6
   have hb3 := hb3.mono hle6
   have r7 := r7.mono hle6
   have r8 := r8.mono hle6
   have r5 := r5.mono hle6
   have r4 := r4.mono hle6
   have r3 := r3.mono hle6
   refine WO_seg 5 [(9, .slice a8 (List.length y2.1) c8), (10, .int .i64 y2.2)] kr kr ?_
   refine WO_et rfl (W_sr ?_)
   refine WO_one rfl (One_tabIndex (d := 56) (t := 56) (e := 25) (x := (.tmp 8)) (y := (.const (.int .i64 0))) (nn := 2) (k := 1) (0) kr kr rfl (ev (.pointer (some ⟨b7, 0, none⟩))) (ev (.int .i64 0)) kr (by decide) (by decide) ?_)
   refine WO_one rfl (One_load_row (d := 57) (t := 25) (x := (.tmp 56)) (.agg #[.slice a6 (List.length x1.1) c6]) kr rfl (ev (.pointer (some ⟨b7, 0, none⟩))) st hb3 kr ?_)
   refine WO_one rfl (One_tabIndex (d := 58) (t := 56) (e := 25) (x := (.tmp 8)) (y := (.const (.int .i64 1))) (nn := 2) (k := 1) (1) kr kr rfl (ev (.pointer (some ⟨b7, 0, none⟩))) (ev (.int .i64 1)) kr (by decide) (by decide) ?_)
   refine WO_one rfl (One_load_row (d := 59) (t := 25) (x := (.tmp 58)) (.agg #[.slice a7 (List.length x1.2) c7]) kr rfl (ev (.pointer (some ⟨b7, 1, none⟩))) st (hb3.drop 1) kr ?_)
   replace ⟨y3, hx4, hr⟩ := bindS hr
   refine WO_one rfl (One_fn 60 25 #[.agg #[.slice a6 (List.length x1.1) c6], .agg #[.slice a7 (List.length x1.2) c7]] kr rfl ?_)
   refine (testgateref15_Diff_ok st r7 r8 hx4).mono ?_
   clear st
   rintro _ w14 ⟨a9, c9, m9, rfl, hle7, st, r10⟩
   refine ⟨_, rfl, ?_⟩
   have hm := Mem.le_trans hm hle7
   have r6 := r6.mono hle7
   have hb3 := hb3.mono hle7
   have r7 := r7.mono hle7
   have r8 := r8.mono hle7
   have r9 := r9.mono hle7
   have r5 := r5.mono hle7
   have r4 := r4.mono hle7
   have r3 := r3.mono hle7
   refine WO_seg 5 [(11, .slice a9 (List.length y3.1) c9), (12, .int .i64 y3.2)] kr kr ?_
   refine WO_et rfl (W_sr ?_)
   replace ⟨o2, hr, hrK⟩ := bindS hr
   refine WO_cut (j := 9) (fun L' w' => ∃ (m10 : Mem), L' = [(41, .slice (some ⟨b5, 0, none⟩) (List.length ([(y1.2.1, y1.2.2), (y1.2.2, y1.2.1), (y1.2.1, y1.2.1), (y1.2.1, p1), (p1, y1.2.2), (([] : List (ByteArray × ByteArray)), y1.2.2), (y1.2.1, ([] : List (ByteArray × ByteArray)))])) 7), (42, .int .i64 (List.length ([(y1.2.1, y1.2.2), (y1.2.2, y1.2.1), (y1.2.1, y1.2.1), (y1.2.1, p1), (p1, y1.2.2), (([] : List (ByteArray × ByteArray)), y1.2.2), (y1.2.1, ([] : List (ByteArray × ByteArray)))]) : Int)), (43, .int .i64 s1), (71, .bool o2)] ∧ m.le m10 ∧ St m10 (.blk b4 (.cells #[.slice a5 (List.length y1.2.2) c5] 25 (0, 0)) :: .blk b3 (.cells #[.slice a4 (List.length y1.2.1) c4] 25 (0, 0)) :: .blk b2 (.cells #[.slice a3 (List.length y1.1.1) c3, .int .i64 y1.1.2] 28 (0, 0)) :: .room a9 (List.length y3.1) c9 72 4 :: .room a8 (List.length y2.1) c8 72 4 :: .room (some ⟨b5, 0, none⟩) (List.length ([(y1.2.1, y1.2.2), (y1.2.2, y1.2.1), (y1.2.1, y1.2.1), (y1.2.1, p1), (p1, y1.2.2), (([] : List (ByteArray × ByteArray)), y1.2.2), (y1.2.1, ([] : List (ByteArray × ByteArray)))])) 7 56 2 :: .room a5 (List.length y1.2.2) c5 74 2 :: own) w' ∧ RepS (cPair (cSl (cPair cStr cStr)) (cSl (cPair cStr cStr))) m10 (some ⟨b5, 0, none⟩) 7 ([(y1.2.1, y1.2.2), (y1.2.2, y1.2.1), (y1.2.1, y1.2.1), (y1.2.1, p1), (p1, y1.2.2), (([] : List (ByteArray × ByteArray)), y1.2.2), (y1.2.1, ([] : List (ByteArray × ByteArray)))]) ∧ RepS (cPair cStr cStr) m10 a5 c5 y1.2.2 ∧ RepS (cPair cStr cStr) m10 a4 c4 y1.2.1 ∧ RepS (cInt .i64) m10 a3 c3 y1.1.1) ?_ ?_
   ·clear hr st
    have hr := hrK
    clear hrK
    rintro _ w15 ⟨m10, rfl, hm, st, r6, r5, r4, r3⟩
    refine WO_et rfl (W_cond o2 kr ?_ ?_)
    ·intro hc
     rw [if_pos hc] at hr
     refine W_sr (WO_seg 1 [(4, .bool false)] kr kr ?_)
     refine WO_end rfl ?_
     have st := st.front3
     have st := st.tail
     have st := st.front3
     have st := st.tail
     have st := st.front3
     have st := st.tail
     refine X_then ?_
     refine W_ret ?_
     refine X_block_ret ?_
     refine X_then_ret ?_
     obtain rfl := Option.some.inj hr
     have ho := hBu1 _ rfl
     subst ho
     have hr := hrKu1
     dsimp only at hr
     refine X_then_ret ?_
     refine X_block_ret ?_
     refine X_then_ret ?_
     obtain rfl := Option.some.inj hr
     refine X_ret [.tmp 4] [.bool false] rfl (ResAll.cons (ResAt.tmp kr) ResAll.nil) ?_
     have st := st.tail
     have st := st.tail
     have st := st.tail
     have st := st.tail
     exact ⟨m10, rfl, hm, st⟩
    ·intro hc
     rw [if_neg (not_true hc)] at hr
     refine W_skip ?_
     refine X_block ?_
     refine X_then ?_
     refine W_region ?_
     refine WO_seg 2 [(43, .int .i64 (IntKind.wrap .i64 (s1 + 1)))] kr kr ?_
     refine WO_end rfl ?_
     have st := st.front3
     have st := st.tail
     have st := st.front3
     have st := st.tail
     obtain rfl := Option.some.inj hr
     have hL := hSu1 _ rfl
     have st := st.front4.front4.front4.front4.front4
     exact X_env _ kr (X_round k1 (Nat.lt_succ_self _) ⟨IntKind.wrap .i64 (s1 + 1), m10, hL, rfl, hm, st, r6, r5, r4, r3⟩)
   ·intro K
    clear hrK
    refine WO_seg 4 [(66, .bool (y2.2 != y3.2))] kr kr ?_
    rcases bcases (y2.2 != y3.2) with hc | hc
    ·rw [if_pos hc] at hr
     refine WO_fact (t := 66) (b := true) (y2.2 != y3.2) kr hc ?_
     refine WO_seg 5 [(71, .bool true)] kr kr ?_
     obtain rfl := Option.some.inj hr
     have st := st.front6.front6.front3.front3.front6.front6.front6
     exact WO_env _ kr (K _ _ ⟨m9, rfl, hm, st, r6, r5, r4, r3⟩)
    ·rw [if_neg (not_true hc)] at hr
     refine WO_fact (t := 66) (b := false) (y2.2 != y3.2) kr hc ?_
     refine WO_seg 2 [(67, .slice a8 (List.length y2.1) c8), (68, .slice a9 (List.length y3.1) c9)] kr kr ?_
     replace ⟨y4, hx5, hr⟩ := bindS hr
     refine WO_one rfl (One_fn 69 26 #[.slice a8 (List.length y2.1) c8, .slice a9 (List.length y3.1) c9] kr rfl ?_)
     refine (testgateref15_Same_ok st r9 r10 hx5).mono ?_
     clear st
     rintro _ w16 ⟨m11, rfl, hle8, st⟩
     refine ⟨_, rfl, ?_⟩
     have hm := Mem.le_trans hm hle8
     have r6 := r6.mono hle8
     have r9 := r9.mono hle8
     have r10 := r10.mono hle8
     have r5 := r5.mono hle8
     have r4 := r4.mono hle8
     have r3 := r3.mono hle8
     refine WO_seg 2 [(71, .bool (!y4))] kr kr ?_
     obtain rfl := Option.some.inj hr
     have st := st.front6.front6.front3.front3.front6.front6.front6
     exact WO_env _ kr (K _ _ ⟨m11, rfl, hm, st, r6, r5, r4, r3⟩)
  ·intro hc
   rw [if_neg (not_true hc)] at hr
   refine W_exit ?_
   refine X_then_exit ?_
   obtain rfl := Option.some.inj hr
   have ho := hBu1 _ rfl
   have st := st.front4.front4.front4.front4.front4
   refine X_then_exit ?_
   exact X_env _ kr (K0_u1 _ _ ⟨(), m6, ho, rfl, hm, st, r5, r4, r3⟩)
end Go.Proofs.YtgggihpbhmbjaaaGreatDoor
