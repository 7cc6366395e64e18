/- MADE BY gen.py: plain functions and the proofs that the Go functions compute them. No condition but those of each theorem. -/
import Derived.Test.YtfodebccikifcaaDoorProg
import Derived.Test.YtfodebccikifcaaDoorInsc1
import Derived.Test.YtfodebccikifcaaDoorTConDc1
namespace Go.Proofs.YtfodebccikifcaaDoor
open Go Go.Dc
def testgatelaw07_RevisionCalls_L1 (N : Nat) (p1 : ByteArray) (p2 : ByteArray) (y1 : (List Int × Int) × ((List (ByteArray × ByteArray)))) (s1 : Int × List (Int) × Int) : Option ((Int × List (Int) × Int) ⊕ ((List (Int) × Int) ⊕ (Bool))) :=
 if (decide (s1.1 < 6)) = true then ((testgatemake_Tape_One N (s1.2.1, s1.2.2) ([(⟨#[97, 46, 115, 114, 99]⟩ : ByteArray), (⟨#[98, 46, 115, 114, 99]⟩ : ByteArray), (⟨#[97, 46, 100, 97, 116]⟩ : ByteArray), (⟨#[99]⟩ : ByteArray), (⟨#[100, 47, 98, 46, 100, 97, 116]⟩ : ByteArray), (⟨#[110, 101, 119]⟩ : ByteArray), p1])).bind fun y7 => (testgatemake_Tape_One N (y7.1.1, y7.1.2) ([(⟨#[97, 46, 115, 114, 99]⟩ : ByteArray), (⟨#[99]⟩ : ByteArray), (⟨#[120, 46, 115, 114, 99]⟩ : ByteArray), (⟨#[110, 101, 119, 47, 120]⟩ : ByteArray), p1])).bind fun y8 => (revision_Find N y1.2 y7.2).bind fun y9 => (testgateref07_Find N y1.2 y7.2).bind fun y10 => (if (!(y9.1.toList == y10.1.toList)) = true then (some true) else (if (!(y9.2 == y10.2)) = true then (some true) else ((revision_IsSource N y7.2).bind fun y11 => (testgateref07_IsSource N y7.2).bind fun y12 => some (!(y11 == y12)))) : Option (Bool)).bind fun o3 => if o3 = true then (some (.inr (.inr (false)))) else ((revision_Put N y1.2 y7.2 p2).bind fun y13 => (testgateref07_Put N y1.2 y7.2 p2).bind fun y14 => (if (y13.2 != y14.2) = true then (some true) else ((testgateref07_Same N y13.1 y14.1).bind fun y15 => some (!y15)) : Option (Bool)).bind fun o4 => if o4 = true then (some (.inr (.inr (false)))) else ((revision_Remove N y1.2 y7.2).bind fun y16 => (testgateref07_Remove N y1.2 y7.2).bind fun y17 => (if (y16.2 != y17.2) = true then (some true) else ((testgateref07_Same N y16.1 y17.1).bind fun y18 => some (!y18)) : Option (Bool)).bind fun o5 => if o5 = true then (some (.inr (.inr (false)))) else ((revision_Move N y1.2 y7.2 y8.2).bind fun y19 => (testgateref07_Move N y1.2 y7.2 y8.2).bind fun y20 => (if (y19.2 != y20.2) = true then (some true) else ((testgateref07_Same N y19.1 y20.1).bind fun y21 => some (!y21)) : Option (Bool)).bind fun o6 => if o6 = true then (some (.inr (.inr (false)))) else (some (.inl (IntKind.wrap .i64 (s1.1 + 1), y8.1.1, y8.1.2))))))) else (some (.inr (.inl (s1.2.1, s1.2.2))))
def testgatelaw07_RevisionCalls (N : Nat) (p0 : List Int) (p1 : ByteArray) (p2 : ByteArray) : Option (Bool) :=
 (testgatelaw07_spoiled N (p0, 0)).bind fun y1 => (testgatelaw07_spoiled N (y1.1.1, y1.1.2)).bind fun y2 => ((revision_Check N y1.2).bind fun y3 => (testgateref07_Check N y1.2).bind fun y4 => if (y3 != y4) = true then (some true) else ((revision_Same N y1.2 y2.2).bind fun y5 => (testgateref07_Same N y1.2 y2.2).bind fun y6 => some (!(y5 == y6))) : Option (Bool)).bind fun o1 => if o1 = true then (some false) else ((loopM (testgatelaw07_RevisionCalls_L1 N p1 p2 y1) N (0, y2.1.1, y2.1.2)).bind fun out1 => (match out1 with | .inl o2 => ((revision_IsSource N p1).bind fun y22 => (testgateref07_IsSource N p1).bind fun y23 => if (y22 == y23) = true then ((catB p1 (⟨#[46, 115, 114, 99]⟩ : ByteArray)).bind fun s2 => (revision_IsSource N s2).bind fun y24 => (catB p1 (⟨#[46, 115, 114, 99]⟩ : ByteArray)).bind fun s3 => (testgateref07_IsSource N s3).bind fun y25 => if (y24 == y25) = true then ((testgatelaw07_awake N).bind fun y26 => some y26) else (some false)) else (some false) : Option (Bool)).bind fun o7 => some o7 | .inr (z) => some z))
set_option maxHeartbeats 4000000 in
set_option maxRecDepth 100000 in
theorem testgatelaw07_RevisionCalls_ok {N : Nat} {m : Mem} {own : List Piece} {w : World} {p0 : List Int} {p1 : ByteArray} {p2 : ByteArray} {a1 : Option Addr} {c1 : Nat} {r : Bool} (st : St m (own) w) (r1 : RepS (cInt .i64) m a1 c1 p0) (hr : testgatelaw07_RevisionCalls N p0 p1 p2 = some r) : Calls Tryd.prog 9 #[.slice a1 (List.length p0) c1, .string p1, .string p2] w fun e w' => ∃ (m' : Mem), e = .returned (.bool r) ∧ m.le m' ∧ St m' (own) w' := by
 unfold testgatelaw07_RevisionCalls at hr
 have hm := m.le_refl
 refine W_calls Tryd.func9 rfl Tryd.ntmps9 [(0, .slice a1 (List.length p0) c1), (1, .string p1), (2, .string p2)] kr rfl ?_
 refine W_sr (WO_seg 1 [] kr kr ?_)
 refine WO_et rfl (W_sr ?_)
 refine WO_seg 2 [(22, .agg #[.slice a1 (List.length p0) c1, .int .i64 0])] kr kr ?_
 refine WO_one rfl (One_box_own (d := 23) (e := 29) (x := (.tmp 22)) (.agg #[.slice a1 (List.length p0) c1, .int .i64 0]) kr rfl kr st ?_)
 clear st
 intro b1 w1 st
 refine WO_seg 1 [(7, .pointer (some ⟨b1, 0, none⟩))] kr kr ?_
 refine WO_et rfl (W_sr ?_)
 refine WO_seg 1 [(24, .pointer (some ⟨b1, 0, none⟩))] kr kr ?_
 replace ⟨y1, hx1, hr⟩ := bindS hr
 refine WO_one rfl (One_fn 25 25 #[.pointer (some ⟨b1, 0, none⟩)] kr rfl ?_)
 refine (testgatelaw07_spoiled_ok st r1 hx1).mono ?_
 clear st
 rintro _ w2 ⟨a2, c2, a3, c3, m2, rfl, hle2, st, r2, r3⟩
 refine ⟨_, rfl, ?_⟩
 have hm := Mem.le_trans hm hle2
 have r1 := r1.mono hle2
 refine WO_seg 1 [(26, .pointer (some ⟨b1, 0, none⟩))] kr kr ?_
 replace ⟨y2, hx2, hr⟩ := bindS hr
 refine WO_one rfl (One_fn 27 25 #[.pointer (some ⟨b1, 0, none⟩)] kr rfl ?_)
 refine (testgatelaw07_spoiled_ok st r2 hx2).mono ?_
 clear st
 rintro _ w3 ⟨a4, c4, a5, c5, m3, rfl, hle3, st, r4, r5⟩
 refine ⟨_, rfl, ?_⟩
 have hm := Mem.le_trans hm hle3
 have r3 := r3.mono hle3
 have r2 := r2.mono hle3
 refine WO_one rfl (One_alloc (d := 8) (e := 47) (.agg #[.slice none 0 0]) kr rfl kr st ?_)
 clear st
 intro b2 w4 st
 refine WO_one rfl (One_alloc (d := 9) (e := 47) (.agg #[.slice none 0 0]) kr rfl kr st ?_)
 clear st
 intro b3 w5 st
 have st := st.front1
 refine WO_one rfl (One_store (t := 47) (x := (.tmp 8)) (y := (.tmp 25)) (v := .agg #[.slice a3 (List.length y1.2) c3]) (c' := #[.slice a3 (List.length y1.2) c3]) kr (ev (.pointer (some ⟨b2, 0, none⟩))) (ev (.agg #[.slice a3 (List.length y1.2) c3])) st kr kr ?_)
 clear st
 intro w6 st
 have st := st.front1
 refine WO_one rfl (One_store (t := 47) (x := (.tmp 9)) (y := (.tmp 27)) (v := .agg #[.slice a5 (List.length y2.2) c5]) (c' := #[.slice a5 (List.length y2.2) c5]) kr (ev (.pointer (some ⟨b3, 0, none⟩))) (ev (.agg #[.slice a5 (List.length y2.2) c5])) st kr kr ?_)
 clear st
 intro w7 st
 refine WO_et rfl (W_seq ?_)
 refine W_seq ?_
 replace ⟨o1, hr, hrK⟩ := bindS hr
 refine W_cut .normal (fun L' w' => ∃ (m4 : Mem), L' = [(1, .string p1), (2, .string p2), (7, .pointer (some ⟨b1, 0, none⟩)), (8, .pointer (some ⟨b2, 0, none⟩)), (41, .bool o1)] ∧ m.le m4 ∧ St m4 (.blk b3 (.cells #[.slice a5 (List.length y2.2) c5] 47 (0, 0)) :: .blk b2 (.cells #[.slice a3 (List.length y1.2) c3] 47 (0, 0)) :: .blk b1 (.cells #[.slice a4 (List.length y2.1.1) c4, .int .i64 y2.1.2] 29 (0, 0)) :: own) w' ∧ RepS (cPair cStr cStr) m4 a5 c5 y2.2 ∧ RepS (cPair cStr cStr) m4 a3 c3 y1.2 ∧ RepS (cInt .i64) m4 a4 c4 y2.1.1) ?_ ?_
 ·clear hr st
  have hr := hrK
  clear hrK
  rintro _ w8 ⟨m4, rfl, hm, st, r5, r3, r4⟩
  refine X_then ?_
  refine W_cond o1 kr ?_ ?_
  ·intro hc
   rw [if_pos hc] at hr
   refine W_sr (WO_seg 1 [(6, .bool false)] kr kr ?_)
   refine WO_et rfl (W_ret ?_)
   refine X_then_ret ?_
   obtain rfl := Option.some.inj hr
   refine X_ret [.tmp 6] [.bool false] rfl (ResAll.cons (ResAt.tmp kr) ResAll.nil) ?_
   have st := st.tail
   have st := st.tail
   have st := st.tail
   exact ⟨m4, rfl, hm, st⟩
  ·intro hc
   rw [if_neg (not_true hc)] at hr
   refine W_skip ?_
   refine X_then ?_
   refine W_seq ?_
   refine W_sr (WO_seg 1 [(10, .int .i64 0)] kr kr ?_)
   refine WO_et rfl (W_block ?_)
   replace ⟨out1, hr, hrKu1⟩ := bindS hr
   refine W_cut (.exit 0) (fun L' w' => ∃ (o2 : List (Int) × Int) (a6 : Option Addr) (c6 : Nat) (m9 : Mem), (.inl o2) = out1 ∧ L' = [(1, .string p1)] ∧ m.le m9 ∧ St m9 (.blk b3 (.cells #[.slice a5 (List.length y2.2) c5] 47 (0, 0)) :: .blk b2 (.cells #[.slice a3 (List.length y1.2) c3] 47 (0, 0)) :: .blk b1 (.cells #[.slice a6 (List.length o2.1) c6, .int .i64 o2.2] 29 (0, 0)) :: own) w' ∧ RepS (cPair cStr cStr) m9 a5 c5 y2.2 ∧ RepS (cPair cStr cStr) m9 a3 c3 y1.2 ∧ RepS (cInt .i64) m9 a6 c6 o2.1) ?_ ?_
   ·clear hr st
    rintro _ w14 ⟨o2, a6, c6, m9, rfl, rfl, hm, st, r5, r3, r6⟩
    have hr := hrKu1
    clear hrKu1
    dsimp only at hr
    refine X_block_eq ?_
    refine X_then ?_
    refine W_sr ?_
    replace ⟨o7, hr, hrK⟩ := bindS hr
    refine WO_cut (j := 18) (fun L' w' => ∃ (m32 : Mem), L' = [(6, .bool o7)] ∧ m.le m32 ∧ St m32 (.blk b3 (.cells #[.slice a5 (List.length y2.2) c5] 47 (0, 0)) :: .blk b2 (.cells #[.slice a3 (List.length y1.2) c3] 47 (0, 0)) :: .blk b1 (.cells #[.slice a6 (List.length o2.1) c6, .int .i64 o2.2] 29 (0, 0)) :: own) w' ∧ RepS (cPair cStr cStr) m32 a5 c5 y2.2 ∧ RepS (cPair cStr cStr) m32 a3 c3 y1.2 ∧ RepS (cInt .i64) m32 a6 c6 o2.1) ?_ ?_
    ·clear hr st
     have hr := hrK
     clear hrK
     rintro _ w45 ⟨m32, rfl, hm, st, r5, r3, r6⟩
     refine WO_et rfl (W_ret ?_)
     obtain rfl := Option.some.inj hr
     refine X_ret [.tmp 6] [.bool o7] rfl (ResAll.cons (ResAt.tmp kr) ResAll.nil) ?_
     have st := st.tail
     have st := st.tail
     have st := st.tail
     exact ⟨m32, rfl, hm, st⟩
    ·intro K
     clear hrK
     refine WO_seg 1 [(148, .string p1)] kr kr ?_
     replace ⟨y22, hx22, hr⟩ := bindS hr
     refine WO_one rfl (One_fn 149 32 #[.string p1] kr rfl ?_)
     refine (revision_IsSource_ok st hx22).mono ?_
     clear st
     rintro _ w46 ⟨m33, rfl, hle25, st⟩
     refine ⟨_, rfl, ?_⟩
     have hm := Mem.le_trans hm hle25
     have r5 := r5.mono hle25
     have r3 := r3.mono hle25
     have r6 := r6.mono hle25
     refine WO_seg 1 [(150, .string p1)] kr kr ?_
     replace ⟨y23, hx23, hr⟩ := bindS hr
     refine WO_one rfl (One_fn 151 33 #[.string p1] kr rfl ?_)
     refine (testgateref07_IsSource_ok st hx23).mono ?_
     clear st
     rintro _ w47 ⟨m34, rfl, hle26, st⟩
     refine ⟨_, rfl, ?_⟩
     have hm := Mem.le_trans hm hle26
     have r5 := r5.mono hle26
     have r3 := r3.mono hle26
     have r6 := r6.mono hle26
     refine WO_seg 2 [(153, .bool (y22 == y23))] kr kr ?_
     rcases bcases (y22 == y23) with hc | hc
     ·rw [if_pos hc] at hr
      refine WO_fact (t := 153) (b := true) (y22 == y23) kr hc ?_
      refine WO_seg 1 [(154, .string p1)] kr kr ?_
      replace ⟨s2, hx24, hr⟩ := bindS hr
      refine WO_one rfl (One_cat (d := 155) (t := 9) (t2 := 9) (x := (.tmp 154)) (y := (.const (.string (⟨#[46, 115, 114, 99]⟩ : ByteArray)))) kr rfl (ev (.string p1)) (ev (.string (⟨#[46, 115, 114, 99]⟩ : ByteArray))) hx24 ?_)
      replace ⟨y24, hx25, hr⟩ := bindS hr
      refine WO_one rfl (One_fn 156 32 #[.string s2] kr rfl ?_)
      refine (revision_IsSource_ok st hx25).mono ?_
      clear st
      rintro _ w48 ⟨m35, rfl, hle27, st⟩
      refine ⟨_, rfl, ?_⟩
      have hm := Mem.le_trans hm hle27
      have r5 := r5.mono hle27
      have r3 := r3.mono hle27
      have r6 := r6.mono hle27
      refine WO_seg 1 [(157, .string p1)] kr kr ?_
      replace ⟨s3, hx26, hr⟩ := bindS hr
      refine WO_one rfl (One_cat (d := 158) (t := 9) (t2 := 9) (x := (.tmp 157)) (y := (.const (.string (⟨#[46, 115, 114, 99]⟩ : ByteArray)))) kr rfl (ev (.string p1)) (ev (.string (⟨#[46, 115, 114, 99]⟩ : ByteArray))) hx26 ?_)
      replace ⟨y25, hx27, hr⟩ := bindS hr
      refine WO_one rfl (One_fn 159 33 #[.string s3] kr rfl ?_)
      refine (testgateref07_IsSource_ok st hx27).mono ?_
      clear st
      rintro _ w49 ⟨m36, rfl, hle28, st⟩
      refine ⟨_, rfl, ?_⟩
      have hm := Mem.le_trans hm hle28
      have r5 := r5.mono hle28
      have r3 := r3.mono hle28
      have r6 := r6.mono hle28
      refine WO_seg 3 [(162, .bool (y24 == y25))] kr kr ?_
      rcases bcases (y24 == y25) with hc | hc
      ·rw [if_pos hc] at hr
       refine WO_fact (t := 162) (b := true) (y24 == y25) kr hc ?_
       replace ⟨y26, hx28, hr⟩ := bindS hr
       refine WO_one rfl (One_fn 163 40 #[] kr rfl ?_)
       refine (testgatelaw07_awake_ok st hx28).mono ?_
       clear st
       rintro _ w50 ⟨m37, rfl, hle29, st⟩
       refine ⟨_, rfl, ?_⟩
       have hm := Mem.le_trans hm hle29
       have r5 := r5.mono hle29
       have r3 := r3.mono hle29
       have r6 := r6.mono hle29
       refine WO_seg 2 [(6, .bool y26)] kr kr ?_
       obtain rfl := Option.some.inj hr
       have st := st.front2.front2.front2
       exact WO_env _ kr (K _ _ ⟨m37, rfl, hm, st, r5, r3, r6⟩)
      ·rw [if_neg (not_true hc)] at hr
       refine WO_fact (t := 162) (b := false) (y24 == y25) kr hc ?_
       refine WO_seg 3 [(6, .bool false)] kr kr ?_
       obtain rfl := Option.some.inj hr
       have st := st.front2.front2.front2
       exact WO_env _ kr (K _ _ ⟨m36, rfl, hm, st, r5, r3, r6⟩)
     ·rw [if_neg (not_true hc)] at hr
      refine WO_fact (t := 153) (b := false) (y22 == y23) kr hc ?_
      refine WO_seg 12 [(6, .bool false)] kr kr ?_
      obtain rfl := Option.some.inj hr
      have st := st.front2.front2.front2
      exact WO_env _ kr (K _ _ ⟨m34, rfl, hm, st, r5, r3, r6⟩)
   intro K0_u1
   have st := st.front2.front2.front2
   refine W_env _ kr (W_loop (fun k1 L' w' => ∃ (s1 : Int × List (Int) × Int) (a7 : Option Addr) (c7 : Nat) (m10 : Mem), loopM (testgatelaw07_RevisionCalls_L1 N p1 p2 y1) k1 s1 = some out1 ∧ L' = [(1, .string p1), (2, .string p2), (7, .pointer (some ⟨b1, 0, none⟩)), (8, .pointer (some ⟨b2, 0, none⟩)), (10, .int .i64 s1.1)] ∧ m.le m10 ∧ St m10 (.blk b3 (.cells #[.slice a5 (List.length y2.2) c5] 47 (0, 0)) :: .blk b2 (.cells #[.slice a3 (List.length y1.2) c3] 47 (0, 0)) :: .blk b1 (.cells #[.slice a7 (List.length s1.2.1) c7, .int .i64 s1.2.2] 29 (0, 0)) :: own) w' ∧ RepS (cPair cStr cStr) m10 a5 c5 y2.2 ∧ RepS (cPair cStr cStr) m10 a3 c3 y1.2 ∧ RepS (cInt .i64) m10 a7 c7 s1.2.1) N ⟨(0, y2.1.1, y2.1.2), a4, c4, m4, hr, rfl, hm, st, r5, r3, r4⟩ ?_)
   clear st hr
   rintro k1 _ w15 ⟨s1, a7, c7, m10, hL, rfl, hm, st, r5, r3, r7⟩
   rcases k1 with _ | k1
   ·exact loopM_zero hL
   ·obtain ⟨qu1, hr, hSu1, hBu1⟩ := loopM_succ hL
    clear hL
    unfold testgatelaw07_RevisionCalls_L1 at hr
    refine W_seq ?_
    refine W_sr (WO_seg 2 [(43, .bool (decide (s1.1 < 6)))] kr kr ?_)
    refine WO_et rfl (W_cond (decide (s1.1 < 6)) kr ?_ ?_)
    ·intro hc
     rw [if_pos hc] at hr
     refine W_skip ?_
     refine X_then ?_
     refine W_seq ?_
     refine W_block ?_
     refine W_sr (WO_seg 2 [(46, .pointer (some ⟨b1, 0, none⟩)), (47, .string p1)] kr kr ?_)
     refine WO_one rfl (One_buildSlice (d := 48) (t := 30) (e := 9) (len := 7) (parts := #[(0, (.const (.string (⟨#[97, 46, 115, 114, 99]⟩ : ByteArray)))), (1, (.const (.string (⟨#[98, 46, 115, 114, 99]⟩ : ByteArray)))), (2, (.const (.string (⟨#[97, 46, 100, 97, 116]⟩ : ByteArray)))), (3, (.const (.string (⟨#[99]⟩ : ByteArray)))), (4, (.const (.string (⟨#[100, 47, 98, 46, 100, 97, 116]⟩ : ByteArray)))), (5, (.const (.string (⟨#[110, 101, 119]⟩ : ByteArray)))), (6, (.tmp 47))]) cStr (xs := [(⟨#[97, 46, 115, 114, 99]⟩ : ByteArray), (⟨#[98, 46, 115, 114, 99]⟩ : ByteArray), (⟨#[97, 46, 100, 97, 116]⟩ : ByteArray), (⟨#[99]⟩ : ByteArray), (⟨#[100, 47, 98, 46, 100, 97, 116]⟩ : ByteArray), (⟨#[110, 101, 119]⟩ : ByteArray), p1]) [.string (⟨#[97, 46, 115, 114, 99]⟩ : ByteArray), .string (⟨#[98, 46, 115, 114, 99]⟩ : ByteArray), .string (⟨#[97, 46, 100, 97, 116]⟩ : ByteArray), .string (⟨#[99]⟩ : ByteArray), .string (⟨#[100, 47, 98, 46, 100, 97, 116]⟩ : ByteArray), .string (⟨#[110, 101, 119]⟩ : ByteArray), .string p1] kr rfl (fun _ => buildCells_run kr _) rfl rfl st ⟨[.string (⟨#[97, 46, 115, 114, 99]⟩ : ByteArray)], _, rfl, rfl, ⟨[.string (⟨#[98, 46, 115, 114, 99]⟩ : ByteArray)], _, rfl, rfl, ⟨[.string (⟨#[97, 46, 100, 97, 116]⟩ : ByteArray)], _, rfl, rfl, ⟨[.string (⟨#[99]⟩ : ByteArray)], _, rfl, rfl, ⟨[.string (⟨#[100, 47, 98, 46, 100, 97, 116]⟩ : ByteArray)], _, rfl, rfl, ⟨[.string (⟨#[110, 101, 119]⟩ : ByteArray)], _, rfl, rfl, ⟨[.string p1], _, rfl, rfl, rfl⟩⟩⟩⟩⟩⟩⟩ ?_)
     clear st
     intro b4 m11 w16 hle8 st r8
     have hm := Mem.le_trans hm hle8
     have r5 := r5.mono hle8
     have r3 := r3.mono hle8
     have r7 := r7.mono hle8
     have st := st.front3
     replace ⟨y7, hx7, hr⟩ := bindS hr
     refine WO_one rfl (One_fn 49 21 #[.pointer (some ⟨b1, 0, none⟩), .slice (some ⟨b4, 0, none⟩) (List.length ([(⟨#[97, 46, 115, 114, 99]⟩ : ByteArray), (⟨#[98, 46, 115, 114, 99]⟩ : ByteArray), (⟨#[97, 46, 100, 97, 116]⟩ : ByteArray), (⟨#[99]⟩ : ByteArray), (⟨#[100, 47, 98, 46, 100, 97, 116]⟩ : ByteArray), (⟨#[110, 101, 119]⟩ : ByteArray), p1])) 7] kr rfl ?_)
     refine (testgatemake_Tape_One_ok st r7 r8 hx7).mono ?_
     clear st
     rintro _ w17 ⟨a8, c8, m12, rfl, hle9, st, r9⟩
     refine ⟨_, rfl, ?_⟩
     have hm := Mem.le_trans hm hle9
     have r8 := r8.mono hle9
     have r7 := r7.mono hle9
     have r5 := r5.mono hle9
     have r3 := r3.mono hle9
     refine WO_seg 2 [(50, .pointer (some ⟨b1, 0, none⟩)), (51, .string p1)] kr kr ?_
     refine WO_one rfl (One_buildSlice (d := 52) (t := 30) (e := 9) (len := 5) (parts := #[(0, (.const (.string (⟨#[97, 46, 115, 114, 99]⟩ : ByteArray)))), (1, (.const (.string (⟨#[99]⟩ : ByteArray)))), (2, (.const (.string (⟨#[120, 46, 115, 114, 99]⟩ : ByteArray)))), (3, (.const (.string (⟨#[110, 101, 119, 47, 120]⟩ : ByteArray)))), (4, (.tmp 51))]) cStr (xs := [(⟨#[97, 46, 115, 114, 99]⟩ : ByteArray), (⟨#[99]⟩ : ByteArray), (⟨#[120, 46, 115, 114, 99]⟩ : ByteArray), (⟨#[110, 101, 119, 47, 120]⟩ : ByteArray), p1]) [.string (⟨#[97, 46, 115, 114, 99]⟩ : ByteArray), .string (⟨#[99]⟩ : ByteArray), .string (⟨#[120, 46, 115, 114, 99]⟩ : ByteArray), .string (⟨#[110, 101, 119, 47, 120]⟩ : ByteArray), .string p1] kr rfl (fun _ => buildCells_run kr _) rfl rfl st ⟨[.string (⟨#[97, 46, 115, 114, 99]⟩ : ByteArray)], _, rfl, rfl, ⟨[.string (⟨#[99]⟩ : ByteArray)], _, rfl, rfl, ⟨[.string (⟨#[120, 46, 115, 114, 99]⟩ : ByteArray)], _, rfl, rfl, ⟨[.string (⟨#[110, 101, 119, 47, 120]⟩ : ByteArray)], _, rfl, rfl, ⟨[.string p1], _, rfl, rfl, rfl⟩⟩⟩⟩⟩ ?_)
     clear st
     intro b5 m13 w18 hle10 st r10
     have hm := Mem.le_trans hm hle10
     have r8 := r8.mono hle10
     have r9 := r9.mono hle10
     have r5 := r5.mono hle10
     have r3 := r3.mono hle10
     have st := st.front1
     replace ⟨y8, hx8, hr⟩ := bindS hr
     refine WO_one rfl (One_fn 53 21 #[.pointer (some ⟨b1, 0, none⟩), .slice (some ⟨b5, 0, none⟩) (List.length ([(⟨#[97, 46, 115, 114, 99]⟩ : ByteArray), (⟨#[99]⟩ : ByteArray), (⟨#[120, 46, 115, 114, 99]⟩ : ByteArray), (⟨#[110, 101, 119, 47, 120]⟩ : ByteArray), p1])) 5] kr rfl ?_)
     refine (testgatemake_Tape_One_ok st r9 r10 hx8).mono ?_
     clear st
     rintro _ w19 ⟨a9, c9, m14, rfl, hle11, st, r11⟩
     refine ⟨_, rfl, ?_⟩
     have hm := Mem.le_trans hm hle11
     have r8 := r8.mono hle11
     have r10 := r10.mono hle11
     have r9 := r9.mono hle11
     have r5 := r5.mono hle11
     have r3 := r3.mono hle11
     refine WO_seg 2 [(11, .string y7.2), (12, .string y8.2)] kr kr ?_
     refine WO_end rfl ?_
     have st := st.front1
     have st := st.tail
     have st := st.front1
     have st := st.tail
     refine X_then ?_
     refine W_sr (WO_one rfl (One_load_own (d := 55) (t := 47) (x := (.tmp 8)) (.agg #[.slice a3 (List.length y1.2) c3]) kr rfl (ev (.pointer (some ⟨b2, 0, none⟩))) st.tail.tail.head kr ?_))
     refine WO_seg 1 [(56, .string y7.2)] kr kr ?_
     replace ⟨y9, hx9, hr⟩ := bindS hr
     refine WO_one rfl (One_fn 57 30 #[.agg #[.slice a3 (List.length y1.2) c3], .string y7.2] kr rfl ?_)
     refine (revision_Find_ok st r3 hx9).mono ?_
     clear st
     rintro _ w20 ⟨m15, rfl, hle12, st⟩
     refine ⟨_, rfl, ?_⟩
     have hm := Mem.le_trans hm hle12
     have r3 := r3.mono hle12
     have r11 := r11.mono hle12
     have r5 := r5.mono hle12
     refine WO_seg 5 [(13, .string y9.1), (14, .bool y9.2)] kr kr ?_
     refine WO_et rfl (W_sr ?_)
     refine WO_one rfl (One_load_own (d := 61) (t := 47) (x := (.tmp 8)) (.agg #[.slice a3 (List.length y1.2) c3]) kr rfl (ev (.pointer (some ⟨b2, 0, none⟩))) st.tail.tail.head kr ?_)
     refine WO_seg 1 [(62, .string y7.2)] kr kr ?_
     replace ⟨y10, hx10, hr⟩ := bindS hr
     refine WO_one rfl (One_fn 63 31 #[.agg #[.slice a3 (List.length y1.2) c3], .string y7.2] kr rfl ?_)
     refine (testgateref07_Find_ok st r3 hx10).mono ?_
     clear st
     rintro _ w21 ⟨m16, rfl, hle13, st⟩
     refine ⟨_, rfl, ?_⟩
     have hm := Mem.le_trans hm hle13
     have r3 := r3.mono hle13
     have r11 := r11.mono hle13
     have r5 := r5.mono hle13
     refine WO_seg 5 [(15, .string y10.1), (16, .bool y10.2)] kr kr ?_
     refine WO_et rfl (W_seq ?_)
     refine W_sr ?_
     replace ⟨o3, hr, hrK⟩ := bindS hr
     refine WO_cut (j := 15) (fun L' w' => ∃ (m17 : Mem), L' = [(1, .string p1), (2, .string p2), (7, .pointer (some ⟨b1, 0, none⟩)), (8, .pointer (some ⟨b2, 0, none⟩)), (10, .int .i64 s1.1), (11, .string y7.2), (12, .string y8.2), (80, .bool o3)] ∧ m.le m17 ∧ St m17 (.blk b1 (.cells #[.slice a9 (List.length y8.1.1) c9, .int .i64 y8.1.2] 29 (0, 0)) :: .blk b3 (.cells #[.slice a5 (List.length y2.2) c5] 47 (0, 0)) :: .blk b2 (.cells #[.slice a3 (List.length y1.2) c3] 47 (0, 0)) :: own) w' ∧ RepS (cInt .i64) m17 a9 c9 y8.1.1 ∧ RepS (cPair cStr cStr) m17 a5 c5 y2.2 ∧ RepS (cPair cStr cStr) m17 a3 c3 y1.2) ?_ ?_
     ·clear hr st
      have hr := hrK
      clear hrK
      rintro _ w22 ⟨m17, rfl, hm, st, r11, r5, r3⟩
      refine WO_et rfl (W_cond o3 kr ?_ ?_)
      ·intro hc
       rw [if_pos hc] at hr
       refine W_sr (WO_seg 1 [(6, .bool false)] kr kr ?_)
       refine WO_et rfl (W_ret ?_)
       refine X_then_ret ?_
       refine X_block_ret ?_
       refine X_then_ret ?_
       obtain rfl := Option.some.inj hr
       have ho := hBu1 _ rfl
       subst ho
       have hr := hrKu1
       dsimp only at hr
       refine X_then_ret ?_
       refine X_block_ret ?_
       refine X_then_ret ?_
       obtain rfl := Option.some.inj hr
       refine X_ret [.tmp 6] [.bool false] rfl (ResAll.cons (ResAt.tmp kr) ResAll.nil) ?_
       have st := st.tail
       have st := st.tail
       have st := st.tail
       exact ⟨m17, rfl, hm, st⟩
      ·intro hc
       rw [if_neg (not_true hc)] at hr
       refine W_skip ?_
       refine X_then ?_
       refine W_sr (WO_one rfl (One_load_own (d := 82) (t := 47) (x := (.tmp 8)) (.agg #[.slice a3 (List.length y1.2) c3]) kr rfl (ev (.pointer (some ⟨b2, 0, none⟩))) st.tail.tail.head kr ?_))
       refine WO_seg 2 [(83, .string y7.2), (84, .string p2)] kr kr ?_
       replace ⟨y13, hx13, hr⟩ := bindS hr
       refine WO_one rfl (One_fn 85 34 #[.agg #[.slice a3 (List.length y1.2) c3], .string y7.2, .string p2] kr rfl ?_)
       refine (revision_Put_ok st r3 hx13).mono ?_
       clear st
       rintro _ w25 ⟨a10, c10, m20, rfl, hle16, st, r12⟩
       refine ⟨_, rfl, ?_⟩
       have hm := Mem.le_trans hm hle16
       have r3 := r3.mono hle16
       have r11 := r11.mono hle16
       have r5 := r5.mono hle16
       refine WO_seg 3 [(86, .agg #[.slice a10 (List.length y13.1) c10]), (87, .int .i64 y13.2)] kr kr ?_
       refine WO_one rfl (One_alloc (d := 17) (e := 47) (.agg #[.slice none 0 0]) kr rfl kr st ?_)
       clear st
       intro b6 w26 st
       refine WO_one rfl (One_store (t := 47) (x := (.tmp 17)) (y := (.tmp 86)) (v := .agg #[.slice a10 (List.length y13.1) c10]) (c' := #[.slice a10 (List.length y13.1) c10]) kr (ev (.pointer (some ⟨b6, 0, none⟩))) (ev (.agg #[.slice a10 (List.length y13.1) c10])) st kr kr ?_)
       clear st
       intro w27 st
       refine WO_seg 1 [(18, .int .i64 y13.2)] kr kr ?_
       refine WO_et rfl (W_sr ?_)
       refine WO_one rfl (One_load_own (d := 89) (t := 47) (x := (.tmp 8)) (.agg #[.slice a3 (List.length y1.2) c3]) kr rfl (ev (.pointer (some ⟨b2, 0, none⟩))) st.tail.tail.tail.tail.head kr ?_)
       refine WO_seg 2 [(90, .string y7.2), (91, .string p2)] kr kr ?_
       replace ⟨y14, hx14, hr⟩ := bindS hr
       refine WO_one rfl (One_fn 92 35 #[.agg #[.slice a3 (List.length y1.2) c3], .string y7.2, .string p2] kr rfl ?_)
       refine (testgateref07_Put_ok st r3 hx14).mono ?_
       clear st
       rintro _ w28 ⟨a11, c11, m21, rfl, hle17, st, r13⟩
       refine ⟨_, rfl, ?_⟩
       have hm := Mem.le_trans hm hle17
       have r3 := r3.mono hle17
       have r12 := r12.mono hle17
       have r11 := r11.mono hle17
       have r5 := r5.mono hle17
       refine WO_seg 3 [(93, .agg #[.slice a11 (List.length y14.1) c11]), (94, .int .i64 y14.2)] kr kr ?_
       refine WO_one rfl (One_alloc (d := 19) (e := 47) (.agg #[.slice none 0 0]) kr rfl kr st ?_)
       clear st
       intro b7 w29 st
       refine WO_one rfl (One_store (t := 47) (x := (.tmp 19)) (y := (.tmp 93)) (v := .agg #[.slice a11 (List.length y14.1) c11]) (c' := #[.slice a11 (List.length y14.1) c11]) kr (ev (.pointer (some ⟨b7, 0, none⟩))) (ev (.agg #[.slice a11 (List.length y14.1) c11])) st kr kr ?_)
       clear st
       intro w30 st
       refine WO_seg 1 [(20, .int .i64 y14.2)] kr kr ?_
       refine WO_et rfl (W_seq ?_)
       refine W_sr ?_
       replace ⟨o4, hr, hrK⟩ := bindS hr
       refine WO_cut (j := 9) (fun L' w' => ∃ (m22 : Mem), L' = [(1, .string p1), (2, .string p2), (7, .pointer (some ⟨b1, 0, none⟩)), (8, .pointer (some ⟨b2, 0, none⟩)), (10, .int .i64 s1.1), (11, .string y7.2), (12, .string y8.2), (17, .pointer (some ⟨b6, 0, none⟩)), (19, .pointer (some ⟨b7, 0, none⟩)), (103, .bool o4)] ∧ m.le m22 ∧ St m22 (.blk b7 (.cells #[.slice a11 (List.length y14.1) c11] 47 (0, 0)) :: .blk b6 (.cells #[.slice a10 (List.length y13.1) c10] 47 (0, 0)) :: .blk b1 (.cells #[.slice a9 (List.length y8.1.1) c9, .int .i64 y8.1.2] 29 (0, 0)) :: .blk b3 (.cells #[.slice a5 (List.length y2.2) c5] 47 (0, 0)) :: .blk b2 (.cells #[.slice a3 (List.length y1.2) c3] 47 (0, 0)) :: .room a11 (List.length y14.1) c11 66 2 :: .room a10 (List.length y13.1) c10 66 2 :: own) w' ∧ RepS (cPair cStr cStr) m22 a11 c11 y14.1 ∧ RepS (cPair cStr cStr) m22 a10 c10 y13.1 ∧ RepS (cInt .i64) m22 a9 c9 y8.1.1 ∧ RepS (cPair cStr cStr) m22 a5 c5 y2.2 ∧ RepS (cPair cStr cStr) m22 a3 c3 y1.2) ?_ ?_
       ·clear hr st
        have hr := hrK
        clear hrK
        rintro _ w31 ⟨m22, rfl, hm, st, r13, r12, r11, r5, r3⟩
        refine WO_et rfl (W_cond o4 kr ?_ ?_)
        ·intro hc
         rw [if_pos hc] at hr
         refine W_sr (WO_seg 1 [(6, .bool false)] kr kr ?_)
         refine WO_et rfl (W_ret ?_)
         refine X_then_ret ?_
         refine X_block_ret ?_
         refine X_then_ret ?_
         obtain rfl := Option.some.inj hr
         have ho := hBu1 _ rfl
         subst ho
         have hr := hrKu1
         dsimp only at hr
         refine X_then_ret ?_
         refine X_block_ret ?_
         refine X_then_ret ?_
         obtain rfl := Option.some.inj hr
         refine X_ret [.tmp 6] [.bool false] rfl (ResAll.cons (ResAt.tmp kr) ResAll.nil) ?_
         have st := st.tail
         have st := st.tail
         have st := st.tail
         have st := st.tail
         have st := st.tail
         have st := st.tail
         have st := st.tail
         exact ⟨m22, rfl, hm, st⟩
        ·intro hc
         rw [if_neg (not_true hc)] at hr
         refine W_skip ?_
         refine X_then ?_
         refine W_sr (WO_one rfl (One_load_own (d := 105) (t := 47) (x := (.tmp 8)) (.agg #[.slice a3 (List.length y1.2) c3]) kr rfl (ev (.pointer (some ⟨b2, 0, none⟩))) st.tail.tail.tail.tail.head kr ?_))
         refine WO_seg 1 [(106, .string y7.2)] kr kr ?_
         replace ⟨y16, hx16, hr⟩ := bindS hr
         refine WO_one rfl (One_fn 107 36 #[.agg #[.slice a3 (List.length y1.2) c3], .string y7.2] kr rfl ?_)
         refine (revision_Remove_ok st r3 hx16).mono ?_
         clear st
         rintro _ w33 ⟨a12, c12, m24, rfl, hle19, st, r14⟩
         refine ⟨_, rfl, ?_⟩
         have hm := Mem.le_trans hm hle19
         have r3 := r3.mono hle19
         have r13 := r13.mono hle19
         have r12 := r12.mono hle19
         have r11 := r11.mono hle19
         have r5 := r5.mono hle19
         refine WO_seg 3 [(108, .agg #[.slice a12 (List.length y16.1) c12]), (109, .int .i64 y16.2)] kr kr ?_
         have st := st.front2
         refine WO_one rfl (One_store (t := 47) (x := (.tmp 17)) (y := (.tmp 108)) (v := .agg #[.slice a12 (List.length y16.1) c12]) (c' := #[.slice a12 (List.length y16.1) c12]) kr (ev (.pointer (some ⟨b6, 0, none⟩))) (ev (.agg #[.slice a12 (List.length y16.1) c12])) st kr kr ?_)
         clear st
         intro w34 st
         refine WO_seg 1 [(18, .int .i64 y16.2)] kr kr ?_
         refine WO_end rfl ?_
         have st := st.front7
         have st := st.tail
         refine X_then ?_
         refine W_sr (WO_one rfl (One_load_own (d := 111) (t := 47) (x := (.tmp 8)) (.agg #[.slice a3 (List.length y1.2) c3]) kr rfl (ev (.pointer (some ⟨b2, 0, none⟩))) st.tail.tail.tail.tail.tail.head kr ?_))
         refine WO_seg 1 [(112, .string y7.2)] kr kr ?_
         replace ⟨y17, hx17, hr⟩ := bindS hr
         refine WO_one rfl (One_fn 113 37 #[.agg #[.slice a3 (List.length y1.2) c3], .string y7.2] kr rfl ?_)
         refine (testgateref07_Remove_ok st r3 hx17).mono ?_
         clear st
         rintro _ w35 ⟨a13, c13, m25, rfl, hle20, st, r15⟩
         refine ⟨_, rfl, ?_⟩
         have hm := Mem.le_trans hm hle20
         have r3 := r3.mono hle20
         have r14 := r14.mono hle20
         have r13 := r13.mono hle20
         have r11 := r11.mono hle20
         have r5 := r5.mono hle20
         refine WO_seg 3 [(114, .agg #[.slice a13 (List.length y17.1) c13]), (115, .int .i64 y17.2)] kr kr ?_
         have st := st.front3
         refine WO_one rfl (One_store (t := 47) (x := (.tmp 19)) (y := (.tmp 114)) (v := .agg #[.slice a13 (List.length y17.1) c13]) (c' := #[.slice a13 (List.length y17.1) c13]) kr (ev (.pointer (some ⟨b7, 0, none⟩))) (ev (.agg #[.slice a13 (List.length y17.1) c13])) st kr kr ?_)
         clear st
         intro w36 st
         refine WO_seg 1 [(20, .int .i64 y17.2)] kr kr ?_
         refine WO_end rfl ?_
         have st := st.front7
         have st := st.tail
         refine X_then ?_
         refine W_seq ?_
         refine W_sr ?_
         replace ⟨o5, hr, hrK⟩ := bindS hr
         refine WO_cut (j := 9) (fun L' w' => ∃ (m26 : Mem), L' = [(1, .string p1), (2, .string p2), (7, .pointer (some ⟨b1, 0, none⟩)), (8, .pointer (some ⟨b2, 0, none⟩)), (10, .int .i64 s1.1), (11, .string y7.2), (12, .string y8.2), (17, .pointer (some ⟨b6, 0, none⟩)), (19, .pointer (some ⟨b7, 0, none⟩)), (124, .bool o5)] ∧ m.le m26 ∧ St m26 (.blk b7 (.cells #[.slice a13 (List.length y17.1) c13] 47 (0, 0)) :: .blk b6 (.cells #[.slice a12 (List.length y16.1) c12] 47 (0, 0)) :: .blk b1 (.cells #[.slice a9 (List.length y8.1.1) c9, .int .i64 y8.1.2] 29 (0, 0)) :: .blk b3 (.cells #[.slice a5 (List.length y2.2) c5] 47 (0, 0)) :: .blk b2 (.cells #[.slice a3 (List.length y1.2) c3] 47 (0, 0)) :: .room a13 (List.length y17.1) c13 66 2 :: .room a12 (List.length y16.1) c12 66 2 :: own) w' ∧ RepS (cPair cStr cStr) m26 a13 c13 y17.1 ∧ RepS (cPair cStr cStr) m26 a12 c12 y16.1 ∧ RepS (cInt .i64) m26 a9 c9 y8.1.1 ∧ RepS (cPair cStr cStr) m26 a5 c5 y2.2 ∧ RepS (cPair cStr cStr) m26 a3 c3 y1.2) ?_ ?_
         ·clear hr st
          have hr := hrK
          clear hrK
          rintro _ w37 ⟨m26, rfl, hm, st, r15, r14, r11, r5, r3⟩
          refine WO_et rfl (W_cond o5 kr ?_ ?_)
          ·intro hc
           rw [if_pos hc] at hr
           refine W_sr (WO_seg 1 [(6, .bool false)] kr kr ?_)
           refine WO_et rfl (W_ret ?_)
           refine X_then_ret ?_
           refine X_block_ret ?_
           refine X_then_ret ?_
           obtain rfl := Option.some.inj hr
           have ho := hBu1 _ rfl
           subst ho
           have hr := hrKu1
           dsimp only at hr
           refine X_then_ret ?_
           refine X_block_ret ?_
           refine X_then_ret ?_
           obtain rfl := Option.some.inj hr
           refine X_ret [.tmp 6] [.bool false] rfl (ResAll.cons (ResAt.tmp kr) ResAll.nil) ?_
           have st := st.tail
           have st := st.tail
           have st := st.tail
           have st := st.tail
           have st := st.tail
           have st := st.tail
           have st := st.tail
           exact ⟨m26, rfl, hm, st⟩
          ·intro hc
           rw [if_neg (not_true hc)] at hr
           refine W_skip ?_
           refine X_then ?_
           refine W_sr (WO_one rfl (One_load_own (d := 126) (t := 47) (x := (.tmp 8)) (.agg #[.slice a3 (List.length y1.2) c3]) kr rfl (ev (.pointer (some ⟨b2, 0, none⟩))) st.tail.tail.tail.tail.head kr ?_))
           refine WO_seg 2 [(127, .string y7.2), (128, .string y8.2)] kr kr ?_
           replace ⟨y19, hx19, hr⟩ := bindS hr
           refine WO_one rfl (One_fn 129 38 #[.agg #[.slice a3 (List.length y1.2) c3], .string y7.2, .string y8.2] kr rfl ?_)
           refine (revision_Move_ok st r3 hx19).mono ?_
           clear st
           rintro _ w39 ⟨a14, c14, m28, rfl, hle22, st, r16⟩
           refine ⟨_, rfl, ?_⟩
           have hm := Mem.le_trans hm hle22
           have r3 := r3.mono hle22
           have r15 := r15.mono hle22
           have r14 := r14.mono hle22
           have r11 := r11.mono hle22
           have r5 := r5.mono hle22
           refine WO_seg 3 [(130, .agg #[.slice a14 (List.length y19.1) c14]), (131, .int .i64 y19.2)] kr kr ?_
           have st := st.front2
           refine WO_one rfl (One_store (t := 47) (x := (.tmp 17)) (y := (.tmp 130)) (v := .agg #[.slice a14 (List.length y19.1) c14]) (c' := #[.slice a14 (List.length y19.1) c14]) kr (ev (.pointer (some ⟨b6, 0, none⟩))) (ev (.agg #[.slice a14 (List.length y19.1) c14])) st kr kr ?_)
           clear st
           intro w40 st
           refine WO_seg 1 [(18, .int .i64 y19.2)] kr kr ?_
           refine WO_end rfl ?_
           have st := st.front7
           have st := st.tail
           refine X_then ?_
           refine W_sr (WO_one rfl (One_load_own (d := 133) (t := 47) (x := (.tmp 8)) (.agg #[.slice a3 (List.length y1.2) c3]) kr rfl (ev (.pointer (some ⟨b2, 0, none⟩))) st.tail.tail.tail.tail.tail.head kr ?_))
           refine WO_seg 2 [(134, .string y7.2), (135, .string y8.2)] kr kr ?_
           replace ⟨y20, hx20, hr⟩ := bindS hr
           refine WO_one rfl (One_fn 136 39 #[.agg #[.slice a3 (List.length y1.2) c3], .string y7.2, .string y8.2] kr rfl ?_)
           refine (testgateref07_Move_ok st r3 hx20).mono ?_
           clear st
           rintro _ w41 ⟨a15, c15, m29, rfl, hle23, st, r17⟩
           refine ⟨_, rfl, ?_⟩
           have hm := Mem.le_trans hm hle23
           have r3 := r3.mono hle23
           have r16 := r16.mono hle23
           have r15 := r15.mono hle23
           have r11 := r11.mono hle23
           have r5 := r5.mono hle23
           refine WO_seg 3 [(137, .agg #[.slice a15 (List.length y20.1) c15]), (138, .int .i64 y20.2)] kr kr ?_
           have st := st.front3
           refine WO_one rfl (One_store (t := 47) (x := (.tmp 19)) (y := (.tmp 137)) (v := .agg #[.slice a15 (List.length y20.1) c15]) (c' := #[.slice a15 (List.length y20.1) c15]) kr (ev (.pointer (some ⟨b7, 0, none⟩))) (ev (.agg #[.slice a15 (List.length y20.1) c15])) st kr kr ?_)
           clear st
           intro w42 st
           refine WO_seg 1 [(20, .int .i64 y20.2)] kr kr ?_
           refine WO_end rfl ?_
           have st := st.front7
           have st := st.tail
           refine X_then ?_
           refine W_sr ?_
           replace ⟨o6, hr, hrK⟩ := bindS hr
           refine WO_cut (j := 9) (fun L' w' => ∃ (m30 : Mem), L' = [(1, .string p1), (2, .string p2), (7, .pointer (some ⟨b1, 0, none⟩)), (8, .pointer (some ⟨b2, 0, none⟩)), (10, .int .i64 s1.1), (147, .bool o6)] ∧ m.le m30 ∧ St m30 (.blk b7 (.cells #[.slice a15 (List.length y20.1) c15] 47 (0, 0)) :: .blk b6 (.cells #[.slice a14 (List.length y19.1) c14] 47 (0, 0)) :: .blk b1 (.cells #[.slice a9 (List.length y8.1.1) c9, .int .i64 y8.1.2] 29 (0, 0)) :: .blk b3 (.cells #[.slice a5 (List.length y2.2) c5] 47 (0, 0)) :: .blk b2 (.cells #[.slice a3 (List.length y1.2) c3] 47 (0, 0)) :: .room a15 (List.length y20.1) c15 66 2 :: .room a14 (List.length y19.1) c14 66 2 :: own) w' ∧ RepS (cPair cStr cStr) m30 a15 c15 y20.1 ∧ RepS (cPair cStr cStr) m30 a14 c14 y19.1 ∧ RepS (cInt .i64) m30 a9 c9 y8.1.1 ∧ RepS (cPair cStr cStr) m30 a5 c5 y2.2 ∧ RepS (cPair cStr cStr) m30 a3 c3 y1.2) ?_ ?_
           ·clear hr st
            have hr := hrK
            clear hrK
            rintro _ w43 ⟨m30, rfl, hm, st, r17, r16, r11, r5, r3⟩
            refine WO_et rfl (W_cond o6 kr ?_ ?_)
            ·intro hc
             rw [if_pos hc] at hr
             refine W_sr (WO_seg 1 [(6, .bool false)] kr kr ?_)
             refine WO_et rfl (W_ret ?_)
             refine X_block_ret ?_
             refine X_then_ret ?_
             obtain rfl := Option.some.inj hr
             have ho := hBu1 _ rfl
             subst ho
             have hr := hrKu1
             dsimp only at hr
             refine X_then_ret ?_
             refine X_block_ret ?_
             refine X_then_ret ?_
             obtain rfl := Option.some.inj hr
             refine X_ret [.tmp 6] [.bool false] rfl (ResAll.cons (ResAt.tmp kr) ResAll.nil) ?_
             have st := st.tail
             have st := st.tail
             have st := st.tail
             have st := st.tail
             have st := st.tail
             have st := st.tail
             have st := st.tail
             exact ⟨m30, rfl, hm, st⟩
            ·intro hc
             rw [if_neg (not_true hc)] at hr
             refine W_skip ?_
             refine X_block ?_
             refine X_then ?_
             refine W_region ?_
             refine WO_seg 3 [(10, .int .i64 (IntKind.wrap .i64 (s1.1 + 1)))] kr kr ?_
             refine WO_end rfl ?_
             obtain rfl := Option.some.inj hr
             have hL := hSu1 _ rfl
             have st := st.tail
             have st := st.tail
             have st := st.front3
             have st := st.tail
             have st := st.front3
             have st := st.tail
             have st := st.front2.front2
             exact X_env _ kr (X_round k1 (Nat.lt_succ_self _) ⟨(IntKind.wrap .i64 (s1.1 + 1), y8.1.1, y8.1.2), a9, c9, m30, hL, rfl, hm, st, r5, r3, r11⟩)
           ·intro K
            clear hrK
            refine WO_seg 4 [(142, .bool (y19.2 != y20.2))] kr kr ?_
            rcases bcases (y19.2 != y20.2) with hc | hc
            ·rw [if_pos hc] at hr
             refine WO_fact (t := 142) (b := true) (y19.2 != y20.2) kr hc ?_
             refine WO_seg 5 [(147, .bool true)] kr kr ?_
             obtain rfl := Option.some.inj hr
             have st := st.front3.front2.front6.front6.front6.front6.front6
             exact WO_env _ kr (K _ _ ⟨m29, rfl, hm, st, r17, r16, r11, r5, r3⟩)
            ·rw [if_neg (not_true hc)] at hr
             refine WO_fact (t := 142) (b := false) (y19.2 != y20.2) kr hc ?_
             refine WO_one rfl (One_load_own (d := 143) (t := 47) (x := (.tmp 17)) (.agg #[.slice a14 (List.length y19.1) c14]) kr rfl (ev (.pointer (some ⟨b6, 0, none⟩))) st.tail.tail.head kr ?_)
             refine WO_one rfl (One_load_own (d := 144) (t := 47) (x := (.tmp 19)) (.agg #[.slice a15 (List.length y20.1) c15]) kr rfl (ev (.pointer (some ⟨b7, 0, none⟩))) st.head kr ?_)
             replace ⟨y21, hx21, hr⟩ := bindS hr
             refine WO_one rfl (One_fn 145 29 #[.agg #[.slice a14 (List.length y19.1) c14], .agg #[.slice a15 (List.length y20.1) c15]] kr rfl ?_)
             refine (testgateref07_Same_ok st r16 r17 hx21).mono ?_
             clear st
             rintro _ w44 ⟨m31, rfl, hle24, st⟩
             refine ⟨_, rfl, ?_⟩
             have hm := Mem.le_trans hm hle24
             have r16 := r16.mono hle24
             have r17 := r17.mono hle24
             have r11 := r11.mono hle24
             have r5 := r5.mono hle24
             have r3 := r3.mono hle24
             refine WO_seg 2 [(147, .bool (!y21))] kr kr ?_
             obtain rfl := Option.some.inj hr
             have st := st.front3.front2.front6.front6.front6.front6.front6
             exact WO_env _ kr (K _ _ ⟨m31, rfl, hm, st, r17, r16, r11, r5, r3⟩)
         ·intro K
          clear hrK
          refine WO_seg 4 [(119, .bool (y16.2 != y17.2))] kr kr ?_
          rcases bcases (y16.2 != y17.2) with hc | hc
          ·rw [if_pos hc] at hr
           refine WO_fact (t := 119) (b := true) (y16.2 != y17.2) kr hc ?_
           refine WO_seg 5 [(124, .bool true)] kr kr ?_
           obtain rfl := Option.some.inj hr
           have st := st.front3.front2.front6.front6.front6.front6.front6
           exact WO_env _ kr (K _ _ ⟨m25, rfl, hm, st, r15, r14, r11, r5, r3⟩)
          ·rw [if_neg (not_true hc)] at hr
           refine WO_fact (t := 119) (b := false) (y16.2 != y17.2) kr hc ?_
           refine WO_one rfl (One_load_own (d := 120) (t := 47) (x := (.tmp 17)) (.agg #[.slice a12 (List.length y16.1) c12]) kr rfl (ev (.pointer (some ⟨b6, 0, none⟩))) st.tail.tail.head kr ?_)
           refine WO_one rfl (One_load_own (d := 121) (t := 47) (x := (.tmp 19)) (.agg #[.slice a13 (List.length y17.1) c13]) kr rfl (ev (.pointer (some ⟨b7, 0, none⟩))) st.head kr ?_)
           replace ⟨y18, hx18, hr⟩ := bindS hr
           refine WO_one rfl (One_fn 122 29 #[.agg #[.slice a12 (List.length y16.1) c12], .agg #[.slice a13 (List.length y17.1) c13]] kr rfl ?_)
           refine (testgateref07_Same_ok st r14 r15 hx18).mono ?_
           clear st
           rintro _ w38 ⟨m27, rfl, hle21, st⟩
           refine ⟨_, rfl, ?_⟩
           have hm := Mem.le_trans hm hle21
           have r14 := r14.mono hle21
           have r15 := r15.mono hle21
           have r11 := r11.mono hle21
           have r5 := r5.mono hle21
           have r3 := r3.mono hle21
           refine WO_seg 2 [(124, .bool (!y18))] kr kr ?_
           obtain rfl := Option.some.inj hr
           have st := st.front3.front2.front6.front6.front6.front6.front6
           exact WO_env _ kr (K _ _ ⟨m27, rfl, hm, st, r15, r14, r11, r5, r3⟩)
       ·intro K
        clear hrK
        refine WO_seg 4 [(98, .bool (y13.2 != y14.2))] kr kr ?_
        rcases bcases (y13.2 != y14.2) with hc | hc
        ·rw [if_pos hc] at hr
         refine WO_fact (t := 98) (b := true) (y13.2 != y14.2) kr hc ?_
         refine WO_seg 5 [(103, .bool true)] kr kr ?_
         obtain rfl := Option.some.inj hr
         have st := st.front3.front2.front6.front6.front6.front6.front6
         exact WO_env _ kr (K _ _ ⟨m21, rfl, hm, st, r13, r12, r11, r5, r3⟩)
        ·rw [if_neg (not_true hc)] at hr
         refine WO_fact (t := 98) (b := false) (y13.2 != y14.2) kr hc ?_
         refine WO_one rfl (One_load_own (d := 99) (t := 47) (x := (.tmp 17)) (.agg #[.slice a10 (List.length y13.1) c10]) kr rfl (ev (.pointer (some ⟨b6, 0, none⟩))) st.tail.tail.head kr ?_)
         refine WO_one rfl (One_load_own (d := 100) (t := 47) (x := (.tmp 19)) (.agg #[.slice a11 (List.length y14.1) c11]) kr rfl (ev (.pointer (some ⟨b7, 0, none⟩))) st.head kr ?_)
         replace ⟨y15, hx15, hr⟩ := bindS hr
         refine WO_one rfl (One_fn 101 29 #[.agg #[.slice a10 (List.length y13.1) c10], .agg #[.slice a11 (List.length y14.1) c11]] kr rfl ?_)
         refine (testgateref07_Same_ok st r12 r13 hx15).mono ?_
         clear st
         rintro _ w32 ⟨m23, rfl, hle18, st⟩
         refine ⟨_, rfl, ?_⟩
         have hm := Mem.le_trans hm hle18
         have r12 := r12.mono hle18
         have r13 := r13.mono hle18
         have r11 := r11.mono hle18
         have r5 := r5.mono hle18
         have r3 := r3.mono hle18
         refine WO_seg 2 [(103, .bool (!y15))] kr kr ?_
         obtain rfl := Option.some.inj hr
         have st := st.front3.front2.front6.front6.front6.front6.front6
         exact WO_env _ kr (K _ _ ⟨m23, rfl, hm, st, r13, r12, r11, r5, r3⟩)
     ·intro K
      clear hrK
      refine WO_seg 4 [(69, .bool (!(y9.1.toList == y10.1.toList)))] kr kr ?_
      rcases bcases (!(y9.1.toList == y10.1.toList)) with hc | hc
      ·rw [if_pos hc] at hr
       refine WO_fact (t := 69) (b := true) (!(y9.1.toList == y10.1.toList)) kr hc ?_
       refine WO_seg 11 [(80, .bool true)] kr kr ?_
       obtain rfl := Option.some.inj hr
       have st := st.front2.front2.front2
       exact WO_env _ kr (K _ _ ⟨m16, rfl, hm, st, r11, r5, r3⟩)
      ·rw [if_neg (not_true hc)] at hr
       refine WO_fact (t := 69) (b := false) (!(y9.1.toList == y10.1.toList)) kr hc ?_
       refine WO_seg 5 [(74, .bool (!(y9.2 == y10.2)))] kr kr ?_
       rcases bcases (!(y9.2 == y10.2)) with hc | hc
       ·rw [if_pos hc] at hr
        refine WO_fact (t := 74) (b := true) (!(y9.2 == y10.2)) kr hc ?_
        refine WO_seg 6 [(80, .bool true)] kr kr ?_
        obtain rfl := Option.some.inj hr
        have st := st.front2.front2.front2
        exact WO_env _ kr (K _ _ ⟨m16, rfl, hm, st, r11, r5, r3⟩)
       ·rw [if_neg (not_true hc)] at hr
        refine WO_fact (t := 74) (b := false) (!(y9.2 == y10.2)) kr hc ?_
        refine WO_seg 1 [(75, .string y7.2)] kr kr ?_
        replace ⟨y11, hx11, hr⟩ := bindS hr
        refine WO_one rfl (One_fn 76 32 #[.string y7.2] kr rfl ?_)
        refine (revision_IsSource_ok st hx11).mono ?_
        clear st
        rintro _ w23 ⟨m18, rfl, hle14, st⟩
        refine ⟨_, rfl, ?_⟩
        have hm := Mem.le_trans hm hle14
        have r11 := r11.mono hle14
        have r5 := r5.mono hle14
        have r3 := r3.mono hle14
        refine WO_seg 1 [(77, .string y7.2)] kr kr ?_
        replace ⟨y12, hx12, hr⟩ := bindS hr
        refine WO_one rfl (One_fn 78 33 #[.string y7.2] kr rfl ?_)
        refine (testgateref07_IsSource_ok st hx12).mono ?_
        clear st
        rintro _ w24 ⟨m19, rfl, hle15, st⟩
        refine ⟨_, rfl, ?_⟩
        have hm := Mem.le_trans hm hle15
        have r11 := r11.mono hle15
        have r5 := r5.mono hle15
        have r3 := r3.mono hle15
        refine WO_seg 2 [(80, .bool (!(y11 == y12)))] kr kr ?_
        obtain rfl := Option.some.inj hr
        have st := st.front2.front2.front2
        exact WO_env _ kr (K _ _ ⟨m19, rfl, hm, st, r11, r5, r3⟩)
    ·intro hc
     rw [if_neg (not_true hc)] at hr
     refine W_exit ?_
     refine X_then_exit ?_
     obtain rfl := Option.some.inj hr
     have ho := hBu1 _ rfl
     have st := st.front2.front2.front2
     refine X_then_exit ?_
     exact X_env _ kr (K0_u1 _ _ ⟨(s1.2.1, s1.2.2), a7, c7, m10, ho, rfl, hm, st, r5, r3, r7⟩)
 ·intro K
  clear hrK
  refine W_draw [(14, fun w' => Inv m3 w' ∧ Piece.holds m3 w' (.blk b3 (.cells #[.slice a5 (List.length y2.2) c5] 47 (0, 0))) ∧ Piece.holds m3 w' (.blk b2 (.cells #[.slice a3 (List.length y1.2) c3] 47 (0, 0))) ∧ True)] kr st ?_
  clear st
  intro w9 _ st
  have hmS1 := m3.le_refl
  refine ⟨⟨.inr ⟨Inv.anti st.inv hmS1, Piece.holds_anti st.head hmS1, Piece.holds_anti st.tail.head hmS1, trivial⟩, trivial⟩, ?_⟩
  refine WA_load_own (t := 47) (x := (.tmp 8)) 0 28 (.agg #[.slice a3 (List.length y1.2) c3]) kr rfl kr (.head _) (QP_then (QP_then QP_body)) (fun _ h => h.2.2.1) (ev (.pointer (some ⟨b2, 0, none⟩))) kr ?_
  refine WA_load_own (t := 47) (x := (.tmp 8)) 2 30 (.agg #[.slice a3 (List.length y1.2) c3]) kr rfl kr (.head _) (QP_then (QP_then QP_body)) (fun _ h => h.2.2.1) (ev (.pointer (some ⟨b2, 0, none⟩))) kr ?_
  replace ⟨y3, hx3, hr⟩ := bindS hr
  refine WA_one 1 kr  (One_fn 29 26 #[.agg #[.slice a3 (List.length y1.2) c3]] kr rfl ?_)
  refine (revision_Check_ok st r3 hx3).mono ?_
  clear st
  rintro _ w10 ⟨m5, rfl, hle4, st⟩
  refine ⟨_, rfl, ?_⟩
  have hm := Mem.le_trans hm hle4
  have r3 := r3.mono hle4
  have r5 := r5.mono hle4
  have r4 := r4.mono hle4
  have hmS1 := Mem.le_trans hmS1 hle4
  refine ⟨⟨.inr ⟨Inv.anti st.inv hmS1, Piece.holds_anti st.head hmS1, Piece.holds_anti st.tail.head hmS1, trivial⟩, trivial⟩, ?_⟩
  replace ⟨y4, hx4, hr⟩ := bindS hr
  refine WA_one 3 kr  (One_fn 31 27 #[.agg #[.slice a3 (List.length y1.2) c3]] kr rfl ?_)
  refine (testgateref07_Check_ok st r3 hx4).mono ?_
  clear st
  rintro _ w11 ⟨m6, rfl, hle5, st⟩
  refine ⟨_, rfl, ?_⟩
  have hm := Mem.le_trans hm hle5
  have r3 := r3.mono hle5
  have r5 := r5.mono hle5
  have r4 := r4.mono hle5
  have hmS1 := Mem.le_trans hmS1 hle5
  refine ⟨⟨.inr ⟨Inv.anti st.inv hmS1, Piece.holds_anti st.head hmS1, Piece.holds_anti st.tail.head hmS1, trivial⟩, trivial⟩, ?_⟩
  refine WA_pure 4 32 (.bool (y3 != y4)) kr rfl kr (.head _) (QP_then (QP_then QP_body)) ?_
  refine WA_pure 5 33 (.bool (y3 != y4)) kr rfl kr (.head _) (QP_then (QP_then QP_body)) ?_
  rcases bcases (y3 != y4) with hc | hc
  ·rw [if_pos hc] at hr
   refine WA_fact (t := 33) (b := true) (y3 != y4) kr hc ?_
   refine WA_not 6 34 kr rfl kr (.head _) (QP_then (QP_then QP_body)) ?_
   refine WA_not 7 35 kr rfl kr (.head _) (QP_then (QP_then QP_body)) ?_
   refine WA_not 8 36 kr rfl kr (.head _) (QP_then (QP_then QP_body)) ?_
   refine WA_not 9 37 kr rfl kr (.head _) (QP_then (QP_then QP_body)) ?_
   refine WA_not 10 38 kr rfl kr (.head _) (QP_then (QP_then QP_body)) ?_
   refine WA_not 11 39 kr rfl kr (.head _) (QP_then (QP_then QP_body)) ?_
   refine WA_not 12 40 kr rfl kr (.head _) (QP_then (QP_then QP_body)) ?_
   refine WA_pure 13 41 (.bool true) kr rfl kr (.head _) (QP_then (QP_then QP_body)) ?_
   obtain rfl := Option.some.inj hr
   have st := st.front2.front2.front2
   exact WA_done kr (X_env _ kr (K _ _ ⟨m6, rfl, hm, st, r5, r3, r4⟩))
  ·rw [if_neg (not_true hc)] at hr
   refine WA_fact (t := 33) (b := false) (y3 != y4) kr hc ?_
   refine WA_load_own (t := 47) (x := (.tmp 8)) 6 34 (.agg #[.slice a3 (List.length y1.2) c3]) kr rfl kr (.head _) (QP_then (QP_then QP_body)) (fun _ h => h.2.2.1) (ev (.pointer (some ⟨b2, 0, none⟩))) kr ?_
   refine WA_load_own (t := 47) (x := (.tmp 9)) 7 35 (.agg #[.slice a5 (List.length y2.2) c5]) kr rfl kr (.head _) (QP_then (QP_then QP_body)) (fun _ h => h.2.1) (ev (.pointer (some ⟨b3, 0, none⟩))) kr ?_
   refine WA_load_own (t := 47) (x := (.tmp 8)) 9 37 (.agg #[.slice a3 (List.length y1.2) c3]) kr rfl kr (.head _) (QP_then (QP_then QP_body)) (fun _ h => h.2.2.1) (ev (.pointer (some ⟨b2, 0, none⟩))) kr ?_
   refine WA_load_own (t := 47) (x := (.tmp 9)) 10 38 (.agg #[.slice a5 (List.length y2.2) c5]) kr rfl kr (.head _) (QP_then (QP_then QP_body)) (fun _ h => h.2.1) (ev (.pointer (some ⟨b3, 0, none⟩))) kr ?_
   replace ⟨y5, hx5, hr⟩ := bindS hr
   refine WA_one 8 kr  (One_fn 36 28 #[.agg #[.slice a3 (List.length y1.2) c3], .agg #[.slice a5 (List.length y2.2) c5]] kr rfl ?_)
   refine (revision_Same_ok st r3 r5 hx5).mono ?_
   clear st
   rintro _ w12 ⟨m7, rfl, hle6, st⟩
   refine ⟨_, rfl, ?_⟩
   have hm := Mem.le_trans hm hle6
   have r3 := r3.mono hle6
   have r5 := r5.mono hle6
   have r4 := r4.mono hle6
   have hmS1 := Mem.le_trans hmS1 hle6
   refine ⟨⟨.inr ⟨Inv.anti st.inv hmS1, Piece.holds_anti st.head hmS1, Piece.holds_anti st.tail.head hmS1, trivial⟩, trivial⟩, ?_⟩
   replace ⟨y6, hx6, hr⟩ := bindS hr
   refine WA_one 11 kr  (One_fn 39 29 #[.agg #[.slice a3 (List.length y1.2) c3], .agg #[.slice a5 (List.length y2.2) c5]] kr rfl ?_)
   refine (testgateref07_Same_ok st r3 r5 hx6).mono ?_
   clear st
   rintro _ w13 ⟨m8, rfl, hle7, st⟩
   refine ⟨_, rfl, ?_⟩
   have hm := Mem.le_trans hm hle7
   have r3 := r3.mono hle7
   have r5 := r5.mono hle7
   have r4 := r4.mono hle7
   have hmS1 := Mem.le_trans hmS1 hle7
   refine ⟨⟨.inr ⟨Inv.anti st.inv hmS1, Piece.holds_anti st.head hmS1, Piece.holds_anti st.tail.head hmS1, trivial⟩, trivial⟩, ?_⟩
   refine WA_pure 12 40 (.bool (!(y5 == y6))) kr rfl kr (.head _) (QP_then (QP_then QP_body)) ?_
   refine WA_pure 13 41 (.bool (!(y5 == y6))) kr rfl kr (.head _) (QP_then (QP_then QP_body)) ?_
   obtain rfl := Option.some.inj hr
   have st := st.front2.front2.front2
   exact WA_done kr (X_env _ kr (K _ _ ⟨m8, rfl, hm, st, r5, r3, r4⟩))
end Go.Proofs.YtfodebccikifcaaDoor
