/- MADE BY gen.py: plain functions and the proofs that the Go functions compute them. No condition but those of each theorem. -/
import Derived.Test.YtgggihpbhmbjaaaGreatDoorProg
import Derived.Test.YtgggihpbhmbjaaaGreatDoorViewy2
import Derived.Test.YtgggihpbhmbjaaaGreatDoorMapDy2
import Derived.Test.YtgggihpbhmbjaaaGreatDoorLiny2
import Derived.Test.YtgggihpbhmbjaaaGreatDoorTConAy2
namespace Go.Proofs.YtgggihpbhmbjaaaGreatDoor
open Go Go.Dc
def testgatemake_Revision_L1 (N : Nat) (y1 : List ByteArray) (s1 : Int × (List (ByteArray × ByteArray)) × List (Int) × Int) : Option ((Int × (List (ByteArray × ByteArray)) × List (Int) × Int) ⊕ (((List (ByteArray × ByteArray)) × List (Int) × Int))) :=
 if (decide (s1.1 < (List.length y1 : Int))) = true then (((idx y1 s1.1).bind fun x1 => (testgatemake_Tape_Chance N (s1.2.2.1, s1.2.2.2) 3 4).bind fun y2 => if y2.2 = true then ((testgatemake_Packages N).bind fun y3 => (testgatemake_Tape_One N (y2.1.1, y2.1.2) y3).bind fun y4 => (testgatemake_Source N (y4.1.1, y4.1.2) y4.2).bind fun y5 => (testgatemake_insert N s1.2.1 (x1, y5.2)).bind fun y6 => some (y6, y5.1.1, y5.1.2)) else (some (s1.2.1, y2.1.1, y2.1.2)) : Option ((List (ByteArray × ByteArray)) × List (Int) × Int)).bind fun o2 => some (.inl (IntKind.wrap .i64 (s1.1 + 1), o2.1, o2.2.1, o2.2.2))) else (some (.inr (s1.2.1, s1.2.2.1, s1.2.2.2)))
def testgatemake_Revision_L2 (N : Nat) (s2 : Int × (List (ByteArray × ByteArray)) × List (Int) × Int) : Option ((Int × (List (ByteArray × ByteArray)) × List (Int) × Int) ⊕ (((List (ByteArray × ByteArray)) × List (Int) × Int))) :=
 if (decide (s2.1 < (List.length ([(⟨#[97, 46, 100, 97, 116]⟩ : ByteArray), (⟨#[100, 47, 98, 46, 100, 97, 116]⟩ : ByteArray), (⟨#[99]⟩ : ByteArray)]) : Int))) = true then (((idx ([(⟨#[97, 46, 100, 97, 116]⟩ : ByteArray), (⟨#[100, 47, 98, 46, 100, 97, 116]⟩ : ByteArray), (⟨#[99]⟩ : ByteArray)]) s2.1).bind fun x2 => (testgatemake_Tape_Chance N (s2.2.2.1, s2.2.2.2) 1 3).bind fun y7 => if y7.2 = true then ((testgatemake_data N (y7.1.1, y7.1.2)).bind fun y8 => (testgatemake_insert N s2.2.1 (x2, y8.2)).bind fun y9 => some (y9, y8.1.1, y8.1.2)) else (some (s2.2.1, y7.1.1, y7.1.2)) : Option ((List (ByteArray × ByteArray)) × List (Int) × Int)).bind fun o4 => some (.inl (IntKind.wrap .i64 (s2.1 + 1), o4.1, o4.2.1, o4.2.2))) else (some (.inr (s2.2.1, s2.2.2.1, s2.2.2.2)))
def testgatemake_Revision (N : Nat) (p0 : List Int × Int) : Option ((List Int × Int) × ((List (ByteArray × ByteArray)))) :=
 (testgatemake_sources N).bind fun y1 => (loopM (testgatemake_Revision_L1 N y1) N (0, ([] : List (ByteArray × ByteArray)), p0.1, p0.2)).bind fun o1 => (loopM (testgatemake_Revision_L2 N) N (0, o1.1, o1.2.1, o1.2.2)).bind fun o3 => some ((o3.2.1, o3.2.2), o3.1)
set_option maxHeartbeats 4000000 in
set_option maxRecDepth 100000 in
theorem testgatemake_Revision_ok {N : Nat} {m : Mem} {own : List Piece} {w : World} {p0 : List Int × Int} {bp0 : Nat} {a1 : Option Addr} {c1 : Nat} {r : (List Int × Int) × ((List (ByteArray × ByteArray)))} (st : St m (.blk bp0 (.cells #[.slice a1 (List.length p0.1) c1, .int .i64 p0.2] 28 (0, 0)) :: own) w) (r1 : RepS (cInt .i64) m a1 c1 p0.1) (hr : testgatemake_Revision N p0 = some r) : Calls Tryz.prog 12 #[.pointer (some ⟨bp0, 0, none⟩)] w fun e w' => ∃ (ra1 : Option Addr) (rc1 : Nat) (ra2 : Option Addr) (rc2 : Nat) (m' : Mem), e = .returned (.agg #[.slice ra2 (List.length r.2) rc2]) ∧ m.le m' ∧ St m' (.room ra2 (List.length r.2) rc2 74 2 :: .blk bp0 (.cells #[.slice ra1 (List.length r.1.1) rc1, .int .i64 r.1.2] 28 (0, 0)) :: own) w' ∧ RepS (cInt .i64) m' ra1 rc1 r.1.1 ∧ RepS (cPair cStr cStr) m' ra2 rc2 r.2 := by
 unfold testgatemake_Revision at hr
 have hm := m.le_refl
 refine W_calls Tryz.func12 rfl Tryz.ntmps12 [(0, .pointer (some ⟨bp0, 0, none⟩))] kr rfl ?_
 refine W_sr (WO_one rfl (One_alloc (d := 2) (e := 25) (.agg #[.slice none 0 0]) kr rfl kr st ?_))
 clear st
 intro b1 w1 st
 refine WO_et rfl (W_sr ?_)
 refine WO_one rfl (One_alloc (d := 3) (e := 25) (.agg #[.slice none 0 0]) kr rfl kr st ?_)
 clear st
 intro b2 w2 st
 refine WO_et rfl (W_seq ?_)
 refine W_sr ?_
 replace ⟨y1, hx1, hr⟩ := bindS hr
 refine WO_one rfl (One_fn 8 54 #[] kr rfl ?_)
 refine (testgatemake_sources_ok st hx1).mono ?_
 clear st
 rintro _ w3 ⟨a2, c2, m1, rfl, hle1, st, r2⟩
 refine ⟨_, rfl, ?_⟩
 have hm := Mem.le_trans hm hle1
 have r1 := r1.mono hle1
 refine WO_seg 2 [(9, .int .i64 (List.length y1 : Int)), (10, .int .i64 0)] kr kr ?_
 refine WO_et rfl (W_block ?_)
 replace ⟨out1, hr, hrKu1⟩ := bindS hr
 refine W_cut (.exit 0) (fun L' w' => ∃ (o1 : (List (ByteArray × ByteArray)) × List (Int) × Int) (a3 : Option Addr) (c3 : Nat) (a4 : Option Addr) (c4 : Nat) (m2 : Mem), o1 = out1 ∧ L' = [(0, .pointer (some ⟨bp0, 0, none⟩)), (2, .pointer (some ⟨b1, 0, none⟩)), (3, .pointer (some ⟨b2, 0, none⟩))] ∧ m.le m2 ∧ St m2 (.blk b2 (.cells #[.slice a3 (List.length o1.1) c3] 25 (0, 0)) :: .blk b1 (.cells #[.slice none (List.length ([] : List (ByteArray × ByteArray))) 0] 25 (0, 0)) :: .blk bp0 (.cells #[.slice a4 (List.length o1.2.1) c4, .int .i64 o1.2.2] 28 (0, 0)) :: .room a2 (List.length y1) c2 9 1 :: .room a3 (List.length o1.1) c3 74 2 :: own) w' ∧ RepS (cPair cStr cStr) m2 a3 c3 o1.1 ∧ RepS (cInt .i64) m2 a4 c4 o1.2.1) ?_ ?_
 ·clear hr st
  rintro _ w4 ⟨o1, a3, c3, a4, c4, m2, rfl, rfl, hm, st, r3, r4⟩
  have hr := hrKu1
  clear hrKu1
  refine X_block_eq ?_
  refine X_then ?_
  refine W_seq ?_
  refine W_sr (WO_one rfl (One_buildSlice (d := 26) (t := 33) (e := 9) (len := 3) (parts := #[(0, (.const (.string (⟨#[97, 46, 100, 97, 116]⟩ : ByteArray)))), (1, (.const (.string (⟨#[100, 47, 98, 46, 100, 97, 116]⟩ : ByteArray)))), (2, (.const (.string (⟨#[99]⟩ : ByteArray))))]) cStr (xs := [(⟨#[97, 46, 100, 97, 116]⟩ : ByteArray), (⟨#[100, 47, 98, 46, 100, 97, 116]⟩ : ByteArray), (⟨#[99]⟩ : ByteArray)]) [.string (⟨#[97, 46, 100, 97, 116]⟩ : ByteArray), .string (⟨#[100, 47, 98, 46, 100, 97, 116]⟩ : ByteArray), .string (⟨#[99]⟩ : ByteArray)] kr rfl (fun _ => buildCells_run kr _) rfl rfl st ⟨[.string (⟨#[97, 46, 100, 97, 116]⟩ : ByteArray)], _, rfl, rfl, ⟨[.string (⟨#[100, 47, 98, 46, 100, 97, 116]⟩ : ByteArray)], _, rfl, rfl, ⟨[.string (⟨#[99]⟩ : ByteArray)], _, rfl, rfl, rfl⟩⟩⟩ ?_))
  clear st
  intro b4 m10 w14 hle7 st r14
  have hm := Mem.le_trans hm hle7
  have r3 := r3.mono hle7
  have r4 := r4.mono hle7
  refine WO_seg 2 [(27, .int .i64 (List.length ([(⟨#[97, 46, 100, 97, 116]⟩ : ByteArray), (⟨#[100, 47, 98, 46, 100, 97, 116]⟩ : ByteArray), (⟨#[99]⟩ : ByteArray)]) : Int)), (28, .int .i64 0)] kr kr ?_
  refine WO_end rfl ?_
  have st := st.front4
  have st := st.tail
  refine X_then ?_
  refine W_block ?_
  replace ⟨out2, hr, hrKu3⟩ := bindS hr
  refine W_cut (.exit 2) (fun L' w' => ∃ (o3 : (List (ByteArray × ByteArray)) × List (Int) × Int) (a14 : Option Addr) (c14 : Nat) (a15 : Option Addr) (c15 : Nat) (m11 : Mem), o3 = out2 ∧ L' = [(2, .pointer (some ⟨b1, 0, none⟩)), (3, .pointer (some ⟨b2, 0, none⟩))] ∧ m.le m11 ∧ St m11 (.blk b2 (.cells #[.slice a14 (List.length o3.1) c14] 25 (0, 0)) :: .blk b1 (.cells #[.slice none (List.length ([] : List (ByteArray × ByteArray))) 0] 25 (0, 0)) :: .blk bp0 (.cells #[.slice a15 (List.length o3.2.1) c15, .int .i64 o3.2.2] 28 (0, 0)) :: .room (some ⟨b4, 0, none⟩) (List.length ([(⟨#[97, 46, 100, 97, 116]⟩ : ByteArray), (⟨#[100, 47, 98, 46, 100, 97, 116]⟩ : ByteArray), (⟨#[99]⟩ : ByteArray)])) 3 9 1 :: .room a14 (List.length o3.1) c14 74 2 :: own) w' ∧ RepS (cPair cStr cStr) m11 a14 c14 o3.1 ∧ RepS (cInt .i64) m11 a15 c15 o3.2.1) ?_ ?_
  ·clear hr st
   rintro _ w15 ⟨o3, a14, c14, a15, c15, m11, rfl, rfl, hm, st, r15, r16⟩
   have hr := hrKu3
   clear hrKu3
   refine X_block_eq ?_
   refine X_then ?_
   refine W_sr (WO_one rfl (One_load_own (d := 41) (t := 25) (x := (.tmp 3)) (.agg #[.slice a14 (List.length o3.1) c14]) kr rfl (ev (.pointer (some ⟨b2, 0, none⟩))) st.head kr ?_))
   have st := st.front1
   refine WO_one rfl (One_store (t := 25) (x := (.tmp 2)) (y := (.tmp 41)) (v := .agg #[.slice a14 (List.length o3.1) c14]) (c' := #[.slice a14 (List.length o3.1) c14]) kr (ev (.pointer (some ⟨b1, 0, none⟩))) (ev (.agg #[.slice a14 (List.length o3.1) c14])) st kr kr ?_)
   clear st
   intro w23 st
   refine WO_end rfl ?_
   have st := st.front3
   have st := st.tail
   refine X_then ?_
   refine W_ret ?_
   obtain rfl := Option.some.inj hr
   refine X_ret [.cell 2 25] [.agg #[.slice a14 (List.length o3.1) c14]] rfl (ResAll.cons (ResAt.blk (v := .agg #[.slice a14 (List.length o3.1) c14]) (o := 0) kr st.head kr) ResAll.nil) ?_
   have st := st.tail
   have st := st.tail
   have st := st.front1
   exact ⟨a15, c15, a14, c14, m11, rfl, hm, st, r16, r15⟩
  intro K2_u3
  clear hrKu3
  have st := st.front4.front1.front4.front4.front4
  refine W_env _ kr (W_loop (fun k2 L' w' => ∃ (s2 : Int × (List (ByteArray × ByteArray)) × List (Int) × Int) (a16 : Option Addr) (c16 : Nat) (a17 : Option Addr) (c17 : Nat) (m12 : Mem), loopM (testgatemake_Revision_L2 N) k2 s2 = some out2 ∧ L' = [(0, .pointer (some ⟨bp0, 0, none⟩)), (2, .pointer (some ⟨b1, 0, none⟩)), (3, .pointer (some ⟨b2, 0, none⟩)), (26, .slice (some ⟨b4, 0, none⟩) (List.length ([(⟨#[97, 46, 100, 97, 116]⟩ : ByteArray), (⟨#[100, 47, 98, 46, 100, 97, 116]⟩ : ByteArray), (⟨#[99]⟩ : ByteArray)])) 3), (27, .int .i64 (List.length ([(⟨#[97, 46, 100, 97, 116]⟩ : ByteArray), (⟨#[100, 47, 98, 46, 100, 97, 116]⟩ : ByteArray), (⟨#[99]⟩ : ByteArray)]) : Int)), (28, .int .i64 s2.1)] ∧ m.le m12 ∧ St m12 (.blk b2 (.cells #[.slice a16 (List.length s2.2.1) c16] 25 (0, 0)) :: .blk b1 (.cells #[.slice none (List.length ([] : List (ByteArray × ByteArray))) 0] 25 (0, 0)) :: .blk bp0 (.cells #[.slice a17 (List.length s2.2.2.1) c17, .int .i64 s2.2.2.2] 28 (0, 0)) :: .room (some ⟨b4, 0, none⟩) (List.length ([(⟨#[97, 46, 100, 97, 116]⟩ : ByteArray), (⟨#[100, 47, 98, 46, 100, 97, 116]⟩ : ByteArray), (⟨#[99]⟩ : ByteArray)])) 3 9 1 :: .room a16 (List.length s2.2.1) c16 74 2 :: own) w' ∧ RepS cStr m12 (some ⟨b4, 0, none⟩) 3 ([(⟨#[97, 46, 100, 97, 116]⟩ : ByteArray), (⟨#[100, 47, 98, 46, 100, 97, 116]⟩ : ByteArray), (⟨#[99]⟩ : ByteArray)]) ∧ RepS (cPair cStr cStr) m12 a16 c16 s2.2.1 ∧ RepS (cInt .i64) m12 a17 c17 s2.2.2.1) N ⟨(0, o1.1, o1.2.1, o1.2.2), a3, c3, a4, c4, m10, hr, rfl, hm, st, r14, r3, r4⟩ ?_)
  clear st hr
  rintro k2 _ w16 ⟨s2, a16, c16, a17, c17, m12, hL, rfl, hm, st, r14, r17, r18⟩
  rcases k2 with _ | k2
  ·exact loopM_zero hL
  ·obtain ⟨qu3, hr, hSu3, hBu3⟩ := loopM_succ hL
   clear hL
   unfold testgatemake_Revision_L2 at hr
   refine W_sr (WO_seg 1 [(29, .bool (decide (s2.1 < (List.length ([(⟨#[97, 46, 100, 97, 116]⟩ : ByteArray), (⟨#[100, 47, 98, 46, 100, 97, 116]⟩ : ByteArray), (⟨#[99]⟩ : ByteArray)]) : Int))))] kr kr ?_)
   refine WO_et rfl (W_seq ?_)
   refine W_cond (decide (s2.1 < (List.length ([(⟨#[97, 46, 100, 97, 116]⟩ : ByteArray), (⟨#[100, 47, 98, 46, 100, 97, 116]⟩ : ByteArray), (⟨#[99]⟩ : ByteArray)]) : Int))) kr ?_ ?_
   ·intro hc
    rw [if_pos hc] at hr
    refine W_skip ?_
    refine X_then ?_
    refine W_seq ?_
    replace ⟨o4, hr, hrKu4⟩ := bindS hr
    refine W_cut .normal (fun L' w' => ∃ (a18 : Option Addr) (c18 : Nat) (a19 : Option Addr) (c19 : Nat) (m13 : Mem), L' = [(0, .pointer (some ⟨bp0, 0, none⟩)), (2, .pointer (some ⟨b1, 0, none⟩)), (3, .pointer (some ⟨b2, 0, none⟩)), (26, .slice (some ⟨b4, 0, none⟩) (List.length ([(⟨#[97, 46, 100, 97, 116]⟩ : ByteArray), (⟨#[100, 47, 98, 46, 100, 97, 116]⟩ : ByteArray), (⟨#[99]⟩ : ByteArray)])) 3), (27, .int .i64 (List.length ([(⟨#[97, 46, 100, 97, 116]⟩ : ByteArray), (⟨#[100, 47, 98, 46, 100, 97, 116]⟩ : ByteArray), (⟨#[99]⟩ : ByteArray)]) : Int)), (28, .int .i64 s2.1)] ∧ m.le m13 ∧ St m13 (.blk b2 (.cells #[.slice a18 (List.length o4.1) c18] 25 (0, 0)) :: .blk b1 (.cells #[.slice none (List.length ([] : List (ByteArray × ByteArray))) 0] 25 (0, 0)) :: .blk bp0 (.cells #[.slice a19 (List.length o4.2.1) c19, .int .i64 o4.2.2] 28 (0, 0)) :: .room (some ⟨b4, 0, none⟩) (List.length ([(⟨#[97, 46, 100, 97, 116]⟩ : ByteArray), (⟨#[100, 47, 98, 46, 100, 97, 116]⟩ : ByteArray), (⟨#[99]⟩ : ByteArray)])) 3 9 1 :: .room a18 (List.length o4.1) c18 74 2 :: own) w' ∧ RepS cStr m13 (some ⟨b4, 0, none⟩) 3 ([(⟨#[97, 46, 100, 97, 116]⟩ : ByteArray), (⟨#[100, 47, 98, 46, 100, 97, 116]⟩ : ByteArray), (⟨#[99]⟩ : ByteArray)]) ∧ RepS (cPair cStr cStr) m13 a18 c18 o4.1 ∧ RepS (cInt .i64) m13 a19 c19 o4.2.1) ?_ ?_
    ·clear hr st
     have hr := hrKu4
     clear hrKu4
     rintro _ w17 ⟨a18, c18, a19, c19, m13, rfl, hm, st, r14, r19, r20⟩
     refine X_then ?_
     refine W_region ?_
     refine WO_seg 2 [(28, .int .i64 (IntKind.wrap .i64 (s2.1 + 1)))] kr kr ?_
     refine WO_end rfl ?_
     obtain rfl := Option.some.inj hr
     have hL := hSu3 _ rfl
     have st := st.front4.front4.front4.front4.front4
     exact X_env _ kr (X_round k2 (Nat.lt_succ_self _) ⟨(IntKind.wrap .i64 (s2.1 + 1), o4.1, o4.2.1, o4.2.2), a18, c18, a19, c19, m13, hL, rfl, hm, st, r14, r19, r20⟩)
    ·intro Ku4
     clear hrKu4
     refine W_block ?_
     refine W_sr ?_
     replace ⟨x2, hx8, hr⟩ := bindS hr
     refine WO_one rfl (One_index (d := 30) (t := 33) (e := 9) (x := (.tmp 26)) (y := (.tmp 28)) cStr kr rfl (ev (.slice (some ⟨b4, 0, none⟩) (List.length ([(⟨#[97, 46, 100, 97, 116]⟩ : ByteArray), (⟨#[100, 47, 98, 46, 100, 97, 116]⟩ : ByteArray), (⟨#[99]⟩ : ByteArray)])) 3)) (ev (.int .i64 s2.1)) kr r14 hx8 ?_)
     rintro b5 f2 cs2 rfl hq2
     refine WO_one rfl (One_load_row (d := 31) (t := 9) (x := (.tmp 30)) (.string x2) kr rfl (ev (.pointer (some ⟨b5, f2, none⟩))) st hq2 kr ?_)
     refine WO_seg 1 [(7, .string x2)] kr kr ?_
     refine WO_et rfl (W_sr ?_)
     refine WO_seg 1 [(32, .pointer (some ⟨bp0, 0, none⟩))] kr kr ?_
     have st := st.front2
     replace ⟨y7, hx9, hr⟩ := bindS hr
     refine WO_one rfl (One_fn 33 29 #[.pointer (some ⟨bp0, 0, none⟩), .int .i64 1, .int .i64 3] kr rfl ?_)
     refine (testgatemake_Tape_Chance_ok st r18 hx9).mono ?_
     clear st
     rintro _ w18 ⟨a20, c20, m14, rfl, hle8, st, r21⟩
     refine ⟨_, rfl, ?_⟩
     have hm := Mem.le_trans hm hle8
     have r14 := r14.mono hle8
     have r18 := r18.mono hle8
     have r17 := r17.mono hle8
     refine WO_et rfl (W_cond y7.2 kr ?_ ?_)
     ·intro hc
      rw [if_pos hc] at hr
      refine W_draw [(7, fun w' => Inv m14 w' ∧ True), (6, fun w' => Inv m14 w' ∧ Piece.holds m14 w' (.blk b2 (.cells #[.slice a16 (List.length s2.2.1) c16] 25 (0, 0))) ∧ True)] kr st ?_
      clear st
      intro w19 _ st
      have hmS2 := m14.le_refl
      refine ⟨⟨.inr ⟨Inv.anti st.inv hmS2, trivial⟩, ⟨.inr ⟨Inv.anti st.inv hmS2, Piece.holds_anti st.tail.head hmS2, trivial⟩, trivial⟩⟩, ?_⟩
      refine WA_load_own (t := 25) (x := (.tmp 3)) 0 34 (.agg #[.slice a16 (List.length s2.2.1) c16]) kr rfl kr (.tail _ (.head _)) (QP_block (QP_then (QP_then (QP_block (QP_then QP_body))))) (fun _ h => h.2.1) (ev (.pointer (some ⟨b2, 0, none⟩))) kr ?_
      refine WA_pure 1 35 (.string x2) kr rfl kr (.head _) (QP_block (QP_then (QP_then (QP_block (QP_then QP_body))))) ?_
      refine WA_pure 2 36 (.pointer (some ⟨bp0, 0, none⟩)) kr rfl kr (.head _) (QP_block (QP_then (QP_then (QP_block (QP_then QP_body))))) ?_
      replace ⟨y8, hx10, hr⟩ := bindS hr
      refine WA_one 3 kr  (One_fn 37 56 #[.pointer (some ⟨bp0, 0, none⟩)] kr rfl ?_)
      refine (testgatemake_data_ok st r21 hx10).mono ?_
      clear st
      rintro _ w20 ⟨a21, c21, m15, rfl, hle9, st, r22⟩
      refine ⟨_, rfl, ?_⟩
      have hm := Mem.le_trans hm hle9
      have r14 := r14.mono hle9
      have r17 := r17.mono hle9
      have r21 := r21.mono hle9
      have hmS2 := Mem.le_trans hmS2 hle9
      refine ⟨⟨.inr ⟨Inv.anti st.inv hmS2, trivial⟩, ⟨.inr ⟨Inv.anti st.inv hmS2, Piece.holds_anti st.tail.head hmS2, trivial⟩, trivial⟩⟩, ?_⟩
      refine WA_pure 4 38 (.agg #[.string x2, .string y8.2]) kr rfl kr (.head _) (QP_block (QP_then (QP_then (QP_block (QP_then QP_body))))) ?_
      replace ⟨y9, hx11, hr⟩ := bindS hr
      refine WA_one 5 kr  (One_fn 39 55 #[.agg #[.slice a16 (List.length s2.2.1) c16], .agg #[.string x2, .string y8.2]] kr rfl ?_)
      refine (testgatemake_insert_ok st r17 hx11).mono ?_
      clear st
      rintro _ w21 ⟨a22, c22, m16, rfl, hle10, st, r23⟩
      refine ⟨_, rfl, ?_⟩
      have hm := Mem.le_trans hm hle10
      have r14 := r14.mono hle10
      have r17 := r17.mono hle10
      have r22 := r22.mono hle10
      have hmS2 := Mem.le_trans hmS2 hle10
      refine ⟨⟨.inr ⟨Inv.anti st.inv hmS2, trivial⟩, ⟨.inr ⟨Inv.anti st.inv hmS2, Piece.holds_anti st.tail.tail.head hmS2, trivial⟩, trivial⟩⟩, ?_⟩
      have st := st.front2
      refine WA_one 6 kr  (One_store (t := 25) (x := (.tmp 3)) (y := (.tmp 39)) (v := .agg #[.slice a22 (List.length y9) c22]) (c' := #[.slice a22 (List.length y9) c22]) kr (ev (.pointer (some ⟨b2, 0, none⟩))) (ev (.agg #[.slice a22 (List.length y9) c22])) st kr kr ?_)
      clear st
      intro w22 st
      refine ⟨⟨.inr ⟨Inv.anti st.inv hmS2, trivial⟩, ⟨.inl rfl, trivial⟩⟩, ?_⟩
      refine WA_done kr ?_
      have st := st.front5
      have st := st.tail
      refine X_block ?_
      obtain rfl := Option.some.inj hr
      have st := st.front1.front4.front3.front4.front4
      exact X_env _ kr (Ku4 _ _ ⟨a22, c22, a21, c21, m16, rfl, hm, st, r14, r23, r22⟩)
     ·intro hc
      rw [if_neg (not_true hc)] at hr
      refine W_skip ?_
      refine X_block ?_
      obtain rfl := Option.some.inj hr
      have st := st.front4.front4.front2.front4.front4
      exact X_env _ kr (Ku4 _ _ ⟨a16, c16, a20, c20, m14, rfl, hm, st, r14, r17, r21⟩)
   ·intro hc
    rw [if_neg (not_true hc)] at hr
    refine W_exit ?_
    refine X_then_exit ?_
    obtain rfl := Option.some.inj hr
    have ho := hBu3 _ rfl
    have st := st.front4.front4.front4.front4.front4
    refine X_then_exit ?_
    exact X_env _ kr (K2_u3 _ _ ⟨(s2.2.1, s2.2.2.1, s2.2.2.2), a16, c16, a17, c17, m12, ho, rfl, hm, st, r17, r18⟩)
 intro K0_u1
 clear hrKu1
 have st := st.nilroom 74 2
 have st := st.front1.front4.front4.front4
 refine W_env _ kr (W_loop (fun k1 L' w' => ∃ (s1 : Int × (List (ByteArray × ByteArray)) × List (Int) × Int) (a5 : Option Addr) (c5 : Nat) (a6 : Option Addr) (c6 : Nat) (m3 : Mem), loopM (testgatemake_Revision_L1 N y1) k1 s1 = some out1 ∧ L' = [(0, .pointer (some ⟨bp0, 0, none⟩)), (2, .pointer (some ⟨b1, 0, none⟩)), (3, .pointer (some ⟨b2, 0, none⟩)), (8, .slice a2 (List.length y1) c2), (9, .int .i64 (List.length y1 : Int)), (10, .int .i64 s1.1)] ∧ m.le m3 ∧ St m3 (.blk b2 (.cells #[.slice a5 (List.length s1.2.1) c5] 25 (0, 0)) :: .blk b1 (.cells #[.slice none (List.length ([] : List (ByteArray × ByteArray))) 0] 25 (0, 0)) :: .blk bp0 (.cells #[.slice a6 (List.length s1.2.2.1) c6, .int .i64 s1.2.2.2] 28 (0, 0)) :: .room a2 (List.length y1) c2 9 1 :: .room a5 (List.length s1.2.1) c5 74 2 :: own) w' ∧ RepS cStr m3 a2 c2 y1 ∧ RepS (cPair cStr cStr) m3 a5 c5 s1.2.1 ∧ RepS (cInt .i64) m3 a6 c6 s1.2.2.1) N ⟨(0, ([] : List (ByteArray × ByteArray)), p0.1, p0.2), none, 0, a1, c1, m1, hr, rfl, hm, st, r2, (RepS.nil _ _), r1⟩ ?_)
 clear st hr
 rintro k1 _ w5 ⟨s1, a5, c5, a6, c6, m3, hL, rfl, hm, st, r2, r5, r6⟩
 rcases k1 with _ | k1
 ·exact loopM_zero hL
 ·obtain ⟨qu1, hr, hSu1, hBu1⟩ := loopM_succ hL
  clear hL
  unfold testgatemake_Revision_L1 at hr
  refine W_sr (WO_seg 1 [(11, .bool (decide (s1.1 < (List.length y1 : Int))))] kr kr ?_)
  refine WO_et rfl (W_seq ?_)
  refine W_cond (decide (s1.1 < (List.length y1 : Int))) kr ?_ ?_
  ·intro hc
   rw [if_pos hc] at hr
   refine W_skip ?_
   refine X_then ?_
   refine W_seq ?_
   replace ⟨o2, hr, hrKu2⟩ := bindS hr
   refine W_cut .normal (fun L' w' => ∃ (a7 : Option Addr) (c7 : Nat) (a8 : Option Addr) (c8 : Nat) (m4 : Mem), L' = [(0, .pointer (some ⟨bp0, 0, none⟩)), (2, .pointer (some ⟨b1, 0, none⟩)), (3, .pointer (some ⟨b2, 0, none⟩)), (8, .slice a2 (List.length y1) c2), (9, .int .i64 (List.length y1 : Int)), (10, .int .i64 s1.1)] ∧ m.le m4 ∧ St m4 (.blk b2 (.cells #[.slice a7 (List.length o2.1) c7] 25 (0, 0)) :: .blk b1 (.cells #[.slice none (List.length ([] : List (ByteArray × ByteArray))) 0] 25 (0, 0)) :: .blk bp0 (.cells #[.slice a8 (List.length o2.2.1) c8, .int .i64 o2.2.2] 28 (0, 0)) :: .room a2 (List.length y1) c2 9 1 :: .room a7 (List.length o2.1) c7 74 2 :: own) w' ∧ RepS cStr m4 a2 c2 y1 ∧ RepS (cPair cStr cStr) m4 a7 c7 o2.1 ∧ RepS (cInt .i64) m4 a8 c8 o2.2.1) ?_ ?_
   ·clear hr st
    have hr := hrKu2
    clear hrKu2
    rintro _ w6 ⟨a7, c7, a8, c8, m4, rfl, hm, st, r2, r7, r8⟩
    refine X_then ?_
    refine W_region ?_
    refine WO_seg 2 [(10, .int .i64 (IntKind.wrap .i64 (s1.1 + 1)))] kr kr ?_
    refine WO_end rfl ?_
    obtain rfl := Option.some.inj hr
    have hL := hSu1 _ rfl
    have st := st.front4.front4.front4.front4.front4
    exact X_env _ kr (X_round k1 (Nat.lt_succ_self _) ⟨(IntKind.wrap .i64 (s1.1 + 1), o2.1, o2.2.1, o2.2.2), a7, c7, a8, c8, m4, hL, rfl, hm, st, r2, r7, r8⟩)
   ·intro Ku2
    clear hrKu2
    refine W_block ?_
    refine W_sr ?_
    replace ⟨x1, hx2, hr⟩ := bindS hr
    refine WO_one rfl (One_index (d := 12) (t := 33) (e := 9) (x := (.tmp 8)) (y := (.tmp 10)) cStr kr rfl (ev (.slice a2 (List.length y1) c2)) (ev (.int .i64 s1.1)) kr r2 hx2 ?_)
    rintro b3 f1 cs1 rfl hq1
    refine WO_one rfl (One_load_row (d := 13) (t := 9) (x := (.tmp 12)) (.string x1) kr rfl (ev (.pointer (some ⟨b3, f1, none⟩))) st hq1 kr ?_)
    refine WO_seg 1 [(5, .string x1)] kr kr ?_
    refine WO_et rfl (W_sr ?_)
    refine WO_seg 1 [(14, .pointer (some ⟨bp0, 0, none⟩))] kr kr ?_
    have st := st.front2
    replace ⟨y2, hx3, hr⟩ := bindS hr
    refine WO_one rfl (One_fn 15 29 #[.pointer (some ⟨bp0, 0, none⟩), .int .i64 3, .int .i64 4] kr rfl ?_)
    refine (testgatemake_Tape_Chance_ok st r6 hx3).mono ?_
    clear st
    rintro _ w7 ⟨a9, c9, m5, rfl, hle2, st, r9⟩
    refine ⟨_, rfl, ?_⟩
    have hm := Mem.le_trans hm hle2
    have r2 := r2.mono hle2
    have r6 := r6.mono hle2
    have r5 := r5.mono hle2
    refine WO_et rfl (W_cond y2.2 kr ?_ ?_)
    ·intro hc
     rw [if_pos hc] at hr
     refine W_draw [(10, fun w' => Inv m5 w' ∧ True), (9, fun w' => Inv m5 w' ∧ Piece.holds m5 w' (.blk b2 (.cells #[.slice a5 (List.length s1.2.1) c5] 25 (0, 0))) ∧ True)] kr st ?_
     clear st
     intro w8 _ st
     have hmS1 := m5.le_refl
     refine ⟨⟨.inr ⟨Inv.anti st.inv hmS1, trivial⟩, ⟨.inr ⟨Inv.anti st.inv hmS1, Piece.holds_anti st.tail.head hmS1, trivial⟩, trivial⟩⟩, ?_⟩
     refine WA_load_own (t := 25) (x := (.tmp 3)) 0 16 (.agg #[.slice a5 (List.length s1.2.1) c5]) kr rfl kr (.tail _ (.head _)) (QP_block (QP_then (QP_then (QP_block (QP_then QP_body))))) (fun _ h => h.2.1) (ev (.pointer (some ⟨b2, 0, none⟩))) kr ?_
     refine WA_pure 1 17 (.string x1) kr rfl kr (.head _) (QP_block (QP_then (QP_then (QP_block (QP_then QP_body))))) ?_
     refine WA_pure 2 18 (.pointer (some ⟨bp0, 0, none⟩)) kr rfl kr (.head _) (QP_block (QP_then (QP_then (QP_block (QP_then QP_body))))) ?_
     refine WA_pure 3 19 (.pointer (some ⟨bp0, 0, none⟩)) kr rfl kr (.head _) (QP_block (QP_then (QP_then (QP_block (QP_then QP_body))))) ?_
     replace ⟨y3, hx4, hr⟩ := bindS hr
     refine WA_one 4 kr  (One_fn 20 59 #[] kr rfl ?_)
     refine (testgatemake_Packages_ok st hx4).mono ?_
     clear st
     rintro _ w9 ⟨a10, c10, m6, rfl, hle3, st, r10⟩
     refine ⟨_, rfl, ?_⟩
     have hm := Mem.le_trans hm hle3
     have r2 := r2.mono hle3
     have r5 := r5.mono hle3
     have r9 := r9.mono hle3
     have hmS1 := Mem.le_trans hmS1 hle3
     refine ⟨⟨.inr ⟨Inv.anti st.inv hmS1, trivial⟩, ⟨.inr ⟨Inv.anti st.inv hmS1, Piece.holds_anti st.tail.tail.head hmS1, trivial⟩, trivial⟩⟩, ?_⟩
     have st := st.front1
     replace ⟨y4, hx5, hr⟩ := bindS hr
     refine WA_one 5 kr  (One_fn 21 13 #[.pointer (some ⟨bp0, 0, none⟩), .slice a10 (List.length y3) c10] kr rfl ?_)
     refine (testgatemake_Tape_One_ok st r9 r10 hx5).mono ?_
     clear st
     rintro _ w10 ⟨a11, c11, m7, rfl, hle4, st, r11⟩
     refine ⟨_, rfl, ?_⟩
     have hm := Mem.le_trans hm hle4
     have r2 := r2.mono hle4
     have r5 := r5.mono hle4
     have r10 := r10.mono hle4
     have r9 := r9.mono hle4
     have hmS1 := Mem.le_trans hmS1 hle4
     refine ⟨⟨.inr ⟨Inv.anti st.inv hmS1, trivial⟩, ⟨.inr ⟨Inv.anti st.inv hmS1, Piece.holds_anti st.tail.tail.head hmS1, trivial⟩, trivial⟩⟩, ?_⟩
     replace ⟨y5, hx6, hr⟩ := bindS hr
     refine WA_one 6 kr  (One_fn 22 58 #[.pointer (some ⟨bp0, 0, none⟩), .string y4.2] kr rfl ?_)
     refine (testgatemake_Source_ok st r11 hx6).mono ?_
     clear st
     rintro _ w11 ⟨a12, c12, m8, rfl, hle5, st, r12⟩
     refine ⟨_, rfl, ?_⟩
     have hm := Mem.le_trans hm hle5
     have r2 := r2.mono hle5
     have r5 := r5.mono hle5
     have r10 := r10.mono hle5
     have r11 := r11.mono hle5
     have hmS1 := Mem.le_trans hmS1 hle5
     refine ⟨⟨.inr ⟨Inv.anti st.inv hmS1, trivial⟩, ⟨.inr ⟨Inv.anti st.inv hmS1, Piece.holds_anti st.tail.tail.head hmS1, trivial⟩, trivial⟩⟩, ?_⟩
     refine WA_pure 7 23 (.agg #[.string x1, .string y5.2]) kr rfl kr (.head _) (QP_block (QP_then (QP_then (QP_block (QP_then QP_body))))) ?_
     replace ⟨y6, hx7, hr⟩ := bindS hr
     refine WA_one 8 kr  (One_fn 24 55 #[.agg #[.slice a5 (List.length s1.2.1) c5], .agg #[.string x1, .string y5.2]] kr rfl ?_)
     refine (testgatemake_insert_ok st r5 hx7).mono ?_
     clear st
     rintro _ w12 ⟨a13, c13, m9, rfl, hle6, st, r13⟩
     refine ⟨_, rfl, ?_⟩
     have hm := Mem.le_trans hm hle6
     have r2 := r2.mono hle6
     have r5 := r5.mono hle6
     have r10 := r10.mono hle6
     have r12 := r12.mono hle6
     have hmS1 := Mem.le_trans hmS1 hle6
     refine ⟨⟨.inr ⟨Inv.anti st.inv hmS1, trivial⟩, ⟨.inr ⟨Inv.anti st.inv hmS1, Piece.holds_anti st.tail.tail.tail.head hmS1, trivial⟩, trivial⟩⟩, ?_⟩
     have st := st.front3
     refine WA_one 9 kr  (One_store (t := 25) (x := (.tmp 3)) (y := (.tmp 24)) (v := .agg #[.slice a13 (List.length y6) c13]) (c' := #[.slice a13 (List.length y6) c13]) kr (ev (.pointer (some ⟨b2, 0, none⟩))) (ev (.agg #[.slice a13 (List.length y6) c13])) st kr kr ?_)
     clear st
     intro w13 st
     refine ⟨⟨.inr ⟨Inv.anti st.inv hmS1, trivial⟩, ⟨.inl rfl, trivial⟩⟩, ?_⟩
     refine WA_done kr ?_
     have st := st.front3
     have st := st.tail
     have st := st.front5
     have st := st.tail
     refine X_block ?_
     obtain rfl := Option.some.inj hr
     have st := st.front1.front4.front3.front4.front4
     exact X_env _ kr (Ku2 _ _ ⟨a13, c13, a12, c12, m9, rfl, hm, st, r2, r13, r12⟩)
    ·intro hc
     rw [if_neg (not_true hc)] at hr
     refine W_skip ?_
     refine X_block ?_
     obtain rfl := Option.some.inj hr
     have st := st.front4.front4.front2.front4.front4
     exact X_env _ kr (Ku2 _ _ ⟨a5, c5, a9, c9, m5, rfl, hm, st, r2, r5, r9⟩)
  ·intro hc
   rw [if_neg (not_true hc)] at hr
   refine W_exit ?_
   refine X_then_exit ?_
   obtain rfl := Option.some.inj hr
   have ho := hBu1 _ rfl
   have st := st.front4.front4.front4.front4.front4
   refine X_then_exit ?_
   exact X_env _ kr (K0_u1 _ _ ⟨(s1.2.1, s1.2.2.1, s1.2.2.2), a5, c5, a6, c6, m3, ho, rfl, hm, st, r5, r6⟩)
def testgatemake_remove_L1 (N : Nat) (p0 : (List (ByteArray × ByteArray))) (p1 : ByteArray) (s1 : Int × (List (ByteArray × ByteArray))) : Option ((Int × (List (ByteArray × ByteArray))) ⊕ (((List (ByteArray × ByteArray))))) :=
 if (decide (s1.1 < (List.length p0 : Int))) = true then (((idx p0 s1.1).bind fun x1 => if (!(x1.1.toList == p1.toList)) = true then ((appendS 32 s1.2 ([(x1.1, x1.2)])).bind fun l1 => some l1) else (some s1.2) : Option ((List (ByteArray × ByteArray)))).bind fun o2 => some (.inl (IntKind.wrap .i64 (s1.1 + 1), o2))) else (some (.inr s1.2))
def testgatemake_remove (N : Nat) (p0 : (List (ByteArray × ByteArray))) (p1 : ByteArray) : Option ((List (ByteArray × ByteArray))) :=
 (loopM (testgatemake_remove_L1 N p0 p1) N (0, ([] : List (ByteArray × ByteArray)))).bind fun o1 => some o1
set_option maxHeartbeats 4000000 in
set_option maxRecDepth 100000 in
theorem testgatemake_remove_ok {N : Nat} {m : Mem} {own : List Piece} {w : World} {p0 : (List (ByteArray × ByteArray))} {p1 : ByteArray} {a1 : Option Addr} {c1 : Nat} {r : (List (ByteArray × ByteArray))} (st : St m (own) w) (r1 : RepS (cPair cStr cStr) m a1 c1 p0) (hr : testgatemake_remove N p0 p1 = some r) : Calls Tryz.prog 57 #[.agg #[.slice a1 (List.length p0) c1], .string p1] w fun e w' => ∃ (ra1 : Option Addr) (rc1 : Nat) (m' : Mem), e = .returned (.agg #[.slice ra1 (List.length r) rc1]) ∧ m.le m' ∧ St m' (.room ra1 (List.length r) rc1 74 2 :: own) w' ∧ RepS (cPair cStr cStr) m' ra1 rc1 r := by
 unfold testgatemake_remove at hr
 have hm := m.le_refl
 refine W_calls Tryz.func57 rfl Tryz.ntmps57 [(0, .agg #[.slice a1 (List.length p0) c1]), (1, .string p1)] kr rfl ?_
 refine W_sr (WO_one rfl (One_box (d := 2) (e := 25) (x := (.tmp 0)) (.agg #[.slice a1 (List.length p0) c1]) kr rfl kr st ?_))
 clear st
 intro b1 m1 w1 hle1 st hb1
 have hm := Mem.le_trans hm hle1
 have r1 := r1.mono hle1
 refine WO_one rfl (One_alloc (d := 4) (e := 25) (.agg #[.slice none 0 0]) kr rfl kr st ?_)
 clear st
 intro b2 w2 st
 refine WO_et rfl (W_sr ?_)
 refine WO_one rfl (One_alloc (d := 5) (e := 25) (.agg #[.slice none 0 0]) kr rfl kr st ?_)
 clear st
 intro b3 w3 st
 refine WO_et rfl (W_seq ?_)
 refine W_sr (WO_seg 1 [(8, .pointer (some ⟨b1, 0, none⟩))] kr kr ?_)
 refine WO_one rfl (One_load_row (d := 9) (t := 23) (x := (.tmp 8)) (.slice a1 (List.length p0) c1) kr rfl (ev (.pointer (some ⟨b1, 0, none⟩))) st hb1 kr ?_)
 refine WO_seg 2 [(10, .int .i64 (List.length p0 : Int)), (11, .int .i64 0)] kr kr ?_
 refine WO_et rfl (W_block ?_)
 replace ⟨out1, hr, hrKu1⟩ := bindS hr
 refine W_cut (.exit 0) (fun L' w' => ∃ (o1 : (List (ByteArray × ByteArray))) (a2 : Option Addr) (c2 : Nat) (m2 : Mem), o1 = out1 ∧ L' = [(4, .pointer (some ⟨b2, 0, none⟩)), (5, .pointer (some ⟨b3, 0, none⟩))] ∧ m.le m2 ∧ St m2 (.blk b3 (.cells #[.slice a2 (List.length o1) c2] 25 (0, 0)) :: .blk b2 (.cells #[.slice none (List.length ([] : List (ByteArray × ByteArray))) 0] 25 (0, 0)) :: .room a2 (List.length o1) c2 74 2 :: own) w' ∧ RepS (cPair cStr cStr) m2 a2 c2 o1) ?_ ?_
 ·clear hr st
  rintro _ w4 ⟨o1, a2, c2, m2, rfl, rfl, hm, st, r2⟩
  have hr := hrKu1
  clear hrKu1
  refine X_block_eq ?_
  refine X_then ?_
  refine W_sr (WO_one rfl (One_load_own (d := 26) (t := 25) (x := (.tmp 5)) (.agg #[.slice a2 (List.length o1) c2]) kr rfl (ev (.pointer (some ⟨b3, 0, none⟩))) st.head kr ?_))
  have st := st.front1
  refine WO_one rfl (One_store (t := 25) (x := (.tmp 4)) (y := (.tmp 26)) (v := .agg #[.slice a2 (List.length o1) c2]) (c' := #[.slice a2 (List.length o1) c2]) kr (ev (.pointer (some ⟨b2, 0, none⟩))) (ev (.agg #[.slice a2 (List.length o1) c2])) st kr kr ?_)
  clear st
  intro w12 st
  refine WO_et rfl (W_ret ?_)
  obtain rfl := Option.some.inj hr
  refine X_ret [.cell 4 25] [.agg #[.slice a2 (List.length o1) c2]] rfl (ResAll.cons (ResAt.blk (v := .agg #[.slice a2 (List.length o1) c2]) (o := 0) kr st.head kr) ResAll.nil) ?_
  have st := st.tail
  have st := st.tail
  exact ⟨a2, c2, m2, rfl, hm, st, r2⟩
 intro K0_u1
 clear hrKu1
 have st := st.nilroom 74 2
 have st := st.front2.front2
 refine W_env _ kr (W_loop (fun k1 L' w' => ∃ (s1 : Int × (List (ByteArray × ByteArray))) (a3 : Option Addr) (c3 : Nat) (m3 : Mem), loopM (testgatemake_remove_L1 N p0 p1) k1 s1 = some out1 ∧ L' = [(1, .string p1), (4, .pointer (some ⟨b2, 0, none⟩)), (5, .pointer (some ⟨b3, 0, none⟩)), (9, .slice a1 (List.length p0) c1), (10, .int .i64 (List.length p0 : Int)), (11, .int .i64 s1.1)] ∧ m.le m3 ∧ St m3 (.blk b3 (.cells #[.slice a3 (List.length s1.2) c3] 25 (0, 0)) :: .blk b2 (.cells #[.slice none (List.length ([] : List (ByteArray × ByteArray))) 0] 25 (0, 0)) :: .room a3 (List.length s1.2) c3 74 2 :: own) w' ∧ RepS (cPair cStr cStr) m3 a1 c1 p0 ∧ RepS (cPair cStr cStr) m3 a3 c3 s1.2) N ⟨(0, ([] : List (ByteArray × ByteArray))), none, 0, m1, hr, rfl, hm, st, r1, (RepS.nil _ _)⟩ ?_)
 clear st hr
 rintro k1 _ w5 ⟨s1, a3, c3, m3, hL, rfl, hm, st, r1, r3⟩
 rcases k1 with _ | k1
 ·exact loopM_zero hL
 ·obtain ⟨qu1, hr, hSu1, hBu1⟩ := loopM_succ hL
  clear hL
  unfold testgatemake_remove_L1 at hr
  refine W_sr (WO_seg 1 [(12, .bool (decide (s1.1 < (List.length p0 : Int))))] kr kr ?_)
  refine WO_et rfl (W_seq ?_)
  refine W_cond (decide (s1.1 < (List.length p0 : Int))) kr ?_ ?_
  ·intro hc
   rw [if_pos hc] at hr
   refine W_skip ?_
   refine X_then ?_
   refine W_seq ?_
   replace ⟨o2, hr, hrKu2⟩ := bindS hr
   refine W_cut .normal (fun L' w' => ∃ (a4 : Option Addr) (c4 : Nat) (m4 : Mem), L' = [(1, .string p1), (4, .pointer (some ⟨b2, 0, none⟩)), (5, .pointer (some ⟨b3, 0, none⟩)), (9, .slice a1 (List.length p0) c1), (10, .int .i64 (List.length p0 : Int)), (11, .int .i64 s1.1)] ∧ m.le m4 ∧ St m4 (.blk b3 (.cells #[.slice a4 (List.length o2) c4] 25 (0, 0)) :: .blk b2 (.cells #[.slice none (List.length ([] : List (ByteArray × ByteArray))) 0] 25 (0, 0)) :: .room a4 (List.length o2) c4 74 2 :: own) w' ∧ RepS (cPair cStr cStr) m4 a1 c1 p0 ∧ RepS (cPair cStr cStr) m4 a4 c4 o2) ?_ ?_
   ·clear hr st
    have hr := hrKu2
    clear hrKu2
    rintro _ w6 ⟨a4, c4, m4, rfl, hm, st, r1, r4⟩
    refine X_then ?_
    refine W_region ?_
    refine WO_seg 2 [(11, .int .i64 (IntKind.wrap .i64 (s1.1 + 1)))] kr kr ?_
    refine WO_end rfl ?_
    obtain rfl := Option.some.inj hr
    have hL := hSu1 _ rfl
    have st := st.front2.front2.front2
    exact X_env _ kr (X_round k1 (Nat.lt_succ_self _) ⟨(IntKind.wrap .i64 (s1.1 + 1), o2), a4, c4, m4, hL, rfl, hm, st, r1, r4⟩)
   ·intro Ku2
    clear hrKu2
    refine W_block ?_
    refine W_sr ?_
    replace ⟨x1, hx1, hr⟩ := bindS hr
    refine WO_one rfl (One_index (d := 13) (t := 23) (e := 74) (x := (.tmp 9)) (y := (.tmp 11)) (cPair cStr cStr) kr rfl (ev (.slice a1 (List.length p0) c1)) (ev (.int .i64 s1.1)) kr r1 hx1 ?_)
    rintro b4 f1 cs1 ⟨_, _, rfl, rfl, rfl⟩ hq1
    refine WO_one rfl (One_load_row (d := 14) (t := 74) (x := (.tmp 13)) (.agg #[.string x1.1, .string x1.2]) kr rfl (ev (.pointer (some ⟨b4, f1, none⟩))) st hq1 kr ?_)
    refine WO_one rfl (One_alloc (d := 7) (e := 74) (.agg #[.string (⟨#[]⟩ : ByteArray), .string (⟨#[]⟩ : ByteArray)]) kr rfl kr st ?_)
    clear st
    intro b5 w7 st
    refine WO_one rfl (One_store (t := 74) (x := (.tmp 7)) (y := (.tmp 14)) (v := .agg #[.string x1.1, .string x1.2]) (c' := #[.string x1.1, .string x1.2]) kr (ev (.pointer (some ⟨b5, 0, none⟩))) (ev (.agg #[.string x1.1, .string x1.2])) st kr kr ?_)
    clear st
    intro w8 st
    refine WO_et rfl (W_sr ?_)
    refine WO_seg 1 [(15, .pointer (some ⟨b5, 0, none⟩))] kr kr ?_
    refine WO_one rfl (One_load_own (d := 16) (t := 9) (x := (.tmp 15)) (.string x1.1) kr rfl (ev (.pointer (some ⟨b5, 0, none⟩))) st.head kr ?_)
    refine WO_seg 2 [(18, .bool (!(x1.1.toList == p1.toList)))] kr kr ?_
    refine WO_et rfl (W_cond (!(x1.1.toList == p1.toList)) kr ?_ ?_)
    ·intro hc
     rw [if_pos hc] at hr
     refine W_region ?_
     refine WO_seg 1 [(19, .pointer (some ⟨b3, 0, none⟩))] kr kr ?_
     refine WO_one rfl (One_load_own (d := 20) (t := 23) (x := (.tmp 19)) (.slice a3 (List.length s1.2) c3) kr rfl (ev (.pointer (some ⟨b3, 0, none⟩))) st.tail.head kr ?_)
     refine WO_one rfl (One_load_own (d := 21) (t := 74) (x := (.tmp 7)) (.agg #[.string x1.1, .string x1.2]) kr rfl (ev (.pointer (some ⟨b5, 0, none⟩))) st.head kr ?_)
     refine WO_one rfl (One_buildSlice (d := 22) (t := 23) (e := 74) (len := 1) (parts := #[(0, (.tmp 21))]) (cPair cStr cStr) (xs := [(x1.1, x1.2)]) [.string x1.1, .string x1.2] kr rfl (fun _ => buildCells_run kr _) rfl rfl st ⟨[.string x1.1, .string x1.2], _, rfl, ⟨_, _, rfl, rfl, rfl⟩, rfl⟩ ?_)
     clear st
     intro b6 m5 w9 hle2 st r5
     have hm := Mem.le_trans hm hle2
     have r1 := r1.mono hle2
     have r3 := r3.mono hle2
     have st := st.front4
     replace ⟨l1, hx2, hr⟩ := bindS hr
     refine WO_one rfl (One_append (d := 23) (t := 23) (u := 23) (e := 74) (by_ := 32) (x := (.tmp 20)) (y := (.tmp 22)) (cPair cStr cStr) kr rfl (ev (.slice a3 (List.length s1.2) c3)) (ev (.slice (some ⟨b6, 0, none⟩) (List.length ([(x1.1, x1.2)])) 1)) st kr (.inl kr) r3 r5.src hx2 ?_)
     clear st
     intro a5 c5 m6 w10 hle3 st r6
     have hm := Mem.le_trans hm hle3
     have r1 := r1.mono hle3
     have r3 := r3.mono hle3
     have r5 := r5.mono hle3
     refine WO_seg 1 [(24, .pointer (some ⟨b3, 0, none⟩))] kr kr ?_
     have st := st.front3
     refine WO_one rfl (One_store (t := 23) (x := (.tmp 24)) (y := (.tmp 23)) (v := .slice a5 (List.length l1) c5) (c' := #[.slice a5 (List.length l1) c5]) kr (ev (.pointer (some ⟨b3, 0, none⟩))) (ev (.slice a5 (List.length l1) c5)) st kr kr ?_)
     clear st
     intro w11 st
     refine WO_end rfl ?_
     have st := st.front2
     have st := st.tail
     refine X_block ?_
     obtain rfl := Option.some.inj hr
     have st := st.front2
     have st := st.tail
     have st := st.front1.front2.front2
     exact X_env _ kr (Ku2 _ _ ⟨a5, c5, m6, rfl, hm, st, r1, r6⟩)
    ·intro hc
     rw [if_neg (not_true hc)] at hr
     refine W_skip ?_
     refine X_block ?_
     obtain rfl := Option.some.inj hr
     have st := st.tail
     have st := st.front2.front2.front2
     exact X_env _ kr (Ku2 _ _ ⟨a3, c3, m3, rfl, hm, st, r1, r3⟩)
  ·intro hc
   rw [if_neg (not_true hc)] at hr
   refine W_exit ?_
   refine X_then_exit ?_
   obtain rfl := Option.some.inj hr
   have ho := hBu1 _ rfl
   have st := st.front2.front2.front2
   refine X_then_exit ?_
   exact X_env _ kr (K0_u1 _ _ ⟨s1.2, a3, c3, m3, ho, rfl, hm, st, r3⟩)
def testgatemake_Edit_L1 (N : Nat) (p1 : (List (ByteArray × ByteArray))) (y2 : (List Int × Int) × ByteArray) (y3 : (List Int × Int) × Int) (s1 : Int) : Option ((Int) ⊕ ((Unit) ⊕ ((List Int × Int) × ((List (ByteArray × ByteArray)))))) :=
 if (decide (s1 < (List.length p1 : Int))) = true then ((idx p1 s1).bind fun x1 => if (x1.1.toList == y2.2.toList) = true then ((testgatemake_remove N p1 y2.2).bind fun y13 => (testgatemake_Tape_Next N (y3.1.1, y3.1.2) 3).bind fun y14 => (testgatemake_Digits N y14.2).bind fun y15 => (catB (⟨#[122]⟩ : ByteArray) y15).bind fun s2 => (catB s2 (⟨#[46, 115, 114, 99]⟩ : ByteArray)).bind fun s3 => (testgatemake_insert N y13 (s3, x1.2)).bind fun y16 => some (.inr (.inr (((y14.1.1, y14.1.2), y16))))) else (some (.inl (IntKind.wrap .i64 (s1 + 1))))) else (some (.inr (.inl ())))
def testgatemake_Edit_L2 (N : Nat) (p1 : (List (ByteArray × ByteArray))) (y2 : (List Int × Int) × ByteArray) (y3 : (List Int × Int) × Int) (s4 : Int) : Option ((Int) ⊕ ((Unit) ⊕ ((List Int × Int) × ((List (ByteArray × ByteArray)))))) :=
 if (decide (s4 < (List.length p1 : Int))) = true then ((idx p1 s4).bind fun x2 => if (x2.1.toList == y2.2.toList) = true then ((testgatemake_Tape_Next N (y3.1.1, y3.1.2) 100).bind fun y17 => (testgatemake_Digits N y17.2).bind fun y18 => (catB (⟨#[35, 32]⟩ : ByteArray) y18).bind fun s5 => (catB s5 (⟨#[10, 32, 32]⟩ : ByteArray)).bind fun s6 => (catB s6 x2.2).bind fun s7 => (testgatemake_insert N p1 (y2.2, s7)).bind fun y19 => some (.inr (.inr (((y17.1.1, y17.1.2), y19))))) else (some (.inl (IntKind.wrap .i64 (s4 + 1))))) else (some (.inr (.inl ())))
def testgatemake_Edit_L3 (N : Nat) (p1 : (List (ByteArray × ByteArray))) (y2 : (List Int × Int) × ByteArray) (y3 : (List Int × Int) × Int) (s8 : Int) : Option ((Int) ⊕ ((Unit) ⊕ ((List Int × Int) × ((List (ByteArray × ByteArray)))))) :=
 if (decide (s8 < (List.length p1 : Int))) = true then ((idx p1 s8).bind fun x3 => if (x3.1.toList == y2.2.toList) = true then ((catB x3.2 (⟨#[102, 117, 110, 99]⟩ : ByteArray)).bind fun s9 => (testgatemake_insert N p1 (y2.2, s9)).bind fun y20 => some (.inr (.inr (((y3.1.1, y3.1.2), y20))))) else (some (.inl (IntKind.wrap .i64 (s8 + 1))))) else (some (.inr (.inl ())))
def testgatemake_Edit_L4 (N : Nat) (p1 : (List (ByteArray × ByteArray))) (y2 : (List Int × Int) × ByteArray) (y3 : (List Int × Int) × Int) (s10 : Int) : Option ((Int) ⊕ ((Unit) ⊕ ((List Int × Int) × ((List (ByteArray × ByteArray)))))) :=
 if (decide (s10 < (List.length p1 : Int))) = true then ((idx p1 s10).bind fun x4 => if (x4.1.toList == y2.2.toList) = true then ((testgatemake_Decl N (y3.1.1, y3.1.2)).bind fun y21 => (catB x4.2 y21.2).bind fun s11 => (testgatemake_insert N p1 (y2.2, s11)).bind fun y22 => some (.inr (.inr (((y21.1.1, y21.1.2), y22))))) else (some (.inl (IntKind.wrap .i64 (s10 + 1))))) else (some (.inr (.inl ())))
def testgatemake_Edit (N : Nat) (p0 : List Int × Int) (p1 : (List (ByteArray × ByteArray))) : Option ((List Int × Int) × ((List (ByteArray × ByteArray)))) :=
 (testgatemake_sources N).bind fun y1 => (testgatemake_Tape_One N (p0.1, p0.2) y1).bind fun y2 => (testgatemake_Tape_Next N (y2.1.1, y2.1.2) 9).bind fun y3 => (if (y3.2 == 0) = true then ((testgatemake_Tape_One N (y3.1.1, y3.1.2) ([(⟨#[97, 46, 100, 97, 116]⟩ : ByteArray), (⟨#[100, 47, 98, 46, 100, 97, 116]⟩ : ByteArray), (⟨#[99]⟩ : ByteArray)])).bind fun y4 => (testgatemake_data N (y4.1.1, y4.1.2)).bind fun y5 => (testgatemake_insert N p1 (y4.2, y5.2)).bind fun y6 => some (.inr ((y5.1.1, y5.1.2), y6))) else (if (y3.2 == 1) = true then ((testgatemake_Tape_One N (y3.1.1, y3.1.2) ([(⟨#[97, 46, 100, 97, 116]⟩ : ByteArray), (⟨#[100, 47, 98, 46, 100, 97, 116]⟩ : ByteArray), (⟨#[99]⟩ : ByteArray), (⟨#[97, 46, 115, 114, 99]⟩ : ByteArray), (⟨#[98, 46, 115, 114, 99]⟩ : ByteArray)])).bind fun y7 => (testgatemake_remove N p1 y7.2).bind fun y8 => some (.inr ((y7.1.1, y7.1.2), y8))) else (if (y3.2 == 2) = true then ((testgatemake_Packages N).bind fun y9 => (testgatemake_Tape_One N (y3.1.1, y3.1.2) y9).bind fun y10 => (testgatemake_Source N (y10.1.1, y10.1.2) y10.2).bind fun y11 => (testgatemake_insert N p1 (y2.2, y11.2)).bind fun y12 => some (.inr ((y11.1.1, y11.1.2), y12))) else (if (y3.2 == 3) = true then ((loopM (testgatemake_Edit_L1 N p1 y2 y3) N 0).bind fun out1 => (match out1 with | .inl o2 => some (.inl ()) | .inr (z) => some (.inr z))) else (if (y3.2 == 4) = true then ((loopM (testgatemake_Edit_L2 N p1 y2 y3) N 0).bind fun out2 => (match out2 with | .inl o3 => some (.inl ()) | .inr (z) => some (.inr z))) else (if (y3.2 == 5) = true then ((loopM (testgatemake_Edit_L3 N p1 y2 y3) N 0).bind fun out3 => (match out3 with | .inl o4 => some (.inl ()) | .inr (z) => some (.inr z))) else (some (.inl ()))))))) : Option ((Unit) ⊕ ((List Int × Int) × ((List (ByteArray × ByteArray)))))).bind fun qu1 => (match qu1 with | .inl o1 => (loopM (testgatemake_Edit_L4 N p1 y2 y3) N 0).bind fun out4 => (match out4 with | .inl o5 => (testgatemake_Packages N).bind fun y23 => (testgatemake_Tape_One N (y3.1.1, y3.1.2) y23).bind fun y24 => (testgatemake_Source N (y24.1.1, y24.1.2) y24.2).bind fun y25 => (testgatemake_insert N p1 (y2.2, y25.2)).bind fun y26 => some ((y25.1.1, y25.1.2), y26) | .inr (z) => some z) | .inr z => some z)
set_option maxHeartbeats 4000000 in
set_option maxRecDepth 100000 in
theorem testgatemake_Edit_ok {N : Nat} {m : Mem} {own : List Piece} {w : World} {p0 : List Int × Int} {p1 : (List (ByteArray × ByteArray))} {bp0 : Nat} {a1 : Option Addr} {c1 : Nat} {a2 : Option Addr} {c2 : Nat} {r : (List Int × Int) × ((List (ByteArray × ByteArray)))} (st : St m (.blk bp0 (.cells #[.slice a1 (List.length p0.1) c1, .int .i64 p0.2] 28 (0, 0)) :: own) w) (r1 : RepS (cInt .i64) m a1 c1 p0.1) (r2 : RepS (cPair cStr cStr) m a2 c2 p1) (hr : testgatemake_Edit N p0 p1 = some r) : Calls Tryz.prog 11 #[.pointer (some ⟨bp0, 0, none⟩), .agg #[.slice a2 (List.length p1) c2]] w fun e w' => ∃ (ra1 : Option Addr) (rc1 : Nat) (ra2 : Option Addr) (rc2 : Nat) (m' : Mem), e = .returned (.agg #[.slice ra2 (List.length r.2) rc2]) ∧ m.le m' ∧ St m' (.room ra2 (List.length r.2) rc2 74 2 :: .blk bp0 (.cells #[.slice ra1 (List.length r.1.1) rc1, .int .i64 r.1.2] 28 (0, 0)) :: own) w' ∧ RepS (cInt .i64) m' ra1 rc1 r.1.1 ∧ RepS (cPair cStr cStr) m' ra2 rc2 r.2 := by
 unfold testgatemake_Edit at hr
 have hm := m.le_refl
 refine W_calls Tryz.func11 rfl Tryz.ntmps11 [(0, .pointer (some ⟨bp0, 0, none⟩)), (1, .agg #[.slice a2 (List.length p1) c2])] kr rfl ?_
 refine W_sr (WO_one rfl (One_box (d := 3) (e := 25) (x := (.tmp 1)) (.agg #[.slice a2 (List.length p1) c2]) kr rfl kr st ?_))
 clear st
 intro b1 m1 w1 hle1 st hb1
 have hm := Mem.le_trans hm hle1
 have r2 := r2.mono hle1
 have r1 := r1.mono hle1
 refine WO_one rfl (One_alloc (d := 4) (e := 25) (.agg #[.slice none 0 0]) kr rfl kr st ?_)
 clear st
 intro b2 w2 st
 refine WO_et rfl (W_sr ?_)
 refine WO_seg 1 [(14, .pointer (some ⟨bp0, 0, none⟩))] kr kr ?_
 replace ⟨y1, hx1, hr⟩ := bindS hr
 refine WO_one rfl (One_fn 15 54 #[] kr rfl ?_)
 refine (testgatemake_sources_ok st hx1).mono ?_
 clear st
 rintro _ w3 ⟨a3, c3, m2, rfl, hle2, st, r3⟩
 refine ⟨_, rfl, ?_⟩
 have hm := Mem.le_trans hm hle2
 have hb1 := hb1.mono hle2
 have r2 := r2.mono hle2
 have r1 := r1.mono hle2
 have st := st.front2
 replace ⟨y2, hx2, hr⟩ := bindS hr
 refine WO_one rfl (One_fn 16 13 #[.pointer (some ⟨bp0, 0, none⟩), .slice a3 (List.length y1) c3] kr rfl ?_)
 refine (testgatemake_Tape_One_ok st r1 r3 hx2).mono ?_
 clear st
 rintro _ w4 ⟨a4, c4, m3, rfl, hle3, st, r4⟩
 refine ⟨_, rfl, ?_⟩
 have hm := Mem.le_trans hm hle3
 have hb1 := hb1.mono hle3
 have r2 := r2.mono hle3
 have r3 := r3.mono hle3
 have r1 := r1.mono hle3
 refine WO_seg 1 [(5, .string y2.2)] kr kr ?_
 refine WO_end rfl ?_
 have st := st.front1
 have st := st.tail
 refine X_then ?_
 refine W_seq ?_
 refine W_sr (WO_seg 1 [(17, .pointer (some ⟨bp0, 0, none⟩))] kr kr ?_)
 replace ⟨y3, hx3, hr⟩ := bindS hr
 refine WO_one rfl (One_fn 18 14 #[.pointer (some ⟨bp0, 0, none⟩), .int .i64 9] kr rfl ?_)
 refine (testgatemake_Tape_Next_ok st r4 hx3).mono ?_
 clear st
 rintro _ w5 ⟨a5, c5, m4, rfl, hle4, st, r5⟩
 refine ⟨_, rfl, ?_⟩
 have hm := Mem.le_trans hm hle4
 have hb1 := hb1.mono hle4
 have r2 := r2.mono hle4
 have r4 := r4.mono hle4
 refine WO_et rfl ?_
 replace ⟨qu1, hr, hrKu1⟩ := bindS hr
 refine W_cut .normal (fun L' w' => ∃ (o1 : Unit) (m5 : Mem), (.inl o1 : (Unit) ⊕ ((List Int × Int) × ((List (ByteArray × ByteArray))))) = qu1 ∧ L' = [(0, .pointer (some ⟨bp0, 0, none⟩)), (3, .pointer (some ⟨b1, 0, none⟩)), (4, .pointer (some ⟨b2, 0, none⟩)), (5, .string y2.2)] ∧ m.le m5 ∧ St m5 (.blk bp0 (.cells #[.slice a5 (List.length y3.1.1) c5, .int .i64 y3.1.2] 28 (0, 0)) :: .blk b2 (.cells #[.slice none (List.length ([] : List (ByteArray × ByteArray))) 0] 25 (0, 0)) :: own) w' ∧ MRow m5 b1 0 [.slice a2 (List.length p1) c2] ∧ RepS (cPair cStr cStr) m5 a2 c2 p1 ∧ RepS (cInt .i64) m5 a5 c5 y3.1.1) ?_ ?_
 ·clear hr st
  rintro _ w6 ⟨o1, m5, rfl, rfl, hm, st, hb1, r2, r5⟩
  have hr := hrKu1
  clear hrKu1
  dsimp only at hr
  refine X_then ?_
  refine W_seq ?_
  refine W_sr (WO_seg 1 [(120, .pointer (some ⟨b1, 0, none⟩))] kr kr ?_)
  refine WO_one rfl (One_load_row (d := 121) (t := 23) (x := (.tmp 120)) (.slice a2 (List.length p1) c2) kr rfl (ev (.pointer (some ⟨b1, 0, none⟩))) st hb1 kr ?_)
  refine WO_seg 2 [(122, .int .i64 (List.length p1 : Int)), (123, .int .i64 0)] kr kr ?_
  refine WO_et rfl (W_block ?_)
  replace ⟨out4, hr, hrKu5⟩ := bindS hr
  refine W_cut (.exit 7) (fun L' w' => ∃ (o5 : Unit) (m31 : Mem), (.inl o5) = out4 ∧ L' = [(0, .pointer (some ⟨bp0, 0, none⟩)), (3, .pointer (some ⟨b1, 0, none⟩)), (4, .pointer (some ⟨b2, 0, none⟩)), (5, .string y2.2)] ∧ m.le m31 ∧ St m31 (.blk bp0 (.cells #[.slice a5 (List.length y3.1.1) c5, .int .i64 y3.1.2] 28 (0, 0)) :: .blk b2 (.cells #[.slice none (List.length ([] : List (ByteArray × ByteArray))) 0] 25 (0, 0)) :: own) w' ∧ MRow m31 b1 0 [.slice a2 (List.length p1) c2] ∧ RepS (cPair cStr cStr) m31 a2 c2 p1 ∧ RepS (cInt .i64) m31 a5 c5 y3.1.1) ?_ ?_
  ·clear hr st
   rintro _ w49 ⟨o5, m31, rfl, rfl, hm, st, hb1, r2, r5⟩
   have hr := hrKu5
   clear hrKu5
   dsimp only at hr
   refine X_block_eq ?_
   refine X_then ?_
   refine W_seq ?_
   refine W_draw [(10, fun w' => Inv m31 w' ∧ True)] kr st ?_
   clear st
   intro w57 _ st
   have hmS7 := m31.le_refl
   refine ⟨⟨.inr ⟨Inv.anti st.inv hmS7, trivial⟩, trivial⟩, ?_⟩
   refine WA_load_row (t := 25) (x := (.tmp 3)) 0 141 (.agg #[.slice a2 (List.length p1) c2]) kr rfl kr (.head _) (QP_then QP_body) (fun _ h => h.1) (ev (.pointer (some ⟨b1, 0, none⟩))) hb1 kr ?_
   refine WA_pure 1 142 (.string y2.2) kr rfl kr (.head _) (QP_then QP_body) ?_
   refine WA_pure 2 143 (.pointer (some ⟨bp0, 0, none⟩)) kr rfl kr (.head _) (QP_then QP_body) ?_
   refine WA_pure 3 144 (.pointer (some ⟨bp0, 0, none⟩)) kr rfl kr (.head _) (QP_then QP_body) ?_
   replace ⟨y23, hx34, hr⟩ := bindS hr
   refine WA_one 4 kr  (One_fn 145 59 #[] kr rfl ?_)
   refine (testgatemake_Packages_ok st hx34).mono ?_
   clear st
   rintro _ w58 ⟨a23, c23, m35, rfl, hle26, st, r25⟩
   refine ⟨_, rfl, ?_⟩
   have hm := Mem.le_trans hm hle26
   have hb1 := hb1.mono hle26
   have r2 := r2.mono hle26
   have r5 := r5.mono hle26
   have hmS7 := Mem.le_trans hmS7 hle26
   refine ⟨⟨.inr ⟨Inv.anti st.inv hmS7, trivial⟩, trivial⟩, ?_⟩
   have st := st.front1
   replace ⟨y24, hx35, hr⟩ := bindS hr
   refine WA_one 5 kr  (One_fn 146 13 #[.pointer (some ⟨bp0, 0, none⟩), .slice a23 (List.length y23) c23] kr rfl ?_)
   refine (testgatemake_Tape_One_ok st r5 r25 hx35).mono ?_
   clear st
   rintro _ w59 ⟨a24, c24, m36, rfl, hle27, st, r26⟩
   refine ⟨_, rfl, ?_⟩
   have hm := Mem.le_trans hm hle27
   have hb1 := hb1.mono hle27
   have r2 := r2.mono hle27
   have r25 := r25.mono hle27
   have r5 := r5.mono hle27
   have hmS7 := Mem.le_trans hmS7 hle27
   refine ⟨⟨.inr ⟨Inv.anti st.inv hmS7, trivial⟩, trivial⟩, ?_⟩
   replace ⟨y25, hx36, hr⟩ := bindS hr
   refine WA_one 6 kr  (One_fn 147 58 #[.pointer (some ⟨bp0, 0, none⟩), .string y24.2] kr rfl ?_)
   refine (testgatemake_Source_ok st r26 hx36).mono ?_
   clear st
   rintro _ w60 ⟨a25, c25, m37, rfl, hle28, st, r27⟩
   refine ⟨_, rfl, ?_⟩
   have hm := Mem.le_trans hm hle28
   have hb1 := hb1.mono hle28
   have r2 := r2.mono hle28
   have r25 := r25.mono hle28
   have r26 := r26.mono hle28
   have hmS7 := Mem.le_trans hmS7 hle28
   refine ⟨⟨.inr ⟨Inv.anti st.inv hmS7, trivial⟩, trivial⟩, ?_⟩
   refine WA_pure 7 148 (.agg #[.string y2.2, .string y25.2]) kr rfl kr (.head _) (QP_then QP_body) ?_
   replace ⟨y26, hx37, hr⟩ := bindS hr
   refine WA_one 8 kr  (One_fn 149 55 #[.agg #[.slice a2 (List.length p1) c2], .agg #[.string y2.2, .string y25.2]] kr rfl ?_)
   refine (testgatemake_insert_ok st r2 hx37).mono ?_
   clear st
   rintro _ w61 ⟨a26, c26, m38, rfl, hle29, st, r28⟩
   refine ⟨_, rfl, ?_⟩
   have hm := Mem.le_trans hm hle29
   have hb1 := hb1.mono hle29
   have r2 := r2.mono hle29
   have r25 := r25.mono hle29
   have r27 := r27.mono hle29
   have hmS7 := Mem.le_trans hmS7 hle29
   refine ⟨⟨.inr ⟨Inv.anti st.inv hmS7, trivial⟩, trivial⟩, ?_⟩
   have st := st.front3
   refine WA_one 9 kr  (One_store (t := 25) (x := (.tmp 4)) (y := (.tmp 149)) (v := .agg #[.slice a26 (List.length y26) c26]) (c' := #[.slice a26 (List.length y26) c26]) kr (ev (.pointer (some ⟨b2, 0, none⟩))) (ev (.agg #[.slice a26 (List.length y26) c26])) st kr kr ?_)
   clear st
   intro w62 st
   refine ⟨⟨.inr ⟨Inv.anti st.inv hmS7, trivial⟩, trivial⟩, ?_⟩
   refine WA_done kr ?_
   have st := st.front3
   have st := st.tail
   refine X_then ?_
   refine W_ret ?_
   obtain rfl := Option.some.inj hr
   refine X_ret [.cell 4 25] [.agg #[.slice a26 (List.length y26) c26]] rfl (ResAll.cons (ResAt.blk (v := .agg #[.slice a26 (List.length y26) c26]) (o := 0) kr st.head kr) ResAll.nil) ?_
   have st := st.tail
   have st := st.front1.front1
   exact ⟨a25, c25, a26, c26, m38, rfl, hm, st, r27, r28⟩
  intro K7_u5
  have st := st.front1.front1
  refine W_env _ kr (W_loop (fun k4 L' w' => ∃ (s10 : Int) (m32 : Mem), loopM (testgatemake_Edit_L4 N p1 y2 y3) k4 s10 = some out4 ∧ L' = [(0, .pointer (some ⟨bp0, 0, none⟩)), (3, .pointer (some ⟨b1, 0, none⟩)), (4, .pointer (some ⟨b2, 0, none⟩)), (5, .string y2.2), (121, .slice a2 (List.length p1) c2), (122, .int .i64 (List.length p1 : Int)), (123, .int .i64 s10)] ∧ m.le m32 ∧ St m32 (.blk bp0 (.cells #[.slice a5 (List.length y3.1.1) c5, .int .i64 y3.1.2] 28 (0, 0)) :: .blk b2 (.cells #[.slice none (List.length ([] : List (ByteArray × ByteArray))) 0] 25 (0, 0)) :: own) w' ∧ MRow m32 b1 0 [.slice a2 (List.length p1) c2] ∧ RepS (cPair cStr cStr) m32 a2 c2 p1 ∧ RepS (cInt .i64) m32 a5 c5 y3.1.1) N ⟨0, m5, hr, rfl, hm, st, hb1, r2, r5⟩ ?_)
  clear st hr
  rintro k4 _ w50 ⟨s10, m32, hL, rfl, hm, st, hb1, r2, r5⟩
  rcases k4 with _ | k4
  ·exact loopM_zero hL
  ·obtain ⟨qu5, hr, hSu5, hBu5⟩ := loopM_succ hL
   clear hL
   unfold testgatemake_Edit_L4 at hr
   refine W_sr (WO_seg 1 [(124, .bool (decide (s10 < (List.length p1 : Int))))] kr kr ?_)
   refine WO_et rfl (W_seq ?_)
   refine W_cond (decide (s10 < (List.length p1 : Int))) kr ?_ ?_
   ·intro hc
    rw [if_pos hc] at hr
    refine W_skip ?_
    refine X_then ?_
    refine W_seq ?_
    refine W_block ?_
    refine W_sr ?_
    replace ⟨x4, hx30, hr⟩ := bindS hr
    refine WO_one rfl (One_index (d := 125) (t := 23) (e := 74) (x := (.tmp 121)) (y := (.tmp 123)) (cPair cStr cStr) kr rfl (ev (.slice a2 (List.length p1) c2)) (ev (.int .i64 s10)) kr r2 hx30 ?_)
    rintro b11 f4 cs4 ⟨_, _, rfl, rfl, rfl⟩ hq4
    refine WO_one rfl (One_load_row (d := 126) (t := 74) (x := (.tmp 125)) (.agg #[.string x4.1, .string x4.2]) kr rfl (ev (.pointer (some ⟨b11, f4, none⟩))) st hq4 kr ?_)
    refine WO_one rfl (One_alloc (d := 13) (e := 74) (.agg #[.string (⟨#[]⟩ : ByteArray), .string (⟨#[]⟩ : ByteArray)]) kr rfl kr st ?_)
    clear st
    intro b12 w51 st
    refine WO_one rfl (One_store (t := 74) (x := (.tmp 13)) (y := (.tmp 126)) (v := .agg #[.string x4.1, .string x4.2]) (c' := #[.string x4.1, .string x4.2]) kr (ev (.pointer (some ⟨b12, 0, none⟩))) (ev (.agg #[.string x4.1, .string x4.2])) st kr kr ?_)
    clear st
    intro w52 st
    refine WO_et rfl (W_sr ?_)
    refine WO_seg 1 [(127, .pointer (some ⟨b12, 0, none⟩))] kr kr ?_
    refine WO_one rfl (One_load_own (d := 128) (t := 9) (x := (.tmp 127)) (.string x4.1) kr rfl (ev (.pointer (some ⟨b12, 0, none⟩))) st.head kr ?_)
    refine WO_seg 2 [(130, .bool (x4.1.toList == y2.2.toList))] kr kr ?_
    refine WO_et rfl (W_cond (x4.1.toList == y2.2.toList) kr ?_ ?_)
    ·intro hc
     rw [if_pos hc] at hr
     refine W_seq ?_
     refine W_draw [(10, fun w' => Inv m32 w' ∧ Piece.holds m32 w' (.blk b12 (.cells #[.string x4.1, .string x4.2] 74 (0, 0))) ∧ True)] kr st ?_
     clear st
     intro w53 _ st
     have hmS6 := m32.le_refl
     refine ⟨⟨.inr ⟨Inv.anti st.inv hmS6, Piece.holds_anti st.head hmS6, trivial⟩, trivial⟩, ?_⟩
     refine WA_load_row (t := 25) (x := (.tmp 3)) 0 131 (.agg #[.slice a2 (List.length p1) c2]) kr rfl kr (.head _) (QP_then (QP_block (QP_then (QP_then (QP_block (QP_then QP_body)))))) (fun _ h => h.1) (ev (.pointer (some ⟨b1, 0, none⟩))) hb1 kr ?_
     refine WA_pure 1 132 (.string y2.2) kr rfl kr (.head _) (QP_then (QP_block (QP_then (QP_then (QP_block (QP_then QP_body)))))) ?_
     refine WA_pure 2 133 (.pointer (some ⟨b12, 1, none⟩)) kr rfl kr (.head _) (QP_then (QP_block (QP_then (QP_then (QP_block (QP_then QP_body)))))) ?_
     refine WA_load_own (t := 9) (x := (.tmp 133)) 3 134 (.string x4.2) kr rfl kr (.head _) (QP_then (QP_block (QP_then (QP_then (QP_block (QP_then QP_body)))))) (fun _ h => h.2.1) (ev (.pointer (some ⟨b12, 1, none⟩))) kr ?_
     refine WA_pure 4 135 (.pointer (some ⟨bp0, 0, none⟩)) kr rfl kr (.head _) (QP_then (QP_block (QP_then (QP_then (QP_block (QP_then QP_body)))))) ?_
     have st := st.front1
     replace ⟨y21, hx31, hr⟩ := bindS hr
     refine WA_one 5 kr  (One_fn 136 61 #[.pointer (some ⟨bp0, 0, none⟩)] kr rfl ?_)
     refine (testgatemake_Decl_ok st r5 hx31).mono ?_
     clear st
     rintro _ w54 ⟨a21, c21, m33, rfl, hle24, st, r23⟩
     refine ⟨_, rfl, ?_⟩
     have hm := Mem.le_trans hm hle24
     have hb1 := hb1.mono hle24
     have r2 := r2.mono hle24
     have r5 := r5.mono hle24
     have hmS6 := Mem.le_trans hmS6 hle24
     refine ⟨⟨.inr ⟨Inv.anti st.inv hmS6, Piece.holds_anti st.tail.head hmS6, trivial⟩, trivial⟩, ?_⟩
     replace ⟨s11, hx32, hr⟩ := bindS hr
     refine WA_cat (t := 9) (t2 := 9) (x := (.tmp 134)) (y := (.tmp 136)) 6 137 kr rfl kr (.head _) (QP_then (QP_block (QP_then (QP_then (QP_block (QP_then QP_body)))))) (ev (.string x4.2)) (ev (.string y21.2)) hx32 ?_
     refine WA_pure 7 138 (.agg #[.string y2.2, .string s11]) kr rfl kr (.head _) (QP_then (QP_block (QP_then (QP_then (QP_block (QP_then QP_body)))))) ?_
     replace ⟨y22, hx33, hr⟩ := bindS hr
     refine WA_one 8 kr  (One_fn 139 55 #[.agg #[.slice a2 (List.length p1) c2], .agg #[.string y2.2, .string s11]] kr rfl ?_)
     refine (testgatemake_insert_ok st r2 hx33).mono ?_
     clear st
     rintro _ w55 ⟨a22, c22, m34, rfl, hle25, st, r24⟩
     refine ⟨_, rfl, ?_⟩
     have hm := Mem.le_trans hm hle25
     have hb1 := hb1.mono hle25
     have r2 := r2.mono hle25
     have r23 := r23.mono hle25
     have hmS6 := Mem.le_trans hmS6 hle25
     refine ⟨⟨.inr ⟨Inv.anti st.inv hmS6, Piece.holds_anti st.tail.tail.head hmS6, trivial⟩, trivial⟩, ?_⟩
     have st := st.front3
     refine WA_one 9 kr  (One_store (t := 25) (x := (.tmp 4)) (y := (.tmp 139)) (v := .agg #[.slice a22 (List.length y22) c22]) (c' := #[.slice a22 (List.length y22) c22]) kr (ev (.pointer (some ⟨b2, 0, none⟩))) (ev (.agg #[.slice a22 (List.length y22) c22])) st kr kr ?_)
     clear st
     intro w56 st
     refine ⟨⟨.inr ⟨Inv.anti st.inv hmS6, Piece.holds_anti st.tail.tail.tail.head hmS6, trivial⟩, trivial⟩, ?_⟩
     refine WA_done kr ?_
     refine X_then ?_
     refine W_ret ?_
     refine X_block_ret ?_
     refine X_then_ret ?_
     obtain rfl := Option.some.inj hr
     have ho := hBu5 _ rfl
     subst ho
     have hr := hrKu5
     dsimp only at hr
     refine X_then_ret ?_
     refine X_block_ret ?_
     refine X_then_ret ?_
     obtain rfl := Option.some.inj hr
     refine X_ret [.cell 4 25] [.agg #[.slice a22 (List.length y22) c22]] rfl (ResAll.cons (ResAt.blk (v := .agg #[.slice a22 (List.length y22) c22]) (o := 0) kr st.head kr) ResAll.nil) ?_
     have st := st.tail
     have st := st.front2
     have st := st.tail
     have st := st.front1.front1
     exact ⟨a21, c21, a22, c22, m34, rfl, hm, st, r23, r24⟩
    ·intro hc
     rw [if_neg (not_true hc)] at hr
     refine W_skip ?_
     refine X_block ?_
     refine X_then ?_
     refine W_region ?_
     refine WO_seg 2 [(123, .int .i64 (IntKind.wrap .i64 (s10 + 1)))] kr kr ?_
     refine WO_end rfl ?_
     obtain rfl := Option.some.inj hr
     have hL := hSu5 _ rfl
     have st := st.tail
     have st := st.front1.front1
     exact X_env _ kr (X_round k4 (Nat.lt_succ_self _) ⟨IntKind.wrap .i64 (s10 + 1), m32, hL, rfl, hm, st, hb1, r2, r5⟩)
   ·intro hc
    rw [if_neg (not_true hc)] at hr
    refine W_exit ?_
    refine X_then_exit ?_
    obtain rfl := Option.some.inj hr
    have ho := hBu5 _ rfl
    have st := st.front1.front1
    refine X_then_exit ?_
    exact X_env _ kr (K7_u5 _ _ ⟨(), m32, ho, rfl, hm, st, hb1, r2, r5⟩)
 ·intro Ku1
  refine W_block ?_
  refine W_sr (WO_seg 2 [(19, .bool (y3.2 == 0))] kr kr ?_)
  refine WO_et rfl (W_cond (y3.2 == 0) kr ?_ ?_)
  ·intro hc
   rw [if_pos hc] at hr
   refine W_seq ?_
   refine W_draw [(9, fun w' => Inv m4 w' ∧ True)] kr st ?_
   clear st
   intro w7 _ st
   have hmS1 := m4.le_refl
   refine ⟨⟨.inr ⟨Inv.anti st.inv hmS1, trivial⟩, trivial⟩, ?_⟩
   refine WA_load_row (t := 25) (x := (.tmp 3)) 0 21 (.agg #[.slice a2 (List.length p1) c2]) kr rfl kr (.head _) (QP_then (QP_block (QP_then QP_body))) (fun _ h => h.1) (ev (.pointer (some ⟨b1, 0, none⟩))) hb1 kr ?_
   refine WA_pure 1 22 (.pointer (some ⟨bp0, 0, none⟩)) kr rfl kr (.head _) (QP_then (QP_block (QP_then QP_body))) ?_
   refine WA_pure 4 25 (.pointer (some ⟨bp0, 0, none⟩)) kr rfl kr (.head _) (QP_then (QP_block (QP_then QP_body))) ?_
   refine WA_one 2 kr  (One_buildSlice (d := 23) (t := 33) (e := 9) (len := 3) (parts := #[(0, (.const (.string (⟨#[97, 46, 100, 97, 116]⟩ : ByteArray)))), (1, (.const (.string (⟨#[100, 47, 98, 46, 100, 97, 116]⟩ : ByteArray)))), (2, (.const (.string (⟨#[99]⟩ : ByteArray))))]) cStr (xs := [(⟨#[97, 46, 100, 97, 116]⟩ : ByteArray), (⟨#[100, 47, 98, 46, 100, 97, 116]⟩ : ByteArray), (⟨#[99]⟩ : ByteArray)]) [.string (⟨#[97, 46, 100, 97, 116]⟩ : ByteArray), .string (⟨#[100, 47, 98, 46, 100, 97, 116]⟩ : ByteArray), .string (⟨#[99]⟩ : ByteArray)] kr rfl (fun _ => buildCells_run kr _) rfl rfl st ⟨[.string (⟨#[97, 46, 100, 97, 116]⟩ : ByteArray)], _, rfl, rfl, ⟨[.string (⟨#[100, 47, 98, 46, 100, 97, 116]⟩ : ByteArray)], _, rfl, rfl, ⟨[.string (⟨#[99]⟩ : ByteArray)], _, rfl, rfl, rfl⟩⟩⟩ ?_)
   clear st
   intro b3 m6 w8 hle5 st r6
   have hm := Mem.le_trans hm hle5
   have hb1 := hb1.mono hle5
   have r2 := r2.mono hle5
   have r5 := r5.mono hle5
   have hmS1 := Mem.le_trans hmS1 hle5
   refine ⟨⟨.inr ⟨Inv.anti st.inv hmS1, trivial⟩, trivial⟩, ?_⟩
   have st := st.front1
   replace ⟨y4, hx4, hr⟩ := bindS hr
   refine WA_one 3 kr  (One_fn 24 13 #[.pointer (some ⟨bp0, 0, none⟩), .slice (some ⟨b3, 0, none⟩) (List.length ([(⟨#[97, 46, 100, 97, 116]⟩ : ByteArray), (⟨#[100, 47, 98, 46, 100, 97, 116]⟩ : ByteArray), (⟨#[99]⟩ : ByteArray)])) 3] kr rfl ?_)
   refine (testgatemake_Tape_One_ok st r5 r6 hx4).mono ?_
   clear st
   rintro _ w9 ⟨a6, c6, m7, rfl, hle6, st, r7⟩
   refine ⟨_, rfl, ?_⟩
   have hm := Mem.le_trans hm hle6
   have hb1 := hb1.mono hle6
   have r2 := r2.mono hle6
   have r6 := r6.mono hle6
   have r5 := r5.mono hle6
   have hmS1 := Mem.le_trans hmS1 hle6
   refine ⟨⟨.inr ⟨Inv.anti st.inv hmS1, trivial⟩, trivial⟩, ?_⟩
   replace ⟨y5, hx5, hr⟩ := bindS hr
   refine WA_one 5 kr  (One_fn 26 56 #[.pointer (some ⟨bp0, 0, none⟩)] kr rfl ?_)
   refine (testgatemake_data_ok st r7 hx5).mono ?_
   clear st
   rintro _ w10 ⟨a7, c7, m8, rfl, hle7, st, r8⟩
   refine ⟨_, rfl, ?_⟩
   have hm := Mem.le_trans hm hle7
   have hb1 := hb1.mono hle7
   have r2 := r2.mono hle7
   have r6 := r6.mono hle7
   have r7 := r7.mono hle7
   have hmS1 := Mem.le_trans hmS1 hle7
   refine ⟨⟨.inr ⟨Inv.anti st.inv hmS1, trivial⟩, trivial⟩, ?_⟩
   refine WA_pure 6 27 (.agg #[.string y4.2, .string y5.2]) kr rfl kr (.head _) (QP_then (QP_block (QP_then QP_body))) ?_
   replace ⟨y6, hx6, hr⟩ := bindS hr
   refine WA_one 7 kr  (One_fn 28 55 #[.agg #[.slice a2 (List.length p1) c2], .agg #[.string y4.2, .string y5.2]] kr rfl ?_)
   refine (testgatemake_insert_ok st r2 hx6).mono ?_
   clear st
   rintro _ w11 ⟨a8, c8, m9, rfl, hle8, st, r9⟩
   refine ⟨_, rfl, ?_⟩
   have hm := Mem.le_trans hm hle8
   have hb1 := hb1.mono hle8
   have r2 := r2.mono hle8
   have r6 := r6.mono hle8
   have r8 := r8.mono hle8
   have hmS1 := Mem.le_trans hmS1 hle8
   refine ⟨⟨.inr ⟨Inv.anti st.inv hmS1, trivial⟩, trivial⟩, ?_⟩
   have st := st.front3
   refine WA_one 8 kr  (One_store (t := 25) (x := (.tmp 4)) (y := (.tmp 28)) (v := .agg #[.slice a8 (List.length y6) c8]) (c' := #[.slice a8 (List.length y6) c8]) kr (ev (.pointer (some ⟨b2, 0, none⟩))) (ev (.agg #[.slice a8 (List.length y6) c8])) st kr kr ?_)
   clear st
   intro w12 st
   refine ⟨⟨.inr ⟨Inv.anti st.inv hmS1, trivial⟩, trivial⟩, ?_⟩
   refine WA_done kr ?_
   have st := st.front3
   have st := st.tail
   refine X_then ?_
   refine W_ret ?_
   refine X_block_ret ?_
   obtain rfl := Option.some.inj hr
   have hr := hrKu1
   try dsimp only at hr
   refine X_then_ret ?_
   obtain rfl := Option.some.inj hr
   refine X_ret [.cell 4 25] [.agg #[.slice a8 (List.length y6) c8]] rfl (ResAll.cons (ResAt.blk (v := .agg #[.slice a8 (List.length y6) c8]) (o := 0) kr st.head kr) ResAll.nil) ?_
   have st := st.tail
   have st := st.front1.front1
   exact ⟨a7, c7, a8, c8, m9, rfl, hm, st, r8, r9⟩
  ·intro hc
   rw [if_neg (not_true hc)] at hr
   refine W_sr (WO_seg 2 [(29, .bool (y3.2 == 1))] kr kr ?_)
   refine WO_et rfl (W_cond (y3.2 == 1) kr ?_ ?_)
   ·intro hc
    rw [if_pos hc] at hr
    refine W_seq ?_
    refine W_draw [(6, fun w' => Inv m4 w' ∧ True)] kr st ?_
    clear st
    intro w13 _ st
    have hmS2 := m4.le_refl
    refine ⟨⟨.inr ⟨Inv.anti st.inv hmS2, trivial⟩, trivial⟩, ?_⟩
    refine WA_load_row (t := 25) (x := (.tmp 3)) 0 31 (.agg #[.slice a2 (List.length p1) c2]) kr rfl kr (.head _) (QP_then (QP_block (QP_then QP_body))) (fun _ h => h.1) (ev (.pointer (some ⟨b1, 0, none⟩))) hb1 kr ?_
    refine WA_pure 1 32 (.pointer (some ⟨bp0, 0, none⟩)) kr rfl kr (.head _) (QP_then (QP_block (QP_then QP_body))) ?_
    refine WA_one 2 kr  (One_buildSlice (d := 33) (t := 33) (e := 9) (len := 5) (parts := #[(0, (.const (.string (⟨#[97, 46, 100, 97, 116]⟩ : ByteArray)))), (1, (.const (.string (⟨#[100, 47, 98, 46, 100, 97, 116]⟩ : ByteArray)))), (2, (.const (.string (⟨#[99]⟩ : ByteArray)))), (3, (.const (.string (⟨#[97, 46, 115, 114, 99]⟩ : ByteArray)))), (4, (.const (.string (⟨#[98, 46, 115, 114, 99]⟩ : ByteArray))))]) cStr (xs := [(⟨#[97, 46, 100, 97, 116]⟩ : ByteArray), (⟨#[100, 47, 98, 46, 100, 97, 116]⟩ : ByteArray), (⟨#[99]⟩ : ByteArray), (⟨#[97, 46, 115, 114, 99]⟩ : ByteArray), (⟨#[98, 46, 115, 114, 99]⟩ : ByteArray)]) [.string (⟨#[97, 46, 100, 97, 116]⟩ : ByteArray), .string (⟨#[100, 47, 98, 46, 100, 97, 116]⟩ : ByteArray), .string (⟨#[99]⟩ : ByteArray), .string (⟨#[97, 46, 115, 114, 99]⟩ : ByteArray), .string (⟨#[98, 46, 115, 114, 99]⟩ : ByteArray)] kr rfl (fun _ => buildCells_run kr _) rfl rfl st ⟨[.string (⟨#[97, 46, 100, 97, 116]⟩ : ByteArray)], _, rfl, rfl, ⟨[.string (⟨#[100, 47, 98, 46, 100, 97, 116]⟩ : ByteArray)], _, rfl, rfl, ⟨[.string (⟨#[99]⟩ : ByteArray)], _, rfl, rfl, ⟨[.string (⟨#[97, 46, 115, 114, 99]⟩ : ByteArray)], _, rfl, rfl, ⟨[.string (⟨#[98, 46, 115, 114, 99]⟩ : ByteArray)], _, rfl, rfl, rfl⟩⟩⟩⟩⟩ ?_)
    clear st
    intro b4 m10 w14 hle9 st r10
    have hm := Mem.le_trans hm hle9
    have hb1 := hb1.mono hle9
    have r2 := r2.mono hle9
    have r5 := r5.mono hle9
    have hmS2 := Mem.le_trans hmS2 hle9
    refine ⟨⟨.inr ⟨Inv.anti st.inv hmS2, trivial⟩, trivial⟩, ?_⟩
    have st := st.front1
    replace ⟨y7, hx7, hr⟩ := bindS hr
    refine WA_one 3 kr  (One_fn 34 13 #[.pointer (some ⟨bp0, 0, none⟩), .slice (some ⟨b4, 0, none⟩) (List.length ([(⟨#[97, 46, 100, 97, 116]⟩ : ByteArray), (⟨#[100, 47, 98, 46, 100, 97, 116]⟩ : ByteArray), (⟨#[99]⟩ : ByteArray), (⟨#[97, 46, 115, 114, 99]⟩ : ByteArray), (⟨#[98, 46, 115, 114, 99]⟩ : ByteArray)])) 5] kr rfl ?_)
    refine (testgatemake_Tape_One_ok st r5 r10 hx7).mono ?_
    clear st
    rintro _ w15 ⟨a9, c9, m11, rfl, hle10, st, r11⟩
    refine ⟨_, rfl, ?_⟩
    have hm := Mem.le_trans hm hle10
    have hb1 := hb1.mono hle10
    have r2 := r2.mono hle10
    have r10 := r10.mono hle10
    have r5 := r5.mono hle10
    have hmS2 := Mem.le_trans hmS2 hle10
    refine ⟨⟨.inr ⟨Inv.anti st.inv hmS2, trivial⟩, trivial⟩, ?_⟩
    replace ⟨y8, hx8, hr⟩ := bindS hr
    refine WA_one 4 kr  (One_fn 35 57 #[.agg #[.slice a2 (List.length p1) c2], .string y7.2] kr rfl ?_)
    refine (testgatemake_remove_ok st r2 hx8).mono ?_
    clear st
    rintro _ w16 ⟨a10, c10, m12, rfl, hle11, st, r12⟩
    refine ⟨_, rfl, ?_⟩
    have hm := Mem.le_trans hm hle11
    have hb1 := hb1.mono hle11
    have r2 := r2.mono hle11
    have r10 := r10.mono hle11
    have r11 := r11.mono hle11
    have hmS2 := Mem.le_trans hmS2 hle11
    refine ⟨⟨.inr ⟨Inv.anti st.inv hmS2, trivial⟩, trivial⟩, ?_⟩
    have st := st.front3
    refine WA_one 5 kr  (One_store (t := 25) (x := (.tmp 4)) (y := (.tmp 35)) (v := .agg #[.slice a10 (List.length y8) c10]) (c' := #[.slice a10 (List.length y8) c10]) kr (ev (.pointer (some ⟨b2, 0, none⟩))) (ev (.agg #[.slice a10 (List.length y8) c10])) st kr kr ?_)
    clear st
    intro w17 st
    refine ⟨⟨.inr ⟨Inv.anti st.inv hmS2, trivial⟩, trivial⟩, ?_⟩
    refine WA_done kr ?_
    have st := st.front3
    have st := st.tail
    refine X_then ?_
    refine W_ret ?_
    refine X_block_ret ?_
    obtain rfl := Option.some.inj hr
    have hr := hrKu1
    try dsimp only at hr
    refine X_then_ret ?_
    obtain rfl := Option.some.inj hr
    refine X_ret [.cell 4 25] [.agg #[.slice a10 (List.length y8) c10]] rfl (ResAll.cons (ResAt.blk (v := .agg #[.slice a10 (List.length y8) c10]) (o := 0) kr st.head kr) ResAll.nil) ?_
    have st := st.tail
    have st := st.front1.front1
    exact ⟨a9, c9, a10, c10, m12, rfl, hm, st, r11, r12⟩
   ·intro hc
    rw [if_neg (not_true hc)] at hr
    refine W_sr (WO_seg 2 [(36, .bool (y3.2 == 2))] kr kr ?_)
    refine WO_et rfl (W_cond (y3.2 == 2) kr ?_ ?_)
    ·intro hc
     rw [if_pos hc] at hr
     refine W_seq ?_
     refine W_draw [(10, fun w' => Inv m4 w' ∧ True)] kr st ?_
     clear st
     intro w18 _ st
     have hmS3 := m4.le_refl
     refine ⟨⟨.inr ⟨Inv.anti st.inv hmS3, trivial⟩, trivial⟩, ?_⟩
     refine WA_load_row (t := 25) (x := (.tmp 3)) 0 38 (.agg #[.slice a2 (List.length p1) c2]) kr rfl kr (.head _) (QP_then (QP_block (QP_then QP_body))) (fun _ h => h.1) (ev (.pointer (some ⟨b1, 0, none⟩))) hb1 kr ?_
     refine WA_pure 1 39 (.string y2.2) kr rfl kr (.head _) (QP_then (QP_block (QP_then QP_body))) ?_
     refine WA_pure 2 40 (.pointer (some ⟨bp0, 0, none⟩)) kr rfl kr (.head _) (QP_then (QP_block (QP_then QP_body))) ?_
     refine WA_pure 3 41 (.pointer (some ⟨bp0, 0, none⟩)) kr rfl kr (.head _) (QP_then (QP_block (QP_then QP_body))) ?_
     replace ⟨y9, hx9, hr⟩ := bindS hr
     refine WA_one 4 kr  (One_fn 42 59 #[] kr rfl ?_)
     refine (testgatemake_Packages_ok st hx9).mono ?_
     clear st
     rintro _ w19 ⟨a11, c11, m13, rfl, hle12, st, r13⟩
     refine ⟨_, rfl, ?_⟩
     have hm := Mem.le_trans hm hle12
     have hb1 := hb1.mono hle12
     have r2 := r2.mono hle12
     have r5 := r5.mono hle12
     have hmS3 := Mem.le_trans hmS3 hle12
     refine ⟨⟨.inr ⟨Inv.anti st.inv hmS3, trivial⟩, trivial⟩, ?_⟩
     have st := st.front1
     replace ⟨y10, hx10, hr⟩ := bindS hr
     refine WA_one 5 kr  (One_fn 43 13 #[.pointer (some ⟨bp0, 0, none⟩), .slice a11 (List.length y9) c11] kr rfl ?_)
     refine (testgatemake_Tape_One_ok st r5 r13 hx10).mono ?_
     clear st
     rintro _ w20 ⟨a12, c12, m14, rfl, hle13, st, r14⟩
     refine ⟨_, rfl, ?_⟩
     have hm := Mem.le_trans hm hle13
     have hb1 := hb1.mono hle13
     have r2 := r2.mono hle13
     have r13 := r13.mono hle13
     have r5 := r5.mono hle13
     have hmS3 := Mem.le_trans hmS3 hle13
     refine ⟨⟨.inr ⟨Inv.anti st.inv hmS3, trivial⟩, trivial⟩, ?_⟩
     replace ⟨y11, hx11, hr⟩ := bindS hr
     refine WA_one 6 kr  (One_fn 44 58 #[.pointer (some ⟨bp0, 0, none⟩), .string y10.2] kr rfl ?_)
     refine (testgatemake_Source_ok st r14 hx11).mono ?_
     clear st
     rintro _ w21 ⟨a13, c13, m15, rfl, hle14, st, r15⟩
     refine ⟨_, rfl, ?_⟩
     have hm := Mem.le_trans hm hle14
     have hb1 := hb1.mono hle14
     have r2 := r2.mono hle14
     have r13 := r13.mono hle14
     have r14 := r14.mono hle14
     have hmS3 := Mem.le_trans hmS3 hle14
     refine ⟨⟨.inr ⟨Inv.anti st.inv hmS3, trivial⟩, trivial⟩, ?_⟩
     refine WA_pure 7 45 (.agg #[.string y2.2, .string y11.2]) kr rfl kr (.head _) (QP_then (QP_block (QP_then QP_body))) ?_
     replace ⟨y12, hx12, hr⟩ := bindS hr
     refine WA_one 8 kr  (One_fn 46 55 #[.agg #[.slice a2 (List.length p1) c2], .agg #[.string y2.2, .string y11.2]] kr rfl ?_)
     refine (testgatemake_insert_ok st r2 hx12).mono ?_
     clear st
     rintro _ w22 ⟨a14, c14, m16, rfl, hle15, st, r16⟩
     refine ⟨_, rfl, ?_⟩
     have hm := Mem.le_trans hm hle15
     have hb1 := hb1.mono hle15
     have r2 := r2.mono hle15
     have r13 := r13.mono hle15
     have r15 := r15.mono hle15
     have hmS3 := Mem.le_trans hmS3 hle15
     refine ⟨⟨.inr ⟨Inv.anti st.inv hmS3, trivial⟩, trivial⟩, ?_⟩
     have st := st.front3
     refine WA_one 9 kr  (One_store (t := 25) (x := (.tmp 4)) (y := (.tmp 46)) (v := .agg #[.slice a14 (List.length y12) c14]) (c' := #[.slice a14 (List.length y12) c14]) kr (ev (.pointer (some ⟨b2, 0, none⟩))) (ev (.agg #[.slice a14 (List.length y12) c14])) st kr kr ?_)
     clear st
     intro w23 st
     refine ⟨⟨.inr ⟨Inv.anti st.inv hmS3, trivial⟩, trivial⟩, ?_⟩
     refine WA_done kr ?_
     have st := st.front3
     have st := st.tail
     refine X_then ?_
     refine W_ret ?_
     refine X_block_ret ?_
     obtain rfl := Option.some.inj hr
     have hr := hrKu1
     try dsimp only at hr
     refine X_then_ret ?_
     obtain rfl := Option.some.inj hr
     refine X_ret [.cell 4 25] [.agg #[.slice a14 (List.length y12) c14]] rfl (ResAll.cons (ResAt.blk (v := .agg #[.slice a14 (List.length y12) c14]) (o := 0) kr st.head kr) ResAll.nil) ?_
     have st := st.tail
     have st := st.front1.front1
     exact ⟨a13, c13, a14, c14, m16, rfl, hm, st, r15, r16⟩
    ·intro hc
     rw [if_neg (not_true hc)] at hr
     refine W_sr (WO_seg 2 [(47, .bool (y3.2 == 3))] kr kr ?_)
     refine WO_et rfl (W_cond (y3.2 == 3) kr ?_ ?_)
     ·intro hc
      rw [if_pos hc] at hr
      refine W_sr (WO_seg 1 [(49, .pointer (some ⟨b1, 0, none⟩))] kr kr ?_)
      refine WO_one rfl (One_load_row (d := 50) (t := 23) (x := (.tmp 49)) (.slice a2 (List.length p1) c2) kr rfl (ev (.pointer (some ⟨b1, 0, none⟩))) st hb1 kr ?_)
      refine WO_seg 2 [(51, .int .i64 (List.length p1 : Int)), (52, .int .i64 0)] kr kr ?_
      refine WO_et rfl (W_block ?_)
      replace ⟨out1, hr, hrKu2⟩ := bindS hr
      refine W_cut (.exit 1) (fun L' w' => ∃ (o2 : Unit) (m17 : Mem), (.inl o2) = out1 ∧ L' = [(0, .pointer (some ⟨bp0, 0, none⟩)), (3, .pointer (some ⟨b1, 0, none⟩)), (4, .pointer (some ⟨b2, 0, none⟩)), (5, .string y2.2)] ∧ m.le m17 ∧ St m17 (.blk bp0 (.cells #[.slice a5 (List.length y3.1.1) c5, .int .i64 y3.1.2] 28 (0, 0)) :: .blk b2 (.cells #[.slice none (List.length ([] : List (ByteArray × ByteArray))) 0] 25 (0, 0)) :: own) w' ∧ MRow m17 b1 0 [.slice a2 (List.length p1) c2] ∧ RepS (cPair cStr cStr) m17 a2 c2 p1 ∧ RepS (cInt .i64) m17 a5 c5 y3.1.1) ?_ ?_
      ·clear hr st
       rintro _ w24 ⟨o2, m17, rfl, rfl, hm, st, hb1, r2, r5⟩
       have hr := hrKu2
       clear hrKu2
       dsimp only at hr
       refine X_block_eq ?_
       refine X_block ?_
       have hqu1 := Option.some.inj hr
       have st := st.front1.front1
       exact X_env _ kr (Ku1 _ _ ⟨(), m17, hqu1, rfl, hm, st, hb1, r2, r5⟩)
      intro K1_u2
      have st := st.front1.front1
      refine W_env _ kr (W_loop (fun k1 L' w' => ∃ (s1 : Int) (m18 : Mem), loopM (testgatemake_Edit_L1 N p1 y2 y3) k1 s1 = some out1 ∧ L' = [(0, .pointer (some ⟨bp0, 0, none⟩)), (3, .pointer (some ⟨b1, 0, none⟩)), (4, .pointer (some ⟨b2, 0, none⟩)), (5, .string y2.2), (50, .slice a2 (List.length p1) c2), (51, .int .i64 (List.length p1 : Int)), (52, .int .i64 s1)] ∧ m.le m18 ∧ St m18 (.blk bp0 (.cells #[.slice a5 (List.length y3.1.1) c5, .int .i64 y3.1.2] 28 (0, 0)) :: .blk b2 (.cells #[.slice none (List.length ([] : List (ByteArray × ByteArray))) 0] 25 (0, 0)) :: own) w' ∧ MRow m18 b1 0 [.slice a2 (List.length p1) c2] ∧ RepS (cPair cStr cStr) m18 a2 c2 p1 ∧ RepS (cInt .i64) m18 a5 c5 y3.1.1) N ⟨0, m4, hr, rfl, hm, st, hb1, r2, r5⟩ ?_)
      clear st hr
      rintro k1 _ w25 ⟨s1, m18, hL, rfl, hm, st, hb1, r2, r5⟩
      rcases k1 with _ | k1
      ·exact loopM_zero hL
      ·obtain ⟨qu2, hr, hSu2, hBu2⟩ := loopM_succ hL
       clear hL
       unfold testgatemake_Edit_L1 at hr
       refine W_sr (WO_seg 1 [(53, .bool (decide (s1 < (List.length p1 : Int))))] kr kr ?_)
       refine WO_et rfl (W_seq ?_)
       refine W_cond (decide (s1 < (List.length p1 : Int))) kr ?_ ?_
       ·intro hc
        rw [if_pos hc] at hr
        refine W_skip ?_
        refine X_then ?_
        refine W_seq ?_
        refine W_block ?_
        refine W_sr ?_
        replace ⟨x1, hx13, hr⟩ := bindS hr
        refine WO_one rfl (One_index (d := 54) (t := 23) (e := 74) (x := (.tmp 50)) (y := (.tmp 52)) (cPair cStr cStr) kr rfl (ev (.slice a2 (List.length p1) c2)) (ev (.int .i64 s1)) kr r2 hx13 ?_)
        rintro b5 f1 cs1 ⟨_, _, rfl, rfl, rfl⟩ hq1
        refine WO_one rfl (One_load_row (d := 55) (t := 74) (x := (.tmp 54)) (.agg #[.string x1.1, .string x1.2]) kr rfl (ev (.pointer (some ⟨b5, f1, none⟩))) st hq1 kr ?_)
        refine WO_one rfl (One_alloc (d := 7) (e := 74) (.agg #[.string (⟨#[]⟩ : ByteArray), .string (⟨#[]⟩ : ByteArray)]) kr rfl kr st ?_)
        clear st
        intro b6 w26 st
        refine WO_one rfl (One_store (t := 74) (x := (.tmp 7)) (y := (.tmp 55)) (v := .agg #[.string x1.1, .string x1.2]) (c' := #[.string x1.1, .string x1.2]) kr (ev (.pointer (some ⟨b6, 0, none⟩))) (ev (.agg #[.string x1.1, .string x1.2])) st kr kr ?_)
        clear st
        intro w27 st
        refine WO_et rfl (W_sr ?_)
        refine WO_seg 1 [(56, .pointer (some ⟨b6, 0, none⟩))] kr kr ?_
        refine WO_one rfl (One_load_own (d := 57) (t := 9) (x := (.tmp 56)) (.string x1.1) kr rfl (ev (.pointer (some ⟨b6, 0, none⟩))) st.head kr ?_)
        refine WO_seg 2 [(59, .bool (x1.1.toList == y2.2.toList))] kr kr ?_
        refine WO_et rfl (W_cond (x1.1.toList == y2.2.toList) kr ?_ ?_)
        ·intro hc
         rw [if_pos hc] at hr
         refine W_seq ?_
         refine W_draw [(13, fun w' => Inv m18 w' ∧ Piece.holds m18 w' (.blk b6 (.cells #[.string x1.1, .string x1.2] 74 (0, 0))) ∧ True)] kr st ?_
         clear st
         intro w28 _ st
         have hmS4 := m18.le_refl
         refine ⟨⟨.inr ⟨Inv.anti st.inv hmS4, Piece.holds_anti st.head hmS4, trivial⟩, trivial⟩, ?_⟩
         refine WA_load_row (t := 25) (x := (.tmp 3)) 0 60 (.agg #[.slice a2 (List.length p1) c2]) kr rfl kr (.head _) (QP_then (QP_block (QP_then (QP_then (QP_block (QP_block (QP_then QP_body))))))) (fun _ h => h.1) (ev (.pointer (some ⟨b1, 0, none⟩))) hb1 kr ?_
         refine WA_pure 1 61 (.string y2.2) kr rfl kr (.head _) (QP_then (QP_block (QP_then (QP_then (QP_block (QP_block (QP_then QP_body))))))) ?_
         refine WA_pure 3 63 (.pointer (some ⟨bp0, 0, none⟩)) kr rfl kr (.head _) (QP_then (QP_block (QP_then (QP_then (QP_block (QP_block (QP_then QP_body))))))) ?_
         refine WA_pure 8 68 (.pointer (some ⟨b6, 1, none⟩)) kr rfl kr (.head _) (QP_then (QP_block (QP_then (QP_then (QP_block (QP_block (QP_then QP_body))))))) ?_
         refine WA_load_own (t := 9) (x := (.tmp 68)) 9 69 (.string x1.2) kr rfl kr (.head _) (QP_then (QP_block (QP_then (QP_then (QP_block (QP_block (QP_then QP_body))))))) (fun _ h => h.2.1) (ev (.pointer (some ⟨b6, 1, none⟩))) kr ?_
         replace ⟨y13, hx14, hr⟩ := bindS hr
         refine WA_one 2 kr  (One_fn 62 57 #[.agg #[.slice a2 (List.length p1) c2], .string y2.2] kr rfl ?_)
         refine (testgatemake_remove_ok st r2 hx14).mono ?_
         clear st
         rintro _ w29 ⟨a15, c15, m19, rfl, hle16, st, r17⟩
         refine ⟨_, rfl, ?_⟩
         have hm := Mem.le_trans hm hle16
         have hb1 := hb1.mono hle16
         have r2 := r2.mono hle16
         have r5 := r5.mono hle16
         have hmS4 := Mem.le_trans hmS4 hle16
         refine ⟨⟨.inr ⟨Inv.anti st.inv hmS4, Piece.holds_anti st.tail.head hmS4, trivial⟩, trivial⟩, ?_⟩
         have st := st.front2
         replace ⟨y14, hx15, hr⟩ := bindS hr
         refine WA_one 4 kr  (One_fn 64 14 #[.pointer (some ⟨bp0, 0, none⟩), .int .i64 3] kr rfl ?_)
         refine (testgatemake_Tape_Next_ok st r5 hx15).mono ?_
         clear st
         rintro _ w30 ⟨a16, c16, m20, rfl, hle17, st, r18⟩
         refine ⟨_, rfl, ?_⟩
         have hm := Mem.le_trans hm hle17
         have hb1 := hb1.mono hle17
         have r2 := r2.mono hle17
         have r17 := r17.mono hle17
         have r5 := r5.mono hle17
         have hmS4 := Mem.le_trans hmS4 hle17
         refine ⟨⟨.inr ⟨Inv.anti st.inv hmS4, Piece.holds_anti st.tail.tail.head hmS4, trivial⟩, trivial⟩, ?_⟩
         replace ⟨y15, hx16, hr⟩ := bindS hr
         refine WA_one 5 kr  (One_fn 65 60 #[.int .i64 y14.2] kr rfl ?_)
         refine (testgatemake_Digits_ok st hx16).mono ?_
         clear st
         rintro _ w31 ⟨m21, rfl, hle18, st⟩
         refine ⟨_, rfl, ?_⟩
         have hm := Mem.le_trans hm hle18
         have hb1 := hb1.mono hle18
         have r2 := r2.mono hle18
         have r17 := r17.mono hle18
         have r18 := r18.mono hle18
         have hmS4 := Mem.le_trans hmS4 hle18
         refine ⟨⟨.inr ⟨Inv.anti st.inv hmS4, Piece.holds_anti st.tail.tail.head hmS4, trivial⟩, trivial⟩, ?_⟩
         replace ⟨s2, hx17, hr⟩ := bindS hr
         refine WA_cat (t := 9) (t2 := 9) (x := (.const (.string (⟨#[122]⟩ : ByteArray)))) (y := (.tmp 65)) 6 66 kr rfl kr (.head _) (QP_then (QP_block (QP_then (QP_then (QP_block (QP_block (QP_then QP_body))))))) (ev (.string (⟨#[122]⟩ : ByteArray))) (ev (.string y15)) hx17 ?_
         replace ⟨s3, hx18, hr⟩ := bindS hr
         refine WA_cat (t := 9) (t2 := 9) (x := (.tmp 66)) (y := (.const (.string (⟨#[46, 115, 114, 99]⟩ : ByteArray)))) 7 67 kr rfl kr (.head _) (QP_then (QP_block (QP_then (QP_then (QP_block (QP_block (QP_then QP_body))))))) (ev (.string s2)) (ev (.string (⟨#[46, 115, 114, 99]⟩ : ByteArray))) hx18 ?_
         refine WA_pure 10 70 (.agg #[.string s3, .string x1.2]) kr rfl kr (.head _) (QP_then (QP_block (QP_then (QP_then (QP_block (QP_block (QP_then QP_body))))))) ?_
         replace ⟨y16, hx19, hr⟩ := bindS hr
         refine WA_one 11 kr  (One_fn 71 55 #[.agg #[.slice a15 (List.length y13) c15], .agg #[.string s3, .string x1.2]] kr rfl ?_)
         refine (testgatemake_insert_ok st r17 hx19).mono ?_
         clear st
         rintro _ w32 ⟨a17, c17, m22, rfl, hle19, st, r19⟩
         refine ⟨_, rfl, ?_⟩
         have hm := Mem.le_trans hm hle19
         have hb1 := hb1.mono hle19
         have r2 := r2.mono hle19
         have r17 := r17.mono hle19
         have r18 := r18.mono hle19
         have hmS4 := Mem.le_trans hmS4 hle19
         refine ⟨⟨.inr ⟨Inv.anti st.inv hmS4, Piece.holds_anti st.tail.tail.tail.head hmS4, trivial⟩, trivial⟩, ?_⟩
         have st := st.front4
         refine WA_one 12 kr  (One_store (t := 25) (x := (.tmp 4)) (y := (.tmp 71)) (v := .agg #[.slice a17 (List.length y16) c17]) (c' := #[.slice a17 (List.length y16) c17]) kr (ev (.pointer (some ⟨b2, 0, none⟩))) (ev (.agg #[.slice a17 (List.length y16) c17])) st kr kr ?_)
         clear st
         intro w33 st
         refine ⟨⟨.inr ⟨Inv.anti st.inv hmS4, Piece.holds_anti st.tail.tail.tail.tail.head hmS4, trivial⟩, trivial⟩, ?_⟩
         refine WA_done kr ?_
         have st := st.front3
         have st := st.tail
         refine X_then ?_
         refine W_ret ?_
         refine X_block_ret ?_
         refine X_then_ret ?_
         obtain rfl := Option.some.inj hr
         have ho := hBu2 _ rfl
         subst ho
         have hr := hrKu2
         dsimp only at hr
         refine X_then_ret ?_
         refine X_block_ret ?_
         refine X_block_ret ?_
         obtain rfl := Option.some.inj hr
         have hr := hrKu1
         try dsimp only at hr
         refine X_then_ret ?_
         obtain rfl := Option.some.inj hr
         refine X_ret [.cell 4 25] [.agg #[.slice a17 (List.length y16) c17]] rfl (ResAll.cons (ResAt.blk (v := .agg #[.slice a17 (List.length y16) c17]) (o := 0) kr st.head kr) ResAll.nil) ?_
         have st := st.tail
         have st := st.front2
         have st := st.tail
         have st := st.front1.front1
         exact ⟨a16, c16, a17, c17, m22, rfl, hm, st, r18, r19⟩
        ·intro hc
         rw [if_neg (not_true hc)] at hr
         refine W_skip ?_
         refine X_block ?_
         refine X_then ?_
         refine W_region ?_
         refine WO_seg 2 [(52, .int .i64 (IntKind.wrap .i64 (s1 + 1)))] kr kr ?_
         refine WO_end rfl ?_
         obtain rfl := Option.some.inj hr
         have hL := hSu2 _ rfl
         have st := st.tail
         have st := st.front1.front1
         exact X_env _ kr (X_round k1 (Nat.lt_succ_self _) ⟨IntKind.wrap .i64 (s1 + 1), m18, hL, rfl, hm, st, hb1, r2, r5⟩)
       ·intro hc
        rw [if_neg (not_true hc)] at hr
        refine W_exit ?_
        refine X_then_exit ?_
        obtain rfl := Option.some.inj hr
        have ho := hBu2 _ rfl
        have st := st.front1.front1
        refine X_then_exit ?_
        exact X_env _ kr (K1_u2 _ _ ⟨(), m18, ho, rfl, hm, st, hb1, r2, r5⟩)
     ·intro hc
      rw [if_neg (not_true hc)] at hr
      refine W_sr (WO_seg 2 [(73, .bool (y3.2 == 4))] kr kr ?_)
      refine WO_et rfl (W_cond (y3.2 == 4) kr ?_ ?_)
      ·intro hc
       rw [if_pos hc] at hr
       refine W_sr (WO_seg 1 [(75, .pointer (some ⟨b1, 0, none⟩))] kr kr ?_)
       refine WO_one rfl (One_load_row (d := 76) (t := 23) (x := (.tmp 75)) (.slice a2 (List.length p1) c2) kr rfl (ev (.pointer (some ⟨b1, 0, none⟩))) st hb1 kr ?_)
       refine WO_seg 2 [(77, .int .i64 (List.length p1 : Int)), (78, .int .i64 0)] kr kr ?_
       refine WO_et rfl (W_block ?_)
       replace ⟨out2, hr, hrKu3⟩ := bindS hr
       refine W_cut (.exit 3) (fun L' w' => ∃ (o3 : Unit) (m23 : Mem), (.inl o3) = out2 ∧ L' = [(0, .pointer (some ⟨bp0, 0, none⟩)), (3, .pointer (some ⟨b1, 0, none⟩)), (4, .pointer (some ⟨b2, 0, none⟩)), (5, .string y2.2)] ∧ m.le m23 ∧ St m23 (.blk bp0 (.cells #[.slice a5 (List.length y3.1.1) c5, .int .i64 y3.1.2] 28 (0, 0)) :: .blk b2 (.cells #[.slice none (List.length ([] : List (ByteArray × ByteArray))) 0] 25 (0, 0)) :: own) w' ∧ MRow m23 b1 0 [.slice a2 (List.length p1) c2] ∧ RepS (cPair cStr cStr) m23 a2 c2 p1 ∧ RepS (cInt .i64) m23 a5 c5 y3.1.1) ?_ ?_
       ·clear hr st
        rintro _ w34 ⟨o3, m23, rfl, rfl, hm, st, hb1, r2, r5⟩
        have hr := hrKu3
        clear hrKu3
        dsimp only at hr
        refine X_block_eq ?_
        refine X_block ?_
        have hqu1 := Option.some.inj hr
        have st := st.front1.front1
        exact X_env _ kr (Ku1 _ _ ⟨(), m23, hqu1, rfl, hm, st, hb1, r2, r5⟩)
       intro K3_u3
       have st := st.front1.front1
       refine W_env _ kr (W_loop (fun k2 L' w' => ∃ (s4 : Int) (m24 : Mem), loopM (testgatemake_Edit_L2 N p1 y2 y3) k2 s4 = some out2 ∧ L' = [(0, .pointer (some ⟨bp0, 0, none⟩)), (3, .pointer (some ⟨b1, 0, none⟩)), (4, .pointer (some ⟨b2, 0, none⟩)), (5, .string y2.2), (76, .slice a2 (List.length p1) c2), (77, .int .i64 (List.length p1 : Int)), (78, .int .i64 s4)] ∧ m.le m24 ∧ St m24 (.blk bp0 (.cells #[.slice a5 (List.length y3.1.1) c5, .int .i64 y3.1.2] 28 (0, 0)) :: .blk b2 (.cells #[.slice none (List.length ([] : List (ByteArray × ByteArray))) 0] 25 (0, 0)) :: own) w' ∧ MRow m24 b1 0 [.slice a2 (List.length p1) c2] ∧ RepS (cPair cStr cStr) m24 a2 c2 p1 ∧ RepS (cInt .i64) m24 a5 c5 y3.1.1) N ⟨0, m4, hr, rfl, hm, st, hb1, r2, r5⟩ ?_)
       clear st hr
       rintro k2 _ w35 ⟨s4, m24, hL, rfl, hm, st, hb1, r2, r5⟩
       rcases k2 with _ | k2
       ·exact loopM_zero hL
       ·obtain ⟨qu3, hr, hSu3, hBu3⟩ := loopM_succ hL
        clear hL
        unfold testgatemake_Edit_L2 at hr
        refine W_sr (WO_seg 1 [(79, .bool (decide (s4 < (List.length p1 : Int))))] kr kr ?_)
        refine WO_et rfl (W_seq ?_)
        refine W_cond (decide (s4 < (List.length p1 : Int))) kr ?_ ?_
        ·intro hc
         rw [if_pos hc] at hr
         refine W_skip ?_
         refine X_then ?_
         refine W_seq ?_
         refine W_block ?_
         refine W_sr ?_
         replace ⟨x2, hx20, hr⟩ := bindS hr
         refine WO_one rfl (One_index (d := 80) (t := 23) (e := 74) (x := (.tmp 76)) (y := (.tmp 78)) (cPair cStr cStr) kr rfl (ev (.slice a2 (List.length p1) c2)) (ev (.int .i64 s4)) kr r2 hx20 ?_)
         rintro b7 f2 cs2 ⟨_, _, rfl, rfl, rfl⟩ hq2
         refine WO_one rfl (One_load_row (d := 81) (t := 74) (x := (.tmp 80)) (.agg #[.string x2.1, .string x2.2]) kr rfl (ev (.pointer (some ⟨b7, f2, none⟩))) st hq2 kr ?_)
         refine WO_one rfl (One_alloc (d := 9) (e := 74) (.agg #[.string (⟨#[]⟩ : ByteArray), .string (⟨#[]⟩ : ByteArray)]) kr rfl kr st ?_)
         clear st
         intro b8 w36 st
         refine WO_one rfl (One_store (t := 74) (x := (.tmp 9)) (y := (.tmp 81)) (v := .agg #[.string x2.1, .string x2.2]) (c' := #[.string x2.1, .string x2.2]) kr (ev (.pointer (some ⟨b8, 0, none⟩))) (ev (.agg #[.string x2.1, .string x2.2])) st kr kr ?_)
         clear st
         intro w37 st
         refine WO_et rfl (W_sr ?_)
         refine WO_seg 1 [(82, .pointer (some ⟨b8, 0, none⟩))] kr kr ?_
         refine WO_one rfl (One_load_own (d := 83) (t := 9) (x := (.tmp 82)) (.string x2.1) kr rfl (ev (.pointer (some ⟨b8, 0, none⟩))) st.head kr ?_)
         refine WO_seg 2 [(85, .bool (x2.1.toList == y2.2.toList))] kr kr ?_
         refine WO_et rfl (W_cond (x2.1.toList == y2.2.toList) kr ?_ ?_)
         ·intro hc
          rw [if_pos hc] at hr
          refine W_seq ?_
          refine W_draw [(13, fun w' => Inv m24 w' ∧ Piece.holds m24 w' (.blk b8 (.cells #[.string x2.1, .string x2.2] 74 (0, 0))) ∧ True)] kr st ?_
          clear st
          intro w38 _ st
          have hmS5 := m24.le_refl
          refine ⟨⟨.inr ⟨Inv.anti st.inv hmS5, Piece.holds_anti st.head hmS5, trivial⟩, trivial⟩, ?_⟩
          refine WA_load_row (t := 25) (x := (.tmp 3)) 0 86 (.agg #[.slice a2 (List.length p1) c2]) kr rfl kr (.head _) (QP_then (QP_block (QP_then (QP_then (QP_block (QP_block (QP_then QP_body))))))) (fun _ h => h.1) (ev (.pointer (some ⟨b1, 0, none⟩))) hb1 kr ?_
          refine WA_pure 1 87 (.string y2.2) kr rfl kr (.head _) (QP_then (QP_block (QP_then (QP_then (QP_block (QP_block (QP_then QP_body))))))) ?_
          refine WA_pure 2 88 (.pointer (some ⟨bp0, 0, none⟩)) kr rfl kr (.head _) (QP_then (QP_block (QP_then (QP_then (QP_block (QP_block (QP_then QP_body))))))) ?_
          refine WA_pure 7 93 (.pointer (some ⟨b8, 1, none⟩)) kr rfl kr (.head _) (QP_then (QP_block (QP_then (QP_then (QP_block (QP_block (QP_then QP_body))))))) ?_
          refine WA_load_own (t := 9) (x := (.tmp 93)) 8 94 (.string x2.2) kr rfl kr (.head _) (QP_then (QP_block (QP_then (QP_then (QP_block (QP_block (QP_then QP_body))))))) (fun _ h => h.2.1) (ev (.pointer (some ⟨b8, 1, none⟩))) kr ?_
          have st := st.front1
          replace ⟨y17, hx21, hr⟩ := bindS hr
          refine WA_one 3 kr  (One_fn 89 14 #[.pointer (some ⟨bp0, 0, none⟩), .int .i64 100] kr rfl ?_)
          refine (testgatemake_Tape_Next_ok st r5 hx21).mono ?_
          clear st
          rintro _ w39 ⟨a18, c18, m25, rfl, hle20, st, r20⟩
          refine ⟨_, rfl, ?_⟩
          have hm := Mem.le_trans hm hle20
          have hb1 := hb1.mono hle20
          have r2 := r2.mono hle20
          have r5 := r5.mono hle20
          have hmS5 := Mem.le_trans hmS5 hle20
          refine ⟨⟨.inr ⟨Inv.anti st.inv hmS5, Piece.holds_anti st.tail.head hmS5, trivial⟩, trivial⟩, ?_⟩
          replace ⟨y18, hx22, hr⟩ := bindS hr
          refine WA_one 4 kr  (One_fn 90 60 #[.int .i64 y17.2] kr rfl ?_)
          refine (testgatemake_Digits_ok st hx22).mono ?_
          clear st
          rintro _ w40 ⟨m26, rfl, hle21, st⟩
          refine ⟨_, rfl, ?_⟩
          have hm := Mem.le_trans hm hle21
          have hb1 := hb1.mono hle21
          have r2 := r2.mono hle21
          have r20 := r20.mono hle21
          have hmS5 := Mem.le_trans hmS5 hle21
          refine ⟨⟨.inr ⟨Inv.anti st.inv hmS5, Piece.holds_anti st.tail.head hmS5, trivial⟩, trivial⟩, ?_⟩
          replace ⟨s5, hx23, hr⟩ := bindS hr
          refine WA_cat (t := 9) (t2 := 9) (x := (.const (.string (⟨#[35, 32]⟩ : ByteArray)))) (y := (.tmp 90)) 5 91 kr rfl kr (.head _) (QP_then (QP_block (QP_then (QP_then (QP_block (QP_block (QP_then QP_body))))))) (ev (.string (⟨#[35, 32]⟩ : ByteArray))) (ev (.string y18)) hx23 ?_
          replace ⟨s6, hx24, hr⟩ := bindS hr
          refine WA_cat (t := 9) (t2 := 9) (x := (.tmp 91)) (y := (.const (.string (⟨#[10, 32, 32]⟩ : ByteArray)))) 6 92 kr rfl kr (.head _) (QP_then (QP_block (QP_then (QP_then (QP_block (QP_block (QP_then QP_body))))))) (ev (.string s5)) (ev (.string (⟨#[10, 32, 32]⟩ : ByteArray))) hx24 ?_
          replace ⟨s7, hx25, hr⟩ := bindS hr
          refine WA_cat (t := 9) (t2 := 9) (x := (.tmp 92)) (y := (.tmp 94)) 9 95 kr rfl kr (.head _) (QP_then (QP_block (QP_then (QP_then (QP_block (QP_block (QP_then QP_body))))))) (ev (.string s6)) (ev (.string x2.2)) hx25 ?_
          refine WA_pure 10 96 (.agg #[.string y2.2, .string s7]) kr rfl kr (.head _) (QP_then (QP_block (QP_then (QP_then (QP_block (QP_block (QP_then QP_body))))))) ?_
          replace ⟨y19, hx26, hr⟩ := bindS hr
          refine WA_one 11 kr  (One_fn 97 55 #[.agg #[.slice a2 (List.length p1) c2], .agg #[.string y2.2, .string s7]] kr rfl ?_)
          refine (testgatemake_insert_ok st r2 hx26).mono ?_
          clear st
          rintro _ w41 ⟨a19, c19, m27, rfl, hle22, st, r21⟩
          refine ⟨_, rfl, ?_⟩
          have hm := Mem.le_trans hm hle22
          have hb1 := hb1.mono hle22
          have r2 := r2.mono hle22
          have r20 := r20.mono hle22
          have hmS5 := Mem.le_trans hmS5 hle22
          refine ⟨⟨.inr ⟨Inv.anti st.inv hmS5, Piece.holds_anti st.tail.tail.head hmS5, trivial⟩, trivial⟩, ?_⟩
          have st := st.front3
          refine WA_one 12 kr  (One_store (t := 25) (x := (.tmp 4)) (y := (.tmp 97)) (v := .agg #[.slice a19 (List.length y19) c19]) (c' := #[.slice a19 (List.length y19) c19]) kr (ev (.pointer (some ⟨b2, 0, none⟩))) (ev (.agg #[.slice a19 (List.length y19) c19])) st kr kr ?_)
          clear st
          intro w42 st
          refine ⟨⟨.inr ⟨Inv.anti st.inv hmS5, Piece.holds_anti st.tail.tail.tail.head hmS5, trivial⟩, trivial⟩, ?_⟩
          refine WA_done kr ?_
          refine X_then ?_
          refine W_ret ?_
          refine X_block_ret ?_
          refine X_then_ret ?_
          obtain rfl := Option.some.inj hr
          have ho := hBu3 _ rfl
          subst ho
          have hr := hrKu3
          dsimp only at hr
          refine X_then_ret ?_
          refine X_block_ret ?_
          refine X_block_ret ?_
          obtain rfl := Option.some.inj hr
          have hr := hrKu1
          try dsimp only at hr
          refine X_then_ret ?_
          obtain rfl := Option.some.inj hr
          refine X_ret [.cell 4 25] [.agg #[.slice a19 (List.length y19) c19]] rfl (ResAll.cons (ResAt.blk (v := .agg #[.slice a19 (List.length y19) c19]) (o := 0) kr st.head kr) ResAll.nil) ?_
          have st := st.tail
          have st := st.front2
          have st := st.tail
          have st := st.front1.front1
          exact ⟨a18, c18, a19, c19, m27, rfl, hm, st, r20, r21⟩
         ·intro hc
          rw [if_neg (not_true hc)] at hr
          refine W_skip ?_
          refine X_block ?_
          refine X_then ?_
          refine W_region ?_
          refine WO_seg 2 [(78, .int .i64 (IntKind.wrap .i64 (s4 + 1)))] kr kr ?_
          refine WO_end rfl ?_
          obtain rfl := Option.some.inj hr
          have hL := hSu3 _ rfl
          have st := st.tail
          have st := st.front1.front1
          exact X_env _ kr (X_round k2 (Nat.lt_succ_self _) ⟨IntKind.wrap .i64 (s4 + 1), m24, hL, rfl, hm, st, hb1, r2, r5⟩)
        ·intro hc
         rw [if_neg (not_true hc)] at hr
         refine W_exit ?_
         refine X_then_exit ?_
         obtain rfl := Option.some.inj hr
         have ho := hBu3 _ rfl
         have st := st.front1.front1
         refine X_then_exit ?_
         exact X_env _ kr (K3_u3 _ _ ⟨(), m24, ho, rfl, hm, st, hb1, r2, r5⟩)
      ·intro hc
       rw [if_neg (not_true hc)] at hr
       refine W_sr (WO_seg 2 [(99, .bool (y3.2 == 5))] kr kr ?_)
       refine WO_et rfl (W_cond (y3.2 == 5) kr ?_ ?_)
       ·intro hc
        rw [if_pos hc] at hr
        refine W_sr (WO_seg 1 [(101, .pointer (some ⟨b1, 0, none⟩))] kr kr ?_)
        refine WO_one rfl (One_load_row (d := 102) (t := 23) (x := (.tmp 101)) (.slice a2 (List.length p1) c2) kr rfl (ev (.pointer (some ⟨b1, 0, none⟩))) st hb1 kr ?_)
        refine WO_seg 2 [(103, .int .i64 (List.length p1 : Int)), (104, .int .i64 0)] kr kr ?_
        refine WO_et rfl (W_block ?_)
        replace ⟨out3, hr, hrKu4⟩ := bindS hr
        refine W_cut (.exit 5) (fun L' w' => ∃ (o4 : Unit) (m28 : Mem), (.inl o4) = out3 ∧ L' = [(0, .pointer (some ⟨bp0, 0, none⟩)), (3, .pointer (some ⟨b1, 0, none⟩)), (4, .pointer (some ⟨b2, 0, none⟩)), (5, .string y2.2)] ∧ m.le m28 ∧ St m28 (.blk bp0 (.cells #[.slice a5 (List.length y3.1.1) c5, .int .i64 y3.1.2] 28 (0, 0)) :: .blk b2 (.cells #[.slice none (List.length ([] : List (ByteArray × ByteArray))) 0] 25 (0, 0)) :: own) w' ∧ MRow m28 b1 0 [.slice a2 (List.length p1) c2] ∧ RepS (cPair cStr cStr) m28 a2 c2 p1 ∧ RepS (cInt .i64) m28 a5 c5 y3.1.1) ?_ ?_
        ·clear hr st
         rintro _ w43 ⟨o4, m28, rfl, rfl, hm, st, hb1, r2, r5⟩
         have hr := hrKu4
         clear hrKu4
         dsimp only at hr
         refine X_block_eq ?_
         refine X_block ?_
         have hqu1 := Option.some.inj hr
         have st := st.front1.front1
         exact X_env _ kr (Ku1 _ _ ⟨(), m28, hqu1, rfl, hm, st, hb1, r2, r5⟩)
        intro K5_u4
        have st := st.front1.front1
        refine W_env _ kr (W_loop (fun k3 L' w' => ∃ (s8 : Int) (m29 : Mem), loopM (testgatemake_Edit_L3 N p1 y2 y3) k3 s8 = some out3 ∧ L' = [(0, .pointer (some ⟨bp0, 0, none⟩)), (3, .pointer (some ⟨b1, 0, none⟩)), (4, .pointer (some ⟨b2, 0, none⟩)), (5, .string y2.2), (102, .slice a2 (List.length p1) c2), (103, .int .i64 (List.length p1 : Int)), (104, .int .i64 s8)] ∧ m.le m29 ∧ St m29 (.blk bp0 (.cells #[.slice a5 (List.length y3.1.1) c5, .int .i64 y3.1.2] 28 (0, 0)) :: .blk b2 (.cells #[.slice none (List.length ([] : List (ByteArray × ByteArray))) 0] 25 (0, 0)) :: own) w' ∧ MRow m29 b1 0 [.slice a2 (List.length p1) c2] ∧ RepS (cPair cStr cStr) m29 a2 c2 p1 ∧ RepS (cInt .i64) m29 a5 c5 y3.1.1) N ⟨0, m4, hr, rfl, hm, st, hb1, r2, r5⟩ ?_)
        clear st hr
        rintro k3 _ w44 ⟨s8, m29, hL, rfl, hm, st, hb1, r2, r5⟩
        rcases k3 with _ | k3
        ·exact loopM_zero hL
        ·obtain ⟨qu4, hr, hSu4, hBu4⟩ := loopM_succ hL
         clear hL
         unfold testgatemake_Edit_L3 at hr
         refine W_sr (WO_seg 1 [(105, .bool (decide (s8 < (List.length p1 : Int))))] kr kr ?_)
         refine WO_et rfl (W_seq ?_)
         refine W_cond (decide (s8 < (List.length p1 : Int))) kr ?_ ?_
         ·intro hc
          rw [if_pos hc] at hr
          refine W_skip ?_
          refine X_then ?_
          refine W_seq ?_
          refine W_block ?_
          refine W_sr ?_
          replace ⟨x3, hx27, hr⟩ := bindS hr
          refine WO_one rfl (One_index (d := 106) (t := 23) (e := 74) (x := (.tmp 102)) (y := (.tmp 104)) (cPair cStr cStr) kr rfl (ev (.slice a2 (List.length p1) c2)) (ev (.int .i64 s8)) kr r2 hx27 ?_)
          rintro b9 f3 cs3 ⟨_, _, rfl, rfl, rfl⟩ hq3
          refine WO_one rfl (One_load_row (d := 107) (t := 74) (x := (.tmp 106)) (.agg #[.string x3.1, .string x3.2]) kr rfl (ev (.pointer (some ⟨b9, f3, none⟩))) st hq3 kr ?_)
          refine WO_one rfl (One_alloc (d := 11) (e := 74) (.agg #[.string (⟨#[]⟩ : ByteArray), .string (⟨#[]⟩ : ByteArray)]) kr rfl kr st ?_)
          clear st
          intro b10 w45 st
          refine WO_one rfl (One_store (t := 74) (x := (.tmp 11)) (y := (.tmp 107)) (v := .agg #[.string x3.1, .string x3.2]) (c' := #[.string x3.1, .string x3.2]) kr (ev (.pointer (some ⟨b10, 0, none⟩))) (ev (.agg #[.string x3.1, .string x3.2])) st kr kr ?_)
          clear st
          intro w46 st
          refine WO_et rfl (W_sr ?_)
          refine WO_seg 1 [(108, .pointer (some ⟨b10, 0, none⟩))] kr kr ?_
          refine WO_one rfl (One_load_own (d := 109) (t := 9) (x := (.tmp 108)) (.string x3.1) kr rfl (ev (.pointer (some ⟨b10, 0, none⟩))) st.head kr ?_)
          refine WO_seg 2 [(111, .bool (x3.1.toList == y2.2.toList))] kr kr ?_
          refine WO_et rfl (W_cond (x3.1.toList == y2.2.toList) kr ?_ ?_)
          ·intro hc
           rw [if_pos hc] at hr
           refine W_sr (WO_one rfl (One_load_row (d := 112) (t := 25) (x := (.tmp 3)) (.agg #[.slice a2 (List.length p1) c2]) kr rfl (ev (.pointer (some ⟨b1, 0, none⟩))) st hb1 kr ?_))
           refine WO_seg 2 [(113, .string y2.2), (114, .pointer (some ⟨b10, 1, none⟩))] kr kr ?_
           refine WO_one rfl (One_load_own (d := 115) (t := 9) (x := (.tmp 114)) (.string x3.2) kr rfl (ev (.pointer (some ⟨b10, 1, none⟩))) st.head kr ?_)
           replace ⟨s9, hx28, hr⟩ := bindS hr
           refine WO_one rfl (One_cat (d := 116) (t := 9) (t2 := 9) (x := (.tmp 115)) (y := (.const (.string (⟨#[102, 117, 110, 99]⟩ : ByteArray)))) kr rfl (ev (.string x3.2)) (ev (.string (⟨#[102, 117, 110, 99]⟩ : ByteArray))) hx28 ?_)
           refine WO_seg 1 [(117, .agg #[.string y2.2, .string s9])] kr kr ?_
           replace ⟨y20, hx29, hr⟩ := bindS hr
           refine WO_one rfl (One_fn 118 55 #[.agg #[.slice a2 (List.length p1) c2], .agg #[.string y2.2, .string s9]] kr rfl ?_)
           refine (testgatemake_insert_ok st r2 hx29).mono ?_
           clear st
           rintro _ w47 ⟨a20, c20, m30, rfl, hle23, st, r22⟩
           refine ⟨_, rfl, ?_⟩
           have hm := Mem.le_trans hm hle23
           have hb1 := hb1.mono hle23
           have r2 := r2.mono hle23
           have r5 := r5.mono hle23
           have st := st.front3
           refine WO_one rfl (One_store (t := 25) (x := (.tmp 4)) (y := (.tmp 118)) (v := .agg #[.slice a20 (List.length y20) c20]) (c' := #[.slice a20 (List.length y20) c20]) kr (ev (.pointer (some ⟨b2, 0, none⟩))) (ev (.agg #[.slice a20 (List.length y20) c20])) st kr kr ?_)
           clear st
           intro w48 st
           refine WO_et rfl (W_ret ?_)
           refine X_block_ret ?_
           refine X_then_ret ?_
           obtain rfl := Option.some.inj hr
           have ho := hBu4 _ rfl
           subst ho
           have hr := hrKu4
           dsimp only at hr
           refine X_then_ret ?_
           refine X_block_ret ?_
           refine X_block_ret ?_
           obtain rfl := Option.some.inj hr
           have hr := hrKu1
           try dsimp only at hr
           refine X_then_ret ?_
           obtain rfl := Option.some.inj hr
           refine X_ret [.cell 4 25] [.agg #[.slice a20 (List.length y20) c20]] rfl (ResAll.cons (ResAt.blk (v := .agg #[.slice a20 (List.length y20) c20]) (o := 0) kr st.head kr) ResAll.nil) ?_
           have st := st.tail
           have st := st.front1
           have st := st.tail
           have st := st.front1.front1
           exact ⟨a5, c5, a20, c20, m30, rfl, hm, st, r5, r22⟩
          ·intro hc
           rw [if_neg (not_true hc)] at hr
           refine W_skip ?_
           refine X_block ?_
           refine X_then ?_
           refine W_region ?_
           refine WO_seg 2 [(104, .int .i64 (IntKind.wrap .i64 (s8 + 1)))] kr kr ?_
           refine WO_end rfl ?_
           obtain rfl := Option.some.inj hr
           have hL := hSu4 _ rfl
           have st := st.tail
           have st := st.front1.front1
           exact X_env _ kr (X_round k3 (Nat.lt_succ_self _) ⟨IntKind.wrap .i64 (s8 + 1), m29, hL, rfl, hm, st, hb1, r2, r5⟩)
         ·intro hc
          rw [if_neg (not_true hc)] at hr
          refine W_exit ?_
          refine X_then_exit ?_
          obtain rfl := Option.some.inj hr
          have ho := hBu4 _ rfl
          have st := st.front1.front1
          refine X_then_exit ?_
          exact X_env _ kr (K5_u4 _ _ ⟨(), m29, ho, rfl, hm, st, hb1, r2, r5⟩)
       ·intro hc
        rw [if_neg (not_true hc)] at hr
        refine W_skip ?_
        refine X_block ?_
        have hqu1 := Option.some.inj hr
        have st := st.front1.front1
        exact X_env _ kr (Ku1 _ _ ⟨(), m4, hqu1, rfl, hm, st, hb1, r2, r5⟩)
def testgatelaw15_two_L1 (N : Nat) (s1 : Int × List (Int) × Int × (List (ByteArray × ByteArray))) : Option ((Int × List (Int) × Int × (List (ByteArray × ByteArray))) ⊕ ((List (Int) × Int × (List (ByteArray × ByteArray))))) :=
 if (decide (s1.1 > 0)) = true then ((testgatemake_Edit N (s1.2.1, s1.2.2.1) s1.2.2.2).bind fun y3 => some (.inl (IntKind.wrap .i64 (s1.1 - 1), y3.1.1, y3.1.2, y3.2))) else (some (.inr (s1.2.1, s1.2.2.1, s1.2.2.2)))
def testgatelaw15_two (N : Nat) (p0 : List Int × Int) : Option ((List Int × Int) × ((List (ByteArray × ByteArray))) × ((List (ByteArray × ByteArray)))) :=
 (testgatemake_Revision N (p0.1, p0.2)).bind fun y1 => (testgatemake_Tape_Next N (y1.1.1, y1.1.2) 5).bind fun y2 => (loopM (testgatelaw15_two_L1 N) N (y2.2, y2.1.1, y2.1.2, y1.2)).bind fun o1 => (testgatemake_Tape_Chance N (o1.1, o1.2.1) 1 6).bind fun y4 => (if y4.2 = true then ((testgatemake_Revision N (y4.1.1, y4.1.2)).bind fun y5 => some (y5.1.1, y5.1.2, y5.2)) else (some (y4.1.1, y4.1.2, o1.2.2)) : Option (List (Int) × Int × (List (ByteArray × ByteArray)))).bind fun o2 => some ((o2.1, o2.2.1), y1.2, o2.2.2)
set_option maxHeartbeats 4000000 in
set_option maxRecDepth 100000 in
theorem testgatelaw15_two_ok {N : Nat} {m : Mem} {own : List Piece} {w : World} {p0 : List Int × Int} {bp0 : Nat} {a1 : Option Addr} {c1 : Nat} {r : (List Int × Int) × ((List (ByteArray × ByteArray))) × ((List (ByteArray × ByteArray)))} (st : St m (.blk bp0 (.cells #[.slice a1 (List.length p0.1) c1, .int .i64 p0.2] 28 (0, 0)) :: own) w) (r1 : RepS (cInt .i64) m a1 c1 p0.1) (hr : testgatelaw15_two N p0 = some r) : Calls Tryz.prog 23 #[.pointer (some ⟨bp0, 0, none⟩)] w fun e w' => ∃ (ra1 : Option Addr) (rc1 : Nat) (ra2 : Option Addr) (rc2 : Nat) (ra3 : Option Addr) (rc3 : Nat) (m' : Mem), e = .returned (.tuple #[.agg #[.slice ra2 (List.length r.2.1) rc2], .agg #[.slice ra3 (List.length r.2.2) rc3]]) ∧ m.le m' ∧ St m' (.room ra3 (List.length r.2.2) rc3 74 2 :: .blk bp0 (.cells #[.slice ra1 (List.length r.1.1) rc1, .int .i64 r.1.2] 28 (0, 0)) :: own) w' ∧ RepS (cInt .i64) m' ra1 rc1 r.1.1 ∧ RepS (cPair cStr cStr) m' ra2 rc2 r.2.1 ∧ RepS (cPair cStr cStr) m' ra3 rc3 r.2.2 := by
 unfold testgatelaw15_two at hr
 have hm := m.le_refl
 refine W_calls Tryz.func23 rfl Tryz.ntmps23 [(0, .pointer (some ⟨bp0, 0, none⟩))] kr rfl ?_
 refine W_sr (WO_one rfl (One_alloc (d := 2) (e := 25) (.agg #[.slice none 0 0]) kr rfl kr st ?_))
 clear st
 intro b1 w1 st
 refine WO_one rfl (One_alloc (d := 3) (e := 25) (.agg #[.slice none 0 0]) kr rfl kr st ?_)
 clear st
 intro b2 w2 st
 refine WO_et rfl (W_sr ?_)
 refine WO_seg 1 [(7, .pointer (some ⟨bp0, 0, none⟩))] kr kr ?_
 have st := st.front2
 replace ⟨y1, hx1, hr⟩ := bindS hr
 refine WO_one rfl (One_fn 8 12 #[.pointer (some ⟨bp0, 0, none⟩)] kr rfl ?_)
 refine (testgatemake_Revision_ok st r1 hx1).mono ?_
 clear st
 rintro _ w3 ⟨a2, c2, a3, c3, m1, rfl, hle1, st, r2, r3⟩
 refine ⟨_, rfl, ?_⟩
 have hm := Mem.le_trans hm hle1
 have r1 := r1.mono hle1
 refine WO_one rfl (One_alloc (d := 4) (e := 25) (.agg #[.slice none 0 0]) kr rfl kr st ?_)
 clear st
 intro b3 w4 st
 refine WO_one rfl (One_store (t := 25) (x := (.tmp 4)) (y := (.tmp 8)) (v := .agg #[.slice a3 (List.length y1.2) c3]) (c' := #[.slice a3 (List.length y1.2) c3]) kr (ev (.pointer (some ⟨b3, 0, none⟩))) (ev (.agg #[.slice a3 (List.length y1.2) c3])) st kr kr ?_)
 clear st
 intro w5 st
 refine WO_et rfl (W_sr ?_)
 refine WO_one rfl (One_load_own (d := 9) (t := 25) (x := (.tmp 4)) (.agg #[.slice a3 (List.length y1.2) c3]) kr rfl (ev (.pointer (some ⟨b3, 0, none⟩))) st.head kr ?_)
 refine WO_one rfl (One_alloc (d := 5) (e := 25) (.agg #[.slice none 0 0]) kr rfl kr st ?_)
 clear st
 intro b4 w6 st
 refine WO_one rfl (One_store (t := 25) (x := (.tmp 5)) (y := (.tmp 9)) (v := .agg #[.slice a3 (List.length y1.2) c3]) (c' := #[.slice a3 (List.length y1.2) c3]) kr (ev (.pointer (some ⟨b4, 0, none⟩))) (ev (.agg #[.slice a3 (List.length y1.2) c3])) st kr kr ?_)
 clear st
 intro w7 st
 refine WO_et rfl (W_seq ?_)
 refine W_sr (WO_seg 1 [(10, .pointer (some ⟨bp0, 0, none⟩))] kr kr ?_)
 have st := st.front3
 replace ⟨y2, hx2, hr⟩ := bindS hr
 refine WO_one rfl (One_fn 11 14 #[.pointer (some ⟨bp0, 0, none⟩), .int .i64 5] kr rfl ?_)
 refine (testgatemake_Tape_Next_ok st r2 hx2).mono ?_
 clear st
 rintro _ w8 ⟨a4, c4, m2, rfl, hle2, st, r4⟩
 refine ⟨_, rfl, ?_⟩
 have hm := Mem.le_trans hm hle2
 have r2 := r2.mono hle2
 have r3 := r3.mono hle2
 refine WO_seg 1 [(6, .int .i64 y2.2)] kr kr ?_
 refine WO_et rfl (W_block ?_)
 replace ⟨out1, hr, hrKu1⟩ := bindS hr
 refine W_cut (.exit 0) (fun L' w' => ∃ (o1 : List (Int) × Int × (List (ByteArray × ByteArray))) (a5 : Option Addr) (c5 : Nat) (a6 : Option Addr) (c6 : Nat) (m3 : Mem), o1 = out1 ∧ L' = [(0, .pointer (some ⟨bp0, 0, none⟩)), (2, .pointer (some ⟨b1, 0, none⟩)), (3, .pointer (some ⟨b2, 0, none⟩)), (4, .pointer (some ⟨b3, 0, none⟩)), (5, .pointer (some ⟨b4, 0, none⟩))] ∧ m.le m3 ∧ St m3 (.blk bp0 (.cells #[.slice a5 (List.length o1.1) c5, .int .i64 o1.2.1] 28 (0, 0)) :: .blk b4 (.cells #[.slice a6 (List.length o1.2.2) c6] 25 (0, 0)) :: .blk b3 (.cells #[.slice a3 (List.length y1.2) c3] 25 (0, 0)) :: .blk b2 (.cells #[.slice none (List.length ([] : List (ByteArray × ByteArray))) 0] 25 (0, 0)) :: .blk b1 (.cells #[.slice none (List.length ([] : List (ByteArray × ByteArray))) 0] 25 (0, 0)) :: .room a6 (List.length o1.2.2) c6 74 2 :: own) w' ∧ RepS (cInt .i64) m3 a5 c5 o1.1 ∧ RepS (cPair cStr cStr) m3 a6 c6 o1.2.2 ∧ RepS (cPair cStr cStr) m3 a3 c3 y1.2) ?_ ?_
 ·clear hr st
  rintro _ w9 ⟨o1, a5, c5, a6, c6, m3, rfl, rfl, hm, st, r5, r6, r3⟩
  have hr := hrKu1
  clear hrKu1
  refine X_block_eq ?_
  refine X_then ?_
  refine W_seq ?_
  refine W_sr (WO_seg 1 [(19, .pointer (some ⟨bp0, 0, none⟩))] kr kr ?_)
  replace ⟨y4, hx4, hr⟩ := bindS hr
  refine WO_one rfl (One_fn 20 29 #[.pointer (some ⟨bp0, 0, none⟩), .int .i64 1, .int .i64 6] kr rfl ?_)
  refine (testgatemake_Tape_Chance_ok st r5 hx4).mono ?_
  clear st
  rintro _ w13 ⟨a11, c11, m6, rfl, hle4, st, r11⟩
  refine ⟨_, rfl, ?_⟩
  have hm := Mem.le_trans hm hle4
  have r5 := r5.mono hle4
  have r6 := r6.mono hle4
  have r3 := r3.mono hle4
  refine WO_et rfl ?_
  replace ⟨o2, hr, hrKu2⟩ := bindS hr
  refine W_cut .normal (fun L' w' => ∃ (a12 : Option Addr) (c12 : Nat) (a13 : Option Addr) (c13 : Nat) (m7 : Mem), L' = [(2, .pointer (some ⟨b1, 0, none⟩)), (3, .pointer (some ⟨b2, 0, none⟩)), (4, .pointer (some ⟨b3, 0, none⟩)), (5, .pointer (some ⟨b4, 0, none⟩))] ∧ m.le m7 ∧ St m7 (.blk bp0 (.cells #[.slice a12 (List.length o2.1) c12, .int .i64 o2.2.1] 28 (0, 0)) :: .blk b4 (.cells #[.slice a13 (List.length o2.2.2) c13] 25 (0, 0)) :: .blk b3 (.cells #[.slice a3 (List.length y1.2) c3] 25 (0, 0)) :: .blk b2 (.cells #[.slice none (List.length ([] : List (ByteArray × ByteArray))) 0] 25 (0, 0)) :: .blk b1 (.cells #[.slice none (List.length ([] : List (ByteArray × ByteArray))) 0] 25 (0, 0)) :: .room a13 (List.length o2.2.2) c13 74 2 :: own) w' ∧ RepS (cInt .i64) m7 a12 c12 o2.1 ∧ RepS (cPair cStr cStr) m7 a13 c13 o2.2.2 ∧ RepS (cPair cStr cStr) m7 a3 c3 y1.2) ?_ ?_
  ·clear hr st
   have hr := hrKu2
   clear hrKu2
   rintro _ w14 ⟨a12, c12, a13, c13, m7, rfl, hm, st, r12, r13, r3⟩
   refine X_then ?_
   refine W_seq ?_
   refine W_draw [(4, fun w' => Inv m7 w' ∧ Piece.holds m7 w' (.blk b4 (.cells #[.slice a13 (List.length o2.2.2) c13] 25 (0, 0))) ∧ Piece.holds m7 w' (.blk b3 (.cells #[.slice a3 (List.length y1.2) c3] 25 (0, 0))) ∧ True)] kr st ?_
   clear st
   intro w17 _ st
   have hmS1 := m7.le_refl
   refine ⟨⟨.inr ⟨Inv.anti st.inv hmS1, Piece.holds_anti st.tail.head hmS1, Piece.holds_anti st.tail.tail.head hmS1, trivial⟩, trivial⟩, ?_⟩
   refine WA_load_own (t := 25) (x := (.tmp 4)) 0 23 (.agg #[.slice a3 (List.length y1.2) c3]) kr rfl kr (.head _) (QP_then QP_body) (fun _ h => h.2.2.1) (ev (.pointer (some ⟨b3, 0, none⟩))) kr ?_
   refine WA_load_own (t := 25) (x := (.tmp 5)) 1 24 (.agg #[.slice a13 (List.length o2.2.2) c13]) kr rfl kr (.head _) (QP_then QP_body) (fun _ h => h.2.1) (ev (.pointer (some ⟨b4, 0, none⟩))) kr ?_
   have st := st.front4
   refine WA_one 2 kr  (One_store (t := 25) (x := (.tmp 2)) (y := (.tmp 23)) (v := .agg #[.slice a3 (List.length y1.2) c3]) (c' := #[.slice a3 (List.length y1.2) c3]) kr (ev (.pointer (some ⟨b1, 0, none⟩))) (ev (.agg #[.slice a3 (List.length y1.2) c3])) st kr kr ?_)
   clear st
   intro w18 st
   refine ⟨⟨.inr ⟨Inv.anti st.inv hmS1, Piece.holds_anti st.tail.tail.head hmS1, Piece.holds_anti st.tail.tail.tail.head hmS1, trivial⟩, trivial⟩, ?_⟩
   have st := st.front4
   refine WA_one 3 kr  (One_store (t := 25) (x := (.tmp 3)) (y := (.tmp 24)) (v := .agg #[.slice a13 (List.length o2.2.2) c13]) (c' := #[.slice a13 (List.length o2.2.2) c13]) kr (ev (.pointer (some ⟨b2, 0, none⟩))) (ev (.agg #[.slice a13 (List.length o2.2.2) c13])) st kr kr ?_)
   clear st
   intro w19 st
   refine ⟨⟨.inr ⟨Inv.anti st.inv hmS1, Piece.holds_anti st.tail.tail.tail.head hmS1, Piece.holds_anti st.tail.tail.tail.tail.head hmS1, trivial⟩, trivial⟩, ?_⟩
   refine WA_done kr ?_
   refine X_then ?_
   refine W_ret ?_
   obtain rfl := Option.some.inj hr
   refine X_ret [.cell 2 25, .cell 3 25] [.agg #[.slice a3 (List.length y1.2) c3], .agg #[.slice a13 (List.length o2.2.2) c13]] rfl (ResAll.cons (ResAt.blk (v := .agg #[.slice a3 (List.length y1.2) c3]) (o := 0) kr st.tail.head kr) (ResAll.cons (ResAt.blk (v := .agg #[.slice a13 (List.length o2.2.2) c13]) (o := 0) kr st.head kr) ResAll.nil)) ?_
   have st := st.tail
   have st := st.tail
   have st := st.front1
   have st := st.tail
   have st := st.front1
   have st := st.tail
   have st := st.front1
   exact ⟨a12, c12, a3, c3, a13, c13, m7, rfl, hm, st, r12, r3, r13⟩
  ·intro Ku2
   clear hrKu2
   refine W_cond y4.2 kr ?_ ?_
   ·intro hc
    rw [if_pos hc] at hr
    refine W_region ?_
    refine WO_seg 1 [(21, .pointer (some ⟨bp0, 0, none⟩))] kr kr ?_
    replace ⟨y5, hx5, hr⟩ := bindS hr
    refine WO_one rfl (One_fn 22 12 #[.pointer (some ⟨bp0, 0, none⟩)] kr rfl ?_)
    refine (testgatemake_Revision_ok st r11 hx5).mono ?_
    clear st
    rintro _ w15 ⟨a14, c14, a15, c15, m8, rfl, hle5, st, r14, r15⟩
    refine ⟨_, rfl, ?_⟩
    have hm := Mem.le_trans hm hle5
    have r11 := r11.mono hle5
    have r6 := r6.mono hle5
    have r3 := r3.mono hle5
    have st := st.front2
    refine WO_one rfl (One_store (t := 25) (x := (.tmp 5)) (y := (.tmp 22)) (v := .agg #[.slice a15 (List.length y5.2) c15]) (c' := #[.slice a15 (List.length y5.2) c15]) kr (ev (.pointer (some ⟨b4, 0, none⟩))) (ev (.agg #[.slice a15 (List.length y5.2) c15])) st kr kr ?_)
    clear st
    intro w16 st
    refine WO_end rfl ?_
    have st := st.front6
    have st := st.tail
    obtain rfl := Option.some.inj hr
    have st := st.front1.front5.front5.front5.front4.front5
    exact X_env _ kr (Ku2 _ _ ⟨a14, c14, a15, c15, m8, rfl, hm, st, r14, r15, r3⟩)
   ·intro hc
    rw [if_neg (not_true hc)] at hr
    refine W_skip ?_
    obtain rfl := Option.some.inj hr
    have st := st.front5.front5.front5.front5.front5.front5
    exact X_env _ kr (Ku2 _ _ ⟨a11, c11, a6, c6, m6, rfl, hm, st, r11, r6, r3⟩)
 intro K0_u1
 clear hrKu1
 have st := st.front3.front5.front5.front5.front5.front5
 refine W_env _ kr (W_loop (fun k1 L' w' => ∃ (s1 : Int × List (Int) × Int × (List (ByteArray × ByteArray))) (a7 : Option Addr) (c7 : Nat) (a8 : Option Addr) (c8 : Nat) (m4 : Mem), loopM (testgatelaw15_two_L1 N) k1 s1 = some out1 ∧ L' = [(0, .pointer (some ⟨bp0, 0, none⟩)), (2, .pointer (some ⟨b1, 0, none⟩)), (3, .pointer (some ⟨b2, 0, none⟩)), (4, .pointer (some ⟨b3, 0, none⟩)), (5, .pointer (some ⟨b4, 0, none⟩)), (6, .int .i64 s1.1)] ∧ m.le m4 ∧ St m4 (.blk bp0 (.cells #[.slice a7 (List.length s1.2.1) c7, .int .i64 s1.2.2.1] 28 (0, 0)) :: .blk b4 (.cells #[.slice a8 (List.length s1.2.2.2) c8] 25 (0, 0)) :: .blk b3 (.cells #[.slice a3 (List.length y1.2) c3] 25 (0, 0)) :: .blk b2 (.cells #[.slice none (List.length ([] : List (ByteArray × ByteArray))) 0] 25 (0, 0)) :: .blk b1 (.cells #[.slice none (List.length ([] : List (ByteArray × ByteArray))) 0] 25 (0, 0)) :: .room a8 (List.length s1.2.2.2) c8 74 2 :: own) w' ∧ RepS (cInt .i64) m4 a7 c7 s1.2.1 ∧ RepS (cPair cStr cStr) m4 a8 c8 s1.2.2.2 ∧ RepS (cPair cStr cStr) m4 a3 c3 y1.2) N ⟨(y2.2, y2.1.1, y2.1.2, y1.2), a4, c4, a3, c3, m2, hr, rfl, hm, st, r4, r3, r3⟩ ?_)
 clear st hr
 rintro k1 _ w10 ⟨s1, a7, c7, a8, c8, m4, hL, rfl, hm, st, r7, r8, r3⟩
 rcases k1 with _ | k1
 ·exact loopM_zero hL
 ·obtain ⟨qu1, hr, hSu1, hBu1⟩ := loopM_succ hL
  clear hL
  unfold testgatelaw15_two_L1 at hr
  refine W_seq ?_
  refine W_sr (WO_seg 2 [(13, .bool (decide (s1.1 > 0)))] kr kr ?_)
  refine WO_et rfl (W_cond (decide (s1.1 > 0)) kr ?_ ?_)
  ·intro hc
   rw [if_pos hc] at hr
   refine W_skip ?_
   refine X_then ?_
   refine W_seq ?_
   refine W_block ?_
   refine W_region ?_
   refine WO_seg 1 [(16, .pointer (some ⟨bp0, 0, none⟩))] kr kr ?_
   refine WO_one rfl (One_load_own (d := 17) (t := 25) (x := (.tmp 5)) (.agg #[.slice a8 (List.length s1.2.2.2) c8]) kr rfl (ev (.pointer (some ⟨b4, 0, none⟩))) st.tail.head kr ?_)
   replace ⟨y3, hx3, hr⟩ := bindS hr
   refine WO_one rfl (One_fn 18 11 #[.pointer (some ⟨bp0, 0, none⟩), .agg #[.slice a8 (List.length s1.2.2.2) c8]] kr rfl ?_)
   refine (testgatemake_Edit_ok st r7 r8 hx3).mono ?_
   clear st
   rintro _ w11 ⟨a9, c9, a10, c10, m5, rfl, hle3, st, r9, r10⟩
   refine ⟨_, rfl, ?_⟩
   have hm := Mem.le_trans hm hle3
   have r8 := r8.mono hle3
   have r7 := r7.mono hle3
   have r3 := r3.mono hle3
   have st := st.front2
   refine WO_one rfl (One_store (t := 25) (x := (.tmp 5)) (y := (.tmp 18)) (v := .agg #[.slice a10 (List.length y3.2) c10]) (c' := #[.slice a10 (List.length y3.2) c10]) kr (ev (.pointer (some ⟨b4, 0, none⟩))) (ev (.agg #[.slice a10 (List.length y3.2) c10])) st kr kr ?_)
   clear st
   intro w12 st
   refine WO_end rfl ?_
   have st := st.front6
   have st := st.tail
   refine X_block ?_
   refine X_then ?_
   refine W_region ?_
   refine WO_seg 3 [(6, .int .i64 (IntKind.wrap .i64 (s1.1 - 1)))] kr kr ?_
   refine WO_end rfl ?_
   obtain rfl := Option.some.inj hr
   have hL := hSu1 _ rfl
   have st := st.front1.front5.front5.front5.front4.front5
   exact X_env _ kr (X_round k1 (Nat.lt_succ_self _) ⟨(IntKind.wrap .i64 (s1.1 - 1), y3.1.1, y3.1.2, y3.2), a9, c9, a10, c10, m5, hL, rfl, hm, st, r9, r10, r3⟩)
  ·intro hc
   rw [if_neg (not_true hc)] at hr
   refine W_exit ?_
   refine X_then_exit ?_
   obtain rfl := Option.some.inj hr
   have ho := hBu1 _ rfl
   have st := st.front5.front5.front5.front5.front5.front5
   refine X_then_exit ?_
   exact X_env _ kr (K0_u1 _ _ ⟨(s1.2.1, s1.2.2.1, s1.2.2.2), a7, c7, a8, c8, m4, ho, rfl, hm, st, r7, r8, r3⟩)
def internal_stringslite_IndexByte (N : Nat) (p0 : ByteArray) (p1 : Int) : Option (Int) :=
 some (ixB p0 p1)
set_option maxHeartbeats 4000000 in
set_option maxRecDepth 100000 in
theorem internal_stringslite_IndexByte_ok {N : Nat} {m : Mem} {own : List Piece} {w : World} {p0 : ByteArray} {p1 : Int} {r : Int} (st : St m (own) w) (hr : internal_stringslite_IndexByte N p0 p1 = some r) : Calls Tryz.prog 213 #[.string p0, .int .u8 p1] w fun e w' => ∃ (m' : Mem), e = .returned (.int .i64 r) ∧ m.le m' ∧ St m' (own) w' := by
 unfold internal_stringslite_IndexByte at hr
 have hm := m.le_refl
 refine W_calls Tryz.func213 rfl Tryz.ntmps213 [(0, .string p0), (1, .int .u8 p1)] kr rfl ?_
 refine W_sr (WO_seg 1 [] kr kr ?_)
 refine WO_et rfl (W_sr ?_)
 refine WO_seg 2 [(5, .string p0), (6, .int .u8 p1)] kr kr ?_
 refine WO_one rfl (One_indexByte (d := 7) (f := 244) (x := (.tmp 5)) (y := (.tmp 6)) (ts := #[9, 5]) kr rfl (ev (.string p0)) (ev (.int .u8 p1)) Tryz.func244 kr kr ?_)
 refine WO_seg 1 [(4, .int .i64 (ixB p0 p1))] kr kr ?_
 refine WO_et rfl (W_ret ?_)
 obtain rfl := Option.some.inj hr
 refine X_ret [.tmp 4] [.int .i64 (ixB p0 p1)] rfl (ResAll.cons (ResAt.tmp kr) ResAll.nil) ?_
 exact ⟨m, rfl, hm, st⟩
def internal_stringslite_Index (N : Nat) (p0 : ByteArray) (p1 : ByteArray) : Option (Int) :=
 (if ((ByteArray.size p1 : Int) == 0) = true then (some true) else (some (p1.toList == p0.toList)) : Option (Bool)).bind fun o1 => if o1 = true then (some 0) else (if ((ByteArray.size p1 : Int) == 1) = true then ((idxB p1 0).bind fun x1 => (internal_stringslite_IndexByte N p0 (x1.toNat : Int)).bind fun y1 => some y1) else (if (decide ((ByteArray.size p1 : Int) ≥ (ByteArray.size p0 : Int))) = true then (some (-1)) else none))
set_option maxHeartbeats 4000000 in
set_option maxRecDepth 100000 in
theorem internal_stringslite_Index_ok {N : Nat} {m : Mem} {own : List Piece} {w : World} {p0 : ByteArray} {p1 : ByteArray} {r : Int} (st : St m (own) w) (hr : internal_stringslite_Index N p0 p1 = some r) : Calls Tryz.prog 233 #[.string p0, .string p1] w fun e w' => ∃ (m' : Mem), e = .returned (.int .i64 r) ∧ m.le m' ∧ St m' (own) w' := by
 unfold internal_stringslite_Index at hr
 have hm := m.le_refl
 refine W_calls Tryz.func233 rfl Tryz.ntmps233 [(0, .string p0), (1, .string p1)] kr rfl ?_
 refine W_sr (WO_seg 1 [] kr kr ?_)
 refine WO_et rfl (W_sr ?_)
 refine WO_seg 3 [(5, .int .i64 (ByteArray.size p1 : Int))] kr kr ?_
 refine WO_et rfl (W_seq ?_)
 refine W_block ?_
 refine W_sr ?_
 replace ⟨o1, hr, hrK⟩ := bindS hr
 refine WO_cut (j := 8) (fun L' w' => ∃ (m1 : Mem), L' = [(0, .string p0), (1, .string p1), (5, .int .i64 (ByteArray.size p1 : Int)), (16, .bool o1)] ∧ m.le m1 ∧ St m1 (own) w') ?_ ?_
 ·clear hr st
  have hr := hrK
  clear hrK
  rintro _ w1 ⟨m1, rfl, hm, st⟩
  refine WO_et rfl (W_cond o1 kr ?_ ?_)
  ·intro hc
   rw [if_pos hc] at hr
   refine W_sr (WO_seg 1 [(4, .int .i64 0)] kr kr ?_)
   refine WO_et rfl (W_ret ?_)
   refine X_block_ret ?_
   refine X_then_ret ?_
   obtain rfl := Option.some.inj hr
   refine X_ret [.tmp 4] [.int .i64 0] rfl (ResAll.cons (ResAt.tmp kr) ResAll.nil) ?_
   exact ⟨m1, rfl, hm, st⟩
  ·intro hc
   rw [if_neg (not_true hc)] at hr
   refine W_sr (WO_seg 3 [(24, .bool ((ByteArray.size p1 : Int) == 1))] kr kr ?_)
   refine WO_et rfl (W_cond ((ByteArray.size p1 : Int) == 1) kr ?_ ?_)
   ·intro hc
    rw [if_pos hc] at hr
    refine W_sr (WO_seg 2 [(27, .string p0), (28, .string p1)] kr kr ?_)
    replace ⟨x1, hx1, hr⟩ := bindS hr
    refine WO_one rfl (One_strIndex (d := 29) (t := 9) (x := (.tmp 28)) (y := (.const (.int .i64 0))) kr rfl (ev (.string p1)) (ev (.int .i64 0)) kr hx1 ?_)
    replace ⟨y1, hx2, hr⟩ := bindS hr
    refine WO_one rfl (One_fn 30 213 #[.string p0, .int .u8 (x1.toNat : Int)] kr rfl ?_)
    refine (internal_stringslite_IndexByte_ok st hx2).mono ?_
    clear st
    rintro _ w2 ⟨m2, rfl, hle1, st⟩
    refine ⟨_, rfl, ?_⟩
    have hm := Mem.le_trans hm hle1
    refine WO_seg 1 [(4, .int .i64 y1)] kr kr ?_
    refine WO_et rfl (W_ret ?_)
    refine X_block_ret ?_
    refine X_then_ret ?_
    obtain rfl := Option.some.inj hr
    refine X_ret [.tmp 4] [.int .i64 y1] rfl (ResAll.cons (ResAt.tmp kr) ResAll.nil) ?_
    exact ⟨m2, rfl, hm, st⟩
   ·intro hc
    rw [if_neg (not_true hc)] at hr
    refine W_sr (WO_seg 5 [(31, .bool (decide ((ByteArray.size p1 : Int) ≥ (ByteArray.size p0 : Int))))] kr kr ?_)
    refine WO_et rfl (W_cond (decide ((ByteArray.size p1 : Int) ≥ (ByteArray.size p0 : Int))) kr ?_ ?_)
    ·intro hc
     rw [if_pos hc] at hr
     refine W_sr (WO_seg 1 [(4, .int .i64 (-1))] kr kr ?_)
     refine WO_et rfl (W_ret ?_)
     refine X_block_ret ?_
     refine X_then_ret ?_
     obtain rfl := Option.some.inj hr
     refine X_ret [.tmp 4] [.int .i64 (-1)] rfl (ResAll.cons (ResAt.tmp kr) ResAll.nil) ?_
     exact ⟨m1, rfl, hm, st⟩
    ·intro hc
     rw [if_neg (not_true hc)] at hr
     cases hr
 ·intro K
  clear hrK
  refine WO_seg 3 [(19, .bool ((ByteArray.size p1 : Int) == 0))] kr kr ?_
  rcases bcases ((ByteArray.size p1 : Int) == 0) with hc | hc
  ·rw [if_pos hc] at hr
   refine WO_fact (t := 19) (b := true) ((ByteArray.size p1 : Int) == 0) kr hc ?_
   refine WO_seg 5 [(16, .bool true)] kr kr ?_
   obtain rfl := Option.some.inj hr
   exact WO_env _ kr (K _ _ ⟨m, rfl, hm, st⟩)
  ·rw [if_neg (not_true hc)] at hr
   refine WO_fact (t := 19) (b := false) ((ByteArray.size p1 : Int) == 0) kr hc ?_
   refine WO_seg 5 [(16, .bool (p1.toList == p0.toList))] kr kr ?_
   obtain rfl := Option.some.inj hr
   exact WO_env _ kr (K _ _ ⟨m, rfl, hm, st⟩)
def strings_Index (N : Nat) (p0 : ByteArray) (p1 : ByteArray) : Option (Int) :=
 (internal_stringslite_Index N p0 p1).bind fun y1 => some y1
set_option maxHeartbeats 4000000 in
set_option maxRecDepth 100000 in
theorem strings_Index_ok {N : Nat} {m : Mem} {own : List Piece} {w : World} {p0 : ByteArray} {p1 : ByteArray} {r : Int} (st : St m (own) w) (hr : strings_Index N p0 p1 = some r) : Calls Tryz.prog 203 #[.string p0, .string p1] w fun e w' => ∃ (m' : Mem), e = .returned (.int .i64 r) ∧ m.le m' ∧ St m' (own) w' := by
 unfold strings_Index at hr
 have hm := m.le_refl
 refine W_calls Tryz.func203 rfl Tryz.ntmps203 [(0, .string p0), (1, .string p1)] kr rfl ?_
 refine W_sr (WO_seg 1 [] kr kr ?_)
 refine WO_et rfl (W_sr ?_)
 refine WO_seg 2 [(5, .string p0), (6, .string p1)] kr kr ?_
 replace ⟨y1, hx1, hr⟩ := bindS hr
 refine WO_one rfl (One_fn 7 233 #[.string p0, .string p1] kr rfl ?_)
 refine (internal_stringslite_Index_ok st hx1).mono ?_
 clear st
 rintro _ w1 ⟨m1, rfl, hle1, st⟩
 refine ⟨_, rfl, ?_⟩
 have hm := Mem.le_trans hm hle1
 refine WO_seg 1 [(4, .int .i64 y1)] kr kr ?_
 refine WO_et rfl (W_ret ?_)
 obtain rfl := Option.some.inj hr
 refine X_ret [.tmp 4] [.int .i64 y1] rfl (ResAll.cons (ResAt.tmp kr) ResAll.nil) ?_
 exact ⟨m1, rfl, hm, st⟩
def strings_Count_L1 (N : Nat) (p1 : ByteArray) (s1 : ByteArray × Int) : Option ((ByteArray × Int) ⊕ ((Int))) :=
 (strings_Index N s1.1 p1).bind fun y1 => if (y1 == (-1)) = true then (some (.inr s1.2)) else ((subB s1.1 (IntKind.wrap .i64 (y1 + (ByteArray.size p1 : Int))) (ByteArray.size s1.1 : Int)).bind fun s2 => some (.inl (s2, IntKind.wrap .i64 (s1.2 + 1))))
def strings_Count (N : Nat) (p0 : ByteArray) (p1 : ByteArray) : Option (Int) :=
 if ((ByteArray.size p1 : Int) == 0) = true then none else (if ((ByteArray.size p1 : Int) == 1) = true then ((idxB p1 0).bind fun x1 => some (cntB p0 (x1.toNat : Int))) else ((loopM (strings_Count_L1 N p1) N (p0, 0)).bind fun z => some z))
set_option maxHeartbeats 4000000 in
set_option maxRecDepth 100000 in
theorem strings_Count_ok {N : Nat} {m : Mem} {own : List Piece} {w : World} {p0 : ByteArray} {p1 : ByteArray} {r : Int} (st : St m (own) w) (hr : strings_Count N p0 p1 = some r) : Calls Tryz.prog 202 #[.string p0, .string p1] w fun e w' => ∃ (m' : Mem), e = .returned (.int .i64 r) ∧ m.le m' ∧ St m' (own) w' := by
 unfold strings_Count at hr
 have hm := m.le_refl
 refine W_calls Tryz.func202 rfl Tryz.ntmps202 [(0, .string p0), (1, .string p1)] kr rfl ?_
 refine W_sr (WO_seg 1 [] kr kr ?_)
 refine WO_et rfl (W_seq ?_)
 refine W_sr (WO_seg 3 [(9, .bool ((ByteArray.size p1 : Int) == 0))] kr kr ?_)
 refine WO_et rfl (W_cond ((ByteArray.size p1 : Int) == 0) kr ?_ ?_)
 ·intro hc
  rw [if_pos hc] at hr
  cases hr
 ·intro hc
  rw [if_neg (not_true hc)] at hr
  refine W_skip ?_
  refine X_then ?_
  refine W_seq ?_
  refine W_sr (WO_seg 3 [(15, .bool ((ByteArray.size p1 : Int) == 1))] kr kr ?_)
  refine WO_et rfl (W_cond ((ByteArray.size p1 : Int) == 1) kr ?_ ?_)
  ·intro hc
   rw [if_pos hc] at hr
   refine W_sr (WO_seg 2 [(16, .string p0), (17, .string p1)] kr kr ?_)
   replace ⟨x1, hx1, hr⟩ := bindS hr
   refine WO_one rfl (One_strIndex (d := 18) (t := 9) (x := (.tmp 17)) (y := (.const (.int .i64 0))) kr rfl (ev (.string p1)) (ev (.int .i64 0)) kr hx1 ?_)
   refine WO_one rfl (One_countByte (d := 19) (f := 232) (x := (.tmp 16)) (y := (.tmp 18)) (ts := #[9, 5]) kr rfl (ev (.string p0)) (ev (.int .u8 (x1.toNat : Int))) Tryz.func232 kr kr ?_)
   refine WO_seg 1 [(4, .int .i64 (cntB p0 (x1.toNat : Int)))] kr kr ?_
   refine WO_et rfl (W_ret ?_)
   refine X_then_ret ?_
   obtain rfl := Option.some.inj hr
   refine X_ret [.tmp 4] [.int .i64 (cntB p0 (x1.toNat : Int))] rfl (ResAll.cons (ResAt.tmp kr) ResAll.nil) ?_
   exact ⟨m, rfl, hm, st⟩
  ·intro hc
   rw [if_neg (not_true hc)] at hr
   refine W_skip ?_
   refine X_then ?_
   refine W_sr (WO_seg 1 [(5, .int .i64 0)] kr kr ?_)
   refine WO_et rfl (W_block ?_)
   replace ⟨out1, hr, hrKu1⟩ := bindS hr
   refine W_env _ kr (W_loop (fun k1 L' w' => ∃ (s1 : ByteArray × Int) (m1 : Mem), loopM (strings_Count_L1 N p1) k1 s1 = some out1 ∧ L' = [(0, .string s1.1), (1, .string p1), (5, .int .i64 s1.2)] ∧ m.le m1 ∧ St m1 (own) w') N ⟨(p0, 0), m, hr, rfl, hm, st⟩ ?_)
   clear st hr
   rintro k1 _ w1 ⟨s1, m1, hL, rfl, hm, st⟩
   rcases k1 with _ | k1
   ·exact loopM_zero hL
   ·obtain ⟨qu1, hr, hSu1, hBu1⟩ := loopM_succ hL
    clear hL
    unfold strings_Count_L1 at hr
    refine W_block ?_
    refine W_sr (WO_seg 2 [(20, .string s1.1), (21, .string p1)] kr kr ?_)
    replace ⟨y1, hx2, hr⟩ := bindS hr
    refine WO_one rfl (One_fn 22 203 #[.string s1.1, .string p1] kr rfl ?_)
    refine (strings_Index_ok st hx2).mono ?_
    clear st
    rintro _ w2 ⟨m2, rfl, hle1, st⟩
    refine ⟨_, rfl, ?_⟩
    have hm := Mem.le_trans hm hle1
    refine WO_seg 1 [(6, .int .i64 y1)] kr kr ?_
    refine WO_et rfl (W_seq ?_)
    refine W_sr (WO_seg 2 [(24, .bool (y1 == (-1)))] kr kr ?_)
    refine WO_et rfl (W_cond (y1 == (-1)) kr ?_ ?_)
    ·intro hc
     rw [if_pos hc] at hr
     refine W_sr (WO_seg 2 [(4, .int .i64 s1.2)] kr kr ?_)
     refine WO_et rfl (W_ret ?_)
     refine X_then_ret ?_
     refine X_block_ret ?_
     obtain rfl := Option.some.inj hr
     have ho := hBu1 _ rfl
     subst ho
     have hr := hrKu1
     refine X_then_ret ?_
     refine X_block_ret ?_
     obtain rfl := Option.some.inj hr
     refine X_ret [.tmp 4] [.int .i64 s1.2] rfl (ResAll.cons (ResAt.tmp kr) ResAll.nil) ?_
     exact ⟨m2, rfl, hm, st⟩
    ·intro hc
     rw [if_neg (not_true hc)] at hr
     refine W_skip ?_
     refine X_then ?_
     refine W_sr (WO_seg 3 [(5, .int .i64 (IntKind.wrap .i64 (s1.2 + 1)))] kr kr ?_)
     refine WO_et rfl (W_region ?_)
     refine WO_seg 5 [(28, .string s1.1), (32, .int .i64 (IntKind.wrap .i64 (y1 + (ByteArray.size p1 : Int))))] kr kr ?_
     replace ⟨s2, hx3, hr⟩ := bindS hr
     refine WO_one rfl (One_strSlice (d := 33) (t := 9) (x := (.tmp 28)) (lo := (some (.tmp 32))) (hi := none) kr rfl (ev (.string s1.1)) kr (.inr ⟨_, _, rfl, (ev (.int .i64 (IntKind.wrap .i64 (y1 + (ByteArray.size p1 : Int)))))⟩) (.inl ⟨rfl, rfl⟩) hx3 ?_)
     refine WO_seg 1 [(0, .string s2)] kr kr ?_
     refine WO_end rfl ?_
     refine X_block ?_
     obtain rfl := Option.some.inj hr
     have hL := hSu1 _ rfl
     exact X_env _ kr (X_round k1 (Nat.lt_succ_self _) ⟨(s2, IntKind.wrap .i64 (s1.2 + 1)), m2, hL, rfl, hm, st⟩)
def strings_genSplit_L1 (N : Nat) (p0 : ByteArray) (p1 : ByteArray) (p2 : Int) (o1 : Int) (s1 : ByteArray × Int × List (ByteArray)) : Option ((ByteArray × Int × List (ByteArray)) ⊕ ((ByteArray × Int × List (ByteArray)))) :=
 if (decide (s1.2.1 < (IntKind.wrap .i64 ((if (IntKind.wrap .i64 ((ByteArray.size p0 : Int) + 1)) < o1 then (IntKind.wrap .i64 ((ByteArray.size p0 : Int) + 1)) else o1) - 1)))) = true then ((strings_Index N s1.1 p1).bind fun y2 => if (decide (y2 < 0)) = true then (some (.inr (s1.1, s1.2.1, s1.2.2))) else ((subB s1.1 0 (IntKind.wrap .i64 (y2 + p2))).bind fun s2 => (idx s1.2.2 s1.2.1).bind fun x1 => (subB s1.1 (IntKind.wrap .i64 (y2 + (ByteArray.size p1 : Int))) (ByteArray.size s1.1 : Int)).bind fun s3 => some (.inl (s3, IntKind.wrap .i64 (s1.2.1 + 1), List.set s1.2.2 (Int.toNat s1.2.1) s2)))) else (some (.inr (s1.1, s1.2.1, s1.2.2)))
def strings_genSplit (N : Nat) (p0 : ByteArray) (p1 : ByteArray) (p2 : Int) (p3 : Int) : Option (List ByteArray) :=
 if (p3 == 0) = true then (some ([] : List (ByteArray))) else (if (p1.toList == (⟨#[]⟩ : ByteArray).toList) = true then none else ((if (decide (p3 < 0)) = true then ((strings_Count N p0 p1).bind fun y1 => some (IntKind.wrap .i64 (y1 + 1))) else (some p3) : Option (Int)).bind fun o1 => (makeA 16 (⟨#[]⟩ : ByteArray) (if (IntKind.wrap .i64 ((ByteArray.size p0 : Int) + 1)) < o1 then (IntKind.wrap .i64 ((ByteArray.size p0 : Int) + 1)) else o1)).bind fun l1 => (loopM (strings_genSplit_L1 N p0 p1 p2 o1) N (p0, 0, l1)).bind fun o2 => (idx o2.2.2 o2.2.1).bind fun x2 => (subS (List.set o2.2.2 (Int.toNat o2.2.1) o2.1) 0 (IntKind.wrap .i64 (o2.2.1 + 1))).bind fun l2 => some l2))
set_option maxHeartbeats 4000000 in
set_option maxRecDepth 100000 in
theorem strings_genSplit_ok {N : Nat} {m : Mem} {own : List Piece} {w : World} {p0 : ByteArray} {p1 : ByteArray} {p2 : Int} {p3 : Int} {r : List ByteArray} (st : St m (own) w) (hr : strings_genSplit N p0 p1 p2 p3 = some r) : Calls Tryz.prog 155 #[.string p0, .string p1, .int .i64 p2, .int .i64 p3] w fun e w' => ∃ (ra1 : Option Addr) (rc1 : Nat) (m' : Mem), e = .returned (.slice ra1 (List.length r) rc1) ∧ m.le m' ∧ St m' (own) w' ∧ RepS cStr m' ra1 rc1 r := by
 unfold strings_genSplit at hr
 have hm := m.le_refl
 refine W_calls Tryz.func155 rfl Tryz.ntmps155 [(0, .string p0), (1, .string p1), (2, .int .i64 p2), (3, .int .i64 p3)] kr rfl ?_
 refine W_sr (WO_seg 1 [] kr kr ?_)
 refine WO_et rfl (W_seq ?_)
 refine W_sr (WO_seg 2 [(13, .bool (p3 == 0))] kr kr ?_)
 refine WO_et rfl (W_cond (p3 == 0) kr ?_ ?_)
 ·intro hc
  rw [if_pos hc] at hr
  refine W_sr (WO_seg 1 [(8, .slice none (List.length ([] : List (ByteArray))) 0)] kr kr ?_)
  refine WO_et rfl (W_ret ?_)
  refine X_then_ret ?_
  obtain rfl := Option.some.inj hr
  refine X_ret [.tmp 8] [.slice none (List.length ([] : List (ByteArray))) 0] rfl (ResAll.cons (ResAt.tmp kr) ResAll.nil) ?_
  exact ⟨none, 0, m, rfl, hm, st, (RepS.nil _ _)⟩
 ·intro hc
  rw [if_neg (not_true hc)] at hr
  refine W_skip ?_
  refine X_then ?_
  refine W_seq ?_
  refine W_sr (WO_seg 2 [(15, .bool (p1.toList == (⟨#[]⟩ : ByteArray).toList))] kr kr ?_)
  refine WO_et rfl (W_cond (p1.toList == (⟨#[]⟩ : ByteArray).toList) kr ?_ ?_)
  ·intro hc
   rw [if_pos hc] at hr
   cases hr
  ·intro hc
   rw [if_neg (not_true hc)] at hr
   refine W_skip ?_
   refine X_then ?_
   refine W_seq ?_
   refine W_sr (WO_seg 2 [(20, .bool (decide (p3 < 0)))] kr kr ?_)
   refine WO_et rfl ?_
   replace ⟨o1, hr, hrKu1⟩ := bindS hr
   refine W_cut .normal (fun L' w' => ∃ (m1 : Mem), L' = [(0, .string p0), (1, .string p1), (2, .int .i64 p2), (3, .int .i64 o1)] ∧ m.le m1 ∧ St m1 (own) w') ?_ ?_
   ·clear hr st
    have hr := hrKu1
    clear hrKu1
    rintro _ w1 ⟨m1, rfl, hm, st⟩
    refine X_then ?_
    refine W_sr (WO_seg 6 [(3, .int .i64 (if (IntKind.wrap .i64 ((ByteArray.size p0 : Int) + 1)) < o1 then (IntKind.wrap .i64 ((ByteArray.size p0 : Int) + 1)) else o1))] kr kr ?_)
    refine WO_et rfl (W_sr ?_)
    refine WO_seg 1 [(30, .int .i64 (if (IntKind.wrap .i64 ((ByteArray.size p0 : Int) + 1)) < o1 then (IntKind.wrap .i64 ((ByteArray.size p0 : Int) + 1)) else o1))] kr kr ?_
    replace ⟨l1, hx2, hr⟩ := bindS hr
    refine WO_one rfl (One_makeArr (d := 31) (t := 33) (e := 9) (by_ := 16) (x := (.tmp 30)) (y := (.tmp 30)) (fun x : ByteArray => Value.string x) kr rfl (ev (.int .i64 (if (IntKind.wrap .i64 ((ByteArray.size p0 : Int) + 1)) < o1 then (IntKind.wrap .i64 ((ByteArray.size p0 : Int) + 1)) else o1))) (ev (.int .i64 (if (IntKind.wrap .i64 ((ByteArray.size p0 : Int) + 1)) < o1 then (IntKind.wrap .i64 ((ByteArray.size p0 : Int) + 1)) else o1))) kr kr rfl st hx2 ?_)
    clear st
    intro b1 w3 hn1 st
    refine WO_seg 1 [(9, .slice (some ⟨b1, 0, none⟩) (Int.toNat (if (IntKind.wrap .i64 ((ByteArray.size p0 : Int) + 1)) < o1 then (IntKind.wrap .i64 ((ByteArray.size p0 : Int) + 1)) else o1)) (Int.toNat (if (IntKind.wrap .i64 ((ByteArray.size p0 : Int) + 1)) < o1 then (IntKind.wrap .i64 ((ByteArray.size p0 : Int) + 1)) else o1)))] kr kr ?_
    refine WO_et rfl (W_sr ?_)
    refine WO_seg 3 [(3, .int .i64 (IntKind.wrap .i64 ((if (IntKind.wrap .i64 ((ByteArray.size p0 : Int) + 1)) < o1 then (IntKind.wrap .i64 ((ByteArray.size p0 : Int) + 1)) else o1) - 1)))] kr kr ?_
    refine WO_et rfl (W_sr ?_)
    refine WO_seg 1 [(10, .int .i64 0)] kr kr ?_
    refine WO_et rfl (W_seq ?_)
    refine W_block ?_
    replace ⟨out1, hr, hrKu2⟩ := bindS hr
    refine W_cut (.exit 0) (fun L' w' => ∃ (o2 : ByteArray × Int × List (ByteArray)) (m3 : Mem), o2 = out1 ∧ L' = [(0, .string o2.1), (9, .slice (some ⟨b1, 0, none⟩) (Int.toNat (if (IntKind.wrap .i64 ((ByteArray.size p0 : Int) + 1)) < o1 then (IntKind.wrap .i64 ((ByteArray.size p0 : Int) + 1)) else o1)) (Int.toNat (if (IntKind.wrap .i64 ((ByteArray.size p0 : Int) + 1)) < o1 then (IntKind.wrap .i64 ((ByteArray.size p0 : Int) + 1)) else o1))), (10, .int .i64 o2.2.1)] ∧ m.le m3 ∧ St m3 (.blk b1 (.cells (acells (fun x : ByteArray => Value.string x) o2.2.2 []) 9 (0, 0)) :: own) w' ∧ List.length o2.2.2 = (Int.toNat (if (IntKind.wrap .i64 ((ByteArray.size p0 : Int) + 1)) < o1 then (IntKind.wrap .i64 ((ByteArray.size p0 : Int) + 1)) else o1))) ?_ ?_
    ·clear hr st
     rintro _ w4 ⟨o2, m3, rfl, rfl, hm, st, hn2⟩
     have hr := hrKu2
     clear hrKu2
     refine X_block_eq ?_
     refine X_then ?_
     refine W_sr (WO_seg 3 [(58, .slice (some ⟨b1, 0, none⟩) (Int.toNat (if (IntKind.wrap .i64 ((ByteArray.size p0 : Int) + 1)) < o1 then (IntKind.wrap .i64 ((ByteArray.size p0 : Int) + 1)) else o1)) (Int.toNat (if (IntKind.wrap .i64 ((ByteArray.size p0 : Int) + 1)) < o1 then (IntKind.wrap .i64 ((ByteArray.size p0 : Int) + 1)) else o1))), (59, .int .i64 o2.2.1), (60, .string o2.1)] kr kr ?_)
     replace ⟨x2, hx7, hr⟩ := bindS hr
     refine WO_one rfl (One_arrIndex (d := 61) (t := 33) (e := 9) (x := (.tmp 58)) (y := (.tmp 59)) kr rfl (ev (.slice (some ⟨b1, 0, none⟩) (Int.toNat (if (IntKind.wrap .i64 ((ByteArray.size p0 : Int) + 1)) < o1 then (IntKind.wrap .i64 ((ByteArray.size p0 : Int) + 1)) else o1)) (Int.toNat (if (IntKind.wrap .i64 ((ByteArray.size p0 : Int) + 1)) < o1 then (IntKind.wrap .i64 ((ByteArray.size p0 : Int) + 1)) else o1)))) (ev (.int .i64 o2.2.1)) kr hn2 hx7 ?_)
     refine WO_one rfl (One_arrStore (f := (fun x : ByteArray => Value.string x)) (u := o2.1) (t := 9) (x := (.tmp 61)) (y := (.tmp 60)) kr (ev (.pointer (some ⟨b1, Int.toNat o2.2.1, none⟩))) (ev (.string o2.1)) st hx7 rfl kr ?_)
     clear st
     intro w8 st
     have hn5 : List.length (List.set o2.2.2 (Int.toNat o2.2.1) o2.1) = (Int.toNat (if (IntKind.wrap .i64 ((ByteArray.size p0 : Int) + 1)) < o1 then (IntKind.wrap .i64 ((ByteArray.size p0 : Int) + 1)) else o1)) := set_len hn2 _ _
     refine WO_et rfl (W_sr ?_)
     refine WO_seg 3 [(62, .slice (some ⟨b1, 0, none⟩) (Int.toNat (if (IntKind.wrap .i64 ((ByteArray.size p0 : Int) + 1)) < o1 then (IntKind.wrap .i64 ((ByteArray.size p0 : Int) + 1)) else o1)) (Int.toNat (if (IntKind.wrap .i64 ((ByteArray.size p0 : Int) + 1)) < o1 then (IntKind.wrap .i64 ((ByteArray.size p0 : Int) + 1)) else o1))), (64, .int .i64 (IntKind.wrap .i64 (o2.2.1 + 1)))] kr kr ?_
     obtain ⟨m6, hle3, st, r1⟩ := St.freeze (c := cStr) st hn5 (Nat.le_refl _) (makeA_le hx2) (acells_size hn5 (Nat.add_zero _)) rfl (fun _ _ => rfl)
     have hm := Mem.le_trans hm hle3
     refine WO_env [(9, .slice (some ⟨b1, 0, none⟩) (List.length (List.set o2.2.2 (Int.toNat o2.2.1) o2.1)) (Int.toNat (if (IntKind.wrap .i64 ((ByteArray.size p0 : Int) + 1)) < o1 then (IntKind.wrap .i64 ((ByteArray.size p0 : Int) + 1)) else o1))), (10, .int .i64 o2.2.1), (62, .slice (some ⟨b1, 0, none⟩) (List.length (List.set o2.2.2 (Int.toNat o2.2.1) o2.1)) (Int.toNat (if (IntKind.wrap .i64 ((ByteArray.size p0 : Int) + 1)) < o1 then (IntKind.wrap .i64 ((ByteArray.size p0 : Int) + 1)) else o1))), (64, .int .i64 (IntKind.wrap .i64 (o2.2.1 + 1)))] (by (try simp only [hn5]); kernel_rfl) ?_
     replace ⟨l2, hx8, hr⟩ := bindS hr
     refine WO_one rfl (One_slice (d := 65) (t := 33) (e := 9) (x := (.tmp 62)) (lo := none) (hi := (some (.tmp 64))) cStr kr rfl (ev (.slice (some ⟨b1, 0, none⟩) (List.length (List.set o2.2.2 (Int.toNat o2.2.1) o2.1)) (Int.toNat (if (IntKind.wrap .i64 ((ByteArray.size p0 : Int) + 1)) < o1 then (IntKind.wrap .i64 ((ByteArray.size p0 : Int) + 1)) else o1)))) kr r1 (.inl ⟨rfl, rfl⟩) (.inr ⟨_, _, rfl, (ev (.int .i64 (IntKind.wrap .i64 (o2.2.1 + 1))))⟩) hx8 ?_)
     intro a1 c1 r2
     refine WO_seg 1 [(8, .slice a1 (List.length l2) c1)] kr kr ?_
     refine WO_end rfl ?_
     have st := st.tail
     refine X_then ?_
     refine W_ret ?_
     obtain rfl := Option.some.inj hr
     refine X_ret [.tmp 8] [.slice a1 (List.length l2) c1] rfl (ResAll.cons (ResAt.tmp kr) ResAll.nil) ?_
     exact ⟨a1, c1, m6, rfl, hm, st, r2⟩
    intro K0_u2
    clear hrKu2
    refine W_env _ kr (W_loop (fun k1 L' w' => ∃ (s1 : ByteArray × Int × List (ByteArray)) (m4 : Mem), loopM (strings_genSplit_L1 N p0 p1 p2 o1) k1 s1 = some out1 ∧ L' = [(0, .string s1.1), (1, .string p1), (2, .int .i64 p2), (3, .int .i64 (IntKind.wrap .i64 ((if (IntKind.wrap .i64 ((ByteArray.size p0 : Int) + 1)) < o1 then (IntKind.wrap .i64 ((ByteArray.size p0 : Int) + 1)) else o1) - 1))), (9, .slice (some ⟨b1, 0, none⟩) (Int.toNat (if (IntKind.wrap .i64 ((ByteArray.size p0 : Int) + 1)) < o1 then (IntKind.wrap .i64 ((ByteArray.size p0 : Int) + 1)) else o1)) (Int.toNat (if (IntKind.wrap .i64 ((ByteArray.size p0 : Int) + 1)) < o1 then (IntKind.wrap .i64 ((ByteArray.size p0 : Int) + 1)) else o1))), (10, .int .i64 s1.2.1)] ∧ m.le m4 ∧ St m4 (.blk b1 (.cells (acells (fun x : ByteArray => Value.string x) s1.2.2 []) 9 (0, 0)) :: own) w' ∧ List.length s1.2.2 = (Int.toNat (if (IntKind.wrap .i64 ((ByteArray.size p0 : Int) + 1)) < o1 then (IntKind.wrap .i64 ((ByteArray.size p0 : Int) + 1)) else o1))) N ⟨(p0, 0, l1), m1, hr, rfl, hm, st, hn1⟩ ?_)
    clear st hr
    rintro k1 _ w5 ⟨s1, m4, hL, rfl, hm, st, hn3⟩
    rcases k1 with _ | k1
    ·exact loopM_zero hL
    ·obtain ⟨qu2, hr, hSu2, hBu2⟩ := loopM_succ hL
     clear hL
     unfold strings_genSplit_L1 at hr
     refine W_seq ?_
     refine W_sr (WO_seg 3 [(36, .bool (decide (s1.2.1 < (IntKind.wrap .i64 ((if (IntKind.wrap .i64 ((ByteArray.size p0 : Int) + 1)) < o1 then (IntKind.wrap .i64 ((ByteArray.size p0 : Int) + 1)) else o1) - 1)))))] kr kr ?_)
     refine WO_et rfl (W_cond (decide (s1.2.1 < (IntKind.wrap .i64 ((if (IntKind.wrap .i64 ((ByteArray.size p0 : Int) + 1)) < o1 then (IntKind.wrap .i64 ((ByteArray.size p0 : Int) + 1)) else o1) - 1)))) kr ?_ ?_)
     ·intro hc
      rw [if_pos hc] at hr
      refine W_skip ?_
      refine X_then ?_
      refine W_block ?_
      refine W_sr (WO_seg 2 [(37, .string s1.1), (38, .string p1)] kr kr ?_)
      replace ⟨y2, hx3, hr⟩ := bindS hr
      refine WO_one rfl (One_fn 39 203 #[.string s1.1, .string p1] kr rfl ?_)
      refine (strings_Index_ok st hx3).mono ?_
      clear st
      rintro _ w6 ⟨m5, rfl, hle2, st⟩
      refine ⟨_, rfl, ?_⟩
      have hm := Mem.le_trans hm hle2
      refine WO_seg 1 [(11, .int .i64 y2)] kr kr ?_
      refine WO_et rfl (W_seq ?_)
      refine W_sr (WO_seg 2 [(41, .bool (decide (y2 < 0)))] kr kr ?_)
      refine WO_et rfl (W_cond (decide (y2 < 0)) kr ?_ ?_)
      ·intro hc
       rw [if_pos hc] at hr
       refine W_exit ?_
       refine X_then_exit ?_
       refine X_block_ne rfl ?_
       obtain rfl := Option.some.inj hr
       have ho := hBu2 _ rfl
       refine X_then_exit ?_
       exact X_env _ kr (K0_u2 _ _ ⟨(s1.1, s1.2.1, s1.2.2), m5, ho, rfl, hm, st, hn3⟩)
      ·intro hc
       rw [if_neg (not_true hc)] at hr
       refine W_skip ?_
       refine X_then ?_
       refine W_sr (WO_seg 6 [(42, .slice (some ⟨b1, 0, none⟩) (Int.toNat (if (IntKind.wrap .i64 ((ByteArray.size p0 : Int) + 1)) < o1 then (IntKind.wrap .i64 ((ByteArray.size p0 : Int) + 1)) else o1)) (Int.toNat (if (IntKind.wrap .i64 ((ByteArray.size p0 : Int) + 1)) < o1 then (IntKind.wrap .i64 ((ByteArray.size p0 : Int) + 1)) else o1))), (43, .int .i64 s1.2.1), (44, .string s1.1), (47, .int .i64 (IntKind.wrap .i64 (y2 + p2)))] kr kr ?_)
       replace ⟨s2, hx4, hr⟩ := bindS hr
       refine WO_one rfl (One_strSlice (d := 48) (t := 9) (x := (.tmp 44)) (lo := none) (hi := (some (.tmp 47))) kr rfl (ev (.string s1.1)) kr (.inl ⟨rfl, rfl⟩) (.inr ⟨_, _, rfl, (ev (.int .i64 (IntKind.wrap .i64 (y2 + p2))))⟩) hx4 ?_)
       replace ⟨x1, hx5, hr⟩ := bindS hr
       refine WO_one rfl (One_arrIndex (d := 49) (t := 33) (e := 9) (x := (.tmp 42)) (y := (.tmp 43)) kr rfl (ev (.slice (some ⟨b1, 0, none⟩) (Int.toNat (if (IntKind.wrap .i64 ((ByteArray.size p0 : Int) + 1)) < o1 then (IntKind.wrap .i64 ((ByteArray.size p0 : Int) + 1)) else o1)) (Int.toNat (if (IntKind.wrap .i64 ((ByteArray.size p0 : Int) + 1)) < o1 then (IntKind.wrap .i64 ((ByteArray.size p0 : Int) + 1)) else o1)))) (ev (.int .i64 s1.2.1)) kr hn3 hx5 ?_)
       refine WO_one rfl (One_arrStore (f := (fun x : ByteArray => Value.string x)) (u := s2) (t := 9) (x := (.tmp 49)) (y := (.tmp 48)) kr (ev (.pointer (some ⟨b1, Int.toNat s1.2.1, none⟩))) (ev (.string s2)) st hx5 rfl kr ?_)
       clear st
       intro w7 st
       have hn4 : List.length (List.set s1.2.2 (Int.toNat s1.2.1) s2) = (Int.toNat (if (IntKind.wrap .i64 ((ByteArray.size p0 : Int) + 1)) < o1 then (IntKind.wrap .i64 ((ByteArray.size p0 : Int) + 1)) else o1)) := set_len hn3 _ _
       refine WO_et rfl (W_sr ?_)
       refine WO_seg 5 [(50, .string s1.1), (54, .int .i64 (IntKind.wrap .i64 (y2 + (ByteArray.size p1 : Int))))] kr kr ?_
       replace ⟨s3, hx6, hr⟩ := bindS hr
       refine WO_one rfl (One_strSlice (d := 55) (t := 9) (x := (.tmp 50)) (lo := (some (.tmp 54))) (hi := none) kr rfl (ev (.string s1.1)) kr (.inr ⟨_, _, rfl, (ev (.int .i64 (IntKind.wrap .i64 (y2 + (ByteArray.size p1 : Int)))))⟩) (.inl ⟨rfl, rfl⟩) hx6 ?_)
       refine WO_seg 1 [(0, .string s3)] kr kr ?_
       refine WO_et rfl (W_region ?_)
       refine WO_seg 3 [(10, .int .i64 (IntKind.wrap .i64 (s1.2.1 + 1)))] kr kr ?_
       refine WO_end rfl ?_
       refine X_block ?_
       obtain rfl := Option.some.inj hr
       have hL := hSu2 _ rfl
       exact X_env _ kr (X_round k1 (Nat.lt_succ_self _) ⟨(s3, IntKind.wrap .i64 (s1.2.1 + 1), List.set s1.2.2 (Int.toNat s1.2.1) s2), m5, hL, rfl, hm, st, hn4⟩)
     ·intro hc
      rw [if_neg (not_true hc)] at hr
      refine W_exit ?_
      refine X_then_exit ?_
      obtain rfl := Option.some.inj hr
      have ho := hBu2 _ rfl
      refine X_then_exit ?_
      exact X_env _ kr (K0_u2 _ _ ⟨(s1.1, s1.2.1, s1.2.2), m4, ho, rfl, hm, st, hn3⟩)
   ·intro Ku1
    clear hrKu1
    refine W_cond (decide (p3 < 0)) kr ?_ ?_
    ·intro hc
     rw [if_pos hc] at hr
     refine W_region ?_
     refine WO_seg 2 [(21, .string p0), (22, .string p1)] kr kr ?_
     replace ⟨y1, hx1, hr⟩ := bindS hr
     refine WO_one rfl (One_fn 23 202 #[.string p0, .string p1] kr rfl ?_)
     refine (strings_Count_ok st hx1).mono ?_
     clear st
     rintro _ w2 ⟨m2, rfl, hle1, st⟩
     refine ⟨_, rfl, ?_⟩
     have hm := Mem.le_trans hm hle1
     refine WO_seg 2 [(3, .int .i64 (IntKind.wrap .i64 (y1 + 1)))] kr kr ?_
     refine WO_end rfl ?_
     obtain rfl := Option.some.inj hr
     exact X_env _ kr (Ku1 _ _ ⟨m2, rfl, hm, st⟩)
    ·intro hc
     rw [if_neg (not_true hc)] at hr
     refine W_skip ?_
     obtain rfl := Option.some.inj hr
     exact X_env _ kr (Ku1 _ _ ⟨m, rfl, hm, st⟩)
def strings_Split (N : Nat) (p0 : ByteArray) (p1 : ByteArray) : Option (List ByteArray) :=
 (strings_genSplit N p0 p1 0 (-1)).bind fun y1 => some y1
set_option maxHeartbeats 4000000 in
set_option maxRecDepth 100000 in
theorem strings_Split_ok {N : Nat} {m : Mem} {own : List Piece} {w : World} {p0 : ByteArray} {p1 : ByteArray} {r : List ByteArray} (st : St m (own) w) (hr : strings_Split N p0 p1 = some r) : Calls Tryz.prog 128 #[.string p0, .string p1] w fun e w' => ∃ (ra1 : Option Addr) (rc1 : Nat) (m' : Mem), e = .returned (.slice ra1 (List.length r) rc1) ∧ m.le m' ∧ St m' (own) w' ∧ RepS cStr m' ra1 rc1 r := by
 unfold strings_Split at hr
 have hm := m.le_refl
 refine W_calls Tryz.func128 rfl Tryz.ntmps128 [(0, .string p0), (1, .string p1)] kr rfl ?_
 refine W_sr (WO_seg 1 [] kr kr ?_)
 refine WO_et rfl (W_sr ?_)
 refine WO_seg 2 [(5, .string p0), (6, .string p1)] kr kr ?_
 replace ⟨y1, hx1, hr⟩ := bindS hr
 refine WO_one rfl (One_fn 7 155 #[.string p0, .string p1, .int .i64 0, .int .i64 (-1)] kr rfl ?_)
 refine (strings_genSplit_ok st hx1).mono ?_
 clear st
 rintro _ w1 ⟨a1, c1, m1, rfl, hle1, st, r1⟩
 refine ⟨_, rfl, ?_⟩
 have hm := Mem.le_trans hm hle1
 refine WO_seg 1 [(4, .slice a1 (List.length y1) c1)] kr kr ?_
 refine WO_et rfl (W_ret ?_)
 obtain rfl := Option.some.inj hr
 refine X_ret [.tmp 4] [.slice a1 (List.length y1) c1] rfl (ResAll.cons (ResAt.tmp kr) ResAll.nil) ?_
 exact ⟨a1, c1, m1, rfl, hm, st, r1⟩
def lexer_kinds_L2 (N : Nat) (kv1 : Int × ByteArray) (l1 : List (UInt8)) (s2 : Int × (Option (List (Int × Int)))) : Option ((Int × (Option (List (Int × Int)))) ⊕ (((Option (List (Int × Int)))))) :=
 if (decide (s2.1 < (List.length l1 : Int))) = true then ((idx l1 s2.1).bind fun x1 => (msetQ s2.2 (x1.toNat : Int) kv1.1).bind fun mp9 => some (.inl (IntKind.wrap .i64 (s2.1 + 1), mp9))) else (some (.inr s2.2))
def lexer_kinds_L1 (N : Nat) (z1 : Option (Int × ByteArray)) (s1 : (Option (List (Int × Int)))) : Option (((Option (List (Int × Int)))) ⊕ (((Option (List (Int × Int)))))) :=
 (match z1 with | none => some (.inr s1) | some kv1 => (bytesOf kv1.2).bind fun l1 => (loopM (lexer_kinds_L2 N kv1 l1) N (0, s1)).bind fun o2 => some (.inl o2))
def lexer_kinds (N : Nat) : Option (Option (List (Int × Int))) :=
 (msetQ (some [] : Option (List (Int × ByteArray))) 1 (⟨#[97, 98, 99, 100, 101, 102, 103, 104, 105, 106, 107, 108, 109, 110, 111, 112, 113, 114, 115, 116, 117, 118, 119, 120, 121, 122]⟩ : ByteArray)).bind fun mp1 => (msetQ mp1 2 (⟨#[48, 49, 50, 51, 52, 53, 54, 55, 56, 57]⟩ : ByteArray)).bind fun mp2 => (msetQ mp2 3 (⟨#[95]⟩ : ByteArray)).bind fun mp3 => (msetQ mp3 4 (⟨#[46]⟩ : ByteArray)).bind fun mp4 => (msetQ mp4 5 (⟨#[9, 10, 13, 32]⟩ : ByteArray)).bind fun mp5 => (msetQ mp5 6 (⟨#[35]⟩ : ByteArray)).bind fun mp6 => (msetQ mp6 7 (⟨#[34]⟩ : ByteArray)).bind fun mp7 => (msetQ mp7 8 (⟨#[59, 44, 40, 41, 43, 45, 42, 47, 37, 60, 61]⟩ : ByteArray)).bind fun mp8 => (mrange (lexer_kinds_L1 N) (Option.getD mp8 []) (some [] : Option (List (Int × Int)))).bind fun o1 => some o1
set_option maxHeartbeats 4000000 in
set_option maxRecDepth 100000 in
theorem lexer_kinds_ok {N : Nat} {m : Mem} {own : List Piece} {w : World} {r : Option (List (Int × Int))} (st : St m (own) w) (hr : lexer_kinds N = some r) : Calls Tryz.prog 121 #[] w fun e w' => ∃ (rq1 : Option Nat) (re1 : Array MapEntry) (rk1 : Nat) (m' : Mem), e = .returned (.map rq1) ∧ m.le m' ∧ St m' (mpiece rq1 re1 rk1 :: own) w' ∧ MapQ (fun n : Int => Value.int .u8 n) (cInt .i64) false m' rq1 re1 rk1 r := by
 unfold lexer_kinds at hr
 have hm := m.le_refl
 refine W_calls Tryz.func121 rfl Tryz.ntmps121 [] kr rfl ?_
 refine W_sr (WO_seg 1 [] kr kr ?_)
 refine WO_et rfl (W_sr ?_)
 refine WO_one rfl (One_makeMap (d := 6) (t := 164) kr rfl st ?_)
 clear st
 intro b1 w1 st
 refine WO_seg 1 [(1, .map (some b1))] kr kr ?_
 refine WO_et rfl (W_seq ?_)
 refine W_sr (WO_one rfl (One_makeMap (d := 7) (t := 207) kr rfl st ?_))
 clear st
 intro b2 w2 st
 replace ⟨mp1, hx1, hr⟩ := bindS hr
 refine WO_one rfl (One_insert (ek := (fun n : Int => Value.int .i64 n)) (c := cStr) (agg := false) (k := 1) (yv := (⟨#[97, 98, 99, 100, 101, 102, 103, 104, 105, 106, 107, 108, 109, 110, 111, 112, 113, 114, 115, 116, 117, 118, 119, 120, 121, 122]⟩ : ByteArray)) (cs := [.string (⟨#[97, 98, 99, 100, 101, 102, 103, 104, 105, 106, 107, 108, 109, 110, 111, 112, 113, 114, 115, 116, 117, 118, 119, 120, 121, 122]⟩ : ByteArray)]) (z := (.string (⟨#[]⟩ : ByteArray))) (v := (.string (⟨#[97, 98, 99, 100, 101, 102, 103, 104, 105, 106, 107, 108, 109, 110, 111, 112, 113, 114, 115, 116, 117, 118, 119, 120, 121, 122]⟩ : ByteArray))) (kt := 3) (et := 9) (t := 207) (x := (.tmp 7)) (y := (.const (.int .i64 1))) (u := (.const (.string (⟨#[97, 98, 99, 100, 101, 102, 103, 104, 105, 106, 107, 108, 109, 110, 111, 112, 113, 114, 115, 116, 117, 118, 119, 120, 121, 122]⟩ : ByteArray)))) kr (ev (.map (some b2))) (ev (.int .i64 1)) (ev (.string (⟨#[97, 98, 99, 100, 101, 102, 103, 104, 105, 106, 107, 108, 109, 110, 111, 112, 113, 114, 115, 116, 117, 118, 119, 120, 121, 122]⟩ : ByteArray))) kr (keyInt kr) st (MapQ.new (fun n : Int => Value.int .i64 n) cStr false _ _) rfl rfl hx1 ?_)
 clear st
 intro es1 ck1 w3 st r1
 replace ⟨mp2, hx2, hr⟩ := bindS hr
 refine WO_one rfl (One_insert (ek := (fun n : Int => Value.int .i64 n)) (c := cStr) (agg := false) (k := 2) (yv := (⟨#[48, 49, 50, 51, 52, 53, 54, 55, 56, 57]⟩ : ByteArray)) (cs := [.string (⟨#[48, 49, 50, 51, 52, 53, 54, 55, 56, 57]⟩ : ByteArray)]) (z := (.string (⟨#[]⟩ : ByteArray))) (v := (.string (⟨#[48, 49, 50, 51, 52, 53, 54, 55, 56, 57]⟩ : ByteArray))) (kt := 3) (et := 9) (t := 207) (x := (.tmp 7)) (y := (.const (.int .i64 2))) (u := (.const (.string (⟨#[48, 49, 50, 51, 52, 53, 54, 55, 56, 57]⟩ : ByteArray)))) kr (ev (.map (some b2))) (ev (.int .i64 2)) (ev (.string (⟨#[48, 49, 50, 51, 52, 53, 54, 55, 56, 57]⟩ : ByteArray))) kr (keyInt kr) st r1 rfl rfl hx2 ?_)
 clear st
 intro es2 ck2 w4 st r2
 replace ⟨mp3, hx3, hr⟩ := bindS hr
 refine WO_one rfl (One_insert (ek := (fun n : Int => Value.int .i64 n)) (c := cStr) (agg := false) (k := 3) (yv := (⟨#[95]⟩ : ByteArray)) (cs := [.string (⟨#[95]⟩ : ByteArray)]) (z := (.string (⟨#[]⟩ : ByteArray))) (v := (.string (⟨#[95]⟩ : ByteArray))) (kt := 3) (et := 9) (t := 207) (x := (.tmp 7)) (y := (.const (.int .i64 3))) (u := (.const (.string (⟨#[95]⟩ : ByteArray)))) kr (ev (.map (some b2))) (ev (.int .i64 3)) (ev (.string (⟨#[95]⟩ : ByteArray))) kr (keyInt kr) st r2 rfl rfl hx3 ?_)
 clear st
 intro es3 ck3 w5 st r3
 replace ⟨mp4, hx4, hr⟩ := bindS hr
 refine WO_one rfl (One_insert (ek := (fun n : Int => Value.int .i64 n)) (c := cStr) (agg := false) (k := 4) (yv := (⟨#[46]⟩ : ByteArray)) (cs := [.string (⟨#[46]⟩ : ByteArray)]) (z := (.string (⟨#[]⟩ : ByteArray))) (v := (.string (⟨#[46]⟩ : ByteArray))) (kt := 3) (et := 9) (t := 207) (x := (.tmp 7)) (y := (.const (.int .i64 4))) (u := (.const (.string (⟨#[46]⟩ : ByteArray)))) kr (ev (.map (some b2))) (ev (.int .i64 4)) (ev (.string (⟨#[46]⟩ : ByteArray))) kr (keyInt kr) st r3 rfl rfl hx4 ?_)
 clear st
 intro es4 ck4 w6 st r4
 replace ⟨mp5, hx5, hr⟩ := bindS hr
 refine WO_one rfl (One_insert (ek := (fun n : Int => Value.int .i64 n)) (c := cStr) (agg := false) (k := 5) (yv := (⟨#[9, 10, 13, 32]⟩ : ByteArray)) (cs := [.string (⟨#[9, 10, 13, 32]⟩ : ByteArray)]) (z := (.string (⟨#[]⟩ : ByteArray))) (v := (.string (⟨#[9, 10, 13, 32]⟩ : ByteArray))) (kt := 3) (et := 9) (t := 207) (x := (.tmp 7)) (y := (.const (.int .i64 5))) (u := (.const (.string (⟨#[9, 10, 13, 32]⟩ : ByteArray)))) kr (ev (.map (some b2))) (ev (.int .i64 5)) (ev (.string (⟨#[9, 10, 13, 32]⟩ : ByteArray))) kr (keyInt kr) st r4 rfl rfl hx5 ?_)
 clear st
 intro es5 ck5 w7 st r5
 replace ⟨mp6, hx6, hr⟩ := bindS hr
 refine WO_one rfl (One_insert (ek := (fun n : Int => Value.int .i64 n)) (c := cStr) (agg := false) (k := 6) (yv := (⟨#[35]⟩ : ByteArray)) (cs := [.string (⟨#[35]⟩ : ByteArray)]) (z := (.string (⟨#[]⟩ : ByteArray))) (v := (.string (⟨#[35]⟩ : ByteArray))) (kt := 3) (et := 9) (t := 207) (x := (.tmp 7)) (y := (.const (.int .i64 6))) (u := (.const (.string (⟨#[35]⟩ : ByteArray)))) kr (ev (.map (some b2))) (ev (.int .i64 6)) (ev (.string (⟨#[35]⟩ : ByteArray))) kr (keyInt kr) st r5 rfl rfl hx6 ?_)
 clear st
 intro es6 ck6 w8 st r6
 replace ⟨mp7, hx7, hr⟩ := bindS hr
 refine WO_one rfl (One_insert (ek := (fun n : Int => Value.int .i64 n)) (c := cStr) (agg := false) (k := 7) (yv := (⟨#[34]⟩ : ByteArray)) (cs := [.string (⟨#[34]⟩ : ByteArray)]) (z := (.string (⟨#[]⟩ : ByteArray))) (v := (.string (⟨#[34]⟩ : ByteArray))) (kt := 3) (et := 9) (t := 207) (x := (.tmp 7)) (y := (.const (.int .i64 7))) (u := (.const (.string (⟨#[34]⟩ : ByteArray)))) kr (ev (.map (some b2))) (ev (.int .i64 7)) (ev (.string (⟨#[34]⟩ : ByteArray))) kr (keyInt kr) st r6 rfl rfl hx7 ?_)
 clear st
 intro es7 ck7 w9 st r7
 replace ⟨mp8, hx8, hr⟩ := bindS hr
 refine WO_one rfl (One_insert (ek := (fun n : Int => Value.int .i64 n)) (c := cStr) (agg := false) (k := 8) (yv := (⟨#[59, 44, 40, 41, 43, 45, 42, 47, 37, 60, 61]⟩ : ByteArray)) (cs := [.string (⟨#[59, 44, 40, 41, 43, 45, 42, 47, 37, 60, 61]⟩ : ByteArray)]) (z := (.string (⟨#[]⟩ : ByteArray))) (v := (.string (⟨#[59, 44, 40, 41, 43, 45, 42, 47, 37, 60, 61]⟩ : ByteArray))) (kt := 3) (et := 9) (t := 207) (x := (.tmp 7)) (y := (.const (.int .i64 8))) (u := (.const (.string (⟨#[59, 44, 40, 41, 43, 45, 42, 47, 37, 60, 61]⟩ : ByteArray)))) kr (ev (.map (some b2))) (ev (.int .i64 8)) (ev (.string (⟨#[59, 44, 40, 41, 43, 45, 42, 47, 37, 60, 61]⟩ : ByteArray))) kr (keyInt kr) st r7 rfl rfl hx8 ?_)
 clear st
 intro es8 ck8 w10 st r8
 refine WO_seg 1 [(8, .map (some b2))] kr kr ?_
 refine WO_one rfl (One_range (ek := (fun n : Int => Value.int .i64 n)) (c := cStr) (agg := false) (d := 9) (t := 207) (kt := 3) (et := 9) (x := (.tmp 8)) kr rfl (ev (.map (some b2))) kr st r8 ?_)
 clear st
 intro b3 w11 st hi1
 refine WO_et rfl (W_block ?_)
 replace ⟨out1, hr, hrKu1⟩ := bindS hr
 refine W_cut (.exit 0) (fun L' w' => ∃ (o1 : (Option (List (Int × Int)))) (es9 : Array MapEntry) (ck9 : Nat) (sn1 : Array Nat) (rem1 : List (Int × ByteArray)) (m1 : Mem), o1 = out1 ∧ L' = [(1, .map (some b1))] ∧ m.le m1 ∧ St m1 (mpiece (some b2) es8 ck8 :: mpiece (some b1) es9 ck9 :: itpiece b3 (some b2) ck8 sn1 :: own) w' ∧ MapQ (fun n : Int => Value.int .i64 n) cStr false m1 (some b2) es8 ck8 mp8 ∧ MapQ (fun n : Int => Value.int .u8 n) (cInt .i64) false m1 (some b1) es9 ck9 o1 ∧ ItR (fun n : Int => Value.int .i64 n) cStr false m1 es8 sn1 rem1) ?_ ?_
 ·clear hr st
  rintro _ w12 ⟨o1, es9, ck9, sn1, rem1, m1, rfl, rfl, hm, st, r8, r9, hi2⟩
  have hr := hrKu1
  clear hrKu1
  refine X_block_eq ?_
  refine X_then ?_
  refine W_sr (WO_seg 2 [(0, .map (some b1))] kr kr ?_)
  refine WO_end rfl ?_
  have st := st.front2
  have st := st.tail
  refine X_then ?_
  refine W_ret ?_
  obtain rfl := Option.some.inj hr
  refine X_ret [.tmp 0] [.map (some b1)] rfl (ResAll.cons (ResAt.tmp kr) ResAll.nil) ?_
  have st := st.tail
  exact ⟨(some b1), es9, ck9, m1, rfl, hm, st, r9⟩
 intro K0_u1
 clear hrKu1
 have st := st.front2.front2
 refine W_env _ kr (W_loop (fun k1 L' w' => ∃ (s1 : (Option (List (Int × Int)))) (es10 : Array MapEntry) (ck10 : Nat) (sn2 : Array Nat) (rem2 : List (Int × ByteArray)) (m2 : Mem), LoopE (lexer_kinds_L1 N) rem2 s1 out1 k1 ∧ L' = [(1, .map (some b1)), (9, .pointer (some ⟨b3, 0, none⟩))] ∧ m.le m2 ∧ St m2 (mpiece (some b2) es8 ck8 :: mpiece (some b1) es10 ck10 :: itpiece b3 (some b2) ck8 sn2 :: own) w' ∧ MapQ (fun n : Int => Value.int .i64 n) cStr false m2 (some b2) es8 ck8 mp8 ∧ MapQ (fun n : Int => Value.int .u8 n) (cInt .i64) false m2 (some b1) es10 ck10 s1 ∧ ItR (fun n : Int => Value.int .i64 n) cStr false m2 es8 sn2 rem2) (List.length (Option.getD mp8 []) + 1) ⟨(some [] : Option (List (Int × Int))), #[], 0, #[], (Option.getD mp8 []), m, LoopE.start hr, rfl, hm, st, r8, (MapQ.new (fun n : Int => Value.int .u8 n) (cInt .i64) false _ _), hi1⟩ ?_)
 clear st hr
 rintro k1 _ w13 ⟨s1, es10, ck10, sn2, rem2, m2, hL, rfl, hm, st, r8, r10, hi3⟩
 rcases k1 with _ | k1
 ·exact LoopE.zero hL
 ·refine W_sr ?_
  have st := st.front2
  refine WO_one rfl (One_next (ek := (fun n : Int => Value.int .i64 n)) (c := cStr) (agg := false) (d := 10) (x := (.tmp 9)) kr rfl (ev (.pointer (some ⟨b3, 0, none⟩))) st r8 hi3 ?_ ?_)
  ·intro hx9 w14 st
   obtain ⟨qu1, hr, hSu1, hBu1⟩ := hL.nil hx9
   clear hL
   unfold lexer_kinds_L1 at hr
   dsimp only at hr
   refine WO_seg 1 [(11, .bool false)] kr kr ?_
   refine WO_et rfl (W_seq ?_)
   refine W_cond false kr (fun h => Bool.noConfusion h) ?_
   intro _
   refine W_exit ?_
   refine X_then_exit ?_
   obtain rfl := Option.some.inj hr
   have ho := hBu1 _ rfl
   have st := st.front2.front2
   refine X_then_exit ?_
   exact X_env _ kr (K0_u1 _ _ ⟨s1, es10, ck10, sn2, rem2, m2, ho, rfl, hm, st, r8, r10, hi3⟩)
  ·rintro kv1 rem3 sn3 cs1 w15 hx10 rfl st hi4 he1
   obtain ⟨qu1, hr, hSu1, hBu1⟩ := hL.cons hx10
   clear hL
   unfold lexer_kinds_L1 at hr
   dsimp only at hr
   refine WO_seg 1 [(11, .bool true)] kr kr ?_
   refine WO_et rfl (W_seq ?_)
   refine W_cond true kr ?_ (fun h => Bool.noConfusion h)
   intro _
   refine W_skip ?_
   refine X_then ?_
   refine W_block ?_
   refine W_sr ?_
   have st := st.front1.front1
   refine WO_one rfl (One_entry (ek := (fun n : Int => Value.int .i64 n)) (c := cStr) (agg := false) (d := 12) (x := (.tmp 9)) (K := .int .i64 kv1.1) (V := .string kv1.2) kr rfl (ev (.pointer (some ⟨b3, 0, none⟩))) st r8 he1 ?_)
   refine WO_seg 4 [(2, .int .i64 kv1.1), (3, .string kv1.2)] kr kr ?_
   refine WO_et rfl (W_sr ?_)
   refine WO_seg 1 [(15, .string kv1.2)] kr kr ?_
   replace ⟨l1, hx11, hr⟩ := bindS hr
   refine WO_one rfl (One_strBytes (d := 16) (t1 := 9) (t2 := 190) (e := 5) (x := (.tmp 15)) kr rfl (ev (.string kv1.2)) kr kr st hx11 ?_)
   clear st
   intro b4 c1 m3 w16 hle1 st r11
   have hm := Mem.le_trans hm hle1
   have hi4 := hi4.mono hle1
   have r8 := r8.mono hle1
   have r10 := r10.mono hle1
   refine WO_seg 2 [(17, .int .i64 (List.length l1 : Int)), (18, .int .i64 0)] kr kr ?_
   refine WO_et rfl (W_block ?_)
   replace ⟨out2, hr, hrKu2⟩ := bindS hr
   refine W_cut (.exit 2) (fun L' w' => ∃ (o2 : (Option (List (Int × Int)))) (es11 : Array MapEntry) (ck11 : Nat) (m4 : Mem), o2 = out2 ∧ L' = [(1, .map (some b1)), (9, .pointer (some ⟨b3, 0, none⟩))] ∧ m.le m4 ∧ St m4 (mpiece (some b2) es8 ck8 :: mpiece (some b1) es11 ck11 :: itpiece b3 (some b2) ck8 sn3 :: own) w' ∧ MapQ (fun n : Int => Value.int .i64 n) cStr false m4 (some b2) es8 ck8 mp8 ∧ MapQ (fun n : Int => Value.int .u8 n) (cInt .i64) false m4 (some b1) es11 ck11 o2 ∧ ItR (fun n : Int => Value.int .i64 n) cStr false m4 es8 sn3 rem3) ?_ ?_
   ·clear hr st
    rintro _ w17 ⟨o2, es11, ck11, m4, rfl, rfl, hm, st, r8, r12, hi4⟩
    have hr := hrKu2
    clear hrKu2
    refine X_block_eq ?_
    refine X_block ?_
    obtain rfl := Option.some.inj hr
    have hL := hSu1 _ rfl
    have st := st.front2.front2.front2
    exact X_env _ kr (X_round k1 (Nat.lt_succ_self _) ⟨o2, es11, ck11, sn3, rem3, m4, hL, rfl, hm, st, r8, r12, hi4⟩)
   intro K2_u2
   clear hrKu2
   have st := st.front2.front2
   refine W_env _ kr (W_loop (fun k2 L' w' => ∃ (s2 : Int × (Option (List (Int × Int)))) (es12 : Array MapEntry) (ck12 : Nat) (m5 : Mem), loopM (lexer_kinds_L2 N kv1 l1) k2 s2 = some out2 ∧ L' = [(1, .map (some b1)), (2, .int .i64 kv1.1), (9, .pointer (some ⟨b3, 0, none⟩)), (16, .slice (some ⟨b4, 0, none⟩) (List.length l1) c1), (17, .int .i64 (List.length l1 : Int)), (18, .int .i64 s2.1)] ∧ m.le m5 ∧ St m5 (mpiece (some b2) es8 ck8 :: mpiece (some b1) es12 ck12 :: itpiece b3 (some b2) ck8 sn3 :: own) w' ∧ RepS cU8 m5 (some ⟨b4, 0, none⟩) c1 l1 ∧ MapQ (fun n : Int => Value.int .i64 n) cStr false m5 (some b2) es8 ck8 mp8 ∧ MapQ (fun n : Int => Value.int .u8 n) (cInt .i64) false m5 (some b1) es12 ck12 s2.2 ∧ ItR (fun n : Int => Value.int .i64 n) cStr false m5 es8 sn3 rem3) N ⟨(0, s1), es10, ck10, m3, hr, rfl, hm, st, r11, r8, r10, hi4⟩ ?_)
   clear st hr
   rintro k2 _ w18 ⟨s2, es12, ck12, m5, hL, rfl, hm, st, r11, r8, r13, hi4⟩
   rcases k2 with _ | k2
   ·exact loopM_zero hL
   ·obtain ⟨qu2, hr, hSu2, hBu2⟩ := loopM_succ hL
    clear hL
    unfold lexer_kinds_L2 at hr
    refine W_sr (WO_seg 1 [(19, .bool (decide (s2.1 < (List.length l1 : Int))))] kr kr ?_)
    refine WO_et rfl (W_seq ?_)
    refine W_cond (decide (s2.1 < (List.length l1 : Int))) kr ?_ ?_
    ·intro hc
     rw [if_pos hc] at hr
     refine W_skip ?_
     refine X_then ?_
     refine W_seq ?_
     refine W_block ?_
     refine W_sr ?_
     replace ⟨x1, hx12, hr⟩ := bindS hr
     refine WO_one rfl (One_index (d := 20) (t := 190) (e := 5) (x := (.tmp 16)) (y := (.tmp 18)) cU8 kr rfl (ev (.slice (some ⟨b4, 0, none⟩) (List.length l1) c1)) (ev (.int .i64 s2.1)) kr r11 hx12 ?_)
     rintro b5 f1 cs2 rfl hq1
     refine WO_one rfl (One_load_row (d := 21) (t := 5) (x := (.tmp 20)) (.int .u8 (x1.toNat : Int)) kr rfl (ev (.pointer (some ⟨b5, f1, none⟩))) st hq1 kr ?_)
     refine WO_seg 1 [(5, .int .u8 (x1.toNat : Int))] kr kr ?_
     refine WO_et rfl (W_region ?_)
     refine WO_seg 3 [(22, .map (some b1)), (23, .int .u8 (x1.toNat : Int)), (24, .int .i64 kv1.1)] kr kr ?_
     have st := st.front1
     replace ⟨mp9, hx13, hr⟩ := bindS hr
     refine WO_one rfl (One_mapUpdate (ek := (fun n : Int => Value.int .u8 n)) (c := (cInt .i64)) (agg := false) (k := (x1.toNat : Int)) (yv := kv1.1) (cs := [.int .i64 kv1.1]) (z := (.int .i64 0)) (v := (.int .i64 kv1.1)) (kt := 5) (et := 3) (t := 164) (x := (.tmp 22)) (y := (.tmp 23)) (u := (.tmp 24)) kr (ev (.map (some b1))) (ev (.int .u8 (x1.toNat : Int))) (ev (.int .i64 kv1.1)) kr (keyInt kr) st r13 rfl rfl hx13 ?_)
     clear st
     intro es13 ck13 w19 st r14
     refine WO_end rfl ?_
     refine X_block ?_
     refine X_then ?_
     refine W_region ?_
     refine WO_seg 2 [(18, .int .i64 (IntKind.wrap .i64 (s2.1 + 1)))] kr kr ?_
     refine WO_end rfl ?_
     obtain rfl := Option.some.inj hr
     have hL := hSu2 _ rfl
     have st := st.front2.front1.front2
     exact X_env _ kr (X_round k2 (Nat.lt_succ_self _) ⟨(IntKind.wrap .i64 (s2.1 + 1), mp9), es13, ck13, m5, hL, rfl, hm, st, r11, r8, r14, hi4⟩)
    ·intro hc
     rw [if_neg (not_true hc)] at hr
     refine W_exit ?_
     refine X_then_exit ?_
     obtain rfl := Option.some.inj hr
     have ho := hBu2 _ rfl
     have st := st.front2.front2.front2
     refine X_then_exit ?_
     exact X_env _ kr (K2_u2 _ _ ⟨s2.2, es12, ck12, m5, ho, rfl, hm, st, r8, r13, hi4⟩)
def lexer_span_L2 (N : Nat) (p0 : ByteArray) (p2 : Option (List (Int × Int))) (p3 : List Int) (s1 : Int) (s2 : Bool × Int) : Option ((Bool × Int) ⊕ ((Bool))) :=
 if (decide (s2.2 < (List.length p3 : Int))) = true then ((idx p3 s2.2).bind fun x1 => (if s2.1 = true then (some true) else ((idxB p0 s1).bind fun x2 => some (((mgetQ p2 (x2.toNat : Int)).getD 0) == x1)) : Option (Bool)).bind fun o3 => some (.inl (o3, IntKind.wrap .i64 (s2.2 + 1)))) else (some (.inr s2.1))
def lexer_span_L1 (N : Nat) (p0 : ByteArray) (p2 : Option (List (Int × Int))) (p3 : List Int) (s1 : Int) : Option ((Int) ⊕ ((Int))) :=
 if (decide (s1 < (ByteArray.size p0 : Int))) = true then ((loopM (lexer_span_L2 N p0 p2 p3 s1) N (false, 0)).bind fun o2 => if (!o2) = true then (some (.inr s1)) else (some (.inl (IntKind.wrap .i64 (s1 + 1))))) else (some (.inr s1))
def lexer_span (N : Nat) (p0 : ByteArray) (p1 : Int) (p2 : Option (List (Int × Int))) (p3 : List Int) : Option (Int) :=
 (loopM (lexer_span_L1 N p0 p2 p3) N p1).bind fun o1 => some o1
set_option maxHeartbeats 4000000 in
set_option maxRecDepth 100000 in
theorem lexer_span_ok {N : Nat} {m : Mem} {own : List Piece} {w : World} {p0 : ByteArray} {p1 : Int} {p2 : Option (List (Int × Int))} {p3 : List Int} {q1 : Option Nat} {es1 : Array MapEntry} {ck1 : Nat} {a1 : Option Addr} {c1 : Nat} {r : Int} (st : St m (mpiece q1 es1 ck1 :: own) w) (r1 : MapQ (fun n : Int => Value.int .u8 n) (cInt .i64) false m q1 es1 ck1 p2) (r2 : RepS (cInt .i64) m a1 c1 p3) (hr : lexer_span N p0 p1 p2 p3 = some r) : Calls Tryz.prog 122 #[.string p0, .int .i64 p1, .map q1, .slice a1 (List.length p3) c1] w fun e w' => ∃ (m' : Mem), e = .returned (.int .i64 r) ∧ m.le m' ∧ St m' (mpiece q1 es1 ck1 :: own) w' := by
 unfold lexer_span at hr
 have hm := m.le_refl
 refine W_calls Tryz.func122 rfl Tryz.ntmps122 [(0, .string p0), (1, .int .i64 p1), (2, .map q1), (3, .slice a1 (List.length p3) c1)] kr rfl ?_
 refine W_sr (WO_seg 1 [] kr kr ?_)
 refine WO_et rfl (W_seq ?_)
 refine W_block ?_
 replace ⟨out1, hr, hrKu1⟩ := bindS hr
 refine W_cut (.exit 0) (fun L' w' => ∃ (o1 : Int) (m1 : Mem), o1 = out1 ∧ L' = [(1, .int .i64 o1)] ∧ m.le m1 ∧ St m1 (mpiece q1 es1 ck1 :: own) w' ∧ MapQ (fun n : Int => Value.int .u8 n) (cInt .i64) false m1 q1 es1 ck1 p2) ?_ ?_
 ·clear hr st
  rintro _ w1 ⟨o1, m1, rfl, rfl, hm, st, r1⟩
  have hr := hrKu1
  clear hrKu1
  refine X_block_eq ?_
  refine X_then ?_
  refine W_sr (WO_seg 2 [(8, .int .i64 o1)] kr kr ?_)
  refine WO_et rfl (W_ret ?_)
  obtain rfl := Option.some.inj hr
  refine X_ret [.tmp 8] [.int .i64 o1] rfl (ResAll.cons (ResAt.tmp kr) ResAll.nil) ?_
  exact ⟨m1, rfl, hm, st⟩
 intro K0_u1
 clear hrKu1
 refine W_env _ kr (W_loop (fun k1 L' w' => ∃ (s1 : Int) (m2 : Mem), loopM (lexer_span_L1 N p0 p2 p3) k1 s1 = some out1 ∧ L' = [(0, .string p0), (1, .int .i64 s1), (2, .map q1), (3, .slice a1 (List.length p3) c1)] ∧ m.le m2 ∧ St m2 (mpiece q1 es1 ck1 :: own) w' ∧ RepS (cInt .i64) m2 a1 c1 p3 ∧ MapQ (fun n : Int => Value.int .u8 n) (cInt .i64) false m2 q1 es1 ck1 p2) N ⟨p1, m, hr, rfl, hm, st, r2, r1⟩ ?_)
 clear st hr
 rintro k1 _ w2 ⟨s1, m2, hL, rfl, hm, st, r2, r1⟩
 rcases k1 with _ | k1
 ·exact loopM_zero hL
 ·obtain ⟨qu1, hr, hSu1, hBu1⟩ := loopM_succ hL
  clear hL
  unfold lexer_span_L1 at hr
  refine W_seq ?_
  refine W_sr (WO_seg 4 [(15, .bool (decide (s1 < (ByteArray.size p0 : Int))))] kr kr ?_)
  refine WO_et rfl (W_cond (decide (s1 < (ByteArray.size p0 : Int))) kr ?_ ?_)
  ·intro hc
   rw [if_pos hc] at hr
   refine W_skip ?_
   refine X_then ?_
   refine W_block ?_
   refine W_sr (WO_seg 1 [(9, .bool false)] kr kr ?_)
   refine WO_et rfl (W_seq ?_)
   refine W_sr (WO_seg 3 [(16, .slice a1 (List.length p3) c1), (17, .int .i64 (List.length p3 : Int)), (18, .int .i64 0)] kr kr ?_)
   refine WO_et rfl (W_block ?_)
   replace ⟨out2, hr, hrKu2⟩ := bindS hr
   refine W_cut (.exit 2) (fun L' w' => ∃ (o2 : Bool) (m3 : Mem), o2 = out2 ∧ L' = [(0, .string p0), (1, .int .i64 s1), (2, .map q1), (3, .slice a1 (List.length p3) c1), (9, .bool o2)] ∧ m.le m3 ∧ St m3 (mpiece q1 es1 ck1 :: own) w' ∧ RepS (cInt .i64) m3 a1 c1 p3 ∧ MapQ (fun n : Int => Value.int .u8 n) (cInt .i64) false m3 q1 es1 ck1 p2) ?_ ?_
   ·clear hr st
    rintro _ w3 ⟨o2, m3, rfl, rfl, hm, st, r2, r1⟩
    have hr := hrKu2
    clear hrKu2
    refine X_block_eq ?_
    refine X_then ?_
    refine W_seq ?_
    refine W_sr (WO_seg 2 [(34, .bool (!o2))] kr kr ?_)
    refine WO_et rfl (W_cond (!o2) kr ?_ ?_)
    ·intro hc
     rw [if_pos hc] at hr
     refine W_exit ?_
     refine X_then_exit ?_
     refine X_block_ne rfl ?_
     obtain rfl := Option.some.inj hr
     have ho := hBu1 _ rfl
     refine X_then_exit ?_
     exact X_env _ kr (K0_u1 _ _ ⟨s1, m3, ho, rfl, hm, st, r1⟩)
    ·intro hc
     rw [if_neg (not_true hc)] at hr
     refine W_skip ?_
     refine X_then ?_
     refine W_region ?_
     refine WO_seg 3 [(1, .int .i64 (IntKind.wrap .i64 (s1 + 1)))] kr kr ?_
     refine WO_end rfl ?_
     refine X_block ?_
     obtain rfl := Option.some.inj hr
     have hL := hSu1 _ rfl
     exact X_env _ kr (X_round k1 (Nat.lt_succ_self _) ⟨IntKind.wrap .i64 (s1 + 1), m3, hL, rfl, hm, st, r2, r1⟩)
   intro K2_u2
   clear hrKu2
   refine W_env _ kr (W_loop (fun k2 L' w' => ∃ (s2 : Bool × Int) (m4 : Mem), loopM (lexer_span_L2 N p0 p2 p3 s1) k2 s2 = some out2 ∧ L' = [(0, .string p0), (1, .int .i64 s1), (2, .map q1), (3, .slice a1 (List.length p3) c1), (9, .bool s2.1), (16, .slice a1 (List.length p3) c1), (17, .int .i64 (List.length p3 : Int)), (18, .int .i64 s2.2)] ∧ m.le m4 ∧ St m4 (mpiece q1 es1 ck1 :: own) w' ∧ RepS (cInt .i64) m4 a1 c1 p3 ∧ MapQ (fun n : Int => Value.int .u8 n) (cInt .i64) false m4 q1 es1 ck1 p2) N ⟨(false, 0), m2, hr, rfl, hm, st, r2, r1⟩ ?_)
   clear st hr
   rintro k2 _ w4 ⟨s2, m4, hL, rfl, hm, st, r2, r1⟩
   rcases k2 with _ | k2
   ·exact loopM_zero hL
   ·obtain ⟨qu2, hr, hSu2, hBu2⟩ := loopM_succ hL
    clear hL
    unfold lexer_span_L2 at hr
    refine W_sr (WO_seg 1 [(19, .bool (decide (s2.2 < (List.length p3 : Int))))] kr kr ?_)
    refine WO_et rfl (W_seq ?_)
    refine W_cond (decide (s2.2 < (List.length p3 : Int))) kr ?_ ?_
    ·intro hc
     rw [if_pos hc] at hr
     refine W_skip ?_
     refine X_then ?_
     refine W_seq ?_
     refine W_block ?_
     refine W_sr ?_
     replace ⟨x1, hx1, hr⟩ := bindS hr
     refine WO_one rfl (One_index (d := 20) (t := 22) (e := 3) (x := (.tmp 16)) (y := (.tmp 18)) (cInt .i64) kr rfl (ev (.slice a1 (List.length p3) c1)) (ev (.int .i64 s2.2)) kr r2 hx1 ?_)
     rintro b1 f1 cs1 rfl hq1
     refine WO_one rfl (One_load_row (d := 21) (t := 3) (x := (.tmp 20)) (.int .i64 x1) kr rfl (ev (.pointer (some ⟨b1, f1, none⟩))) st hq1 kr ?_)
     refine WO_seg 1 [(11, .int .i64 x1)] kr kr ?_
     refine WO_et rfl (W_region ?_)
     replace ⟨o3, hr, hrK⟩ := bindS hr
     refine WO_cut (j := 11) (fun L' w' => ∃ (m5 : Mem), L' = [(0, .string p0), (1, .int .i64 s1), (2, .map q1), (3, .slice a1 (List.length p3) c1), (9, .bool o3), (16, .slice a1 (List.length p3) c1), (17, .int .i64 (List.length p3 : Int)), (18, .int .i64 s2.2)] ∧ m.le m5 ∧ St m5 (mpiece q1 es1 ck1 :: own) w' ∧ RepS (cInt .i64) m5 a1 c1 p3 ∧ MapQ (fun n : Int => Value.int .u8 n) (cInt .i64) false m5 q1 es1 ck1 p2) ?_ ?_
     ·clear hr st
      have hr := hrK
      clear hrK
      rintro _ w5 ⟨m5, rfl, hm, st, r2, r1⟩
      refine WO_end rfl ?_
      refine X_block ?_
      refine X_then ?_
      refine W_region ?_
      refine WO_seg 2 [(18, .int .i64 (IntKind.wrap .i64 (s2.2 + 1)))] kr kr ?_
      refine WO_end rfl ?_
      obtain rfl := Option.some.inj hr
      have hL := hSu2 _ rfl
      exact X_env _ kr (X_round k2 (Nat.lt_succ_self _) ⟨(o3, IntKind.wrap .i64 (s2.2 + 1)), m5, hL, rfl, hm, st, r2, r1⟩)
     ·intro K
      clear hrK
      refine WO_seg 2 [(23, .bool s2.1)] kr kr ?_
      rcases bcases s2.1 with hc | hc
      ·rw [if_pos hc] at hr
       refine WO_fact (t := 23) (b := true) s2.1 kr hc ?_
       refine WO_seg 9 [(9, .bool true)] kr kr ?_
       obtain rfl := Option.some.inj hr
       exact WO_env _ kr (K _ _ ⟨m4, rfl, hm, st, r2, r1⟩)
      ·rw [if_neg (not_true hc)] at hr
       refine WO_fact (t := 23) (b := false) s2.1 kr hc ?_
       refine WO_seg 3 [(24, .map q1), (25, .string p0), (26, .int .i64 s1)] kr kr ?_
       replace ⟨x2, hx2, hr⟩ := bindS hr
       refine WO_one rfl (One_strIndex (d := 27) (t := 9) (x := (.tmp 25)) (y := (.tmp 26)) kr rfl (ev (.string p0)) (ev (.int .i64 s1)) kr hx2 ?_)
       refine WO_one rfl (One_lookup (ek := (fun n : Int => Value.int .u8 n)) (c := (cInt .i64)) (agg := false) (k := (x2.toNat : Int)) (zx := 0) (zcs := [.int .i64 0]) (z := (.int .i64 0)) (kt := 5) (et := 3) (d := 28) (t := 164) (x := (.tmp 24)) (y := (.tmp 27)) (ok := false) kr rfl (ev (.map q1)) (ev (.int .u8 (x2.toNat : Int))) kr (keyInt kr) st.head r1 rfl rfl ?_)
       rintro cs2 rfl
       refine WO_seg 4 [(9, .bool (((mgetQ p2 (x2.toNat : Int)).getD 0) == x1))] kr kr ?_
       obtain rfl := Option.some.inj hr
       exact WO_env _ kr (K _ _ ⟨m4, rfl, hm, st, r2, r1⟩)
    ·intro hc
     rw [if_neg (not_true hc)] at hr
     refine W_exit ?_
     refine X_then_exit ?_
     obtain rfl := Option.some.inj hr
     have ho := hBu2 _ rfl
     refine X_then_exit ?_
     exact X_env _ kr (K2_u2 _ _ ⟨s2.1, m4, ho, rfl, hm, st, r2, r1⟩)
  ·intro hc
   rw [if_neg (not_true hc)] at hr
   refine W_exit ?_
   refine X_then_exit ?_
   obtain rfl := Option.some.inj hr
   have ho := hBu1 _ rfl
   refine X_then_exit ?_
   exact X_env _ kr (K0_u1 _ _ ⟨s1, m2, ho, rfl, hm, st, r1⟩)
def lexer_Path_L1 (N : Nat) (y1 : List ByteArray) (y2 : Option (List (Int × Int))) (s1 : Int) : Option ((Int) ⊕ ((Unit) ⊕ (Bool))) :=
 if (decide (s1 < (List.length y1 : Int))) = true then ((idx y1 s1).bind fun x1 => (if (decide ((ByteArray.size x1 : Int) < 1)) = true then (some true) else (if (decide ((ByteArray.size x1 : Int) > 24)) = true then (some true) else ((lexer_span N x1 0 y2 ([1, 2, 3, 4])).bind fun y3 => some (y3 != (ByteArray.size x1 : Int)))) : Option (Bool)).bind fun o3 => if o3 = true then (some (.inr (.inr (false)))) else (some (.inl (IntKind.wrap .i64 (s1 + 1))))) else (some (.inr (.inl ())))
def lexer_Path (N : Nat) (p0 : ByteArray) : Option (Bool) :=
 (strings_Split N p0 (⟨#[47]⟩ : ByteArray)).bind fun y1 => (if (decide ((ByteArray.size p0 : Int) > 80)) = true then (some true) else (some (decide ((List.length y1 : Int) > 8))) : Option (Bool)).bind fun o1 => if o1 = true then (some false) else ((lexer_kinds N).bind fun y2 => (loopM (lexer_Path_L1 N y1 y2) N 0).bind fun out1 => (match out1 with | .inl o2 => some true | .inr (z) => some z))
set_option maxHeartbeats 4000000 in
set_option maxRecDepth 100000 in
theorem lexer_Path_ok {N : Nat} {m : Mem} {own : List Piece} {w : World} {p0 : ByteArray} {r : Bool} (st : St m (own) w) (hr : lexer_Path N p0 = some r) : Calls Tryz.prog 70 #[.string p0] w fun e w' => ∃ (m' : Mem), e = .returned (.bool r) ∧ m.le m' ∧ St m' (own) w' := by
 unfold lexer_Path at hr
 have hm := m.le_refl
 refine W_calls Tryz.func70 rfl Tryz.ntmps70 [(0, .string p0)] kr rfl ?_
 refine W_sr (WO_seg 1 [] kr kr ?_)
 refine WO_et rfl (W_sr ?_)
 refine WO_seg 1 [(7, .string p0)] kr kr ?_
 replace ⟨y1, hx1, hr⟩ := bindS hr
 refine WO_one rfl (One_fn 8 128 #[.string p0, .string (⟨#[47]⟩ : ByteArray)] kr rfl ?_)
 refine (strings_Split_ok st hx1).mono ?_
 clear st
 rintro _ w1 ⟨a1, c1, m1, rfl, hle1, st, r1⟩
 refine ⟨_, rfl, ?_⟩
 have hm := Mem.le_trans hm hle1
 refine WO_seg 1 [(3, .slice a1 (List.length y1) c1)] kr kr ?_
 refine WO_et rfl (W_seq ?_)
 refine W_sr ?_
 replace ⟨o1, hr, hrK⟩ := bindS hr
 refine WO_cut (j := 8) (fun L' w' => ∃ (m2 : Mem), L' = [(3, .slice a1 (List.length y1) c1), (16, .bool o1)] ∧ m.le m2 ∧ St m2 (own) w' ∧ RepS cStr m2 a1 c1 y1) ?_ ?_
 ·clear hr st
  have hr := hrK
  clear hrK
  rintro _ w2 ⟨m2, rfl, hm, st, r1⟩
  refine WO_et rfl (W_cond o1 kr ?_ ?_)
  ·intro hc
   rw [if_pos hc] at hr
   refine W_sr (WO_seg 1 [(2, .bool false)] kr kr ?_)
   refine WO_et rfl (W_ret ?_)
   refine X_then_ret ?_
   obtain rfl := Option.some.inj hr
   refine X_ret [.tmp 2] [.bool false] rfl (ResAll.cons (ResAt.tmp kr) ResAll.nil) ?_
   exact ⟨m2, rfl, hm, st⟩
  ·intro hc
   rw [if_neg (not_true hc)] at hr
   refine W_skip ?_
   refine X_then ?_
   refine W_sr ?_
   replace ⟨y2, hx2, hr⟩ := bindS hr
   refine WO_one rfl (One_fn 17 121 #[] kr rfl ?_)
   refine (lexer_kinds_ok st hx2).mono ?_
   clear st
   rintro _ w3 ⟨q1, es1, ck1, m3, rfl, hle2, st, r2⟩
   refine ⟨_, rfl, ?_⟩
   have hm := Mem.le_trans hm hle2
   have r1 := r1.mono hle2
   refine WO_seg 1 [(4, .map q1)] kr kr ?_
   refine WO_et rfl (W_seq ?_)
   refine W_sr (WO_seg 3 [(18, .slice a1 (List.length y1) c1), (19, .int .i64 (List.length y1 : Int)), (20, .int .i64 0)] kr kr ?_)
   refine WO_et rfl (W_block ?_)
   replace ⟨out1, hr, hrKu1⟩ := bindS hr
   refine W_cut (.exit 0) (fun L' w' => ∃ (o2 : Unit) (m4 : Mem), (.inl o2) = out1 ∧ L' = [] ∧ m.le m4 ∧ St m4 (mpiece q1 es1 ck1 :: own) w' ∧ MapQ (fun n : Int => Value.int .u8 n) (cInt .i64) false m4 q1 es1 ck1 y2) ?_ ?_
   ·clear hr st
    rintro _ w4 ⟨o2, m4, rfl, rfl, hm, st, r2⟩
    have hr := hrKu1
    clear hrKu1
    dsimp only at hr
    refine X_block_eq ?_
    refine X_then ?_
    refine W_sr (WO_seg 1 [(2, .bool true)] kr kr ?_)
    refine WO_et rfl (W_ret ?_)
    obtain rfl := Option.some.inj hr
    refine X_ret [.tmp 2] [.bool true] rfl (ResAll.cons (ResAt.tmp kr) ResAll.nil) ?_
    have st := st.tail
    exact ⟨m4, rfl, hm, st⟩
   intro K0_u1
   refine W_env _ kr (W_loop (fun k1 L' w' => ∃ (s1 : Int) (m5 : Mem), loopM (lexer_Path_L1 N y1 y2) k1 s1 = some out1 ∧ L' = [(4, .map q1), (18, .slice a1 (List.length y1) c1), (19, .int .i64 (List.length y1 : Int)), (20, .int .i64 s1)] ∧ m.le m5 ∧ St m5 (mpiece q1 es1 ck1 :: own) w' ∧ RepS cStr m5 a1 c1 y1 ∧ MapQ (fun n : Int => Value.int .u8 n) (cInt .i64) false m5 q1 es1 ck1 y2) N ⟨0, m3, hr, rfl, hm, st, r1, r2⟩ ?_)
   clear st hr
   rintro k1 _ w5 ⟨s1, m5, hL, rfl, hm, st, r1, r2⟩
   rcases k1 with _ | k1
   ·exact loopM_zero hL
   ·obtain ⟨qu1, hr, hSu1, hBu1⟩ := loopM_succ hL
    clear hL
    unfold lexer_Path_L1 at hr
    refine W_sr (WO_seg 1 [(21, .bool (decide (s1 < (List.length y1 : Int))))] kr kr ?_)
    refine WO_et rfl (W_seq ?_)
    refine W_cond (decide (s1 < (List.length y1 : Int))) kr ?_ ?_
    ·intro hc
     rw [if_pos hc] at hr
     refine W_skip ?_
     refine X_then ?_
     refine W_seq ?_
     refine W_block ?_
     refine W_sr ?_
     replace ⟨x1, hx3, hr⟩ := bindS hr
     refine WO_one rfl (One_index (d := 22) (t := 33) (e := 9) (x := (.tmp 18)) (y := (.tmp 20)) cStr kr rfl (ev (.slice a1 (List.length y1) c1)) (ev (.int .i64 s1)) kr r1 hx3 ?_)
     rintro b1 f1 cs1 rfl hq1
     refine WO_one rfl (One_load_row (d := 23) (t := 9) (x := (.tmp 22)) (.string x1) kr rfl (ev (.pointer (some ⟨b1, f1, none⟩))) st hq1 kr ?_)
     refine WO_seg 1 [(6, .string x1)] kr kr ?_
     refine WO_et rfl (W_sr ?_)
     replace ⟨o3, hr, hrK⟩ := bindS hr
     refine WO_cut (j := 17) (fun L' w' => ∃ (m6 : Mem), L' = [(4, .map q1), (18, .slice a1 (List.length y1) c1), (19, .int .i64 (List.length y1 : Int)), (20, .int .i64 s1), (40, .bool o3)] ∧ m.le m6 ∧ St m6 (mpiece q1 es1 ck1 :: own) w' ∧ RepS cStr m6 a1 c1 y1 ∧ MapQ (fun n : Int => Value.int .u8 n) (cInt .i64) false m6 q1 es1 ck1 y2) ?_ ?_
     ·clear hr st
      have hr := hrK
      clear hrK
      rintro _ w6 ⟨m6, rfl, hm, st, r1, r2⟩
      refine WO_et rfl (W_cond o3 kr ?_ ?_)
      ·intro hc
       rw [if_pos hc] at hr
       refine W_sr (WO_seg 1 [(2, .bool false)] kr kr ?_)
       refine WO_et rfl (W_ret ?_)
       refine X_block_ret ?_
       refine X_then_ret ?_
       obtain rfl := Option.some.inj hr
       have ho := hBu1 _ rfl
       subst ho
       have hr := hrKu1
       dsimp only at hr
       refine X_then_ret ?_
       refine X_block_ret ?_
       refine X_then_ret ?_
       obtain rfl := Option.some.inj hr
       refine X_ret [.tmp 2] [.bool false] rfl (ResAll.cons (ResAt.tmp kr) ResAll.nil) ?_
       have st := st.tail
       exact ⟨m6, rfl, hm, st⟩
      ·intro hc
       rw [if_neg (not_true hc)] at hr
       refine W_skip ?_
       refine X_block ?_
       refine X_then ?_
       refine W_region ?_
       refine WO_seg 2 [(20, .int .i64 (IntKind.wrap .i64 (s1 + 1)))] kr kr ?_
       refine WO_end rfl ?_
       obtain rfl := Option.some.inj hr
       have hL := hSu1 _ rfl
       exact X_env _ kr (X_round k1 (Nat.lt_succ_self _) ⟨IntKind.wrap .i64 (s1 + 1), m6, hL, rfl, hm, st, r1, r2⟩)
     ·intro K
      clear hrK
      refine WO_seg 4 [(27, .bool (decide ((ByteArray.size x1 : Int) < 1)))] kr kr ?_
      rcases bcases (decide ((ByteArray.size x1 : Int) < 1)) with hc | hc
      ·rw [if_pos hc] at hr
       refine WO_fact (t := 27) (b := true) (decide ((ByteArray.size x1 : Int) < 1)) kr hc ?_
       refine WO_seg 13 [(40, .bool true)] kr kr ?_
       obtain rfl := Option.some.inj hr
       exact WO_env _ kr (K _ _ ⟨m5, rfl, hm, st, r1, r2⟩)
      ·rw [if_neg (not_true hc)] at hr
       refine WO_fact (t := 27) (b := false) (decide ((ByteArray.size x1 : Int) < 1)) kr hc ?_
       refine WO_seg 5 [(32, .bool (decide ((ByteArray.size x1 : Int) > 24)))] kr kr ?_
       rcases bcases (decide ((ByteArray.size x1 : Int) > 24)) with hc | hc
       ·rw [if_pos hc] at hr
        refine WO_fact (t := 32) (b := true) (decide ((ByteArray.size x1 : Int) > 24)) kr hc ?_
        refine WO_seg 8 [(40, .bool true)] kr kr ?_
        obtain rfl := Option.some.inj hr
        exact WO_env _ kr (K _ _ ⟨m5, rfl, hm, st, r1, r2⟩)
       ·rw [if_neg (not_true hc)] at hr
        refine WO_fact (t := 32) (b := false) (decide ((ByteArray.size x1 : Int) > 24)) kr hc ?_
        refine WO_seg 2 [(33, .string x1), (34, .map q1)] kr kr ?_
        refine WO_one rfl (One_buildSlice (d := 35) (t := 22) (e := 3) (len := 4) (parts := #[(0, (.const (.int .i64 1))), (1, (.const (.int .i64 2))), (2, (.const (.int .i64 3))), (3, (.const (.int .i64 4)))]) (cInt .i64) (xs := [1, 2, 3, 4]) [.int .i64 1, .int .i64 2, .int .i64 3, .int .i64 4] kr rfl (fun _ => buildCells_run kr _) rfl rfl st ⟨[.int .i64 1], _, rfl, rfl, ⟨[.int .i64 2], _, rfl, rfl, ⟨[.int .i64 3], _, rfl, rfl, ⟨[.int .i64 4], _, rfl, rfl, rfl⟩⟩⟩⟩ ?_)
        clear st
        intro b2 m7 w7 hle3 st r3
        have hm := Mem.le_trans hm hle3
        have r1 := r1.mono hle3
        have r2 := r2.mono hle3
        have st := st.front1
        replace ⟨y3, hx4, hr⟩ := bindS hr
        refine WO_one rfl (One_fn 36 122 #[.string x1, .int .i64 0, .map q1, .slice (some ⟨b2, 0, none⟩) (List.length ([1, 2, 3, 4])) 4] kr rfl ?_)
        refine (lexer_span_ok st r2 r3 hx4).mono ?_
        clear st
        rintro _ w8 ⟨m8, rfl, hle4, st⟩
        refine ⟨_, rfl, ?_⟩
        have hm := Mem.le_trans hm hle4
        have r1 := r1.mono hle4
        have r3 := r3.mono hle4
        have r2 := r2.mono hle4
        refine WO_seg 4 [(40, .bool (y3 != (ByteArray.size x1 : Int)))] kr kr ?_
        obtain rfl := Option.some.inj hr
        have st := st.front1
        have st := st.tail
        exact WO_env _ kr (K _ _ ⟨m8, rfl, hm, st, r1, r2⟩)
    ·intro hc
     rw [if_neg (not_true hc)] at hr
     refine W_exit ?_
     refine X_then_exit ?_
     obtain rfl := Option.some.inj hr
     have ho := hBu1 _ rfl
     refine X_then_exit ?_
     exact X_env _ kr (K0_u1 _ _ ⟨(), m5, ho, rfl, hm, st, r2⟩)
 ·intro K
  clear hrK
  refine WO_seg 4 [(12, .bool (decide ((ByteArray.size p0 : Int) > 80)))] kr kr ?_
  rcases bcases (decide ((ByteArray.size p0 : Int) > 80)) with hc | hc
  ·rw [if_pos hc] at hr
   refine WO_fact (t := 12) (b := true) (decide ((ByteArray.size p0 : Int) > 80)) kr hc ?_
   refine WO_seg 4 [(16, .bool true)] kr kr ?_
   obtain rfl := Option.some.inj hr
   exact WO_env _ kr (K _ _ ⟨m1, rfl, hm, st, r1⟩)
  ·rw [if_neg (not_true hc)] at hr
   refine WO_fact (t := 12) (b := false) (decide ((ByteArray.size p0 : Int) > 80)) kr hc ?_
   refine WO_seg 4 [(16, .bool (decide ((List.length y1 : Int) > 8)))] kr kr ?_
   obtain rfl := Option.some.inj hr
   exact WO_env _ kr (K _ _ ⟨m1, rfl, hm, st, r1⟩)
end Go.Proofs.YtgggihpbhmbjaaaGreatDoor
