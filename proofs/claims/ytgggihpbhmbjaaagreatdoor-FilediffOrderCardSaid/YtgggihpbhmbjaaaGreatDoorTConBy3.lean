/- MADE BY gen.py: plain functions and the proofs that the Go functions compute them. No condition but those of each theorem. -/
import Derived.Test.YtgggihpbhmbjaaaGreatDoorProg
import Derived.Test.YtgggihpbhmbjaaaGreatDoorViewy3
import Derived.Test.YtgggihpbhmbjaaaGreatDoorMapDy3
import Derived.Test.YtgggihpbhmbjaaaGreatDoorLiny3
import Derived.Test.YtgggihpbhmbjaaaGreatDoorTConAy3
namespace Go.Proofs.YtgggihpbhmbjaaaGreatDoor
open Go Go.Dc
def testgatemake_Revision_L1 (N : Nat) (y1 : List ByteArray) (s1 : Int × (List (ByteArray × ByteArray)) × List (Int) × Int) : Option ((Int × (List (ByteArray × ByteArray)) × List (Int) × Int) ⊕ (((List (ByteArray × ByteArray)) × List (Int) × Int))) :=
 if (decide (s1.1 < (List.length y1 : Int))) = true then (((idx y1 s1.1).bind fun x1 => (testgatemake_Tape_Chance N (s1.2.2.1, s1.2.2.2) 3 4).bind fun y2 => if y2.2 = true then ((testgatemake_Packages N).bind fun y3 => (testgatemake_Tape_One N (y2.1.1, y2.1.2) y3).bind fun y4 => (testgatemake_Source N (y4.1.1, y4.1.2) y4.2).bind fun y5 => (testgatemake_insert N s1.2.1 (x1, y5.2)).bind fun y6 => some (y6, y5.1.1, y5.1.2)) else (some (s1.2.1, y2.1.1, y2.1.2)) : Option ((List (ByteArray × ByteArray)) × List (Int) × Int)).bind fun o2 => some (.inl (IntKind.wrap .i64 (s1.1 + 1), o2.1, o2.2.1, o2.2.2))) else (some (.inr (s1.2.1, s1.2.2.1, s1.2.2.2)))
def testgatemake_Revision_L2 (N : Nat) (s2 : Int × (List (ByteArray × ByteArray)) × List (Int) × Int) : Option ((Int × (List (ByteArray × ByteArray)) × List (Int) × Int) ⊕ (((List (ByteArray × ByteArray)) × List (Int) × Int))) :=
 if (decide (s2.1 < (List.length ([(⟨#[97, 46, 100, 97, 116]⟩ : ByteArray), (⟨#[100, 47, 98, 46, 100, 97, 116]⟩ : ByteArray), (⟨#[99]⟩ : ByteArray)]) : Int))) = true then (((idx ([(⟨#[97, 46, 100, 97, 116]⟩ : ByteArray), (⟨#[100, 47, 98, 46, 100, 97, 116]⟩ : ByteArray), (⟨#[99]⟩ : ByteArray)]) s2.1).bind fun x2 => (testgatemake_Tape_Chance N (s2.2.2.1, s2.2.2.2) 1 3).bind fun y7 => if y7.2 = true then ((testgatemake_data N (y7.1.1, y7.1.2)).bind fun y8 => (testgatemake_insert N s2.2.1 (x2, y8.2)).bind fun y9 => some (y9, y8.1.1, y8.1.2)) else (some (s2.2.1, y7.1.1, y7.1.2)) : Option ((List (ByteArray × ByteArray)) × List (Int) × Int)).bind fun o4 => some (.inl (IntKind.wrap .i64 (s2.1 + 1), o4.1, o4.2.1, o4.2.2))) else (some (.inr (s2.2.1, s2.2.2.1, s2.2.2.2)))
def testgatemake_Revision (N : Nat) (p0 : List Int × Int) : Option ((List Int × Int) × ((List (ByteArray × ByteArray)))) :=
 (testgatemake_sources N).bind fun y1 => (loopM (testgatemake_Revision_L1 N y1) N (0, ([] : List (ByteArray × ByteArray)), p0.1, p0.2)).bind fun o1 => (loopM (testgatemake_Revision_L2 N) N (0, o1.1, o1.2.1, o1.2.2)).bind fun o3 => some ((o3.2.1, o3.2.2), o3.1)
set_option maxHeartbeats 4000000 in
set_option maxRecDepth 100000 in
theorem testgatemake_Revision_ok {N : Nat} {m : Mem} {own : List Piece} {w : World} {p0 : List Int × Int} {bp0 : Nat} {a1 : Option Addr} {c1 : Nat} {r : (List Int × Int) × ((List (ByteArray × ByteArray)))} (st : St m (.blk bp0 (.cells #[.slice a1 (List.length p0.1) c1, .int .i64 p0.2] 28 (0, 0)) :: own) w) (r1 : RepS (cInt .i64) m a1 c1 p0.1) (hr : testgatemake_Revision N p0 = some r) : Calls Tryz.prog 12 #[.pointer (some ⟨bp0, 0, none⟩)] w fun e w' => ∃ (ra1 : Option Addr) (rc1 : Nat) (ra2 : Option Addr) (rc2 : Nat) (m' : Mem), e = .returned (.agg #[.slice ra2 (List.length r.2) rc2]) ∧ m.le m' ∧ St m' (.room ra2 (List.length r.2) rc2 74 2 :: .blk bp0 (.cells #[.slice ra1 (List.length r.1.1) rc1, .int .i64 r.1.2] 28 (0, 0)) :: own) w' ∧ RepS (cInt .i64) m' ra1 rc1 r.1.1 ∧ RepS (cPair cStr cStr) m' ra2 rc2 r.2 := by
 unfold testgatemake_Revision at hr
 have hm := m.le_refl
 refine W_calls Tryz.func12 rfl Tryz.ntmps12 [(0, .pointer (some ⟨bp0, 0, none⟩))] kr rfl ?_
 refine W_sr (WO_one rfl (One_alloc (d := 2) (e := 25) (.agg #[.slice none 0 0]) kr rfl kr st ?_))
 clear st
 intro b1 w1 st
 refine WO_et rfl (W_sr ?_)
 refine WO_one rfl (One_alloc (d := 3) (e := 25) (.agg #[.slice none 0 0]) kr rfl kr st ?_)
 clear st
 intro b2 w2 st
 refine WO_et rfl (W_seq ?_)
 refine W_sr ?_
 replace ⟨y1, hx1, hr⟩ := bindS hr
 refine WO_one rfl (One_fn 8 54 #[] kr rfl ?_)
 refine (testgatemake_sources_ok st hx1).mono ?_
 clear st
 rintro _ w3 ⟨a2, c2, m1, rfl, hle1, st, r2⟩
 refine ⟨_, rfl, ?_⟩
 have hm := Mem.le_trans hm hle1
 have r1 := r1.mono hle1
 refine WO_seg 2 [(9, .int .i64 (List.length y1 : Int)), (10, .int .i64 0)] kr kr ?_
 refine WO_et rfl (W_block ?_)
 replace ⟨out1, hr, hrKu1⟩ := bindS hr
 refine W_cut (.exit 0) (fun L' w' => ∃ (o1 : (List (ByteArray × ByteArray)) × List (Int) × Int) (a3 : Option Addr) (c3 : Nat) (a4 : Option Addr) (c4 : Nat) (m2 : Mem), o1 = out1 ∧ L' = [(0, .pointer (some ⟨bp0, 0, none⟩)), (2, .pointer (some ⟨b1, 0, none⟩)), (3, .pointer (some ⟨b2, 0, none⟩))] ∧ m.le m2 ∧ St m2 (.blk b2 (.cells #[.slice a3 (List.length o1.1) c3] 25 (0, 0)) :: .blk b1 (.cells #[.slice none (List.length ([] : List (ByteArray × ByteArray))) 0] 25 (0, 0)) :: .blk bp0 (.cells #[.slice a4 (List.length o1.2.1) c4, .int .i64 o1.2.2] 28 (0, 0)) :: .room a2 (List.length y1) c2 9 1 :: .room a3 (List.length o1.1) c3 74 2 :: own) w' ∧ RepS (cPair cStr cStr) m2 a3 c3 o1.1 ∧ RepS (cInt .i64) m2 a4 c4 o1.2.1) ?_ ?_
 ·clear hr st
  rintro _ w4 ⟨o1, a3, c3, a4, c4, m2, rfl, rfl, hm, st, r3, r4⟩
  have hr := hrKu1
  clear hrKu1
  refine X_block_eq ?_
  refine X_then ?_
  refine W_seq ?_
  refine W_sr (WO_one rfl (One_buildSlice (d := 26) (t := 33) (e := 9) (len := 3) (parts := #[(0, (.const (.string (⟨#[97, 46, 100, 97, 116]⟩ : ByteArray)))), (1, (.const (.string (⟨#[100, 47, 98, 46, 100, 97, 116]⟩ : ByteArray)))), (2, (.const (.string (⟨#[99]⟩ : ByteArray))))]) cStr (xs := [(⟨#[97, 46, 100, 97, 116]⟩ : ByteArray), (⟨#[100, 47, 98, 46, 100, 97, 116]⟩ : ByteArray), (⟨#[99]⟩ : ByteArray)]) [.string (⟨#[97, 46, 100, 97, 116]⟩ : ByteArray), .string (⟨#[100, 47, 98, 46, 100, 97, 116]⟩ : ByteArray), .string (⟨#[99]⟩ : ByteArray)] kr rfl (fun _ => buildCells_run kr _) rfl rfl st ⟨[.string (⟨#[97, 46, 100, 97, 116]⟩ : ByteArray)], _, rfl, rfl, ⟨[.string (⟨#[100, 47, 98, 46, 100, 97, 116]⟩ : ByteArray)], _, rfl, rfl, ⟨[.string (⟨#[99]⟩ : ByteArray)], _, rfl, rfl, rfl⟩⟩⟩ ?_))
  clear st
  intro b4 m10 w14 hle7 st r14
  have hm := Mem.le_trans hm hle7
  have r3 := r3.mono hle7
  have r4 := r4.mono hle7
  refine WO_seg 2 [(27, .int .i64 (List.length ([(⟨#[97, 46, 100, 97, 116]⟩ : ByteArray), (⟨#[100, 47, 98, 46, 100, 97, 116]⟩ : ByteArray), (⟨#[99]⟩ : ByteArray)]) : Int)), (28, .int .i64 0)] kr kr ?_
  refine WO_end rfl ?_
  have st := st.front4
  have st := st.tail
  refine X_then ?_
  refine W_block ?_
  replace ⟨out2, hr, hrKu3⟩ := bindS hr
  refine W_cut (.exit 2) (fun L' w' => ∃ (o3 : (List (ByteArray × ByteArray)) × List (Int) × Int) (a14 : Option Addr) (c14 : Nat) (a15 : Option Addr) (c15 : Nat) (m11 : Mem), o3 = out2 ∧ L' = [(2, .pointer (some ⟨b1, 0, none⟩)), (3, .pointer (some ⟨b2, 0, none⟩))] ∧ m.le m11 ∧ St m11 (.blk b2 (.cells #[.slice a14 (List.length o3.1) c14] 25 (0, 0)) :: .blk b1 (.cells #[.slice none (List.length ([] : List (ByteArray × ByteArray))) 0] 25 (0, 0)) :: .blk bp0 (.cells #[.slice a15 (List.length o3.2.1) c15, .int .i64 o3.2.2] 28 (0, 0)) :: .room (some ⟨b4, 0, none⟩) (List.length ([(⟨#[97, 46, 100, 97, 116]⟩ : ByteArray), (⟨#[100, 47, 98, 46, 100, 97, 116]⟩ : ByteArray), (⟨#[99]⟩ : ByteArray)])) 3 9 1 :: .room a14 (List.length o3.1) c14 74 2 :: own) w' ∧ RepS (cPair cStr cStr) m11 a14 c14 o3.1 ∧ RepS (cInt .i64) m11 a15 c15 o3.2.1) ?_ ?_
  ·clear hr st
   rintro _ w15 ⟨o3, a14, c14, a15, c15, m11, rfl, rfl, hm, st, r15, r16⟩
   have hr := hrKu3
   clear hrKu3
   refine X_block_eq ?_
   refine X_then ?_
   refine W_sr (WO_one rfl (One_load_own (d := 41) (t := 25) (x := (.tmp 3)) (.agg #[.slice a14 (List.length o3.1) c14]) kr rfl (ev (.pointer (some ⟨b2, 0, none⟩))) st.head kr ?_))
   have st := st.front1
   refine WO_one rfl (One_store (t := 25) (x := (.tmp 2)) (y := (.tmp 41)) (v := .agg #[.slice a14 (List.length o3.1) c14]) (c' := #[.slice a14 (List.length o3.1) c14]) kr (ev (.pointer (some ⟨b1, 0, none⟩))) (ev (.agg #[.slice a14 (List.length o3.1) c14])) st kr kr ?_)
   clear st
   intro w23 st
   refine WO_end rfl ?_
   have st := st.front3
   have st := st.tail
   refine X_then ?_
   refine W_ret ?_
   obtain rfl := Option.some.inj hr
   refine X_ret [.cell 2 25] [.agg #[.slice a14 (List.length o3.1) c14]] rfl (ResAll.cons (ResAt.blk (v := .agg #[.slice a14 (List.length o3.1) c14]) (o := 0) kr st.head kr) ResAll.nil) ?_
   have st := st.tail
   have st := st.tail
   have st := st.front1
   exact ⟨a15, c15, a14, c14, m11, rfl, hm, st, r16, r15⟩
  intro K2_u3
  clear hrKu3
  have st := st.front4.front1.front4.front4.front4
  refine W_env _ kr (W_loop (fun k2 L' w' => ∃ (s2 : Int × (List (ByteArray × ByteArray)) × List (Int) × Int) (a16 : Option Addr) (c16 : Nat) (a17 : Option Addr) (c17 : Nat) (m12 : Mem), loopM (testgatemake_Revision_L2 N) k2 s2 = some out2 ∧ L' = [(0, .pointer (some ⟨bp0, 0, none⟩)), (2, .pointer (some ⟨b1, 0, none⟩)), (3, .pointer (some ⟨b2, 0, none⟩)), (26, .slice (some ⟨b4, 0, none⟩) (List.length ([(⟨#[97, 46, 100, 97, 116]⟩ : ByteArray), (⟨#[100, 47, 98, 46, 100, 97, 116]⟩ : ByteArray), (⟨#[99]⟩ : ByteArray)])) 3), (27, .int .i64 (List.length ([(⟨#[97, 46, 100, 97, 116]⟩ : ByteArray), (⟨#[100, 47, 98, 46, 100, 97, 116]⟩ : ByteArray), (⟨#[99]⟩ : ByteArray)]) : Int)), (28, .int .i64 s2.1)] ∧ m.le m12 ∧ St m12 (.blk b2 (.cells #[.slice a16 (List.length s2.2.1) c16] 25 (0, 0)) :: .blk b1 (.cells #[.slice none (List.length ([] : List (ByteArray × ByteArray))) 0] 25 (0, 0)) :: .blk bp0 (.cells #[.slice a17 (List.length s2.2.2.1) c17, .int .i64 s2.2.2.2] 28 (0, 0)) :: .room (some ⟨b4, 0, none⟩) (List.length ([(⟨#[97, 46, 100, 97, 116]⟩ : ByteArray), (⟨#[100, 47, 98, 46, 100, 97, 116]⟩ : ByteArray), (⟨#[99]⟩ : ByteArray)])) 3 9 1 :: .room a16 (List.length s2.2.1) c16 74 2 :: own) w' ∧ RepS cStr m12 (some ⟨b4, 0, none⟩) 3 ([(⟨#[97, 46, 100, 97, 116]⟩ : ByteArray), (⟨#[100, 47, 98, 46, 100, 97, 116]⟩ : ByteArray), (⟨#[99]⟩ : ByteArray)]) ∧ RepS (cPair cStr cStr) m12 a16 c16 s2.2.1 ∧ RepS (cInt .i64) m12 a17 c17 s2.2.2.1) N ⟨(0, o1.1, o1.2.1, o1.2.2), a3, c3, a4, c4, m10, hr, rfl, hm, st, r14, r3, r4⟩ ?_)
  clear st hr
  rintro k2 _ w16 ⟨s2, a16, c16, a17, c17, m12, hL, rfl, hm, st, r14, r17, r18⟩
  rcases k2 with _ | k2
  ·exact loopM_zero hL
  ·obtain ⟨qu3, hr, hSu3, hBu3⟩ := loopM_succ hL
   clear hL
   unfold testgatemake_Revision_L2 at hr
   refine W_sr (WO_seg 1 [(29, .bool (decide (s2.1 < (List.length ([(⟨#[97, 46, 100, 97, 116]⟩ : ByteArray), (⟨#[100, 47, 98, 46, 100, 97, 116]⟩ : ByteArray), (⟨#[99]⟩ : ByteArray)]) : Int))))] kr kr ?_)
   refine WO_et rfl (W_seq ?_)
   refine W_cond (decide (s2.1 < (List.length ([(⟨#[97, 46, 100, 97, 116]⟩ : ByteArray), (⟨#[100, 47, 98, 46, 100, 97, 116]⟩ : ByteArray), (⟨#[99]⟩ : ByteArray)]) : Int))) kr ?_ ?_
   ·intro hc
    rw [if_pos hc] at hr
    refine W_skip ?_
    refine X_then ?_
    refine W_seq ?_
    replace ⟨o4, hr, hrKu4⟩ := bindS hr
    refine W_cut .normal (fun L' w' => ∃ (a18 : Option Addr) (c18 : Nat) (a19 : Option Addr) (c19 : Nat) (m13 : Mem), L' = [(0, .pointer (some ⟨bp0, 0, none⟩)), (2, .pointer (some ⟨b1, 0, none⟩)), (3, .pointer (some ⟨b2, 0, none⟩)), (26, .slice (some ⟨b4, 0, none⟩) (List.length ([(⟨#[97, 46, 100, 97, 116]⟩ : ByteArray), (⟨#[100, 47, 98, 46, 100, 97, 116]⟩ : ByteArray), (⟨#[99]⟩ : ByteArray)])) 3), (27, .int .i64 (List.length ([(⟨#[97, 46, 100, 97, 116]⟩ : ByteArray), (⟨#[100, 47, 98, 46, 100, 97, 116]⟩ : ByteArray), (⟨#[99]⟩ : ByteArray)]) : Int)), (28, .int .i64 s2.1)] ∧ m.le m13 ∧ St m13 (.blk b2 (.cells #[.slice a18 (List.length o4.1) c18] 25 (0, 0)) :: .blk b1 (.cells #[.slice none (List.length ([] : List (ByteArray × ByteArray))) 0] 25 (0, 0)) :: .blk bp0 (.cells #[.slice a19 (List.length o4.2.1) c19, .int .i64 o4.2.2] 28 (0, 0)) :: .room (some ⟨b4, 0, none⟩) (List.length ([(⟨#[97, 46, 100, 97, 116]⟩ : ByteArray), (⟨#[100, 47, 98, 46, 100, 97, 116]⟩ : ByteArray), (⟨#[99]⟩ : ByteArray)])) 3 9 1 :: .room a18 (List.length o4.1) c18 74 2 :: own) w' ∧ RepS cStr m13 (some ⟨b4, 0, none⟩) 3 ([(⟨#[97, 46, 100, 97, 116]⟩ : ByteArray), (⟨#[100, 47, 98, 46, 100, 97, 116]⟩ : ByteArray), (⟨#[99]⟩ : ByteArray)]) ∧ RepS (cPair cStr cStr) m13 a18 c18 o4.1 ∧ RepS (cInt .i64) m13 a19 c19 o4.2.1) ?_ ?_
    ·clear hr st
     have hr := hrKu4
     clear hrKu4
     rintro _ w17 ⟨a18, c18, a19, c19, m13, rfl, hm, st, r14, r19, r20⟩
     refine X_then ?_
     refine W_region ?_
     refine WO_seg 2 [(28, .int .i64 (IntKind.wrap .i64 (s2.1 + 1)))] kr kr ?_
     refine WO_end rfl ?_
     obtain rfl := Option.some.inj hr
     have hL := hSu3 _ rfl
     have st := st.front4.front4.front4.front4.front4
     exact X_env _ kr (X_round k2 (Nat.lt_succ_self _) ⟨(IntKind.wrap .i64 (s2.1 + 1), o4.1, o4.2.1, o4.2.2), a18, c18, a19, c19, m13, hL, rfl, hm, st, r14, r19, r20⟩)
    ·intro Ku4
     clear hrKu4
     refine W_block ?_
     refine W_sr ?_
     replace ⟨x2, hx8, hr⟩ := bindS hr
     refine WO_one rfl (One_index (d := 30) (t := 33) (e := 9) (x := (.tmp 26)) (y := (.tmp 28)) cStr kr rfl (ev (.slice (some ⟨b4, 0, none⟩) (List.length ([(⟨#[97, 46, 100, 97, 116]⟩ : ByteArray), (⟨#[100, 47, 98, 46, 100, 97, 116]⟩ : ByteArray), (⟨#[99]⟩ : ByteArray)])) 3)) (ev (.int .i64 s2.1)) kr r14 hx8 ?_)
     rintro b5 f2 cs2 rfl hq2
     refine WO_one rfl (One_load_row (d := 31) (t := 9) (x := (.tmp 30)) (.string x2) kr rfl (ev (.pointer (some ⟨b5, f2, none⟩))) st hq2 kr ?_)
     refine WO_seg 1 [(7, .string x2)] kr kr ?_
     refine WO_et rfl (W_sr ?_)
     refine WO_seg 1 [(32, .pointer (some ⟨bp0, 0, none⟩))] kr kr ?_
     have st := st.front2
     replace ⟨y7, hx9, hr⟩ := bindS hr
     refine WO_one rfl (One_fn 33 29 #[.pointer (some ⟨bp0, 0, none⟩), .int .i64 1, .int .i64 3] kr rfl ?_)
     refine (testgatemake_Tape_Chance_ok st r18 hx9).mono ?_
     clear st
     rintro _ w18 ⟨a20, c20, m14, rfl, hle8, st, r21⟩
     refine ⟨_, rfl, ?_⟩
     have hm := Mem.le_trans hm hle8
     have r14 := r14.mono hle8
     have r18 := r18.mono hle8
     have r17 := r17.mono hle8
     refine WO_et rfl (W_cond y7.2 kr ?_ ?_)
     ·intro hc
      rw [if_pos hc] at hr
      refine W_draw [(7, fun w' => Inv m14 w' ∧ True), (6, fun w' => Inv m14 w' ∧ Piece.holds m14 w' (.blk b2 (.cells #[.slice a16 (List.length s2.2.1) c16] 25 (0, 0))) ∧ True)] kr st ?_
      clear st
      intro w19 _ st
      have hmS2 := m14.le_refl
      refine ⟨⟨.inr ⟨Inv.anti st.inv hmS2, trivial⟩, ⟨.inr ⟨Inv.anti st.inv hmS2, Piece.holds_anti st.tail.head hmS2, trivial⟩, trivial⟩⟩, ?_⟩
      refine WA_load_own (t := 25) (x := (.tmp 3)) 0 34 (.agg #[.slice a16 (List.length s2.2.1) c16]) kr rfl kr (.tail _ (.head _)) (QP_block (QP_then (QP_then (QP_block (QP_then QP_body))))) (fun _ h => h.2.1) (ev (.pointer (some ⟨b2, 0, none⟩))) kr ?_
      refine WA_pure 1 35 (.string x2) kr rfl kr (.head _) (QP_block (QP_then (QP_then (QP_block (QP_then QP_body))))) ?_
      refine WA_pure 2 36 (.pointer (some ⟨bp0, 0, none⟩)) kr rfl kr (.head _) (QP_block (QP_then (QP_then (QP_block (QP_then QP_body))))) ?_
      replace ⟨y8, hx10, hr⟩ := bindS hr
      refine WA_one 3 kr  (One_fn 37 56 #[.pointer (some ⟨bp0, 0, none⟩)] kr rfl ?_)
      refine (testgatemake_data_ok st r21 hx10).mono ?_
      clear st
      rintro _ w20 ⟨a21, c21, m15, rfl, hle9, st, r22⟩
      refine ⟨_, rfl, ?_⟩
      have hm := Mem.le_trans hm hle9
      have r14 := r14.mono hle9
      have r17 := r17.mono hle9
      have r21 := r21.mono hle9
      have hmS2 := Mem.le_trans hmS2 hle9
      refine ⟨⟨.inr ⟨Inv.anti st.inv hmS2, trivial⟩, ⟨.inr ⟨Inv.anti st.inv hmS2, Piece.holds_anti st.tail.head hmS2, trivial⟩, trivial⟩⟩, ?_⟩
      refine WA_pure 4 38 (.agg #[.string x2, .string y8.2]) kr rfl kr (.head _) (QP_block (QP_then (QP_then (QP_block (QP_then QP_body))))) ?_
      replace ⟨y9, hx11, hr⟩ := bindS hr
      refine WA_one 5 kr  (One_fn 39 55 #[.agg #[.slice a16 (List.length s2.2.1) c16], .agg #[.string x2, .string y8.2]] kr rfl ?_)
      refine (testgatemake_insert_ok st r17 hx11).mono ?_
      clear st
      rintro _ w21 ⟨a22, c22, m16, rfl, hle10, st, r23⟩
      refine ⟨_, rfl, ?_⟩
      have hm := Mem.le_trans hm hle10
      have r14 := r14.mono hle10
      have r17 := r17.mono hle10
      have r22 := r22.mono hle10
      have hmS2 := Mem.le_trans hmS2 hle10
      refine ⟨⟨.inr ⟨Inv.anti st.inv hmS2, trivial⟩, ⟨.inr ⟨Inv.anti st.inv hmS2, Piece.holds_anti st.tail.tail.head hmS2, trivial⟩, trivial⟩⟩, ?_⟩
      have st := st.front2
      refine WA_one 6 kr  (One_store (t := 25) (x := (.tmp 3)) (y := (.tmp 39)) (v := .agg #[.slice a22 (List.length y9) c22]) (c' := #[.slice a22 (List.length y9) c22]) kr (ev (.pointer (some ⟨b2, 0, none⟩))) (ev (.agg #[.slice a22 (List.length y9) c22])) st kr kr ?_)
      clear st
      intro w22 st
      refine ⟨⟨.inr ⟨Inv.anti st.inv hmS2, trivial⟩, ⟨.inl rfl, trivial⟩⟩, ?_⟩
      refine WA_done kr ?_
      have st := st.front5
      have st := st.tail
      refine X_block ?_
      obtain rfl := Option.some.inj hr
      have st := st.front1.front4.front3.front4.front4
      exact X_env _ kr (Ku4 _ _ ⟨a22, c22, a21, c21, m16, rfl, hm, st, r14, r23, r22⟩)
     ·intro hc
      rw [if_neg (not_true hc)] at hr
      refine W_skip ?_
      refine X_block ?_
      obtain rfl := Option.some.inj hr
      have st := st.front4.front4.front2.front4.front4
      exact X_env _ kr (Ku4 _ _ ⟨a16, c16, a20, c20, m14, rfl, hm, st, r14, r17, r21⟩)
   ·intro hc
    rw [if_neg (not_true hc)] at hr
    refine W_exit ?_
    refine X_then_exit ?_
    obtain rfl := Option.some.inj hr
    have ho := hBu3 _ rfl
    have st := st.front4.front4.front4.front4.front4
    refine X_then_exit ?_
    exact X_env _ kr (K2_u3 _ _ ⟨(s2.2.1, s2.2.2.1, s2.2.2.2), a16, c16, a17, c17, m12, ho, rfl, hm, st, r17, r18⟩)
 intro K0_u1
 clear hrKu1
 have st := st.nilroom 74 2
 have st := st.front1.front4.front4.front4
 refine W_env _ kr (W_loop (fun k1 L' w' => ∃ (s1 : Int × (List (ByteArray × ByteArray)) × List (Int) × Int) (a5 : Option Addr) (c5 : Nat) (a6 : Option Addr) (c6 : Nat) (m3 : Mem), loopM (testgatemake_Revision_L1 N y1) k1 s1 = some out1 ∧ L' = [(0, .pointer (some ⟨bp0, 0, none⟩)), (2, .pointer (some ⟨b1, 0, none⟩)), (3, .pointer (some ⟨b2, 0, none⟩)), (8, .slice a2 (List.length y1) c2), (9, .int .i64 (List.length y1 : Int)), (10, .int .i64 s1.1)] ∧ m.le m3 ∧ St m3 (.blk b2 (.cells #[.slice a5 (List.length s1.2.1) c5] 25 (0, 0)) :: .blk b1 (.cells #[.slice none (List.length ([] : List (ByteArray × ByteArray))) 0] 25 (0, 0)) :: .blk bp0 (.cells #[.slice a6 (List.length s1.2.2.1) c6, .int .i64 s1.2.2.2] 28 (0, 0)) :: .room a2 (List.length y1) c2 9 1 :: .room a5 (List.length s1.2.1) c5 74 2 :: own) w' ∧ RepS cStr m3 a2 c2 y1 ∧ RepS (cPair cStr cStr) m3 a5 c5 s1.2.1 ∧ RepS (cInt .i64) m3 a6 c6 s1.2.2.1) N ⟨(0, ([] : List (ByteArray × ByteArray)), p0.1, p0.2), none, 0, a1, c1, m1, hr, rfl, hm, st, r2, (RepS.nil _ _), r1⟩ ?_)
 clear st hr
 rintro k1 _ w5 ⟨s1, a5, c5, a6, c6, m3, hL, rfl, hm, st, r2, r5, r6⟩
 rcases k1 with _ | k1
 ·exact loopM_zero hL
 ·obtain ⟨qu1, hr, hSu1, hBu1⟩ := loopM_succ hL
  clear hL
  unfold testgatemake_Revision_L1 at hr
  refine W_sr (WO_seg 1 [(11, .bool (decide (s1.1 < (List.length y1 : Int))))] kr kr ?_)
  refine WO_et rfl (W_seq ?_)
  refine W_cond (decide (s1.1 < (List.length y1 : Int))) kr ?_ ?_
  ·intro hc
   rw [if_pos hc] at hr
   refine W_skip ?_
   refine X_then ?_
   refine W_seq ?_
   replace ⟨o2, hr, hrKu2⟩ := bindS hr
   refine W_cut .normal (fun L' w' => ∃ (a7 : Option Addr) (c7 : Nat) (a8 : Option Addr) (c8 : Nat) (m4 : Mem), L' = [(0, .pointer (some ⟨bp0, 0, none⟩)), (2, .pointer (some ⟨b1, 0, none⟩)), (3, .pointer (some ⟨b2, 0, none⟩)), (8, .slice a2 (List.length y1) c2), (9, .int .i64 (List.length y1 : Int)), (10, .int .i64 s1.1)] ∧ m.le m4 ∧ St m4 (.blk b2 (.cells #[.slice a7 (List.length o2.1) c7] 25 (0, 0)) :: .blk b1 (.cells #[.slice none (List.length ([] : List (ByteArray × ByteArray))) 0] 25 (0, 0)) :: .blk bp0 (.cells #[.slice a8 (List.length o2.2.1) c8, .int .i64 o2.2.2] 28 (0, 0)) :: .room a2 (List.length y1) c2 9 1 :: .room a7 (List.length o2.1) c7 74 2 :: own) w' ∧ RepS cStr m4 a2 c2 y1 ∧ RepS (cPair cStr cStr) m4 a7 c7 o2.1 ∧ RepS (cInt .i64) m4 a8 c8 o2.2.1) ?_ ?_
   ·clear hr st
    have hr := hrKu2
    clear hrKu2
    rintro _ w6 ⟨a7, c7, a8, c8, m4, rfl, hm, st, r2, r7, r8⟩
    refine X_then ?_
    refine W_region ?_
    refine WO_seg 2 [(10, .int .i64 (IntKind.wrap .i64 (s1.1 + 1)))] kr kr ?_
    refine WO_end rfl ?_
    obtain rfl := Option.some.inj hr
    have hL := hSu1 _ rfl
    have st := st.front4.front4.front4.front4.front4
    exact X_env _ kr (X_round k1 (Nat.lt_succ_self _) ⟨(IntKind.wrap .i64 (s1.1 + 1), o2.1, o2.2.1, o2.2.2), a7, c7, a8, c8, m4, hL, rfl, hm, st, r2, r7, r8⟩)
   ·intro Ku2
    clear hrKu2
    refine W_block ?_
    refine W_sr ?_
    replace ⟨x1, hx2, hr⟩ := bindS hr
    refine WO_one rfl (One_index (d := 12) (t := 33) (e := 9) (x := (.tmp 8)) (y := (.tmp 10)) cStr kr rfl (ev (.slice a2 (List.length y1) c2)) (ev (.int .i64 s1.1)) kr r2 hx2 ?_)
    rintro b3 f1 cs1 rfl hq1
    refine WO_one rfl (One_load_row (d := 13) (t := 9) (x := (.tmp 12)) (.string x1) kr rfl (ev (.pointer (some ⟨b3, f1, none⟩))) st hq1 kr ?_)
    refine WO_seg 1 [(5, .string x1)] kr kr ?_
    refine WO_et rfl (W_sr ?_)
    refine WO_seg 1 [(14, .pointer (some ⟨bp0, 0, none⟩))] kr kr ?_
    have st := st.front2
    replace ⟨y2, hx3, hr⟩ := bindS hr
    refine WO_one rfl (One_fn 15 29 #[.pointer (some ⟨bp0, 0, none⟩), .int .i64 3, .int .i64 4] kr rfl ?_)
    refine (testgatemake_Tape_Chance_ok st r6 hx3).mono ?_
    clear st
    rintro _ w7 ⟨a9, c9, m5, rfl, hle2, st, r9⟩
    refine ⟨_, rfl, ?_⟩
    have hm := Mem.le_trans hm hle2
    have r2 := r2.mono hle2
    have r6 := r6.mono hle2
    have r5 := r5.mono hle2
    refine WO_et rfl (W_cond y2.2 kr ?_ ?_)
    ·intro hc
     rw [if_pos hc] at hr
     refine W_draw [(10, fun w' => Inv m5 w' ∧ True), (9, fun w' => Inv m5 w' ∧ Piece.holds m5 w' (.blk b2 (.cells #[.slice a5 (List.length s1.2.1) c5] 25 (0, 0))) ∧ True)] kr st ?_
     clear st
     intro w8 _ st
     have hmS1 := m5.le_refl
     refine ⟨⟨.inr ⟨Inv.anti st.inv hmS1, trivial⟩, ⟨.inr ⟨Inv.anti st.inv hmS1, Piece.holds_anti st.tail.head hmS1, trivial⟩, trivial⟩⟩, ?_⟩
     refine WA_load_own (t := 25) (x := (.tmp 3)) 0 16 (.agg #[.slice a5 (List.length s1.2.1) c5]) kr rfl kr (.tail _ (.head _)) (QP_block (QP_then (QP_then (QP_block (QP_then QP_body))))) (fun _ h => h.2.1) (ev (.pointer (some ⟨b2, 0, none⟩))) kr ?_
     refine WA_pure 1 17 (.string x1) kr rfl kr (.head _) (QP_block (QP_then (QP_then (QP_block (QP_then QP_body))))) ?_
     refine WA_pure 2 18 (.pointer (some ⟨bp0, 0, none⟩)) kr rfl kr (.head _) (QP_block (QP_then (QP_then (QP_block (QP_then QP_body))))) ?_
     refine WA_pure 3 19 (.pointer (some ⟨bp0, 0, none⟩)) kr rfl kr (.head _) (QP_block (QP_then (QP_then (QP_block (QP_then QP_body))))) ?_
     replace ⟨y3, hx4, hr⟩ := bindS hr
     refine WA_one 4 kr  (One_fn 20 59 #[] kr rfl ?_)
     refine (testgatemake_Packages_ok st hx4).mono ?_
     clear st
     rintro _ w9 ⟨a10, c10, m6, rfl, hle3, st, r10⟩
     refine ⟨_, rfl, ?_⟩
     have hm := Mem.le_trans hm hle3
     have r2 := r2.mono hle3
     have r5 := r5.mono hle3
     have r9 := r9.mono hle3
     have hmS1 := Mem.le_trans hmS1 hle3
     refine ⟨⟨.inr ⟨Inv.anti st.inv hmS1, trivial⟩, ⟨.inr ⟨Inv.anti st.inv hmS1, Piece.holds_anti st.tail.tail.head hmS1, trivial⟩, trivial⟩⟩, ?_⟩
     have st := st.front1
     replace ⟨y4, hx5, hr⟩ := bindS hr
     refine WA_one 5 kr  (One_fn 21 13 #[.pointer (some ⟨bp0, 0, none⟩), .slice a10 (List.length y3) c10] kr rfl ?_)
     refine (testgatemake_Tape_One_ok st r9 r10 hx5).mono ?_
     clear st
     rintro _ w10 ⟨a11, c11, m7, rfl, hle4, st, r11⟩
     refine ⟨_, rfl, ?_⟩
     have hm := Mem.le_trans hm hle4
     have r2 := r2.mono hle4
     have r5 := r5.mono hle4
     have r10 := r10.mono hle4
     have r9 := r9.mono hle4
     have hmS1 := Mem.le_trans hmS1 hle4
     refine ⟨⟨.inr ⟨Inv.anti st.inv hmS1, trivial⟩, ⟨.inr ⟨Inv.anti st.inv hmS1, Piece.holds_anti st.tail.tail.head hmS1, trivial⟩, trivial⟩⟩, ?_⟩
     replace ⟨y5, hx6, hr⟩ := bindS hr
     refine WA_one 6 kr  (One_fn 22 58 #[.pointer (some ⟨bp0, 0, none⟩), .string y4.2] kr rfl ?_)
     refine (testgatemake_Source_ok st r11 hx6).mono ?_
     clear st
     rintro _ w11 ⟨a12, c12, m8, rfl, hle5, st, r12⟩
     refine ⟨_, rfl, ?_⟩
     have hm := Mem.le_trans hm hle5
     have r2 := r2.mono hle5
     have r5 := r5.mono hle5
     have r10 := r10.mono hle5
     have r11 := r11.mono hle5
     have hmS1 := Mem.le_trans hmS1 hle5
     refine ⟨⟨.inr ⟨Inv.anti st.inv hmS1, trivial⟩, ⟨.inr ⟨Inv.anti st.inv hmS1, Piece.holds_anti st.tail.tail.head hmS1, trivial⟩, trivial⟩⟩, ?_⟩
     refine WA_pure 7 23 (.agg #[.string x1, .string y5.2]) kr rfl kr (.head _) (QP_block (QP_then (QP_then (QP_block (QP_then QP_body))))) ?_
     replace ⟨y6, hx7, hr⟩ := bindS hr
     refine WA_one 8 kr  (One_fn 24 55 #[.agg #[.slice a5 (List.length s1.2.1) c5], .agg #[.string x1, .string y5.2]] kr rfl ?_)
     refine (testgatemake_insert_ok st r5 hx7).mono ?_
     clear st
     rintro _ w12 ⟨a13, c13, m9, rfl, hle6, st, r13⟩
     refine ⟨_, rfl, ?_⟩
     have hm := Mem.le_trans hm hle6
     have r2 := r2.mono hle6
     have r5 := r5.mono hle6
     have r10 := r10.mono hle6
     have r12 := r12.mono hle6
     have hmS1 := Mem.le_trans hmS1 hle6
     refine ⟨⟨.inr ⟨Inv.anti st.inv hmS1, trivial⟩, ⟨.inr ⟨Inv.anti st.inv hmS1, Piece.holds_anti st.tail.tail.tail.head hmS1, trivial⟩, trivial⟩⟩, ?_⟩
     have st := st.front3
     refine WA_one 9 kr  (One_store (t := 25) (x := (.tmp 3)) (y := (.tmp 24)) (v := .agg #[.slice a13 (List.length y6) c13]) (c' := #[.slice a13 (List.length y6) c13]) kr (ev (.pointer (some ⟨b2, 0, none⟩))) (ev (.agg #[.slice a13 (List.length y6) c13])) st kr kr ?_)
     clear st
     intro w13 st
     refine ⟨⟨.inr ⟨Inv.anti st.inv hmS1, trivial⟩, ⟨.inl rfl, trivial⟩⟩, ?_⟩
     refine WA_done kr ?_
     have st := st.front3
     have st := st.tail
     have st := st.front5
     have st := st.tail
     refine X_block ?_
     obtain rfl := Option.some.inj hr
     have st := st.front1.front4.front3.front4.front4
     exact X_env _ kr (Ku2 _ _ ⟨a13, c13, a12, c12, m9, rfl, hm, st, r2, r13, r12⟩)
    ·intro hc
     rw [if_neg (not_true hc)] at hr
     refine W_skip ?_
     refine X_block ?_
     obtain rfl := Option.some.inj hr
     have st := st.front4.front4.front2.front4.front4
     exact X_env _ kr (Ku2 _ _ ⟨a5, c5, a9, c9, m5, rfl, hm, st, r2, r5, r9⟩)
  ·intro hc
   rw [if_neg (not_true hc)] at hr
   refine W_exit ?_
   refine X_then_exit ?_
   obtain rfl := Option.some.inj hr
   have ho := hBu1 _ rfl
   have st := st.front4.front4.front4.front4.front4
   refine X_then_exit ?_
   exact X_env _ kr (K0_u1 _ _ ⟨(s1.2.1, s1.2.2.1, s1.2.2.2), a5, c5, a6, c6, m3, ho, rfl, hm, st, r5, r6⟩)
def testgatemake_remove_L1 (N : Nat) (p0 : (List (ByteArray × ByteArray))) (p1 : ByteArray) (s1 : Int × (List (ByteArray × ByteArray))) : Option ((Int × (List (ByteArray × ByteArray))) ⊕ (((List (ByteArray × ByteArray))))) :=
 if (decide (s1.1 < (List.length p0 : Int))) = true then (((idx p0 s1.1).bind fun x1 => if (!(x1.1.toList == p1.toList)) = true then ((appendS 32 s1.2 ([(x1.1, x1.2)])).bind fun l1 => some l1) else (some s1.2) : Option ((List (ByteArray × ByteArray)))).bind fun o2 => some (.inl (IntKind.wrap .i64 (s1.1 + 1), o2))) else (some (.inr s1.2))
def testgatemake_remove (N : Nat) (p0 : (List (ByteArray × ByteArray))) (p1 : ByteArray) : Option ((List (ByteArray × ByteArray))) :=
 (loopM (testgatemake_remove_L1 N p0 p1) N (0, ([] : List (ByteArray × ByteArray)))).bind fun o1 => some o1
set_option maxHeartbeats 4000000 in
set_option maxRecDepth 100000 in
theorem testgatemake_remove_ok {N : Nat} {m : Mem} {own : List Piece} {w : World} {p0 : (List (ByteArray × ByteArray))} {p1 : ByteArray} {a1 : Option Addr} {c1 : Nat} {r : (List (ByteArray × ByteArray))} (st : St m (own) w) (r1 : RepS (cPair cStr cStr) m a1 c1 p0) (hr : testgatemake_remove N p0 p1 = some r) : Calls Tryz.prog 57 #[.agg #[.slice a1 (List.length p0) c1], .string p1] w fun e w' => ∃ (ra1 : Option Addr) (rc1 : Nat) (m' : Mem), e = .returned (.agg #[.slice ra1 (List.length r) rc1]) ∧ m.le m' ∧ St m' (.room ra1 (List.length r) rc1 74 2 :: own) w' ∧ RepS (cPair cStr cStr) m' ra1 rc1 r := by
 unfold testgatemake_remove at hr
 have hm := m.le_refl
 refine W_calls Tryz.func57 rfl Tryz.ntmps57 [(0, .agg #[.slice a1 (List.length p0) c1]), (1, .string p1)] kr rfl ?_
 refine W_sr (WO_one rfl (One_box (d := 2) (e := 25) (x := (.tmp 0)) (.agg #[.slice a1 (List.length p0) c1]) kr rfl kr st ?_))
 clear st
 intro b1 m1 w1 hle1 st hb1
 have hm := Mem.le_trans hm hle1
 have r1 := r1.mono hle1
 refine WO_one rfl (One_alloc (d := 4) (e := 25) (.agg #[.slice none 0 0]) kr rfl kr st ?_)
 clear st
 intro b2 w2 st
 refine WO_et rfl (W_sr ?_)
 refine WO_one rfl (One_alloc (d := 5) (e := 25) (.agg #[.slice none 0 0]) kr rfl kr st ?_)
 clear st
 intro b3 w3 st
 refine WO_et rfl (W_seq ?_)
 refine W_sr (WO_seg 1 [(8, .pointer (some ⟨b1, 0, none⟩))] kr kr ?_)
 refine WO_one rfl (One_load_row (d := 9) (t := 23) (x := (.tmp 8)) (.slice a1 (List.length p0) c1) kr rfl (ev (.pointer (some ⟨b1, 0, none⟩))) st hb1 kr ?_)
 refine WO_seg 2 [(10, .int .i64 (List.length p0 : Int)), (11, .int .i64 0)] kr kr ?_
 refine WO_et rfl (W_block ?_)
 replace ⟨out1, hr, hrKu1⟩ := bindS hr
 refine W_cut (.exit 0) (fun L' w' => ∃ (o1 : (List (ByteArray × ByteArray))) (a2 : Option Addr) (c2 : Nat) (m2 : Mem), o1 = out1 ∧ L' = [(4, .pointer (some ⟨b2, 0, none⟩)), (5, .pointer (some ⟨b3, 0, none⟩))] ∧ m.le m2 ∧ St m2 (.blk b3 (.cells #[.slice a2 (List.length o1) c2] 25 (0, 0)) :: .blk b2 (.cells #[.slice none (List.length ([] : List (ByteArray × ByteArray))) 0] 25 (0, 0)) :: .room a2 (List.length o1) c2 74 2 :: own) w' ∧ RepS (cPair cStr cStr) m2 a2 c2 o1) ?_ ?_
 ·clear hr st
  rintro _ w4 ⟨o1, a2, c2, m2, rfl, rfl, hm, st, r2⟩
  have hr := hrKu1
  clear hrKu1
  refine X_block_eq ?_
  refine X_then ?_
  refine W_sr (WO_one rfl (One_load_own (d := 26) (t := 25) (x := (.tmp 5)) (.agg #[.slice a2 (List.length o1) c2]) kr rfl (ev (.pointer (some ⟨b3, 0, none⟩))) st.head kr ?_))
  have st := st.front1
  refine WO_one rfl (One_store (t := 25) (x := (.tmp 4)) (y := (.tmp 26)) (v := .agg #[.slice a2 (List.length o1) c2]) (c' := #[.slice a2 (List.length o1) c2]) kr (ev (.pointer (some ⟨b2, 0, none⟩))) (ev (.agg #[.slice a2 (List.length o1) c2])) st kr kr ?_)
  clear st
  intro w12 st
  refine WO_et rfl (W_ret ?_)
  obtain rfl := Option.some.inj hr
  refine X_ret [.cell 4 25] [.agg #[.slice a2 (List.length o1) c2]] rfl (ResAll.cons (ResAt.blk (v := .agg #[.slice a2 (List.length o1) c2]) (o := 0) kr st.head kr) ResAll.nil) ?_
  have st := st.tail
  have st := st.tail
  exact ⟨a2, c2, m2, rfl, hm, st, r2⟩
 intro K0_u1
 clear hrKu1
 have st := st.nilroom 74 2
 have st := st.front2.front2
 refine W_env _ kr (W_loop (fun k1 L' w' => ∃ (s1 : Int × (List (ByteArray × ByteArray))) (a3 : Option Addr) (c3 : Nat) (m3 : Mem), loopM (testgatemake_remove_L1 N p0 p1) k1 s1 = some out1 ∧ L' = [(1, .string p1), (4, .pointer (some ⟨b2, 0, none⟩)), (5, .pointer (some ⟨b3, 0, none⟩)), (9, .slice a1 (List.length p0) c1), (10, .int .i64 (List.length p0 : Int)), (11, .int .i64 s1.1)] ∧ m.le m3 ∧ St m3 (.blk b3 (.cells #[.slice a3 (List.length s1.2) c3] 25 (0, 0)) :: .blk b2 (.cells #[.slice none (List.length ([] : List (ByteArray × ByteArray))) 0] 25 (0, 0)) :: .room a3 (List.length s1.2) c3 74 2 :: own) w' ∧ RepS (cPair cStr cStr) m3 a1 c1 p0 ∧ RepS (cPair cStr cStr) m3 a3 c3 s1.2) N ⟨(0, ([] : List (ByteArray × ByteArray))), none, 0, m1, hr, rfl, hm, st, r1, (RepS.nil _ _)⟩ ?_)
 clear st hr
 rintro k1 _ w5 ⟨s1, a3, c3, m3, hL, rfl, hm, st, r1, r3⟩
 rcases k1 with _ | k1
 ·exact loopM_zero hL
 ·obtain ⟨qu1, hr, hSu1, hBu1⟩ := loopM_succ hL
  clear hL
  unfold testgatemake_remove_L1 at hr
  refine W_sr (WO_seg 1 [(12, .bool (decide (s1.1 < (List.length p0 : Int))))] kr kr ?_)
  refine WO_et rfl (W_seq ?_)
  refine W_cond (decide (s1.1 < (List.length p0 : Int))) kr ?_ ?_
  ·intro hc
   rw [if_pos hc] at hr
   refine W_skip ?_
   refine X_then ?_
   refine W_seq ?_
   replace ⟨o2, hr, hrKu2⟩ := bindS hr
   refine W_cut .normal (fun L' w' => ∃ (a4 : Option Addr) (c4 : Nat) (m4 : Mem), L' = [(1, .string p1), (4, .pointer (some ⟨b2, 0, none⟩)), (5, .pointer (some ⟨b3, 0, none⟩)), (9, .slice a1 (List.length p0) c1), (10, .int .i64 (List.length p0 : Int)), (11, .int .i64 s1.1)] ∧ m.le m4 ∧ St m4 (.blk b3 (.cells #[.slice a4 (List.length o2) c4] 25 (0, 0)) :: .blk b2 (.cells #[.slice none (List.length ([] : List (ByteArray × ByteArray))) 0] 25 (0, 0)) :: .room a4 (List.length o2) c4 74 2 :: own) w' ∧ RepS (cPair cStr cStr) m4 a1 c1 p0 ∧ RepS (cPair cStr cStr) m4 a4 c4 o2) ?_ ?_
   ·clear hr st
    have hr := hrKu2
    clear hrKu2
    rintro _ w6 ⟨a4, c4, m4, rfl, hm, st, r1, r4⟩
    refine X_then ?_
    refine W_region ?_
    refine WO_seg 2 [(11, .int .i64 (IntKind.wrap .i64 (s1.1 + 1)))] kr kr ?_
    refine WO_end rfl ?_
    obtain rfl := Option.some.inj hr
    have hL := hSu1 _ rfl
    have st := st.front2.front2.front2
    exact X_env _ kr (X_round k1 (Nat.lt_succ_self _) ⟨(IntKind.wrap .i64 (s1.1 + 1), o2), a4, c4, m4, hL, rfl, hm, st, r1, r4⟩)
   ·intro Ku2
    clear hrKu2
    refine W_block ?_
    refine W_sr ?_
    replace ⟨x1, hx1, hr⟩ := bindS hr
    refine WO_one rfl (One_index (d := 13) (t := 23) (e := 74) (x := (.tmp 9)) (y := (.tmp 11)) (cPair cStr cStr) kr rfl (ev (.slice a1 (List.length p0) c1)) (ev (.int .i64 s1.1)) kr r1 hx1 ?_)
    rintro b4 f1 cs1 ⟨_, _, rfl, rfl, rfl⟩ hq1
    refine WO_one rfl (One_load_row (d := 14) (t := 74) (x := (.tmp 13)) (.agg #[.string x1.1, .string x1.2]) kr rfl (ev (.pointer (some ⟨b4, f1, none⟩))) st hq1 kr ?_)
    refine WO_one rfl (One_alloc (d := 7) (e := 74) (.agg #[.string (⟨#[]⟩ : ByteArray), .string (⟨#[]⟩ : ByteArray)]) kr rfl kr st ?_)
    clear st
    intro b5 w7 st
    refine WO_one rfl (One_store (t := 74) (x := (.tmp 7)) (y := (.tmp 14)) (v := .agg #[.string x1.1, .string x1.2]) (c' := #[.string x1.1, .string x1.2]) kr (ev (.pointer (some ⟨b5, 0, none⟩))) (ev (.agg #[.string x1.1, .string x1.2])) st kr kr ?_)
    clear st
    intro w8 st
    refine WO_et rfl (W_sr ?_)
    refine WO_seg 1 [(15, .pointer (some ⟨b5, 0, none⟩))] kr kr ?_
    refine WO_one rfl (One_load_own (d := 16) (t := 9) (x := (.tmp 15)) (.string x1.1) kr rfl (ev (.pointer (some ⟨b5, 0, none⟩))) st.head kr ?_)
    refine WO_seg 2 [(18, .bool (!(x1.1.toList == p1.toList)))] kr kr ?_
    refine WO_et rfl (W_cond (!(x1.1.toList == p1.toList)) kr ?_ ?_)
    ·intro hc
     rw [if_pos hc] at hr
     refine W_region ?_
     refine WO_seg 1 [(19, .pointer (some ⟨b3, 0, none⟩))] kr kr ?_
     refine WO_one rfl (One_load_own (d := 20) (t := 23) (x := (.tmp 19)) (.slice a3 (List.length s1.2) c3) kr rfl (ev (.pointer (some ⟨b3, 0, none⟩))) st.tail.head kr ?_)
     refine WO_one rfl (One_load_own (d := 21) (t := 74) (x := (.tmp 7)) (.agg #[.string x1.1, .string x1.2]) kr rfl (ev (.pointer (some ⟨b5, 0, none⟩))) st.head kr ?_)
     refine WO_one rfl (One_buildSlice (d := 22) (t := 23) (e := 74) (len := 1) (parts := #[(0, (.tmp 21))]) (cPair cStr cStr) (xs := [(x1.1, x1.2)]) [.string x1.1, .string x1.2] kr rfl (fun _ => buildCells_run kr _) rfl rfl st ⟨[.string x1.1, .string x1.2], _, rfl, ⟨_, _, rfl, rfl, rfl⟩, rfl⟩ ?_)
     clear st
     intro b6 m5 w9 hle2 st r5
     have hm := Mem.le_trans hm hle2
     have r1 := r1.mono hle2
     have r3 := r3.mono hle2
     have st := st.front4
     replace ⟨l1, hx2, hr⟩ := bindS hr
     refine WO_one rfl (One_append (d := 23) (t := 23) (u := 23) (e := 74) (by_ := 32) (x := (.tmp 20)) (y := (.tmp 22)) (cPair cStr cStr) kr rfl (ev (.slice a3 (List.length s1.2) c3)) (ev (.slice (some ⟨b6, 0, none⟩) (List.length ([(x1.1, x1.2)])) 1)) st kr (.inl kr) r3 r5.src hx2 ?_)
     clear st
     intro a5 c5 m6 w10 hle3 st r6
     have hm := Mem.le_trans hm hle3
     have r1 := r1.mono hle3
     have r3 := r3.mono hle3
     have r5 := r5.mono hle3
     refine WO_seg 1 [(24, .pointer (some ⟨b3, 0, none⟩))] kr kr ?_
     have st := st.front3
     refine WO_one rfl (One_store (t := 23) (x := (.tmp 24)) (y := (.tmp 23)) (v := .slice a5 (List.length l1) c5) (c' := #[.slice a5 (List.length l1) c5]) kr (ev (.pointer (some ⟨b3, 0, none⟩))) (ev (.slice a5 (List.length l1) c5)) st kr kr ?_)
     clear st
     intro w11 st
     refine WO_end rfl ?_
     have st := st.front2
     have st := st.tail
     refine X_block ?_
     obtain rfl := Option.some.inj hr
     have st := st.front2
     have st := st.tail
     have st := st.front1.front2.front2
     exact X_env _ kr (Ku2 _ _ ⟨a5, c5, m6, rfl, hm, st, r1, r6⟩)
    ·intro hc
     rw [if_neg (not_true hc)] at hr
     refine W_skip ?_
     refine X_block ?_
     obtain rfl := Option.some.inj hr
     have st := st.tail
     have st := st.front2.front2.front2
     exact X_env _ kr (Ku2 _ _ ⟨a3, c3, m3, rfl, hm, st, r1, r3⟩)
  ·intro hc
   rw [if_neg (not_true hc)] at hr
   refine W_exit ?_
   refine X_then_exit ?_
   obtain rfl := Option.some.inj hr
   have ho := hBu1 _ rfl
   have st := st.front2.front2.front2
   refine X_then_exit ?_
   exact X_env _ kr (K0_u1 _ _ ⟨s1.2, a3, c3, m3, ho, rfl, hm, st, r3⟩)
def testgatemake_Edit_L1 (N : Nat) (p1 : (List (ByteArray × ByteArray))) (y2 : (List Int × Int) × ByteArray) (y3 : (List Int × Int) × Int) (s1 : Int) : Option ((Int) ⊕ ((Unit) ⊕ ((List Int × Int) × ((List (ByteArray × ByteArray)))))) :=
 if (decide (s1 < (List.length p1 : Int))) = true then ((idx p1 s1).bind fun x1 => if (x1.1.toList == y2.2.toList) = true then ((testgatemake_remove N p1 y2.2).bind fun y13 => (testgatemake_Tape_Next N (y3.1.1, y3.1.2) 3).bind fun y14 => (testgatemake_Digits N y14.2).bind fun y15 => (catB (⟨#[122]⟩ : ByteArray) y15).bind fun s2 => (catB s2 (⟨#[46, 115, 114, 99]⟩ : ByteArray)).bind fun s3 => (testgatemake_insert N y13 (s3, x1.2)).bind fun y16 => some (.inr (.inr (((y14.1.1, y14.1.2), y16))))) else (some (.inl (IntKind.wrap .i64 (s1 + 1))))) else (some (.inr (.inl ())))
def testgatemake_Edit_L2 (N : Nat) (p1 : (List (ByteArray × ByteArray))) (y2 : (List Int × Int) × ByteArray) (y3 : (List Int × Int) × Int) (s4 : Int) : Option ((Int) ⊕ ((Unit) ⊕ ((List Int × Int) × ((List (ByteArray × ByteArray)))))) :=
 if (decide (s4 < (List.length p1 : Int))) = true then ((idx p1 s4).bind fun x2 => if (x2.1.toList == y2.2.toList) = true then ((testgatemake_Tape_Next N (y3.1.1, y3.1.2) 100).bind fun y17 => (testgatemake_Digits N y17.2).bind fun y18 => (catB (⟨#[35, 32]⟩ : ByteArray) y18).bind fun s5 => (catB s5 (⟨#[10, 32, 32]⟩ : ByteArray)).bind fun s6 => (catB s6 x2.2).bind fun s7 => (testgatemake_insert N p1 (y2.2, s7)).bind fun y19 => some (.inr (.inr (((y17.1.1, y17.1.2), y19))))) else (some (.inl (IntKind.wrap .i64 (s4 + 1))))) else (some (.inr (.inl ())))
def testgatemake_Edit_L3 (N : Nat) (p1 : (List (ByteArray × ByteArray))) (y2 : (List Int × Int) × ByteArray) (y3 : (List Int × Int) × Int) (s8 : Int) : Option ((Int) ⊕ ((Unit) ⊕ ((List Int × Int) × ((List (ByteArray × ByteArray)))))) :=
 if (decide (s8 < (List.length p1 : Int))) = true then ((idx p1 s8).bind fun x3 => if (x3.1.toList == y2.2.toList) = true then ((catB x3.2 (⟨#[102, 117, 110, 99]⟩ : ByteArray)).bind fun s9 => (testgatemake_insert N p1 (y2.2, s9)).bind fun y20 => some (.inr (.inr (((y3.1.1, y3.1.2), y20))))) else (some (.inl (IntKind.wrap .i64 (s8 + 1))))) else (some (.inr (.inl ())))
def testgatemake_Edit_L4 (N : Nat) (p1 : (List (ByteArray × ByteArray))) (y2 : (List Int × Int) × ByteArray) (y3 : (List Int × Int) × Int) (s10 : Int) : Option ((Int) ⊕ ((Unit) ⊕ ((List Int × Int) × ((List (ByteArray × ByteArray)))))) :=
 if (decide (s10 < (List.length p1 : Int))) = true then ((idx p1 s10).bind fun x4 => if (x4.1.toList == y2.2.toList) = true then ((testgatemake_Decl N (y3.1.1, y3.1.2)).bind fun y21 => (catB x4.2 y21.2).bind fun s11 => (testgatemake_insert N p1 (y2.2, s11)).bind fun y22 => some (.inr (.inr (((y21.1.1, y21.1.2), y22))))) else (some (.inl (IntKind.wrap .i64 (s10 + 1))))) else (some (.inr (.inl ())))
def testgatemake_Edit (N : Nat) (p0 : List Int × Int) (p1 : (List (ByteArray × ByteArray))) : Option ((List Int × Int) × ((List (ByteArray × ByteArray)))) :=
 (testgatemake_sources N).bind fun y1 => (testgatemake_Tape_One N (p0.1, p0.2) y1).bind fun y2 => (testgatemake_Tape_Next N (y2.1.1, y2.1.2) 9).bind fun y3 => (if (y3.2 == 0) = true then ((testgatemake_Tape_One N (y3.1.1, y3.1.2) ([(⟨#[97, 46, 100, 97, 116]⟩ : ByteArray), (⟨#[100, 47, 98, 46, 100, 97, 116]⟩ : ByteArray), (⟨#[99]⟩ : ByteArray)])).bind fun y4 => (testgatemake_data N (y4.1.1, y4.1.2)).bind fun y5 => (testgatemake_insert N p1 (y4.2, y5.2)).bind fun y6 => some (.inr ((y5.1.1, y5.1.2), y6))) else (if (y3.2 == 1) = true then ((testgatemake_Tape_One N (y3.1.1, y3.1.2) ([(⟨#[97, 46, 100, 97, 116]⟩ : ByteArray), (⟨#[100, 47, 98, 46, 100, 97, 116]⟩ : ByteArray), (⟨#[99]⟩ : ByteArray), (⟨#[97, 46, 115, 114, 99]⟩ : ByteArray), (⟨#[98, 46, 115, 114, 99]⟩ : ByteArray)])).bind fun y7 => (testgatemake_remove N p1 y7.2).bind fun y8 => some (.inr ((y7.1.1, y7.1.2), y8))) else (if (y3.2 == 2) = true then ((testgatemake_Packages N).bind fun y9 => (testgatemake_Tape_One N (y3.1.1, y3.1.2) y9).bind fun y10 => (testgatemake_Source N (y10.1.1, y10.1.2) y10.2).bind fun y11 => (testgatemake_insert N p1 (y2.2, y11.2)).bind fun y12 => some (.inr ((y11.1.1, y11.1.2), y12))) else (if (y3.2 == 3) = true then ((loopM (testgatemake_Edit_L1 N p1 y2 y3) N 0).bind fun out1 => (match out1 with | .inl o2 => some (.inl ()) | .inr (z) => some (.inr z))) else (if (y3.2 == 4) = true then ((loopM (testgatemake_Edit_L2 N p1 y2 y3) N 0).bind fun out2 => (match out2 with | .inl o3 => some (.inl ()) | .inr (z) => some (.inr z))) else (if (y3.2 == 5) = true then ((loopM (testgatemake_Edit_L3 N p1 y2 y3) N 0).bind fun out3 => (match out3 with | .inl o4 => some (.inl ()) | .inr (z) => some (.inr z))) else (some (.inl ()))))))) : Option ((Unit) ⊕ ((List Int × Int) × ((List (ByteArray × ByteArray)))))).bind fun qu1 => (match qu1 with | .inl o1 => (loopM (testgatemake_Edit_L4 N p1 y2 y3) N 0).bind fun out4 => (match out4 with | .inl o5 => (testgatemake_Packages N).bind fun y23 => (testgatemake_Tape_One N (y3.1.1, y3.1.2) y23).bind fun y24 => (testgatemake_Source N (y24.1.1, y24.1.2) y24.2).bind fun y25 => (testgatemake_insert N p1 (y2.2, y25.2)).bind fun y26 => some ((y25.1.1, y25.1.2), y26) | .inr (z) => some z) | .inr z => some z)
set_option maxHeartbeats 4000000 in
set_option maxRecDepth 100000 in
theorem testgatemake_Edit_ok {N : Nat} {m : Mem} {own : List Piece} {w : World} {p0 : List Int × Int} {p1 : (List (ByteArray × ByteArray))} {bp0 : Nat} {a1 : Option Addr} {c1 : Nat} {a2 : Option Addr} {c2 : Nat} {r : (List Int × Int) × ((List (ByteArray × ByteArray)))} (st : St m (.blk bp0 (.cells #[.slice a1 (List.length p0.1) c1, .int .i64 p0.2] 28 (0, 0)) :: own) w) (r1 : RepS (cInt .i64) m a1 c1 p0.1) (r2 : RepS (cPair cStr cStr) m a2 c2 p1) (hr : testgatemake_Edit N p0 p1 = some r) : Calls Tryz.prog 11 #[.pointer (some ⟨bp0, 0, none⟩), .agg #[.slice a2 (List.length p1) c2]] w fun e w' => ∃ (ra1 : Option Addr) (rc1 : Nat) (ra2 : Option Addr) (rc2 : Nat) (m' : Mem), e = .returned (.agg #[.slice ra2 (List.length r.2) rc2]) ∧ m.le m' ∧ St m' (.room ra2 (List.length r.2) rc2 74 2 :: .blk bp0 (.cells #[.slice ra1 (List.length r.1.1) rc1, .int .i64 r.1.2] 28 (0, 0)) :: own) w' ∧ RepS (cInt .i64) m' ra1 rc1 r.1.1 ∧ RepS (cPair cStr cStr) m' ra2 rc2 r.2 := by
 unfold testgatemake_Edit at hr
 have hm := m.le_refl
 refine W_calls Tryz.func11 rfl Tryz.ntmps11 [(0, .pointer (some ⟨bp0, 0, none⟩)), (1, .agg #[.slice a2 (List.length p1) c2])] kr rfl ?_
 refine W_sr (WO_one rfl (One_box (d := 3) (e := 25) (x := (.tmp 1)) (.agg #[.slice a2 (List.length p1) c2]) kr rfl kr st ?_))
 clear st
 intro b1 m1 w1 hle1 st hb1
 have hm := Mem.le_trans hm hle1
 have r2 := r2.mono hle1
 have r1 := r1.mono hle1
 refine WO_one rfl (One_alloc (d := 4) (e := 25) (.agg #[.slice none 0 0]) kr rfl kr st ?_)
 clear st
 intro b2 w2 st
 refine WO_et rfl (W_sr ?_)
 refine WO_seg 1 [(14, .pointer (some ⟨bp0, 0, none⟩))] kr kr ?_
 replace ⟨y1, hx1, hr⟩ := bindS hr
 refine WO_one rfl (One_fn 15 54 #[] kr rfl ?_)
 refine (testgatemake_sources_ok st hx1).mono ?_
 clear st
 rintro _ w3 ⟨a3, c3, m2, rfl, hle2, st, r3⟩
 refine ⟨_, rfl, ?_⟩
 have hm := Mem.le_trans hm hle2
 have hb1 := hb1.mono hle2
 have r2 := r2.mono hle2
 have r1 := r1.mono hle2
 have st := st.front2
 replace ⟨y2, hx2, hr⟩ := bindS hr
 refine WO_one rfl (One_fn 16 13 #[.pointer (some ⟨bp0, 0, none⟩), .slice a3 (List.length y1) c3] kr rfl ?_)
 refine (testgatemake_Tape_One_ok st r1 r3 hx2).mono ?_
 clear st
 rintro _ w4 ⟨a4, c4, m3, rfl, hle3, st, r4⟩
 refine ⟨_, rfl, ?_⟩
 have hm := Mem.le_trans hm hle3
 have hb1 := hb1.mono hle3
 have r2 := r2.mono hle3
 have r3 := r3.mono hle3
 have r1 := r1.mono hle3
 refine WO_seg 1 [(5, .string y2.2)] kr kr ?_
 refine WO_end rfl ?_
 have st := st.front1
 have st := st.tail
 refine X_then ?_
 refine W_seq ?_
 refine W_sr (WO_seg 1 [(17, .pointer (some ⟨bp0, 0, none⟩))] kr kr ?_)
 replace ⟨y3, hx3, hr⟩ := bindS hr
 refine WO_one rfl (One_fn 18 14 #[.pointer (some ⟨bp0, 0, none⟩), .int .i64 9] kr rfl ?_)
 refine (testgatemake_Tape_Next_ok st r4 hx3).mono ?_
 clear st
 rintro _ w5 ⟨a5, c5, m4, rfl, hle4, st, r5⟩
 refine ⟨_, rfl, ?_⟩
 have hm := Mem.le_trans hm hle4
 have hb1 := hb1.mono hle4
 have r2 := r2.mono hle4
 have r4 := r4.mono hle4
 refine WO_et rfl ?_
 replace ⟨qu1, hr, hrKu1⟩ := bindS hr
 refine W_cut .normal (fun L' w' => ∃ (o1 : Unit) (m5 : Mem), (.inl o1 : (Unit) ⊕ ((List Int × Int) × ((List (ByteArray × ByteArray))))) = qu1 ∧ L' = [(0, .pointer (some ⟨bp0, 0, none⟩)), (3, .pointer (some ⟨b1, 0, none⟩)), (4, .pointer (some ⟨b2, 0, none⟩)), (5, .string y2.2)] ∧ m.le m5 ∧ St m5 (.blk bp0 (.cells #[.slice a5 (List.length y3.1.1) c5, .int .i64 y3.1.2] 28 (0, 0)) :: .blk b2 (.cells #[.slice none (List.length ([] : List (ByteArray × ByteArray))) 0] 25 (0, 0)) :: own) w' ∧ MRow m5 b1 0 [.slice a2 (List.length p1) c2] ∧ RepS (cPair cStr cStr) m5 a2 c2 p1 ∧ RepS (cInt .i64) m5 a5 c5 y3.1.1) ?_ ?_
 ·clear hr st
  rintro _ w6 ⟨o1, m5, rfl, rfl, hm, st, hb1, r2, r5⟩
  have hr := hrKu1
  clear hrKu1
  dsimp only at hr
  refine X_then ?_
  refine W_seq ?_
  refine W_sr (WO_seg 1 [(120, .pointer (some ⟨b1, 0, none⟩))] kr kr ?_)
  refine WO_one rfl (One_load_row (d := 121) (t := 23) (x := (.tmp 120)) (.slice a2 (List.length p1) c2) kr rfl (ev (.pointer (some ⟨b1, 0, none⟩))) st hb1 kr ?_)
  refine WO_seg 2 [(122, .int .i64 (List.length p1 : Int)), (123, .int .i64 0)] kr kr ?_
  refine WO_et rfl (W_block ?_)
  replace ⟨out4, hr, hrKu5⟩ := bindS hr
  refine W_cut (.exit 7) (fun L' w' => ∃ (o5 : Unit) (m31 : Mem), (.inl o5) = out4 ∧ L' = [(0, .pointer (some ⟨bp0, 0, none⟩)), (3, .pointer (some ⟨b1, 0, none⟩)), (4, .pointer (some ⟨b2, 0, none⟩)), (5, .string y2.2)] ∧ m.le m31 ∧ St m31 (.blk bp0 (.cells #[.slice a5 (List.length y3.1.1) c5, .int .i64 y3.1.2] 28 (0, 0)) :: .blk b2 (.cells #[.slice none (List.length ([] : List (ByteArray × ByteArray))) 0] 25 (0, 0)) :: own) w' ∧ MRow m31 b1 0 [.slice a2 (List.length p1) c2] ∧ RepS (cPair cStr cStr) m31 a2 c2 p1 ∧ RepS (cInt .i64) m31 a5 c5 y3.1.1) ?_ ?_
  ·clear hr st
   rintro _ w49 ⟨o5, m31, rfl, rfl, hm, st, hb1, r2, r5⟩
   have hr := hrKu5
   clear hrKu5
   dsimp only at hr
   refine X_block_eq ?_
   refine X_then ?_
   refine W_seq ?_
   refine W_draw [(10, fun w' => Inv m31 w' ∧ True)] kr st ?_
   clear st
   intro w57 _ st
   have hmS7 := m31.le_refl
   refine ⟨⟨.inr ⟨Inv.anti st.inv hmS7, trivial⟩, trivial⟩, ?_⟩
   refine WA_load_row (t := 25) (x := (.tmp 3)) 0 141 (.agg #[.slice a2 (List.length p1) c2]) kr rfl kr (.head _) (QP_then QP_body) (fun _ h => h.1) (ev (.pointer (some ⟨b1, 0, none⟩))) hb1 kr ?_
   refine WA_pure 1 142 (.string y2.2) kr rfl kr (.head _) (QP_then QP_body) ?_
   refine WA_pure 2 143 (.pointer (some ⟨bp0, 0, none⟩)) kr rfl kr (.head _) (QP_then QP_body) ?_
   refine WA_pure 3 144 (.pointer (some ⟨bp0, 0, none⟩)) kr rfl kr (.head _) (QP_then QP_body) ?_
   replace ⟨y23, hx34, hr⟩ := bindS hr
   refine WA_one 4 kr  (One_fn 145 59 #[] kr rfl ?_)
   refine (testgatemake_Packages_ok st hx34).mono ?_
   clear st
   rintro _ w58 ⟨a23, c23, m35, rfl, hle26, st, r25⟩
   refine ⟨_, rfl, ?_⟩
   have hm := Mem.le_trans hm hle26
   have hb1 := hb1.mono hle26
   have r2 := r2.mono hle26
   have r5 := r5.mono hle26
   have hmS7 := Mem.le_trans hmS7 hle26
   refine ⟨⟨.inr ⟨Inv.anti st.inv hmS7, trivial⟩, trivial⟩, ?_⟩
   have st := st.front1
   replace ⟨y24, hx35, hr⟩ := bindS hr
   refine WA_one 5 kr  (One_fn 146 13 #[.pointer (some ⟨bp0, 0, none⟩), .slice a23 (List.length y23) c23] kr rfl ?_)
   refine (testgatemake_Tape_One_ok st r5 r25 hx35).mono ?_
   clear st
   rintro _ w59 ⟨a24, c24, m36, rfl, hle27, st, r26⟩
   refine ⟨_, rfl, ?_⟩
   have hm := Mem.le_trans hm hle27
   have hb1 := hb1.mono hle27
   have r2 := r2.mono hle27
   have r25 := r25.mono hle27
   have r5 := r5.mono hle27
   have hmS7 := Mem.le_trans hmS7 hle27
   refine ⟨⟨.inr ⟨Inv.anti st.inv hmS7, trivial⟩, trivial⟩, ?_⟩
   replace ⟨y25, hx36, hr⟩ := bindS hr
   refine WA_one 6 kr  (One_fn 147 58 #[.pointer (some ⟨bp0, 0, none⟩), .string y24.2] kr rfl ?_)
   refine (testgatemake_Source_ok st r26 hx36).mono ?_
   clear st
   rintro _ w60 ⟨a25, c25, m37, rfl, hle28, st, r27⟩
   refine ⟨_, rfl, ?_⟩
   have hm := Mem.le_trans hm hle28
   have hb1 := hb1.mono hle28
   have r2 := r2.mono hle28
   have r25 := r25.mono hle28
   have r26 := r26.mono hle28
   have hmS7 := Mem.le_trans hmS7 hle28
   refine ⟨⟨.inr ⟨Inv.anti st.inv hmS7, trivial⟩, trivial⟩, ?_⟩
   refine WA_pure 7 148 (.agg #[.string y2.2, .string y25.2]) kr rfl kr (.head _) (QP_then QP_body) ?_
   replace ⟨y26, hx37, hr⟩ := bindS hr
   refine WA_one 8 kr  (One_fn 149 55 #[.agg #[.slice a2 (List.length p1) c2], .agg #[.string y2.2, .string y25.2]] kr rfl ?_)
   refine (testgatemake_insert_ok st r2 hx37).mono ?_
   clear st
   rintro _ w61 ⟨a26, c26, m38, rfl, hle29, st, r28⟩
   refine ⟨_, rfl, ?_⟩
   have hm := Mem.le_trans hm hle29
   have hb1 := hb1.mono hle29
   have r2 := r2.mono hle29
   have r25 := r25.mono hle29
   have r27 := r27.mono hle29
   have hmS7 := Mem.le_trans hmS7 hle29
   refine ⟨⟨.inr ⟨Inv.anti st.inv hmS7, trivial⟩, trivial⟩, ?_⟩
   have st := st.front3
   refine WA_one 9 kr  (One_store (t := 25) (x := (.tmp 4)) (y := (.tmp 149)) (v := .agg #[.slice a26 (List.length y26) c26]) (c' := #[.slice a26 (List.length y26) c26]) kr (ev (.pointer (some ⟨b2, 0, none⟩))) (ev (.agg #[.slice a26 (List.length y26) c26])) st kr kr ?_)
   clear st
   intro w62 st
   refine ⟨⟨.inr ⟨Inv.anti st.inv hmS7, trivial⟩, trivial⟩, ?_⟩
   refine WA_done kr ?_
   have st := st.front3
   have st := st.tail
   refine X_then ?_
   refine W_ret ?_
   obtain rfl := Option.some.inj hr
   refine X_ret [.cell 4 25] [.agg #[.slice a26 (List.length y26) c26]] rfl (ResAll.cons (ResAt.blk (v := .agg #[.slice a26 (List.length y26) c26]) (o := 0) kr st.head kr) ResAll.nil) ?_
   have st := st.tail
   have st := st.front1.front1
   exact ⟨a25, c25, a26, c26, m38, rfl, hm, st, r27, r28⟩
  intro K7_u5
  have st := st.front1.front1
  refine W_env _ kr (W_loop (fun k4 L' w' => ∃ (s10 : Int) (m32 : Mem), loopM (testgatemake_Edit_L4 N p1 y2 y3) k4 s10 = some out4 ∧ L' = [(0, .pointer (some ⟨bp0, 0, none⟩)), (3, .pointer (some ⟨b1, 0, none⟩)), (4, .pointer (some ⟨b2, 0, none⟩)), (5, .string y2.2), (121, .slice a2 (List.length p1) c2), (122, .int .i64 (List.length p1 : Int)), (123, .int .i64 s10)] ∧ m.le m32 ∧ St m32 (.blk bp0 (.cells #[.slice a5 (List.length y3.1.1) c5, .int .i64 y3.1.2] 28 (0, 0)) :: .blk b2 (.cells #[.slice none (List.length ([] : List (ByteArray × ByteArray))) 0] 25 (0, 0)) :: own) w' ∧ MRow m32 b1 0 [.slice a2 (List.length p1) c2] ∧ RepS (cPair cStr cStr) m32 a2 c2 p1 ∧ RepS (cInt .i64) m32 a5 c5 y3.1.1) N ⟨0, m5, hr, rfl, hm, st, hb1, r2, r5⟩ ?_)
  clear st hr
  rintro k4 _ w50 ⟨s10, m32, hL, rfl, hm, st, hb1, r2, r5⟩
  rcases k4 with _ | k4
  ·exact loopM_zero hL
  ·obtain ⟨qu5, hr, hSu5, hBu5⟩ := loopM_succ hL
   clear hL
   unfold testgatemake_Edit_L4 at hr
   refine W_sr (WO_seg 1 [(124, .bool (decide (s10 < (List.length p1 : Int))))] kr kr ?_)
   refine WO_et rfl (W_seq ?_)
   refine W_cond (decide (s10 < (List.length p1 : Int))) kr ?_ ?_
   ·intro hc
    rw [if_pos hc] at hr
    refine W_skip ?_
    refine X_then ?_
    refine W_seq ?_
    refine W_block ?_
    refine W_sr ?_
    replace ⟨x4, hx30, hr⟩ := bindS hr
    refine WO_one rfl (One_index (d := 125) (t := 23) (e := 74) (x := (.tmp 121)) (y := (.tmp 123)) (cPair cStr cStr) kr rfl (ev (.slice a2 (List.length p1) c2)) (ev (.int .i64 s10)) kr r2 hx30 ?_)
    rintro b11 f4 cs4 ⟨_, _, rfl, rfl, rfl⟩ hq4
    refine WO_one rfl (One_load_row (d := 126) (t := 74) (x := (.tmp 125)) (.agg #[.string x4.1, .string x4.2]) kr rfl (ev (.pointer (some ⟨b11, f4, none⟩))) st hq4 kr ?_)
    refine WO_one rfl (One_alloc (d := 13) (e := 74) (.agg #[.string (⟨#[]⟩ : ByteArray), .string (⟨#[]⟩ : ByteArray)]) kr rfl kr st ?_)
    clear st
    intro b12 w51 st
    refine WO_one rfl (One_store (t := 74) (x := (.tmp 13)) (y := (.tmp 126)) (v := .agg #[.string x4.1, .string x4.2]) (c' := #[.string x4.1, .string x4.2]) kr (ev (.pointer (some ⟨b12, 0, none⟩))) (ev (.agg #[.string x4.1, .string x4.2])) st kr kr ?_)
    clear st
    intro w52 st
    refine WO_et rfl (W_sr ?_)
    refine WO_seg 1 [(127, .pointer (some ⟨b12, 0, none⟩))] kr kr ?_
    refine WO_one rfl (One_load_own (d := 128) (t := 9) (x := (.tmp 127)) (.string x4.1) kr rfl (ev (.pointer (some ⟨b12, 0, none⟩))) st.head kr ?_)
    refine WO_seg 2 [(130, .bool (x4.1.toList == y2.2.toList))] kr kr ?_
    refine WO_et rfl (W_cond (x4.1.toList == y2.2.toList) kr ?_ ?_)
    ·intro hc
     rw [if_pos hc] at hr
     refine W_seq ?_
     refine W_draw [(10, fun w' => Inv m32 w' ∧ Piece.holds m32 w' (.blk b12 (.cells #[.string x4.1, .string x4.2] 74 (0, 0))) ∧ True)] kr st ?_
     clear st
     intro w53 _ st
     have hmS6 := m32.le_refl
     refine ⟨⟨.inr ⟨Inv.anti st.inv hmS6, Piece.holds_anti st.head hmS6, trivial⟩, trivial⟩, ?_⟩
     refine WA_load_row (t := 25) (x := (.tmp 3)) 0 131 (.agg #[.slice a2 (List.length p1) c2]) kr rfl kr (.head _) (QP_then (QP_block (QP_then (QP_then (QP_block (QP_then QP_body)))))) (fun _ h => h.1) (ev (.pointer (some ⟨b1, 0, none⟩))) hb1 kr ?_
     refine WA_pure 1 132 (.string y2.2) kr rfl kr (.head _) (QP_then (QP_block (QP_then (QP_then (QP_block (QP_then QP_body)))))) ?_
     refine WA_pure 2 133 (.pointer (some ⟨b12, 1, none⟩)) kr rfl kr (.head _) (QP_then (QP_block (QP_then (QP_then (QP_block (QP_then QP_body)))))) ?_
     refine WA_load_own (t := 9) (x := (.tmp 133)) 3 134 (.string x4.2) kr rfl kr (.head _) (QP_then (QP_block (QP_then (QP_then (QP_block (QP_then QP_body)))))) (fun _ h => h.2.1) (ev (.pointer (some ⟨b12, 1, none⟩))) kr ?_
     refine WA_pure 4 135 (.pointer (some ⟨bp0, 0, none⟩)) kr rfl kr (.head _) (QP_then (QP_block (QP_then (QP_then (QP_block (QP_then QP_body)))))) ?_
     have st := st.front1
     replace ⟨y21, hx31, hr⟩ := bindS hr
     refine WA_one 5 kr  (One_fn 136 61 #[.pointer (some ⟨bp0, 0, none⟩)] kr rfl ?_)
     refine (testgatemake_Decl_ok st r5 hx31).mono ?_
     clear st
     rintro _ w54 ⟨a21, c21, m33, rfl, hle24, st, r23⟩
     refine ⟨_, rfl, ?_⟩
     have hm := Mem.le_trans hm hle24
     have hb1 := hb1.mono hle24
     have r2 := r2.mono hle24
     have r5 := r5.mono hle24
     have hmS6 := Mem.le_trans hmS6 hle24
     refine ⟨⟨.inr ⟨Inv.anti st.inv hmS6, Piece.holds_anti st.tail.head hmS6, trivial⟩, trivial⟩, ?_⟩
     replace ⟨s11, hx32, hr⟩ := bindS hr
     refine WA_cat (t := 9) (t2 := 9) (x := (.tmp 134)) (y := (.tmp 136)) 6 137 kr rfl kr (.head _) (QP_then (QP_block (QP_then (QP_then (QP_block (QP_then QP_body)))))) (ev (.string x4.2)) (ev (.string y21.2)) hx32 ?_
     refine WA_pure 7 138 (.agg #[.string y2.2, .string s11]) kr rfl kr (.head _) (QP_then (QP_block (QP_then (QP_then (QP_block (QP_then QP_body)))))) ?_
     replace ⟨y22, hx33, hr⟩ := bindS hr
     refine WA_one 8 kr  (One_fn 139 55 #[.agg #[.slice a2 (List.length p1) c2], .agg #[.string y2.2, .string s11]] kr rfl ?_)
     refine (testgatemake_insert_ok st r2 hx33).mono ?_
     clear st
     rintro _ w55 ⟨a22, c22, m34, rfl, hle25, st, r24⟩
     refine ⟨_, rfl, ?_⟩
     have hm := Mem.le_trans hm hle25
     have hb1 := hb1.mono hle25
     have r2 := r2.mono hle25
     have r23 := r23.mono hle25
     have hmS6 := Mem.le_trans hmS6 hle25
     refine ⟨⟨.inr ⟨Inv.anti st.inv hmS6, Piece.holds_anti st.tail.tail.head hmS6, trivial⟩, trivial⟩, ?_⟩
     have st := st.front3
     refine WA_one 9 kr  (One_store (t := 25) (x := (.tmp 4)) (y := (.tmp 139)) (v := .agg #[.slice a22 (List.length y22) c22]) (c' := #[.slice a22 (List.length y22) c22]) kr (ev (.pointer (some ⟨b2, 0, none⟩))) (ev (.agg #[.slice a22 (List.length y22) c22])) st kr kr ?_)
     clear st
     intro w56 st
     refine ⟨⟨.inr ⟨Inv.anti st.inv hmS6, Piece.holds_anti st.tail.tail.tail.head hmS6, trivial⟩, trivial⟩, ?_⟩
     refine WA_done kr ?_
     refine X_then ?_
     refine W_ret ?_
     refine X_block_ret ?_
     refine X_then_ret ?_
     obtain rfl := Option.some.inj hr
     have ho := hBu5 _ rfl
     subst ho
     have hr := hrKu5
     dsimp only at hr
     refine X_then_ret ?_
     refine X_block_ret ?_
     refine X_then_ret ?_
     obtain rfl := Option.some.inj hr
     refine X_ret [.cell 4 25] [.agg #[.slice a22 (List.length y22) c22]] rfl (ResAll.cons (ResAt.blk (v := .agg #[.slice a22 (List.length y22) c22]) (o := 0) kr st.head kr) ResAll.nil) ?_
     have st := st.tail
     have st := st.front2
     have st := st.tail
     have st := st.front1.front1
     exact ⟨a21, c21, a22, c22, m34, rfl, hm, st, r23, r24⟩
    ·intro hc
     rw [if_neg (not_true hc)] at hr
     refine W_skip ?_
     refine X_block ?_
     refine X_then ?_
     refine W_region ?_
     refine WO_seg 2 [(123, .int .i64 (IntKind.wrap .i64 (s10 + 1)))] kr kr ?_
     refine WO_end rfl ?_
     obtain rfl := Option.some.inj hr
     have hL := hSu5 _ rfl
     have st := st.tail
     have st := st.front1.front1
     exact X_env _ kr (X_round k4 (Nat.lt_succ_self _) ⟨IntKind.wrap .i64 (s10 + 1), m32, hL, rfl, hm, st, hb1, r2, r5⟩)
   ·intro hc
    rw [if_neg (not_true hc)] at hr
    refine W_exit ?_
    refine X_then_exit ?_
    obtain rfl := Option.some.inj hr
    have ho := hBu5 _ rfl
    have st := st.front1.front1
    refine X_then_exit ?_
    exact X_env _ kr (K7_u5 _ _ ⟨(), m32, ho, rfl, hm, st, hb1, r2, r5⟩)
 ·intro Ku1
  refine W_block ?_
  refine W_sr (WO_seg 2 [(19, .bool (y3.2 == 0))] kr kr ?_)
  refine WO_et rfl (W_cond (y3.2 == 0) kr ?_ ?_)
  ·intro hc
   rw [if_pos hc] at hr
   refine W_seq ?_
   refine W_draw [(9, fun w' => Inv m4 w' ∧ True)] kr st ?_
   clear st
   intro w7 _ st
   have hmS1 := m4.le_refl
   refine ⟨⟨.inr ⟨Inv.anti st.inv hmS1, trivial⟩, trivial⟩, ?_⟩
   refine WA_load_row (t := 25) (x := (.tmp 3)) 0 21 (.agg #[.slice a2 (List.length p1) c2]) kr rfl kr (.head _) (QP_then (QP_block (QP_then QP_body))) (fun _ h => h.1) (ev (.pointer (some ⟨b1, 0, none⟩))) hb1 kr ?_
   refine WA_pure 1 22 (.pointer (some ⟨bp0, 0, none⟩)) kr rfl kr (.head _) (QP_then (QP_block (QP_then QP_body))) ?_
   refine WA_pure 4 25 (.pointer (some ⟨bp0, 0, none⟩)) kr rfl kr (.head _) (QP_then (QP_block (QP_then QP_body))) ?_
   refine WA_one 2 kr  (One_buildSlice (d := 23) (t := 33) (e := 9) (len := 3) (parts := #[(0, (.const (.string (⟨#[97, 46, 100, 97, 116]⟩ : ByteArray)))), (1, (.const (.string (⟨#[100, 47, 98, 46, 100, 97, 116]⟩ : ByteArray)))), (2, (.const (.string (⟨#[99]⟩ : ByteArray))))]) cStr (xs := [(⟨#[97, 46, 100, 97, 116]⟩ : ByteArray), (⟨#[100, 47, 98, 46, 100, 97, 116]⟩ : ByteArray), (⟨#[99]⟩ : ByteArray)]) [.string (⟨#[97, 46, 100, 97, 116]⟩ : ByteArray), .string (⟨#[100, 47, 98, 46, 100, 97, 116]⟩ : ByteArray), .string (⟨#[99]⟩ : ByteArray)] kr rfl (fun _ => buildCells_run kr _) rfl rfl st ⟨[.string (⟨#[97, 46, 100, 97, 116]⟩ : ByteArray)], _, rfl, rfl, ⟨[.string (⟨#[100, 47, 98, 46, 100, 97, 116]⟩ : ByteArray)], _, rfl, rfl, ⟨[.string (⟨#[99]⟩ : ByteArray)], _, rfl, rfl, rfl⟩⟩⟩ ?_)
   clear st
   intro b3 m6 w8 hle5 st r6
   have hm := Mem.le_trans hm hle5
   have hb1 := hb1.mono hle5
   have r2 := r2.mono hle5
   have r5 := r5.mono hle5
   have hmS1 := Mem.le_trans hmS1 hle5
   refine ⟨⟨.inr ⟨Inv.anti st.inv hmS1, trivial⟩, trivial⟩, ?_⟩
   have st := st.front1
   replace ⟨y4, hx4, hr⟩ := bindS hr
   refine WA_one 3 kr  (One_fn 24 13 #[.pointer (some ⟨bp0, 0, none⟩), .slice (some ⟨b3, 0, none⟩) (List.length ([(⟨#[97, 46, 100, 97, 116]⟩ : ByteArray), (⟨#[100, 47, 98, 46, 100, 97, 116]⟩ : ByteArray), (⟨#[99]⟩ : ByteArray)])) 3] kr rfl ?_)
   refine (testgatemake_Tape_One_ok st r5 r6 hx4).mono ?_
   clear st
   rintro _ w9 ⟨a6, c6, m7, rfl, hle6, st, r7⟩
   refine ⟨_, rfl, ?_⟩
   have hm := Mem.le_trans hm hle6
   have hb1 := hb1.mono hle6
   have r2 := r2.mono hle6
   have r6 := r6.mono hle6
   have r5 := r5.mono hle6
   have hmS1 := Mem.le_trans hmS1 hle6
   refine ⟨⟨.inr ⟨Inv.anti st.inv hmS1, trivial⟩, trivial⟩, ?_⟩
   replace ⟨y5, hx5, hr⟩ := bindS hr
   refine WA_one 5 kr  (One_fn 26 56 #[.pointer (some ⟨bp0, 0, none⟩)] kr rfl ?_)
   refine (testgatemake_data_ok st r7 hx5).mono ?_
   clear st
   rintro _ w10 ⟨a7, c7, m8, rfl, hle7, st, r8⟩
   refine ⟨_, rfl, ?_⟩
   have hm := Mem.le_trans hm hle7
   have hb1 := hb1.mono hle7
   have r2 := r2.mono hle7
   have r6 := r6.mono hle7
   have r7 := r7.mono hle7
   have hmS1 := Mem.le_trans hmS1 hle7
   refine ⟨⟨.inr ⟨Inv.anti st.inv hmS1, trivial⟩, trivial⟩, ?_⟩
   refine WA_pure 6 27 (.agg #[.string y4.2, .string y5.2]) kr rfl kr (.head _) (QP_then (QP_block (QP_then QP_body))) ?_
   replace ⟨y6, hx6, hr⟩ := bindS hr
   refine WA_one 7 kr  (One_fn 28 55 #[.agg #[.slice a2 (List.length p1) c2], .agg #[.string y4.2, .string y5.2]] kr rfl ?_)
   refine (testgatemake_insert_ok st r2 hx6).mono ?_
   clear st
   rintro _ w11 ⟨a8, c8, m9, rfl, hle8, st, r9⟩
   refine ⟨_, rfl, ?_⟩
   have hm := Mem.le_trans hm hle8
   have hb1 := hb1.mono hle8
   have r2 := r2.mono hle8
   have r6 := r6.mono hle8
   have r8 := r8.mono hle8
   have hmS1 := Mem.le_trans hmS1 hle8
   refine ⟨⟨.inr ⟨Inv.anti st.inv hmS1, trivial⟩, trivial⟩, ?_⟩
   have st := st.front3
   refine WA_one 8 kr  (One_store (t := 25) (x := (.tmp 4)) (y := (.tmp 28)) (v := .agg #[.slice a8 (List.length y6) c8]) (c' := #[.slice a8 (List.length y6) c8]) kr (ev (.pointer (some ⟨b2, 0, none⟩))) (ev (.agg #[.slice a8 (List.length y6) c8])) st kr kr ?_)
   clear st
   intro w12 st
   refine ⟨⟨.inr ⟨Inv.anti st.inv hmS1, trivial⟩, trivial⟩, ?_⟩
   refine WA_done kr ?_
   have st := st.front3
   have st := st.tail
   refine X_then ?_
   refine W_ret ?_
   refine X_block_ret ?_
   obtain rfl := Option.some.inj hr
   have hr := hrKu1
   try dsimp only at hr
   refine X_then_ret ?_
   obtain rfl := Option.some.inj hr
   refine X_ret [.cell 4 25] [.agg #[.slice a8 (List.length y6) c8]] rfl (ResAll.cons (ResAt.blk (v := .agg #[.slice a8 (List.length y6) c8]) (o := 0) kr st.head kr) ResAll.nil) ?_
   have st := st.tail
   have st := st.front1.front1
   exact ⟨a7, c7, a8, c8, m9, rfl, hm, st, r8, r9⟩
  ·intro hc
   rw [if_neg (not_true hc)] at hr
   refine W_sr (WO_seg 2 [(29, .bool (y3.2 == 1))] kr kr ?_)
   refine WO_et rfl (W_cond (y3.2 == 1) kr ?_ ?_)
   ·intro hc
    rw [if_pos hc] at hr
    refine W_seq ?_
    refine W_draw [(6, fun w' => Inv m4 w' ∧ True)] kr st ?_
    clear st
    intro w13 _ st
    have hmS2 := m4.le_refl
    refine ⟨⟨.inr ⟨Inv.anti st.inv hmS2, trivial⟩, trivial⟩, ?_⟩
    refine WA_load_row (t := 25) (x := (.tmp 3)) 0 31 (.agg #[.slice a2 (List.length p1) c2]) kr rfl kr (.head _) (QP_then (QP_block (QP_then QP_body))) (fun _ h => h.1) (ev (.pointer (some ⟨b1, 0, none⟩))) hb1 kr ?_
    refine WA_pure 1 32 (.pointer (some ⟨bp0, 0, none⟩)) kr rfl kr (.head _) (QP_then (QP_block (QP_then QP_body))) ?_
    refine WA_one 2 kr  (One_buildSlice (d := 33) (t := 33) (e := 9) (len := 5) (parts := #[(0, (.const (.string (⟨#[97, 46, 100, 97, 116]⟩ : ByteArray)))), (1, (.const (.string (⟨#[100, 47, 98, 46, 100, 97, 116]⟩ : ByteArray)))), (2, (.const (.string (⟨#[99]⟩ : ByteArray)))), (3, (.const (.string (⟨#[97, 46, 115, 114, 99]⟩ : ByteArray)))), (4, (.const (.string (⟨#[98, 46, 115, 114, 99]⟩ : ByteArray))))]) cStr (xs := [(⟨#[97, 46, 100, 97, 116]⟩ : ByteArray), (⟨#[100, 47, 98, 46, 100, 97, 116]⟩ : ByteArray), (⟨#[99]⟩ : ByteArray), (⟨#[97, 46, 115, 114, 99]⟩ : ByteArray), (⟨#[98, 46, 115, 114, 99]⟩ : ByteArray)]) [.string (⟨#[97, 46, 100, 97, 116]⟩ : ByteArray), .string (⟨#[100, 47, 98, 46, 100, 97, 116]⟩ : ByteArray), .string (⟨#[99]⟩ : ByteArray), .string (⟨#[97, 46, 115, 114, 99]⟩ : ByteArray), .string (⟨#[98, 46, 115, 114, 99]⟩ : ByteArray)] kr rfl (fun _ => buildCells_run kr _) rfl rfl st ⟨[.string (⟨#[97, 46, 100, 97, 116]⟩ : ByteArray)], _, rfl, rfl, ⟨[.string (⟨#[100, 47, 98, 46, 100, 97, 116]⟩ : ByteArray)], _, rfl, rfl, ⟨[.string (⟨#[99]⟩ : ByteArray)], _, rfl, rfl, ⟨[.string (⟨#[97, 46, 115, 114, 99]⟩ : ByteArray)], _, rfl, rfl, ⟨[.string (⟨#[98, 46, 115, 114, 99]⟩ : ByteArray)], _, rfl, rfl, rfl⟩⟩⟩⟩⟩ ?_)
    clear st
    intro b4 m10 w14 hle9 st r10
    have hm := Mem.le_trans hm hle9
    have hb1 := hb1.mono hle9
    have r2 := r2.mono hle9
    have r5 := r5.mono hle9
    have hmS2 := Mem.le_trans hmS2 hle9
    refine ⟨⟨.inr ⟨Inv.anti st.inv hmS2, trivial⟩, trivial⟩, ?_⟩
    have st := st.front1
    replace ⟨y7, hx7, hr⟩ := bindS hr
    refine WA_one 3 kr  (One_fn 34 13 #[.pointer (some ⟨bp0, 0, none⟩), .slice (some ⟨b4, 0, none⟩) (List.length ([(⟨#[97, 46, 100, 97, 116]⟩ : ByteArray), (⟨#[100, 47, 98, 46, 100, 97, 116]⟩ : ByteArray), (⟨#[99]⟩ : ByteArray), (⟨#[97, 46, 115, 114, 99]⟩ : ByteArray), (⟨#[98, 46, 115, 114, 99]⟩ : ByteArray)])) 5] kr rfl ?_)
    refine (testgatemake_Tape_One_ok st r5 r10 hx7).mono ?_
    clear st
    rintro _ w15 ⟨a9, c9, m11, rfl, hle10, st, r11⟩
    refine ⟨_, rfl, ?_⟩
    have hm := Mem.le_trans hm hle10
    have hb1 := hb1.mono hle10
    have r2 := r2.mono hle10
    have r10 := r10.mono hle10
    have r5 := r5.mono hle10
    have hmS2 := Mem.le_trans hmS2 hle10
    refine ⟨⟨.inr ⟨Inv.anti st.inv hmS2, trivial⟩, trivial⟩, ?_⟩
    replace ⟨y8, hx8, hr⟩ := bindS hr
    refine WA_one 4 kr  (One_fn 35 57 #[.agg #[.slice a2 (List.length p1) c2], .string y7.2] kr rfl ?_)
    refine (testgatemake_remove_ok st r2 hx8).mono ?_
    clear st
    rintro _ w16 ⟨a10, c10, m12, rfl, hle11, st, r12⟩
    refine ⟨_, rfl, ?_⟩
    have hm := Mem.le_trans hm hle11
    have hb1 := hb1.mono hle11
    have r2 := r2.mono hle11
    have r10 := r10.mono hle11
    have r11 := r11.mono hle11
    have hmS2 := Mem.le_trans hmS2 hle11
    refine ⟨⟨.inr ⟨Inv.anti st.inv hmS2, trivial⟩, trivial⟩, ?_⟩
    have st := st.front3
    refine WA_one 5 kr  (One_store (t := 25) (x := (.tmp 4)) (y := (.tmp 35)) (v := .agg #[.slice a10 (List.length y8) c10]) (c' := #[.slice a10 (List.length y8) c10]) kr (ev (.pointer (some ⟨b2, 0, none⟩))) (ev (.agg #[.slice a10 (List.length y8) c10])) st kr kr ?_)
    clear st
    intro w17 st
    refine ⟨⟨.inr ⟨Inv.anti st.inv hmS2, trivial⟩, trivial⟩, ?_⟩
    refine WA_done kr ?_
    have st := st.front3
    have st := st.tail
    refine X_then ?_
    refine W_ret ?_
    refine X_block_ret ?_
    obtain rfl := Option.some.inj hr
    have hr := hrKu1
    try dsimp only at hr
    refine X_then_ret ?_
    obtain rfl := Option.some.inj hr
    refine X_ret [.cell 4 25] [.agg #[.slice a10 (List.length y8) c10]] rfl (ResAll.cons (ResAt.blk (v := .agg #[.slice a10 (List.length y8) c10]) (o := 0) kr st.head kr) ResAll.nil) ?_
    have st := st.tail
    have st := st.front1.front1
    exact ⟨a9, c9, a10, c10, m12, rfl, hm, st, r11, r12⟩
   ·intro hc
    rw [if_neg (not_true hc)] at hr
    refine W_sr (WO_seg 2 [(36, .bool (y3.2 == 2))] kr kr ?_)
    refine WO_et rfl (W_cond (y3.2 == 2) kr ?_ ?_)
    ·intro hc
     rw [if_pos hc] at hr
     refine W_seq ?_
     refine W_draw [(10, fun w' => Inv m4 w' ∧ True)] kr st ?_
     clear st
     intro w18 _ st
     have hmS3 := m4.le_refl
     refine ⟨⟨.inr ⟨Inv.anti st.inv hmS3, trivial⟩, trivial⟩, ?_⟩
     refine WA_load_row (t := 25) (x := (.tmp 3)) 0 38 (.agg #[.slice a2 (List.length p1) c2]) kr rfl kr (.head _) (QP_then (QP_block (QP_then QP_body))) (fun _ h => h.1) (ev (.pointer (some ⟨b1, 0, none⟩))) hb1 kr ?_
     refine WA_pure 1 39 (.string y2.2) kr rfl kr (.head _) (QP_then (QP_block (QP_then QP_body))) ?_
     refine WA_pure 2 40 (.pointer (some ⟨bp0, 0, none⟩)) kr rfl kr (.head _) (QP_then (QP_block (QP_then QP_body))) ?_
     refine WA_pure 3 41 (.pointer (some ⟨bp0, 0, none⟩)) kr rfl kr (.head _) (QP_then (QP_block (QP_then QP_body))) ?_
     replace ⟨y9, hx9, hr⟩ := bindS hr
     refine WA_one 4 kr  (One_fn 42 59 #[] kr rfl ?_)
     refine (testgatemake_Packages_ok st hx9).mono ?_
     clear st
     rintro _ w19 ⟨a11, c11, m13, rfl, hle12, st, r13⟩
     refine ⟨_, rfl, ?_⟩
     have hm := Mem.le_trans hm hle12
     have hb1 := hb1.mono hle12
     have r2 := r2.mono hle12
     have r5 := r5.mono hle12
     have hmS3 := Mem.le_trans hmS3 hle12
     refine ⟨⟨.inr ⟨Inv.anti st.inv hmS3, trivial⟩, trivial⟩, ?_⟩
     have st := st.front1
     replace ⟨y10, hx10, hr⟩ := bindS hr
     refine WA_one 5 kr  (One_fn 43 13 #[.pointer (some ⟨bp0, 0, none⟩), .slice a11 (List.length y9) c11] kr rfl ?_)
     refine (testgatemake_Tape_One_ok st r5 r13 hx10).mono ?_
     clear st
     rintro _ w20 ⟨a12, c12, m14, rfl, hle13, st, r14⟩
     refine ⟨_, rfl, ?_⟩
     have hm := Mem.le_trans hm hle13
     have hb1 := hb1.mono hle13
     have r2 := r2.mono hle13
     have r13 := r13.mono hle13
     have r5 := r5.mono hle13
     have hmS3 := Mem.le_trans hmS3 hle13
     refine ⟨⟨.inr ⟨Inv.anti st.inv hmS3, trivial⟩, trivial⟩, ?_⟩
     replace ⟨y11, hx11, hr⟩ := bindS hr
     refine WA_one 6 kr  (One_fn 44 58 #[.pointer (some ⟨bp0, 0, none⟩), .string y10.2] kr rfl ?_)
     refine (testgatemake_Source_ok st r14 hx11).mono ?_
     clear st
     rintro _ w21 ⟨a13, c13, m15, rfl, hle14, st, r15⟩
     refine ⟨_, rfl, ?_⟩
     have hm := Mem.le_trans hm hle14
     have hb1 := hb1.mono hle14
     have r2 := r2.mono hle14
     have r13 := r13.mono hle14
     have r14 := r14.mono hle14
     have hmS3 := Mem.le_trans hmS3 hle14
     refine ⟨⟨.inr ⟨Inv.anti st.inv hmS3, trivial⟩, trivial⟩, ?_⟩
     refine WA_pure 7 45 (.agg #[.string y2.2, .string y11.2]) kr rfl kr (.head _) (QP_then (QP_block (QP_then QP_body))) ?_
     replace ⟨y12, hx12, hr⟩ := bindS hr
     refine WA_one 8 kr  (One_fn 46 55 #[.agg #[.slice a2 (List.length p1) c2], .agg #[.string y2.2, .string y11.2]] kr rfl ?_)
     refine (testgatemake_insert_ok st r2 hx12).mono ?_
     clear st
     rintro _ w22 ⟨a14, c14, m16, rfl, hle15, st, r16⟩
     refine ⟨_, rfl, ?_⟩
     have hm := Mem.le_trans hm hle15
     have hb1 := hb1.mono hle15
     have r2 := r2.mono hle15
     have r13 := r13.mono hle15
     have r15 := r15.mono hle15
     have hmS3 := Mem.le_trans hmS3 hle15
     refine ⟨⟨.inr ⟨Inv.anti st.inv hmS3, trivial⟩, trivial⟩, ?_⟩
     have st := st.front3
     refine WA_one 9 kr  (One_store (t := 25) (x := (.tmp 4)) (y := (.tmp 46)) (v := .agg #[.slice a14 (List.length y12) c14]) (c' := #[.slice a14 (List.length y12) c14]) kr (ev (.pointer (some ⟨b2, 0, none⟩))) (ev (.agg #[.slice a14 (List.length y12) c14])) st kr kr ?_)
     clear st
     intro w23 st
     refine ⟨⟨.inr ⟨Inv.anti st.inv hmS3, trivial⟩, trivial⟩, ?_⟩
     refine WA_done kr ?_
     have st := st.front3
     have st := st.tail
     refine X_then ?_
     refine W_ret ?_
     refine X_block_ret ?_
     obtain rfl := Option.some.inj hr
     have hr := hrKu1
     try dsimp only at hr
     refine X_then_ret ?_
     obtain rfl := Option.some.inj hr
     refine X_ret [.cell 4 25] [.agg #[.slice a14 (List.length y12) c14]] rfl (ResAll.cons (ResAt.blk (v := .agg #[.slice a14 (List.length y12) c14]) (o := 0) kr st.head kr) ResAll.nil) ?_
     have st := st.tail
     have st := st.front1.front1
     exact ⟨a13, c13, a14, c14, m16, rfl, hm, st, r15, r16⟩
    ·intro hc
     rw [if_neg (not_true hc)] at hr
     refine W_sr (WO_seg 2 [(47, .bool (y3.2 == 3))] kr kr ?_)
     refine WO_et rfl (W_cond (y3.2 == 3) kr ?_ ?_)
     ·intro hc
      rw [if_pos hc] at hr
      refine W_sr (WO_seg 1 [(49, .pointer (some ⟨b1, 0, none⟩))] kr kr ?_)
      refine WO_one rfl (One_load_row (d := 50) (t := 23) (x := (.tmp 49)) (.slice a2 (List.length p1) c2) kr rfl (ev (.pointer (some ⟨b1, 0, none⟩))) st hb1 kr ?_)
      refine WO_seg 2 [(51, .int .i64 (List.length p1 : Int)), (52, .int .i64 0)] kr kr ?_
      refine WO_et rfl (W_block ?_)
      replace ⟨out1, hr, hrKu2⟩ := bindS hr
      refine W_cut (.exit 1) (fun L' w' => ∃ (o2 : Unit) (m17 : Mem), (.inl o2) = out1 ∧ L' = [(0, .pointer (some ⟨bp0, 0, none⟩)), (3, .pointer (some ⟨b1, 0, none⟩)), (4, .pointer (some ⟨b2, 0, none⟩)), (5, .string y2.2)] ∧ m.le m17 ∧ St m17 (.blk bp0 (.cells #[.slice a5 (List.length y3.1.1) c5, .int .i64 y3.1.2] 28 (0, 0)) :: .blk b2 (.cells #[.slice none (List.length ([] : List (ByteArray × ByteArray))) 0] 25 (0, 0)) :: own) w' ∧ MRow m17 b1 0 [.slice a2 (List.length p1) c2] ∧ RepS (cPair cStr cStr) m17 a2 c2 p1 ∧ RepS (cInt .i64) m17 a5 c5 y3.1.1) ?_ ?_
      ·clear hr st
       rintro _ w24 ⟨o2, m17, rfl, rfl, hm, st, hb1, r2, r5⟩
       have hr := hrKu2
       clear hrKu2
       dsimp only at hr
       refine X_block_eq ?_
       refine X_block ?_
       have hqu1 := Option.some.inj hr
       have st := st.front1.front1
       exact X_env _ kr (Ku1 _ _ ⟨(), m17, hqu1, rfl, hm, st, hb1, r2, r5⟩)
      intro K1_u2
      have st := st.front1.front1
      refine W_env _ kr (W_loop (fun k1 L' w' => ∃ (s1 : Int) (m18 : Mem), loopM (testgatemake_Edit_L1 N p1 y2 y3) k1 s1 = some out1 ∧ L' = [(0, .pointer (some ⟨bp0, 0, none⟩)), (3, .pointer (some ⟨b1, 0, none⟩)), (4, .pointer (some ⟨b2, 0, none⟩)), (5, .string y2.2), (50, .slice a2 (List.length p1) c2), (51, .int .i64 (List.length p1 : Int)), (52, .int .i64 s1)] ∧ m.le m18 ∧ St m18 (.blk bp0 (.cells #[.slice a5 (List.length y3.1.1) c5, .int .i64 y3.1.2] 28 (0, 0)) :: .blk b2 (.cells #[.slice none (List.length ([] : List (ByteArray × ByteArray))) 0] 25 (0, 0)) :: own) w' ∧ MRow m18 b1 0 [.slice a2 (List.length p1) c2] ∧ RepS (cPair cStr cStr) m18 a2 c2 p1 ∧ RepS (cInt .i64) m18 a5 c5 y3.1.1) N ⟨0, m4, hr, rfl, hm, st, hb1, r2, r5⟩ ?_)
      clear st hr
      rintro k1 _ w25 ⟨s1, m18, hL, rfl, hm, st, hb1, r2, r5⟩
      rcases k1 with _ | k1
      ·exact loopM_zero hL
      ·obtain ⟨qu2, hr, hSu2, hBu2⟩ := loopM_succ hL
       clear hL
       unfold testgatemake_Edit_L1 at hr
       refine W_sr (WO_seg 1 [(53, .bool (decide (s1 < (List.length p1 : Int))))] kr kr ?_)
       refine WO_et rfl (W_seq ?_)
       refine W_cond (decide (s1 < (List.length p1 : Int))) kr ?_ ?_
       ·intro hc
        rw [if_pos hc] at hr
        refine W_skip ?_
        refine X_then ?_
        refine W_seq ?_
        refine W_block ?_
        refine W_sr ?_
        replace ⟨x1, hx13, hr⟩ := bindS hr
        refine WO_one rfl (One_index (d := 54) (t := 23) (e := 74) (x := (.tmp 50)) (y := (.tmp 52)) (cPair cStr cStr) kr rfl (ev (.slice a2 (List.length p1) c2)) (ev (.int .i64 s1)) kr r2 hx13 ?_)
        rintro b5 f1 cs1 ⟨_, _, rfl, rfl, rfl⟩ hq1
        refine WO_one rfl (One_load_row (d := 55) (t := 74) (x := (.tmp 54)) (.agg #[.string x1.1, .string x1.2]) kr rfl (ev (.pointer (some ⟨b5, f1, none⟩))) st hq1 kr ?_)
        refine WO_one rfl (One_alloc (d := 7) (e := 74) (.agg #[.string (⟨#[]⟩ : ByteArray), .string (⟨#[]⟩ : ByteArray)]) kr rfl kr st ?_)
        clear st
        intro b6 w26 st
        refine WO_one rfl (One_store (t := 74) (x := (.tmp 7)) (y := (.tmp 55)) (v := .agg #[.string x1.1, .string x1.2]) (c' := #[.string x1.1, .string x1.2]) kr (ev (.pointer (some ⟨b6, 0, none⟩))) (ev (.agg #[.string x1.1, .string x1.2])) st kr kr ?_)
        clear st
        intro w27 st
        refine WO_et rfl (W_sr ?_)
        refine WO_seg 1 [(56, .pointer (some ⟨b6, 0, none⟩))] kr kr ?_
        refine WO_one rfl (One_load_own (d := 57) (t := 9) (x := (.tmp 56)) (.string x1.1) kr rfl (ev (.pointer (some ⟨b6, 0, none⟩))) st.head kr ?_)
        refine WO_seg 2 [(59, .bool (x1.1.toList == y2.2.toList))] kr kr ?_
        refine WO_et rfl (W_cond (x1.1.toList == y2.2.toList) kr ?_ ?_)
        ·intro hc
         rw [if_pos hc] at hr
         refine W_seq ?_
         refine W_draw [(13, fun w' => Inv m18 w' ∧ Piece.holds m18 w' (.blk b6 (.cells #[.string x1.1, .string x1.2] 74 (0, 0))) ∧ True)] kr st ?_
         clear st
         intro w28 _ st
         have hmS4 := m18.le_refl
         refine ⟨⟨.inr ⟨Inv.anti st.inv hmS4, Piece.holds_anti st.head hmS4, trivial⟩, trivial⟩, ?_⟩
         refine WA_load_row (t := 25) (x := (.tmp 3)) 0 60 (.agg #[.slice a2 (List.length p1) c2]) kr rfl kr (.head _) (QP_then (QP_block (QP_then (QP_then (QP_block (QP_block (QP_then QP_body))))))) (fun _ h => h.1) (ev (.pointer (some ⟨b1, 0, none⟩))) hb1 kr ?_
         refine WA_pure 1 61 (.string y2.2) kr rfl kr (.head _) (QP_then (QP_block (QP_then (QP_then (QP_block (QP_block (QP_then QP_body))))))) ?_
         refine WA_pure 3 63 (.pointer (some ⟨bp0, 0, none⟩)) kr rfl kr (.head _) (QP_then (QP_block (QP_then (QP_then (QP_block (QP_block (QP_then QP_body))))))) ?_
         refine WA_pure 8 68 (.pointer (some ⟨b6, 1, none⟩)) kr rfl kr (.head _) (QP_then (QP_block (QP_then (QP_then (QP_block (QP_block (QP_then QP_body))))))) ?_
         refine WA_load_own (t := 9) (x := (.tmp 68)) 9 69 (.string x1.2) kr rfl kr (.head _) (QP_then (QP_block (QP_then (QP_then (QP_block (QP_block (QP_then QP_body))))))) (fun _ h => h.2.1) (ev (.pointer (some ⟨b6, 1, none⟩))) kr ?_
         replace ⟨y13, hx14, hr⟩ := bindS hr
         refine WA_one 2 kr  (One_fn 62 57 #[.agg #[.slice a2 (List.length p1) c2], .string y2.2] kr rfl ?_)
         refine (testgatemake_remove_ok st r2 hx14).mono ?_
         clear st
         rintro _ w29 ⟨a15, c15, m19, rfl, hle16, st, r17⟩
         refine ⟨_, rfl, ?_⟩
         have hm := Mem.le_trans hm hle16
         have hb1 := hb1.mono hle16
         have r2 := r2.mono hle16
         have r5 := r5.mono hle16
         have hmS4 := Mem.le_trans hmS4 hle16
         refine ⟨⟨.inr ⟨Inv.anti st.inv hmS4, Piece.holds_anti st.tail.head hmS4, trivial⟩, trivial⟩, ?_⟩
         have st := st.front2
         replace ⟨y14, hx15, hr⟩ := bindS hr
         refine WA_one 4 kr  (One_fn 64 14 #[.pointer (some ⟨bp0, 0, none⟩), .int .i64 3] kr rfl ?_)
         refine (testgatemake_Tape_Next_ok st r5 hx15).mono ?_
         clear st
         rintro _ w30 ⟨a16, c16, m20, rfl, hle17, st, r18⟩
         refine ⟨_, rfl, ?_⟩
         have hm := Mem.le_trans hm hle17
         have hb1 := hb1.mono hle17
         have r2 := r2.mono hle17
         have r17 := r17.mono hle17
         have r5 := r5.mono hle17
         have hmS4 := Mem.le_trans hmS4 hle17
         refine ⟨⟨.inr ⟨Inv.anti st.inv hmS4, Piece.holds_anti st.tail.tail.head hmS4, trivial⟩, trivial⟩, ?_⟩
         replace ⟨y15, hx16, hr⟩ := bindS hr
         refine WA_one 5 kr  (One_fn 65 60 #[.int .i64 y14.2] kr rfl ?_)
         refine (testgatemake_Digits_ok st hx16).mono ?_
         clear st
         rintro _ w31 ⟨m21, rfl, hle18, st⟩
         refine ⟨_, rfl, ?_⟩
         have hm := Mem.le_trans hm hle18
         have hb1 := hb1.mono hle18
         have r2 := r2.mono hle18
         have r17 := r17.mono hle18
         have r18 := r18.mono hle18
         have hmS4 := Mem.le_trans hmS4 hle18
         refine ⟨⟨.inr ⟨Inv.anti st.inv hmS4, Piece.holds_anti st.tail.tail.head hmS4, trivial⟩, trivial⟩, ?_⟩
         replace ⟨s2, hx17, hr⟩ := bindS hr
         refine WA_cat (t := 9) (t2 := 9) (x := (.const (.string (⟨#[122]⟩ : ByteArray)))) (y := (.tmp 65)) 6 66 kr rfl kr (.head _) (QP_then (QP_block (QP_then (QP_then (QP_block (QP_block (QP_then QP_body))))))) (ev (.string (⟨#[122]⟩ : ByteArray))) (ev (.string y15)) hx17 ?_
         replace ⟨s3, hx18, hr⟩ := bindS hr
         refine WA_cat (t := 9) (t2 := 9) (x := (.tmp 66)) (y := (.const (.string (⟨#[46, 115, 114, 99]⟩ : ByteArray)))) 7 67 kr rfl kr (.head _) (QP_then (QP_block (QP_then (QP_then (QP_block (QP_block (QP_then QP_body))))))) (ev (.string s2)) (ev (.string (⟨#[46, 115, 114, 99]⟩ : ByteArray))) hx18 ?_
         refine WA_pure 10 70 (.agg #[.string s3, .string x1.2]) kr rfl kr (.head _) (QP_then (QP_block (QP_then (QP_then (QP_block (QP_block (QP_then QP_body))))))) ?_
         replace ⟨y16, hx19, hr⟩ := bindS hr
         refine WA_one 11 kr  (One_fn 71 55 #[.agg #[.slice a15 (List.length y13) c15], .agg #[.string s3, .string x1.2]] kr rfl ?_)
         refine (testgatemake_insert_ok st r17 hx19).mono ?_
         clear st
         rintro _ w32 ⟨a17, c17, m22, rfl, hle19, st, r19⟩
         refine ⟨_, rfl, ?_⟩
         have hm := Mem.le_trans hm hle19
         have hb1 := hb1.mono hle19
         have r2 := r2.mono hle19
         have r17 := r17.mono hle19
         have r18 := r18.mono hle19
         have hmS4 := Mem.le_trans hmS4 hle19
         refine ⟨⟨.inr ⟨Inv.anti st.inv hmS4, Piece.holds_anti st.tail.tail.tail.head hmS4, trivial⟩, trivial⟩, ?_⟩
         have st := st.front4
         refine WA_one 12 kr  (One_store (t := 25) (x := (.tmp 4)) (y := (.tmp 71)) (v := .agg #[.slice a17 (List.length y16) c17]) (c' := #[.slice a17 (List.length y16) c17]) kr (ev (.pointer (some ⟨b2, 0, none⟩))) (ev (.agg #[.slice a17 (List.length y16) c17])) st kr kr ?_)
         clear st
         intro w33 st
         refine ⟨⟨.inr ⟨Inv.anti st.inv hmS4, Piece.holds_anti st.tail.tail.tail.tail.head hmS4, trivial⟩, trivial⟩, ?_⟩
         refine WA_done kr ?_
         have st := st.front3
         have st := st.tail
         refine X_then ?_
         refine W_ret ?_
         refine X_block_ret ?_
         refine X_then_ret ?_
         obtain rfl := Option.some.inj hr
         have ho := hBu2 _ rfl
         subst ho
         have hr := hrKu2
         dsimp only at hr
         refine X_then_ret ?_
         refine X_block_ret ?_
         refine X_block_ret ?_
         obtain rfl := Option.some.inj hr
         have hr := hrKu1
         try dsimp only at hr
         refine X_then_ret ?_
         obtain rfl := Option.some.inj hr
         refine X_ret [.cell 4 25] [.agg #[.slice a17 (List.length y16) c17]] rfl (ResAll.cons (ResAt.blk (v := .agg #[.slice a17 (List.length y16) c17]) (o := 0) kr st.head kr) ResAll.nil) ?_
         have st := st.tail
         have st := st.front2
         have st := st.tail
         have st := st.front1.front1
         exact ⟨a16, c16, a17, c17, m22, rfl, hm, st, r18, r19⟩
        ·intro hc
         rw [if_neg (not_true hc)] at hr
         refine W_skip ?_
         refine X_block ?_
         refine X_then ?_
         refine W_region ?_
         refine WO_seg 2 [(52, .int .i64 (IntKind.wrap .i64 (s1 + 1)))] kr kr ?_
         refine WO_end rfl ?_
         obtain rfl := Option.some.inj hr
         have hL := hSu2 _ rfl
         have st := st.tail
         have st := st.front1.front1
         exact X_env _ kr (X_round k1 (Nat.lt_succ_self _) ⟨IntKind.wrap .i64 (s1 + 1), m18, hL, rfl, hm, st, hb1, r2, r5⟩)
       ·intro hc
        rw [if_neg (not_true hc)] at hr
        refine W_exit ?_
        refine X_then_exit ?_
        obtain rfl := Option.some.inj hr
        have ho := hBu2 _ rfl
        have st := st.front1.front1
        refine X_then_exit ?_
        exact X_env _ kr (K1_u2 _ _ ⟨(), m18, ho, rfl, hm, st, hb1, r2, r5⟩)
     ·intro hc
      rw [if_neg (not_true hc)] at hr
      refine W_sr (WO_seg 2 [(73, .bool (y3.2 == 4))] kr kr ?_)
      refine WO_et rfl (W_cond (y3.2 == 4) kr ?_ ?_)
      ·intro hc
       rw [if_pos hc] at hr
       refine W_sr (WO_seg 1 [(75, .pointer (some ⟨b1, 0, none⟩))] kr kr ?_)
       refine WO_one rfl (One_load_row (d := 76) (t := 23) (x := (.tmp 75)) (.slice a2 (List.length p1) c2) kr rfl (ev (.pointer (some ⟨b1, 0, none⟩))) st hb1 kr ?_)
       refine WO_seg 2 [(77, .int .i64 (List.length p1 : Int)), (78, .int .i64 0)] kr kr ?_
       refine WO_et rfl (W_block ?_)
       replace ⟨out2, hr, hrKu3⟩ := bindS hr
       refine W_cut (.exit 3) (fun L' w' => ∃ (o3 : Unit) (m23 : Mem), (.inl o3) = out2 ∧ L' = [(0, .pointer (some ⟨bp0, 0, none⟩)), (3, .pointer (some ⟨b1, 0, none⟩)), (4, .pointer (some ⟨b2, 0, none⟩)), (5, .string y2.2)] ∧ m.le m23 ∧ St m23 (.blk bp0 (.cells #[.slice a5 (List.length y3.1.1) c5, .int .i64 y3.1.2] 28 (0, 0)) :: .blk b2 (.cells #[.slice none (List.length ([] : List (ByteArray × ByteArray))) 0] 25 (0, 0)) :: own) w' ∧ MRow m23 b1 0 [.slice a2 (List.length p1) c2] ∧ RepS (cPair cStr cStr) m23 a2 c2 p1 ∧ RepS (cInt .i64) m23 a5 c5 y3.1.1) ?_ ?_
       ·clear hr st
        rintro _ w34 ⟨o3, m23, rfl, rfl, hm, st, hb1, r2, r5⟩
        have hr := hrKu3
        clear hrKu3
        dsimp only at hr
        refine X_block_eq ?_
        refine X_block ?_
        have hqu1 := Option.some.inj hr
        have st := st.front1.front1
        exact X_env _ kr (Ku1 _ _ ⟨(), m23, hqu1, rfl, hm, st, hb1, r2, r5⟩)
       intro K3_u3
       have st := st.front1.front1
       refine W_env _ kr (W_loop (fun k2 L' w' => ∃ (s4 : Int) (m24 : Mem), loopM (testgatemake_Edit_L2 N p1 y2 y3) k2 s4 = some out2 ∧ L' = [(0, .pointer (some ⟨bp0, 0, none⟩)), (3, .pointer (some ⟨b1, 0, none⟩)), (4, .pointer (some ⟨b2, 0, none⟩)), (5, .string y2.2), (76, .slice a2 (List.length p1) c2), (77, .int .i64 (List.length p1 : Int)), (78, .int .i64 s4)] ∧ m.le m24 ∧ St m24 (.blk bp0 (.cells #[.slice a5 (List.length y3.1.1) c5, .int .i64 y3.1.2] 28 (0, 0)) :: .blk b2 (.cells #[.slice none (List.length ([] : List (ByteArray × ByteArray))) 0] 25 (0, 0)) :: own) w' ∧ MRow m24 b1 0 [.slice a2 (List.length p1) c2] ∧ RepS (cPair cStr cStr) m24 a2 c2 p1 ∧ RepS (cInt .i64) m24 a5 c5 y3.1.1) N ⟨0, m4, hr, rfl, hm, st, hb1, r2, r5⟩ ?_)
       clear st hr
       rintro k2 _ w35 ⟨s4, m24, hL, rfl, hm, st, hb1, r2, r5⟩
       rcases k2 with _ | k2
       ·exact loopM_zero hL
       ·obtain ⟨qu3, hr, hSu3, hBu3⟩ := loopM_succ hL
        clear hL
        unfold testgatemake_Edit_L2 at hr
        refine W_sr (WO_seg 1 [(79, .bool (decide (s4 < (List.length p1 : Int))))] kr kr ?_)
        refine WO_et rfl (W_seq ?_)
        refine W_cond (decide (s4 < (List.length p1 : Int))) kr ?_ ?_
        ·intro hc
         rw [if_pos hc] at hr
         refine W_skip ?_
         refine X_then ?_
         refine W_seq ?_
         refine W_block ?_
         refine W_sr ?_
         replace ⟨x2, hx20, hr⟩ := bindS hr
         refine WO_one rfl (One_index (d := 80) (t := 23) (e := 74) (x := (.tmp 76)) (y := (.tmp 78)) (cPair cStr cStr) kr rfl (ev (.slice a2 (List.length p1) c2)) (ev (.int .i64 s4)) kr r2 hx20 ?_)
         rintro b7 f2 cs2 ⟨_, _, rfl, rfl, rfl⟩ hq2
         refine WO_one rfl (One_load_row (d := 81) (t := 74) (x := (.tmp 80)) (.agg #[.string x2.1, .string x2.2]) kr rfl (ev (.pointer (some ⟨b7, f2, none⟩))) st hq2 kr ?_)
         refine WO_one rfl (One_alloc (d := 9) (e := 74) (.agg #[.string (⟨#[]⟩ : ByteArray), .string (⟨#[]⟩ : ByteArray)]) kr rfl kr st ?_)
         clear st
         intro b8 w36 st
         refine WO_one rfl (One_store (t := 74) (x := (.tmp 9)) (y := (.tmp 81)) (v := .agg #[.string x2.1, .string x2.2]) (c' := #[.string x2.1, .string x2.2]) kr (ev (.pointer (some ⟨b8, 0, none⟩))) (ev (.agg #[.string x2.1, .string x2.2])) st kr kr ?_)
         clear st
         intro w37 st
         refine WO_et rfl (W_sr ?_)
         refine WO_seg 1 [(82, .pointer (some ⟨b8, 0, none⟩))] kr kr ?_
         refine WO_one rfl (One_load_own (d := 83) (t := 9) (x := (.tmp 82)) (.string x2.1) kr rfl (ev (.pointer (some ⟨b8, 0, none⟩))) st.head kr ?_)
         refine WO_seg 2 [(85, .bool (x2.1.toList == y2.2.toList))] kr kr ?_
         refine WO_et rfl (W_cond (x2.1.toList == y2.2.toList) kr ?_ ?_)
         ·intro hc
          rw [if_pos hc] at hr
          refine W_seq ?_
          refine W_draw [(13, fun w' => Inv m24 w' ∧ Piece.holds m24 w' (.blk b8 (.cells #[.string x2.1, .string x2.2] 74 (0, 0))) ∧ True)] kr st ?_
          clear st
          intro w38 _ st
          have hmS5 := m24.le_refl
          refine ⟨⟨.inr ⟨Inv.anti st.inv hmS5, Piece.holds_anti st.head hmS5, trivial⟩, trivial⟩, ?_⟩
          refine WA_load_row (t := 25) (x := (.tmp 3)) 0 86 (.agg #[.slice a2 (List.length p1) c2]) kr rfl kr (.head _) (QP_then (QP_block (QP_then (QP_then (QP_block (QP_block (QP_then QP_body))))))) (fun _ h => h.1) (ev (.pointer (some ⟨b1, 0, none⟩))) hb1 kr ?_
          refine WA_pure 1 87 (.string y2.2) kr rfl kr (.head _) (QP_then (QP_block (QP_then (QP_then (QP_block (QP_block (QP_then QP_body))))))) ?_
          refine WA_pure 2 88 (.pointer (some ⟨bp0, 0, none⟩)) kr rfl kr (.head _) (QP_then (QP_block (QP_then (QP_then (QP_block (QP_block (QP_then QP_body))))))) ?_
          refine WA_pure 7 93 (.pointer (some ⟨b8, 1, none⟩)) kr rfl kr (.head _) (QP_then (QP_block (QP_then (QP_then (QP_block (QP_block (QP_then QP_body))))))) ?_
          refine WA_load_own (t := 9) (x := (.tmp 93)) 8 94 (.string x2.2) kr rfl kr (.head _) (QP_then (QP_block (QP_then (QP_then (QP_block (QP_block (QP_then QP_body))))))) (fun _ h => h.2.1) (ev (.pointer (some ⟨b8, 1, none⟩))) kr ?_
          have st := st.front1
          replace ⟨y17, hx21, hr⟩ := bindS hr
          refine WA_one 3 kr  (One_fn 89 14 #[.pointer (some ⟨bp0, 0, none⟩), .int .i64 100] kr rfl ?_)
          refine (testgatemake_Tape_Next_ok st r5 hx21).mono ?_
          clear st
          rintro _ w39 ⟨a18, c18, m25, rfl, hle20, st, r20⟩
          refine ⟨_, rfl, ?_⟩
          have hm := Mem.le_trans hm hle20
          have hb1 := hb1.mono hle20
          have r2 := r2.mono hle20
          have r5 := r5.mono hle20
          have hmS5 := Mem.le_trans hmS5 hle20
          refine ⟨⟨.inr ⟨Inv.anti st.inv hmS5, Piece.holds_anti st.tail.head hmS5, trivial⟩, trivial⟩, ?_⟩
          replace ⟨y18, hx22, hr⟩ := bindS hr
          refine WA_one 4 kr  (One_fn 90 60 #[.int .i64 y17.2] kr rfl ?_)
          refine (testgatemake_Digits_ok st hx22).mono ?_
          clear st
          rintro _ w40 ⟨m26, rfl, hle21, st⟩
          refine ⟨_, rfl, ?_⟩
          have hm := Mem.le_trans hm hle21
          have hb1 := hb1.mono hle21
          have r2 := r2.mono hle21
          have r20 := r20.mono hle21
          have hmS5 := Mem.le_trans hmS5 hle21
          refine ⟨⟨.inr ⟨Inv.anti st.inv hmS5, Piece.holds_anti st.tail.head hmS5, trivial⟩, trivial⟩, ?_⟩
          replace ⟨s5, hx23, hr⟩ := bindS hr
          refine WA_cat (t := 9) (t2 := 9) (x := (.const (.string (⟨#[35, 32]⟩ : ByteArray)))) (y := (.tmp 90)) 5 91 kr rfl kr (.head _) (QP_then (QP_block (QP_then (QP_then (QP_block (QP_block (QP_then QP_body))))))) (ev (.string (⟨#[35, 32]⟩ : ByteArray))) (ev (.string y18)) hx23 ?_
          replace ⟨s6, hx24, hr⟩ := bindS hr
          refine WA_cat (t := 9) (t2 := 9) (x := (.tmp 91)) (y := (.const (.string (⟨#[10, 32, 32]⟩ : ByteArray)))) 6 92 kr rfl kr (.head _) (QP_then (QP_block (QP_then (QP_then (QP_block (QP_block (QP_then QP_body))))))) (ev (.string s5)) (ev (.string (⟨#[10, 32, 32]⟩ : ByteArray))) hx24 ?_
          replace ⟨s7, hx25, hr⟩ := bindS hr
          refine WA_cat (t := 9) (t2 := 9) (x := (.tmp 92)) (y := (.tmp 94)) 9 95 kr rfl kr (.head _) (QP_then (QP_block (QP_then (QP_then (QP_block (QP_block (QP_then QP_body))))))) (ev (.string s6)) (ev (.string x2.2)) hx25 ?_
          refine WA_pure 10 96 (.agg #[.string y2.2, .string s7]) kr rfl kr (.head _) (QP_then (QP_block (QP_then (QP_then (QP_block (QP_block (QP_then QP_body))))))) ?_
          replace ⟨y19, hx26, hr⟩ := bindS hr
          refine WA_one 11 kr  (One_fn 97 55 #[.agg #[.slice a2 (List.length p1) c2], .agg #[.string y2.2, .string s7]] kr rfl ?_)
          refine (testgatemake_insert_ok st r2 hx26).mono ?_
          clear st
          rintro _ w41 ⟨a19, c19, m27, rfl, hle22, st, r21⟩
          refine ⟨_, rfl, ?_⟩
          have hm := Mem.le_trans hm hle22
          have hb1 := hb1.mono hle22
          have r2 := r2.mono hle22
          have r20 := r20.mono hle22
          have hmS5 := Mem.le_trans hmS5 hle22
          refine ⟨⟨.inr ⟨Inv.anti st.inv hmS5, Piece.holds_anti st.tail.tail.head hmS5, trivial⟩, trivial⟩, ?_⟩
          have st := st.front3
          refine WA_one 12 kr  (One_store (t := 25) (x := (.tmp 4)) (y := (.tmp 97)) (v := .agg #[.slice a19 (List.length y19) c19]) (c' := #[.slice a19 (List.length y19) c19]) kr (ev (.pointer (some ⟨b2, 0, none⟩))) (ev (.agg #[.slice a19 (List.length y19) c19])) st kr kr ?_)
          clear st
          intro w42 st
          refine ⟨⟨.inr ⟨Inv.anti st.inv hmS5, Piece.holds_anti st.tail.tail.tail.head hmS5, trivial⟩, trivial⟩, ?_⟩
          refine WA_done kr ?_
          refine X_then ?_
          refine W_ret ?_
          refine X_block_ret ?_
          refine X_then_ret ?_
          obtain rfl := Option.some.inj hr
          have ho := hBu3 _ rfl
          subst ho
          have hr := hrKu3
          dsimp only at hr
          refine X_then_ret ?_
          refine X_block_ret ?_
          refine X_block_ret ?_
          obtain rfl := Option.some.inj hr
          have hr := hrKu1
          try dsimp only at hr
          refine X_then_ret ?_
          obtain rfl := Option.some.inj hr
          refine X_ret [.cell 4 25] [.agg #[.slice a19 (List.length y19) c19]] rfl (ResAll.cons (ResAt.blk (v := .agg #[.slice a19 (List.length y19) c19]) (o := 0) kr st.head kr) ResAll.nil) ?_
          have st := st.tail
          have st := st.front2
          have st := st.tail
          have st := st.front1.front1
          exact ⟨a18, c18, a19, c19, m27, rfl, hm, st, r20, r21⟩
         ·intro hc
          rw [if_neg (not_true hc)] at hr
          refine W_skip ?_
          refine X_block ?_
          refine X_then ?_
          refine W_region ?_
          refine WO_seg 2 [(78, .int .i64 (IntKind.wrap .i64 (s4 + 1)))] kr kr ?_
          refine WO_end rfl ?_
          obtain rfl := Option.some.inj hr
          have hL := hSu3 _ rfl
          have st := st.tail
          have st := st.front1.front1
          exact X_env _ kr (X_round k2 (Nat.lt_succ_self _) ⟨IntKind.wrap .i64 (s4 + 1), m24, hL, rfl, hm, st, hb1, r2, r5⟩)
        ·intro hc
         rw [if_neg (not_true hc)] at hr
         refine W_exit ?_
         refine X_then_exit ?_
         obtain rfl := Option.some.inj hr
         have ho := hBu3 _ rfl
         have st := st.front1.front1
         refine X_then_exit ?_
         exact X_env _ kr (K3_u3 _ _ ⟨(), m24, ho, rfl, hm, st, hb1, r2, r5⟩)
      ·intro hc
       rw [if_neg (not_true hc)] at hr
       refine W_sr (WO_seg 2 [(99, .bool (y3.2 == 5))] kr kr ?_)
       refine WO_et rfl (W_cond (y3.2 == 5) kr ?_ ?_)
       ·intro hc
        rw [if_pos hc] at hr
        refine W_sr (WO_seg 1 [(101, .pointer (some ⟨b1, 0, none⟩))] kr kr ?_)
        refine WO_one rfl (One_load_row (d := 102) (t := 23) (x := (.tmp 101)) (.slice a2 (List.length p1) c2) kr rfl (ev (.pointer (some ⟨b1, 0, none⟩))) st hb1 kr ?_)
        refine WO_seg 2 [(103, .int .i64 (List.length p1 : Int)), (104, .int .i64 0)] kr kr ?_
        refine WO_et rfl (W_block ?_)
        replace ⟨out3, hr, hrKu4⟩ := bindS hr
        refine W_cut (.exit 5) (fun L' w' => ∃ (o4 : Unit) (m28 : Mem), (.inl o4) = out3 ∧ L' = [(0, .pointer (some ⟨bp0, 0, none⟩)), (3, .pointer (some ⟨b1, 0, none⟩)), (4, .pointer (some ⟨b2, 0, none⟩)), (5, .string y2.2)] ∧ m.le m28 ∧ St m28 (.blk bp0 (.cells #[.slice a5 (List.length y3.1.1) c5, .int .i64 y3.1.2] 28 (0, 0)) :: .blk b2 (.cells #[.slice none (List.length ([] : List (ByteArray × ByteArray))) 0] 25 (0, 0)) :: own) w' ∧ MRow m28 b1 0 [.slice a2 (List.length p1) c2] ∧ RepS (cPair cStr cStr) m28 a2 c2 p1 ∧ RepS (cInt .i64) m28 a5 c5 y3.1.1) ?_ ?_
        ·clear hr st
         rintro _ w43 ⟨o4, m28, rfl, rfl, hm, st, hb1, r2, r5⟩
         have hr := hrKu4
         clear hrKu4
         dsimp only at hr
         refine X_block_eq ?_
         refine X_block ?_
         have hqu1 := Option.some.inj hr
         have st := st.front1.front1
         exact X_env _ kr (Ku1 _ _ ⟨(), m28, hqu1, rfl, hm, st, hb1, r2, r5⟩)
        intro K5_u4
        have st := st.front1.front1
        refine W_env _ kr (W_loop (fun k3 L' w' => ∃ (s8 : Int) (m29 : Mem), loopM (testgatemake_Edit_L3 N p1 y2 y3) k3 s8 = some out3 ∧ L' = [(0, .pointer (some ⟨bp0, 0, none⟩)), (3, .pointer (some ⟨b1, 0, none⟩)), (4, .pointer (some ⟨b2, 0, none⟩)), (5, .string y2.2), (102, .slice a2 (List.length p1) c2), (103, .int .i64 (List.length p1 : Int)), (104, .int .i64 s8)] ∧ m.le m29 ∧ St m29 (.blk bp0 (.cells #[.slice a5 (List.length y3.1.1) c5, .int .i64 y3.1.2] 28 (0, 0)) :: .blk b2 (.cells #[.slice none (List.length ([] : List (ByteArray × ByteArray))) 0] 25 (0, 0)) :: own) w' ∧ MRow m29 b1 0 [.slice a2 (List.length p1) c2] ∧ RepS (cPair cStr cStr) m29 a2 c2 p1 ∧ RepS (cInt .i64) m29 a5 c5 y3.1.1) N ⟨0, m4, hr, rfl, hm, st, hb1, r2, r5⟩ ?_)
        clear st hr
        rintro k3 _ w44 ⟨s8, m29, hL, rfl, hm, st, hb1, r2, r5⟩
        rcases k3 with _ | k3
        ·exact loopM_zero hL
        ·obtain ⟨qu4, hr, hSu4, hBu4⟩ := loopM_succ hL
         clear hL
         unfold testgatemake_Edit_L3 at hr
         refine W_sr (WO_seg 1 [(105, .bool (decide (s8 < (List.length p1 : Int))))] kr kr ?_)
         refine WO_et rfl (W_seq ?_)
         refine W_cond (decide (s8 < (List.length p1 : Int))) kr ?_ ?_
         ·intro hc
          rw [if_pos hc] at hr
          refine W_skip ?_
          refine X_then ?_
          refine W_seq ?_
          refine W_block ?_
          refine W_sr ?_
          replace ⟨x3, hx27, hr⟩ := bindS hr
          refine WO_one rfl (One_index (d := 106) (t := 23) (e := 74) (x := (.tmp 102)) (y := (.tmp 104)) (cPair cStr cStr) kr rfl (ev (.slice a2 (List.length p1) c2)) (ev (.int .i64 s8)) kr r2 hx27 ?_)
          rintro b9 f3 cs3 ⟨_, _, rfl, rfl, rfl⟩ hq3
          refine WO_one rfl (One_load_row (d := 107) (t := 74) (x := (.tmp 106)) (.agg #[.string x3.1, .string x3.2]) kr rfl (ev (.pointer (some ⟨b9, f3, none⟩))) st hq3 kr ?_)
          refine WO_one rfl (One_alloc (d := 11) (e := 74) (.agg #[.string (⟨#[]⟩ : ByteArray), .string (⟨#[]⟩ : ByteArray)]) kr rfl kr st ?_)
          clear st
          intro b10 w45 st
          refine WO_one rfl (One_store (t := 74) (x := (.tmp 11)) (y := (.tmp 107)) (v := .agg #[.string x3.1, .string x3.2]) (c' := #[.string x3.1, .string x3.2]) kr (ev (.pointer (some ⟨b10, 0, none⟩))) (ev (.agg #[.string x3.1, .string x3.2])) st kr kr ?_)
          clear st
          intro w46 st
          refine WO_et rfl (W_sr ?_)
          refine WO_seg 1 [(108, .pointer (some ⟨b10, 0, none⟩))] kr kr ?_
          refine WO_one rfl (One_load_own (d := 109) (t := 9) (x := (.tmp 108)) (.string x3.1) kr rfl (ev (.pointer (some ⟨b10, 0, none⟩))) st.head kr ?_)
          refine WO_seg 2 [(111, .bool (x3.1.toList == y2.2.toList))] kr kr ?_
          refine WO_et rfl (W_cond (x3.1.toList == y2.2.toList) kr ?_ ?_)
          ·intro hc
           rw [if_pos hc] at hr
           refine W_sr (WO_one rfl (One_load_row (d := 112) (t := 25) (x := (.tmp 3)) (.agg #[.slice a2 (List.length p1) c2]) kr rfl (ev (.pointer (some ⟨b1, 0, none⟩))) st hb1 kr ?_))
           refine WO_seg 2 [(113, .string y2.2), (114, .pointer (some ⟨b10, 1, none⟩))] kr kr ?_
           refine WO_one rfl (One_load_own (d := 115) (t := 9) (x := (.tmp 114)) (.string x3.2) kr rfl (ev (.pointer (some ⟨b10, 1, none⟩))) st.head kr ?_)
           replace ⟨s9, hx28, hr⟩ := bindS hr
           refine WO_one rfl (One_cat (d := 116) (t := 9) (t2 := 9) (x := (.tmp 115)) (y := (.const (.string (⟨#[102, 117, 110, 99]⟩ : ByteArray)))) kr rfl (ev (.string x3.2)) (ev (.string (⟨#[102, 117, 110, 99]⟩ : ByteArray))) hx28 ?_)
           refine WO_seg 1 [(117, .agg #[.string y2.2, .string s9])] kr kr ?_
           replace ⟨y20, hx29, hr⟩ := bindS hr
           refine WO_one rfl (One_fn 118 55 #[.agg #[.slice a2 (List.length p1) c2], .agg #[.string y2.2, .string s9]] kr rfl ?_)
           refine (testgatemake_insert_ok st r2 hx29).mono ?_
           clear st
           rintro _ w47 ⟨a20, c20, m30, rfl, hle23, st, r22⟩
           refine ⟨_, rfl, ?_⟩
           have hm := Mem.le_trans hm hle23
           have hb1 := hb1.mono hle23
           have r2 := r2.mono hle23
           have r5 := r5.mono hle23
           have st := st.front3
           refine WO_one rfl (One_store (t := 25) (x := (.tmp 4)) (y := (.tmp 118)) (v := .agg #[.slice a20 (List.length y20) c20]) (c' := #[.slice a20 (List.length y20) c20]) kr (ev (.pointer (some ⟨b2, 0, none⟩))) (ev (.agg #[.slice a20 (List.length y20) c20])) st kr kr ?_)
           clear st
           intro w48 st
           refine WO_et rfl (W_ret ?_)
           refine X_block_ret ?_
           refine X_then_ret ?_
           obtain rfl := Option.some.inj hr
           have ho := hBu4 _ rfl
           subst ho
           have hr := hrKu4
           dsimp only at hr
           refine X_then_ret ?_
           refine X_block_ret ?_
           refine X_block_ret ?_
           obtain rfl := Option.some.inj hr
           have hr := hrKu1
           try dsimp only at hr
           refine X_then_ret ?_
           obtain rfl := Option.some.inj hr
           refine X_ret [.cell 4 25] [.agg #[.slice a20 (List.length y20) c20]] rfl (ResAll.cons (ResAt.blk (v := .agg #[.slice a20 (List.length y20) c20]) (o := 0) kr st.head kr) ResAll.nil) ?_
           have st := st.tail
           have st := st.front1
           have st := st.tail
           have st := st.front1.front1
           exact ⟨a5, c5, a20, c20, m30, rfl, hm, st, r5, r22⟩
          ·intro hc
           rw [if_neg (not_true hc)] at hr
           refine W_skip ?_
           refine X_block ?_
           refine X_then ?_
           refine W_region ?_
           refine WO_seg 2 [(104, .int .i64 (IntKind.wrap .i64 (s8 + 1)))] kr kr ?_
           refine WO_end rfl ?_
           obtain rfl := Option.some.inj hr
           have hL := hSu4 _ rfl
           have st := st.tail
           have st := st.front1.front1
           exact X_env _ kr (X_round k3 (Nat.lt_succ_self _) ⟨IntKind.wrap .i64 (s8 + 1), m29, hL, rfl, hm, st, hb1, r2, r5⟩)
         ·intro hc
          rw [if_neg (not_true hc)] at hr
          refine W_exit ?_
          refine X_then_exit ?_
          obtain rfl := Option.some.inj hr
          have ho := hBu4 _ rfl
          have st := st.front1.front1
          refine X_then_exit ?_
          exact X_env _ kr (K5_u4 _ _ ⟨(), m29, ho, rfl, hm, st, hb1, r2, r5⟩)
       ·intro hc
        rw [if_neg (not_true hc)] at hr
        refine W_skip ?_
        refine X_block ?_
        have hqu1 := Option.some.inj hr
        have st := st.front1.front1
        exact X_env _ kr (Ku1 _ _ ⟨(), m4, hqu1, rfl, hm, st, hb1, r2, r5⟩)
def testgatelaw15_two_L1 (N : Nat) (s1 : Int × List (Int) × Int × (List (ByteArray × ByteArray))) : Option ((Int × List (Int) × Int × (List (ByteArray × ByteArray))) ⊕ ((List (Int) × Int × (List (ByteArray × ByteArray))))) :=
 if (decide (s1.1 > 0)) = true then ((testgatemake_Edit N (s1.2.1, s1.2.2.1) s1.2.2.2).bind fun y3 => some (.inl (IntKind.wrap .i64 (s1.1 - 1), y3.1.1, y3.1.2, y3.2))) else (some (.inr (s1.2.1, s1.2.2.1, s1.2.2.2)))
def testgatelaw15_two (N : Nat) (p0 : List Int × Int) : Option ((List Int × Int) × ((List (ByteArray × ByteArray))) × ((List (ByteArray × ByteArray)))) :=
 (testgatemake_Revision N (p0.1, p0.2)).bind fun y1 => (testgatemake_Tape_Next N (y1.1.1, y1.1.2) 5).bind fun y2 => (loopM (testgatelaw15_two_L1 N) N (y2.2, y2.1.1, y2.1.2, y1.2)).bind fun o1 => (testgatemake_Tape_Chance N (o1.1, o1.2.1) 1 6).bind fun y4 => (if y4.2 = true then ((testgatemake_Revision N (y4.1.1, y4.1.2)).bind fun y5 => some (y5.1.1, y5.1.2, y5.2)) else (some (y4.1.1, y4.1.2, o1.2.2)) : Option (List (Int) × Int × (List (ByteArray × ByteArray)))).bind fun o2 => some ((o2.1, o2.2.1), y1.2, o2.2.2)
set_option maxHeartbeats 4000000 in
set_option maxRecDepth 100000 in
theorem testgatelaw15_two_ok {N : Nat} {m : Mem} {own : List Piece} {w : World} {p0 : List Int × Int} {bp0 : Nat} {a1 : Option Addr} {c1 : Nat} {r : (List Int × Int) × ((List (ByteArray × ByteArray))) × ((List (ByteArray × ByteArray)))} (st : St m (.blk bp0 (.cells #[.slice a1 (List.length p0.1) c1, .int .i64 p0.2] 28 (0, 0)) :: own) w) (r1 : RepS (cInt .i64) m a1 c1 p0.1) (hr : testgatelaw15_two N p0 = some r) : Calls Tryz.prog 23 #[.pointer (some ⟨bp0, 0, none⟩)] w fun e w' => ∃ (ra1 : Option Addr) (rc1 : Nat) (ra2 : Option Addr) (rc2 : Nat) (ra3 : Option Addr) (rc3 : Nat) (m' : Mem), e = .returned (.tuple #[.agg #[.slice ra2 (List.length r.2.1) rc2], .agg #[.slice ra3 (List.length r.2.2) rc3]]) ∧ m.le m' ∧ St m' (.room ra3 (List.length r.2.2) rc3 74 2 :: .blk bp0 (.cells #[.slice ra1 (List.length r.1.1) rc1, .int .i64 r.1.2] 28 (0, 0)) :: own) w' ∧ RepS (cInt .i64) m' ra1 rc1 r.1.1 ∧ RepS (cPair cStr cStr) m' ra2 rc2 r.2.1 ∧ RepS (cPair cStr cStr) m' ra3 rc3 r.2.2 := by
 unfold testgatelaw15_two at hr
 have hm := m.le_refl
 refine W_calls Tryz.func23 rfl Tryz.ntmps23 [(0, .pointer (some ⟨bp0, 0, none⟩))] kr rfl ?_
 refine W_sr (WO_one rfl (One_alloc (d := 2) (e := 25) (.agg #[.slice none 0 0]) kr rfl kr st ?_))
 clear st
 intro b1 w1 st
 refine WO_one rfl (One_alloc (d := 3) (e := 25) (.agg #[.slice none 0 0]) kr rfl kr st ?_)
 clear st
 intro b2 w2 st
 refine WO_et rfl (W_sr ?_)
 refine WO_seg 1 [(7, .pointer (some ⟨bp0, 0, none⟩))] kr kr ?_
 have st := st.front2
 replace ⟨y1, hx1, hr⟩ := bindS hr
 refine WO_one rfl (One_fn 8 12 #[.pointer (some ⟨bp0, 0, none⟩)] kr rfl ?_)
 refine (testgatemake_Revision_ok st r1 hx1).mono ?_
 clear st
 rintro _ w3 ⟨a2, c2, a3, c3, m1, rfl, hle1, st, r2, r3⟩
 refine ⟨_, rfl, ?_⟩
 have hm := Mem.le_trans hm hle1
 have r1 := r1.mono hle1
 refine WO_one rfl (One_alloc (d := 4) (e := 25) (.agg #[.slice none 0 0]) kr rfl kr st ?_)
 clear st
 intro b3 w4 st
 refine WO_one rfl (One_store (t := 25) (x := (.tmp 4)) (y := (.tmp 8)) (v := .agg #[.slice a3 (List.length y1.2) c3]) (c' := #[.slice a3 (List.length y1.2) c3]) kr (ev (.pointer (some ⟨b3, 0, none⟩))) (ev (.agg #[.slice a3 (List.length y1.2) c3])) st kr kr ?_)
 clear st
 intro w5 st
 refine WO_et rfl (W_sr ?_)
 refine WO_one rfl (One_load_own (d := 9) (t := 25) (x := (.tmp 4)) (.agg #[.slice a3 (List.length y1.2) c3]) kr rfl (ev (.pointer (some ⟨b3, 0, none⟩))) st.head kr ?_)
 refine WO_one rfl (One_alloc (d := 5) (e := 25) (.agg #[.slice none 0 0]) kr rfl kr st ?_)
 clear st
 intro b4 w6 st
 refine WO_one rfl (One_store (t := 25) (x := (.tmp 5)) (y := (.tmp 9)) (v := .agg #[.slice a3 (List.length y1.2) c3]) (c' := #[.slice a3 (List.length y1.2) c3]) kr (ev (.pointer (some ⟨b4, 0, none⟩))) (ev (.agg #[.slice a3 (List.length y1.2) c3])) st kr kr ?_)
 clear st
 intro w7 st
 refine WO_et rfl (W_seq ?_)
 refine W_sr (WO_seg 1 [(10, .pointer (some ⟨bp0, 0, none⟩))] kr kr ?_)
 have st := st.front3
 replace ⟨y2, hx2, hr⟩ := bindS hr
 refine WO_one rfl (One_fn 11 14 #[.pointer (some ⟨bp0, 0, none⟩), .int .i64 5] kr rfl ?_)
 refine (testgatemake_Tape_Next_ok st r2 hx2).mono ?_
 clear st
 rintro _ w8 ⟨a4, c4, m2, rfl, hle2, st, r4⟩
 refine ⟨_, rfl, ?_⟩
 have hm := Mem.le_trans hm hle2
 have r2 := r2.mono hle2
 have r3 := r3.mono hle2
 refine WO_seg 1 [(6, .int .i64 y2.2)] kr kr ?_
 refine WO_et rfl (W_block ?_)
 replace ⟨out1, hr, hrKu1⟩ := bindS hr
 refine W_cut (.exit 0) (fun L' w' => ∃ (o1 : List (Int) × Int × (List (ByteArray × ByteArray))) (a5 : Option Addr) (c5 : Nat) (a6 : Option Addr) (c6 : Nat) (m3 : Mem), o1 = out1 ∧ L' = [(0, .pointer (some ⟨bp0, 0, none⟩)), (2, .pointer (some ⟨b1, 0, none⟩)), (3, .pointer (some ⟨b2, 0, none⟩)), (4, .pointer (some ⟨b3, 0, none⟩)), (5, .pointer (some ⟨b4, 0, none⟩))] ∧ m.le m3 ∧ St m3 (.blk bp0 (.cells #[.slice a5 (List.length o1.1) c5, .int .i64 o1.2.1] 28 (0, 0)) :: .blk b4 (.cells #[.slice a6 (List.length o1.2.2) c6] 25 (0, 0)) :: .blk b3 (.cells #[.slice a3 (List.length y1.2) c3] 25 (0, 0)) :: .blk b2 (.cells #[.slice none (List.length ([] : List (ByteArray × ByteArray))) 0] 25 (0, 0)) :: .blk b1 (.cells #[.slice none (List.length ([] : List (ByteArray × ByteArray))) 0] 25 (0, 0)) :: .room a6 (List.length o1.2.2) c6 74 2 :: own) w' ∧ RepS (cInt .i64) m3 a5 c5 o1.1 ∧ RepS (cPair cStr cStr) m3 a6 c6 o1.2.2 ∧ RepS (cPair cStr cStr) m3 a3 c3 y1.2) ?_ ?_
 ·clear hr st
  rintro _ w9 ⟨o1, a5, c5, a6, c6, m3, rfl, rfl, hm, st, r5, r6, r3⟩
  have hr := hrKu1
  clear hrKu1
  refine X_block_eq ?_
  refine X_then ?_
  refine W_seq ?_
  refine W_sr (WO_seg 1 [(19, .pointer (some ⟨bp0, 0, none⟩))] kr kr ?_)
  replace ⟨y4, hx4, hr⟩ := bindS hr
  refine WO_one rfl (One_fn 20 29 #[.pointer (some ⟨bp0, 0, none⟩), .int .i64 1, .int .i64 6] kr rfl ?_)
  refine (testgatemake_Tape_Chance_ok st r5 hx4).mono ?_
  clear st
  rintro _ w13 ⟨a11, c11, m6, rfl, hle4, st, r11⟩
  refine ⟨_, rfl, ?_⟩
  have hm := Mem.le_trans hm hle4
  have r5 := r5.mono hle4
  have r6 := r6.mono hle4
  have r3 := r3.mono hle4
  refine WO_et rfl ?_
  replace ⟨o2, hr, hrKu2⟩ := bindS hr
  refine W_cut .normal (fun L' w' => ∃ (a12 : Option Addr) (c12 : Nat) (a13 : Option Addr) (c13 : Nat) (m7 : Mem), L' = [(2, .pointer (some ⟨b1, 0, none⟩)), (3, .pointer (some ⟨b2, 0, none⟩)), (4, .pointer (some ⟨b3, 0, none⟩)), (5, .pointer (some ⟨b4, 0, none⟩))] ∧ m.le m7 ∧ St m7 (.blk bp0 (.cells #[.slice a12 (List.length o2.1) c12, .int .i64 o2.2.1] 28 (0, 0)) :: .blk b4 (.cells #[.slice a13 (List.length o2.2.2) c13] 25 (0, 0)) :: .blk b3 (.cells #[.slice a3 (List.length y1.2) c3] 25 (0, 0)) :: .blk b2 (.cells #[.slice none (List.length ([] : List (ByteArray × ByteArray))) 0] 25 (0, 0)) :: .blk b1 (.cells #[.slice none (List.length ([] : List (ByteArray × ByteArray))) 0] 25 (0, 0)) :: .room a13 (List.length o2.2.2) c13 74 2 :: own) w' ∧ RepS (cInt .i64) m7 a12 c12 o2.1 ∧ RepS (cPair cStr cStr) m7 a13 c13 o2.2.2 ∧ RepS (cPair cStr cStr) m7 a3 c3 y1.2) ?_ ?_
  ·clear hr st
   have hr := hrKu2
   clear hrKu2
   rintro _ w14 ⟨a12, c12, a13, c13, m7, rfl, hm, st, r12, r13, r3⟩
   refine X_then ?_
   refine W_seq ?_
   refine W_draw [(4, fun w' => Inv m7 w' ∧ Piece.holds m7 w' (.blk b4 (.cells #[.slice a13 (List.length o2.2.2) c13] 25 (0, 0))) ∧ Piece.holds m7 w' (.blk b3 (.cells #[.slice a3 (List.length y1.2) c3] 25 (0, 0))) ∧ True)] kr st ?_
   clear st
   intro w17 _ st
   have hmS1 := m7.le_refl
   refine ⟨⟨.inr ⟨Inv.anti st.inv hmS1, Piece.holds_anti st.tail.head hmS1, Piece.holds_anti st.tail.tail.head hmS1, trivial⟩, trivial⟩, ?_⟩
   refine WA_load_own (t := 25) (x := (.tmp 4)) 0 23 (.agg #[.slice a3 (List.length y1.2) c3]) kr rfl kr (.head _) (QP_then QP_body) (fun _ h => h.2.2.1) (ev (.pointer (some ⟨b3, 0, none⟩))) kr ?_
   refine WA_load_own (t := 25) (x := (.tmp 5)) 1 24 (.agg #[.slice a13 (List.length o2.2.2) c13]) kr rfl kr (.head _) (QP_then QP_body) (fun _ h => h.2.1) (ev (.pointer (some ⟨b4, 0, none⟩))) kr ?_
   have st := st.front4
   refine WA_one 2 kr  (One_store (t := 25) (x := (.tmp 2)) (y := (.tmp 23)) (v := .agg #[.slice a3 (List.length y1.2) c3]) (c' := #[.slice a3 (List.length y1.2) c3]) kr (ev (.pointer (some ⟨b1, 0, none⟩))) (ev (.agg #[.slice a3 (List.length y1.2) c3])) st kr kr ?_)
   clear st
   intro w18 st
   refine ⟨⟨.inr ⟨Inv.anti st.inv hmS1, Piece.holds_anti st.tail.tail.head hmS1, Piece.holds_anti st.tail.tail.tail.head hmS1, trivial⟩, trivial⟩, ?_⟩
   have st := st.front4
   refine WA_one 3 kr  (One_store (t := 25) (x := (.tmp 3)) (y := (.tmp 24)) (v := .agg #[.slice a13 (List.length o2.2.2) c13]) (c' := #[.slice a13 (List.length o2.2.2) c13]) kr (ev (.pointer (some ⟨b2, 0, none⟩))) (ev (.agg #[.slice a13 (List.length o2.2.2) c13])) st kr kr ?_)
   clear st
   intro w19 st
   refine ⟨⟨.inr ⟨Inv.anti st.inv hmS1, Piece.holds_anti st.tail.tail.tail.head hmS1, Piece.holds_anti st.tail.tail.tail.tail.head hmS1, trivial⟩, trivial⟩, ?_⟩
   refine WA_done kr ?_
   refine X_then ?_
   refine W_ret ?_
   obtain rfl := Option.some.inj hr
   refine X_ret [.cell 2 25, .cell 3 25] [.agg #[.slice a3 (List.length y1.2) c3], .agg #[.slice a13 (List.length o2.2.2) c13]] rfl (ResAll.cons (ResAt.blk (v := .agg #[.slice a3 (List.length y1.2) c3]) (o := 0) kr st.tail.head kr) (ResAll.cons (ResAt.blk (v := .agg #[.slice a13 (List.length o2.2.2) c13]) (o := 0) kr st.head kr) ResAll.nil)) ?_
   have st := st.tail
   have st := st.tail
   have st := st.front1
   have st := st.tail
   have st := st.front1
   have st := st.tail
   have st := st.front1
   exact ⟨a12, c12, a3, c3, a13, c13, m7, rfl, hm, st, r12, r3, r13⟩
  ·intro Ku2
   clear hrKu2
   refine W_cond y4.2 kr ?_ ?_
   ·intro hc
    rw [if_pos hc] at hr
    refine W_region ?_
    refine WO_seg 1 [(21, .pointer (some ⟨bp0, 0, none⟩))] kr kr ?_
    replace ⟨y5, hx5, hr⟩ := bindS hr
    refine WO_one rfl (One_fn 22 12 #[.pointer (some ⟨bp0, 0, none⟩)] kr rfl ?_)
    refine (testgatemake_Revision_ok st r11 hx5).mono ?_
    clear st
    rintro _ w15 ⟨a14, c14, a15, c15, m8, rfl, hle5, st, r14, r15⟩
    refine ⟨_, rfl, ?_⟩
    have hm := Mem.le_trans hm hle5
    have r11 := r11.mono hle5
    have r6 := r6.mono hle5
    have r3 := r3.mono hle5
    have st := st.front2
    refine WO_one rfl (One_store (t := 25) (x := (.tmp 5)) (y := (.tmp 22)) (v := .agg #[.slice a15 (List.length y5.2) c15]) (c' := #[.slice a15 (List.length y5.2) c15]) kr (ev (.pointer (some ⟨b4, 0, none⟩))) (ev (.agg #[.slice a15 (List.length y5.2) c15])) st kr kr ?_)
    clear st
    intro w16 st
    refine WO_end rfl ?_
    have st := st.front6
    have st := st.tail
    obtain rfl := Option.some.inj hr
    have st := st.front1.front5.front5.front5.front4.front5
    exact X_env _ kr (Ku2 _ _ ⟨a14, c14, a15, c15, m8, rfl, hm, st, r14, r15, r3⟩)
   ·intro hc
    rw [if_neg (not_true hc)] at hr
    refine W_skip ?_
    obtain rfl := Option.some.inj hr
    have st := st.front5.front5.front5.front5.front5.front5
    exact X_env _ kr (Ku2 _ _ ⟨a11, c11, a6, c6, m6, rfl, hm, st, r11, r6, r3⟩)
 intro K0_u1
 clear hrKu1
 have st := st.front3.front5.front5.front5.front5.front5
 refine W_env _ kr (W_loop (fun k1 L' w' => ∃ (s1 : Int × List (Int) × Int × (List (ByteArray × ByteArray))) (a7 : Option Addr) (c7 : Nat) (a8 : Option Addr) (c8 : Nat) (m4 : Mem), loopM (testgatelaw15_two_L1 N) k1 s1 = some out1 ∧ L' = [(0, .pointer (some ⟨bp0, 0, none⟩)), (2, .pointer (some ⟨b1, 0, none⟩)), (3, .pointer (some ⟨b2, 0, none⟩)), (4, .pointer (some ⟨b3, 0, none⟩)), (5, .pointer (some ⟨b4, 0, none⟩)), (6, .int .i64 s1.1)] ∧ m.le m4 ∧ St m4 (.blk bp0 (.cells #[.slice a7 (List.length s1.2.1) c7, .int .i64 s1.2.2.1] 28 (0, 0)) :: .blk b4 (.cells #[.slice a8 (List.length s1.2.2.2) c8] 25 (0, 0)) :: .blk b3 (.cells #[.slice a3 (List.length y1.2) c3] 25 (0, 0)) :: .blk b2 (.cells #[.slice none (List.length ([] : List (ByteArray × ByteArray))) 0] 25 (0, 0)) :: .blk b1 (.cells #[.slice none (List.length ([] : List (ByteArray × ByteArray))) 0] 25 (0, 0)) :: .room a8 (List.length s1.2.2.2) c8 74 2 :: own) w' ∧ RepS (cInt .i64) m4 a7 c7 s1.2.1 ∧ RepS (cPair cStr cStr) m4 a8 c8 s1.2.2.2 ∧ RepS (cPair cStr cStr) m4 a3 c3 y1.2) N ⟨(y2.2, y2.1.1, y2.1.2, y1.2), a4, c4, a3, c3, m2, hr, rfl, hm, st, r4, r3, r3⟩ ?_)
 clear st hr
 rintro k1 _ w10 ⟨s1, a7, c7, a8, c8, m4, hL, rfl, hm, st, r7, r8, r3⟩
 rcases k1 with _ | k1
 ·exact loopM_zero hL
 ·obtain ⟨qu1, hr, hSu1, hBu1⟩ := loopM_succ hL
  clear hL
  unfold testgatelaw15_two_L1 at hr
  refine W_seq ?_
  refine W_sr (WO_seg 2 [(13, .bool (decide (s1.1 > 0)))] kr kr ?_)
  refine WO_et rfl (W_cond (decide (s1.1 > 0)) kr ?_ ?_)
  ·intro hc
   rw [if_pos hc] at hr
   refine W_skip ?_
   refine X_then ?_
   refine W_seq ?_
   refine W_block ?_
   refine W_region ?_
   refine WO_seg 1 [(16, .pointer (some ⟨bp0, 0, none⟩))] kr kr ?_
   refine WO_one rfl (One_load_own (d := 17) (t := 25) (x := (.tmp 5)) (.agg #[.slice a8 (List.length s1.2.2.2) c8]) kr rfl (ev (.pointer (some ⟨b4, 0, none⟩))) st.tail.head kr ?_)
   replace ⟨y3, hx3, hr⟩ := bindS hr
   refine WO_one rfl (One_fn 18 11 #[.pointer (some ⟨bp0, 0, none⟩), .agg #[.slice a8 (List.length s1.2.2.2) c8]] kr rfl ?_)
   refine (testgatemake_Edit_ok st r7 r8 hx3).mono ?_
   clear st
   rintro _ w11 ⟨a9, c9, a10, c10, m5, rfl, hle3, st, r9, r10⟩
   refine ⟨_, rfl, ?_⟩
   have hm := Mem.le_trans hm hle3
   have r8 := r8.mono hle3
   have r7 := r7.mono hle3
   have r3 := r3.mono hle3
   have st := st.front2
   refine WO_one rfl (One_store (t := 25) (x := (.tmp 5)) (y := (.tmp 18)) (v := .agg #[.slice a10 (List.length y3.2) c10]) (c' := #[.slice a10 (List.length y3.2) c10]) kr (ev (.pointer (some ⟨b4, 0, none⟩))) (ev (.agg #[.slice a10 (List.length y3.2) c10])) st kr kr ?_)
   clear st
   intro w12 st
   refine WO_end rfl ?_
   have st := st.front6
   have st := st.tail
   refine X_block ?_
   refine X_then ?_
   refine W_region ?_
   refine WO_seg 3 [(6, .int .i64 (IntKind.wrap .i64 (s1.1 - 1)))] kr kr ?_
   refine WO_end rfl ?_
   obtain rfl := Option.some.inj hr
   have hL := hSu1 _ rfl
   have st := st.front1.front5.front5.front5.front4.front5
   exact X_env _ kr (X_round k1 (Nat.lt_succ_self _) ⟨(IntKind.wrap .i64 (s1.1 - 1), y3.1.1, y3.1.2, y3.2), a9, c9, a10, c10, m5, hL, rfl, hm, st, r9, r10, r3⟩)
  ·intro hc
   rw [if_neg (not_true hc)] at hr
   refine W_exit ?_
   refine X_then_exit ?_
   obtain rfl := Option.some.inj hr
   have ho := hBu1 _ rfl
   have st := st.front5.front5.front5.front5.front5.front5
   refine X_then_exit ?_
   exact X_env _ kr (K0_u1 _ _ ⟨(s1.2.1, s1.2.2.1, s1.2.2.2), a7, c7, a8, c8, m4, ho, rfl, hm, st, r7, r8, r3⟩)
def testgateref04_letter (N : Nat) (p0 : Int) : Option (Bool) :=
 (if (decide (p0 ≥ 97)) = true then (some (decide (p0 ≤ 122))) else (some false) : Option (Bool)).bind fun o1 => some o1
set_option maxHeartbeats 4000000 in
set_option maxRecDepth 100000 in
theorem testgateref04_letter_ok {N : Nat} {m : Mem} {own : List Piece} {w : World} {p0 : Int} {r : Bool} (st : St m (own) w) (hr : testgateref04_letter N p0 = some r) : Calls Tryz.prog 125 #[.int .u8 p0] w fun e w' => ∃ (m' : Mem), e = .returned (.bool r) ∧ m.le m' ∧ St m' (own) w' := by
 unfold testgateref04_letter at hr
 have hm := m.le_refl
 refine W_calls Tryz.func125 rfl Tryz.ntmps125 [(0, .int .u8 p0)] kr rfl ?_
 refine W_sr (WO_seg 1 [] kr kr ?_)
 refine WO_et rfl (W_sr ?_)
 replace ⟨o1, hr, hrK⟩ := bindS hr
 refine WO_cut (j := 7) (fun L' w' => ∃ (m1 : Mem), L' = [(2, .bool o1)] ∧ m.le m1 ∧ St m1 (own) w') ?_ ?_
 ·clear hr st
  have hr := hrK
  clear hrK
  rintro _ w1 ⟨m1, rfl, hm, st⟩
  refine WO_et rfl (W_ret ?_)
  obtain rfl := Option.some.inj hr
  refine X_ret [.tmp 2] [.bool o1] rfl (ResAll.cons (ResAt.tmp kr) ResAll.nil) ?_
  exact ⟨m1, rfl, hm, st⟩
 ·intro K
  clear hrK
  refine WO_seg 3 [(5, .bool (decide (p0 ≥ 97)))] kr kr ?_
  rcases bcases (decide (p0 ≥ 97)) with hc | hc
  ·rw [if_pos hc] at hr
   refine WO_fact (t := 5) (b := true) (decide (p0 ≥ 97)) kr hc ?_
   refine WO_seg 4 [(2, .bool (decide (p0 ≤ 122)))] kr kr ?_
   obtain rfl := Option.some.inj hr
   exact WO_env _ kr (K _ _ ⟨m, rfl, hm, st⟩)
  ·rw [if_neg (not_true hc)] at hr
   refine WO_fact (t := 5) (b := false) (decide (p0 ≥ 97)) kr hc ?_
   refine WO_seg 4 [(2, .bool false)] kr kr ?_
   obtain rfl := Option.some.inj hr
   exact WO_env _ kr (K _ _ ⟨m, rfl, hm, st⟩)
def testgateref04_inner (N : Nat) (p0 : Int) : Option (Bool) :=
 ((testgateref04_letter N p0).bind fun y1 => if y1 = true then (some true) else (if (decide (p0 ≥ 48)) = true then (if (decide (p0 ≤ 57)) = true then (some true) else (some (p0 == 95))) else (some (p0 == 95))) : Option (Bool)).bind fun o1 => some o1
set_option maxHeartbeats 4000000 in
set_option maxRecDepth 100000 in
theorem testgateref04_inner_ok {N : Nat} {m : Mem} {own : List Piece} {w : World} {p0 : Int} {r : Bool} (st : St m (own) w) (hr : testgateref04_inner N p0 = some r) : Calls Tryz.prog 126 #[.int .u8 p0] w fun e w' => ∃ (m' : Mem), e = .returned (.bool r) ∧ m.le m' ∧ St m' (own) w' := by
 unfold testgateref04_inner at hr
 have hm := m.le_refl
 refine W_calls Tryz.func126 rfl Tryz.ntmps126 [(0, .int .u8 p0)] kr rfl ?_
 refine W_sr (WO_seg 1 [] kr kr ?_)
 refine WO_et rfl (W_sr ?_)
 replace ⟨o1, hr, hrK⟩ := bindS hr
 refine WO_cut (j := 15) (fun L' w' => ∃ (m1 : Mem), L' = [(2, .bool o1)] ∧ m.le m1 ∧ St m1 (own) w') ?_ ?_
 ·clear hr st
  have hr := hrK
  clear hrK
  rintro _ w1 ⟨m1, rfl, hm, st⟩
  refine WO_et rfl (W_ret ?_)
  obtain rfl := Option.some.inj hr
  refine X_ret [.tmp 2] [.bool o1] rfl (ResAll.cons (ResAt.tmp kr) ResAll.nil) ?_
  exact ⟨m1, rfl, hm, st⟩
 ·intro K
  clear hrK
  refine WO_seg 1 [(3, .int .u8 p0)] kr kr ?_
  replace ⟨y1, hx1, hr⟩ := bindS hr
  refine WO_one rfl (One_fn 4 125 #[.int .u8 p0] kr rfl ?_)
  refine (testgateref04_letter_ok st hx1).mono ?_
  clear st
  rintro _ w2 ⟨m2, rfl, hle1, st⟩
  refine ⟨_, rfl, ?_⟩
  have hm := Mem.le_trans hm hle1
  refine WO_seg 1 [(5, .bool y1)] kr kr ?_
  rcases bcases y1 with hc | hc
  ·rw [if_pos hc] at hr
   refine WO_fact (t := 5) (b := true) y1 kr hc ?_
   refine WO_seg 12 [(2, .bool true)] kr kr ?_
   obtain rfl := Option.some.inj hr
   exact WO_env _ kr (K _ _ ⟨m2, rfl, hm, st⟩)
  ·rw [if_neg (not_true hc)] at hr
   refine WO_fact (t := 5) (b := false) y1 kr hc ?_
   refine WO_seg 3 [(8, .bool (decide (p0 ≥ 48)))] kr kr ?_
   rcases bcases (decide (p0 ≥ 48)) with hc | hc
   ·rw [if_pos hc] at hr
    refine WO_fact (t := 8) (b := true) (decide (p0 ≥ 48)) kr hc ?_
    refine WO_seg 5 [(13, .bool (decide (p0 ≤ 57)))] kr kr ?_
    rcases bcases (decide (p0 ≤ 57)) with hc | hc
    ·rw [if_pos hc] at hr
     refine WO_fact (t := 13) (b := true) (decide (p0 ≤ 57)) kr hc ?_
     refine WO_seg 4 [(2, .bool true)] kr kr ?_
     obtain rfl := Option.some.inj hr
     exact WO_env _ kr (K _ _ ⟨m2, rfl, hm, st⟩)
    ·rw [if_neg (not_true hc)] at hr
     refine WO_fact (t := 13) (b := false) (decide (p0 ≤ 57)) kr hc ?_
     refine WO_seg 4 [(2, .bool (p0 == 95))] kr kr ?_
     obtain rfl := Option.some.inj hr
     exact WO_env _ kr (K _ _ ⟨m2, rfl, hm, st⟩)
   ·rw [if_neg (not_true hc)] at hr
    refine WO_fact (t := 8) (b := false) (decide (p0 ≥ 48)) kr hc ?_
    refine WO_seg 9 [(2, .bool (p0 == 95))] kr kr ?_
    obtain rfl := Option.some.inj hr
    exact WO_env _ kr (K _ _ ⟨m2, rfl, hm, st⟩)
def testgateref04_Path_L1 (N : Nat) (p0 : ByteArray) (s1 : Int × Int × Int) : Option ((Int × Int × Int) ⊕ ((Int × Int) ⊕ (Bool))) :=
 if (decide (s1.2.2 < (ByteArray.size p0 : Int))) = true then (((idxB p0 s1.2.2).bind fun x1 => if ((x1.toNat : Int) == 47) = true then (if (s1.2.1 == 0) = true then (some (.inr (.inr (.inr (false))))) else (some (.inl (IntKind.wrap .i64 (s1.1 + 1), 0)))) else (((idxB p0 s1.2.2).bind fun x2 => (testgateref04_inner N (x2.toNat : Int)).bind fun y1 => if y1 = true then (some true) else ((idxB p0 s1.2.2).bind fun x3 => some ((x3.toNat : Int) == 46)) : Option (Bool)).bind fun o3 => if o3 = true then (some (.inl (s1.1, IntKind.wrap .i64 (s1.2.1 + 1)))) else (some (.inr (.inr (.inr (false)))))) : Option ((Int × Int) ⊕ ((Int × Int × Int) ⊕ ((Int × Int) ⊕ (Bool))))).bind fun qu2 => (match qu2 with | .inl o2 => if (decide (o2.2 > 24)) = true then (some (.inr (.inr (false)))) else (some (.inl (o2.1, o2.2, IntKind.wrap .i64 (s1.2.2 + 1)))) | .inr z => some z)) else (some (.inr (.inl (s1.1, s1.2.1))))
def testgateref04_Path (N : Nat) (p0 : ByteArray) : Option (Bool) :=
 if (decide ((ByteArray.size p0 : Int) > 80)) = true then (some false) else ((loopM (testgateref04_Path_L1 N p0) N (1, 0, 0)).bind fun out1 => (match out1 with | .inl o1 => (if (decide (o1.2 > 0)) = true then (some (decide (o1.1 ≤ 8))) else (some false) : Option (Bool)).bind fun o4 => some o4 | .inr (z) => some z))
set_option maxHeartbeats 4000000 in
set_option maxRecDepth 100000 in
theorem testgateref04_Path_ok {N : Nat} {m : Mem} {own : List Piece} {w : World} {p0 : ByteArray} {r : Bool} (st : St m (own) w) (hr : testgateref04_Path N p0 = some r) : Calls Tryz.prog 72 #[.string p0] w fun e w' => ∃ (m' : Mem), e = .returned (.bool r) ∧ m.le m' ∧ St m' (own) w' := by
 unfold testgateref04_Path at hr
 have hm := m.le_refl
 refine W_calls Tryz.func72 rfl Tryz.ntmps72 [(0, .string p0)] kr rfl ?_
 refine W_sr (WO_seg 1 [] kr kr ?_)
 refine WO_et rfl (W_sr ?_)
 refine WO_seg 2 [(3, .int .i64 1), (4, .int .i64 0)] kr kr ?_
 refine WO_et rfl (W_seq ?_)
 refine W_sr (WO_seg 3 [(8, .bool (decide ((ByteArray.size p0 : Int) > 80)))] kr kr ?_)
 refine WO_et rfl (W_cond (decide ((ByteArray.size p0 : Int) > 80)) kr ?_ ?_)
 ·intro hc
  rw [if_pos hc] at hr
  refine W_sr (WO_seg 1 [(2, .bool false)] kr kr ?_)
  refine WO_et rfl (W_ret ?_)
  refine X_then_ret ?_
  obtain rfl := Option.some.inj hr
  refine X_ret [.tmp 2] [.bool false] rfl (ResAll.cons (ResAt.tmp kr) ResAll.nil) ?_
  exact ⟨m, rfl, hm, st⟩
 ·intro hc
  rw [if_neg (not_true hc)] at hr
  refine W_skip ?_
  refine X_then ?_
  refine W_seq ?_
  refine W_sr (WO_seg 1 [(5, .int .i64 0)] kr kr ?_)
  refine WO_et rfl (W_block ?_)
  replace ⟨out1, hr, hrKu1⟩ := bindS hr
  refine W_cut (.exit 0) (fun L' w' => ∃ (o1 : Int × Int) (m1 : Mem), (.inl o1) = out1 ∧ L' = [(3, .int .i64 o1.1), (4, .int .i64 o1.2)] ∧ m.le m1 ∧ St m1 (own) w') ?_ ?_
  ·clear hr st
   rintro _ w1 ⟨o1, m1, rfl, rfl, hm, st⟩
   have hr := hrKu1
   clear hrKu1
   dsimp only at hr
   refine X_block_eq ?_
   refine X_then ?_
   refine W_sr ?_
   replace ⟨o4, hr, hrK⟩ := bindS hr
   refine WO_cut (j := 7) (fun L' w' => ∃ (m6 : Mem), L' = [(2, .bool o4)] ∧ m.le m6 ∧ St m6 (own) w') ?_ ?_
   ·clear hr st
    have hr := hrK
    clear hrK
    rintro _ w6 ⟨m6, rfl, hm, st⟩
    refine WO_et rfl (W_ret ?_)
    obtain rfl := Option.some.inj hr
    refine X_ret [.tmp 2] [.bool o4] rfl (ResAll.cons (ResAt.tmp kr) ResAll.nil) ?_
    exact ⟨m6, rfl, hm, st⟩
   ·intro K
    clear hrK
    refine WO_seg 3 [(41, .bool (decide (o1.2 > 0)))] kr kr ?_
    rcases bcases (decide (o1.2 > 0)) with hc | hc
    ·rw [if_pos hc] at hr
     refine WO_fact (t := 41) (b := true) (decide (o1.2 > 0)) kr hc ?_
     refine WO_seg 4 [(2, .bool (decide (o1.1 ≤ 8)))] kr kr ?_
     obtain rfl := Option.some.inj hr
     exact WO_env _ kr (K _ _ ⟨m1, rfl, hm, st⟩)
    ·rw [if_neg (not_true hc)] at hr
     refine WO_fact (t := 41) (b := false) (decide (o1.2 > 0)) kr hc ?_
     refine WO_seg 4 [(2, .bool false)] kr kr ?_
     obtain rfl := Option.some.inj hr
     exact WO_env _ kr (K _ _ ⟨m1, rfl, hm, st⟩)
  intro K0_u1
  refine W_env _ kr (W_loop (fun k1 L' w' => ∃ (s1 : Int × Int × Int) (m2 : Mem), loopM (testgateref04_Path_L1 N p0) k1 s1 = some out1 ∧ L' = [(0, .string p0), (3, .int .i64 s1.1), (4, .int .i64 s1.2.1), (5, .int .i64 s1.2.2)] ∧ m.le m2 ∧ St m2 (own) w') N ⟨(1, 0, 0), m, hr, rfl, hm, st⟩ ?_)
  clear st hr
  rintro k1 _ w2 ⟨s1, m2, hL, rfl, hm, st⟩
  rcases k1 with _ | k1
  ·exact loopM_zero hL
  ·obtain ⟨qu1, hr, hSu1, hBu1⟩ := loopM_succ hL
   clear hL
   unfold testgateref04_Path_L1 at hr
   refine W_seq ?_
   refine W_sr (WO_seg 4 [(12, .bool (decide (s1.2.2 < (ByteArray.size p0 : Int))))] kr kr ?_)
   refine WO_et rfl (W_cond (decide (s1.2.2 < (ByteArray.size p0 : Int))) kr ?_ ?_)
   ·intro hc
    rw [if_pos hc] at hr
    refine W_skip ?_
    refine X_then ?_
    refine W_seq ?_
    refine W_block ?_
    refine W_seq ?_
    replace ⟨qu2, hr, hrKu2⟩ := bindS hr
    refine W_cut .normal (fun L' w' => ∃ (o2 : Int × Int) (m3 : Mem), (.inl o2 : (Int × Int) ⊕ ((Int × Int × Int) ⊕ ((Int × Int) ⊕ (Bool)))) = qu2 ∧ L' = [(0, .string p0), (3, .int .i64 o2.1), (4, .int .i64 o2.2), (5, .int .i64 s1.2.2)] ∧ m.le m3 ∧ St m3 (own) w') ?_ ?_
    ·clear hr st
     rintro _ w3 ⟨o2, m3, rfl, rfl, hm, st⟩
     have hr := hrKu2
     clear hrKu2
     dsimp only at hr
     refine X_then ?_
     refine W_sr (WO_seg 2 [(38, .bool (decide (o2.2 > 24)))] kr kr ?_)
     refine WO_et rfl (W_cond (decide (o2.2 > 24)) kr ?_ ?_)
     ·intro hc
      rw [if_pos hc] at hr
      refine W_sr (WO_seg 1 [(2, .bool false)] kr kr ?_)
      refine WO_et rfl (W_ret ?_)
      refine X_block_ret ?_
      refine X_then_ret ?_
      obtain rfl := Option.some.inj hr
      have ho := hBu1 _ rfl
      subst ho
      have hr := hrKu1
      dsimp only at hr
      refine X_then_ret ?_
      refine X_block_ret ?_
      refine X_then_ret ?_
      obtain rfl := Option.some.inj hr
      refine X_ret [.tmp 2] [.bool false] rfl (ResAll.cons (ResAt.tmp kr) ResAll.nil) ?_
      exact ⟨m3, rfl, hm, st⟩
     ·intro hc
      rw [if_neg (not_true hc)] at hr
      refine W_skip ?_
      refine X_block ?_
      refine X_then ?_
      refine W_region ?_
      refine WO_seg 3 [(5, .int .i64 (IntKind.wrap .i64 (s1.2.2 + 1)))] kr kr ?_
      refine WO_end rfl ?_
      obtain rfl := Option.some.inj hr
      have hL := hSu1 _ rfl
      exact X_env _ kr (X_round k1 (Nat.lt_succ_self _) ⟨(o2.1, o2.2, IntKind.wrap .i64 (s1.2.2 + 1)), m3, hL, rfl, hm, st⟩)
    ·intro Ku2
     refine W_block ?_
     refine W_sr (WO_seg 2 [(16, .string p0), (17, .int .i64 s1.2.2)] kr kr ?_)
     replace ⟨x1, hx1, hr⟩ := bindS hr
     refine WO_one rfl (One_strIndex (d := 18) (t := 9) (x := (.tmp 16)) (y := (.tmp 17)) kr rfl (ev (.string p0)) (ev (.int .i64 s1.2.2)) kr hx1 ?_)
     refine WO_seg 2 [(15, .bool ((x1.toNat : Int) == 47))] kr kr ?_
     refine WO_et rfl (W_cond ((x1.toNat : Int) == 47) kr ?_ ?_)
     ·intro hc
      rw [if_pos hc] at hr
      refine W_seq ?_
      refine W_sr (WO_seg 2 [(21, .bool (s1.2.1 == 0))] kr kr ?_)
      refine WO_et rfl (W_cond (s1.2.1 == 0) kr ?_ ?_)
      ·intro hc
       rw [if_pos hc] at hr
       refine W_sr (WO_seg 1 [(2, .bool false)] kr kr ?_)
       refine WO_et rfl (W_ret ?_)
       refine X_then_ret ?_
       refine X_block_ret ?_
       obtain rfl := Option.some.inj hr
       have hr := hrKu2
       try dsimp only at hr
       refine X_then_ret ?_
       refine X_block_ret ?_
       refine X_then_ret ?_
       obtain rfl := Option.some.inj hr
       have ho := hBu1 _ rfl
       subst ho
       have hr := hrKu1
       dsimp only at hr
       refine X_then_ret ?_
       refine X_block_ret ?_
       refine X_then_ret ?_
       obtain rfl := Option.some.inj hr
       refine X_ret [.tmp 2] [.bool false] rfl (ResAll.cons (ResAt.tmp kr) ResAll.nil) ?_
       exact ⟨m2, rfl, hm, st⟩
      ·intro hc
       rw [if_neg (not_true hc)] at hr
       refine W_skip ?_
       refine X_then ?_
       refine W_region ?_
       refine WO_seg 4 [(3, .int .i64 (IntKind.wrap .i64 (s1.1 + 1))), (4, .int .i64 0)] kr kr ?_
       refine WO_end rfl ?_
       refine X_block ?_
       have hqu2 := Option.some.inj hr
       exact X_env _ kr (Ku2 _ _ ⟨(IntKind.wrap .i64 (s1.1 + 1), 0), m2, hqu2, rfl, hm, st⟩)
     ·intro hc
      rw [if_neg (not_true hc)] at hr
      refine W_sr ?_
      replace ⟨o3, hr, hrK⟩ := bindS hr
      refine WO_cut (j := 11) (fun L' w' => ∃ (m4 : Mem), L' = [(0, .string p0), (3, .int .i64 s1.1), (4, .int .i64 s1.2.1), (5, .int .i64 s1.2.2), (24, .bool o3)] ∧ m.le m4 ∧ St m4 (own) w') ?_ ?_
      ·clear hr st
       have hr := hrK
       clear hrK
       rintro _ w4 ⟨m4, rfl, hm, st⟩
       refine WO_et rfl (W_cond o3 kr ?_ ?_)
       ·intro hc
        rw [if_pos hc] at hr
        refine W_region ?_
        refine WO_seg 3 [(4, .int .i64 (IntKind.wrap .i64 (s1.2.1 + 1)))] kr kr ?_
        refine WO_end rfl ?_
        refine X_block ?_
        have hqu2 := Option.some.inj hr
        exact X_env _ kr (Ku2 _ _ ⟨(s1.1, IntKind.wrap .i64 (s1.2.1 + 1)), m4, hqu2, rfl, hm, st⟩)
       ·intro hc
        rw [if_neg (not_true hc)] at hr
        refine W_sr (WO_seg 1 [(2, .bool false)] kr kr ?_)
        refine WO_et rfl (W_ret ?_)
        refine X_block_ret ?_
        obtain rfl := Option.some.inj hr
        have hr := hrKu2
        try dsimp only at hr
        refine X_then_ret ?_
        refine X_block_ret ?_
        refine X_then_ret ?_
        obtain rfl := Option.some.inj hr
        have ho := hBu1 _ rfl
        subst ho
        have hr := hrKu1
        dsimp only at hr
        refine X_then_ret ?_
        refine X_block_ret ?_
        refine X_then_ret ?_
        obtain rfl := Option.some.inj hr
        refine X_ret [.tmp 2] [.bool false] rfl (ResAll.cons (ResAt.tmp kr) ResAll.nil) ?_
        exact ⟨m4, rfl, hm, st⟩
      ·intro K
       clear hrK
       refine WO_seg 2 [(25, .string p0), (26, .int .i64 s1.2.2)] kr kr ?_
       replace ⟨x2, hx2, hr⟩ := bindS hr
       refine WO_one rfl (One_strIndex (d := 27) (t := 9) (x := (.tmp 25)) (y := (.tmp 26)) kr rfl (ev (.string p0)) (ev (.int .i64 s1.2.2)) kr hx2 ?_)
       replace ⟨y1, hx3, hr⟩ := bindS hr
       refine WO_one rfl (One_fn 28 126 #[.int .u8 (x2.toNat : Int)] kr rfl ?_)
       refine (testgateref04_inner_ok st hx3).mono ?_
       clear st
       rintro _ w5 ⟨m5, rfl, hle1, st⟩
       refine ⟨_, rfl, ?_⟩
       have hm := Mem.le_trans hm hle1
       refine WO_seg 1 [(29, .bool y1)] kr kr ?_
       rcases bcases y1 with hc | hc
       ·rw [if_pos hc] at hr
        refine WO_fact (t := 29) (b := true) y1 kr hc ?_
        refine WO_seg 6 [(24, .bool true)] kr kr ?_
        obtain rfl := Option.some.inj hr
        exact WO_env _ kr (K _ _ ⟨m5, rfl, hm, st⟩)
       ·rw [if_neg (not_true hc)] at hr
        refine WO_fact (t := 29) (b := false) y1 kr hc ?_
        refine WO_seg 2 [(30, .string p0), (31, .int .i64 s1.2.2)] kr kr ?_
        replace ⟨x3, hx4, hr⟩ := bindS hr
        refine WO_one rfl (One_strIndex (d := 32) (t := 9) (x := (.tmp 30)) (y := (.tmp 31)) kr rfl (ev (.string p0)) (ev (.int .i64 s1.2.2)) kr hx4 ?_)
        refine WO_seg 3 [(24, .bool ((x3.toNat : Int) == 46))] kr kr ?_
        obtain rfl := Option.some.inj hr
        exact WO_env _ kr (K _ _ ⟨m5, rfl, hm, st⟩)
   ·intro hc
    rw [if_neg (not_true hc)] at hr
    refine W_exit ?_
    refine X_then_exit ?_
    obtain rfl := Option.some.inj hr
    have ho := hBu1 _ rfl
    refine X_then_exit ?_
    exact X_env _ kr (K0_u1 _ _ ⟨(s1.1, s1.2.1), m2, ho, rfl, hm, st⟩)
def testgateref07_Check_L1 (N : Nat) (p0 : (List (ByteArray × ByteArray))) (s1 : Int) : Option ((Int) ⊕ ((Unit) ⊕ (Int))) :=
 if (decide (s1 < (List.length p0 : Int))) = true then ((idx p0 s1).bind fun x1 => (testgateref04_Path N x1.1).bind fun y1 => if (!y1) = true then (some (.inr (.inr (6)))) else ((if (decide (s1 > 0)) = true then ((idx p0 (IntKind.wrap .i64 (s1 - 1))).bind fun x2 => some (x1.1.toList == x2.1.toList)) else (some false) : Option (Bool)).bind fun o2 => if o2 = true then (some (.inr (.inr (10)))) else ((if (decide (s1 > 0)) = true then ((idx p0 (IntKind.wrap .i64 (s1 - 1))).bind fun x3 => some (Op.bytesLess x1.1.toList x3.1.toList)) else (some false) : Option (Bool)).bind fun o3 => if o3 = true then (some (.inr (.inr (6)))) else (if (decide ((ByteArray.size x1.2 : Int) > 16384)) = true then (some (.inr (.inr (2)))) else (some (.inl (IntKind.wrap .i64 (s1 + 1)))))))) else (some (.inr (.inl ())))
def testgateref07_Check (N : Nat) (p0 : (List (ByteArray × ByteArray))) : Option (Int) :=
 if (decide ((List.length p0 : Int) > 64)) = true then (some 2) else ((loopM (testgateref07_Check_L1 N p0) N 0).bind fun out1 => (match out1 with | .inl o1 => some 0 | .inr (z) => some z))
set_option maxHeartbeats 4000000 in
set_option maxRecDepth 100000 in
theorem testgateref07_Check_ok {N : Nat} {m : Mem} {own : List Piece} {w : World} {p0 : (List (ByteArray × ByteArray))} {a1 : Option Addr} {c1 : Nat} {r : Int} (st : St m (own) w) (r1 : RepS (cPair cStr cStr) m a1 c1 p0) (hr : testgateref07_Check N p0 = some r) : Calls Tryz.prog 66 #[.agg #[.slice a1 (List.length p0) c1]] w fun e w' => ∃ (m' : Mem), e = .returned (.int .i64 r) ∧ m.le m' ∧ St m' (own) w' := by
 unfold testgateref07_Check at hr
 have hm := m.le_refl
 refine W_calls Tryz.func66 rfl Tryz.ntmps66 [(0, .agg #[.slice a1 (List.length p0) c1])] kr rfl ?_
 refine W_sr (WO_one rfl (One_box (d := 1) (e := 25) (x := (.tmp 0)) (.agg #[.slice a1 (List.length p0) c1]) kr rfl kr st ?_))
 clear st
 intro b1 m1 w1 hle1 st hb1
 have hm := Mem.le_trans hm hle1
 have r1 := r1.mono hle1
 refine WO_seg 1 [] kr kr ?_
 refine WO_et rfl (W_seq ?_)
 refine W_sr (WO_seg 1 [(5, .pointer (some ⟨b1, 0, none⟩))] kr kr ?_)
 refine WO_one rfl (One_load_row (d := 6) (t := 23) (x := (.tmp 5)) (.slice a1 (List.length p0) c1) kr rfl (ev (.pointer (some ⟨b1, 0, none⟩))) st hb1 kr ?_)
 refine WO_seg 2 [(8, .bool (decide ((List.length p0 : Int) > 64)))] kr kr ?_
 refine WO_et rfl (W_cond (decide ((List.length p0 : Int) > 64)) kr ?_ ?_)
 ·intro hc
  rw [if_pos hc] at hr
  refine W_sr (WO_seg 1 [(2, .int .i64 2)] kr kr ?_)
  refine WO_et rfl (W_ret ?_)
  refine X_then_ret ?_
  obtain rfl := Option.some.inj hr
  refine X_ret [.tmp 2] [.int .i64 2] rfl (ResAll.cons (ResAt.tmp kr) ResAll.nil) ?_
  exact ⟨m1, rfl, hm, st⟩
 ·intro hc
  rw [if_neg (not_true hc)] at hr
  refine W_skip ?_
  refine X_then ?_
  refine W_seq ?_
  refine W_sr (WO_seg 1 [(9, .pointer (some ⟨b1, 0, none⟩))] kr kr ?_)
  refine WO_one rfl (One_load_row (d := 10) (t := 23) (x := (.tmp 9)) (.slice a1 (List.length p0) c1) kr rfl (ev (.pointer (some ⟨b1, 0, none⟩))) st hb1 kr ?_)
  refine WO_seg 2 [(11, .int .i64 (List.length p0 : Int)), (12, .int .i64 0)] kr kr ?_
  refine WO_et rfl (W_block ?_)
  replace ⟨out1, hr, hrKu1⟩ := bindS hr
  refine W_cut (.exit 0) (fun L' w' => ∃ (o1 : Unit) (m2 : Mem), (.inl o1) = out1 ∧ L' = [] ∧ m.le m2 ∧ St m2 (own) w') ?_ ?_
  ·clear hr st
   rintro _ w2 ⟨o1, m2, rfl, rfl, hm, st⟩
   have hr := hrKu1
   clear hrKu1
   dsimp only at hr
   refine X_block_eq ?_
   refine X_then ?_
   refine W_sr (WO_seg 1 [(2, .int .i64 0)] kr kr ?_)
   refine WO_et rfl (W_ret ?_)
   obtain rfl := Option.some.inj hr
   refine X_ret [.tmp 2] [.int .i64 0] rfl (ResAll.cons (ResAt.tmp kr) ResAll.nil) ?_
   exact ⟨m2, rfl, hm, st⟩
  intro K0_u1
  refine W_env _ kr (W_loop (fun k1 L' w' => ∃ (s1 : Int) (m3 : Mem), loopM (testgateref07_Check_L1 N p0) k1 s1 = some out1 ∧ L' = [(1, .pointer (some ⟨b1, 0, none⟩)), (10, .slice a1 (List.length p0) c1), (11, .int .i64 (List.length p0 : Int)), (12, .int .i64 s1)] ∧ m.le m3 ∧ St m3 (own) w' ∧ MRow m3 b1 0 [.slice a1 (List.length p0) c1] ∧ RepS (cPair cStr cStr) m3 a1 c1 p0) N ⟨0, m1, hr, rfl, hm, st, hb1, r1⟩ ?_)
  clear st hr
  rintro k1 _ w3 ⟨s1, m3, hL, rfl, hm, st, hb1, r1⟩
  rcases k1 with _ | k1
  ·exact loopM_zero hL
  ·obtain ⟨qu1, hr, hSu1, hBu1⟩ := loopM_succ hL
   clear hL
   unfold testgateref07_Check_L1 at hr
   refine W_sr (WO_seg 1 [(13, .bool (decide (s1 < (List.length p0 : Int))))] kr kr ?_)
   refine WO_et rfl (W_seq ?_)
   refine W_cond (decide (s1 < (List.length p0 : Int))) kr ?_ ?_
   ·intro hc
    rw [if_pos hc] at hr
    refine W_skip ?_
    refine X_then ?_
    refine W_seq ?_
    refine W_block ?_
    refine W_sr (WO_seg 1 [(14, .int .i64 s1)] kr kr ?_)
    replace ⟨x1, hx1, hr⟩ := bindS hr
    refine WO_one rfl (One_index (d := 15) (t := 23) (e := 74) (x := (.tmp 10)) (y := (.tmp 12)) (cPair cStr cStr) kr rfl (ev (.slice a1 (List.length p0) c1)) (ev (.int .i64 s1)) kr r1 hx1 ?_)
    rintro b2 f1 cs1 ⟨_, _, rfl, rfl, rfl⟩ hq1
    refine WO_one rfl (One_load_row (d := 16) (t := 74) (x := (.tmp 15)) (.agg #[.string x1.1, .string x1.2]) kr rfl (ev (.pointer (some ⟨b2, f1, none⟩))) st hq1 kr ?_)
    refine WO_one rfl (One_alloc (d := 4) (e := 74) (.agg #[.string (⟨#[]⟩ : ByteArray), .string (⟨#[]⟩ : ByteArray)]) kr rfl kr st ?_)
    clear st
    intro b3 w4 st
    refine WO_seg 1 [(3, .int .i64 s1)] kr kr ?_
    refine WO_one rfl (One_store (t := 74) (x := (.tmp 4)) (y := (.tmp 16)) (v := .agg #[.string x1.1, .string x1.2]) (c' := #[.string x1.1, .string x1.2]) kr (ev (.pointer (some ⟨b3, 0, none⟩))) (ev (.agg #[.string x1.1, .string x1.2])) st kr kr ?_)
    clear st
    intro w5 st
    refine WO_et rfl (W_seq ?_)
    refine W_sr (WO_seg 1 [(17, .pointer (some ⟨b3, 0, none⟩))] kr kr ?_)
    refine WO_one rfl (One_load_own (d := 18) (t := 9) (x := (.tmp 17)) (.string x1.1) kr rfl (ev (.pointer (some ⟨b3, 0, none⟩))) st.head kr ?_)
    replace ⟨y1, hx2, hr⟩ := bindS hr
    refine WO_one rfl (One_fn 19 72 #[.string x1.1] kr rfl ?_)
    refine (testgateref04_Path_ok st hx2).mono ?_
    clear st
    rintro _ w6 ⟨m4, rfl, hle2, st⟩
    refine ⟨_, rfl, ?_⟩
    have hm := Mem.le_trans hm hle2
    have hb1 := hb1.mono hle2
    have r1 := r1.mono hle2
    refine WO_seg 1 [(20, .bool (!y1))] kr kr ?_
    refine WO_et rfl (W_cond (!y1) kr ?_ ?_)
    ·intro hc
     rw [if_pos hc] at hr
     refine W_sr (WO_seg 1 [(2, .int .i64 6)] kr kr ?_)
     refine WO_et rfl (W_ret ?_)
     refine X_then_ret ?_
     refine X_block_ret ?_
     refine X_then_ret ?_
     obtain rfl := Option.some.inj hr
     have ho := hBu1 _ rfl
     subst ho
     have hr := hrKu1
     dsimp only at hr
     refine X_then_ret ?_
     refine X_block_ret ?_
     refine X_then_ret ?_
     obtain rfl := Option.some.inj hr
     refine X_ret [.tmp 2] [.int .i64 6] rfl (ResAll.cons (ResAt.tmp kr) ResAll.nil) ?_
     have st := st.tail
     exact ⟨m4, rfl, hm, st⟩
    ·intro hc
     rw [if_neg (not_true hc)] at hr
     refine W_skip ?_
     refine X_then ?_
     refine W_seq ?_
     refine W_seq ?_
     replace ⟨o2, hr, hrK⟩ := bindS hr
     refine W_cut .normal (fun L' w' => ∃ (m5 : Mem), L' = [(1, .pointer (some ⟨b1, 0, none⟩)), (3, .int .i64 s1), (4, .pointer (some ⟨b3, 0, none⟩)), (10, .slice a1 (List.length p0) c1), (11, .int .i64 (List.length p0 : Int)), (12, .int .i64 s1), (34, .bool o2)] ∧ m.le m5 ∧ St m5 (.blk b3 (.cells #[.string x1.1, .string x1.2] 74 (0, 0)) :: own) w' ∧ MRow m5 b1 0 [.slice a1 (List.length p0) c1] ∧ RepS (cPair cStr cStr) m5 a1 c1 p0) ?_ ?_
     ·clear hr st
      have hr := hrK
      clear hrK
      rintro _ w7 ⟨m5, rfl, hm, st, hb1, r1⟩
      refine X_then ?_
      refine W_cond o2 kr ?_ ?_
      ·intro hc
       rw [if_pos hc] at hr
       refine W_sr (WO_seg 1 [(2, .int .i64 10)] kr kr ?_)
       refine WO_et rfl (W_ret ?_)
       refine X_then_ret ?_
       refine X_block_ret ?_
       refine X_then_ret ?_
       obtain rfl := Option.some.inj hr
       have ho := hBu1 _ rfl
       subst ho
       have hr := hrKu1
       dsimp only at hr
       refine X_then_ret ?_
       refine X_block_ret ?_
       refine X_then_ret ?_
       obtain rfl := Option.some.inj hr
       refine X_ret [.tmp 2] [.int .i64 10] rfl (ResAll.cons (ResAt.tmp kr) ResAll.nil) ?_
       have st := st.tail
       exact ⟨m5, rfl, hm, st⟩
      ·intro hc
       rw [if_neg (not_true hc)] at hr
       refine W_skip ?_
       refine X_then ?_
       refine W_seq ?_
       refine W_seq ?_
       replace ⟨o3, hr, hrK⟩ := bindS hr
       refine W_cut .normal (fun L' w' => ∃ (m6 : Mem), L' = [(1, .pointer (some ⟨b1, 0, none⟩)), (4, .pointer (some ⟨b3, 0, none⟩)), (10, .slice a1 (List.length p0) c1), (11, .int .i64 (List.length p0 : Int)), (12, .int .i64 s1), (48, .bool o3)] ∧ m.le m6 ∧ St m6 (.blk b3 (.cells #[.string x1.1, .string x1.2] 74 (0, 0)) :: own) w' ∧ MRow m6 b1 0 [.slice a1 (List.length p0) c1] ∧ RepS (cPair cStr cStr) m6 a1 c1 p0) ?_ ?_
       ·clear hr st
        have hr := hrK
        clear hrK
        rintro _ w9 ⟨m6, rfl, hm, st, hb1, r1⟩
        refine X_then ?_
        refine W_cond o3 kr ?_ ?_
        ·intro hc
         rw [if_pos hc] at hr
         refine W_sr (WO_seg 1 [(2, .int .i64 6)] kr kr ?_)
         refine WO_et rfl (W_ret ?_)
         refine X_then_ret ?_
         refine X_block_ret ?_
         refine X_then_ret ?_
         obtain rfl := Option.some.inj hr
         have ho := hBu1 _ rfl
         subst ho
         have hr := hrKu1
         dsimp only at hr
         refine X_then_ret ?_
         refine X_block_ret ?_
         refine X_then_ret ?_
         obtain rfl := Option.some.inj hr
         refine X_ret [.tmp 2] [.int .i64 6] rfl (ResAll.cons (ResAt.tmp kr) ResAll.nil) ?_
         have st := st.tail
         exact ⟨m6, rfl, hm, st⟩
        ·intro hc
         rw [if_neg (not_true hc)] at hr
         refine W_skip ?_
         refine X_then ?_
         refine W_sr (WO_seg 1 [(49, .pointer (some ⟨b3, 1, none⟩))] kr kr ?_)
         refine WO_one rfl (One_load_own (d := 50) (t := 9) (x := (.tmp 49)) (.string x1.2) kr rfl (ev (.pointer (some ⟨b3, 1, none⟩))) st.head kr ?_)
         refine WO_seg 2 [(52, .bool (decide ((ByteArray.size x1.2 : Int) > 16384)))] kr kr ?_
         refine WO_et rfl (W_cond (decide ((ByteArray.size x1.2 : Int) > 16384)) kr ?_ ?_)
         ·intro hc
          rw [if_pos hc] at hr
          refine W_sr (WO_seg 1 [(2, .int .i64 2)] kr kr ?_)
          refine WO_et rfl (W_ret ?_)
          refine X_block_ret ?_
          refine X_then_ret ?_
          obtain rfl := Option.some.inj hr
          have ho := hBu1 _ rfl
          subst ho
          have hr := hrKu1
          dsimp only at hr
          refine X_then_ret ?_
          refine X_block_ret ?_
          refine X_then_ret ?_
          obtain rfl := Option.some.inj hr
          refine X_ret [.tmp 2] [.int .i64 2] rfl (ResAll.cons (ResAt.tmp kr) ResAll.nil) ?_
          have st := st.tail
          exact ⟨m6, rfl, hm, st⟩
         ·intro hc
          rw [if_neg (not_true hc)] at hr
          refine W_skip ?_
          refine X_block ?_
          refine X_then ?_
          refine W_region ?_
          refine WO_seg 2 [(12, .int .i64 (IntKind.wrap .i64 (s1 + 1)))] kr kr ?_
          refine WO_end rfl ?_
          obtain rfl := Option.some.inj hr
          have hL := hSu1 _ rfl
          have st := st.tail
          exact X_env _ kr (X_round k1 (Nat.lt_succ_self _) ⟨IntKind.wrap .i64 (s1 + 1), m6, hL, rfl, hm, st, hb1, r1⟩)
       ·intro K
        clear hrK
        refine W_draw [(14, fun w' => Inv m5 w' ∧ Piece.holds m5 w' (.blk b3 (.cells #[.string x1.1, .string x1.2] 74 (0, 0))) ∧ True)] kr st ?_
        clear st
        intro w10 _ st
        have hmS2 := m5.le_refl
        refine ⟨⟨.inr ⟨Inv.anti st.inv hmS2, Piece.holds_anti st.head hmS2, trivial⟩, trivial⟩, ?_⟩
        refine WA_pure 0 35 (.int .i64 s1) kr rfl kr (.head _) (QP_then (QP_then (QP_block (QP_then (QP_then (QP_block (QP_then QP_body))))))) ?_
        refine WA_pure 1 36 (.bool (decide (s1 > 0))) kr rfl kr (.head _) (QP_then (QP_then (QP_block (QP_then (QP_then (QP_block (QP_then QP_body))))))) ?_
        refine WA_pure 2 37 (.bool (decide (s1 > 0))) kr rfl kr (.head _) (QP_then (QP_then (QP_block (QP_then (QP_then (QP_block (QP_then QP_body))))))) ?_
        rcases bcases (decide (s1 > 0)) with hc | hc
        ·rw [if_pos hc] at hr
         refine WA_fact (t := 37) (b := true) (decide (s1 > 0)) kr hc ?_
         refine WA_pure 3 38 (.pointer (some ⟨b3, 0, none⟩)) kr rfl kr (.head _) (QP_then (QP_then (QP_block (QP_then (QP_then (QP_block (QP_then QP_body))))))) ?_
         refine WA_load_own (t := 9) (x := (.tmp 38)) 4 39 (.string x1.1) kr rfl kr (.head _) (QP_then (QP_then (QP_block (QP_then (QP_then (QP_block (QP_then QP_body))))))) (fun _ h => h.2.1) (ev (.pointer (some ⟨b3, 0, none⟩))) kr ?_
         refine WA_pure 5 40 (.pointer (some ⟨b1, 0, none⟩)) kr rfl kr (.head _) (QP_then (QP_then (QP_block (QP_then (QP_then (QP_block (QP_then QP_body))))))) ?_
         refine WA_load_row (t := 23) (x := (.tmp 40)) 6 41 (.slice a1 (List.length p0) c1) kr rfl kr (.head _) (QP_then (QP_then (QP_block (QP_then (QP_then (QP_block (QP_then QP_body))))))) (fun _ h => h.1) (ev (.pointer (some ⟨b1, 0, none⟩))) hb1 kr ?_
         refine WA_pure 7 42 (.int .i64 s1) kr rfl kr (.head _) (QP_then (QP_then (QP_block (QP_then (QP_then (QP_block (QP_then QP_body))))))) ?_
         refine WA_pure 8 43 (.int .i64 (IntKind.wrap .i64 (s1 - 1))) kr rfl kr (.head _) (QP_then (QP_then (QP_block (QP_then (QP_then (QP_block (QP_then QP_body))))))) ?_
         replace ⟨x3, hx4, hr⟩ := bindS hr
         refine WA_index (t := 23) (e := 74) (x := (.tmp 41)) (y := (.tmp 43)) 9 44 (cPair cStr cStr) kr rfl kr (.head _) (QP_then (QP_then (QP_block (QP_then (QP_then (QP_block (QP_then QP_body))))))) (ev (.slice a1 (List.length p0) c1)) (ev (.int .i64 (IntKind.wrap .i64 (s1 - 1)))) kr r1 hx4 ?_
         rintro b5 f3 cs3 ⟨_, _, rfl, rfl, rfl⟩ hq3
         refine WA_pure 10 45 (.pointer (some ⟨b5, f3, none⟩)) kr rfl kr (.head _) (QP_then (QP_then (QP_block (QP_then (QP_then (QP_block (QP_then QP_body))))))) ?_
         refine WA_load_row (t := 9) (x := (.tmp 45)) 11 46 (.string x3.1) kr rfl kr (.head _) (QP_then (QP_then (QP_block (QP_then (QP_then (QP_block (QP_then QP_body))))))) (fun _ h => h.1) (ev (.pointer (some ⟨b5, f3, none⟩))) hq3 kr ?_
         refine WA_pure 12 47 (.bool (Op.bytesLess x1.1.toList x3.1.toList)) kr rfl kr (.head _) (QP_then (QP_then (QP_block (QP_then (QP_then (QP_block (QP_then QP_body))))))) ?_
         refine WA_pure 13 48 (.bool (Op.bytesLess x1.1.toList x3.1.toList)) kr rfl kr (.head _) (QP_then (QP_then (QP_block (QP_then (QP_then (QP_block (QP_then QP_body))))))) ?_
         obtain rfl := Option.some.inj hr
         exact WA_done kr (X_env _ kr (K _ _ ⟨m5, rfl, hm, st, hb1, r1⟩))
        ·rw [if_neg (not_true hc)] at hr
         refine WA_fact (t := 37) (b := false) (decide (s1 > 0)) kr hc ?_
         refine WA_not 3 38 kr rfl kr (.head _) (QP_then (QP_then (QP_block (QP_then (QP_then (QP_block (QP_then QP_body))))))) ?_
         refine WA_not 4 39 kr rfl kr (.head _) (QP_then (QP_then (QP_block (QP_then (QP_then (QP_block (QP_then QP_body))))))) ?_
         refine WA_not 5 40 kr rfl kr (.head _) (QP_then (QP_then (QP_block (QP_then (QP_then (QP_block (QP_then QP_body))))))) ?_
         refine WA_not 6 41 kr rfl kr (.head _) (QP_then (QP_then (QP_block (QP_then (QP_then (QP_block (QP_then QP_body))))))) ?_
         refine WA_not 7 42 kr rfl kr (.head _) (QP_then (QP_then (QP_block (QP_then (QP_then (QP_block (QP_then QP_body))))))) ?_
         refine WA_not 8 43 kr rfl kr (.head _) (QP_then (QP_then (QP_block (QP_then (QP_then (QP_block (QP_then QP_body))))))) ?_
         refine WA_not 9 44 kr rfl kr (.head _) (QP_then (QP_then (QP_block (QP_then (QP_then (QP_block (QP_then QP_body))))))) ?_
         refine WA_not 10 45 kr rfl kr (.head _) (QP_then (QP_then (QP_block (QP_then (QP_then (QP_block (QP_then QP_body))))))) ?_
         refine WA_not 11 46 kr rfl kr (.head _) (QP_then (QP_then (QP_block (QP_then (QP_then (QP_block (QP_then QP_body))))))) ?_
         refine WA_not 12 47 kr rfl kr (.head _) (QP_then (QP_then (QP_block (QP_then (QP_then (QP_block (QP_then QP_body))))))) ?_
         refine WA_pure 13 48 (.bool false) kr rfl kr (.head _) (QP_then (QP_then (QP_block (QP_then (QP_then (QP_block (QP_then QP_body))))))) ?_
         obtain rfl := Option.some.inj hr
         exact WA_done kr (X_env _ kr (K _ _ ⟨m5, rfl, hm, st, hb1, r1⟩))
     ·intro K
      clear hrK
      refine W_draw [(14, fun w' => Inv m4 w' ∧ Piece.holds m4 w' (.blk b3 (.cells #[.string x1.1, .string x1.2] 74 (0, 0))) ∧ True)] kr st ?_
      clear st
      intro w8 _ st
      have hmS1 := m4.le_refl
      refine ⟨⟨.inr ⟨Inv.anti st.inv hmS1, Piece.holds_anti st.head hmS1, trivial⟩, trivial⟩, ?_⟩
      refine WA_pure 0 21 (.int .i64 s1) kr rfl kr (.head _) (QP_then (QP_then (QP_block (QP_then (QP_then (QP_block (QP_then QP_body))))))) ?_
      refine WA_pure 1 22 (.bool (decide (s1 > 0))) kr rfl kr (.head _) (QP_then (QP_then (QP_block (QP_then (QP_then (QP_block (QP_then QP_body))))))) ?_
      refine WA_pure 2 23 (.bool (decide (s1 > 0))) kr rfl kr (.head _) (QP_then (QP_then (QP_block (QP_then (QP_then (QP_block (QP_then QP_body))))))) ?_
      rcases bcases (decide (s1 > 0)) with hc | hc
      ·rw [if_pos hc] at hr
       refine WA_fact (t := 23) (b := true) (decide (s1 > 0)) kr hc ?_
       refine WA_pure 3 24 (.pointer (some ⟨b3, 0, none⟩)) kr rfl kr (.head _) (QP_then (QP_then (QP_block (QP_then (QP_then (QP_block (QP_then QP_body))))))) ?_
       refine WA_load_own (t := 9) (x := (.tmp 24)) 4 25 (.string x1.1) kr rfl kr (.head _) (QP_then (QP_then (QP_block (QP_then (QP_then (QP_block (QP_then QP_body))))))) (fun _ h => h.2.1) (ev (.pointer (some ⟨b3, 0, none⟩))) kr ?_
       refine WA_pure 5 26 (.pointer (some ⟨b1, 0, none⟩)) kr rfl kr (.head _) (QP_then (QP_then (QP_block (QP_then (QP_then (QP_block (QP_then QP_body))))))) ?_
       refine WA_load_row (t := 23) (x := (.tmp 26)) 6 27 (.slice a1 (List.length p0) c1) kr rfl kr (.head _) (QP_then (QP_then (QP_block (QP_then (QP_then (QP_block (QP_then QP_body))))))) (fun _ h => h.1) (ev (.pointer (some ⟨b1, 0, none⟩))) hb1 kr ?_
       refine WA_pure 7 28 (.int .i64 s1) kr rfl kr (.head _) (QP_then (QP_then (QP_block (QP_then (QP_then (QP_block (QP_then QP_body))))))) ?_
       refine WA_pure 8 29 (.int .i64 (IntKind.wrap .i64 (s1 - 1))) kr rfl kr (.head _) (QP_then (QP_then (QP_block (QP_then (QP_then (QP_block (QP_then QP_body))))))) ?_
       replace ⟨x2, hx3, hr⟩ := bindS hr
       refine WA_index (t := 23) (e := 74) (x := (.tmp 27)) (y := (.tmp 29)) 9 30 (cPair cStr cStr) kr rfl kr (.head _) (QP_then (QP_then (QP_block (QP_then (QP_then (QP_block (QP_then QP_body))))))) (ev (.slice a1 (List.length p0) c1)) (ev (.int .i64 (IntKind.wrap .i64 (s1 - 1)))) kr r1 hx3 ?_
       rintro b4 f2 cs2 ⟨_, _, rfl, rfl, rfl⟩ hq2
       refine WA_pure 10 31 (.pointer (some ⟨b4, f2, none⟩)) kr rfl kr (.head _) (QP_then (QP_then (QP_block (QP_then (QP_then (QP_block (QP_then QP_body))))))) ?_
       refine WA_load_row (t := 9) (x := (.tmp 31)) 11 32 (.string x2.1) kr rfl kr (.head _) (QP_then (QP_then (QP_block (QP_then (QP_then (QP_block (QP_then QP_body))))))) (fun _ h => h.1) (ev (.pointer (some ⟨b4, f2, none⟩))) hq2 kr ?_
       refine WA_pure 12 33 (.bool (x1.1.toList == x2.1.toList)) kr rfl kr (.head _) (QP_then (QP_then (QP_block (QP_then (QP_then (QP_block (QP_then QP_body))))))) ?_
       refine WA_pure 13 34 (.bool (x1.1.toList == x2.1.toList)) kr rfl kr (.head _) (QP_then (QP_then (QP_block (QP_then (QP_then (QP_block (QP_then QP_body))))))) ?_
       obtain rfl := Option.some.inj hr
       exact WA_done kr (X_env _ kr (K _ _ ⟨m4, rfl, hm, st, hb1, r1⟩))
      ·rw [if_neg (not_true hc)] at hr
       refine WA_fact (t := 23) (b := false) (decide (s1 > 0)) kr hc ?_
       refine WA_not 3 24 kr rfl kr (.head _) (QP_then (QP_then (QP_block (QP_then (QP_then (QP_block (QP_then QP_body))))))) ?_
       refine WA_not 4 25 kr rfl kr (.head _) (QP_then (QP_then (QP_block (QP_then (QP_then (QP_block (QP_then QP_body))))))) ?_
       refine WA_not 5 26 kr rfl kr (.head _) (QP_then (QP_then (QP_block (QP_then (QP_then (QP_block (QP_then QP_body))))))) ?_
       refine WA_not 6 27 kr rfl kr (.head _) (QP_then (QP_then (QP_block (QP_then (QP_then (QP_block (QP_then QP_body))))))) ?_
       refine WA_not 7 28 kr rfl kr (.head _) (QP_then (QP_then (QP_block (QP_then (QP_then (QP_block (QP_then QP_body))))))) ?_
       refine WA_not 8 29 kr rfl kr (.head _) (QP_then (QP_then (QP_block (QP_then (QP_then (QP_block (QP_then QP_body))))))) ?_
       refine WA_not 9 30 kr rfl kr (.head _) (QP_then (QP_then (QP_block (QP_then (QP_then (QP_block (QP_then QP_body))))))) ?_
       refine WA_not 10 31 kr rfl kr (.head _) (QP_then (QP_then (QP_block (QP_then (QP_then (QP_block (QP_then QP_body))))))) ?_
       refine WA_not 11 32 kr rfl kr (.head _) (QP_then (QP_then (QP_block (QP_then (QP_then (QP_block (QP_then QP_body))))))) ?_
       refine WA_not 12 33 kr rfl kr (.head _) (QP_then (QP_then (QP_block (QP_then (QP_then (QP_block (QP_then QP_body))))))) ?_
       refine WA_pure 13 34 (.bool false) kr rfl kr (.head _) (QP_then (QP_then (QP_block (QP_then (QP_then (QP_block (QP_then QP_body))))))) ?_
       obtain rfl := Option.some.inj hr
       exact WA_done kr (X_env _ kr (K _ _ ⟨m4, rfl, hm, st, hb1, r1⟩))
   ·intro hc
    rw [if_neg (not_true hc)] at hr
    refine W_exit ?_
    refine X_then_exit ?_
    obtain rfl := Option.some.inj hr
    have ho := hBu1 _ rfl
    refine X_then_exit ?_
    exact X_env _ kr (K0_u1 _ _ ⟨(), m3, ho, rfl, hm, st⟩)
def testgateref07_Find_L1 (N : Nat) (p0 : (List (ByteArray × ByteArray))) (p1 : ByteArray) (s1 : Int) : Option ((Int) ⊕ ((Unit) ⊕ (ByteArray × Bool))) :=
 if (decide (s1 < (List.length p0 : Int))) = true then ((idx p0 s1).bind fun x1 => if (x1.1.toList == p1.toList) = true then (some (.inr (.inr ((x1.2, true))))) else (some (.inl (IntKind.wrap .i64 (s1 + 1))))) else (some (.inr (.inl ())))
def testgateref07_Find (N : Nat) (p0 : (List (ByteArray × ByteArray))) (p1 : ByteArray) : Option (ByteArray × Bool) :=
 (testgateref07_Check N p0).bind fun y1 => if (y1 != 0) = true then (some ((⟨#[]⟩ : ByteArray), false)) else ((loopM (testgateref07_Find_L1 N p0 p1) N 0).bind fun out1 => (match out1 with | .inl o1 => some ((⟨#[]⟩ : ByteArray), false) | .inr (z) => some z))
set_option maxHeartbeats 4000000 in
set_option maxRecDepth 100000 in
theorem testgateref07_Find_ok {N : Nat} {m : Mem} {own : List Piece} {w : World} {p0 : (List (ByteArray × ByteArray))} {p1 : ByteArray} {a1 : Option Addr} {c1 : Nat} {r : ByteArray × Bool} (st : St m (own) w) (r1 : RepS (cPair cStr cStr) m a1 c1 p0) (hr : testgateref07_Find N p0 p1 = some r) : Calls Tryz.prog 82 #[.agg #[.slice a1 (List.length p0) c1], .string p1] w fun e w' => ∃ (m' : Mem), e = .returned (.tuple #[.string r.1, .bool r.2]) ∧ m.le m' ∧ St m' (own) w' := by
 unfold testgateref07_Find at hr
 have hm := m.le_refl
 refine W_calls Tryz.func82 rfl Tryz.ntmps82 [(0, .agg #[.slice a1 (List.length p0) c1]), (1, .string p1)] kr rfl ?_
 refine W_sr (WO_one rfl (One_box (d := 2) (e := 25) (x := (.tmp 0)) (.agg #[.slice a1 (List.length p0) c1]) kr rfl kr st ?_))
 clear st
 intro b1 m1 w1 hle1 st hb1
 have hm := Mem.le_trans hm hle1
 have r1 := r1.mono hle1
 refine WO_seg 2 [] kr kr ?_
 refine WO_et rfl (W_seq ?_)
 refine W_sr (WO_one rfl (One_load_row (d := 8) (t := 25) (x := (.tmp 2)) (.agg #[.slice a1 (List.length p0) c1]) kr rfl (ev (.pointer (some ⟨b1, 0, none⟩))) st hb1 kr ?_))
 replace ⟨y1, hx1, hr⟩ := bindS hr
 refine WO_one rfl (One_fn 9 66 #[.agg #[.slice a1 (List.length p0) c1]] kr rfl ?_)
 refine (testgateref07_Check_ok st r1 hx1).mono ?_
 clear st
 rintro _ w2 ⟨m2, rfl, hle2, st⟩
 refine ⟨_, rfl, ?_⟩
 have hm := Mem.le_trans hm hle2
 have hb1 := hb1.mono hle2
 have r1 := r1.mono hle2
 refine WO_seg 1 [(10, .bool (y1 != 0))] kr kr ?_
 refine WO_et rfl (W_cond (y1 != 0) kr ?_ ?_)
 ·intro hc
  rw [if_pos hc] at hr
  refine W_sr (WO_seg 2 [(4, .string (⟨#[]⟩ : ByteArray)), (5, .bool false)] kr kr ?_)
  refine WO_et rfl (W_ret ?_)
  refine X_then_ret ?_
  obtain rfl := Option.some.inj hr
  refine X_ret [.tmp 4, .tmp 5] [.string (⟨#[]⟩ : ByteArray), .bool false] rfl (ResAll.cons (ResAt.tmp kr) (ResAll.cons (ResAt.tmp kr) ResAll.nil)) ?_
  exact ⟨m2, rfl, hm, st⟩
 ·intro hc
  rw [if_neg (not_true hc)] at hr
  refine W_skip ?_
  refine X_then ?_
  refine W_seq ?_
  refine W_sr (WO_seg 1 [(11, .pointer (some ⟨b1, 0, none⟩))] kr kr ?_)
  refine WO_one rfl (One_load_row (d := 12) (t := 23) (x := (.tmp 11)) (.slice a1 (List.length p0) c1) kr rfl (ev (.pointer (some ⟨b1, 0, none⟩))) st hb1 kr ?_)
  refine WO_seg 2 [(13, .int .i64 (List.length p0 : Int)), (14, .int .i64 0)] kr kr ?_
  refine WO_et rfl (W_block ?_)
  replace ⟨out1, hr, hrKu1⟩ := bindS hr
  refine W_cut (.exit 0) (fun L' w' => ∃ (o1 : Unit) (m3 : Mem), (.inl o1) = out1 ∧ L' = [] ∧ m.le m3 ∧ St m3 (own) w') ?_ ?_
  ·clear hr st
   rintro _ w3 ⟨o1, m3, rfl, rfl, hm, st⟩
   have hr := hrKu1
   clear hrKu1
   dsimp only at hr
   refine X_block_eq ?_
   refine X_then ?_
   refine W_sr (WO_seg 2 [(4, .string (⟨#[]⟩ : ByteArray)), (5, .bool false)] kr kr ?_)
   refine WO_et rfl (W_ret ?_)
   obtain rfl := Option.some.inj hr
   refine X_ret [.tmp 4, .tmp 5] [.string (⟨#[]⟩ : ByteArray), .bool false] rfl (ResAll.cons (ResAt.tmp kr) (ResAll.cons (ResAt.tmp kr) ResAll.nil)) ?_
   exact ⟨m3, rfl, hm, st⟩
  intro K0_u1
  refine W_env _ kr (W_loop (fun k1 L' w' => ∃ (s1 : Int) (m4 : Mem), loopM (testgateref07_Find_L1 N p0 p1) k1 s1 = some out1 ∧ L' = [(1, .string p1), (12, .slice a1 (List.length p0) c1), (13, .int .i64 (List.length p0 : Int)), (14, .int .i64 s1)] ∧ m.le m4 ∧ St m4 (own) w' ∧ RepS (cPair cStr cStr) m4 a1 c1 p0) N ⟨0, m2, hr, rfl, hm, st, r1⟩ ?_)
  clear st hr
  rintro k1 _ w4 ⟨s1, m4, hL, rfl, hm, st, r1⟩
  rcases k1 with _ | k1
  ·exact loopM_zero hL
  ·obtain ⟨qu1, hr, hSu1, hBu1⟩ := loopM_succ hL
   clear hL
   unfold testgateref07_Find_L1 at hr
   refine W_sr (WO_seg 1 [(15, .bool (decide (s1 < (List.length p0 : Int))))] kr kr ?_)
   refine WO_et rfl (W_seq ?_)
   refine W_cond (decide (s1 < (List.length p0 : Int))) kr ?_ ?_
   ·intro hc
    rw [if_pos hc] at hr
    refine W_skip ?_
    refine X_then ?_
    refine W_seq ?_
    refine W_block ?_
    refine W_sr ?_
    replace ⟨x1, hx2, hr⟩ := bindS hr
    refine WO_one rfl (One_index (d := 16) (t := 23) (e := 74) (x := (.tmp 12)) (y := (.tmp 14)) (cPair cStr cStr) kr rfl (ev (.slice a1 (List.length p0) c1)) (ev (.int .i64 s1)) kr r1 hx2 ?_)
    rintro b2 f1 cs1 ⟨_, _, rfl, rfl, rfl⟩ hq1
    refine WO_one rfl (One_load_row (d := 17) (t := 74) (x := (.tmp 16)) (.agg #[.string x1.1, .string x1.2]) kr rfl (ev (.pointer (some ⟨b2, f1, none⟩))) st hq1 kr ?_)
    refine WO_one rfl (One_alloc (d := 7) (e := 74) (.agg #[.string (⟨#[]⟩ : ByteArray), .string (⟨#[]⟩ : ByteArray)]) kr rfl kr st ?_)
    clear st
    intro b3 w5 st
    refine WO_one rfl (One_store (t := 74) (x := (.tmp 7)) (y := (.tmp 17)) (v := .agg #[.string x1.1, .string x1.2]) (c' := #[.string x1.1, .string x1.2]) kr (ev (.pointer (some ⟨b3, 0, none⟩))) (ev (.agg #[.string x1.1, .string x1.2])) st kr kr ?_)
    clear st
    intro w6 st
    refine WO_et rfl (W_sr ?_)
    refine WO_seg 1 [(18, .pointer (some ⟨b3, 0, none⟩))] kr kr ?_
    refine WO_one rfl (One_load_own (d := 19) (t := 9) (x := (.tmp 18)) (.string x1.1) kr rfl (ev (.pointer (some ⟨b3, 0, none⟩))) st.head kr ?_)
    refine WO_seg 2 [(21, .bool (x1.1.toList == p1.toList))] kr kr ?_
    refine WO_et rfl (W_cond (x1.1.toList == p1.toList) kr ?_ ?_)
    ·intro hc
     rw [if_pos hc] at hr
     refine W_sr (WO_seg 1 [(22, .pointer (some ⟨b3, 1, none⟩))] kr kr ?_)
     refine WO_one rfl (One_load_own (d := 23) (t := 9) (x := (.tmp 22)) (.string x1.2) kr rfl (ev (.pointer (some ⟨b3, 1, none⟩))) st.head kr ?_)
     refine WO_seg 2 [(4, .string x1.2), (5, .bool true)] kr kr ?_
     refine WO_et rfl (W_ret ?_)
     refine X_block_ret ?_
     refine X_then_ret ?_
     obtain rfl := Option.some.inj hr
     have ho := hBu1 _ rfl
     subst ho
     have hr := hrKu1
     dsimp only at hr
     refine X_then_ret ?_
     refine X_block_ret ?_
     refine X_then_ret ?_
     obtain rfl := Option.some.inj hr
     refine X_ret [.tmp 4, .tmp 5] [.string x1.2, .bool true] rfl (ResAll.cons (ResAt.tmp kr) (ResAll.cons (ResAt.tmp kr) ResAll.nil)) ?_
     have st := st.tail
     exact ⟨m4, rfl, hm, st⟩
    ·intro hc
     rw [if_neg (not_true hc)] at hr
     refine W_skip ?_
     refine X_block ?_
     refine X_then ?_
     refine W_region ?_
     refine WO_seg 2 [(14, .int .i64 (IntKind.wrap .i64 (s1 + 1)))] kr kr ?_
     refine WO_end rfl ?_
     obtain rfl := Option.some.inj hr
     have hL := hSu1 _ rfl
     have st := st.tail
     exact X_env _ kr (X_round k1 (Nat.lt_succ_self _) ⟨IntKind.wrap .i64 (s1 + 1), m4, hL, rfl, hm, st, r1⟩)
   ·intro hc
    rw [if_neg (not_true hc)] at hr
    refine W_exit ?_
    refine X_then_exit ?_
    obtain rfl := Option.some.inj hr
    have ho := hBu1 _ rfl
    refine X_then_exit ?_
    exact X_env _ kr (K0_u1 _ _ ⟨(), m4, ho, rfl, hm, st⟩)
def testgateref15_before (N : Nat) (p0 : Int × ByteArray × ByteArray × ByteArray) (p1 : Int × ByteArray × ByteArray × ByteArray) : Option (Bool) :=
 (if (Op.bytesLess p0.2.1.toList p1.2.1.toList) = true then (some true) else (if (p0.2.1.toList == p1.2.1.toList) = true then (some (decide (p0.1 < p1.1))) else (some false)) : Option (Bool)).bind fun o1 => some o1
set_option maxHeartbeats 4000000 in
set_option maxRecDepth 100000 in
theorem testgateref15_before_ok {N : Nat} {m : Mem} {own : List Piece} {w : World} {p0 : Int × ByteArray × ByteArray × ByteArray} {p1 : Int × ByteArray × ByteArray × ByteArray} {r : Bool} (st : St m (own) w) (hr : testgateref15_before N p0 p1 = some r) : Calls Tryz.prog 135 #[.agg #[.int .i64 p0.1, .string p0.2.1, .string p0.2.2.1, .string p0.2.2.2], .agg #[.int .i64 p1.1, .string p1.2.1, .string p1.2.2.1, .string p1.2.2.2]] w fun e w' => ∃ (m' : Mem), e = .returned (.bool r) ∧ m.le m' ∧ St m' (own) w' := by
 unfold testgateref15_before at hr
 have hm := m.le_refl
 refine W_calls Tryz.func135 rfl Tryz.ntmps135 [(0, .agg #[.int .i64 p0.1, .string p0.2.1, .string p0.2.2.1, .string p0.2.2.2]), (1, .agg #[.int .i64 p1.1, .string p1.2.1, .string p1.2.2.1, .string p1.2.2.2])] kr rfl ?_
 refine W_sr (WO_one rfl (One_box (d := 2) (e := 72) (x := (.tmp 0)) (.agg #[.int .i64 p0.1, .string p0.2.1, .string p0.2.2.1, .string p0.2.2.2]) kr rfl kr st ?_))
 clear st
 intro b1 m1 w1 hle1 st hb1
 have hm := Mem.le_trans hm hle1
 refine WO_one rfl (One_box (d := 3) (e := 72) (x := (.tmp 1)) (.agg #[.int .i64 p1.1, .string p1.2.1, .string p1.2.2.1, .string p1.2.2.2]) kr rfl kr st ?_)
 clear st
 intro b2 m2 w2 hle2 st hb2
 have hm := Mem.le_trans hm hle2
 have hb1 := hb1.mono hle2
 refine WO_seg 1 [] kr kr ?_
 refine WO_et rfl (W_sr ?_)
 replace ⟨o1, hr, hrK⟩ := bindS hr
 refine WO_cut (j := 20) (fun L' w' => ∃ (m3 : Mem), L' = [(4, .bool o1)] ∧ m.le m3 ∧ St m3 (own) w') ?_ ?_
 ·clear hr st
  have hr := hrK
  clear hrK
  rintro _ w3 ⟨m3, rfl, hm, st⟩
  refine WO_et rfl (W_ret ?_)
  obtain rfl := Option.some.inj hr
  refine X_ret [.tmp 4] [.bool o1] rfl (ResAll.cons (ResAt.tmp kr) ResAll.nil) ?_
  exact ⟨m3, rfl, hm, st⟩
 ·intro K
  clear hrK
  refine WO_seg 1 [(5, .pointer (some ⟨b1, 1, none⟩))] kr kr ?_
  refine WO_one rfl (One_load_row (d := 6) (t := 9) (x := (.tmp 5)) (.string p0.2.1) kr rfl (ev (.pointer (some ⟨b1, 1, none⟩))) st (hb1.drop 1) kr ?_)
  refine WO_seg 1 [(7, .pointer (some ⟨b2, 1, none⟩))] kr kr ?_
  refine WO_one rfl (One_load_row (d := 8) (t := 9) (x := (.tmp 7)) (.string p1.2.1) kr rfl (ev (.pointer (some ⟨b2, 1, none⟩))) st (hb2.drop 1) kr ?_)
  refine WO_seg 2 [(10, .bool (Op.bytesLess p0.2.1.toList p1.2.1.toList))] kr kr ?_
  rcases bcases (Op.bytesLess p0.2.1.toList p1.2.1.toList) with hc | hc
  ·rw [if_pos hc] at hr
   refine WO_fact (t := 10) (b := true) (Op.bytesLess p0.2.1.toList p1.2.1.toList) kr hc ?_
   refine WO_seg 14 [(4, .bool true)] kr kr ?_
   obtain rfl := Option.some.inj hr
   exact WO_env _ kr (K _ _ ⟨m2, rfl, hm, st⟩)
  ·rw [if_neg (not_true hc)] at hr
   refine WO_fact (t := 10) (b := false) (Op.bytesLess p0.2.1.toList p1.2.1.toList) kr hc ?_
   refine WO_seg 1 [(11, .pointer (some ⟨b1, 1, none⟩))] kr kr ?_
   refine WO_one rfl (One_load_row (d := 12) (t := 9) (x := (.tmp 11)) (.string p0.2.1) kr rfl (ev (.pointer (some ⟨b1, 1, none⟩))) st (hb1.drop 1) kr ?_)
   refine WO_seg 1 [(13, .pointer (some ⟨b2, 1, none⟩))] kr kr ?_
   refine WO_one rfl (One_load_row (d := 14) (t := 9) (x := (.tmp 13)) (.string p1.2.1) kr rfl (ev (.pointer (some ⟨b2, 1, none⟩))) st (hb2.drop 1) kr ?_)
   refine WO_seg 2 [(16, .bool (p0.2.1.toList == p1.2.1.toList))] kr kr ?_
   rcases bcases (p0.2.1.toList == p1.2.1.toList) with hc | hc
   ·rw [if_pos hc] at hr
    refine WO_fact (t := 16) (b := true) (p0.2.1.toList == p1.2.1.toList) kr hc ?_
    refine WO_seg 1 [(17, .pointer (some ⟨b1, 0, none⟩))] kr kr ?_
    refine WO_one rfl (One_load_row (d := 18) (t := 3) (x := (.tmp 17)) (.int .i64 p0.1) kr rfl (ev (.pointer (some ⟨b1, 0, none⟩))) st hb1 kr ?_)
    refine WO_seg 1 [(19, .pointer (some ⟨b2, 0, none⟩))] kr kr ?_
    refine WO_one rfl (One_load_row (d := 20) (t := 3) (x := (.tmp 19)) (.int .i64 p1.1) kr rfl (ev (.pointer (some ⟨b2, 0, none⟩))) st hb2 kr ?_)
    refine WO_seg 4 [(4, .bool (decide (p0.1 < p1.1)))] kr kr ?_
    obtain rfl := Option.some.inj hr
    exact WO_env _ kr (K _ _ ⟨m2, rfl, hm, st⟩)
   ·rw [if_neg (not_true hc)] at hr
    refine WO_fact (t := 16) (b := false) (p0.2.1.toList == p1.2.1.toList) kr hc ?_
    refine WO_seg 8 [(4, .bool false)] kr kr ?_
    obtain rfl := Option.some.inj hr
    exact WO_env _ kr (K _ _ ⟨m2, rfl, hm, st⟩)
def testgateref15_insert_L1 (N : Nat) (p0 : List (Int × ByteArray × ByteArray × ByteArray)) (p1 : Int × ByteArray × ByteArray × ByteArray) (s1 : Int) : Option ((Int) ⊕ ((Int))) :=
 (if (decide (s1 < ((List.length p0) : Int))) = true then ((idx p0 s1).bind fun x1 => (testgateref15_before N (p1.1, p1.2.1, p1.2.2.1, p1.2.2.2) (x1.1, x1.2.1, x1.2.2.1, x1.2.2.2)).bind fun y1 => some (!y1)) else (some false) : Option (Bool)).bind fun o2 => if o2 = true then (some (.inl (IntKind.wrap .i64 (s1 + 1)))) else (some (.inr s1))
def testgateref15_insert (N : Nat) (p0 : List (Int × ByteArray × ByteArray × ByteArray)) (p1 : Int × ByteArray × ByteArray × ByteArray) : Option (List (Int × ByteArray × ByteArray × ByteArray)) :=
 (loopM (testgateref15_insert_L1 N p0 p1) N 0).bind fun o1 => (appendS 56 p0 ([(0, (⟨#[]⟩ : ByteArray), (⟨#[]⟩ : ByteArray), (⟨#[]⟩ : ByteArray))])).bind fun l1 => (chkS l1 (IntKind.wrap .i64 (o1 + 1)) (List.length l1 : Int)).bind fun u2 => (chkS l1 o1 (List.length l1 : Int)).bind fun u3 => (copyM l1 (IntKind.wrap .i64 (o1 + 1)) o1).bind fun l2 => (idx l2 o1).bind fun x2 => some (List.set l2 (Int.toNat o1) (p1.1, p1.2.1, p1.2.2.1, p1.2.2.2))
set_option maxHeartbeats 4000000 in
set_option maxRecDepth 100000 in
theorem testgateref15_insert_ok {N : Nat} {m : Mem} {own : List Piece} {w : World} {p0 : List (Int × ByteArray × ByteArray × ByteArray)} {p1 : Int × ByteArray × ByteArray × ByteArray} {a1 : Option Addr} {c1 : Nat} {T1 : List Value} {r : List (Int × ByteArray × ByteArray × ByteArray)} (st : St m (opc a1 (acellsM (fun x : Int × ByteArray × ByteArray × ByteArray => ([.int .i64 x.1, .string x.2.1, .string x.2.2.1, .string x.2.2.2] : List Value)) p0 T1) 72 :: own) w) (hs1 : OAS a1 (List.length p0) c1 4 T1) (hr : testgateref15_insert N p0 p1 = some r) : Calls Tryz.prog 83 #[.slice a1 (List.length p0) c1, .agg #[.int .i64 p1.1, .string p1.2.1, .string p1.2.2.1, .string p1.2.2.2]] w fun e w' => ∃ (ra1 : Option Addr) (rc1 : Nat) (rT1 : List Value) (m' : Mem), e = .returned (.slice ra1 (List.length r) rc1) ∧ m.le m' ∧ St m' (opc ra1 (acellsM (fun x : Int × ByteArray × ByteArray × ByteArray => ([.int .i64 x.1, .string x.2.1, .string x.2.2.1, .string x.2.2.2] : List Value)) r rT1) 72 :: own) w' ∧ OAS ra1 (List.length r) rc1 4 rT1 := by
 unfold testgateref15_insert at hr
 have hm := m.le_refl
 refine W_calls Tryz.func83 rfl Tryz.ntmps83 [(0, .slice a1 (List.length p0) c1), (1, .agg #[.int .i64 p1.1, .string p1.2.1, .string p1.2.2.1, .string p1.2.2.2])] kr rfl ?_
 refine W_sr (WO_one rfl (One_box (d := 3) (e := 72) (x := (.tmp 1)) (.agg #[.int .i64 p1.1, .string p1.2.1, .string p1.2.2.1, .string p1.2.2.2]) kr rfl kr st ?_))
 clear st
 intro b1 m1 w1 hle1 st hb1
 have hm := Mem.le_trans hm hle1
 refine WO_seg 1 [] kr kr ?_
 refine WO_et rfl (W_sr ?_)
 refine WO_seg 1 [(5, .int .i64 0)] kr kr ?_
 refine WO_et rfl (W_seq ?_)
 refine W_block ?_
 replace ⟨out1, hr, hrKu1⟩ := bindS hr
 refine W_cut (.exit 0) (fun L' w' => ∃ (o1 : Int) (m2 : Mem), o1 = out1 ∧ L' = [(0, .slice a1 (List.length p0) c1), (3, .pointer (some ⟨b1, 0, none⟩)), (5, .int .i64 o1)] ∧ m.le m2 ∧ St m2 (opc a1 (acellsM (fun x : Int × ByteArray × ByteArray × ByteArray => ([.int .i64 x.1, .string x.2.1, .string x.2.2.1, .string x.2.2.2] : List Value)) p0 T1) 72 :: own) w' ∧ MRow m2 b1 0 [.int .i64 p1.1, .string p1.2.1, .string p1.2.2.1, .string p1.2.2.2]) ?_ ?_
 ·clear hr st
  rintro _ w2 ⟨o1, m2, rfl, rfl, hm, st, hb1⟩
  have hr := hrKu1
  clear hrKu1
  refine X_block_eq ?_
  refine X_then ?_
  refine W_sr (WO_seg 2 [(21, .slice a1 (List.length p0) c1), (22, .agg #[.int .i64 0, .string (⟨#[]⟩ : ByteArray), .string (⟨#[]⟩ : ByteArray), .string (⟨#[]⟩ : ByteArray)])] kr kr ?_)
  refine WO_one rfl (One_buildSlice (d := 23) (t := 58) (e := 72) (len := 1) (parts := #[(0, (.tmp 22))]) (cPair (cInt .i64) (cPair cStr (cPair cStr cStr))) (xs := [(0, (⟨#[]⟩ : ByteArray), (⟨#[]⟩ : ByteArray), (⟨#[]⟩ : ByteArray))]) [.int .i64 0, .string (⟨#[]⟩ : ByteArray), .string (⟨#[]⟩ : ByteArray), .string (⟨#[]⟩ : ByteArray)] kr rfl (fun _ => buildCells_run kr _) rfl rfl st ⟨[.int .i64 0, .string (⟨#[]⟩ : ByteArray), .string (⟨#[]⟩ : ByteArray), .string (⟨#[]⟩ : ByteArray)], _, rfl, ⟨_, _, rfl, rfl, ⟨_, _, rfl, rfl, ⟨_, _, rfl, rfl, rfl⟩⟩⟩, rfl⟩ ?_)
  clear st
  intro b2 m6 w7 hle3 st r1
  have hm := Mem.le_trans hm hle3
  have hb1 := hb1.mono hle3
  have st := st.front1
  replace ⟨l1, hx3, hr⟩ := bindS hr
  refine WO_one rfl (One_appendM (d := 24) (t := 58) (u := 58) (e := 72) (by_ := 56) (x := (.tmp 21)) (y := (.tmp 23)) (c := (cPair (cInt .i64) (cPair cStr (cPair cStr cStr)))) (f := (fun x : Int × ByteArray × ByteArray × ByteArray => ([.int .i64 x.1, .string x.2.1, .string x.2.2.1, .string x.2.2.2] : List Value))) (l := p0) (fun _ _ _ h => by obtain ⟨_, _, rfl, rfl, ⟨_, _, rfl, rfl, ⟨_, _, rfl, rfl, rfl⟩⟩⟩ := h; rfl) (fun _ => rfl) kr rfl (ev (.slice a1 (List.length p0) c1)) (ev (.slice (some ⟨b2, 0, none⟩) (List.length ([(0, (⟨#[]⟩ : ByteArray), (⟨#[]⟩ : ByteArray), (⟨#[]⟩ : ByteArray))])) 1)) st hs1 rfl kr (.inl kr) r1.src hx3 ?_)
  clear st
  intro a2 c2 T2 w8 hs2 st
  refine WO_seg 1 [(0, .slice a2 (List.length l1) c2)] kr kr ?_
  refine WO_end rfl ?_
  have st := st.front1
  have st := st.tail
  refine X_then ?_
  refine W_seq ?_
  refine W_draw [(8, fun w' => Inv m6 w' ∧ True)] kr st ?_
  clear st
  intro w9 _ st
  have hmS2 := m6.le_refl
  refine ⟨⟨.inr ⟨Inv.anti st.inv hmS2, trivial⟩, trivial⟩, ?_⟩
  refine WA_pure 0 25 (.slice a2 (List.length l1) c2) kr rfl kr (.head _) (QP_then QP_body) ?_
  refine WA_pure 1 26 (.int .i64 o1) kr rfl kr (.head _) (QP_then QP_body) ?_
  refine WA_pure 2 27 (.int .i64 (IntKind.wrap .i64 (o1 + 1))) kr rfl kr (.head _) (QP_then QP_body) ?_
  replace ⟨u2, hx4, hr⟩ := bindS hr
  refine WA_viewM (t := 58) (e := 72) (k := 4) (x := (.tmp 25)) (lo := (some (.tmp 27))) (hi := none) (li := IntKind.wrap .i64 (o1 + 1)) (hix := (List.length l1 : Int)) 3 28 kr rfl kr (.head _) (QP_then QP_body) (ev (.slice a2 (List.length l1) c2)) kr (.inr ⟨_, _, rfl, (ev (.int .i64 (IntKind.wrap .i64 (o1 + 1))))⟩) (.inl ⟨rfl, congrArg Nat.cast rfl⟩) hs2 rfl hx4 ?_
  have hv1 := chk_n hx4 rfl
  refine WA_pure 4 29 (.slice a2 (List.length l1) c2) kr rfl kr (.head _) (QP_then QP_body) ?_
  refine WA_pure 5 30 (.int .i64 o1) kr rfl kr (.head _) (QP_then QP_body) ?_
  replace ⟨u3, hx5, hr⟩ := bindS hr
  refine WA_viewM (t := 58) (e := 72) (k := 4) (x := (.tmp 29)) (lo := (some (.tmp 30))) (hi := none) (li := o1) (hix := (List.length l1 : Int)) 6 31 kr rfl kr (.head _) (QP_then QP_body) (ev (.slice a2 (List.length l1) c2)) kr (.inr ⟨_, _, rfl, (ev (.int .i64 o1))⟩) (.inl ⟨rfl, congrArg Nat.cast rfl⟩) hs2 rfl hx5 ?_
  have hv2 := chk_n hx5 rfl
  replace ⟨l2, hx6, hr⟩ := bindS hr
  refine WA_one 7 kr  (One_copyM (d := 32) (t := 58) (u := 58) (e := 72) (k := 4) (x := (.tmp 28)) (y := (.tmp 31)) (f := (fun x : Int × ByteArray × ByteArray × ByteArray => ([.int .i64 x.1, .string x.2.1, .string x.2.2.1, .string x.2.2.2] : List Value))) (l := l1) (d0 := IntKind.wrap .i64 (o1 + 1)) (s0 := o1) (fun _ => rfl) (fun _ _ hv => by simp only [List.mem_cons, List.not_mem_nil, or_false] at hv; rcases hv with rfl | rfl | rfl | rfl <;> rfl) (by decide) kr rfl (ev (.slice (slA a2 c2 (Int.toNat (IntKind.wrap .i64 (o1 + 1))) 4) (Int.toNat (List.length l1 : Int) - Int.toNat (IntKind.wrap .i64 (o1 + 1))) (c2 - Int.toNat (IntKind.wrap .i64 (o1 + 1))))) (ev (.slice (slA a2 c2 (Int.toNat o1) 4) (Int.toNat (List.length l1 : Int) - Int.toNat o1) (c2 - Int.toNat o1))) rfl rfl kr st hs2 rfl hx6 ?_)
  clear st
  intro v1 w10 st
  have hn1 := ((copyM_len hx6).trans rfl)
  refine ⟨⟨.inr ⟨Inv.anti st.inv hmS2, trivial⟩, trivial⟩, ?_⟩
  refine WA_done kr ?_
  refine X_then ?_
  refine W_sr (WO_seg 2 [(33, .slice a2 (List.length l1) c2), (34, .int .i64 o1)] kr kr ?_)
  refine WO_one rfl (One_load_row (d := 35) (t := 72) (x := (.tmp 3)) (.agg #[.int .i64 p1.1, .string p1.2.1, .string p1.2.2.1, .string p1.2.2.2]) kr rfl (ev (.pointer (some ⟨b1, 0, none⟩))) st hb1 kr ?_)
  replace ⟨x2, hx7, hr⟩ := bindS hr
  refine WO_one rfl (One_arrIndexM (d := 36) (t := 58) (e := 72) (x := (.tmp 33)) (y := (.tmp 34)) (k := 4) kr rfl (ev (.slice a2 (List.length l1) c2)) (ev (.int .i64 o1)) kr hs2 hn1 hx7 ?_)
  refine WO_one rfl (One_arrStoreM (t := 72) (x := (.tmp 36)) (y := (.tmp 35)) (o := 0) (f := (fun x : Int × ByteArray × ByteArray × ByteArray => ([.int .i64 x.1, .string x.2.1, .string x.2.2.1, .string x.2.2.2] : List Value))) (z := x2) (u := (p1.1, p1.2.1, p1.2.2.1, p1.2.2.2)) (v := .agg #[.int .i64 p1.1, .string p1.2.1, .string p1.2.2.1, .string p1.2.2.2]) (fun _ => rfl) (Int.toNat o1 * 4) rfl kr (ev (.pointer (some ⟨ab a2, Int.toNat o1 * 4, none⟩))) (ev (.agg #[.int .i64 p1.1, .string p1.2.1, .string p1.2.2.1, .string p1.2.2.2])) st hs2 hn1 hx7 kr rfl ?_)
  clear st
  intro w11 st
  have hn2 : List.length (List.set l2 (Int.toNat o1) (p1.1, p1.2.1, p1.2.2.1, p1.2.2.2)) = (List.length l1) := set_len hn1 _ _
  refine WO_et rfl (W_sr ?_)
  refine WO_seg 2 [(4, .slice a2 (List.length l1) c2)] kr kr ?_
  refine WO_et rfl (W_ret ?_)
  obtain rfl := Option.some.inj hr
  refine X_ret [.tmp 4] [.slice a2 (List.length l1) c2] rfl (ResAll.cons (ResAt.tmp kr) ResAll.nil) ?_
  exact ⟨a2, c2, T2, m6, (by rw [hn2] <;> rfl), hm, st, (OAS.cast hs2 hn2)⟩
 intro K0_u1
 clear hrKu1
 refine W_env _ kr (W_loop (fun k1 L' w' => ∃ (s1 : Int) (m3 : Mem), loopM (testgateref15_insert_L1 N p0 p1) k1 s1 = some out1 ∧ L' = [(0, .slice a1 (List.length p0) c1), (3, .pointer (some ⟨b1, 0, none⟩)), (5, .int .i64 s1)] ∧ m.le m3 ∧ St m3 (opc a1 (acellsM (fun x : Int × ByteArray × ByteArray × ByteArray => ([.int .i64 x.1, .string x.2.1, .string x.2.2.1, .string x.2.2.2] : List Value)) p0 T1) 72 :: own) w' ∧ MRow m3 b1 0 [.int .i64 p1.1, .string p1.2.1, .string p1.2.2.1, .string p1.2.2.2]) N ⟨0, m1, hr, rfl, hm, st, hb1⟩ ?_)
 clear st hr
 rintro k1 _ w3 ⟨s1, m3, hL, rfl, hm, st, hb1⟩
 rcases k1 with _ | k1
 ·exact loopM_zero hL
 ·obtain ⟨qu1, hr, hSu1, hBu1⟩ := loopM_succ hL
  clear hL
  unfold testgateref15_insert_L1 at hr
  refine W_seq ?_
  refine W_seq ?_
  replace ⟨o2, hr, hrK⟩ := bindS hr
  refine W_cut .normal (fun L' w' => ∃ (m4 : Mem), L' = [(0, .slice a1 (List.length p0) c1), (3, .pointer (some ⟨b1, 0, none⟩)), (5, .int .i64 s1), (18, .bool o2)] ∧ m.le m4 ∧ St m4 (opc a1 (acellsM (fun x : Int × ByteArray × ByteArray × ByteArray => ([.int .i64 x.1, .string x.2.1, .string x.2.2.1, .string x.2.2.2] : List Value)) p0 T1) 72 :: own) w' ∧ MRow m4 b1 0 [.int .i64 p1.1, .string p1.2.1, .string p1.2.2.1, .string p1.2.2.2]) ?_ ?_
  ·clear hr st
   have hr := hrK
   clear hrK
   rintro _ w4 ⟨m4, rfl, hm, st, hb1⟩
   refine X_then ?_
   refine W_cond o2 kr ?_ ?_
   ·intro hc
    rw [if_pos hc] at hr
    refine W_skip ?_
    refine X_then ?_
    refine W_block ?_
    refine W_region ?_
    refine WO_seg 3 [(5, .int .i64 (IntKind.wrap .i64 (s1 + 1)))] kr kr ?_
    refine WO_end rfl ?_
    refine X_block ?_
    obtain rfl := Option.some.inj hr
    have hL := hSu1 _ rfl
    exact X_env _ kr (X_round k1 (Nat.lt_succ_self _) ⟨IntKind.wrap .i64 (s1 + 1), m4, hL, rfl, hm, st, hb1⟩)
   ·intro hc
    rw [if_neg (not_true hc)] at hr
    refine W_exit ?_
    refine X_then_exit ?_
    obtain rfl := Option.some.inj hr
    have ho := hBu1 _ rfl
    refine X_then_exit ?_
    exact X_env _ kr (K0_u1 _ _ ⟨s1, m4, ho, rfl, hm, st, hb1⟩)
  ·intro K
   clear hrK
   refine W_draw [(13, fun w' => Inv m3 w' ∧ Piece.holds m3 w' (opc a1 (acellsM (fun x : Int × ByteArray × ByteArray × ByteArray => ([.int .i64 x.1, .string x.2.1, .string x.2.2.1, .string x.2.2.2] : List Value)) p0 T1) 72) ∧ True)] kr st ?_
   clear st
   intro w5 _ st
   have hmS1 := m3.le_refl
   refine ⟨⟨.inr ⟨Inv.anti st.inv hmS1, opc_anti st.head hmS1, trivial⟩, trivial⟩, ?_⟩
   refine WA_pure 0 6 (.int .i64 s1) kr rfl kr (.head _) (QP_then (QP_then (QP_then (QP_block (QP_then QP_body))))) ?_
   refine WA_pure 1 7 (.slice a1 (List.length p0) c1) kr rfl kr (.head _) (QP_then (QP_then (QP_then (QP_block (QP_then QP_body))))) ?_
   refine WA_pure 2 8 (.int .i64 ((List.length p0) : Int)) kr rfl kr (.head _) (QP_then (QP_then (QP_then (QP_block (QP_then QP_body))))) ?_
   refine WA_pure 3 9 (.bool (decide (s1 < ((List.length p0) : Int)))) kr rfl kr (.head _) (QP_then (QP_then (QP_then (QP_block (QP_then QP_body))))) ?_
   refine WA_pure 4 10 (.bool (decide (s1 < ((List.length p0) : Int)))) kr rfl kr (.head _) (QP_then (QP_then (QP_then (QP_block (QP_then QP_body))))) ?_
   rcases bcases (decide (s1 < ((List.length p0) : Int))) with hc | hc
   ·rw [if_pos hc] at hr
    refine WA_fact (t := 10) (b := true) (decide (s1 < ((List.length p0) : Int))) kr hc ?_
    refine WA_load_row (t := 72) (x := (.tmp 3)) 5 11 (.agg #[.int .i64 p1.1, .string p1.2.1, .string p1.2.2.1, .string p1.2.2.2]) kr rfl kr (.head _) (QP_then (QP_then (QP_then (QP_block (QP_then QP_body))))) (fun _ h => h.1) (ev (.pointer (some ⟨b1, 0, none⟩))) hb1 kr ?_
    refine WA_pure 6 12 (.slice a1 (List.length p0) c1) kr rfl kr (.head _) (QP_then (QP_then (QP_then (QP_block (QP_then QP_body))))) ?_
    refine WA_pure 7 13 (.int .i64 s1) kr rfl kr (.head _) (QP_then (QP_then (QP_then (QP_block (QP_then QP_body))))) ?_
    replace ⟨x1, hx1, hr⟩ := bindS hr
    refine WA_arrIndexM (t := 58) (e := 72) (x := (.tmp 12)) (y := (.tmp 13)) (k := 4) 8 14 kr rfl kr (.head _) (QP_then (QP_then (QP_then (QP_block (QP_then QP_body))))) (ev (.slice a1 (List.length p0) c1)) (ev (.int .i64 s1)) kr hs1 rfl hx1 ?_
    refine WA_arrLoadM (t := 72) (x := (.tmp 14)) (o := 0) (f := (fun x : Int × ByteArray × ByteArray × ByteArray => ([.int .i64 x.1, .string x.2.1, .string x.2.2.1, .string x.2.2.2] : List Value))) (z := x1) (v := .agg #[.int .i64 x1.1, .string x1.2.1, .string x1.2.2.1, .string x1.2.2.2]) 9 15 (fun _ => rfl) (Int.toNat s1 * 4) rfl kr rfl kr (.head _) (QP_then (QP_then (QP_then (QP_block (QP_then QP_body))))) (fun _ h => h.2.1) (ev (.pointer (some ⟨ab a1, Int.toNat s1 * 4, none⟩))) hs1 rfl hx1 kr ?_
    replace ⟨y1, hx2, hr⟩ := bindS hr
    refine WA_one 10 kr  (One_fn 16 135 #[.agg #[.int .i64 p1.1, .string p1.2.1, .string p1.2.2.1, .string p1.2.2.2], .agg #[.int .i64 x1.1, .string x1.2.1, .string x1.2.2.1, .string x1.2.2.2]] kr rfl ?_)
    refine (testgateref15_before_ok st hx2).mono ?_
    clear st
    rintro _ w6 ⟨m5, rfl, hle2, st⟩
    refine ⟨_, rfl, ?_⟩
    have hm := Mem.le_trans hm hle2
    have hb1 := hb1.mono hle2
    have hmS1 := Mem.le_trans hmS1 hle2
    refine ⟨⟨.inr ⟨Inv.anti st.inv hmS1, opc_anti st.head hmS1, trivial⟩, trivial⟩, ?_⟩
    refine WA_pure 11 17 (.bool (!y1)) kr rfl kr (.head _) (QP_then (QP_then (QP_then (QP_block (QP_then QP_body))))) ?_
    refine WA_pure 12 18 (.bool (!y1)) kr rfl kr (.head _) (QP_then (QP_then (QP_then (QP_block (QP_then QP_body))))) ?_
    obtain rfl := Option.some.inj hr
    exact WA_done kr (X_env _ kr (K _ _ ⟨m5, rfl, hm, st, hb1⟩))
   ·rw [if_neg (not_true hc)] at hr
    refine WA_fact (t := 10) (b := false) (decide (s1 < ((List.length p0) : Int))) kr hc ?_
    refine WA_not 5 11 kr rfl kr (.head _) (QP_then (QP_then (QP_then (QP_block (QP_then QP_body))))) ?_
    refine WA_not 6 12 kr rfl kr (.head _) (QP_then (QP_then (QP_then (QP_block (QP_then QP_body))))) ?_
    refine WA_not 7 13 kr rfl kr (.head _) (QP_then (QP_then (QP_then (QP_block (QP_then QP_body))))) ?_
    refine WA_not 8 14 kr rfl kr (.head _) (QP_then (QP_then (QP_then (QP_block (QP_then QP_body))))) ?_
    refine WA_not 9 15 kr rfl kr (.head _) (QP_then (QP_then (QP_then (QP_block (QP_then QP_body))))) ?_
    refine WA_not 10 16 kr rfl kr (.head _) (QP_then (QP_then (QP_then (QP_block (QP_then QP_body))))) ?_
    refine WA_not 11 17 kr rfl kr (.head _) (QP_then (QP_then (QP_then (QP_block (QP_then QP_body))))) ?_
    refine WA_pure 12 18 (.bool false) kr rfl kr (.head _) (QP_then (QP_then (QP_then (QP_block (QP_then QP_body))))) ?_
    obtain rfl := Option.some.inj hr
    exact WA_done kr (X_env _ kr (K _ _ ⟨m3, rfl, hm, st, hb1⟩))
end Go.Proofs.YtgggihpbhmbjaaaGreatDoor
