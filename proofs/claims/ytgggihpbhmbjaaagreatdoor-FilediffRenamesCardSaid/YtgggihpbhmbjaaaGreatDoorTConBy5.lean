/- MADE BY gen.py: plain functions and the proofs that the Go functions compute them. No condition but those of each theorem. -/
import Derived.Test.YtgggihpbhmbjaaaGreatDoorProg
import Derived.Test.YtgggihpbhmbjaaaGreatDoorViewy5
import Derived.Test.YtgggihpbhmbjaaaGreatDoorMapDy5
import Derived.Test.YtgggihpbhmbjaaaGreatDoorLiny5
import Derived.Test.YtgggihpbhmbjaaaGreatDoorTConAy5
namespace Go.Proofs.YtgggihpbhmbjaaaGreatDoor
open Go Go.Dc
def testgatemake_Revision_L1 (N : Nat) (y1 : List ByteArray) (s1 : Int × (List (ByteArray × ByteArray)) × List (Int) × Int) : Option ((Int × (List (ByteArray × ByteArray)) × List (Int) × Int) ⊕ (((List (ByteArray × ByteArray)) × List (Int) × Int))) :=
 if (decide (s1.1 < (List.length y1 : Int))) = true then (((idx y1 s1.1).bind fun x1 => (testgatemake_Tape_Chance N (s1.2.2.1, s1.2.2.2) 3 4).bind fun y2 => if y2.2 = true then ((testgatemake_Packages N).bind fun y3 => (testgatemake_Tape_One N (y2.1.1, y2.1.2) y3).bind fun y4 => (testgatemake_Source N (y4.1.1, y4.1.2) y4.2).bind fun y5 => (testgatemake_insert N s1.2.1 (x1, y5.2)).bind fun y6 => some (y6, y5.1.1, y5.1.2)) else (some (s1.2.1, y2.1.1, y2.1.2)) : Option ((List (ByteArray × ByteArray)) × List (Int) × Int)).bind fun o2 => some (.inl (IntKind.wrap .i64 (s1.1 + 1), o2.1, o2.2.1, o2.2.2))) else (some (.inr (s1.2.1, s1.2.2.1, s1.2.2.2)))
def testgatemake_Revision_L2 (N : Nat) (s2 : Int × (List (ByteArray × ByteArray)) × List (Int) × Int) : Option ((Int × (List (ByteArray × ByteArray)) × List (Int) × Int) ⊕ (((List (ByteArray × ByteArray)) × List (Int) × Int))) :=
 if (decide (s2.1 < (List.length ([(⟨#[97, 46, 100, 97, 116]⟩ : ByteArray), (⟨#[100, 47, 98, 46, 100, 97, 116]⟩ : ByteArray), (⟨#[99]⟩ : ByteArray)]) : Int))) = true then (((idx ([(⟨#[97, 46, 100, 97, 116]⟩ : ByteArray), (⟨#[100, 47, 98, 46, 100, 97, 116]⟩ : ByteArray), (⟨#[99]⟩ : ByteArray)]) s2.1).bind fun x2 => (testgatemake_Tape_Chance N (s2.2.2.1, s2.2.2.2) 1 3).bind fun y7 => if y7.2 = true then ((testgatemake_data N (y7.1.1, y7.1.2)).bind fun y8 => (testgatemake_insert N s2.2.1 (x2, y8.2)).bind fun y9 => some (y9, y8.1.1, y8.1.2)) else (some (s2.2.1, y7.1.1, y7.1.2)) : Option ((List (ByteArray × ByteArray)) × List (Int) × Int)).bind fun o4 => some (.inl (IntKind.wrap .i64 (s2.1 + 1), o4.1, o4.2.1, o4.2.2))) else (some (.inr (s2.2.1, s2.2.2.1, s2.2.2.2)))
def testgatemake_Revision (N : Nat) (p0 : List Int × Int) : Option ((List Int × Int) × ((List (ByteArray × ByteArray)))) :=
 (testgatemake_sources N).bind fun y1 => (loopM (testgatemake_Revision_L1 N y1) N (0, ([] : List (ByteArray × ByteArray)), p0.1, p0.2)).bind fun o1 => (loopM (testgatemake_Revision_L2 N) N (0, o1.1, o1.2.1, o1.2.2)).bind fun o3 => some ((o3.2.1, o3.2.2), o3.1)
set_option maxHeartbeats 4000000 in
set_option maxRecDepth 100000 in
theorem testgatemake_Revision_ok {N : Nat} {m : Mem} {own : List Piece} {w : World} {p0 : List Int × Int} {bp0 : Nat} {a1 : Option Addr} {c1 : Nat} {r : (List Int × Int) × ((List (ByteArray × ByteArray)))} (st : St m (.blk bp0 (.cells #[.slice a1 (List.length p0.1) c1, .int .i64 p0.2] 28 (0, 0)) :: own) w) (r1 : RepS (cInt .i64) m a1 c1 p0.1) (hr : testgatemake_Revision N p0 = some r) : Calls Tryz.prog 12 #[.pointer (some ⟨bp0, 0, none⟩)] w fun e w' => ∃ (ra1 : Option Addr) (rc1 : Nat) (ra2 : Option Addr) (rc2 : Nat) (m' : Mem), e = .returned (.agg #[.slice ra2 (List.length r.2) rc2]) ∧ m.le m' ∧ St m' (.room ra2 (List.length r.2) rc2 74 2 :: .blk bp0 (.cells #[.slice ra1 (List.length r.1.1) rc1, .int .i64 r.1.2] 28 (0, 0)) :: own) w' ∧ RepS (cInt .i64) m' ra1 rc1 r.1.1 ∧ RepS (cPair cStr cStr) m' ra2 rc2 r.2 := by
 unfold testgatemake_Revision at hr
 have hm := m.le_refl
 refine W_calls Tryz.func12 rfl Tryz.ntmps12 [(0, .pointer (some ⟨bp0, 0, none⟩))] kr rfl ?_
 refine W_sr (WO_one rfl (One_alloc (d := 2) (e := 25) (.agg #[.slice none 0 0]) kr rfl kr st ?_))
 clear st
 intro b1 w1 st
 refine WO_et rfl (W_sr ?_)
 refine WO_one rfl (One_alloc (d := 3) (e := 25) (.agg #[.slice none 0 0]) kr rfl kr st ?_)
 clear st
 intro b2 w2 st
 refine WO_et rfl (W_seq ?_)
 refine W_sr ?_
 replace ⟨y1, hx1, hr⟩ := bindS hr
 refine WO_one rfl (One_fn 8 54 #[] kr rfl ?_)
 refine (testgatemake_sources_ok st hx1).mono ?_
 clear st
 rintro _ w3 ⟨a2, c2, m1, rfl, hle1, st, r2⟩
 refine ⟨_, rfl, ?_⟩
 have hm := Mem.le_trans hm hle1
 have r1 := r1.mono hle1
 refine WO_seg 2 [(9, .int .i64 (List.length y1 : Int)), (10, .int .i64 0)] kr kr ?_
 refine WO_et rfl (W_block ?_)
 replace ⟨out1, hr, hrKu1⟩ := bindS hr
 refine W_cut (.exit 0) (fun L' w' => ∃ (o1 : (List (ByteArray × ByteArray)) × List (Int) × Int) (a3 : Option Addr) (c3 : Nat) (a4 : Option Addr) (c4 : Nat) (m2 : Mem), o1 = out1 ∧ L' = [(0, .pointer (some ⟨bp0, 0, none⟩)), (2, .pointer (some ⟨b1, 0, none⟩)), (3, .pointer (some ⟨b2, 0, none⟩))] ∧ m.le m2 ∧ St m2 (.blk b2 (.cells #[.slice a3 (List.length o1.1) c3] 25 (0, 0)) :: .blk b1 (.cells #[.slice none (List.length ([] : List (ByteArray × ByteArray))) 0] 25 (0, 0)) :: .blk bp0 (.cells #[.slice a4 (List.length o1.2.1) c4, .int .i64 o1.2.2] 28 (0, 0)) :: .room a2 (List.length y1) c2 9 1 :: .room a3 (List.length o1.1) c3 74 2 :: own) w' ∧ RepS (cPair cStr cStr) m2 a3 c3 o1.1 ∧ RepS (cInt .i64) m2 a4 c4 o1.2.1) ?_ ?_
 ·clear hr st
  rintro _ w4 ⟨o1, a3, c3, a4, c4, m2, rfl, rfl, hm, st, r3, r4⟩
  have hr := hrKu1
  clear hrKu1
  refine X_block_eq ?_
  refine X_then ?_
  refine W_seq ?_
  refine W_sr (WO_one rfl (One_buildSlice (d := 26) (t := 33) (e := 9) (len := 3) (parts := #[(0, (.const (.string (⟨#[97, 46, 100, 97, 116]⟩ : ByteArray)))), (1, (.const (.string (⟨#[100, 47, 98, 46, 100, 97, 116]⟩ : ByteArray)))), (2, (.const (.string (⟨#[99]⟩ : ByteArray))))]) cStr (xs := [(⟨#[97, 46, 100, 97, 116]⟩ : ByteArray), (⟨#[100, 47, 98, 46, 100, 97, 116]⟩ : ByteArray), (⟨#[99]⟩ : ByteArray)]) [.string (⟨#[97, 46, 100, 97, 116]⟩ : ByteArray), .string (⟨#[100, 47, 98, 46, 100, 97, 116]⟩ : ByteArray), .string (⟨#[99]⟩ : ByteArray)] kr rfl (fun _ => buildCells_run kr _) rfl rfl st ⟨[.string (⟨#[97, 46, 100, 97, 116]⟩ : ByteArray)], _, rfl, rfl, ⟨[.string (⟨#[100, 47, 98, 46, 100, 97, 116]⟩ : ByteArray)], _, rfl, rfl, ⟨[.string (⟨#[99]⟩ : ByteArray)], _, rfl, rfl, rfl⟩⟩⟩ ?_))
  clear st
  intro b4 m10 w14 hle7 st r14
  have hm := Mem.le_trans hm hle7
  have r3 := r3.mono hle7
  have r4 := r4.mono hle7
  refine WO_seg 2 [(27, .int .i64 (List.length ([(⟨#[97, 46, 100, 97, 116]⟩ : ByteArray), (⟨#[100, 47, 98, 46, 100, 97, 116]⟩ : ByteArray), (⟨#[99]⟩ : ByteArray)]) : Int)), (28, .int .i64 0)] kr kr ?_
  refine WO_end rfl ?_
  have st := st.front4
  have st := st.tail
  refine X_then ?_
  refine W_block ?_
  replace ⟨out2, hr, hrKu3⟩ := bindS hr
  refine W_cut (.exit 2) (fun L' w' => ∃ (o3 : (List (ByteArray × ByteArray)) × List (Int) × Int) (a14 : Option Addr) (c14 : Nat) (a15 : Option Addr) (c15 : Nat) (m11 : Mem), o3 = out2 ∧ L' = [(2, .pointer (some ⟨b1, 0, none⟩)), (3, .pointer (some ⟨b2, 0, none⟩))] ∧ m.le m11 ∧ St m11 (.blk b2 (.cells #[.slice a14 (List.length o3.1) c14] 25 (0, 0)) :: .blk b1 (.cells #[.slice none (List.length ([] : List (ByteArray × ByteArray))) 0] 25 (0, 0)) :: .blk bp0 (.cells #[.slice a15 (List.length o3.2.1) c15, .int .i64 o3.2.2] 28 (0, 0)) :: .room (some ⟨b4, 0, none⟩) (List.length ([(⟨#[97, 46, 100, 97, 116]⟩ : ByteArray), (⟨#[100, 47, 98, 46, 100, 97, 116]⟩ : ByteArray), (⟨#[99]⟩ : ByteArray)])) 3 9 1 :: .room a14 (List.length o3.1) c14 74 2 :: own) w' ∧ RepS (cPair cStr cStr) m11 a14 c14 o3.1 ∧ RepS (cInt .i64) m11 a15 c15 o3.2.1) ?_ ?_
  ·clear hr st
   rintro _ w15 ⟨o3, a14, c14, a15, c15, m11, rfl, rfl, hm, st, r15, r16⟩
   have hr := hrKu3
   clear hrKu3
   refine X_block_eq ?_
   refine X_then ?_
   refine W_sr (WO_one rfl (One_load_own (d := 41) (t := 25) (x := (.tmp 3)) (.agg #[.slice a14 (List.length o3.1) c14]) kr rfl (ev (.pointer (some ⟨b2, 0, none⟩))) st.head kr ?_))
   have st := st.front1
   refine WO_one rfl (One_store (t := 25) (x := (.tmp 2)) (y := (.tmp 41)) (v := .agg #[.slice a14 (List.length o3.1) c14]) (c' := #[.slice a14 (List.length o3.1) c14]) kr (ev (.pointer (some ⟨b1, 0, none⟩))) (ev (.agg #[.slice a14 (List.length o3.1) c14])) st kr kr ?_)
   clear st
   intro w23 st
   refine WO_end rfl ?_
   have st := st.front3
   have st := st.tail
   refine X_then ?_
   refine W_ret ?_
   obtain rfl := Option.some.inj hr
   refine X_ret [.cell 2 25] [.agg #[.slice a14 (List.length o3.1) c14]] rfl (ResAll.cons (ResAt.blk (v := .agg #[.slice a14 (List.length o3.1) c14]) (o := 0) kr st.head kr) ResAll.nil) ?_
   have st := st.tail
   have st := st.tail
   have st := st.front1
   exact ⟨a15, c15, a14, c14, m11, rfl, hm, st, r16, r15⟩
  intro K2_u3
  clear hrKu3
  have st := st.front4.front1.front4.front4.front4
  refine W_env _ kr (W_loop (fun k2 L' w' => ∃ (s2 : Int × (List (ByteArray × ByteArray)) × List (Int) × Int) (a16 : Option Addr) (c16 : Nat) (a17 : Option Addr) (c17 : Nat) (m12 : Mem), loopM (testgatemake_Revision_L2 N) k2 s2 = some out2 ∧ L' = [(0, .pointer (some ⟨bp0, 0, none⟩)), (2, .pointer (some ⟨b1, 0, none⟩)), (3, .pointer (some ⟨b2, 0, none⟩)), (26, .slice (some ⟨b4, 0, none⟩) (List.length ([(⟨#[97, 46, 100, 97, 116]⟩ : ByteArray), (⟨#[100, 47, 98, 46, 100, 97, 116]⟩ : ByteArray), (⟨#[99]⟩ : ByteArray)])) 3), (27, .int .i64 (List.length ([(⟨#[97, 46, 100, 97, 116]⟩ : ByteArray), (⟨#[100, 47, 98, 46, 100, 97, 116]⟩ : ByteArray), (⟨#[99]⟩ : ByteArray)]) : Int)), (28, .int .i64 s2.1)] ∧ m.le m12 ∧ St m12 (.blk b2 (.cells #[.slice a16 (List.length s2.2.1) c16] 25 (0, 0)) :: .blk b1 (.cells #[.slice none (List.length ([] : List (ByteArray × ByteArray))) 0] 25 (0, 0)) :: .blk bp0 (.cells #[.slice a17 (List.length s2.2.2.1) c17, .int .i64 s2.2.2.2] 28 (0, 0)) :: .room (some ⟨b4, 0, none⟩) (List.length ([(⟨#[97, 46, 100, 97, 116]⟩ : ByteArray), (⟨#[100, 47, 98, 46, 100, 97, 116]⟩ : ByteArray), (⟨#[99]⟩ : ByteArray)])) 3 9 1 :: .room a16 (List.length s2.2.1) c16 74 2 :: own) w' ∧ RepS cStr m12 (some ⟨b4, 0, none⟩) 3 ([(⟨#[97, 46, 100, 97, 116]⟩ : ByteArray), (⟨#[100, 47, 98, 46, 100, 97, 116]⟩ : ByteArray), (⟨#[99]⟩ : ByteArray)]) ∧ RepS (cPair cStr cStr) m12 a16 c16 s2.2.1 ∧ RepS (cInt .i64) m12 a17 c17 s2.2.2.1) N ⟨(0, o1.1, o1.2.1, o1.2.2), a3, c3, a4, c4, m10, hr, rfl, hm, st, r14, r3, r4⟩ ?_)
  clear st hr
  rintro k2 _ w16 ⟨s2, a16, c16, a17, c17, m12, hL, rfl, hm, st, r14, r17, r18⟩
  rcases k2 with _ | k2
  ·exact loopM_zero hL
  ·obtain ⟨qu3, hr, hSu3, hBu3⟩ := loopM_succ hL
   clear hL
   unfold testgatemake_Revision_L2 at hr
   refine W_sr (WO_seg 1 [(29, .bool (decide (s2.1 < (List.length ([(⟨#[97, 46, 100, 97, 116]⟩ : ByteArray), (⟨#[100, 47, 98, 46, 100, 97, 116]⟩ : ByteArray), (⟨#[99]⟩ : ByteArray)]) : Int))))] kr kr ?_)
   refine WO_et rfl (W_seq ?_)
   refine W_cond (decide (s2.1 < (List.length ([(⟨#[97, 46, 100, 97, 116]⟩ : ByteArray), (⟨#[100, 47, 98, 46, 100, 97, 116]⟩ : ByteArray), (⟨#[99]⟩ : ByteArray)]) : Int))) kr ?_ ?_
   ·intro hc
    rw [if_pos hc] at hr
    refine W_skip ?_
    refine X_then ?_
    refine W_seq ?_
    replace ⟨o4, hr, hrKu4⟩ := bindS hr
    refine W_cut .normal (fun L' w' => ∃ (a18 : Option Addr) (c18 : Nat) (a19 : Option Addr) (c19 : Nat) (m13 : Mem), L' = [(0, .pointer (some ⟨bp0, 0, none⟩)), (2, .pointer (some ⟨b1, 0, none⟩)), (3, .pointer (some ⟨b2, 0, none⟩)), (26, .slice (some ⟨b4, 0, none⟩) (List.length ([(⟨#[97, 46, 100, 97, 116]⟩ : ByteArray), (⟨#[100, 47, 98, 46, 100, 97, 116]⟩ : ByteArray), (⟨#[99]⟩ : ByteArray)])) 3), (27, .int .i64 (List.length ([(⟨#[97, 46, 100, 97, 116]⟩ : ByteArray), (⟨#[100, 47, 98, 46, 100, 97, 116]⟩ : ByteArray), (⟨#[99]⟩ : ByteArray)]) : Int)), (28, .int .i64 s2.1)] ∧ m.le m13 ∧ St m13 (.blk b2 (.cells #[.slice a18 (List.length o4.1) c18] 25 (0, 0)) :: .blk b1 (.cells #[.slice none (List.length ([] : List (ByteArray × ByteArray))) 0] 25 (0, 0)) :: .blk bp0 (.cells #[.slice a19 (List.length o4.2.1) c19, .int .i64 o4.2.2] 28 (0, 0)) :: .room (some ⟨b4, 0, none⟩) (List.length ([(⟨#[97, 46, 100, 97, 116]⟩ : ByteArray), (⟨#[100, 47, 98, 46, 100, 97, 116]⟩ : ByteArray), (⟨#[99]⟩ : ByteArray)])) 3 9 1 :: .room a18 (List.length o4.1) c18 74 2 :: own) w' ∧ RepS cStr m13 (some ⟨b4, 0, none⟩) 3 ([(⟨#[97, 46, 100, 97, 116]⟩ : ByteArray), (⟨#[100, 47, 98, 46, 100, 97, 116]⟩ : ByteArray), (⟨#[99]⟩ : ByteArray)]) ∧ RepS (cPair cStr cStr) m13 a18 c18 o4.1 ∧ RepS (cInt .i64) m13 a19 c19 o4.2.1) ?_ ?_
    ·clear hr st
     have hr := hrKu4
     clear hrKu4
     rintro _ w17 ⟨a18, c18, a19, c19, m13, rfl, hm, st, r14, r19, r20⟩
     refine X_then ?_
     refine W_region ?_
     refine WO_seg 2 [(28, .int .i64 (IntKind.wrap .i64 (s2.1 + 1)))] kr kr ?_
     refine WO_end rfl ?_
     obtain rfl := Option.some.inj hr
     have hL := hSu3 _ rfl
     have st := st.front4.front4.front4.front4.front4
     exact X_env _ kr (X_round k2 (Nat.lt_succ_self _) ⟨(IntKind.wrap .i64 (s2.1 + 1), o4.1, o4.2.1, o4.2.2), a18, c18, a19, c19, m13, hL, rfl, hm, st, r14, r19, r20⟩)
    ·intro Ku4
     clear hrKu4
     refine W_block ?_
     refine W_sr ?_
     replace ⟨x2, hx8, hr⟩ := bindS hr
     refine WO_one rfl (One_index (d := 30) (t := 33) (e := 9) (x := (.tmp 26)) (y := (.tmp 28)) cStr kr rfl (ev (.slice (some ⟨b4, 0, none⟩) (List.length ([(⟨#[97, 46, 100, 97, 116]⟩ : ByteArray), (⟨#[100, 47, 98, 46, 100, 97, 116]⟩ : ByteArray), (⟨#[99]⟩ : ByteArray)])) 3)) (ev (.int .i64 s2.1)) kr r14 hx8 ?_)
     rintro b5 f2 cs2 rfl hq2
     refine WO_one rfl (One_load_row (d := 31) (t := 9) (x := (.tmp 30)) (.string x2) kr rfl (ev (.pointer (some ⟨b5, f2, none⟩))) st hq2 kr ?_)
     refine WO_seg 1 [(7, .string x2)] kr kr ?_
     refine WO_et rfl (W_sr ?_)
     refine WO_seg 1 [(32, .pointer (some ⟨bp0, 0, none⟩))] kr kr ?_
     have st := st.front2
     replace ⟨y7, hx9, hr⟩ := bindS hr
     refine WO_one rfl (One_fn 33 29 #[.pointer (some ⟨bp0, 0, none⟩), .int .i64 1, .int .i64 3] kr rfl ?_)
     refine (testgatemake_Tape_Chance_ok st r18 hx9).mono ?_
     clear st
     rintro _ w18 ⟨a20, c20, m14, rfl, hle8, st, r21⟩
     refine ⟨_, rfl, ?_⟩
     have hm := Mem.le_trans hm hle8
     have r14 := r14.mono hle8
     have r18 := r18.mono hle8
     have r17 := r17.mono hle8
     refine WO_et rfl (W_cond y7.2 kr ?_ ?_)
     ·intro hc
      rw [if_pos hc] at hr
      refine W_draw [(7, fun w' => Inv m14 w' ∧ True), (6, fun w' => Inv m14 w' ∧ Piece.holds m14 w' (.blk b2 (.cells #[.slice a16 (List.length s2.2.1) c16] 25 (0, 0))) ∧ True)] kr st ?_
      clear st
      intro w19 _ st
      have hmS2 := m14.le_refl
      refine ⟨⟨.inr ⟨Inv.anti st.inv hmS2, trivial⟩, ⟨.inr ⟨Inv.anti st.inv hmS2, Piece.holds_anti st.tail.head hmS2, trivial⟩, trivial⟩⟩, ?_⟩
      refine WA_load_own (t := 25) (x := (.tmp 3)) 0 34 (.agg #[.slice a16 (List.length s2.2.1) c16]) kr rfl kr (.tail _ (.head _)) (QP_block (QP_then (QP_then (QP_block (QP_then QP_body))))) (fun _ h => h.2.1) (ev (.pointer (some ⟨b2, 0, none⟩))) kr ?_
      refine WA_pure 1 35 (.string x2) kr rfl kr (.head _) (QP_block (QP_then (QP_then (QP_block (QP_then QP_body))))) ?_
      refine WA_pure 2 36 (.pointer (some ⟨bp0, 0, none⟩)) kr rfl kr (.head _) (QP_block (QP_then (QP_then (QP_block (QP_then QP_body))))) ?_
      replace ⟨y8, hx10, hr⟩ := bindS hr
      refine WA_one 3 kr  (One_fn 37 56 #[.pointer (some ⟨bp0, 0, none⟩)] kr rfl ?_)
      refine (testgatemake_data_ok st r21 hx10).mono ?_
      clear st
      rintro _ w20 ⟨a21, c21, m15, rfl, hle9, st, r22⟩
      refine ⟨_, rfl, ?_⟩
      have hm := Mem.le_trans hm hle9
      have r14 := r14.mono hle9
      have r17 := r17.mono hle9
      have r21 := r21.mono hle9
      have hmS2 := Mem.le_trans hmS2 hle9
      refine ⟨⟨.inr ⟨Inv.anti st.inv hmS2, trivial⟩, ⟨.inr ⟨Inv.anti st.inv hmS2, Piece.holds_anti st.tail.head hmS2, trivial⟩, trivial⟩⟩, ?_⟩
      refine WA_pure 4 38 (.agg #[.string x2, .string y8.2]) kr rfl kr (.head _) (QP_block (QP_then (QP_then (QP_block (QP_then QP_body))))) ?_
      replace ⟨y9, hx11, hr⟩ := bindS hr
      refine WA_one 5 kr  (One_fn 39 55 #[.agg #[.slice a16 (List.length s2.2.1) c16], .agg #[.string x2, .string y8.2]] kr rfl ?_)
      refine (testgatemake_insert_ok st r17 hx11).mono ?_
      clear st
      rintro _ w21 ⟨a22, c22, m16, rfl, hle10, st, r23⟩
      refine ⟨_, rfl, ?_⟩
      have hm := Mem.le_trans hm hle10
      have r14 := r14.mono hle10
      have r17 := r17.mono hle10
      have r22 := r22.mono hle10
      have hmS2 := Mem.le_trans hmS2 hle10
      refine ⟨⟨.inr ⟨Inv.anti st.inv hmS2, trivial⟩, ⟨.inr ⟨Inv.anti st.inv hmS2, Piece.holds_anti st.tail.tail.head hmS2, trivial⟩, trivial⟩⟩, ?_⟩
      have st := st.front2
      refine WA_one 6 kr  (One_store (t := 25) (x := (.tmp 3)) (y := (.tmp 39)) (v := .agg #[.slice a22 (List.length y9) c22]) (c' := #[.slice a22 (List.length y9) c22]) kr (ev (.pointer (some ⟨b2, 0, none⟩))) (ev (.agg #[.slice a22 (List.length y9) c22])) st kr kr ?_)
      clear st
      intro w22 st
      refine ⟨⟨.inr ⟨Inv.anti st.inv hmS2, trivial⟩, ⟨.inl rfl, trivial⟩⟩, ?_⟩
      refine WA_done kr ?_
      have st := st.front5
      have st := st.tail
      refine X_block ?_
      obtain rfl := Option.some.inj hr
      have st := st.front1.front4.front3.front4.front4
      exact X_env _ kr (Ku4 _ _ ⟨a22, c22, a21, c21, m16, rfl, hm, st, r14, r23, r22⟩)
     ·intro hc
      rw [if_neg (not_true hc)] at hr
      refine W_skip ?_
      refine X_block ?_
      obtain rfl := Option.some.inj hr
      have st := st.front4.front4.front2.front4.front4
      exact X_env _ kr (Ku4 _ _ ⟨a16, c16, a20, c20, m14, rfl, hm, st, r14, r17, r21⟩)
   ·intro hc
    rw [if_neg (not_true hc)] at hr
    refine W_exit ?_
    refine X_then_exit ?_
    obtain rfl := Option.some.inj hr
    have ho := hBu3 _ rfl
    have st := st.front4.front4.front4.front4.front4
    refine X_then_exit ?_
    exact X_env _ kr (K2_u3 _ _ ⟨(s2.2.1, s2.2.2.1, s2.2.2.2), a16, c16, a17, c17, m12, ho, rfl, hm, st, r17, r18⟩)
 intro K0_u1
 clear hrKu1
 have st := st.nilroom 74 2
 have st := st.front1.front4.front4.front4
 refine W_env _ kr (W_loop (fun k1 L' w' => ∃ (s1 : Int × (List (ByteArray × ByteArray)) × List (Int) × Int) (a5 : Option Addr) (c5 : Nat) (a6 : Option Addr) (c6 : Nat) (m3 : Mem), loopM (testgatemake_Revision_L1 N y1) k1 s1 = some out1 ∧ L' = [(0, .pointer (some ⟨bp0, 0, none⟩)), (2, .pointer (some ⟨b1, 0, none⟩)), (3, .pointer (some ⟨b2, 0, none⟩)), (8, .slice a2 (List.length y1) c2), (9, .int .i64 (List.length y1 : Int)), (10, .int .i64 s1.1)] ∧ m.le m3 ∧ St m3 (.blk b2 (.cells #[.slice a5 (List.length s1.2.1) c5] 25 (0, 0)) :: .blk b1 (.cells #[.slice none (List.length ([] : List (ByteArray × ByteArray))) 0] 25 (0, 0)) :: .blk bp0 (.cells #[.slice a6 (List.length s1.2.2.1) c6, .int .i64 s1.2.2.2] 28 (0, 0)) :: .room a2 (List.length y1) c2 9 1 :: .room a5 (List.length s1.2.1) c5 74 2 :: own) w' ∧ RepS cStr m3 a2 c2 y1 ∧ RepS (cPair cStr cStr) m3 a5 c5 s1.2.1 ∧ RepS (cInt .i64) m3 a6 c6 s1.2.2.1) N ⟨(0, ([] : List (ByteArray × ByteArray)), p0.1, p0.2), none, 0, a1, c1, m1, hr, rfl, hm, st, r2, (RepS.nil _ _), r1⟩ ?_)
 clear st hr
 rintro k1 _ w5 ⟨s1, a5, c5, a6, c6, m3, hL, rfl, hm, st, r2, r5, r6⟩
 rcases k1 with _ | k1
 ·exact loopM_zero hL
 ·obtain ⟨qu1, hr, hSu1, hBu1⟩ := loopM_succ hL
  clear hL
  unfold testgatemake_Revision_L1 at hr
  refine W_sr (WO_seg 1 [(11, .bool (decide (s1.1 < (List.length y1 : Int))))] kr kr ?_)
  refine WO_et rfl (W_seq ?_)
  refine W_cond (decide (s1.1 < (List.length y1 : Int))) kr ?_ ?_
  ·intro hc
   rw [if_pos hc] at hr
   refine W_skip ?_
   refine X_then ?_
   refine W_seq ?_
   replace ⟨o2, hr, hrKu2⟩ := bindS hr
   refine W_cut .normal (fun L' w' => ∃ (a7 : Option Addr) (c7 : Nat) (a8 : Option Addr) (c8 : Nat) (m4 : Mem), L' = [(0, .pointer (some ⟨bp0, 0, none⟩)), (2, .pointer (some ⟨b1, 0, none⟩)), (3, .pointer (some ⟨b2, 0, none⟩)), (8, .slice a2 (List.length y1) c2), (9, .int .i64 (List.length y1 : Int)), (10, .int .i64 s1.1)] ∧ m.le m4 ∧ St m4 (.blk b2 (.cells #[.slice a7 (List.length o2.1) c7] 25 (0, 0)) :: .blk b1 (.cells #[.slice none (List.length ([] : List (ByteArray × ByteArray))) 0] 25 (0, 0)) :: .blk bp0 (.cells #[.slice a8 (List.length o2.2.1) c8, .int .i64 o2.2.2] 28 (0, 0)) :: .room a2 (List.length y1) c2 9 1 :: .room a7 (List.length o2.1) c7 74 2 :: own) w' ∧ RepS cStr m4 a2 c2 y1 ∧ RepS (cPair cStr cStr) m4 a7 c7 o2.1 ∧ RepS (cInt .i64) m4 a8 c8 o2.2.1) ?_ ?_
   ·clear hr st
    have hr := hrKu2
    clear hrKu2
    rintro _ w6 ⟨a7, c7, a8, c8, m4, rfl, hm, st, r2, r7, r8⟩
    refine X_then ?_
    refine W_region ?_
    refine WO_seg 2 [(10, .int .i64 (IntKind.wrap .i64 (s1.1 + 1)))] kr kr ?_
    refine WO_end rfl ?_
    obtain rfl := Option.some.inj hr
    have hL := hSu1 _ rfl
    have st := st.front4.front4.front4.front4.front4
    exact X_env _ kr (X_round k1 (Nat.lt_succ_self _) ⟨(IntKind.wrap .i64 (s1.1 + 1), o2.1, o2.2.1, o2.2.2), a7, c7, a8, c8, m4, hL, rfl, hm, st, r2, r7, r8⟩)
   ·intro Ku2
    clear hrKu2
    refine W_block ?_
    refine W_sr ?_
    replace ⟨x1, hx2, hr⟩ := bindS hr
    refine WO_one rfl (One_index (d := 12) (t := 33) (e := 9) (x := (.tmp 8)) (y := (.tmp 10)) cStr kr rfl (ev (.slice a2 (List.length y1) c2)) (ev (.int .i64 s1.1)) kr r2 hx2 ?_)
    rintro b3 f1 cs1 rfl hq1
    refine WO_one rfl (One_load_row (d := 13) (t := 9) (x := (.tmp 12)) (.string x1) kr rfl (ev (.pointer (some ⟨b3, f1, none⟩))) st hq1 kr ?_)
    refine WO_seg 1 [(5, .string x1)] kr kr ?_
    refine WO_et rfl (W_sr ?_)
    refine WO_seg 1 [(14, .pointer (some ⟨bp0, 0, none⟩))] kr kr ?_
    have st := st.front2
    replace ⟨y2, hx3, hr⟩ := bindS hr
    refine WO_one rfl (One_fn 15 29 #[.pointer (some ⟨bp0, 0, none⟩), .int .i64 3, .int .i64 4] kr rfl ?_)
    refine (testgatemake_Tape_Chance_ok st r6 hx3).mono ?_
    clear st
    rintro _ w7 ⟨a9, c9, m5, rfl, hle2, st, r9⟩
    refine ⟨_, rfl, ?_⟩
    have hm := Mem.le_trans hm hle2
    have r2 := r2.mono hle2
    have r6 := r6.mono hle2
    have r5 := r5.mono hle2
    refine WO_et rfl (W_cond y2.2 kr ?_ ?_)
    ·intro hc
     rw [if_pos hc] at hr
     refine W_draw [(10, fun w' => Inv m5 w' ∧ True), (9, fun w' => Inv m5 w' ∧ Piece.holds m5 w' (.blk b2 (.cells #[.slice a5 (List.length s1.2.1) c5] 25 (0, 0))) ∧ True)] kr st ?_
     clear st
     intro w8 _ st
     have hmS1 := m5.le_refl
     refine ⟨⟨.inr ⟨Inv.anti st.inv hmS1, trivial⟩, ⟨.inr ⟨Inv.anti st.inv hmS1, Piece.holds_anti st.tail.head hmS1, trivial⟩, trivial⟩⟩, ?_⟩
     refine WA_load_own (t := 25) (x := (.tmp 3)) 0 16 (.agg #[.slice a5 (List.length s1.2.1) c5]) kr rfl kr (.tail _ (.head _)) (QP_block (QP_then (QP_then (QP_block (QP_then QP_body))))) (fun _ h => h.2.1) (ev (.pointer (some ⟨b2, 0, none⟩))) kr ?_
     refine WA_pure 1 17 (.string x1) kr rfl kr (.head _) (QP_block (QP_then (QP_then (QP_block (QP_then QP_body))))) ?_
     refine WA_pure 2 18 (.pointer (some ⟨bp0, 0, none⟩)) kr rfl kr (.head _) (QP_block (QP_then (QP_then (QP_block (QP_then QP_body))))) ?_
     refine WA_pure 3 19 (.pointer (some ⟨bp0, 0, none⟩)) kr rfl kr (.head _) (QP_block (QP_then (QP_then (QP_block (QP_then QP_body))))) ?_
     replace ⟨y3, hx4, hr⟩ := bindS hr
     refine WA_one 4 kr  (One_fn 20 59 #[] kr rfl ?_)
     refine (testgatemake_Packages_ok st hx4).mono ?_
     clear st
     rintro _ w9 ⟨a10, c10, m6, rfl, hle3, st, r10⟩
     refine ⟨_, rfl, ?_⟩
     have hm := Mem.le_trans hm hle3
     have r2 := r2.mono hle3
     have r5 := r5.mono hle3
     have r9 := r9.mono hle3
     have hmS1 := Mem.le_trans hmS1 hle3
     refine ⟨⟨.inr ⟨Inv.anti st.inv hmS1, trivial⟩, ⟨.inr ⟨Inv.anti st.inv hmS1, Piece.holds_anti st.tail.tail.head hmS1, trivial⟩, trivial⟩⟩, ?_⟩
     have st := st.front1
     replace ⟨y4, hx5, hr⟩ := bindS hr
     refine WA_one 5 kr  (One_fn 21 13 #[.pointer (some ⟨bp0, 0, none⟩), .slice a10 (List.length y3) c10] kr rfl ?_)
     refine (testgatemake_Tape_One_ok st r9 r10 hx5).mono ?_
     clear st
     rintro _ w10 ⟨a11, c11, m7, rfl, hle4, st, r11⟩
     refine ⟨_, rfl, ?_⟩
     have hm := Mem.le_trans hm hle4
     have r2 := r2.mono hle4
     have r5 := r5.mono hle4
     have r10 := r10.mono hle4
     have r9 := r9.mono hle4
     have hmS1 := Mem.le_trans hmS1 hle4
     refine ⟨⟨.inr ⟨Inv.anti st.inv hmS1, trivial⟩, ⟨.inr ⟨Inv.anti st.inv hmS1, Piece.holds_anti st.tail.tail.head hmS1, trivial⟩, trivial⟩⟩, ?_⟩
     replace ⟨y5, hx6, hr⟩ := bindS hr
     refine WA_one 6 kr  (One_fn 22 58 #[.pointer (some ⟨bp0, 0, none⟩), .string y4.2] kr rfl ?_)
     refine (testgatemake_Source_ok st r11 hx6).mono ?_
     clear st
     rintro _ w11 ⟨a12, c12, m8, rfl, hle5, st, r12⟩
     refine ⟨_, rfl, ?_⟩
     have hm := Mem.le_trans hm hle5
     have r2 := r2.mono hle5
     have r5 := r5.mono hle5
     have r10 := r10.mono hle5
     have r11 := r11.mono hle5
     have hmS1 := Mem.le_trans hmS1 hle5
     refine ⟨⟨.inr ⟨Inv.anti st.inv hmS1, trivial⟩, ⟨.inr ⟨Inv.anti st.inv hmS1, Piece.holds_anti st.tail.tail.head hmS1, trivial⟩, trivial⟩⟩, ?_⟩
     refine WA_pure 7 23 (.agg #[.string x1, .string y5.2]) kr rfl kr (.head _) (QP_block (QP_then (QP_then (QP_block (QP_then QP_body))))) ?_
     replace ⟨y6, hx7, hr⟩ := bindS hr
     refine WA_one 8 kr  (One_fn 24 55 #[.agg #[.slice a5 (List.length s1.2.1) c5], .agg #[.string x1, .string y5.2]] kr rfl ?_)
     refine (testgatemake_insert_ok st r5 hx7).mono ?_
     clear st
     rintro _ w12 ⟨a13, c13, m9, rfl, hle6, st, r13⟩
     refine ⟨_, rfl, ?_⟩
     have hm := Mem.le_trans hm hle6
     have r2 := r2.mono hle6
     have r5 := r5.mono hle6
     have r10 := r10.mono hle6
     have r12 := r12.mono hle6
     have hmS1 := Mem.le_trans hmS1 hle6
     refine ⟨⟨.inr ⟨Inv.anti st.inv hmS1, trivial⟩, ⟨.inr ⟨Inv.anti st.inv hmS1, Piece.holds_anti st.tail.tail.tail.head hmS1, trivial⟩, trivial⟩⟩, ?_⟩
     have st := st.front3
     refine WA_one 9 kr  (One_store (t := 25) (x := (.tmp 3)) (y := (.tmp 24)) (v := .agg #[.slice a13 (List.length y6) c13]) (c' := #[.slice a13 (List.length y6) c13]) kr (ev (.pointer (some ⟨b2, 0, none⟩))) (ev (.agg #[.slice a13 (List.length y6) c13])) st kr kr ?_)
     clear st
     intro w13 st
     refine ⟨⟨.inr ⟨Inv.anti st.inv hmS1, trivial⟩, ⟨.inl rfl, trivial⟩⟩, ?_⟩
     refine WA_done kr ?_
     have st := st.front3
     have st := st.tail
     have st := st.front5
     have st := st.tail
     refine X_block ?_
     obtain rfl := Option.some.inj hr
     have st := st.front1.front4.front3.front4.front4
     exact X_env _ kr (Ku2 _ _ ⟨a13, c13, a12, c12, m9, rfl, hm, st, r2, r13, r12⟩)
    ·intro hc
     rw [if_neg (not_true hc)] at hr
     refine W_skip ?_
     refine X_block ?_
     obtain rfl := Option.some.inj hr
     have st := st.front4.front4.front2.front4.front4
     exact X_env _ kr (Ku2 _ _ ⟨a5, c5, a9, c9, m5, rfl, hm, st, r2, r5, r9⟩)
  ·intro hc
   rw [if_neg (not_true hc)] at hr
   refine W_exit ?_
   refine X_then_exit ?_
   obtain rfl := Option.some.inj hr
   have ho := hBu1 _ rfl
   have st := st.front4.front4.front4.front4.front4
   refine X_then_exit ?_
   exact X_env _ kr (K0_u1 _ _ ⟨(s1.2.1, s1.2.2.1, s1.2.2.2), a5, c5, a6, c6, m3, ho, rfl, hm, st, r5, r6⟩)
def testgateref04_letter (N : Nat) (p0 : Int) : Option (Bool) :=
 (if (decide (p0 ≥ 97)) = true then (some (decide (p0 ≤ 122))) else (some false) : Option (Bool)).bind fun o1 => some o1
set_option maxHeartbeats 4000000 in
set_option maxRecDepth 100000 in
theorem testgateref04_letter_ok {N : Nat} {m : Mem} {own : List Piece} {w : World} {p0 : Int} {r : Bool} (st : St m (own) w) (hr : testgateref04_letter N p0 = some r) : Calls Tryz.prog 125 #[.int .u8 p0] w fun e w' => ∃ (m' : Mem), e = .returned (.bool r) ∧ m.le m' ∧ St m' (own) w' := by
 unfold testgateref04_letter at hr
 have hm := m.le_refl
 refine W_calls Tryz.func125 rfl Tryz.ntmps125 [(0, .int .u8 p0)] kr rfl ?_
 refine W_sr (WO_seg 1 [] kr kr ?_)
 refine WO_et rfl (W_sr ?_)
 replace ⟨o1, hr, hrK⟩ := bindS hr
 refine WO_cut (j := 7) (fun L' w' => ∃ (m1 : Mem), L' = [(2, .bool o1)] ∧ m.le m1 ∧ St m1 (own) w') ?_ ?_
 ·clear hr st
  have hr := hrK
  clear hrK
  rintro _ w1 ⟨m1, rfl, hm, st⟩
  refine WO_et rfl (W_ret ?_)
  obtain rfl := Option.some.inj hr
  refine X_ret [.tmp 2] [.bool o1] rfl (ResAll.cons (ResAt.tmp kr) ResAll.nil) ?_
  exact ⟨m1, rfl, hm, st⟩
 ·intro K
  clear hrK
  refine WO_seg 3 [(5, .bool (decide (p0 ≥ 97)))] kr kr ?_
  rcases bcases (decide (p0 ≥ 97)) with hc | hc
  ·rw [if_pos hc] at hr
   refine WO_fact (t := 5) (b := true) (decide (p0 ≥ 97)) kr hc ?_
   refine WO_seg 4 [(2, .bool (decide (p0 ≤ 122)))] kr kr ?_
   obtain rfl := Option.some.inj hr
   exact WO_env _ kr (K _ _ ⟨m, rfl, hm, st⟩)
  ·rw [if_neg (not_true hc)] at hr
   refine WO_fact (t := 5) (b := false) (decide (p0 ≥ 97)) kr hc ?_
   refine WO_seg 4 [(2, .bool false)] kr kr ?_
   obtain rfl := Option.some.inj hr
   exact WO_env _ kr (K _ _ ⟨m, rfl, hm, st⟩)
def testgateref04_inner (N : Nat) (p0 : Int) : Option (Bool) :=
 ((testgateref04_letter N p0).bind fun y1 => if y1 = true then (some true) else (if (decide (p0 ≥ 48)) = true then (if (decide (p0 ≤ 57)) = true then (some true) else (some (p0 == 95))) else (some (p0 == 95))) : Option (Bool)).bind fun o1 => some o1
set_option maxHeartbeats 4000000 in
set_option maxRecDepth 100000 in
theorem testgateref04_inner_ok {N : Nat} {m : Mem} {own : List Piece} {w : World} {p0 : Int} {r : Bool} (st : St m (own) w) (hr : testgateref04_inner N p0 = some r) : Calls Tryz.prog 126 #[.int .u8 p0] w fun e w' => ∃ (m' : Mem), e = .returned (.bool r) ∧ m.le m' ∧ St m' (own) w' := by
 unfold testgateref04_inner at hr
 have hm := m.le_refl
 refine W_calls Tryz.func126 rfl Tryz.ntmps126 [(0, .int .u8 p0)] kr rfl ?_
 refine W_sr (WO_seg 1 [] kr kr ?_)
 refine WO_et rfl (W_sr ?_)
 replace ⟨o1, hr, hrK⟩ := bindS hr
 refine WO_cut (j := 15) (fun L' w' => ∃ (m1 : Mem), L' = [(2, .bool o1)] ∧ m.le m1 ∧ St m1 (own) w') ?_ ?_
 ·clear hr st
  have hr := hrK
  clear hrK
  rintro _ w1 ⟨m1, rfl, hm, st⟩
  refine WO_et rfl (W_ret ?_)
  obtain rfl := Option.some.inj hr
  refine X_ret [.tmp 2] [.bool o1] rfl (ResAll.cons (ResAt.tmp kr) ResAll.nil) ?_
  exact ⟨m1, rfl, hm, st⟩
 ·intro K
  clear hrK
  refine WO_seg 1 [(3, .int .u8 p0)] kr kr ?_
  replace ⟨y1, hx1, hr⟩ := bindS hr
  refine WO_one rfl (One_fn 4 125 #[.int .u8 p0] kr rfl ?_)
  refine (testgateref04_letter_ok st hx1).mono ?_
  clear st
  rintro _ w2 ⟨m2, rfl, hle1, st⟩
  refine ⟨_, rfl, ?_⟩
  have hm := Mem.le_trans hm hle1
  refine WO_seg 1 [(5, .bool y1)] kr kr ?_
  rcases bcases y1 with hc | hc
  ·rw [if_pos hc] at hr
   refine WO_fact (t := 5) (b := true) y1 kr hc ?_
   refine WO_seg 12 [(2, .bool true)] kr kr ?_
   obtain rfl := Option.some.inj hr
   exact WO_env _ kr (K _ _ ⟨m2, rfl, hm, st⟩)
  ·rw [if_neg (not_true hc)] at hr
   refine WO_fact (t := 5) (b := false) y1 kr hc ?_
   refine WO_seg 3 [(8, .bool (decide (p0 ≥ 48)))] kr kr ?_
   rcases bcases (decide (p0 ≥ 48)) with hc | hc
   ·rw [if_pos hc] at hr
    refine WO_fact (t := 8) (b := true) (decide (p0 ≥ 48)) kr hc ?_
    refine WO_seg 5 [(13, .bool (decide (p0 ≤ 57)))] kr kr ?_
    rcases bcases (decide (p0 ≤ 57)) with hc | hc
    ·rw [if_pos hc] at hr
     refine WO_fact (t := 13) (b := true) (decide (p0 ≤ 57)) kr hc ?_
     refine WO_seg 4 [(2, .bool true)] kr kr ?_
     obtain rfl := Option.some.inj hr
     exact WO_env _ kr (K _ _ ⟨m2, rfl, hm, st⟩)
    ·rw [if_neg (not_true hc)] at hr
     refine WO_fact (t := 13) (b := false) (decide (p0 ≤ 57)) kr hc ?_
     refine WO_seg 4 [(2, .bool (p0 == 95))] kr kr ?_
     obtain rfl := Option.some.inj hr
     exact WO_env _ kr (K _ _ ⟨m2, rfl, hm, st⟩)
   ·rw [if_neg (not_true hc)] at hr
    refine WO_fact (t := 8) (b := false) (decide (p0 ≥ 48)) kr hc ?_
    refine WO_seg 9 [(2, .bool (p0 == 95))] kr kr ?_
    obtain rfl := Option.some.inj hr
    exact WO_env _ kr (K _ _ ⟨m2, rfl, hm, st⟩)
def testgateref04_Path_L1 (N : Nat) (p0 : ByteArray) (s1 : Int × Int × Int) : Option ((Int × Int × Int) ⊕ ((Int × Int) ⊕ (Bool))) :=
 if (decide (s1.2.2 < (ByteArray.size p0 : Int))) = true then (((idxB p0 s1.2.2).bind fun x1 => if ((x1.toNat : Int) == 47) = true then (if (s1.2.1 == 0) = true then (some (.inr (.inr (.inr (false))))) else (some (.inl (IntKind.wrap .i64 (s1.1 + 1), 0)))) else (((idxB p0 s1.2.2).bind fun x2 => (testgateref04_inner N (x2.toNat : Int)).bind fun y1 => if y1 = true then (some true) else ((idxB p0 s1.2.2).bind fun x3 => some ((x3.toNat : Int) == 46)) : Option (Bool)).bind fun o3 => if o3 = true then (some (.inl (s1.1, IntKind.wrap .i64 (s1.2.1 + 1)))) else (some (.inr (.inr (.inr (false)))))) : Option ((Int × Int) ⊕ ((Int × Int × Int) ⊕ ((Int × Int) ⊕ (Bool))))).bind fun qu2 => (match qu2 with | .inl o2 => if (decide (o2.2 > 24)) = true then (some (.inr (.inr (false)))) else (some (.inl (o2.1, o2.2, IntKind.wrap .i64 (s1.2.2 + 1)))) | .inr z => some z)) else (some (.inr (.inl (s1.1, s1.2.1))))
def testgateref04_Path (N : Nat) (p0 : ByteArray) : Option (Bool) :=
 if (decide ((ByteArray.size p0 : Int) > 80)) = true then (some false) else ((loopM (testgateref04_Path_L1 N p0) N (1, 0, 0)).bind fun out1 => (match out1 with | .inl o1 => (if (decide (o1.2 > 0)) = true then (some (decide (o1.1 ≤ 8))) else (some false) : Option (Bool)).bind fun o4 => some o4 | .inr (z) => some z))
set_option maxHeartbeats 4000000 in
set_option maxRecDepth 100000 in
theorem testgateref04_Path_ok {N : Nat} {m : Mem} {own : List Piece} {w : World} {p0 : ByteArray} {r : Bool} (st : St m (own) w) (hr : testgateref04_Path N p0 = some r) : Calls Tryz.prog 72 #[.string p0] w fun e w' => ∃ (m' : Mem), e = .returned (.bool r) ∧ m.le m' ∧ St m' (own) w' := by
 unfold testgateref04_Path at hr
 have hm := m.le_refl
 refine W_calls Tryz.func72 rfl Tryz.ntmps72 [(0, .string p0)] kr rfl ?_
 refine W_sr (WO_seg 1 [] kr kr ?_)
 refine WO_et rfl (W_sr ?_)
 refine WO_seg 2 [(3, .int .i64 1), (4, .int .i64 0)] kr kr ?_
 refine WO_et rfl (W_seq ?_)
 refine W_sr (WO_seg 3 [(8, .bool (decide ((ByteArray.size p0 : Int) > 80)))] kr kr ?_)
 refine WO_et rfl (W_cond (decide ((ByteArray.size p0 : Int) > 80)) kr ?_ ?_)
 ·intro hc
  rw [if_pos hc] at hr
  refine W_sr (WO_seg 1 [(2, .bool false)] kr kr ?_)
  refine WO_et rfl (W_ret ?_)
  refine X_then_ret ?_
  obtain rfl := Option.some.inj hr
  refine X_ret [.tmp 2] [.bool false] rfl (ResAll.cons (ResAt.tmp kr) ResAll.nil) ?_
  exact ⟨m, rfl, hm, st⟩
 ·intro hc
  rw [if_neg (not_true hc)] at hr
  refine W_skip ?_
  refine X_then ?_
  refine W_seq ?_
  refine W_sr (WO_seg 1 [(5, .int .i64 0)] kr kr ?_)
  refine WO_et rfl (W_block ?_)
  replace ⟨out1, hr, hrKu1⟩ := bindS hr
  refine W_cut (.exit 0) (fun L' w' => ∃ (o1 : Int × Int) (m1 : Mem), (.inl o1) = out1 ∧ L' = [(3, .int .i64 o1.1), (4, .int .i64 o1.2)] ∧ m.le m1 ∧ St m1 (own) w') ?_ ?_
  ·clear hr st
   rintro _ w1 ⟨o1, m1, rfl, rfl, hm, st⟩
   have hr := hrKu1
   clear hrKu1
   dsimp only at hr
   refine X_block_eq ?_
   refine X_then ?_
   refine W_sr ?_
   replace ⟨o4, hr, hrK⟩ := bindS hr
   refine WO_cut (j := 7) (fun L' w' => ∃ (m6 : Mem), L' = [(2, .bool o4)] ∧ m.le m6 ∧ St m6 (own) w') ?_ ?_
   ·clear hr st
    have hr := hrK
    clear hrK
    rintro _ w6 ⟨m6, rfl, hm, st⟩
    refine WO_et rfl (W_ret ?_)
    obtain rfl := Option.some.inj hr
    refine X_ret [.tmp 2] [.bool o4] rfl (ResAll.cons (ResAt.tmp kr) ResAll.nil) ?_
    exact ⟨m6, rfl, hm, st⟩
   ·intro K
    clear hrK
    refine WO_seg 3 [(41, .bool (decide (o1.2 > 0)))] kr kr ?_
    rcases bcases (decide (o1.2 > 0)) with hc | hc
    ·rw [if_pos hc] at hr
     refine WO_fact (t := 41) (b := true) (decide (o1.2 > 0)) kr hc ?_
     refine WO_seg 4 [(2, .bool (decide (o1.1 ≤ 8)))] kr kr ?_
     obtain rfl := Option.some.inj hr
     exact WO_env _ kr (K _ _ ⟨m1, rfl, hm, st⟩)
    ·rw [if_neg (not_true hc)] at hr
     refine WO_fact (t := 41) (b := false) (decide (o1.2 > 0)) kr hc ?_
     refine WO_seg 4 [(2, .bool false)] kr kr ?_
     obtain rfl := Option.some.inj hr
     exact WO_env _ kr (K _ _ ⟨m1, rfl, hm, st⟩)
  intro K0_u1
  refine W_env _ kr (W_loop (fun k1 L' w' => ∃ (s1 : Int × Int × Int) (m2 : Mem), loopM (testgateref04_Path_L1 N p0) k1 s1 = some out1 ∧ L' = [(0, .string p0), (3, .int .i64 s1.1), (4, .int .i64 s1.2.1), (5, .int .i64 s1.2.2)] ∧ m.le m2 ∧ St m2 (own) w') N ⟨(1, 0, 0), m, hr, rfl, hm, st⟩ ?_)
  clear st hr
  rintro k1 _ w2 ⟨s1, m2, hL, rfl, hm, st⟩
  rcases k1 with _ | k1
  ·exact loopM_zero hL
  ·obtain ⟨qu1, hr, hSu1, hBu1⟩ := loopM_succ hL
   clear hL
   unfold testgateref04_Path_L1 at hr
   refine W_seq ?_
   refine W_sr (WO_seg 4 [(12, .bool (decide (s1.2.2 < (ByteArray.size p0 : Int))))] kr kr ?_)
   refine WO_et rfl (W_cond (decide (s1.2.2 < (ByteArray.size p0 : Int))) kr ?_ ?_)
   ·intro hc
    rw [if_pos hc] at hr
    refine W_skip ?_
    refine X_then ?_
    refine W_seq ?_
    refine W_block ?_
    refine W_seq ?_
    replace ⟨qu2, hr, hrKu2⟩ := bindS hr
    refine W_cut .normal (fun L' w' => ∃ (o2 : Int × Int) (m3 : Mem), (.inl o2 : (Int × Int) ⊕ ((Int × Int × Int) ⊕ ((Int × Int) ⊕ (Bool)))) = qu2 ∧ L' = [(0, .string p0), (3, .int .i64 o2.1), (4, .int .i64 o2.2), (5, .int .i64 s1.2.2)] ∧ m.le m3 ∧ St m3 (own) w') ?_ ?_
    ·clear hr st
     rintro _ w3 ⟨o2, m3, rfl, rfl, hm, st⟩
     have hr := hrKu2
     clear hrKu2
     dsimp only at hr
     refine X_then ?_
     refine W_sr (WO_seg 2 [(38, .bool (decide (o2.2 > 24)))] kr kr ?_)
     refine WO_et rfl (W_cond (decide (o2.2 > 24)) kr ?_ ?_)
     ·intro hc
      rw [if_pos hc] at hr
      refine W_sr (WO_seg 1 [(2, .bool false)] kr kr ?_)
      refine WO_et rfl (W_ret ?_)
      refine X_block_ret ?_
      refine X_then_ret ?_
      obtain rfl := Option.some.inj hr
      have ho := hBu1 _ rfl
      subst ho
      have hr := hrKu1
      dsimp only at hr
      refine X_then_ret ?_
      refine X_block_ret ?_
      refine X_then_ret ?_
      obtain rfl := Option.some.inj hr
      refine X_ret [.tmp 2] [.bool false] rfl (ResAll.cons (ResAt.tmp kr) ResAll.nil) ?_
      exact ⟨m3, rfl, hm, st⟩
     ·intro hc
      rw [if_neg (not_true hc)] at hr
      refine W_skip ?_
      refine X_block ?_
      refine X_then ?_
      refine W_region ?_
      refine WO_seg 3 [(5, .int .i64 (IntKind.wrap .i64 (s1.2.2 + 1)))] kr kr ?_
      refine WO_end rfl ?_
      obtain rfl := Option.some.inj hr
      have hL := hSu1 _ rfl
      exact X_env _ kr (X_round k1 (Nat.lt_succ_self _) ⟨(o2.1, o2.2, IntKind.wrap .i64 (s1.2.2 + 1)), m3, hL, rfl, hm, st⟩)
    ·intro Ku2
     refine W_block ?_
     refine W_sr (WO_seg 2 [(16, .string p0), (17, .int .i64 s1.2.2)] kr kr ?_)
     replace ⟨x1, hx1, hr⟩ := bindS hr
     refine WO_one rfl (One_strIndex (d := 18) (t := 9) (x := (.tmp 16)) (y := (.tmp 17)) kr rfl (ev (.string p0)) (ev (.int .i64 s1.2.2)) kr hx1 ?_)
     refine WO_seg 2 [(15, .bool ((x1.toNat : Int) == 47))] kr kr ?_
     refine WO_et rfl (W_cond ((x1.toNat : Int) == 47) kr ?_ ?_)
     ·intro hc
      rw [if_pos hc] at hr
      refine W_seq ?_
      refine W_sr (WO_seg 2 [(21, .bool (s1.2.1 == 0))] kr kr ?_)
      refine WO_et rfl (W_cond (s1.2.1 == 0) kr ?_ ?_)
      ·intro hc
       rw [if_pos hc] at hr
       refine W_sr (WO_seg 1 [(2, .bool false)] kr kr ?_)
       refine WO_et rfl (W_ret ?_)
       refine X_then_ret ?_
       refine X_block_ret ?_
       obtain rfl := Option.some.inj hr
       have hr := hrKu2
       try dsimp only at hr
       refine X_then_ret ?_
       refine X_block_ret ?_
       refine X_then_ret ?_
       obtain rfl := Option.some.inj hr
       have ho := hBu1 _ rfl
       subst ho
       have hr := hrKu1
       dsimp only at hr
       refine X_then_ret ?_
       refine X_block_ret ?_
       refine X_then_ret ?_
       obtain rfl := Option.some.inj hr
       refine X_ret [.tmp 2] [.bool false] rfl (ResAll.cons (ResAt.tmp kr) ResAll.nil) ?_
       exact ⟨m2, rfl, hm, st⟩
      ·intro hc
       rw [if_neg (not_true hc)] at hr
       refine W_skip ?_
       refine X_then ?_
       refine W_region ?_
       refine WO_seg 4 [(3, .int .i64 (IntKind.wrap .i64 (s1.1 + 1))), (4, .int .i64 0)] kr kr ?_
       refine WO_end rfl ?_
       refine X_block ?_
       have hqu2 := Option.some.inj hr
       exact X_env _ kr (Ku2 _ _ ⟨(IntKind.wrap .i64 (s1.1 + 1), 0), m2, hqu2, rfl, hm, st⟩)
     ·intro hc
      rw [if_neg (not_true hc)] at hr
      refine W_sr ?_
      replace ⟨o3, hr, hrK⟩ := bindS hr
      refine WO_cut (j := 11) (fun L' w' => ∃ (m4 : Mem), L' = [(0, .string p0), (3, .int .i64 s1.1), (4, .int .i64 s1.2.1), (5, .int .i64 s1.2.2), (24, .bool o3)] ∧ m.le m4 ∧ St m4 (own) w') ?_ ?_
      ·clear hr st
       have hr := hrK
       clear hrK
       rintro _ w4 ⟨m4, rfl, hm, st⟩
       refine WO_et rfl (W_cond o3 kr ?_ ?_)
       ·intro hc
        rw [if_pos hc] at hr
        refine W_region ?_
        refine WO_seg 3 [(4, .int .i64 (IntKind.wrap .i64 (s1.2.1 + 1)))] kr kr ?_
        refine WO_end rfl ?_
        refine X_block ?_
        have hqu2 := Option.some.inj hr
        exact X_env _ kr (Ku2 _ _ ⟨(s1.1, IntKind.wrap .i64 (s1.2.1 + 1)), m4, hqu2, rfl, hm, st⟩)
       ·intro hc
        rw [if_neg (not_true hc)] at hr
        refine W_sr (WO_seg 1 [(2, .bool false)] kr kr ?_)
        refine WO_et rfl (W_ret ?_)
        refine X_block_ret ?_
        obtain rfl := Option.some.inj hr
        have hr := hrKu2
        try dsimp only at hr
        refine X_then_ret ?_
        refine X_block_ret ?_
        refine X_then_ret ?_
        obtain rfl := Option.some.inj hr
        have ho := hBu1 _ rfl
        subst ho
        have hr := hrKu1
        dsimp only at hr
        refine X_then_ret ?_
        refine X_block_ret ?_
        refine X_then_ret ?_
        obtain rfl := Option.some.inj hr
        refine X_ret [.tmp 2] [.bool false] rfl (ResAll.cons (ResAt.tmp kr) ResAll.nil) ?_
        exact ⟨m4, rfl, hm, st⟩
      ·intro K
       clear hrK
       refine WO_seg 2 [(25, .string p0), (26, .int .i64 s1.2.2)] kr kr ?_
       replace ⟨x2, hx2, hr⟩ := bindS hr
       refine WO_one rfl (One_strIndex (d := 27) (t := 9) (x := (.tmp 25)) (y := (.tmp 26)) kr rfl (ev (.string p0)) (ev (.int .i64 s1.2.2)) kr hx2 ?_)
       replace ⟨y1, hx3, hr⟩ := bindS hr
       refine WO_one rfl (One_fn 28 126 #[.int .u8 (x2.toNat : Int)] kr rfl ?_)
       refine (testgateref04_inner_ok st hx3).mono ?_
       clear st
       rintro _ w5 ⟨m5, rfl, hle1, st⟩
       refine ⟨_, rfl, ?_⟩
       have hm := Mem.le_trans hm hle1
       refine WO_seg 1 [(29, .bool y1)] kr kr ?_
       rcases bcases y1 with hc | hc
       ·rw [if_pos hc] at hr
        refine WO_fact (t := 29) (b := true) y1 kr hc ?_
        refine WO_seg 6 [(24, .bool true)] kr kr ?_
        obtain rfl := Option.some.inj hr
        exact WO_env _ kr (K _ _ ⟨m5, rfl, hm, st⟩)
       ·rw [if_neg (not_true hc)] at hr
        refine WO_fact (t := 29) (b := false) y1 kr hc ?_
        refine WO_seg 2 [(30, .string p0), (31, .int .i64 s1.2.2)] kr kr ?_
        replace ⟨x3, hx4, hr⟩ := bindS hr
        refine WO_one rfl (One_strIndex (d := 32) (t := 9) (x := (.tmp 30)) (y := (.tmp 31)) kr rfl (ev (.string p0)) (ev (.int .i64 s1.2.2)) kr hx4 ?_)
        refine WO_seg 3 [(24, .bool ((x3.toNat : Int) == 46))] kr kr ?_
        obtain rfl := Option.some.inj hr
        exact WO_env _ kr (K _ _ ⟨m5, rfl, hm, st⟩)
   ·intro hc
    rw [if_neg (not_true hc)] at hr
    refine W_exit ?_
    refine X_then_exit ?_
    obtain rfl := Option.some.inj hr
    have ho := hBu1 _ rfl
    refine X_then_exit ?_
    exact X_env _ kr (K0_u1 _ _ ⟨(s1.1, s1.2.1), m2, ho, rfl, hm, st⟩)
def testgateref07_Check_L1 (N : Nat) (p0 : (List (ByteArray × ByteArray))) (s1 : Int) : Option ((Int) ⊕ ((Unit) ⊕ (Int))) :=
 if (decide (s1 < (List.length p0 : Int))) = true then ((idx p0 s1).bind fun x1 => (testgateref04_Path N x1.1).bind fun y1 => if (!y1) = true then (some (.inr (.inr (6)))) else ((if (decide (s1 > 0)) = true then ((idx p0 (IntKind.wrap .i64 (s1 - 1))).bind fun x2 => some (x1.1.toList == x2.1.toList)) else (some false) : Option (Bool)).bind fun o2 => if o2 = true then (some (.inr (.inr (10)))) else ((if (decide (s1 > 0)) = true then ((idx p0 (IntKind.wrap .i64 (s1 - 1))).bind fun x3 => some (Op.bytesLess x1.1.toList x3.1.toList)) else (some false) : Option (Bool)).bind fun o3 => if o3 = true then (some (.inr (.inr (6)))) else (if (decide ((ByteArray.size x1.2 : Int) > 16384)) = true then (some (.inr (.inr (2)))) else (some (.inl (IntKind.wrap .i64 (s1 + 1)))))))) else (some (.inr (.inl ())))
def testgateref07_Check (N : Nat) (p0 : (List (ByteArray × ByteArray))) : Option (Int) :=
 if (decide ((List.length p0 : Int) > 64)) = true then (some 2) else ((loopM (testgateref07_Check_L1 N p0) N 0).bind fun out1 => (match out1 with | .inl o1 => some 0 | .inr (z) => some z))
set_option maxHeartbeats 4000000 in
set_option maxRecDepth 100000 in
theorem testgateref07_Check_ok {N : Nat} {m : Mem} {own : List Piece} {w : World} {p0 : (List (ByteArray × ByteArray))} {a1 : Option Addr} {c1 : Nat} {r : Int} (st : St m (own) w) (r1 : RepS (cPair cStr cStr) m a1 c1 p0) (hr : testgateref07_Check N p0 = some r) : Calls Tryz.prog 66 #[.agg #[.slice a1 (List.length p0) c1]] w fun e w' => ∃ (m' : Mem), e = .returned (.int .i64 r) ∧ m.le m' ∧ St m' (own) w' := by
 unfold testgateref07_Check at hr
 have hm := m.le_refl
 refine W_calls Tryz.func66 rfl Tryz.ntmps66 [(0, .agg #[.slice a1 (List.length p0) c1])] kr rfl ?_
 refine W_sr (WO_one rfl (One_box (d := 1) (e := 25) (x := (.tmp 0)) (.agg #[.slice a1 (List.length p0) c1]) kr rfl kr st ?_))
 clear st
 intro b1 m1 w1 hle1 st hb1
 have hm := Mem.le_trans hm hle1
 have r1 := r1.mono hle1
 refine WO_seg 1 [] kr kr ?_
 refine WO_et rfl (W_seq ?_)
 refine W_sr (WO_seg 1 [(5, .pointer (some ⟨b1, 0, none⟩))] kr kr ?_)
 refine WO_one rfl (One_load_row (d := 6) (t := 23) (x := (.tmp 5)) (.slice a1 (List.length p0) c1) kr rfl (ev (.pointer (some ⟨b1, 0, none⟩))) st hb1 kr ?_)
 refine WO_seg 2 [(8, .bool (decide ((List.length p0 : Int) > 64)))] kr kr ?_
 refine WO_et rfl (W_cond (decide ((List.length p0 : Int) > 64)) kr ?_ ?_)
 ·intro hc
  rw [if_pos hc] at hr
  refine W_sr (WO_seg 1 [(2, .int .i64 2)] kr kr ?_)
  refine WO_et rfl (W_ret ?_)
  refine X_then_ret ?_
  obtain rfl := Option.some.inj hr
  refine X_ret [.tmp 2] [.int .i64 2] rfl (ResAll.cons (ResAt.tmp kr) ResAll.nil) ?_
  exact ⟨m1, rfl, hm, st⟩
 ·intro hc
  rw [if_neg (not_true hc)] at hr
  refine W_skip ?_
  refine X_then ?_
  refine W_seq ?_
  refine W_sr (WO_seg 1 [(9, .pointer (some ⟨b1, 0, none⟩))] kr kr ?_)
  refine WO_one rfl (One_load_row (d := 10) (t := 23) (x := (.tmp 9)) (.slice a1 (List.length p0) c1) kr rfl (ev (.pointer (some ⟨b1, 0, none⟩))) st hb1 kr ?_)
  refine WO_seg 2 [(11, .int .i64 (List.length p0 : Int)), (12, .int .i64 0)] kr kr ?_
  refine WO_et rfl (W_block ?_)
  replace ⟨out1, hr, hrKu1⟩ := bindS hr
  refine W_cut (.exit 0) (fun L' w' => ∃ (o1 : Unit) (m2 : Mem), (.inl o1) = out1 ∧ L' = [] ∧ m.le m2 ∧ St m2 (own) w') ?_ ?_
  ·clear hr st
   rintro _ w2 ⟨o1, m2, rfl, rfl, hm, st⟩
   have hr := hrKu1
   clear hrKu1
   dsimp only at hr
   refine X_block_eq ?_
   refine X_then ?_
   refine W_sr (WO_seg 1 [(2, .int .i64 0)] kr kr ?_)
   refine WO_et rfl (W_ret ?_)
   obtain rfl := Option.some.inj hr
   refine X_ret [.tmp 2] [.int .i64 0] rfl (ResAll.cons (ResAt.tmp kr) ResAll.nil) ?_
   exact ⟨m2, rfl, hm, st⟩
  intro K0_u1
  refine W_env _ kr (W_loop (fun k1 L' w' => ∃ (s1 : Int) (m3 : Mem), loopM (testgateref07_Check_L1 N p0) k1 s1 = some out1 ∧ L' = [(1, .pointer (some ⟨b1, 0, none⟩)), (10, .slice a1 (List.length p0) c1), (11, .int .i64 (List.length p0 : Int)), (12, .int .i64 s1)] ∧ m.le m3 ∧ St m3 (own) w' ∧ MRow m3 b1 0 [.slice a1 (List.length p0) c1] ∧ RepS (cPair cStr cStr) m3 a1 c1 p0) N ⟨0, m1, hr, rfl, hm, st, hb1, r1⟩ ?_)
  clear st hr
  rintro k1 _ w3 ⟨s1, m3, hL, rfl, hm, st, hb1, r1⟩
  rcases k1 with _ | k1
  ·exact loopM_zero hL
  ·obtain ⟨qu1, hr, hSu1, hBu1⟩ := loopM_succ hL
   clear hL
   unfold testgateref07_Check_L1 at hr
   refine W_sr (WO_seg 1 [(13, .bool (decide (s1 < (List.length p0 : Int))))] kr kr ?_)
   refine WO_et rfl (W_seq ?_)
   refine W_cond (decide (s1 < (List.length p0 : Int))) kr ?_ ?_
   ·intro hc
    rw [if_pos hc] at hr
    refine W_skip ?_
    refine X_then ?_
    refine W_seq ?_
    refine W_block ?_
    refine W_sr (WO_seg 1 [(14, .int .i64 s1)] kr kr ?_)
    replace ⟨x1, hx1, hr⟩ := bindS hr
    refine WO_one rfl (One_index (d := 15) (t := 23) (e := 74) (x := (.tmp 10)) (y := (.tmp 12)) (cPair cStr cStr) kr rfl (ev (.slice a1 (List.length p0) c1)) (ev (.int .i64 s1)) kr r1 hx1 ?_)
    rintro b2 f1 cs1 ⟨_, _, rfl, rfl, rfl⟩ hq1
    refine WO_one rfl (One_load_row (d := 16) (t := 74) (x := (.tmp 15)) (.agg #[.string x1.1, .string x1.2]) kr rfl (ev (.pointer (some ⟨b2, f1, none⟩))) st hq1 kr ?_)
    refine WO_one rfl (One_alloc (d := 4) (e := 74) (.agg #[.string (⟨#[]⟩ : ByteArray), .string (⟨#[]⟩ : ByteArray)]) kr rfl kr st ?_)
    clear st
    intro b3 w4 st
    refine WO_seg 1 [(3, .int .i64 s1)] kr kr ?_
    refine WO_one rfl (One_store (t := 74) (x := (.tmp 4)) (y := (.tmp 16)) (v := .agg #[.string x1.1, .string x1.2]) (c' := #[.string x1.1, .string x1.2]) kr (ev (.pointer (some ⟨b3, 0, none⟩))) (ev (.agg #[.string x1.1, .string x1.2])) st kr kr ?_)
    clear st
    intro w5 st
    refine WO_et rfl (W_seq ?_)
    refine W_sr (WO_seg 1 [(17, .pointer (some ⟨b3, 0, none⟩))] kr kr ?_)
    refine WO_one rfl (One_load_own (d := 18) (t := 9) (x := (.tmp 17)) (.string x1.1) kr rfl (ev (.pointer (some ⟨b3, 0, none⟩))) st.head kr ?_)
    replace ⟨y1, hx2, hr⟩ := bindS hr
    refine WO_one rfl (One_fn 19 72 #[.string x1.1] kr rfl ?_)
    refine (testgateref04_Path_ok st hx2).mono ?_
    clear st
    rintro _ w6 ⟨m4, rfl, hle2, st⟩
    refine ⟨_, rfl, ?_⟩
    have hm := Mem.le_trans hm hle2
    have hb1 := hb1.mono hle2
    have r1 := r1.mono hle2
    refine WO_seg 1 [(20, .bool (!y1))] kr kr ?_
    refine WO_et rfl (W_cond (!y1) kr ?_ ?_)
    ·intro hc
     rw [if_pos hc] at hr
     refine W_sr (WO_seg 1 [(2, .int .i64 6)] kr kr ?_)
     refine WO_et rfl (W_ret ?_)
     refine X_then_ret ?_
     refine X_block_ret ?_
     refine X_then_ret ?_
     obtain rfl := Option.some.inj hr
     have ho := hBu1 _ rfl
     subst ho
     have hr := hrKu1
     dsimp only at hr
     refine X_then_ret ?_
     refine X_block_ret ?_
     refine X_then_ret ?_
     obtain rfl := Option.some.inj hr
     refine X_ret [.tmp 2] [.int .i64 6] rfl (ResAll.cons (ResAt.tmp kr) ResAll.nil) ?_
     have st := st.tail
     exact ⟨m4, rfl, hm, st⟩
    ·intro hc
     rw [if_neg (not_true hc)] at hr
     refine W_skip ?_
     refine X_then ?_
     refine W_seq ?_
     refine W_seq ?_
     replace ⟨o2, hr, hrK⟩ := bindS hr
     refine W_cut .normal (fun L' w' => ∃ (m5 : Mem), L' = [(1, .pointer (some ⟨b1, 0, none⟩)), (3, .int .i64 s1), (4, .pointer (some ⟨b3, 0, none⟩)), (10, .slice a1 (List.length p0) c1), (11, .int .i64 (List.length p0 : Int)), (12, .int .i64 s1), (34, .bool o2)] ∧ m.le m5 ∧ St m5 (.blk b3 (.cells #[.string x1.1, .string x1.2] 74 (0, 0)) :: own) w' ∧ MRow m5 b1 0 [.slice a1 (List.length p0) c1] ∧ RepS (cPair cStr cStr) m5 a1 c1 p0) ?_ ?_
     ·clear hr st
      have hr := hrK
      clear hrK
      rintro _ w7 ⟨m5, rfl, hm, st, hb1, r1⟩
      refine X_then ?_
      refine W_cond o2 kr ?_ ?_
      ·intro hc
       rw [if_pos hc] at hr
       refine W_sr (WO_seg 1 [(2, .int .i64 10)] kr kr ?_)
       refine WO_et rfl (W_ret ?_)
       refine X_then_ret ?_
       refine X_block_ret ?_
       refine X_then_ret ?_
       obtain rfl := Option.some.inj hr
       have ho := hBu1 _ rfl
       subst ho
       have hr := hrKu1
       dsimp only at hr
       refine X_then_ret ?_
       refine X_block_ret ?_
       refine X_then_ret ?_
       obtain rfl := Option.some.inj hr
       refine X_ret [.tmp 2] [.int .i64 10] rfl (ResAll.cons (ResAt.tmp kr) ResAll.nil) ?_
       have st := st.tail
       exact ⟨m5, rfl, hm, st⟩
      ·intro hc
       rw [if_neg (not_true hc)] at hr
       refine W_skip ?_
       refine X_then ?_
       refine W_seq ?_
       refine W_seq ?_
       replace ⟨o3, hr, hrK⟩ := bindS hr
       refine W_cut .normal (fun L' w' => ∃ (m6 : Mem), L' = [(1, .pointer (some ⟨b1, 0, none⟩)), (4, .pointer (some ⟨b3, 0, none⟩)), (10, .slice a1 (List.length p0) c1), (11, .int .i64 (List.length p0 : Int)), (12, .int .i64 s1), (48, .bool o3)] ∧ m.le m6 ∧ St m6 (.blk b3 (.cells #[.string x1.1, .string x1.2] 74 (0, 0)) :: own) w' ∧ MRow m6 b1 0 [.slice a1 (List.length p0) c1] ∧ RepS (cPair cStr cStr) m6 a1 c1 p0) ?_ ?_
       ·clear hr st
        have hr := hrK
        clear hrK
        rintro _ w9 ⟨m6, rfl, hm, st, hb1, r1⟩
        refine X_then ?_
        refine W_cond o3 kr ?_ ?_
        ·intro hc
         rw [if_pos hc] at hr
         refine W_sr (WO_seg 1 [(2, .int .i64 6)] kr kr ?_)
         refine WO_et rfl (W_ret ?_)
         refine X_then_ret ?_
         refine X_block_ret ?_
         refine X_then_ret ?_
         obtain rfl := Option.some.inj hr
         have ho := hBu1 _ rfl
         subst ho
         have hr := hrKu1
         dsimp only at hr
         refine X_then_ret ?_
         refine X_block_ret ?_
         refine X_then_ret ?_
         obtain rfl := Option.some.inj hr
         refine X_ret [.tmp 2] [.int .i64 6] rfl (ResAll.cons (ResAt.tmp kr) ResAll.nil) ?_
         have st := st.tail
         exact ⟨m6, rfl, hm, st⟩
        ·intro hc
         rw [if_neg (not_true hc)] at hr
         refine W_skip ?_
         refine X_then ?_
         refine W_sr (WO_seg 1 [(49, .pointer (some ⟨b3, 1, none⟩))] kr kr ?_)
         refine WO_one rfl (One_load_own (d := 50) (t := 9) (x := (.tmp 49)) (.string x1.2) kr rfl (ev (.pointer (some ⟨b3, 1, none⟩))) st.head kr ?_)
         refine WO_seg 2 [(52, .bool (decide ((ByteArray.size x1.2 : Int) > 16384)))] kr kr ?_
         refine WO_et rfl (W_cond (decide ((ByteArray.size x1.2 : Int) > 16384)) kr ?_ ?_)
         ·intro hc
          rw [if_pos hc] at hr
          refine W_sr (WO_seg 1 [(2, .int .i64 2)] kr kr ?_)
          refine WO_et rfl (W_ret ?_)
          refine X_block_ret ?_
          refine X_then_ret ?_
          obtain rfl := Option.some.inj hr
          have ho := hBu1 _ rfl
          subst ho
          have hr := hrKu1
          dsimp only at hr
          refine X_then_ret ?_
          refine X_block_ret ?_
          refine X_then_ret ?_
          obtain rfl := Option.some.inj hr
          refine X_ret [.tmp 2] [.int .i64 2] rfl (ResAll.cons (ResAt.tmp kr) ResAll.nil) ?_
          have st := st.tail
          exact ⟨m6, rfl, hm, st⟩
         ·intro hc
          rw [if_neg (not_true hc)] at hr
          refine W_skip ?_
          refine X_block ?_
          refine X_then ?_
          refine W_region ?_
          refine WO_seg 2 [(12, .int .i64 (IntKind.wrap .i64 (s1 + 1)))] kr kr ?_
          refine WO_end rfl ?_
          obtain rfl := Option.some.inj hr
          have hL := hSu1 _ rfl
          have st := st.tail
          exact X_env _ kr (X_round k1 (Nat.lt_succ_self _) ⟨IntKind.wrap .i64 (s1 + 1), m6, hL, rfl, hm, st, hb1, r1⟩)
       ·intro K
        clear hrK
        refine W_draw [(14, fun w' => Inv m5 w' ∧ Piece.holds m5 w' (.blk b3 (.cells #[.string x1.1, .string x1.2] 74 (0, 0))) ∧ True)] kr st ?_
        clear st
        intro w10 _ st
        have hmS2 := m5.le_refl
        refine ⟨⟨.inr ⟨Inv.anti st.inv hmS2, Piece.holds_anti st.head hmS2, trivial⟩, trivial⟩, ?_⟩
        refine WA_pure 0 35 (.int .i64 s1) kr rfl kr (.head _) (QP_then (QP_then (QP_block (QP_then (QP_then (QP_block (QP_then QP_body))))))) ?_
        refine WA_pure 1 36 (.bool (decide (s1 > 0))) kr rfl kr (.head _) (QP_then (QP_then (QP_block (QP_then (QP_then (QP_block (QP_then QP_body))))))) ?_
        refine WA_pure 2 37 (.bool (decide (s1 > 0))) kr rfl kr (.head _) (QP_then (QP_then (QP_block (QP_then (QP_then (QP_block (QP_then QP_body))))))) ?_
        rcases bcases (decide (s1 > 0)) with hc | hc
        ·rw [if_pos hc] at hr
         refine WA_fact (t := 37) (b := true) (decide (s1 > 0)) kr hc ?_
         refine WA_pure 3 38 (.pointer (some ⟨b3, 0, none⟩)) kr rfl kr (.head _) (QP_then (QP_then (QP_block (QP_then (QP_then (QP_block (QP_then QP_body))))))) ?_
         refine WA_load_own (t := 9) (x := (.tmp 38)) 4 39 (.string x1.1) kr rfl kr (.head _) (QP_then (QP_then (QP_block (QP_then (QP_then (QP_block (QP_then QP_body))))))) (fun _ h => h.2.1) (ev (.pointer (some ⟨b3, 0, none⟩))) kr ?_
         refine WA_pure 5 40 (.pointer (some ⟨b1, 0, none⟩)) kr rfl kr (.head _) (QP_then (QP_then (QP_block (QP_then (QP_then (QP_block (QP_then QP_body))))))) ?_
         refine WA_load_row (t := 23) (x := (.tmp 40)) 6 41 (.slice a1 (List.length p0) c1) kr rfl kr (.head _) (QP_then (QP_then (QP_block (QP_then (QP_then (QP_block (QP_then QP_body))))))) (fun _ h => h.1) (ev (.pointer (some ⟨b1, 0, none⟩))) hb1 kr ?_
         refine WA_pure 7 42 (.int .i64 s1) kr rfl kr (.head _) (QP_then (QP_then (QP_block (QP_then (QP_then (QP_block (QP_then QP_body))))))) ?_
         refine WA_pure 8 43 (.int .i64 (IntKind.wrap .i64 (s1 - 1))) kr rfl kr (.head _) (QP_then (QP_then (QP_block (QP_then (QP_then (QP_block (QP_then QP_body))))))) ?_
         replace ⟨x3, hx4, hr⟩ := bindS hr
         refine WA_index (t := 23) (e := 74) (x := (.tmp 41)) (y := (.tmp 43)) 9 44 (cPair cStr cStr) kr rfl kr (.head _) (QP_then (QP_then (QP_block (QP_then (QP_then (QP_block (QP_then QP_body))))))) (ev (.slice a1 (List.length p0) c1)) (ev (.int .i64 (IntKind.wrap .i64 (s1 - 1)))) kr r1 hx4 ?_
         rintro b5 f3 cs3 ⟨_, _, rfl, rfl, rfl⟩ hq3
         refine WA_pure 10 45 (.pointer (some ⟨b5, f3, none⟩)) kr rfl kr (.head _) (QP_then (QP_then (QP_block (QP_then (QP_then (QP_block (QP_then QP_body))))))) ?_
         refine WA_load_row (t := 9) (x := (.tmp 45)) 11 46 (.string x3.1) kr rfl kr (.head _) (QP_then (QP_then (QP_block (QP_then (QP_then (QP_block (QP_then QP_body))))))) (fun _ h => h.1) (ev (.pointer (some ⟨b5, f3, none⟩))) hq3 kr ?_
         refine WA_pure 12 47 (.bool (Op.bytesLess x1.1.toList x3.1.toList)) kr rfl kr (.head _) (QP_then (QP_then (QP_block (QP_then (QP_then (QP_block (QP_then QP_body))))))) ?_
         refine WA_pure 13 48 (.bool (Op.bytesLess x1.1.toList x3.1.toList)) kr rfl kr (.head _) (QP_then (QP_then (QP_block (QP_then (QP_then (QP_block (QP_then QP_body))))))) ?_
         obtain rfl := Option.some.inj hr
         exact WA_done kr (X_env _ kr (K _ _ ⟨m5, rfl, hm, st, hb1, r1⟩))
        ·rw [if_neg (not_true hc)] at hr
         refine WA_fact (t := 37) (b := false) (decide (s1 > 0)) kr hc ?_
         refine WA_not 3 38 kr rfl kr (.head _) (QP_then (QP_then (QP_block (QP_then (QP_then (QP_block (QP_then QP_body))))))) ?_
         refine WA_not 4 39 kr rfl kr (.head _) (QP_then (QP_then (QP_block (QP_then (QP_then (QP_block (QP_then QP_body))))))) ?_
         refine WA_not 5 40 kr rfl kr (.head _) (QP_then (QP_then (QP_block (QP_then (QP_then (QP_block (QP_then QP_body))))))) ?_
         refine WA_not 6 41 kr rfl kr (.head _) (QP_then (QP_then (QP_block (QP_then (QP_then (QP_block (QP_then QP_body))))))) ?_
         refine WA_not 7 42 kr rfl kr (.head _) (QP_then (QP_then (QP_block (QP_then (QP_then (QP_block (QP_then QP_body))))))) ?_
         refine WA_not 8 43 kr rfl kr (.head _) (QP_then (QP_then (QP_block (QP_then (QP_then (QP_block (QP_then QP_body))))))) ?_
         refine WA_not 9 44 kr rfl kr (.head _) (QP_then (QP_then (QP_block (QP_then (QP_then (QP_block (QP_then QP_body))))))) ?_
         refine WA_not 10 45 kr rfl kr (.head _) (QP_then (QP_then (QP_block (QP_then (QP_then (QP_block (QP_then QP_body))))))) ?_
         refine WA_not 11 46 kr rfl kr (.head _) (QP_then (QP_then (QP_block (QP_then (QP_then (QP_block (QP_then QP_body))))))) ?_
         refine WA_not 12 47 kr rfl kr (.head _) (QP_then (QP_then (QP_block (QP_then (QP_then (QP_block (QP_then QP_body))))))) ?_
         refine WA_pure 13 48 (.bool false) kr rfl kr (.head _) (QP_then (QP_then (QP_block (QP_then (QP_then (QP_block (QP_then QP_body))))))) ?_
         obtain rfl := Option.some.inj hr
         exact WA_done kr (X_env _ kr (K _ _ ⟨m5, rfl, hm, st, hb1, r1⟩))
     ·intro K
      clear hrK
      refine W_draw [(14, fun w' => Inv m4 w' ∧ Piece.holds m4 w' (.blk b3 (.cells #[.string x1.1, .string x1.2] 74 (0, 0))) ∧ True)] kr st ?_
      clear st
      intro w8 _ st
      have hmS1 := m4.le_refl
      refine ⟨⟨.inr ⟨Inv.anti st.inv hmS1, Piece.holds_anti st.head hmS1, trivial⟩, trivial⟩, ?_⟩
      refine WA_pure 0 21 (.int .i64 s1) kr rfl kr (.head _) (QP_then (QP_then (QP_block (QP_then (QP_then (QP_block (QP_then QP_body))))))) ?_
      refine WA_pure 1 22 (.bool (decide (s1 > 0))) kr rfl kr (.head _) (QP_then (QP_then (QP_block (QP_then (QP_then (QP_block (QP_then QP_body))))))) ?_
      refine WA_pure 2 23 (.bool (decide (s1 > 0))) kr rfl kr (.head _) (QP_then (QP_then (QP_block (QP_then (QP_then (QP_block (QP_then QP_body))))))) ?_
      rcases bcases (decide (s1 > 0)) with hc | hc
      ·rw [if_pos hc] at hr
       refine WA_fact (t := 23) (b := true) (decide (s1 > 0)) kr hc ?_
       refine WA_pure 3 24 (.pointer (some ⟨b3, 0, none⟩)) kr rfl kr (.head _) (QP_then (QP_then (QP_block (QP_then (QP_then (QP_block (QP_then QP_body))))))) ?_
       refine WA_load_own (t := 9) (x := (.tmp 24)) 4 25 (.string x1.1) kr rfl kr (.head _) (QP_then (QP_then (QP_block (QP_then (QP_then (QP_block (QP_then QP_body))))))) (fun _ h => h.2.1) (ev (.pointer (some ⟨b3, 0, none⟩))) kr ?_
       refine WA_pure 5 26 (.pointer (some ⟨b1, 0, none⟩)) kr rfl kr (.head _) (QP_then (QP_then (QP_block (QP_then (QP_then (QP_block (QP_then QP_body))))))) ?_
       refine WA_load_row (t := 23) (x := (.tmp 26)) 6 27 (.slice a1 (List.length p0) c1) kr rfl kr (.head _) (QP_then (QP_then (QP_block (QP_then (QP_then (QP_block (QP_then QP_body))))))) (fun _ h => h.1) (ev (.pointer (some ⟨b1, 0, none⟩))) hb1 kr ?_
       refine WA_pure 7 28 (.int .i64 s1) kr rfl kr (.head _) (QP_then (QP_then (QP_block (QP_then (QP_then (QP_block (QP_then QP_body))))))) ?_
       refine WA_pure 8 29 (.int .i64 (IntKind.wrap .i64 (s1 - 1))) kr rfl kr (.head _) (QP_then (QP_then (QP_block (QP_then (QP_then (QP_block (QP_then QP_body))))))) ?_
       replace ⟨x2, hx3, hr⟩ := bindS hr
       refine WA_index (t := 23) (e := 74) (x := (.tmp 27)) (y := (.tmp 29)) 9 30 (cPair cStr cStr) kr rfl kr (.head _) (QP_then (QP_then (QP_block (QP_then (QP_then (QP_block (QP_then QP_body))))))) (ev (.slice a1 (List.length p0) c1)) (ev (.int .i64 (IntKind.wrap .i64 (s1 - 1)))) kr r1 hx3 ?_
       rintro b4 f2 cs2 ⟨_, _, rfl, rfl, rfl⟩ hq2
       refine WA_pure 10 31 (.pointer (some ⟨b4, f2, none⟩)) kr rfl kr (.head _) (QP_then (QP_then (QP_block (QP_then (QP_then (QP_block (QP_then QP_body))))))) ?_
       refine WA_load_row (t := 9) (x := (.tmp 31)) 11 32 (.string x2.1) kr rfl kr (.head _) (QP_then (QP_then (QP_block (QP_then (QP_then (QP_block (QP_then QP_body))))))) (fun _ h => h.1) (ev (.pointer (some ⟨b4, f2, none⟩))) hq2 kr ?_
       refine WA_pure 12 33 (.bool (x1.1.toList == x2.1.toList)) kr rfl kr (.head _) (QP_then (QP_then (QP_block (QP_then (QP_then (QP_block (QP_then QP_body))))))) ?_
       refine WA_pure 13 34 (.bool (x1.1.toList == x2.1.toList)) kr rfl kr (.head _) (QP_then (QP_then (QP_block (QP_then (QP_then (QP_block (QP_then QP_body))))))) ?_
       obtain rfl := Option.some.inj hr
       exact WA_done kr (X_env _ kr (K _ _ ⟨m4, rfl, hm, st, hb1, r1⟩))
      ·rw [if_neg (not_true hc)] at hr
       refine WA_fact (t := 23) (b := false) (decide (s1 > 0)) kr hc ?_
       refine WA_not 3 24 kr rfl kr (.head _) (QP_then (QP_then (QP_block (QP_then (QP_then (QP_block (QP_then QP_body))))))) ?_
       refine WA_not 4 25 kr rfl kr (.head _) (QP_then (QP_then (QP_block (QP_then (QP_then (QP_block (QP_then QP_body))))))) ?_
       refine WA_not 5 26 kr rfl kr (.head _) (QP_then (QP_then (QP_block (QP_then (QP_then (QP_block (QP_then QP_body))))))) ?_
       refine WA_not 6 27 kr rfl kr (.head _) (QP_then (QP_then (QP_block (QP_then (QP_then (QP_block (QP_then QP_body))))))) ?_
       refine WA_not 7 28 kr rfl kr (.head _) (QP_then (QP_then (QP_block (QP_then (QP_then (QP_block (QP_then QP_body))))))) ?_
       refine WA_not 8 29 kr rfl kr (.head _) (QP_then (QP_then (QP_block (QP_then (QP_then (QP_block (QP_then QP_body))))))) ?_
       refine WA_not 9 30 kr rfl kr (.head _) (QP_then (QP_then (QP_block (QP_then (QP_then (QP_block (QP_then QP_body))))))) ?_
       refine WA_not 10 31 kr rfl kr (.head _) (QP_then (QP_then (QP_block (QP_then (QP_then (QP_block (QP_then QP_body))))))) ?_
       refine WA_not 11 32 kr rfl kr (.head _) (QP_then (QP_then (QP_block (QP_then (QP_then (QP_block (QP_then QP_body))))))) ?_
       refine WA_not 12 33 kr rfl kr (.head _) (QP_then (QP_then (QP_block (QP_then (QP_then (QP_block (QP_then QP_body))))))) ?_
       refine WA_pure 13 34 (.bool false) kr rfl kr (.head _) (QP_then (QP_then (QP_block (QP_then (QP_then (QP_block (QP_then QP_body))))))) ?_
       obtain rfl := Option.some.inj hr
       exact WA_done kr (X_env _ kr (K _ _ ⟨m4, rfl, hm, st, hb1, r1⟩))
   ·intro hc
    rw [if_neg (not_true hc)] at hr
    refine W_exit ?_
    refine X_then_exit ?_
    obtain rfl := Option.some.inj hr
    have ho := hBu1 _ rfl
    refine X_then_exit ?_
    exact X_env _ kr (K0_u1 _ _ ⟨(), m3, ho, rfl, hm, st⟩)
def testgateref07_Find_L1 (N : Nat) (p0 : (List (ByteArray × ByteArray))) (p1 : ByteArray) (s1 : Int) : Option ((Int) ⊕ ((Unit) ⊕ (ByteArray × Bool))) :=
 if (decide (s1 < (List.length p0 : Int))) = true then ((idx p0 s1).bind fun x1 => if (x1.1.toList == p1.toList) = true then (some (.inr (.inr ((x1.2, true))))) else (some (.inl (IntKind.wrap .i64 (s1 + 1))))) else (some (.inr (.inl ())))
def testgateref07_Find (N : Nat) (p0 : (List (ByteArray × ByteArray))) (p1 : ByteArray) : Option (ByteArray × Bool) :=
 (testgateref07_Check N p0).bind fun y1 => if (y1 != 0) = true then (some ((⟨#[]⟩ : ByteArray), false)) else ((loopM (testgateref07_Find_L1 N p0 p1) N 0).bind fun out1 => (match out1 with | .inl o1 => some ((⟨#[]⟩ : ByteArray), false) | .inr (z) => some z))
set_option maxHeartbeats 4000000 in
set_option maxRecDepth 100000 in
theorem testgateref07_Find_ok {N : Nat} {m : Mem} {own : List Piece} {w : World} {p0 : (List (ByteArray × ByteArray))} {p1 : ByteArray} {a1 : Option Addr} {c1 : Nat} {r : ByteArray × Bool} (st : St m (own) w) (r1 : RepS (cPair cStr cStr) m a1 c1 p0) (hr : testgateref07_Find N p0 p1 = some r) : Calls Tryz.prog 82 #[.agg #[.slice a1 (List.length p0) c1], .string p1] w fun e w' => ∃ (m' : Mem), e = .returned (.tuple #[.string r.1, .bool r.2]) ∧ m.le m' ∧ St m' (own) w' := by
 unfold testgateref07_Find at hr
 have hm := m.le_refl
 refine W_calls Tryz.func82 rfl Tryz.ntmps82 [(0, .agg #[.slice a1 (List.length p0) c1]), (1, .string p1)] kr rfl ?_
 refine W_sr (WO_one rfl (One_box (d := 2) (e := 25) (x := (.tmp 0)) (.agg #[.slice a1 (List.length p0) c1]) kr rfl kr st ?_))
 clear st
 intro b1 m1 w1 hle1 st hb1
 have hm := Mem.le_trans hm hle1
 have r1 := r1.mono hle1
 refine WO_seg 2 [] kr kr ?_
 refine WO_et rfl (W_seq ?_)
 refine W_sr (WO_one rfl (One_load_row (d := 8) (t := 25) (x := (.tmp 2)) (.agg #[.slice a1 (List.length p0) c1]) kr rfl (ev (.pointer (some ⟨b1, 0, none⟩))) st hb1 kr ?_))
 replace ⟨y1, hx1, hr⟩ := bindS hr
 refine WO_one rfl (One_fn 9 66 #[.agg #[.slice a1 (List.length p0) c1]] kr rfl ?_)
 refine (testgateref07_Check_ok st r1 hx1).mono ?_
 clear st
 rintro _ w2 ⟨m2, rfl, hle2, st⟩
 refine ⟨_, rfl, ?_⟩
 have hm := Mem.le_trans hm hle2
 have hb1 := hb1.mono hle2
 have r1 := r1.mono hle2
 refine WO_seg 1 [(10, .bool (y1 != 0))] kr kr ?_
 refine WO_et rfl (W_cond (y1 != 0) kr ?_ ?_)
 ·intro hc
  rw [if_pos hc] at hr
  refine W_sr (WO_seg 2 [(4, .string (⟨#[]⟩ : ByteArray)), (5, .bool false)] kr kr ?_)
  refine WO_et rfl (W_ret ?_)
  refine X_then_ret ?_
  obtain rfl := Option.some.inj hr
  refine X_ret [.tmp 4, .tmp 5] [.string (⟨#[]⟩ : ByteArray), .bool false] rfl (ResAll.cons (ResAt.tmp kr) (ResAll.cons (ResAt.tmp kr) ResAll.nil)) ?_
  exact ⟨m2, rfl, hm, st⟩
 ·intro hc
  rw [if_neg (not_true hc)] at hr
  refine W_skip ?_
  refine X_then ?_
  refine W_seq ?_
  refine W_sr (WO_seg 1 [(11, .pointer (some ⟨b1, 0, none⟩))] kr kr ?_)
  refine WO_one rfl (One_load_row (d := 12) (t := 23) (x := (.tmp 11)) (.slice a1 (List.length p0) c1) kr rfl (ev (.pointer (some ⟨b1, 0, none⟩))) st hb1 kr ?_)
  refine WO_seg 2 [(13, .int .i64 (List.length p0 : Int)), (14, .int .i64 0)] kr kr ?_
  refine WO_et rfl (W_block ?_)
  replace ⟨out1, hr, hrKu1⟩ := bindS hr
  refine W_cut (.exit 0) (fun L' w' => ∃ (o1 : Unit) (m3 : Mem), (.inl o1) = out1 ∧ L' = [] ∧ m.le m3 ∧ St m3 (own) w') ?_ ?_
  ·clear hr st
   rintro _ w3 ⟨o1, m3, rfl, rfl, hm, st⟩
   have hr := hrKu1
   clear hrKu1
   dsimp only at hr
   refine X_block_eq ?_
   refine X_then ?_
   refine W_sr (WO_seg 2 [(4, .string (⟨#[]⟩ : ByteArray)), (5, .bool false)] kr kr ?_)
   refine WO_et rfl (W_ret ?_)
   obtain rfl := Option.some.inj hr
   refine X_ret [.tmp 4, .tmp 5] [.string (⟨#[]⟩ : ByteArray), .bool false] rfl (ResAll.cons (ResAt.tmp kr) (ResAll.cons (ResAt.tmp kr) ResAll.nil)) ?_
   exact ⟨m3, rfl, hm, st⟩
  intro K0_u1
  refine W_env _ kr (W_loop (fun k1 L' w' => ∃ (s1 : Int) (m4 : Mem), loopM (testgateref07_Find_L1 N p0 p1) k1 s1 = some out1 ∧ L' = [(1, .string p1), (12, .slice a1 (List.length p0) c1), (13, .int .i64 (List.length p0 : Int)), (14, .int .i64 s1)] ∧ m.le m4 ∧ St m4 (own) w' ∧ RepS (cPair cStr cStr) m4 a1 c1 p0) N ⟨0, m2, hr, rfl, hm, st, r1⟩ ?_)
  clear st hr
  rintro k1 _ w4 ⟨s1, m4, hL, rfl, hm, st, r1⟩
  rcases k1 with _ | k1
  ·exact loopM_zero hL
  ·obtain ⟨qu1, hr, hSu1, hBu1⟩ := loopM_succ hL
   clear hL
   unfold testgateref07_Find_L1 at hr
   refine W_sr (WO_seg 1 [(15, .bool (decide (s1 < (List.length p0 : Int))))] kr kr ?_)
   refine WO_et rfl (W_seq ?_)
   refine W_cond (decide (s1 < (List.length p0 : Int))) kr ?_ ?_
   ·intro hc
    rw [if_pos hc] at hr
    refine W_skip ?_
    refine X_then ?_
    refine W_seq ?_
    refine W_block ?_
    refine W_sr ?_
    replace ⟨x1, hx2, hr⟩ := bindS hr
    refine WO_one rfl (One_index (d := 16) (t := 23) (e := 74) (x := (.tmp 12)) (y := (.tmp 14)) (cPair cStr cStr) kr rfl (ev (.slice a1 (List.length p0) c1)) (ev (.int .i64 s1)) kr r1 hx2 ?_)
    rintro b2 f1 cs1 ⟨_, _, rfl, rfl, rfl⟩ hq1
    refine WO_one rfl (One_load_row (d := 17) (t := 74) (x := (.tmp 16)) (.agg #[.string x1.1, .string x1.2]) kr rfl (ev (.pointer (some ⟨b2, f1, none⟩))) st hq1 kr ?_)
    refine WO_one rfl (One_alloc (d := 7) (e := 74) (.agg #[.string (⟨#[]⟩ : ByteArray), .string (⟨#[]⟩ : ByteArray)]) kr rfl kr st ?_)
    clear st
    intro b3 w5 st
    refine WO_one rfl (One_store (t := 74) (x := (.tmp 7)) (y := (.tmp 17)) (v := .agg #[.string x1.1, .string x1.2]) (c' := #[.string x1.1, .string x1.2]) kr (ev (.pointer (some ⟨b3, 0, none⟩))) (ev (.agg #[.string x1.1, .string x1.2])) st kr kr ?_)
    clear st
    intro w6 st
    refine WO_et rfl (W_sr ?_)
    refine WO_seg 1 [(18, .pointer (some ⟨b3, 0, none⟩))] kr kr ?_
    refine WO_one rfl (One_load_own (d := 19) (t := 9) (x := (.tmp 18)) (.string x1.1) kr rfl (ev (.pointer (some ⟨b3, 0, none⟩))) st.head kr ?_)
    refine WO_seg 2 [(21, .bool (x1.1.toList == p1.toList))] kr kr ?_
    refine WO_et rfl (W_cond (x1.1.toList == p1.toList) kr ?_ ?_)
    ·intro hc
     rw [if_pos hc] at hr
     refine W_sr (WO_seg 1 [(22, .pointer (some ⟨b3, 1, none⟩))] kr kr ?_)
     refine WO_one rfl (One_load_own (d := 23) (t := 9) (x := (.tmp 22)) (.string x1.2) kr rfl (ev (.pointer (some ⟨b3, 1, none⟩))) st.head kr ?_)
     refine WO_seg 2 [(4, .string x1.2), (5, .bool true)] kr kr ?_
     refine WO_et rfl (W_ret ?_)
     refine X_block_ret ?_
     refine X_then_ret ?_
     obtain rfl := Option.some.inj hr
     have ho := hBu1 _ rfl
     subst ho
     have hr := hrKu1
     dsimp only at hr
     refine X_then_ret ?_
     refine X_block_ret ?_
     refine X_then_ret ?_
     obtain rfl := Option.some.inj hr
     refine X_ret [.tmp 4, .tmp 5] [.string x1.2, .bool true] rfl (ResAll.cons (ResAt.tmp kr) (ResAll.cons (ResAt.tmp kr) ResAll.nil)) ?_
     have st := st.tail
     exact ⟨m4, rfl, hm, st⟩
    ·intro hc
     rw [if_neg (not_true hc)] at hr
     refine W_skip ?_
     refine X_block ?_
     refine X_then ?_
     refine W_region ?_
     refine WO_seg 2 [(14, .int .i64 (IntKind.wrap .i64 (s1 + 1)))] kr kr ?_
     refine WO_end rfl ?_
     obtain rfl := Option.some.inj hr
     have hL := hSu1 _ rfl
     have st := st.tail
     exact X_env _ kr (X_round k1 (Nat.lt_succ_self _) ⟨IntKind.wrap .i64 (s1 + 1), m4, hL, rfl, hm, st, r1⟩)
   ·intro hc
    rw [if_neg (not_true hc)] at hr
    refine W_exit ?_
    refine X_then_exit ?_
    obtain rfl := Option.some.inj hr
    have ho := hBu1 _ rfl
    refine X_then_exit ?_
    exact X_env _ kr (K0_u1 _ _ ⟨(), m4, ho, rfl, hm, st⟩)
def testgateref07_without_L1 (N : Nat) (p0 : (List (ByteArray × ByteArray))) (p1 : ByteArray) (s1 : Int × (List (ByteArray × ByteArray))) : Option ((Int × (List (ByteArray × ByteArray))) ⊕ (((List (ByteArray × ByteArray))))) :=
 if (decide (s1.1 < (List.length p0 : Int))) = true then (((idx p0 s1.1).bind fun x1 => if (!(x1.1.toList == p1.toList)) = true then ((appendS 32 s1.2 ([(x1.1, x1.2)])).bind fun l1 => some l1) else (some s1.2) : Option ((List (ByteArray × ByteArray)))).bind fun o2 => some (.inl (IntKind.wrap .i64 (s1.1 + 1), o2))) else (some (.inr s1.2))
def testgateref07_without (N : Nat) (p0 : (List (ByteArray × ByteArray))) (p1 : ByteArray) : Option ((List (ByteArray × ByteArray))) :=
 (loopM (testgateref07_without_L1 N p0 p1) N (0, ([] : List (ByteArray × ByteArray)))).bind fun o1 => some o1
set_option maxHeartbeats 4000000 in
set_option maxRecDepth 100000 in
theorem testgateref07_without_ok {N : Nat} {m : Mem} {own : List Piece} {w : World} {p0 : (List (ByteArray × ByteArray))} {p1 : ByteArray} {a1 : Option Addr} {c1 : Nat} {r : (List (ByteArray × ByteArray))} (st : St m (own) w) (r1 : RepS (cPair cStr cStr) m a1 c1 p0) (hr : testgateref07_without N p0 p1 = some r) : Calls Tryz.prog 95 #[.agg #[.slice a1 (List.length p0) c1], .string p1] w fun e w' => ∃ (ra1 : Option Addr) (rc1 : Nat) (m' : Mem), e = .returned (.agg #[.slice ra1 (List.length r) rc1]) ∧ m.le m' ∧ St m' (.room ra1 (List.length r) rc1 74 2 :: own) w' ∧ RepS (cPair cStr cStr) m' ra1 rc1 r := by
 unfold testgateref07_without at hr
 have hm := m.le_refl
 refine W_calls Tryz.func95 rfl Tryz.ntmps95 [(0, .agg #[.slice a1 (List.length p0) c1]), (1, .string p1)] kr rfl ?_
 refine W_sr (WO_one rfl (One_box (d := 2) (e := 25) (x := (.tmp 0)) (.agg #[.slice a1 (List.length p0) c1]) kr rfl kr st ?_))
 clear st
 intro b1 m1 w1 hle1 st hb1
 have hm := Mem.le_trans hm hle1
 have r1 := r1.mono hle1
 refine WO_one rfl (One_alloc (d := 4) (e := 25) (.agg #[.slice none 0 0]) kr rfl kr st ?_)
 clear st
 intro b2 w2 st
 refine WO_et rfl (W_sr ?_)
 refine WO_one rfl (One_alloc (d := 5) (e := 25) (.agg #[.slice none 0 0]) kr rfl kr st ?_)
 clear st
 intro b3 w3 st
 refine WO_et rfl (W_seq ?_)
 refine W_sr (WO_seg 1 [(8, .pointer (some ⟨b1, 0, none⟩))] kr kr ?_)
 refine WO_one rfl (One_load_row (d := 9) (t := 23) (x := (.tmp 8)) (.slice a1 (List.length p0) c1) kr rfl (ev (.pointer (some ⟨b1, 0, none⟩))) st hb1 kr ?_)
 refine WO_seg 2 [(10, .int .i64 (List.length p0 : Int)), (11, .int .i64 0)] kr kr ?_
 refine WO_et rfl (W_block ?_)
 replace ⟨out1, hr, hrKu1⟩ := bindS hr
 refine W_cut (.exit 0) (fun L' w' => ∃ (o1 : (List (ByteArray × ByteArray))) (a2 : Option Addr) (c2 : Nat) (m2 : Mem), o1 = out1 ∧ L' = [(4, .pointer (some ⟨b2, 0, none⟩)), (5, .pointer (some ⟨b3, 0, none⟩))] ∧ m.le m2 ∧ St m2 (.blk b3 (.cells #[.slice a2 (List.length o1) c2] 25 (0, 0)) :: .blk b2 (.cells #[.slice none (List.length ([] : List (ByteArray × ByteArray))) 0] 25 (0, 0)) :: .room a2 (List.length o1) c2 74 2 :: own) w' ∧ RepS (cPair cStr cStr) m2 a2 c2 o1) ?_ ?_
 ·clear hr st
  rintro _ w4 ⟨o1, a2, c2, m2, rfl, rfl, hm, st, r2⟩
  have hr := hrKu1
  clear hrKu1
  refine X_block_eq ?_
  refine X_then ?_
  refine W_sr (WO_one rfl (One_load_own (d := 26) (t := 25) (x := (.tmp 5)) (.agg #[.slice a2 (List.length o1) c2]) kr rfl (ev (.pointer (some ⟨b3, 0, none⟩))) st.head kr ?_))
  have st := st.front1
  refine WO_one rfl (One_store (t := 25) (x := (.tmp 4)) (y := (.tmp 26)) (v := .agg #[.slice a2 (List.length o1) c2]) (c' := #[.slice a2 (List.length o1) c2]) kr (ev (.pointer (some ⟨b2, 0, none⟩))) (ev (.agg #[.slice a2 (List.length o1) c2])) st kr kr ?_)
  clear st
  intro w12 st
  refine WO_et rfl (W_ret ?_)
  obtain rfl := Option.some.inj hr
  refine X_ret [.cell 4 25] [.agg #[.slice a2 (List.length o1) c2]] rfl (ResAll.cons (ResAt.blk (v := .agg #[.slice a2 (List.length o1) c2]) (o := 0) kr st.head kr) ResAll.nil) ?_
  have st := st.tail
  have st := st.tail
  exact ⟨a2, c2, m2, rfl, hm, st, r2⟩
 intro K0_u1
 clear hrKu1
 have st := st.nilroom 74 2
 have st := st.front2.front2
 refine W_env _ kr (W_loop (fun k1 L' w' => ∃ (s1 : Int × (List (ByteArray × ByteArray))) (a3 : Option Addr) (c3 : Nat) (m3 : Mem), loopM (testgateref07_without_L1 N p0 p1) k1 s1 = some out1 ∧ L' = [(1, .string p1), (4, .pointer (some ⟨b2, 0, none⟩)), (5, .pointer (some ⟨b3, 0, none⟩)), (9, .slice a1 (List.length p0) c1), (10, .int .i64 (List.length p0 : Int)), (11, .int .i64 s1.1)] ∧ m.le m3 ∧ St m3 (.blk b3 (.cells #[.slice a3 (List.length s1.2) c3] 25 (0, 0)) :: .blk b2 (.cells #[.slice none (List.length ([] : List (ByteArray × ByteArray))) 0] 25 (0, 0)) :: .room a3 (List.length s1.2) c3 74 2 :: own) w' ∧ RepS (cPair cStr cStr) m3 a1 c1 p0 ∧ RepS (cPair cStr cStr) m3 a3 c3 s1.2) N ⟨(0, ([] : List (ByteArray × ByteArray))), none, 0, m1, hr, rfl, hm, st, r1, (RepS.nil _ _)⟩ ?_)
 clear st hr
 rintro k1 _ w5 ⟨s1, a3, c3, m3, hL, rfl, hm, st, r1, r3⟩
 rcases k1 with _ | k1
 ·exact loopM_zero hL
 ·obtain ⟨qu1, hr, hSu1, hBu1⟩ := loopM_succ hL
  clear hL
  unfold testgateref07_without_L1 at hr
  refine W_sr (WO_seg 1 [(12, .bool (decide (s1.1 < (List.length p0 : Int))))] kr kr ?_)
  refine WO_et rfl (W_seq ?_)
  refine W_cond (decide (s1.1 < (List.length p0 : Int))) kr ?_ ?_
  ·intro hc
   rw [if_pos hc] at hr
   refine W_skip ?_
   refine X_then ?_
   refine W_seq ?_
   replace ⟨o2, hr, hrKu2⟩ := bindS hr
   refine W_cut .normal (fun L' w' => ∃ (a4 : Option Addr) (c4 : Nat) (m4 : Mem), L' = [(1, .string p1), (4, .pointer (some ⟨b2, 0, none⟩)), (5, .pointer (some ⟨b3, 0, none⟩)), (9, .slice a1 (List.length p0) c1), (10, .int .i64 (List.length p0 : Int)), (11, .int .i64 s1.1)] ∧ m.le m4 ∧ St m4 (.blk b3 (.cells #[.slice a4 (List.length o2) c4] 25 (0, 0)) :: .blk b2 (.cells #[.slice none (List.length ([] : List (ByteArray × ByteArray))) 0] 25 (0, 0)) :: .room a4 (List.length o2) c4 74 2 :: own) w' ∧ RepS (cPair cStr cStr) m4 a1 c1 p0 ∧ RepS (cPair cStr cStr) m4 a4 c4 o2) ?_ ?_
   ·clear hr st
    have hr := hrKu2
    clear hrKu2
    rintro _ w6 ⟨a4, c4, m4, rfl, hm, st, r1, r4⟩
    refine X_then ?_
    refine W_region ?_
    refine WO_seg 2 [(11, .int .i64 (IntKind.wrap .i64 (s1.1 + 1)))] kr kr ?_
    refine WO_end rfl ?_
    obtain rfl := Option.some.inj hr
    have hL := hSu1 _ rfl
    have st := st.front2.front2.front2
    exact X_env _ kr (X_round k1 (Nat.lt_succ_self _) ⟨(IntKind.wrap .i64 (s1.1 + 1), o2), a4, c4, m4, hL, rfl, hm, st, r1, r4⟩)
   ·intro Ku2
    clear hrKu2
    refine W_block ?_
    refine W_sr ?_
    replace ⟨x1, hx1, hr⟩ := bindS hr
    refine WO_one rfl (One_index (d := 13) (t := 23) (e := 74) (x := (.tmp 9)) (y := (.tmp 11)) (cPair cStr cStr) kr rfl (ev (.slice a1 (List.length p0) c1)) (ev (.int .i64 s1.1)) kr r1 hx1 ?_)
    rintro b4 f1 cs1 ⟨_, _, rfl, rfl, rfl⟩ hq1
    refine WO_one rfl (One_load_row (d := 14) (t := 74) (x := (.tmp 13)) (.agg #[.string x1.1, .string x1.2]) kr rfl (ev (.pointer (some ⟨b4, f1, none⟩))) st hq1 kr ?_)
    refine WO_one rfl (One_alloc (d := 7) (e := 74) (.agg #[.string (⟨#[]⟩ : ByteArray), .string (⟨#[]⟩ : ByteArray)]) kr rfl kr st ?_)
    clear st
    intro b5 w7 st
    refine WO_one rfl (One_store (t := 74) (x := (.tmp 7)) (y := (.tmp 14)) (v := .agg #[.string x1.1, .string x1.2]) (c' := #[.string x1.1, .string x1.2]) kr (ev (.pointer (some ⟨b5, 0, none⟩))) (ev (.agg #[.string x1.1, .string x1.2])) st kr kr ?_)
    clear st
    intro w8 st
    refine WO_et rfl (W_sr ?_)
    refine WO_seg 1 [(15, .pointer (some ⟨b5, 0, none⟩))] kr kr ?_
    refine WO_one rfl (One_load_own (d := 16) (t := 9) (x := (.tmp 15)) (.string x1.1) kr rfl (ev (.pointer (some ⟨b5, 0, none⟩))) st.head kr ?_)
    refine WO_seg 2 [(18, .bool (!(x1.1.toList == p1.toList)))] kr kr ?_
    refine WO_et rfl (W_cond (!(x1.1.toList == p1.toList)) kr ?_ ?_)
    ·intro hc
     rw [if_pos hc] at hr
     refine W_region ?_
     refine WO_seg 1 [(19, .pointer (some ⟨b3, 0, none⟩))] kr kr ?_
     refine WO_one rfl (One_load_own (d := 20) (t := 23) (x := (.tmp 19)) (.slice a3 (List.length s1.2) c3) kr rfl (ev (.pointer (some ⟨b3, 0, none⟩))) st.tail.head kr ?_)
     refine WO_one rfl (One_load_own (d := 21) (t := 74) (x := (.tmp 7)) (.agg #[.string x1.1, .string x1.2]) kr rfl (ev (.pointer (some ⟨b5, 0, none⟩))) st.head kr ?_)
     refine WO_one rfl (One_buildSlice (d := 22) (t := 23) (e := 74) (len := 1) (parts := #[(0, (.tmp 21))]) (cPair cStr cStr) (xs := [(x1.1, x1.2)]) [.string x1.1, .string x1.2] kr rfl (fun _ => buildCells_run kr _) rfl rfl st ⟨[.string x1.1, .string x1.2], _, rfl, ⟨_, _, rfl, rfl, rfl⟩, rfl⟩ ?_)
     clear st
     intro b6 m5 w9 hle2 st r5
     have hm := Mem.le_trans hm hle2
     have r1 := r1.mono hle2
     have r3 := r3.mono hle2
     have st := st.front4
     replace ⟨l1, hx2, hr⟩ := bindS hr
     refine WO_one rfl (One_append (d := 23) (t := 23) (u := 23) (e := 74) (by_ := 32) (x := (.tmp 20)) (y := (.tmp 22)) (cPair cStr cStr) kr rfl (ev (.slice a3 (List.length s1.2) c3)) (ev (.slice (some ⟨b6, 0, none⟩) (List.length ([(x1.1, x1.2)])) 1)) st kr (.inl kr) r3 r5.src hx2 ?_)
     clear st
     intro a5 c5 m6 w10 hle3 st r6
     have hm := Mem.le_trans hm hle3
     have r1 := r1.mono hle3
     have r3 := r3.mono hle3
     have r5 := r5.mono hle3
     refine WO_seg 1 [(24, .pointer (some ⟨b3, 0, none⟩))] kr kr ?_
     have st := st.front3
     refine WO_one rfl (One_store (t := 23) (x := (.tmp 24)) (y := (.tmp 23)) (v := .slice a5 (List.length l1) c5) (c' := #[.slice a5 (List.length l1) c5]) kr (ev (.pointer (some ⟨b3, 0, none⟩))) (ev (.slice a5 (List.length l1) c5)) st kr kr ?_)
     clear st
     intro w11 st
     refine WO_end rfl ?_
     have st := st.front2
     have st := st.tail
     refine X_block ?_
     obtain rfl := Option.some.inj hr
     have st := st.front2
     have st := st.tail
     have st := st.front1.front2.front2
     exact X_env _ kr (Ku2 _ _ ⟨a5, c5, m6, rfl, hm, st, r1, r6⟩)
    ·intro hc
     rw [if_neg (not_true hc)] at hr
     refine W_skip ?_
     refine X_block ?_
     obtain rfl := Option.some.inj hr
     have st := st.tail
     have st := st.front2.front2.front2
     exact X_env _ kr (Ku2 _ _ ⟨a3, c3, m3, rfl, hm, st, r1, r3⟩)
  ·intro hc
   rw [if_neg (not_true hc)] at hr
   refine W_exit ?_
   refine X_then_exit ?_
   obtain rfl := Option.some.inj hr
   have ho := hBu1 _ rfl
   have st := st.front2.front2.front2
   refine X_then_exit ?_
   exact X_env _ kr (K0_u1 _ _ ⟨s1.2, a3, c3, m3, ho, rfl, hm, st, r3⟩)
def testgateref07_with_L1 (N : Nat) (p0 : (List (ByteArray × ByteArray))) (p1 : ByteArray × ByteArray) (s1 : Bool × Int × (List (ByteArray × ByteArray))) : Option ((Bool × Int × (List (ByteArray × ByteArray))) ⊕ ((Bool × (List (ByteArray × ByteArray))))) :=
 if (decide (s1.2.1 < (List.length p0 : Int))) = true then ((idx p0 s1.2.1).bind fun x1 => (if (!s1.1) = true then (some (Op.bytesLess p1.1.toList x1.1.toList)) else (some false) : Option (Bool)).bind fun o2 => (if o2 = true then ((appendS 32 s1.2.2 ([(p1.1, p1.2)])).bind fun l1 => some (true, l1)) else (some (s1.1, s1.2.2)) : Option (Bool × (List (ByteArray × ByteArray)))).bind fun o3 => (appendS 32 o3.2 ([(x1.1, x1.2)])).bind fun l2 => some (.inl (o3.1, IntKind.wrap .i64 (s1.2.1 + 1), l2))) else (some (.inr (s1.1, s1.2.2)))
def testgateref07_with (N : Nat) (p0 : (List (ByteArray × ByteArray))) (p1 : ByteArray × ByteArray) : Option ((List (ByteArray × ByteArray))) :=
 (loopM (testgateref07_with_L1 N p0 p1) N (false, 0, ([] : List (ByteArray × ByteArray)))).bind fun o1 => (if (!o1.1) = true then ((appendS 32 o1.2 ([(p1.1, p1.2)])).bind fun l3 => some l3) else (some o1.2) : Option ((List (ByteArray × ByteArray)))).bind fun o4 => some o4
set_option maxHeartbeats 4000000 in
set_option maxRecDepth 100000 in
theorem testgateref07_with_ok {N : Nat} {m : Mem} {own : List Piece} {w : World} {p0 : (List (ByteArray × ByteArray))} {p1 : ByteArray × ByteArray} {a1 : Option Addr} {c1 : Nat} {r : (List (ByteArray × ByteArray))} (st : St m (own) w) (r1 : RepS (cPair cStr cStr) m a1 c1 p0) (hr : testgateref07_with N p0 p1 = some r) : Calls Tryz.prog 94 #[.agg #[.slice a1 (List.length p0) c1], .agg #[.string p1.1, .string p1.2]] w fun e w' => ∃ (ra1 : Option Addr) (rc1 : Nat) (m' : Mem), e = .returned (.agg #[.slice ra1 (List.length r) rc1]) ∧ m.le m' ∧ St m' (.room ra1 (List.length r) rc1 74 2 :: own) w' ∧ RepS (cPair cStr cStr) m' ra1 rc1 r := by
 unfold testgateref07_with at hr
 have hm := m.le_refl
 refine W_calls Tryz.func94 rfl Tryz.ntmps94 [(0, .agg #[.slice a1 (List.length p0) c1]), (1, .agg #[.string p1.1, .string p1.2])] kr rfl ?_
 refine W_sr (WO_one rfl (One_box (d := 2) (e := 25) (x := (.tmp 0)) (.agg #[.slice a1 (List.length p0) c1]) kr rfl kr st ?_))
 clear st
 intro b1 m1 w1 hle1 st hb1
 have hm := Mem.le_trans hm hle1
 have r1 := r1.mono hle1
 refine WO_one rfl (One_box (d := 3) (e := 74) (x := (.tmp 1)) (.agg #[.string p1.1, .string p1.2]) kr rfl kr st ?_)
 clear st
 intro b2 m2 w2 hle2 st hb2
 have hm := Mem.le_trans hm hle2
 have r1 := r1.mono hle2
 have hb1 := hb1.mono hle2
 refine WO_one rfl (One_alloc (d := 4) (e := 25) (.agg #[.slice none 0 0]) kr rfl kr st ?_)
 clear st
 intro b3 w3 st
 refine WO_et rfl (W_sr ?_)
 refine WO_one rfl (One_alloc (d := 5) (e := 25) (.agg #[.slice none 0 0]) kr rfl kr st ?_)
 clear st
 intro b4 w4 st
 refine WO_et rfl (W_sr ?_)
 refine WO_seg 1 [(6, .bool false)] kr kr ?_
 refine WO_et rfl (W_seq ?_)
 refine W_sr (WO_seg 1 [(9, .pointer (some ⟨b1, 0, none⟩))] kr kr ?_)
 refine WO_one rfl (One_load_row (d := 10) (t := 23) (x := (.tmp 9)) (.slice a1 (List.length p0) c1) kr rfl (ev (.pointer (some ⟨b1, 0, none⟩))) st hb1 kr ?_)
 refine WO_seg 2 [(11, .int .i64 (List.length p0 : Int)), (12, .int .i64 0)] kr kr ?_
 refine WO_et rfl (W_block ?_)
 replace ⟨out1, hr, hrKu1⟩ := bindS hr
 refine W_cut (.exit 0) (fun L' w' => ∃ (o1 : Bool × (List (ByteArray × ByteArray))) (a2 : Option Addr) (c2 : Nat) (m3 : Mem), o1 = out1 ∧ L' = [(3, .pointer (some ⟨b2, 0, none⟩)), (4, .pointer (some ⟨b3, 0, none⟩)), (5, .pointer (some ⟨b4, 0, none⟩)), (6, .bool o1.1)] ∧ m.le m3 ∧ St m3 (.blk b4 (.cells #[.slice a2 (List.length o1.2) c2] 25 (0, 0)) :: .blk b3 (.cells #[.slice none (List.length ([] : List (ByteArray × ByteArray))) 0] 25 (0, 0)) :: .room a2 (List.length o1.2) c2 74 2 :: own) w' ∧ MRow m3 b2 0 [.string p1.1, .string p1.2] ∧ RepS (cPair cStr cStr) m3 a2 c2 o1.2) ?_ ?_
 ·clear hr st
  rintro _ w5 ⟨o1, a2, c2, m3, rfl, rfl, hm, st, hb2, r2⟩
  have hr := hrKu1
  clear hrKu1
  refine X_block_eq ?_
  refine X_then ?_
  refine W_seq ?_
  refine W_sr (WO_seg 2 [(39, .bool (!o1.1))] kr kr ?_)
  refine WO_et rfl ?_
  replace ⟨o4, hr, hrKu4⟩ := bindS hr
  refine W_cut .normal (fun L' w' => ∃ (a7 : Option Addr) (c7 : Nat) (m11 : Mem), L' = [(4, .pointer (some ⟨b3, 0, none⟩)), (5, .pointer (some ⟨b4, 0, none⟩))] ∧ m.le m11 ∧ St m11 (.blk b4 (.cells #[.slice a7 (List.length o4) c7] 25 (0, 0)) :: .blk b3 (.cells #[.slice none (List.length ([] : List (ByteArray × ByteArray))) 0] 25 (0, 0)) :: .room a7 (List.length o4) c7 74 2 :: own) w' ∧ RepS (cPair cStr cStr) m11 a7 c7 o4) ?_ ?_
  ·clear hr st
   have hr := hrKu4
   clear hrKu4
   rintro _ w17 ⟨a7, c7, m11, rfl, hm, st, r9⟩
   refine X_then ?_
   refine W_sr (WO_one rfl (One_load_own (d := 46) (t := 25) (x := (.tmp 5)) (.agg #[.slice a7 (List.length o4) c7]) kr rfl (ev (.pointer (some ⟨b4, 0, none⟩))) st.head kr ?_))
   have st := st.front1
   refine WO_one rfl (One_store (t := 25) (x := (.tmp 4)) (y := (.tmp 46)) (v := .agg #[.slice a7 (List.length o4) c7]) (c' := #[.slice a7 (List.length o4) c7]) kr (ev (.pointer (some ⟨b3, 0, none⟩))) (ev (.agg #[.slice a7 (List.length o4) c7])) st kr kr ?_)
   clear st
   intro w21 st
   refine WO_et rfl (W_ret ?_)
   obtain rfl := Option.some.inj hr
   refine X_ret [.cell 4 25] [.agg #[.slice a7 (List.length o4) c7]] rfl (ResAll.cons (ResAt.blk (v := .agg #[.slice a7 (List.length o4) c7]) (o := 0) kr st.head kr) ResAll.nil) ?_
   have st := st.tail
   have st := st.tail
   exact ⟨a7, c7, m11, rfl, hm, st, r9⟩
  ·intro Ku4
   clear hrKu4
   refine W_cond (!o1.1) kr ?_ ?_
   ·intro hc
    rw [if_pos hc] at hr
    refine W_region ?_
    refine WO_seg 1 [(40, .pointer (some ⟨b4, 0, none⟩))] kr kr ?_
    refine WO_one rfl (One_load_own (d := 41) (t := 23) (x := (.tmp 40)) (.slice a2 (List.length o1.2) c2) kr rfl (ev (.pointer (some ⟨b4, 0, none⟩))) st.head kr ?_)
    refine WO_one rfl (One_load_row (d := 42) (t := 74) (x := (.tmp 3)) (.agg #[.string p1.1, .string p1.2]) kr rfl (ev (.pointer (some ⟨b2, 0, none⟩))) st hb2 kr ?_)
    refine WO_one rfl (One_buildSlice (d := 43) (t := 23) (e := 74) (len := 1) (parts := #[(0, (.tmp 42))]) (cPair cStr cStr) (xs := [(p1.1, p1.2)]) [.string p1.1, .string p1.2] kr rfl (fun _ => buildCells_run kr _) rfl rfl st ⟨[.string p1.1, .string p1.2], _, rfl, ⟨_, _, rfl, rfl, rfl⟩, rfl⟩ ?_)
    clear st
    intro b9 m12 w18 hle7 st r10
    have hm := Mem.le_trans hm hle7
    have hb2 := hb2.mono hle7
    have r2 := r2.mono hle7
    have st := st.front3
    replace ⟨l3, hx4, hr⟩ := bindS hr
    refine WO_one rfl (One_append (d := 44) (t := 23) (u := 23) (e := 74) (by_ := 32) (x := (.tmp 41)) (y := (.tmp 43)) (cPair cStr cStr) kr rfl (ev (.slice a2 (List.length o1.2) c2)) (ev (.slice (some ⟨b9, 0, none⟩) (List.length ([(p1.1, p1.2)])) 1)) st kr (.inl kr) r2 r10.src hx4 ?_)
    clear st
    intro a8 c8 m13 w19 hle8 st r11
    have hm := Mem.le_trans hm hle8
    have hb2 := hb2.mono hle8
    have r2 := r2.mono hle8
    have r10 := r10.mono hle8
    refine WO_seg 1 [(45, .pointer (some ⟨b4, 0, none⟩))] kr kr ?_
    have st := st.front2
    refine WO_one rfl (One_store (t := 23) (x := (.tmp 45)) (y := (.tmp 44)) (v := .slice a8 (List.length l3) c8) (c' := #[.slice a8 (List.length l3) c8]) kr (ev (.pointer (some ⟨b4, 0, none⟩))) (ev (.slice a8 (List.length l3) c8)) st kr kr ?_)
    clear st
    intro w20 st
    refine WO_end rfl ?_
    have st := st.front2
    have st := st.tail
    obtain rfl := Option.some.inj hr
    have st := st.front1.front2.front2
    exact X_env _ kr (Ku4 _ _ ⟨a8, c8, m13, rfl, hm, st, r11⟩)
   ·intro hc
    rw [if_neg (not_true hc)] at hr
    refine W_skip ?_
    obtain rfl := Option.some.inj hr
    have st := st.front2.front2.front2
    exact X_env _ kr (Ku4 _ _ ⟨a2, c2, m3, rfl, hm, st, r2⟩)
 intro K0_u1
 clear hrKu1
 have st := st.nilroom 74 2
 have st := st.front2.front2
 refine W_env _ kr (W_loop (fun k1 L' w' => ∃ (s1 : Bool × Int × (List (ByteArray × ByteArray))) (a3 : Option Addr) (c3 : Nat) (m4 : Mem), loopM (testgateref07_with_L1 N p0 p1) k1 s1 = some out1 ∧ L' = [(3, .pointer (some ⟨b2, 0, none⟩)), (4, .pointer (some ⟨b3, 0, none⟩)), (5, .pointer (some ⟨b4, 0, none⟩)), (6, .bool s1.1), (10, .slice a1 (List.length p0) c1), (11, .int .i64 (List.length p0 : Int)), (12, .int .i64 s1.2.1)] ∧ m.le m4 ∧ St m4 (.blk b4 (.cells #[.slice a3 (List.length s1.2.2) c3] 25 (0, 0)) :: .blk b3 (.cells #[.slice none (List.length ([] : List (ByteArray × ByteArray))) 0] 25 (0, 0)) :: .room a3 (List.length s1.2.2) c3 74 2 :: own) w' ∧ MRow m4 b2 0 [.string p1.1, .string p1.2] ∧ RepS (cPair cStr cStr) m4 a1 c1 p0 ∧ RepS (cPair cStr cStr) m4 a3 c3 s1.2.2) N ⟨(false, 0, ([] : List (ByteArray × ByteArray))), none, 0, m2, hr, rfl, hm, st, hb2, r1, (RepS.nil _ _)⟩ ?_)
 clear st hr
 rintro k1 _ w6 ⟨s1, a3, c3, m4, hL, rfl, hm, st, hb2, r1, r3⟩
 rcases k1 with _ | k1
 ·exact loopM_zero hL
 ·obtain ⟨qu1, hr, hSu1, hBu1⟩ := loopM_succ hL
  clear hL
  unfold testgateref07_with_L1 at hr
  refine W_sr (WO_seg 1 [(13, .bool (decide (s1.2.1 < (List.length p0 : Int))))] kr kr ?_)
  refine WO_et rfl (W_seq ?_)
  refine W_cond (decide (s1.2.1 < (List.length p0 : Int))) kr ?_ ?_
  ·intro hc
   rw [if_pos hc] at hr
   refine W_skip ?_
   refine X_then ?_
   refine W_seq ?_
   refine W_block ?_
   refine W_sr ?_
   replace ⟨x1, hx1, hr⟩ := bindS hr
   refine WO_one rfl (One_index (d := 14) (t := 23) (e := 74) (x := (.tmp 10)) (y := (.tmp 12)) (cPair cStr cStr) kr rfl (ev (.slice a1 (List.length p0) c1)) (ev (.int .i64 s1.2.1)) kr r1 hx1 ?_)
   rintro b5 f1 cs1 ⟨_, _, rfl, rfl, rfl⟩ hq1
   refine WO_one rfl (One_load_row (d := 15) (t := 74) (x := (.tmp 14)) (.agg #[.string x1.1, .string x1.2]) kr rfl (ev (.pointer (some ⟨b5, f1, none⟩))) st hq1 kr ?_)
   refine WO_one rfl (One_alloc (d := 8) (e := 74) (.agg #[.string (⟨#[]⟩ : ByteArray), .string (⟨#[]⟩ : ByteArray)]) kr rfl kr st ?_)
   clear st
   intro b6 w7 st
   refine WO_one rfl (One_store (t := 74) (x := (.tmp 8)) (y := (.tmp 15)) (v := .agg #[.string x1.1, .string x1.2]) (c' := #[.string x1.1, .string x1.2]) kr (ev (.pointer (some ⟨b6, 0, none⟩))) (ev (.agg #[.string x1.1, .string x1.2])) st kr kr ?_)
   clear st
   intro w8 st
   refine WO_et rfl (W_seq ?_)
   refine W_sr ?_
   replace ⟨o2, hr, hrK⟩ := bindS hr
   refine WO_cut (j := 9) (fun L' w' => ∃ (m5 : Mem), L' = [(3, .pointer (some ⟨b2, 0, none⟩)), (4, .pointer (some ⟨b3, 0, none⟩)), (5, .pointer (some ⟨b4, 0, none⟩)), (6, .bool s1.1), (8, .pointer (some ⟨b6, 0, none⟩)), (10, .slice a1 (List.length p0) c1), (11, .int .i64 (List.length p0 : Int)), (12, .int .i64 s1.2.1), (24, .bool o2)] ∧ m.le m5 ∧ St m5 (.blk b6 (.cells #[.string x1.1, .string x1.2] 74 (0, 0)) :: .blk b4 (.cells #[.slice a3 (List.length s1.2.2) c3] 25 (0, 0)) :: .blk b3 (.cells #[.slice none (List.length ([] : List (ByteArray × ByteArray))) 0] 25 (0, 0)) :: .room a3 (List.length s1.2.2) c3 74 2 :: own) w' ∧ MRow m5 b2 0 [.string p1.1, .string p1.2] ∧ RepS (cPair cStr cStr) m5 a1 c1 p0 ∧ RepS (cPair cStr cStr) m5 a3 c3 s1.2.2) ?_ ?_
   ·clear hr st
    have hr := hrK
    clear hrK
    rintro _ w9 ⟨m5, rfl, hm, st, hb2, r1, r3⟩
    refine WO_et rfl ?_
    replace ⟨o3, hr, hrKu2⟩ := bindS hr
    refine W_cut .normal (fun L' w' => ∃ (a4 : Option Addr) (c4 : Nat) (m6 : Mem), L' = [(3, .pointer (some ⟨b2, 0, none⟩)), (4, .pointer (some ⟨b3, 0, none⟩)), (5, .pointer (some ⟨b4, 0, none⟩)), (6, .bool o3.1), (8, .pointer (some ⟨b6, 0, none⟩)), (10, .slice a1 (List.length p0) c1), (11, .int .i64 (List.length p0 : Int)), (12, .int .i64 s1.2.1)] ∧ m.le m6 ∧ St m6 (.blk b6 (.cells #[.string x1.1, .string x1.2] 74 (0, 0)) :: .blk b4 (.cells #[.slice a4 (List.length o3.2) c4] 25 (0, 0)) :: .blk b3 (.cells #[.slice none (List.length ([] : List (ByteArray × ByteArray))) 0] 25 (0, 0)) :: .room a4 (List.length o3.2) c4 74 2 :: own) w' ∧ MRow m6 b2 0 [.string p1.1, .string p1.2] ∧ RepS (cPair cStr cStr) m6 a1 c1 p0 ∧ RepS (cPair cStr cStr) m6 a4 c4 o3.2) ?_ ?_
    ·clear hr st
     have hr := hrKu2
     clear hrKu2
     rintro _ w10 ⟨a4, c4, m6, rfl, hm, st, hb2, r1, r4⟩
     refine X_then ?_
     refine W_region ?_
     refine WO_seg 1 [(31, .pointer (some ⟨b4, 0, none⟩))] kr kr ?_
     refine WO_one rfl (One_load_own (d := 32) (t := 23) (x := (.tmp 31)) (.slice a4 (List.length o3.2) c4) kr rfl (ev (.pointer (some ⟨b4, 0, none⟩))) st.tail.head kr ?_)
     refine WO_one rfl (One_load_own (d := 33) (t := 74) (x := (.tmp 8)) (.agg #[.string x1.1, .string x1.2]) kr rfl (ev (.pointer (some ⟨b6, 0, none⟩))) st.head kr ?_)
     refine WO_one rfl (One_buildSlice (d := 34) (t := 23) (e := 74) (len := 1) (parts := #[(0, (.tmp 33))]) (cPair cStr cStr) (xs := [(x1.1, x1.2)]) [.string x1.1, .string x1.2] kr rfl (fun _ => buildCells_run kr _) rfl rfl st ⟨[.string x1.1, .string x1.2], _, rfl, ⟨_, _, rfl, rfl, rfl⟩, rfl⟩ ?_)
     clear st
     intro b8 m9 w14 hle5 st r7
     have hm := Mem.le_trans hm hle5
     have hb2 := hb2.mono hle5
     have r1 := r1.mono hle5
     have r4 := r4.mono hle5
     have st := st.front4
     replace ⟨l2, hx3, hr⟩ := bindS hr
     refine WO_one rfl (One_append (d := 35) (t := 23) (u := 23) (e := 74) (by_ := 32) (x := (.tmp 32)) (y := (.tmp 34)) (cPair cStr cStr) kr rfl (ev (.slice a4 (List.length o3.2) c4)) (ev (.slice (some ⟨b8, 0, none⟩) (List.length ([(x1.1, x1.2)])) 1)) st kr (.inl kr) r4 r7.src hx3 ?_)
     clear st
     intro a6 c6 m10 w15 hle6 st r8
     have hm := Mem.le_trans hm hle6
     have hb2 := hb2.mono hle6
     have r1 := r1.mono hle6
     have r4 := r4.mono hle6
     have r7 := r7.mono hle6
     refine WO_seg 1 [(36, .pointer (some ⟨b4, 0, none⟩))] kr kr ?_
     have st := st.front3
     refine WO_one rfl (One_store (t := 23) (x := (.tmp 36)) (y := (.tmp 35)) (v := .slice a6 (List.length l2) c6) (c' := #[.slice a6 (List.length l2) c6]) kr (ev (.pointer (some ⟨b4, 0, none⟩))) (ev (.slice a6 (List.length l2) c6)) st kr kr ?_)
     clear st
     intro w16 st
     refine WO_end rfl ?_
     have st := st.front2
     have st := st.tail
     refine X_block ?_
     refine X_then ?_
     refine W_region ?_
     refine WO_seg 2 [(12, .int .i64 (IntKind.wrap .i64 (s1.2.1 + 1)))] kr kr ?_
     refine WO_end rfl ?_
     obtain rfl := Option.some.inj hr
     have hL := hSu1 _ rfl
     have st := st.front2
     have st := st.tail
     have st := st.front1.front2.front2
     exact X_env _ kr (X_round k1 (Nat.lt_succ_self _) ⟨(o3.1, IntKind.wrap .i64 (s1.2.1 + 1), l2), a6, c6, m10, hL, rfl, hm, st, hb2, r1, r8⟩)
    ·intro Ku2
     clear hrKu2
     refine W_cond o2 kr ?_ ?_
     ·intro hc
      rw [if_pos hc] at hr
      refine W_sr (WO_seg 1 [(25, .pointer (some ⟨b4, 0, none⟩))] kr kr ?_)
      refine WO_one rfl (One_load_own (d := 26) (t := 23) (x := (.tmp 25)) (.slice a3 (List.length s1.2.2) c3) kr rfl (ev (.pointer (some ⟨b4, 0, none⟩))) st.tail.head kr ?_)
      refine WO_one rfl (One_load_row (d := 27) (t := 74) (x := (.tmp 3)) (.agg #[.string p1.1, .string p1.2]) kr rfl (ev (.pointer (some ⟨b2, 0, none⟩))) st hb2 kr ?_)
      refine WO_one rfl (One_buildSlice (d := 28) (t := 23) (e := 74) (len := 1) (parts := #[(0, (.tmp 27))]) (cPair cStr cStr) (xs := [(p1.1, p1.2)]) [.string p1.1, .string p1.2] kr rfl (fun _ => buildCells_run kr _) rfl rfl st ⟨[.string p1.1, .string p1.2], _, rfl, ⟨_, _, rfl, rfl, rfl⟩, rfl⟩ ?_)
      clear st
      intro b7 m7 w11 hle3 st r5
      have hm := Mem.le_trans hm hle3
      have hb2 := hb2.mono hle3
      have r1 := r1.mono hle3
      have r3 := r3.mono hle3
      have st := st.front4
      replace ⟨l1, hx2, hr⟩ := bindS hr
      refine WO_one rfl (One_append (d := 29) (t := 23) (u := 23) (e := 74) (by_ := 32) (x := (.tmp 26)) (y := (.tmp 28)) (cPair cStr cStr) kr rfl (ev (.slice a3 (List.length s1.2.2) c3)) (ev (.slice (some ⟨b7, 0, none⟩) (List.length ([(p1.1, p1.2)])) 1)) st kr (.inl kr) r3 r5.src hx2 ?_)
      clear st
      intro a5 c5 m8 w12 hle4 st r6
      have hm := Mem.le_trans hm hle4
      have hb2 := hb2.mono hle4
      have r1 := r1.mono hle4
      have r3 := r3.mono hle4
      have r5 := r5.mono hle4
      refine WO_seg 1 [(30, .pointer (some ⟨b4, 0, none⟩))] kr kr ?_
      have st := st.front3
      refine WO_one rfl (One_store (t := 23) (x := (.tmp 30)) (y := (.tmp 29)) (v := .slice a5 (List.length l1) c5) (c' := #[.slice a5 (List.length l1) c5]) kr (ev (.pointer (some ⟨b4, 0, none⟩))) (ev (.slice a5 (List.length l1) c5)) st kr kr ?_)
      clear st
      intro w13 st
      refine WO_end rfl ?_
      have st := st.front2
      have st := st.tail
      refine X_then ?_
      refine W_region ?_
      refine WO_seg 1 [(6, .bool true)] kr kr ?_
      refine WO_end rfl ?_
      obtain rfl := Option.some.inj hr
      have st := st.front1.front3.front2.front3
      exact X_env _ kr (Ku2 _ _ ⟨a5, c5, m8, rfl, hm, st, hb2, r1, r6⟩)
     ·intro hc
      rw [if_neg (not_true hc)] at hr
      refine W_skip ?_
      obtain rfl := Option.some.inj hr
      have st := st.front3.front3.front3.front3
      exact X_env _ kr (Ku2 _ _ ⟨a3, c3, m5, rfl, hm, st, hb2, r1, r3⟩)
   ·intro K
    clear hrK
    refine WO_seg 3 [(18, .bool (!s1.1))] kr kr ?_
    rcases bcases (!s1.1) with hc | hc
    ·rw [if_pos hc] at hr
     refine WO_fact (t := 18) (b := true) (!s1.1) kr hc ?_
     refine WO_seg 1 [(19, .pointer (some ⟨b2, 0, none⟩))] kr kr ?_
     refine WO_one rfl (One_load_row (d := 20) (t := 9) (x := (.tmp 19)) (.string p1.1) kr rfl (ev (.pointer (some ⟨b2, 0, none⟩))) st hb2 kr ?_)
     refine WO_seg 1 [(21, .pointer (some ⟨b6, 0, none⟩))] kr kr ?_
     refine WO_one rfl (One_load_own (d := 22) (t := 9) (x := (.tmp 21)) (.string x1.1) kr rfl (ev (.pointer (some ⟨b6, 0, none⟩))) st.head kr ?_)
     refine WO_seg 2 [(24, .bool (Op.bytesLess p1.1.toList x1.1.toList))] kr kr ?_
     obtain rfl := Option.some.inj hr
     have st := st.front3.front3.front3.front3
     exact WO_env _ kr (K _ _ ⟨m4, rfl, hm, st, hb2, r1, r3⟩)
    ·rw [if_neg (not_true hc)] at hr
     refine WO_fact (t := 18) (b := false) (!s1.1) kr hc ?_
     refine WO_seg 6 [(24, .bool false)] kr kr ?_
     obtain rfl := Option.some.inj hr
     have st := st.front3.front3.front3.front3
     exact WO_env _ kr (K _ _ ⟨m4, rfl, hm, st, hb2, r1, r3⟩)
  ·intro hc
   rw [if_neg (not_true hc)] at hr
   refine W_exit ?_
   refine X_then_exit ?_
   obtain rfl := Option.some.inj hr
   have ho := hBu1 _ rfl
   have st := st.front2.front2.front2
   refine X_then_exit ?_
   exact X_env _ kr (K0_u1 _ _ ⟨(s1.1, s1.2.2), a3, c3, m4, ho, rfl, hm, st, hb2, r3⟩)
def testgateref07_Move (N : Nat) (p0 : (List (ByteArray × ByteArray))) (p1 : ByteArray) (p2 : ByteArray) : Option (((List (ByteArray × ByteArray))) × Int) :=
 (testgateref07_Check N p0).bind fun y1 => if (y1 != 0) = true then (some (([] : List (ByteArray × ByteArray)), y1)) else ((testgateref04_Path N p2).bind fun y2 => if (!y2) = true then (some (([] : List (ByteArray × ByteArray)), 6)) else ((testgateref07_Find N p0 p1).bind fun y3 => if (!y3.2) = true then (some (([] : List (ByteArray × ByteArray)), 18)) else ((testgateref07_Find N p0 p2).bind fun y4 => if y4.2 = true then (some (([] : List (ByteArray × ByteArray)), 19)) else ((testgateref07_without N p0 p1).bind fun y5 => (testgateref07_with N y5 (p2, y3.1)).bind fun y6 => some (y6, 0)))))
set_option maxHeartbeats 4000000 in
set_option maxRecDepth 100000 in
theorem testgateref07_Move_ok {N : Nat} {m : Mem} {own : List Piece} {w : World} {p0 : (List (ByteArray × ByteArray))} {p1 : ByteArray} {p2 : ByteArray} {a1 : Option Addr} {c1 : Nat} {r : ((List (ByteArray × ByteArray))) × Int} (st : St m (own) w) (r1 : RepS (cPair cStr cStr) m a1 c1 p0) (hr : testgateref07_Move N p0 p1 p2 = some r) : Calls Tryz.prog 35 #[.agg #[.slice a1 (List.length p0) c1], .string p1, .string p2] w fun e w' => ∃ (ra1 : Option Addr) (rc1 : Nat) (m' : Mem), e = .returned (.tuple #[.agg #[.slice ra1 (List.length r.1) rc1], .int .i64 r.2]) ∧ m.le m' ∧ St m' (.room ra1 (List.length r.1) rc1 74 2 :: own) w' ∧ RepS (cPair cStr cStr) m' ra1 rc1 r.1 := by
 unfold testgateref07_Move at hr
 have hm := m.le_refl
 refine W_calls Tryz.func35 rfl Tryz.ntmps35 [(0, .agg #[.slice a1 (List.length p0) c1]), (1, .string p1), (2, .string p2)] kr rfl ?_
 refine W_sr (WO_one rfl (One_box (d := 3) (e := 25) (x := (.tmp 0)) (.agg #[.slice a1 (List.length p0) c1]) kr rfl kr st ?_))
 clear st
 intro b1 m1 w1 hle1 st hb1
 have hm := Mem.le_trans hm hle1
 have r1 := r1.mono hle1
 refine WO_one rfl (One_alloc (d := 6) (e := 25) (.agg #[.slice none 0 0]) kr rfl kr st ?_)
 clear st
 intro b2 w2 st
 refine WO_seg 1 [] kr kr ?_
 refine WO_et rfl (W_seq ?_)
 refine W_sr (WO_one rfl (One_load_row (d := 13) (t := 25) (x := (.tmp 3)) (.agg #[.slice a1 (List.length p0) c1]) kr rfl (ev (.pointer (some ⟨b1, 0, none⟩))) st hb1 kr ?_))
 replace ⟨y1, hx1, hr⟩ := bindS hr
 refine WO_one rfl (One_fn 14 66 #[.agg #[.slice a1 (List.length p0) c1]] kr rfl ?_)
 refine (testgateref07_Check_ok st r1 hx1).mono ?_
 clear st
 rintro _ w3 ⟨m2, rfl, hle2, st⟩
 refine ⟨_, rfl, ?_⟩
 have hm := Mem.le_trans hm hle2
 have hb1 := hb1.mono hle2
 have r1 := r1.mono hle2
 refine WO_seg 1 [(8, .int .i64 y1)] kr kr ?_
 refine WO_et rfl (W_sr ?_)
 refine WO_seg 2 [(16, .bool (y1 != 0))] kr kr ?_
 refine WO_et rfl (W_cond (y1 != 0) kr ?_ ?_)
 ·intro hc
  rw [if_pos hc] at hr
  refine W_sr (WO_seg 2 [(17, .agg #[.slice none (List.length ([] : List (ByteArray × ByteArray))) 0]), (18, .int .i64 y1)] kr kr ?_)
  refine WO_one rfl (One_store (t := 25) (x := (.tmp 6)) (y := (.tmp 17)) (v := .agg #[.slice none (List.length ([] : List (ByteArray × ByteArray))) 0]) (c' := #[.slice none (List.length ([] : List (ByteArray × ByteArray))) 0]) kr (ev (.pointer (some ⟨b2, 0, none⟩))) (ev (.agg #[.slice none (List.length ([] : List (ByteArray × ByteArray))) 0])) st kr kr ?_)
  clear st
  intro w4 st
  refine WO_seg 1 [(7, .int .i64 y1)] kr kr ?_
  refine WO_et rfl (W_ret ?_)
  refine X_then_ret ?_
  obtain rfl := Option.some.inj hr
  refine X_ret [.cell 6 25, .tmp 7] [.agg #[.slice none (List.length ([] : List (ByteArray × ByteArray))) 0], .int .i64 y1] rfl (ResAll.cons (ResAt.blk (v := .agg #[.slice none (List.length ([] : List (ByteArray × ByteArray))) 0]) (o := 0) kr st.head kr) (ResAll.cons (ResAt.tmp kr) ResAll.nil)) ?_
  have st := st.nilroom 74 2
  have st := st.front1
  have st := st.tail
  exact ⟨none, 0, m2, rfl, hm, st, (RepS.nil _ _)⟩
 ·intro hc
  rw [if_neg (not_true hc)] at hr
  refine W_skip ?_
  refine X_then ?_
  refine W_seq ?_
  refine W_sr (WO_seg 1 [(19, .string p2)] kr kr ?_)
  replace ⟨y2, hx2, hr⟩ := bindS hr
  refine WO_one rfl (One_fn 20 72 #[.string p2] kr rfl ?_)
  refine (testgateref04_Path_ok st hx2).mono ?_
  clear st
  rintro _ w5 ⟨m3, rfl, hle3, st⟩
  refine ⟨_, rfl, ?_⟩
  have hm := Mem.le_trans hm hle3
  have hb1 := hb1.mono hle3
  have r1 := r1.mono hle3
  refine WO_seg 1 [(21, .bool (!y2))] kr kr ?_
  refine WO_et rfl (W_cond (!y2) kr ?_ ?_)
  ·intro hc
   rw [if_pos hc] at hr
   refine W_sr (WO_seg 1 [(22, .agg #[.slice none (List.length ([] : List (ByteArray × ByteArray))) 0])] kr kr ?_)
   refine WO_one rfl (One_store (t := 25) (x := (.tmp 6)) (y := (.tmp 22)) (v := .agg #[.slice none (List.length ([] : List (ByteArray × ByteArray))) 0]) (c' := #[.slice none (List.length ([] : List (ByteArray × ByteArray))) 0]) kr (ev (.pointer (some ⟨b2, 0, none⟩))) (ev (.agg #[.slice none (List.length ([] : List (ByteArray × ByteArray))) 0])) st kr kr ?_)
   clear st
   intro w6 st
   refine WO_seg 1 [(7, .int .i64 6)] kr kr ?_
   refine WO_et rfl (W_ret ?_)
   refine X_then_ret ?_
   obtain rfl := Option.some.inj hr
   refine X_ret [.cell 6 25, .tmp 7] [.agg #[.slice none (List.length ([] : List (ByteArray × ByteArray))) 0], .int .i64 6] rfl (ResAll.cons (ResAt.blk (v := .agg #[.slice none (List.length ([] : List (ByteArray × ByteArray))) 0]) (o := 0) kr st.head kr) (ResAll.cons (ResAt.tmp kr) ResAll.nil)) ?_
   have st := st.nilroom 74 2
   have st := st.front1
   have st := st.tail
   exact ⟨none, 0, m3, rfl, hm, st, (RepS.nil _ _)⟩
  ·intro hc
   rw [if_neg (not_true hc)] at hr
   refine W_skip ?_
   refine X_then ?_
   refine W_sr (WO_one rfl (One_load_row (d := 24) (t := 25) (x := (.tmp 3)) (.agg #[.slice a1 (List.length p0) c1]) kr rfl (ev (.pointer (some ⟨b1, 0, none⟩))) st hb1 kr ?_))
   refine WO_seg 1 [(25, .string p1)] kr kr ?_
   replace ⟨y3, hx3, hr⟩ := bindS hr
   refine WO_one rfl (One_fn 26 82 #[.agg #[.slice a1 (List.length p0) c1], .string p1] kr rfl ?_)
   refine (testgateref07_Find_ok st r1 hx3).mono ?_
   clear st
   rintro _ w7 ⟨m4, rfl, hle4, st⟩
   refine ⟨_, rfl, ?_⟩
   have hm := Mem.le_trans hm hle4
   have hb1 := hb1.mono hle4
   have r1 := r1.mono hle4
   refine WO_seg 5 [(9, .string y3.1), (10, .bool y3.2)] kr kr ?_
   refine WO_et rfl (W_seq ?_)
   refine W_sr (WO_seg 2 [(30, .bool (!y3.2))] kr kr ?_)
   refine WO_et rfl (W_cond (!y3.2) kr ?_ ?_)
   ·intro hc
    rw [if_pos hc] at hr
    refine W_sr (WO_seg 1 [(31, .agg #[.slice none (List.length ([] : List (ByteArray × ByteArray))) 0])] kr kr ?_)
    refine WO_one rfl (One_store (t := 25) (x := (.tmp 6)) (y := (.tmp 31)) (v := .agg #[.slice none (List.length ([] : List (ByteArray × ByteArray))) 0]) (c' := #[.slice none (List.length ([] : List (ByteArray × ByteArray))) 0]) kr (ev (.pointer (some ⟨b2, 0, none⟩))) (ev (.agg #[.slice none (List.length ([] : List (ByteArray × ByteArray))) 0])) st kr kr ?_)
    clear st
    intro w8 st
    refine WO_seg 1 [(7, .int .i64 18)] kr kr ?_
    refine WO_et rfl (W_ret ?_)
    refine X_then_ret ?_
    obtain rfl := Option.some.inj hr
    refine X_ret [.cell 6 25, .tmp 7] [.agg #[.slice none (List.length ([] : List (ByteArray × ByteArray))) 0], .int .i64 18] rfl (ResAll.cons (ResAt.blk (v := .agg #[.slice none (List.length ([] : List (ByteArray × ByteArray))) 0]) (o := 0) kr st.head kr) (ResAll.cons (ResAt.tmp kr) ResAll.nil)) ?_
    have st := st.nilroom 74 2
    have st := st.front1
    have st := st.tail
    exact ⟨none, 0, m4, rfl, hm, st, (RepS.nil _ _)⟩
   ·intro hc
    rw [if_neg (not_true hc)] at hr
    refine W_skip ?_
    refine X_then ?_
    refine W_seq ?_
    refine W_sr (WO_one rfl (One_load_row (d := 33) (t := 25) (x := (.tmp 3)) (.agg #[.slice a1 (List.length p0) c1]) kr rfl (ev (.pointer (some ⟨b1, 0, none⟩))) st hb1 kr ?_))
    refine WO_seg 1 [(34, .string p2)] kr kr ?_
    replace ⟨y4, hx4, hr⟩ := bindS hr
    refine WO_one rfl (One_fn 35 82 #[.agg #[.slice a1 (List.length p0) c1], .string p2] kr rfl ?_)
    refine (testgateref07_Find_ok st r1 hx4).mono ?_
    clear st
    rintro _ w9 ⟨m5, rfl, hle5, st⟩
    refine ⟨_, rfl, ?_⟩
    have hm := Mem.le_trans hm hle5
    have hb1 := hb1.mono hle5
    have r1 := r1.mono hle5
    refine WO_seg 5 [(12, .bool y4.2)] kr kr ?_
    refine WO_et rfl (W_sr ?_)
    refine WO_seg 1 [(38, .bool y4.2)] kr kr ?_
    refine WO_et rfl (W_cond y4.2 kr ?_ ?_)
    ·intro hc
     rw [if_pos hc] at hr
     refine W_sr (WO_seg 1 [(39, .agg #[.slice none (List.length ([] : List (ByteArray × ByteArray))) 0])] kr kr ?_)
     refine WO_one rfl (One_store (t := 25) (x := (.tmp 6)) (y := (.tmp 39)) (v := .agg #[.slice none (List.length ([] : List (ByteArray × ByteArray))) 0]) (c' := #[.slice none (List.length ([] : List (ByteArray × ByteArray))) 0]) kr (ev (.pointer (some ⟨b2, 0, none⟩))) (ev (.agg #[.slice none (List.length ([] : List (ByteArray × ByteArray))) 0])) st kr kr ?_)
     clear st
     intro w10 st
     refine WO_seg 1 [(7, .int .i64 19)] kr kr ?_
     refine WO_et rfl (W_ret ?_)
     refine X_then_ret ?_
     obtain rfl := Option.some.inj hr
     refine X_ret [.cell 6 25, .tmp 7] [.agg #[.slice none (List.length ([] : List (ByteArray × ByteArray))) 0], .int .i64 19] rfl (ResAll.cons (ResAt.blk (v := .agg #[.slice none (List.length ([] : List (ByteArray × ByteArray))) 0]) (o := 0) kr st.head kr) (ResAll.cons (ResAt.tmp kr) ResAll.nil)) ?_
     have st := st.nilroom 74 2
     have st := st.front1
     have st := st.tail
     exact ⟨none, 0, m5, rfl, hm, st, (RepS.nil _ _)⟩
    ·intro hc
     rw [if_neg (not_true hc)] at hr
     refine W_skip ?_
     refine X_then ?_
     refine W_sr (WO_one rfl (One_load_row (d := 40) (t := 25) (x := (.tmp 3)) (.agg #[.slice a1 (List.length p0) c1]) kr rfl (ev (.pointer (some ⟨b1, 0, none⟩))) st hb1 kr ?_))
     refine WO_seg 1 [(41, .string p1)] kr kr ?_
     replace ⟨y5, hx5, hr⟩ := bindS hr
     refine WO_one rfl (One_fn 42 95 #[.agg #[.slice a1 (List.length p0) c1], .string p1] kr rfl ?_)
     refine (testgateref07_without_ok st r1 hx5).mono ?_
     clear st
     rintro _ w11 ⟨a2, c2, m6, rfl, hle6, st, r2⟩
     refine ⟨_, rfl, ?_⟩
     have hm := Mem.le_trans hm hle6
     have hb1 := hb1.mono hle6
     have r1 := r1.mono hle6
     refine WO_seg 3 [(45, .agg #[.string p2, .string y3.1])] kr kr ?_
     replace ⟨y6, hx6, hr⟩ := bindS hr
     refine WO_one rfl (One_fn 46 94 #[.agg #[.slice a2 (List.length y5) c2], .agg #[.string p2, .string y3.1]] kr rfl ?_)
     refine (testgateref07_with_ok st r2 hx6).mono ?_
     clear st
     rintro _ w12 ⟨a3, c3, m7, rfl, hle7, st, r3⟩
     refine ⟨_, rfl, ?_⟩
     have hm := Mem.le_trans hm hle7
     have hb1 := hb1.mono hle7
     have r1 := r1.mono hle7
     have r2 := r2.mono hle7
     have st := st.front2
     refine WO_one rfl (One_store (t := 25) (x := (.tmp 6)) (y := (.tmp 46)) (v := .agg #[.slice a3 (List.length y6) c3]) (c' := #[.slice a3 (List.length y6) c3]) kr (ev (.pointer (some ⟨b2, 0, none⟩))) (ev (.agg #[.slice a3 (List.length y6) c3])) st kr kr ?_)
     clear st
     intro w13 st
     refine WO_seg 1 [(7, .int .i64 0)] kr kr ?_
     refine WO_end rfl ?_
     have st := st.front2
     have st := st.tail
     refine X_then ?_
     refine W_ret ?_
     obtain rfl := Option.some.inj hr
     refine X_ret [.cell 6 25, .tmp 7] [.agg #[.slice a3 (List.length y6) c3], .int .i64 0] rfl (ResAll.cons (ResAt.blk (v := .agg #[.slice a3 (List.length y6) c3]) (o := 0) kr st.head kr) (ResAll.cons (ResAt.tmp kr) ResAll.nil)) ?_
     have st := st.tail
     exact ⟨a3, c3, m7, rfl, hm, st, r3⟩
def internal_stringslite_IndexByte (N : Nat) (p0 : ByteArray) (p1 : Int) : Option (Int) :=
 some (ixB p0 p1)
set_option maxHeartbeats 4000000 in
set_option maxRecDepth 100000 in
theorem internal_stringslite_IndexByte_ok {N : Nat} {m : Mem} {own : List Piece} {w : World} {p0 : ByteArray} {p1 : Int} {r : Int} (st : St m (own) w) (hr : internal_stringslite_IndexByte N p0 p1 = some r) : Calls Tryz.prog 213 #[.string p0, .int .u8 p1] w fun e w' => ∃ (m' : Mem), e = .returned (.int .i64 r) ∧ m.le m' ∧ St m' (own) w' := by
 unfold internal_stringslite_IndexByte at hr
 have hm := m.le_refl
 refine W_calls Tryz.func213 rfl Tryz.ntmps213 [(0, .string p0), (1, .int .u8 p1)] kr rfl ?_
 refine W_sr (WO_seg 1 [] kr kr ?_)
 refine WO_et rfl (W_sr ?_)
 refine WO_seg 2 [(5, .string p0), (6, .int .u8 p1)] kr kr ?_
 refine WO_one rfl (One_indexByte (d := 7) (f := 244) (x := (.tmp 5)) (y := (.tmp 6)) (ts := #[9, 5]) kr rfl (ev (.string p0)) (ev (.int .u8 p1)) Tryz.func244 kr kr ?_)
 refine WO_seg 1 [(4, .int .i64 (ixB p0 p1))] kr kr ?_
 refine WO_et rfl (W_ret ?_)
 obtain rfl := Option.some.inj hr
 refine X_ret [.tmp 4] [.int .i64 (ixB p0 p1)] rfl (ResAll.cons (ResAt.tmp kr) ResAll.nil) ?_
 exact ⟨m, rfl, hm, st⟩
def internal_stringslite_Index (N : Nat) (p0 : ByteArray) (p1 : ByteArray) : Option (Int) :=
 (if ((ByteArray.size p1 : Int) == 0) = true then (some true) else (some (p1.toList == p0.toList)) : Option (Bool)).bind fun o1 => if o1 = true then (some 0) else (if ((ByteArray.size p1 : Int) == 1) = true then ((idxB p1 0).bind fun x1 => (internal_stringslite_IndexByte N p0 (x1.toNat : Int)).bind fun y1 => some y1) else (if (decide ((ByteArray.size p1 : Int) ≥ (ByteArray.size p0 : Int))) = true then (some (-1)) else none))
set_option maxHeartbeats 4000000 in
set_option maxRecDepth 100000 in
theorem internal_stringslite_Index_ok {N : Nat} {m : Mem} {own : List Piece} {w : World} {p0 : ByteArray} {p1 : ByteArray} {r : Int} (st : St m (own) w) (hr : internal_stringslite_Index N p0 p1 = some r) : Calls Tryz.prog 233 #[.string p0, .string p1] w fun e w' => ∃ (m' : Mem), e = .returned (.int .i64 r) ∧ m.le m' ∧ St m' (own) w' := by
 unfold internal_stringslite_Index at hr
 have hm := m.le_refl
 refine W_calls Tryz.func233 rfl Tryz.ntmps233 [(0, .string p0), (1, .string p1)] kr rfl ?_
 refine W_sr (WO_seg 1 [] kr kr ?_)
 refine WO_et rfl (W_sr ?_)
 refine WO_seg 3 [(5, .int .i64 (ByteArray.size p1 : Int))] kr kr ?_
 refine WO_et rfl (W_seq ?_)
 refine W_block ?_
 refine W_sr ?_
 replace ⟨o1, hr, hrK⟩ := bindS hr
 refine WO_cut (j := 8) (fun L' w' => ∃ (m1 : Mem), L' = [(0, .string p0), (1, .string p1), (5, .int .i64 (ByteArray.size p1 : Int)), (16, .bool o1)] ∧ m.le m1 ∧ St m1 (own) w') ?_ ?_
 ·clear hr st
  have hr := hrK
  clear hrK
  rintro _ w1 ⟨m1, rfl, hm, st⟩
  refine WO_et rfl (W_cond o1 kr ?_ ?_)
  ·intro hc
   rw [if_pos hc] at hr
   refine W_sr (WO_seg 1 [(4, .int .i64 0)] kr kr ?_)
   refine WO_et rfl (W_ret ?_)
   refine X_block_ret ?_
   refine X_then_ret ?_
   obtain rfl := Option.some.inj hr
   refine X_ret [.tmp 4] [.int .i64 0] rfl (ResAll.cons (ResAt.tmp kr) ResAll.nil) ?_
   exact ⟨m1, rfl, hm, st⟩
  ·intro hc
   rw [if_neg (not_true hc)] at hr
   refine W_sr (WO_seg 3 [(24, .bool ((ByteArray.size p1 : Int) == 1))] kr kr ?_)
   refine WO_et rfl (W_cond ((ByteArray.size p1 : Int) == 1) kr ?_ ?_)
   ·intro hc
    rw [if_pos hc] at hr
    refine W_sr (WO_seg 2 [(27, .string p0), (28, .string p1)] kr kr ?_)
    replace ⟨x1, hx1, hr⟩ := bindS hr
    refine WO_one rfl (One_strIndex (d := 29) (t := 9) (x := (.tmp 28)) (y := (.const (.int .i64 0))) kr rfl (ev (.string p1)) (ev (.int .i64 0)) kr hx1 ?_)
    replace ⟨y1, hx2, hr⟩ := bindS hr
    refine WO_one rfl (One_fn 30 213 #[.string p0, .int .u8 (x1.toNat : Int)] kr rfl ?_)
    refine (internal_stringslite_IndexByte_ok st hx2).mono ?_
    clear st
    rintro _ w2 ⟨m2, rfl, hle1, st⟩
    refine ⟨_, rfl, ?_⟩
    have hm := Mem.le_trans hm hle1
    refine WO_seg 1 [(4, .int .i64 y1)] kr kr ?_
    refine WO_et rfl (W_ret ?_)
    refine X_block_ret ?_
    refine X_then_ret ?_
    obtain rfl := Option.some.inj hr
    refine X_ret [.tmp 4] [.int .i64 y1] rfl (ResAll.cons (ResAt.tmp kr) ResAll.nil) ?_
    exact ⟨m2, rfl, hm, st⟩
   ·intro hc
    rw [if_neg (not_true hc)] at hr
    refine W_sr (WO_seg 5 [(31, .bool (decide ((ByteArray.size p1 : Int) ≥ (ByteArray.size p0 : Int))))] kr kr ?_)
    refine WO_et rfl (W_cond (decide ((ByteArray.size p1 : Int) ≥ (ByteArray.size p0 : Int))) kr ?_ ?_)
    ·intro hc
     rw [if_pos hc] at hr
     refine W_sr (WO_seg 1 [(4, .int .i64 (-1))] kr kr ?_)
     refine WO_et rfl (W_ret ?_)
     refine X_block_ret ?_
     refine X_then_ret ?_
     obtain rfl := Option.some.inj hr
     refine X_ret [.tmp 4] [.int .i64 (-1)] rfl (ResAll.cons (ResAt.tmp kr) ResAll.nil) ?_
     exact ⟨m1, rfl, hm, st⟩
    ·intro hc
     rw [if_neg (not_true hc)] at hr
     cases hr
 ·intro K
  clear hrK
  refine WO_seg 3 [(19, .bool ((ByteArray.size p1 : Int) == 0))] kr kr ?_
  rcases bcases ((ByteArray.size p1 : Int) == 0) with hc | hc
  ·rw [if_pos hc] at hr
   refine WO_fact (t := 19) (b := true) ((ByteArray.size p1 : Int) == 0) kr hc ?_
   refine WO_seg 5 [(16, .bool true)] kr kr ?_
   obtain rfl := Option.some.inj hr
   exact WO_env _ kr (K _ _ ⟨m, rfl, hm, st⟩)
  ·rw [if_neg (not_true hc)] at hr
   refine WO_fact (t := 19) (b := false) ((ByteArray.size p1 : Int) == 0) kr hc ?_
   refine WO_seg 5 [(16, .bool (p1.toList == p0.toList))] kr kr ?_
   obtain rfl := Option.some.inj hr
   exact WO_env _ kr (K _ _ ⟨m, rfl, hm, st⟩)
def strings_Index (N : Nat) (p0 : ByteArray) (p1 : ByteArray) : Option (Int) :=
 (internal_stringslite_Index N p0 p1).bind fun y1 => some y1
set_option maxHeartbeats 4000000 in
set_option maxRecDepth 100000 in
theorem strings_Index_ok {N : Nat} {m : Mem} {own : List Piece} {w : World} {p0 : ByteArray} {p1 : ByteArray} {r : Int} (st : St m (own) w) (hr : strings_Index N p0 p1 = some r) : Calls Tryz.prog 203 #[.string p0, .string p1] w fun e w' => ∃ (m' : Mem), e = .returned (.int .i64 r) ∧ m.le m' ∧ St m' (own) w' := by
 unfold strings_Index at hr
 have hm := m.le_refl
 refine W_calls Tryz.func203 rfl Tryz.ntmps203 [(0, .string p0), (1, .string p1)] kr rfl ?_
 refine W_sr (WO_seg 1 [] kr kr ?_)
 refine WO_et rfl (W_sr ?_)
 refine WO_seg 2 [(5, .string p0), (6, .string p1)] kr kr ?_
 replace ⟨y1, hx1, hr⟩ := bindS hr
 refine WO_one rfl (One_fn 7 233 #[.string p0, .string p1] kr rfl ?_)
 refine (internal_stringslite_Index_ok st hx1).mono ?_
 clear st
 rintro _ w1 ⟨m1, rfl, hle1, st⟩
 refine ⟨_, rfl, ?_⟩
 have hm := Mem.le_trans hm hle1
 refine WO_seg 1 [(4, .int .i64 y1)] kr kr ?_
 refine WO_et rfl (W_ret ?_)
 obtain rfl := Option.some.inj hr
 refine X_ret [.tmp 4] [.int .i64 y1] rfl (ResAll.cons (ResAt.tmp kr) ResAll.nil) ?_
 exact ⟨m1, rfl, hm, st⟩
def strings_Count_L1 (N : Nat) (p1 : ByteArray) (s1 : ByteArray × Int) : Option ((ByteArray × Int) ⊕ ((Int))) :=
 (strings_Index N s1.1 p1).bind fun y1 => if (y1 == (-1)) = true then (some (.inr s1.2)) else ((subB s1.1 (IntKind.wrap .i64 (y1 + (ByteArray.size p1 : Int))) (ByteArray.size s1.1 : Int)).bind fun s2 => some (.inl (s2, IntKind.wrap .i64 (s1.2 + 1))))
def strings_Count (N : Nat) (p0 : ByteArray) (p1 : ByteArray) : Option (Int) :=
 if ((ByteArray.size p1 : Int) == 0) = true then none else (if ((ByteArray.size p1 : Int) == 1) = true then ((idxB p1 0).bind fun x1 => some (cntB p0 (x1.toNat : Int))) else ((loopM (strings_Count_L1 N p1) N (p0, 0)).bind fun z => some z))
set_option maxHeartbeats 4000000 in
set_option maxRecDepth 100000 in
theorem strings_Count_ok {N : Nat} {m : Mem} {own : List Piece} {w : World} {p0 : ByteArray} {p1 : ByteArray} {r : Int} (st : St m (own) w) (hr : strings_Count N p0 p1 = some r) : Calls Tryz.prog 202 #[.string p0, .string p1] w fun e w' => ∃ (m' : Mem), e = .returned (.int .i64 r) ∧ m.le m' ∧ St m' (own) w' := by
 unfold strings_Count at hr
 have hm := m.le_refl
 refine W_calls Tryz.func202 rfl Tryz.ntmps202 [(0, .string p0), (1, .string p1)] kr rfl ?_
 refine W_sr (WO_seg 1 [] kr kr ?_)
 refine WO_et rfl (W_seq ?_)
 refine W_sr (WO_seg 3 [(9, .bool ((ByteArray.size p1 : Int) == 0))] kr kr ?_)
 refine WO_et rfl (W_cond ((ByteArray.size p1 : Int) == 0) kr ?_ ?_)
 ·intro hc
  rw [if_pos hc] at hr
  cases hr
 ·intro hc
  rw [if_neg (not_true hc)] at hr
  refine W_skip ?_
  refine X_then ?_
  refine W_seq ?_
  refine W_sr (WO_seg 3 [(15, .bool ((ByteArray.size p1 : Int) == 1))] kr kr ?_)
  refine WO_et rfl (W_cond ((ByteArray.size p1 : Int) == 1) kr ?_ ?_)
  ·intro hc
   rw [if_pos hc] at hr
   refine W_sr (WO_seg 2 [(16, .string p0), (17, .string p1)] kr kr ?_)
   replace ⟨x1, hx1, hr⟩ := bindS hr
   refine WO_one rfl (One_strIndex (d := 18) (t := 9) (x := (.tmp 17)) (y := (.const (.int .i64 0))) kr rfl (ev (.string p1)) (ev (.int .i64 0)) kr hx1 ?_)
   refine WO_one rfl (One_countByte (d := 19) (f := 232) (x := (.tmp 16)) (y := (.tmp 18)) (ts := #[9, 5]) kr rfl (ev (.string p0)) (ev (.int .u8 (x1.toNat : Int))) Tryz.func232 kr kr ?_)
   refine WO_seg 1 [(4, .int .i64 (cntB p0 (x1.toNat : Int)))] kr kr ?_
   refine WO_et rfl (W_ret ?_)
   refine X_then_ret ?_
   obtain rfl := Option.some.inj hr
   refine X_ret [.tmp 4] [.int .i64 (cntB p0 (x1.toNat : Int))] rfl (ResAll.cons (ResAt.tmp kr) ResAll.nil) ?_
   exact ⟨m, rfl, hm, st⟩
  ·intro hc
   rw [if_neg (not_true hc)] at hr
   refine W_skip ?_
   refine X_then ?_
   refine W_sr (WO_seg 1 [(5, .int .i64 0)] kr kr ?_)
   refine WO_et rfl (W_block ?_)
   replace ⟨out1, hr, hrKu1⟩ := bindS hr
   refine W_env _ kr (W_loop (fun k1 L' w' => ∃ (s1 : ByteArray × Int) (m1 : Mem), loopM (strings_Count_L1 N p1) k1 s1 = some out1 ∧ L' = [(0, .string s1.1), (1, .string p1), (5, .int .i64 s1.2)] ∧ m.le m1 ∧ St m1 (own) w') N ⟨(p0, 0), m, hr, rfl, hm, st⟩ ?_)
   clear st hr
   rintro k1 _ w1 ⟨s1, m1, hL, rfl, hm, st⟩
   rcases k1 with _ | k1
   ·exact loopM_zero hL
   ·obtain ⟨qu1, hr, hSu1, hBu1⟩ := loopM_succ hL
    clear hL
    unfold strings_Count_L1 at hr
    refine W_block ?_
    refine W_sr (WO_seg 2 [(20, .string s1.1), (21, .string p1)] kr kr ?_)
    replace ⟨y1, hx2, hr⟩ := bindS hr
    refine WO_one rfl (One_fn 22 203 #[.string s1.1, .string p1] kr rfl ?_)
    refine (strings_Index_ok st hx2).mono ?_
    clear st
    rintro _ w2 ⟨m2, rfl, hle1, st⟩
    refine ⟨_, rfl, ?_⟩
    have hm := Mem.le_trans hm hle1
    refine WO_seg 1 [(6, .int .i64 y1)] kr kr ?_
    refine WO_et rfl (W_seq ?_)
    refine W_sr (WO_seg 2 [(24, .bool (y1 == (-1)))] kr kr ?_)
    refine WO_et rfl (W_cond (y1 == (-1)) kr ?_ ?_)
    ·intro hc
     rw [if_pos hc] at hr
     refine W_sr (WO_seg 2 [(4, .int .i64 s1.2)] kr kr ?_)
     refine WO_et rfl (W_ret ?_)
     refine X_then_ret ?_
     refine X_block_ret ?_
     obtain rfl := Option.some.inj hr
     have ho := hBu1 _ rfl
     subst ho
     have hr := hrKu1
     refine X_then_ret ?_
     refine X_block_ret ?_
     obtain rfl := Option.some.inj hr
     refine X_ret [.tmp 4] [.int .i64 s1.2] rfl (ResAll.cons (ResAt.tmp kr) ResAll.nil) ?_
     exact ⟨m2, rfl, hm, st⟩
    ·intro hc
     rw [if_neg (not_true hc)] at hr
     refine W_skip ?_
     refine X_then ?_
     refine W_sr (WO_seg 3 [(5, .int .i64 (IntKind.wrap .i64 (s1.2 + 1)))] kr kr ?_)
     refine WO_et rfl (W_region ?_)
     refine WO_seg 5 [(28, .string s1.1), (32, .int .i64 (IntKind.wrap .i64 (y1 + (ByteArray.size p1 : Int))))] kr kr ?_
     replace ⟨s2, hx3, hr⟩ := bindS hr
     refine WO_one rfl (One_strSlice (d := 33) (t := 9) (x := (.tmp 28)) (lo := (some (.tmp 32))) (hi := none) kr rfl (ev (.string s1.1)) kr (.inr ⟨_, _, rfl, (ev (.int .i64 (IntKind.wrap .i64 (y1 + (ByteArray.size p1 : Int)))))⟩) (.inl ⟨rfl, rfl⟩) hx3 ?_)
     refine WO_seg 1 [(0, .string s2)] kr kr ?_
     refine WO_end rfl ?_
     refine X_block ?_
     obtain rfl := Option.some.inj hr
     have hL := hSu1 _ rfl
     exact X_env _ kr (X_round k1 (Nat.lt_succ_self _) ⟨(s2, IntKind.wrap .i64 (s1.2 + 1)), m2, hL, rfl, hm, st⟩)
def strings_genSplit_L1 (N : Nat) (p0 : ByteArray) (p1 : ByteArray) (p2 : Int) (o1 : Int) (s1 : ByteArray × Int × List (ByteArray)) : Option ((ByteArray × Int × List (ByteArray)) ⊕ ((ByteArray × Int × List (ByteArray)))) :=
 if (decide (s1.2.1 < (IntKind.wrap .i64 ((if (IntKind.wrap .i64 ((ByteArray.size p0 : Int) + 1)) < o1 then (IntKind.wrap .i64 ((ByteArray.size p0 : Int) + 1)) else o1) - 1)))) = true then ((strings_Index N s1.1 p1).bind fun y2 => if (decide (y2 < 0)) = true then (some (.inr (s1.1, s1.2.1, s1.2.2))) else ((subB s1.1 0 (IntKind.wrap .i64 (y2 + p2))).bind fun s2 => (idx s1.2.2 s1.2.1).bind fun x1 => (subB s1.1 (IntKind.wrap .i64 (y2 + (ByteArray.size p1 : Int))) (ByteArray.size s1.1 : Int)).bind fun s3 => some (.inl (s3, IntKind.wrap .i64 (s1.2.1 + 1), List.set s1.2.2 (Int.toNat s1.2.1) s2)))) else (some (.inr (s1.1, s1.2.1, s1.2.2)))
def strings_genSplit (N : Nat) (p0 : ByteArray) (p1 : ByteArray) (p2 : Int) (p3 : Int) : Option (List ByteArray) :=
 if (p3 == 0) = true then (some ([] : List (ByteArray))) else (if (p1.toList == (⟨#[]⟩ : ByteArray).toList) = true then none else ((if (decide (p3 < 0)) = true then ((strings_Count N p0 p1).bind fun y1 => some (IntKind.wrap .i64 (y1 + 1))) else (some p3) : Option (Int)).bind fun o1 => (makeA 16 (⟨#[]⟩ : ByteArray) (if (IntKind.wrap .i64 ((ByteArray.size p0 : Int) + 1)) < o1 then (IntKind.wrap .i64 ((ByteArray.size p0 : Int) + 1)) else o1)).bind fun l1 => (loopM (strings_genSplit_L1 N p0 p1 p2 o1) N (p0, 0, l1)).bind fun o2 => (idx o2.2.2 o2.2.1).bind fun x2 => (subS (List.set o2.2.2 (Int.toNat o2.2.1) o2.1) 0 (IntKind.wrap .i64 (o2.2.1 + 1))).bind fun l2 => some l2))
set_option maxHeartbeats 4000000 in
set_option maxRecDepth 100000 in
theorem strings_genSplit_ok {N : Nat} {m : Mem} {own : List Piece} {w : World} {p0 : ByteArray} {p1 : ByteArray} {p2 : Int} {p3 : Int} {r : List ByteArray} (st : St m (own) w) (hr : strings_genSplit N p0 p1 p2 p3 = some r) : Calls Tryz.prog 155 #[.string p0, .string p1, .int .i64 p2, .int .i64 p3] w fun e w' => ∃ (ra1 : Option Addr) (rc1 : Nat) (m' : Mem), e = .returned (.slice ra1 (List.length r) rc1) ∧ m.le m' ∧ St m' (own) w' ∧ RepS cStr m' ra1 rc1 r := by
 unfold strings_genSplit at hr
 have hm := m.le_refl
 refine W_calls Tryz.func155 rfl Tryz.ntmps155 [(0, .string p0), (1, .string p1), (2, .int .i64 p2), (3, .int .i64 p3)] kr rfl ?_
 refine W_sr (WO_seg 1 [] kr kr ?_)
 refine WO_et rfl (W_seq ?_)
 refine W_sr (WO_seg 2 [(13, .bool (p3 == 0))] kr kr ?_)
 refine WO_et rfl (W_cond (p3 == 0) kr ?_ ?_)
 ·intro hc
  rw [if_pos hc] at hr
  refine W_sr (WO_seg 1 [(8, .slice none (List.length ([] : List (ByteArray))) 0)] kr kr ?_)
  refine WO_et rfl (W_ret ?_)
  refine X_then_ret ?_
  obtain rfl := Option.some.inj hr
  refine X_ret [.tmp 8] [.slice none (List.length ([] : List (ByteArray))) 0] rfl (ResAll.cons (ResAt.tmp kr) ResAll.nil) ?_
  exact ⟨none, 0, m, rfl, hm, st, (RepS.nil _ _)⟩
 ·intro hc
  rw [if_neg (not_true hc)] at hr
  refine W_skip ?_
  refine X_then ?_
  refine W_seq ?_
  refine W_sr (WO_seg 2 [(15, .bool (p1.toList == (⟨#[]⟩ : ByteArray).toList))] kr kr ?_)
  refine WO_et rfl (W_cond (p1.toList == (⟨#[]⟩ : ByteArray).toList) kr ?_ ?_)
  ·intro hc
   rw [if_pos hc] at hr
   cases hr
  ·intro hc
   rw [if_neg (not_true hc)] at hr
   refine W_skip ?_
   refine X_then ?_
   refine W_seq ?_
   refine W_sr (WO_seg 2 [(20, .bool (decide (p3 < 0)))] kr kr ?_)
   refine WO_et rfl ?_
   replace ⟨o1, hr, hrKu1⟩ := bindS hr
   refine W_cut .normal (fun L' w' => ∃ (m1 : Mem), L' = [(0, .string p0), (1, .string p1), (2, .int .i64 p2), (3, .int .i64 o1)] ∧ m.le m1 ∧ St m1 (own) w') ?_ ?_
   ·clear hr st
    have hr := hrKu1
    clear hrKu1
    rintro _ w1 ⟨m1, rfl, hm, st⟩
    refine X_then ?_
    refine W_sr (WO_seg 6 [(3, .int .i64 (if (IntKind.wrap .i64 ((ByteArray.size p0 : Int) + 1)) < o1 then (IntKind.wrap .i64 ((ByteArray.size p0 : Int) + 1)) else o1))] kr kr ?_)
    refine WO_et rfl (W_sr ?_)
    refine WO_seg 1 [(30, .int .i64 (if (IntKind.wrap .i64 ((ByteArray.size p0 : Int) + 1)) < o1 then (IntKind.wrap .i64 ((ByteArray.size p0 : Int) + 1)) else o1))] kr kr ?_
    replace ⟨l1, hx2, hr⟩ := bindS hr
    refine WO_one rfl (One_makeArr (d := 31) (t := 33) (e := 9) (by_ := 16) (x := (.tmp 30)) (y := (.tmp 30)) (fun x : ByteArray => Value.string x) kr rfl (ev (.int .i64 (if (IntKind.wrap .i64 ((ByteArray.size p0 : Int) + 1)) < o1 then (IntKind.wrap .i64 ((ByteArray.size p0 : Int) + 1)) else o1))) (ev (.int .i64 (if (IntKind.wrap .i64 ((ByteArray.size p0 : Int) + 1)) < o1 then (IntKind.wrap .i64 ((ByteArray.size p0 : Int) + 1)) else o1))) kr kr rfl st hx2 ?_)
    clear st
    intro b1 w3 hn1 st
    refine WO_seg 1 [(9, .slice (some ⟨b1, 0, none⟩) (Int.toNat (if (IntKind.wrap .i64 ((ByteArray.size p0 : Int) + 1)) < o1 then (IntKind.wrap .i64 ((ByteArray.size p0 : Int) + 1)) else o1)) (Int.toNat (if (IntKind.wrap .i64 ((ByteArray.size p0 : Int) + 1)) < o1 then (IntKind.wrap .i64 ((ByteArray.size p0 : Int) + 1)) else o1)))] kr kr ?_
    refine WO_et rfl (W_sr ?_)
    refine WO_seg 3 [(3, .int .i64 (IntKind.wrap .i64 ((if (IntKind.wrap .i64 ((ByteArray.size p0 : Int) + 1)) < o1 then (IntKind.wrap .i64 ((ByteArray.size p0 : Int) + 1)) else o1) - 1)))] kr kr ?_
    refine WO_et rfl (W_sr ?_)
    refine WO_seg 1 [(10, .int .i64 0)] kr kr ?_
    refine WO_et rfl (W_seq ?_)
    refine W_block ?_
    replace ⟨out1, hr, hrKu2⟩ := bindS hr
    refine W_cut (.exit 0) (fun L' w' => ∃ (o2 : ByteArray × Int × List (ByteArray)) (m3 : Mem), o2 = out1 ∧ L' = [(0, .string o2.1), (9, .slice (some ⟨b1, 0, none⟩) (Int.toNat (if (IntKind.wrap .i64 ((ByteArray.size p0 : Int) + 1)) < o1 then (IntKind.wrap .i64 ((ByteArray.size p0 : Int) + 1)) else o1)) (Int.toNat (if (IntKind.wrap .i64 ((ByteArray.size p0 : Int) + 1)) < o1 then (IntKind.wrap .i64 ((ByteArray.size p0 : Int) + 1)) else o1))), (10, .int .i64 o2.2.1)] ∧ m.le m3 ∧ St m3 (.blk b1 (.cells (acells (fun x : ByteArray => Value.string x) o2.2.2 []) 9 (0, 0)) :: own) w' ∧ List.length o2.2.2 = (Int.toNat (if (IntKind.wrap .i64 ((ByteArray.size p0 : Int) + 1)) < o1 then (IntKind.wrap .i64 ((ByteArray.size p0 : Int) + 1)) else o1))) ?_ ?_
    ·clear hr st
     rintro _ w4 ⟨o2, m3, rfl, rfl, hm, st, hn2⟩
     have hr := hrKu2
     clear hrKu2
     refine X_block_eq ?_
     refine X_then ?_
     refine W_sr (WO_seg 3 [(58, .slice (some ⟨b1, 0, none⟩) (Int.toNat (if (IntKind.wrap .i64 ((ByteArray.size p0 : Int) + 1)) < o1 then (IntKind.wrap .i64 ((ByteArray.size p0 : Int) + 1)) else o1)) (Int.toNat (if (IntKind.wrap .i64 ((ByteArray.size p0 : Int) + 1)) < o1 then (IntKind.wrap .i64 ((ByteArray.size p0 : Int) + 1)) else o1))), (59, .int .i64 o2.2.1), (60, .string o2.1)] kr kr ?_)
     replace ⟨x2, hx7, hr⟩ := bindS hr
     refine WO_one rfl (One_arrIndex (d := 61) (t := 33) (e := 9) (x := (.tmp 58)) (y := (.tmp 59)) kr rfl (ev (.slice (some ⟨b1, 0, none⟩) (Int.toNat (if (IntKind.wrap .i64 ((ByteArray.size p0 : Int) + 1)) < o1 then (IntKind.wrap .i64 ((ByteArray.size p0 : Int) + 1)) else o1)) (Int.toNat (if (IntKind.wrap .i64 ((ByteArray.size p0 : Int) + 1)) < o1 then (IntKind.wrap .i64 ((ByteArray.size p0 : Int) + 1)) else o1)))) (ev (.int .i64 o2.2.1)) kr hn2 hx7 ?_)
     refine WO_one rfl (One_arrStore (f := (fun x : ByteArray => Value.string x)) (u := o2.1) (t := 9) (x := (.tmp 61)) (y := (.tmp 60)) kr (ev (.pointer (some ⟨b1, Int.toNat o2.2.1, none⟩))) (ev (.string o2.1)) st hx7 rfl kr ?_)
     clear st
     intro w8 st
     have hn5 : List.length (List.set o2.2.2 (Int.toNat o2.2.1) o2.1) = (Int.toNat (if (IntKind.wrap .i64 ((ByteArray.size p0 : Int) + 1)) < o1 then (IntKind.wrap .i64 ((ByteArray.size p0 : Int) + 1)) else o1)) := set_len hn2 _ _
     refine WO_et rfl (W_sr ?_)
     refine WO_seg 3 [(62, .slice (some ⟨b1, 0, none⟩) (Int.toNat (if (IntKind.wrap .i64 ((ByteArray.size p0 : Int) + 1)) < o1 then (IntKind.wrap .i64 ((ByteArray.size p0 : Int) + 1)) else o1)) (Int.toNat (if (IntKind.wrap .i64 ((ByteArray.size p0 : Int) + 1)) < o1 then (IntKind.wrap .i64 ((ByteArray.size p0 : Int) + 1)) else o1))), (64, .int .i64 (IntKind.wrap .i64 (o2.2.1 + 1)))] kr kr ?_
     obtain ⟨m6, hle3, st, r1⟩ := St.freeze (c := cStr) st hn5 (Nat.le_refl _) (makeA_le hx2) (acells_size hn5 (Nat.add_zero _)) rfl (fun _ _ => rfl)
     have hm := Mem.le_trans hm hle3
     refine WO_env [(9, .slice (some ⟨b1, 0, none⟩) (List.length (List.set o2.2.2 (Int.toNat o2.2.1) o2.1)) (Int.toNat (if (IntKind.wrap .i64 ((ByteArray.size p0 : Int) + 1)) < o1 then (IntKind.wrap .i64 ((ByteArray.size p0 : Int) + 1)) else o1))), (10, .int .i64 o2.2.1), (62, .slice (some ⟨b1, 0, none⟩) (List.length (List.set o2.2.2 (Int.toNat o2.2.1) o2.1)) (Int.toNat (if (IntKind.wrap .i64 ((ByteArray.size p0 : Int) + 1)) < o1 then (IntKind.wrap .i64 ((ByteArray.size p0 : Int) + 1)) else o1))), (64, .int .i64 (IntKind.wrap .i64 (o2.2.1 + 1)))] (by (try simp only [hn5]); kernel_rfl) ?_
     replace ⟨l2, hx8, hr⟩ := bindS hr
     refine WO_one rfl (One_slice (d := 65) (t := 33) (e := 9) (x := (.tmp 62)) (lo := none) (hi := (some (.tmp 64))) cStr kr rfl (ev (.slice (some ⟨b1, 0, none⟩) (List.length (List.set o2.2.2 (Int.toNat o2.2.1) o2.1)) (Int.toNat (if (IntKind.wrap .i64 ((ByteArray.size p0 : Int) + 1)) < o1 then (IntKind.wrap .i64 ((ByteArray.size p0 : Int) + 1)) else o1)))) kr r1 (.inl ⟨rfl, rfl⟩) (.inr ⟨_, _, rfl, (ev (.int .i64 (IntKind.wrap .i64 (o2.2.1 + 1))))⟩) hx8 ?_)
     intro a1 c1 r2
     refine WO_seg 1 [(8, .slice a1 (List.length l2) c1)] kr kr ?_
     refine WO_end rfl ?_
     have st := st.tail
     refine X_then ?_
     refine W_ret ?_
     obtain rfl := Option.some.inj hr
     refine X_ret [.tmp 8] [.slice a1 (List.length l2) c1] rfl (ResAll.cons (ResAt.tmp kr) ResAll.nil) ?_
     exact ⟨a1, c1, m6, rfl, hm, st, r2⟩
    intro K0_u2
    clear hrKu2
    refine W_env _ kr (W_loop (fun k1 L' w' => ∃ (s1 : ByteArray × Int × List (ByteArray)) (m4 : Mem), loopM (strings_genSplit_L1 N p0 p1 p2 o1) k1 s1 = some out1 ∧ L' = [(0, .string s1.1), (1, .string p1), (2, .int .i64 p2), (3, .int .i64 (IntKind.wrap .i64 ((if (IntKind.wrap .i64 ((ByteArray.size p0 : Int) + 1)) < o1 then (IntKind.wrap .i64 ((ByteArray.size p0 : Int) + 1)) else o1) - 1))), (9, .slice (some ⟨b1, 0, none⟩) (Int.toNat (if (IntKind.wrap .i64 ((ByteArray.size p0 : Int) + 1)) < o1 then (IntKind.wrap .i64 ((ByteArray.size p0 : Int) + 1)) else o1)) (Int.toNat (if (IntKind.wrap .i64 ((ByteArray.size p0 : Int) + 1)) < o1 then (IntKind.wrap .i64 ((ByteArray.size p0 : Int) + 1)) else o1))), (10, .int .i64 s1.2.1)] ∧ m.le m4 ∧ St m4 (.blk b1 (.cells (acells (fun x : ByteArray => Value.string x) s1.2.2 []) 9 (0, 0)) :: own) w' ∧ List.length s1.2.2 = (Int.toNat (if (IntKind.wrap .i64 ((ByteArray.size p0 : Int) + 1)) < o1 then (IntKind.wrap .i64 ((ByteArray.size p0 : Int) + 1)) else o1))) N ⟨(p0, 0, l1), m1, hr, rfl, hm, st, hn1⟩ ?_)
    clear st hr
    rintro k1 _ w5 ⟨s1, m4, hL, rfl, hm, st, hn3⟩
    rcases k1 with _ | k1
    ·exact loopM_zero hL
    ·obtain ⟨qu2, hr, hSu2, hBu2⟩ := loopM_succ hL
     clear hL
     unfold strings_genSplit_L1 at hr
     refine W_seq ?_
     refine W_sr (WO_seg 3 [(36, .bool (decide (s1.2.1 < (IntKind.wrap .i64 ((if (IntKind.wrap .i64 ((ByteArray.size p0 : Int) + 1)) < o1 then (IntKind.wrap .i64 ((ByteArray.size p0 : Int) + 1)) else o1) - 1)))))] kr kr ?_)
     refine WO_et rfl (W_cond (decide (s1.2.1 < (IntKind.wrap .i64 ((if (IntKind.wrap .i64 ((ByteArray.size p0 : Int) + 1)) < o1 then (IntKind.wrap .i64 ((ByteArray.size p0 : Int) + 1)) else o1) - 1)))) kr ?_ ?_)
     ·intro hc
      rw [if_pos hc] at hr
      refine W_skip ?_
      refine X_then ?_
      refine W_block ?_
      refine W_sr (WO_seg 2 [(37, .string s1.1), (38, .string p1)] kr kr ?_)
      replace ⟨y2, hx3, hr⟩ := bindS hr
      refine WO_one rfl (One_fn 39 203 #[.string s1.1, .string p1] kr rfl ?_)
      refine (strings_Index_ok st hx3).mono ?_
      clear st
      rintro _ w6 ⟨m5, rfl, hle2, st⟩
      refine ⟨_, rfl, ?_⟩
      have hm := Mem.le_trans hm hle2
      refine WO_seg 1 [(11, .int .i64 y2)] kr kr ?_
      refine WO_et rfl (W_seq ?_)
      refine W_sr (WO_seg 2 [(41, .bool (decide (y2 < 0)))] kr kr ?_)
      refine WO_et rfl (W_cond (decide (y2 < 0)) kr ?_ ?_)
      ·intro hc
       rw [if_pos hc] at hr
       refine W_exit ?_
       refine X_then_exit ?_
       refine X_block_ne rfl ?_
       obtain rfl := Option.some.inj hr
       have ho := hBu2 _ rfl
       refine X_then_exit ?_
       exact X_env _ kr (K0_u2 _ _ ⟨(s1.1, s1.2.1, s1.2.2), m5, ho, rfl, hm, st, hn3⟩)
      ·intro hc
       rw [if_neg (not_true hc)] at hr
       refine W_skip ?_
       refine X_then ?_
       refine W_sr (WO_seg 6 [(42, .slice (some ⟨b1, 0, none⟩) (Int.toNat (if (IntKind.wrap .i64 ((ByteArray.size p0 : Int) + 1)) < o1 then (IntKind.wrap .i64 ((ByteArray.size p0 : Int) + 1)) else o1)) (Int.toNat (if (IntKind.wrap .i64 ((ByteArray.size p0 : Int) + 1)) < o1 then (IntKind.wrap .i64 ((ByteArray.size p0 : Int) + 1)) else o1))), (43, .int .i64 s1.2.1), (44, .string s1.1), (47, .int .i64 (IntKind.wrap .i64 (y2 + p2)))] kr kr ?_)
       replace ⟨s2, hx4, hr⟩ := bindS hr
       refine WO_one rfl (One_strSlice (d := 48) (t := 9) (x := (.tmp 44)) (lo := none) (hi := (some (.tmp 47))) kr rfl (ev (.string s1.1)) kr (.inl ⟨rfl, rfl⟩) (.inr ⟨_, _, rfl, (ev (.int .i64 (IntKind.wrap .i64 (y2 + p2))))⟩) hx4 ?_)
       replace ⟨x1, hx5, hr⟩ := bindS hr
       refine WO_one rfl (One_arrIndex (d := 49) (t := 33) (e := 9) (x := (.tmp 42)) (y := (.tmp 43)) kr rfl (ev (.slice (some ⟨b1, 0, none⟩) (Int.toNat (if (IntKind.wrap .i64 ((ByteArray.size p0 : Int) + 1)) < o1 then (IntKind.wrap .i64 ((ByteArray.size p0 : Int) + 1)) else o1)) (Int.toNat (if (IntKind.wrap .i64 ((ByteArray.size p0 : Int) + 1)) < o1 then (IntKind.wrap .i64 ((ByteArray.size p0 : Int) + 1)) else o1)))) (ev (.int .i64 s1.2.1)) kr hn3 hx5 ?_)
       refine WO_one rfl (One_arrStore (f := (fun x : ByteArray => Value.string x)) (u := s2) (t := 9) (x := (.tmp 49)) (y := (.tmp 48)) kr (ev (.pointer (some ⟨b1, Int.toNat s1.2.1, none⟩))) (ev (.string s2)) st hx5 rfl kr ?_)
       clear st
       intro w7 st
       have hn4 : List.length (List.set s1.2.2 (Int.toNat s1.2.1) s2) = (Int.toNat (if (IntKind.wrap .i64 ((ByteArray.size p0 : Int) + 1)) < o1 then (IntKind.wrap .i64 ((ByteArray.size p0 : Int) + 1)) else o1)) := set_len hn3 _ _
       refine WO_et rfl (W_sr ?_)
       refine WO_seg 5 [(50, .string s1.1), (54, .int .i64 (IntKind.wrap .i64 (y2 + (ByteArray.size p1 : Int))))] kr kr ?_
       replace ⟨s3, hx6, hr⟩ := bindS hr
       refine WO_one rfl (One_strSlice (d := 55) (t := 9) (x := (.tmp 50)) (lo := (some (.tmp 54))) (hi := none) kr rfl (ev (.string s1.1)) kr (.inr ⟨_, _, rfl, (ev (.int .i64 (IntKind.wrap .i64 (y2 + (ByteArray.size p1 : Int)))))⟩) (.inl ⟨rfl, rfl⟩) hx6 ?_)
       refine WO_seg 1 [(0, .string s3)] kr kr ?_
       refine WO_et rfl (W_region ?_)
       refine WO_seg 3 [(10, .int .i64 (IntKind.wrap .i64 (s1.2.1 + 1)))] kr kr ?_
       refine WO_end rfl ?_
       refine X_block ?_
       obtain rfl := Option.some.inj hr
       have hL := hSu2 _ rfl
       exact X_env _ kr (X_round k1 (Nat.lt_succ_self _) ⟨(s3, IntKind.wrap .i64 (s1.2.1 + 1), List.set s1.2.2 (Int.toNat s1.2.1) s2), m5, hL, rfl, hm, st, hn4⟩)
     ·intro hc
      rw [if_neg (not_true hc)] at hr
      refine W_exit ?_
      refine X_then_exit ?_
      obtain rfl := Option.some.inj hr
      have ho := hBu2 _ rfl
      refine X_then_exit ?_
      exact X_env _ kr (K0_u2 _ _ ⟨(s1.1, s1.2.1, s1.2.2), m4, ho, rfl, hm, st, hn3⟩)
   ·intro Ku1
    clear hrKu1
    refine W_cond (decide (p3 < 0)) kr ?_ ?_
    ·intro hc
     rw [if_pos hc] at hr
     refine W_region ?_
     refine WO_seg 2 [(21, .string p0), (22, .string p1)] kr kr ?_
     replace ⟨y1, hx1, hr⟩ := bindS hr
     refine WO_one rfl (One_fn 23 202 #[.string p0, .string p1] kr rfl ?_)
     refine (strings_Count_ok st hx1).mono ?_
     clear st
     rintro _ w2 ⟨m2, rfl, hle1, st⟩
     refine ⟨_, rfl, ?_⟩
     have hm := Mem.le_trans hm hle1
     refine WO_seg 2 [(3, .int .i64 (IntKind.wrap .i64 (y1 + 1)))] kr kr ?_
     refine WO_end rfl ?_
     obtain rfl := Option.some.inj hr
     exact X_env _ kr (Ku1 _ _ ⟨m2, rfl, hm, st⟩)
    ·intro hc
     rw [if_neg (not_true hc)] at hr
     refine W_skip ?_
     obtain rfl := Option.some.inj hr
     exact X_env _ kr (Ku1 _ _ ⟨m, rfl, hm, st⟩)
def strings_Split (N : Nat) (p0 : ByteArray) (p1 : ByteArray) : Option (List ByteArray) :=
 (strings_genSplit N p0 p1 0 (-1)).bind fun y1 => some y1
set_option maxHeartbeats 4000000 in
set_option maxRecDepth 100000 in
theorem strings_Split_ok {N : Nat} {m : Mem} {own : List Piece} {w : World} {p0 : ByteArray} {p1 : ByteArray} {r : List ByteArray} (st : St m (own) w) (hr : strings_Split N p0 p1 = some r) : Calls Tryz.prog 128 #[.string p0, .string p1] w fun e w' => ∃ (ra1 : Option Addr) (rc1 : Nat) (m' : Mem), e = .returned (.slice ra1 (List.length r) rc1) ∧ m.le m' ∧ St m' (own) w' ∧ RepS cStr m' ra1 rc1 r := by
 unfold strings_Split at hr
 have hm := m.le_refl
 refine W_calls Tryz.func128 rfl Tryz.ntmps128 [(0, .string p0), (1, .string p1)] kr rfl ?_
 refine W_sr (WO_seg 1 [] kr kr ?_)
 refine WO_et rfl (W_sr ?_)
 refine WO_seg 2 [(5, .string p0), (6, .string p1)] kr kr ?_
 replace ⟨y1, hx1, hr⟩ := bindS hr
 refine WO_one rfl (One_fn 7 155 #[.string p0, .string p1, .int .i64 0, .int .i64 (-1)] kr rfl ?_)
 refine (strings_genSplit_ok st hx1).mono ?_
 clear st
 rintro _ w1 ⟨a1, c1, m1, rfl, hle1, st, r1⟩
 refine ⟨_, rfl, ?_⟩
 have hm := Mem.le_trans hm hle1
 refine WO_seg 1 [(4, .slice a1 (List.length y1) c1)] kr kr ?_
 refine WO_et rfl (W_ret ?_)
 obtain rfl := Option.some.inj hr
 refine X_ret [.tmp 4] [.slice a1 (List.length y1) c1] rfl (ResAll.cons (ResAt.tmp kr) ResAll.nil) ?_
 exact ⟨a1, c1, m1, rfl, hm, st, r1⟩
def lexer_kinds_L2 (N : Nat) (kv1 : Int × ByteArray) (l1 : List (UInt8)) (s2 : Int × (Option (List (Int × Int)))) : Option ((Int × (Option (List (Int × Int)))) ⊕ (((Option (List (Int × Int)))))) :=
 if (decide (s2.1 < (List.length l1 : Int))) = true then ((idx l1 s2.1).bind fun x1 => (msetQ s2.2 (x1.toNat : Int) kv1.1).bind fun mp9 => some (.inl (IntKind.wrap .i64 (s2.1 + 1), mp9))) else (some (.inr s2.2))
def lexer_kinds_L1 (N : Nat) (z1 : Option (Int × ByteArray)) (s1 : (Option (List (Int × Int)))) : Option (((Option (List (Int × Int)))) ⊕ (((Option (List (Int × Int)))))) :=
 (match z1 with | none => some (.inr s1) | some kv1 => (bytesOf kv1.2).bind fun l1 => (loopM (lexer_kinds_L2 N kv1 l1) N (0, s1)).bind fun o2 => some (.inl o2))
def lexer_kinds (N : Nat) : Option (Option (List (Int × Int))) :=
 (msetQ (some [] : Option (List (Int × ByteArray))) 1 (⟨#[97, 98, 99, 100, 101, 102, 103, 104, 105, 106, 107, 108, 109, 110, 111, 112, 113, 114, 115, 116, 117, 118, 119, 120, 121, 122]⟩ : ByteArray)).bind fun mp1 => (msetQ mp1 2 (⟨#[48, 49, 50, 51, 52, 53, 54, 55, 56, 57]⟩ : ByteArray)).bind fun mp2 => (msetQ mp2 3 (⟨#[95]⟩ : ByteArray)).bind fun mp3 => (msetQ mp3 4 (⟨#[46]⟩ : ByteArray)).bind fun mp4 => (msetQ mp4 5 (⟨#[9, 10, 13, 32]⟩ : ByteArray)).bind fun mp5 => (msetQ mp5 6 (⟨#[35]⟩ : ByteArray)).bind fun mp6 => (msetQ mp6 7 (⟨#[34]⟩ : ByteArray)).bind fun mp7 => (msetQ mp7 8 (⟨#[59, 44, 40, 41, 43, 45, 42, 47, 37, 60, 61]⟩ : ByteArray)).bind fun mp8 => (mrange (lexer_kinds_L1 N) (Option.getD mp8 []) (some [] : Option (List (Int × Int)))).bind fun o1 => some o1
set_option maxHeartbeats 4000000 in
set_option maxRecDepth 100000 in
theorem lexer_kinds_ok {N : Nat} {m : Mem} {own : List Piece} {w : World} {r : Option (List (Int × Int))} (st : St m (own) w) (hr : lexer_kinds N = some r) : Calls Tryz.prog 121 #[] w fun e w' => ∃ (rq1 : Option Nat) (re1 : Array MapEntry) (rk1 : Nat) (m' : Mem), e = .returned (.map rq1) ∧ m.le m' ∧ St m' (mpiece rq1 re1 rk1 :: own) w' ∧ MapQ (fun n : Int => Value.int .u8 n) (cInt .i64) false m' rq1 re1 rk1 r := by
 unfold lexer_kinds at hr
 have hm := m.le_refl
 refine W_calls Tryz.func121 rfl Tryz.ntmps121 [] kr rfl ?_
 refine W_sr (WO_seg 1 [] kr kr ?_)
 refine WO_et rfl (W_sr ?_)
 refine WO_one rfl (One_makeMap (d := 6) (t := 164) kr rfl st ?_)
 clear st
 intro b1 w1 st
 refine WO_seg 1 [(1, .map (some b1))] kr kr ?_
 refine WO_et rfl (W_seq ?_)
 refine W_sr (WO_one rfl (One_makeMap (d := 7) (t := 207) kr rfl st ?_))
 clear st
 intro b2 w2 st
 replace ⟨mp1, hx1, hr⟩ := bindS hr
 refine WO_one rfl (One_insert (ek := (fun n : Int => Value.int .i64 n)) (c := cStr) (agg := false) (k := 1) (yv := (⟨#[97, 98, 99, 100, 101, 102, 103, 104, 105, 106, 107, 108, 109, 110, 111, 112, 113, 114, 115, 116, 117, 118, 119, 120, 121, 122]⟩ : ByteArray)) (cs := [.string (⟨#[97, 98, 99, 100, 101, 102, 103, 104, 105, 106, 107, 108, 109, 110, 111, 112, 113, 114, 115, 116, 117, 118, 119, 120, 121, 122]⟩ : ByteArray)]) (z := (.string (⟨#[]⟩ : ByteArray))) (v := (.string (⟨#[97, 98, 99, 100, 101, 102, 103, 104, 105, 106, 107, 108, 109, 110, 111, 112, 113, 114, 115, 116, 117, 118, 119, 120, 121, 122]⟩ : ByteArray))) (kt := 3) (et := 9) (t := 207) (x := (.tmp 7)) (y := (.const (.int .i64 1))) (u := (.const (.string (⟨#[97, 98, 99, 100, 101, 102, 103, 104, 105, 106, 107, 108, 109, 110, 111, 112, 113, 114, 115, 116, 117, 118, 119, 120, 121, 122]⟩ : ByteArray)))) kr (ev (.map (some b2))) (ev (.int .i64 1)) (ev (.string (⟨#[97, 98, 99, 100, 101, 102, 103, 104, 105, 106, 107, 108, 109, 110, 111, 112, 113, 114, 115, 116, 117, 118, 119, 120, 121, 122]⟩ : ByteArray))) kr (keyInt kr) st (MapQ.new (fun n : Int => Value.int .i64 n) cStr false _ _) rfl rfl hx1 ?_)
 clear st
 intro es1 ck1 w3 st r1
 replace ⟨mp2, hx2, hr⟩ := bindS hr
 refine WO_one rfl (One_insert (ek := (fun n : Int => Value.int .i64 n)) (c := cStr) (agg := false) (k := 2) (yv := (⟨#[48, 49, 50, 51, 52, 53, 54, 55, 56, 57]⟩ : ByteArray)) (cs := [.string (⟨#[48, 49, 50, 51, 52, 53, 54, 55, 56, 57]⟩ : ByteArray)]) (z := (.string (⟨#[]⟩ : ByteArray))) (v := (.string (⟨#[48, 49, 50, 51, 52, 53, 54, 55, 56, 57]⟩ : ByteArray))) (kt := 3) (et := 9) (t := 207) (x := (.tmp 7)) (y := (.const (.int .i64 2))) (u := (.const (.string (⟨#[48, 49, 50, 51, 52, 53, 54, 55, 56, 57]⟩ : ByteArray)))) kr (ev (.map (some b2))) (ev (.int .i64 2)) (ev (.string (⟨#[48, 49, 50, 51, 52, 53, 54, 55, 56, 57]⟩ : ByteArray))) kr (keyInt kr) st r1 rfl rfl hx2 ?_)
 clear st
 intro es2 ck2 w4 st r2
 replace ⟨mp3, hx3, hr⟩ := bindS hr
 refine WO_one rfl (One_insert (ek := (fun n : Int => Value.int .i64 n)) (c := cStr) (agg := false) (k := 3) (yv := (⟨#[95]⟩ : ByteArray)) (cs := [.string (⟨#[95]⟩ : ByteArray)]) (z := (.string (⟨#[]⟩ : ByteArray))) (v := (.string (⟨#[95]⟩ : ByteArray))) (kt := 3) (et := 9) (t := 207) (x := (.tmp 7)) (y := (.const (.int .i64 3))) (u := (.const (.string (⟨#[95]⟩ : ByteArray)))) kr (ev (.map (some b2))) (ev (.int .i64 3)) (ev (.string (⟨#[95]⟩ : ByteArray))) kr (keyInt kr) st r2 rfl rfl hx3 ?_)
 clear st
 intro es3 ck3 w5 st r3
 replace ⟨mp4, hx4, hr⟩ := bindS hr
 refine WO_one rfl (One_insert (ek := (fun n : Int => Value.int .i64 n)) (c := cStr) (agg := false) (k := 4) (yv := (⟨#[46]⟩ : ByteArray)) (cs := [.string (⟨#[46]⟩ : ByteArray)]) (z := (.string (⟨#[]⟩ : ByteArray))) (v := (.string (⟨#[46]⟩ : ByteArray))) (kt := 3) (et := 9) (t := 207) (x := (.tmp 7)) (y := (.const (.int .i64 4))) (u := (.const (.string (⟨#[46]⟩ : ByteArray)))) kr (ev (.map (some b2))) (ev (.int .i64 4)) (ev (.string (⟨#[46]⟩ : ByteArray))) kr (keyInt kr) st r3 rfl rfl hx4 ?_)
 clear st
 intro es4 ck4 w6 st r4
 replace ⟨mp5, hx5, hr⟩ := bindS hr
 refine WO_one rfl (One_insert (ek := (fun n : Int => Value.int .i64 n)) (c := cStr) (agg := false) (k := 5) (yv := (⟨#[9, 10, 13, 32]⟩ : ByteArray)) (cs := [.string (⟨#[9, 10, 13, 32]⟩ : ByteArray)]) (z := (.string (⟨#[]⟩ : ByteArray))) (v := (.string (⟨#[9, 10, 13, 32]⟩ : ByteArray))) (kt := 3) (et := 9) (t := 207) (x := (.tmp 7)) (y := (.const (.int .i64 5))) (u := (.const (.string (⟨#[9, 10, 13, 32]⟩ : ByteArray)))) kr (ev (.map (some b2))) (ev (.int .i64 5)) (ev (.string (⟨#[9, 10, 13, 32]⟩ : ByteArray))) kr (keyInt kr) st r4 rfl rfl hx5 ?_)
 clear st
 intro es5 ck5 w7 st r5
 replace ⟨mp6, hx6, hr⟩ := bindS hr
 refine WO_one rfl (One_insert (ek := (fun n : Int => Value.int .i64 n)) (c := cStr) (agg := false) (k := 6) (yv := (⟨#[35]⟩ : ByteArray)) (cs := [.string (⟨#[35]⟩ : ByteArray)]) (z := (.string (⟨#[]⟩ : ByteArray))) (v := (.string (⟨#[35]⟩ : ByteArray))) (kt := 3) (et := 9) (t := 207) (x := (.tmp 7)) (y := (.const (.int .i64 6))) (u := (.const (.string (⟨#[35]⟩ : ByteArray)))) kr (ev (.map (some b2))) (ev (.int .i64 6)) (ev (.string (⟨#[35]⟩ : ByteArray))) kr (keyInt kr) st r5 rfl rfl hx6 ?_)
 clear st
 intro es6 ck6 w8 st r6
 replace ⟨mp7, hx7, hr⟩ := bindS hr
 refine WO_one rfl (One_insert (ek := (fun n : Int => Value.int .i64 n)) (c := cStr) (agg := false) (k := 7) (yv := (⟨#[34]⟩ : ByteArray)) (cs := [.string (⟨#[34]⟩ : ByteArray)]) (z := (.string (⟨#[]⟩ : ByteArray))) (v := (.string (⟨#[34]⟩ : ByteArray))) (kt := 3) (et := 9) (t := 207) (x := (.tmp 7)) (y := (.const (.int .i64 7))) (u := (.const (.string (⟨#[34]⟩ : ByteArray)))) kr (ev (.map (some b2))) (ev (.int .i64 7)) (ev (.string (⟨#[34]⟩ : ByteArray))) kr (keyInt kr) st r6 rfl rfl hx7 ?_)
 clear st
 intro es7 ck7 w9 st r7
 replace ⟨mp8, hx8, hr⟩ := bindS hr
 refine WO_one rfl (One_insert (ek := (fun n : Int => Value.int .i64 n)) (c := cStr) (agg := false) (k := 8) (yv := (⟨#[59, 44, 40, 41, 43, 45, 42, 47, 37, 60, 61]⟩ : ByteArray)) (cs := [.string (⟨#[59, 44, 40, 41, 43, 45, 42, 47, 37, 60, 61]⟩ : ByteArray)]) (z := (.string (⟨#[]⟩ : ByteArray))) (v := (.string (⟨#[59, 44, 40, 41, 43, 45, 42, 47, 37, 60, 61]⟩ : ByteArray))) (kt := 3) (et := 9) (t := 207) (x := (.tmp 7)) (y := (.const (.int .i64 8))) (u := (.const (.string (⟨#[59, 44, 40, 41, 43, 45, 42, 47, 37, 60, 61]⟩ : ByteArray)))) kr (ev (.map (some b2))) (ev (.int .i64 8)) (ev (.string (⟨#[59, 44, 40, 41, 43, 45, 42, 47, 37, 60, 61]⟩ : ByteArray))) kr (keyInt kr) st r7 rfl rfl hx8 ?_)
 clear st
 intro es8 ck8 w10 st r8
 refine WO_seg 1 [(8, .map (some b2))] kr kr ?_
 refine WO_one rfl (One_range (ek := (fun n : Int => Value.int .i64 n)) (c := cStr) (agg := false) (d := 9) (t := 207) (kt := 3) (et := 9) (x := (.tmp 8)) kr rfl (ev (.map (some b2))) kr st r8 ?_)
 clear st
 intro b3 w11 st hi1
 refine WO_et rfl (W_block ?_)
 replace ⟨out1, hr, hrKu1⟩ := bindS hr
 refine W_cut (.exit 0) (fun L' w' => ∃ (o1 : (Option (List (Int × Int)))) (es9 : Array MapEntry) (ck9 : Nat) (sn1 : Array Nat) (rem1 : List (Int × ByteArray)) (m1 : Mem), o1 = out1 ∧ L' = [(1, .map (some b1))] ∧ m.le m1 ∧ St m1 (mpiece (some b2) es8 ck8 :: mpiece (some b1) es9 ck9 :: itpiece b3 (some b2) ck8 sn1 :: own) w' ∧ MapQ (fun n : Int => Value.int .i64 n) cStr false m1 (some b2) es8 ck8 mp8 ∧ MapQ (fun n : Int => Value.int .u8 n) (cInt .i64) false m1 (some b1) es9 ck9 o1 ∧ ItR (fun n : Int => Value.int .i64 n) cStr false m1 es8 sn1 rem1) ?_ ?_
 ·clear hr st
  rintro _ w12 ⟨o1, es9, ck9, sn1, rem1, m1, rfl, rfl, hm, st, r8, r9, hi2⟩
  have hr := hrKu1
  clear hrKu1
  refine X_block_eq ?_
  refine X_then ?_
  refine W_sr (WO_seg 2 [(0, .map (some b1))] kr kr ?_)
  refine WO_end rfl ?_
  have st := st.front2
  have st := st.tail
  refine X_then ?_
  refine W_ret ?_
  obtain rfl := Option.some.inj hr
  refine X_ret [.tmp 0] [.map (some b1)] rfl (ResAll.cons (ResAt.tmp kr) ResAll.nil) ?_
  have st := st.tail
  exact ⟨(some b1), es9, ck9, m1, rfl, hm, st, r9⟩
 intro K0_u1
 clear hrKu1
 have st := st.front2.front2
 refine W_env _ kr (W_loop (fun k1 L' w' => ∃ (s1 : (Option (List (Int × Int)))) (es10 : Array MapEntry) (ck10 : Nat) (sn2 : Array Nat) (rem2 : List (Int × ByteArray)) (m2 : Mem), LoopE (lexer_kinds_L1 N) rem2 s1 out1 k1 ∧ L' = [(1, .map (some b1)), (9, .pointer (some ⟨b3, 0, none⟩))] ∧ m.le m2 ∧ St m2 (mpiece (some b2) es8 ck8 :: mpiece (some b1) es10 ck10 :: itpiece b3 (some b2) ck8 sn2 :: own) w' ∧ MapQ (fun n : Int => Value.int .i64 n) cStr false m2 (some b2) es8 ck8 mp8 ∧ MapQ (fun n : Int => Value.int .u8 n) (cInt .i64) false m2 (some b1) es10 ck10 s1 ∧ ItR (fun n : Int => Value.int .i64 n) cStr false m2 es8 sn2 rem2) (List.length (Option.getD mp8 []) + 1) ⟨(some [] : Option (List (Int × Int))), #[], 0, #[], (Option.getD mp8 []), m, LoopE.start hr, rfl, hm, st, r8, (MapQ.new (fun n : Int => Value.int .u8 n) (cInt .i64) false _ _), hi1⟩ ?_)
 clear st hr
 rintro k1 _ w13 ⟨s1, es10, ck10, sn2, rem2, m2, hL, rfl, hm, st, r8, r10, hi3⟩
 rcases k1 with _ | k1
 ·exact LoopE.zero hL
 ·refine W_sr ?_
  have st := st.front2
  refine WO_one rfl (One_next (ek := (fun n : Int => Value.int .i64 n)) (c := cStr) (agg := false) (d := 10) (x := (.tmp 9)) kr rfl (ev (.pointer (some ⟨b3, 0, none⟩))) st r8 hi3 ?_ ?_)
  ·intro hx9 w14 st
   obtain ⟨qu1, hr, hSu1, hBu1⟩ := hL.nil hx9
   clear hL
   unfold lexer_kinds_L1 at hr
   dsimp only at hr
   refine WO_seg 1 [(11, .bool false)] kr kr ?_
   refine WO_et rfl (W_seq ?_)
   refine W_cond false kr (fun h => Bool.noConfusion h) ?_
   intro _
   refine W_exit ?_
   refine X_then_exit ?_
   obtain rfl := Option.some.inj hr
   have ho := hBu1 _ rfl
   have st := st.front2.front2
   refine X_then_exit ?_
   exact X_env _ kr (K0_u1 _ _ ⟨s1, es10, ck10, sn2, rem2, m2, ho, rfl, hm, st, r8, r10, hi3⟩)
  ·rintro kv1 rem3 sn3 cs1 w15 hx10 rfl st hi4 he1
   obtain ⟨qu1, hr, hSu1, hBu1⟩ := hL.cons hx10
   clear hL
   unfold lexer_kinds_L1 at hr
   dsimp only at hr
   refine WO_seg 1 [(11, .bool true)] kr kr ?_
   refine WO_et rfl (W_seq ?_)
   refine W_cond true kr ?_ (fun h => Bool.noConfusion h)
   intro _
   refine W_skip ?_
   refine X_then ?_
   refine W_block ?_
   refine W_sr ?_
   have st := st.front1.front1
   refine WO_one rfl (One_entry (ek := (fun n : Int => Value.int .i64 n)) (c := cStr) (agg := false) (d := 12) (x := (.tmp 9)) (K := .int .i64 kv1.1) (V := .string kv1.2) kr rfl (ev (.pointer (some ⟨b3, 0, none⟩))) st r8 he1 ?_)
   refine WO_seg 4 [(2, .int .i64 kv1.1), (3, .string kv1.2)] kr kr ?_
   refine WO_et rfl (W_sr ?_)
   refine WO_seg 1 [(15, .string kv1.2)] kr kr ?_
   replace ⟨l1, hx11, hr⟩ := bindS hr
   refine WO_one rfl (One_strBytes (d := 16) (t1 := 9) (t2 := 190) (e := 5) (x := (.tmp 15)) kr rfl (ev (.string kv1.2)) kr kr st hx11 ?_)
   clear st
   intro b4 c1 m3 w16 hle1 st r11
   have hm := Mem.le_trans hm hle1
   have hi4 := hi4.mono hle1
   have r8 := r8.mono hle1
   have r10 := r10.mono hle1
   refine WO_seg 2 [(17, .int .i64 (List.length l1 : Int)), (18, .int .i64 0)] kr kr ?_
   refine WO_et rfl (W_block ?_)
   replace ⟨out2, hr, hrKu2⟩ := bindS hr
   refine W_cut (.exit 2) (fun L' w' => ∃ (o2 : (Option (List (Int × Int)))) (es11 : Array MapEntry) (ck11 : Nat) (m4 : Mem), o2 = out2 ∧ L' = [(1, .map (some b1)), (9, .pointer (some ⟨b3, 0, none⟩))] ∧ m.le m4 ∧ St m4 (mpiece (some b2) es8 ck8 :: mpiece (some b1) es11 ck11 :: itpiece b3 (some b2) ck8 sn3 :: own) w' ∧ MapQ (fun n : Int => Value.int .i64 n) cStr false m4 (some b2) es8 ck8 mp8 ∧ MapQ (fun n : Int => Value.int .u8 n) (cInt .i64) false m4 (some b1) es11 ck11 o2 ∧ ItR (fun n : Int => Value.int .i64 n) cStr false m4 es8 sn3 rem3) ?_ ?_
   ·clear hr st
    rintro _ w17 ⟨o2, es11, ck11, m4, rfl, rfl, hm, st, r8, r12, hi4⟩
    have hr := hrKu2
    clear hrKu2
    refine X_block_eq ?_
    refine X_block ?_
    obtain rfl := Option.some.inj hr
    have hL := hSu1 _ rfl
    have st := st.front2.front2.front2
    exact X_env _ kr (X_round k1 (Nat.lt_succ_self _) ⟨o2, es11, ck11, sn3, rem3, m4, hL, rfl, hm, st, r8, r12, hi4⟩)
   intro K2_u2
   clear hrKu2
   have st := st.front2.front2
   refine W_env _ kr (W_loop (fun k2 L' w' => ∃ (s2 : Int × (Option (List (Int × Int)))) (es12 : Array MapEntry) (ck12 : Nat) (m5 : Mem), loopM (lexer_kinds_L2 N kv1 l1) k2 s2 = some out2 ∧ L' = [(1, .map (some b1)), (2, .int .i64 kv1.1), (9, .pointer (some ⟨b3, 0, none⟩)), (16, .slice (some ⟨b4, 0, none⟩) (List.length l1) c1), (17, .int .i64 (List.length l1 : Int)), (18, .int .i64 s2.1)] ∧ m.le m5 ∧ St m5 (mpiece (some b2) es8 ck8 :: mpiece (some b1) es12 ck12 :: itpiece b3 (some b2) ck8 sn3 :: own) w' ∧ RepS cU8 m5 (some ⟨b4, 0, none⟩) c1 l1 ∧ MapQ (fun n : Int => Value.int .i64 n) cStr false m5 (some b2) es8 ck8 mp8 ∧ MapQ (fun n : Int => Value.int .u8 n) (cInt .i64) false m5 (some b1) es12 ck12 s2.2 ∧ ItR (fun n : Int => Value.int .i64 n) cStr false m5 es8 sn3 rem3) N ⟨(0, s1), es10, ck10, m3, hr, rfl, hm, st, r11, r8, r10, hi4⟩ ?_)
   clear st hr
   rintro k2 _ w18 ⟨s2, es12, ck12, m5, hL, rfl, hm, st, r11, r8, r13, hi4⟩
   rcases k2 with _ | k2
   ·exact loopM_zero hL
   ·obtain ⟨qu2, hr, hSu2, hBu2⟩ := loopM_succ hL
    clear hL
    unfold lexer_kinds_L2 at hr
    refine W_sr (WO_seg 1 [(19, .bool (decide (s2.1 < (List.length l1 : Int))))] kr kr ?_)
    refine WO_et rfl (W_seq ?_)
    refine W_cond (decide (s2.1 < (List.length l1 : Int))) kr ?_ ?_
    ·intro hc
     rw [if_pos hc] at hr
     refine W_skip ?_
     refine X_then ?_
     refine W_seq ?_
     refine W_block ?_
     refine W_sr ?_
     replace ⟨x1, hx12, hr⟩ := bindS hr
     refine WO_one rfl (One_index (d := 20) (t := 190) (e := 5) (x := (.tmp 16)) (y := (.tmp 18)) cU8 kr rfl (ev (.slice (some ⟨b4, 0, none⟩) (List.length l1) c1)) (ev (.int .i64 s2.1)) kr r11 hx12 ?_)
     rintro b5 f1 cs2 rfl hq1
     refine WO_one rfl (One_load_row (d := 21) (t := 5) (x := (.tmp 20)) (.int .u8 (x1.toNat : Int)) kr rfl (ev (.pointer (some ⟨b5, f1, none⟩))) st hq1 kr ?_)
     refine WO_seg 1 [(5, .int .u8 (x1.toNat : Int))] kr kr ?_
     refine WO_et rfl (W_region ?_)
     refine WO_seg 3 [(22, .map (some b1)), (23, .int .u8 (x1.toNat : Int)), (24, .int .i64 kv1.1)] kr kr ?_
     have st := st.front1
     replace ⟨mp9, hx13, hr⟩ := bindS hr
     refine WO_one rfl (One_mapUpdate (ek := (fun n : Int => Value.int .u8 n)) (c := (cInt .i64)) (agg := false) (k := (x1.toNat : Int)) (yv := kv1.1) (cs := [.int .i64 kv1.1]) (z := (.int .i64 0)) (v := (.int .i64 kv1.1)) (kt := 5) (et := 3) (t := 164) (x := (.tmp 22)) (y := (.tmp 23)) (u := (.tmp 24)) kr (ev (.map (some b1))) (ev (.int .u8 (x1.toNat : Int))) (ev (.int .i64 kv1.1)) kr (keyInt kr) st r13 rfl rfl hx13 ?_)
     clear st
     intro es13 ck13 w19 st r14
     refine WO_end rfl ?_
     refine X_block ?_
     refine X_then ?_
     refine W_region ?_
     refine WO_seg 2 [(18, .int .i64 (IntKind.wrap .i64 (s2.1 + 1)))] kr kr ?_
     refine WO_end rfl ?_
     obtain rfl := Option.some.inj hr
     have hL := hSu2 _ rfl
     have st := st.front2.front1.front2
     exact X_env _ kr (X_round k2 (Nat.lt_succ_self _) ⟨(IntKind.wrap .i64 (s2.1 + 1), mp9), es13, ck13, m5, hL, rfl, hm, st, r11, r8, r14, hi4⟩)
    ·intro hc
     rw [if_neg (not_true hc)] at hr
     refine W_exit ?_
     refine X_then_exit ?_
     obtain rfl := Option.some.inj hr
     have ho := hBu2 _ rfl
     have st := st.front2.front2.front2
     refine X_then_exit ?_
     exact X_env _ kr (K2_u2 _ _ ⟨s2.2, es12, ck12, m5, ho, rfl, hm, st, r8, r13, hi4⟩)
def lexer_span_L2 (N : Nat) (p0 : ByteArray) (p2 : Option (List (Int × Int))) (p3 : List Int) (s1 : Int) (s2 : Bool × Int) : Option ((Bool × Int) ⊕ ((Bool))) :=
 if (decide (s2.2 < (List.length p3 : Int))) = true then ((idx p3 s2.2).bind fun x1 => (if s2.1 = true then (some true) else ((idxB p0 s1).bind fun x2 => some (((mgetQ p2 (x2.toNat : Int)).getD 0) == x1)) : Option (Bool)).bind fun o3 => some (.inl (o3, IntKind.wrap .i64 (s2.2 + 1)))) else (some (.inr s2.1))
def lexer_span_L1 (N : Nat) (p0 : ByteArray) (p2 : Option (List (Int × Int))) (p3 : List Int) (s1 : Int) : Option ((Int) ⊕ ((Int))) :=
 if (decide (s1 < (ByteArray.size p0 : Int))) = true then ((loopM (lexer_span_L2 N p0 p2 p3 s1) N (false, 0)).bind fun o2 => if (!o2) = true then (some (.inr s1)) else (some (.inl (IntKind.wrap .i64 (s1 + 1))))) else (some (.inr s1))
def lexer_span (N : Nat) (p0 : ByteArray) (p1 : Int) (p2 : Option (List (Int × Int))) (p3 : List Int) : Option (Int) :=
 (loopM (lexer_span_L1 N p0 p2 p3) N p1).bind fun o1 => some o1
set_option maxHeartbeats 4000000 in
set_option maxRecDepth 100000 in
theorem lexer_span_ok {N : Nat} {m : Mem} {own : List Piece} {w : World} {p0 : ByteArray} {p1 : Int} {p2 : Option (List (Int × Int))} {p3 : List Int} {q1 : Option Nat} {es1 : Array MapEntry} {ck1 : Nat} {a1 : Option Addr} {c1 : Nat} {r : Int} (st : St m (mpiece q1 es1 ck1 :: own) w) (r1 : MapQ (fun n : Int => Value.int .u8 n) (cInt .i64) false m q1 es1 ck1 p2) (r2 : RepS (cInt .i64) m a1 c1 p3) (hr : lexer_span N p0 p1 p2 p3 = some r) : Calls Tryz.prog 122 #[.string p0, .int .i64 p1, .map q1, .slice a1 (List.length p3) c1] w fun e w' => ∃ (m' : Mem), e = .returned (.int .i64 r) ∧ m.le m' ∧ St m' (mpiece q1 es1 ck1 :: own) w' := by
 unfold lexer_span at hr
 have hm := m.le_refl
 refine W_calls Tryz.func122 rfl Tryz.ntmps122 [(0, .string p0), (1, .int .i64 p1), (2, .map q1), (3, .slice a1 (List.length p3) c1)] kr rfl ?_
 refine W_sr (WO_seg 1 [] kr kr ?_)
 refine WO_et rfl (W_seq ?_)
 refine W_block ?_
 replace ⟨out1, hr, hrKu1⟩ := bindS hr
 refine W_cut (.exit 0) (fun L' w' => ∃ (o1 : Int) (m1 : Mem), o1 = out1 ∧ L' = [(1, .int .i64 o1)] ∧ m.le m1 ∧ St m1 (mpiece q1 es1 ck1 :: own) w' ∧ MapQ (fun n : Int => Value.int .u8 n) (cInt .i64) false m1 q1 es1 ck1 p2) ?_ ?_
 ·clear hr st
  rintro _ w1 ⟨o1, m1, rfl, rfl, hm, st, r1⟩
  have hr := hrKu1
  clear hrKu1
  refine X_block_eq ?_
  refine X_then ?_
  refine W_sr (WO_seg 2 [(8, .int .i64 o1)] kr kr ?_)
  refine WO_et rfl (W_ret ?_)
  obtain rfl := Option.some.inj hr
  refine X_ret [.tmp 8] [.int .i64 o1] rfl (ResAll.cons (ResAt.tmp kr) ResAll.nil) ?_
  exact ⟨m1, rfl, hm, st⟩
 intro K0_u1
 clear hrKu1
 refine W_env _ kr (W_loop (fun k1 L' w' => ∃ (s1 : Int) (m2 : Mem), loopM (lexer_span_L1 N p0 p2 p3) k1 s1 = some out1 ∧ L' = [(0, .string p0), (1, .int .i64 s1), (2, .map q1), (3, .slice a1 (List.length p3) c1)] ∧ m.le m2 ∧ St m2 (mpiece q1 es1 ck1 :: own) w' ∧ RepS (cInt .i64) m2 a1 c1 p3 ∧ MapQ (fun n : Int => Value.int .u8 n) (cInt .i64) false m2 q1 es1 ck1 p2) N ⟨p1, m, hr, rfl, hm, st, r2, r1⟩ ?_)
 clear st hr
 rintro k1 _ w2 ⟨s1, m2, hL, rfl, hm, st, r2, r1⟩
 rcases k1 with _ | k1
 ·exact loopM_zero hL
 ·obtain ⟨qu1, hr, hSu1, hBu1⟩ := loopM_succ hL
  clear hL
  unfold lexer_span_L1 at hr
  refine W_seq ?_
  refine W_sr (WO_seg 4 [(15, .bool (decide (s1 < (ByteArray.size p0 : Int))))] kr kr ?_)
  refine WO_et rfl (W_cond (decide (s1 < (ByteArray.size p0 : Int))) kr ?_ ?_)
  ·intro hc
   rw [if_pos hc] at hr
   refine W_skip ?_
   refine X_then ?_
   refine W_block ?_
   refine W_sr (WO_seg 1 [(9, .bool false)] kr kr ?_)
   refine WO_et rfl (W_seq ?_)
   refine W_sr (WO_seg 3 [(16, .slice a1 (List.length p3) c1), (17, .int .i64 (List.length p3 : Int)), (18, .int .i64 0)] kr kr ?_)
   refine WO_et rfl (W_block ?_)
   replace ⟨out2, hr, hrKu2⟩ := bindS hr
   refine W_cut (.exit 2) (fun L' w' => ∃ (o2 : Bool) (m3 : Mem), o2 = out2 ∧ L' = [(0, .string p0), (1, .int .i64 s1), (2, .map q1), (3, .slice a1 (List.length p3) c1), (9, .bool o2)] ∧ m.le m3 ∧ St m3 (mpiece q1 es1 ck1 :: own) w' ∧ RepS (cInt .i64) m3 a1 c1 p3 ∧ MapQ (fun n : Int => Value.int .u8 n) (cInt .i64) false m3 q1 es1 ck1 p2) ?_ ?_
   ·clear hr st
    rintro _ w3 ⟨o2, m3, rfl, rfl, hm, st, r2, r1⟩
    have hr := hrKu2
    clear hrKu2
    refine X_block_eq ?_
    refine X_then ?_
    refine W_seq ?_
    refine W_sr (WO_seg 2 [(34, .bool (!o2))] kr kr ?_)
    refine WO_et rfl (W_cond (!o2) kr ?_ ?_)
    ·intro hc
     rw [if_pos hc] at hr
     refine W_exit ?_
     refine X_then_exit ?_
     refine X_block_ne rfl ?_
     obtain rfl := Option.some.inj hr
     have ho := hBu1 _ rfl
     refine X_then_exit ?_
     exact X_env _ kr (K0_u1 _ _ ⟨s1, m3, ho, rfl, hm, st, r1⟩)
    ·intro hc
     rw [if_neg (not_true hc)] at hr
     refine W_skip ?_
     refine X_then ?_
     refine W_region ?_
     refine WO_seg 3 [(1, .int .i64 (IntKind.wrap .i64 (s1 + 1)))] kr kr ?_
     refine WO_end rfl ?_
     refine X_block ?_
     obtain rfl := Option.some.inj hr
     have hL := hSu1 _ rfl
     exact X_env _ kr (X_round k1 (Nat.lt_succ_self _) ⟨IntKind.wrap .i64 (s1 + 1), m3, hL, rfl, hm, st, r2, r1⟩)
   intro K2_u2
   clear hrKu2
   refine W_env _ kr (W_loop (fun k2 L' w' => ∃ (s2 : Bool × Int) (m4 : Mem), loopM (lexer_span_L2 N p0 p2 p3 s1) k2 s2 = some out2 ∧ L' = [(0, .string p0), (1, .int .i64 s1), (2, .map q1), (3, .slice a1 (List.length p3) c1), (9, .bool s2.1), (16, .slice a1 (List.length p3) c1), (17, .int .i64 (List.length p3 : Int)), (18, .int .i64 s2.2)] ∧ m.le m4 ∧ St m4 (mpiece q1 es1 ck1 :: own) w' ∧ RepS (cInt .i64) m4 a1 c1 p3 ∧ MapQ (fun n : Int => Value.int .u8 n) (cInt .i64) false m4 q1 es1 ck1 p2) N ⟨(false, 0), m2, hr, rfl, hm, st, r2, r1⟩ ?_)
   clear st hr
   rintro k2 _ w4 ⟨s2, m4, hL, rfl, hm, st, r2, r1⟩
   rcases k2 with _ | k2
   ·exact loopM_zero hL
   ·obtain ⟨qu2, hr, hSu2, hBu2⟩ := loopM_succ hL
    clear hL
    unfold lexer_span_L2 at hr
    refine W_sr (WO_seg 1 [(19, .bool (decide (s2.2 < (List.length p3 : Int))))] kr kr ?_)
    refine WO_et rfl (W_seq ?_)
    refine W_cond (decide (s2.2 < (List.length p3 : Int))) kr ?_ ?_
    ·intro hc
     rw [if_pos hc] at hr
     refine W_skip ?_
     refine X_then ?_
     refine W_seq ?_
     refine W_block ?_
     refine W_sr ?_
     replace ⟨x1, hx1, hr⟩ := bindS hr
     refine WO_one rfl (One_index (d := 20) (t := 22) (e := 3) (x := (.tmp 16)) (y := (.tmp 18)) (cInt .i64) kr rfl (ev (.slice a1 (List.length p3) c1)) (ev (.int .i64 s2.2)) kr r2 hx1 ?_)
     rintro b1 f1 cs1 rfl hq1
     refine WO_one rfl (One_load_row (d := 21) (t := 3) (x := (.tmp 20)) (.int .i64 x1) kr rfl (ev (.pointer (some ⟨b1, f1, none⟩))) st hq1 kr ?_)
     refine WO_seg 1 [(11, .int .i64 x1)] kr kr ?_
     refine WO_et rfl (W_region ?_)
     replace ⟨o3, hr, hrK⟩ := bindS hr
     refine WO_cut (j := 11) (fun L' w' => ∃ (m5 : Mem), L' = [(0, .string p0), (1, .int .i64 s1), (2, .map q1), (3, .slice a1 (List.length p3) c1), (9, .bool o3), (16, .slice a1 (List.length p3) c1), (17, .int .i64 (List.length p3 : Int)), (18, .int .i64 s2.2)] ∧ m.le m5 ∧ St m5 (mpiece q1 es1 ck1 :: own) w' ∧ RepS (cInt .i64) m5 a1 c1 p3 ∧ MapQ (fun n : Int => Value.int .u8 n) (cInt .i64) false m5 q1 es1 ck1 p2) ?_ ?_
     ·clear hr st
      have hr := hrK
      clear hrK
      rintro _ w5 ⟨m5, rfl, hm, st, r2, r1⟩
      refine WO_end rfl ?_
      refine X_block ?_
      refine X_then ?_
      refine W_region ?_
      refine WO_seg 2 [(18, .int .i64 (IntKind.wrap .i64 (s2.2 + 1)))] kr kr ?_
      refine WO_end rfl ?_
      obtain rfl := Option.some.inj hr
      have hL := hSu2 _ rfl
      exact X_env _ kr (X_round k2 (Nat.lt_succ_self _) ⟨(o3, IntKind.wrap .i64 (s2.2 + 1)), m5, hL, rfl, hm, st, r2, r1⟩)
     ·intro K
      clear hrK
      refine WO_seg 2 [(23, .bool s2.1)] kr kr ?_
      rcases bcases s2.1 with hc | hc
      ·rw [if_pos hc] at hr
       refine WO_fact (t := 23) (b := true) s2.1 kr hc ?_
       refine WO_seg 9 [(9, .bool true)] kr kr ?_
       obtain rfl := Option.some.inj hr
       exact WO_env _ kr (K _ _ ⟨m4, rfl, hm, st, r2, r1⟩)
      ·rw [if_neg (not_true hc)] at hr
       refine WO_fact (t := 23) (b := false) s2.1 kr hc ?_
       refine WO_seg 3 [(24, .map q1), (25, .string p0), (26, .int .i64 s1)] kr kr ?_
       replace ⟨x2, hx2, hr⟩ := bindS hr
       refine WO_one rfl (One_strIndex (d := 27) (t := 9) (x := (.tmp 25)) (y := (.tmp 26)) kr rfl (ev (.string p0)) (ev (.int .i64 s1)) kr hx2 ?_)
       refine WO_one rfl (One_lookup (ek := (fun n : Int => Value.int .u8 n)) (c := (cInt .i64)) (agg := false) (k := (x2.toNat : Int)) (zx := 0) (zcs := [.int .i64 0]) (z := (.int .i64 0)) (kt := 5) (et := 3) (d := 28) (t := 164) (x := (.tmp 24)) (y := (.tmp 27)) (ok := false) kr rfl (ev (.map q1)) (ev (.int .u8 (x2.toNat : Int))) kr (keyInt kr) st.head r1 rfl rfl ?_)
       rintro cs2 rfl
       refine WO_seg 4 [(9, .bool (((mgetQ p2 (x2.toNat : Int)).getD 0) == x1))] kr kr ?_
       obtain rfl := Option.some.inj hr
       exact WO_env _ kr (K _ _ ⟨m4, rfl, hm, st, r2, r1⟩)
    ·intro hc
     rw [if_neg (not_true hc)] at hr
     refine W_exit ?_
     refine X_then_exit ?_
     obtain rfl := Option.some.inj hr
     have ho := hBu2 _ rfl
     refine X_then_exit ?_
     exact X_env _ kr (K2_u2 _ _ ⟨s2.1, m4, ho, rfl, hm, st, r2, r1⟩)
  ·intro hc
   rw [if_neg (not_true hc)] at hr
   refine W_exit ?_
   refine X_then_exit ?_
   obtain rfl := Option.some.inj hr
   have ho := hBu1 _ rfl
   refine X_then_exit ?_
   exact X_env _ kr (K0_u1 _ _ ⟨s1, m2, ho, rfl, hm, st, r1⟩)
def lexer_Path_L1 (N : Nat) (y1 : List ByteArray) (y2 : Option (List (Int × Int))) (s1 : Int) : Option ((Int) ⊕ ((Unit) ⊕ (Bool))) :=
 if (decide (s1 < (List.length y1 : Int))) = true then ((idx y1 s1).bind fun x1 => (if (decide ((ByteArray.size x1 : Int) < 1)) = true then (some true) else (if (decide ((ByteArray.size x1 : Int) > 24)) = true then (some true) else ((lexer_span N x1 0 y2 ([1, 2, 3, 4])).bind fun y3 => some (y3 != (ByteArray.size x1 : Int)))) : Option (Bool)).bind fun o3 => if o3 = true then (some (.inr (.inr (false)))) else (some (.inl (IntKind.wrap .i64 (s1 + 1))))) else (some (.inr (.inl ())))
def lexer_Path (N : Nat) (p0 : ByteArray) : Option (Bool) :=
 (strings_Split N p0 (⟨#[47]⟩ : ByteArray)).bind fun y1 => (if (decide ((ByteArray.size p0 : Int) > 80)) = true then (some true) else (some (decide ((List.length y1 : Int) > 8))) : Option (Bool)).bind fun o1 => if o1 = true then (some false) else ((lexer_kinds N).bind fun y2 => (loopM (lexer_Path_L1 N y1 y2) N 0).bind fun out1 => (match out1 with | .inl o2 => some true | .inr (z) => some z))
set_option maxHeartbeats 4000000 in
set_option maxRecDepth 100000 in
theorem lexer_Path_ok {N : Nat} {m : Mem} {own : List Piece} {w : World} {p0 : ByteArray} {r : Bool} (st : St m (own) w) (hr : lexer_Path N p0 = some r) : Calls Tryz.prog 70 #[.string p0] w fun e w' => ∃ (m' : Mem), e = .returned (.bool r) ∧ m.le m' ∧ St m' (own) w' := by
 unfold lexer_Path at hr
 have hm := m.le_refl
 refine W_calls Tryz.func70 rfl Tryz.ntmps70 [(0, .string p0)] kr rfl ?_
 refine W_sr (WO_seg 1 [] kr kr ?_)
 refine WO_et rfl (W_sr ?_)
 refine WO_seg 1 [(7, .string p0)] kr kr ?_
 replace ⟨y1, hx1, hr⟩ := bindS hr
 refine WO_one rfl (One_fn 8 128 #[.string p0, .string (⟨#[47]⟩ : ByteArray)] kr rfl ?_)
 refine (strings_Split_ok st hx1).mono ?_
 clear st
 rintro _ w1 ⟨a1, c1, m1, rfl, hle1, st, r1⟩
 refine ⟨_, rfl, ?_⟩
 have hm := Mem.le_trans hm hle1
 refine WO_seg 1 [(3, .slice a1 (List.length y1) c1)] kr kr ?_
 refine WO_et rfl (W_seq ?_)
 refine W_sr ?_
 replace ⟨o1, hr, hrK⟩ := bindS hr
 refine WO_cut (j := 8) (fun L' w' => ∃ (m2 : Mem), L' = [(3, .slice a1 (List.length y1) c1), (16, .bool o1)] ∧ m.le m2 ∧ St m2 (own) w' ∧ RepS cStr m2 a1 c1 y1) ?_ ?_
 ·clear hr st
  have hr := hrK
  clear hrK
  rintro _ w2 ⟨m2, rfl, hm, st, r1⟩
  refine WO_et rfl (W_cond o1 kr ?_ ?_)
  ·intro hc
   rw [if_pos hc] at hr
   refine W_sr (WO_seg 1 [(2, .bool false)] kr kr ?_)
   refine WO_et rfl (W_ret ?_)
   refine X_then_ret ?_
   obtain rfl := Option.some.inj hr
   refine X_ret [.tmp 2] [.bool false] rfl (ResAll.cons (ResAt.tmp kr) ResAll.nil) ?_
   exact ⟨m2, rfl, hm, st⟩
  ·intro hc
   rw [if_neg (not_true hc)] at hr
   refine W_skip ?_
   refine X_then ?_
   refine W_sr ?_
   replace ⟨y2, hx2, hr⟩ := bindS hr
   refine WO_one rfl (One_fn 17 121 #[] kr rfl ?_)
   refine (lexer_kinds_ok st hx2).mono ?_
   clear st
   rintro _ w3 ⟨q1, es1, ck1, m3, rfl, hle2, st, r2⟩
   refine ⟨_, rfl, ?_⟩
   have hm := Mem.le_trans hm hle2
   have r1 := r1.mono hle2
   refine WO_seg 1 [(4, .map q1)] kr kr ?_
   refine WO_et rfl (W_seq ?_)
   refine W_sr (WO_seg 3 [(18, .slice a1 (List.length y1) c1), (19, .int .i64 (List.length y1 : Int)), (20, .int .i64 0)] kr kr ?_)
   refine WO_et rfl (W_block ?_)
   replace ⟨out1, hr, hrKu1⟩ := bindS hr
   refine W_cut (.exit 0) (fun L' w' => ∃ (o2 : Unit) (m4 : Mem), (.inl o2) = out1 ∧ L' = [] ∧ m.le m4 ∧ St m4 (mpiece q1 es1 ck1 :: own) w' ∧ MapQ (fun n : Int => Value.int .u8 n) (cInt .i64) false m4 q1 es1 ck1 y2) ?_ ?_
   ·clear hr st
    rintro _ w4 ⟨o2, m4, rfl, rfl, hm, st, r2⟩
    have hr := hrKu1
    clear hrKu1
    dsimp only at hr
    refine X_block_eq ?_
    refine X_then ?_
    refine W_sr (WO_seg 1 [(2, .bool true)] kr kr ?_)
    refine WO_et rfl (W_ret ?_)
    obtain rfl := Option.some.inj hr
    refine X_ret [.tmp 2] [.bool true] rfl (ResAll.cons (ResAt.tmp kr) ResAll.nil) ?_
    have st := st.tail
    exact ⟨m4, rfl, hm, st⟩
   intro K0_u1
   refine W_env _ kr (W_loop (fun k1 L' w' => ∃ (s1 : Int) (m5 : Mem), loopM (lexer_Path_L1 N y1 y2) k1 s1 = some out1 ∧ L' = [(4, .map q1), (18, .slice a1 (List.length y1) c1), (19, .int .i64 (List.length y1 : Int)), (20, .int .i64 s1)] ∧ m.le m5 ∧ St m5 (mpiece q1 es1 ck1 :: own) w' ∧ RepS cStr m5 a1 c1 y1 ∧ MapQ (fun n : Int => Value.int .u8 n) (cInt .i64) false m5 q1 es1 ck1 y2) N ⟨0, m3, hr, rfl, hm, st, r1, r2⟩ ?_)
   clear st hr
   rintro k1 _ w5 ⟨s1, m5, hL, rfl, hm, st, r1, r2⟩
   rcases k1 with _ | k1
   ·exact loopM_zero hL
   ·obtain ⟨qu1, hr, hSu1, hBu1⟩ := loopM_succ hL
    clear hL
    unfold lexer_Path_L1 at hr
    refine W_sr (WO_seg 1 [(21, .bool (decide (s1 < (List.length y1 : Int))))] kr kr ?_)
    refine WO_et rfl (W_seq ?_)
    refine W_cond (decide (s1 < (List.length y1 : Int))) kr ?_ ?_
    ·intro hc
     rw [if_pos hc] at hr
     refine W_skip ?_
     refine X_then ?_
     refine W_seq ?_
     refine W_block ?_
     refine W_sr ?_
     replace ⟨x1, hx3, hr⟩ := bindS hr
     refine WO_one rfl (One_index (d := 22) (t := 33) (e := 9) (x := (.tmp 18)) (y := (.tmp 20)) cStr kr rfl (ev (.slice a1 (List.length y1) c1)) (ev (.int .i64 s1)) kr r1 hx3 ?_)
     rintro b1 f1 cs1 rfl hq1
     refine WO_one rfl (One_load_row (d := 23) (t := 9) (x := (.tmp 22)) (.string x1) kr rfl (ev (.pointer (some ⟨b1, f1, none⟩))) st hq1 kr ?_)
     refine WO_seg 1 [(6, .string x1)] kr kr ?_
     refine WO_et rfl (W_sr ?_)
     replace ⟨o3, hr, hrK⟩ := bindS hr
     refine WO_cut (j := 17) (fun L' w' => ∃ (m6 : Mem), L' = [(4, .map q1), (18, .slice a1 (List.length y1) c1), (19, .int .i64 (List.length y1 : Int)), (20, .int .i64 s1), (40, .bool o3)] ∧ m.le m6 ∧ St m6 (mpiece q1 es1 ck1 :: own) w' ∧ RepS cStr m6 a1 c1 y1 ∧ MapQ (fun n : Int => Value.int .u8 n) (cInt .i64) false m6 q1 es1 ck1 y2) ?_ ?_
     ·clear hr st
      have hr := hrK
      clear hrK
      rintro _ w6 ⟨m6, rfl, hm, st, r1, r2⟩
      refine WO_et rfl (W_cond o3 kr ?_ ?_)
      ·intro hc
       rw [if_pos hc] at hr
       refine W_sr (WO_seg 1 [(2, .bool false)] kr kr ?_)
       refine WO_et rfl (W_ret ?_)
       refine X_block_ret ?_
       refine X_then_ret ?_
       obtain rfl := Option.some.inj hr
       have ho := hBu1 _ rfl
       subst ho
       have hr := hrKu1
       dsimp only at hr
       refine X_then_ret ?_
       refine X_block_ret ?_
       refine X_then_ret ?_
       obtain rfl := Option.some.inj hr
       refine X_ret [.tmp 2] [.bool false] rfl (ResAll.cons (ResAt.tmp kr) ResAll.nil) ?_
       have st := st.tail
       exact ⟨m6, rfl, hm, st⟩
      ·intro hc
       rw [if_neg (not_true hc)] at hr
       refine W_skip ?_
       refine X_block ?_
       refine X_then ?_
       refine W_region ?_
       refine WO_seg 2 [(20, .int .i64 (IntKind.wrap .i64 (s1 + 1)))] kr kr ?_
       refine WO_end rfl ?_
       obtain rfl := Option.some.inj hr
       have hL := hSu1 _ rfl
       exact X_env _ kr (X_round k1 (Nat.lt_succ_self _) ⟨IntKind.wrap .i64 (s1 + 1), m6, hL, rfl, hm, st, r1, r2⟩)
     ·intro K
      clear hrK
      refine WO_seg 4 [(27, .bool (decide ((ByteArray.size x1 : Int) < 1)))] kr kr ?_
      rcases bcases (decide ((ByteArray.size x1 : Int) < 1)) with hc | hc
      ·rw [if_pos hc] at hr
       refine WO_fact (t := 27) (b := true) (decide ((ByteArray.size x1 : Int) < 1)) kr hc ?_
       refine WO_seg 13 [(40, .bool true)] kr kr ?_
       obtain rfl := Option.some.inj hr
       exact WO_env _ kr (K _ _ ⟨m5, rfl, hm, st, r1, r2⟩)
      ·rw [if_neg (not_true hc)] at hr
       refine WO_fact (t := 27) (b := false) (decide ((ByteArray.size x1 : Int) < 1)) kr hc ?_
       refine WO_seg 5 [(32, .bool (decide ((ByteArray.size x1 : Int) > 24)))] kr kr ?_
       rcases bcases (decide ((ByteArray.size x1 : Int) > 24)) with hc | hc
       ·rw [if_pos hc] at hr
        refine WO_fact (t := 32) (b := true) (decide ((ByteArray.size x1 : Int) > 24)) kr hc ?_
        refine WO_seg 8 [(40, .bool true)] kr kr ?_
        obtain rfl := Option.some.inj hr
        exact WO_env _ kr (K _ _ ⟨m5, rfl, hm, st, r1, r2⟩)
       ·rw [if_neg (not_true hc)] at hr
        refine WO_fact (t := 32) (b := false) (decide ((ByteArray.size x1 : Int) > 24)) kr hc ?_
        refine WO_seg 2 [(33, .string x1), (34, .map q1)] kr kr ?_
        refine WO_one rfl (One_buildSlice (d := 35) (t := 22) (e := 3) (len := 4) (parts := #[(0, (.const (.int .i64 1))), (1, (.const (.int .i64 2))), (2, (.const (.int .i64 3))), (3, (.const (.int .i64 4)))]) (cInt .i64) (xs := [1, 2, 3, 4]) [.int .i64 1, .int .i64 2, .int .i64 3, .int .i64 4] kr rfl (fun _ => buildCells_run kr _) rfl rfl st ⟨[.int .i64 1], _, rfl, rfl, ⟨[.int .i64 2], _, rfl, rfl, ⟨[.int .i64 3], _, rfl, rfl, ⟨[.int .i64 4], _, rfl, rfl, rfl⟩⟩⟩⟩ ?_)
        clear st
        intro b2 m7 w7 hle3 st r3
        have hm := Mem.le_trans hm hle3
        have r1 := r1.mono hle3
        have r2 := r2.mono hle3
        have st := st.front1
        replace ⟨y3, hx4, hr⟩ := bindS hr
        refine WO_one rfl (One_fn 36 122 #[.string x1, .int .i64 0, .map q1, .slice (some ⟨b2, 0, none⟩) (List.length ([1, 2, 3, 4])) 4] kr rfl ?_)
        refine (lexer_span_ok st r2 r3 hx4).mono ?_
        clear st
        rintro _ w8 ⟨m8, rfl, hle4, st⟩
        refine ⟨_, rfl, ?_⟩
        have hm := Mem.le_trans hm hle4
        have r1 := r1.mono hle4
        have r3 := r3.mono hle4
        have r2 := r2.mono hle4
        refine WO_seg 4 [(40, .bool (y3 != (ByteArray.size x1 : Int)))] kr kr ?_
        obtain rfl := Option.some.inj hr
        have st := st.front1
        have st := st.tail
        exact WO_env _ kr (K _ _ ⟨m8, rfl, hm, st, r1, r2⟩)
    ·intro hc
     rw [if_neg (not_true hc)] at hr
     refine W_exit ?_
     refine X_then_exit ?_
     obtain rfl := Option.some.inj hr
     have ho := hBu1 _ rfl
     refine X_then_exit ?_
     exact X_env _ kr (K0_u1 _ _ ⟨(), m5, ho, rfl, hm, st, r2⟩)
 ·intro K
  clear hrK
  refine WO_seg 4 [(12, .bool (decide ((ByteArray.size p0 : Int) > 80)))] kr kr ?_
  rcases bcases (decide ((ByteArray.size p0 : Int) > 80)) with hc | hc
  ·rw [if_pos hc] at hr
   refine WO_fact (t := 12) (b := true) (decide ((ByteArray.size p0 : Int) > 80)) kr hc ?_
   refine WO_seg 4 [(16, .bool true)] kr kr ?_
   obtain rfl := Option.some.inj hr
   exact WO_env _ kr (K _ _ ⟨m1, rfl, hm, st, r1⟩)
  ·rw [if_neg (not_true hc)] at hr
   refine WO_fact (t := 12) (b := false) (decide ((ByteArray.size p0 : Int) > 80)) kr hc ?_
   refine WO_seg 4 [(16, .bool (decide ((List.length y1 : Int) > 8)))] kr kr ?_
   obtain rfl := Option.some.inj hr
   exact WO_env _ kr (K _ _ ⟨m1, rfl, hm, st, r1⟩)
end Go.Proofs.YtgggihpbhmbjaaaGreatDoor
