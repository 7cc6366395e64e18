/- MADE BY gen.py: plain functions and the proofs that the Go functions compute them. No condition but those of each theorem. -/
import Derived.Test.YtgggihpbhmbjaaaGreatDoorProg
import Derived.Test.YtgggihpbhmbjaaaGreatDoorViewy5
import Derived.Test.YtgggihpbhmbjaaaGreatDoorMapDy5
import Derived.Test.YtgggihpbhmbjaaaGreatDoorLiny5
import Derived.Test.YtgggihpbhmbjaaaGreatDoorTConBy5
namespace Go.Proofs.YtgggihpbhmbjaaaGreatDoor
open Go Go.Dc
def revision_Check_L1 (N : Nat) (p0 : (List (ByteArray × ByteArray))) (s1 : Int) : Option ((Int) ⊕ ((Unit) ⊕ (Int))) :=
 if (decide (s1 < (List.length p0 : Int))) = true then ((idx p0 s1).bind fun x1 => (lexer_Path N x1.1).bind fun y1 => if (!y1) = true then (some (.inr (.inr (6)))) else ((if (decide (s1 > 0)) = true then ((idx p0 (IntKind.wrap .i64 (s1 - 1))).bind fun x2 => some (x1.1.toList == x2.1.toList)) else (some false) : Option (Bool)).bind fun o2 => if o2 = true then (some (.inr (.inr (10)))) else ((if (decide (s1 > 0)) = true then ((idx p0 (IntKind.wrap .i64 (s1 - 1))).bind fun x3 => some (Op.bytesLess x1.1.toList x3.1.toList)) else (some false) : Option (Bool)).bind fun o3 => if o3 = true then (some (.inr (.inr (6)))) else (if (decide ((ByteArray.size x1.2 : Int) > 16384)) = true then (some (.inr (.inr (2)))) else (some (.inl (IntKind.wrap .i64 (s1 + 1)))))))) else (some (.inr (.inl ())))
def revision_Check (N : Nat) (p0 : (List (ByteArray × ByteArray))) : Option (Int) :=
 if (decide ((List.length p0 : Int) > 64)) = true then (some 2) else ((loopM (revision_Check_L1 N p0) N 0).bind fun out1 => (match out1 with | .inl o1 => some 0 | .inr (z) => some z))
set_option maxHeartbeats 4000000 in
set_option maxRecDepth 100000 in
theorem revision_Check_ok {N : Nat} {m : Mem} {own : List Piece} {w : World} {p0 : (List (ByteArray × ByteArray))} {a1 : Option Addr} {c1 : Nat} {r : Int} (st : St m (own) w) (r1 : RepS (cPair cStr cStr) m a1 c1 p0) (hr : revision_Check N p0 = some r) : Calls Tryz.prog 75 #[.agg #[.slice a1 (List.length p0) c1]] w fun e w' => ∃ (m' : Mem), e = .returned (.int .i64 r) ∧ m.le m' ∧ St m' (own) w' := by
 unfold revision_Check at hr
 have hm := m.le_refl
 refine W_calls Tryz.func75 rfl Tryz.ntmps75 [(0, .agg #[.slice a1 (List.length p0) c1])] kr rfl ?_
 refine W_sr (WO_one rfl (One_box (d := 1) (e := 25) (x := (.tmp 0)) (.agg #[.slice a1 (List.length p0) c1]) kr rfl kr st ?_))
 clear st
 intro b1 m1 w1 hle1 st hb1
 have hm := Mem.le_trans hm hle1
 have r1 := r1.mono hle1
 refine WO_seg 1 [] kr kr ?_
 refine WO_et rfl (W_seq ?_)
 refine W_sr (WO_seg 1 [(5, .pointer (some ⟨b1, 0, none⟩))] kr kr ?_)
 refine WO_one rfl (One_load_row (d := 6) (t := 23) (x := (.tmp 5)) (.slice a1 (List.length p0) c1) kr rfl (ev (.pointer (some ⟨b1, 0, none⟩))) st hb1 kr ?_)
 refine WO_seg 2 [(8, .bool (decide ((List.length p0 : Int) > 64)))] kr kr ?_
 refine WO_et rfl (W_cond (decide ((List.length p0 : Int) > 64)) kr ?_ ?_)
 ·intro hc
  rw [if_pos hc] at hr
  refine W_sr (WO_seg 1 [(2, .int .i64 2)] kr kr ?_)
  refine WO_et rfl (W_ret ?_)
  refine X_then_ret ?_
  obtain rfl := Option.some.inj hr
  refine X_ret [.tmp 2] [.int .i64 2] rfl (ResAll.cons (ResAt.tmp kr) ResAll.nil) ?_
  exact ⟨m1, rfl, hm, st⟩
 ·intro hc
  rw [if_neg (not_true hc)] at hr
  refine W_skip ?_
  refine X_then ?_
  refine W_seq ?_
  refine W_sr (WO_seg 1 [(9, .pointer (some ⟨b1, 0, none⟩))] kr kr ?_)
  refine WO_one rfl (One_load_row (d := 10) (t := 23) (x := (.tmp 9)) (.slice a1 (List.length p0) c1) kr rfl (ev (.pointer (some ⟨b1, 0, none⟩))) st hb1 kr ?_)
  refine WO_seg 2 [(11, .int .i64 (List.length p0 : Int)), (12, .int .i64 0)] kr kr ?_
  refine WO_et rfl (W_block ?_)
  replace ⟨out1, hr, hrKu1⟩ := bindS hr
  refine W_cut (.exit 0) (fun L' w' => ∃ (o1 : Unit) (m2 : Mem), (.inl o1) = out1 ∧ L' = [] ∧ m.le m2 ∧ St m2 (own) w') ?_ ?_
  ·clear hr st
   rintro _ w2 ⟨o1, m2, rfl, rfl, hm, st⟩
   have hr := hrKu1
   clear hrKu1
   dsimp only at hr
   refine X_block_eq ?_
   refine X_then ?_
   refine W_sr (WO_seg 1 [(2, .int .i64 0)] kr kr ?_)
   refine WO_et rfl (W_ret ?_)
   obtain rfl := Option.some.inj hr
   refine X_ret [.tmp 2] [.int .i64 0] rfl (ResAll.cons (ResAt.tmp kr) ResAll.nil) ?_
   exact ⟨m2, rfl, hm, st⟩
  intro K0_u1
  refine W_env _ kr (W_loop (fun k1 L' w' => ∃ (s1 : Int) (m3 : Mem), loopM (revision_Check_L1 N p0) k1 s1 = some out1 ∧ L' = [(1, .pointer (some ⟨b1, 0, none⟩)), (10, .slice a1 (List.length p0) c1), (11, .int .i64 (List.length p0 : Int)), (12, .int .i64 s1)] ∧ m.le m3 ∧ St m3 (own) w' ∧ MRow m3 b1 0 [.slice a1 (List.length p0) c1] ∧ RepS (cPair cStr cStr) m3 a1 c1 p0) N ⟨0, m1, hr, rfl, hm, st, hb1, r1⟩ ?_)
  clear st hr
  rintro k1 _ w3 ⟨s1, m3, hL, rfl, hm, st, hb1, r1⟩
  rcases k1 with _ | k1
  ·exact loopM_zero hL
  ·obtain ⟨qu1, hr, hSu1, hBu1⟩ := loopM_succ hL
   clear hL
   unfold revision_Check_L1 at hr
   refine W_sr (WO_seg 1 [(13, .bool (decide (s1 < (List.length p0 : Int))))] kr kr ?_)
   refine WO_et rfl (W_seq ?_)
   refine W_cond (decide (s1 < (List.length p0 : Int))) kr ?_ ?_
   ·intro hc
    rw [if_pos hc] at hr
    refine W_skip ?_
    refine X_then ?_
    refine W_seq ?_
    refine W_block ?_
    refine W_sr (WO_seg 1 [(14, .int .i64 s1)] kr kr ?_)
    replace ⟨x1, hx1, hr⟩ := bindS hr
    refine WO_one rfl (One_index (d := 15) (t := 23) (e := 74) (x := (.tmp 10)) (y := (.tmp 12)) (cPair cStr cStr) kr rfl (ev (.slice a1 (List.length p0) c1)) (ev (.int .i64 s1)) kr r1 hx1 ?_)
    rintro b2 f1 cs1 ⟨_, _, rfl, rfl, rfl⟩ hq1
    refine WO_one rfl (One_load_row (d := 16) (t := 74) (x := (.tmp 15)) (.agg #[.string x1.1, .string x1.2]) kr rfl (ev (.pointer (some ⟨b2, f1, none⟩))) st hq1 kr ?_)
    refine WO_one rfl (One_alloc (d := 4) (e := 74) (.agg #[.string (⟨#[]⟩ : ByteArray), .string (⟨#[]⟩ : ByteArray)]) kr rfl kr st ?_)
    clear st
    intro b3 w4 st
    refine WO_seg 1 [(3, .int .i64 s1)] kr kr ?_
    refine WO_one rfl (One_store (t := 74) (x := (.tmp 4)) (y := (.tmp 16)) (v := .agg #[.string x1.1, .string x1.2]) (c' := #[.string x1.1, .string x1.2]) kr (ev (.pointer (some ⟨b3, 0, none⟩))) (ev (.agg #[.string x1.1, .string x1.2])) st kr kr ?_)
    clear st
    intro w5 st
    refine WO_et rfl (W_block ?_)
    refine W_sr (WO_seg 1 [(18, .pointer (some ⟨b3, 0, none⟩))] kr kr ?_)
    refine WO_one rfl (One_load_own (d := 19) (t := 9) (x := (.tmp 18)) (.string x1.1) kr rfl (ev (.pointer (some ⟨b3, 0, none⟩))) st.head kr ?_)
    replace ⟨y1, hx2, hr⟩ := bindS hr
    refine WO_one rfl (One_fn 20 70 #[.string x1.1] kr rfl ?_)
    refine (lexer_Path_ok st hx2).mono ?_
    clear st
    rintro _ w6 ⟨m4, rfl, hle2, st⟩
    refine ⟨_, rfl, ?_⟩
    have hm := Mem.le_trans hm hle2
    have hb1 := hb1.mono hle2
    have r1 := r1.mono hle2
    refine WO_seg 2 [(17, .bool (!y1))] kr kr ?_
    refine WO_et rfl (W_cond (!y1) kr ?_ ?_)
    ·intro hc
     rw [if_pos hc] at hr
     refine W_sr (WO_seg 1 [(2, .int .i64 6)] kr kr ?_)
     refine WO_et rfl (W_ret ?_)
     refine X_block_ret ?_
     refine X_block_ret ?_
     refine X_then_ret ?_
     obtain rfl := Option.some.inj hr
     have ho := hBu1 _ rfl
     subst ho
     have hr := hrKu1
     dsimp only at hr
     refine X_then_ret ?_
     refine X_block_ret ?_
     refine X_then_ret ?_
     obtain rfl := Option.some.inj hr
     refine X_ret [.tmp 2] [.int .i64 6] rfl (ResAll.cons (ResAt.tmp kr) ResAll.nil) ?_
     have st := st.tail
     exact ⟨m4, rfl, hm, st⟩
    ·intro hc
     rw [if_neg (not_true hc)] at hr
     refine W_seq ?_
     replace ⟨o2, hr, hrK⟩ := bindS hr
     refine W_cut .normal (fun L' w' => ∃ (m5 : Mem), L' = [(1, .pointer (some ⟨b1, 0, none⟩)), (3, .int .i64 s1), (4, .pointer (some ⟨b3, 0, none⟩)), (10, .slice a1 (List.length p0) c1), (11, .int .i64 (List.length p0 : Int)), (12, .int .i64 s1), (22, .bool o2)] ∧ m.le m5 ∧ St m5 (.blk b3 (.cells #[.string x1.1, .string x1.2] 74 (0, 0)) :: own) w' ∧ MRow m5 b1 0 [.slice a1 (List.length p0) c1] ∧ RepS (cPair cStr cStr) m5 a1 c1 p0) ?_ ?_
     ·clear hr st
      have hr := hrK
      clear hrK
      rintro _ w7 ⟨m5, rfl, hm, st, hb1, r1⟩
      refine X_then ?_
      refine W_cond o2 kr ?_ ?_
      ·intro hc
       rw [if_pos hc] at hr
       refine W_sr (WO_seg 1 [(2, .int .i64 10)] kr kr ?_)
       refine WO_et rfl (W_ret ?_)
       refine X_block_ret ?_
       refine X_block_ret ?_
       refine X_then_ret ?_
       obtain rfl := Option.some.inj hr
       have ho := hBu1 _ rfl
       subst ho
       have hr := hrKu1
       dsimp only at hr
       refine X_then_ret ?_
       refine X_block_ret ?_
       refine X_then_ret ?_
       obtain rfl := Option.some.inj hr
       refine X_ret [.tmp 2] [.int .i64 10] rfl (ResAll.cons (ResAt.tmp kr) ResAll.nil) ?_
       have st := st.tail
       exact ⟨m5, rfl, hm, st⟩
      ·intro hc
       rw [if_neg (not_true hc)] at hr
       refine W_seq ?_
       replace ⟨o3, hr, hrK⟩ := bindS hr
       refine W_cut .normal (fun L' w' => ∃ (m6 : Mem), L' = [(1, .pointer (some ⟨b1, 0, none⟩)), (4, .pointer (some ⟨b3, 0, none⟩)), (10, .slice a1 (List.length p0) c1), (11, .int .i64 (List.length p0 : Int)), (12, .int .i64 s1), (37, .bool o3)] ∧ m.le m6 ∧ St m6 (.blk b3 (.cells #[.string x1.1, .string x1.2] 74 (0, 0)) :: own) w' ∧ MRow m6 b1 0 [.slice a1 (List.length p0) c1] ∧ RepS (cPair cStr cStr) m6 a1 c1 p0) ?_ ?_
       ·clear hr st
        have hr := hrK
        clear hrK
        rintro _ w9 ⟨m6, rfl, hm, st, hb1, r1⟩
        refine X_then ?_
        refine W_cond o3 kr ?_ ?_
        ·intro hc
         rw [if_pos hc] at hr
         refine W_sr (WO_seg 1 [(2, .int .i64 6)] kr kr ?_)
         refine WO_et rfl (W_ret ?_)
         refine X_block_ret ?_
         refine X_block_ret ?_
         refine X_then_ret ?_
         obtain rfl := Option.some.inj hr
         have ho := hBu1 _ rfl
         subst ho
         have hr := hrKu1
         dsimp only at hr
         refine X_then_ret ?_
         refine X_block_ret ?_
         refine X_then_ret ?_
         obtain rfl := Option.some.inj hr
         refine X_ret [.tmp 2] [.int .i64 6] rfl (ResAll.cons (ResAt.tmp kr) ResAll.nil) ?_
         have st := st.tail
         exact ⟨m6, rfl, hm, st⟩
        ·intro hc
         rw [if_neg (not_true hc)] at hr
         refine W_sr (WO_seg 1 [(53, .pointer (some ⟨b3, 1, none⟩))] kr kr ?_)
         refine WO_one rfl (One_load_own (d := 54) (t := 9) (x := (.tmp 53)) (.string x1.2) kr rfl (ev (.pointer (some ⟨b3, 1, none⟩))) st.head kr ?_)
         refine WO_seg 3 [(52, .bool (decide ((ByteArray.size x1.2 : Int) > 16384)))] kr kr ?_
         refine WO_et rfl (W_cond (decide ((ByteArray.size x1.2 : Int) > 16384)) kr ?_ ?_)
         ·intro hc
          rw [if_pos hc] at hr
          refine W_sr (WO_seg 1 [(2, .int .i64 2)] kr kr ?_)
          refine WO_et rfl (W_ret ?_)
          refine X_block_ret ?_
          refine X_block_ret ?_
          refine X_then_ret ?_
          obtain rfl := Option.some.inj hr
          have ho := hBu1 _ rfl
          subst ho
          have hr := hrKu1
          dsimp only at hr
          refine X_then_ret ?_
          refine X_block_ret ?_
          refine X_then_ret ?_
          obtain rfl := Option.some.inj hr
          refine X_ret [.tmp 2] [.int .i64 2] rfl (ResAll.cons (ResAt.tmp kr) ResAll.nil) ?_
          have st := st.tail
          exact ⟨m6, rfl, hm, st⟩
         ·intro hc
          rw [if_neg (not_true hc)] at hr
          refine W_skip ?_
          refine X_block ?_
          refine X_block ?_
          refine X_then ?_
          refine W_region ?_
          refine WO_seg 2 [(12, .int .i64 (IntKind.wrap .i64 (s1 + 1)))] kr kr ?_
          refine WO_end rfl ?_
          obtain rfl := Option.some.inj hr
          have hL := hSu1 _ rfl
          have st := st.tail
          exact X_env _ kr (X_round k1 (Nat.lt_succ_self _) ⟨IntKind.wrap .i64 (s1 + 1), m6, hL, rfl, hm, st, hb1, r1⟩)
       ·intro K
        clear hrK
        refine W_draw [(15, fun w' => Inv m5 w' ∧ Piece.holds m5 w' (.blk b3 (.cells #[.string x1.1, .string x1.2] 74 (0, 0))) ∧ True)] kr st ?_
        clear st
        intro w10 _ st
        have hmS2 := m5.le_refl
        refine ⟨⟨.inr ⟨Inv.anti st.inv hmS2, Piece.holds_anti st.head hmS2, trivial⟩, trivial⟩, ?_⟩
        refine WA_pure 0 38 (.int .i64 s1) kr rfl kr (.head _) (QP_then (QP_block (QP_block (QP_then (QP_then (QP_block (QP_then QP_body))))))) ?_
        refine WA_pure 1 39 (.bool (decide (s1 > 0))) kr rfl kr (.head _) (QP_then (QP_block (QP_block (QP_then (QP_then (QP_block (QP_then QP_body))))))) ?_
        refine WA_pure 2 40 (.bool (decide (s1 > 0))) kr rfl kr (.head _) (QP_then (QP_block (QP_block (QP_then (QP_then (QP_block (QP_then QP_body))))))) ?_
        rcases bcases (decide (s1 > 0)) with hc | hc
        ·rw [if_pos hc] at hr
         refine WA_fact (t := 40) (b := true) (decide (s1 > 0)) kr hc ?_
         refine WA_pure 3 41 (.pointer (some ⟨b3, 0, none⟩)) kr rfl kr (.head _) (QP_then (QP_block (QP_block (QP_then (QP_then (QP_block (QP_then QP_body))))))) ?_
         refine WA_load_own (t := 9) (x := (.tmp 41)) 4 42 (.string x1.1) kr rfl kr (.head _) (QP_then (QP_block (QP_block (QP_then (QP_then (QP_block (QP_then QP_body))))))) (fun _ h => h.2.1) (ev (.pointer (some ⟨b3, 0, none⟩))) kr ?_
         refine WA_pure 5 43 (.pointer (some ⟨b1, 0, none⟩)) kr rfl kr (.head _) (QP_then (QP_block (QP_block (QP_then (QP_then (QP_block (QP_then QP_body))))))) ?_
         refine WA_load_row (t := 23) (x := (.tmp 43)) 6 44 (.slice a1 (List.length p0) c1) kr rfl kr (.head _) (QP_then (QP_block (QP_block (QP_then (QP_then (QP_block (QP_then QP_body))))))) (fun _ h => h.1) (ev (.pointer (some ⟨b1, 0, none⟩))) hb1 kr ?_
         refine WA_pure 7 45 (.int .i64 s1) kr rfl kr (.head _) (QP_then (QP_block (QP_block (QP_then (QP_then (QP_block (QP_then QP_body))))))) ?_
         refine WA_pure 8 46 (.int .i64 (IntKind.wrap .i64 (s1 - 1))) kr rfl kr (.head _) (QP_then (QP_block (QP_block (QP_then (QP_then (QP_block (QP_then QP_body))))))) ?_
         replace ⟨x3, hx4, hr⟩ := bindS hr
         refine WA_index (t := 23) (e := 74) (x := (.tmp 44)) (y := (.tmp 46)) 9 47 (cPair cStr cStr) kr rfl kr (.head _) (QP_then (QP_block (QP_block (QP_then (QP_then (QP_block (QP_then QP_body))))))) (ev (.slice a1 (List.length p0) c1)) (ev (.int .i64 (IntKind.wrap .i64 (s1 - 1)))) kr r1 hx4 ?_
         rintro b5 f3 cs3 ⟨_, _, rfl, rfl, rfl⟩ hq3
         refine WA_pure 10 48 (.pointer (some ⟨b5, f3, none⟩)) kr rfl kr (.head _) (QP_then (QP_block (QP_block (QP_then (QP_then (QP_block (QP_then QP_body))))))) ?_
         refine WA_load_row (t := 9) (x := (.tmp 48)) 11 49 (.string x3.1) kr rfl kr (.head _) (QP_then (QP_block (QP_block (QP_then (QP_then (QP_block (QP_then QP_body))))))) (fun _ h => h.1) (ev (.pointer (some ⟨b5, f3, none⟩))) hq3 kr ?_
         refine WA_pure 12 50 (.bool (Op.bytesLess x1.1.toList x3.1.toList)) kr rfl kr (.head _) (QP_then (QP_block (QP_block (QP_then (QP_then (QP_block (QP_then QP_body))))))) ?_
         refine WA_pure 13 51 (.bool (Op.bytesLess x1.1.toList x3.1.toList)) kr rfl kr (.head _) (QP_then (QP_block (QP_block (QP_then (QP_then (QP_block (QP_then QP_body))))))) ?_
         refine WA_pure 14 37 (.bool (Op.bytesLess x1.1.toList x3.1.toList)) kr rfl kr (.head _) (QP_then (QP_block (QP_block (QP_then (QP_then (QP_block (QP_then QP_body))))))) ?_
         obtain rfl := Option.some.inj hr
         exact WA_done kr (X_env _ kr (K _ _ ⟨m5, rfl, hm, st, hb1, r1⟩))
        ·rw [if_neg (not_true hc)] at hr
         refine WA_fact (t := 40) (b := false) (decide (s1 > 0)) kr hc ?_
         refine WA_not 3 41 kr rfl kr (.head _) (QP_then (QP_block (QP_block (QP_then (QP_then (QP_block (QP_then QP_body))))))) ?_
         refine WA_not 4 42 kr rfl kr (.head _) (QP_then (QP_block (QP_block (QP_then (QP_then (QP_block (QP_then QP_body))))))) ?_
         refine WA_not 5 43 kr rfl kr (.head _) (QP_then (QP_block (QP_block (QP_then (QP_then (QP_block (QP_then QP_body))))))) ?_
         refine WA_not 6 44 kr rfl kr (.head _) (QP_then (QP_block (QP_block (QP_then (QP_then (QP_block (QP_then QP_body))))))) ?_
         refine WA_not 7 45 kr rfl kr (.head _) (QP_then (QP_block (QP_block (QP_then (QP_then (QP_block (QP_then QP_body))))))) ?_
         refine WA_not 8 46 kr rfl kr (.head _) (QP_then (QP_block (QP_block (QP_then (QP_then (QP_block (QP_then QP_body))))))) ?_
         refine WA_not 9 47 kr rfl kr (.head _) (QP_then (QP_block (QP_block (QP_then (QP_then (QP_block (QP_then QP_body))))))) ?_
         refine WA_not 10 48 kr rfl kr (.head _) (QP_then (QP_block (QP_block (QP_then (QP_then (QP_block (QP_then QP_body))))))) ?_
         refine WA_not 11 49 kr rfl kr (.head _) (QP_then (QP_block (QP_block (QP_then (QP_then (QP_block (QP_then QP_body))))))) ?_
         refine WA_not 12 50 kr rfl kr (.head _) (QP_then (QP_block (QP_block (QP_then (QP_then (QP_block (QP_then QP_body))))))) ?_
         refine WA_pure 13 51 (.bool false) kr rfl kr (.head _) (QP_then (QP_block (QP_block (QP_then (QP_then (QP_block (QP_then QP_body))))))) ?_
         refine WA_pure 14 37 (.bool false) kr rfl kr (.head _) (QP_then (QP_block (QP_block (QP_then (QP_then (QP_block (QP_then QP_body))))))) ?_
         obtain rfl := Option.some.inj hr
         exact WA_done kr (X_env _ kr (K _ _ ⟨m5, rfl, hm, st, hb1, r1⟩))
     ·intro K
      clear hrK
      refine W_draw [(15, fun w' => Inv m4 w' ∧ Piece.holds m4 w' (.blk b3 (.cells #[.string x1.1, .string x1.2] 74 (0, 0))) ∧ True)] kr st ?_
      clear st
      intro w8 _ st
      have hmS1 := m4.le_refl
      refine ⟨⟨.inr ⟨Inv.anti st.inv hmS1, Piece.holds_anti st.head hmS1, trivial⟩, trivial⟩, ?_⟩
      refine WA_pure 0 23 (.int .i64 s1) kr rfl kr (.head _) (QP_then (QP_block (QP_block (QP_then (QP_then (QP_block (QP_then QP_body))))))) ?_
      refine WA_pure 1 24 (.bool (decide (s1 > 0))) kr rfl kr (.head _) (QP_then (QP_block (QP_block (QP_then (QP_then (QP_block (QP_then QP_body))))))) ?_
      refine WA_pure 2 25 (.bool (decide (s1 > 0))) kr rfl kr (.head _) (QP_then (QP_block (QP_block (QP_then (QP_then (QP_block (QP_then QP_body))))))) ?_
      rcases bcases (decide (s1 > 0)) with hc | hc
      ·rw [if_pos hc] at hr
       refine WA_fact (t := 25) (b := true) (decide (s1 > 0)) kr hc ?_
       refine WA_pure 3 26 (.pointer (some ⟨b3, 0, none⟩)) kr rfl kr (.head _) (QP_then (QP_block (QP_block (QP_then (QP_then (QP_block (QP_then QP_body))))))) ?_
       refine WA_load_own (t := 9) (x := (.tmp 26)) 4 27 (.string x1.1) kr rfl kr (.head _) (QP_then (QP_block (QP_block (QP_then (QP_then (QP_block (QP_then QP_body))))))) (fun _ h => h.2.1) (ev (.pointer (some ⟨b3, 0, none⟩))) kr ?_
       refine WA_pure 5 28 (.pointer (some ⟨b1, 0, none⟩)) kr rfl kr (.head _) (QP_then (QP_block (QP_block (QP_then (QP_then (QP_block (QP_then QP_body))))))) ?_
       refine WA_load_row (t := 23) (x := (.tmp 28)) 6 29 (.slice a1 (List.length p0) c1) kr rfl kr (.head _) (QP_then (QP_block (QP_block (QP_then (QP_then (QP_block (QP_then QP_body))))))) (fun _ h => h.1) (ev (.pointer (some ⟨b1, 0, none⟩))) hb1 kr ?_
       refine WA_pure 7 30 (.int .i64 s1) kr rfl kr (.head _) (QP_then (QP_block (QP_block (QP_then (QP_then (QP_block (QP_then QP_body))))))) ?_
       refine WA_pure 8 31 (.int .i64 (IntKind.wrap .i64 (s1 - 1))) kr rfl kr (.head _) (QP_then (QP_block (QP_block (QP_then (QP_then (QP_block (QP_then QP_body))))))) ?_
       replace ⟨x2, hx3, hr⟩ := bindS hr
       refine WA_index (t := 23) (e := 74) (x := (.tmp 29)) (y := (.tmp 31)) 9 32 (cPair cStr cStr) kr rfl kr (.head _) (QP_then (QP_block (QP_block (QP_then (QP_then (QP_block (QP_then QP_body))))))) (ev (.slice a1 (List.length p0) c1)) (ev (.int .i64 (IntKind.wrap .i64 (s1 - 1)))) kr r1 hx3 ?_
       rintro b4 f2 cs2 ⟨_, _, rfl, rfl, rfl⟩ hq2
       refine WA_pure 10 33 (.pointer (some ⟨b4, f2, none⟩)) kr rfl kr (.head _) (QP_then (QP_block (QP_block (QP_then (QP_then (QP_block (QP_then QP_body))))))) ?_
       refine WA_load_row (t := 9) (x := (.tmp 33)) 11 34 (.string x2.1) kr rfl kr (.head _) (QP_then (QP_block (QP_block (QP_then (QP_then (QP_block (QP_then QP_body))))))) (fun _ h => h.1) (ev (.pointer (some ⟨b4, f2, none⟩))) hq2 kr ?_
       refine WA_pure 12 35 (.bool (x1.1.toList == x2.1.toList)) kr rfl kr (.head _) (QP_then (QP_block (QP_block (QP_then (QP_then (QP_block (QP_then QP_body))))))) ?_
       refine WA_pure 13 36 (.bool (x1.1.toList == x2.1.toList)) kr rfl kr (.head _) (QP_then (QP_block (QP_block (QP_then (QP_then (QP_block (QP_then QP_body))))))) ?_
       refine WA_pure 14 22 (.bool (x1.1.toList == x2.1.toList)) kr rfl kr (.head _) (QP_then (QP_block (QP_block (QP_then (QP_then (QP_block (QP_then QP_body))))))) ?_
       obtain rfl := Option.some.inj hr
       exact WA_done kr (X_env _ kr (K _ _ ⟨m4, rfl, hm, st, hb1, r1⟩))
      ·rw [if_neg (not_true hc)] at hr
       refine WA_fact (t := 25) (b := false) (decide (s1 > 0)) kr hc ?_
       refine WA_not 3 26 kr rfl kr (.head _) (QP_then (QP_block (QP_block (QP_then (QP_then (QP_block (QP_then QP_body))))))) ?_
       refine WA_not 4 27 kr rfl kr (.head _) (QP_then (QP_block (QP_block (QP_then (QP_then (QP_block (QP_then QP_body))))))) ?_
       refine WA_not 5 28 kr rfl kr (.head _) (QP_then (QP_block (QP_block (QP_then (QP_then (QP_block (QP_then QP_body))))))) ?_
       refine WA_not 6 29 kr rfl kr (.head _) (QP_then (QP_block (QP_block (QP_then (QP_then (QP_block (QP_then QP_body))))))) ?_
       refine WA_not 7 30 kr rfl kr (.head _) (QP_then (QP_block (QP_block (QP_then (QP_then (QP_block (QP_then QP_body))))))) ?_
       refine WA_not 8 31 kr rfl kr (.head _) (QP_then (QP_block (QP_block (QP_then (QP_then (QP_block (QP_then QP_body))))))) ?_
       refine WA_not 9 32 kr rfl kr (.head _) (QP_then (QP_block (QP_block (QP_then (QP_then (QP_block (QP_then QP_body))))))) ?_
       refine WA_not 10 33 kr rfl kr (.head _) (QP_then (QP_block (QP_block (QP_then (QP_then (QP_block (QP_then QP_body))))))) ?_
       refine WA_not 11 34 kr rfl kr (.head _) (QP_then (QP_block (QP_block (QP_then (QP_then (QP_block (QP_then QP_body))))))) ?_
       refine WA_not 12 35 kr rfl kr (.head _) (QP_then (QP_block (QP_block (QP_then (QP_then (QP_block (QP_then QP_body))))))) ?_
       refine WA_pure 13 36 (.bool false) kr rfl kr (.head _) (QP_then (QP_block (QP_block (QP_then (QP_then (QP_block (QP_then QP_body))))))) ?_
       refine WA_pure 14 22 (.bool false) kr rfl kr (.head _) (QP_then (QP_block (QP_block (QP_then (QP_then (QP_block (QP_then QP_body))))))) ?_
       obtain rfl := Option.some.inj hr
       exact WA_done kr (X_env _ kr (K _ _ ⟨m4, rfl, hm, st, hb1, r1⟩))
   ·intro hc
    rw [if_neg (not_true hc)] at hr
    refine W_exit ?_
    refine X_then_exit ?_
    obtain rfl := Option.some.inj hr
    have ho := hBu1 _ rfl
    refine X_then_exit ?_
    exact X_env _ kr (K0_u1 _ _ ⟨(), m3, ho, rfl, hm, st⟩)
def revision_at_L1 (N : Nat) (p0 : (List (ByteArray × ByteArray))) (p1 : ByteArray) (s1 : Int × Int) : Option ((Int × Int) ⊕ ((Int))) :=
 if (decide (s1.1 < s1.2)) = true then ((idx p0 (IntKind.wrap .i64 (Int.fdiv (IntKind.wrap .u64 (IntKind.wrap .i64 (s1.1 + s1.2))) (2 ^ 1)))).bind fun x1 => if (!(!Op.bytesLess x1.1.toList p1.toList)) = true then (some (.inl (IntKind.wrap .i64 ((IntKind.wrap .i64 (Int.fdiv (IntKind.wrap .u64 (IntKind.wrap .i64 (s1.1 + s1.2))) (2 ^ 1))) + 1), s1.2))) else (some (.inl (s1.1, IntKind.wrap .i64 (Int.fdiv (IntKind.wrap .u64 (IntKind.wrap .i64 (s1.1 + s1.2))) (2 ^ 1)))))) else (some (.inr s1.1))
def revision_at (N : Nat) (p0 : (List (ByteArray × ByteArray))) (p1 : ByteArray) : Option (Int × Bool) :=
 ((loopM (revision_at_L1 N p0 p1) N (0, (List.length p0 : Int))).bind fun o2 => some o2 : Option (Int)).bind fun o1 => (if (decide (o1 < (List.length p0 : Int))) = true then ((idx p0 o1).bind fun x2 => some (x2.1.toList == p1.toList)) else (some false) : Option (Bool)).bind fun o3 => some (o1, o3)
set_option maxHeartbeats 4000000 in
set_option maxRecDepth 100000 in
theorem revision_at_ok {N : Nat} {m : Mem} {own : List Piece} {w : World} {p0 : (List (ByteArray × ByteArray))} {p1 : ByteArray} {a1 : Option Addr} {c1 : Nat} {r : Int × Bool} (st : St m (own) w) (r1 : RepS (cPair cStr cStr) m a1 c1 p0) (hr : revision_at N p0 p1 = some r) : Calls Tryz.prog 130 #[.agg #[.slice a1 (List.length p0) c1], .string p1] w fun e w' => ∃ (m' : Mem), e = .returned (.tuple #[.int .i64 r.1, .bool r.2]) ∧ m.le m' ∧ St m' (own) w' := by
 unfold revision_at at hr
 have hm := m.le_refl
 refine W_calls Tryz.func130 rfl Tryz.ntmps130 [(0, .agg #[.slice a1 (List.length p0) c1]), (1, .string p1)] kr rfl ?_
 refine W_sr (WO_one rfl (One_box_own (d := 2) (e := 25) (x := (.tmp 0)) (.agg #[.slice a1 (List.length p0) c1]) kr rfl kr st ?_))
 clear st
 intro b1 w1 st
 refine WO_one rfl (One_box_own (d := 3) (e := 9) (x := (.tmp 1)) (.string p1) kr rfl kr st ?_)
 clear st
 intro b2 w2 st
 refine WO_seg 2 [] kr kr ?_
 refine WO_et rfl (W_sr ?_)
 refine WO_seg 1 [(7, .pointer (some ⟨b1, 0, none⟩))] kr kr ?_
 refine WO_one rfl (One_load_own (d := 8) (t := 23) (x := (.tmp 7)) (.slice a1 (List.length p0) c1) kr rfl (ev (.pointer (some ⟨b1, 0, none⟩))) st.tail.head kr ?_)
 refine WO_seg 2 [(9, .int .i64 (List.length p0 : Int)), (10, .func (.func 156) #[] #[.pointer (some ⟨b1, 0, none⟩), .pointer (some ⟨b2, 0, none⟩)])] kr kr ?_
 replace ⟨o1, hr, hrKu1⟩ := bindS hr
 refine WO_one rfl (One_fn 11 110 #[.int .i64 (List.length p0 : Int), .func (.func 156) #[] #[.pointer (some ⟨b1, 0, none⟩), .pointer (some ⟨b2, 0, none⟩)]] kr rfl ?_)
 refine Calls_cut (fun v' w' => ∃ (m3 : Mem), v' = (.int .i64 o1) ∧ m.le m3 ∧ St m3 (.blk b2 (.cells #[.string p1] 9 (0, 0)) :: .blk b1 (.cells #[.slice a1 (List.length p0) c1] 25 (0, 0)) :: own) w' ∧ RepS (cPair cStr cStr) m3 a1 c1 p0) ?_ ?_
 ·clear hr st
  have hr := hrKu1
  clear hrKu1
  rintro _ w3 ⟨m3, rfl, hm, st, r1⟩
  refine ⟨_, rfl, ?_⟩
  refine WO_seg 1 [(6, .int .i64 o1)] kr kr ?_
  refine WO_et rfl (W_seq ?_)
  replace ⟨o3, hr, hrK⟩ := bindS hr
  refine W_cut .normal (fun L' w' => ∃ (m6 : Mem), L' = [(4, .int .i64 o1), (5, .bool o3)] ∧ m.le m6 ∧ St m6 (.blk b2 (.cells #[.string p1] 9 (0, 0)) :: .blk b1 (.cells #[.slice a1 (List.length p0) c1] 25 (0, 0)) :: own) w' ∧ RepS (cPair cStr cStr) m6 a1 c1 p0) ?_ ?_
  ·clear hr st
   have hr := hrK
   clear hrK
   rintro _ w7 ⟨m6, rfl, hm, st, r1⟩
   refine X_then ?_
   refine W_ret ?_
   obtain rfl := Option.some.inj hr
   refine X_ret [.tmp 4, .tmp 5] [.int .i64 o1, .bool o3] rfl (ResAll.cons (ResAt.tmp kr) (ResAll.cons (ResAt.tmp kr) ResAll.nil)) ?_
   have st := st.tail
   have st := st.tail
   exact ⟨m6, rfl, hm, st⟩
  ·intro K
   clear hrK
   refine W_draw [(18, fun w' => Inv m3 w' ∧ Piece.holds m3 w' (.blk b2 (.cells #[.string p1] 9 (0, 0))) ∧ Piece.holds m3 w' (.blk b1 (.cells #[.slice a1 (List.length p0) c1] 25 (0, 0))) ∧ True)] kr st ?_
   clear st
   intro w8 _ st
   have hmS2 := m3.le_refl
   refine ⟨⟨.inr ⟨Inv.anti st.inv hmS2, Piece.holds_anti st.head hmS2, Piece.holds_anti st.tail.head hmS2, trivial⟩, trivial⟩, ?_⟩
   refine WA_pure 0 12 (.int .i64 o1) kr rfl kr (.head _) (QP_then QP_body) ?_
   refine WA_pure 1 13 (.int .i64 o1) kr rfl kr (.head _) (QP_then QP_body) ?_
   refine WA_pure 2 14 (.pointer (some ⟨b1, 0, none⟩)) kr rfl kr (.head _) (QP_then QP_body) ?_
   refine WA_load_own (t := 23) (x := (.tmp 14)) 3 15 (.slice a1 (List.length p0) c1) kr rfl kr (.head _) (QP_then QP_body) (fun _ h => h.2.2.1) (ev (.pointer (some ⟨b1, 0, none⟩))) kr ?_
   refine WA_pure 4 16 (.int .i64 (List.length p0 : Int)) kr rfl kr (.head _) (QP_then QP_body) ?_
   refine WA_pure 5 17 (.bool (decide (o1 < (List.length p0 : Int)))) kr rfl kr (.head _) (QP_then QP_body) ?_
   refine WA_pure 6 18 (.bool (decide (o1 < (List.length p0 : Int)))) kr rfl kr (.head _) (QP_then QP_body) ?_
   rcases bcases (decide (o1 < (List.length p0 : Int))) with hc | hc
   ·rw [if_pos hc] at hr
    refine WA_fact (t := 18) (b := true) (decide (o1 < (List.length p0 : Int))) kr hc ?_
    refine WA_pure 7 19 (.pointer (some ⟨b1, 0, none⟩)) kr rfl kr (.head _) (QP_then QP_body) ?_
    refine WA_load_own (t := 23) (x := (.tmp 19)) 8 20 (.slice a1 (List.length p0) c1) kr rfl kr (.head _) (QP_then QP_body) (fun _ h => h.2.2.1) (ev (.pointer (some ⟨b1, 0, none⟩))) kr ?_
    refine WA_pure 9 21 (.int .i64 o1) kr rfl kr (.head _) (QP_then QP_body) ?_
    replace ⟨x2, hx2, hr⟩ := bindS hr
    refine WA_index (t := 23) (e := 74) (x := (.tmp 20)) (y := (.tmp 21)) 10 22 (cPair cStr cStr) kr rfl kr (.head _) (QP_then QP_body) (ev (.slice a1 (List.length p0) c1)) (ev (.int .i64 o1)) kr r1 hx2 ?_
    rintro b4 f2 cs2 ⟨_, _, rfl, rfl, rfl⟩ hq2
    refine WA_pure 11 23 (.pointer (some ⟨b4, f2, none⟩)) kr rfl kr (.head _) (QP_then QP_body) ?_
    refine WA_load_row (t := 9) (x := (.tmp 23)) 12 24 (.string x2.1) kr rfl kr (.head _) (QP_then QP_body) (fun _ h => h.1) (ev (.pointer (some ⟨b4, f2, none⟩))) hq2 kr ?_
    refine WA_load_own (t := 9) (x := (.tmp 3)) 13 25 (.string p1) kr rfl kr (.head _) (QP_then QP_body) (fun _ h => h.2.1) (ev (.pointer (some ⟨b2, 0, none⟩))) kr ?_
    refine WA_pure 14 26 (.bool (x2.1.toList == p1.toList)) kr rfl kr (.head _) (QP_then QP_body) ?_
    refine WA_pure 15 27 (.bool (x2.1.toList == p1.toList)) kr rfl kr (.head _) (QP_then QP_body) ?_
    refine WA_pure 16 4 (.int .i64 o1) kr rfl kr (.head _) (QP_then QP_body) ?_
    refine WA_pure 17 5 (.bool (x2.1.toList == p1.toList)) kr rfl kr (.head _) (QP_then QP_body) ?_
    obtain rfl := Option.some.inj hr
    have st := st.front1.front1
    exact WA_done kr (X_env _ kr (K _ _ ⟨m3, rfl, hm, st, r1⟩))
   ·rw [if_neg (not_true hc)] at hr
    refine WA_fact (t := 18) (b := false) (decide (o1 < (List.length p0 : Int))) kr hc ?_
    refine WA_not 7 19 kr rfl kr (.head _) (QP_then QP_body) ?_
    refine WA_not 8 20 kr rfl kr (.head _) (QP_then QP_body) ?_
    refine WA_not 9 21 kr rfl kr (.head _) (QP_then QP_body) ?_
    refine WA_not 10 22 kr rfl kr (.head _) (QP_then QP_body) ?_
    refine WA_not 11 23 kr rfl kr (.head _) (QP_then QP_body) ?_
    refine WA_not 12 24 kr rfl kr (.head _) (QP_then QP_body) ?_
    refine WA_not 13 25 kr rfl kr (.head _) (QP_then QP_body) ?_
    refine WA_not 14 26 kr rfl kr (.head _) (QP_then QP_body) ?_
    refine WA_pure 15 27 (.bool false) kr rfl kr (.head _) (QP_then QP_body) ?_
    refine WA_pure 16 4 (.int .i64 o1) kr rfl kr (.head _) (QP_then QP_body) ?_
    refine WA_pure 17 5 (.bool false) kr rfl kr (.head _) (QP_then QP_body) ?_
    obtain rfl := Option.some.inj hr
    have st := st.front1.front1
    exact WA_done kr (X_env _ kr (K _ _ ⟨m3, rfl, hm, st, r1⟩))
 ·clear hrKu1
  refine W_calls Tryz.func110 rfl Tryz.ntmps110 [(0, .int .i64 (List.length p0 : Int)), (1, .func (.func 156) #[] #[.pointer (some ⟨b1, 0, none⟩), .pointer (some ⟨b2, 0, none⟩)])] kr rfl ?_
  refine W_sr (WO_seg 1 [] kr kr ?_)
  refine WO_et rfl (W_sr ?_)
  refine WO_seg 3 [(5, .int .i64 0), (6, .int .i64 (List.length p0 : Int))] kr kr ?_
  refine WO_et rfl (W_seq ?_)
  refine W_block ?_
  replace ⟨out1, hr, hrKu2⟩ := bindS hr
  refine W_cut (.exit 0) (fun L' w' => ∃ (o2 : Int) (m4 : Mem), o2 = out1 ∧ L' = [(5, .int .i64 o2)] ∧ m.le m4 ∧ St m4 (.blk b2 (.cells #[.string p1] 9 (0, 0)) :: .blk b1 (.cells #[.slice a1 (List.length p0) c1] 25 (0, 0)) :: own) w' ∧ RepS (cPair cStr cStr) m4 a1 c1 p0) ?_ ?_
  ·clear hr st
   rintro _ w4 ⟨o2, m4, rfl, rfl, hm, st, r1⟩
   have hr := hrKu2
   clear hrKu2
   refine X_block_eq ?_
   refine X_then ?_
   refine W_sr (WO_seg 2 [(4, .int .i64 o2)] kr kr ?_)
   refine WO_et rfl (W_ret ?_)
   obtain rfl := Option.some.inj hr
   refine X_ret [.tmp 4] [.int .i64 o2] rfl (ResAll.cons (ResAt.tmp kr) ResAll.nil) ?_
   have st := st.front1.front1
   exact ⟨_, rfl, ⟨m4, rfl, hm, st, r1⟩⟩
  intro K0_u2
  clear hrKu2
  have st := st.front1.front1
  refine W_env _ kr (W_loop (fun k1 L' w' => ∃ (s1 : Int × Int) (m5 : Mem), loopM (revision_at_L1 N p0 p1) k1 s1 = some out1 ∧ L' = [(1, .func (.func 156) #[] #[.pointer (some ⟨b1, 0, none⟩), .pointer (some ⟨b2, 0, none⟩)]), (5, .int .i64 s1.1), (6, .int .i64 s1.2)] ∧ m.le m5 ∧ St m5 (.blk b2 (.cells #[.string p1] 9 (0, 0)) :: .blk b1 (.cells #[.slice a1 (List.length p0) c1] 25 (0, 0)) :: own) w' ∧ RepS (cPair cStr cStr) m5 a1 c1 p0) N ⟨(0, (List.length p0 : Int)), m, hr, rfl, hm, st, r1⟩ ?_)
  clear st hr
  rintro k1 _ w5 ⟨s1, m5, hL, rfl, hm, st, r1⟩
  rcases k1 with _ | k1
  ·exact loopM_zero hL
  ·obtain ⟨qu2, hr, hSu2, hBu2⟩ := loopM_succ hL
   clear hL
   unfold revision_at_L1 at hr
   refine W_seq ?_
   refine W_sr (WO_seg 3 [(11, .bool (decide (s1.1 < s1.2)))] kr kr ?_)
   refine WO_et rfl (W_cond (decide (s1.1 < s1.2)) kr ?_ ?_)
   ·intro hc
    rw [if_pos hc] at hr
    refine W_skip ?_
    refine X_then ?_
    refine W_block ?_
    refine W_sr (WO_seg 7 [(7, .int .i64 (IntKind.wrap .i64 (Int.fdiv (IntKind.wrap .u64 (IntKind.wrap .i64 (s1.1 + s1.2))) (2 ^ 1))))] kr kr ?_)
    refine WO_et rfl (W_sr ?_)
    refine WO_seg 2 [(18, .func (.func 156) #[] #[.pointer (some ⟨b1, 0, none⟩), .pointer (some ⟨b2, 0, none⟩)]), (19, .int .i64 (IntKind.wrap .i64 (Int.fdiv (IntKind.wrap .u64 (IntKind.wrap .i64 (s1.1 + s1.2))) (2 ^ 1))))] kr kr ?_
    refine WO_one rfl (One_fn 20 156 #[.int .i64 (IntKind.wrap .i64 (Int.fdiv (IntKind.wrap .u64 (IntKind.wrap .i64 (s1.1 + s1.2))) (2 ^ 1))), .pointer (some ⟨b1, 0, none⟩), .pointer (some ⟨b2, 0, none⟩)] kr rfl ?_)
    refine W_calls Tryz.func156 rfl Tryz.ntmps156 [(0, .int .i64 (IntKind.wrap .i64 (Int.fdiv (IntKind.wrap .u64 (IntKind.wrap .i64 (s1.1 + s1.2))) (2 ^ 1)))), (1, .pointer (some ⟨b1, 0, none⟩)), (2, .pointer (some ⟨b2, 0, none⟩))] kr rfl ?_
    refine W_sr (WO_seg 1 [] kr kr ?_)
    refine WO_et rfl (W_seq ?_)
    refine W_draw [(9, fun w' => Inv m5 w' ∧ Piece.holds m5 w' (.blk b2 (.cells #[.string p1] 9 (0, 0))) ∧ Piece.holds m5 w' (.blk b1 (.cells #[.slice a1 (List.length p0) c1] 25 (0, 0))) ∧ True)] kr st ?_
    clear st
    intro w6 _ st
    have hmS1 := m5.le_refl
    refine ⟨⟨.inr ⟨Inv.anti st.inv hmS1, Piece.holds_anti st.head hmS1, Piece.holds_anti st.tail.head hmS1, trivial⟩, trivial⟩, ?_⟩
    refine WA_pure 0 5 (.pointer (some ⟨b1, 0, none⟩)) kr rfl kr (.head _) (QP_then QP_body) ?_
    refine WA_load_own (t := 23) (x := (.tmp 5)) 1 6 (.slice a1 (List.length p0) c1) kr rfl kr (.head _) (QP_then QP_body) (fun _ h => h.2.2.1) (ev (.pointer (some ⟨b1, 0, none⟩))) kr ?_
    refine WA_pure 2 7 (.int .i64 (IntKind.wrap .i64 (Int.fdiv (IntKind.wrap .u64 (IntKind.wrap .i64 (s1.1 + s1.2))) (2 ^ 1)))) kr rfl kr (.head _) (QP_then QP_body) ?_
    replace ⟨x1, hx1, hr⟩ := bindS hr
    refine WA_index (t := 23) (e := 74) (x := (.tmp 6)) (y := (.tmp 7)) 3 8 (cPair cStr cStr) kr rfl kr (.head _) (QP_then QP_body) (ev (.slice a1 (List.length p0) c1)) (ev (.int .i64 (IntKind.wrap .i64 (Int.fdiv (IntKind.wrap .u64 (IntKind.wrap .i64 (s1.1 + s1.2))) (2 ^ 1))))) kr r1 hx1 ?_
    rintro b3 f1 cs1 ⟨_, _, rfl, rfl, rfl⟩ hq1
    refine WA_pure 4 9 (.pointer (some ⟨b3, f1, none⟩)) kr rfl kr (.head _) (QP_then QP_body) ?_
    refine WA_load_row (t := 9) (x := (.tmp 9)) 5 10 (.string x1.1) kr rfl kr (.head _) (QP_then QP_body) (fun _ h => h.1) (ev (.pointer (some ⟨b3, f1, none⟩))) hq1 kr ?_
    refine WA_load_own (t := 9) (x := (.tmp 2)) 6 11 (.string p1) kr rfl kr (.head _) (QP_then QP_body) (fun _ h => h.2.1) (ev (.pointer (some ⟨b2, 0, none⟩))) kr ?_
    refine WA_pure 7 12 (.bool (!Op.bytesLess x1.1.toList p1.toList)) kr rfl kr (.head _) (QP_then QP_body) ?_
    refine WA_pure 8 4 (.bool (!Op.bytesLess x1.1.toList p1.toList)) kr rfl kr (.head _) (QP_then QP_body) ?_
    refine WA_done kr ?_
    refine X_then ?_
    refine W_ret ?_
    refine X_ret [.tmp 4] [.bool (!Op.bytesLess x1.1.toList p1.toList)] rfl (ResAll.cons (ResAt.tmp kr) ResAll.nil) ?_
    refine ⟨_, rfl, ?_⟩
    refine WO_seg 1 [(21, .bool (!(!Op.bytesLess x1.1.toList p1.toList)))] kr kr ?_
    refine WO_et rfl (W_cond (!(!Op.bytesLess x1.1.toList p1.toList)) kr ?_ ?_)
    ·intro hc
     rw [if_pos hc] at hr
     refine W_region ?_
     refine WO_seg 3 [(5, .int .i64 (IntKind.wrap .i64 ((IntKind.wrap .i64 (Int.fdiv (IntKind.wrap .u64 (IntKind.wrap .i64 (s1.1 + s1.2))) (2 ^ 1))) + 1)))] kr kr ?_
     refine WO_end rfl ?_
     refine X_block ?_
     obtain rfl := Option.some.inj hr
     have hL := hSu2 _ rfl
     have st := st.front1.front1
     exact X_env _ kr (X_round k1 (Nat.lt_succ_self _) ⟨(IntKind.wrap .i64 ((IntKind.wrap .i64 (Int.fdiv (IntKind.wrap .u64 (IntKind.wrap .i64 (s1.1 + s1.2))) (2 ^ 1))) + 1), s1.2), m5, hL, rfl, hm, st, r1⟩)
    ·intro hc
     rw [if_neg (not_true hc)] at hr
     refine W_region ?_
     refine WO_seg 2 [(6, .int .i64 (IntKind.wrap .i64 (Int.fdiv (IntKind.wrap .u64 (IntKind.wrap .i64 (s1.1 + s1.2))) (2 ^ 1))))] kr kr ?_
     refine WO_end rfl ?_
     refine X_block ?_
     obtain rfl := Option.some.inj hr
     have hL := hSu2 _ rfl
     have st := st.front1.front1
     exact X_env _ kr (X_round k1 (Nat.lt_succ_self _) ⟨(s1.1, IntKind.wrap .i64 (Int.fdiv (IntKind.wrap .u64 (IntKind.wrap .i64 (s1.1 + s1.2))) (2 ^ 1))), m5, hL, rfl, hm, st, r1⟩)
   ·intro hc
    rw [if_neg (not_true hc)] at hr
    refine W_exit ?_
    refine X_then_exit ?_
    obtain rfl := Option.some.inj hr
    have ho := hBu2 _ rfl
    have st := st.front1.front1
    refine X_then_exit ?_
    exact X_env _ kr (K0_u2 _ _ ⟨s1.1, m5, ho, rfl, hm, st, r1⟩)
def revision_Find (N : Nat) (p0 : (List (ByteArray × ByteArray))) (p1 : ByteArray) : Option (ByteArray × Bool) :=
 (revision_Check N p0).bind fun y1 => if (y1 != 0) = true then (some ((⟨#[]⟩ : ByteArray), false)) else ((revision_at N p0 p1).bind fun y2 => if (!y2.2) = true then (some ((⟨#[]⟩ : ByteArray), false)) else ((idx p0 y2.1).bind fun x1 => some (x1.2, true)))
set_option maxHeartbeats 4000000 in
set_option maxRecDepth 100000 in
theorem revision_Find_ok {N : Nat} {m : Mem} {own : List Piece} {w : World} {p0 : (List (ByteArray × ByteArray))} {p1 : ByteArray} {a1 : Option Addr} {c1 : Nat} {r : ByteArray × Bool} (st : St m (own) w) (r1 : RepS (cPair cStr cStr) m a1 c1 p0) (hr : revision_Find N p0 p1 = some r) : Calls Tryz.prog 76 #[.agg #[.slice a1 (List.length p0) c1], .string p1] w fun e w' => ∃ (m' : Mem), e = .returned (.tuple #[.string r.1, .bool r.2]) ∧ m.le m' ∧ St m' (own) w' := by
 unfold revision_Find at hr
 have hm := m.le_refl
 refine W_calls Tryz.func76 rfl Tryz.ntmps76 [(0, .agg #[.slice a1 (List.length p0) c1]), (1, .string p1)] kr rfl ?_
 refine W_sr (WO_one rfl (One_box (d := 2) (e := 25) (x := (.tmp 0)) (.agg #[.slice a1 (List.length p0) c1]) kr rfl kr st ?_))
 clear st
 intro b1 m1 w1 hle1 st hb1
 have hm := Mem.le_trans hm hle1
 have r1 := r1.mono hle1
 refine WO_seg 2 [] kr kr ?_
 refine WO_et rfl (W_seq ?_)
 refine W_sr (WO_one rfl (One_load_row (d := 8) (t := 25) (x := (.tmp 2)) (.agg #[.slice a1 (List.length p0) c1]) kr rfl (ev (.pointer (some ⟨b1, 0, none⟩))) st hb1 kr ?_))
 replace ⟨y1, hx1, hr⟩ := bindS hr
 refine WO_one rfl (One_fn 9 75 #[.agg #[.slice a1 (List.length p0) c1]] kr rfl ?_)
 refine (revision_Check_ok st r1 hx1).mono ?_
 clear st
 rintro _ w2 ⟨m2, rfl, hle2, st⟩
 refine ⟨_, rfl, ?_⟩
 have hm := Mem.le_trans hm hle2
 have hb1 := hb1.mono hle2
 have r1 := r1.mono hle2
 refine WO_seg 1 [(10, .bool (y1 != 0))] kr kr ?_
 refine WO_et rfl (W_cond (y1 != 0) kr ?_ ?_)
 ·intro hc
  rw [if_pos hc] at hr
  refine W_sr (WO_seg 2 [(4, .string (⟨#[]⟩ : ByteArray)), (5, .bool false)] kr kr ?_)
  refine WO_et rfl (W_ret ?_)
  refine X_then_ret ?_
  obtain rfl := Option.some.inj hr
  refine X_ret [.tmp 4, .tmp 5] [.string (⟨#[]⟩ : ByteArray), .bool false] rfl (ResAll.cons (ResAt.tmp kr) (ResAll.cons (ResAt.tmp kr) ResAll.nil)) ?_
  exact ⟨m2, rfl, hm, st⟩
 ·intro hc
  rw [if_neg (not_true hc)] at hr
  refine W_skip ?_
  refine X_then ?_
  refine W_sr (WO_one rfl (One_load_row (d := 12) (t := 25) (x := (.tmp 2)) (.agg #[.slice a1 (List.length p0) c1]) kr rfl (ev (.pointer (some ⟨b1, 0, none⟩))) st hb1 kr ?_))
  refine WO_seg 1 [(13, .string p1)] kr kr ?_
  replace ⟨y2, hx2, hr⟩ := bindS hr
  refine WO_one rfl (One_fn 14 130 #[.agg #[.slice a1 (List.length p0) c1], .string p1] kr rfl ?_)
  refine (revision_at_ok st r1 hx2).mono ?_
  clear st
  rintro _ w3 ⟨m3, rfl, hle3, st⟩
  refine ⟨_, rfl, ?_⟩
  have hm := Mem.le_trans hm hle3
  have hb1 := hb1.mono hle3
  have r1 := r1.mono hle3
  refine WO_seg 5 [(6, .int .i64 y2.1), (7, .bool y2.2)] kr kr ?_
  refine WO_et rfl (W_seq ?_)
  refine W_sr (WO_seg 2 [(18, .bool (!y2.2))] kr kr ?_)
  refine WO_et rfl (W_cond (!y2.2) kr ?_ ?_)
  ·intro hc
   rw [if_pos hc] at hr
   refine W_sr (WO_seg 2 [(4, .string (⟨#[]⟩ : ByteArray)), (5, .bool false)] kr kr ?_)
   refine WO_et rfl (W_ret ?_)
   refine X_then_ret ?_
   obtain rfl := Option.some.inj hr
   refine X_ret [.tmp 4, .tmp 5] [.string (⟨#[]⟩ : ByteArray), .bool false] rfl (ResAll.cons (ResAt.tmp kr) (ResAll.cons (ResAt.tmp kr) ResAll.nil)) ?_
   exact ⟨m3, rfl, hm, st⟩
  ·intro hc
   rw [if_neg (not_true hc)] at hr
   refine W_skip ?_
   refine X_then ?_
   refine W_sr (WO_seg 1 [(19, .pointer (some ⟨b1, 0, none⟩))] kr kr ?_)
   refine WO_one rfl (One_load_row (d := 20) (t := 23) (x := (.tmp 19)) (.slice a1 (List.length p0) c1) kr rfl (ev (.pointer (some ⟨b1, 0, none⟩))) st hb1 kr ?_)
   refine WO_seg 1 [(21, .int .i64 y2.1)] kr kr ?_
   replace ⟨x1, hx3, hr⟩ := bindS hr
   refine WO_one rfl (One_index (d := 22) (t := 23) (e := 74) (x := (.tmp 20)) (y := (.tmp 21)) (cPair cStr cStr) kr rfl (ev (.slice a1 (List.length p0) c1)) (ev (.int .i64 y2.1)) kr r1 hx3 ?_)
   rintro b2 f1 cs1 ⟨_, _, rfl, rfl, rfl⟩ hq1
   refine WO_seg 1 [(23, .pointer (some ⟨b2, f1 + 1, none⟩))] kr kr ?_
   refine WO_one rfl (One_load_row (d := 24) (t := 9) (x := (.tmp 23)) (.string x1.2) kr rfl (ev (.pointer (some ⟨b2, f1 + 1, none⟩))) st (hq1.drop 1) kr ?_)
   refine WO_seg 2 [(4, .string x1.2), (5, .bool true)] kr kr ?_
   refine WO_et rfl (W_ret ?_)
   obtain rfl := Option.some.inj hr
   refine X_ret [.tmp 4, .tmp 5] [.string x1.2, .bool true] rfl (ResAll.cons (ResAt.tmp kr) (ResAll.cons (ResAt.tmp kr) ResAll.nil)) ?_
   exact ⟨m3, rfl, hm, st⟩
def internal_bytealg_CompareString (N : Nat) (p0 : ByteArray) (p1 : ByteArray) : Option (Int) :=
 some (cmpS p0 p1)
set_option maxHeartbeats 4000000 in
set_option maxRecDepth 100000 in
theorem internal_bytealg_CompareString_ok {N : Nat} {m : Mem} {own : List Piece} {w : World} {p0 : ByteArray} {p1 : ByteArray} {r : Int} (st : St m (own) w) (hr : internal_bytealg_CompareString N p0 p1 = some r) : Calls Tryz.prog 133 #[.string p0, .string p1] w fun e w' => ∃ (m' : Mem), e = .returned (.int .i64 r) ∧ m.le m' ∧ St m' (own) w' := by
 unfold internal_bytealg_CompareString at hr
 have hm := m.le_refl
 refine W_calls Tryz.func133 rfl Tryz.ntmps133 [(0, .string p0), (1, .string p1)] kr rfl ?_
 refine W_sr (WO_seg 1 [] kr kr ?_)
 refine WO_et rfl (W_sr ?_)
 refine WO_seg 2 [(5, .string p0), (6, .string p1)] kr kr ?_
 refine WO_one rfl (One_cmpStr (d := 7) (f := 167) (x := (.tmp 5)) (y := (.tmp 6)) (ts := #[9, 9]) kr rfl (ev (.string p0)) (ev (.string p1)) Tryz.func167 kr kr ?_)
 refine WO_seg 1 [(4, .int .i64 (cmpS p0 p1))] kr kr ?_
 refine WO_et rfl (W_ret ?_)
 obtain rfl := Option.some.inj hr
 refine X_ret [.tmp 4] [.int .i64 (cmpS p0 p1)] rfl (ResAll.cons (ResAt.tmp kr) ResAll.nil) ?_
 exact ⟨m, rfl, hm, st⟩
def strings_Compare (N : Nat) (p0 : ByteArray) (p1 : ByteArray) : Option (Int) :=
 (internal_bytealg_CompareString N p0 p1).bind fun y1 => some y1
set_option maxHeartbeats 4000000 in
set_option maxRecDepth 100000 in
theorem strings_Compare_ok {N : Nat} {m : Mem} {own : List Piece} {w : World} {p0 : ByteArray} {p1 : ByteArray} {r : Int} (st : St m (own) w) (hr : strings_Compare N p0 p1 = some r) : Calls Tryz.prog 80 #[.string p0, .string p1] w fun e w' => ∃ (m' : Mem), e = .returned (.int .i64 r) ∧ m.le m' ∧ St m' (own) w' := by
 unfold strings_Compare at hr
 have hm := m.le_refl
 refine W_calls Tryz.func80 rfl Tryz.ntmps80 [(0, .string p0), (1, .string p1)] kr rfl ?_
 refine W_sr (WO_seg 1 [] kr kr ?_)
 refine WO_et rfl (W_sr ?_)
 refine WO_seg 2 [(5, .string p0), (6, .string p1)] kr kr ?_
 replace ⟨y1, hx1, hr⟩ := bindS hr
 refine WO_one rfl (One_fn 7 133 #[.string p0, .string p1] kr rfl ?_)
 refine (internal_bytealg_CompareString_ok st hx1).mono ?_
 clear st
 rintro _ w1 ⟨m1, rfl, hle1, st⟩
 refine ⟨_, rfl, ?_⟩
 have hm := Mem.le_trans hm hle1
 refine WO_seg 1 [(4, .int .i64 y1)] kr kr ?_
 refine WO_et rfl (W_ret ?_)
 obtain rfl := Option.some.inj hr
 refine X_ret [.tmp 4] [.int .i64 y1] rfl (ResAll.cons (ResAt.tmp kr) ResAll.nil) ?_
 exact ⟨m1, rfl, hm, st⟩
def cmp_isNaN_int (N : Nat) (p0 : Int) : Option (Bool) :=
 some (p0 != p0)
set_option maxHeartbeats 4000000 in
set_option maxRecDepth 100000 in
theorem cmp_isNaN_int_ok {N : Nat} {m : Mem} {own : List Piece} {w : World} {p0 : Int} {r : Bool} (st : St m (own) w) (hr : cmp_isNaN_int N p0 = some r) : Calls Tryz.prog 134 #[.int .i64 p0] w fun e w' => ∃ (m' : Mem), e = .returned (.bool r) ∧ m.le m' ∧ St m' (own) w' := by
 unfold cmp_isNaN_int at hr
 have hm := m.le_refl
 refine W_calls Tryz.func134 rfl Tryz.ntmps134 [(0, .int .i64 p0)] kr rfl ?_
 refine W_sr (WO_seg 1 [] kr kr ?_)
 refine WO_et rfl (W_sr ?_)
 refine WO_seg 4 [(2, .bool (p0 != p0))] kr kr ?_
 refine WO_et rfl (W_ret ?_)
 obtain rfl := Option.some.inj hr
 refine X_ret [.tmp 2] [.bool (p0 != p0)] rfl (ResAll.cons (ResAt.tmp kr) ResAll.nil) ?_
 exact ⟨m, rfl, hm, st⟩
def cmp_Compare_int (N : Nat) (p0 : Int) (p1 : Int) : Option (Int) :=
 (cmp_isNaN_int N p0).bind fun y1 => (cmp_isNaN_int N p1).bind fun y2 => if y1 = true then (if y2 = true then (some 0) else (some (-1))) else (if y2 = true then (some 1) else (if (decide (p0 < p1)) = true then (some (-1)) else (if (decide (p0 > p1)) = true then (some 1) else (some 0))))
set_option maxHeartbeats 4000000 in
set_option maxRecDepth 100000 in
theorem cmp_Compare_int_ok {N : Nat} {m : Mem} {own : List Piece} {w : World} {p0 : Int} {p1 : Int} {r : Int} (st : St m (own) w) (hr : cmp_Compare_int N p0 p1 = some r) : Calls Tryz.prog 81 #[.int .i64 p0, .int .i64 p1] w fun e w' => ∃ (m' : Mem), e = .returned (.int .i64 r) ∧ m.le m' ∧ St m' (own) w' := by
 unfold cmp_Compare_int at hr
 have hm := m.le_refl
 refine W_calls Tryz.func81 rfl Tryz.ntmps81 [(0, .int .i64 p0), (1, .int .i64 p1)] kr rfl ?_
 refine W_sr (WO_seg 1 [] kr kr ?_)
 refine WO_et rfl (W_sr ?_)
 refine WO_seg 1 [(7, .int .i64 p0)] kr kr ?_
 replace ⟨y1, hx1, hr⟩ := bindS hr
 refine WO_one rfl (One_fn 8 134 #[.int .i64 p0] kr rfl ?_)
 refine (cmp_isNaN_int_ok st hx1).mono ?_
 clear st
 rintro _ w1 ⟨m1, rfl, hle1, st⟩
 refine ⟨_, rfl, ?_⟩
 have hm := Mem.le_trans hm hle1
 refine WO_seg 1 [(5, .bool y1)] kr kr ?_
 refine WO_et rfl (W_sr ?_)
 refine WO_seg 1 [(9, .int .i64 p1)] kr kr ?_
 replace ⟨y2, hx2, hr⟩ := bindS hr
 refine WO_one rfl (One_fn 10 134 #[.int .i64 p1] kr rfl ?_)
 refine (cmp_isNaN_int_ok st hx2).mono ?_
 clear st
 rintro _ w2 ⟨m2, rfl, hle2, st⟩
 refine ⟨_, rfl, ?_⟩
 have hm := Mem.le_trans hm hle2
 refine WO_seg 1 [(6, .bool y2)] kr kr ?_
 refine WO_et rfl (W_seq ?_)
 refine W_sr (WO_seg 1 [(11, .bool y1)] kr kr ?_)
 refine WO_et rfl (W_cond y1 kr ?_ ?_)
 ·intro hc
  rw [if_pos hc] at hr
  refine W_seq ?_
  refine W_sr (WO_seg 1 [(12, .bool y2)] kr kr ?_)
  refine WO_et rfl (W_cond y2 kr ?_ ?_)
  ·intro hc
   rw [if_pos hc] at hr
   refine W_sr (WO_seg 1 [(4, .int .i64 0)] kr kr ?_)
   refine WO_et rfl (W_ret ?_)
   refine X_then_ret ?_
   refine X_then_ret ?_
   obtain rfl := Option.some.inj hr
   refine X_ret [.tmp 4] [.int .i64 0] rfl (ResAll.cons (ResAt.tmp kr) ResAll.nil) ?_
   exact ⟨m2, rfl, hm, st⟩
  ·intro hc
   rw [if_neg (not_true hc)] at hr
   refine W_skip ?_
   refine X_then ?_
   refine W_sr (WO_seg 1 [(4, .int .i64 (-1))] kr kr ?_)
   refine WO_et rfl (W_ret ?_)
   refine X_then_ret ?_
   obtain rfl := Option.some.inj hr
   refine X_ret [.tmp 4] [.int .i64 (-1)] rfl (ResAll.cons (ResAt.tmp kr) ResAll.nil) ?_
   exact ⟨m2, rfl, hm, st⟩
 ·intro hc
  rw [if_neg (not_true hc)] at hr
  refine W_skip ?_
  refine X_then ?_
  refine W_seq ?_
  refine W_sr (WO_seg 1 [(13, .bool y2)] kr kr ?_)
  refine WO_et rfl (W_cond y2 kr ?_ ?_)
  ·intro hc
   rw [if_pos hc] at hr
   refine W_sr (WO_seg 1 [(4, .int .i64 1)] kr kr ?_)
   refine WO_et rfl (W_ret ?_)
   refine X_then_ret ?_
   obtain rfl := Option.some.inj hr
   refine X_ret [.tmp 4] [.int .i64 1] rfl (ResAll.cons (ResAt.tmp kr) ResAll.nil) ?_
   exact ⟨m2, rfl, hm, st⟩
  ·intro hc
   rw [if_neg (not_true hc)] at hr
   refine W_skip ?_
   refine X_then ?_
   refine W_seq ?_
   refine W_sr (WO_seg 3 [(16, .bool (decide (p0 < p1)))] kr kr ?_)
   refine WO_et rfl (W_cond (decide (p0 < p1)) kr ?_ ?_)
   ·intro hc
    rw [if_pos hc] at hr
    refine W_sr (WO_seg 1 [(4, .int .i64 (-1))] kr kr ?_)
    refine WO_et rfl (W_ret ?_)
    refine X_then_ret ?_
    obtain rfl := Option.some.inj hr
    refine X_ret [.tmp 4] [.int .i64 (-1)] rfl (ResAll.cons (ResAt.tmp kr) ResAll.nil) ?_
    exact ⟨m2, rfl, hm, st⟩
   ·intro hc
    rw [if_neg (not_true hc)] at hr
    refine W_skip ?_
    refine X_then ?_
    refine W_seq ?_
    refine W_sr (WO_seg 3 [(19, .bool (decide (p0 > p1)))] kr kr ?_)
    refine WO_et rfl (W_cond (decide (p0 > p1)) kr ?_ ?_)
    ·intro hc
     rw [if_pos hc] at hr
     refine W_sr (WO_seg 1 [(4, .int .i64 1)] kr kr ?_)
     refine WO_et rfl (W_ret ?_)
     refine X_then_ret ?_
     obtain rfl := Option.some.inj hr
     refine X_ret [.tmp 4] [.int .i64 1] rfl (ResAll.cons (ResAt.tmp kr) ResAll.nil) ?_
     exact ⟨m2, rfl, hm, st⟩
    ·intro hc
     rw [if_neg (not_true hc)] at hr
     refine W_skip ?_
     refine X_then ?_
     refine W_sr (WO_seg 1 [(4, .int .i64 0)] kr kr ?_)
     refine WO_et rfl (W_ret ?_)
     obtain rfl := Option.some.inj hr
     refine X_ret [.tmp 4] [.int .i64 0] rfl (ResAll.cons (ResAt.tmp kr) ResAll.nil) ?_
     exact ⟨m2, rfl, hm, st⟩
def cmp_Or_int_L1 (N : Nat) (p0 : List Int) (s1 : Int) : Option ((Int) ⊕ ((Unit) ⊕ (Int))) :=
 if (decide (s1 < (List.length p0 : Int))) = true then ((idx p0 s1).bind fun x1 => if (x1 != 0) = true then (some (.inr (.inr (x1)))) else (some (.inl (IntKind.wrap .i64 (s1 + 1))))) else (some (.inr (.inl ())))
def cmp_Or_int (N : Nat) (p0 : List Int) : Option (Int) :=
 (loopM (cmp_Or_int_L1 N p0) N 0).bind fun out1 => (match out1 with | .inl o1 => some 0 | .inr (z) => some z)
set_option maxHeartbeats 4000000 in
set_option maxRecDepth 100000 in
theorem cmp_Or_int_ok {N : Nat} {m : Mem} {own : List Piece} {w : World} {p0 : List Int} {a1 : Option Addr} {c1 : Nat} {r : Int} (st : St m (own) w) (r1 : RepS (cInt .i64) m a1 c1 p0) (hr : cmp_Or_int N p0 = some r) : Calls Tryz.prog 79 #[.slice a1 (List.length p0) c1] w fun e w' => ∃ (m' : Mem), e = .returned (.int .i64 r) ∧ m.le m' ∧ St m' (own) w' := by
 unfold cmp_Or_int at hr
 have hm := m.le_refl
 refine W_calls Tryz.func79 rfl Tryz.ntmps79 [(0, .slice a1 (List.length p0) c1)] kr rfl ?_
 refine W_sr (WO_seg 1 [] kr kr ?_)
 refine WO_et rfl (W_sr ?_)
 refine WO_seg 1 [(3, .int .i64 0)] kr kr ?_
 refine WO_et rfl (W_seq ?_)
 refine W_sr (WO_seg 3 [(6, .slice a1 (List.length p0) c1), (7, .int .i64 (List.length p0 : Int)), (8, .int .i64 0)] kr kr ?_)
 refine WO_et rfl (W_block ?_)
 replace ⟨out1, hr, hrKu1⟩ := bindS hr
 refine W_cut (.exit 0) (fun L' w' => ∃ (o1 : Unit) (m1 : Mem), (.inl o1) = out1 ∧ L' = [(3, .int .i64 0)] ∧ m.le m1 ∧ St m1 (own) w') ?_ ?_
 ·clear hr st
  rintro _ w1 ⟨o1, m1, rfl, rfl, hm, st⟩
  have hr := hrKu1
  clear hrKu1
  dsimp only at hr
  refine X_block_eq ?_
  refine X_then ?_
  refine W_sr (WO_seg 2 [(2, .int .i64 0)] kr kr ?_)
  refine WO_et rfl (W_ret ?_)
  obtain rfl := Option.some.inj hr
  refine X_ret [.tmp 2] [.int .i64 0] rfl (ResAll.cons (ResAt.tmp kr) ResAll.nil) ?_
  exact ⟨m1, rfl, hm, st⟩
 intro K0_u1
 refine W_env _ kr (W_loop (fun k1 L' w' => ∃ (s1 : Int) (m2 : Mem), loopM (cmp_Or_int_L1 N p0) k1 s1 = some out1 ∧ L' = [(3, .int .i64 0), (6, .slice a1 (List.length p0) c1), (7, .int .i64 (List.length p0 : Int)), (8, .int .i64 s1)] ∧ m.le m2 ∧ St m2 (own) w' ∧ RepS (cInt .i64) m2 a1 c1 p0) N ⟨0, m, hr, rfl, hm, st, r1⟩ ?_)
 clear st hr
 rintro k1 _ w2 ⟨s1, m2, hL, rfl, hm, st, r1⟩
 rcases k1 with _ | k1
 ·exact loopM_zero hL
 ·obtain ⟨qu1, hr, hSu1, hBu1⟩ := loopM_succ hL
  clear hL
  unfold cmp_Or_int_L1 at hr
  refine W_sr (WO_seg 1 [(9, .bool (decide (s1 < (List.length p0 : Int))))] kr kr ?_)
  refine WO_et rfl (W_seq ?_)
  refine W_cond (decide (s1 < (List.length p0 : Int))) kr ?_ ?_
  ·intro hc
   rw [if_pos hc] at hr
   refine W_skip ?_
   refine X_then ?_
   refine W_seq ?_
   refine W_block ?_
   refine W_sr ?_
   replace ⟨x1, hx1, hr⟩ := bindS hr
   refine WO_one rfl (One_index (d := 10) (t := 22) (e := 3) (x := (.tmp 6)) (y := (.tmp 8)) (cInt .i64) kr rfl (ev (.slice a1 (List.length p0) c1)) (ev (.int .i64 s1)) kr r1 hx1 ?_)
   rintro b1 f1 cs1 rfl hq1
   refine WO_one rfl (One_load_row (d := 11) (t := 3) (x := (.tmp 10)) (.int .i64 x1) kr rfl (ev (.pointer (some ⟨b1, f1, none⟩))) st hq1 kr ?_)
   refine WO_seg 1 [(5, .int .i64 x1)] kr kr ?_
   refine WO_et rfl (W_sr ?_)
   refine WO_seg 3 [(14, .bool (x1 != 0))] kr kr ?_
   refine WO_et rfl (W_cond (x1 != 0) kr ?_ ?_)
   ·intro hc
    rw [if_pos hc] at hr
    refine W_sr (WO_seg 2 [(2, .int .i64 x1)] kr kr ?_)
    refine WO_et rfl (W_ret ?_)
    refine X_block_ret ?_
    refine X_then_ret ?_
    obtain rfl := Option.some.inj hr
    have ho := hBu1 _ rfl
    subst ho
    have hr := hrKu1
    dsimp only at hr
    refine X_then_ret ?_
    refine X_block_ret ?_
    refine X_then_ret ?_
    obtain rfl := Option.some.inj hr
    refine X_ret [.tmp 2] [.int .i64 x1] rfl (ResAll.cons (ResAt.tmp kr) ResAll.nil) ?_
    exact ⟨m2, rfl, hm, st⟩
   ·intro hc
    rw [if_neg (not_true hc)] at hr
    refine W_skip ?_
    refine X_block ?_
    refine X_then ?_
    refine W_region ?_
    refine WO_seg 2 [(8, .int .i64 (IntKind.wrap .i64 (s1 + 1)))] kr kr ?_
    refine WO_end rfl ?_
    obtain rfl := Option.some.inj hr
    have hL := hSu1 _ rfl
    exact X_env _ kr (X_round k1 (Nat.lt_succ_self _) ⟨IntKind.wrap .i64 (s1 + 1), m2, hL, rfl, hm, st, r1⟩)
  ·intro hc
   rw [if_neg (not_true hc)] at hr
   refine W_exit ?_
   refine X_then_exit ?_
   obtain rfl := Option.some.inj hr
   have ho := hBu1 _ rfl
   refine X_then_exit ?_
   exact X_env _ kr (K0_u1 _ _ ⟨(), m2, ho, rfl, hm, st⟩)
def filediff_Diff_1 (N : Nat) (p0 : Int × ByteArray × ByteArray × ByteArray) (p1 : Int × ByteArray × ByteArray × ByteArray) : Option (Int) :=
 (strings_Compare N p0.2.1 p1.2.1).bind fun y1 => (cmp_Compare_int N p0.1 p1.1).bind fun y2 => (cmp_Or_int N ([y1, y2])).bind fun y3 => some y3
set_option maxHeartbeats 4000000 in
set_option maxRecDepth 100000 in
theorem filediff_Diff_1_ok {N : Nat} {m : Mem} {own : List Piece} {w : World} {p0 : Int × ByteArray × ByteArray × ByteArray} {p1 : Int × ByteArray × ByteArray × ByteArray} {r : Int} (st : St m (own) w) (hr : filediff_Diff_1 N p0 p1 = some r) : Calls Tryz.prog 78 #[.agg #[.int .i64 p0.1, .string p0.2.1, .string p0.2.2.1, .string p0.2.2.2], .agg #[.int .i64 p1.1, .string p1.2.1, .string p1.2.2.1, .string p1.2.2.2]] w fun e w' => ∃ (m' : Mem), e = .returned (.int .i64 r) ∧ m.le m' ∧ St m' (own) w' := by
 unfold filediff_Diff_1 at hr
 have hm := m.le_refl
 refine W_calls Tryz.func78 rfl Tryz.ntmps78 [(0, .agg #[.int .i64 p0.1, .string p0.2.1, .string p0.2.2.1, .string p0.2.2.2]), (1, .agg #[.int .i64 p1.1, .string p1.2.1, .string p1.2.2.1, .string p1.2.2.2])] kr rfl ?_
 refine W_sr (WO_one rfl (One_box (d := 2) (e := 72) (x := (.tmp 0)) (.agg #[.int .i64 p0.1, .string p0.2.1, .string p0.2.2.1, .string p0.2.2.2]) kr rfl kr st ?_))
 clear st
 intro b1 m1 w1 hle1 st hb1
 have hm := Mem.le_trans hm hle1
 refine WO_one rfl (One_box (d := 3) (e := 72) (x := (.tmp 1)) (.agg #[.int .i64 p1.1, .string p1.2.1, .string p1.2.2.1, .string p1.2.2.2]) kr rfl kr st ?_)
 clear st
 intro b2 m2 w2 hle2 st hb2
 have hm := Mem.le_trans hm hle2
 have hb1 := hb1.mono hle2
 refine WO_seg 1 [] kr kr ?_
 refine WO_et rfl (W_seq ?_)
 refine W_draw [(13, fun w' => Inv m2 w' ∧ True)] kr st ?_
 clear st
 intro w3 _ st
 have hmS1 := m2.le_refl
 refine ⟨⟨.inr ⟨Inv.anti st.inv hmS1, trivial⟩, trivial⟩, ?_⟩
 refine WA_pure 0 5 (.pointer (some ⟨b1, 1, none⟩)) kr rfl kr (.head _) (QP_then QP_body) ?_
 refine WA_load_row (t := 9) (x := (.tmp 5)) 1 6 (.string p0.2.1) kr rfl kr (.head _) (QP_then QP_body) (fun _ h => h.1) (ev (.pointer (some ⟨b1, 1, none⟩))) (hb1.drop 1) kr ?_
 refine WA_pure 2 7 (.pointer (some ⟨b2, 1, none⟩)) kr rfl kr (.head _) (QP_then QP_body) ?_
 refine WA_load_row (t := 9) (x := (.tmp 7)) 3 8 (.string p1.2.1) kr rfl kr (.head _) (QP_then QP_body) (fun _ h => h.1) (ev (.pointer (some ⟨b2, 1, none⟩))) (hb2.drop 1) kr ?_
 refine WA_pure 5 10 (.pointer (some ⟨b1, 0, none⟩)) kr rfl kr (.head _) (QP_then QP_body) ?_
 refine WA_load_row (t := 3) (x := (.tmp 10)) 6 11 (.int .i64 p0.1) kr rfl kr (.head _) (QP_then QP_body) (fun _ h => h.1) (ev (.pointer (some ⟨b1, 0, none⟩))) hb1 kr ?_
 refine WA_pure 7 12 (.pointer (some ⟨b2, 0, none⟩)) kr rfl kr (.head _) (QP_then QP_body) ?_
 refine WA_load_row (t := 3) (x := (.tmp 12)) 8 13 (.int .i64 p1.1) kr rfl kr (.head _) (QP_then QP_body) (fun _ h => h.1) (ev (.pointer (some ⟨b2, 0, none⟩))) hb2 kr ?_
 replace ⟨y1, hx1, hr⟩ := bindS hr
 refine WA_one 4 kr  (One_fn 9 80 #[.string p0.2.1, .string p1.2.1] kr rfl ?_)
 refine (strings_Compare_ok st hx1).mono ?_
 clear st
 rintro _ w4 ⟨m3, rfl, hle3, st⟩
 refine ⟨_, rfl, ?_⟩
 have hm := Mem.le_trans hm hle3
 have hb1 := hb1.mono hle3
 have hb2 := hb2.mono hle3
 have hmS1 := Mem.le_trans hmS1 hle3
 refine ⟨⟨.inr ⟨Inv.anti st.inv hmS1, trivial⟩, trivial⟩, ?_⟩
 replace ⟨y2, hx2, hr⟩ := bindS hr
 refine WA_one 9 kr  (One_fn 14 81 #[.int .i64 p0.1, .int .i64 p1.1] kr rfl ?_)
 refine (cmp_Compare_int_ok st hx2).mono ?_
 clear st
 rintro _ w5 ⟨m4, rfl, hle4, st⟩
 refine ⟨_, rfl, ?_⟩
 have hm := Mem.le_trans hm hle4
 have hb1 := hb1.mono hle4
 have hb2 := hb2.mono hle4
 have hmS1 := Mem.le_trans hmS1 hle4
 refine ⟨⟨.inr ⟨Inv.anti st.inv hmS1, trivial⟩, trivial⟩, ?_⟩
 refine WA_one 10 kr  (One_buildSlice (d := 15) (t := 22) (e := 3) (len := 2) (parts := #[(0, (.tmp 9)), (1, (.tmp 14))]) (cInt .i64) (xs := [y1, y2]) [.int .i64 y1, .int .i64 y2] kr rfl (fun _ => buildCells_run kr _) rfl rfl st ⟨[.int .i64 y1], _, rfl, rfl, ⟨[.int .i64 y2], _, rfl, rfl, rfl⟩⟩ ?_)
 clear st
 intro b3 m5 w6 hle5 st r1
 have hm := Mem.le_trans hm hle5
 have hb1 := hb1.mono hle5
 have hb2 := hb2.mono hle5
 have hmS1 := Mem.le_trans hmS1 hle5
 refine ⟨⟨.inr ⟨Inv.anti st.inv hmS1, trivial⟩, trivial⟩, ?_⟩
 replace ⟨y3, hx3, hr⟩ := bindS hr
 refine WA_one 11 kr  (One_fn 16 79 #[.slice (some ⟨b3, 0, none⟩) (List.length ([y1, y2])) 2] kr rfl ?_)
 refine (cmp_Or_int_ok st r1 hx3).mono ?_
 clear st
 rintro _ w7 ⟨m6, rfl, hle6, st⟩
 refine ⟨_, rfl, ?_⟩
 have hm := Mem.le_trans hm hle6
 have hb1 := hb1.mono hle6
 have hb2 := hb2.mono hle6
 have r1 := r1.mono hle6
 have hmS1 := Mem.le_trans hmS1 hle6
 refine ⟨⟨.inr ⟨Inv.anti st.inv hmS1, trivial⟩, trivial⟩, ?_⟩
 refine WA_pure 12 4 (.int .i64 y3) kr rfl kr (.head _) (QP_then QP_body) ?_
 refine WA_done kr ?_
 have st := st.tail
 refine X_then ?_
 refine W_ret ?_
 obtain rfl := Option.some.inj hr
 refine X_ret [.tmp 4] [.int .i64 y3] rfl (ResAll.cons (ResAt.tmp kr) ResAll.nil) ?_
 exact ⟨m6, rfl, hm, st⟩
def sortLay77_ren : Go.Shelf.Ren := ⟨fun | 6 => 77 | 15 => 132 | 14 => 131 | 28 => 165 | 29 => 166 | 20 => 157 | 21 => 158 | 22 => 159 | 23 => 160 | 24 => 161 | 25 => 162 | 26 => 163 | 27 => 164 | 46 => 204 | 47 => 205 | 48 => 206 | 49 => 207 | 50 => 208 | 57 => 234 | n => n, fun | 22 => 58 | 24 => 72 | 25 => 131 | 3 => 3 | 39 => 179 | 0 => 0 | 53 => 217 | 55 => 219 | 4 => 4 | 46 => 211 | 45 => 210 | 50 => 175 | 5 => 5 | 9 => 9 | 66 => 245 | 70 => 249 | 76 => 266 | 77 => 267 | n => n, fun | n => n⟩
theorem sortLay77 : Go.Proofs.SlLaysF0.n6 Tryz.prog sortLay77_ren where
 mixed := kr
 f6 := ⟨Tryz.f77.name, kr, Tryz.func77.trans (congrArg some kr)⟩
 f14 := ⟨Tryz.f131.name, kr, Tryz.func131.trans (congrArg some kr)⟩
 f15 := Tryz.func132.trans (congrArg some kr)
 f20 := ⟨Tryz.f157.name, kr, Tryz.func157.trans (congrArg some kr)⟩
 f21 := ⟨Tryz.f158.name, kr, Tryz.func158.trans (congrArg some kr)⟩
 f22 := ⟨Tryz.f159.name, kr, Tryz.func159.trans (congrArg some kr)⟩
 f23 := ⟨Tryz.f160.name, kr, Tryz.func160.trans (congrArg some kr)⟩
 f24 := ⟨Tryz.f161.name, kr, Tryz.func161.trans (congrArg some kr)⟩
 f25 := ⟨Tryz.f162.name, kr, Tryz.func162.trans (congrArg some kr)⟩
 f26 := ⟨Tryz.f163.name, kr, Tryz.func163.trans (congrArg some kr)⟩
 f27 := ⟨Tryz.f164.name, kr, Tryz.func164.trans (congrArg some kr)⟩
 f28 := Tryz.func165.trans (congrArg some kr)
 f29 := Tryz.func166.trans (congrArg some kr)
 f46 := ⟨Tryz.f204.name, kr, Tryz.func204.trans (congrArg some kr)⟩
 f47 := Tryz.func205.trans (congrArg some kr)
 f48 := Tryz.func206.trans (congrArg some kr)
 f49 := ⟨Tryz.f207.name, kr, Tryz.func207.trans (congrArg some kr)⟩
 f50 := ⟨Tryz.f208.name, kr, Tryz.func208.trans (congrArg some kr)⟩
 f57 := ⟨Tryz.f234.name, kr, Tryz.func234.trans (congrArg some kr)⟩
 t0 := Tryz.underlying0
 a0 := Tryz.isAgg0
 z0 := Tryz.sizeOf0
 v0 := Tryz.zeroValue0
 t3 := Tryz.underlying3
 a3 := Tryz.isAgg3
 z3 := Tryz.sizeOf3
 v3 := Tryz.zeroValue3
 t4 := Tryz.underlying4
 a4 := Tryz.isAgg4
 z4 := Tryz.sizeOf4
 v4 := Tryz.zeroValue4
 t5 := Tryz.underlying5
 a5 := Tryz.isAgg5
 z5 := Tryz.sizeOf5
 v5 := Tryz.zeroValue5
 t9 := Tryz.underlying9
 a9 := Tryz.isAgg9
 z9 := Tryz.sizeOf9
 v9 := Tryz.zeroValue9
 t22 := Tryz.underlying58
 a22 := Tryz.isAgg58
 z22 := Tryz.sizeOf58
 v22 := Tryz.zeroValue58
 t25 := Tryz.underlying131
 a25 := Tryz.isAgg131
 z25 := Tryz.sizeOf131
 v25 := Tryz.zeroValue131
 t39 := Tryz.underlying179
 a39 := Tryz.isAgg179
 z39 := Tryz.sizeOf179
 v39 := Tryz.zeroValue179
 t45 := Tryz.underlying210
 a45 := Tryz.isAgg210
 z45 := Tryz.sizeOf210
 v45 := Tryz.zeroValue210
 t46 := Tryz.underlying211
 a46 := Tryz.isAgg211
 z46 := Tryz.sizeOf211
 v46 := Tryz.zeroValue211
 t50 := Tryz.underlying175
 a50 := Tryz.isAgg175
 z50 := Tryz.sizeOf175
 v50 := Tryz.zeroValue175
 t53 := Tryz.underlying217
 a53 := Tryz.isAgg217
 z53 := Tryz.sizeOf217
 v53 := Tryz.zeroValue217
 t55 := Tryz.underlying219
 a55 := Tryz.isAgg219
 z55 := Tryz.sizeOf219
 v55 := Tryz.zeroValue219
 t66 := Tryz.underlying245
 a66 := Tryz.isAgg245
 z66 := Tryz.sizeOf245
 v66 := Tryz.zeroValue245
 t70 := Tryz.underlying249
 a70 := Tryz.isAgg249
 z70 := Tryz.sizeOf249
 v70 := Tryz.zeroValue249
 t76 := Tryz.underlying266
 a76 := Tryz.isAgg266
 z76 := Tryz.sizeOf266
 v76 := Tryz.zeroValue266
 t77 := Tryz.underlying267
 a77 := Tryz.isAgg267
 z77 := Tryz.sizeOf267
 v77 := Tryz.zeroValue267
theorem cmp_CompareD_T {N : Nat} (x y : Int) : cmp_Compare_int N x y = some (cmpI x y) := by
 have h : ∀ z : Int, cmp_isNaN_int N z = some false := fun z => by simp [cmp_isNaN_int]
 simp only [cmp_Compare_int, h, Option.bind_some, cmpI]
 by_cases h1 : x < y
 ·simp [h1]
 ·by_cases h2 : x > y
  ·simp [h1, h2]
  ·simp [h1, h2]
theorem strings_CompareD_T {N : Nat} (x y : ByteArray) : strings_Compare N x y = some (cmpS x y) := by simp [strings_Compare, internal_bytealg_CompareString]
theorem cmp_OrD_T {N : Nat} (hN : 10 ≤ N) (a b : Int) : cmp_Or_int N [a, b] = some (if a ≠ 0 then a else b) := by
 obtain ⟨k, rfl⟩ : ∃ k, N = k + 3 := ⟨N - 3, by omega⟩
 have w1 : IntKind.wrap .i64 1 = 1 := by decide
 have w2 : IntKind.wrap .i64 2 = 2 := by decide
 have i0 : idx [a, b] 0 = some a := rfl
 have i1 : idx [a, b] 1 = some b := rfl
 simp only [cmp_Or_int, loopM, cmp_Or_int_L1, List.length_cons, List.length_nil, i0, Option.bind_some]
 by_cases ha : a = 0
 ·subst ha
  by_cases hb : b = 0
  ·subst hb; simp [w1, w2, i1]
  ·simp [w1, i1, hb]
 ·simp [ha]
def cmpChange (x y : Int × ByteArray × ByteArray × ByteArray) : Int := lexC cmpS cmpI (x.2.1, x.1) (y.2.1, y.1)
theorem cmpChange_swo : Go.Sort.SWO (Go.Proofs.ltOf cmpChange) := swo_pull (lexC_lin cmpS_lin cmpI_lin).swo fun x : Int × ByteArray × ByteArray × ByteArray => (x.2.1, x.1)
theorem cmpChange_anti (x y : Int × ByteArray × ByteArray × ByteArray) : cmpChange x y < 0 ↔ 0 < cmpChange y x := (lexC_lin cmpS_lin cmpI_lin).anti _ _
theorem filediff_Diff_1_T {N : Nat} (hN : 10 ≤ N) (x y : Int × ByteArray × ByteArray × ByteArray) : filediff_Diff_1 N x y = some (cmpChange x y) := by
 simp only [filediff_Diff_1, cmp_CompareD_T, strings_CompareD_T, cmp_OrD_T hN, Option.bind_some]
 rfl
def slices_SortFunc_api_Change_api_Change_S_filediff_Diff_1 (N : Nat) (l : List (Int × ByteArray × ByteArray × ByteArray)) : Option (List (Int × ByteArray × ByteArray × ByteArray)) := if 10 ≤ N ∧ l.length < 4611686018427387904 ∧ (∀ x ∈ l, ∀ y ∈ l, cmpChange x y = 0 → x = y) then some (l.mergeSort fun x y => !(Go.Proofs.ltOf cmpChange y x)) else none
theorem slices_SortFunc_api_Change_api_Change_len_filediff_Diff_1 {N : Nat} {l r : List (Int × ByteArray × ByteArray × ByteArray)} (h : slices_SortFunc_api_Change_api_Change_S_filediff_Diff_1 N l = some r) : r.length = l.length := by
 unfold slices_SortFunc_api_Change_api_Change_S_filediff_Diff_1 at h
 split at h
 ·simp only [Option.some.injEq] at h; subst h; simp
 ·cases h
theorem slices_SortFunc_api_Change_api_Change_own_filediff_Diff_1 {N : Nat} {m : Mem} {own : List Piece} {w : World} {a : Option Addr} {nn cc : Nat} {T : List Value} {l r : List (Int × ByteArray × ByteArray × ByteArray)} {e : TypeId} (st : St m (opc a (acellsM (fun x : Int × ByteArray × ByteArray × ByteArray => ([.int .i64 x.1, .string x.2.1, .string x.2.2.1, .string x.2.2.2] : List Value)) l T) e :: own) w) (hs : OAS a nn cc 4 T) (hn : List.length l = nn) (h : slices_SortFunc_api_Change_api_Change_S_filediff_Diff_1 N l = some r) :
  Calls Tryz.prog 77 #[.slice a nn cc, .func (.func 78) #[] #[]] w fun e' w' => e' = .returned (.tuple #[]) ∧ St m (opc a (acellsM (fun x : Int × ByteArray × ByteArray × ByteArray => ([.int .i64 x.1, .string x.2.1, .string x.2.2.1, .string x.2.2.2] : List Value)) r T) e :: own) w' := by
 unfold slices_SortFunc_api_Change_api_Change_S_filediff_Diff_1 at h
 split at h
 ·rename_i hb
  obtain ⟨hN, hlen, hties⟩ := hb
  simp only [Option.some.injEq] at h; subst h; subst hn
  exact Calls_sortKL (f := (fun x : Int × ByteArray × ByteArray × ByteArray => ([.int .i64 x.1, .string x.2.1, .string x.2.2.1, .string x.2.2.2] : List Value))) (k := 4) sortLay77 Tryz.isAgg72 Tryz.sizeOf72 (fun _ => rfl) (fun _ _ hv => by simp only [List.mem_cons, List.not_mem_nil, or_false] at hv; rcases hv with rfl | rfl | rfl | rfl <;> rfl) cmpChange cmpChange_swo 78 (enters_of Tryz.func78 kr rfl) (fun x y W => by
   refine (filediff_Diff_1_ok (snap_st W) (filediff_Diff_1_T hN x y)).mono fun e' w' h => ?_
   obtain ⟨m', h1, h2, h3⟩ := h
   exact ⟨m', h1, h2, h3⟩) (fun x hx y hy h1 h2 => hties x hx y hy (by
    have a1 := cmpChange_anti y x
    simp only [Go.Proofs.ltOf, decide_eq_false_iff_not] at h1 h2
    have a2 := cmpChange_anti x y
    omega)) st hs hlen
 ·cases h
def filediff_Diff_L1 (N : Nat) (p0 : (List (ByteArray × ByteArray))) (p1 : (List (ByteArray × ByteArray))) (s1 : (List (Int × ByteArray × ByteArray × ByteArray)) × Int × (Option (List (ByteArray × List ByteArray)))) : Option (((List (Int × ByteArray × ByteArray × ByteArray)) × Int × (Option (List (ByteArray × List ByteArray)))) ⊕ (((List (Int × ByteArray × ByteArray × ByteArray)) × (Option (List (ByteArray × List ByteArray)))))) :=
 if (decide (s1.2.1 < (List.length p0 : Int))) = true then (((idx p0 s1.2.1).bind fun x1 => (revision_Find N p1 x1.1).bind fun y3 => if (!y3.2) = true then ((appendS 16 ((mgetQ s1.2.2 x1.2).getD []) ([x1.1])).bind fun l1 => (msetQ s1.2.2 x1.2 l1).bind fun mp1 => some (s1.1, mp1)) else (if (!(y3.1.toList == x1.2.toList)) = true then ((appendS 56 s1.1 ([(3, x1.1, (⟨#[]⟩ : ByteArray), y3.1)])).bind fun l2 => some (l2, s1.2.2)) else (some (s1.1, s1.2.2))) : Option ((List (Int × ByteArray × ByteArray × ByteArray)) × (Option (List (ByteArray × List ByteArray))))).bind fun o3 => some (.inl (o3.1, IntKind.wrap .i64 (s1.2.1 + 1), o3.2))) else (some (.inr (s1.1, s1.2.2)))
def filediff_Diff_L2 (N : Nat) (p0 : (List (ByteArray × ByteArray))) (p1 : (List (ByteArray × ByteArray))) (s2 : (List (Int × ByteArray × ByteArray × ByteArray)) × Int × (Option (List (ByteArray × List ByteArray)))) : Option (((List (Int × ByteArray × ByteArray × ByteArray)) × Int × (Option (List (ByteArray × List ByteArray)))) ⊕ (((List (Int × ByteArray × ByteArray × ByteArray)) × (Option (List (ByteArray × List ByteArray)))))) :=
 if (decide (s2.2.1 < (List.length p1 : Int))) = true then (((idx p1 s2.2.1).bind fun x2 => (revision_Find N p0 x2.1).bind fun y4 => if y4.2 = true then (some (s2.1, s2.2.2)) else (if ((List.length ((mgetQ s2.2.2 x2.2).getD ([] : List (ByteArray))) : Int) == 0) = true then ((appendS 56 s2.1 ([(1, x2.1, (⟨#[]⟩ : ByteArray), x2.2)])).bind fun l3 => some (l3, s2.2.2)) else ((idx ((mgetQ s2.2.2 x2.2).getD ([] : List (ByteArray))) 0).bind fun x3 => (appendS 56 s2.1 ([(4, x2.1, x3, (⟨#[]⟩ : ByteArray))])).bind fun l4 => (subS ((mgetQ s2.2.2 x2.2).getD ([] : List (ByteArray))) 1 (List.length ((mgetQ s2.2.2 x2.2).getD ([] : List (ByteArray))) : Int)).bind fun l5 => (msetQ s2.2.2 x2.2 l5).bind fun mp2 => if ((List.length ((mgetQ s2.2.2 x2.2).getD ([] : List (ByteArray))) : Int) == 1) = true then (some (l4, mdelQ mp2 x2.2)) else (some (l4, mp2)))) : Option ((List (Int × ByteArray × ByteArray × ByteArray)) × (Option (List (ByteArray × List ByteArray))))).bind fun o5 => some (.inl (o5.1, IntKind.wrap .i64 (s2.2.1 + 1), o5.2))) else (some (.inr (s2.1, s2.2.2)))
def filediff_Diff_L4 (N : Nat) (kv1 : ByteArray × List ByteArray) (s4 : (List (Int × ByteArray × ByteArray × ByteArray)) × Int) : Option (((List (Int × ByteArray × ByteArray × ByteArray)) × Int) ⊕ (((List (Int × ByteArray × ByteArray × ByteArray))))) :=
 if (decide (s4.2 < (List.length kv1.2 : Int))) = true then ((idx kv1.2 s4.2).bind fun x4 => (appendS 56 s4.1 ([(2, x4, (⟨#[]⟩ : ByteArray), (⟨#[]⟩ : ByteArray))])).bind fun l6 => some (.inl (l6, IntKind.wrap .i64 (s4.2 + 1)))) else (some (.inr s4.1))
def filediff_Diff_L3 (N : Nat) (z1 : Option (ByteArray × List ByteArray)) (s3 : (List (Int × ByteArray × ByteArray × ByteArray))) : Option (((List (Int × ByteArray × ByteArray × ByteArray))) ⊕ (((List (Int × ByteArray × ByteArray × ByteArray))))) :=
 (match z1 with | none => some (.inr s3) | some kv1 => (loopM (filediff_Diff_L4 N kv1) N (s3, 0)).bind fun o7 => some (.inl o7))
def filediff_Diff (N : Nat) (p0 : (List (ByteArray × ByteArray))) (p1 : (List (ByteArray × ByteArray))) : Option ((List (Int × ByteArray × ByteArray × ByteArray)) × Int) :=
 ((revision_Check N p0).bind fun y1 => if (y1 != 0) = true then (some true) else ((revision_Check N p1).bind fun y2 => some (y2 != 0)) : Option (Bool)).bind fun o1 => if o1 = true then (some (([] : List (Int × ByteArray × ByteArray × ByteArray)), 1)) else ((loopM (filediff_Diff_L1 N p0 p1) N (([] : List (Int × ByteArray × ByteArray × ByteArray)), 0, (some [] : Option (List (ByteArray × List ByteArray))))).bind fun o2 => (loopM (filediff_Diff_L2 N p0 p1) N (o2.1, 0, o2.2)).bind fun o4 => mrangeK (filediff_Diff_L3 N) (Option.getD o4.2 []) o4.1 (fun o6 => (slices_SortFunc_api_Change_api_Change_S_filediff_Diff_1 N o6).bind fun y5 => some (y5, 0)))
set_option maxHeartbeats 4000000 in
set_option maxRecDepth 100000 in
theorem filediff_Diff_ok {N : Nat} {m : Mem} {own : List Piece} {w : World} {p0 : (List (ByteArray × ByteArray))} {p1 : (List (ByteArray × ByteArray))} {a1 : Option Addr} {c1 : Nat} {a2 : Option Addr} {c2 : Nat} {r : (List (Int × ByteArray × ByteArray × ByteArray)) × Int} (st : St m (own) w) (r1 : RepS (cPair cStr cStr) m a1 c1 p0) (r2 : RepS (cPair cStr cStr) m a2 c2 p1) (hr : filediff_Diff N p0 p1 = some r) : Calls Tryz.prog 24 #[.agg #[.slice a1 (List.length p0) c1], .agg #[.slice a2 (List.length p1) c2]] w fun e w' => ∃ (ra1 : Option Addr) (rc1 : Nat) (m' : Mem), e = .returned (.tuple #[.slice ra1 (List.length r.1) rc1, .int .i64 r.2]) ∧ m.le m' ∧ St m' (.room ra1 (List.length r.1) rc1 72 4 :: own) w' ∧ RepS (cPair (cInt .i64) (cPair cStr (cPair cStr cStr))) m' ra1 rc1 r.1 := by
 unfold filediff_Diff at hr
 have hm := m.le_refl
 refine W_calls Tryz.func24 rfl Tryz.ntmps24 [(0, .agg #[.slice a1 (List.length p0) c1]), (1, .agg #[.slice a2 (List.length p1) c2])] kr rfl ?_
 refine W_sr (WO_one rfl (One_box (d := 2) (e := 25) (x := (.tmp 0)) (.agg #[.slice a1 (List.length p0) c1]) kr rfl kr st ?_))
 clear st
 intro b1 m1 w1 hle1 st hb1
 have hm := Mem.le_trans hm hle1
 have r1 := r1.mono hle1
 have r2 := r2.mono hle1
 refine WO_one rfl (One_box (d := 3) (e := 25) (x := (.tmp 1)) (.agg #[.slice a2 (List.length p1) c2]) kr rfl kr st ?_)
 clear st
 intro b2 m2 w2 hle2 st hb2
 have hm := Mem.le_trans hm hle2
 have r1 := r1.mono hle2
 have r2 := r2.mono hle2
 have hb1 := hb1.mono hle2
 refine WO_seg 2 [] kr kr ?_
 refine WO_et rfl (W_seq ?_)
 refine W_sr ?_
 replace ⟨o1, hr, hrK⟩ := bindS hr
 refine WO_cut (j := 8) (fun L' w' => ∃ (m3 : Mem), L' = [(2, .pointer (some ⟨b1, 0, none⟩)), (3, .pointer (some ⟨b2, 0, none⟩)), (28, .bool o1)] ∧ m.le m3 ∧ St m3 (own) w' ∧ MRow m3 b1 0 [.slice a1 (List.length p0) c1] ∧ RepS (cPair cStr cStr) m3 a1 c1 p0 ∧ MRow m3 b2 0 [.slice a2 (List.length p1) c2] ∧ RepS (cPair cStr cStr) m3 a2 c2 p1) ?_ ?_
 ·clear hr st
  have hr := hrK
  clear hrK
  rintro _ w3 ⟨m3, rfl, hm, st, hb1, r1, hb2, r2⟩
  refine WO_et rfl (W_cond o1 kr ?_ ?_)
  ·intro hc
   rw [if_pos hc] at hr
   refine W_sr (WO_seg 2 [(4, .slice none (List.length ([] : List (Int × ByteArray × ByteArray × ByteArray))) 0), (5, .int .i64 1)] kr kr ?_)
   refine WO_et rfl (W_ret ?_)
   refine X_then_ret ?_
   obtain rfl := Option.some.inj hr
   refine X_ret [.tmp 4, .tmp 5] [.slice none (List.length ([] : List (Int × ByteArray × ByteArray × ByteArray))) 0, .int .i64 1] rfl (ResAll.cons (ResAt.tmp kr) (ResAll.cons (ResAt.tmp kr) ResAll.nil)) ?_
   have st := st.nilroom 72 4
   exact ⟨none, 0, m3, rfl, hm, st, (RepS.nil _ _)⟩
  ·intro hc
   rw [if_neg (not_true hc)] at hr
   refine W_skip ?_
   refine X_then ?_
   refine W_sr (WO_seg 1 [(6, .slice none (List.length ([] : List (Int × ByteArray × ByteArray × ByteArray))) 0)] kr kr ?_)
   refine WO_et rfl (W_sr ?_)
   refine WO_one rfl (One_makeMap (d := 29) (t := 126) kr rfl st ?_)
   clear st
   intro b3 w6 st
   have st : St m3 (mpiece (some b3) #[] 0 :: (roomsV 9 1 #[] ++ own)) w6 := st
   refine WO_seg 1 [(7, .map (some b3))] kr kr ?_
   refine WO_et rfl (W_seq ?_)
   refine W_sr (WO_seg 1 [(30, .pointer (some ⟨b1, 0, none⟩))] kr kr ?_)
   refine WO_one rfl (One_load_row (d := 31) (t := 23) (x := (.tmp 30)) (.slice a1 (List.length p0) c1) kr rfl (ev (.pointer (some ⟨b1, 0, none⟩))) st hb1 kr ?_)
   refine WO_seg 2 [(32, .int .i64 (List.length p0 : Int)), (33, .int .i64 0)] kr kr ?_
   refine WO_et rfl (W_block ?_)
   have st := room_opc (f := (fun x : Int × ByteArray × ByteArray × ByteArray => ([.int .i64 x.1, .string x.2.1, .string x.2.2.1, .string x.2.2.2] : List Value))) (st.nilroom 72 4)
   replace ⟨out1, hr, hrKu1⟩ := bindS hr
   refine W_cut (.exit 0) (fun L' w' => ∃ (o2 : (List (Int × ByteArray × ByteArray × ByteArray)) × (Option (List (ByteArray × List ByteArray)))) (a3 : Option Addr) (c3 : Nat) (T1 : List Value) (es1 : Array MapEntry) (ck1 : Nat) (m6 : Mem), o2 = out1 ∧ L' = [(2, .pointer (some ⟨b1, 0, none⟩)), (3, .pointer (some ⟨b2, 0, none⟩)), (6, .slice a3 (List.length o2.1) c3), (7, .map (some b3))] ∧ m.le m6 ∧ St m6 (mpiece (some b3) es1 ck1 :: opc a3 (acellsM (fun x : Int × ByteArray × ByteArray × ByteArray => ([.int .i64 x.1, .string x.2.1, .string x.2.2.1, .string x.2.2.2] : List Value)) o2.1 T1) 72 :: (roomsV 9 1 es1 ++ own)) w' ∧ MRow m6 b1 0 [.slice a1 (List.length p0) c1] ∧ RepS (cPair cStr cStr) m6 a1 c1 p0 ∧ MRow m6 b2 0 [.slice a2 (List.length p1) c2] ∧ RepS (cPair cStr cStr) m6 a2 c2 p1 ∧ MapQ (fun s : ByteArray => Value.string s) (cSl cStr) false m6 (some b3) es1 ck1 o2.2 ∧ OAS a3 (List.length o2.1) c3 4 T1) ?_ ?_
   ·clear hr st
    rintro _ w7 ⟨o2, a3, c3, T1, es1, ck1, m6, rfl, rfl, hm, st, hb1, r1, hb2, r2, r3, hs1⟩
    have hr := hrKu1
    clear hrKu1
    refine X_block_eq ?_
    refine X_then ?_
    refine W_seq ?_
    refine W_sr (WO_seg 1 [(71, .pointer (some ⟨b2, 0, none⟩))] kr kr ?_)
    refine WO_one rfl (One_load_row (d := 72) (t := 23) (x := (.tmp 71)) (.slice a2 (List.length p1) c2) kr rfl (ev (.pointer (some ⟨b2, 0, none⟩))) st hb2 kr ?_)
    refine WO_seg 2 [(73, .int .i64 (List.length p1 : Int)), (74, .int .i64 0)] kr kr ?_
    refine WO_et rfl (W_block ?_)
    have st : St m6 (mpiece (some b3) es1 ck1 :: opc a3 (acellsM (fun x : Int × ByteArray × ByteArray × ByteArray => ([.int .i64 x.1, .string x.2.1, .string x.2.2.1, .string x.2.2.2] : List Value)) o2.1 T1) 72 :: own) w7 := St.dropR (l := [mpiece (some b3) es1 ck1, opc a3 (acellsM (fun x : Int × ByteArray × ByteArray × ByteArray => ([.int .i64 x.1, .string x.2.1, .string x.2.2.1, .string x.2.2.2] : List Value)) o2.1 T1) 72]) st
    replace ⟨out2, hr, hrKu3⟩ := bindS hr
    refine W_cut (.exit 3) (fun L' w' => ∃ (o4 : (List (Int × ByteArray × ByteArray × ByteArray)) × (Option (List (ByteArray × List ByteArray)))) (a9 : Option Addr) (c9 : Nat) (T5 : List Value) (es5 : Array MapEntry) (ck5 : Nat) (m13 : Mem), o4 = out2 ∧ L' = [(6, .slice a9 (List.length o4.1) c9), (7, .map (some b3))] ∧ m.le m13 ∧ St m13 (mpiece (some b3) es5 ck5 :: opc a9 (acellsM (fun x : Int × ByteArray × ByteArray × ByteArray => ([.int .i64 x.1, .string x.2.1, .string x.2.2.1, .string x.2.2.2] : List Value)) o4.1 T5) 72 :: own) w' ∧ MapQ (fun s : ByteArray => Value.string s) (cSl cStr) false m13 (some b3) es5 ck5 o4.2 ∧ OAS a9 (List.length o4.1) c9 4 T5) ?_ ?_
    ·clear hr st
     rintro _ w19 ⟨o4, a9, c9, T5, es5, ck5, m13, rfl, rfl, hm, st, r11, hs5⟩
     have hr := hrKu3
     clear hrKu3
     refine X_block_eq ?_
     refine X_then ?_
     refine W_seq ?_
     refine W_sr (WO_seg 1 [(122, .map (some b3))] kr kr ?_)
     refine WO_one rfl (One_range (ek := (fun s : ByteArray => Value.string s)) (c := (cSl cStr)) (agg := false) (d := 123) (t := 126) (kt := 9) (et := 33) (x := (.tmp 122)) kr rfl (ev (.map (some b3))) kr st r11 ?_)
     clear st
     intro b13 w33 st hi1
     refine WO_et rfl (W_block ?_)
     obtain ⟨PKu5, hPKu5, hr⟩ := LoopP.start hr
     refine W_cut (.exit 5) (fun L' w' => ∃ (o6 : (List (Int × ByteArray × ByteArray × ByteArray))) (a16 : Option Addr) (c16 : Nat) (T10 : List Value) (sn1 : Array Nat) (rem1 : List (ByteArray × List ByteArray)) (m19 : Mem), PKu5 o6 ∧ L' = [(6, .slice a16 (List.length o6) c16)] ∧ m.le m19 ∧ St m19 (mpiece (some b3) es5 ck5 :: opc a16 (acellsM (fun x : Int × ByteArray × ByteArray × ByteArray => ([.int .i64 x.1, .string x.2.1, .string x.2.2.1, .string x.2.2.2] : List Value)) o6 T10) 72 :: itpiece b13 (some b3) ck5 sn1 :: own) w' ∧ MapQ (fun s : ByteArray => Value.string s) (cSl cStr) false m19 (some b3) es5 ck5 o4.2 ∧ OAS a16 (List.length o6) c16 4 T10 ∧ ItR (fun s : ByteArray => Value.string s) (cSl cStr) false m19 es5 sn1 rem1) ?_ ?_
     ·clear hr st
      rintro _ w34 ⟨o6, a16, c16, T10, sn1, rem1, m19, hPou5, rfl, hm, st, r11, hs10, hi2⟩
      have hr := hPKu5 _ hPou5
      clear hPou5 hPKu5
      try dsimp only at hr
      refine X_block_eq ?_
      refine X_then ?_
      refine W_sr (WO_seg 1 [(140, .slice a16 (List.length o6) c16)] kr kr ?_)
      replace ⟨y5, hx19, hr⟩ := bindS hr
      have st := st.front1
      refine WO_one rfl (One_fn 141 77 #[.slice a16 (List.length o6) c16, .func (.func 78) #[] #[]] kr rfl ?_)
      refine (slices_SortFunc_api_Change_api_Change_own_filediff_Diff_1 st hs10 rfl hx19).mono ?_
      clear st
      rintro _ w42 ⟨rfl, st⟩
      refine ⟨_, rfl, ?_⟩
      have hn1 := ((slices_SortFunc_api_Change_api_Change_len_filediff_Diff_1 hx19).trans rfl)
      refine WO_end rfl ?_
      have st := st.front2
      have st := st.tail
      refine X_then ?_
      refine W_sr (WO_seg 3 [(4, .slice a16 (List.length o6) c16), (5, .int .i64 0)] kr kr ?_)
      refine WO_et rfl (W_ret ?_)
      obtain rfl := Option.some.inj hr
      obtain ⟨m25, hle14, st, r23⟩ := St.freezeM (c := (cPair (cInt .i64) (cPair cStr (cPair cStr cStr)))) (f := (fun x : Int × ByteArray × ByteArray × ByteArray => ([.int .i64 x.1, .string x.2.1, .string x.2.2.1, .string x.2.2.2] : List Value))) st hs10 hn1 (fun _ => rfl) (fun _ x => ⟨_, _, rfl, rfl, ⟨_, _, rfl, rfl, ⟨_, _, rfl, rfl, rfl⟩⟩⟩)
      have hm := Mem.le_trans hm hle14
      have r11 := r11.mono hle14
      refine X_env [(4, .slice a16 (List.length y5) c16), (5, .int .i64 0)] (by (try simp only [hn1]); kernel_rfl) ?_
      refine X_ret [.tmp 4, .tmp 5] [.slice a16 (List.length y5) c16, .int .i64 0] rfl (ResAll.cons (ResAt.tmp kr) (ResAll.cons (ResAt.tmp kr) ResAll.nil)) ?_
      have st := st.front1
      have st := st.tail
      exact ⟨a16, c16, m25, rfl, hm, st, r23⟩
     intro K5_u5
     have st := st.front2.front2
     refine W_env _ kr (W_loop (fun k3 L' w' => ∃ (s3 : (List (Int × ByteArray × ByteArray × ByteArray))) (a17 : Option Addr) (c17 : Nat) (T11 : List Value) (sn2 : Array Nat) (rem2 : List (ByteArray × List ByteArray)) (m20 : Mem), LoopP (filediff_Diff_L3 N) rem2 s3 PKu5 k3 ∧ L' = [(6, .slice a17 (List.length s3) c17), (123, .pointer (some ⟨b13, 0, none⟩))] ∧ m.le m20 ∧ St m20 (mpiece (some b3) es5 ck5 :: opc a17 (acellsM (fun x : Int × ByteArray × ByteArray × ByteArray => ([.int .i64 x.1, .string x.2.1, .string x.2.2.1, .string x.2.2.2] : List Value)) s3 T11) 72 :: itpiece b13 (some b3) ck5 sn2 :: own) w' ∧ MapQ (fun s : ByteArray => Value.string s) (cSl cStr) false m20 (some b3) es5 ck5 o4.2 ∧ OAS a17 (List.length s3) c17 4 T11 ∧ ItR (fun s : ByteArray => Value.string s) (cSl cStr) false m20 es5 sn2 rem2) (List.length (Option.getD o4.2 []) + 1) ⟨o4.1, a9, c9, T5, #[], (Option.getD o4.2 []), m13, hr, rfl, hm, st, r11, hs5, hi1⟩ ?_)
     clear st hr
     rintro k3 _ w35 ⟨s3, a17, c17, T11, sn2, rem2, m20, hL, rfl, hm, st, r11, hs11, hi3⟩
     rcases k3 with _ | k3
     ·exact LoopP.zero hL
     ·refine W_sr ?_
      have st := st.front2
      refine WO_one rfl (One_next (ek := (fun s : ByteArray => Value.string s)) (c := (cSl cStr)) (agg := false) (d := 124) (x := (.tmp 123)) kr rfl (ev (.pointer (some ⟨b13, 0, none⟩))) st r11 hi3 ?_ ?_)
      ·intro hx15 w36 st
       obtain ⟨qu5, hr, hSu5, hBu5⟩ := hL.nil hx15
       clear hL
       unfold filediff_Diff_L3 at hr
       dsimp only at hr
       refine WO_seg 1 [(125, .bool false)] kr kr ?_
       refine WO_et rfl (W_seq ?_)
       refine W_cond false kr (fun h => Bool.noConfusion h) ?_
       intro _
       refine W_exit ?_
       refine X_then_exit ?_
       obtain rfl := Option.some.inj hr
       have ho := hBu5 _ rfl
       have st := st.front2.front2
       refine X_then_exit ?_
       exact X_env _ kr (K5_u5 _ _ ⟨s3, a17, c17, T11, sn2, rem2, m20, ho, rfl, hm, st, r11, hs11, hi3⟩)
      ·rintro kv1 rem3 sn3 cs5 w37 hx16 ⟨a18, c18, rfl, r20⟩ st hi4 he1
       obtain ⟨qu5, hr, hSu5, hBu5⟩ := hL.cons hx16
       clear hL
       unfold filediff_Diff_L3 at hr
       dsimp only at hr
       refine WO_seg 1 [(125, .bool true)] kr kr ?_
       refine WO_et rfl (W_seq ?_)
       refine W_cond true kr ?_ (fun h => Bool.noConfusion h)
       intro _
       refine W_skip ?_
       refine X_then ?_
       refine W_block ?_
       refine W_sr ?_
       have st := st.front1.front1
       refine WO_one rfl (One_entry (ek := (fun s : ByteArray => Value.string s)) (c := (cSl cStr)) (agg := false) (d := 126) (x := (.tmp 123)) (K := .string kv1.1) (V := .slice a18 (List.length kv1.2) c18) kr rfl (ev (.pointer (some ⟨b13, 0, none⟩))) st r11 he1 ?_)
       refine WO_seg 2 [(18, .slice a18 (List.length kv1.2) c18)] kr kr ?_
       refine WO_et rfl (W_sr ?_)
       refine WO_seg 3 [(128, .slice a18 (List.length kv1.2) c18), (129, .int .i64 (List.length kv1.2 : Int)), (130, .int .i64 0)] kr kr ?_
       refine WO_et rfl (W_block ?_)
       replace ⟨out4, hr, hrKu6⟩ := bindS hr
       refine W_cut (.exit 7) (fun L' w' => ∃ (o7 : (List (Int × ByteArray × ByteArray × ByteArray))) (a19 : Option Addr) (c19 : Nat) (T12 : List Value) (m21 : Mem), o7 = out4 ∧ L' = [(6, .slice a19 (List.length o7) c19), (123, .pointer (some ⟨b13, 0, none⟩))] ∧ m.le m21 ∧ St m21 (mpiece (some b3) es5 ck5 :: opc a19 (acellsM (fun x : Int × ByteArray × ByteArray × ByteArray => ([.int .i64 x.1, .string x.2.1, .string x.2.2.1, .string x.2.2.2] : List Value)) o7 T12) 72 :: itpiece b13 (some b3) ck5 sn3 :: own) w' ∧ MapQ (fun s : ByteArray => Value.string s) (cSl cStr) false m21 (some b3) es5 ck5 o4.2 ∧ OAS a19 (List.length o7) c19 4 T12 ∧ ItR (fun s : ByteArray => Value.string s) (cSl cStr) false m21 es5 sn3 rem3) ?_ ?_
       ·clear hr st
        rintro _ w38 ⟨o7, a19, c19, T12, m21, rfl, rfl, hm, st, r11, hs12, hi4⟩
        have hr := hrKu6
        clear hrKu6
        refine X_block_eq ?_
        refine X_block ?_
        obtain rfl := Option.some.inj hr
        have hL := hSu5 _ rfl
        have st := st.front2.front2.front2
        exact X_env _ kr (X_round k3 (Nat.lt_succ_self _) ⟨o7, a19, c19, T12, sn3, rem3, m21, hL, rfl, hm, st, r11, hs12, hi4⟩)
       intro K7_u6
       clear hrKu6
       have st := st.front2.front2
       refine W_env _ kr (W_loop (fun k4 L' w' => ∃ (s4 : (List (Int × ByteArray × ByteArray × ByteArray)) × Int) (a20 : Option Addr) (c20 : Nat) (T13 : List Value) (m22 : Mem), loopM (filediff_Diff_L4 N kv1) k4 s4 = some out4 ∧ L' = [(6, .slice a20 (List.length s4.1) c20), (123, .pointer (some ⟨b13, 0, none⟩)), (128, .slice a18 (List.length kv1.2) c18), (129, .int .i64 (List.length kv1.2 : Int)), (130, .int .i64 s4.2)] ∧ m.le m22 ∧ St m22 (mpiece (some b3) es5 ck5 :: opc a20 (acellsM (fun x : Int × ByteArray × ByteArray × ByteArray => ([.int .i64 x.1, .string x.2.1, .string x.2.2.1, .string x.2.2.2] : List Value)) s4.1 T13) 72 :: itpiece b13 (some b3) ck5 sn3 :: own) w' ∧ RepS cStr m22 a18 c18 kv1.2 ∧ MapQ (fun s : ByteArray => Value.string s) (cSl cStr) false m22 (some b3) es5 ck5 o4.2 ∧ OAS a20 (List.length s4.1) c20 4 T13 ∧ ItR (fun s : ByteArray => Value.string s) (cSl cStr) false m22 es5 sn3 rem3) N ⟨(s3, 0), a17, c17, T11, m20, hr, rfl, hm, st, r20, r11, hs11, hi4⟩ ?_)
       clear st hr
       rintro k4 _ w39 ⟨s4, a20, c20, T13, m22, hL, rfl, hm, st, r20, r11, hs13, hi4⟩
       rcases k4 with _ | k4
       ·exact loopM_zero hL
       ·obtain ⟨qu6, hr, hSu6, hBu6⟩ := loopM_succ hL
        clear hL
        unfold filediff_Diff_L4 at hr
        refine W_sr (WO_seg 1 [(131, .bool (decide (s4.2 < (List.length kv1.2 : Int))))] kr kr ?_)
        refine WO_et rfl (W_seq ?_)
        refine W_cond (decide (s4.2 < (List.length kv1.2 : Int))) kr ?_ ?_
        ·intro hc
         rw [if_pos hc] at hr
         refine W_skip ?_
         refine X_then ?_
         refine W_seq ?_
         refine W_block ?_
         refine W_sr ?_
         replace ⟨x4, hx17, hr⟩ := bindS hr
         refine WO_one rfl (One_index (d := 132) (t := 33) (e := 9) (x := (.tmp 128)) (y := (.tmp 130)) cStr kr rfl (ev (.slice a18 (List.length kv1.2) c18)) (ev (.int .i64 s4.2)) kr r20 hx17 ?_)
         rintro b14 f4 cs6 rfl hq4
         refine WO_one rfl (One_load_row (d := 133) (t := 9) (x := (.tmp 132)) (.string x4) kr rfl (ev (.pointer (some ⟨b14, f4, none⟩))) st hq4 kr ?_)
         refine WO_seg 1 [(20, .string x4)] kr kr ?_
         refine WO_et rfl (W_region ?_)
         refine WO_seg 3 [(134, .slice a20 (List.length s4.1) c20), (136, .agg #[.int .i64 2, .string x4, .string (⟨#[]⟩ : ByteArray), .string (⟨#[]⟩ : ByteArray)])] kr kr ?_
         refine WO_one rfl (One_buildSlice (d := 137) (t := 58) (e := 72) (len := 1) (parts := #[(0, (.tmp 136))]) (cPair (cInt .i64) (cPair cStr (cPair cStr cStr))) (xs := [(2, x4, (⟨#[]⟩ : ByteArray), (⟨#[]⟩ : ByteArray))]) [.int .i64 2, .string x4, .string (⟨#[]⟩ : ByteArray), .string (⟨#[]⟩ : ByteArray)] kr rfl (fun _ => buildCells_run kr _) rfl rfl st ⟨[.int .i64 2, .string x4, .string (⟨#[]⟩ : ByteArray), .string (⟨#[]⟩ : ByteArray)], _, rfl, ⟨_, _, rfl, rfl, ⟨_, _, rfl, rfl, ⟨_, _, rfl, rfl, rfl⟩⟩⟩, rfl⟩ ?_)
         clear st
         intro b15 m23 w40 hle12 st r21
         have hm := Mem.le_trans hm hle12
         have r20 := r20.mono hle12
         have r11 := r11.mono hle12
         have hi4 := hi4.mono hle12
         have st := st.front2
         replace ⟨l6, hx18, hr⟩ := bindS hr
         refine WO_one rfl (One_appendM (d := 138) (t := 58) (u := 58) (e := 72) (by_ := 56) (x := (.tmp 134)) (y := (.tmp 137)) (c := (cPair (cInt .i64) (cPair cStr (cPair cStr cStr)))) (f := (fun x : Int × ByteArray × ByteArray × ByteArray => ([.int .i64 x.1, .string x.2.1, .string x.2.2.1, .string x.2.2.2] : List Value))) (l := s4.1) (fun _ _ _ h => by obtain ⟨_, _, rfl, rfl, ⟨_, _, rfl, rfl, ⟨_, _, rfl, rfl, rfl⟩⟩⟩ := h; rfl) (fun _ => rfl) kr rfl (ev (.slice a20 (List.length s4.1) c20)) (ev (.slice (some ⟨b15, 0, none⟩) (List.length ([(2, x4, (⟨#[]⟩ : ByteArray), (⟨#[]⟩ : ByteArray))])) 1)) st hs13 rfl kr (.inl kr) r21.src hx18 ?_)
         clear st
         intro a21 c21 T14 w41 hs14 st
         refine WO_seg 1 [(6, .slice a21 (List.length l6) c21)] kr kr ?_
         refine WO_end rfl ?_
         have st := st.front1
         have st := st.tail
         refine X_block ?_
         refine X_then ?_
         refine W_region ?_
         refine WO_seg 2 [(130, .int .i64 (IntKind.wrap .i64 (s4.2 + 1)))] kr kr ?_
         refine WO_end rfl ?_
         obtain rfl := Option.some.inj hr
         have hL := hSu6 _ rfl
         have st := st.front2.front1.front2
         exact X_env _ kr (X_round k4 (Nat.lt_succ_self _) ⟨(l6, IntKind.wrap .i64 (s4.2 + 1)), a21, c21, T14, m23, hL, rfl, hm, st, r20, r11, hs14, hi4⟩)
        ·intro hc
         rw [if_neg (not_true hc)] at hr
         refine W_exit ?_
         refine X_then_exit ?_
         obtain rfl := Option.some.inj hr
         have ho := hBu6 _ rfl
         have st := st.front2.front2.front2
         refine X_then_exit ?_
         exact X_env _ kr (K7_u6 _ _ ⟨s4.1, a20, c20, T13, m22, ho, rfl, hm, st, r11, hs13, hi4⟩)
    intro K3_u3
    clear hrKu3
    have st := st.front1.front1
    refine W_env _ kr (W_loop (fun k2 L' w' => ∃ (s2 : (List (Int × ByteArray × ByteArray × ByteArray)) × Int × (Option (List (ByteArray × List ByteArray)))) (a10 : Option Addr) (c10 : Nat) (T6 : List Value) (es6 : Array MapEntry) (ck6 : Nat) (m14 : Mem), loopM (filediff_Diff_L2 N p0 p1) k2 s2 = some out2 ∧ L' = [(2, .pointer (some ⟨b1, 0, none⟩)), (6, .slice a10 (List.length s2.1) c10), (7, .map (some b3)), (72, .slice a2 (List.length p1) c2), (73, .int .i64 (List.length p1 : Int)), (74, .int .i64 s2.2.1)] ∧ m.le m14 ∧ St m14 (mpiece (some b3) es6 ck6 :: opc a10 (acellsM (fun x : Int × ByteArray × ByteArray × ByteArray => ([.int .i64 x.1, .string x.2.1, .string x.2.2.1, .string x.2.2.2] : List Value)) s2.1 T6) 72 :: own) w' ∧ MRow m14 b1 0 [.slice a1 (List.length p0) c1] ∧ RepS (cPair cStr cStr) m14 a1 c1 p0 ∧ RepS (cPair cStr cStr) m14 a2 c2 p1 ∧ MapQ (fun s : ByteArray => Value.string s) (cSl cStr) false m14 (some b3) es6 ck6 s2.2.2 ∧ OAS a10 (List.length s2.1) c10 4 T6) N ⟨(o2.1, 0, o2.2), a3, c3, T1, es1, ck1, m6, hr, rfl, hm, st, hb1, r1, r2, r3, hs1⟩ ?_)
    clear st hr
    rintro k2 _ w20 ⟨s2, a10, c10, T6, es6, ck6, m14, hL, rfl, hm, st, hb1, r1, r2, r12, hs6⟩
    rcases k2 with _ | k2
    ·exact loopM_zero hL
    ·obtain ⟨qu3, hr, hSu3, hBu3⟩ := loopM_succ hL
     clear hL
     unfold filediff_Diff_L2 at hr
     refine W_sr (WO_seg 1 [(75, .bool (decide (s2.2.1 < (List.length p1 : Int))))] kr kr ?_)
     refine WO_et rfl (W_seq ?_)
     refine W_cond (decide (s2.2.1 < (List.length p1 : Int))) kr ?_ ?_
     ·intro hc
      rw [if_pos hc] at hr
      refine W_skip ?_
      refine X_then ?_
      refine W_seq ?_
      replace ⟨o5, hr, hrKu4⟩ := bindS hr
      refine W_cut .normal (fun L' w' => ∃ (a11 : Option Addr) (c11 : Nat) (T7 : List Value) (es7 : Array MapEntry) (ck7 : Nat) (m15 : Mem), L' = [(2, .pointer (some ⟨b1, 0, none⟩)), (6, .slice a11 (List.length o5.1) c11), (7, .map (some b3)), (72, .slice a2 (List.length p1) c2), (73, .int .i64 (List.length p1 : Int)), (74, .int .i64 s2.2.1)] ∧ m.le m15 ∧ St m15 (mpiece (some b3) es7 ck7 :: opc a11 (acellsM (fun x : Int × ByteArray × ByteArray × ByteArray => ([.int .i64 x.1, .string x.2.1, .string x.2.2.1, .string x.2.2.2] : List Value)) o5.1 T7) 72 :: own) w' ∧ MRow m15 b1 0 [.slice a1 (List.length p0) c1] ∧ RepS (cPair cStr cStr) m15 a1 c1 p0 ∧ RepS (cPair cStr cStr) m15 a2 c2 p1 ∧ MapQ (fun s : ByteArray => Value.string s) (cSl cStr) false m15 (some b3) es7 ck7 o5.2 ∧ OAS a11 (List.length o5.1) c11 4 T7) ?_ ?_
      ·clear hr st
       have hr := hrKu4
       clear hrKu4
       rintro _ w21 ⟨a11, c11, T7, es7, ck7, m15, rfl, hm, st, hb1, r1, r2, r13, hs7⟩
       refine X_then ?_
       refine W_region ?_
       refine WO_seg 2 [(74, .int .i64 (IntKind.wrap .i64 (s2.2.1 + 1)))] kr kr ?_
       refine WO_end rfl ?_
       obtain rfl := Option.some.inj hr
       have hL := hSu3 _ rfl
       have st := st.front1.front1
       exact X_env _ kr (X_round k2 (Nat.lt_succ_self _) ⟨(o5.1, IntKind.wrap .i64 (s2.2.1 + 1), o5.2), a11, c11, T7, es7, ck7, m15, hL, rfl, hm, st, hb1, r1, r2, r13, hs7⟩)
      ·intro Ku4
       clear hrKu4
       refine W_block ?_
       refine W_sr ?_
       replace ⟨x2, hx8, hr⟩ := bindS hr
       refine WO_one rfl (One_index (d := 76) (t := 23) (e := 74) (x := (.tmp 72)) (y := (.tmp 74)) (cPair cStr cStr) kr rfl (ev (.slice a2 (List.length p1) c2)) (ev (.int .i64 s2.2.1)) kr r2 hx8 ?_)
       rintro b8 f2 cs2 ⟨_, _, rfl, rfl, rfl⟩ hq2
       refine WO_one rfl (One_load_row (d := 77) (t := 74) (x := (.tmp 76)) (.agg #[.string x2.1, .string x2.2]) kr rfl (ev (.pointer (some ⟨b8, f2, none⟩))) st hq2 kr ?_)
       refine WO_one rfl (One_alloc (d := 13) (e := 74) (.agg #[.string (⟨#[]⟩ : ByteArray), .string (⟨#[]⟩ : ByteArray)]) kr rfl kr st ?_)
       clear st
       intro b9 w22 st
       refine WO_one rfl (One_store (t := 74) (x := (.tmp 13)) (y := (.tmp 77)) (v := .agg #[.string x2.1, .string x2.2]) (c' := #[.string x2.1, .string x2.2]) kr (ev (.pointer (some ⟨b9, 0, none⟩))) (ev (.agg #[.string x2.1, .string x2.2])) st kr kr ?_)
       clear st
       intro w23 st
       refine WO_et rfl (W_seq ?_)
       refine W_sr (WO_one rfl (One_load_row (d := 79) (t := 25) (x := (.tmp 2)) (.agg #[.slice a1 (List.length p0) c1]) kr rfl (ev (.pointer (some ⟨b1, 0, none⟩))) st hb1 kr ?_))
       refine WO_seg 1 [(80, .pointer (some ⟨b9, 0, none⟩))] kr kr ?_
       refine WO_one rfl (One_load_own (d := 81) (t := 9) (x := (.tmp 80)) (.string x2.1) kr rfl (ev (.pointer (some ⟨b9, 0, none⟩))) st.head kr ?_)
       replace ⟨y4, hx9, hr⟩ := bindS hr
       refine WO_one rfl (One_fn 82 76 #[.agg #[.slice a1 (List.length p0) c1], .string x2.1] kr rfl ?_)
       refine (revision_Find_ok st r1 hx9).mono ?_
       clear st
       rintro _ w24 ⟨m16, rfl, hle9, st⟩
       refine ⟨_, rfl, ?_⟩
       have hm := Mem.le_trans hm hle9
       have hb1 := hb1.mono hle9
       have r1 := r1.mono hle9
       have r2 := r2.mono hle9
       have r12 := r12.mono hle9
       refine WO_seg 5 [(15, .bool y4.2)] kr kr ?_
       refine WO_et rfl (W_sr ?_)
       refine WO_seg 1 [(85, .bool y4.2)] kr kr ?_
       refine WO_et rfl (W_cond y4.2 kr ?_ ?_)
       ·intro hc
        rw [if_pos hc] at hr
        refine W_exit ?_
        refine X_then_exit ?_
        refine X_block_eq ?_
        obtain rfl := Option.some.inj hr
        have st := st.tail
        have st := st.front1.front1
        exact X_env _ kr (Ku4 _ _ ⟨a10, c10, T6, es6, ck6, m16, rfl, hm, st, hb1, r1, r2, r12, hs6⟩)
       ·intro hc
        rw [if_neg (not_true hc)] at hr
        refine W_skip ?_
        refine X_then ?_
        refine W_sr (WO_seg 2 [(86, .map (some b3)), (87, .pointer (some ⟨b9, 1, none⟩))] kr kr ?_)
        refine WO_one rfl (One_load_own (d := 88) (t := 9) (x := (.tmp 87)) (.string x2.2) kr rfl (ev (.pointer (some ⟨b9, 1, none⟩))) st.head kr ?_)
        refine WO_one rfl (One_lookup (ek := (fun s : ByteArray => Value.string s)) (c := (cSl cStr)) (agg := false) (k := x2.2) (zx := ([] : List (ByteArray))) (zcs := [.slice none (List.length ([] : List (ByteArray))) 0]) (z := (.slice none (List.length ([] : List (ByteArray))) 0)) (kt := 9) (et := 33) (d := 89) (t := 126) (x := (.tmp 86)) (y := (.tmp 88)) (ok := false) kr rfl (ev (.map (some b3))) (ev (.string x2.2)) kr (keyStr kr) st.tail.head r12 (cSl_mk (RepS.nil _ _)) rfl ?_)
        rintro cs3 ⟨a12, c12, rfl, r14⟩
        refine WO_seg 1 [(16, .slice a12 (List.length ((mgetQ s2.2.2 x2.2).getD ([] : List (ByteArray)))) c12)] kr kr ?_
        refine WO_et rfl (W_seq ?_)
        refine W_sr (WO_seg 3 [(92, .bool ((List.length ((mgetQ s2.2.2 x2.2).getD ([] : List (ByteArray))) : Int) == 0))] kr kr ?_)
        refine WO_et rfl (W_cond ((List.length ((mgetQ s2.2.2 x2.2).getD ([] : List (ByteArray))) : Int) == 0) kr ?_ ?_)
        ·intro hc
         rw [if_pos hc] at hr
         refine W_sr (WO_seg 2 [(93, .slice a10 (List.length s2.1) c10), (94, .pointer (some ⟨b9, 0, none⟩))] kr kr ?_)
         refine WO_one rfl (One_load_own (d := 95) (t := 9) (x := (.tmp 94)) (.string x2.1) kr rfl (ev (.pointer (some ⟨b9, 0, none⟩))) st.head kr ?_)
         refine WO_seg 1 [(96, .pointer (some ⟨b9, 1, none⟩))] kr kr ?_
         refine WO_one rfl (One_load_own (d := 97) (t := 9) (x := (.tmp 96)) (.string x2.2) kr rfl (ev (.pointer (some ⟨b9, 1, none⟩))) st.head kr ?_)
         refine WO_seg 1 [(98, .agg #[.int .i64 1, .string x2.1, .string (⟨#[]⟩ : ByteArray), .string x2.2])] kr kr ?_
         refine WO_one rfl (One_buildSlice (d := 99) (t := 58) (e := 72) (len := 1) (parts := #[(0, (.tmp 98))]) (cPair (cInt .i64) (cPair cStr (cPair cStr cStr))) (xs := [(1, x2.1, (⟨#[]⟩ : ByteArray), x2.2)]) [.int .i64 1, .string x2.1, .string (⟨#[]⟩ : ByteArray), .string x2.2] kr rfl (fun _ => buildCells_run kr _) rfl rfl st ⟨[.int .i64 1, .string x2.1, .string (⟨#[]⟩ : ByteArray), .string x2.2], _, rfl, ⟨_, _, rfl, rfl, ⟨_, _, rfl, rfl, ⟨_, _, rfl, rfl, rfl⟩⟩⟩, rfl⟩ ?_)
         clear st
         intro b10 m17 w25 hle10 st r15
         have hm := Mem.le_trans hm hle10
         have hb1 := hb1.mono hle10
         have r1 := r1.mono hle10
         have r2 := r2.mono hle10
         have r14 := r14.mono hle10
         have r12 := r12.mono hle10
         have st := st.front3
         replace ⟨l3, hx10, hr⟩ := bindS hr
         refine WO_one rfl (One_appendM (d := 100) (t := 58) (u := 58) (e := 72) (by_ := 56) (x := (.tmp 93)) (y := (.tmp 99)) (c := (cPair (cInt .i64) (cPair cStr (cPair cStr cStr)))) (f := (fun x : Int × ByteArray × ByteArray × ByteArray => ([.int .i64 x.1, .string x.2.1, .string x.2.2.1, .string x.2.2.2] : List Value))) (l := s2.1) (fun _ _ _ h => by obtain ⟨_, _, rfl, rfl, ⟨_, _, rfl, rfl, ⟨_, _, rfl, rfl, rfl⟩⟩⟩ := h; rfl) (fun _ => rfl) kr rfl (ev (.slice a10 (List.length s2.1) c10)) (ev (.slice (some ⟨b10, 0, none⟩) (List.length ([(1, x2.1, (⟨#[]⟩ : ByteArray), x2.2)])) 1)) st hs6 rfl kr (.inl kr) r15.src hx10 ?_)
         clear st
         intro a13 c13 T8 w26 hs8 st
         refine WO_seg 1 [(6, .slice a13 (List.length l3) c13)] kr kr ?_
         refine WO_end rfl ?_
         have st := st.front1
         have st := st.tail
         refine X_then ?_
         refine W_exit ?_
         refine X_then_exit ?_
         refine X_block_eq ?_
         obtain rfl := Option.some.inj hr
         have st := st.front1
         have st := st.tail
         have st := st.front1
         exact X_env _ kr (Ku4 _ _ ⟨a13, c13, T8, es6, ck6, m17, rfl, hm, st, hb1, r1, r2, r12, hs8⟩)
        ·intro hc
         rw [if_neg (not_true hc)] at hr
         refine W_skip ?_
         refine X_then ?_
         refine W_seq ?_
         refine W_draw [(10, fun w' => Inv m16 w' ∧ Piece.holds m16 w' (.blk b9 (.cells #[.string x2.1, .string x2.2] 74 (0, 0))) ∧ True)] kr st ?_
         clear st
         intro w27 _ st
         have hmS2 := m16.le_refl
         refine ⟨⟨.inr ⟨Inv.anti st.inv hmS2, Piece.holds_anti st.head hmS2, trivial⟩, trivial⟩, ?_⟩
         refine WA_pure 0 101 (.slice a10 (List.length s2.1) c10) kr rfl kr (.head _) (QP_then (QP_block (QP_then (QP_then (QP_block (QP_then QP_body)))))) ?_
         refine WA_pure 1 102 (.pointer (some ⟨b9, 0, none⟩)) kr rfl kr (.head _) (QP_then (QP_block (QP_then (QP_then (QP_block (QP_then QP_body)))))) ?_
         refine WA_load_own (t := 9) (x := (.tmp 102)) 2 103 (.string x2.1) kr rfl kr (.head _) (QP_then (QP_block (QP_then (QP_then (QP_block (QP_then QP_body)))))) (fun _ h => h.2.1) (ev (.pointer (some ⟨b9, 0, none⟩))) kr ?_
         refine WA_pure 3 104 (.slice a12 (List.length ((mgetQ s2.2.2 x2.2).getD ([] : List (ByteArray)))) c12) kr rfl kr (.head _) (QP_then (QP_block (QP_then (QP_then (QP_block (QP_then QP_body)))))) ?_
         replace ⟨x3, hx11, hr⟩ := bindS hr
         refine WA_index (t := 33) (e := 9) (x := (.tmp 104)) (y := (.const (.int .i64 0))) 4 105 cStr kr rfl kr (.head _) (QP_then (QP_block (QP_then (QP_then (QP_block (QP_then QP_body)))))) (ev (.slice a12 (List.length ((mgetQ s2.2.2 x2.2).getD ([] : List (ByteArray)))) c12)) (ev (.int .i64 0)) kr r14 hx11 ?_
         rintro b11 f3 cs4 rfl hq3
         refine WA_load_row (t := 9) (x := (.tmp 105)) 5 106 (.string x3) kr rfl kr (.head _) (QP_then (QP_block (QP_then (QP_then (QP_block (QP_then QP_body)))))) (fun _ h => h.1) (ev (.pointer (some ⟨b11, f3, none⟩))) hq3 kr ?_
         refine WA_pure 6 107 (.agg #[.int .i64 4, .string x2.1, .string x3, .string (⟨#[]⟩ : ByteArray)]) kr rfl kr (.head _) (QP_then (QP_block (QP_then (QP_then (QP_block (QP_then QP_body)))))) ?_
         refine WA_one 7 kr  (One_buildSlice (d := 108) (t := 58) (e := 72) (len := 1) (parts := #[(0, (.tmp 107))]) (cPair (cInt .i64) (cPair cStr (cPair cStr cStr))) (xs := [(4, x2.1, x3, (⟨#[]⟩ : ByteArray))]) [.int .i64 4, .string x2.1, .string x3, .string (⟨#[]⟩ : ByteArray)] kr rfl (fun _ => buildCells_run kr _) rfl rfl st ⟨[.int .i64 4, .string x2.1, .string x3, .string (⟨#[]⟩ : ByteArray)], _, rfl, ⟨_, _, rfl, rfl, ⟨_, _, rfl, rfl, ⟨_, _, rfl, rfl, rfl⟩⟩⟩, rfl⟩ ?_)
         clear st
         intro b12 m18 w28 hle11 st r16
         have hm := Mem.le_trans hm hle11
         have hb1 := hb1.mono hle11
         have r1 := r1.mono hle11
         have r2 := r2.mono hle11
         have r14 := r14.mono hle11
         have hq3 := hq3.mono hle11
         have r12 := r12.mono hle11
         have hmS2 := Mem.le_trans hmS2 hle11
         refine ⟨⟨.inr ⟨Inv.anti st.inv hmS2, Piece.holds_anti st.tail.head hmS2, trivial⟩, trivial⟩, ?_⟩
         have st := st.front3
         replace ⟨l4, hx12, hr⟩ := bindS hr
         refine WA_one 8 kr  (One_appendM (d := 109) (t := 58) (u := 58) (e := 72) (by_ := 56) (x := (.tmp 101)) (y := (.tmp 108)) (c := (cPair (cInt .i64) (cPair cStr (cPair cStr cStr)))) (f := (fun x : Int × ByteArray × ByteArray × ByteArray => ([.int .i64 x.1, .string x.2.1, .string x.2.2.1, .string x.2.2.2] : List Value))) (l := s2.1) (fun _ _ _ h => by obtain ⟨_, _, rfl, rfl, ⟨_, _, rfl, rfl, ⟨_, _, rfl, rfl, rfl⟩⟩⟩ := h; rfl) (fun _ => rfl) kr rfl (ev (.slice a10 (List.length s2.1) c10)) (ev (.slice (some ⟨b12, 0, none⟩) (List.length ([(4, x2.1, x3, (⟨#[]⟩ : ByteArray))])) 1)) st hs6 rfl kr (.inl kr) r16.src hx12 ?_)
         clear st
         intro a14 c14 T9 w29 hs9 st
         refine ⟨⟨.inr ⟨Inv.anti st.inv hmS2, Piece.holds_anti st.tail.tail.head hmS2, trivial⟩, trivial⟩, ?_⟩
         refine WA_pure 9 6 (.slice a14 (List.length l4) c14) kr rfl kr (.head _) (QP_then (QP_block (QP_then (QP_then (QP_block (QP_then QP_body)))))) ?_
         refine WA_done kr ?_
         have st := st.front1
         have st := st.tail
         refine X_then ?_
         refine W_seq ?_
         refine W_draw [(6, fun w' => Inv m18 w' ∧ Piece.holds m18 w' (.blk b9 (.cells #[.string x2.1, .string x2.2] 74 (0, 0))) ∧ True)] kr st ?_
         clear st
         intro w30 _ st
         have hmS3 := m18.le_refl
         refine ⟨⟨.inr ⟨Inv.anti st.inv hmS3, Piece.holds_anti st.tail.head hmS3, trivial⟩, trivial⟩, ?_⟩
         refine WA_pure 0 110 (.map (some b3)) kr rfl kr (.head _) (QP_then (QP_block (QP_then (QP_then (QP_block (QP_then QP_body)))))) ?_
         refine WA_pure 1 111 (.pointer (some ⟨b9, 1, none⟩)) kr rfl kr (.head _) (QP_then (QP_block (QP_then (QP_then (QP_block (QP_then QP_body)))))) ?_
         refine WA_load_own (t := 9) (x := (.tmp 111)) 2 112 (.string x2.2) kr rfl kr (.head _) (QP_then (QP_block (QP_then (QP_then (QP_block (QP_then QP_body)))))) (fun _ h => h.2.1) (ev (.pointer (some ⟨b9, 1, none⟩))) kr ?_
         refine WA_pure 3 113 (.slice a12 (List.length ((mgetQ s2.2.2 x2.2).getD ([] : List (ByteArray)))) c12) kr rfl kr (.head _) (QP_then (QP_block (QP_then (QP_then (QP_block (QP_then QP_body)))))) ?_
         replace ⟨l5, hx13, hr⟩ := bindS hr
         refine WA_slice (t := 33) (e := 9) (x := (.tmp 113)) (lo := (some (.const (.int .i64 1)))) (hi := none) 4 114 cStr kr rfl kr (.head _) (QP_then (QP_block (QP_then (QP_then (QP_block (QP_then QP_body)))))) (ev (.slice a12 (List.length ((mgetQ s2.2.2 x2.2).getD ([] : List (ByteArray)))) c12)) kr r14 (.inr ⟨_, _, rfl, (ev (.int .i64 1))⟩) (.inl ⟨rfl, rfl⟩) hx13 ?_
         intro a15 c15 r17
         have st := st.front2
         replace ⟨mp2, hx14, hr⟩ := bindS hr
         refine WA_one 5 kr  (One_mapUpdate (ek := (fun s : ByteArray => Value.string s)) (c := (cSl cStr)) (agg := false) (k := x2.2) (yv := l5) (cs := [.slice a15 (List.length l5) c15]) (z := (.slice none (List.length ([] : List (ByteArray))) 0)) (v := (.slice a15 (List.length l5) c15)) (kt := 9) (et := 33) (t := 126) (x := (.tmp 110)) (y := (.tmp 112)) (u := (.tmp 114)) kr (ev (.map (some b3))) (ev (.string x2.2)) (ev (.slice a15 (List.length l5) c15)) kr (keyStr kr) st r12 (cSl_mk r17) rfl hx14 ?_)
         clear st
         intro es8 ck8 w31 st r18
         refine ⟨⟨.inr ⟨Inv.anti st.inv hmS3, Piece.holds_anti st.tail.tail.head hmS3, trivial⟩, trivial⟩, ?_⟩
         refine WA_done kr ?_
         refine X_then ?_
         refine W_sr (WO_seg 3 [(117, .bool ((List.length ((mgetQ s2.2.2 x2.2).getD ([] : List (ByteArray))) : Int) == 1))] kr kr ?_)
         refine WO_et rfl (W_cond ((List.length ((mgetQ s2.2.2 x2.2).getD ([] : List (ByteArray))) : Int) == 1) kr ?_ ?_)
         ·intro hc
          rw [if_pos hc] at hr
          refine W_region ?_
          refine WO_seg 2 [(118, .map (some b3)), (119, .pointer (some ⟨b9, 1, none⟩))] kr kr ?_
          refine WO_one rfl (One_load_own (d := 120) (t := 9) (x := (.tmp 119)) (.string x2.2) kr rfl (ev (.pointer (some ⟨b9, 1, none⟩))) st.tail.tail.head kr ?_)
          refine WO_one rfl (One_delete (ek := (fun s : ByteArray => Value.string s)) (c := (cSl cStr)) (agg := false) (k := x2.2) (z := (.slice none (List.length ([] : List (ByteArray))) 0)) (kt := 9) (et := 33) (t := 126) (t2 := 9) (x := (.tmp 118)) (y := (.tmp 120)) kr (ev (.map (some b3))) (ev (.string x2.2)) kr (keyStr kr) st r18 ?_)
          clear st
          intro es9 w32 st r19
          refine WO_end rfl ?_
          refine X_block ?_
          obtain rfl := Option.some.inj hr
          have st := st.front2
          have st := st.tail
          have st := st.front1.front1
          exact X_env _ kr (Ku4 _ _ ⟨a14, c14, T9, es9, ck8, m18, rfl, hm, st, hb1, r1, r2, r19, hs9⟩)
         ·intro hc
          rw [if_neg (not_true hc)] at hr
          refine W_skip ?_
          refine X_block ?_
          obtain rfl := Option.some.inj hr
          have st := st.front2
          have st := st.tail
          have st := st.front1.front1
          exact X_env _ kr (Ku4 _ _ ⟨a14, c14, T9, es8, ck8, m18, rfl, hm, st, hb1, r1, r2, r18, hs9⟩)
     ·intro hc
      rw [if_neg (not_true hc)] at hr
      refine W_exit ?_
      refine X_then_exit ?_
      obtain rfl := Option.some.inj hr
      have ho := hBu3 _ rfl
      have st := st.front1.front1
      refine X_then_exit ?_
      exact X_env _ kr (K3_u3 _ _ ⟨(s2.1, s2.2.2), a10, c10, T6, es6, ck6, m14, ho, rfl, hm, st, r12, hs6⟩)
   intro K0_u1
   clear hrKu1
   have st := st.front1
   refine W_env _ kr (W_loop (fun k1 L' w' => ∃ (s1 : (List (Int × ByteArray × ByteArray × ByteArray)) × Int × (Option (List (ByteArray × List ByteArray)))) (a4 : Option Addr) (c4 : Nat) (T2 : List Value) (es2 : Array MapEntry) (ck2 : Nat) (m7 : Mem), loopM (filediff_Diff_L1 N p0 p1) k1 s1 = some out1 ∧ L' = [(2, .pointer (some ⟨b1, 0, none⟩)), (3, .pointer (some ⟨b2, 0, none⟩)), (6, .slice a4 (List.length s1.1) c4), (7, .map (some b3)), (31, .slice a1 (List.length p0) c1), (32, .int .i64 (List.length p0 : Int)), (33, .int .i64 s1.2.1)] ∧ m.le m7 ∧ St m7 (mpiece (some b3) es2 ck2 :: opc a4 (acellsM (fun x : Int × ByteArray × ByteArray × ByteArray => ([.int .i64 x.1, .string x.2.1, .string x.2.2.1, .string x.2.2.2] : List Value)) s1.1 T2) 72 :: (roomsV 9 1 es2 ++ own)) w' ∧ MRow m7 b1 0 [.slice a1 (List.length p0) c1] ∧ RepS (cPair cStr cStr) m7 a1 c1 p0 ∧ MRow m7 b2 0 [.slice a2 (List.length p1) c2] ∧ RepS (cPair cStr cStr) m7 a2 c2 p1 ∧ MapQ (fun s : ByteArray => Value.string s) (cSl cStr) false m7 (some b3) es2 ck2 s1.2.2 ∧ OAS a4 (List.length s1.1) c4 4 T2) N ⟨(([] : List (Int × ByteArray × ByteArray × ByteArray)), 0, (some [] : Option (List (ByteArray × List ByteArray)))), none, 0, [], #[], 0, m3, hr, rfl, hm, st, hb1, r1, hb2, r2, (MapQ.new (fun s : ByteArray => Value.string s) (cSl cStr) false _ _), (OAS.nil 4)⟩ ?_)
   clear st hr
   rintro k1 _ w8 ⟨s1, a4, c4, T2, es2, ck2, m7, hL, rfl, hm, st, hb1, r1, hb2, r2, r4, hs2⟩
   rcases k1 with _ | k1
   ·exact loopM_zero hL
   ·obtain ⟨qu1, hr, hSu1, hBu1⟩ := loopM_succ hL
    clear hL
    unfold filediff_Diff_L1 at hr
    refine W_sr (WO_seg 1 [(34, .bool (decide (s1.2.1 < (List.length p0 : Int))))] kr kr ?_)
    refine WO_et rfl (W_seq ?_)
    refine W_cond (decide (s1.2.1 < (List.length p0 : Int))) kr ?_ ?_
    ·intro hc
     rw [if_pos hc] at hr
     refine W_skip ?_
     refine X_then ?_
     refine W_seq ?_
     replace ⟨o3, hr, hrKu2⟩ := bindS hr
     refine W_cut .normal (fun L' w' => ∃ (a5 : Option Addr) (c5 : Nat) (T3 : List Value) (es3 : Array MapEntry) (ck3 : Nat) (m8 : Mem), L' = [(2, .pointer (some ⟨b1, 0, none⟩)), (3, .pointer (some ⟨b2, 0, none⟩)), (6, .slice a5 (List.length o3.1) c5), (7, .map (some b3)), (31, .slice a1 (List.length p0) c1), (32, .int .i64 (List.length p0 : Int)), (33, .int .i64 s1.2.1)] ∧ m.le m8 ∧ St m8 (mpiece (some b3) es3 ck3 :: opc a5 (acellsM (fun x : Int × ByteArray × ByteArray × ByteArray => ([.int .i64 x.1, .string x.2.1, .string x.2.2.1, .string x.2.2.2] : List Value)) o3.1 T3) 72 :: (roomsV 9 1 es3 ++ own)) w' ∧ MRow m8 b1 0 [.slice a1 (List.length p0) c1] ∧ RepS (cPair cStr cStr) m8 a1 c1 p0 ∧ MRow m8 b2 0 [.slice a2 (List.length p1) c2] ∧ RepS (cPair cStr cStr) m8 a2 c2 p1 ∧ MapQ (fun s : ByteArray => Value.string s) (cSl cStr) false m8 (some b3) es3 ck3 o3.2 ∧ OAS a5 (List.length o3.1) c5 4 T3) ?_ ?_
     ·clear hr st
      have hr := hrKu2
      clear hrKu2
      rintro _ w9 ⟨a5, c5, T3, es3, ck3, m8, rfl, hm, st, hb1, r1, hb2, r2, r5, hs3⟩
      refine X_then ?_
      refine W_region ?_
      refine WO_seg 2 [(33, .int .i64 (IntKind.wrap .i64 (s1.2.1 + 1)))] kr kr ?_
      refine WO_end rfl ?_
      obtain rfl := Option.some.inj hr
      have hL := hSu1 _ rfl
      have st := st.front1.front1
      exact X_env _ kr (X_round k1 (Nat.lt_succ_self _) ⟨(o3.1, IntKind.wrap .i64 (s1.2.1 + 1), o3.2), a5, c5, T3, es3, ck3, m8, hL, rfl, hm, st, hb1, r1, hb2, r2, r5, hs3⟩)
     ·intro Ku2
      clear hrKu2
      refine W_block ?_
      refine W_sr ?_
      replace ⟨x1, hx3, hr⟩ := bindS hr
      refine WO_one rfl (One_index (d := 35) (t := 23) (e := 74) (x := (.tmp 31)) (y := (.tmp 33)) (cPair cStr cStr) kr rfl (ev (.slice a1 (List.length p0) c1)) (ev (.int .i64 s1.2.1)) kr r1 hx3 ?_)
      rintro b4 f1 cs1 ⟨_, _, rfl, rfl, rfl⟩ hq1
      refine WO_one rfl (One_load_row (d := 36) (t := 74) (x := (.tmp 35)) (.agg #[.string x1.1, .string x1.2]) kr rfl (ev (.pointer (some ⟨b4, f1, none⟩))) st hq1 kr ?_)
      refine WO_one rfl (One_alloc (d := 9) (e := 74) (.agg #[.string (⟨#[]⟩ : ByteArray), .string (⟨#[]⟩ : ByteArray)]) kr rfl kr st ?_)
      clear st
      intro b5 w10 st
      refine WO_one rfl (One_store (t := 74) (x := (.tmp 9)) (y := (.tmp 36)) (v := .agg #[.string x1.1, .string x1.2]) (c' := #[.string x1.1, .string x1.2]) kr (ev (.pointer (some ⟨b5, 0, none⟩))) (ev (.agg #[.string x1.1, .string x1.2])) st kr kr ?_)
      clear st
      intro w11 st
      refine WO_et rfl (W_sr ?_)
      refine WO_one rfl (One_load_row (d := 38) (t := 25) (x := (.tmp 3)) (.agg #[.slice a2 (List.length p1) c2]) kr rfl (ev (.pointer (some ⟨b2, 0, none⟩))) st hb2 kr ?_)
      refine WO_seg 1 [(39, .pointer (some ⟨b5, 0, none⟩))] kr kr ?_
      refine WO_one rfl (One_load_own (d := 40) (t := 9) (x := (.tmp 39)) (.string x1.1) kr rfl (ev (.pointer (some ⟨b5, 0, none⟩))) st.head kr ?_)
      replace ⟨y3, hx4, hr⟩ := bindS hr
      refine WO_one rfl (One_fn 41 76 #[.agg #[.slice a2 (List.length p1) c2], .string x1.1] kr rfl ?_)
      refine (revision_Find_ok st r2 hx4).mono ?_
      clear st
      rintro _ w12 ⟨m9, rfl, hle5, st⟩
      refine ⟨_, rfl, ?_⟩
      have hm := Mem.le_trans hm hle5
      have hb1 := hb1.mono hle5
      have r1 := r1.mono hle5
      have hb2 := hb2.mono hle5
      have r2 := r2.mono hle5
      have r4 := r4.mono hle5
      refine WO_seg 5 [(10, .string y3.1), (11, .bool y3.2)] kr kr ?_
      refine WO_et rfl (W_block ?_)
      refine W_sr (WO_seg 3 [(44, .bool (!y3.2))] kr kr ?_)
      refine WO_et rfl (W_cond (!y3.2) kr ?_ ?_)
      ·intro hc
       rw [if_pos hc] at hr
       refine W_draw [(12, fun w' => Inv m9 w' ∧ Piece.holds m9 w' (.blk b5 (.cells #[.string x1.1, .string x1.2] 74 (0, 0))) ∧ True)] kr st ?_
       clear st
       intro w13 _ st
       have hmS1 := m9.le_refl
       refine ⟨⟨.inr ⟨Inv.anti st.inv hmS1, Piece.holds_anti st.head hmS1, trivial⟩, trivial⟩, ?_⟩
       refine WA_pure 0 47 (.map (some b3)) kr rfl kr (.head _) (QP_block (QP_block (QP_then (QP_then (QP_block (QP_then QP_body)))))) ?_
       refine WA_pure 1 48 (.pointer (some ⟨b5, 1, none⟩)) kr rfl kr (.head _) (QP_block (QP_block (QP_then (QP_then (QP_block (QP_then QP_body)))))) ?_
       refine WA_load_own (t := 9) (x := (.tmp 48)) 2 49 (.string x1.2) kr rfl kr (.head _) (QP_block (QP_block (QP_then (QP_then (QP_block (QP_then QP_body)))))) (fun _ h => h.2.1) (ev (.pointer (some ⟨b5, 1, none⟩))) kr ?_
       refine WA_pure 3 50 (.map (some b3)) kr rfl kr (.head _) (QP_block (QP_block (QP_then (QP_then (QP_block (QP_then QP_body)))))) ?_
       refine WA_pure 4 51 (.pointer (some ⟨b5, 1, none⟩)) kr rfl kr (.head _) (QP_block (QP_block (QP_then (QP_then (QP_block (QP_then QP_body)))))) ?_
       refine WA_load_own (t := 9) (x := (.tmp 51)) 5 52 (.string x1.2) kr rfl kr (.head _) (QP_block (QP_block (QP_then (QP_then (QP_block (QP_then QP_body)))))) (fun _ h => h.2.1) (ev (.pointer (some ⟨b5, 1, none⟩))) kr ?_
       refine WA_pure 7 54 (.pointer (some ⟨b5, 0, none⟩)) kr rfl kr (.head _) (QP_block (QP_block (QP_then (QP_then (QP_block (QP_then QP_body)))))) ?_
       refine WA_load_own (t := 9) (x := (.tmp 54)) 8 55 (.string x1.1) kr rfl kr (.head _) (QP_block (QP_block (QP_then (QP_then (QP_block (QP_then QP_body)))))) (fun _ h => h.2.1) (ev (.pointer (some ⟨b5, 0, none⟩))) kr ?_
       refine WA_many [6, 9] kr (by simp) (all_two ?_ ?_)
       ·have st := st.front1
        refine One_lookupRL [.blk b5 (.cells #[.string x1.1, .string x1.2] 74 (0, 0)), opc a4 (acellsM (fun x : Int × ByteArray × ByteArray × ByteArray => ([.int .i64 x.1, .string x.2.1, .string x.2.2.1, .string x.2.2.2] : List Value)) s1.1 T2) 72] (z := .slice none 0 0) (ek := (fun s : ByteArray => Value.string s)) (c := cStr) (k := x1.2) (e := 9) (sz := 1) (kt := 9) (et := 33) (d := 53) (t := 126) (x := (.tmp 50)) (y := (.tmp 52)) kr rfl (ev (.map (some b3))) (ev (.string x1.2)) kr (keyStr kr) st r4 rfl ?_
        intro a6 c6 r6 st
        have st : St m9 (.room a6 (List.length ((mgetQ s1.2.2 x1.2).getD [])) c6 9 1 :: mpiece (some b3) es2 ck2 :: .blk b5 (.cells #[.string x1.1, .string x1.2] 74 (0, 0)) :: opc a4 (acellsM (fun x : Int × ByteArray × ByteArray × ByteArray => ([.int .i64 x.1, .string x.2.1, .string x.2.2.1, .string x.2.2.2] : List Value)) s1.1 T2) 72 :: (roomsX 9 1 es2 (.string x1.2) ++ own)) w13 := st
        refine ⟨⟨.inr ⟨Inv.anti st.inv hmS1, Piece.holds_anti st.tail.tail.head hmS1, trivial⟩, trivial⟩, ?_⟩
        refine WA_one 9 kr  (One_buildSlice (d := 56) (t := 33) (e := 9) (len := 1) (parts := #[(0, (.tmp 55))]) cStr (xs := [x1.1]) [.string x1.1] kr rfl (fun _ => buildCells_run kr _) rfl rfl st ⟨[.string x1.1], _, rfl, rfl, rfl⟩ ?_)
        clear st
        intro b6 m10 w14 hle6 st r7
        have hm := Mem.le_trans hm hle6
        have hb1 := hb1.mono hle6
        have r1 := r1.mono hle6
        have hb2 := hb2.mono hle6
        have r2 := r2.mono hle6
        have r6 := r6.mono hle6
        have r4 := r4.mono hle6
        have hmS1 := Mem.le_trans hmS1 hle6
        refine ⟨⟨.inr ⟨Inv.anti st.inv hmS1, Piece.holds_anti st.tail.tail.tail.head hmS1, trivial⟩, trivial⟩, ?_⟩
        have st := st.front1
        replace ⟨l1, hx5, hr⟩ := bindS hr
        refine WA_one 10 kr  (One_append (d := 57) (t := 33) (u := 33) (e := 9) (by_ := 16) (x := (.tmp 53)) (y := (.tmp 56)) cStr kr rfl (ev (.slice a6 (List.length ((mgetQ s1.2.2 x1.2).getD [])) c6)) (ev (.slice (some ⟨b6, 0, none⟩) (List.length ([x1.1])) 1)) st kr (.inl kr) r6 r7.src hx5 ?_)
        clear st
        intro a7 c7 m11 w15 hle7 st r8
        have hm := Mem.le_trans hm hle7
        have hb1 := hb1.mono hle7
        have r1 := r1.mono hle7
        have hb2 := hb2.mono hle7
        have r2 := r2.mono hle7
        have r6 := r6.mono hle7
        have r7 := r7.mono hle7
        have r4 := r4.mono hle7
        have hmS1 := Mem.le_trans hmS1 hle7
        refine ⟨⟨.inr ⟨Inv.anti st.inv hmS1, Piece.holds_anti st.tail.tail.tail.head hmS1, trivial⟩, trivial⟩, ?_⟩
        have st := st.front2.front1
        replace ⟨mp1, hx6, hr⟩ := bindS hr
        refine WA_one 11 kr  (One_mapUpdateRL [.room (some ⟨b6, 0, none⟩) (List.length ([x1.1])) 1 9 1, .blk b5 (.cells #[.string x1.1, .string x1.2] 74 (0, 0)), opc a4 (acellsM (fun x : Int × ByteArray × ByteArray × ByteArray => ([.int .i64 x.1, .string x.2.1, .string x.2.2.1, .string x.2.2.2] : List Value)) s1.1 T2) 72] (z := .slice none 0 0) (ek := (fun s : ByteArray => Value.string s)) (c := cStr) (k := x1.2) (yv := l1) (e := 9) (sz := 1) (kt := 9) (et := 33) (t := 126) (x := (.tmp 47)) (y := (.tmp 49)) (u := (.tmp 57)) kr (ev (.map (some b3))) (ev (.string x1.2)) (ev (.slice a7 (List.length l1) c7)) kr (keyStr kr) st r4 r8 hx6 ?_)
        clear st
        intro es4 ck4 w16 st r9
        have st : St m11 (mpiece (some b3) es4 ck4 :: .room (some ⟨b6, 0, none⟩) (List.length ([x1.1])) 1 9 1 :: .blk b5 (.cells #[.string x1.1, .string x1.2] 74 (0, 0)) :: opc a4 (acellsM (fun x : Int × ByteArray × ByteArray × ByteArray => ([.int .i64 x.1, .string x.2.1, .string x.2.2.1, .string x.2.2.2] : List Value)) s1.1 T2) 72 :: (roomsV 9 1 es4 ++ own)) w16 := st
        refine ⟨⟨.inr ⟨Inv.anti st.inv hmS1, Piece.holds_anti st.tail.tail.head hmS1, trivial⟩, trivial⟩, ?_⟩
        refine WA_done kr ?_
        have st := st.front1
        have st := st.tail
        refine X_block ?_
        refine X_block ?_
        obtain rfl := Option.some.inj hr
        have st := st.front1
        have st := st.tail
        have st := st.front1.front1
        exact X_env _ kr (Ku2 _ _ ⟨a4, c4, T2, es4, ck4, m11, rfl, hm, st, hb1, r1, hb2, r2, r9, hs2⟩)
       ·refine One_buildSlice (d := 56) (t := 33) (e := 9) (len := 1) (parts := #[(0, (.tmp 55))]) cStr (xs := [x1.1]) [.string x1.1] kr rfl (fun _ => buildCells_run kr _) rfl rfl st ⟨[.string x1.1], _, rfl, rfl, rfl⟩ ?_
        clear st
        intro b6 m10 w14 hle6 st r6
        have hm := Mem.le_trans hm hle6
        have hb1 := hb1.mono hle6
        have r1 := r1.mono hle6
        have hb2 := hb2.mono hle6
        have r2 := r2.mono hle6
        have r4 := r4.mono hle6
        have hmS1 := Mem.le_trans hmS1 hle6
        refine ⟨⟨.inr ⟨Inv.anti st.inv hmS1, Piece.holds_anti st.tail.head hmS1, trivial⟩, trivial⟩, ?_⟩
        have st := st.front2
        refine WA_one 6 kr  (One_lookupRL [.room (some ⟨b6, 0, none⟩) (List.length ([x1.1])) 1 9 1, .blk b5 (.cells #[.string x1.1, .string x1.2] 74 (0, 0)), opc a4 (acellsM (fun x : Int × ByteArray × ByteArray × ByteArray => ([.int .i64 x.1, .string x.2.1, .string x.2.2.1, .string x.2.2.2] : List Value)) s1.1 T2) 72] (z := .slice none 0 0) (ek := (fun s : ByteArray => Value.string s)) (c := cStr) (k := x1.2) (e := 9) (sz := 1) (kt := 9) (et := 33) (d := 53) (t := 126) (x := (.tmp 50)) (y := (.tmp 52)) kr rfl (ev (.map (some b3))) (ev (.string x1.2)) kr (keyStr kr) st r4 rfl ?_)
        intro a6 c6 r7 st
        have st : St m10 (.room a6 (List.length ((mgetQ s1.2.2 x1.2).getD [])) c6 9 1 :: mpiece (some b3) es2 ck2 :: .room (some ⟨b6, 0, none⟩) (List.length ([x1.1])) 1 9 1 :: .blk b5 (.cells #[.string x1.1, .string x1.2] 74 (0, 0)) :: opc a4 (acellsM (fun x : Int × ByteArray × ByteArray × ByteArray => ([.int .i64 x.1, .string x.2.1, .string x.2.2.1, .string x.2.2.2] : List Value)) s1.1 T2) 72 :: (roomsX 9 1 es2 (.string x1.2) ++ own)) w14 := st
        refine ⟨⟨.inr ⟨Inv.anti st.inv hmS1, Piece.holds_anti st.tail.tail.tail.head hmS1, trivial⟩, trivial⟩, ?_⟩
        replace ⟨l1, hx5, hr⟩ := bindS hr
        refine WA_one 10 kr  (One_append (d := 57) (t := 33) (u := 33) (e := 9) (by_ := 16) (x := (.tmp 53)) (y := (.tmp 56)) cStr kr rfl (ev (.slice a6 (List.length ((mgetQ s1.2.2 x1.2).getD [])) c6)) (ev (.slice (some ⟨b6, 0, none⟩) (List.length ([x1.1])) 1)) st kr (.inl kr) r7 r6.src hx5 ?_)
        clear st
        intro a7 c7 m11 w15 hle7 st r8
        have hm := Mem.le_trans hm hle7
        have hb1 := hb1.mono hle7
        have r1 := r1.mono hle7
        have hb2 := hb2.mono hle7
        have r2 := r2.mono hle7
        have r6 := r6.mono hle7
        have r7 := r7.mono hle7
        have r4 := r4.mono hle7
        have hmS1 := Mem.le_trans hmS1 hle7
        refine ⟨⟨.inr ⟨Inv.anti st.inv hmS1, Piece.holds_anti st.tail.tail.tail.head hmS1, trivial⟩, trivial⟩, ?_⟩
        have st := st.front1.front1
        replace ⟨mp1, hx6, hr⟩ := bindS hr
        refine WA_one 11 kr  (One_mapUpdateRL [.room (some ⟨b6, 0, none⟩) (List.length ([x1.1])) 1 9 1, .blk b5 (.cells #[.string x1.1, .string x1.2] 74 (0, 0)), opc a4 (acellsM (fun x : Int × ByteArray × ByteArray × ByteArray => ([.int .i64 x.1, .string x.2.1, .string x.2.2.1, .string x.2.2.2] : List Value)) s1.1 T2) 72] (z := .slice none 0 0) (ek := (fun s : ByteArray => Value.string s)) (c := cStr) (k := x1.2) (yv := l1) (e := 9) (sz := 1) (kt := 9) (et := 33) (t := 126) (x := (.tmp 47)) (y := (.tmp 49)) (u := (.tmp 57)) kr (ev (.map (some b3))) (ev (.string x1.2)) (ev (.slice a7 (List.length l1) c7)) kr (keyStr kr) st r4 r8 hx6 ?_)
        clear st
        intro es4 ck4 w16 st r9
        have st : St m11 (mpiece (some b3) es4 ck4 :: .room (some ⟨b6, 0, none⟩) (List.length ([x1.1])) 1 9 1 :: .blk b5 (.cells #[.string x1.1, .string x1.2] 74 (0, 0)) :: opc a4 (acellsM (fun x : Int × ByteArray × ByteArray × ByteArray => ([.int .i64 x.1, .string x.2.1, .string x.2.2.1, .string x.2.2.2] : List Value)) s1.1 T2) 72 :: (roomsV 9 1 es4 ++ own)) w16 := st
        refine ⟨⟨.inr ⟨Inv.anti st.inv hmS1, Piece.holds_anti st.tail.tail.head hmS1, trivial⟩, trivial⟩, ?_⟩
        refine WA_done kr ?_
        have st := st.front1
        have st := st.tail
        refine X_block ?_
        refine X_block ?_
        obtain rfl := Option.some.inj hr
        have st := st.front1
        have st := st.tail
        have st := st.front1.front1
        exact X_env _ kr (Ku2 _ _ ⟨a4, c4, T2, es4, ck4, m11, rfl, hm, st, hb1, r1, hb2, r2, r9, hs2⟩)
      ·intro hc
       rw [if_neg (not_true hc)] at hr
       refine W_sr (WO_seg 2 [(59, .string y3.1), (60, .pointer (some ⟨b5, 1, none⟩))] kr kr ?_)
       refine WO_one rfl (One_load_own (d := 61) (t := 9) (x := (.tmp 60)) (.string x1.2) kr rfl (ev (.pointer (some ⟨b5, 1, none⟩))) st.head kr ?_)
       refine WO_seg 2 [(58, .bool (!(y3.1.toList == x1.2.toList)))] kr kr ?_
       refine WO_et rfl (W_cond (!(y3.1.toList == x1.2.toList)) kr ?_ ?_)
       ·intro hc
        rw [if_pos hc] at hr
        refine W_region ?_
        refine WO_seg 2 [(63, .slice a4 (List.length s1.1) c4), (64, .pointer (some ⟨b5, 0, none⟩))] kr kr ?_
        refine WO_one rfl (One_load_own (d := 65) (t := 9) (x := (.tmp 64)) (.string x1.1) kr rfl (ev (.pointer (some ⟨b5, 0, none⟩))) st.head kr ?_)
        refine WO_seg 2 [(67, .agg #[.int .i64 3, .string x1.1, .string (⟨#[]⟩ : ByteArray), .string y3.1])] kr kr ?_
        refine WO_one rfl (One_buildSlice (d := 68) (t := 58) (e := 72) (len := 1) (parts := #[(0, (.tmp 67))]) (cPair (cInt .i64) (cPair cStr (cPair cStr cStr))) (xs := [(3, x1.1, (⟨#[]⟩ : ByteArray), y3.1)]) [.int .i64 3, .string x1.1, .string (⟨#[]⟩ : ByteArray), .string y3.1] kr rfl (fun _ => buildCells_run kr _) rfl rfl st ⟨[.int .i64 3, .string x1.1, .string (⟨#[]⟩ : ByteArray), .string y3.1], _, rfl, ⟨_, _, rfl, rfl, ⟨_, _, rfl, rfl, ⟨_, _, rfl, rfl, rfl⟩⟩⟩, rfl⟩ ?_)
        clear st
        intro b7 m12 w17 hle8 st r10
        have hm := Mem.le_trans hm hle8
        have hb1 := hb1.mono hle8
        have r1 := r1.mono hle8
        have hb2 := hb2.mono hle8
        have r2 := r2.mono hle8
        have r4 := r4.mono hle8
        have st := st.front3
        replace ⟨l2, hx7, hr⟩ := bindS hr
        refine WO_one rfl (One_appendM (d := 69) (t := 58) (u := 58) (e := 72) (by_ := 56) (x := (.tmp 63)) (y := (.tmp 68)) (c := (cPair (cInt .i64) (cPair cStr (cPair cStr cStr)))) (f := (fun x : Int × ByteArray × ByteArray × ByteArray => ([.int .i64 x.1, .string x.2.1, .string x.2.2.1, .string x.2.2.2] : List Value))) (l := s1.1) (fun _ _ _ h => by obtain ⟨_, _, rfl, rfl, ⟨_, _, rfl, rfl, ⟨_, _, rfl, rfl, rfl⟩⟩⟩ := h; rfl) (fun _ => rfl) kr rfl (ev (.slice a4 (List.length s1.1) c4)) (ev (.slice (some ⟨b7, 0, none⟩) (List.length ([(3, x1.1, (⟨#[]⟩ : ByteArray), y3.1)])) 1)) st hs2 rfl kr (.inl kr) r10.src hx7 ?_)
        clear st
        intro a8 c8 T4 w18 hs4 st
        refine WO_seg 1 [(6, .slice a8 (List.length l2) c8)] kr kr ?_
        refine WO_end rfl ?_
        have st := st.front1
        have st := st.tail
        refine X_block ?_
        refine X_block ?_
        obtain rfl := Option.some.inj hr
        have st := st.front1
        have st := st.tail
        have st := st.front1
        exact X_env _ kr (Ku2 _ _ ⟨a8, c8, T4, es2, ck2, m12, rfl, hm, st, hb1, r1, hb2, r2, r4, hs4⟩)
       ·intro hc
        rw [if_neg (not_true hc)] at hr
        refine W_skip ?_
        refine X_block ?_
        refine X_block ?_
        obtain rfl := Option.some.inj hr
        have st := st.tail
        have st := st.front1.front1
        exact X_env _ kr (Ku2 _ _ ⟨a4, c4, T2, es2, ck2, m9, rfl, hm, st, hb1, r1, hb2, r2, r4, hs2⟩)
    ·intro hc
     rw [if_neg (not_true hc)] at hr
     refine W_exit ?_
     refine X_then_exit ?_
     obtain rfl := Option.some.inj hr
     have ho := hBu1 _ rfl
     have st := st.front1.front1
     refine X_then_exit ?_
     exact X_env _ kr (K0_u1 _ _ ⟨(s1.1, s1.2.2), a4, c4, T2, es2, ck2, m7, ho, rfl, hm, st, hb1, r1, hb2, r2, r4, hs2⟩)
 ·intro K
  clear hrK
  refine WO_one rfl (One_load_row (d := 21) (t := 25) (x := (.tmp 2)) (.agg #[.slice a1 (List.length p0) c1]) kr rfl (ev (.pointer (some ⟨b1, 0, none⟩))) st hb1 kr ?_)
  replace ⟨y1, hx1, hr⟩ := bindS hr
  refine WO_one rfl (One_fn 22 75 #[.agg #[.slice a1 (List.length p0) c1]] kr rfl ?_)
  refine (revision_Check_ok st r1 hx1).mono ?_
  clear st
  rintro _ w4 ⟨m4, rfl, hle3, st⟩
  refine ⟨_, rfl, ?_⟩
  have hm := Mem.le_trans hm hle3
  have hb1 := hb1.mono hle3
  have r1 := r1.mono hle3
  have hb2 := hb2.mono hle3
  have r2 := r2.mono hle3
  refine WO_seg 2 [(24, .bool (y1 != 0))] kr kr ?_
  rcases bcases (y1 != 0) with hc | hc
  ·rw [if_pos hc] at hr
   refine WO_fact (t := 24) (b := true) (y1 != 0) kr hc ?_
   refine WO_seg 4 [(28, .bool true)] kr kr ?_
   obtain rfl := Option.some.inj hr
   exact WO_env _ kr (K _ _ ⟨m4, rfl, hm, st, hb1, r1, hb2, r2⟩)
  ·rw [if_neg (not_true hc)] at hr
   refine WO_fact (t := 24) (b := false) (y1 != 0) kr hc ?_
   refine WO_one rfl (One_load_row (d := 25) (t := 25) (x := (.tmp 3)) (.agg #[.slice a2 (List.length p1) c2]) kr rfl (ev (.pointer (some ⟨b2, 0, none⟩))) st hb2 kr ?_)
   replace ⟨y2, hx2, hr⟩ := bindS hr
   refine WO_one rfl (One_fn 26 75 #[.agg #[.slice a2 (List.length p1) c2]] kr rfl ?_)
   refine (revision_Check_ok st r2 hx2).mono ?_
   clear st
   rintro _ w5 ⟨m5, rfl, hle4, st⟩
   refine ⟨_, rfl, ?_⟩
   have hm := Mem.le_trans hm hle4
   have hb1 := hb1.mono hle4
   have r1 := r1.mono hle4
   have hb2 := hb2.mono hle4
   have r2 := r2.mono hle4
   refine WO_seg 2 [(28, .bool (y2 != 0))] kr kr ?_
   obtain rfl := Option.some.inj hr
   exact WO_env _ kr (K _ _ ⟨m5, rfl, hm, st, hb1, r1, hb2, r2⟩)
def filediff_formed (N : Nat) (p0 : Int × ByteArray × ByteArray × ByteArray) : Option (Bool) :=
 (if (p0.1 == 1) = true then (some (p0.1 == 1)) else (some (p0.1 == 3)) : Option (Bool)).bind fun o1 => if o1 = true then (some (p0.2.2.1.toList == (⟨#[]⟩ : ByteArray).toList)) else (if (p0.1 == 2) = true then ((if (p0.2.2.1.toList == (⟨#[]⟩ : ByteArray).toList) = true then (some (p0.2.2.2.toList == (⟨#[]⟩ : ByteArray).toList)) else (some false) : Option (Bool)).bind fun o2 => some o2) else (if (p0.1 == 4) = true then (some (p0.2.2.2.toList == (⟨#[]⟩ : ByteArray).toList)) else (some false)))
set_option maxHeartbeats 4000000 in
set_option maxRecDepth 100000 in
theorem filediff_formed_ok {N : Nat} {m : Mem} {own : List Piece} {w : World} {p0 : Int × ByteArray × ByteArray × ByteArray} {r : Bool} (st : St m (own) w) (hr : filediff_formed N p0 = some r) : Calls Tryz.prog 86 #[.agg #[.int .i64 p0.1, .string p0.2.1, .string p0.2.2.1, .string p0.2.2.2]] w fun e w' => ∃ (m' : Mem), e = .returned (.bool r) ∧ m.le m' ∧ St m' (own) w' := by
 unfold filediff_formed at hr
 have hm := m.le_refl
 refine W_calls Tryz.func86 rfl Tryz.ntmps86 [(0, .agg #[.int .i64 p0.1, .string p0.2.1, .string p0.2.2.1, .string p0.2.2.2])] kr rfl ?_
 refine W_sr (WO_one rfl (One_box (d := 1) (e := 72) (x := (.tmp 0)) (.agg #[.int .i64 p0.1, .string p0.2.1, .string p0.2.2.1, .string p0.2.2.2]) kr rfl kr st ?_))
 clear st
 intro b1 m1 w1 hle1 st hb1
 have hm := Mem.le_trans hm hle1
 refine WO_seg 1 [] kr kr ?_
 refine WO_et rfl (W_seq ?_)
 refine W_sr (WO_seg 1 [(3, .pointer (some ⟨b1, 0, none⟩))] kr kr ?_)
 refine WO_one rfl (One_load_row (d := 4) (t := 3) (x := (.tmp 3)) (.int .i64 p0.1) kr rfl (ev (.pointer (some ⟨b1, 0, none⟩))) st hb1 kr ?_)
 refine WO_et rfl (W_block ?_)
 refine W_seq ?_
 refine W_sr (WO_seg 2 [(5, .bool (p0.1 == 1))] kr kr ?_)
 refine WO_et rfl ?_
 replace ⟨o1, hr, hrKu1⟩ := bindS hr
 refine W_cut .normal (fun L' w' => ∃ (m2 : Mem), L' = [(1, .pointer (some ⟨b1, 0, none⟩)), (4, .int .i64 p0.1), (5, .bool o1)] ∧ m.le m2 ∧ St m2 (own) w' ∧ MRow m2 b1 0 [.int .i64 p0.1, .string p0.2.1, .string p0.2.2.1, .string p0.2.2.2]) ?_ ?_
 ·clear hr st
  have hr := hrKu1
  clear hrKu1
  rintro _ w2 ⟨m2, rfl, hm, st, hb1⟩
  refine X_then ?_
  refine W_cond o1 kr ?_ ?_
  ·intro hc
   rw [if_pos hc] at hr
   refine W_sr (WO_seg 1 [(8, .pointer (some ⟨b1, 2, none⟩))] kr kr ?_)
   refine WO_one rfl (One_load_row (d := 9) (t := 9) (x := (.tmp 8)) (.string p0.2.2.1) kr rfl (ev (.pointer (some ⟨b1, 2, none⟩))) st (hb1.drop 2) kr ?_)
   refine WO_seg 2 [(2, .bool (p0.2.2.1.toList == (⟨#[]⟩ : ByteArray).toList))] kr kr ?_
   refine WO_et rfl (W_ret ?_)
   refine X_block_ret ?_
   refine X_then_ret ?_
   obtain rfl := Option.some.inj hr
   refine X_ret [.tmp 2] [.bool (p0.2.2.1.toList == (⟨#[]⟩ : ByteArray).toList)] rfl (ResAll.cons (ResAt.tmp kr) ResAll.nil) ?_
   exact ⟨m2, rfl, hm, st⟩
  ·intro hc
   rw [if_neg (not_true hc)] at hr
   refine W_sr (WO_seg 2 [(11, .bool (p0.1 == 2))] kr kr ?_)
   refine WO_et rfl (W_cond (p0.1 == 2) kr ?_ ?_)
   ·intro hc
    rw [if_pos hc] at hr
    refine W_sr ?_
    replace ⟨o2, hr, hrK⟩ := bindS hr
    refine WO_cut (j := 9) (fun L' w' => ∃ (m3 : Mem), L' = [(2, .bool o2)] ∧ m.le m3 ∧ St m3 (own) w') ?_ ?_
    ·clear hr st
     have hr := hrK
     clear hrK
     rintro _ w3 ⟨m3, rfl, hm, st⟩
     refine WO_et rfl (W_ret ?_)
     refine X_block_ret ?_
     refine X_then_ret ?_
     obtain rfl := Option.some.inj hr
     refine X_ret [.tmp 2] [.bool o2] rfl (ResAll.cons (ResAt.tmp kr) ResAll.nil) ?_
     exact ⟨m3, rfl, hm, st⟩
    ·intro K
     clear hrK
     refine WO_seg 1 [(13, .pointer (some ⟨b1, 2, none⟩))] kr kr ?_
     refine WO_one rfl (One_load_row (d := 14) (t := 9) (x := (.tmp 13)) (.string p0.2.2.1) kr rfl (ev (.pointer (some ⟨b1, 2, none⟩))) st (hb1.drop 2) kr ?_)
     refine WO_seg 2 [(16, .bool (p0.2.2.1.toList == (⟨#[]⟩ : ByteArray).toList))] kr kr ?_
     rcases bcases (p0.2.2.1.toList == (⟨#[]⟩ : ByteArray).toList) with hc | hc
     ·rw [if_pos hc] at hr
      refine WO_fact (t := 16) (b := true) (p0.2.2.1.toList == (⟨#[]⟩ : ByteArray).toList) kr hc ?_
      refine WO_seg 1 [(17, .pointer (some ⟨b1, 3, none⟩))] kr kr ?_
      refine WO_one rfl (One_load_row (d := 18) (t := 9) (x := (.tmp 17)) (.string p0.2.2.2) kr rfl (ev (.pointer (some ⟨b1, 3, none⟩))) st (hb1.drop 3) kr ?_)
      refine WO_seg 3 [(2, .bool (p0.2.2.2.toList == (⟨#[]⟩ : ByteArray).toList))] kr kr ?_
      obtain rfl := Option.some.inj hr
      exact WO_env _ kr (K _ _ ⟨m2, rfl, hm, st⟩)
     ·rw [if_neg (not_true hc)] at hr
      refine WO_fact (t := 16) (b := false) (p0.2.2.1.toList == (⟨#[]⟩ : ByteArray).toList) kr hc ?_
      refine WO_seg 5 [(2, .bool false)] kr kr ?_
      obtain rfl := Option.some.inj hr
      exact WO_env _ kr (K _ _ ⟨m2, rfl, hm, st⟩)
   ·intro hc
    rw [if_neg (not_true hc)] at hr
    refine W_sr (WO_seg 2 [(21, .bool (p0.1 == 4))] kr kr ?_)
    refine WO_et rfl (W_cond (p0.1 == 4) kr ?_ ?_)
    ·intro hc
     rw [if_pos hc] at hr
     refine W_sr (WO_seg 1 [(23, .pointer (some ⟨b1, 3, none⟩))] kr kr ?_)
     refine WO_one rfl (One_load_row (d := 24) (t := 9) (x := (.tmp 23)) (.string p0.2.2.2) kr rfl (ev (.pointer (some ⟨b1, 3, none⟩))) st (hb1.drop 3) kr ?_)
     refine WO_seg 2 [(2, .bool (p0.2.2.2.toList == (⟨#[]⟩ : ByteArray).toList))] kr kr ?_
     refine WO_et rfl (W_ret ?_)
     refine X_block_ret ?_
     refine X_then_ret ?_
     obtain rfl := Option.some.inj hr
     refine X_ret [.tmp 2] [.bool (p0.2.2.2.toList == (⟨#[]⟩ : ByteArray).toList)] rfl (ResAll.cons (ResAt.tmp kr) ResAll.nil) ?_
     exact ⟨m2, rfl, hm, st⟩
    ·intro hc
     rw [if_neg (not_true hc)] at hr
     refine W_skip ?_
     refine X_block ?_
     refine X_then ?_
     refine W_sr (WO_seg 1 [(2, .bool false)] kr kr ?_)
     refine WO_et rfl (W_ret ?_)
     obtain rfl := Option.some.inj hr
     refine X_ret [.tmp 2] [.bool false] rfl (ResAll.cons (ResAt.tmp kr) ResAll.nil) ?_
     exact ⟨m2, rfl, hm, st⟩
 ·intro Ku1
  clear hrKu1
  refine W_cond (p0.1 == 1) kr ?_ ?_
  ·intro hc
   rw [if_pos hc] at hr
   refine W_skip ?_
   obtain rfl := Option.some.inj hr
   exact X_env _ kr (Ku1 _ _ ⟨m1, rfl, hm, st, hb1⟩)
  ·intro hc
   rw [if_neg (not_true hc)] at hr
   refine W_region ?_
   refine WO_seg 2 [(5, .bool (p0.1 == 3))] kr kr ?_
   refine WO_end rfl ?_
   obtain rfl := Option.some.inj hr
   exact X_env _ kr (Ku1 _ _ ⟨m1, rfl, hm, st, hb1⟩)
def filediff_Apply_1 (N : Nat) (p0 : Int × ByteArray × ByteArray × ByteArray) : Option (Bool) :=
 (filediff_formed N (p0.1, p0.2.1, p0.2.2.1, p0.2.2.2)).bind fun y1 => some (!y1)
set_option maxHeartbeats 4000000 in
set_option maxRecDepth 100000 in
theorem filediff_Apply_1_ok {N : Nat} {m : Mem} {own : List Piece} {w : World} {p0 : Int × ByteArray × ByteArray × ByteArray} {r : Bool} (st : St m (own) w) (hr : filediff_Apply_1 N p0 = some r) : Calls Tryz.prog 85 #[.agg #[.int .i64 p0.1, .string p0.2.1, .string p0.2.2.1, .string p0.2.2.2]] w fun e w' => ∃ (m' : Mem), e = .returned (.bool r) ∧ m.le m' ∧ St m' (own) w' := by
 unfold filediff_Apply_1 at hr
 have hm := m.le_refl
 refine W_calls Tryz.func85 rfl Tryz.ntmps85 [(0, .agg #[.int .i64 p0.1, .string p0.2.1, .string p0.2.2.1, .string p0.2.2.2])] kr rfl ?_
 refine W_sr (WO_one rfl (One_box (d := 1) (e := 72) (x := (.tmp 0)) (.agg #[.int .i64 p0.1, .string p0.2.1, .string p0.2.2.1, .string p0.2.2.2]) kr rfl kr st ?_))
 clear st
 intro b1 m1 w1 hle1 st hb1
 have hm := Mem.le_trans hm hle1
 refine WO_seg 1 [] kr kr ?_
 refine WO_et rfl (W_sr ?_)
 refine WO_one rfl (One_load_row (d := 3) (t := 72) (x := (.tmp 1)) (.agg #[.int .i64 p0.1, .string p0.2.1, .string p0.2.2.1, .string p0.2.2.2]) kr rfl (ev (.pointer (some ⟨b1, 0, none⟩))) st hb1 kr ?_)
 replace ⟨y1, hx1, hr⟩ := bindS hr
 refine WO_one rfl (One_fn 4 86 #[.agg #[.int .i64 p0.1, .string p0.2.1, .string p0.2.2.1, .string p0.2.2.2]] kr rfl ?_)
 refine (filediff_formed_ok st hx1).mono ?_
 clear st
 rintro _ w2 ⟨m2, rfl, hle2, st⟩
 refine ⟨_, rfl, ?_⟩
 have hm := Mem.le_trans hm hle2
 have hb1 := hb1.mono hle2
 refine WO_seg 2 [(2, .bool (!y1))] kr kr ?_
 refine WO_et rfl (W_ret ?_)
 obtain rfl := Option.some.inj hr
 refine X_ret [.tmp 2] [.bool (!y1)] rfl (ResAll.cons (ResAt.tmp kr) ResAll.nil) ?_
 exact ⟨m2, rfl, hm, st⟩
def filediff_taken (N : Nat) (p0 : Int × ByteArray × ByteArray × ByteArray) : Option (ByteArray × Bool) :=
 if (p0.1 == 4) = true then (some (p0.2.2.1, true)) else (if (p0.1 == 1) = true then (some ((⟨#[]⟩ : ByteArray), false)) else (some (p0.2.1, true)))
set_option maxHeartbeats 4000000 in
set_option maxRecDepth 100000 in
theorem filediff_taken_ok {N : Nat} {m : Mem} {own : List Piece} {w : World} {p0 : Int × ByteArray × ByteArray × ByteArray} {r : ByteArray × Bool} (st : St m (own) w) (hr : filediff_taken N p0 = some r) : Calls Tryz.prog 87 #[.agg #[.int .i64 p0.1, .string p0.2.1, .string p0.2.2.1, .string p0.2.2.2]] w fun e w' => ∃ (m' : Mem), e = .returned (.tuple #[.string r.1, .bool r.2]) ∧ m.le m' ∧ St m' (own) w' := by
 unfold filediff_taken at hr
 have hm := m.le_refl
 refine W_calls Tryz.func87 rfl Tryz.ntmps87 [(0, .agg #[.int .i64 p0.1, .string p0.2.1, .string p0.2.2.1, .string p0.2.2.2])] kr rfl ?_
 refine W_sr (WO_one rfl (One_box (d := 1) (e := 72) (x := (.tmp 0)) (.agg #[.int .i64 p0.1, .string p0.2.1, .string p0.2.2.1, .string p0.2.2.2]) kr rfl kr st ?_))
 clear st
 intro b1 m1 w1 hle1 st hb1
 have hm := Mem.le_trans hm hle1
 refine WO_seg 2 [] kr kr ?_
 refine WO_et rfl (W_seq ?_)
 refine W_sr (WO_seg 1 [(4, .pointer (some ⟨b1, 0, none⟩))] kr kr ?_)
 refine WO_one rfl (One_load_row (d := 5) (t := 3) (x := (.tmp 4)) (.int .i64 p0.1) kr rfl (ev (.pointer (some ⟨b1, 0, none⟩))) st hb1 kr ?_)
 refine WO_et rfl (W_block ?_)
 refine W_sr (WO_seg 2 [(6, .bool (p0.1 == 4))] kr kr ?_)
 refine WO_et rfl (W_cond (p0.1 == 4) kr ?_ ?_)
 ·intro hc
  rw [if_pos hc] at hr
  refine W_sr (WO_seg 1 [(8, .pointer (some ⟨b1, 2, none⟩))] kr kr ?_)
  refine WO_one rfl (One_load_row (d := 9) (t := 9) (x := (.tmp 8)) (.string p0.2.2.1) kr rfl (ev (.pointer (some ⟨b1, 2, none⟩))) st (hb1.drop 2) kr ?_)
  refine WO_seg 2 [(2, .string p0.2.2.1), (3, .bool true)] kr kr ?_
  refine WO_et rfl (W_ret ?_)
  refine X_block_ret ?_
  refine X_then_ret ?_
  obtain rfl := Option.some.inj hr
  refine X_ret [.tmp 2, .tmp 3] [.string p0.2.2.1, .bool true] rfl (ResAll.cons (ResAt.tmp kr) (ResAll.cons (ResAt.tmp kr) ResAll.nil)) ?_
  exact ⟨m1, rfl, hm, st⟩
 ·intro hc
  rw [if_neg (not_true hc)] at hr
  refine W_sr (WO_seg 2 [(10, .bool (p0.1 == 1))] kr kr ?_)
  refine WO_et rfl (W_cond (p0.1 == 1) kr ?_ ?_)
  ·intro hc
   rw [if_pos hc] at hr
   refine W_sr (WO_seg 2 [(2, .string (⟨#[]⟩ : ByteArray)), (3, .bool false)] kr kr ?_)
   refine WO_et rfl (W_ret ?_)
   refine X_block_ret ?_
   refine X_then_ret ?_
   obtain rfl := Option.some.inj hr
   refine X_ret [.tmp 2, .tmp 3] [.string (⟨#[]⟩ : ByteArray), .bool false] rfl (ResAll.cons (ResAt.tmp kr) (ResAll.cons (ResAt.tmp kr) ResAll.nil)) ?_
   exact ⟨m1, rfl, hm, st⟩
  ·intro hc
   rw [if_neg (not_true hc)] at hr
   refine W_skip ?_
   refine X_block ?_
   refine X_then ?_
   refine W_sr (WO_seg 1 [(12, .pointer (some ⟨b1, 1, none⟩))] kr kr ?_)
   refine WO_one rfl (One_load_row (d := 13) (t := 9) (x := (.tmp 12)) (.string p0.2.1) kr rfl (ev (.pointer (some ⟨b1, 1, none⟩))) st (hb1.drop 1) kr ?_)
   refine WO_seg 2 [(2, .string p0.2.1), (3, .bool true)] kr kr ?_
   refine WO_et rfl (W_ret ?_)
   obtain rfl := Option.some.inj hr
   refine X_ret [.tmp 2, .tmp 3] [.string p0.2.1, .bool true] rfl (ResAll.cons (ResAt.tmp kr) (ResAll.cons (ResAt.tmp kr) ResAll.nil)) ?_
   exact ⟨m1, rfl, hm, st⟩
def filediff_put (N : Nat) (p0 : Int × ByteArray × ByteArray × ByteArray) : Option (Bool) :=
 some (p0.1 != 2)
set_option maxHeartbeats 4000000 in
set_option maxRecDepth 100000 in
theorem filediff_put_ok {N : Nat} {m : Mem} {own : List Piece} {w : World} {p0 : Int × ByteArray × ByteArray × ByteArray} {r : Bool} (st : St m (own) w) (hr : filediff_put N p0 = some r) : Calls Tryz.prog 88 #[.agg #[.int .i64 p0.1, .string p0.2.1, .string p0.2.2.1, .string p0.2.2.2]] w fun e w' => ∃ (m' : Mem), e = .returned (.bool r) ∧ m.le m' ∧ St m' (own) w' := by
 unfold filediff_put at hr
 have hm := m.le_refl
 refine W_calls Tryz.func88 rfl Tryz.ntmps88 [(0, .agg #[.int .i64 p0.1, .string p0.2.1, .string p0.2.2.1, .string p0.2.2.2])] kr rfl ?_
 refine W_sr (WO_one rfl (One_box (d := 1) (e := 72) (x := (.tmp 0)) (.agg #[.int .i64 p0.1, .string p0.2.1, .string p0.2.2.1, .string p0.2.2.2]) kr rfl kr st ?_))
 clear st
 intro b1 m1 w1 hle1 st hb1
 have hm := Mem.le_trans hm hle1
 refine WO_seg 1 [] kr kr ?_
 refine WO_et rfl (W_sr ?_)
 refine WO_seg 1 [(3, .pointer (some ⟨b1, 0, none⟩))] kr kr ?_
 refine WO_one rfl (One_load_row (d := 4) (t := 3) (x := (.tmp 3)) (.int .i64 p0.1) kr rfl (ev (.pointer (some ⟨b1, 0, none⟩))) st hb1 kr ?_)
 refine WO_seg 2 [(2, .bool (p0.1 != 2))] kr kr ?_
 refine WO_et rfl (W_ret ?_)
 obtain rfl := Option.some.inj hr
 refine X_ret [.tmp 2] [.bool (p0.1 != 2)] rfl (ResAll.cons (ResAt.tmp kr) ResAll.nil) ?_
 exact ⟨m1, rfl, hm, st⟩
def filediff_Apply_2 (N : Nat) (p0 : ByteArray × ByteArray) (p1 : ByteArray × ByteArray) : Option (Int) :=
 (strings_Compare N p0.1 p1.1).bind fun y1 => some y1
set_option maxHeartbeats 4000000 in
set_option maxRecDepth 100000 in
theorem filediff_Apply_2_ok {N : Nat} {m : Mem} {own : List Piece} {w : World} {p0 : ByteArray × ByteArray} {p1 : ByteArray × ByteArray} {r : Int} (st : St m (own) w) (hr : filediff_Apply_2 N p0 p1 = some r) : Calls Tryz.prog 90 #[.agg #[.string p0.1, .string p0.2], .agg #[.string p1.1, .string p1.2]] w fun e w' => ∃ (m' : Mem), e = .returned (.int .i64 r) ∧ m.le m' ∧ St m' (own) w' := by
 unfold filediff_Apply_2 at hr
 have hm := m.le_refl
 refine W_calls Tryz.func90 rfl Tryz.ntmps90 [(0, .agg #[.string p0.1, .string p0.2]), (1, .agg #[.string p1.1, .string p1.2])] kr rfl ?_
 refine W_sr (WO_one rfl (One_box (d := 2) (e := 74) (x := (.tmp 0)) (.agg #[.string p0.1, .string p0.2]) kr rfl kr st ?_))
 clear st
 intro b1 m1 w1 hle1 st hb1
 have hm := Mem.le_trans hm hle1
 refine WO_one rfl (One_box (d := 3) (e := 74) (x := (.tmp 1)) (.agg #[.string p1.1, .string p1.2]) kr rfl kr st ?_)
 clear st
 intro b2 m2 w2 hle2 st hb2
 have hm := Mem.le_trans hm hle2
 have hb1 := hb1.mono hle2
 refine WO_seg 1 [] kr kr ?_
 refine WO_et rfl (W_sr ?_)
 refine WO_seg 1 [(5, .pointer (some ⟨b1, 0, none⟩))] kr kr ?_
 refine WO_one rfl (One_load_row (d := 6) (t := 9) (x := (.tmp 5)) (.string p0.1) kr rfl (ev (.pointer (some ⟨b1, 0, none⟩))) st hb1 kr ?_)
 refine WO_seg 1 [(7, .pointer (some ⟨b2, 0, none⟩))] kr kr ?_
 refine WO_one rfl (One_load_row (d := 8) (t := 9) (x := (.tmp 7)) (.string p1.1) kr rfl (ev (.pointer (some ⟨b2, 0, none⟩))) st hb2 kr ?_)
 replace ⟨y1, hx1, hr⟩ := bindS hr
 refine WO_one rfl (One_fn 9 80 #[.string p0.1, .string p1.1] kr rfl ?_)
 refine (strings_Compare_ok st hx1).mono ?_
 clear st
 rintro _ w3 ⟨m3, rfl, hle3, st⟩
 refine ⟨_, rfl, ?_⟩
 have hm := Mem.le_trans hm hle3
 have hb1 := hb1.mono hle3
 have hb2 := hb2.mono hle3
 refine WO_seg 1 [(4, .int .i64 y1)] kr kr ?_
 refine WO_et rfl (W_ret ?_)
 obtain rfl := Option.some.inj hr
 refine X_ret [.tmp 4] [.int .i64 y1] rfl (ResAll.cons (ResAt.tmp kr) ResAll.nil) ?_
 exact ⟨m3, rfl, hm, st⟩
def sortLay89_ren : Go.Shelf.Ren := ⟨fun | 6 => 89 | 15 => 132 | 14 => 137 | 28 => 165 | 29 => 166 | 20 => 168 | 21 => 169 | 22 => 170 | 23 => 171 | 24 => 172 | 25 => 173 | 26 => 174 | 27 => 175 | 46 => 209 | 47 => 205 | 48 => 206 | 49 => 210 | 50 => 211 | 57 => 235 | n => n, fun | 22 => 23 | 24 => 74 | 25 => 140 | 3 => 3 | 39 => 179 | 0 => 0 | 53 => 217 | 55 => 219 | 4 => 4 | 46 => 211 | 45 => 210 | 50 => 175 | 5 => 5 | 9 => 9 | 66 => 245 | 70 => 249 | 76 => 266 | 77 => 267 | n => n, fun | n => n⟩
theorem sortLay89 : Go.Proofs.SlLaysF0.n6 Tryz.prog sortLay89_ren where
 mixed := kr
 f6 := ⟨Tryz.f89.name, kr, Tryz.func89.trans (congrArg some kr)⟩
 f14 := ⟨Tryz.f137.name, kr, Tryz.func137.trans (congrArg some kr)⟩
 f15 := Tryz.func132.trans (congrArg some kr)
 f20 := ⟨Tryz.f168.name, kr, Tryz.func168.trans (congrArg some kr)⟩
 f21 := ⟨Tryz.f169.name, kr, Tryz.func169.trans (congrArg some kr)⟩
 f22 := ⟨Tryz.f170.name, kr, Tryz.func170.trans (congrArg some kr)⟩
 f23 := ⟨Tryz.f171.name, kr, Tryz.func171.trans (congrArg some kr)⟩
 f24 := ⟨Tryz.f172.name, kr, Tryz.func172.trans (congrArg some kr)⟩
 f25 := ⟨Tryz.f173.name, kr, Tryz.func173.trans (congrArg some kr)⟩
 f26 := ⟨Tryz.f174.name, kr, Tryz.func174.trans (congrArg some kr)⟩
 f27 := ⟨Tryz.f175.name, kr, Tryz.func175.trans (congrArg some kr)⟩
 f28 := Tryz.func165.trans (congrArg some kr)
 f29 := Tryz.func166.trans (congrArg some kr)
 f46 := ⟨Tryz.f209.name, kr, Tryz.func209.trans (congrArg some kr)⟩
 f47 := Tryz.func205.trans (congrArg some kr)
 f48 := Tryz.func206.trans (congrArg some kr)
 f49 := ⟨Tryz.f210.name, kr, Tryz.func210.trans (congrArg some kr)⟩
 f50 := ⟨Tryz.f211.name, kr, Tryz.func211.trans (congrArg some kr)⟩
 f57 := ⟨Tryz.f235.name, kr, Tryz.func235.trans (congrArg some kr)⟩
 t0 := Tryz.underlying0
 a0 := Tryz.isAgg0
 z0 := Tryz.sizeOf0
 v0 := Tryz.zeroValue0
 t3 := Tryz.underlying3
 a3 := Tryz.isAgg3
 z3 := Tryz.sizeOf3
 v3 := Tryz.zeroValue3
 t4 := Tryz.underlying4
 a4 := Tryz.isAgg4
 z4 := Tryz.sizeOf4
 v4 := Tryz.zeroValue4
 t5 := Tryz.underlying5
 a5 := Tryz.isAgg5
 z5 := Tryz.sizeOf5
 v5 := Tryz.zeroValue5
 t9 := Tryz.underlying9
 a9 := Tryz.isAgg9
 z9 := Tryz.sizeOf9
 v9 := Tryz.zeroValue9
 t22 := Tryz.underlying23
 a22 := Tryz.isAgg23
 z22 := Tryz.sizeOf23
 v22 := Tryz.zeroValue23
 t25 := Tryz.underlying140
 a25 := Tryz.isAgg140
 z25 := Tryz.sizeOf140
 v25 := Tryz.zeroValue140
 t39 := Tryz.underlying179
 a39 := Tryz.isAgg179
 z39 := Tryz.sizeOf179
 v39 := Tryz.zeroValue179
 t45 := Tryz.underlying210
 a45 := Tryz.isAgg210
 z45 := Tryz.sizeOf210
 v45 := Tryz.zeroValue210
 t46 := Tryz.underlying211
 a46 := Tryz.isAgg211
 z46 := Tryz.sizeOf211
 v46 := Tryz.zeroValue211
 t50 := Tryz.underlying175
 a50 := Tryz.isAgg175
 z50 := Tryz.sizeOf175
 v50 := Tryz.zeroValue175
 t53 := Tryz.underlying217
 a53 := Tryz.isAgg217
 z53 := Tryz.sizeOf217
 v53 := Tryz.zeroValue217
 t55 := Tryz.underlying219
 a55 := Tryz.isAgg219
 z55 := Tryz.sizeOf219
 v55 := Tryz.zeroValue219
 t66 := Tryz.underlying245
 a66 := Tryz.isAgg245
 z66 := Tryz.sizeOf245
 v66 := Tryz.zeroValue245
 t70 := Tryz.underlying249
 a70 := Tryz.isAgg249
 z70 := Tryz.sizeOf249
 v70 := Tryz.zeroValue249
 t76 := Tryz.underlying266
 a76 := Tryz.isAgg266
 z76 := Tryz.sizeOf266
 v76 := Tryz.zeroValue266
 t77 := Tryz.underlying267
 a77 := Tryz.isAgg267
 z77 := Tryz.sizeOf267
 v77 := Tryz.zeroValue267
def cmpFile (x y : ByteArray × ByteArray) : Int := cmpS x.1 y.1
theorem cmpFile_swo : Go.Sort.SWO (Go.Proofs.ltOf cmpFile) := swo_pull cmpS_lin.swo fun x : ByteArray × ByteArray => x.1
theorem cmpFile_anti (x y : ByteArray × ByteArray) : cmpFile x y < 0 ↔ 0 < cmpFile y x := cmpS_lin.anti _ _
theorem filediff_Apply_2_T {N : Nat} (_ : 10 ≤ N) (x y : ByteArray × ByteArray) : filediff_Apply_2 N x y = some (cmpFile x y) := by
 simp [filediff_Apply_2, strings_Compare, internal_bytealg_CompareString, cmpFile]
def slices_SortFunc_api_File_api_File_S_filediff_Apply_2 (N : Nat) (l : List (ByteArray × ByteArray)) : Option (List (ByteArray × ByteArray)) := if 10 ≤ N ∧ l.length < 4611686018427387904 ∧ (∀ x ∈ l, ∀ y ∈ l, cmpFile x y = 0 → x = y) then some (l.mergeSort fun x y => !(Go.Proofs.ltOf cmpFile y x)) else none
theorem slices_SortFunc_api_File_api_File_len_filediff_Apply_2 {N : Nat} {l r : List (ByteArray × ByteArray)} (h : slices_SortFunc_api_File_api_File_S_filediff_Apply_2 N l = some r) : r.length = l.length := by
 unfold slices_SortFunc_api_File_api_File_S_filediff_Apply_2 at h
 split at h
 ·simp only [Option.some.injEq] at h; subst h; simp
 ·cases h
theorem slices_SortFunc_api_File_api_File_own_filediff_Apply_2 {N : Nat} {m : Mem} {own : List Piece} {w : World} {a : Option Addr} {nn cc : Nat} {T : List Value} {l r : List (ByteArray × ByteArray)} {e : TypeId} (st : St m (opc a (acellsM (fun x : ByteArray × ByteArray => ([.string x.1, .string x.2] : List Value)) l T) e :: own) w) (hs : OAS a nn cc 2 T) (hn : List.length l = nn) (h : slices_SortFunc_api_File_api_File_S_filediff_Apply_2 N l = some r) :
  Calls Tryz.prog 89 #[.slice a nn cc, .func (.func 90) #[] #[]] w fun e' w' => e' = .returned (.tuple #[]) ∧ St m (opc a (acellsM (fun x : ByteArray × ByteArray => ([.string x.1, .string x.2] : List Value)) r T) e :: own) w' := by
 unfold slices_SortFunc_api_File_api_File_S_filediff_Apply_2 at h
 split at h
 ·rename_i hb
  obtain ⟨hN, hlen, hties⟩ := hb
  simp only [Option.some.injEq] at h; subst h; subst hn
  exact Calls_sortKL (f := (fun x : ByteArray × ByteArray => ([.string x.1, .string x.2] : List Value))) (k := 2) sortLay89 Tryz.isAgg74 Tryz.sizeOf74 (fun _ => rfl) (fun _ _ hv => by simp only [List.mem_cons, List.not_mem_nil, or_false] at hv; rcases hv with rfl | rfl <;> rfl) cmpFile cmpFile_swo 90 (enters_of Tryz.func90 kr rfl) (fun x y W => by
   refine (filediff_Apply_2_ok (snap_st W) (filediff_Apply_2_T hN x y)).mono fun e' w' h => ?_
   obtain ⟨m', h1, h2, h3⟩ := h
   exact ⟨m', h1, h2, h3⟩) (fun x hx y hy h1 h2 => hties x hx y hy (by
    have a1 := cmpFile_anti y x
    simp only [Go.Proofs.ltOf, decide_eq_false_iff_not] at h1 h2
    have a2 := cmpFile_anti x y
    omega)) st hs hlen
 ·cases h
end Go.Proofs.YtgggihpbhmbjaaaGreatDoor
