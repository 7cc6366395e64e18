/- MADE BY gen.py: plain functions and the proofs that the Go functions compute them. No condition but those of each theorem. -/
import Derived.Test.YtgkjigejejofkaaProg
import Derived.Test.YtgkjigejejofkaaMap
import Derived.Test.YtgkjigejejofkaaTConq9A
namespace Go.Proofs.Ytgkjigejejofkaa
open Go Go.Dc

def wire_Next (N : Nat) (p0 : List UInt8) (p1 : Int) : Option ((Int × List UInt8) × Int × Int) :=
  (if (decide (p1 < 0)) = true then (some true) else (some (decide (p1 > (List.length p0 : Int)))) : Option (Bool)).bind fun o1 => if o1 = true then (some ((0, ([] : List (UInt8))), 0, 3)) else ((if (p1 == (List.length p0 : Int)) = true then (some (0, 7)) else ((idx p0 p1).bind fun x1 => if ((x1.toNat : Int) != 247) = true then (some (0, 6)) else (some (IntKind.wrap .i64 (p1 + 1), 0))) : Option (Int × Int)).bind fun o2 => if (o2.2 != 0) = true then (some ((0, ([] : List (UInt8))), 0, o2.2)) else ((if (o2.1 == (List.length p0 : Int)) = true then (some (0, 7, 0)) else ((idx p0 o2.1).bind fun x2 => if ((x2.toNat : Int) == 0) = true then (some (0, 6, 0)) else ((idx p0 o2.1).bind fun x3 => some (IntKind.wrap .i64 (o2.1 + 1), 0, IntKind.wrap .i64 (x3.toNat : Int)))) : Option (Int × Int × Int)).bind fun o3 => if (o3.2.1 != 0) = true then (some ((0, ([] : List (UInt8))), 0, o3.2.1)) else (((wire_Uint N p0 o3.1).bind fun y1 => if (y1.2.2 != 0) = true then (some (0, y1.2.2, ([] : List (UInt8)))) else (if (decide (y1.1 > 2097152)) = true then (some (0, 2, ([] : List (UInt8)))) else (if (decide ((IntKind.wrap .i64 ((IntKind.wrap .i64 y1.1) + 4)) > (IntKind.wrap .i64 ((List.length p0 : Int) - y1.2.1)))) = true then (some (0, 7, ([] : List (UInt8)))) else ((subS p0 y1.2.1 (IntKind.wrap .i64 (y1.2.1 + (IntKind.wrap .i64 y1.1)))).bind fun l1 => (appendS 1 ([] : List (UInt8)) l1).bind fun l2 => some (IntKind.wrap .i64 (y1.2.1 + (IntKind.wrap .i64 y1.1)), 0, l2)))) : Option (Int × Int × List (UInt8))).bind fun o4 => if (o4.2.1 != 0) = true then (some ((0, ([] : List (UInt8))), 0, o4.2.1)) else (((idx p0 o4.1).bind fun x4 => (idx p0 (IntKind.wrap .i64 (o4.1 + 1))).bind fun x5 => (idx p0 (IntKind.wrap .i64 (o4.1 + 2))).bind fun x6 => (idx p0 (IntKind.wrap .i64 (o4.1 + 3))).bind fun x7 => (subS p0 (IntKind.wrap .i64 (p1 + 1)) o4.1).bind fun l3 => (wire_Checksum N l3).bind fun y2 => if ((iOr .u32 (iOr .u32 (iOr .u32 (IntKind.wrap .u32 (x4.toNat : Int)) (IntKind.wrap .u32 ((IntKind.wrap .u32 (x5.toNat : Int)) * 2 ^ 8))) (IntKind.wrap .u32 ((IntKind.wrap .u32 (x6.toNat : Int)) * 2 ^ 16))) (IntKind.wrap .u32 ((IntKind.wrap .u32 (x7.toNat : Int)) * 2 ^ 24))) != y2) = true then (some (0, 8)) else (some (IntKind.wrap .i64 (o4.1 + 4), 0)) : Option (Int × Int)).bind fun o5 => if (o5.2 != 0) = true then (some ((0, ([] : List (UInt8))), 0, o5.2)) else (some ((o3.2.2, o4.2.2), o5.1, 0))))))

set_option maxHeartbeats 4000000 in
set_option maxRecDepth 100000 in
theorem wire_Next_ok {N : Nat} {m : Mem} {own : List Piece} {w : World} {p0 : List UInt8} {p1 : Int} {a1 : Option Addr} {c1 : Nat} {r : (Int × List UInt8) × Int × Int} (st : St m (own) w) (r1 : RepS cU8 m a1 c1 p0) (hr : wire_Next N p0 p1 = some r) : Calls Go.Proofs.Try.prog 36 #[.slice a1 (List.length p0) c1, .int .i64 p1] w fun e w' => ∃ (ra1 : Option Addr) (rc1 : Nat) (m' : Mem), e = .returned (.tuple #[.agg #[.int .i64 r.1.1, .slice ra1 (List.length r.1.2) rc1], .int .i64 r.2.1, .int .i64 r.2.2]) ∧ m.le m' ∧ St m' (.room ra1 (List.length r.1.2) rc1 5 1 :: own) w' ∧ RepS cU8 m' ra1 rc1 r.1.2 := by
  unfold wire_Next at hr
  have hm := m.le_refl
  refine W_calls Go.Proofs.Try.func36 rfl Go.Proofs.Try.ntmps36 [(0, .slice a1 (List.length p0) c1), (1, .int .i64 p1)] (by kernel_rfl) rfl ?_
  refine W_seq ?_
  refine W_region ?_
  refine WO_one rfl (One_alloc (d := 4) (e := 54) (.agg #[.int .i64 0, .slice none 0 0]) (by kernel_rfl) rfl (by kernel_rfl) st ?_)
  clear st
  intro b1 w1 st
  refine WO_seg 2 [] (by kernel_rfl) (by kernel_rfl) ?_
  refine WO_end rfl ?_
  refine X_then ?_
  refine W_seq ?_
  refine W_seq ?_
  refine W_region ?_
  replace hr := bindS hr
  obtain ⟨o1, hr, hrK⟩ := hr
  refine WO_cut (j := 8) (fun L' w' => ∃ (m1 : Mem), L' = [(0, .slice a1 (List.length p0) c1), (1, .int .i64 p1), (4, .pointer (some ⟨b1, 0, none⟩)), (16, .bool o1)] ∧ m.le m1 ∧ St m1 (.blk b1 (.cells #[.int .i64 0, .slice none (List.length ([] : List (UInt8))) 0] 54 (0, 0)) :: own) w' ∧ RepS cU8 m1 a1 c1 p0) ?_ ?_
  · clear hr st
    have hr := hrK
    clear hrK
    rintro _ w2 ⟨m1, rfl, hm, st, r1⟩
    refine WO_end rfl ?_
    refine X_then ?_
    refine W_cond o1 (by kernel_rfl) ?_ ?_
    · intro hc
      rw [if_pos hc] at hr
      refine W_seq ?_
      refine W_region ?_
      refine WO_seg 1 [(17, .agg #[.int .i64 0, .slice none (List.length ([] : List (UInt8))) 0])] (by kernel_rfl) (by kernel_rfl) ?_
      refine WO_one rfl (One_store (t := 54) (x := (.tmp 4)) (y := (.tmp 17)) (v := .agg #[.int .i64 0, .slice none (List.length ([] : List (UInt8))) 0]) (c' := #[.int .i64 0, .slice none (List.length ([] : List (UInt8))) 0]) (by kernel_rfl) (show evL _ _ = some (.pointer (some ⟨b1, 0, none⟩)) from (by kernel_rfl)) (show evL _ _ = some (.agg #[.int .i64 0, .slice none (List.length ([] : List (UInt8))) 0]) from (by kernel_rfl)) st (by kernel_rfl) (by kernel_rfl) ?_)
      clear st
      intro w3 st
      refine WO_seg 2 [(5, .int .i64 0), (6, .int .i64 3)] (by kernel_rfl) (by kernel_rfl) ?_
      refine WO_end rfl ?_
      refine X_then ?_
      refine W_ret ?_
      refine X_then_ret ?_
      obtain rfl := Option.some.inj hr
      refine X_ret [.cell 4 54, .tmp 5, .tmp 6] [.agg #[.int .i64 0, .slice none (List.length ([] : List (UInt8))) 0], .int .i64 0, .int .i64 3] rfl (ResAll.cons (ResAt.blk (v := .agg #[.int .i64 0, .slice none (List.length ([] : List (UInt8))) 0]) (o := 0) (by kernel_rfl) st.head (by kernel_rfl)) (ResAll.cons (ResAt.tmp (by kernel_rfl)) (ResAll.cons (ResAt.tmp (by kernel_rfl)) ResAll.nil))) ?_
      have st := st.nilroom 5 1
      have st := st.front1
      have st := st.tail
      exact ⟨none, 0, m1, rfl, hm, st, (RepS.nil _ _)⟩
    · intro hc
      rw [if_neg (not_true hc)] at hr
      refine W_skip ?_
      refine X_then ?_
      refine W_seq ?_
      refine W_region ?_
      refine WO_seg 2 [(5, .int .i64 p1)] (by kernel_rfl) (by kernel_rfl) ?_
      refine WO_end rfl ?_
      refine X_then ?_
      refine W_seq ?_
      refine W_seq ?_
      refine W_region ?_
      refine WO_seg 1 [(19, .int .i64 p1)] (by kernel_rfl) (by kernel_rfl) ?_
      refine WO_one rfl (One_fn 20 68 #[.int .i64 p1] (by kernel_rfl) rfl ?_)
      refine W_calls Go.Proofs.Try.func68 rfl Go.Proofs.Try.ntmps68 [(0, .int .i64 p1)] (by kernel_rfl) rfl ?_
      refine W_seq ?_
      refine W_region ?_
      refine WO_one rfl (One_box_own (d := 1) (e := 3) (x := (.tmp 0)) (.int .i64 p1) (by kernel_rfl) rfl (by kernel_rfl) st ?_)
      clear st
      intro b2 w4 st
      refine WO_seg 1 [] (by kernel_rfl) (by kernel_rfl) ?_
      refine WO_end rfl ?_
      refine X_then ?_
      refine W_seq ?_
      refine W_region ?_
      refine WO_seg 5 [(3, .agg #[.func (.func 72) #[] #[]]), (4, .agg #[.func (.func 73) #[] #[]]), (5, .agg #[.func (.func 74) #[] #[]]), (7, .agg #[.func (.func 75) #[] #[.pointer (some ⟨b2, 0, none⟩)]])] (by kernel_rfl) (by kernel_rfl) ?_
      refine WO_one rfl (One_buildRaw (d := 8) (t := 102) (e := 106) (len := 4) (parts := #[(0, (.tmp 3)), (1, (.tmp 4)), (2, (.tmp 5)), (3, (.tmp 7))]) [.func (.func 72) #[] #[], .func (.func 73) #[] #[], .func (.func 74) #[] #[], .func (.func 75) #[] #[.pointer (some ⟨b2, 0, none⟩)]] (by kernel_rfl) rfl (fun _ => buildCells_run (by kernel_rfl) _) st ?_)
      clear st
      intro b3 m3 w5 hle2 st hb2
      have hm := Mem.le_trans hm hle2
      have r1 := r1.mono hle2
      refine WO_seg 1 [(2, .slice (some ⟨b3, 0, none⟩) 4 4)] (by kernel_rfl) (by kernel_rfl) ?_
      refine WO_end rfl ?_
      refine X_then ?_
      refine W_ret ?_
      refine X_ret [.tmp 2] [.slice (some ⟨b3, 0, none⟩) 4 4] rfl (ResAll.cons (ResAt.tmp (by kernel_rfl)) ResAll.nil) ?_
      refine ⟨_, rfl, ?_⟩
      refine WO_seg 2 [(21, .int .i64 4), (22, .int .i64 0)] (by kernel_rfl) (by kernel_rfl) ?_
      refine WO_end rfl ?_
      refine X_then ?_
      refine W_block ?_
      refine W_unroll 6 ?_
      refine WR_succ ?_
      refine W_seq ?_
      refine W_region ?_
      refine WO_seg 1 [(23, .bool true)] (by kernel_rfl) (by kernel_rfl) ?_
      refine WO_end rfl ?_
      refine X_then ?_
      refine W_seq ?_
      refine W_cond true (by kernel_rfl) ?_ (fun h => Bool.noConfusion h)
      intro _
      refine W_skip ?_
      refine X_then ?_
      refine W_seq ?_
      refine W_block ?_
      refine W_seq ?_
      refine W_region ?_
      refine WO_seg 1 [(24, .pointer (some ⟨b3, 0, none⟩))] (by kernel_rfl) (by kernel_rfl) ?_
      refine WO_one rfl (One_load_row (d := 25) (t := 106) (x := (.tmp 24)) (.agg #[.func (.func 72) #[] #[]]) (by kernel_rfl) rfl (show evL _ _ = some (.pointer (some ⟨b3, 0, none⟩)) from (by kernel_rfl)) st hb2 (by kernel_rfl) ?_)
      refine WO_one rfl (One_alloc (d := 8) (e := 106) (.agg #[.nilFunc]) (by kernel_rfl) rfl (by kernel_rfl) st ?_)
      clear st
      intro b4 w6 st
      refine WO_one rfl (One_store (t := 106) (x := (.tmp 8)) (y := (.tmp 25)) (v := .agg #[.func (.func 72) #[] #[]]) (c' := #[.func (.func 72) #[] #[]]) (by kernel_rfl) (show evL _ _ = some (.pointer (some ⟨b4, 0, none⟩)) from (by kernel_rfl)) (show evL _ _ = some (.agg #[.func (.func 72) #[] #[]]) from (by kernel_rfl)) st (by kernel_rfl) (by kernel_rfl) ?_)
      clear st
      intro w7 st
      refine WO_end rfl ?_
      refine X_then ?_
      refine W_seq ?_
      refine W_region ?_
      refine WO_seg 1 [(27, .pointer (some ⟨b4, 0, none⟩))] (by kernel_rfl) (by kernel_rfl) ?_
      refine WO_one rfl (One_load_own (d := 28) (t := 104) (x := (.tmp 27)) (.func (.func 72) #[] #[]) (by kernel_rfl) rfl (show evL _ _ = some (.pointer (some ⟨b4, 0, none⟩)) from (by kernel_rfl)) st.head (by kernel_rfl) ?_)
      refine WO_seg 2 [(29, .slice a1 (List.length p0) c1), (30, .int .i64 p1)] (by kernel_rfl) (by kernel_rfl) ?_
      replace hr := bindS hr
      obtain ⟨o2, hr, hrKu1⟩ := hr
      refine WO_one rfl (One_fn 31 72 #[.slice a1 (List.length p0) c1, .int .i64 p1, .pointer (some ⟨b1, 0, none⟩)] (by kernel_rfl) rfl ?_)
      refine Calls_cut (fun v' w' => ∃ (m4 : Mem), v' = (.tuple #[.int .i64 o2.1, .int .i64 o2.2]) ∧ m.le m4 ∧ St m4 (.blk b4 (.cells #[.func (.func 72) #[] #[]] 106 (0, 0)) :: .blk b2 (.cells #[.int .i64 p1] 3 (0, 0)) :: .blk b1 (.cells #[.int .i64 0, .slice none (List.length ([] : List (UInt8))) 0] 54 (0, 0)) :: own) w' ∧ RepS cU8 m4 a1 c1 p0 ∧ MRow m4 b3 0 [.func (.func 72) #[] #[], .func (.func 73) #[] #[], .func (.func 74) #[] #[], .func (.func 75) #[] #[.pointer (some ⟨b2, 0, none⟩)]]) ?_ ?_
      · clear hr st
        have hr := hrKu1
        clear hrKu1
        rintro _ w8 ⟨m4, rfl, hm, st, r1, hb2⟩
        refine ⟨_, rfl, ?_⟩
        refine WO_seg 5 [(5, .int .i64 o2.1), (6, .int .i64 o2.2)] (by kernel_rfl) (by kernel_rfl) ?_
        refine WO_end rfl ?_
        refine X_then ?_
        refine W_seq ?_
        refine W_region ?_
        refine WO_seg 2 [(35, .bool (o2.2 != 0))] (by kernel_rfl) (by kernel_rfl) ?_
        refine WO_end rfl ?_
        refine X_then ?_
        refine W_cond (o2.2 != 0) (by kernel_rfl) ?_ ?_
        · intro hc
          rw [if_pos hc] at hr
          refine W_seq ?_
          refine W_region ?_
          refine WO_seg 2 [(36, .agg #[.int .i64 0, .slice none (List.length ([] : List (UInt8))) 0]), (37, .int .i64 o2.2)] (by kernel_rfl) (by kernel_rfl) ?_
          have st := st.front2
          refine WO_one rfl (One_store (t := 54) (x := (.tmp 4)) (y := (.tmp 36)) (v := .agg #[.int .i64 0, .slice none (List.length ([] : List (UInt8))) 0]) (c' := #[.int .i64 0, .slice none (List.length ([] : List (UInt8))) 0]) (by kernel_rfl) (show evL _ _ = some (.pointer (some ⟨b1, 0, none⟩)) from (by kernel_rfl)) (show evL _ _ = some (.agg #[.int .i64 0, .slice none (List.length ([] : List (UInt8))) 0]) from (by kernel_rfl)) st (by kernel_rfl) (by kernel_rfl) ?_)
          clear st
          intro w9 st
          refine WO_seg 2 [(5, .int .i64 0), (6, .int .i64 o2.2)] (by kernel_rfl) (by kernel_rfl) ?_
          refine WO_end rfl ?_
          refine X_then ?_
          refine W_ret ?_
          refine X_block_ret ?_
          refine X_then_ret ?_
          refine X_then_ret ?_
          refine X_block_ret ?_
          refine X_then_ret ?_
          obtain rfl := Option.some.inj hr
          refine X_ret [.cell 4 54, .tmp 5, .tmp 6] [.agg #[.int .i64 0, .slice none (List.length ([] : List (UInt8))) 0], .int .i64 0, .int .i64 o2.2] rfl (ResAll.cons (ResAt.blk (v := .agg #[.int .i64 0, .slice none (List.length ([] : List (UInt8))) 0]) (o := 0) (by kernel_rfl) st.head (by kernel_rfl)) (ResAll.cons (ResAt.tmp (by kernel_rfl)) (ResAll.cons (ResAt.tmp (by kernel_rfl)) ResAll.nil))) ?_
          have st := st.nilroom 5 1
          have st := st.front1
          have st := st.tail
          have st := st.front1
          have st := st.tail
          have st := st.front1
          have st := st.tail
          exact ⟨none, 0, m4, rfl, hm, st, (RepS.nil _ _)⟩
        · intro hc
          rw [if_neg (not_true hc)] at hr
          refine W_skip ?_
          refine X_block ?_
          refine X_then ?_
          refine W_region ?_
          refine WO_seg 2 [(22, .int .i64 1)] (by kernel_rfl) (by kernel_rfl) ?_
          refine WO_end rfl ?_
          refine X_again ?_
          refine WR_succ ?_
          refine W_seq ?_
          refine W_region ?_
          refine WO_seg 1 [(23, .bool true)] (by kernel_rfl) (by kernel_rfl) ?_
          refine WO_end rfl ?_
          refine X_then ?_
          refine W_seq ?_
          refine W_cond true (by kernel_rfl) ?_ (fun h => Bool.noConfusion h)
          intro _
          refine W_skip ?_
          refine X_then ?_
          refine W_seq ?_
          refine W_block ?_
          refine W_seq ?_
          refine W_region ?_
          refine WO_seg 1 [(24, .pointer (some ⟨b3, 1, none⟩))] (by kernel_rfl) (by kernel_rfl) ?_
          refine WO_one rfl (One_load_row (d := 25) (t := 106) (x := (.tmp 24)) (.agg #[.func (.func 73) #[] #[]]) (by kernel_rfl) rfl (show evL _ _ = some (.pointer (some ⟨b3, 1, none⟩)) from (by kernel_rfl)) st (hb2.drop 1) (by kernel_rfl) ?_)
          refine WO_one rfl (One_alloc (d := 8) (e := 106) (.agg #[.nilFunc]) (by kernel_rfl) rfl (by kernel_rfl) st ?_)
          clear st
          intro b6 w10 st
          refine WO_one rfl (One_store (t := 106) (x := (.tmp 8)) (y := (.tmp 25)) (v := .agg #[.func (.func 73) #[] #[]]) (c' := #[.func (.func 73) #[] #[]]) (by kernel_rfl) (show evL _ _ = some (.pointer (some ⟨b6, 0, none⟩)) from (by kernel_rfl)) (show evL _ _ = some (.agg #[.func (.func 73) #[] #[]]) from (by kernel_rfl)) st (by kernel_rfl) (by kernel_rfl) ?_)
          clear st
          intro w11 st
          refine WO_end rfl ?_
          refine X_then ?_
          refine W_seq ?_
          refine W_region ?_
          refine WO_seg 1 [(27, .pointer (some ⟨b6, 0, none⟩))] (by kernel_rfl) (by kernel_rfl) ?_
          refine WO_one rfl (One_load_own (d := 28) (t := 104) (x := (.tmp 27)) (.func (.func 73) #[] #[]) (by kernel_rfl) rfl (show evL _ _ = some (.pointer (some ⟨b6, 0, none⟩)) from (by kernel_rfl)) st.head (by kernel_rfl) ?_)
          refine WO_seg 2 [(29, .slice a1 (List.length p0) c1), (30, .int .i64 o2.1)] (by kernel_rfl) (by kernel_rfl) ?_
          replace hr := bindS hr
          obtain ⟨o3, hr, hrKu2⟩ := hr
          refine WO_one rfl (One_fn 31 73 #[.slice a1 (List.length p0) c1, .int .i64 o2.1, .pointer (some ⟨b1, 0, none⟩)] (by kernel_rfl) rfl ?_)
          refine Calls_cut (fun v' w' => ∃ (m5 : Mem), v' = (.tuple #[.int .i64 o3.1, .int .i64 o3.2.1]) ∧ m.le m5 ∧ St m5 (.blk b6 (.cells #[.func (.func 73) #[] #[]] 106 (0, 0)) :: .blk b4 (.cells #[.func (.func 72) #[] #[]] 106 (0, 0)) :: .blk b2 (.cells #[.int .i64 p1] 3 (0, 0)) :: .blk b1 (.cells #[.int .i64 o3.2.2, .slice none (List.length ([] : List (UInt8))) 0] 54 (0, 0)) :: own) w' ∧ RepS cU8 m5 a1 c1 p0 ∧ MRow m5 b3 0 [.func (.func 72) #[] #[], .func (.func 73) #[] #[], .func (.func 74) #[] #[], .func (.func 75) #[] #[.pointer (some ⟨b2, 0, none⟩)]]) ?_ ?_
          · clear hr st
            have hr := hrKu2
            clear hrKu2
            rintro _ w12 ⟨m5, rfl, hm, st, r1, hb2⟩
            refine ⟨_, rfl, ?_⟩
            refine WO_seg 5 [(5, .int .i64 o3.1), (6, .int .i64 o3.2.1)] (by kernel_rfl) (by kernel_rfl) ?_
            refine WO_end rfl ?_
            refine X_then ?_
            refine W_seq ?_
            refine W_region ?_
            refine WO_seg 2 [(35, .bool (o3.2.1 != 0))] (by kernel_rfl) (by kernel_rfl) ?_
            refine WO_end rfl ?_
            refine X_then ?_
            refine W_cond (o3.2.1 != 0) (by kernel_rfl) ?_ ?_
            · intro hc
              rw [if_pos hc] at hr
              refine W_seq ?_
              refine W_region ?_
              refine WO_seg 2 [(36, .agg #[.int .i64 0, .slice none (List.length ([] : List (UInt8))) 0]), (37, .int .i64 o3.2.1)] (by kernel_rfl) (by kernel_rfl) ?_
              have st := st.front3
              refine WO_one rfl (One_store (t := 54) (x := (.tmp 4)) (y := (.tmp 36)) (v := .agg #[.int .i64 0, .slice none (List.length ([] : List (UInt8))) 0]) (c' := #[.int .i64 0, .slice none (List.length ([] : List (UInt8))) 0]) (by kernel_rfl) (show evL _ _ = some (.pointer (some ⟨b1, 0, none⟩)) from (by kernel_rfl)) (show evL _ _ = some (.agg #[.int .i64 0, .slice none (List.length ([] : List (UInt8))) 0]) from (by kernel_rfl)) st (by kernel_rfl) (by kernel_rfl) ?_)
              clear st
              intro w14 st
              refine WO_seg 2 [(5, .int .i64 0), (6, .int .i64 o3.2.1)] (by kernel_rfl) (by kernel_rfl) ?_
              refine WO_end rfl ?_
              refine X_then ?_
              refine W_ret ?_
              refine X_block_ret ?_
              refine X_then_ret ?_
              refine X_then_ret ?_
              refine X_block_ret ?_
              refine X_then_ret ?_
              obtain rfl := Option.some.inj hr
              refine X_ret [.cell 4 54, .tmp 5, .tmp 6] [.agg #[.int .i64 0, .slice none (List.length ([] : List (UInt8))) 0], .int .i64 0, .int .i64 o3.2.1] rfl (ResAll.cons (ResAt.blk (v := .agg #[.int .i64 0, .slice none (List.length ([] : List (UInt8))) 0]) (o := 0) (by kernel_rfl) st.head (by kernel_rfl)) (ResAll.cons (ResAt.tmp (by kernel_rfl)) (ResAll.cons (ResAt.tmp (by kernel_rfl)) ResAll.nil))) ?_
              have st := st.nilroom 5 1
              have st := st.front1
              have st := st.tail
              have st := st.front1
              have st := st.tail
              have st := st.front1
              have st := st.tail
              have st := st.front1
              have st := st.tail
              exact ⟨none, 0, m5, rfl, hm, st, (RepS.nil _ _)⟩
            · intro hc
              rw [if_neg (not_true hc)] at hr
              refine W_skip ?_
              refine X_block ?_
              refine X_then ?_
              refine W_region ?_
              refine WO_seg 2 [(22, .int .i64 2)] (by kernel_rfl) (by kernel_rfl) ?_
              refine WO_end rfl ?_
              refine X_again ?_
              refine WR_succ ?_
              refine W_seq ?_
              refine W_region ?_
              refine WO_seg 1 [(23, .bool true)] (by kernel_rfl) (by kernel_rfl) ?_
              refine WO_end rfl ?_
              refine X_then ?_
              refine W_seq ?_
              refine W_cond true (by kernel_rfl) ?_ (fun h => Bool.noConfusion h)
              intro _
              refine W_skip ?_
              refine X_then ?_
              refine W_seq ?_
              refine W_block ?_
              refine W_seq ?_
              refine W_region ?_
              refine WO_seg 1 [(24, .pointer (some ⟨b3, 2, none⟩))] (by kernel_rfl) (by kernel_rfl) ?_
              refine WO_one rfl (One_load_row (d := 25) (t := 106) (x := (.tmp 24)) (.agg #[.func (.func 74) #[] #[]]) (by kernel_rfl) rfl (show evL _ _ = some (.pointer (some ⟨b3, 2, none⟩)) from (by kernel_rfl)) st (hb2.drop 2) (by kernel_rfl) ?_)
              refine WO_one rfl (One_alloc (d := 8) (e := 106) (.agg #[.nilFunc]) (by kernel_rfl) rfl (by kernel_rfl) st ?_)
              clear st
              intro b9 w15 st
              refine WO_one rfl (One_store (t := 106) (x := (.tmp 8)) (y := (.tmp 25)) (v := .agg #[.func (.func 74) #[] #[]]) (c' := #[.func (.func 74) #[] #[]]) (by kernel_rfl) (show evL _ _ = some (.pointer (some ⟨b9, 0, none⟩)) from (by kernel_rfl)) (show evL _ _ = some (.agg #[.func (.func 74) #[] #[]]) from (by kernel_rfl)) st (by kernel_rfl) (by kernel_rfl) ?_)
              clear st
              intro w16 st
              refine WO_end rfl ?_
              refine X_then ?_
              refine W_seq ?_
              refine W_region ?_
              refine WO_seg 1 [(27, .pointer (some ⟨b9, 0, none⟩))] (by kernel_rfl) (by kernel_rfl) ?_
              refine WO_one rfl (One_load_own (d := 28) (t := 104) (x := (.tmp 27)) (.func (.func 74) #[] #[]) (by kernel_rfl) rfl (show evL _ _ = some (.pointer (some ⟨b9, 0, none⟩)) from (by kernel_rfl)) st.head (by kernel_rfl) ?_)
              refine WO_seg 2 [(29, .slice a1 (List.length p0) c1), (30, .int .i64 o3.1)] (by kernel_rfl) (by kernel_rfl) ?_
              replace hr := bindS hr
              obtain ⟨o4, hr, hrKu3⟩ := hr
              refine WO_one rfl (One_fn 31 74 #[.slice a1 (List.length p0) c1, .int .i64 o3.1, .pointer (some ⟨b1, 0, none⟩)] (by kernel_rfl) rfl ?_)
              refine Calls_cut (fun v' w' => ∃ (a2 : Option Addr) (c2 : Nat) (m6 : Mem), v' = (.tuple #[.int .i64 o4.1, .int .i64 o4.2.1]) ∧ m.le m6 ∧ St m6 (.blk b9 (.cells #[.func (.func 74) #[] #[]] 106 (0, 0)) :: .blk b6 (.cells #[.func (.func 73) #[] #[]] 106 (0, 0)) :: .blk b4 (.cells #[.func (.func 72) #[] #[]] 106 (0, 0)) :: .blk b2 (.cells #[.int .i64 p1] 3 (0, 0)) :: .blk b1 (.cells #[.int .i64 o3.2.2, .slice a2 (List.length o4.2.2) c2] 54 (0, 0)) :: .room a2 (List.length o4.2.2) c2 5 1 :: own) w' ∧ RepS cU8 m6 a1 c1 p0 ∧ MRow m6 b3 0 [.func (.func 72) #[] #[], .func (.func 73) #[] #[], .func (.func 74) #[] #[], .func (.func 75) #[] #[.pointer (some ⟨b2, 0, none⟩)]] ∧ RepS cU8 m6 a2 c2 o4.2.2) ?_ ?_
              · clear hr st
                have hr := hrKu3
                clear hrKu3
                rintro _ w17 ⟨a2, c2, m6, rfl, hm, st, r1, hb2, r2⟩
                refine ⟨_, rfl, ?_⟩
                refine WO_seg 5 [(5, .int .i64 o4.1), (6, .int .i64 o4.2.1)] (by kernel_rfl) (by kernel_rfl) ?_
                refine WO_end rfl ?_
                refine X_then ?_
                refine W_seq ?_
                refine W_region ?_
                refine WO_seg 2 [(35, .bool (o4.2.1 != 0))] (by kernel_rfl) (by kernel_rfl) ?_
                refine WO_end rfl ?_
                refine X_then ?_
                refine W_cond (o4.2.1 != 0) (by kernel_rfl) ?_ ?_
                · intro hc
                  rw [if_pos hc] at hr
                  refine W_seq ?_
                  refine W_region ?_
                  refine WO_seg 2 [(36, .agg #[.int .i64 0, .slice none (List.length ([] : List (UInt8))) 0]), (37, .int .i64 o4.2.1)] (by kernel_rfl) (by kernel_rfl) ?_
                  have st := st.front4
                  refine WO_one rfl (One_store (t := 54) (x := (.tmp 4)) (y := (.tmp 36)) (v := .agg #[.int .i64 0, .slice none (List.length ([] : List (UInt8))) 0]) (c' := #[.int .i64 0, .slice none (List.length ([] : List (UInt8))) 0]) (by kernel_rfl) (show evL _ _ = some (.pointer (some ⟨b1, 0, none⟩)) from (by kernel_rfl)) (show evL _ _ = some (.agg #[.int .i64 0, .slice none (List.length ([] : List (UInt8))) 0]) from (by kernel_rfl)) st (by kernel_rfl) (by kernel_rfl) ?_)
                  clear st
                  intro w21 st
                  refine WO_seg 2 [(5, .int .i64 0), (6, .int .i64 o4.2.1)] (by kernel_rfl) (by kernel_rfl) ?_
                  refine WO_end rfl ?_
                  have st := st.front5
                  have st := st.tail
                  refine X_then ?_
                  refine W_ret ?_
                  refine X_block_ret ?_
                  refine X_then_ret ?_
                  refine X_then_ret ?_
                  refine X_block_ret ?_
                  refine X_then_ret ?_
                  obtain rfl := Option.some.inj hr
                  refine X_ret [.cell 4 54, .tmp 5, .tmp 6] [.agg #[.int .i64 0, .slice none (List.length ([] : List (UInt8))) 0], .int .i64 0, .int .i64 o4.2.1] rfl (ResAll.cons (ResAt.blk (v := .agg #[.int .i64 0, .slice none (List.length ([] : List (UInt8))) 0]) (o := 0) (by kernel_rfl) st.head (by kernel_rfl)) (ResAll.cons (ResAt.tmp (by kernel_rfl)) (ResAll.cons (ResAt.tmp (by kernel_rfl)) ResAll.nil))) ?_
                  have st := st.nilroom 5 1
                  have st := st.front1
                  have st := st.tail
                  have st := st.front1
                  have st := st.tail
                  have st := st.front1
                  have st := st.tail
                  have st := st.front1
                  have st := st.tail
                  have st := st.front1
                  have st := st.tail
                  exact ⟨none, 0, m6, rfl, hm, st, (RepS.nil _ _)⟩
                · intro hc
                  rw [if_neg (not_true hc)] at hr
                  refine W_skip ?_
                  refine X_block ?_
                  refine X_then ?_
                  refine W_region ?_
                  refine WO_seg 2 [(22, .int .i64 3)] (by kernel_rfl) (by kernel_rfl) ?_
                  refine WO_end rfl ?_
                  refine X_again ?_
                  refine WR_succ ?_
                  refine W_seq ?_
                  refine W_region ?_
                  refine WO_seg 1 [(23, .bool true)] (by kernel_rfl) (by kernel_rfl) ?_
                  refine WO_end rfl ?_
                  refine X_then ?_
                  refine W_seq ?_
                  refine W_cond true (by kernel_rfl) ?_ (fun h => Bool.noConfusion h)
                  intro _
                  refine W_skip ?_
                  refine X_then ?_
                  refine W_seq ?_
                  refine W_block ?_
                  refine W_seq ?_
                  refine W_region ?_
                  refine WO_seg 1 [(24, .pointer (some ⟨b3, 3, none⟩))] (by kernel_rfl) (by kernel_rfl) ?_
                  refine WO_one rfl (One_load_row (d := 25) (t := 106) (x := (.tmp 24)) (.agg #[.func (.func 75) #[] #[.pointer (some ⟨b2, 0, none⟩)]]) (by kernel_rfl) rfl (show evL _ _ = some (.pointer (some ⟨b3, 3, none⟩)) from (by kernel_rfl)) st (hb2.drop 3) (by kernel_rfl) ?_)
                  refine WO_one rfl (One_alloc (d := 8) (e := 106) (.agg #[.nilFunc]) (by kernel_rfl) rfl (by kernel_rfl) st ?_)
                  clear st
                  intro b10 w22 st
                  refine WO_one rfl (One_store (t := 106) (x := (.tmp 8)) (y := (.tmp 25)) (v := .agg #[.func (.func 75) #[] #[.pointer (some ⟨b2, 0, none⟩)]]) (c' := #[.func (.func 75) #[] #[.pointer (some ⟨b2, 0, none⟩)]]) (by kernel_rfl) (show evL _ _ = some (.pointer (some ⟨b10, 0, none⟩)) from (by kernel_rfl)) (show evL _ _ = some (.agg #[.func (.func 75) #[] #[.pointer (some ⟨b2, 0, none⟩)]]) from (by kernel_rfl)) st (by kernel_rfl) (by kernel_rfl) ?_)
                  clear st
                  intro w23 st
                  refine WO_end rfl ?_
                  refine X_then ?_
                  refine W_seq ?_
                  refine W_region ?_
                  refine WO_seg 1 [(27, .pointer (some ⟨b10, 0, none⟩))] (by kernel_rfl) (by kernel_rfl) ?_
                  refine WO_one rfl (One_load_own (d := 28) (t := 104) (x := (.tmp 27)) (.func (.func 75) #[] #[.pointer (some ⟨b2, 0, none⟩)]) (by kernel_rfl) rfl (show evL _ _ = some (.pointer (some ⟨b10, 0, none⟩)) from (by kernel_rfl)) st.head (by kernel_rfl) ?_)
                  refine WO_seg 2 [(29, .slice a1 (List.length p0) c1), (30, .int .i64 o4.1)] (by kernel_rfl) (by kernel_rfl) ?_
                  replace hr := bindS hr
                  obtain ⟨o5, hr, hrKu4⟩ := hr
                  refine WO_one rfl (One_fn 31 75 #[.slice a1 (List.length p0) c1, .int .i64 o4.1, .pointer (some ⟨b1, 0, none⟩), .pointer (some ⟨b2, 0, none⟩)] (by kernel_rfl) rfl ?_)
                  refine Calls_cut (fun v' w' => ∃ (m9 : Mem), v' = (.tuple #[.int .i64 o5.1, .int .i64 o5.2]) ∧ m.le m9 ∧ St m9 (.blk b10 (.cells #[.func (.func 75) #[] #[.pointer (some ⟨b2, 0, none⟩)]] 106 (0, 0)) :: .blk b9 (.cells #[.func (.func 74) #[] #[]] 106 (0, 0)) :: .blk b6 (.cells #[.func (.func 73) #[] #[]] 106 (0, 0)) :: .blk b4 (.cells #[.func (.func 72) #[] #[]] 106 (0, 0)) :: .blk b2 (.cells #[.int .i64 p1] 3 (0, 0)) :: .blk b1 (.cells #[.int .i64 o3.2.2, .slice a2 (List.length o4.2.2) c2] 54 (0, 0)) :: .room a2 (List.length o4.2.2) c2 5 1 :: own) w' ∧ RepS cU8 m9 a1 c1 p0 ∧ MRow m9 b3 0 [.func (.func 72) #[] #[], .func (.func 73) #[] #[], .func (.func 74) #[] #[], .func (.func 75) #[] #[.pointer (some ⟨b2, 0, none⟩)]] ∧ RepS cU8 m9 a2 c2 o4.2.2) ?_ ?_
                  · clear hr st
                    have hr := hrKu4
                    clear hrKu4
                    rintro _ w24 ⟨m9, rfl, hm, st, r1, hb2, r2⟩
                    refine ⟨_, rfl, ?_⟩
                    refine WO_seg 5 [(5, .int .i64 o5.1), (6, .int .i64 o5.2)] (by kernel_rfl) (by kernel_rfl) ?_
                    refine WO_end rfl ?_
                    refine X_then ?_
                    refine W_seq ?_
                    refine W_region ?_
                    refine WO_seg 2 [(35, .bool (o5.2 != 0))] (by kernel_rfl) (by kernel_rfl) ?_
                    refine WO_end rfl ?_
                    refine X_then ?_
                    refine W_cond (o5.2 != 0) (by kernel_rfl) ?_ ?_
                    · intro hc
                      rw [if_pos hc] at hr
                      refine W_seq ?_
                      refine W_region ?_
                      refine WO_seg 2 [(36, .agg #[.int .i64 0, .slice none (List.length ([] : List (UInt8))) 0]), (37, .int .i64 o5.2)] (by kernel_rfl) (by kernel_rfl) ?_
                      have st := st.front5
                      refine WO_one rfl (One_store (t := 54) (x := (.tmp 4)) (y := (.tmp 36)) (v := .agg #[.int .i64 0, .slice none (List.length ([] : List (UInt8))) 0]) (c' := #[.int .i64 0, .slice none (List.length ([] : List (UInt8))) 0]) (by kernel_rfl) (show evL _ _ = some (.pointer (some ⟨b1, 0, none⟩)) from (by kernel_rfl)) (show evL _ _ = some (.agg #[.int .i64 0, .slice none (List.length ([] : List (UInt8))) 0]) from (by kernel_rfl)) st (by kernel_rfl) (by kernel_rfl) ?_)
                      clear st
                      intro w27 st
                      refine WO_seg 2 [(5, .int .i64 0), (6, .int .i64 o5.2)] (by kernel_rfl) (by kernel_rfl) ?_
                      refine WO_end rfl ?_
                      have st := st.front6
                      have st := st.tail
                      refine X_then ?_
                      refine W_ret ?_
                      refine X_block_ret ?_
                      refine X_then_ret ?_
                      refine X_then_ret ?_
                      refine X_block_ret ?_
                      refine X_then_ret ?_
                      obtain rfl := Option.some.inj hr
                      refine X_ret [.cell 4 54, .tmp 5, .tmp 6] [.agg #[.int .i64 0, .slice none (List.length ([] : List (UInt8))) 0], .int .i64 0, .int .i64 o5.2] rfl (ResAll.cons (ResAt.blk (v := .agg #[.int .i64 0, .slice none (List.length ([] : List (UInt8))) 0]) (o := 0) (by kernel_rfl) st.head (by kernel_rfl)) (ResAll.cons (ResAt.tmp (by kernel_rfl)) (ResAll.cons (ResAt.tmp (by kernel_rfl)) ResAll.nil))) ?_
                      have st := st.nilroom 5 1
                      have st := st.front1
                      have st := st.tail
                      have st := st.front1
                      have st := st.tail
                      have st := st.front1
                      have st := st.tail
                      have st := st.front1
                      have st := st.tail
                      have st := st.front1
                      have st := st.tail
                      have st := st.front1
                      have st := st.tail
                      exact ⟨none, 0, m9, rfl, hm, st, (RepS.nil _ _)⟩
                    · intro hc
                      rw [if_neg (not_true hc)] at hr
                      refine W_skip ?_
                      refine X_block ?_
                      refine X_then ?_
                      refine W_region ?_
                      refine WO_seg 2 [(22, .int .i64 4)] (by kernel_rfl) (by kernel_rfl) ?_
                      refine WO_end rfl ?_
                      refine X_again ?_
                      refine WR_succ ?_
                      refine W_seq ?_
                      refine W_region ?_
                      refine WO_seg 1 [(23, .bool false)] (by kernel_rfl) (by kernel_rfl) ?_
                      refine WO_end rfl ?_
                      refine X_then ?_
                      refine W_seq ?_
                      refine W_cond false (by kernel_rfl) (fun h => Bool.noConfusion h) ?_
                      intro _
                      refine W_exit ?_
                      refine X_then_exit ?_
                      refine X_then_exit ?_
                      refine X_block_eq ?_
                      refine X_then ?_
                      refine W_seq ?_
                      refine W_region ?_
                      refine WO_one rfl (One_load_own (d := 39) (t := 54) (x := (.tmp 4)) (.agg #[.int .i64 o3.2.2, .slice a2 (List.length o4.2.2) c2]) (by kernel_rfl) rfl (show evL _ _ = some (.pointer (some ⟨b1, 0, none⟩)) from (by kernel_rfl)) st.tail.tail.tail.tail.tail.head (by kernel_rfl) ?_)
                      refine WO_seg 1 [(40, .int .i64 o5.1)] (by kernel_rfl) (by kernel_rfl) ?_
                      have st := st.front5
                      refine WO_one rfl (One_store (t := 54) (x := (.tmp 4)) (y := (.tmp 39)) (v := .agg #[.int .i64 o3.2.2, .slice a2 (List.length o4.2.2) c2]) (c' := #[.int .i64 o3.2.2, .slice a2 (List.length o4.2.2) c2]) (by kernel_rfl) (show evL _ _ = some (.pointer (some ⟨b1, 0, none⟩)) from (by kernel_rfl)) (show evL _ _ = some (.agg #[.int .i64 o3.2.2, .slice a2 (List.length o4.2.2) c2]) from (by kernel_rfl)) st (by kernel_rfl) (by kernel_rfl) ?_)
                      clear st
                      intro w28 st
                      refine WO_seg 2 [(5, .int .i64 o5.1), (6, .int .i64 0)] (by kernel_rfl) (by kernel_rfl) ?_
                      refine WO_end rfl ?_
                      refine X_then ?_
                      refine W_ret ?_
                      obtain rfl := Option.some.inj hr
                      refine X_ret [.cell 4 54, .tmp 5, .tmp 6] [.agg #[.int .i64 o3.2.2, .slice a2 (List.length o4.2.2) c2], .int .i64 o5.1, .int .i64 0] rfl (ResAll.cons (ResAt.blk (v := .agg #[.int .i64 o3.2.2, .slice a2 (List.length o4.2.2) c2]) (o := 0) (by kernel_rfl) st.head (by kernel_rfl)) (ResAll.cons (ResAt.tmp (by kernel_rfl)) (ResAll.cons (ResAt.tmp (by kernel_rfl)) ResAll.nil))) ?_
                      have st := st.tail
                      have st := st.tail
                      have st := st.tail
                      have st := st.tail
                      have st := st.tail
                      have st := st.tail
                      exact ⟨a2, c2, m9, rfl, hm, st, r2⟩
                  · clear hrKu4
                    refine W_calls Go.Proofs.Try.func75 rfl Go.Proofs.Try.ntmps75 [(0, .slice a1 (List.length p0) c1), (1, .int .i64 o4.1), (2, .pointer (some ⟨b1, 0, none⟩)), (3, .pointer (some ⟨b2, 0, none⟩))] (by kernel_rfl) rfl ?_
                    refine W_seq ?_
                    refine W_region ?_
                    refine WO_seg 2 [] (by kernel_rfl) (by kernel_rfl) ?_
                    refine WO_end rfl ?_
                    refine X_then ?_
                    refine W_seq ?_
                    refine W_draw [(30, fun w' => Inv m6 w' ∧ True)] (by kernel_rfl) st ?_
                    clear st
                    intro w25 _ st
                    have hmS := m6.le_refl
                    refine ⟨⟨.inr ⟨Inv.anti st.inv hmS, trivial⟩, trivial⟩, ?_⟩
                    refine WA_pure 0 10 (.slice a1 (List.length p0) c1) (by kernel_rfl) rfl (by kernel_rfl) (.head _) (QP_then QP_body) ?_
                    refine WA_pure 1 11 (.int .i64 o4.1) (by kernel_rfl) rfl (by kernel_rfl) (.head _) (QP_then QP_body) ?_
                    replace hr := bindS hr
                    obtain ⟨x4, hx7, hr⟩ := hr
                    refine WA_index (t := 50) (e := 5) (x := (.tmp 10)) (y := (.tmp 11)) 2 12 cU8 (by kernel_rfl) rfl (by kernel_rfl) (.head _) (QP_then QP_body) (show evL _ _ = some (.slice a1 (List.length p0) c1) from (by kernel_rfl)) (show evL _ _ = some (.int .i64 o4.1) from (by kernel_rfl)) (by kernel_rfl) r1 hx7 ?_
                    rintro b11 f4 cs4 rfl hq4
                    refine WA_load_row (t := 5) (x := (.tmp 12)) 3 13 (.int .u8 (x4.toNat : Int)) (by kernel_rfl) rfl (by kernel_rfl) (.head _) (QP_then QP_body) (fun _ h => h.1) (show evL _ _ = some (.pointer (some ⟨b11, f4, none⟩)) from (by kernel_rfl)) hq4 (by kernel_rfl) ?_
                    refine WA_pure 4 14 (.int .u32 (IntKind.wrap .u32 (x4.toNat : Int))) (by kernel_rfl) rfl (by kernel_rfl) (.head _) (QP_then QP_body) ?_
                    refine WA_pure 5 15 (.slice a1 (List.length p0) c1) (by kernel_rfl) rfl (by kernel_rfl) (.head _) (QP_then QP_body) ?_
                    refine WA_pure 6 16 (.int .i64 o4.1) (by kernel_rfl) rfl (by kernel_rfl) (.head _) (QP_then QP_body) ?_
                    refine WA_pure 7 17 (.int .i64 (IntKind.wrap .i64 (o4.1 + 1))) (by kernel_rfl) rfl (by kernel_rfl) (.head _) (QP_then QP_body) ?_
                    replace hr := bindS hr
                    obtain ⟨x5, hx8, hr⟩ := hr
                    refine WA_index (t := 50) (e := 5) (x := (.tmp 15)) (y := (.tmp 17)) 8 18 cU8 (by kernel_rfl) rfl (by kernel_rfl) (.head _) (QP_then QP_body) (show evL _ _ = some (.slice a1 (List.length p0) c1) from (by kernel_rfl)) (show evL _ _ = some (.int .i64 (IntKind.wrap .i64 (o4.1 + 1))) from (by kernel_rfl)) (by kernel_rfl) r1 hx8 ?_
                    rintro b12 f5 cs5 rfl hq5
                    refine WA_load_row (t := 5) (x := (.tmp 18)) 9 19 (.int .u8 (x5.toNat : Int)) (by kernel_rfl) rfl (by kernel_rfl) (.head _) (QP_then QP_body) (fun _ h => h.1) (show evL _ _ = some (.pointer (some ⟨b12, f5, none⟩)) from (by kernel_rfl)) hq5 (by kernel_rfl) ?_
                    refine WA_pure 10 20 (.int .u32 (IntKind.wrap .u32 (x5.toNat : Int))) (by kernel_rfl) rfl (by kernel_rfl) (.head _) (QP_then QP_body) ?_
                    refine WA_pure 11 21 (.int .u32 (IntKind.wrap .u32 ((IntKind.wrap .u32 (x5.toNat : Int)) * 2 ^ 8))) (by kernel_rfl) rfl (by kernel_rfl) (.head _) (QP_then QP_body) ?_
                    refine WA_pure 12 22 (.int .u32 (iOr .u32 (IntKind.wrap .u32 (x4.toNat : Int)) (IntKind.wrap .u32 ((IntKind.wrap .u32 (x5.toNat : Int)) * 2 ^ 8)))) (by kernel_rfl) rfl (by kernel_rfl) (.head _) (QP_then QP_body) ?_
                    refine WA_pure 13 23 (.slice a1 (List.length p0) c1) (by kernel_rfl) rfl (by kernel_rfl) (.head _) (QP_then QP_body) ?_
                    refine WA_pure 14 24 (.int .i64 o4.1) (by kernel_rfl) rfl (by kernel_rfl) (.head _) (QP_then QP_body) ?_
                    refine WA_pure 15 25 (.int .i64 (IntKind.wrap .i64 (o4.1 + 2))) (by kernel_rfl) rfl (by kernel_rfl) (.head _) (QP_then QP_body) ?_
                    replace hr := bindS hr
                    obtain ⟨x6, hx9, hr⟩ := hr
                    refine WA_index (t := 50) (e := 5) (x := (.tmp 23)) (y := (.tmp 25)) 16 26 cU8 (by kernel_rfl) rfl (by kernel_rfl) (.head _) (QP_then QP_body) (show evL _ _ = some (.slice a1 (List.length p0) c1) from (by kernel_rfl)) (show evL _ _ = some (.int .i64 (IntKind.wrap .i64 (o4.1 + 2))) from (by kernel_rfl)) (by kernel_rfl) r1 hx9 ?_
                    rintro b13 f6 cs6 rfl hq6
                    refine WA_load_row (t := 5) (x := (.tmp 26)) 17 27 (.int .u8 (x6.toNat : Int)) (by kernel_rfl) rfl (by kernel_rfl) (.head _) (QP_then QP_body) (fun _ h => h.1) (show evL _ _ = some (.pointer (some ⟨b13, f6, none⟩)) from (by kernel_rfl)) hq6 (by kernel_rfl) ?_
                    refine WA_pure 18 28 (.int .u32 (IntKind.wrap .u32 (x6.toNat : Int))) (by kernel_rfl) rfl (by kernel_rfl) (.head _) (QP_then QP_body) ?_
                    refine WA_pure 19 29 (.int .u32 (IntKind.wrap .u32 ((IntKind.wrap .u32 (x6.toNat : Int)) * 2 ^ 16))) (by kernel_rfl) rfl (by kernel_rfl) (.head _) (QP_then QP_body) ?_
                    refine WA_pure 20 30 (.int .u32 (iOr .u32 (iOr .u32 (IntKind.wrap .u32 (x4.toNat : Int)) (IntKind.wrap .u32 ((IntKind.wrap .u32 (x5.toNat : Int)) * 2 ^ 8))) (IntKind.wrap .u32 ((IntKind.wrap .u32 (x6.toNat : Int)) * 2 ^ 16)))) (by kernel_rfl) rfl (by kernel_rfl) (.head _) (QP_then QP_body) ?_
                    refine WA_pure 21 31 (.slice a1 (List.length p0) c1) (by kernel_rfl) rfl (by kernel_rfl) (.head _) (QP_then QP_body) ?_
                    refine WA_pure 22 32 (.int .i64 o4.1) (by kernel_rfl) rfl (by kernel_rfl) (.head _) (QP_then QP_body) ?_
                    refine WA_pure 23 33 (.int .i64 (IntKind.wrap .i64 (o4.1 + 3))) (by kernel_rfl) rfl (by kernel_rfl) (.head _) (QP_then QP_body) ?_
                    replace hr := bindS hr
                    obtain ⟨x7, hx10, hr⟩ := hr
                    refine WA_index (t := 50) (e := 5) (x := (.tmp 31)) (y := (.tmp 33)) 24 34 cU8 (by kernel_rfl) rfl (by kernel_rfl) (.head _) (QP_then QP_body) (show evL _ _ = some (.slice a1 (List.length p0) c1) from (by kernel_rfl)) (show evL _ _ = some (.int .i64 (IntKind.wrap .i64 (o4.1 + 3))) from (by kernel_rfl)) (by kernel_rfl) r1 hx10 ?_
                    rintro b14 f7 cs7 rfl hq7
                    refine WA_load_row (t := 5) (x := (.tmp 34)) 25 35 (.int .u8 (x7.toNat : Int)) (by kernel_rfl) rfl (by kernel_rfl) (.head _) (QP_then QP_body) (fun _ h => h.1) (show evL _ _ = some (.pointer (some ⟨b14, f7, none⟩)) from (by kernel_rfl)) hq7 (by kernel_rfl) ?_
                    refine WA_pure 26 36 (.int .u32 (IntKind.wrap .u32 (x7.toNat : Int))) (by kernel_rfl) rfl (by kernel_rfl) (.head _) (QP_then QP_body) ?_
                    refine WA_pure 27 37 (.int .u32 (IntKind.wrap .u32 ((IntKind.wrap .u32 (x7.toNat : Int)) * 2 ^ 24))) (by kernel_rfl) rfl (by kernel_rfl) (.head _) (QP_then QP_body) ?_
                    refine WA_pure 28 38 (.int .u32 (iOr .u32 (iOr .u32 (iOr .u32 (IntKind.wrap .u32 (x4.toNat : Int)) (IntKind.wrap .u32 ((IntKind.wrap .u32 (x5.toNat : Int)) * 2 ^ 8))) (IntKind.wrap .u32 ((IntKind.wrap .u32 (x6.toNat : Int)) * 2 ^ 16))) (IntKind.wrap .u32 ((IntKind.wrap .u32 (x7.toNat : Int)) * 2 ^ 24)))) (by kernel_rfl) rfl (by kernel_rfl) (.head _) (QP_then QP_body) ?_
                    refine WA_pure 29 9 (.int .u32 (iOr .u32 (iOr .u32 (iOr .u32 (IntKind.wrap .u32 (x4.toNat : Int)) (IntKind.wrap .u32 ((IntKind.wrap .u32 (x5.toNat : Int)) * 2 ^ 8))) (IntKind.wrap .u32 ((IntKind.wrap .u32 (x6.toNat : Int)) * 2 ^ 16))) (IntKind.wrap .u32 ((IntKind.wrap .u32 (x7.toNat : Int)) * 2 ^ 24)))) (by kernel_rfl) rfl (by kernel_rfl) (.head _) (QP_then QP_body) ?_
                    refine WA_done (by kernel_rfl) ?_
                    refine X_then ?_
                    refine W_seq ?_
                    refine W_seq ?_
                    refine W_region ?_
                    refine WO_seg 2 [(39, .int .u32 (iOr .u32 (iOr .u32 (iOr .u32 (IntKind.wrap .u32 (x4.toNat : Int)) (IntKind.wrap .u32 ((IntKind.wrap .u32 (x5.toNat : Int)) * 2 ^ 8))) (IntKind.wrap .u32 ((IntKind.wrap .u32 (x6.toNat : Int)) * 2 ^ 16))) (IntKind.wrap .u32 ((IntKind.wrap .u32 (x7.toNat : Int)) * 2 ^ 24)))), (40, .slice a1 (List.length p0) c1)] (by kernel_rfl) (by kernel_rfl) ?_
                    refine WO_one rfl (One_load_own (d := 41) (t := 3) (x := (.tmp 3)) (.int .i64 p1) (by kernel_rfl) rfl (show evL _ _ = some (.pointer (some ⟨b2, 0, none⟩)) from (by kernel_rfl)) st.tail.tail.tail.tail.head (by kernel_rfl) ?_)
                    refine WO_seg 2 [(42, .int .i64 (IntKind.wrap .i64 (p1 + 1))), (43, .int .i64 o4.1)] (by kernel_rfl) (by kernel_rfl) ?_
                    replace hr := bindS hr
                    obtain ⟨l3, hx11, hr⟩ := hr
                    refine WO_one rfl (One_slice (d := 44) (t := 50) (e := 5) (x := (.tmp 40)) (lo := (some (.tmp 42))) (hi := (some (.tmp 43))) cU8 (by kernel_rfl) rfl (show evL _ _ = some (.slice a1 (List.length p0) c1) from (by kernel_rfl)) (by kernel_rfl) r1 (.inr ⟨_, _, rfl, (show evL _ _ = some (.int .i64 (IntKind.wrap .i64 (p1 + 1))) from (by kernel_rfl))⟩) (.inr ⟨_, _, rfl, (show evL _ _ = some (.int .i64 o4.1) from (by kernel_rfl))⟩) hx11 ?_)
                    intro a5 c5 r5
                    replace hr := bindS hr
                    obtain ⟨y2, hx12, hr⟩ := hr
                    refine WO_one rfl (One_fn 45 34 #[.slice a5 (List.length l3) c5] (by kernel_rfl) rfl ?_)
                    refine (wire_Checksum_ok st r5 hx12).mono ?_
                    clear st
                    rintro _ w26 ⟨m10, rfl, hle5, st⟩
                    refine ⟨_, rfl, ?_⟩
                    have hm := Mem.le_trans hm hle5
                    have r1 := r1.mono hle5
                    have r5 := r5.mono hle5
                    have hb2 := hb2.mono hle5
                    have r2 := r2.mono hle5
                    refine WO_seg 1 [(46, .bool ((iOr .u32 (iOr .u32 (iOr .u32 (IntKind.wrap .u32 (x4.toNat : Int)) (IntKind.wrap .u32 ((IntKind.wrap .u32 (x5.toNat : Int)) * 2 ^ 8))) (IntKind.wrap .u32 ((IntKind.wrap .u32 (x6.toNat : Int)) * 2 ^ 16))) (IntKind.wrap .u32 ((IntKind.wrap .u32 (x7.toNat : Int)) * 2 ^ 24))) != y2))] (by kernel_rfl) (by kernel_rfl) ?_
                    refine WO_end rfl ?_
                    refine X_then ?_
                    refine W_cond ((iOr .u32 (iOr .u32 (iOr .u32 (IntKind.wrap .u32 (x4.toNat : Int)) (IntKind.wrap .u32 ((IntKind.wrap .u32 (x5.toNat : Int)) * 2 ^ 8))) (IntKind.wrap .u32 ((IntKind.wrap .u32 (x6.toNat : Int)) * 2 ^ 16))) (IntKind.wrap .u32 ((IntKind.wrap .u32 (x7.toNat : Int)) * 2 ^ 24))) != y2) (by kernel_rfl) ?_ ?_
                    · intro hc
                      rw [if_pos hc] at hr
                      refine W_seq ?_
                      refine W_region ?_
                      refine WO_seg 2 [(7, .int .i64 0), (8, .int .i64 8)] (by kernel_rfl) (by kernel_rfl) ?_
                      refine WO_end rfl ?_
                      refine X_then ?_
                      refine W_ret ?_
                      refine X_then_ret ?_
                      obtain rfl := Option.some.inj hr
                      refine X_ret [.tmp 7, .tmp 8] [.int .i64 0, .int .i64 8] rfl (ResAll.cons (ResAt.tmp (by kernel_rfl)) (ResAll.cons (ResAt.tmp (by kernel_rfl)) ResAll.nil)) ?_
                      have st := st.front6
                      have st := st.front6
                      have st := st.front6
                      have st := st.front6
                      have st := st.front6
                      have st := st.front6
                      have st := st.front6
                      exact ⟨_, rfl, ⟨m10, rfl, hm, st, r1, hb2, r2⟩⟩
                    · intro hc
                      rw [if_neg (not_true hc)] at hr
                      refine W_skip ?_
                      refine X_then ?_
                      refine W_seq ?_
                      refine W_region ?_
                      refine WO_seg 4 [(7, .int .i64 (IntKind.wrap .i64 (o4.1 + 4))), (8, .int .i64 0)] (by kernel_rfl) (by kernel_rfl) ?_
                      refine WO_end rfl ?_
                      refine X_then ?_
                      refine W_ret ?_
                      obtain rfl := Option.some.inj hr
                      refine X_ret [.tmp 7, .tmp 8] [.int .i64 (IntKind.wrap .i64 (o4.1 + 4)), .int .i64 0] rfl (ResAll.cons (ResAt.tmp (by kernel_rfl)) (ResAll.cons (ResAt.tmp (by kernel_rfl)) ResAll.nil)) ?_
                      have st := st.front6
                      have st := st.front6
                      have st := st.front6
                      have st := st.front6
                      have st := st.front6
                      have st := st.front6
                      have st := st.front6
                      exact ⟨_, rfl, ⟨m10, rfl, hm, st, r1, hb2, r2⟩⟩
              · clear hrKu3
                refine W_calls Go.Proofs.Try.func74 rfl Go.Proofs.Try.ntmps74 [(0, .slice a1 (List.length p0) c1), (1, .int .i64 o3.1), (2, .pointer (some ⟨b1, 0, none⟩))] (by kernel_rfl) rfl ?_
                refine W_seq ?_
                refine W_region ?_
                refine WO_seg 2 [] (by kernel_rfl) (by kernel_rfl) ?_
                refine WO_end rfl ?_
                refine X_then ?_
                refine W_seq ?_
                refine W_region ?_
                refine WO_seg 2 [(12, .slice a1 (List.length p0) c1), (13, .int .i64 o3.1)] (by kernel_rfl) (by kernel_rfl) ?_
                replace hr := bindS hr
                obtain ⟨y1, hx4, hr⟩ := hr
                refine WO_one rfl (One_fn 14 49 #[.slice a1 (List.length p0) c1, .int .i64 o3.1] (by kernel_rfl) rfl ?_)
                refine (wire_Uint_ok st r1 hx4).mono ?_
                clear st
                rintro _ w18 ⟨m7, rfl, hle3, st⟩
                refine ⟨_, rfl, ?_⟩
                have hm := Mem.le_trans hm hle3
                have r1 := r1.mono hle3
                have hb2 := hb2.mono hle3
                refine WO_seg 7 [(8, .int .u64 y1.1), (9, .int .i64 y1.2.1), (10, .int .i64 y1.2.2)] (by kernel_rfl) (by kernel_rfl) ?_
                refine WO_end rfl ?_
                refine X_then ?_
                refine W_seq ?_
                refine W_block ?_
                refine W_seq ?_
                refine W_region ?_
                refine WO_seg 3 [(18, .bool (y1.2.2 != 0))] (by kernel_rfl) (by kernel_rfl) ?_
                refine WO_end rfl ?_
                refine X_then ?_
                refine W_cond (y1.2.2 != 0) (by kernel_rfl) ?_ ?_
                · intro hc
                  rw [if_pos hc] at hr
                  refine W_seq ?_
                  refine W_region ?_
                  refine WO_seg 3 [(6, .int .i64 0), (7, .int .i64 y1.2.2)] (by kernel_rfl) (by kernel_rfl) ?_
                  refine WO_end rfl ?_
                  refine X_then ?_
                  refine W_ret ?_
                  refine X_block_ret ?_
                  refine X_then_ret ?_
                  obtain rfl := Option.some.inj hr
                  refine X_ret [.tmp 6, .tmp 7] [.int .i64 0, .int .i64 y1.2.2] rfl (ResAll.cons (ResAt.tmp (by kernel_rfl)) (ResAll.cons (ResAt.tmp (by kernel_rfl)) ResAll.nil)) ?_
                  have st := st.nilroom 5 1
                  have st := st.front5
                  have st := st.front5
                  have st := st.front5
                  have st := st.front5
                  have st := st.front5
                  exact ⟨_, rfl, ⟨none, 0, m7, rfl, hm, st, r1, hb2, (RepS.nil _ _)⟩⟩
                · intro hc
                  rw [if_neg (not_true hc)] at hr
                  refine W_seq ?_
                  refine W_region ?_
                  refine WO_seg 3 [(22, .bool (decide (y1.1 > 2097152)))] (by kernel_rfl) (by kernel_rfl) ?_
                  refine WO_end rfl ?_
                  refine X_then ?_
                  refine W_cond (decide (y1.1 > 2097152)) (by kernel_rfl) ?_ ?_
                  · intro hc
                    rw [if_pos hc] at hr
                    refine W_seq ?_
                    refine W_region ?_
                    refine WO_seg 2 [(6, .int .i64 0), (7, .int .i64 2)] (by kernel_rfl) (by kernel_rfl) ?_
                    refine WO_end rfl ?_
                    refine X_then ?_
                    refine W_ret ?_
                    refine X_block_ret ?_
                    refine X_then_ret ?_
                    obtain rfl := Option.some.inj hr
                    refine X_ret [.tmp 6, .tmp 7] [.int .i64 0, .int .i64 2] rfl (ResAll.cons (ResAt.tmp (by kernel_rfl)) (ResAll.cons (ResAt.tmp (by kernel_rfl)) ResAll.nil)) ?_
                    have st := st.nilroom 5 1
                    have st := st.front5
                    have st := st.front5
                    have st := st.front5
                    have st := st.front5
                    have st := st.front5
                    exact ⟨_, rfl, ⟨none, 0, m7, rfl, hm, st, r1, hb2, (RepS.nil _ _)⟩⟩
                  · intro hc
                    rw [if_neg (not_true hc)] at hr
                    refine W_seq ?_
                    refine W_region ?_
                    refine WO_seg 9 [(25, .bool (decide ((IntKind.wrap .i64 ((IntKind.wrap .i64 y1.1) + 4)) > (IntKind.wrap .i64 ((List.length p0 : Int) - y1.2.1)))))] (by kernel_rfl) (by kernel_rfl) ?_
                    refine WO_end rfl ?_
                    refine X_then ?_
                    refine W_cond (decide ((IntKind.wrap .i64 ((IntKind.wrap .i64 y1.1) + 4)) > (IntKind.wrap .i64 ((List.length p0 : Int) - y1.2.1)))) (by kernel_rfl) ?_ ?_
                    · intro hc
                      rw [if_pos hc] at hr
                      refine W_seq ?_
                      refine W_region ?_
                      refine WO_seg 2 [(6, .int .i64 0), (7, .int .i64 7)] (by kernel_rfl) (by kernel_rfl) ?_
                      refine WO_end rfl ?_
                      refine X_then ?_
                      refine W_ret ?_
                      refine X_block_ret ?_
                      refine X_then_ret ?_
                      obtain rfl := Option.some.inj hr
                      refine X_ret [.tmp 6, .tmp 7] [.int .i64 0, .int .i64 7] rfl (ResAll.cons (ResAt.tmp (by kernel_rfl)) (ResAll.cons (ResAt.tmp (by kernel_rfl)) ResAll.nil)) ?_
                      have st := st.nilroom 5 1
                      have st := st.front5
                      have st := st.front5
                      have st := st.front5
                      have st := st.front5
                      have st := st.front5
                      exact ⟨_, rfl, ⟨none, 0, m7, rfl, hm, st, r1, hb2, (RepS.nil _ _)⟩⟩
                    · intro hc
                      rw [if_neg (not_true hc)] at hr
                      refine W_skip ?_
                      refine X_block ?_
                      refine X_then ?_
                      refine W_seq ?_
                      refine W_region ?_
                      refine WO_seg 7 [(34, .pointer (some ⟨b1, 0, none⟩)), (35, .slice a1 (List.length p0) c1), (36, .int .i64 y1.2.1), (40, .int .i64 (IntKind.wrap .i64 (y1.2.1 + (IntKind.wrap .i64 y1.1))))] (by kernel_rfl) (by kernel_rfl) ?_
                      replace hr := bindS hr
                      obtain ⟨l1, hx5, hr⟩ := hr
                      refine WO_one rfl (One_slice (d := 41) (t := 50) (e := 5) (x := (.tmp 35)) (lo := (some (.tmp 36))) (hi := (some (.tmp 40))) cU8 (by kernel_rfl) rfl (show evL _ _ = some (.slice a1 (List.length p0) c1) from (by kernel_rfl)) (by kernel_rfl) r1 (.inr ⟨_, _, rfl, (show evL _ _ = some (.int .i64 y1.2.1) from (by kernel_rfl))⟩) (.inr ⟨_, _, rfl, (show evL _ _ = some (.int .i64 (IntKind.wrap .i64 (y1.2.1 + (IntKind.wrap .i64 y1.1)))) from (by kernel_rfl))⟩) hx5 ?_)
                      intro a3 c3 r3
                      have st := st.nilroom 5 1
                      replace hr := bindS hr
                      obtain ⟨l2, hx6, hr⟩ := hr
                      refine WO_one rfl (One_append (d := 42) (t := 50) (u := 50) (e := 5) (by_ := 1) (x := (.const (.slice none 0 0))) (y := (.tmp 41)) cU8 (by kernel_rfl) rfl (show evL _ _ = some (.slice none (List.length ([] : List (UInt8))) 0) from (by kernel_rfl)) (show evL _ _ = some (.slice a3 (List.length l1) c3) from (by kernel_rfl)) st (by kernel_rfl) (.inl (by kernel_rfl)) (RepS.nil _ _) r3.src hx6 ?_)
                      clear st
                      intro a4 c4 m8 w19 hle4 st r4
                      have hm := Mem.le_trans hm hle4
                      have r1 := r1.mono hle4
                      have r3 := r3.mono hle4
                      have hb2 := hb2.mono hle4
                      refine WO_seg 2 [(44, .pointer (some ⟨b1, 1, none⟩))] (by kernel_rfl) (by kernel_rfl) ?_
                      have st := st.front5
                      refine WO_one rfl (One_store (t := 50) (x := (.tmp 44)) (y := (.tmp 42)) (v := .slice a4 (List.length l2) c4) (c' := #[.int .i64 o3.2.2, .slice a4 (List.length l2) c4]) (by kernel_rfl) (show evL _ _ = some (.pointer (some ⟨b1, 1, none⟩)) from (by kernel_rfl)) (show evL _ _ = some (.slice a4 (List.length l2) c4) from (by kernel_rfl)) st (by kernel_rfl) (by kernel_rfl) ?_)
                      clear st
                      intro w20 st
                      refine WO_end rfl ?_
                      refine X_then ?_
                      refine W_seq ?_
                      refine W_region ?_
                      refine WO_seg 6 [(6, .int .i64 (IntKind.wrap .i64 (y1.2.1 + (IntKind.wrap .i64 y1.1)))), (7, .int .i64 0)] (by kernel_rfl) (by kernel_rfl) ?_
                      refine WO_end rfl ?_
                      refine X_then ?_
                      refine W_ret ?_
                      obtain rfl := Option.some.inj hr
                      refine X_ret [.tmp 6, .tmp 7] [.int .i64 (IntKind.wrap .i64 (y1.2.1 + (IntKind.wrap .i64 y1.1))), .int .i64 0] rfl (ResAll.cons (ResAt.tmp (by kernel_rfl)) (ResAll.cons (ResAt.tmp (by kernel_rfl)) ResAll.nil)) ?_
                      have st := st.front1
                      have st := st.front1
                      have st := st.front5
                      have st := st.front5
                      have st := st.front5
                      have st := st.front5
                      exact ⟨_, rfl, ⟨a4, c4, m8, rfl, hm, st, r1, hb2, r4⟩⟩
          · clear hrKu2
            refine W_calls Go.Proofs.Try.func73 rfl Go.Proofs.Try.ntmps73 [(0, .slice a1 (List.length p0) c1), (1, .int .i64 o2.1), (2, .pointer (some ⟨b1, 0, none⟩))] (by kernel_rfl) rfl ?_
            refine W_seq ?_
            refine W_region ?_
            refine WO_seg 2 [] (by kernel_rfl) (by kernel_rfl) ?_
            refine WO_end rfl ?_
            refine X_then ?_
            refine W_seq ?_
            refine W_block ?_
            refine W_seq ?_
            refine W_region ?_
            refine WO_seg 5 [(8, .bool (o2.1 == (List.length p0 : Int)))] (by kernel_rfl) (by kernel_rfl) ?_
            refine WO_end rfl ?_
            refine X_then ?_
            refine W_cond (o2.1 == (List.length p0 : Int)) (by kernel_rfl) ?_ ?_
            · intro hc
              rw [if_pos hc] at hr
              refine W_seq ?_
              refine W_region ?_
              refine WO_seg 2 [(6, .int .i64 0), (7, .int .i64 7)] (by kernel_rfl) (by kernel_rfl) ?_
              refine WO_end rfl ?_
              refine X_then ?_
              refine W_ret ?_
              refine X_block_ret ?_
              refine X_then_ret ?_
              obtain rfl := Option.some.inj hr
              refine X_ret [.tmp 6, .tmp 7] [.int .i64 0, .int .i64 7] rfl (ResAll.cons (ResAt.tmp (by kernel_rfl)) (ResAll.cons (ResAt.tmp (by kernel_rfl)) ResAll.nil)) ?_
              have st := st.front3
              have st := st.front3
              have st := st.front3
              have st := st.front3
              exact ⟨_, rfl, ⟨m4, rfl, hm, st, r1, hb2⟩⟩
            · intro hc
              rw [if_neg (not_true hc)] at hr
              refine W_seq ?_
              refine W_region ?_
              refine WO_seg 2 [(14, .slice a1 (List.length p0) c1), (15, .int .i64 o2.1)] (by kernel_rfl) (by kernel_rfl) ?_
              replace hr := bindS hr
              obtain ⟨x2, hx2, hr⟩ := hr
              refine WO_one rfl (One_index (d := 16) (t := 50) (e := 5) (x := (.tmp 14)) (y := (.tmp 15)) cU8 (by kernel_rfl) rfl (show evL _ _ = some (.slice a1 (List.length p0) c1) from (by kernel_rfl)) (show evL _ _ = some (.int .i64 o2.1) from (by kernel_rfl)) (by kernel_rfl) r1 hx2 ?_)
              rintro b7 f2 cs2 rfl hq2
              refine WO_one rfl (One_load_row (d := 17) (t := 5) (x := (.tmp 16)) (.int .u8 (x2.toNat : Int)) (by kernel_rfl) rfl (show evL _ _ = some (.pointer (some ⟨b7, f2, none⟩)) from (by kernel_rfl)) st hq2 (by kernel_rfl) ?_)
              refine WO_seg 2 [(13, .bool ((x2.toNat : Int) == 0))] (by kernel_rfl) (by kernel_rfl) ?_
              refine WO_end rfl ?_
              refine X_then ?_
              refine W_cond ((x2.toNat : Int) == 0) (by kernel_rfl) ?_ ?_
              · intro hc
                rw [if_pos hc] at hr
                refine W_seq ?_
                refine W_region ?_
                refine WO_seg 2 [(6, .int .i64 0), (7, .int .i64 6)] (by kernel_rfl) (by kernel_rfl) ?_
                refine WO_end rfl ?_
                refine X_then ?_
                refine W_ret ?_
                refine X_block_ret ?_
                refine X_then_ret ?_
                obtain rfl := Option.some.inj hr
                refine X_ret [.tmp 6, .tmp 7] [.int .i64 0, .int .i64 6] rfl (ResAll.cons (ResAt.tmp (by kernel_rfl)) (ResAll.cons (ResAt.tmp (by kernel_rfl)) ResAll.nil)) ?_
                have st := st.front3
                have st := st.front3
                have st := st.front3
                have st := st.front3
                exact ⟨_, rfl, ⟨m4, rfl, hm, st, r1, hb2⟩⟩
              · intro hc
                rw [if_neg (not_true hc)] at hr
                refine W_skip ?_
                refine X_block ?_
                refine X_then ?_
                refine W_seq ?_
                refine W_region ?_
                refine WO_seg 3 [(19, .pointer (some ⟨b1, 0, none⟩)), (20, .slice a1 (List.length p0) c1), (21, .int .i64 o2.1)] (by kernel_rfl) (by kernel_rfl) ?_
                replace hr := bindS hr
                obtain ⟨x3, hx3, hr⟩ := hr
                refine WO_one rfl (One_index (d := 22) (t := 50) (e := 5) (x := (.tmp 20)) (y := (.tmp 21)) cU8 (by kernel_rfl) rfl (show evL _ _ = some (.slice a1 (List.length p0) c1) from (by kernel_rfl)) (show evL _ _ = some (.int .i64 o2.1) from (by kernel_rfl)) (by kernel_rfl) r1 hx3 ?_)
                rintro b8 f3 cs3 rfl hq3
                refine WO_one rfl (One_load_row (d := 23) (t := 5) (x := (.tmp 22)) (.int .u8 (x3.toNat : Int)) (by kernel_rfl) rfl (show evL _ _ = some (.pointer (some ⟨b8, f3, none⟩)) from (by kernel_rfl)) st hq3 (by kernel_rfl) ?_)
                refine WO_seg 3 [(24, .int .i64 (IntKind.wrap .i64 (x3.toNat : Int))), (26, .pointer (some ⟨b1, 0, none⟩))] (by kernel_rfl) (by kernel_rfl) ?_
                have st := st.front3
                refine WO_one rfl (One_store (t := 3) (x := (.tmp 26)) (y := (.tmp 24)) (v := .int .i64 (IntKind.wrap .i64 (x3.toNat : Int))) (c' := #[.int .i64 (IntKind.wrap .i64 (x3.toNat : Int)), .slice none (List.length ([] : List (UInt8))) 0]) (by kernel_rfl) (show evL _ _ = some (.pointer (some ⟨b1, 0, none⟩)) from (by kernel_rfl)) (show evL _ _ = some (.int .i64 (IntKind.wrap .i64 (x3.toNat : Int))) from (by kernel_rfl)) st (by kernel_rfl) (by kernel_rfl) ?_)
                clear st
                intro w13 st
                refine WO_end rfl ?_
                refine X_then ?_
                refine W_seq ?_
                refine W_region ?_
                refine WO_seg 4 [(6, .int .i64 (IntKind.wrap .i64 (o2.1 + 1))), (7, .int .i64 0)] (by kernel_rfl) (by kernel_rfl) ?_
                refine WO_end rfl ?_
                refine X_then ?_
                refine W_ret ?_
                obtain rfl := Option.some.inj hr
                refine X_ret [.tmp 6, .tmp 7] [.int .i64 (IntKind.wrap .i64 (o2.1 + 1)), .int .i64 0] rfl (ResAll.cons (ResAt.tmp (by kernel_rfl)) (ResAll.cons (ResAt.tmp (by kernel_rfl)) ResAll.nil)) ?_
                have st := st.front3
                have st := st.front3
                have st := st.front3
                exact ⟨_, rfl, ⟨m4, rfl, hm, st, r1, hb2⟩⟩
      · clear hrKu1
        refine W_calls Go.Proofs.Try.func72 rfl Go.Proofs.Try.ntmps72 [(0, .slice a1 (List.length p0) c1), (1, .int .i64 p1), (2, .pointer (some ⟨b1, 0, none⟩))] (by kernel_rfl) rfl ?_
        refine W_seq ?_
        refine W_region ?_
        refine WO_seg 2 [] (by kernel_rfl) (by kernel_rfl) ?_
        refine WO_end rfl ?_
        refine X_then ?_
        refine W_seq ?_
        refine W_block ?_
        refine W_seq ?_
        refine W_region ?_
        refine WO_seg 5 [(8, .bool (p1 == (List.length p0 : Int)))] (by kernel_rfl) (by kernel_rfl) ?_
        refine WO_end rfl ?_
        refine X_then ?_
        refine W_cond (p1 == (List.length p0 : Int)) (by kernel_rfl) ?_ ?_
        · intro hc
          rw [if_pos hc] at hr
          refine W_seq ?_
          refine W_region ?_
          refine WO_seg 2 [(6, .int .i64 0), (7, .int .i64 7)] (by kernel_rfl) (by kernel_rfl) ?_
          refine WO_end rfl ?_
          refine X_then ?_
          refine W_ret ?_
          refine X_block_ret ?_
          refine X_then_ret ?_
          obtain rfl := Option.some.inj hr
          refine X_ret [.tmp 6, .tmp 7] [.int .i64 0, .int .i64 7] rfl (ResAll.cons (ResAt.tmp (by kernel_rfl)) (ResAll.cons (ResAt.tmp (by kernel_rfl)) ResAll.nil)) ?_
          have st := st.front2
          have st := st.front2
          have st := st.front2
          exact ⟨_, rfl, ⟨m3, rfl, hm, st, r1, hb2⟩⟩
        · intro hc
          rw [if_neg (not_true hc)] at hr
          refine W_seq ?_
          refine W_region ?_
          refine WO_seg 2 [(14, .slice a1 (List.length p0) c1), (15, .int .i64 p1)] (by kernel_rfl) (by kernel_rfl) ?_
          replace hr := bindS hr
          obtain ⟨x1, hx1, hr⟩ := hr
          refine WO_one rfl (One_index (d := 16) (t := 50) (e := 5) (x := (.tmp 14)) (y := (.tmp 15)) cU8 (by kernel_rfl) rfl (show evL _ _ = some (.slice a1 (List.length p0) c1) from (by kernel_rfl)) (show evL _ _ = some (.int .i64 p1) from (by kernel_rfl)) (by kernel_rfl) r1 hx1 ?_)
          rintro b5 f1 cs1 rfl hq1
          refine WO_one rfl (One_load_row (d := 17) (t := 5) (x := (.tmp 16)) (.int .u8 (x1.toNat : Int)) (by kernel_rfl) rfl (show evL _ _ = some (.pointer (some ⟨b5, f1, none⟩)) from (by kernel_rfl)) st hq1 (by kernel_rfl) ?_)
          refine WO_seg 2 [(13, .bool ((x1.toNat : Int) != 247))] (by kernel_rfl) (by kernel_rfl) ?_
          refine WO_end rfl ?_
          refine X_then ?_
          refine W_cond ((x1.toNat : Int) != 247) (by kernel_rfl) ?_ ?_
          · intro hc
            rw [if_pos hc] at hr
            refine W_seq ?_
            refine W_region ?_
            refine WO_seg 2 [(6, .int .i64 0), (7, .int .i64 6)] (by kernel_rfl) (by kernel_rfl) ?_
            refine WO_end rfl ?_
            refine X_then ?_
            refine W_ret ?_
            refine X_block_ret ?_
            refine X_then_ret ?_
            obtain rfl := Option.some.inj hr
            refine X_ret [.tmp 6, .tmp 7] [.int .i64 0, .int .i64 6] rfl (ResAll.cons (ResAt.tmp (by kernel_rfl)) (ResAll.cons (ResAt.tmp (by kernel_rfl)) ResAll.nil)) ?_
            have st := st.front2
            have st := st.front2
            have st := st.front2
            exact ⟨_, rfl, ⟨m3, rfl, hm, st, r1, hb2⟩⟩
          · intro hc
            rw [if_neg (not_true hc)] at hr
            refine W_skip ?_
            refine X_block ?_
            refine X_then ?_
            refine W_seq ?_
            refine W_region ?_
            refine WO_seg 4 [(6, .int .i64 (IntKind.wrap .i64 (p1 + 1))), (7, .int .i64 0)] (by kernel_rfl) (by kernel_rfl) ?_
            refine WO_end rfl ?_
            refine X_then ?_
            refine W_ret ?_
            obtain rfl := Option.some.inj hr
            refine X_ret [.tmp 6, .tmp 7] [.int .i64 (IntKind.wrap .i64 (p1 + 1)), .int .i64 0] rfl (ResAll.cons (ResAt.tmp (by kernel_rfl)) (ResAll.cons (ResAt.tmp (by kernel_rfl)) ResAll.nil)) ?_
            have st := st.front2
            have st := st.front2
            have st := st.front2
            exact ⟨_, rfl, ⟨m3, rfl, hm, st, r1, hb2⟩⟩
  · intro K
    clear hrK
    refine WO_seg 3 [(11, .bool (decide (p1 < 0)))] (by kernel_rfl) (by kernel_rfl) ?_
    rcases bcases (decide (p1 < 0)) with hc | hc
    · rw [if_pos hc] at hr
      refine WO_fact (t := 11) (b := true) (decide (p1 < 0)) (by kernel_rfl) hc ?_
      refine WO_seg 5 [(16, .bool true)] (by kernel_rfl) (by kernel_rfl) ?_
      obtain rfl := Option.some.inj hr
      exact WO_env _ (by kernel_rfl) (K _ _ ⟨m, rfl, hm, st, r1⟩)
    · rw [if_neg (not_true hc)] at hr
      refine WO_fact (t := 11) (b := false) (decide (p1 < 0)) (by kernel_rfl) hc ?_
      refine WO_seg 5 [(16, .bool (decide (p1 > (List.length p0 : Int))))] (by kernel_rfl) (by kernel_rfl) ?_
      obtain rfl := Option.some.inj hr
      exact WO_env _ (by kernel_rfl) (K _ _ ⟨m, rfl, hm, st, r1⟩)

def wire_Frames_L1 (N : Nat) (p0 : List UInt8) (s1 : Int × Int × Int × (List (Int × List UInt8)) × Nat) : Option ((Int × Int × Int × (List (Int × List UInt8)) × Nat) ⊕ ((Int × Int × (List (Int × List UInt8)) × Nat) ⊕ (Int × Int × (List (Int × List UInt8)) × Nat))) :=
  if (decide (s1.1 < (List.length p0 : Int))) = true then ((wire_Next N p0 s1.1).bind fun y1 => (if s1.2.2.2.2 = 0 then (if (y1.2.2 != 0) = true then (some (true, y1.2.2, s1.2.2.1, s1.2.2.2.1, 1)) else ((appendS 32 s1.2.2.2.1 ([(y1.1.1, y1.1.2)])).bind fun l2 => some (y1.2.2 != 0, s1.2.1, y1.2.1, l2, 0))) else none : Option (Bool × Int × Int × (List (Int × List UInt8)) × Nat)).bind fun o3 => if o3.1 = true then (some (.inr (.inr ((o3.2.1, o3.2.2.1, o3.2.2.2.1, o3.2.2.2.2))))) else (some (.inl (y1.2.1, o3.2.1, o3.2.2.1, o3.2.2.2.1, o3.2.2.2.2)))) else (some (.inr (.inl (s1.2.1, s1.2.2.1, s1.2.2.2.1, s1.2.2.2.2))))

def wire_Frames (N : Nat) (p0 : List UInt8) : Option ((List (Int × List UInt8)) × Int × Int) :=
  ((loopM (wire_Frames_L1 N p0) N (0, 0, 0, ([] : List (Int × List UInt8)), 0)).bind fun out1 => (match out1 with | .inl o2 => some (o2.1, o2.2.1, o2.2.2.1, o2.2.2.2) | .inr (z) => some z) : Option (Int × Int × (List (Int × List UInt8)) × Nat)).bind fun o1 => if o1.2.2.2 = 0 then (some (o1.2.2.1, o1.2.1, 0)) else (if o1.2.2.2 = 1 then (some (o1.2.2.1, o1.2.1, o1.1)) else none)

set_option maxHeartbeats 4000000 in
set_option maxRecDepth 100000 in
theorem wire_Frames_ok {N : Nat} {m : Mem} {own : List Piece} {w : World} {p0 : List UInt8} {a1 : Option Addr} {c1 : Nat} {r : (List (Int × List UInt8)) × Int × Int} (st : St m (own) w) (r1 : RepS cU8 m a1 c1 p0) (hr : wire_Frames N p0 = some r) : Calls Go.Proofs.Try.prog 39 #[.slice a1 (List.length p0) c1] w fun e w' => ∃ (ra1 : Option Addr) (rc1 : Nat) (m' : Mem), e = .returned (.tuple #[.slice ra1 (List.length r.1) rc1, .int .i64 r.2.1, .int .i64 r.2.2]) ∧ m.le m' ∧ St m' (.room ra1 (List.length r.1) rc1 54 2 :: own) w' ∧ RepS (cPair (cInt .i64) (cSl cU8)) m' ra1 rc1 r.1 := by
  unfold wire_Frames at hr
  have hm := m.le_refl
  refine W_callsM Go.Proofs.Try.func39 rfl Go.Proofs.Try.ntmps39 [(0, .slice a1 (List.length p0) c1)] (by kernel_rfl) rfl ?_
  refine W_seq ?_
  refine W_region ?_
  refine WO_one rfl (One_alloc (d := 2) (e := 62) (.slice none 0 0) (by kernel_rfl) rfl (by kernel_rfl) st ?_)
  clear st
  intro b1 w1 st
  refine WO_one rfl (One_alloc (d := 3) (e := 3) (.int .i64 0) (by kernel_rfl) rfl (by kernel_rfl) st ?_)
  clear st
  intro b2 w2 st
  refine WO_one rfl (One_alloc (d := 4) (e := 26) (.int .i64 0) (by kernel_rfl) rfl (by kernel_rfl) st ?_)
  clear st
  intro b3 w3 st
  refine WO_end rfl ?_
  refine X_then ?_
  refine W_seq ?_
  refine W_seq ?_
  refine W_region ?_
  refine WO_seg 1 [(7, .slice a1 (List.length p0) c1)] (by kernel_rfl) (by kernel_rfl) ?_
  refine WO_one rfl (One_fn 8 69 #[.slice a1 (List.length p0) c1] (by kernel_rfl) rfl ?_)
  refine W_calls Go.Proofs.Try.func69 rfl Go.Proofs.Try.ntmps69 [(0, .slice a1 (List.length p0) c1)] (by kernel_rfl) rfl ?_
  refine W_seq ?_
  refine W_region ?_
  refine WO_one rfl (One_box_own (d := 1) (e := 50) (x := (.tmp 0)) (.slice a1 (List.length p0) c1) (by kernel_rfl) rfl (by kernel_rfl) st ?_)
  clear st
  intro b4 w4 st
  refine WO_seg 1 [] (by kernel_rfl) (by kernel_rfl) ?_
  refine WO_end rfl ?_
  refine X_then ?_
  refine W_seq ?_
  refine W_region ?_
  refine WO_seg 2 [(2, .func (.func 76) #[] #[.pointer (some ⟨b4, 0, none⟩)])] (by kernel_rfl) (by kernel_rfl) ?_
  refine WO_end rfl ?_
  refine X_then ?_
  refine W_ret ?_
  refine X_ret [.tmp 2] [.func (.func 76) #[] #[.pointer (some ⟨b4, 0, none⟩)]] rfl (ResAll.cons (ResAt.tmp (by kernel_rfl)) ResAll.nil) ?_
  refine ⟨_, rfl, ?_⟩
  refine WO_end rfl ?_
  refine X_then ?_
  refine W_block ?_
  refine W_rangeFunc (f := 76) (cap := #[.pointer (some ⟨b4, 0, none⟩)]) [.ret] (by kernel_rfl) (enters_at Go.Proofs.Try.func76 (by kernel_rfl)) st ?_
  clear st
  intro q1 l1 w5 hpq1 haq1 hbq1 htq1 st
  replace hr := bindS hr
  obtain ⟨o1, hr, hrKu1⟩ := hr
  refine Calls_cut (fun v' w' => ∃ (a2 : Option Addr) (c2 : Nat) (m2 : Mem), v' = (.tuple #[]) ∧ m.le m2 ∧ St m2 (.blk b4 (.cells #[.slice a1 (List.length p0) c1] 50 (0, 0)) :: .blk b3 (.cells #[.int .i64 o1.1] 26 (0, 0)) :: .blk b2 (.cells #[.int .i64 o1.2.1] 3 (0, 0)) :: .blk b1 (.cells #[.slice a2 (List.length o1.2.2.1) c2] 62 (0, 0)) :: lpiece l1 q1 [.ret] o1.2.2.2 :: dpiece q1.D :: .room a2 (List.length o1.2.2.1) c2 54 2 :: own) w' ∧ RepS cU8 m2 a1 c1 p0 ∧ RepS (cPair (cInt .i64) (cSl cU8)) m2 a2 c2 o1.2.2.1) ?_ ?_
  · clear hr st
    have hr := hrKu1
    clear hrKu1
    rintro _ w6 ⟨a2, c2, m2, rfl, hm, st, r1, r2⟩
    refine ⟨_, rfl, ?_⟩
    have st := st.front4
    by_cases hj2 : o1.2.2.2 = 0
    · rw [if_pos hj2] at hr
      rw [hj2] at st
      refine After_none 0 st rfl ?_
      clear st
      intro w27 st
      refine X_block ?_
      refine X_then ?_
      refine W_seq ?_
      refine W_draw [(5, fun w' => Inv m2 w' ∧ True), (3, fun w' => Inv m2 w' ∧ Piece.holds m2 w' (.blk b2 (.cells #[.int .i64 o1.2.1] 3 (0, 0))) ∧ True), (2, fun w' => Inv m2 w' ∧ Piece.holds m2 w' (.blk b1 (.cells #[.slice a2 (List.length o1.2.2.1) c2] 62 (0, 0))) ∧ True)] (by kernel_rfl) st ?_
      clear st
      intro w28 _ st
      have hmS := m2.le_refl
      refine ⟨⟨.inr ⟨Inv.anti st.inv hmS, trivial⟩, ⟨.inr ⟨Inv.anti st.inv hmS, Piece.holds_anti st.tail.tail.head hmS, trivial⟩, ⟨.inr ⟨Inv.anti st.inv hmS, Piece.holds_anti st.tail.tail.tail.head hmS, trivial⟩, trivial⟩⟩⟩, ?_⟩
      refine WA_load_own (t := 62) (x := (.tmp 2)) 0 23 (.slice a2 (List.length o1.2.2.1) c2) (by kernel_rfl) rfl (by kernel_rfl) (.tail _ (.tail _ (.head _))) (QP_then QP_bodyQ) (fun _ h => h.2.1) (show evL _ _ = some (.pointer (some ⟨b1, 0, none⟩)) from (by kernel_rfl)) (by kernel_rfl) ?_
      refine WA_load_own (t := 3) (x := (.tmp 3)) 1 24 (.int .i64 o1.2.1) (by kernel_rfl) rfl (by kernel_rfl) (.tail _ (.head _)) (QP_then QP_bodyQ) (fun _ h => h.2.1) (show evL _ _ = some (.pointer (some ⟨b2, 0, none⟩)) from (by kernel_rfl)) (by kernel_rfl) ?_
      have st := st.front3
      refine WA_one 2 (by kernel_rfl) (One_store (t := 62) (x := (.tmp 2)) (y := (.tmp 23)) (v := .slice a2 (List.length o1.2.2.1) c2) (c' := #[.slice a2 (List.length o1.2.2.1) c2]) (by kernel_rfl) (show evL _ _ = some (.pointer (some ⟨b1, 0, none⟩)) from (by kernel_rfl)) (show evL _ _ = some (.slice a2 (List.length o1.2.2.1) c2) from (by kernel_rfl)) st (by kernel_rfl) (by kernel_rfl) ?_)
      clear st
      intro w29 st
      refine ⟨⟨.inr ⟨Inv.anti st.inv hmS, trivial⟩, ⟨.inr ⟨Inv.anti st.inv hmS, Piece.holds_anti st.tail.tail.tail.head hmS, trivial⟩, ⟨.inl rfl, trivial⟩⟩⟩, ?_⟩
      have st := st.front3
      refine WA_one 3 (by kernel_rfl) (One_store (t := 3) (x := (.tmp 3)) (y := (.tmp 24)) (v := .int .i64 o1.2.1) (c' := #[.int .i64 o1.2.1]) (by kernel_rfl) (show evL _ _ = some (.pointer (some ⟨b2, 0, none⟩)) from (by kernel_rfl)) (show evL _ _ = some (.int .i64 o1.2.1) from (by kernel_rfl)) st (by kernel_rfl) (by kernel_rfl) ?_)
      clear st
      intro w30 st
      refine ⟨⟨.inr ⟨Inv.anti st.inv hmS, trivial⟩, ⟨.inl rfl, ⟨.inl rfl, trivial⟩⟩⟩, ?_⟩
      have st := st.front3
      refine WA_one 4 (by kernel_rfl) (One_store (t := 26) (x := (.tmp 4)) (y := (.const (.int .i64 0))) (v := .int .i64 0) (c' := #[.int .i64 0]) (by kernel_rfl) (show evL _ _ = some (.pointer (some ⟨b3, 0, none⟩)) from (by kernel_rfl)) (show evL _ _ = some (.int .i64 0) from (by kernel_rfl)) st (by kernel_rfl) (by kernel_rfl) ?_)
      clear st
      intro w31 st
      refine ⟨⟨.inr ⟨Inv.anti st.inv hmS, trivial⟩, ⟨.inl rfl, ⟨.inl rfl, trivial⟩⟩⟩, ?_⟩
      refine WA_done (by kernel_rfl) ?_
      refine X_then ?_
      refine W_ret ?_
      obtain rfl := Option.some.inj hr
      have st := st.front4
      refine X_take st ?_
      clear st
      intro w32 st
      refine X_retM [.cell 2 62, .cell 3 3, .cell 4 26] [.slice a2 (List.length o1.2.2.1) c2, .int .i64 o1.2.1, .int .i64 0] rfl (ResAll.cons (ResAt.blk (v := .slice a2 (List.length o1.2.2.1) c2) (o := 0) (by kernel_rfl) st.tail.tail.head (by kernel_rfl)) (ResAll.cons (ResAt.blk (v := .int .i64 o1.2.1) (o := 0) (by kernel_rfl) st.tail.head (by kernel_rfl)) (ResAll.cons (ResAt.blk (v := .int .i64 0) (o := 0) (by kernel_rfl) st.head (by kernel_rfl)) ResAll.nil))) ?_
      have st := st.tail
      have st := st.tail
      have st := st.tail
      have st := st.tail
      exact ⟨a2, c2, m2, rfl, hm, st, r2⟩
    · rw [if_neg hj2] at hr
      by_cases hj3 : o1.2.2.2 = 1
      · rw [if_pos hj3] at hr
        rw [hj3] at st
        refine After_some 1 st rfl ?_
        clear st
        intro w33 st
        refine W_ret ?_
        refine X_block_ret ?_
        refine X_then_ret ?_
        obtain rfl := Option.some.inj hr
        have st := st.front4
        refine X_take st ?_
        clear st
        intro w34 st
        refine X_retM [.cell 2 62, .cell 3 3, .cell 4 26] [.slice a2 (List.length o1.2.2.1) c2, .int .i64 o1.2.1, .int .i64 o1.1] rfl (ResAll.cons (ResAt.blk (v := .slice a2 (List.length o1.2.2.1) c2) (o := 0) (by kernel_rfl) st.tail.tail.tail.head (by kernel_rfl)) (ResAll.cons (ResAt.blk (v := .int .i64 o1.2.1) (o := 0) (by kernel_rfl) st.tail.tail.head (by kernel_rfl)) (ResAll.cons (ResAt.blk (v := .int .i64 o1.1) (o := 0) (by kernel_rfl) st.tail.head (by kernel_rfl)) ResAll.nil))) ?_
        have st := st.tail
        have st := st.tail
        have st := st.tail
        have st := st.tail
        exact ⟨a2, c2, m2, rfl, hm, st, r2⟩
      · rw [if_neg hj3] at hr
        cases hr
  · clear hrKu1
    refine W_calls Go.Proofs.Try.func76 rfl Go.Proofs.Try.ntmps76 [(0, .func (.yield l1) #[] #[]), (1, .pointer (some ⟨b4, 0, none⟩))] (by kernel_rfl) rfl ?_
    refine W_seq ?_
    refine W_region ?_
    refine WO_seg 1 [(3, .int .i64 0)] (by kernel_rfl) (by kernel_rfl) ?_
    refine WO_end rfl ?_
    refine X_then ?_
    refine W_block ?_
    replace hr := bindS hr
    obtain ⟨out1, hr, hrKu2⟩ := hr
    refine W_cut (.exit 0) (fun L' w' => ∃ (o2 : Int × Int × (List (Int × List UInt8)) × Nat) (a3 : Option Addr) (c3 : Nat) (m3 : Mem), (.inl o2) = out1 ∧ L' = [] ∧ m.le m3 ∧ St m3 (.blk b4 (.cells #[.slice a1 (List.length p0) c1] 50 (0, 0)) :: .blk b3 (.cells #[.int .i64 o2.1] 26 (0, 0)) :: .blk b2 (.cells #[.int .i64 o2.2.1] 3 (0, 0)) :: .blk b1 (.cells #[.slice a3 (List.length o2.2.2.1) c3] 62 (0, 0)) :: lpiece l1 q1 [.ret] o2.2.2.2 :: dpiece q1.D :: .room a3 (List.length o2.2.2.1) c3 54 2 :: own) w' ∧ RepS cU8 m3 a1 c1 p0 ∧ RepS (cPair (cInt .i64) (cSl cU8)) m3 a3 c3 o2.2.2.1) ?_ ?_
    · clear hr st
      rintro _ w7 ⟨o2, a3, c3, m3, rfl, rfl, hm, st, r1, r3⟩
      have hr := hrKu2
      clear hrKu2
      dsimp only at hr
      refine X_block_eq ?_
      obtain rfl := Option.some.inj hr
      refine X_fall [] [] rfl ResAll.nil ?_
      have st := st.front6
      have st := st.front6
      have st := st.front6
      have st := st.front6
      have st := st.front6
      have st := st.front6
      have st := st.front6
      exact ⟨_, rfl, ⟨a3, c3, m3, rfl, hm, st, r1, r3⟩⟩
    intro K0_u2
    have st := st.nilroom 54 2
    have st := st.front2
    have st := st.front2
    have st := st.front6
    have st := st.front6
    have st := st.front6
    have st := st.front6
    refine W_env _ (by kernel_rfl) (W_loop (fun k1 L' w' => ∃ (s1 : Int × Int × Int × (List (Int × List UInt8)) × Nat) (a4 : Option Addr) (c4 : Nat) (m4 : Mem), loopM (wire_Frames_L1 N p0) k1 s1 = some out1 ∧ L' = [(0, .func (.yield l1) #[] #[]), (1, .pointer (some ⟨b4, 0, none⟩)), (3, .int .i64 s1.1)] ∧ m.le m4 ∧ St m4 (.blk b4 (.cells #[.slice a1 (List.length p0) c1] 50 (0, 0)) :: .blk b3 (.cells #[.int .i64 s1.2.1] 26 (0, 0)) :: .blk b2 (.cells #[.int .i64 s1.2.2.1] 3 (0, 0)) :: .blk b1 (.cells #[.slice a4 (List.length s1.2.2.2.1) c4] 62 (0, 0)) :: lpiece l1 q1 [.ret] s1.2.2.2.2 :: dpiece q1.D :: .room a4 (List.length s1.2.2.2.1) c4 54 2 :: own) w' ∧ RepS cU8 m4 a1 c1 p0 ∧ RepS (cPair (cInt .i64) (cSl cU8)) m4 a4 c4 s1.2.2.2.1) N ⟨(0, 0, 0, ([] : List (Int × List UInt8)), 0), none, 0, m, hr, rfl, hm, st, r1, (RepS.nil _ _)⟩ ?_)
    clear st hr
    rintro k1 _ w8 ⟨s1, a4, c4, m4, hL, rfl, hm, st, r1, r4⟩
    rcases k1 with _ | k1
    · exact loopM_zero hL
    · obtain ⟨qu2, hr, hSu2, hBu2⟩ := loopM_succ hL
      clear hL
      unfold wire_Frames_L1 at hr
      refine W_seq ?_
      refine W_seq ?_
      refine W_region ?_
      refine WO_seg 1 [(7, .int .i64 s1.1)] (by kernel_rfl) (by kernel_rfl) ?_
      refine WO_one rfl (One_load_own (d := 8) (t := 50) (x := (.tmp 1)) (.slice a1 (List.length p0) c1) (by kernel_rfl) rfl (show evL _ _ = some (.pointer (some ⟨b4, 0, none⟩)) from (by kernel_rfl)) st.head (by kernel_rfl) ?_)
      refine WO_seg 2 [(10, .bool (decide (s1.1 < (List.length p0 : Int))))] (by kernel_rfl) (by kernel_rfl) ?_
      refine WO_end rfl ?_
      refine X_then ?_
      refine W_cond (decide (s1.1 < (List.length p0 : Int))) (by kernel_rfl) ?_ ?_
      · intro hc
        rw [if_pos hc] at hr
        refine W_skip ?_
        refine X_then ?_
        refine W_block ?_
        refine W_seq ?_
        refine W_region ?_
        refine WO_one rfl (One_load_own (d := 12) (t := 50) (x := (.tmp 1)) (.slice a1 (List.length p0) c1) (by kernel_rfl) rfl (show evL _ _ = some (.pointer (some ⟨b4, 0, none⟩)) from (by kernel_rfl)) st.head (by kernel_rfl) ?_)
        refine WO_seg 1 [(13, .int .i64 s1.1)] (by kernel_rfl) (by kernel_rfl) ?_
        replace hr := bindS hr
        obtain ⟨y1, hx1, hr⟩ := hr
        refine WO_one rfl (One_fn 14 36 #[.slice a1 (List.length p0) c1, .int .i64 s1.1] (by kernel_rfl) rfl ?_)
        refine (wire_Next_ok st r1 hx1).mono ?_
        clear st
        rintro _ w9 ⟨a5, c5, m5, rfl, hle2, st, r5⟩
        refine ⟨_, rfl, ?_⟩
        have hm := Mem.le_trans hm hle2
        have r1 := r1.mono hle2
        have r4 := r4.mono hle2
        refine WO_seg 4 [(15, .agg #[.int .i64 y1.1.1, .slice a5 (List.length y1.1.2) c5]), (16, .int .i64 y1.2.1), (17, .int .i64 y1.2.2)] (by kernel_rfl) (by kernel_rfl) ?_
        refine WO_one rfl (One_alloc (d := 4) (e := 54) (.agg #[.int .i64 0, .slice none 0 0]) (by kernel_rfl) rfl (by kernel_rfl) st ?_)
        clear st
        intro b5 w10 st
        refine WO_one rfl (One_store (t := 54) (x := (.tmp 4)) (y := (.tmp 15)) (v := .agg #[.int .i64 y1.1.1, .slice a5 (List.length y1.1.2) c5]) (c' := #[.int .i64 y1.1.1, .slice a5 (List.length y1.1.2) c5]) (by kernel_rfl) (show evL _ _ = some (.pointer (some ⟨b5, 0, none⟩)) from (by kernel_rfl)) (show evL _ _ = some (.agg #[.int .i64 y1.1.1, .slice a5 (List.length y1.1.2) c5]) from (by kernel_rfl)) st (by kernel_rfl) (by kernel_rfl) ?_)
        clear st
        intro w11 st
        refine WO_seg 2 [(5, .int .i64 y1.2.1), (6, .int .i64 y1.2.2)] (by kernel_rfl) (by kernel_rfl) ?_
        refine WO_end rfl ?_
        refine X_then ?_
        refine W_seq ?_
        refine W_seq ?_
        refine W_region ?_
        replace hr := bindS hr
        obtain ⟨o3, hr, hrK⟩ := hr
        refine WO_cut (j := 11) (fun L' w' => ∃ (a6 : Option Addr) (c6 : Nat) (m6 : Mem), L' = [(0, .func (.yield l1) #[] #[]), (1, .pointer (some ⟨b4, 0, none⟩)), (5, .int .i64 y1.2.1), (28, .bool o3.1)] ∧ m.le m6 ∧ St m6 (.blk b5 (.cells #[.int .i64 y1.1.1, .slice a5 (List.length y1.1.2) c5] 54 (0, 0)) :: .blk b4 (.cells #[.slice a1 (List.length p0) c1] 50 (0, 0)) :: .blk b3 (.cells #[.int .i64 o3.2.1] 26 (0, 0)) :: .blk b2 (.cells #[.int .i64 o3.2.2.1] 3 (0, 0)) :: .blk b1 (.cells #[.slice a6 (List.length o3.2.2.2.1) c6] 62 (0, 0)) :: lpiece l1 q1 [.ret] o3.2.2.2.2 :: dpiece q1.D :: .room a5 (List.length y1.1.2) c5 5 1 :: .room a6 (List.length o3.2.2.2.1) c6 54 2 :: own) w' ∧ RepS cU8 m6 a5 c5 y1.1.2 ∧ RepS cU8 m6 a1 c1 p0 ∧ RepS (cPair (cInt .i64) (cSl cU8)) m6 a6 c6 o3.2.2.2.1) ?_ ?_
        · clear hr st
          have hr := hrK
          clear hrK
          rintro _ w12 ⟨a6, c6, m6, rfl, hm, st, r5, r1, r6⟩
          refine WO_end rfl ?_
          refine X_then ?_
          refine W_cond o3.1 (by kernel_rfl) ?_ ?_
          · intro hc
            rw [if_pos hc] at hr
            refine W_ret ?_
            refine X_then_ret ?_
            refine X_block_ret ?_
            obtain rfl := Option.some.inj hr
            have ho := hBu2 _ rfl
            subst ho
            have hr := hrKu2
            dsimp only at hr
            refine X_then_ret ?_
            refine X_block_ret ?_
            obtain rfl := Option.some.inj hr
            refine X_ret [] [] rfl ResAll.nil ?_
            have st := st.tail
            have st := st.front6
            have st := st.tail
            have st := st.front6
            have st := st.front6
            have st := st.front6
            have st := st.front6
            have st := st.front6
            have st := st.front6
            have st := st.front6
            exact ⟨_, rfl, ⟨a6, c6, m6, rfl, hm, st, r1, r6⟩⟩
          · intro hc
            rw [if_neg (not_true hc)] at hr
            refine W_skip ?_
            refine X_then ?_
            refine W_region ?_
            refine WO_seg 2 [(3, .int .i64 y1.2.1)] (by kernel_rfl) (by kernel_rfl) ?_
            refine WO_end rfl ?_
            refine X_block ?_
            obtain rfl := Option.some.inj hr
            have hL := hSu2 _ rfl
            have st := st.tail
            have st := st.front6
            have st := st.tail
            have st := st.front6
            have st := st.front6
            have st := st.front6
            have st := st.front6
            have st := st.front6
            have st := st.front6
            have st := st.front6
            exact X_env _ (by kernel_rfl) (X_round k1 (Nat.lt_succ_self _) ⟨(y1.2.1, o3.2.1, o3.2.2.1, o3.2.2.2.1, o3.2.2.2.2), a6, c6, m6, hL, rfl, hm, st, r1, r6⟩)
        · intro K
          clear hrK
          refine WO_seg 1 [(18, .func (.yield l1) #[] #[])] (by kernel_rfl) (by kernel_rfl) ?_
          refine WO_one rfl (One_load_own (d := 19) (t := 54) (x := (.tmp 4)) (.agg #[.int .i64 y1.1.1, .slice a5 (List.length y1.1.2) c5]) (by kernel_rfl) rfl (show evL _ _ = some (.pointer (some ⟨b5, 0, none⟩)) from (by kernel_rfl)) st.head (by kernel_rfl) ?_)
          refine WO_seg 3 [(21, .agg #[.int .i64 y1.1.1, .slice a5 (List.length y1.1.2) c5, .int .i64 y1.2.1]), (22, .int .i64 y1.2.2)] (by kernel_rfl) (by kernel_rfl) ?_
          have st := st.front6
          by_cases hj1 : s1.2.2.2.2 = 0
          · rw [if_pos hj1] at hr
            rw [hj1] at st
            refine WO_one rfl (One_yield (d := 23) (l := l1) (x := (.tmp 18)) (xs := #[(.tmp 21), (.tmp 22)]) (ts := #[112, 26]) [.agg #[.int .i64 y1.1.1, .slice a5 (List.length y1.1.2) c5, .int .i64 y1.2.1], .int .i64 y1.2.2] (by kernel_rfl) rfl (show evL _ _ = some (.func (.yield l1) #[] #[]) from (by kernel_rfl)) (by kernel_rfl) htq1 hpq1 haq1 hbq1 rfl (by kernel_rfl) st ?_)
            intro R1 hR1
            refine W_seq ?_
            refine W_regionR rfl ?_
            refine WO_one rfl (One_alloc (d := 5) (e := 112) (.agg #[.int .i64 0, .slice none 0 0, .int .i64 0]) (by kernel_rfl) rfl (by kernel_rfl) st ?_)
            clear st
            intro b6 w13 st
            refine WO_one rfl (One_store (t := 112) (x := (.tmp 5)) (y := (.tmp 9)) (v := .agg #[.int .i64 y1.1.1, .slice a5 (List.length y1.1.2) c5, .int .i64 y1.2.1]) (c' := #[.int .i64 y1.1.1, .slice a5 (List.length y1.1.2) c5, .int .i64 y1.2.1]) (by kernel_rfl) (show evL _ _ = some (.pointer (some ⟨b6, 0, none⟩)) from (by kernel_rfl)) (show evL _ _ = some (.agg #[.int .i64 y1.1.1, .slice a5 (List.length y1.1.2) c5, .int .i64 y1.2.1]) from (by kernel_rfl)) st (by kernel_rfl) (by kernel_rfl) ?_)
            clear st
            intro w14 st
            refine WO_end rfl ?_
            refine X_then ?_
            refine W_regionR rfl ?_
            refine WO_seg 1 [(6, .int .i64 y1.2.2)] (by kernel_rfl) (by kernel_rfl) ?_
            refine WO_end rfl ?_
            have st := st.front1
            refine X_begin st ?_
            clear st
            intro w15 st
            refine W_block ?_
            refine W_seq ?_
            refine W_seq ?_
            refine W_regionR rfl ?_
            refine WO_seg 2 [(12, .bool (y1.2.2 != 0))] (by kernel_rfl) (by kernel_rfl) ?_
            refine WO_end rfl ?_
            refine X_then ?_
            refine W_cond (y1.2.2 != 0) (by kernel_rfl) ?_ ?_
            · intro hc
              rw [if_pos hc] at hr
              refine W_seq ?_
              refine W_drawR rfl [(6, fun w' => Inv m5 w' ∧ True), (4, fun w' => Inv m5 w' ∧ Piece.holds m5 w' (.blk b2 (.cells #[.int .i64 s1.2.2.1] 3 (0, 0))) ∧ True), (3, fun w' => Inv m5 w' ∧ Piece.holds m5 w' (.blk b1 (.cells #[.slice a4 (List.length s1.2.2.2.1) c4] 62 (0, 0))) ∧ True)] (by kernel_rfl) st ?_
              clear st
              intro w16 _ st
              have hmS := m5.le_refl
              refine ⟨⟨.inr ⟨Inv.anti st.inv hmS, trivial⟩, ⟨.inr ⟨Inv.anti st.inv hmS, Piece.holds_anti st.tail.tail.tail.tail.tail.tail.head hmS, trivial⟩, ⟨.inr ⟨Inv.anti st.inv hmS, Piece.holds_anti st.tail.tail.tail.tail.tail.tail.tail.head hmS, trivial⟩, trivial⟩⟩⟩, ?_⟩
              refine WA_load_own (t := 62) (x := (.tmp 2)) 0 13 (.slice a4 (List.length s1.2.2.2.1) c4) (by kernel_rfl) rfl (by kernel_rfl) (.tail _ (.tail _ (.head _))) (QP_then (QP_then (QP_block QP_round))) (fun _ h => h.2.1) (show evL _ _ = some (.pointer (some ⟨b1, 0, none⟩)) from (by kernel_rfl)) (by kernel_rfl) ?_
              refine WA_load_own (t := 3) (x := (.tmp 3)) 1 14 (.int .i64 s1.2.2.1) (by kernel_rfl) rfl (by kernel_rfl) (.tail _ (.head _)) (QP_then (QP_then (QP_block QP_round))) (fun _ h => h.2.1) (show evL _ _ = some (.pointer (some ⟨b2, 0, none⟩)) from (by kernel_rfl)) (by kernel_rfl) ?_
              refine WA_pure 2 15 (.int .i64 y1.2.2) (by kernel_rfl) rfl (by kernel_rfl) (.head _) (QP_then (QP_then (QP_block QP_round))) ?_
              have st := st.front7
              refine WA_one 3 (by kernel_rfl) (One_store (t := 62) (x := (.tmp 2)) (y := (.tmp 13)) (v := .slice a4 (List.length s1.2.2.2.1) c4) (c' := #[.slice a4 (List.length s1.2.2.2.1) c4]) (by kernel_rfl) (show evL _ _ = some (.pointer (some ⟨b1, 0, none⟩)) from (by kernel_rfl)) (show evL _ _ = some (.slice a4 (List.length s1.2.2.2.1) c4) from (by kernel_rfl)) st (by kernel_rfl) (by kernel_rfl) ?_)
              clear st
              intro w17 st
              refine ⟨⟨.inr ⟨Inv.anti st.inv hmS, trivial⟩, ⟨.inr ⟨Inv.anti st.inv hmS, Piece.holds_anti st.tail.tail.tail.tail.tail.tail.tail.head hmS, trivial⟩, ⟨.inl rfl, trivial⟩⟩⟩, ?_⟩
              have st := st.front7
              refine WA_one 4 (by kernel_rfl) (One_store (t := 3) (x := (.tmp 3)) (y := (.tmp 14)) (v := .int .i64 s1.2.2.1) (c' := #[.int .i64 s1.2.2.1]) (by kernel_rfl) (show evL _ _ = some (.pointer (some ⟨b2, 0, none⟩)) from (by kernel_rfl)) (show evL _ _ = some (.int .i64 s1.2.2.1) from (by kernel_rfl)) st (by kernel_rfl) (by kernel_rfl) ?_)
              clear st
              intro w18 st
              refine ⟨⟨.inr ⟨Inv.anti st.inv hmS, trivial⟩, ⟨.inl rfl, ⟨.inl rfl, trivial⟩⟩⟩, ?_⟩
              have st := st.front7
              refine WA_one 5 (by kernel_rfl) (One_store (t := 26) (x := (.tmp 4)) (y := (.tmp 15)) (v := .int .i64 y1.2.2) (c' := #[.int .i64 y1.2.2]) (by kernel_rfl) (show evL _ _ = some (.pointer (some ⟨b3, 0, none⟩)) from (by kernel_rfl)) (show evL _ _ = some (.int .i64 y1.2.2) from (by kernel_rfl)) st (by kernel_rfl) (by kernel_rfl) ?_)
              clear st
              intro w19 st
              refine ⟨⟨.inr ⟨Inv.anti st.inv hmS, trivial⟩, ⟨.inl rfl, ⟨.inl rfl, trivial⟩⟩⟩, ?_⟩
              refine WA_done (by kernel_rfl) ?_
              refine X_then ?_
              refine W_ret ?_
              refine X_then_ret ?_
              refine X_block_ret ?_
              have st := st.front3
              refine X_roundR [.ret] 0 rfl st ?_
              clear st
              intro w20 st
              refine hR1 false _ ?_
              refine WO_seg 5 [(28, .bool true)] (by kernel_rfl) (by kernel_rfl) ?_
              obtain rfl := Option.some.inj hr
              have st := st.front4
              have st := st.tail
              have st := st.front8
              have st := st.front6
              have st := st.front8
              have st := st.front3
              have st := st.front6
              have st := st.front6
              have st := st.front6
              have st := st.front8
              have st := st.front8
              exact WO_env _ (by kernel_rfl) (K _ _ ⟨a4, c4, m5, rfl, hm, st, r5, r1, r4⟩)
            · intro hc
              rw [if_neg (not_true hc)] at hr
              refine W_skip ?_
              refine X_then ?_
              refine W_drawR rfl [(9, fun w' => Inv m5 w' ∧ Piece.holds m5 w' (.blk b6 (.cells #[.int .i64 y1.1.1, .slice a5 (List.length y1.1.2) c5, .int .i64 y1.2.1] 112 (0, 0))) ∧ True), (7, fun w' => Inv m5 w' ∧ Piece.holds m5 w' (.blk b1 (.cells #[.slice a4 (List.length s1.2.2.2.1) c4] 62 (0, 0))) ∧ True)] (by kernel_rfl) st ?_
              clear st
              intro w21 _ st
              have hmS := m5.le_refl
              refine ⟨⟨.inr ⟨Inv.anti st.inv hmS, Piece.holds_anti st.tail.head hmS, trivial⟩, ⟨.inr ⟨Inv.anti st.inv hmS, Piece.holds_anti st.tail.tail.tail.tail.tail.tail.tail.head hmS, trivial⟩, trivial⟩⟩, ?_⟩
              refine WA_load_own (t := 62) (x := (.tmp 2)) 0 16 (.slice a4 (List.length s1.2.2.2.1) c4) (by kernel_rfl) rfl (by kernel_rfl) (.tail _ (.head _)) (QP_block QP_round) (fun _ h => h.2.1) (show evL _ _ = some (.pointer (some ⟨b1, 0, none⟩)) from (by kernel_rfl)) (by kernel_rfl) ?_
              refine WA_pure 1 17 (.pointer (some ⟨b6, 0, none⟩)) (by kernel_rfl) rfl (by kernel_rfl) (.head _) (QP_block QP_round) ?_
              refine WA_load_own (t := 54) (x := (.tmp 17)) 2 18 (.agg #[.int .i64 y1.1.1, .slice a5 (List.length y1.1.2) c5]) (by kernel_rfl) rfl (by kernel_rfl) (.head _) (QP_block QP_round) (fun _ h => h.2.1) (show evL _ _ = some (.pointer (some ⟨b6, 0, none⟩)) from (by kernel_rfl)) (by kernel_rfl) ?_
              refine WA_pure 5 21 (.pointer (some ⟨b6, 2, none⟩)) (by kernel_rfl) rfl (by kernel_rfl) (.head _) (QP_block QP_round) ?_
              refine WA_load_own (t := 3) (x := (.tmp 21)) 6 22 (.int .i64 y1.2.1) (by kernel_rfl) rfl (by kernel_rfl) (.head _) (QP_block QP_round) (fun _ h => h.2.1) (show evL _ _ = some (.pointer (some ⟨b6, 2, none⟩)) from (by kernel_rfl)) (by kernel_rfl) ?_
              refine WA_one 3 (by kernel_rfl) (One_buildSlice (d := 19) (t := 62) (e := 54) (len := 1) (parts := #[(0, (.tmp 18))]) (cPair (cInt .i64) (cSl cU8)) (xs := [(y1.1.1, y1.1.2)]) [.int .i64 y1.1.1, .slice a5 (List.length y1.1.2) c5] (by kernel_rfl) rfl (fun _ => buildCells_run (by kernel_rfl) _) rfl rfl st ⟨[.int .i64 y1.1.1, .slice a5 (List.length y1.1.2) c5], _, rfl, ⟨_, _, rfl, rfl, (cSl_mk r5)⟩, rfl⟩ ?_)
              clear st
              intro b7 m7 w22 hle3 st r7
              have hm := Mem.le_trans hm hle3
              have r4 := r4.mono hle3
              have r5 := r5.mono hle3
              have r1 := r1.mono hle3
              have hmS := Mem.le_trans hmS hle3
              refine ⟨⟨.inr ⟨Inv.anti st.inv hmS, Piece.holds_anti st.tail.tail.head hmS, trivial⟩, ⟨.inr ⟨Inv.anti st.inv hmS, Piece.holds_anti st.tail.tail.tail.tail.tail.tail.tail.tail.head hmS, trivial⟩, trivial⟩⟩, ?_⟩
              have st := st.front10
              replace hr := bindS hr
              obtain ⟨l2, hx2, hr⟩ := hr
              refine WA_one 4 (by kernel_rfl) (One_append (d := 20) (t := 62) (u := 62) (e := 54) (by_ := 32) (x := (.tmp 16)) (y := (.tmp 19)) (cPair (cInt .i64) (cSl cU8)) (by kernel_rfl) rfl (show evL _ _ = some (.slice a4 (List.length s1.2.2.2.1) c4) from (by kernel_rfl)) (show evL _ _ = some (.slice (some ⟨b7, 0, none⟩) (List.length ([(y1.1.1, y1.1.2)])) 1) from (by kernel_rfl)) st (by kernel_rfl) (.inl (by kernel_rfl)) r4 r7.src hx2 ?_)
              clear st
              intro a7 c7 m8 w23 hle4 st r8
              have hm := Mem.le_trans hm hle4
              have r4 := r4.mono hle4
              have r5 := r5.mono hle4
              have r7 := r7.mono hle4
              have r1 := r1.mono hle4
              have hmS := Mem.le_trans hmS hle4
              refine ⟨⟨.inr ⟨Inv.anti st.inv hmS, Piece.holds_anti st.tail.tail.tail.head hmS, trivial⟩, ⟨.inr ⟨Inv.anti st.inv hmS, Piece.holds_anti st.tail.tail.tail.tail.tail.tail.tail.tail.tail.head hmS, trivial⟩, trivial⟩⟩, ?_⟩
              have st := st.front9
              refine WA_one 7 (by kernel_rfl) (One_store (t := 62) (x := (.tmp 2)) (y := (.tmp 20)) (v := .slice a7 (List.length l2) c7) (c' := #[.slice a7 (List.length l2) c7]) (by kernel_rfl) (show evL _ _ = some (.pointer (some ⟨b1, 0, none⟩)) from (by kernel_rfl)) (show evL _ _ = some (.slice a7 (List.length l2) c7) from (by kernel_rfl)) st (by kernel_rfl) (by kernel_rfl) ?_)
              clear st
              intro w24 st
              refine ⟨⟨.inr ⟨Inv.anti st.inv hmS, Piece.holds_anti st.tail.tail.tail.tail.head hmS, trivial⟩, ⟨.inl rfl, trivial⟩⟩, ?_⟩
              have st := st.front9
              refine WA_one 8 (by kernel_rfl) (One_store (t := 3) (x := (.tmp 3)) (y := (.tmp 22)) (v := .int .i64 y1.2.1) (c' := #[.int .i64 y1.2.1]) (by kernel_rfl) (show evL _ _ = some (.pointer (some ⟨b2, 0, none⟩)) from (by kernel_rfl)) (show evL _ _ = some (.int .i64 y1.2.1) from (by kernel_rfl)) st (by kernel_rfl) (by kernel_rfl) ?_)
              clear st
              intro w25 st
              refine ⟨⟨.inr ⟨Inv.anti st.inv hmS, Piece.holds_anti st.tail.tail.tail.tail.tail.head hmS, trivial⟩, ⟨.inl rfl, trivial⟩⟩, ?_⟩
              refine WA_done (by kernel_rfl) ?_
              have st := st.front3
              have st := st.tail
              refine X_block ?_
              have st := st.front3
              refine X_roundN [.ret] st ?_
              clear st
              intro w26 st
              refine hR1 true _ ?_
              refine WO_seg 5 [(28, .bool (y1.2.2 != 0))] (by kernel_rfl) (by kernel_rfl) ?_
              obtain rfl := Option.some.inj hr
              have st := st.front4
              have st := st.tail
              have st := st.front3
              have st := st.front5
              have st := st.front8
              have st := st.front3
              have st := st.front5
              have st := st.front5
              have st := st.front8
              have st := st.front8
              have st := st.front8
              exact WO_env _ (by kernel_rfl) (K _ _ ⟨a7, c7, m8, rfl, hm, st, r5, r1, r8⟩)
          · rw [if_neg hj1] at hr
            cases hr
      · intro hc
        rw [if_neg (not_true hc)] at hr
        refine W_exit ?_
        refine X_then_exit ?_
        obtain rfl := Option.some.inj hr
        have ho := hBu2 _ rfl
        have st := st.front6
        have st := st.front6
        have st := st.front6
        have st := st.front6
        have st := st.front6
        have st := st.front6
        have st := st.front6
        refine X_then_exit ?_
        exact X_env _ (by kernel_rfl) (K0_u2 _ _ ⟨(s1.2.1, s1.2.2.1, s1.2.2.2.1, s1.2.2.2.2), a4, c4, m4, ho, rfl, hm, st, r1, r4⟩)

def contents_Decode_L1 (N : Nat) (y1 : (List (Int × List UInt8)) × Int × Int) (s1 : Int × List (ByteArray)) : Option ((Int × List (ByteArray)) ⊕ ((List (ByteArray)) ⊕ (List ByteArray × Int))) :=
  if (decide (s1.1 < (List.length y1.1 : Int))) = true then ((idx y1.1 s1.1).bind fun x1 => if (x1.1 != 3) = true then (some (.inr (.inr ((([] : List (ByteArray)), 6))))) else ((appendS 16 s1.2 ([strOf x1.2])).bind fun l1 => some (.inl (IntKind.wrap .i64 (s1.1 + 1), l1)))) else (some (.inr (.inl s1.2)))

def contents_Decode (N : Nat) (p0 : List UInt8) : Option (List ByteArray × Int) :=
  (wire_Frames N p0).bind fun y1 => if (y1.2.2 != 0) = true then (some (([] : List (ByteArray)), y1.2.2)) else ((loopM (contents_Decode_L1 N y1) N (0, ([] : List (ByteArray)))).bind fun out1 => (match out1 with | .inl o1 => (contents_Check N o1).bind fun y2 => if (y2 != 0) = true then (some (([] : List (ByteArray)), y2)) else (some (o1, 0)) | .inr (z) => some z))

set_option maxHeartbeats 4000000 in
set_option maxRecDepth 100000 in
theorem contents_Decode_ok {N : Nat} {m : Mem} {own : List Piece} {w : World} {p0 : List UInt8} {a1 : Option Addr} {c1 : Nat} {r : List ByteArray × Int} (st : St m (own) w) (r1 : RepS cU8 m a1 c1 p0) (hr : contents_Decode N p0 = some r) : Calls Go.Proofs.Try.prog 61 #[.slice a1 (List.length p0) c1] w fun e w' => ∃ (ra1 : Option Addr) (rc1 : Nat) (m' : Mem), e = .returned (.tuple #[.agg #[.slice ra1 (List.length r.1) rc1], .int .i64 r.2]) ∧ m.le m' ∧ St m' (.room ra1 (List.length r.1) rc1 9 1 :: own) w' ∧ RepS cStr m' ra1 rc1 r.1 := by
  unfold contents_Decode at hr
  have hm := m.le_refl
  refine W_calls Go.Proofs.Try.func61 rfl Go.Proofs.Try.ntmps61 [(0, .slice a1 (List.length p0) c1)] (by kernel_rfl) rfl ?_
  refine W_seq ?_
  refine W_region ?_
  refine WO_one rfl (One_alloc (d := 2) (e := 24) (.agg #[.slice none 0 0]) (by kernel_rfl) rfl (by kernel_rfl) st ?_)
  clear st
  intro b1 w1 st
  refine WO_seg 1 [] (by kernel_rfl) (by kernel_rfl) ?_
  refine WO_end rfl ?_
  refine X_then ?_
  refine W_seq ?_
  refine W_region ?_
  refine WO_seg 1 [(12, .slice a1 (List.length p0) c1)] (by kernel_rfl) (by kernel_rfl) ?_
  replace hr := bindS hr
  obtain ⟨y1, hx1, hr⟩ := hr
  refine WO_one rfl (One_fn 13 39 #[.slice a1 (List.length p0) c1] (by kernel_rfl) rfl ?_)
  refine (wire_Frames_ok st r1 hx1).mono ?_
  clear st
  rintro _ w2 ⟨a2, c2, m1, rfl, hle1, st, r2⟩
  refine ⟨_, rfl, ?_⟩
  have hm := Mem.le_trans hm hle1
  have r1 := r1.mono hle1
  refine WO_seg 7 [(4, .slice a2 (List.length y1.1) c2), (6, .int .i64 y1.2.2)] (by kernel_rfl) (by kernel_rfl) ?_
  refine WO_end rfl ?_
  refine X_then ?_
  refine W_seq ?_
  refine W_seq ?_
  refine W_region ?_
  refine WO_seg 2 [(18, .bool (y1.2.2 != 0))] (by kernel_rfl) (by kernel_rfl) ?_
  refine WO_end rfl ?_
  refine X_then ?_
  refine W_cond (y1.2.2 != 0) (by kernel_rfl) ?_ ?_
  · intro hc
    rw [if_pos hc] at hr
    refine W_seq ?_
    refine W_region ?_
    refine WO_seg 2 [(19, .agg #[.slice none (List.length ([] : List (ByteArray))) 0]), (20, .int .i64 y1.2.2)] (by kernel_rfl) (by kernel_rfl) ?_
    have st := st.front1
    refine WO_one rfl (One_store (t := 24) (x := (.tmp 2)) (y := (.tmp 19)) (v := .agg #[.slice none (List.length ([] : List (ByteArray))) 0]) (c' := #[.slice none (List.length ([] : List (ByteArray))) 0]) (by kernel_rfl) (show evL _ _ = some (.pointer (some ⟨b1, 0, none⟩)) from (by kernel_rfl)) (show evL _ _ = some (.agg #[.slice none (List.length ([] : List (ByteArray))) 0]) from (by kernel_rfl)) st (by kernel_rfl) (by kernel_rfl) ?_)
    clear st
    intro w3 st
    refine WO_seg 1 [(3, .int .i64 y1.2.2)] (by kernel_rfl) (by kernel_rfl) ?_
    refine WO_end rfl ?_
    have st := st.front1
    have st := st.tail
    refine X_then ?_
    refine W_ret ?_
    refine X_then_ret ?_
    obtain rfl := Option.some.inj hr
    refine X_ret [.cell 2 24, .tmp 3] [.agg #[.slice none (List.length ([] : List (ByteArray))) 0], .int .i64 y1.2.2] rfl (ResAll.cons (ResAt.blk (v := .agg #[.slice none (List.length ([] : List (ByteArray))) 0]) (o := 0) (by kernel_rfl) st.head (by kernel_rfl)) (ResAll.cons (ResAt.tmp (by kernel_rfl)) ResAll.nil)) ?_
    have st := st.nilroom 9 1
    have st := st.front1
    have st := st.tail
    exact ⟨none, 0, m1, rfl, hm, st, (RepS.nil _ _)⟩
  · intro hc
    rw [if_neg (not_true hc)] at hr
    refine W_skip ?_
    refine X_then ?_
    refine W_seq ?_
    refine W_region ?_
    refine WO_one rfl (One_alloc (d := 7) (e := 24) (.agg #[.slice none 0 0]) (by kernel_rfl) rfl (by kernel_rfl) st ?_)
    clear st
    intro b2 w4 st
    refine WO_end rfl ?_
    refine X_then ?_
    refine W_seq ?_
    refine W_seq ?_
    refine W_region ?_
    refine WO_seg 3 [(21, .slice a2 (List.length y1.1) c2), (22, .int .i64 (List.length y1.1 : Int)), (23, .int .i64 0)] (by kernel_rfl) (by kernel_rfl) ?_
    refine WO_end rfl ?_
    refine X_then ?_
    refine W_block ?_
    replace hr := bindS hr
    obtain ⟨out1, hr, hrKu1⟩ := hr
    refine W_cut (.exit 0) (fun L' w' => ∃ (o1 : List (ByteArray)) (a3 : Option Addr) (c3 : Nat) (m2 : Mem), (.inl o1) = out1 ∧ L' = [(2, .pointer (some ⟨b1, 0, none⟩)), (7, .pointer (some ⟨b2, 0, none⟩))] ∧ m.le m2 ∧ St m2 (.blk b2 (.cells #[.slice a3 (List.length o1) c3] 24 (0, 0)) :: .blk b1 (.cells #[.slice none (List.length ([] : List (ByteArray))) 0] 24 (0, 0)) :: .room a2 (List.length y1.1) c2 54 2 :: .room a3 (List.length o1) c3 9 1 :: own) w' ∧ RepS cStr m2 a3 c3 o1) ?_ ?_
    · clear hr st
      rintro _ w5 ⟨o1, a3, c3, m2, rfl, rfl, hm, st, r3⟩
      have hr := hrKu1
      clear hrKu1
      dsimp only at hr
      refine X_block_eq ?_
      refine X_then ?_
      refine W_seq ?_
      refine W_seq ?_
      refine W_region ?_
      refine WO_one rfl (One_load_own (d := 40) (t := 24) (x := (.tmp 7)) (.agg #[.slice a3 (List.length o1) c3]) (by kernel_rfl) rfl (show evL _ _ = some (.pointer (some ⟨b2, 0, none⟩)) from (by kernel_rfl)) st.head (by kernel_rfl) ?_)
      replace hr := bindS hr
      obtain ⟨y2, hx4, hr⟩ := hr
      refine WO_one rfl (One_fn 41 14 #[.agg #[.slice a3 (List.length o1) c3]] (by kernel_rfl) rfl ?_)
      refine (contents_Check_ok st r3 hx4).mono ?_
      clear st
      rintro _ w13 ⟨m6, rfl, hle4, st⟩
      refine ⟨_, rfl, ?_⟩
      have hm := Mem.le_trans hm hle4
      have r3 := r3.mono hle4
      refine WO_seg 1 [(10, .int .i64 y2)] (by kernel_rfl) (by kernel_rfl) ?_
      refine WO_end rfl ?_
      have st := st.front2
      have st := st.tail
      refine X_then ?_
      refine W_seq ?_
      refine W_region ?_
      refine WO_seg 2 [(43, .bool (y2 != 0))] (by kernel_rfl) (by kernel_rfl) ?_
      refine WO_end rfl ?_
      refine X_then ?_
      refine W_cond (y2 != 0) (by kernel_rfl) ?_ ?_
      · intro hc
        rw [if_pos hc] at hr
        refine W_seq ?_
        refine W_region ?_
        refine WO_seg 2 [(44, .agg #[.slice none (List.length ([] : List (ByteArray))) 0]), (45, .int .i64 y2)] (by kernel_rfl) (by kernel_rfl) ?_
        have st := st.front1
        refine WO_one rfl (One_store (t := 24) (x := (.tmp 2)) (y := (.tmp 44)) (v := .agg #[.slice none (List.length ([] : List (ByteArray))) 0]) (c' := #[.slice none (List.length ([] : List (ByteArray))) 0]) (by kernel_rfl) (show evL _ _ = some (.pointer (some ⟨b1, 0, none⟩)) from (by kernel_rfl)) (show evL _ _ = some (.agg #[.slice none (List.length ([] : List (ByteArray))) 0]) from (by kernel_rfl)) st (by kernel_rfl) (by kernel_rfl) ?_)
        clear st
        intro w14 st
        refine WO_seg 1 [(3, .int .i64 y2)] (by kernel_rfl) (by kernel_rfl) ?_
        refine WO_end rfl ?_
        refine X_then ?_
        refine W_ret ?_
        refine X_then_ret ?_
        obtain rfl := Option.some.inj hr
        refine X_ret [.cell 2 24, .tmp 3] [.agg #[.slice none (List.length ([] : List (ByteArray))) 0], .int .i64 y2] rfl (ResAll.cons (ResAt.blk (v := .agg #[.slice none (List.length ([] : List (ByteArray))) 0]) (o := 0) (by kernel_rfl) st.head (by kernel_rfl)) (ResAll.cons (ResAt.tmp (by kernel_rfl)) ResAll.nil)) ?_
        have st := st.nilroom 9 1
        have st := st.front1
        have st := st.tail
        have st := st.front1
        have st := st.tail
        have st := st.front1
        have st := st.tail
        exact ⟨none, 0, m6, rfl, hm, st, (RepS.nil _ _)⟩
      · intro hc
        rw [if_neg (not_true hc)] at hr
        refine W_skip ?_
        refine X_then ?_
        refine W_seq ?_
        refine W_region ?_
        refine WO_one rfl (One_load_own (d := 46) (t := 24) (x := (.tmp 7)) (.agg #[.slice a3 (List.length o1) c3]) (by kernel_rfl) rfl (show evL _ _ = some (.pointer (some ⟨b2, 0, none⟩)) from (by kernel_rfl)) st.head (by kernel_rfl) ?_)
        have st := st.front1
        refine WO_one rfl (One_store (t := 24) (x := (.tmp 2)) (y := (.tmp 46)) (v := .agg #[.slice a3 (List.length o1) c3]) (c' := #[.slice a3 (List.length o1) c3]) (by kernel_rfl) (show evL _ _ = some (.pointer (some ⟨b1, 0, none⟩)) from (by kernel_rfl)) (show evL _ _ = some (.agg #[.slice a3 (List.length o1) c3]) from (by kernel_rfl)) st (by kernel_rfl) (by kernel_rfl) ?_)
        clear st
        intro w15 st
        refine WO_seg 1 [(3, .int .i64 0)] (by kernel_rfl) (by kernel_rfl) ?_
        refine WO_end rfl ?_
        refine X_then ?_
        refine W_ret ?_
        obtain rfl := Option.some.inj hr
        refine X_ret [.cell 2 24, .tmp 3] [.agg #[.slice a3 (List.length o1) c3], .int .i64 0] rfl (ResAll.cons (ResAt.blk (v := .agg #[.slice a3 (List.length o1) c3]) (o := 0) (by kernel_rfl) st.head (by kernel_rfl)) (ResAll.cons (ResAt.tmp (by kernel_rfl)) ResAll.nil)) ?_
        have st := st.tail
        have st := st.tail
        exact ⟨a3, c3, m6, rfl, hm, st, r3⟩
    intro K0_u1
    have st := st.nilroom 9 1
    have st := st.front2
    have st := st.front3
    have st := st.front3
    refine W_env _ (by kernel_rfl) (W_loop (fun k1 L' w' => ∃ (s1 : Int × List (ByteArray)) (a4 : Option Addr) (c4 : Nat) (m3 : Mem), loopM (contents_Decode_L1 N y1) k1 s1 = some out1 ∧ L' = [(2, .pointer (some ⟨b1, 0, none⟩)), (7, .pointer (some ⟨b2, 0, none⟩)), (21, .slice a2 (List.length y1.1) c2), (22, .int .i64 (List.length y1.1 : Int)), (23, .int .i64 s1.1)] ∧ m.le m3 ∧ St m3 (.blk b2 (.cells #[.slice a4 (List.length s1.2) c4] 24 (0, 0)) :: .blk b1 (.cells #[.slice none (List.length ([] : List (ByteArray))) 0] 24 (0, 0)) :: .room a2 (List.length y1.1) c2 54 2 :: .room a4 (List.length s1.2) c4 9 1 :: own) w' ∧ RepS (cPair (cInt .i64) (cSl cU8)) m3 a2 c2 y1.1 ∧ RepS cStr m3 a4 c4 s1.2) N ⟨(0, ([] : List (ByteArray))), none, 0, m1, hr, rfl, hm, st, r2, (RepS.nil _ _)⟩ ?_)
    clear st hr
    rintro k1 _ w6 ⟨s1, a4, c4, m3, hL, rfl, hm, st, r2, r4⟩
    rcases k1 with _ | k1
    · exact loopM_zero hL
    · obtain ⟨qu1, hr, hSu1, hBu1⟩ := loopM_succ hL
      clear hL
      unfold contents_Decode_L1 at hr
      refine W_seq ?_
      refine W_region ?_
      refine WO_seg 1 [(24, .bool (decide (s1.1 < (List.length y1.1 : Int))))] (by kernel_rfl) (by kernel_rfl) ?_
      refine WO_end rfl ?_
      refine X_then ?_
      refine W_seq ?_
      refine W_cond (decide (s1.1 < (List.length y1.1 : Int))) (by kernel_rfl) ?_ ?_
      · intro hc
        rw [if_pos hc] at hr
        refine W_skip ?_
        refine X_then ?_
        refine W_seq ?_
        refine W_block ?_
        refine W_seq ?_
        refine W_region ?_
        replace hr := bindS hr
        obtain ⟨x1, hx2, hr⟩ := hr
        refine WO_one rfl (One_index (d := 25) (t := 62) (e := 54) (x := (.tmp 21)) (y := (.tmp 23)) (cPair (cInt .i64) (cSl cU8)) (by kernel_rfl) rfl (show evL _ _ = some (.slice a2 (List.length y1.1) c2) from (by kernel_rfl)) (show evL _ _ = some (.int .i64 s1.1) from (by kernel_rfl)) (by kernel_rfl) r2 hx2 ?_)
        rintro b3 f1 cs1 ⟨_, _, rfl, rfl, ⟨a5, c5, rfl, r5⟩⟩ hq1
        refine WO_one rfl (One_load_row (d := 26) (t := 54) (x := (.tmp 25)) (.agg #[.int .i64 x1.1, .slice a5 (List.length x1.2) c5]) (by kernel_rfl) rfl (show evL _ _ = some (.pointer (some ⟨b3, f1, none⟩)) from (by kernel_rfl)) st hq1 (by kernel_rfl) ?_)
        refine WO_one rfl (One_alloc (d := 9) (e := 54) (.agg #[.int .i64 0, .slice none 0 0]) (by kernel_rfl) rfl (by kernel_rfl) st ?_)
        clear st
        intro b4 w7 st
        refine WO_one rfl (One_store (t := 54) (x := (.tmp 9)) (y := (.tmp 26)) (v := .agg #[.int .i64 x1.1, .slice a5 (List.length x1.2) c5]) (c' := #[.int .i64 x1.1, .slice a5 (List.length x1.2) c5]) (by kernel_rfl) (show evL _ _ = some (.pointer (some ⟨b4, 0, none⟩)) from (by kernel_rfl)) (show evL _ _ = some (.agg #[.int .i64 x1.1, .slice a5 (List.length x1.2) c5]) from (by kernel_rfl)) st (by kernel_rfl) (by kernel_rfl) ?_)
        clear st
        intro w8 st
        refine WO_end rfl ?_
        refine X_then ?_
        refine W_seq ?_
        refine W_seq ?_
        refine W_region ?_
        refine WO_seg 1 [(27, .pointer (some ⟨b4, 0, none⟩))] (by kernel_rfl) (by kernel_rfl) ?_
        refine WO_one rfl (One_load_own (d := 28) (t := 3) (x := (.tmp 27)) (.int .i64 x1.1) (by kernel_rfl) rfl (show evL _ _ = some (.pointer (some ⟨b4, 0, none⟩)) from (by kernel_rfl)) st.head (by kernel_rfl) ?_)
        refine WO_seg 1 [(29, .bool (x1.1 != 3))] (by kernel_rfl) (by kernel_rfl) ?_
        refine WO_end rfl ?_
        refine X_then ?_
        refine W_cond (x1.1 != 3) (by kernel_rfl) ?_ ?_
        · intro hc
          rw [if_pos hc] at hr
          refine W_seq ?_
          refine W_region ?_
          refine WO_seg 1 [(30, .agg #[.slice none (List.length ([] : List (ByteArray))) 0])] (by kernel_rfl) (by kernel_rfl) ?_
          have st := st.front2
          refine WO_one rfl (One_store (t := 24) (x := (.tmp 2)) (y := (.tmp 30)) (v := .agg #[.slice none (List.length ([] : List (ByteArray))) 0]) (c' := #[.slice none (List.length ([] : List (ByteArray))) 0]) (by kernel_rfl) (show evL _ _ = some (.pointer (some ⟨b1, 0, none⟩)) from (by kernel_rfl)) (show evL _ _ = some (.agg #[.slice none (List.length ([] : List (ByteArray))) 0]) from (by kernel_rfl)) st (by kernel_rfl) (by kernel_rfl) ?_)
          clear st
          intro w9 st
          refine WO_seg 1 [(3, .int .i64 6)] (by kernel_rfl) (by kernel_rfl) ?_
          refine WO_end rfl ?_
          have st := st.front3
          have st := st.tail
          refine X_then ?_
          refine W_ret ?_
          refine X_then_ret ?_
          refine X_block_ret ?_
          refine X_then_ret ?_
          obtain rfl := Option.some.inj hr
          have ho := hBu1 _ rfl
          subst ho
          have hr := hrKu1
          dsimp only at hr
          refine X_then_ret ?_
          refine X_block_ret ?_
          refine X_then_ret ?_
          obtain rfl := Option.some.inj hr
          refine X_ret [.cell 2 24, .tmp 3] [.agg #[.slice none (List.length ([] : List (ByteArray))) 0], .int .i64 6] rfl (ResAll.cons (ResAt.blk (v := .agg #[.slice none (List.length ([] : List (ByteArray))) 0]) (o := 0) (by kernel_rfl) st.head (by kernel_rfl)) (ResAll.cons (ResAt.tmp (by kernel_rfl)) ResAll.nil)) ?_
          have st := st.nilroom 9 1
          have st := st.front1
          have st := st.tail
          have st := st.front1
          have st := st.tail
          have st := st.front1
          have st := st.tail
          have st := st.front1
          have st := st.tail
          exact ⟨none, 0, m3, rfl, hm, st, (RepS.nil _ _)⟩
        · intro hc
          rw [if_neg (not_true hc)] at hr
          refine W_skip ?_
          refine X_then ?_
          refine W_region ?_
          refine WO_seg 1 [(31, .pointer (some ⟨b2, 0, none⟩))] (by kernel_rfl) (by kernel_rfl) ?_
          refine WO_one rfl (One_load_own (d := 32) (t := 22) (x := (.tmp 31)) (.slice a4 (List.length s1.2) c4) (by kernel_rfl) rfl (show evL _ _ = some (.pointer (some ⟨b2, 0, none⟩)) from (by kernel_rfl)) st.tail.head (by kernel_rfl) ?_)
          refine WO_seg 1 [(33, .pointer (some ⟨b4, 1, none⟩))] (by kernel_rfl) (by kernel_rfl) ?_
          refine WO_one rfl (One_load_own (d := 34) (t := 50) (x := (.tmp 33)) (.slice a5 (List.length x1.2) c5) (by kernel_rfl) rfl (show evL _ _ = some (.pointer (some ⟨b4, 1, none⟩)) from (by kernel_rfl)) st.head (by kernel_rfl) ?_)
          refine WO_one rfl (One_bytesStr (d := 35) (t1 := 50) (t2 := 9) (e := 5) (x := (.tmp 34)) (by kernel_rfl) rfl (show evL _ _ = some (.slice a5 (List.length x1.2) c5) from (by kernel_rfl)) (by kernel_rfl) (by kernel_rfl) st r5 ?_)
          refine WO_one rfl (One_buildSlice (d := 36) (t := 22) (e := 9) (len := 1) (parts := #[(0, (.tmp 35))]) cStr (xs := [strOf x1.2]) [.string (strOf x1.2)] (by kernel_rfl) rfl (fun _ => buildCells_run (by kernel_rfl) _) rfl rfl st ⟨[.string (strOf x1.2)], _, rfl, rfl, rfl⟩ ?_)
          clear st
          intro b5 m4 w10 hle2 st r6
          have hm := Mem.le_trans hm hle2
          have r2 := r2.mono hle2
          have r4 := r4.mono hle2
          have r5 := r5.mono hle2
          have st := st.front5
          replace hr := bindS hr
          obtain ⟨l1, hx3, hr⟩ := hr
          refine WO_one rfl (One_append (d := 37) (t := 22) (u := 22) (e := 9) (by_ := 16) (x := (.tmp 32)) (y := (.tmp 36)) cStr (by kernel_rfl) rfl (show evL _ _ = some (.slice a4 (List.length s1.2) c4) from (by kernel_rfl)) (show evL _ _ = some (.slice (some ⟨b5, 0, none⟩) (List.length ([strOf x1.2])) 1) from (by kernel_rfl)) st (by kernel_rfl) (.inl (by kernel_rfl)) r4 r6.src hx3 ?_)
          clear st
          intro a6 c6 m5 w11 hle3 st r7
          have hm := Mem.le_trans hm hle3
          have r2 := r2.mono hle3
          have r4 := r4.mono hle3
          have r5 := r5.mono hle3
          have r6 := r6.mono hle3
          refine WO_seg 1 [(38, .pointer (some ⟨b2, 0, none⟩))] (by kernel_rfl) (by kernel_rfl) ?_
          have st := st.front3
          refine WO_one rfl (One_store (t := 22) (x := (.tmp 38)) (y := (.tmp 37)) (v := .slice a6 (List.length l1) c6) (c' := #[.slice a6 (List.length l1) c6]) (by kernel_rfl) (show evL _ _ = some (.pointer (some ⟨b2, 0, none⟩)) from (by kernel_rfl)) (show evL _ _ = some (.slice a6 (List.length l1) c6) from (by kernel_rfl)) st (by kernel_rfl) (by kernel_rfl) ?_)
          clear st
          intro w12 st
          refine WO_end rfl ?_
          have st := st.front2
          have st := st.tail
          refine X_block ?_
          refine X_then ?_
          refine W_region ?_
          refine WO_seg 2 [(23, .int .i64 (IntKind.wrap .i64 (s1.1 + 1)))] (by kernel_rfl) (by kernel_rfl) ?_
          refine WO_end rfl ?_
          obtain rfl := Option.some.inj hr
          have hL := hSu1 _ rfl
          have st := st.front2
          have st := st.tail
          have st := st.front1
          have st := st.front3
          have st := st.front3
          have st := st.front3
          exact X_env _ (by kernel_rfl) (X_round k1 (Nat.lt_succ_self _) ⟨(IntKind.wrap .i64 (s1.1 + 1), l1), a6, c6, m5, hL, rfl, hm, st, r2, r7⟩)
      · intro hc
        rw [if_neg (not_true hc)] at hr
        refine W_exit ?_
        refine X_then_exit ?_
        obtain rfl := Option.some.inj hr
        have ho := hBu1 _ rfl
        have st := st.front3
        have st := st.front3
        have st := st.front3
        have st := st.front3
        refine X_then_exit ?_
        exact X_env _ (by kernel_rfl) (K0_u1 _ _ ⟨s1.2, a4, c4, m3, ho, rfl, hm, st, r4⟩)

def testgateref13_Same_L1 (N : Nat) (p0 : List ByteArray) (p1 : List ByteArray) (s1 : Int) : Option ((Int) ⊕ ((Unit) ⊕ (Bool))) :=
  if (decide (s1 < (List.length p0 : Int))) = true then ((idx p0 s1).bind fun x1 => (idx p1 s1).bind fun x2 => if (!(x1.toList == x2.toList)) = true then (some (.inr (.inr (false)))) else (some (.inl (IntKind.wrap .i64 (s1 + 1))))) else (some (.inr (.inl ())))

def testgateref13_Same (N : Nat) (p0 : List ByteArray) (p1 : List ByteArray) : Option (Bool) :=
  if ((List.length p0 : Int) != (List.length p1 : Int)) = true then (some false) else ((loopM (testgateref13_Same_L1 N p0 p1) N 0).bind fun out1 => (match out1 with | .inl o1 => some true | .inr (z) => some z))

set_option maxHeartbeats 4000000 in
set_option maxRecDepth 100000 in
theorem testgateref13_Same_ok {N : Nat} {m : Mem} {own : List Piece} {w : World} {p0 : List ByteArray} {p1 : List ByteArray} {a1 : Option Addr} {c1 : Nat} {a2 : Option Addr} {c2 : Nat} {r : Bool} (st : St m (own) w) (r1 : RepS cStr m a1 c1 p0) (r2 : RepS cStr m a2 c2 p1) (hr : testgateref13_Same N p0 p1 = some r) : Calls Go.Proofs.Try.prog 22 #[.agg #[.slice a1 (List.length p0) c1], .agg #[.slice a2 (List.length p1) c2]] w fun e w' => ∃ (m' : Mem), e = .returned (.bool r) ∧ m.le m' ∧ St m' (own) w' := by
  unfold testgateref13_Same at hr
  have hm := m.le_refl
  refine W_calls Go.Proofs.Try.func22 rfl Go.Proofs.Try.ntmps22 [(0, .agg #[.slice a1 (List.length p0) c1]), (1, .agg #[.slice a2 (List.length p1) c2])] (by kernel_rfl) rfl ?_
  refine W_seq ?_
  refine W_region ?_
  refine WO_one rfl (One_box (d := 2) (e := 24) (x := (.tmp 0)) (.agg #[.slice a1 (List.length p0) c1]) (by kernel_rfl) rfl (by kernel_rfl) st ?_)
  clear st
  intro b1 m1 w1 hle1 st hb1
  have hm := Mem.le_trans hm hle1
  have r1 := r1.mono hle1
  have r2 := r2.mono hle1
  refine WO_one rfl (One_box (d := 3) (e := 24) (x := (.tmp 1)) (.agg #[.slice a2 (List.length p1) c2]) (by kernel_rfl) rfl (by kernel_rfl) st ?_)
  clear st
  intro b2 m2 w2 hle2 st hb2
  have hm := Mem.le_trans hm hle2
  have r1 := r1.mono hle2
  have r2 := r2.mono hle2
  have hb1 := hb1.mono hle2
  refine WO_seg 1 [] (by kernel_rfl) (by kernel_rfl) ?_
  refine WO_end rfl ?_
  refine X_then ?_
  refine W_seq ?_
  refine W_seq ?_
  refine W_region ?_
  refine WO_seg 1 [(6, .pointer (some ⟨b1, 0, none⟩))] (by kernel_rfl) (by kernel_rfl) ?_
  refine WO_one rfl (One_load_row (d := 7) (t := 22) (x := (.tmp 6)) (.slice a1 (List.length p0) c1) (by kernel_rfl) rfl (show evL _ _ = some (.pointer (some ⟨b1, 0, none⟩)) from (by kernel_rfl)) st hb1 (by kernel_rfl) ?_)
  refine WO_seg 2 [(8, .int .i64 (List.length p0 : Int)), (9, .pointer (some ⟨b2, 0, none⟩))] (by kernel_rfl) (by kernel_rfl) ?_
  refine WO_one rfl (One_load_row (d := 10) (t := 22) (x := (.tmp 9)) (.slice a2 (List.length p1) c2) (by kernel_rfl) rfl (show evL _ _ = some (.pointer (some ⟨b2, 0, none⟩)) from (by kernel_rfl)) st hb2 (by kernel_rfl) ?_)
  refine WO_seg 2 [(12, .bool ((List.length p0 : Int) != (List.length p1 : Int)))] (by kernel_rfl) (by kernel_rfl) ?_
  refine WO_end rfl ?_
  refine X_then ?_
  refine W_cond ((List.length p0 : Int) != (List.length p1 : Int)) (by kernel_rfl) ?_ ?_
  · intro hc
    rw [if_pos hc] at hr
    refine W_seq ?_
    refine W_region ?_
    refine WO_seg 1 [(4, .bool false)] (by kernel_rfl) (by kernel_rfl) ?_
    refine WO_end rfl ?_
    refine X_then ?_
    refine W_ret ?_
    refine X_then_ret ?_
    obtain rfl := Option.some.inj hr
    refine X_ret [.tmp 4] [.bool false] rfl (ResAll.cons (ResAt.tmp (by kernel_rfl)) ResAll.nil) ?_
    exact ⟨m2, rfl, hm, st⟩
  · intro hc
    rw [if_neg (not_true hc)] at hr
    refine W_skip ?_
    refine X_then ?_
    refine W_seq ?_
    refine W_seq ?_
    refine W_region ?_
    refine WO_seg 1 [(13, .pointer (some ⟨b1, 0, none⟩))] (by kernel_rfl) (by kernel_rfl) ?_
    refine WO_one rfl (One_load_row (d := 14) (t := 22) (x := (.tmp 13)) (.slice a1 (List.length p0) c1) (by kernel_rfl) rfl (show evL _ _ = some (.pointer (some ⟨b1, 0, none⟩)) from (by kernel_rfl)) st hb1 (by kernel_rfl) ?_)
    refine WO_seg 2 [(15, .int .i64 (List.length p0 : Int)), (16, .int .i64 0)] (by kernel_rfl) (by kernel_rfl) ?_
    refine WO_end rfl ?_
    refine X_then ?_
    refine W_block ?_
    replace hr := bindS hr
    obtain ⟨out1, hr, hrKu1⟩ := hr
    refine W_cut (.exit 0) (fun L' w' => ∃ (o1 : Unit) (m3 : Mem), (.inl o1) = out1 ∧ L' = [] ∧ m.le m3 ∧ St m3 (own) w') ?_ ?_
    · clear hr st
      rintro _ w3 ⟨o1, m3, rfl, rfl, hm, st⟩
      have hr := hrKu1
      clear hrKu1
      dsimp only at hr
      refine X_block_eq ?_
      refine X_then ?_
      refine W_seq ?_
      refine W_region ?_
      refine WO_seg 1 [(4, .bool true)] (by kernel_rfl) (by kernel_rfl) ?_
      refine WO_end rfl ?_
      refine X_then ?_
      refine W_ret ?_
      obtain rfl := Option.some.inj hr
      refine X_ret [.tmp 4] [.bool true] rfl (ResAll.cons (ResAt.tmp (by kernel_rfl)) ResAll.nil) ?_
      exact ⟨m3, rfl, hm, st⟩
    intro K0_u1
    refine W_env _ (by kernel_rfl) (W_loop (fun k1 L' w' => ∃ (s1 : Int) (m4 : Mem), loopM (testgateref13_Same_L1 N p0 p1) k1 s1 = some out1 ∧ L' = [(2, .pointer (some ⟨b1, 0, none⟩)), (3, .pointer (some ⟨b2, 0, none⟩)), (15, .int .i64 (List.length p0 : Int)), (16, .int .i64 s1)] ∧ m.le m4 ∧ St m4 (own) w' ∧ MRow m4 b1 0 [.slice a1 (List.length p0) c1] ∧ RepS cStr m4 a1 c1 p0 ∧ MRow m4 b2 0 [.slice a2 (List.length p1) c2] ∧ RepS cStr m4 a2 c2 p1) N ⟨0, m2, hr, rfl, hm, st, hb1, r1, hb2, r2⟩ ?_)
    clear st hr
    rintro k1 _ w4 ⟨s1, m4, hL, rfl, hm, st, hb1, r1, hb2, r2⟩
    rcases k1 with _ | k1
    · exact loopM_zero hL
    · obtain ⟨qu1, hr, hSu1, hBu1⟩ := loopM_succ hL
      clear hL
      unfold testgateref13_Same_L1 at hr
      refine W_seq ?_
      refine W_region ?_
      refine WO_seg 1 [(17, .bool (decide (s1 < (List.length p0 : Int))))] (by kernel_rfl) (by kernel_rfl) ?_
      refine WO_end rfl ?_
      refine X_then ?_
      refine W_seq ?_
      refine W_cond (decide (s1 < (List.length p0 : Int))) (by kernel_rfl) ?_ ?_
      · intro hc
        rw [if_pos hc] at hr
        refine W_skip ?_
        refine X_then ?_
        refine W_seq ?_
        refine W_block ?_
        refine W_seq ?_
        refine W_region ?_
        refine WO_seg 2 [(5, .int .i64 s1)] (by kernel_rfl) (by kernel_rfl) ?_
        refine WO_end rfl ?_
        refine X_then ?_
        refine W_seq ?_
        refine W_draw [(11, fun w' => Inv m4 w' ∧ True)] (by kernel_rfl) st ?_
        clear st
        intro w5 _ st
        have hmS := m4.le_refl
        refine ⟨⟨.inr ⟨Inv.anti st.inv hmS, trivial⟩, trivial⟩, ?_⟩
        refine WA_pure 0 19 (.pointer (some ⟨b1, 0, none⟩)) (by kernel_rfl) rfl (by kernel_rfl) (.head _) (QP_then (QP_block (QP_then (QP_then (QP_block (QP_then QP_body)))))) ?_
        refine WA_load_row (t := 22) (x := (.tmp 19)) 1 20 (.slice a1 (List.length p0) c1) (by kernel_rfl) rfl (by kernel_rfl) (.head _) (QP_then (QP_block (QP_then (QP_then (QP_block (QP_then QP_body)))))) (fun _ h => h.1) (show evL _ _ = some (.pointer (some ⟨b1, 0, none⟩)) from (by kernel_rfl)) hb1 (by kernel_rfl) ?_
        refine WA_pure 2 21 (.int .i64 s1) (by kernel_rfl) rfl (by kernel_rfl) (.head _) (QP_then (QP_block (QP_then (QP_then (QP_block (QP_then QP_body)))))) ?_
        replace hr := bindS hr
        obtain ⟨x1, hx1, hr⟩ := hr
        refine WA_index (t := 22) (e := 9) (x := (.tmp 20)) (y := (.tmp 21)) 3 22 cStr (by kernel_rfl) rfl (by kernel_rfl) (.head _) (QP_then (QP_block (QP_then (QP_then (QP_block (QP_then QP_body)))))) (show evL _ _ = some (.slice a1 (List.length p0) c1) from (by kernel_rfl)) (show evL _ _ = some (.int .i64 s1) from (by kernel_rfl)) (by kernel_rfl) r1 hx1 ?_
        rintro b3 f1 cs1 rfl hq1
        refine WA_load_row (t := 9) (x := (.tmp 22)) 4 23 (.string x1) (by kernel_rfl) rfl (by kernel_rfl) (.head _) (QP_then (QP_block (QP_then (QP_then (QP_block (QP_then QP_body)))))) (fun _ h => h.1) (show evL _ _ = some (.pointer (some ⟨b3, f1, none⟩)) from (by kernel_rfl)) hq1 (by kernel_rfl) ?_
        refine WA_pure 5 24 (.pointer (some ⟨b2, 0, none⟩)) (by kernel_rfl) rfl (by kernel_rfl) (.head _) (QP_then (QP_block (QP_then (QP_then (QP_block (QP_then QP_body)))))) ?_
        refine WA_load_row (t := 22) (x := (.tmp 24)) 6 25 (.slice a2 (List.length p1) c2) (by kernel_rfl) rfl (by kernel_rfl) (.head _) (QP_then (QP_block (QP_then (QP_then (QP_block (QP_then QP_body)))))) (fun _ h => h.1) (show evL _ _ = some (.pointer (some ⟨b2, 0, none⟩)) from (by kernel_rfl)) hb2 (by kernel_rfl) ?_
        refine WA_pure 7 26 (.int .i64 s1) (by kernel_rfl) rfl (by kernel_rfl) (.head _) (QP_then (QP_block (QP_then (QP_then (QP_block (QP_then QP_body)))))) ?_
        replace hr := bindS hr
        obtain ⟨x2, hx2, hr⟩ := hr
        refine WA_index (t := 22) (e := 9) (x := (.tmp 25)) (y := (.tmp 26)) 8 27 cStr (by kernel_rfl) rfl (by kernel_rfl) (.head _) (QP_then (QP_block (QP_then (QP_then (QP_block (QP_then QP_body)))))) (show evL _ _ = some (.slice a2 (List.length p1) c2) from (by kernel_rfl)) (show evL _ _ = some (.int .i64 s1) from (by kernel_rfl)) (by kernel_rfl) r2 hx2 ?_
        rintro b4 f2 cs2 rfl hq2
        refine WA_load_row (t := 9) (x := (.tmp 27)) 9 28 (.string x2) (by kernel_rfl) rfl (by kernel_rfl) (.head _) (QP_then (QP_block (QP_then (QP_then (QP_block (QP_then QP_body)))))) (fun _ h => h.1) (show evL _ _ = some (.pointer (some ⟨b4, f2, none⟩)) from (by kernel_rfl)) hq2 (by kernel_rfl) ?_
        refine WA_pure 10 29 (.bool (!(x1.toList == x2.toList))) (by kernel_rfl) rfl (by kernel_rfl) (.head _) (QP_then (QP_block (QP_then (QP_then (QP_block (QP_then QP_body)))))) ?_
        refine WA_done (by kernel_rfl) ?_
        refine X_then ?_
        refine W_cond (!(x1.toList == x2.toList)) (by kernel_rfl) ?_ ?_
        · intro hc
          rw [if_pos hc] at hr
          refine W_seq ?_
          refine W_region ?_
          refine WO_seg 1 [(4, .bool false)] (by kernel_rfl) (by kernel_rfl) ?_
          refine WO_end rfl ?_
          refine X_then ?_
          refine W_ret ?_
          refine X_block_ret ?_
          refine X_then_ret ?_
          obtain rfl := Option.some.inj hr
          have ho := hBu1 _ rfl
          subst ho
          have hr := hrKu1
          dsimp only at hr
          refine X_then_ret ?_
          refine X_block_ret ?_
          refine X_then_ret ?_
          obtain rfl := Option.some.inj hr
          refine X_ret [.tmp 4] [.bool false] rfl (ResAll.cons (ResAt.tmp (by kernel_rfl)) ResAll.nil) ?_
          exact ⟨m4, rfl, hm, st⟩
        · intro hc
          rw [if_neg (not_true hc)] at hr
          refine W_skip ?_
          refine X_block ?_
          refine X_then ?_
          refine W_region ?_
          refine WO_seg 2 [(16, .int .i64 (IntKind.wrap .i64 (s1 + 1)))] (by kernel_rfl) (by kernel_rfl) ?_
          refine WO_end rfl ?_
          obtain rfl := Option.some.inj hr
          have hL := hSu1 _ rfl
          exact X_env _ (by kernel_rfl) (X_round k1 (Nat.lt_succ_self _) ⟨IntKind.wrap .i64 (s1 + 1), m4, hL, rfl, hm, st, hb1, r1, hb2, r2⟩)
      · intro hc
        rw [if_neg (not_true hc)] at hr
        refine W_exit ?_
        refine X_then_exit ?_
        obtain rfl := Option.some.inj hr
        have ho := hBu1 _ rfl
        refine X_then_exit ?_
        exact X_env _ (by kernel_rfl) (K0_u1 _ _ ⟨(), m4, ho, rfl, hm, st⟩)

def testgatelaw13_ContentsKeeps_L1 (N : Nat) (y2 : (List Int × Int) × List ByteArray) (y9 : List ByteArray × List Int × Int) (s1 : Int) : Option ((Int) ⊕ ((Unit) ⊕ (Bool))) :=
  if (decide (s1 < (List.length y9.2.1 : Int))) = true then ((idx y9.2.1 s1).bind fun x1 => (contents_Get N y9.1 x1).bind fun y11 => (if (y11.2 != 0) = true then (some true) else ((idx y2.2 s1).bind fun x2 => some (!(y11.1.toList == x2.toList))) : Option (Bool)).bind fun o5 => if o5 = true then (some (.inr (.inr (false)))) else (some (.inl (IntKind.wrap .i64 (s1 + 1))))) else (some (.inr (.inl ())))

def testgatelaw13_ContentsKeeps_L2 (N : Nat) (y9 : List ByteArray × List Int × Int) (y12 : List ByteArray × List Int × Int) (s2 : Int) : Option ((Int) ⊕ ((Unit) ⊕ (Bool))) :=
  if (decide (s2 < (List.length y12.2.1 : Int))) = true then ((idx y12.2.1 s2).bind fun x3 => (if (decide (x3 ≥ 0)) = true then (if (decide (x3 ≥ (List.length y12.1 : Int))) = true then (some true) else ((idx y12.1 x3).bind fun x4 => (idx y9.1 s2).bind fun x5 => if (!(x4.toList == x5.toList)) = true then (some true) else (if (decide (x3 < 0)) = true then ((testgatemake_HasInt N y9.2.1 s2).bind fun y13 => some y13) else (some false)))) else (if (decide (x3 < 0)) = true then ((testgatemake_HasInt N y9.2.1 s2).bind fun y14 => some y14) else (some false)) : Option (Bool)).bind fun o8 => if o8 = true then (some (.inr (.inr (false)))) else (some (.inl (IntKind.wrap .i64 (s2 + 1))))) else (some (.inr (.inl ())))

def testgatelaw13_ContentsKeeps (N : Nat) (p0 : List Int) (p1 : ByteArray) : Option (Bool) :=
  (testgatelaw13_store N (p0, 0)).bind fun y1 => (testgatelaw13_store N (y1.1.1, y1.1.2)).bind fun y2 => ((testgateref13_Check N y1.2).bind fun y3 => if (y3 != 0) = true then (some true) else ((testgateref13_Check N y2.2).bind fun y4 => some (y4 != 0)) : Option (Bool)).bind fun o1 => if o1 = true then ((testgatelaw13_awake N).bind fun y5 => some y5) else ((contents_Put N y1.2 p1).bind fun y6 => (contents_Get N y6.1 y6.2.1).bind fun y7 => (if (y6.2.2 != 0) = true then (some true) else (if (y7.2 != 0) = true then (some true) else (if (!(y7.1.toList == p1.toList)) = true then (some true) else (if (decide ((List.length y6.1 : Int) < (List.length y1.2 : Int))) = true then (some true) else ((subS y6.1 0 (List.length y1.2 : Int)).bind fun l1 => (testgatemake_SameTexts N l1 y1.2).bind fun y8 => some (!y8))))) : Option (Bool)).bind fun o2 => if o2 = true then (some false) else ((contents_Merge N y1.2 y2.2).bind fun y9 => (if (y9.2.2 != 0) = true then (some true) else (if ((List.length y9.2.1 : Int) != (List.length y2.2 : Int)) = true then (some true) else ((subS y9.1 0 (List.length y1.2 : Int)).bind fun l2 => (testgatemake_SameTexts N l2 y1.2).bind fun y10 => some (!y10))) : Option (Bool)).bind fun o3 => if o3 = true then (some false) else ((loopM (testgatelaw13_ContentsKeeps_L1 N y2 y9) N 0).bind fun out1 => (match out1 with | .inl o4 => (contents_Keep N y9.1 y9.2.1).bind fun y12 => (if (y12.2.2 != 0) = true then (some true) else (some ((List.length y12.2.1 : Int) != (List.length y9.1 : Int))) : Option (Bool)).bind fun o6 => if o6 = true then (some false) else ((loopM (testgatelaw13_ContentsKeeps_L2 N y9 y12) N 0).bind fun out2 => (match out2 with | .inl o7 => (contents_Encode N y9.1).bind fun y15 => (contents_Decode N y15.1).bind fun y16 => (if (y15.2 == 0) = true then (if (y16.2 == 0) = true then ((testgateref13_Same N y16.1 y9.1).bind fun y17 => if y17 = true then ((testgatelaw13_awake N).bind fun y18 => some y18) else (some false)) else (some false)) else (some false) : Option (Bool)).bind fun o9 => some o9 | .inr (z) => some z)) | .inr (z) => some z))))

set_option maxHeartbeats 4000000 in
set_option maxRecDepth 100000 in
theorem testgatelaw13_ContentsKeeps_ok {N : Nat} {m : Mem} {own : List Piece} {w : World} {p0 : List Int} {p1 : ByteArray} {a1 : Option Addr} {c1 : Nat} {r : Bool} (st : St m (own) w) (r1 : RepS (cInt .i64) m a1 c1 p0) (hr : testgatelaw13_ContentsKeeps N p0 p1 = some r) : Calls Go.Proofs.Try.prog 11 #[.slice a1 (List.length p0) c1, .string p1] w fun e w' => ∃ (m' : Mem), e = .returned (.bool r) ∧ m.le m' ∧ St m' (own) w' := by
  unfold testgatelaw13_ContentsKeeps at hr
  have hm := m.le_refl
  refine W_calls Go.Proofs.Try.func11 rfl Go.Proofs.Try.ntmps11 [(0, .slice a1 (List.length p0) c1), (1, .string p1)] (by kernel_rfl) rfl ?_
  refine W_seq ?_
  refine W_region ?_
  refine WO_seg 1 [] (by kernel_rfl) (by kernel_rfl) ?_
  refine WO_end rfl ?_
  refine X_then ?_
  refine W_seq ?_
  refine W_region ?_
  refine WO_seg 2 [(26, .agg #[.slice a1 (List.length p0) c1, .int .i64 0])] (by kernel_rfl) (by kernel_rfl) ?_
  refine WO_one rfl (One_box_own (d := 27) (e := 35) (x := (.tmp 26)) (.agg #[.slice a1 (List.length p0) c1, .int .i64 0]) (by kernel_rfl) rfl (by kernel_rfl) st ?_)
  clear st
  intro b1 w1 st
  refine WO_seg 1 [(5, .pointer (some ⟨b1, 0, none⟩))] (by kernel_rfl) (by kernel_rfl) ?_
  refine WO_end rfl ?_
  refine X_then ?_
  refine W_seq ?_
  refine W_region ?_
  refine WO_seg 1 [(28, .pointer (some ⟨b1, 0, none⟩))] (by kernel_rfl) (by kernel_rfl) ?_
  replace hr := bindS hr
  obtain ⟨y1, hx1, hr⟩ := hr
  refine WO_one rfl (One_fn 29 16 #[.pointer (some ⟨b1, 0, none⟩)] (by kernel_rfl) rfl ?_)
  refine (testgatelaw13_store_ok st r1 hx1).mono ?_
  clear st
  rintro _ w2 ⟨a2, c2, a3, c3, m2, rfl, hle2, st, r2, r3⟩
  refine ⟨_, rfl, ?_⟩
  have hm := Mem.le_trans hm hle2
  have r1 := r1.mono hle2
  refine WO_seg 1 [(30, .pointer (some ⟨b1, 0, none⟩))] (by kernel_rfl) (by kernel_rfl) ?_
  have st := st.front1
  replace hr := bindS hr
  obtain ⟨y2, hx2, hr⟩ := hr
  refine WO_one rfl (One_fn 31 16 #[.pointer (some ⟨b1, 0, none⟩)] (by kernel_rfl) rfl ?_)
  refine (testgatelaw13_store_ok st r2 hx2).mono ?_
  clear st
  rintro _ w3 ⟨a4, c4, a5, c5, m3, rfl, hle3, st, r4, r5⟩
  refine ⟨_, rfl, ?_⟩
  have hm := Mem.le_trans hm hle3
  have r3 := r3.mono hle3
  have r2 := r2.mono hle3
  refine WO_one rfl (One_alloc (d := 6) (e := 24) (.agg #[.slice none 0 0]) (by kernel_rfl) rfl (by kernel_rfl) st ?_)
  clear st
  intro b2 w4 st
  refine WO_one rfl (One_alloc (d := 7) (e := 24) (.agg #[.slice none 0 0]) (by kernel_rfl) rfl (by kernel_rfl) st ?_)
  clear st
  intro b3 w5 st
  have st := st.front1
  refine WO_one rfl (One_store (t := 24) (x := (.tmp 6)) (y := (.tmp 29)) (v := .agg #[.slice a3 (List.length y1.2) c3]) (c' := #[.slice a3 (List.length y1.2) c3]) (by kernel_rfl) (show evL _ _ = some (.pointer (some ⟨b2, 0, none⟩)) from (by kernel_rfl)) (show evL _ _ = some (.agg #[.slice a3 (List.length y1.2) c3]) from (by kernel_rfl)) st (by kernel_rfl) (by kernel_rfl) ?_)
  clear st
  intro w6 st
  have st := st.front1
  refine WO_one rfl (One_store (t := 24) (x := (.tmp 7)) (y := (.tmp 31)) (v := .agg #[.slice a5 (List.length y2.2) c5]) (c' := #[.slice a5 (List.length y2.2) c5]) (by kernel_rfl) (show evL _ _ = some (.pointer (some ⟨b3, 0, none⟩)) from (by kernel_rfl)) (show evL _ _ = some (.agg #[.slice a5 (List.length y2.2) c5]) from (by kernel_rfl)) st (by kernel_rfl) (by kernel_rfl) ?_)
  clear st
  intro w7 st
  refine WO_end rfl ?_
  refine X_then ?_
  refine W_seq ?_
  refine W_seq ?_
  refine W_region ?_
  replace hr := bindS hr
  obtain ⟨o1, hr, hrK⟩ := hr
  refine WO_cut (j := 8) (fun L' w' => ∃ (m4 : Mem), L' = [(1, .string p1), (6, .pointer (some ⟨b2, 0, none⟩)), (7, .pointer (some ⟨b3, 0, none⟩)), (39, .bool o1)] ∧ m.le m4 ∧ St m4 (.blk b3 (.cells #[.slice a5 (List.length y2.2) c5] 24 (0, 0)) :: .blk b2 (.cells #[.slice a3 (List.length y1.2) c3] 24 (0, 0)) :: .blk b1 (.cells #[.slice a4 (List.length y2.1.1) c4, .int .i64 y2.1.2] 35 (0, 0)) :: .room a5 (List.length y2.2) c5 9 1 :: .room a3 (List.length y1.2) c3 9 1 :: own) w' ∧ RepS cStr m4 a5 c5 y2.2 ∧ RepS cStr m4 a3 c3 y1.2 ∧ RepS (cInt .i64) m4 a4 c4 y2.1.1) ?_ ?_
  · clear hr st
    have hr := hrK
    clear hrK
    rintro _ w8 ⟨m4, rfl, hm, st, r5, r3, r4⟩
    refine WO_end rfl ?_
    refine X_then ?_
    refine W_cond o1 (by kernel_rfl) ?_ ?_
    · intro hc
      rw [if_pos hc] at hr
      refine W_seq ?_
      refine W_region ?_
      replace hr := bindS hr
      obtain ⟨y5, hx5, hr⟩ := hr
      refine WO_one rfl (One_fn 40 15 #[] (by kernel_rfl) rfl ?_)
      refine (testgatelaw13_awake_ok st hx5).mono ?_
      clear st
      rintro _ w11 ⟨m7, rfl, hle6, st⟩
      refine ⟨_, rfl, ?_⟩
      have hm := Mem.le_trans hm hle6
      have r5 := r5.mono hle6
      have r3 := r3.mono hle6
      have r4 := r4.mono hle6
      refine WO_seg 1 [(4, .bool y5)] (by kernel_rfl) (by kernel_rfl) ?_
      refine WO_end rfl ?_
      refine X_then ?_
      refine W_ret ?_
      refine X_then_ret ?_
      obtain rfl := Option.some.inj hr
      refine X_ret [.tmp 4] [.bool y5] rfl (ResAll.cons (ResAt.tmp (by kernel_rfl)) ResAll.nil) ?_
      have st := st.tail
      have st := st.tail
      have st := st.tail
      have st := st.tail
      have st := st.tail
      exact ⟨m7, rfl, hm, st⟩
    · intro hc
      rw [if_neg (not_true hc)] at hr
      refine W_skip ?_
      refine X_then ?_
      refine W_seq ?_
      refine W_region ?_
      refine WO_one rfl (One_load_own (d := 42) (t := 24) (x := (.tmp 6)) (.agg #[.slice a3 (List.length y1.2) c3]) (by kernel_rfl) rfl (show evL _ _ = some (.pointer (some ⟨b2, 0, none⟩)) from (by kernel_rfl)) st.tail.head (by kernel_rfl) ?_)
      refine WO_seg 1 [(43, .string p1)] (by kernel_rfl) (by kernel_rfl) ?_
      replace hr := bindS hr
      obtain ⟨y6, hx6, hr⟩ := hr
      refine WO_one rfl (One_fn 44 13 #[.agg #[.slice a3 (List.length y1.2) c3], .string p1] (by kernel_rfl) rfl ?_)
      refine (contents_Put_ok st r3 hx6).mono ?_
      clear st
      rintro _ w12 ⟨a6, c6, m8, rfl, hle7, st, r6⟩
      refine ⟨_, rfl, ?_⟩
      have hm := Mem.le_trans hm hle7
      have r3 := r3.mono hle7
      have r5 := r5.mono hle7
      have r4 := r4.mono hle7
      refine WO_seg 4 [(45, .agg #[.slice a6 (List.length y6.1) c6]), (46, .int .i64 y6.2.1), (47, .int .i64 y6.2.2)] (by kernel_rfl) (by kernel_rfl) ?_
      refine WO_one rfl (One_alloc (d := 8) (e := 24) (.agg #[.slice none 0 0]) (by kernel_rfl) rfl (by kernel_rfl) st ?_)
      clear st
      intro b4 w13 st
      refine WO_one rfl (One_store (t := 24) (x := (.tmp 8)) (y := (.tmp 45)) (v := .agg #[.slice a6 (List.length y6.1) c6]) (c' := #[.slice a6 (List.length y6.1) c6]) (by kernel_rfl) (show evL _ _ = some (.pointer (some ⟨b4, 0, none⟩)) from (by kernel_rfl)) (show evL _ _ = some (.agg #[.slice a6 (List.length y6.1) c6]) from (by kernel_rfl)) st (by kernel_rfl) (by kernel_rfl) ?_)
      clear st
      intro w14 st
      refine WO_seg 2 [(9, .int .i64 y6.2.1), (10, .int .i64 y6.2.2)] (by kernel_rfl) (by kernel_rfl) ?_
      refine WO_end rfl ?_
      refine X_then ?_
      refine W_seq ?_
      refine W_region ?_
      refine WO_one rfl (One_load_own (d := 49) (t := 24) (x := (.tmp 8)) (.agg #[.slice a6 (List.length y6.1) c6]) (by kernel_rfl) rfl (show evL _ _ = some (.pointer (some ⟨b4, 0, none⟩)) from (by kernel_rfl)) st.head (by kernel_rfl) ?_)
      refine WO_seg 1 [(50, .int .i64 y6.2.1)] (by kernel_rfl) (by kernel_rfl) ?_
      replace hr := bindS hr
      obtain ⟨y7, hx7, hr⟩ := hr
      refine WO_one rfl (One_fn 51 23 #[.agg #[.slice a6 (List.length y6.1) c6], .int .i64 y6.2.1] (by kernel_rfl) rfl ?_)
      refine (contents_Get_ok st r6 hx7).mono ?_
      clear st
      rintro _ w15 ⟨m9, rfl, hle8, st⟩
      refine ⟨_, rfl, ?_⟩
      have hm := Mem.le_trans hm hle8
      have r6 := r6.mono hle8
      have r5 := r5.mono hle8
      have r3 := r3.mono hle8
      have r4 := r4.mono hle8
      refine WO_seg 5 [(11, .string y7.1), (12, .int .i64 y7.2)] (by kernel_rfl) (by kernel_rfl) ?_
      refine WO_end rfl ?_
      refine X_then ?_
      refine W_seq ?_
      refine W_seq ?_
      replace hr := bindS hr
      obtain ⟨o2, hr, hrK⟩ := hr
      refine W_cut .normal (fun L' w' => ∃ (m10 : Mem), L' = [(6, .pointer (some ⟨b2, 0, none⟩)), (7, .pointer (some ⟨b3, 0, none⟩)), (85, .bool o2)] ∧ m.le m10 ∧ St m10 (.blk b4 (.cells #[.slice a6 (List.length y6.1) c6] 24 (0, 0)) :: .blk b3 (.cells #[.slice a5 (List.length y2.2) c5] 24 (0, 0)) :: .blk b2 (.cells #[.slice a3 (List.length y1.2) c3] 24 (0, 0)) :: .blk b1 (.cells #[.slice a4 (List.length y2.1.1) c4, .int .i64 y2.1.2] 35 (0, 0)) :: .room a6 (List.length y6.1) c6 9 1 :: .room a5 (List.length y2.2) c5 9 1 :: .room a3 (List.length y1.2) c3 9 1 :: own) w' ∧ RepS cStr m10 a6 c6 y6.1 ∧ RepS cStr m10 a5 c5 y2.2 ∧ RepS cStr m10 a3 c3 y1.2 ∧ RepS (cInt .i64) m10 a4 c4 y2.1.1) ?_ ?_
      · clear hr st
        have hr := hrK
        clear hrK
        rintro _ w16 ⟨m10, rfl, hm, st, r6, r5, r3, r4⟩
        refine X_then ?_
        refine W_cond o2 (by kernel_rfl) ?_ ?_
        · intro hc
          rw [if_pos hc] at hr
          refine W_seq ?_
          refine W_region ?_
          refine WO_seg 1 [(4, .bool false)] (by kernel_rfl) (by kernel_rfl) ?_
          refine WO_end rfl ?_
          refine X_then ?_
          refine W_ret ?_
          refine X_then_ret ?_
          obtain rfl := Option.some.inj hr
          refine X_ret [.tmp 4] [.bool false] rfl (ResAll.cons (ResAt.tmp (by kernel_rfl)) ResAll.nil) ?_
          have st := st.tail
          have st := st.tail
          have st := st.tail
          have st := st.tail
          have st := st.tail
          have st := st.tail
          have st := st.tail
          exact ⟨m10, rfl, hm, st⟩
        · intro hc
          rw [if_neg (not_true hc)] at hr
          refine W_skip ?_
          refine X_then ?_
          refine W_seq ?_
          refine W_region ?_
          refine WO_one rfl (One_load_own (d := 87) (t := 24) (x := (.tmp 6)) (.agg #[.slice a3 (List.length y1.2) c3]) (by kernel_rfl) rfl (show evL _ _ = some (.pointer (some ⟨b2, 0, none⟩)) from (by kernel_rfl)) st.tail.tail.head (by kernel_rfl) ?_)
          refine WO_one rfl (One_load_own (d := 88) (t := 24) (x := (.tmp 7)) (.agg #[.slice a5 (List.length y2.2) c5]) (by kernel_rfl) rfl (show evL _ _ = some (.pointer (some ⟨b3, 0, none⟩)) from (by kernel_rfl)) st.tail.head (by kernel_rfl) ?_)
          replace hr := bindS hr
          obtain ⟨y9, hx10, hr⟩ := hr
          refine WO_one rfl (One_fn 89 29 #[.agg #[.slice a3 (List.length y1.2) c3], .agg #[.slice a5 (List.length y2.2) c5]] (by kernel_rfl) rfl ?_)
          refine (contents_Merge_ok st r3 r5 hx10).mono ?_
          clear st
          rintro _ w19 ⟨a8, c8, a9, c9, m12, rfl, hle10, st, r8, r9⟩
          refine ⟨_, rfl, ?_⟩
          have hm := Mem.le_trans hm hle10
          have r3 := r3.mono hle10
          have r5 := r5.mono hle10
          have r6 := r6.mono hle10
          have r4 := r4.mono hle10
          refine WO_seg 4 [(90, .agg #[.slice a8 (List.length y9.1) c8]), (91, .slice a9 (List.length y9.2.1) c9), (92, .int .i64 y9.2.2)] (by kernel_rfl) (by kernel_rfl) ?_
          refine WO_one rfl (One_alloc (d := 13) (e := 24) (.agg #[.slice none 0 0]) (by kernel_rfl) rfl (by kernel_rfl) st ?_)
          clear st
          intro b5 w20 st
          refine WO_one rfl (One_store (t := 24) (x := (.tmp 13)) (y := (.tmp 90)) (v := .agg #[.slice a8 (List.length y9.1) c8]) (c' := #[.slice a8 (List.length y9.1) c8]) (by kernel_rfl) (show evL _ _ = some (.pointer (some ⟨b5, 0, none⟩)) from (by kernel_rfl)) (show evL _ _ = some (.agg #[.slice a8 (List.length y9.1) c8]) from (by kernel_rfl)) st (by kernel_rfl) (by kernel_rfl) ?_)
          clear st
          intro w21 st
          refine WO_seg 2 [(14, .slice a9 (List.length y9.2.1) c9), (10, .int .i64 y9.2.2)] (by kernel_rfl) (by kernel_rfl) ?_
          refine WO_end rfl ?_
          refine X_then ?_
          refine W_seq ?_
          refine W_seq ?_
          replace hr := bindS hr
          obtain ⟨o3, hr, hrK⟩ := hr
          refine W_cut .normal (fun L' w' => ∃ (m13 : Mem), L' = [(7, .pointer (some ⟨b3, 0, none⟩)), (13, .pointer (some ⟨b5, 0, none⟩)), (14, .slice a9 (List.length y9.2.1) c9), (114, .bool o3)] ∧ m.le m13 ∧ St m13 (.blk b5 (.cells #[.slice a8 (List.length y9.1) c8] 24 (0, 0)) :: .blk b4 (.cells #[.slice a6 (List.length y6.1) c6] 24 (0, 0)) :: .blk b3 (.cells #[.slice a5 (List.length y2.2) c5] 24 (0, 0)) :: .blk b2 (.cells #[.slice a3 (List.length y1.2) c3] 24 (0, 0)) :: .blk b1 (.cells #[.slice a4 (List.length y2.1.1) c4, .int .i64 y2.1.2] 35 (0, 0)) :: .room a8 (List.length y9.1) c8 9 1 :: .room a9 (List.length y9.2.1) c9 3 1 :: .room a6 (List.length y6.1) c6 9 1 :: .room a5 (List.length y2.2) c5 9 1 :: .room a3 (List.length y1.2) c3 9 1 :: own) w' ∧ RepS (cInt .i64) m13 a9 c9 y9.2.1 ∧ RepS cStr m13 a8 c8 y9.1 ∧ RepS cStr m13 a6 c6 y6.1 ∧ RepS cStr m13 a5 c5 y2.2 ∧ RepS cStr m13 a3 c3 y1.2 ∧ RepS (cInt .i64) m13 a4 c4 y2.1.1) ?_ ?_
          · clear hr st
            have hr := hrK
            clear hrK
            rintro _ w22 ⟨m13, rfl, hm, st, r9, r8, r6, r5, r3, r4⟩
            refine X_then ?_
            refine W_cond o3 (by kernel_rfl) ?_ ?_
            · intro hc
              rw [if_pos hc] at hr
              refine W_seq ?_
              refine W_region ?_
              refine WO_seg 1 [(4, .bool false)] (by kernel_rfl) (by kernel_rfl) ?_
              refine WO_end rfl ?_
              have st := st.front6
              have st := st.tail
              refine X_then ?_
              refine W_ret ?_
              refine X_then_ret ?_
              obtain rfl := Option.some.inj hr
              refine X_ret [.tmp 4] [.bool false] rfl (ResAll.cons (ResAt.tmp (by kernel_rfl)) ResAll.nil) ?_
              have st := st.tail
              have st := st.tail
              have st := st.tail
              have st := st.tail
              have st := st.tail
              have st := st.tail
              have st := st.tail
              have st := st.tail
              have st := st.tail
              exact ⟨m13, rfl, hm, st⟩
            · intro hc
              rw [if_neg (not_true hc)] at hr
              refine W_skip ?_
              refine X_then ?_
              refine W_seq ?_
              refine W_seq ?_
              refine W_region ?_
              refine WO_seg 3 [(115, .slice a9 (List.length y9.2.1) c9), (116, .int .i64 (List.length y9.2.1 : Int)), (117, .int .i64 0)] (by kernel_rfl) (by kernel_rfl) ?_
              refine WO_end rfl ?_
              refine X_then ?_
              refine W_block ?_
              replace hr := bindS hr
              obtain ⟨out1, hr, hrKu1⟩ := hr
              refine W_cut (.exit 0) (fun L' w' => ∃ (o4 : Unit) (m15 : Mem), (.inl o4) = out1 ∧ L' = [(13, .pointer (some ⟨b5, 0, none⟩)), (14, .slice a9 (List.length y9.2.1) c9)] ∧ m.le m15 ∧ St m15 (.blk b5 (.cells #[.slice a8 (List.length y9.1) c8] 24 (0, 0)) :: .blk b4 (.cells #[.slice a6 (List.length y6.1) c6] 24 (0, 0)) :: .blk b3 (.cells #[.slice a5 (List.length y2.2) c5] 24 (0, 0)) :: .blk b2 (.cells #[.slice a3 (List.length y1.2) c3] 24 (0, 0)) :: .blk b1 (.cells #[.slice a4 (List.length y2.1.1) c4, .int .i64 y2.1.2] 35 (0, 0)) :: .room a8 (List.length y9.1) c8 9 1 :: .room a9 (List.length y9.2.1) c9 3 1 :: .room a6 (List.length y6.1) c6 9 1 :: .room a5 (List.length y2.2) c5 9 1 :: .room a3 (List.length y1.2) c3 9 1 :: own) w' ∧ RepS (cInt .i64) m15 a9 c9 y9.2.1 ∧ RepS cStr m15 a8 c8 y9.1 ∧ RepS cStr m15 a6 c6 y6.1 ∧ RepS cStr m15 a5 c5 y2.2 ∧ RepS cStr m15 a3 c3 y1.2 ∧ RepS (cInt .i64) m15 a4 c4 y2.1.1) ?_ ?_
              · clear hr st
                rintro _ w25 ⟨o4, m15, rfl, rfl, hm, st, r9, r8, r6, r5, r3, r4⟩
                have hr := hrKu1
                clear hrKu1
                dsimp only at hr
                refine X_block_eq ?_
                refine X_then ?_
                refine W_seq ?_
                refine W_region ?_
                refine WO_one rfl (One_load_own (d := 141) (t := 24) (x := (.tmp 13)) (.agg #[.slice a8 (List.length y9.1) c8]) (by kernel_rfl) rfl (show evL _ _ = some (.pointer (some ⟨b5, 0, none⟩)) from (by kernel_rfl)) st.head (by kernel_rfl) ?_)
                refine WO_seg 1 [(142, .slice a9 (List.length y9.2.1) c9)] (by kernel_rfl) (by kernel_rfl) ?_
                replace hr := bindS hr
                obtain ⟨y12, hx16, hr⟩ := hr
                refine WO_one rfl (One_fn 143 26 #[.agg #[.slice a8 (List.length y9.1) c8], .slice a9 (List.length y9.2.1) c9] (by kernel_rfl) rfl ?_)
                refine (contents_Keep_ok st r8 r9 hx16).mono ?_
                clear st
                rintro _ w29 ⟨a11, c11, a12, c12, m19, rfl, hle13, st, r11, r12⟩
                refine ⟨_, rfl, ?_⟩
                have hm := Mem.le_trans hm hle13
                have r9 := r9.mono hle13
                have r8 := r8.mono hle13
                have r6 := r6.mono hle13
                have r5 := r5.mono hle13
                have r3 := r3.mono hle13
                have r4 := r4.mono hle13
                refine WO_seg 4 [(144, .agg #[.slice a11 (List.length y12.1) c11]), (145, .slice a12 (List.length y12.2.1) c12), (146, .int .i64 y12.2.2)] (by kernel_rfl) (by kernel_rfl) ?_
                refine WO_one rfl (One_alloc (d := 19) (e := 24) (.agg #[.slice none 0 0]) (by kernel_rfl) rfl (by kernel_rfl) st ?_)
                clear st
                intro b8 w30 st
                refine WO_one rfl (One_store (t := 24) (x := (.tmp 19)) (y := (.tmp 144)) (v := .agg #[.slice a11 (List.length y12.1) c11]) (c' := #[.slice a11 (List.length y12.1) c11]) (by kernel_rfl) (show evL _ _ = some (.pointer (some ⟨b8, 0, none⟩)) from (by kernel_rfl)) (show evL _ _ = some (.agg #[.slice a11 (List.length y12.1) c11]) from (by kernel_rfl)) st (by kernel_rfl) (by kernel_rfl) ?_)
                clear st
                intro w31 st
                refine WO_seg 2 [(20, .slice a12 (List.length y12.2.1) c12), (10, .int .i64 y12.2.2)] (by kernel_rfl) (by kernel_rfl) ?_
                refine WO_end rfl ?_
                refine X_then ?_
                refine W_seq ?_
                refine W_seq ?_
                refine W_region ?_
                replace hr := bindS hr
                obtain ⟨o6, hr, hrK⟩ := hr
                refine WO_cut (j := 10) (fun L' w' => ∃ (m20 : Mem), L' = [(13, .pointer (some ⟨b5, 0, none⟩)), (14, .slice a9 (List.length y9.2.1) c9), (19, .pointer (some ⟨b8, 0, none⟩)), (20, .slice a12 (List.length y12.2.1) c12), (156, .bool o6)] ∧ m.le m20 ∧ St m20 (.blk b8 (.cells #[.slice a11 (List.length y12.1) c11] 24 (0, 0)) :: .blk b5 (.cells #[.slice a8 (List.length y9.1) c8] 24 (0, 0)) :: .blk b4 (.cells #[.slice a6 (List.length y6.1) c6] 24 (0, 0)) :: .blk b3 (.cells #[.slice a5 (List.length y2.2) c5] 24 (0, 0)) :: .blk b2 (.cells #[.slice a3 (List.length y1.2) c3] 24 (0, 0)) :: .blk b1 (.cells #[.slice a4 (List.length y2.1.1) c4, .int .i64 y2.1.2] 35 (0, 0)) :: .room a11 (List.length y12.1) c11 9 1 :: .room a12 (List.length y12.2.1) c12 3 1 :: .room a8 (List.length y9.1) c8 9 1 :: .room a9 (List.length y9.2.1) c9 3 1 :: .room a6 (List.length y6.1) c6 9 1 :: .room a5 (List.length y2.2) c5 9 1 :: .room a3 (List.length y1.2) c3 9 1 :: own) w' ∧ RepS (cInt .i64) m20 a9 c9 y9.2.1 ∧ RepS (cInt .i64) m20 a12 c12 y12.2.1 ∧ RepS cStr m20 a11 c11 y12.1 ∧ RepS cStr m20 a8 c8 y9.1 ∧ RepS cStr m20 a6 c6 y6.1 ∧ RepS cStr m20 a5 c5 y2.2 ∧ RepS cStr m20 a3 c3 y1.2 ∧ RepS (cInt .i64) m20 a4 c4 y2.1.1) ?_ ?_
                · clear hr st
                  have hr := hrK
                  clear hrK
                  rintro _ w32 ⟨m20, rfl, hm, st, r9, r12, r11, r8, r6, r5, r3, r4⟩
                  refine WO_end rfl ?_
                  refine X_then ?_
                  refine W_cond o6 (by kernel_rfl) ?_ ?_
                  · intro hc
                    rw [if_pos hc] at hr
                    refine W_seq ?_
                    refine W_region ?_
                    refine WO_seg 1 [(4, .bool false)] (by kernel_rfl) (by kernel_rfl) ?_
                    refine WO_end rfl ?_
                    have st := st.front7
                    have st := st.tail
                    have st := st.front8
                    have st := st.tail
                    refine X_then ?_
                    refine W_ret ?_
                    refine X_then_ret ?_
                    obtain rfl := Option.some.inj hr
                    refine X_ret [.tmp 4] [.bool false] rfl (ResAll.cons (ResAt.tmp (by kernel_rfl)) ResAll.nil) ?_
                    have st := st.tail
                    have st := st.tail
                    have st := st.tail
                    have st := st.tail
                    have st := st.tail
                    have st := st.tail
                    have st := st.tail
                    have st := st.tail
                    have st := st.tail
                    have st := st.tail
                    have st := st.tail
                    exact ⟨m20, rfl, hm, st⟩
                  · intro hc
                    rw [if_neg (not_true hc)] at hr
                    refine W_skip ?_
                    refine X_then ?_
                    refine W_seq ?_
                    refine W_seq ?_
                    refine W_region ?_
                    refine WO_seg 3 [(157, .slice a12 (List.length y12.2.1) c12), (158, .int .i64 (List.length y12.2.1 : Int)), (159, .int .i64 0)] (by kernel_rfl) (by kernel_rfl) ?_
                    refine WO_end rfl ?_
                    refine X_then ?_
                    refine W_block ?_
                    replace hr := bindS hr
                    obtain ⟨out2, hr, hrKu3⟩ := hr
                    refine W_cut (.exit 2) (fun L' w' => ∃ (o7 : Unit) (m21 : Mem), (.inl o7) = out2 ∧ L' = [(13, .pointer (some ⟨b5, 0, none⟩))] ∧ m.le m21 ∧ St m21 (.blk b8 (.cells #[.slice a11 (List.length y12.1) c11] 24 (0, 0)) :: .blk b5 (.cells #[.slice a8 (List.length y9.1) c8] 24 (0, 0)) :: .blk b4 (.cells #[.slice a6 (List.length y6.1) c6] 24 (0, 0)) :: .blk b3 (.cells #[.slice a5 (List.length y2.2) c5] 24 (0, 0)) :: .blk b2 (.cells #[.slice a3 (List.length y1.2) c3] 24 (0, 0)) :: .blk b1 (.cells #[.slice a4 (List.length y2.1.1) c4, .int .i64 y2.1.2] 35 (0, 0)) :: .room a11 (List.length y12.1) c11 9 1 :: .room a12 (List.length y12.2.1) c12 3 1 :: .room a8 (List.length y9.1) c8 9 1 :: .room a9 (List.length y9.2.1) c9 3 1 :: .room a6 (List.length y6.1) c6 9 1 :: .room a5 (List.length y2.2) c5 9 1 :: .room a3 (List.length y1.2) c3 9 1 :: own) w' ∧ RepS cStr m21 a11 c11 y12.1 ∧ RepS cStr m21 a8 c8 y9.1 ∧ RepS cStr m21 a6 c6 y6.1 ∧ RepS cStr m21 a5 c5 y2.2 ∧ RepS cStr m21 a3 c3 y1.2 ∧ RepS (cInt .i64) m21 a4 c4 y2.1.1) ?_ ?_
                    · clear hr st
                      rintro _ w33 ⟨o7, m21, rfl, rfl, hm, st, r11, r8, r6, r5, r3, r4⟩
                      have hr := hrKu3
                      clear hrKu3
                      dsimp only at hr
                      refine X_block_eq ?_
                      refine X_then ?_
                      refine W_seq ?_
                      refine W_region ?_
                      refine WO_one rfl (One_load_own (d := 197) (t := 24) (x := (.tmp 13)) (.agg #[.slice a8 (List.length y9.1) c8]) (by kernel_rfl) rfl (show evL _ _ = some (.pointer (some ⟨b5, 0, none⟩)) from (by kernel_rfl)) st.tail.head (by kernel_rfl) ?_)
                      replace hr := bindS hr
                      obtain ⟨y15, hx22, hr⟩ := hr
                      refine WO_one rfl (One_fn 198 56 #[.agg #[.slice a8 (List.length y9.1) c8]] (by kernel_rfl) rfl ?_)
                      refine (contents_Encode_ok st r8 hx22).mono ?_
                      clear st
                      rintro _ w39 ⟨a13, c13, m26, rfl, hle16, st, r13⟩
                      refine ⟨_, rfl, ?_⟩
                      have hm := Mem.le_trans hm hle16
                      have r8 := r8.mono hle16
                      have r11 := r11.mono hle16
                      have r6 := r6.mono hle16
                      have r5 := r5.mono hle16
                      have r3 := r3.mono hle16
                      have r4 := r4.mono hle16
                      refine WO_seg 5 [(23, .slice a13 (List.length y15.1) c13), (10, .int .i64 y15.2)] (by kernel_rfl) (by kernel_rfl) ?_
                      refine WO_end rfl ?_
                      have st := st.front8
                      have st := st.tail
                      have st := st.front9
                      have st := st.tail
                      refine X_then ?_
                      refine W_seq ?_
                      refine W_region ?_
                      refine WO_seg 1 [(202, .slice a13 (List.length y15.1) c13)] (by kernel_rfl) (by kernel_rfl) ?_
                      replace hr := bindS hr
                      obtain ⟨y16, hx23, hr⟩ := hr
                      refine WO_one rfl (One_fn 203 61 #[.slice a13 (List.length y15.1) c13] (by kernel_rfl) rfl ?_)
                      refine (contents_Decode_ok st r13 hx23).mono ?_
                      clear st
                      rintro _ w40 ⟨a14, c14, m27, rfl, hle17, st, r14⟩
                      refine ⟨_, rfl, ?_⟩
                      have hm := Mem.le_trans hm hle17
                      have r13 := r13.mono hle17
                      have r11 := r11.mono hle17
                      have r8 := r8.mono hle17
                      have r6 := r6.mono hle17
                      have r5 := r5.mono hle17
                      have r3 := r3.mono hle17
                      have r4 := r4.mono hle17
                      refine WO_seg 3 [(204, .agg #[.slice a14 (List.length y16.1) c14]), (205, .int .i64 y16.2)] (by kernel_rfl) (by kernel_rfl) ?_
                      refine WO_one rfl (One_alloc (d := 24) (e := 24) (.agg #[.slice none 0 0]) (by kernel_rfl) rfl (by kernel_rfl) st ?_)
                      clear st
                      intro b12 w41 st
                      refine WO_one rfl (One_store (t := 24) (x := (.tmp 24)) (y := (.tmp 204)) (v := .agg #[.slice a14 (List.length y16.1) c14]) (c' := #[.slice a14 (List.length y16.1) c14]) (by kernel_rfl) (show evL _ _ = some (.pointer (some ⟨b12, 0, none⟩)) from (by kernel_rfl)) (show evL _ _ = some (.agg #[.slice a14 (List.length y16.1) c14]) from (by kernel_rfl)) st (by kernel_rfl) (by kernel_rfl) ?_)
                      clear st
                      intro w42 st
                      refine WO_seg 1 [(12, .int .i64 y16.2)] (by kernel_rfl) (by kernel_rfl) ?_
                      refine WO_end rfl ?_
                      have st := st.front2
                      have st := st.tail
                      refine X_then ?_
                      refine W_seq ?_
                      refine W_region ?_
                      replace hr := bindS hr
                      obtain ⟨o9, hr, hrK⟩ := hr
                      refine WO_cut (j := 15) (fun L' w' => ∃ (m28 : Mem), L' = [(4, .bool o9)] ∧ m.le m28 ∧ St m28 (.blk b12 (.cells #[.slice a14 (List.length y16.1) c14] 24 (0, 0)) :: .blk b8 (.cells #[.slice a11 (List.length y12.1) c11] 24 (0, 0)) :: .blk b5 (.cells #[.slice a8 (List.length y9.1) c8] 24 (0, 0)) :: .blk b4 (.cells #[.slice a6 (List.length y6.1) c6] 24 (0, 0)) :: .blk b3 (.cells #[.slice a5 (List.length y2.2) c5] 24 (0, 0)) :: .blk b2 (.cells #[.slice a3 (List.length y1.2) c3] 24 (0, 0)) :: .blk b1 (.cells #[.slice a4 (List.length y2.1.1) c4, .int .i64 y2.1.2] 35 (0, 0)) :: .room a14 (List.length y16.1) c14 9 1 :: .room a11 (List.length y12.1) c11 9 1 :: .room a8 (List.length y9.1) c8 9 1 :: .room a6 (List.length y6.1) c6 9 1 :: .room a5 (List.length y2.2) c5 9 1 :: .room a3 (List.length y1.2) c3 9 1 :: own) w' ∧ RepS cStr m28 a14 c14 y16.1 ∧ RepS cStr m28 a11 c11 y12.1 ∧ RepS cStr m28 a8 c8 y9.1 ∧ RepS cStr m28 a6 c6 y6.1 ∧ RepS cStr m28 a5 c5 y2.2 ∧ RepS cStr m28 a3 c3 y1.2 ∧ RepS (cInt .i64) m28 a4 c4 y2.1.1) ?_ ?_
                      · clear hr st
                        have hr := hrK
                        clear hrK
                        rintro _ w43 ⟨m28, rfl, hm, st, r14, r11, r8, r6, r5, r3, r4⟩
                        refine WO_end rfl ?_
                        refine X_then ?_
                        refine W_ret ?_
                        obtain rfl := Option.some.inj hr
                        refine X_ret [.tmp 4] [.bool o9] rfl (ResAll.cons (ResAt.tmp (by kernel_rfl)) ResAll.nil) ?_
                        have st := st.tail
                        have st := st.tail
                        have st := st.tail
                        have st := st.tail
                        have st := st.tail
                        have st := st.tail
                        have st := st.tail
                        have st := st.tail
                        have st := st.tail
                        have st := st.tail
                        have st := st.tail
                        have st := st.tail
                        have st := st.tail
                        exact ⟨m28, rfl, hm, st⟩
                      · intro K
                        clear hrK
                        refine WO_seg 3 [(208, .bool (y15.2 == 0))] (by kernel_rfl) (by kernel_rfl) ?_
                        rcases bcases (y15.2 == 0) with hc | hc
                        · rw [if_pos hc] at hr
                          refine WO_fact (t := 208) (b := true) (y15.2 == 0) (by kernel_rfl) hc ?_
                          refine WO_seg 4 [(212, .bool (y16.2 == 0))] (by kernel_rfl) (by kernel_rfl) ?_
                          rcases bcases (y16.2 == 0) with hc | hc
                          · rw [if_pos hc] at hr
                            refine WO_fact (t := 212) (b := true) (y16.2 == 0) (by kernel_rfl) hc ?_
                            refine WO_one rfl (One_load_own (d := 213) (t := 24) (x := (.tmp 24)) (.agg #[.slice a14 (List.length y16.1) c14]) (by kernel_rfl) rfl (show evL _ _ = some (.pointer (some ⟨b12, 0, none⟩)) from (by kernel_rfl)) st.head (by kernel_rfl) ?_)
                            refine WO_one rfl (One_load_own (d := 214) (t := 24) (x := (.tmp 13)) (.agg #[.slice a8 (List.length y9.1) c8]) (by kernel_rfl) rfl (show evL _ _ = some (.pointer (some ⟨b5, 0, none⟩)) from (by kernel_rfl)) st.tail.tail.tail.head (by kernel_rfl) ?_)
                            replace hr := bindS hr
                            obtain ⟨y17, hx24, hr⟩ := hr
                            refine WO_one rfl (One_fn 215 22 #[.agg #[.slice a14 (List.length y16.1) c14], .agg #[.slice a8 (List.length y9.1) c8]] (by kernel_rfl) rfl ?_)
                            refine (testgateref13_Same_ok st r14 r8 hx24).mono ?_
                            clear st
                            rintro _ w44 ⟨m29, rfl, hle18, st⟩
                            refine ⟨_, rfl, ?_⟩
                            have hm := Mem.le_trans hm hle18
                            have r14 := r14.mono hle18
                            have r8 := r8.mono hle18
                            have r11 := r11.mono hle18
                            have r6 := r6.mono hle18
                            have r5 := r5.mono hle18
                            have r3 := r3.mono hle18
                            have r4 := r4.mono hle18
                            refine WO_seg 2 [(217, .bool y17)] (by kernel_rfl) (by kernel_rfl) ?_
                            rcases bcases y17 with hc | hc
                            · rw [if_pos hc] at hr
                              refine WO_fact (t := 217) (b := true) y17 (by kernel_rfl) hc ?_
                              replace hr := bindS hr
                              obtain ⟨y18, hx25, hr⟩ := hr
                              refine WO_one rfl (One_fn 218 15 #[] (by kernel_rfl) rfl ?_)
                              refine (testgatelaw13_awake_ok st hx25).mono ?_
                              clear st
                              rintro _ w45 ⟨m30, rfl, hle19, st⟩
                              refine ⟨_, rfl, ?_⟩
                              have hm := Mem.le_trans hm hle19
                              have r14 := r14.mono hle19
                              have r8 := r8.mono hle19
                              have r11 := r11.mono hle19
                              have r6 := r6.mono hle19
                              have r5 := r5.mono hle19
                              have r3 := r3.mono hle19
                              have r4 := r4.mono hle19
                              refine WO_seg 2 [(4, .bool y18)] (by kernel_rfl) (by kernel_rfl) ?_
                              obtain rfl := Option.some.inj hr
                              have st := st.front12
                              have st := st.front12
                              have st := st.front12
                              have st := st.front12
                              have st := st.front12
                              have st := st.front6
                              have st := st.front12
                              have st := st.front12
                              have st := st.front12
                              have st := st.front12
                              have st := st.front12
                              have st := st.front12
                              have st := st.front12
                              exact WO_env _ (by kernel_rfl) (K _ _ ⟨m30, rfl, hm, st, r14, r11, r8, r6, r5, r3, r4⟩)
                            · rw [if_neg (not_true hc)] at hr
                              refine WO_fact (t := 217) (b := false) y17 (by kernel_rfl) hc ?_
                              refine WO_seg 3 [(4, .bool false)] (by kernel_rfl) (by kernel_rfl) ?_
                              obtain rfl := Option.some.inj hr
                              have st := st.front12
                              have st := st.front12
                              have st := st.front12
                              have st := st.front12
                              have st := st.front12
                              have st := st.front6
                              have st := st.front12
                              have st := st.front12
                              have st := st.front12
                              have st := st.front12
                              have st := st.front12
                              have st := st.front12
                              have st := st.front12
                              exact WO_env _ (by kernel_rfl) (K _ _ ⟨m29, rfl, hm, st, r14, r11, r8, r6, r5, r3, r4⟩)
                          · rw [if_neg (not_true hc)] at hr
                            refine WO_fact (t := 212) (b := false) (y16.2 == 0) (by kernel_rfl) hc ?_
                            refine WO_seg 8 [(4, .bool false)] (by kernel_rfl) (by kernel_rfl) ?_
                            obtain rfl := Option.some.inj hr
                            have st := st.front12
                            have st := st.front12
                            have st := st.front12
                            have st := st.front12
                            have st := st.front12
                            have st := st.front6
                            have st := st.front12
                            have st := st.front12
                            have st := st.front12
                            have st := st.front12
                            have st := st.front12
                            have st := st.front12
                            have st := st.front12
                            exact WO_env _ (by kernel_rfl) (K _ _ ⟨m27, rfl, hm, st, r14, r11, r8, r6, r5, r3, r4⟩)
                        · rw [if_neg (not_true hc)] at hr
                          refine WO_fact (t := 208) (b := false) (y15.2 == 0) (by kernel_rfl) hc ?_
                          refine WO_seg 12 [(4, .bool false)] (by kernel_rfl) (by kernel_rfl) ?_
                          obtain rfl := Option.some.inj hr
                          have st := st.front12
                          have st := st.front12
                          have st := st.front12
                          have st := st.front12
                          have st := st.front12
                          have st := st.front6
                          have st := st.front12
                          have st := st.front12
                          have st := st.front12
                          have st := st.front12
                          have st := st.front12
                          have st := st.front12
                          have st := st.front12
                          exact WO_env _ (by kernel_rfl) (K _ _ ⟨m27, rfl, hm, st, r14, r11, r8, r6, r5, r3, r4⟩)
                    intro K2_u3
                    have st := st.front12
                    have st := st.front12
                    have st := st.front12
                    have st := st.front12
                    have st := st.front12
                    have st := st.front12
                    have st := st.front12
                    have st := st.front12
                    have st := st.front12
                    have st := st.front12
                    have st := st.front12
                    have st := st.front12
                    have st := st.front12
                    refine W_env _ (by kernel_rfl) (W_loop (fun k2 L' w' => ∃ (s2 : Int) (m22 : Mem), loopM (testgatelaw13_ContentsKeeps_L2 N y9 y12) k2 s2 = some out2 ∧ L' = [(13, .pointer (some ⟨b5, 0, none⟩)), (14, .slice a9 (List.length y9.2.1) c9), (19, .pointer (some ⟨b8, 0, none⟩)), (157, .slice a12 (List.length y12.2.1) c12), (158, .int .i64 (List.length y12.2.1 : Int)), (159, .int .i64 s2)] ∧ m.le m22 ∧ St m22 (.blk b8 (.cells #[.slice a11 (List.length y12.1) c11] 24 (0, 0)) :: .blk b5 (.cells #[.slice a8 (List.length y9.1) c8] 24 (0, 0)) :: .blk b4 (.cells #[.slice a6 (List.length y6.1) c6] 24 (0, 0)) :: .blk b3 (.cells #[.slice a5 (List.length y2.2) c5] 24 (0, 0)) :: .blk b2 (.cells #[.slice a3 (List.length y1.2) c3] 24 (0, 0)) :: .blk b1 (.cells #[.slice a4 (List.length y2.1.1) c4, .int .i64 y2.1.2] 35 (0, 0)) :: .room a11 (List.length y12.1) c11 9 1 :: .room a12 (List.length y12.2.1) c12 3 1 :: .room a8 (List.length y9.1) c8 9 1 :: .room a9 (List.length y9.2.1) c9 3 1 :: .room a6 (List.length y6.1) c6 9 1 :: .room a5 (List.length y2.2) c5 9 1 :: .room a3 (List.length y1.2) c3 9 1 :: own) w' ∧ RepS (cInt .i64) m22 a9 c9 y9.2.1 ∧ RepS (cInt .i64) m22 a12 c12 y12.2.1 ∧ RepS cStr m22 a11 c11 y12.1 ∧ RepS cStr m22 a8 c8 y9.1 ∧ RepS cStr m22 a6 c6 y6.1 ∧ RepS cStr m22 a5 c5 y2.2 ∧ RepS cStr m22 a3 c3 y1.2 ∧ RepS (cInt .i64) m22 a4 c4 y2.1.1) N ⟨0, m20, hr, rfl, hm, st, r9, r12, r11, r8, r6, r5, r3, r4⟩ ?_)
                    clear st hr
                    rintro k2 _ w34 ⟨s2, m22, hL, rfl, hm, st, r9, r12, r11, r8, r6, r5, r3, r4⟩
                    rcases k2 with _ | k2
                    · exact loopM_zero hL
                    · obtain ⟨qu3, hr, hSu3, hBu3⟩ := loopM_succ hL
                      clear hL
                      unfold testgatelaw13_ContentsKeeps_L2 at hr
                      refine W_seq ?_
                      refine W_region ?_
                      refine WO_seg 1 [(160, .bool (decide (s2 < (List.length y12.2.1 : Int))))] (by kernel_rfl) (by kernel_rfl) ?_
                      refine WO_end rfl ?_
                      refine X_then ?_
                      refine W_seq ?_
                      refine W_cond (decide (s2 < (List.length y12.2.1 : Int))) (by kernel_rfl) ?_ ?_
                      · intro hc
                        rw [if_pos hc] at hr
                        refine W_skip ?_
                        refine X_then ?_
                        refine W_seq ?_
                        refine W_block ?_
                        refine W_seq ?_
                        refine W_region ?_
                        refine WO_seg 1 [(161, .int .i64 s2)] (by kernel_rfl) (by kernel_rfl) ?_
                        replace hr := bindS hr
                        obtain ⟨x3, hx17, hr⟩ := hr
                        refine WO_one rfl (One_index (d := 162) (t := 32) (e := 3) (x := (.tmp 157)) (y := (.tmp 159)) (cInt .i64) (by kernel_rfl) rfl (show evL _ _ = some (.slice a12 (List.length y12.2.1) c12) from (by kernel_rfl)) (show evL _ _ = some (.int .i64 s2) from (by kernel_rfl)) (by kernel_rfl) r12 hx17 ?_)
                        rintro b9 f3 cs3 rfl hq3
                        refine WO_one rfl (One_load_row (d := 163) (t := 3) (x := (.tmp 162)) (.int .i64 x3) (by kernel_rfl) rfl (show evL _ _ = some (.pointer (some ⟨b9, f3, none⟩)) from (by kernel_rfl)) st hq3 (by kernel_rfl) ?_)
                        refine WO_seg 2 [(21, .int .i64 s2), (22, .int .i64 x3)] (by kernel_rfl) (by kernel_rfl) ?_
                        refine WO_end rfl ?_
                        refine X_then ?_
                        refine W_seq ?_
                        replace hr := bindS hr
                        obtain ⟨o8, hr, hrK⟩ := hr
                        refine W_cut .normal (fun L' w' => ∃ (m23 : Mem), L' = [(13, .pointer (some ⟨b5, 0, none⟩)), (14, .slice a9 (List.length y9.2.1) c9), (19, .pointer (some ⟨b8, 0, none⟩)), (157, .slice a12 (List.length y12.2.1) c12), (158, .int .i64 (List.length y12.2.1 : Int)), (159, .int .i64 s2), (194, .bool o8)] ∧ m.le m23 ∧ St m23 (.blk b8 (.cells #[.slice a11 (List.length y12.1) c11] 24 (0, 0)) :: .blk b5 (.cells #[.slice a8 (List.length y9.1) c8] 24 (0, 0)) :: .blk b4 (.cells #[.slice a6 (List.length y6.1) c6] 24 (0, 0)) :: .blk b3 (.cells #[.slice a5 (List.length y2.2) c5] 24 (0, 0)) :: .blk b2 (.cells #[.slice a3 (List.length y1.2) c3] 24 (0, 0)) :: .blk b1 (.cells #[.slice a4 (List.length y2.1.1) c4, .int .i64 y2.1.2] 35 (0, 0)) :: .room a11 (List.length y12.1) c11 9 1 :: .room a12 (List.length y12.2.1) c12 3 1 :: .room a8 (List.length y9.1) c8 9 1 :: .room a9 (List.length y9.2.1) c9 3 1 :: .room a6 (List.length y6.1) c6 9 1 :: .room a5 (List.length y2.2) c5 9 1 :: .room a3 (List.length y1.2) c3 9 1 :: own) w' ∧ RepS (cInt .i64) m23 a9 c9 y9.2.1 ∧ RepS (cInt .i64) m23 a12 c12 y12.2.1 ∧ RepS cStr m23 a11 c11 y12.1 ∧ RepS cStr m23 a8 c8 y9.1 ∧ RepS cStr m23 a6 c6 y6.1 ∧ RepS cStr m23 a5 c5 y2.2 ∧ RepS cStr m23 a3 c3 y1.2 ∧ RepS (cInt .i64) m23 a4 c4 y2.1.1) ?_ ?_
                        · clear hr st
                          have hr := hrK
                          clear hrK
                          rintro _ w35 ⟨m23, rfl, hm, st, r9, r12, r11, r8, r6, r5, r3, r4⟩
                          refine X_then ?_
                          refine W_cond o8 (by kernel_rfl) ?_ ?_
                          · intro hc
                            rw [if_pos hc] at hr
                            refine W_seq ?_
                            refine W_region ?_
                            refine WO_seg 1 [(4, .bool false)] (by kernel_rfl) (by kernel_rfl) ?_
                            refine WO_end rfl ?_
                            have st := st.front7
                            have st := st.tail
                            have st := st.front8
                            have st := st.tail
                            refine X_then ?_
                            refine W_ret ?_
                            refine X_block_ret ?_
                            refine X_then_ret ?_
                            obtain rfl := Option.some.inj hr
                            have ho := hBu3 _ rfl
                            subst ho
                            have hr := hrKu3
                            dsimp only at hr
                            refine X_then_ret ?_
                            refine X_block_ret ?_
                            refine X_then_ret ?_
                            obtain rfl := Option.some.inj hr
                            refine X_ret [.tmp 4] [.bool false] rfl (ResAll.cons (ResAt.tmp (by kernel_rfl)) ResAll.nil) ?_
                            have st := st.tail
                            have st := st.tail
                            have st := st.tail
                            have st := st.tail
                            have st := st.tail
                            have st := st.tail
                            have st := st.tail
                            have st := st.tail
                            have st := st.tail
                            have st := st.tail
                            have st := st.tail
                            exact ⟨m23, rfl, hm, st⟩
                          · intro hc
                            rw [if_neg (not_true hc)] at hr
                            refine W_skip ?_
                            refine X_block ?_
                            refine X_then ?_
                            refine W_region ?_
                            refine WO_seg 2 [(159, .int .i64 (IntKind.wrap .i64 (s2 + 1)))] (by kernel_rfl) (by kernel_rfl) ?_
                            refine WO_end rfl ?_
                            obtain rfl := Option.some.inj hr
                            have hL := hSu3 _ rfl
                            have st := st.front12
                            have st := st.front12
                            have st := st.front12
                            have st := st.front12
                            have st := st.front12
                            have st := st.front12
                            have st := st.front12
                            have st := st.front12
                            have st := st.front12
                            have st := st.front12
                            have st := st.front12
                            have st := st.front12
                            have st := st.front12
                            exact X_env _ (by kernel_rfl) (X_round k2 (Nat.lt_succ_self _) ⟨IntKind.wrap .i64 (s2 + 1), m23, hL, rfl, hm, st, r9, r12, r11, r8, r6, r5, r3, r4⟩)
                        · intro K
                          clear hrK
                          refine W_draw [(31, fun w' => Inv m22 w' ∧ Piece.holds m22 w' (.blk b8 (.cells #[.slice a11 (List.length y12.1) c11] 24 (0, 0))) ∧ Piece.holds m22 w' (.blk b5 (.cells #[.slice a8 (List.length y9.1) c8] 24 (0, 0))) ∧ True)] (by kernel_rfl) st ?_
                          clear st
                          intro w36 _ st
                          have hmS := m22.le_refl
                          refine ⟨⟨.inr ⟨Inv.anti st.inv hmS, Piece.holds_anti st.head hmS, Piece.holds_anti st.tail.head hmS, trivial⟩, trivial⟩, ?_⟩
                          refine WA_pure 0 164 (.int .i64 x3) (by kernel_rfl) rfl (by kernel_rfl) (.head _) (QP_then (QP_block (QP_then (QP_then (QP_block (QP_then QP_body)))))) ?_
                          refine WA_pure 1 165 (.bool (decide (x3 ≥ 0))) (by kernel_rfl) rfl (by kernel_rfl) (.head _) (QP_then (QP_block (QP_then (QP_then (QP_block (QP_then QP_body)))))) ?_
                          refine WA_pure 2 166 (.bool (decide (x3 ≥ 0))) (by kernel_rfl) rfl (by kernel_rfl) (.head _) (QP_then (QP_block (QP_then (QP_then (QP_block (QP_then QP_body)))))) ?_
                          rcases bcases (decide (x3 ≥ 0)) with hc | hc
                          · rw [if_pos hc] at hr
                            refine WA_fact (t := 166) (b := true) (decide (x3 ≥ 0)) (by kernel_rfl) hc ?_
                            refine WA_pure 3 167 (.int .i64 x3) (by kernel_rfl) rfl (by kernel_rfl) (.head _) (QP_then (QP_block (QP_then (QP_then (QP_block (QP_then QP_body)))))) ?_
                            refine WA_pure 4 168 (.pointer (some ⟨b8, 0, none⟩)) (by kernel_rfl) rfl (by kernel_rfl) (.head _) (QP_then (QP_block (QP_then (QP_then (QP_block (QP_then QP_body)))))) ?_
                            refine WA_load_own (t := 22) (x := (.tmp 168)) 5 169 (.slice a11 (List.length y12.1) c11) (by kernel_rfl) rfl (by kernel_rfl) (.head _) (QP_then (QP_block (QP_then (QP_then (QP_block (QP_then QP_body)))))) (fun _ h => h.2.1) (show evL _ _ = some (.pointer (some ⟨b8, 0, none⟩)) from (by kernel_rfl)) (by kernel_rfl) ?_
                            refine WA_pure 6 170 (.int .i64 (List.length y12.1 : Int)) (by kernel_rfl) rfl (by kernel_rfl) (.head _) (QP_then (QP_block (QP_then (QP_then (QP_block (QP_then QP_body)))))) ?_
                            refine WA_pure 7 171 (.bool (decide (x3 ≥ (List.length y12.1 : Int)))) (by kernel_rfl) rfl (by kernel_rfl) (.head _) (QP_then (QP_block (QP_then (QP_then (QP_block (QP_then QP_body)))))) ?_
                            refine WA_pure 8 172 (.bool (decide (x3 ≥ (List.length y12.1 : Int)))) (by kernel_rfl) rfl (by kernel_rfl) (.head _) (QP_then (QP_block (QP_then (QP_then (QP_block (QP_then QP_body)))))) ?_
                            rcases bcases (decide (x3 ≥ (List.length y12.1 : Int))) with hc | hc
                            · rw [if_pos hc] at hr
                              refine WA_fact (t := 172) (b := true) (decide (x3 ≥ (List.length y12.1 : Int))) (by kernel_rfl) hc ?_
                              refine WA_not 9 173 (by kernel_rfl) rfl (by kernel_rfl) (.head _) (QP_then (QP_block (QP_then (QP_then (QP_block (QP_then QP_body)))))) ?_
                              refine WA_not 10 174 (by kernel_rfl) rfl (by kernel_rfl) (.head _) (QP_then (QP_block (QP_then (QP_then (QP_block (QP_then QP_body)))))) ?_
                              refine WA_not 11 175 (by kernel_rfl) rfl (by kernel_rfl) (.head _) (QP_then (QP_block (QP_then (QP_then (QP_block (QP_then QP_body)))))) ?_
                              refine WA_not 12 176 (by kernel_rfl) rfl (by kernel_rfl) (.head _) (QP_then (QP_block (QP_then (QP_then (QP_block (QP_then QP_body)))))) ?_
                              refine WA_not 13 177 (by kernel_rfl) rfl (by kernel_rfl) (.head _) (QP_then (QP_block (QP_then (QP_then (QP_block (QP_then QP_body)))))) ?_
                              refine WA_not 14 178 (by kernel_rfl) rfl (by kernel_rfl) (.head _) (QP_then (QP_block (QP_then (QP_then (QP_block (QP_then QP_body)))))) ?_
                              refine WA_not 15 179 (by kernel_rfl) rfl (by kernel_rfl) (.head _) (QP_then (QP_block (QP_then (QP_then (QP_block (QP_then QP_body)))))) ?_
                              refine WA_not 16 180 (by kernel_rfl) rfl (by kernel_rfl) (.head _) (QP_then (QP_block (QP_then (QP_then (QP_block (QP_then QP_body)))))) ?_
                              refine WA_not 17 181 (by kernel_rfl) rfl (by kernel_rfl) (.head _) (QP_then (QP_block (QP_then (QP_then (QP_block (QP_then QP_body)))))) ?_
                              refine WA_not 18 182 (by kernel_rfl) rfl (by kernel_rfl) (.head _) (QP_then (QP_block (QP_then (QP_then (QP_block (QP_then QP_body)))))) ?_
                              refine WA_not 19 183 (by kernel_rfl) rfl (by kernel_rfl) (.head _) (QP_then (QP_block (QP_then (QP_then (QP_block (QP_then QP_body)))))) ?_
                              refine WA_pure 20 184 (.bool true) (by kernel_rfl) rfl (by kernel_rfl) (.head _) (QP_then (QP_block (QP_then (QP_then (QP_block (QP_then QP_body)))))) ?_
                              refine WA_pure 21 185 (.bool true) (by kernel_rfl) rfl (by kernel_rfl) (.head _) (QP_then (QP_block (QP_then (QP_then (QP_block (QP_then QP_body)))))) ?_
                              refine WA_pure 22 186 (.bool true) (by kernel_rfl) rfl (by kernel_rfl) (.head _) (QP_then (QP_block (QP_then (QP_then (QP_block (QP_then QP_body)))))) ?_
                              refine WA_not 23 187 (by kernel_rfl) rfl (by kernel_rfl) (.head _) (QP_then (QP_block (QP_then (QP_then (QP_block (QP_then QP_body)))))) ?_
                              refine WA_not 24 188 (by kernel_rfl) rfl (by kernel_rfl) (.head _) (QP_then (QP_block (QP_then (QP_then (QP_block (QP_then QP_body)))))) ?_
                              refine WA_not 25 189 (by kernel_rfl) rfl (by kernel_rfl) (.head _) (QP_then (QP_block (QP_then (QP_then (QP_block (QP_then QP_body)))))) ?_
                              refine WA_not 26 190 (by kernel_rfl) rfl (by kernel_rfl) (.head _) (QP_then (QP_block (QP_then (QP_then (QP_block (QP_then QP_body)))))) ?_
                              refine WA_not 27 191 (by kernel_rfl) rfl (by kernel_rfl) (.head _) (QP_then (QP_block (QP_then (QP_then (QP_block (QP_then QP_body)))))) ?_
                              refine WA_not 28 192 (by kernel_rfl) rfl (by kernel_rfl) (.head _) (QP_then (QP_block (QP_then (QP_then (QP_block (QP_then QP_body)))))) ?_
                              refine WA_not 29 193 (by kernel_rfl) rfl (by kernel_rfl) (.head _) (QP_then (QP_block (QP_then (QP_then (QP_block (QP_then QP_body)))))) ?_
                              refine WA_pure 30 194 (.bool true) (by kernel_rfl) rfl (by kernel_rfl) (.head _) (QP_then (QP_block (QP_then (QP_then (QP_block (QP_then QP_body)))))) ?_
                              obtain rfl := Option.some.inj hr
                              have st := st.front12
                              have st := st.front12
                              have st := st.front12
                              have st := st.front12
                              have st := st.front12
                              have st := st.front12
                              have st := st.front12
                              have st := st.front12
                              have st := st.front12
                              have st := st.front12
                              have st := st.front12
                              have st := st.front12
                              have st := st.front12
                              exact WA_done (by kernel_rfl) (X_env _ (by kernel_rfl) (K _ _ ⟨m22, rfl, hm, st, r9, r12, r11, r8, r6, r5, r3, r4⟩))
                            · rw [if_neg (not_true hc)] at hr
                              refine WA_fact (t := 172) (b := false) (decide (x3 ≥ (List.length y12.1 : Int))) (by kernel_rfl) hc ?_
                              refine WA_pure 9 173 (.pointer (some ⟨b8, 0, none⟩)) (by kernel_rfl) rfl (by kernel_rfl) (.head _) (QP_then (QP_block (QP_then (QP_then (QP_block (QP_then QP_body)))))) ?_
                              refine WA_load_own (t := 22) (x := (.tmp 173)) 10 174 (.slice a11 (List.length y12.1) c11) (by kernel_rfl) rfl (by kernel_rfl) (.head _) (QP_then (QP_block (QP_then (QP_then (QP_block (QP_then QP_body)))))) (fun _ h => h.2.1) (show evL _ _ = some (.pointer (some ⟨b8, 0, none⟩)) from (by kernel_rfl)) (by kernel_rfl) ?_
                              refine WA_pure 11 175 (.int .i64 x3) (by kernel_rfl) rfl (by kernel_rfl) (.head _) (QP_then (QP_block (QP_then (QP_then (QP_block (QP_then QP_body)))))) ?_
                              replace hr := bindS hr
                              obtain ⟨x4, hx18, hr⟩ := hr
                              refine WA_index (t := 22) (e := 9) (x := (.tmp 174)) (y := (.tmp 175)) 12 176 cStr (by kernel_rfl) rfl (by kernel_rfl) (.head _) (QP_then (QP_block (QP_then (QP_then (QP_block (QP_then QP_body)))))) (show evL _ _ = some (.slice a11 (List.length y12.1) c11) from (by kernel_rfl)) (show evL _ _ = some (.int .i64 x3) from (by kernel_rfl)) (by kernel_rfl) r11 hx18 ?_
                              rintro b10 f4 cs4 rfl hq4
                              refine WA_load_row (t := 9) (x := (.tmp 176)) 13 177 (.string x4) (by kernel_rfl) rfl (by kernel_rfl) (.head _) (QP_then (QP_block (QP_then (QP_then (QP_block (QP_then QP_body)))))) (fun _ h => h.1) (show evL _ _ = some (.pointer (some ⟨b10, f4, none⟩)) from (by kernel_rfl)) hq4 (by kernel_rfl) ?_
                              refine WA_pure 14 178 (.pointer (some ⟨b5, 0, none⟩)) (by kernel_rfl) rfl (by kernel_rfl) (.head _) (QP_then (QP_block (QP_then (QP_then (QP_block (QP_then QP_body)))))) ?_
                              refine WA_load_own (t := 22) (x := (.tmp 178)) 15 179 (.slice a8 (List.length y9.1) c8) (by kernel_rfl) rfl (by kernel_rfl) (.head _) (QP_then (QP_block (QP_then (QP_then (QP_block (QP_then QP_body)))))) (fun _ h => h.2.2.1) (show evL _ _ = some (.pointer (some ⟨b5, 0, none⟩)) from (by kernel_rfl)) (by kernel_rfl) ?_
                              refine WA_pure 16 180 (.int .i64 s2) (by kernel_rfl) rfl (by kernel_rfl) (.head _) (QP_then (QP_block (QP_then (QP_then (QP_block (QP_then QP_body)))))) ?_
                              replace hr := bindS hr
                              obtain ⟨x5, hx19, hr⟩ := hr
                              refine WA_index (t := 22) (e := 9) (x := (.tmp 179)) (y := (.tmp 180)) 17 181 cStr (by kernel_rfl) rfl (by kernel_rfl) (.head _) (QP_then (QP_block (QP_then (QP_then (QP_block (QP_then QP_body)))))) (show evL _ _ = some (.slice a8 (List.length y9.1) c8) from (by kernel_rfl)) (show evL _ _ = some (.int .i64 s2) from (by kernel_rfl)) (by kernel_rfl) r8 hx19 ?_
                              rintro b11 f5 cs5 rfl hq5
                              refine WA_load_row (t := 9) (x := (.tmp 181)) 18 182 (.string x5) (by kernel_rfl) rfl (by kernel_rfl) (.head _) (QP_then (QP_block (QP_then (QP_then (QP_block (QP_then QP_body)))))) (fun _ h => h.1) (show evL _ _ = some (.pointer (some ⟨b11, f5, none⟩)) from (by kernel_rfl)) hq5 (by kernel_rfl) ?_
                              refine WA_pure 19 183 (.bool (!(x4.toList == x5.toList))) (by kernel_rfl) rfl (by kernel_rfl) (.head _) (QP_then (QP_block (QP_then (QP_then (QP_block (QP_then QP_body)))))) ?_
                              refine WA_pure 20 184 (.bool (!(x4.toList == x5.toList))) (by kernel_rfl) rfl (by kernel_rfl) (.head _) (QP_then (QP_block (QP_then (QP_then (QP_block (QP_then QP_body)))))) ?_
                              refine WA_pure 21 185 (.bool (!(x4.toList == x5.toList))) (by kernel_rfl) rfl (by kernel_rfl) (.head _) (QP_then (QP_block (QP_then (QP_then (QP_block (QP_then QP_body)))))) ?_
                              refine WA_pure 22 186 (.bool (!(x4.toList == x5.toList))) (by kernel_rfl) rfl (by kernel_rfl) (.head _) (QP_then (QP_block (QP_then (QP_then (QP_block (QP_then QP_body)))))) ?_
                              rcases bcases (!(x4.toList == x5.toList)) with hc | hc
                              · rw [if_pos hc] at hr
                                refine WA_fact (t := 186) (b := true) (!(x4.toList == x5.toList)) (by kernel_rfl) hc ?_
                                refine WA_not 23 187 (by kernel_rfl) rfl (by kernel_rfl) (.head _) (QP_then (QP_block (QP_then (QP_then (QP_block (QP_then QP_body)))))) ?_
                                refine WA_not 24 188 (by kernel_rfl) rfl (by kernel_rfl) (.head _) (QP_then (QP_block (QP_then (QP_then (QP_block (QP_then QP_body)))))) ?_
                                refine WA_not 25 189 (by kernel_rfl) rfl (by kernel_rfl) (.head _) (QP_then (QP_block (QP_then (QP_then (QP_block (QP_then QP_body)))))) ?_
                                refine WA_not 26 190 (by kernel_rfl) rfl (by kernel_rfl) (.head _) (QP_then (QP_block (QP_then (QP_then (QP_block (QP_then QP_body)))))) ?_
                                refine WA_not 27 191 (by kernel_rfl) rfl (by kernel_rfl) (.head _) (QP_then (QP_block (QP_then (QP_then (QP_block (QP_then QP_body)))))) ?_
                                refine WA_not 28 192 (by kernel_rfl) rfl (by kernel_rfl) (.head _) (QP_then (QP_block (QP_then (QP_then (QP_block (QP_then QP_body)))))) ?_
                                refine WA_not 29 193 (by kernel_rfl) rfl (by kernel_rfl) (.head _) (QP_then (QP_block (QP_then (QP_then (QP_block (QP_then QP_body)))))) ?_
                                refine WA_pure 30 194 (.bool true) (by kernel_rfl) rfl (by kernel_rfl) (.head _) (QP_then (QP_block (QP_then (QP_then (QP_block (QP_then QP_body)))))) ?_
                                obtain rfl := Option.some.inj hr
                                have st := st.front12
                                have st := st.front12
                                have st := st.front12
                                have st := st.front12
                                have st := st.front12
                                have st := st.front12
                                have st := st.front12
                                have st := st.front12
                                have st := st.front12
                                have st := st.front12
                                have st := st.front12
                                have st := st.front12
                                have st := st.front12
                                exact WA_done (by kernel_rfl) (X_env _ (by kernel_rfl) (K _ _ ⟨m22, rfl, hm, st, r9, r12, r11, r8, r6, r5, r3, r4⟩))
                              · rw [if_neg (not_true hc)] at hr
                                refine WA_fact (t := 186) (b := false) (!(x4.toList == x5.toList)) (by kernel_rfl) hc ?_
                                refine WA_pure 23 187 (.int .i64 x3) (by kernel_rfl) rfl (by kernel_rfl) (.head _) (QP_then (QP_block (QP_then (QP_then (QP_block (QP_then QP_body)))))) ?_
                                refine WA_pure 24 188 (.bool (decide (x3 < 0))) (by kernel_rfl) rfl (by kernel_rfl) (.head _) (QP_then (QP_block (QP_then (QP_then (QP_block (QP_then QP_body)))))) ?_
                                refine WA_pure 25 189 (.bool (decide (x3 < 0))) (by kernel_rfl) rfl (by kernel_rfl) (.head _) (QP_then (QP_block (QP_then (QP_then (QP_block (QP_then QP_body)))))) ?_
                                rcases bcases (decide (x3 < 0)) with hc | hc
                                · rw [if_pos hc] at hr
                                  refine WA_fact (t := 189) (b := true) (decide (x3 < 0)) (by kernel_rfl) hc ?_
                                  refine WA_pure 26 190 (.slice a9 (List.length y9.2.1) c9) (by kernel_rfl) rfl (by kernel_rfl) (.head _) (QP_then (QP_block (QP_then (QP_then (QP_block (QP_then QP_body)))))) ?_
                                  refine WA_pure 27 191 (.int .i64 s2) (by kernel_rfl) rfl (by kernel_rfl) (.head _) (QP_then (QP_block (QP_then (QP_then (QP_block (QP_then QP_body)))))) ?_
                                  replace hr := bindS hr
                                  obtain ⟨y13, hx20, hr⟩ := hr
                                  refine WA_one 28 (by kernel_rfl) (One_fn 192 60 #[.slice a9 (List.length y9.2.1) c9, .int .i64 s2] (by kernel_rfl) rfl ?_)
                                  refine (testgatemake_HasInt_ok st r9 hx20).mono ?_
                                  clear st
                                  rintro _ w37 ⟨m24, rfl, hle14, st⟩
                                  refine ⟨_, rfl, ?_⟩
                                  have hm := Mem.le_trans hm hle14
                                  have r9 := r9.mono hle14
                                  have r12 := r12.mono hle14
                                  have r11 := r11.mono hle14
                                  have hq4 := hq4.mono hle14
                                  have r8 := r8.mono hle14
                                  have hq5 := hq5.mono hle14
                                  have r6 := r6.mono hle14
                                  have r5 := r5.mono hle14
                                  have r3 := r3.mono hle14
                                  have r4 := r4.mono hle14
                                  have hmS := Mem.le_trans hmS hle14
                                  refine ⟨⟨.inr ⟨Inv.anti st.inv hmS, Piece.holds_anti st.head hmS, Piece.holds_anti st.tail.head hmS, trivial⟩, trivial⟩, ?_⟩
                                  refine WA_pure 29 193 (.bool y13) (by kernel_rfl) rfl (by kernel_rfl) (.head _) (QP_then (QP_block (QP_then (QP_then (QP_block (QP_then QP_body)))))) ?_
                                  refine WA_pure 30 194 (.bool y13) (by kernel_rfl) rfl (by kernel_rfl) (.head _) (QP_then (QP_block (QP_then (QP_then (QP_block (QP_then QP_body)))))) ?_
                                  obtain rfl := Option.some.inj hr
                                  have st := st.front12
                                  have st := st.front12
                                  have st := st.front12
                                  have st := st.front12
                                  have st := st.front12
                                  have st := st.front12
                                  have st := st.front12
                                  have st := st.front12
                                  have st := st.front12
                                  have st := st.front12
                                  have st := st.front12
                                  have st := st.front12
                                  have st := st.front12
                                  exact WA_done (by kernel_rfl) (X_env _ (by kernel_rfl) (K _ _ ⟨m24, rfl, hm, st, r9, r12, r11, r8, r6, r5, r3, r4⟩))
                                · rw [if_neg (not_true hc)] at hr
                                  refine WA_fact (t := 189) (b := false) (decide (x3 < 0)) (by kernel_rfl) hc ?_
                                  refine WA_not 26 190 (by kernel_rfl) rfl (by kernel_rfl) (.head _) (QP_then (QP_block (QP_then (QP_then (QP_block (QP_then QP_body)))))) ?_
                                  refine WA_not 27 191 (by kernel_rfl) rfl (by kernel_rfl) (.head _) (QP_then (QP_block (QP_then (QP_then (QP_block (QP_then QP_body)))))) ?_
                                  refine WA_not 28 192 (by kernel_rfl) rfl (by kernel_rfl) (.head _) (QP_then (QP_block (QP_then (QP_then (QP_block (QP_then QP_body)))))) ?_
                                  refine WA_pure 29 193 (.bool false) (by kernel_rfl) rfl (by kernel_rfl) (.head _) (QP_then (QP_block (QP_then (QP_then (QP_block (QP_then QP_body)))))) ?_
                                  refine WA_pure 30 194 (.bool false) (by kernel_rfl) rfl (by kernel_rfl) (.head _) (QP_then (QP_block (QP_then (QP_then (QP_block (QP_then QP_body)))))) ?_
                                  obtain rfl := Option.some.inj hr
                                  have st := st.front12
                                  have st := st.front12
                                  have st := st.front12
                                  have st := st.front12
                                  have st := st.front12
                                  have st := st.front12
                                  have st := st.front12
                                  have st := st.front12
                                  have st := st.front12
                                  have st := st.front12
                                  have st := st.front12
                                  have st := st.front12
                                  have st := st.front12
                                  exact WA_done (by kernel_rfl) (X_env _ (by kernel_rfl) (K _ _ ⟨m22, rfl, hm, st, r9, r12, r11, r8, r6, r5, r3, r4⟩))
                          · rw [if_neg (not_true hc)] at hr
                            refine WA_fact (t := 166) (b := false) (decide (x3 ≥ 0)) (by kernel_rfl) hc ?_
                            refine WA_not 3 167 (by kernel_rfl) rfl (by kernel_rfl) (.head _) (QP_then (QP_block (QP_then (QP_then (QP_block (QP_then QP_body)))))) ?_
                            refine WA_not 4 168 (by kernel_rfl) rfl (by kernel_rfl) (.head _) (QP_then (QP_block (QP_then (QP_then (QP_block (QP_then QP_body)))))) ?_
                            refine WA_not 5 169 (by kernel_rfl) rfl (by kernel_rfl) (.head _) (QP_then (QP_block (QP_then (QP_then (QP_block (QP_then QP_body)))))) ?_
                            refine WA_not 6 170 (by kernel_rfl) rfl (by kernel_rfl) (.head _) (QP_then (QP_block (QP_then (QP_then (QP_block (QP_then QP_body)))))) ?_
                            refine WA_not 7 171 (by kernel_rfl) rfl (by kernel_rfl) (.head _) (QP_then (QP_block (QP_then (QP_then (QP_block (QP_then QP_body)))))) ?_
                            refine WA_not 8 172 (by kernel_rfl) rfl (by kernel_rfl) (.head _) (QP_then (QP_block (QP_then (QP_then (QP_block (QP_then QP_body)))))) ?_
                            refine WA_not 9 173 (by kernel_rfl) rfl (by kernel_rfl) (.head _) (QP_then (QP_block (QP_then (QP_then (QP_block (QP_then QP_body)))))) ?_
                            refine WA_not 10 174 (by kernel_rfl) rfl (by kernel_rfl) (.head _) (QP_then (QP_block (QP_then (QP_then (QP_block (QP_then QP_body)))))) ?_
                            refine WA_not 11 175 (by kernel_rfl) rfl (by kernel_rfl) (.head _) (QP_then (QP_block (QP_then (QP_then (QP_block (QP_then QP_body)))))) ?_
                            refine WA_not 12 176 (by kernel_rfl) rfl (by kernel_rfl) (.head _) (QP_then (QP_block (QP_then (QP_then (QP_block (QP_then QP_body)))))) ?_
                            refine WA_not 13 177 (by kernel_rfl) rfl (by kernel_rfl) (.head _) (QP_then (QP_block (QP_then (QP_then (QP_block (QP_then QP_body)))))) ?_
                            refine WA_not 14 178 (by kernel_rfl) rfl (by kernel_rfl) (.head _) (QP_then (QP_block (QP_then (QP_then (QP_block (QP_then QP_body)))))) ?_
                            refine WA_not 15 179 (by kernel_rfl) rfl (by kernel_rfl) (.head _) (QP_then (QP_block (QP_then (QP_then (QP_block (QP_then QP_body)))))) ?_
                            refine WA_not 16 180 (by kernel_rfl) rfl (by kernel_rfl) (.head _) (QP_then (QP_block (QP_then (QP_then (QP_block (QP_then QP_body)))))) ?_
                            refine WA_not 17 181 (by kernel_rfl) rfl (by kernel_rfl) (.head _) (QP_then (QP_block (QP_then (QP_then (QP_block (QP_then QP_body)))))) ?_
                            refine WA_not 18 182 (by kernel_rfl) rfl (by kernel_rfl) (.head _) (QP_then (QP_block (QP_then (QP_then (QP_block (QP_then QP_body)))))) ?_
                            refine WA_not 19 183 (by kernel_rfl) rfl (by kernel_rfl) (.head _) (QP_then (QP_block (QP_then (QP_then (QP_block (QP_then QP_body)))))) ?_
                            refine WA_not 20 184 (by kernel_rfl) rfl (by kernel_rfl) (.head _) (QP_then (QP_block (QP_then (QP_then (QP_block (QP_then QP_body)))))) ?_
                            refine WA_pure 21 185 (.bool false) (by kernel_rfl) rfl (by kernel_rfl) (.head _) (QP_then (QP_block (QP_then (QP_then (QP_block (QP_then QP_body)))))) ?_
                            refine WA_pure 22 186 (.bool false) (by kernel_rfl) rfl (by kernel_rfl) (.head _) (QP_then (QP_block (QP_then (QP_then (QP_block (QP_then QP_body)))))) ?_
                            refine WA_pure 23 187 (.int .i64 x3) (by kernel_rfl) rfl (by kernel_rfl) (.head _) (QP_then (QP_block (QP_then (QP_then (QP_block (QP_then QP_body)))))) ?_
                            refine WA_pure 24 188 (.bool (decide (x3 < 0))) (by kernel_rfl) rfl (by kernel_rfl) (.head _) (QP_then (QP_block (QP_then (QP_then (QP_block (QP_then QP_body)))))) ?_
                            refine WA_pure 25 189 (.bool (decide (x3 < 0))) (by kernel_rfl) rfl (by kernel_rfl) (.head _) (QP_then (QP_block (QP_then (QP_then (QP_block (QP_then QP_body)))))) ?_
                            rcases bcases (decide (x3 < 0)) with hc | hc
                            · rw [if_pos hc] at hr
                              refine WA_fact (t := 189) (b := true) (decide (x3 < 0)) (by kernel_rfl) hc ?_
                              refine WA_pure 26 190 (.slice a9 (List.length y9.2.1) c9) (by kernel_rfl) rfl (by kernel_rfl) (.head _) (QP_then (QP_block (QP_then (QP_then (QP_block (QP_then QP_body)))))) ?_
                              refine WA_pure 27 191 (.int .i64 s2) (by kernel_rfl) rfl (by kernel_rfl) (.head _) (QP_then (QP_block (QP_then (QP_then (QP_block (QP_then QP_body)))))) ?_
                              replace hr := bindS hr
                              obtain ⟨y14, hx21, hr⟩ := hr
                              refine WA_one 28 (by kernel_rfl) (One_fn 192 60 #[.slice a9 (List.length y9.2.1) c9, .int .i64 s2] (by kernel_rfl) rfl ?_)
                              refine (testgatemake_HasInt_ok st r9 hx21).mono ?_
                              clear st
                              rintro _ w38 ⟨m25, rfl, hle15, st⟩
                              refine ⟨_, rfl, ?_⟩
                              have hm := Mem.le_trans hm hle15
                              have r9 := r9.mono hle15
                              have r12 := r12.mono hle15
                              have r11 := r11.mono hle15
                              have r8 := r8.mono hle15
                              have r6 := r6.mono hle15
                              have r5 := r5.mono hle15
                              have r3 := r3.mono hle15
                              have r4 := r4.mono hle15
                              have hmS := Mem.le_trans hmS hle15
                              refine ⟨⟨.inr ⟨Inv.anti st.inv hmS, Piece.holds_anti st.head hmS, Piece.holds_anti st.tail.head hmS, trivial⟩, trivial⟩, ?_⟩
                              refine WA_pure 29 193 (.bool y14) (by kernel_rfl) rfl (by kernel_rfl) (.head _) (QP_then (QP_block (QP_then (QP_then (QP_block (QP_then QP_body)))))) ?_
                              refine WA_pure 30 194 (.bool y14) (by kernel_rfl) rfl (by kernel_rfl) (.head _) (QP_then (QP_block (QP_then (QP_then (QP_block (QP_then QP_body)))))) ?_
                              obtain rfl := Option.some.inj hr
                              have st := st.front12
                              have st := st.front12
                              have st := st.front12
                              have st := st.front12
                              have st := st.front12
                              have st := st.front12
                              have st := st.front12
                              have st := st.front12
                              have st := st.front12
                              have st := st.front12
                              have st := st.front12
                              have st := st.front12
                              have st := st.front12
                              exact WA_done (by kernel_rfl) (X_env _ (by kernel_rfl) (K _ _ ⟨m25, rfl, hm, st, r9, r12, r11, r8, r6, r5, r3, r4⟩))
                            · rw [if_neg (not_true hc)] at hr
                              refine WA_fact (t := 189) (b := false) (decide (x3 < 0)) (by kernel_rfl) hc ?_
                              refine WA_not 26 190 (by kernel_rfl) rfl (by kernel_rfl) (.head _) (QP_then (QP_block (QP_then (QP_then (QP_block (QP_then QP_body)))))) ?_
                              refine WA_not 27 191 (by kernel_rfl) rfl (by kernel_rfl) (.head _) (QP_then (QP_block (QP_then (QP_then (QP_block (QP_then QP_body)))))) ?_
                              refine WA_not 28 192 (by kernel_rfl) rfl (by kernel_rfl) (.head _) (QP_then (QP_block (QP_then (QP_then (QP_block (QP_then QP_body)))))) ?_
                              refine WA_pure 29 193 (.bool false) (by kernel_rfl) rfl (by kernel_rfl) (.head _) (QP_then (QP_block (QP_then (QP_then (QP_block (QP_then QP_body)))))) ?_
                              refine WA_pure 30 194 (.bool false) (by kernel_rfl) rfl (by kernel_rfl) (.head _) (QP_then (QP_block (QP_then (QP_then (QP_block (QP_then QP_body)))))) ?_
                              obtain rfl := Option.some.inj hr
                              have st := st.front12
                              have st := st.front12
                              have st := st.front12
                              have st := st.front12
                              have st := st.front12
                              have st := st.front12
                              have st := st.front12
                              have st := st.front12
                              have st := st.front12
                              have st := st.front12
                              have st := st.front12
                              have st := st.front12
                              have st := st.front12
                              exact WA_done (by kernel_rfl) (X_env _ (by kernel_rfl) (K _ _ ⟨m22, rfl, hm, st, r9, r12, r11, r8, r6, r5, r3, r4⟩))
                      · intro hc
                        rw [if_neg (not_true hc)] at hr
                        refine W_exit ?_
                        refine X_then_exit ?_
                        obtain rfl := Option.some.inj hr
                        have ho := hBu3 _ rfl
                        have st := st.front12
                        have st := st.front12
                        have st := st.front12
                        have st := st.front12
                        have st := st.front12
                        have st := st.front12
                        have st := st.front12
                        have st := st.front12
                        have st := st.front12
                        have st := st.front12
                        have st := st.front12
                        have st := st.front12
                        have st := st.front12
                        refine X_then_exit ?_
                        exact X_env _ (by kernel_rfl) (K2_u3 _ _ ⟨(), m22, ho, rfl, hm, st, r11, r8, r6, r5, r3, r4⟩)
                · intro K
                  clear hrK
                  refine WO_seg 3 [(149, .bool (y12.2.2 != 0))] (by kernel_rfl) (by kernel_rfl) ?_
                  rcases bcases (y12.2.2 != 0) with hc | hc
                  · rw [if_pos hc] at hr
                    refine WO_fact (t := 149) (b := true) (y12.2.2 != 0) (by kernel_rfl) hc ?_
                    refine WO_seg 7 [(156, .bool true)] (by kernel_rfl) (by kernel_rfl) ?_
                    obtain rfl := Option.some.inj hr
                    have st := st.front12
                    have st := st.front12
                    have st := st.front12
                    have st := st.front12
                    have st := st.front12
                    have st := st.front7
                    have st := st.front7
                    have st := st.front12
                    have st := st.front12
                    have st := st.front12
                    have st := st.front12
                    have st := st.front12
                    have st := st.front12
                    exact WO_env _ (by kernel_rfl) (K _ _ ⟨m19, rfl, hm, st, r9, r12, r11, r8, r6, r5, r3, r4⟩)
                  · rw [if_neg (not_true hc)] at hr
                    refine WO_fact (t := 149) (b := false) (y12.2.2 != 0) (by kernel_rfl) hc ?_
                    refine WO_seg 3 [(151, .int .i64 (List.length y12.2.1 : Int)), (152, .pointer (some ⟨b5, 0, none⟩))] (by kernel_rfl) (by kernel_rfl) ?_
                    refine WO_one rfl (One_load_own (d := 153) (t := 22) (x := (.tmp 152)) (.slice a8 (List.length y9.1) c8) (by kernel_rfl) rfl (show evL _ _ = some (.pointer (some ⟨b5, 0, none⟩)) from (by kernel_rfl)) st.tail.tail.tail.head (by kernel_rfl) ?_)
                    refine WO_seg 3 [(156, .bool ((List.length y12.2.1 : Int) != (List.length y9.1 : Int)))] (by kernel_rfl) (by kernel_rfl) ?_
                    obtain rfl := Option.some.inj hr
                    have st := st.front12
                    have st := st.front12
                    have st := st.front12
                    have st := st.front12
                    have st := st.front12
                    have st := st.front7
                    have st := st.front7
                    have st := st.front12
                    have st := st.front12
                    have st := st.front12
                    have st := st.front12
                    have st := st.front12
                    have st := st.front12
                    exact WO_env _ (by kernel_rfl) (K _ _ ⟨m19, rfl, hm, st, r9, r12, r11, r8, r6, r5, r3, r4⟩)
              intro K0_u1
              have st := st.front9
              have st := st.front9
              have st := st.front9
              have st := st.front9
              have st := st.front9
              have st := st.front9
              have st := st.front9
              have st := st.front9
              have st := st.front9
              have st := st.front9
              refine W_env _ (by kernel_rfl) (W_loop (fun k1 L' w' => ∃ (s1 : Int) (m16 : Mem), loopM (testgatelaw13_ContentsKeeps_L1 N y2 y9) k1 s1 = some out1 ∧ L' = [(7, .pointer (some ⟨b3, 0, none⟩)), (13, .pointer (some ⟨b5, 0, none⟩)), (14, .slice a9 (List.length y9.2.1) c9), (115, .slice a9 (List.length y9.2.1) c9), (116, .int .i64 (List.length y9.2.1 : Int)), (117, .int .i64 s1)] ∧ m.le m16 ∧ St m16 (.blk b5 (.cells #[.slice a8 (List.length y9.1) c8] 24 (0, 0)) :: .blk b4 (.cells #[.slice a6 (List.length y6.1) c6] 24 (0, 0)) :: .blk b3 (.cells #[.slice a5 (List.length y2.2) c5] 24 (0, 0)) :: .blk b2 (.cells #[.slice a3 (List.length y1.2) c3] 24 (0, 0)) :: .blk b1 (.cells #[.slice a4 (List.length y2.1.1) c4, .int .i64 y2.1.2] 35 (0, 0)) :: .room a8 (List.length y9.1) c8 9 1 :: .room a9 (List.length y9.2.1) c9 3 1 :: .room a6 (List.length y6.1) c6 9 1 :: .room a5 (List.length y2.2) c5 9 1 :: .room a3 (List.length y1.2) c3 9 1 :: own) w' ∧ RepS (cInt .i64) m16 a9 c9 y9.2.1 ∧ RepS cStr m16 a8 c8 y9.1 ∧ RepS cStr m16 a6 c6 y6.1 ∧ RepS cStr m16 a5 c5 y2.2 ∧ RepS cStr m16 a3 c3 y1.2 ∧ RepS (cInt .i64) m16 a4 c4 y2.1.1) N ⟨0, m13, hr, rfl, hm, st, r9, r8, r6, r5, r3, r4⟩ ?_)
              clear st hr
              rintro k1 _ w26 ⟨s1, m16, hL, rfl, hm, st, r9, r8, r6, r5, r3, r4⟩
              rcases k1 with _ | k1
              · exact loopM_zero hL
              · obtain ⟨qu1, hr, hSu1, hBu1⟩ := loopM_succ hL
                clear hL
                unfold testgatelaw13_ContentsKeeps_L1 at hr
                refine W_seq ?_
                refine W_region ?_
                refine WO_seg 1 [(118, .bool (decide (s1 < (List.length y9.2.1 : Int))))] (by kernel_rfl) (by kernel_rfl) ?_
                refine WO_end rfl ?_
                refine X_then ?_
                refine W_seq ?_
                refine W_cond (decide (s1 < (List.length y9.2.1 : Int))) (by kernel_rfl) ?_ ?_
                · intro hc
                  rw [if_pos hc] at hr
                  refine W_skip ?_
                  refine X_then ?_
                  refine W_seq ?_
                  refine W_block ?_
                  refine W_seq ?_
                  refine W_region ?_
                  refine WO_seg 1 [(119, .int .i64 s1)] (by kernel_rfl) (by kernel_rfl) ?_
                  replace hr := bindS hr
                  obtain ⟨x1, hx13, hr⟩ := hr
                  refine WO_one rfl (One_index (d := 120) (t := 32) (e := 3) (x := (.tmp 115)) (y := (.tmp 117)) (cInt .i64) (by kernel_rfl) rfl (show evL _ _ = some (.slice a9 (List.length y9.2.1) c9) from (by kernel_rfl)) (show evL _ _ = some (.int .i64 s1) from (by kernel_rfl)) (by kernel_rfl) r9 hx13 ?_)
                  rintro b6 f1 cs1 rfl hq1
                  refine WO_one rfl (One_load_row (d := 121) (t := 3) (x := (.tmp 120)) (.int .i64 x1) (by kernel_rfl) rfl (show evL _ _ = some (.pointer (some ⟨b6, f1, none⟩)) from (by kernel_rfl)) st hq1 (by kernel_rfl) ?_)
                  refine WO_seg 2 [(15, .int .i64 s1), (16, .int .i64 x1)] (by kernel_rfl) (by kernel_rfl) ?_
                  refine WO_end rfl ?_
                  refine X_then ?_
                  refine W_seq ?_
                  refine W_region ?_
                  refine WO_one rfl (One_load_own (d := 123) (t := 24) (x := (.tmp 13)) (.agg #[.slice a8 (List.length y9.1) c8]) (by kernel_rfl) rfl (show evL _ _ = some (.pointer (some ⟨b5, 0, none⟩)) from (by kernel_rfl)) st.head (by kernel_rfl) ?_)
                  refine WO_seg 1 [(124, .int .i64 x1)] (by kernel_rfl) (by kernel_rfl) ?_
                  replace hr := bindS hr
                  obtain ⟨y11, hx14, hr⟩ := hr
                  refine WO_one rfl (One_fn 125 23 #[.agg #[.slice a8 (List.length y9.1) c8], .int .i64 x1] (by kernel_rfl) rfl ?_)
                  refine (contents_Get_ok st r8 hx14).mono ?_
                  clear st
                  rintro _ w27 ⟨m17, rfl, hle12, st⟩
                  refine ⟨_, rfl, ?_⟩
                  have hm := Mem.le_trans hm hle12
                  have r9 := r9.mono hle12
                  have r8 := r8.mono hle12
                  have r6 := r6.mono hle12
                  have r5 := r5.mono hle12
                  have r3 := r3.mono hle12
                  have r4 := r4.mono hle12
                  refine WO_seg 5 [(17, .string y11.1), (18, .int .i64 y11.2)] (by kernel_rfl) (by kernel_rfl) ?_
                  refine WO_end rfl ?_
                  refine X_then ?_
                  refine W_seq ?_
                  refine W_region ?_
                  replace hr := bindS hr
                  obtain ⟨o5, hr, hrK⟩ := hr
                  refine WO_cut (j := 11) (fun L' w' => ∃ (m18 : Mem), L' = [(7, .pointer (some ⟨b3, 0, none⟩)), (13, .pointer (some ⟨b5, 0, none⟩)), (14, .slice a9 (List.length y9.2.1) c9), (115, .slice a9 (List.length y9.2.1) c9), (116, .int .i64 (List.length y9.2.1 : Int)), (117, .int .i64 s1), (138, .bool o5)] ∧ m.le m18 ∧ St m18 (.blk b5 (.cells #[.slice a8 (List.length y9.1) c8] 24 (0, 0)) :: .blk b4 (.cells #[.slice a6 (List.length y6.1) c6] 24 (0, 0)) :: .blk b3 (.cells #[.slice a5 (List.length y2.2) c5] 24 (0, 0)) :: .blk b2 (.cells #[.slice a3 (List.length y1.2) c3] 24 (0, 0)) :: .blk b1 (.cells #[.slice a4 (List.length y2.1.1) c4, .int .i64 y2.1.2] 35 (0, 0)) :: .room a8 (List.length y9.1) c8 9 1 :: .room a9 (List.length y9.2.1) c9 3 1 :: .room a6 (List.length y6.1) c6 9 1 :: .room a5 (List.length y2.2) c5 9 1 :: .room a3 (List.length y1.2) c3 9 1 :: own) w' ∧ RepS (cInt .i64) m18 a9 c9 y9.2.1 ∧ RepS cStr m18 a8 c8 y9.1 ∧ RepS cStr m18 a6 c6 y6.1 ∧ RepS cStr m18 a5 c5 y2.2 ∧ RepS cStr m18 a3 c3 y1.2 ∧ RepS (cInt .i64) m18 a4 c4 y2.1.1) ?_ ?_
                  · clear hr st
                    have hr := hrK
                    clear hrK
                    rintro _ w28 ⟨m18, rfl, hm, st, r9, r8, r6, r5, r3, r4⟩
                    refine WO_end rfl ?_
                    refine X_then ?_
                    refine W_cond o5 (by kernel_rfl) ?_ ?_
                    · intro hc
                      rw [if_pos hc] at hr
                      refine W_seq ?_
                      refine W_region ?_
                      refine WO_seg 1 [(4, .bool false)] (by kernel_rfl) (by kernel_rfl) ?_
                      refine WO_end rfl ?_
                      have st := st.front6
                      have st := st.tail
                      refine X_then ?_
                      refine W_ret ?_
                      refine X_block_ret ?_
                      refine X_then_ret ?_
                      obtain rfl := Option.some.inj hr
                      have ho := hBu1 _ rfl
                      subst ho
                      have hr := hrKu1
                      dsimp only at hr
                      refine X_then_ret ?_
                      refine X_block_ret ?_
                      refine X_then_ret ?_
                      obtain rfl := Option.some.inj hr
                      refine X_ret [.tmp 4] [.bool false] rfl (ResAll.cons (ResAt.tmp (by kernel_rfl)) ResAll.nil) ?_
                      have st := st.tail
                      have st := st.tail
                      have st := st.tail
                      have st := st.tail
                      have st := st.tail
                      have st := st.tail
                      have st := st.tail
                      have st := st.tail
                      have st := st.tail
                      exact ⟨m18, rfl, hm, st⟩
                    · intro hc
                      rw [if_neg (not_true hc)] at hr
                      refine W_skip ?_
                      refine X_block ?_
                      refine X_then ?_
                      refine W_region ?_
                      refine WO_seg 2 [(117, .int .i64 (IntKind.wrap .i64 (s1 + 1)))] (by kernel_rfl) (by kernel_rfl) ?_
                      refine WO_end rfl ?_
                      obtain rfl := Option.some.inj hr
                      have hL := hSu1 _ rfl
                      have st := st.front9
                      have st := st.front9
                      have st := st.front9
                      have st := st.front9
                      have st := st.front9
                      have st := st.front9
                      have st := st.front9
                      have st := st.front9
                      have st := st.front9
                      have st := st.front9
                      exact X_env _ (by kernel_rfl) (X_round k1 (Nat.lt_succ_self _) ⟨IntKind.wrap .i64 (s1 + 1), m18, hL, rfl, hm, st, r9, r8, r6, r5, r3, r4⟩)
                  · intro K
                    clear hrK
                    refine WO_seg 3 [(130, .bool (y11.2 != 0))] (by kernel_rfl) (by kernel_rfl) ?_
                    rcases bcases (y11.2 != 0) with hc | hc
                    · rw [if_pos hc] at hr
                      refine WO_fact (t := 130) (b := true) (y11.2 != 0) (by kernel_rfl) hc ?_
                      refine WO_seg 8 [(138, .bool true)] (by kernel_rfl) (by kernel_rfl) ?_
                      obtain rfl := Option.some.inj hr
                      have st := st.front9
                      have st := st.front9
                      have st := st.front9
                      have st := st.front9
                      have st := st.front9
                      have st := st.front9
                      have st := st.front9
                      have st := st.front9
                      have st := st.front9
                      have st := st.front9
                      exact WO_env _ (by kernel_rfl) (K _ _ ⟨m17, rfl, hm, st, r9, r8, r6, r5, r3, r4⟩)
                    · rw [if_neg (not_true hc)] at hr
                      refine WO_fact (t := 130) (b := false) (y11.2 != 0) (by kernel_rfl) hc ?_
                      refine WO_seg 2 [(131, .string y11.1), (132, .pointer (some ⟨b3, 0, none⟩))] (by kernel_rfl) (by kernel_rfl) ?_
                      refine WO_one rfl (One_load_own (d := 133) (t := 22) (x := (.tmp 132)) (.slice a5 (List.length y2.2) c5) (by kernel_rfl) rfl (show evL _ _ = some (.pointer (some ⟨b3, 0, none⟩)) from (by kernel_rfl)) st.tail.tail.head (by kernel_rfl) ?_)
                      refine WO_seg 1 [(134, .int .i64 s1)] (by kernel_rfl) (by kernel_rfl) ?_
                      replace hr := bindS hr
                      obtain ⟨x2, hx15, hr⟩ := hr
                      refine WO_one rfl (One_index (d := 135) (t := 22) (e := 9) (x := (.tmp 133)) (y := (.tmp 134)) cStr (by kernel_rfl) rfl (show evL _ _ = some (.slice a5 (List.length y2.2) c5) from (by kernel_rfl)) (show evL _ _ = some (.int .i64 s1) from (by kernel_rfl)) (by kernel_rfl) r5 hx15 ?_)
                      rintro b7 f2 cs2 rfl hq2
                      refine WO_one rfl (One_load_row (d := 136) (t := 9) (x := (.tmp 135)) (.string x2) (by kernel_rfl) rfl (show evL _ _ = some (.pointer (some ⟨b7, f2, none⟩)) from (by kernel_rfl)) st hq2 (by kernel_rfl) ?_)
                      refine WO_seg 2 [(138, .bool (!(y11.1.toList == x2.toList)))] (by kernel_rfl) (by kernel_rfl) ?_
                      obtain rfl := Option.some.inj hr
                      have st := st.front9
                      have st := st.front9
                      have st := st.front9
                      have st := st.front9
                      have st := st.front9
                      have st := st.front9
                      have st := st.front9
                      have st := st.front9
                      have st := st.front9
                      have st := st.front9
                      exact WO_env _ (by kernel_rfl) (K _ _ ⟨m17, rfl, hm, st, r9, r8, r6, r5, r3, r4⟩)
                · intro hc
                  rw [if_neg (not_true hc)] at hr
                  refine W_exit ?_
                  refine X_then_exit ?_
                  obtain rfl := Option.some.inj hr
                  have ho := hBu1 _ rfl
                  have st := st.front9
                  have st := st.front9
                  have st := st.front9
                  have st := st.front9
                  have st := st.front9
                  have st := st.front9
                  have st := st.front9
                  have st := st.front9
                  have st := st.front9
                  have st := st.front9
                  refine X_then_exit ?_
                  exact X_env _ (by kernel_rfl) (K0_u1 _ _ ⟨(), m16, ho, rfl, hm, st, r9, r8, r6, r5, r3, r4⟩)
          · intro K
            clear hrK
            refine W_draw [(22, fun w' => Inv m12 w' ∧ Piece.holds m12 w' (.blk b5 (.cells #[.slice a8 (List.length y9.1) c8] 24 (0, 0))) ∧ Piece.holds m12 w' (.blk b3 (.cells #[.slice a5 (List.length y2.2) c5] 24 (0, 0))) ∧ Piece.holds m12 w' (.blk b2 (.cells #[.slice a3 (List.length y1.2) c3] 24 (0, 0))) ∧ True)] (by kernel_rfl) st ?_
            clear st
            intro w23 _ st
            have hmS := m12.le_refl
            refine ⟨⟨.inr ⟨Inv.anti st.inv hmS, Piece.holds_anti st.head hmS, Piece.holds_anti st.tail.tail.tail.tail.head hmS, Piece.holds_anti st.tail.tail.tail.tail.tail.head hmS, trivial⟩, trivial⟩, ?_⟩
            refine WA_pure 0 93 (.int .i64 y9.2.2) (by kernel_rfl) rfl (by kernel_rfl) (.head _) (QP_then (QP_then QP_body)) ?_
            refine WA_pure 1 94 (.bool (y9.2.2 != 0)) (by kernel_rfl) rfl (by kernel_rfl) (.head _) (QP_then (QP_then QP_body)) ?_
            refine WA_pure 2 95 (.bool (y9.2.2 != 0)) (by kernel_rfl) rfl (by kernel_rfl) (.head _) (QP_then (QP_then QP_body)) ?_
            rcases bcases (y9.2.2 != 0) with hc | hc
            · rw [if_pos hc] at hr
              refine WA_fact (t := 95) (b := true) (y9.2.2 != 0) (by kernel_rfl) hc ?_
              refine WA_not 3 96 (by kernel_rfl) rfl (by kernel_rfl) (.head _) (QP_then (QP_then QP_body)) ?_
              refine WA_not 4 97 (by kernel_rfl) rfl (by kernel_rfl) (.head _) (QP_then (QP_then QP_body)) ?_
              refine WA_not 5 98 (by kernel_rfl) rfl (by kernel_rfl) (.head _) (QP_then (QP_then QP_body)) ?_
              refine WA_not 6 99 (by kernel_rfl) rfl (by kernel_rfl) (.head _) (QP_then (QP_then QP_body)) ?_
              refine WA_not 7 100 (by kernel_rfl) rfl (by kernel_rfl) (.head _) (QP_then (QP_then QP_body)) ?_
              refine WA_not 8 101 (by kernel_rfl) rfl (by kernel_rfl) (.head _) (QP_then (QP_then QP_body)) ?_
              refine WA_pure 9 102 (.bool true) (by kernel_rfl) rfl (by kernel_rfl) (.head _) (QP_then (QP_then QP_body)) ?_
              refine WA_pure 10 103 (.bool true) (by kernel_rfl) rfl (by kernel_rfl) (.head _) (QP_then (QP_then QP_body)) ?_
              refine WA_not 11 104 (by kernel_rfl) rfl (by kernel_rfl) (.head _) (QP_then (QP_then QP_body)) ?_
              refine WA_not 12 105 (by kernel_rfl) rfl (by kernel_rfl) (.head _) (QP_then (QP_then QP_body)) ?_
              refine WA_not 13 106 (by kernel_rfl) rfl (by kernel_rfl) (.head _) (QP_then (QP_then QP_body)) ?_
              refine WA_not 14 107 (by kernel_rfl) rfl (by kernel_rfl) (.head _) (QP_then (QP_then QP_body)) ?_
              refine WA_not 15 108 (by kernel_rfl) rfl (by kernel_rfl) (.head _) (QP_then (QP_then QP_body)) ?_
              refine WA_not 16 109 (by kernel_rfl) rfl (by kernel_rfl) (.head _) (QP_then (QP_then QP_body)) ?_
              refine WA_not 17 110 (by kernel_rfl) rfl (by kernel_rfl) (.head _) (QP_then (QP_then QP_body)) ?_
              refine WA_not 18 111 (by kernel_rfl) rfl (by kernel_rfl) (.head _) (QP_then (QP_then QP_body)) ?_
              refine WA_not 19 112 (by kernel_rfl) rfl (by kernel_rfl) (.head _) (QP_then (QP_then QP_body)) ?_
              refine WA_not 20 113 (by kernel_rfl) rfl (by kernel_rfl) (.head _) (QP_then (QP_then QP_body)) ?_
              refine WA_pure 21 114 (.bool true) (by kernel_rfl) rfl (by kernel_rfl) (.head _) (QP_then (QP_then QP_body)) ?_
              obtain rfl := Option.some.inj hr
              have st := st.front9
              have st := st.front9
              have st := st.front9
              have st := st.front5
              have st := st.front5
              have st := st.front9
              have st := st.front9
              have st := st.front9
              have st := st.front9
              have st := st.front9
              exact WA_done (by kernel_rfl) (X_env _ (by kernel_rfl) (K _ _ ⟨m12, rfl, hm, st, r9, r8, r6, r5, r3, r4⟩))
            · rw [if_neg (not_true hc)] at hr
              refine WA_fact (t := 95) (b := false) (y9.2.2 != 0) (by kernel_rfl) hc ?_
              refine WA_pure 3 96 (.slice a9 (List.length y9.2.1) c9) (by kernel_rfl) rfl (by kernel_rfl) (.head _) (QP_then (QP_then QP_body)) ?_
              refine WA_pure 4 97 (.int .i64 (List.length y9.2.1 : Int)) (by kernel_rfl) rfl (by kernel_rfl) (.head _) (QP_then (QP_then QP_body)) ?_
              refine WA_pure 5 98 (.pointer (some ⟨b3, 0, none⟩)) (by kernel_rfl) rfl (by kernel_rfl) (.head _) (QP_then (QP_then QP_body)) ?_
              refine WA_load_own (t := 22) (x := (.tmp 98)) 6 99 (.slice a5 (List.length y2.2) c5) (by kernel_rfl) rfl (by kernel_rfl) (.head _) (QP_then (QP_then QP_body)) (fun _ h => h.2.2.1) (show evL _ _ = some (.pointer (some ⟨b3, 0, none⟩)) from (by kernel_rfl)) (by kernel_rfl) ?_
              refine WA_pure 7 100 (.int .i64 (List.length y2.2 : Int)) (by kernel_rfl) rfl (by kernel_rfl) (.head _) (QP_then (QP_then QP_body)) ?_
              refine WA_pure 8 101 (.bool ((List.length y9.2.1 : Int) != (List.length y2.2 : Int))) (by kernel_rfl) rfl (by kernel_rfl) (.head _) (QP_then (QP_then QP_body)) ?_
              refine WA_pure 9 102 (.bool ((List.length y9.2.1 : Int) != (List.length y2.2 : Int))) (by kernel_rfl) rfl (by kernel_rfl) (.head _) (QP_then (QP_then QP_body)) ?_
              refine WA_pure 10 103 (.bool ((List.length y9.2.1 : Int) != (List.length y2.2 : Int))) (by kernel_rfl) rfl (by kernel_rfl) (.head _) (QP_then (QP_then QP_body)) ?_
              rcases bcases ((List.length y9.2.1 : Int) != (List.length y2.2 : Int)) with hc | hc
              · rw [if_pos hc] at hr
                refine WA_fact (t := 103) (b := true) ((List.length y9.2.1 : Int) != (List.length y2.2 : Int)) (by kernel_rfl) hc ?_
                refine WA_not 11 104 (by kernel_rfl) rfl (by kernel_rfl) (.head _) (QP_then (QP_then QP_body)) ?_
                refine WA_not 12 105 (by kernel_rfl) rfl (by kernel_rfl) (.head _) (QP_then (QP_then QP_body)) ?_
                refine WA_not 13 106 (by kernel_rfl) rfl (by kernel_rfl) (.head _) (QP_then (QP_then QP_body)) ?_
                refine WA_not 14 107 (by kernel_rfl) rfl (by kernel_rfl) (.head _) (QP_then (QP_then QP_body)) ?_
                refine WA_not 15 108 (by kernel_rfl) rfl (by kernel_rfl) (.head _) (QP_then (QP_then QP_body)) ?_
                refine WA_not 16 109 (by kernel_rfl) rfl (by kernel_rfl) (.head _) (QP_then (QP_then QP_body)) ?_
                refine WA_not 17 110 (by kernel_rfl) rfl (by kernel_rfl) (.head _) (QP_then (QP_then QP_body)) ?_
                refine WA_not 18 111 (by kernel_rfl) rfl (by kernel_rfl) (.head _) (QP_then (QP_then QP_body)) ?_
                refine WA_not 19 112 (by kernel_rfl) rfl (by kernel_rfl) (.head _) (QP_then (QP_then QP_body)) ?_
                refine WA_not 20 113 (by kernel_rfl) rfl (by kernel_rfl) (.head _) (QP_then (QP_then QP_body)) ?_
                refine WA_pure 21 114 (.bool true) (by kernel_rfl) rfl (by kernel_rfl) (.head _) (QP_then (QP_then QP_body)) ?_
                obtain rfl := Option.some.inj hr
                have st := st.front9
                have st := st.front9
                have st := st.front9
                have st := st.front5
                have st := st.front5
                have st := st.front9
                have st := st.front9
                have st := st.front9
                have st := st.front9
                have st := st.front9
                exact WA_done (by kernel_rfl) (X_env _ (by kernel_rfl) (K _ _ ⟨m12, rfl, hm, st, r9, r8, r6, r5, r3, r4⟩))
              · rw [if_neg (not_true hc)] at hr
                refine WA_fact (t := 103) (b := false) ((List.length y9.2.1 : Int) != (List.length y2.2 : Int)) (by kernel_rfl) hc ?_
                refine WA_pure 11 104 (.pointer (some ⟨b5, 0, none⟩)) (by kernel_rfl) rfl (by kernel_rfl) (.head _) (QP_then (QP_then QP_body)) ?_
                refine WA_load_own (t := 22) (x := (.tmp 104)) 12 105 (.slice a8 (List.length y9.1) c8) (by kernel_rfl) rfl (by kernel_rfl) (.head _) (QP_then (QP_then QP_body)) (fun _ h => h.2.1) (show evL _ _ = some (.pointer (some ⟨b5, 0, none⟩)) from (by kernel_rfl)) (by kernel_rfl) ?_
                refine WA_pure 13 106 (.pointer (some ⟨b2, 0, none⟩)) (by kernel_rfl) rfl (by kernel_rfl) (.head _) (QP_then (QP_then QP_body)) ?_
                refine WA_load_own (t := 22) (x := (.tmp 106)) 14 107 (.slice a3 (List.length y1.2) c3) (by kernel_rfl) rfl (by kernel_rfl) (.head _) (QP_then (QP_then QP_body)) (fun _ h => h.2.2.2.1) (show evL _ _ = some (.pointer (some ⟨b2, 0, none⟩)) from (by kernel_rfl)) (by kernel_rfl) ?_
                refine WA_pure 15 108 (.int .i64 (List.length y1.2 : Int)) (by kernel_rfl) rfl (by kernel_rfl) (.head _) (QP_then (QP_then QP_body)) ?_
                replace hr := bindS hr
                obtain ⟨l2, hx11, hr⟩ := hr
                refine WA_slice (t := 22) (e := 9) (x := (.tmp 105)) (lo := none) (hi := (some (.tmp 108))) 16 109 cStr (by kernel_rfl) rfl (by kernel_rfl) (.head _) (QP_then (QP_then QP_body)) (show evL _ _ = some (.slice a8 (List.length y9.1) c8) from (by kernel_rfl)) (by kernel_rfl) r8 (.inl ⟨rfl, rfl⟩) (.inr ⟨_, _, rfl, (show evL _ _ = some (.int .i64 (List.length y1.2 : Int)) from (by kernel_rfl))⟩) hx11 ?_
                intro a10 c10 r10
                refine WA_pure 17 110 (.pointer (some ⟨b2, 0, none⟩)) (by kernel_rfl) rfl (by kernel_rfl) (.head _) (QP_then (QP_then QP_body)) ?_
                refine WA_load_own (t := 22) (x := (.tmp 110)) 18 111 (.slice a3 (List.length y1.2) c3) (by kernel_rfl) rfl (by kernel_rfl) (.head _) (QP_then (QP_then QP_body)) (fun _ h => h.2.2.2.1) (show evL _ _ = some (.pointer (some ⟨b2, 0, none⟩)) from (by kernel_rfl)) (by kernel_rfl) ?_
                replace hr := bindS hr
                obtain ⟨y10, hx12, hr⟩ := hr
                refine WA_one 19 (by kernel_rfl) (One_fn 112 59 #[.slice a10 (List.length l2) c10, .slice a3 (List.length y1.2) c3] (by kernel_rfl) rfl ?_)
                refine (testgatemake_SameTexts_ok st r10 r3 hx12).mono ?_
                clear st
                rintro _ w24 ⟨m14, rfl, hle11, st⟩
                refine ⟨_, rfl, ?_⟩
                have hm := Mem.le_trans hm hle11
                have r9 := r9.mono hle11
                have r5 := r5.mono hle11
                have r8 := r8.mono hle11
                have r3 := r3.mono hle11
                have r10 := r10.mono hle11
                have r6 := r6.mono hle11
                have r4 := r4.mono hle11
                have hmS := Mem.le_trans hmS hle11
                refine ⟨⟨.inr ⟨Inv.anti st.inv hmS, Piece.holds_anti st.head hmS, Piece.holds_anti st.tail.tail.tail.tail.head hmS, Piece.holds_anti st.tail.tail.tail.tail.tail.head hmS, trivial⟩, trivial⟩, ?_⟩
                refine WA_pure 20 113 (.bool (!y10)) (by kernel_rfl) rfl (by kernel_rfl) (.head _) (QP_then (QP_then QP_body)) ?_
                refine WA_pure 21 114 (.bool (!y10)) (by kernel_rfl) rfl (by kernel_rfl) (.head _) (QP_then (QP_then QP_body)) ?_
                obtain rfl := Option.some.inj hr
                have st := st.front9
                have st := st.front9
                have st := st.front9
                have st := st.front5
                have st := st.front5
                have st := st.front9
                have st := st.front9
                have st := st.front9
                have st := st.front9
                have st := st.front9
                exact WA_done (by kernel_rfl) (X_env _ (by kernel_rfl) (K _ _ ⟨m14, rfl, hm, st, r9, r8, r6, r5, r3, r4⟩))
      · intro K
        clear hrK
        refine W_draw [(32, fun w' => Inv m9 w' ∧ Piece.holds m9 w' (.blk b4 (.cells #[.slice a6 (List.length y6.1) c6] 24 (0, 0))) ∧ Piece.holds m9 w' (.blk b2 (.cells #[.slice a3 (List.length y1.2) c3] 24 (0, 0))) ∧ True)] (by kernel_rfl) st ?_
        clear st
        intro w17 _ st
        have hmS := m9.le_refl
        refine ⟨⟨.inr ⟨Inv.anti st.inv hmS, Piece.holds_anti st.head hmS, Piece.holds_anti st.tail.tail.tail.head hmS, trivial⟩, trivial⟩, ?_⟩
        refine WA_pure 0 54 (.int .i64 y6.2.2) (by kernel_rfl) rfl (by kernel_rfl) (.head _) (QP_then (QP_then QP_body)) ?_
        refine WA_pure 1 55 (.bool (y6.2.2 != 0)) (by kernel_rfl) rfl (by kernel_rfl) (.head _) (QP_then (QP_then QP_body)) ?_
        refine WA_pure 2 56 (.bool (y6.2.2 != 0)) (by kernel_rfl) rfl (by kernel_rfl) (.head _) (QP_then (QP_then QP_body)) ?_
        rcases bcases (y6.2.2 != 0) with hc | hc
        · rw [if_pos hc] at hr
          refine WA_fact (t := 56) (b := true) (y6.2.2 != 0) (by kernel_rfl) hc ?_
          refine WA_not 3 57 (by kernel_rfl) rfl (by kernel_rfl) (.head _) (QP_then (QP_then QP_body)) ?_
          refine WA_not 4 58 (by kernel_rfl) rfl (by kernel_rfl) (.head _) (QP_then (QP_then QP_body)) ?_
          refine WA_pure 5 59 (.bool true) (by kernel_rfl) rfl (by kernel_rfl) (.head _) (QP_then (QP_then QP_body)) ?_
          refine WA_pure 6 60 (.bool true) (by kernel_rfl) rfl (by kernel_rfl) (.head _) (QP_then (QP_then QP_body)) ?_
          refine WA_not 7 61 (by kernel_rfl) rfl (by kernel_rfl) (.head _) (QP_then (QP_then QP_body)) ?_
          refine WA_not 8 62 (by kernel_rfl) rfl (by kernel_rfl) (.head _) (QP_then (QP_then QP_body)) ?_
          refine WA_not 9 63 (by kernel_rfl) rfl (by kernel_rfl) (.head _) (QP_then (QP_then QP_body)) ?_
          refine WA_pure 10 64 (.bool true) (by kernel_rfl) rfl (by kernel_rfl) (.head _) (QP_then (QP_then QP_body)) ?_
          refine WA_pure 11 65 (.bool true) (by kernel_rfl) rfl (by kernel_rfl) (.head _) (QP_then (QP_then QP_body)) ?_
          refine WA_not 12 66 (by kernel_rfl) rfl (by kernel_rfl) (.head _) (QP_then (QP_then QP_body)) ?_
          refine WA_not 13 67 (by kernel_rfl) rfl (by kernel_rfl) (.head _) (QP_then (QP_then QP_body)) ?_
          refine WA_not 14 68 (by kernel_rfl) rfl (by kernel_rfl) (.head _) (QP_then (QP_then QP_body)) ?_
          refine WA_not 15 69 (by kernel_rfl) rfl (by kernel_rfl) (.head _) (QP_then (QP_then QP_body)) ?_
          refine WA_not 16 70 (by kernel_rfl) rfl (by kernel_rfl) (.head _) (QP_then (QP_then QP_body)) ?_
          refine WA_not 17 71 (by kernel_rfl) rfl (by kernel_rfl) (.head _) (QP_then (QP_then QP_body)) ?_
          refine WA_not 18 72 (by kernel_rfl) rfl (by kernel_rfl) (.head _) (QP_then (QP_then QP_body)) ?_
          refine WA_pure 19 73 (.bool true) (by kernel_rfl) rfl (by kernel_rfl) (.head _) (QP_then (QP_then QP_body)) ?_
          refine WA_pure 20 74 (.bool true) (by kernel_rfl) rfl (by kernel_rfl) (.head _) (QP_then (QP_then QP_body)) ?_
          refine WA_not 21 75 (by kernel_rfl) rfl (by kernel_rfl) (.head _) (QP_then (QP_then QP_body)) ?_
          refine WA_not 22 76 (by kernel_rfl) rfl (by kernel_rfl) (.head _) (QP_then (QP_then QP_body)) ?_
          refine WA_not 23 77 (by kernel_rfl) rfl (by kernel_rfl) (.head _) (QP_then (QP_then QP_body)) ?_
          refine WA_not 24 78 (by kernel_rfl) rfl (by kernel_rfl) (.head _) (QP_then (QP_then QP_body)) ?_
          refine WA_not 25 79 (by kernel_rfl) rfl (by kernel_rfl) (.head _) (QP_then (QP_then QP_body)) ?_
          refine WA_not 26 80 (by kernel_rfl) rfl (by kernel_rfl) (.head _) (QP_then (QP_then QP_body)) ?_
          refine WA_not 27 81 (by kernel_rfl) rfl (by kernel_rfl) (.head _) (QP_then (QP_then QP_body)) ?_
          refine WA_not 28 82 (by kernel_rfl) rfl (by kernel_rfl) (.head _) (QP_then (QP_then QP_body)) ?_
          refine WA_not 29 83 (by kernel_rfl) rfl (by kernel_rfl) (.head _) (QP_then (QP_then QP_body)) ?_
          refine WA_not 30 84 (by kernel_rfl) rfl (by kernel_rfl) (.head _) (QP_then (QP_then QP_body)) ?_
          refine WA_pure 31 85 (.bool true) (by kernel_rfl) rfl (by kernel_rfl) (.head _) (QP_then (QP_then QP_body)) ?_
          obtain rfl := Option.some.inj hr
          have st := st.front6
          have st := st.front6
          have st := st.front3
          have st := st.front6
          have st := st.front6
          have st := st.front6
          have st := st.front6
          exact WA_done (by kernel_rfl) (X_env _ (by kernel_rfl) (K _ _ ⟨m9, rfl, hm, st, r6, r5, r3, r4⟩))
        · rw [if_neg (not_true hc)] at hr
          refine WA_fact (t := 56) (b := false) (y6.2.2 != 0) (by kernel_rfl) hc ?_
          refine WA_pure 3 57 (.int .i64 y7.2) (by kernel_rfl) rfl (by kernel_rfl) (.head _) (QP_then (QP_then QP_body)) ?_
          refine WA_pure 4 58 (.bool (y7.2 != 0)) (by kernel_rfl) rfl (by kernel_rfl) (.head _) (QP_then (QP_then QP_body)) ?_
          refine WA_pure 5 59 (.bool (y7.2 != 0)) (by kernel_rfl) rfl (by kernel_rfl) (.head _) (QP_then (QP_then QP_body)) ?_
          refine WA_pure 6 60 (.bool (y7.2 != 0)) (by kernel_rfl) rfl (by kernel_rfl) (.head _) (QP_then (QP_then QP_body)) ?_
          rcases bcases (y7.2 != 0) with hc | hc
          · rw [if_pos hc] at hr
            refine WA_fact (t := 60) (b := true) (y7.2 != 0) (by kernel_rfl) hc ?_
            refine WA_not 7 61 (by kernel_rfl) rfl (by kernel_rfl) (.head _) (QP_then (QP_then QP_body)) ?_
            refine WA_not 8 62 (by kernel_rfl) rfl (by kernel_rfl) (.head _) (QP_then (QP_then QP_body)) ?_
            refine WA_not 9 63 (by kernel_rfl) rfl (by kernel_rfl) (.head _) (QP_then (QP_then QP_body)) ?_
            refine WA_pure 10 64 (.bool true) (by kernel_rfl) rfl (by kernel_rfl) (.head _) (QP_then (QP_then QP_body)) ?_
            refine WA_pure 11 65 (.bool true) (by kernel_rfl) rfl (by kernel_rfl) (.head _) (QP_then (QP_then QP_body)) ?_
            refine WA_not 12 66 (by kernel_rfl) rfl (by kernel_rfl) (.head _) (QP_then (QP_then QP_body)) ?_
            refine WA_not 13 67 (by kernel_rfl) rfl (by kernel_rfl) (.head _) (QP_then (QP_then QP_body)) ?_
            refine WA_not 14 68 (by kernel_rfl) rfl (by kernel_rfl) (.head _) (QP_then (QP_then QP_body)) ?_
            refine WA_not 15 69 (by kernel_rfl) rfl (by kernel_rfl) (.head _) (QP_then (QP_then QP_body)) ?_
            refine WA_not 16 70 (by kernel_rfl) rfl (by kernel_rfl) (.head _) (QP_then (QP_then QP_body)) ?_
            refine WA_not 17 71 (by kernel_rfl) rfl (by kernel_rfl) (.head _) (QP_then (QP_then QP_body)) ?_
            refine WA_not 18 72 (by kernel_rfl) rfl (by kernel_rfl) (.head _) (QP_then (QP_then QP_body)) ?_
            refine WA_pure 19 73 (.bool true) (by kernel_rfl) rfl (by kernel_rfl) (.head _) (QP_then (QP_then QP_body)) ?_
            refine WA_pure 20 74 (.bool true) (by kernel_rfl) rfl (by kernel_rfl) (.head _) (QP_then (QP_then QP_body)) ?_
            refine WA_not 21 75 (by kernel_rfl) rfl (by kernel_rfl) (.head _) (QP_then (QP_then QP_body)) ?_
            refine WA_not 22 76 (by kernel_rfl) rfl (by kernel_rfl) (.head _) (QP_then (QP_then QP_body)) ?_
            refine WA_not 23 77 (by kernel_rfl) rfl (by kernel_rfl) (.head _) (QP_then (QP_then QP_body)) ?_
            refine WA_not 24 78 (by kernel_rfl) rfl (by kernel_rfl) (.head _) (QP_then (QP_then QP_body)) ?_
            refine WA_not 25 79 (by kernel_rfl) rfl (by kernel_rfl) (.head _) (QP_then (QP_then QP_body)) ?_
            refine WA_not 26 80 (by kernel_rfl) rfl (by kernel_rfl) (.head _) (QP_then (QP_then QP_body)) ?_
            refine WA_not 27 81 (by kernel_rfl) rfl (by kernel_rfl) (.head _) (QP_then (QP_then QP_body)) ?_
            refine WA_not 28 82 (by kernel_rfl) rfl (by kernel_rfl) (.head _) (QP_then (QP_then QP_body)) ?_
            refine WA_not 29 83 (by kernel_rfl) rfl (by kernel_rfl) (.head _) (QP_then (QP_then QP_body)) ?_
            refine WA_not 30 84 (by kernel_rfl) rfl (by kernel_rfl) (.head _) (QP_then (QP_then QP_body)) ?_
            refine WA_pure 31 85 (.bool true) (by kernel_rfl) rfl (by kernel_rfl) (.head _) (QP_then (QP_then QP_body)) ?_
            obtain rfl := Option.some.inj hr
            have st := st.front6
            have st := st.front6
            have st := st.front3
            have st := st.front6
            have st := st.front6
            have st := st.front6
            have st := st.front6
            exact WA_done (by kernel_rfl) (X_env _ (by kernel_rfl) (K _ _ ⟨m9, rfl, hm, st, r6, r5, r3, r4⟩))
          · rw [if_neg (not_true hc)] at hr
            refine WA_fact (t := 60) (b := false) (y7.2 != 0) (by kernel_rfl) hc ?_
            refine WA_pure 7 61 (.string y7.1) (by kernel_rfl) rfl (by kernel_rfl) (.head _) (QP_then (QP_then QP_body)) ?_
            refine WA_pure 8 62 (.string p1) (by kernel_rfl) rfl (by kernel_rfl) (.head _) (QP_then (QP_then QP_body)) ?_
            refine WA_pure 9 63 (.bool (!(y7.1.toList == p1.toList))) (by kernel_rfl) rfl (by kernel_rfl) (.head _) (QP_then (QP_then QP_body)) ?_
            refine WA_pure 10 64 (.bool (!(y7.1.toList == p1.toList))) (by kernel_rfl) rfl (by kernel_rfl) (.head _) (QP_then (QP_then QP_body)) ?_
            refine WA_pure 11 65 (.bool (!(y7.1.toList == p1.toList))) (by kernel_rfl) rfl (by kernel_rfl) (.head _) (QP_then (QP_then QP_body)) ?_
            rcases bcases (!(y7.1.toList == p1.toList)) with hc | hc
            · rw [if_pos hc] at hr
              refine WA_fact (t := 65) (b := true) (!(y7.1.toList == p1.toList)) (by kernel_rfl) hc ?_
              refine WA_not 12 66 (by kernel_rfl) rfl (by kernel_rfl) (.head _) (QP_then (QP_then QP_body)) ?_
              refine WA_not 13 67 (by kernel_rfl) rfl (by kernel_rfl) (.head _) (QP_then (QP_then QP_body)) ?_
              refine WA_not 14 68 (by kernel_rfl) rfl (by kernel_rfl) (.head _) (QP_then (QP_then QP_body)) ?_
              refine WA_not 15 69 (by kernel_rfl) rfl (by kernel_rfl) (.head _) (QP_then (QP_then QP_body)) ?_
              refine WA_not 16 70 (by kernel_rfl) rfl (by kernel_rfl) (.head _) (QP_then (QP_then QP_body)) ?_
              refine WA_not 17 71 (by kernel_rfl) rfl (by kernel_rfl) (.head _) (QP_then (QP_then QP_body)) ?_
              refine WA_not 18 72 (by kernel_rfl) rfl (by kernel_rfl) (.head _) (QP_then (QP_then QP_body)) ?_
              refine WA_pure 19 73 (.bool true) (by kernel_rfl) rfl (by kernel_rfl) (.head _) (QP_then (QP_then QP_body)) ?_
              refine WA_pure 20 74 (.bool true) (by kernel_rfl) rfl (by kernel_rfl) (.head _) (QP_then (QP_then QP_body)) ?_
              refine WA_not 21 75 (by kernel_rfl) rfl (by kernel_rfl) (.head _) (QP_then (QP_then QP_body)) ?_
              refine WA_not 22 76 (by kernel_rfl) rfl (by kernel_rfl) (.head _) (QP_then (QP_then QP_body)) ?_
              refine WA_not 23 77 (by kernel_rfl) rfl (by kernel_rfl) (.head _) (QP_then (QP_then QP_body)) ?_
              refine WA_not 24 78 (by kernel_rfl) rfl (by kernel_rfl) (.head _) (QP_then (QP_then QP_body)) ?_
              refine WA_not 25 79 (by kernel_rfl) rfl (by kernel_rfl) (.head _) (QP_then (QP_then QP_body)) ?_
              refine WA_not 26 80 (by kernel_rfl) rfl (by kernel_rfl) (.head _) (QP_then (QP_then QP_body)) ?_
              refine WA_not 27 81 (by kernel_rfl) rfl (by kernel_rfl) (.head _) (QP_then (QP_then QP_body)) ?_
              refine WA_not 28 82 (by kernel_rfl) rfl (by kernel_rfl) (.head _) (QP_then (QP_then QP_body)) ?_
              refine WA_not 29 83 (by kernel_rfl) rfl (by kernel_rfl) (.head _) (QP_then (QP_then QP_body)) ?_
              refine WA_not 30 84 (by kernel_rfl) rfl (by kernel_rfl) (.head _) (QP_then (QP_then QP_body)) ?_
              refine WA_pure 31 85 (.bool true) (by kernel_rfl) rfl (by kernel_rfl) (.head _) (QP_then (QP_then QP_body)) ?_
              obtain rfl := Option.some.inj hr
              have st := st.front6
              have st := st.front6
              have st := st.front3
              have st := st.front6
              have st := st.front6
              have st := st.front6
              have st := st.front6
              exact WA_done (by kernel_rfl) (X_env _ (by kernel_rfl) (K _ _ ⟨m9, rfl, hm, st, r6, r5, r3, r4⟩))
            · rw [if_neg (not_true hc)] at hr
              refine WA_fact (t := 65) (b := false) (!(y7.1.toList == p1.toList)) (by kernel_rfl) hc ?_
              refine WA_pure 12 66 (.pointer (some ⟨b4, 0, none⟩)) (by kernel_rfl) rfl (by kernel_rfl) (.head _) (QP_then (QP_then QP_body)) ?_
              refine WA_load_own (t := 22) (x := (.tmp 66)) 13 67 (.slice a6 (List.length y6.1) c6) (by kernel_rfl) rfl (by kernel_rfl) (.head _) (QP_then (QP_then QP_body)) (fun _ h => h.2.1) (show evL _ _ = some (.pointer (some ⟨b4, 0, none⟩)) from (by kernel_rfl)) (by kernel_rfl) ?_
              refine WA_pure 14 68 (.int .i64 (List.length y6.1 : Int)) (by kernel_rfl) rfl (by kernel_rfl) (.head _) (QP_then (QP_then QP_body)) ?_
              refine WA_pure 15 69 (.pointer (some ⟨b2, 0, none⟩)) (by kernel_rfl) rfl (by kernel_rfl) (.head _) (QP_then (QP_then QP_body)) ?_
              refine WA_load_own (t := 22) (x := (.tmp 69)) 16 70 (.slice a3 (List.length y1.2) c3) (by kernel_rfl) rfl (by kernel_rfl) (.head _) (QP_then (QP_then QP_body)) (fun _ h => h.2.2.1) (show evL _ _ = some (.pointer (some ⟨b2, 0, none⟩)) from (by kernel_rfl)) (by kernel_rfl) ?_
              refine WA_pure 17 71 (.int .i64 (List.length y1.2 : Int)) (by kernel_rfl) rfl (by kernel_rfl) (.head _) (QP_then (QP_then QP_body)) ?_
              refine WA_pure 18 72 (.bool (decide ((List.length y6.1 : Int) < (List.length y1.2 : Int)))) (by kernel_rfl) rfl (by kernel_rfl) (.head _) (QP_then (QP_then QP_body)) ?_
              refine WA_pure 19 73 (.bool (decide ((List.length y6.1 : Int) < (List.length y1.2 : Int)))) (by kernel_rfl) rfl (by kernel_rfl) (.head _) (QP_then (QP_then QP_body)) ?_
              refine WA_pure 20 74 (.bool (decide ((List.length y6.1 : Int) < (List.length y1.2 : Int)))) (by kernel_rfl) rfl (by kernel_rfl) (.head _) (QP_then (QP_then QP_body)) ?_
              rcases bcases (decide ((List.length y6.1 : Int) < (List.length y1.2 : Int))) with hc | hc
              · rw [if_pos hc] at hr
                refine WA_fact (t := 74) (b := true) (decide ((List.length y6.1 : Int) < (List.length y1.2 : Int))) (by kernel_rfl) hc ?_
                refine WA_not 21 75 (by kernel_rfl) rfl (by kernel_rfl) (.head _) (QP_then (QP_then QP_body)) ?_
                refine WA_not 22 76 (by kernel_rfl) rfl (by kernel_rfl) (.head _) (QP_then (QP_then QP_body)) ?_
                refine WA_not 23 77 (by kernel_rfl) rfl (by kernel_rfl) (.head _) (QP_then (QP_then QP_body)) ?_
                refine WA_not 24 78 (by kernel_rfl) rfl (by kernel_rfl) (.head _) (QP_then (QP_then QP_body)) ?_
                refine WA_not 25 79 (by kernel_rfl) rfl (by kernel_rfl) (.head _) (QP_then (QP_then QP_body)) ?_
                refine WA_not 26 80 (by kernel_rfl) rfl (by kernel_rfl) (.head _) (QP_then (QP_then QP_body)) ?_
                refine WA_not 27 81 (by kernel_rfl) rfl (by kernel_rfl) (.head _) (QP_then (QP_then QP_body)) ?_
                refine WA_not 28 82 (by kernel_rfl) rfl (by kernel_rfl) (.head _) (QP_then (QP_then QP_body)) ?_
                refine WA_not 29 83 (by kernel_rfl) rfl (by kernel_rfl) (.head _) (QP_then (QP_then QP_body)) ?_
                refine WA_not 30 84 (by kernel_rfl) rfl (by kernel_rfl) (.head _) (QP_then (QP_then QP_body)) ?_
                refine WA_pure 31 85 (.bool true) (by kernel_rfl) rfl (by kernel_rfl) (.head _) (QP_then (QP_then QP_body)) ?_
                obtain rfl := Option.some.inj hr
                have st := st.front6
                have st := st.front6
                have st := st.front3
                have st := st.front6
                have st := st.front6
                have st := st.front6
                have st := st.front6
                exact WA_done (by kernel_rfl) (X_env _ (by kernel_rfl) (K _ _ ⟨m9, rfl, hm, st, r6, r5, r3, r4⟩))
              · rw [if_neg (not_true hc)] at hr
                refine WA_fact (t := 74) (b := false) (decide ((List.length y6.1 : Int) < (List.length y1.2 : Int))) (by kernel_rfl) hc ?_
                refine WA_pure 21 75 (.pointer (some ⟨b4, 0, none⟩)) (by kernel_rfl) rfl (by kernel_rfl) (.head _) (QP_then (QP_then QP_body)) ?_
                refine WA_load_own (t := 22) (x := (.tmp 75)) 22 76 (.slice a6 (List.length y6.1) c6) (by kernel_rfl) rfl (by kernel_rfl) (.head _) (QP_then (QP_then QP_body)) (fun _ h => h.2.1) (show evL _ _ = some (.pointer (some ⟨b4, 0, none⟩)) from (by kernel_rfl)) (by kernel_rfl) ?_
                refine WA_pure 23 77 (.pointer (some ⟨b2, 0, none⟩)) (by kernel_rfl) rfl (by kernel_rfl) (.head _) (QP_then (QP_then QP_body)) ?_
                refine WA_load_own (t := 22) (x := (.tmp 77)) 24 78 (.slice a3 (List.length y1.2) c3) (by kernel_rfl) rfl (by kernel_rfl) (.head _) (QP_then (QP_then QP_body)) (fun _ h => h.2.2.1) (show evL _ _ = some (.pointer (some ⟨b2, 0, none⟩)) from (by kernel_rfl)) (by kernel_rfl) ?_
                refine WA_pure 25 79 (.int .i64 (List.length y1.2 : Int)) (by kernel_rfl) rfl (by kernel_rfl) (.head _) (QP_then (QP_then QP_body)) ?_
                replace hr := bindS hr
                obtain ⟨l1, hx8, hr⟩ := hr
                refine WA_slice (t := 22) (e := 9) (x := (.tmp 76)) (lo := none) (hi := (some (.tmp 79))) 26 80 cStr (by kernel_rfl) rfl (by kernel_rfl) (.head _) (QP_then (QP_then QP_body)) (show evL _ _ = some (.slice a6 (List.length y6.1) c6) from (by kernel_rfl)) (by kernel_rfl) r6 (.inl ⟨rfl, rfl⟩) (.inr ⟨_, _, rfl, (show evL _ _ = some (.int .i64 (List.length y1.2 : Int)) from (by kernel_rfl))⟩) hx8 ?_
                intro a7 c7 r7
                refine WA_pure 27 81 (.pointer (some ⟨b2, 0, none⟩)) (by kernel_rfl) rfl (by kernel_rfl) (.head _) (QP_then (QP_then QP_body)) ?_
                refine WA_load_own (t := 22) (x := (.tmp 81)) 28 82 (.slice a3 (List.length y1.2) c3) (by kernel_rfl) rfl (by kernel_rfl) (.head _) (QP_then (QP_then QP_body)) (fun _ h => h.2.2.1) (show evL _ _ = some (.pointer (some ⟨b2, 0, none⟩)) from (by kernel_rfl)) (by kernel_rfl) ?_
                replace hr := bindS hr
                obtain ⟨y8, hx9, hr⟩ := hr
                refine WA_one 29 (by kernel_rfl) (One_fn 83 59 #[.slice a7 (List.length l1) c7, .slice a3 (List.length y1.2) c3] (by kernel_rfl) rfl ?_)
                refine (testgatemake_SameTexts_ok st r7 r3 hx9).mono ?_
                clear st
                rintro _ w18 ⟨m11, rfl, hle9, st⟩
                refine ⟨_, rfl, ?_⟩
                have hm := Mem.le_trans hm hle9
                have r6 := r6.mono hle9
                have r3 := r3.mono hle9
                have r7 := r7.mono hle9
                have r5 := r5.mono hle9
                have r4 := r4.mono hle9
                have hmS := Mem.le_trans hmS hle9
                refine ⟨⟨.inr ⟨Inv.anti st.inv hmS, Piece.holds_anti st.head hmS, Piece.holds_anti st.tail.tail.tail.head hmS, trivial⟩, trivial⟩, ?_⟩
                refine WA_pure 30 84 (.bool (!y8)) (by kernel_rfl) rfl (by kernel_rfl) (.head _) (QP_then (QP_then QP_body)) ?_
                refine WA_pure 31 85 (.bool (!y8)) (by kernel_rfl) rfl (by kernel_rfl) (.head _) (QP_then (QP_then QP_body)) ?_
                obtain rfl := Option.some.inj hr
                have st := st.front6
                have st := st.front6
                have st := st.front3
                have st := st.front6
                have st := st.front6
                have st := st.front6
                have st := st.front6
                exact WA_done (by kernel_rfl) (X_env _ (by kernel_rfl) (K _ _ ⟨m11, rfl, hm, st, r6, r5, r3, r4⟩))
  · intro K
    clear hrK
    refine WO_one rfl (One_load_own (d := 32) (t := 24) (x := (.tmp 6)) (.agg #[.slice a3 (List.length y1.2) c3]) (by kernel_rfl) rfl (show evL _ _ = some (.pointer (some ⟨b2, 0, none⟩)) from (by kernel_rfl)) st.tail.head (by kernel_rfl) ?_)
    replace hr := bindS hr
    obtain ⟨y3, hx3, hr⟩ := hr
    refine WO_one rfl (One_fn 33 18 #[.agg #[.slice a3 (List.length y1.2) c3]] (by kernel_rfl) rfl ?_)
    refine (testgateref13_Check_ok st r3 hx3).mono ?_
    clear st
    rintro _ w9 ⟨m5, rfl, hle4, st⟩
    refine ⟨_, rfl, ?_⟩
    have hm := Mem.le_trans hm hle4
    have r3 := r3.mono hle4
    have r5 := r5.mono hle4
    have r4 := r4.mono hle4
    refine WO_seg 2 [(35, .bool (y3 != 0))] (by kernel_rfl) (by kernel_rfl) ?_
    rcases bcases (y3 != 0) with hc | hc
    · rw [if_pos hc] at hr
      refine WO_fact (t := 35) (b := true) (y3 != 0) (by kernel_rfl) hc ?_
      refine WO_seg 4 [(39, .bool true)] (by kernel_rfl) (by kernel_rfl) ?_
      obtain rfl := Option.some.inj hr
      have st := st.front4
      have st := st.front3
      have st := st.front4
      have st := st.front4
      have st := st.front4
      exact WO_env _ (by kernel_rfl) (K _ _ ⟨m5, rfl, hm, st, r5, r3, r4⟩)
    · rw [if_neg (not_true hc)] at hr
      refine WO_fact (t := 35) (b := false) (y3 != 0) (by kernel_rfl) hc ?_
      refine WO_one rfl (One_load_own (d := 36) (t := 24) (x := (.tmp 7)) (.agg #[.slice a5 (List.length y2.2) c5]) (by kernel_rfl) rfl (show evL _ _ = some (.pointer (some ⟨b3, 0, none⟩)) from (by kernel_rfl)) st.head (by kernel_rfl) ?_)
      replace hr := bindS hr
      obtain ⟨y4, hx4, hr⟩ := hr
      refine WO_one rfl (One_fn 37 18 #[.agg #[.slice a5 (List.length y2.2) c5]] (by kernel_rfl) rfl ?_)
      refine (testgateref13_Check_ok st r5 hx4).mono ?_
      clear st
      rintro _ w10 ⟨m6, rfl, hle5, st⟩
      refine ⟨_, rfl, ?_⟩
      have hm := Mem.le_trans hm hle5
      have r3 := r3.mono hle5
      have r5 := r5.mono hle5
      have r4 := r4.mono hle5
      refine WO_seg 2 [(39, .bool (y4 != 0))] (by kernel_rfl) (by kernel_rfl) ?_
      obtain rfl := Option.some.inj hr
      have st := st.front4
      have st := st.front3
      have st := st.front4
      have st := st.front4
      have st := st.front4
      exact WO_env _ (by kernel_rfl) (K _ _ ⟨m6, rfl, hm, st, r5, r3, r4⟩)

def testgateref03_PutUint_L1 (N : Nat) (s1 : Int × List (UInt8)) : Option ((Int × List (UInt8)) ⊕ ((Int × List (UInt8)))) :=
  if (decide (s1.1 ≥ 128)) = true then ((appendS 1 s1.2 ([toU8 (IntKind.wrap .u8 ((IntKind.wrap .u8 (Int.tmod s1.1 128)) + 128))])).bind fun l2 => some (.inl (IntKind.wrap .u64 (Int.tdiv s1.1 128), l2))) else (some (.inr (s1.1, s1.2)))

def testgateref03_PutUint (N : Nat) (p0 : List UInt8) (p1 : Int) : Option (List UInt8) :=
  (appendS 1 ([] : List (UInt8)) p0).bind fun l1 => (loopM (testgateref03_PutUint_L1 N) N (p1, l1)).bind fun o1 => (appendS 1 o1.2 ([toU8 (IntKind.wrap .u8 o1.1)])).bind fun l3 => some l3

set_option maxHeartbeats 4000000 in
set_option maxRecDepth 100000 in
theorem testgateref03_PutUint_ok {N : Nat} {m : Mem} {own : List Piece} {w : World} {p0 : List UInt8} {p1 : Int} {a1 : Option Addr} {c1 : Nat} {r : List UInt8} (st : St m (own) w) (r1 : RepS cU8 m a1 c1 p0) (hr : testgateref03_PutUint N p0 p1 = some r) : Calls Go.Proofs.Try.prog 48 #[.slice a1 (List.length p0) c1, .int .u64 p1] w fun e w' => ∃ (ra1 : Option Addr) (rc1 : Nat) (m' : Mem), e = .returned (.slice ra1 (List.length r) rc1) ∧ m.le m' ∧ St m' (.room ra1 (List.length r) rc1 5 1 :: own) w' ∧ RepS cU8 m' ra1 rc1 r := by
  unfold testgateref03_PutUint at hr
  have hm := m.le_refl
  refine W_calls Go.Proofs.Try.func48 rfl Go.Proofs.Try.ntmps48 [(0, .slice a1 (List.length p0) c1), (1, .int .u64 p1)] (by kernel_rfl) rfl ?_
  refine W_seq ?_
  refine W_region ?_
  refine WO_seg 1 [] (by kernel_rfl) (by kernel_rfl) ?_
  refine WO_end rfl ?_
  refine X_then ?_
  refine W_seq ?_
  refine W_region ?_
  refine WO_seg 1 [(6, .slice a1 (List.length p0) c1)] (by kernel_rfl) (by kernel_rfl) ?_
  have st := st.nilroom 5 1
  replace hr := bindS hr
  obtain ⟨l1, hx1, hr⟩ := hr
  refine WO_one rfl (One_append (d := 7) (t := 50) (u := 50) (e := 5) (by_ := 1) (x := (.const (.slice none 0 0))) (y := (.tmp 6)) cU8 (by kernel_rfl) rfl (show evL _ _ = some (.slice none (List.length ([] : List (UInt8))) 0) from (by kernel_rfl)) (show evL _ _ = some (.slice a1 (List.length p0) c1) from (by kernel_rfl)) st (by kernel_rfl) (.inl (by kernel_rfl)) (RepS.nil _ _) r1.src hx1 ?_)
  clear st
  intro a2 c2 m1 w1 hle1 st r2
  have hm := Mem.le_trans hm hle1
  have r1 := r1.mono hle1
  refine WO_seg 1 [(5, .slice a2 (List.length l1) c2)] (by kernel_rfl) (by kernel_rfl) ?_
  refine WO_end rfl ?_
  refine X_then ?_
  refine W_seq ?_
  refine W_block ?_
  replace hr := bindS hr
  obtain ⟨out1, hr, hrKu1⟩ := hr
  refine W_cut (.exit 0) (fun L' w' => ∃ (o1 : Int × List (UInt8)) (a3 : Option Addr) (c3 : Nat) (m2 : Mem), o1 = out1 ∧ L' = [(1, .int .u64 o1.1), (5, .slice a3 (List.length o1.2) c3)] ∧ m.le m2 ∧ St m2 (.room a3 (List.length o1.2) c3 5 1 :: own) w' ∧ RepS cU8 m2 a3 c3 o1.2) ?_ ?_
  · clear hr st
    rintro _ w2 ⟨o1, a3, c3, m2, rfl, rfl, hm, st, r3⟩
    have hr := hrKu1
    clear hrKu1
    refine X_block_eq ?_
    refine X_then ?_
    refine W_seq ?_
    refine W_region ?_
    refine WO_seg 3 [(19, .slice a3 (List.length o1.2) c3), (21, .int .u8 (IntKind.wrap .u8 o1.1))] (by kernel_rfl) (by kernel_rfl) ?_
    refine WO_one rfl (One_buildSlice (d := 22) (t := 50) (e := 5) (len := 1) (parts := #[(0, (.tmp 21))]) cU8 (xs := [toU8 (IntKind.wrap .u8 o1.1)]) [.int .u8 (IntKind.wrap .u8 o1.1)] (by kernel_rfl) rfl (fun _ => buildCells_run (by kernel_rfl) _) rfl rfl st ⟨[.int .u8 (IntKind.wrap .u8 o1.1)], _, rfl, (rep_u8_wrap _), rfl⟩ ?_)
    clear st
    intro b2 m6 w6 hle4 st r7
    have hm := Mem.le_trans hm hle4
    have r3 := r3.mono hle4
    have st := st.front1
    replace hr := bindS hr
    obtain ⟨l3, hx3, hr⟩ := hr
    refine WO_one rfl (One_append (d := 23) (t := 50) (u := 50) (e := 5) (by_ := 1) (x := (.tmp 19)) (y := (.tmp 22)) cU8 (by kernel_rfl) rfl (show evL _ _ = some (.slice a3 (List.length o1.2) c3) from (by kernel_rfl)) (show evL _ _ = some (.slice (some ⟨b2, 0, none⟩) (List.length ([toU8 (IntKind.wrap .u8 o1.1)])) 1) from (by kernel_rfl)) st (by kernel_rfl) (.inl (by kernel_rfl)) r3 r7.src hx3 ?_)
    clear st
    intro a6 c6 m7 w7 hle5 st r8
    have hm := Mem.le_trans hm hle5
    have r3 := r3.mono hle5
    have r7 := r7.mono hle5
    refine WO_seg 1 [(4, .slice a6 (List.length l3) c6)] (by kernel_rfl) (by kernel_rfl) ?_
    refine WO_end rfl ?_
    have st := st.front1
    have st := st.tail
    refine X_then ?_
    refine W_ret ?_
    obtain rfl := Option.some.inj hr
    refine X_ret [.tmp 4] [.slice a6 (List.length l3) c6] rfl (ResAll.cons (ResAt.tmp (by kernel_rfl)) ResAll.nil) ?_
    exact ⟨a6, c6, m7, rfl, hm, st, r8⟩
  intro K0_u1
  clear hrKu1
  refine W_env _ (by kernel_rfl) (W_loop (fun k1 L' w' => ∃ (s1 : Int × List (UInt8)) (a4 : Option Addr) (c4 : Nat) (m3 : Mem), loopM (testgateref03_PutUint_L1 N) k1 s1 = some out1 ∧ L' = [(1, .int .u64 s1.1), (5, .slice a4 (List.length s1.2) c4)] ∧ m.le m3 ∧ St m3 (.room a4 (List.length s1.2) c4 5 1 :: own) w' ∧ RepS cU8 m3 a4 c4 s1.2) N ⟨(p1, l1), a2, c2, m1, hr, rfl, hm, st, r2⟩ ?_)
  clear st hr
  rintro k1 _ w3 ⟨s1, a4, c4, m3, hL, rfl, hm, st, r4⟩
  rcases k1 with _ | k1
  · exact loopM_zero hL
  · obtain ⟨qu1, hr, hSu1, hBu1⟩ := loopM_succ hL
    clear hL
    unfold testgateref03_PutUint_L1 at hr
    refine W_seq ?_
    refine W_seq ?_
    refine W_region ?_
    refine WO_seg 2 [(9, .bool (decide (s1.1 ≥ 128)))] (by kernel_rfl) (by kernel_rfl) ?_
    refine WO_end rfl ?_
    refine X_then ?_
    refine W_cond (decide (s1.1 ≥ 128)) (by kernel_rfl) ?_ ?_
    · intro hc
      rw [if_pos hc] at hr
      refine W_skip ?_
      refine X_then ?_
      refine W_block ?_
      refine W_seq ?_
      refine W_region ?_
      refine WO_seg 5 [(10, .slice a4 (List.length s1.2) c4), (14, .int .u8 (IntKind.wrap .u8 ((IntKind.wrap .u8 (Int.tmod s1.1 128)) + 128)))] (by kernel_rfl) (by kernel_rfl) ?_
      refine WO_one rfl (One_buildSlice (d := 15) (t := 50) (e := 5) (len := 1) (parts := #[(0, (.tmp 14))]) cU8 (xs := [toU8 (IntKind.wrap .u8 ((IntKind.wrap .u8 (Int.tmod s1.1 128)) + 128))]) [.int .u8 (IntKind.wrap .u8 ((IntKind.wrap .u8 (Int.tmod s1.1 128)) + 128))] (by kernel_rfl) rfl (fun _ => buildCells_run (by kernel_rfl) _) rfl rfl st ⟨[.int .u8 (IntKind.wrap .u8 ((IntKind.wrap .u8 (Int.tmod s1.1 128)) + 128))], _, rfl, (rep_u8_wrap _), rfl⟩ ?_)
      clear st
      intro b1 m4 w4 hle2 st r5
      have hm := Mem.le_trans hm hle2
      have r4 := r4.mono hle2
      have st := st.front1
      replace hr := bindS hr
      obtain ⟨l2, hx2, hr⟩ := hr
      refine WO_one rfl (One_append (d := 16) (t := 50) (u := 50) (e := 5) (by_ := 1) (x := (.tmp 10)) (y := (.tmp 15)) cU8 (by kernel_rfl) rfl (show evL _ _ = some (.slice a4 (List.length s1.2) c4) from (by kernel_rfl)) (show evL _ _ = some (.slice (some ⟨b1, 0, none⟩) (List.length ([toU8 (IntKind.wrap .u8 ((IntKind.wrap .u8 (Int.tmod s1.1 128)) + 128))])) 1) from (by kernel_rfl)) st (by kernel_rfl) (.inl (by kernel_rfl)) r4 r5.src hx2 ?_)
      clear st
      intro a5 c5 m5 w5 hle3 st r6
      have hm := Mem.le_trans hm hle3
      have r4 := r4.mono hle3
      have r5 := r5.mono hle3
      refine WO_seg 1 [(5, .slice a5 (List.length l2) c5)] (by kernel_rfl) (by kernel_rfl) ?_
      refine WO_end rfl ?_
      have st := st.front1
      have st := st.tail
      refine X_then ?_
      refine W_region ?_
      refine WO_seg 3 [(1, .int .u64 (IntKind.wrap .u64 (Int.tdiv s1.1 128)))] (by kernel_rfl) (by kernel_rfl) ?_
      refine WO_end rfl ?_
      refine X_block ?_
      obtain rfl := Option.some.inj hr
      have hL := hSu1 _ rfl
      exact X_env _ (by kernel_rfl) (X_round k1 (Nat.lt_succ_self _) ⟨(IntKind.wrap .u64 (Int.tdiv s1.1 128), l2), a5, c5, m5, hL, rfl, hm, st, r6⟩)
    · intro hc
      rw [if_neg (not_true hc)] at hr
      refine W_exit ?_
      refine X_then_exit ?_
      obtain rfl := Option.some.inj hr
      have ho := hBu1 _ rfl
      refine X_then_exit ?_
      exact X_env _ (by kernel_rfl) (K0_u1 _ _ ⟨(s1.1, s1.2), a4, c4, m3, ho, rfl, hm, st, r4⟩)

def testgateref03_Checksum_L1 (N : Nat) (p0 : List UInt8) (s1 : Int × Int × Int) : Option ((Int × Int × Int) ⊕ ((Int × Int))) :=
  if (decide (s1.2.2 < (List.length p0 : Int))) = true then ((idx p0 s1.2.2).bind fun x1 => some (.inl (Int.tmod (IntKind.wrap .u32 (s1.1 + (IntKind.wrap .u32 (x1.toNat : Int)))) 65521, Int.tmod (IntKind.wrap .u32 (s1.2.1 + (Int.tmod (IntKind.wrap .u32 (s1.1 + (IntKind.wrap .u32 (x1.toNat : Int)))) 65521))) 65521, IntKind.wrap .i64 (s1.2.2 + 1)))) else (some (.inr (s1.1, s1.2.1)))

def testgateref03_Checksum (N : Nat) (p0 : List UInt8) : Option (Int) :=
  (loopM (testgateref03_Checksum_L1 N p0) N (1, 0, 0)).bind fun o1 => some (IntKind.wrap .u32 (o1.1 + (IntKind.wrap .u32 (65536 * o1.2))))

set_option maxHeartbeats 4000000 in
set_option maxRecDepth 100000 in
theorem testgateref03_Checksum_ok {N : Nat} {m : Mem} {own : List Piece} {w : World} {p0 : List UInt8} {a1 : Option Addr} {c1 : Nat} {r : Int} (st : St m (own) w) (r1 : RepS cU8 m a1 c1 p0) (hr : testgateref03_Checksum N p0 = some r) : Calls Go.Proofs.Try.prog 35 #[.slice a1 (List.length p0) c1] w fun e w' => ∃ (m' : Mem), e = .returned (.int .u32 r) ∧ m.le m' ∧ St m' (own) w' := by
  unfold testgateref03_Checksum at hr
  have hm := m.le_refl
  refine W_calls Go.Proofs.Try.func35 rfl Go.Proofs.Try.ntmps35 [(0, .slice a1 (List.length p0) c1)] (by kernel_rfl) rfl ?_
  refine W_seq ?_
  refine W_region ?_
  refine WO_seg 1 [] (by kernel_rfl) (by kernel_rfl) ?_
  refine WO_end rfl ?_
  refine X_then ?_
  refine W_seq ?_
  refine W_region ?_
  refine WO_seg 2 [(3, .int .u32 1), (4, .int .u32 0)] (by kernel_rfl) (by kernel_rfl) ?_
  refine WO_end rfl ?_
  refine X_then ?_
  refine W_seq ?_
  refine W_seq ?_
  refine W_region ?_
  refine WO_seg 1 [(5, .int .i64 0)] (by kernel_rfl) (by kernel_rfl) ?_
  refine WO_end rfl ?_
  refine X_then ?_
  refine W_block ?_
  replace hr := bindS hr
  obtain ⟨out1, hr, hrKu1⟩ := hr
  refine W_cut (.exit 0) (fun L' w' => ∃ (o1 : Int × Int) (m1 : Mem), o1 = out1 ∧ L' = [(3, .int .u32 o1.1), (4, .int .u32 o1.2)] ∧ m.le m1 ∧ St m1 (own) w') ?_ ?_
  · clear hr st
    rintro _ w1 ⟨o1, m1, rfl, rfl, hm, st⟩
    have hr := hrKu1
    clear hrKu1
    refine X_block_eq ?_
    refine X_then ?_
    refine W_seq ?_
    refine W_region ?_
    refine WO_seg 5 [(2, .int .u32 (IntKind.wrap .u32 (o1.1 + (IntKind.wrap .u32 (65536 * o1.2)))))] (by kernel_rfl) (by kernel_rfl) ?_
    refine WO_end rfl ?_
    refine X_then ?_
    refine W_ret ?_
    obtain rfl := Option.some.inj hr
    refine X_ret [.tmp 2] [.int .u32 (IntKind.wrap .u32 (o1.1 + (IntKind.wrap .u32 (65536 * o1.2))))] rfl (ResAll.cons (ResAt.tmp (by kernel_rfl)) ResAll.nil) ?_
    exact ⟨m1, rfl, hm, st⟩
  intro K0_u1
  clear hrKu1
  refine W_env _ (by kernel_rfl) (W_loop (fun k1 L' w' => ∃ (s1 : Int × Int × Int) (m2 : Mem), loopM (testgateref03_Checksum_L1 N p0) k1 s1 = some out1 ∧ L' = [(0, .slice a1 (List.length p0) c1), (3, .int .u32 s1.1), (4, .int .u32 s1.2.1), (5, .int .i64 s1.2.2)] ∧ m.le m2 ∧ St m2 (own) w' ∧ RepS cU8 m2 a1 c1 p0) N ⟨(1, 0, 0), m, hr, rfl, hm, st, r1⟩ ?_)
  clear st hr
  rintro k1 _ w2 ⟨s1, m2, hL, rfl, hm, st, r1⟩
  rcases k1 with _ | k1
  · exact loopM_zero hL
  · obtain ⟨qu1, hr, hSu1, hBu1⟩ := loopM_succ hL
    clear hL
    unfold testgateref03_Checksum_L1 at hr
    refine W_seq ?_
    refine W_seq ?_
    refine W_region ?_
    refine WO_seg 4 [(9, .bool (decide (s1.2.2 < (List.length p0 : Int))))] (by kernel_rfl) (by kernel_rfl) ?_
    refine WO_end rfl ?_
    refine X_then ?_
    refine W_cond (decide (s1.2.2 < (List.length p0 : Int))) (by kernel_rfl) ?_ ?_
    · intro hc
      rw [if_pos hc] at hr
      refine W_skip ?_
      refine X_then ?_
      refine W_seq ?_
      refine W_block ?_
      refine W_seq ?_
      refine W_region ?_
      refine WO_seg 3 [(12, .int .u32 s1.1), (13, .slice a1 (List.length p0) c1), (14, .int .i64 s1.2.2)] (by kernel_rfl) (by kernel_rfl) ?_
      replace hr := bindS hr
      obtain ⟨x1, hx1, hr⟩ := hr
      refine WO_one rfl (One_index (d := 15) (t := 50) (e := 5) (x := (.tmp 13)) (y := (.tmp 14)) cU8 (by kernel_rfl) rfl (show evL _ _ = some (.slice a1 (List.length p0) c1) from (by kernel_rfl)) (show evL _ _ = some (.int .i64 s1.2.2) from (by kernel_rfl)) (by kernel_rfl) r1 hx1 ?_)
      rintro b1 f1 cs1 rfl hq1
      refine WO_one rfl (One_load_row (d := 16) (t := 5) (x := (.tmp 15)) (.int .u8 (x1.toNat : Int)) (by kernel_rfl) rfl (show evL _ _ = some (.pointer (some ⟨b1, f1, none⟩)) from (by kernel_rfl)) st hq1 (by kernel_rfl) ?_)
      refine WO_seg 4 [(3, .int .u32 (Int.tmod (IntKind.wrap .u32 (s1.1 + (IntKind.wrap .u32 (x1.toNat : Int)))) 65521))] (by kernel_rfl) (by kernel_rfl) ?_
      refine WO_end rfl ?_
      refine X_then ?_
      refine W_region ?_
      refine WO_seg 5 [(4, .int .u32 (Int.tmod (IntKind.wrap .u32 (s1.2.1 + (Int.tmod (IntKind.wrap .u32 (s1.1 + (IntKind.wrap .u32 (x1.toNat : Int)))) 65521))) 65521))] (by kernel_rfl) (by kernel_rfl) ?_
      refine WO_end rfl ?_
      refine X_block ?_
      refine X_then ?_
      refine W_region ?_
      refine WO_seg 3 [(5, .int .i64 (IntKind.wrap .i64 (s1.2.2 + 1)))] (by kernel_rfl) (by kernel_rfl) ?_
      refine WO_end rfl ?_
      obtain rfl := Option.some.inj hr
      have hL := hSu1 _ rfl
      exact X_env _ (by kernel_rfl) (X_round k1 (Nat.lt_succ_self _) ⟨(Int.tmod (IntKind.wrap .u32 (s1.1 + (IntKind.wrap .u32 (x1.toNat : Int)))) 65521, Int.tmod (IntKind.wrap .u32 (s1.2.1 + (Int.tmod (IntKind.wrap .u32 (s1.1 + (IntKind.wrap .u32 (x1.toNat : Int)))) 65521))) 65521, IntKind.wrap .i64 (s1.2.2 + 1)), m2, hL, rfl, hm, st, r1⟩)
    · intro hc
      rw [if_neg (not_true hc)] at hr
      refine W_exit ?_
      refine X_then_exit ?_
      obtain rfl := Option.some.inj hr
      have ho := hBu1 _ rfl
      refine X_then_exit ?_
      exact X_env _ (by kernel_rfl) (K0_u1 _ _ ⟨(s1.1, s1.2.1), m2, ho, rfl, hm, st⟩)

def testgateref03_Frame (N : Nat) (p0 : Int × List UInt8) : Option (List UInt8 × Int) :=
  (if (decide (p0.1 < 1)) = true then (some true) else (some (decide (p0.1 > 255))) : Option (Bool)).bind fun o1 => if o1 = true then (some (([] : List (UInt8)), 3)) else (if (decide ((List.length p0.2 : Int) > 2097152)) = true then (some (([] : List (UInt8)), 2)) else ((testgateref03_PutUint N ([(247 : UInt8), toU8 (IntKind.wrap .u8 p0.1)]) (IntKind.wrap .u64 (List.length p0.2 : Int))).bind fun y1 => (appendS 1 y1 p0.2).bind fun l1 => (subS l1 1 (List.length l1 : Int)).bind fun l2 => (testgateref03_Checksum N l2).bind fun y2 => (appendS 1 l1 ([toU8 (IntKind.wrap .u8 y2), toU8 (IntKind.wrap .u8 (Int.fdiv y2 (2 ^ 8))), toU8 (IntKind.wrap .u8 (Int.fdiv y2 (2 ^ 16))), toU8 (IntKind.wrap .u8 (Int.fdiv y2 (2 ^ 24)))])).bind fun l3 => some (l3, 0)))

set_option maxHeartbeats 4000000 in
set_option maxRecDepth 100000 in
theorem testgateref03_Frame_ok {N : Nat} {m : Mem} {own : List Piece} {w : World} {p0 : Int × List UInt8} {a1 : Option Addr} {c1 : Nat} {r : List UInt8 × Int} (st : St m (own) w) (r1 : RepS cU8 m a1 c1 p0.2) (hr : testgateref03_Frame N p0 = some r) : Calls Go.Proofs.Try.prog 32 #[.agg #[.int .i64 p0.1, .slice a1 (List.length p0.2) c1]] w fun e w' => ∃ (ra1 : Option Addr) (rc1 : Nat) (m' : Mem), e = .returned (.tuple #[.slice ra1 (List.length r.1) rc1, .int .i64 r.2]) ∧ m.le m' ∧ St m' (.room ra1 (List.length r.1) rc1 5 1 :: own) w' ∧ RepS cU8 m' ra1 rc1 r.1 := by
  unfold testgateref03_Frame at hr
  have hm := m.le_refl
  refine W_calls Go.Proofs.Try.func32 rfl Go.Proofs.Try.ntmps32 [(0, .agg #[.int .i64 p0.1, .slice a1 (List.length p0.2) c1])] (by kernel_rfl) rfl ?_
  refine W_seq ?_
  refine W_region ?_
  refine WO_one rfl (One_box (d := 1) (e := 54) (x := (.tmp 0)) (.agg #[.int .i64 p0.1, .slice a1 (List.length p0.2) c1]) (by kernel_rfl) rfl (by kernel_rfl) st ?_)
  clear st
  intro b1 m1 w1 hle1 st hb1
  have hm := Mem.le_trans hm hle1
  have r1 := r1.mono hle1
  refine WO_seg 2 [] (by kernel_rfl) (by kernel_rfl) ?_
  refine WO_end rfl ?_
  refine X_then ?_
  refine W_seq ?_
  refine W_seq ?_
  refine W_region ?_
  replace hr := bindS hr
  obtain ⟨o1, hr, hrK⟩ := hr
  refine WO_cut (j := 8) (fun L' w' => ∃ (m2 : Mem), L' = [(1, .pointer (some ⟨b1, 0, none⟩)), (13, .bool o1)] ∧ m.le m2 ∧ St m2 (own) w' ∧ MRow m2 b1 0 [.int .i64 p0.1, .slice a1 (List.length p0.2) c1] ∧ RepS cU8 m2 a1 c1 p0.2) ?_ ?_
  · clear hr st
    have hr := hrK
    clear hrK
    rintro _ w2 ⟨m2, rfl, hm, st, hb1, r1⟩
    refine WO_end rfl ?_
    refine X_then ?_
    refine W_cond o1 (by kernel_rfl) ?_ ?_
    · intro hc
      rw [if_pos hc] at hr
      refine W_seq ?_
      refine W_region ?_
      refine WO_seg 2 [(2, .slice none (List.length ([] : List (UInt8))) 0), (3, .int .i64 3)] (by kernel_rfl) (by kernel_rfl) ?_
      refine WO_end rfl ?_
      refine X_then ?_
      refine W_ret ?_
      refine X_then_ret ?_
      obtain rfl := Option.some.inj hr
      refine X_ret [.tmp 2, .tmp 3] [.slice none (List.length ([] : List (UInt8))) 0, .int .i64 3] rfl (ResAll.cons (ResAt.tmp (by kernel_rfl)) (ResAll.cons (ResAt.tmp (by kernel_rfl)) ResAll.nil)) ?_
      have st := st.nilroom 5 1
      exact ⟨none, 0, m2, rfl, hm, st, (RepS.nil _ _)⟩
    · intro hc
      rw [if_neg (not_true hc)] at hr
      refine W_skip ?_
      refine X_then ?_
      refine W_seq ?_
      refine W_seq ?_
      refine W_region ?_
      refine WO_seg 1 [(14, .pointer (some ⟨b1, 1, none⟩))] (by kernel_rfl) (by kernel_rfl) ?_
      refine WO_one rfl (One_load_row (d := 15) (t := 50) (x := (.tmp 14)) (.slice a1 (List.length p0.2) c1) (by kernel_rfl) rfl (show evL _ _ = some (.pointer (some ⟨b1, 1, none⟩)) from (by kernel_rfl)) st (hb1.drop 1) (by kernel_rfl) ?_)
      refine WO_seg 2 [(17, .bool (decide ((List.length p0.2 : Int) > 2097152)))] (by kernel_rfl) (by kernel_rfl) ?_
      refine WO_end rfl ?_
      refine X_then ?_
      refine W_cond (decide ((List.length p0.2 : Int) > 2097152)) (by kernel_rfl) ?_ ?_
      · intro hc
        rw [if_pos hc] at hr
        refine W_seq ?_
        refine W_region ?_
        refine WO_seg 2 [(2, .slice none (List.length ([] : List (UInt8))) 0), (3, .int .i64 2)] (by kernel_rfl) (by kernel_rfl) ?_
        refine WO_end rfl ?_
        refine X_then ?_
        refine W_ret ?_
        refine X_then_ret ?_
        obtain rfl := Option.some.inj hr
        refine X_ret [.tmp 2, .tmp 3] [.slice none (List.length ([] : List (UInt8))) 0, .int .i64 2] rfl (ResAll.cons (ResAt.tmp (by kernel_rfl)) (ResAll.cons (ResAt.tmp (by kernel_rfl)) ResAll.nil)) ?_
        have st := st.nilroom 5 1
        exact ⟨none, 0, m2, rfl, hm, st, (RepS.nil _ _)⟩
      · intro hc
        rw [if_neg (not_true hc)] at hr
        refine W_skip ?_
        refine X_then ?_
        refine W_seq ?_
        refine W_draw [(13, fun w' => Inv m2 w' ∧ True)] (by kernel_rfl) st ?_
        clear st
        intro w3 _ st
        have hmS := m2.le_refl
        refine ⟨⟨.inr ⟨Inv.anti st.inv hmS, trivial⟩, trivial⟩, ?_⟩
        refine WA_pure 0 18 (.pointer (some ⟨b1, 0, none⟩)) (by kernel_rfl) rfl (by kernel_rfl) (.head _) (QP_then QP_body) ?_
        refine WA_load_row (t := 3) (x := (.tmp 18)) 1 19 (.int .i64 p0.1) (by kernel_rfl) rfl (by kernel_rfl) (.head _) (QP_then QP_body) (fun _ h => h.1) (show evL _ _ = some (.pointer (some ⟨b1, 0, none⟩)) from (by kernel_rfl)) hb1 (by kernel_rfl) ?_
        refine WA_pure 2 20 (.int .u8 (IntKind.wrap .u8 p0.1)) (by kernel_rfl) rfl (by kernel_rfl) (.head _) (QP_then QP_body) ?_
        refine WA_pure 4 22 (.pointer (some ⟨b1, 1, none⟩)) (by kernel_rfl) rfl (by kernel_rfl) (.head _) (QP_then QP_body) ?_
        refine WA_load_row (t := 50) (x := (.tmp 22)) 5 23 (.slice a1 (List.length p0.2) c1) (by kernel_rfl) rfl (by kernel_rfl) (.head _) (QP_then QP_body) (fun _ h => h.1) (show evL _ _ = some (.pointer (some ⟨b1, 1, none⟩)) from (by kernel_rfl)) (hb1.drop 1) (by kernel_rfl) ?_
        refine WA_pure 6 24 (.int .i64 (List.length p0.2 : Int)) (by kernel_rfl) rfl (by kernel_rfl) (.head _) (QP_then QP_body) ?_
        refine WA_pure 7 25 (.int .u64 (IntKind.wrap .u64 (List.length p0.2 : Int))) (by kernel_rfl) rfl (by kernel_rfl) (.head _) (QP_then QP_body) ?_
        refine WA_pure 9 27 (.pointer (some ⟨b1, 1, none⟩)) (by kernel_rfl) rfl (by kernel_rfl) (.head _) (QP_then QP_body) ?_
        refine WA_load_row (t := 50) (x := (.tmp 27)) 10 28 (.slice a1 (List.length p0.2) c1) (by kernel_rfl) rfl (by kernel_rfl) (.head _) (QP_then QP_body) (fun _ h => h.1) (show evL _ _ = some (.pointer (some ⟨b1, 1, none⟩)) from (by kernel_rfl)) (hb1.drop 1) (by kernel_rfl) ?_
        refine WA_one 3 (by kernel_rfl) (One_buildSlice (d := 21) (t := 50) (e := 5) (len := 2) (parts := #[(0, (.const (.int .u8 247))), (1, (.tmp 20))]) cU8 (xs := [(247 : UInt8), toU8 (IntKind.wrap .u8 p0.1)]) [.int .u8 247, .int .u8 (IntKind.wrap .u8 p0.1)] (by kernel_rfl) rfl (fun _ => buildCells_run (by kernel_rfl) _) rfl rfl st ⟨[.int .u8 247], _, rfl, rfl, ⟨[.int .u8 (IntKind.wrap .u8 p0.1)], _, rfl, (rep_u8_wrap _), rfl⟩⟩ ?_)
        clear st
        intro b2 m3 w4 hle2 st r2
        have hm := Mem.le_trans hm hle2
        have hb1 := hb1.mono hle2
        have r1 := r1.mono hle2
        have hmS := Mem.le_trans hmS hle2
        refine ⟨⟨.inr ⟨Inv.anti st.inv hmS, trivial⟩, trivial⟩, ?_⟩
        replace hr := bindS hr
        obtain ⟨y1, hx1, hr⟩ := hr
        refine WA_one 8 (by kernel_rfl) (One_fn 26 48 #[.slice (some ⟨b2, 0, none⟩) (List.length ([(247 : UInt8), toU8 (IntKind.wrap .u8 p0.1)])) 2, .int .u64 (IntKind.wrap .u64 (List.length p0.2 : Int))] (by kernel_rfl) rfl ?_)
        refine (testgateref03_PutUint_ok st r2 hx1).mono ?_
        clear st
        rintro _ w5 ⟨a2, c2, m4, rfl, hle3, st, r3⟩
        refine ⟨_, rfl, ?_⟩
        have hm := Mem.le_trans hm hle3
        have hb1 := hb1.mono hle3
        have r1 := r1.mono hle3
        have r2 := r2.mono hle3
        have hmS := Mem.le_trans hmS hle3
        refine ⟨⟨.inr ⟨Inv.anti st.inv hmS, trivial⟩, trivial⟩, ?_⟩
        replace hr := bindS hr
        obtain ⟨l1, hx2, hr⟩ := hr
        refine WA_one 11 (by kernel_rfl) (One_append (d := 29) (t := 50) (u := 50) (e := 5) (by_ := 1) (x := (.tmp 26)) (y := (.tmp 28)) cU8 (by kernel_rfl) rfl (show evL _ _ = some (.slice a2 (List.length y1) c2) from (by kernel_rfl)) (show evL _ _ = some (.slice a1 (List.length p0.2) c1) from (by kernel_rfl)) st (by kernel_rfl) (.inl (by kernel_rfl)) r3 r1.src hx2 ?_)
        clear st
        intro a3 c3 m5 w6 hle4 st r4
        have hm := Mem.le_trans hm hle4
        have hb1 := hb1.mono hle4
        have r1 := r1.mono hle4
        have r2 := r2.mono hle4
        have r3 := r3.mono hle4
        have hmS := Mem.le_trans hmS hle4
        refine ⟨⟨.inr ⟨Inv.anti st.inv hmS, trivial⟩, trivial⟩, ?_⟩
        refine WA_pure 12 4 (.slice a3 (List.length l1) c3) (by kernel_rfl) rfl (by kernel_rfl) (.head _) (QP_then QP_body) ?_
        refine WA_done (by kernel_rfl) ?_
        have st := st.front1
        have st := st.tail
        refine X_then ?_
        refine W_seq ?_
        refine W_region ?_
        refine WO_seg 1 [(30, .slice a3 (List.length l1) c3)] (by kernel_rfl) (by kernel_rfl) ?_
        replace hr := bindS hr
        obtain ⟨l2, hx3, hr⟩ := hr
        refine WO_one rfl (One_slice (d := 31) (t := 50) (e := 5) (x := (.tmp 30)) (lo := (some (.const (.int .i64 1)))) (hi := none) cU8 (by kernel_rfl) rfl (show evL _ _ = some (.slice a3 (List.length l1) c3) from (by kernel_rfl)) (by kernel_rfl) r4 (.inr ⟨_, _, rfl, (show evL _ _ = some (.int .i64 1) from (by kernel_rfl))⟩) (.inl ⟨rfl, rfl⟩) hx3 ?_)
        intro a4 c4 r5
        replace hr := bindS hr
        obtain ⟨y2, hx4, hr⟩ := hr
        refine WO_one rfl (One_fn 32 35 #[.slice a4 (List.length l2) c4] (by kernel_rfl) rfl ?_)
        refine (testgateref03_Checksum_ok st r5 hx4).mono ?_
        clear st
        rintro _ w7 ⟨m6, rfl, hle5, st⟩
        refine ⟨_, rfl, ?_⟩
        have hm := Mem.le_trans hm hle5
        have r4 := r4.mono hle5
        have r5 := r5.mono hle5
        refine WO_seg 1 [(5, .int .u32 y2)] (by kernel_rfl) (by kernel_rfl) ?_
        refine WO_end rfl ?_
        refine X_then ?_
        refine W_seq ?_
        refine W_region ?_
        refine WO_seg 12 [(33, .slice a3 (List.length l1) c3), (35, .int .u8 (IntKind.wrap .u8 y2)), (38, .int .u8 (IntKind.wrap .u8 (Int.fdiv y2 (2 ^ 8)))), (41, .int .u8 (IntKind.wrap .u8 (Int.fdiv y2 (2 ^ 16)))), (44, .int .u8 (IntKind.wrap .u8 (Int.fdiv y2 (2 ^ 24))))] (by kernel_rfl) (by kernel_rfl) ?_
        refine WO_one rfl (One_buildSlice (d := 45) (t := 50) (e := 5) (len := 4) (parts := #[(0, (.tmp 35)), (1, (.tmp 38)), (2, (.tmp 41)), (3, (.tmp 44))]) cU8 (xs := [toU8 (IntKind.wrap .u8 y2), toU8 (IntKind.wrap .u8 (Int.fdiv y2 (2 ^ 8))), toU8 (IntKind.wrap .u8 (Int.fdiv y2 (2 ^ 16))), toU8 (IntKind.wrap .u8 (Int.fdiv y2 (2 ^ 24)))]) [.int .u8 (IntKind.wrap .u8 y2), .int .u8 (IntKind.wrap .u8 (Int.fdiv y2 (2 ^ 8))), .int .u8 (IntKind.wrap .u8 (Int.fdiv y2 (2 ^ 16))), .int .u8 (IntKind.wrap .u8 (Int.fdiv y2 (2 ^ 24)))] (by kernel_rfl) rfl (fun _ => buildCells_run (by kernel_rfl) _) rfl rfl st ⟨[.int .u8 (IntKind.wrap .u8 y2)], _, rfl, (rep_u8_wrap _), ⟨[.int .u8 (IntKind.wrap .u8 (Int.fdiv y2 (2 ^ 8)))], _, rfl, (rep_u8_wrap _), ⟨[.int .u8 (IntKind.wrap .u8 (Int.fdiv y2 (2 ^ 16)))], _, rfl, (rep_u8_wrap _), ⟨[.int .u8 (IntKind.wrap .u8 (Int.fdiv y2 (2 ^ 24)))], _, rfl, (rep_u8_wrap _), rfl⟩⟩⟩⟩ ?_)
        clear st
        intro b3 m7 w8 hle6 st r6
        have hm := Mem.le_trans hm hle6
        have r4 := r4.mono hle6
        have st := st.front1
        replace hr := bindS hr
        obtain ⟨l3, hx5, hr⟩ := hr
        refine WO_one rfl (One_append (d := 46) (t := 50) (u := 50) (e := 5) (by_ := 1) (x := (.tmp 33)) (y := (.tmp 45)) cU8 (by kernel_rfl) rfl (show evL _ _ = some (.slice a3 (List.length l1) c3) from (by kernel_rfl)) (show evL _ _ = some (.slice (some ⟨b3, 0, none⟩) (List.length ([toU8 (IntKind.wrap .u8 y2), toU8 (IntKind.wrap .u8 (Int.fdiv y2 (2 ^ 8))), toU8 (IntKind.wrap .u8 (Int.fdiv y2 (2 ^ 16))), toU8 (IntKind.wrap .u8 (Int.fdiv y2 (2 ^ 24)))])) 4) from (by kernel_rfl)) st (by kernel_rfl) (.inl (by kernel_rfl)) r4 r6.src hx5 ?_)
        clear st
        intro a5 c5 m8 w9 hle7 st r7
        have hm := Mem.le_trans hm hle7
        have r4 := r4.mono hle7
        have r6 := r6.mono hle7
        refine WO_seg 2 [(2, .slice a5 (List.length l3) c5), (3, .int .i64 0)] (by kernel_rfl) (by kernel_rfl) ?_
        refine WO_end rfl ?_
        have st := st.front1
        have st := st.tail
        refine X_then ?_
        refine W_ret ?_
        obtain rfl := Option.some.inj hr
        refine X_ret [.tmp 2, .tmp 3] [.slice a5 (List.length l3) c5, .int .i64 0] rfl (ResAll.cons (ResAt.tmp (by kernel_rfl)) (ResAll.cons (ResAt.tmp (by kernel_rfl)) ResAll.nil)) ?_
        exact ⟨a5, c5, m8, rfl, hm, st, r7⟩
  · intro K
    clear hrK
    refine WO_seg 1 [(6, .pointer (some ⟨b1, 0, none⟩))] (by kernel_rfl) (by kernel_rfl) ?_
    refine WO_one rfl (One_load_row (d := 7) (t := 3) (x := (.tmp 6)) (.int .i64 p0.1) (by kernel_rfl) rfl (show evL _ _ = some (.pointer (some ⟨b1, 0, none⟩)) from (by kernel_rfl)) st hb1 (by kernel_rfl) ?_)
    refine WO_seg 2 [(9, .bool (decide (p0.1 < 1)))] (by kernel_rfl) (by kernel_rfl) ?_
    rcases bcases (decide (p0.1 < 1)) with hc | hc
    · rw [if_pos hc] at hr
      refine WO_fact (t := 9) (b := true) (decide (p0.1 < 1)) (by kernel_rfl) hc ?_
      refine WO_seg 4 [(13, .bool true)] (by kernel_rfl) (by kernel_rfl) ?_
      obtain rfl := Option.some.inj hr
      exact WO_env _ (by kernel_rfl) (K _ _ ⟨m1, rfl, hm, st, hb1, r1⟩)
    · rw [if_neg (not_true hc)] at hr
      refine WO_fact (t := 9) (b := false) (decide (p0.1 < 1)) (by kernel_rfl) hc ?_
      refine WO_seg 1 [(10, .pointer (some ⟨b1, 0, none⟩))] (by kernel_rfl) (by kernel_rfl) ?_
      refine WO_one rfl (One_load_row (d := 11) (t := 3) (x := (.tmp 10)) (.int .i64 p0.1) (by kernel_rfl) rfl (show evL _ _ = some (.pointer (some ⟨b1, 0, none⟩)) from (by kernel_rfl)) st hb1 (by kernel_rfl) ?_)
      refine WO_seg 2 [(13, .bool (decide (p0.1 > 255)))] (by kernel_rfl) (by kernel_rfl) ?_
      obtain rfl := Option.some.inj hr
      exact WO_env _ (by kernel_rfl) (K _ _ ⟨m1, rfl, hm, st, hb1, r1⟩)

end Go.Proofs.Ytgkjigejejofkaa
