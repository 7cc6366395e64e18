/- MADE BY gen.py: plain functions and the proofs that the Go functions compute them. No condition but those of each theorem. -/
import Derived.Test.YtgkjigejejofkaaProg
import Derived.Test.YtgkjigejejofkaaMap
import Derived.Test.YtgkjigejejofkaaTConq4A
namespace Go.Proofs.Ytgkjigejejofkaa
open Go Go.Dc

def testgateref03_Next (N : Nat) (p0 : List UInt8) (p1 : Int) : Option ((Int × List UInt8) × Int × Int) :=
  (if (decide (p1 < 0)) = true then (some true) else (some (decide (p1 > (List.length p0 : Int)))) : Option (Bool)).bind fun o1 => if o1 = true then (some ((0, ([] : List (UInt8))), 0, 3)) else (if (p1 == (List.length p0 : Int)) = true then (some ((0, ([] : List (UInt8))), 0, 7)) else ((idx p0 p1).bind fun x1 => if ((x1.toNat : Int) != 247) = true then (some ((0, ([] : List (UInt8))), 0, 6)) else (if ((IntKind.wrap .i64 (p1 + 1)) == (List.length p0 : Int)) = true then (some ((0, ([] : List (UInt8))), 0, 7)) else ((idx p0 (IntKind.wrap .i64 (p1 + 1))).bind fun x2 => if ((x2.toNat : Int) == 0) = true then (some ((0, ([] : List (UInt8))), 0, 6)) else ((testgateref03_Uint N p0 (IntKind.wrap .i64 (p1 + 2))).bind fun y1 => if (y1.2.2 != 0) = true then (some ((0, ([] : List (UInt8))), 0, y1.2.2)) else (if (decide (y1.1 > 2097152)) = true then (some ((0, ([] : List (UInt8))), 0, 2)) else (if (decide ((IntKind.wrap .i64 ((IntKind.wrap .i64 y1.1) + 4)) > (IntKind.wrap .i64 ((List.length p0 : Int) - y1.2.1)))) = true then (some ((0, ([] : List (UInt8))), 0, 7)) else ((subS p0 (IntKind.wrap .i64 (p1 + 1)) (IntKind.wrap .i64 (y1.2.1 + (IntKind.wrap .i64 y1.1)))).bind fun l1 => (testgateref03_Checksum N l1).bind fun y2 => ((idx p0 (IntKind.wrap .i64 (y1.2.1 + (IntKind.wrap .i64 y1.1)))).bind fun x3 => if ((x3.toNat : Int) != (IntKind.wrap .u8 y2)) = true then (some true) else ((idx p0 (IntKind.wrap .i64 ((IntKind.wrap .i64 (y1.2.1 + (IntKind.wrap .i64 y1.1))) + 1))).bind fun x4 => if ((x4.toNat : Int) != (IntKind.wrap .u8 (Int.fdiv y2 (2 ^ 8)))) = true then (some true) else ((idx p0 (IntKind.wrap .i64 ((IntKind.wrap .i64 (y1.2.1 + (IntKind.wrap .i64 y1.1))) + 2))).bind fun x5 => if ((x5.toNat : Int) != (IntKind.wrap .u8 (Int.fdiv y2 (2 ^ 16)))) = true then (some true) else ((idx p0 (IntKind.wrap .i64 ((IntKind.wrap .i64 (y1.2.1 + (IntKind.wrap .i64 y1.1))) + 3))).bind fun x6 => some ((x6.toNat : Int) != (IntKind.wrap .u8 (Int.fdiv y2 (2 ^ 24))))))) : Option (Bool)).bind fun o2 => if o2 = true then (some ((0, ([] : List (UInt8))), 0, 8)) else ((idx p0 (IntKind.wrap .i64 (p1 + 1))).bind fun x7 => (subS p0 y1.2.1 (IntKind.wrap .i64 (y1.2.1 + (IntKind.wrap .i64 y1.1)))).bind fun l2 => (appendS 1 ([] : List (UInt8)) l2).bind fun l3 => some ((IntKind.wrap .i64 (x7.toNat : Int), l3), IntKind.wrap .i64 ((IntKind.wrap .i64 (y1.2.1 + (IntKind.wrap .i64 y1.1))) + 4), 0))))))))))

set_option maxHeartbeats 4000000 in
set_option maxRecDepth 100000 in
theorem testgateref03_Next_ok {N : Nat} {m : Mem} {own : List Piece} {w : World} {p0 : List UInt8} {p1 : Int} {a1 : Option Addr} {c1 : Nat} {r : (Int × List UInt8) × Int × Int} (st : St m (own) w) (r1 : RepS cU8 m a1 c1 p0) (hr : testgateref03_Next N p0 p1 = some r) : Calls Go.Proofs.Try.prog 37 #[.slice a1 (List.length p0) c1, .int .i64 p1] w fun e w' => ∃ (ra1 : Option Addr) (rc1 : Nat) (m' : Mem), e = .returned (.tuple #[.agg #[.int .i64 r.1.1, .slice ra1 (List.length r.1.2) rc1], .int .i64 r.2.1, .int .i64 r.2.2]) ∧ m.le m' ∧ St m' (.room ra1 (List.length r.1.2) rc1 5 1 :: own) w' ∧ RepS cU8 m' ra1 rc1 r.1.2 := by
  unfold testgateref03_Next at hr
  have hm := m.le_refl
  refine W_calls Go.Proofs.Try.func37 rfl Go.Proofs.Try.ntmps37 [(0, .slice a1 (List.length p0) c1), (1, .int .i64 p1)] (by kernel_rfl) rfl ?_
  refine W_seq ?_
  refine W_region ?_
  refine WO_one rfl (One_alloc (d := 4) (e := 54) (.agg #[.int .i64 0, .slice none 0 0]) (by kernel_rfl) rfl (by kernel_rfl) st ?_)
  clear st
  intro b1 w1 st
  refine WO_seg 2 [] (by kernel_rfl) (by kernel_rfl) ?_
  refine WO_end rfl ?_
  refine X_then ?_
  refine W_seq ?_
  refine W_seq ?_
  refine W_region ?_
  replace hr := bindS hr
  obtain ⟨o1, hr, hrK⟩ := hr
  refine WO_cut (j := 8) (fun L' w' => ∃ (m1 : Mem), L' = [(0, .slice a1 (List.length p0) c1), (1, .int .i64 p1), (4, .pointer (some ⟨b1, 0, none⟩)), (18, .bool o1)] ∧ m.le m1 ∧ St m1 (.blk b1 (.cells #[.int .i64 0, .slice none (List.length ([] : List (UInt8))) 0] 54 (0, 0)) :: own) w' ∧ RepS cU8 m1 a1 c1 p0) ?_ ?_
  · clear hr st
    have hr := hrK
    clear hrK
    rintro _ w2 ⟨m1, rfl, hm, st, r1⟩
    refine WO_end rfl ?_
    refine X_then ?_
    refine W_cond o1 (by kernel_rfl) ?_ ?_
    · intro hc
      rw [if_pos hc] at hr
      refine W_seq ?_
      refine W_region ?_
      refine WO_one rfl (One_load_own (d := 19) (t := 54) (x := (.tmp 4)) (.agg #[.int .i64 0, .slice none (List.length ([] : List (UInt8))) 0]) (by kernel_rfl) rfl (show evL _ _ = some (.pointer (some ⟨b1, 0, none⟩)) from (by kernel_rfl)) st.head (by kernel_rfl) ?_)
      refine WO_one rfl (One_store (t := 54) (x := (.tmp 4)) (y := (.tmp 19)) (v := .agg #[.int .i64 0, .slice none (List.length ([] : List (UInt8))) 0]) (c' := #[.int .i64 0, .slice none (List.length ([] : List (UInt8))) 0]) (by kernel_rfl) (show evL _ _ = some (.pointer (some ⟨b1, 0, none⟩)) from (by kernel_rfl)) (show evL _ _ = some (.agg #[.int .i64 0, .slice none (List.length ([] : List (UInt8))) 0]) from (by kernel_rfl)) st (by kernel_rfl) (by kernel_rfl) ?_)
      clear st
      intro w3 st
      refine WO_seg 2 [(5, .int .i64 0), (6, .int .i64 3)] (by kernel_rfl) (by kernel_rfl) ?_
      refine WO_end rfl ?_
      refine X_then ?_
      refine W_ret ?_
      refine X_then_ret ?_
      obtain rfl := Option.some.inj hr
      refine X_ret [.cell 4 54, .tmp 5, .tmp 6] [.agg #[.int .i64 0, .slice none (List.length ([] : List (UInt8))) 0], .int .i64 0, .int .i64 3] rfl (ResAll.cons (ResAt.blk (v := .agg #[.int .i64 0, .slice none (List.length ([] : List (UInt8))) 0]) (o := 0) (by kernel_rfl) st.head (by kernel_rfl)) (ResAll.cons (ResAt.tmp (by kernel_rfl)) (ResAll.cons (ResAt.tmp (by kernel_rfl)) ResAll.nil))) ?_
      have st := st.nilroom 5 1
      have st := st.front1
      have st := st.tail
      exact ⟨none, 0, m1, rfl, hm, st, (RepS.nil _ _)⟩
    · intro hc
      rw [if_neg (not_true hc)] at hr
      refine W_skip ?_
      refine X_then ?_
      refine W_seq ?_
      refine W_seq ?_
      refine W_region ?_
      refine WO_seg 4 [(23, .bool (p1 == (List.length p0 : Int)))] (by kernel_rfl) (by kernel_rfl) ?_
      refine WO_end rfl ?_
      refine X_then ?_
      refine W_cond (p1 == (List.length p0 : Int)) (by kernel_rfl) ?_ ?_
      · intro hc
        rw [if_pos hc] at hr
        refine W_seq ?_
        refine W_region ?_
        refine WO_one rfl (One_load_own (d := 24) (t := 54) (x := (.tmp 4)) (.agg #[.int .i64 0, .slice none (List.length ([] : List (UInt8))) 0]) (by kernel_rfl) rfl (show evL _ _ = some (.pointer (some ⟨b1, 0, none⟩)) from (by kernel_rfl)) st.head (by kernel_rfl) ?_)
        refine WO_one rfl (One_store (t := 54) (x := (.tmp 4)) (y := (.tmp 24)) (v := .agg #[.int .i64 0, .slice none (List.length ([] : List (UInt8))) 0]) (c' := #[.int .i64 0, .slice none (List.length ([] : List (UInt8))) 0]) (by kernel_rfl) (show evL _ _ = some (.pointer (some ⟨b1, 0, none⟩)) from (by kernel_rfl)) (show evL _ _ = some (.agg #[.int .i64 0, .slice none (List.length ([] : List (UInt8))) 0]) from (by kernel_rfl)) st (by kernel_rfl) (by kernel_rfl) ?_)
        clear st
        intro w4 st
        refine WO_seg 2 [(5, .int .i64 0), (6, .int .i64 7)] (by kernel_rfl) (by kernel_rfl) ?_
        refine WO_end rfl ?_
        refine X_then ?_
        refine W_ret ?_
        refine X_then_ret ?_
        obtain rfl := Option.some.inj hr
        refine X_ret [.cell 4 54, .tmp 5, .tmp 6] [.agg #[.int .i64 0, .slice none (List.length ([] : List (UInt8))) 0], .int .i64 0, .int .i64 7] rfl (ResAll.cons (ResAt.blk (v := .agg #[.int .i64 0, .slice none (List.length ([] : List (UInt8))) 0]) (o := 0) (by kernel_rfl) st.head (by kernel_rfl)) (ResAll.cons (ResAt.tmp (by kernel_rfl)) (ResAll.cons (ResAt.tmp (by kernel_rfl)) ResAll.nil))) ?_
        have st := st.nilroom 5 1
        have st := st.front1
        have st := st.tail
        exact ⟨none, 0, m1, rfl, hm, st, (RepS.nil _ _)⟩
      · intro hc
        rw [if_neg (not_true hc)] at hr
        refine W_skip ?_
        refine X_then ?_
        refine W_seq ?_
        refine W_seq ?_
        refine W_region ?_
        refine WO_seg 2 [(25, .slice a1 (List.length p0) c1), (26, .int .i64 p1)] (by kernel_rfl) (by kernel_rfl) ?_
        replace hr := bindS hr
        obtain ⟨x1, hx1, hr⟩ := hr
        refine WO_one rfl (One_index (d := 27) (t := 50) (e := 5) (x := (.tmp 25)) (y := (.tmp 26)) cU8 (by kernel_rfl) rfl (show evL _ _ = some (.slice a1 (List.length p0) c1) from (by kernel_rfl)) (show evL _ _ = some (.int .i64 p1) from (by kernel_rfl)) (by kernel_rfl) r1 hx1 ?_)
        rintro b2 f1 cs1 rfl hq1
        refine WO_one rfl (One_load_row (d := 28) (t := 5) (x := (.tmp 27)) (.int .u8 (x1.toNat : Int)) (by kernel_rfl) rfl (show evL _ _ = some (.pointer (some ⟨b2, f1, none⟩)) from (by kernel_rfl)) st hq1 (by kernel_rfl) ?_)
        refine WO_seg 1 [(29, .bool ((x1.toNat : Int) != 247))] (by kernel_rfl) (by kernel_rfl) ?_
        refine WO_end rfl ?_
        refine X_then ?_
        refine W_cond ((x1.toNat : Int) != 247) (by kernel_rfl) ?_ ?_
        · intro hc
          rw [if_pos hc] at hr
          refine W_seq ?_
          refine W_region ?_
          refine WO_one rfl (One_load_own (d := 30) (t := 54) (x := (.tmp 4)) (.agg #[.int .i64 0, .slice none (List.length ([] : List (UInt8))) 0]) (by kernel_rfl) rfl (show evL _ _ = some (.pointer (some ⟨b1, 0, none⟩)) from (by kernel_rfl)) st.head (by kernel_rfl) ?_)
          refine WO_one rfl (One_store (t := 54) (x := (.tmp 4)) (y := (.tmp 30)) (v := .agg #[.int .i64 0, .slice none (List.length ([] : List (UInt8))) 0]) (c' := #[.int .i64 0, .slice none (List.length ([] : List (UInt8))) 0]) (by kernel_rfl) (show evL _ _ = some (.pointer (some ⟨b1, 0, none⟩)) from (by kernel_rfl)) (show evL _ _ = some (.agg #[.int .i64 0, .slice none (List.length ([] : List (UInt8))) 0]) from (by kernel_rfl)) st (by kernel_rfl) (by kernel_rfl) ?_)
          clear st
          intro w5 st
          refine WO_seg 2 [(5, .int .i64 0), (6, .int .i64 6)] (by kernel_rfl) (by kernel_rfl) ?_
          refine WO_end rfl ?_
          refine X_then ?_
          refine W_ret ?_
          refine X_then_ret ?_
          obtain rfl := Option.some.inj hr
          refine X_ret [.cell 4 54, .tmp 5, .tmp 6] [.agg #[.int .i64 0, .slice none (List.length ([] : List (UInt8))) 0], .int .i64 0, .int .i64 6] rfl (ResAll.cons (ResAt.blk (v := .agg #[.int .i64 0, .slice none (List.length ([] : List (UInt8))) 0]) (o := 0) (by kernel_rfl) st.head (by kernel_rfl)) (ResAll.cons (ResAt.tmp (by kernel_rfl)) (ResAll.cons (ResAt.tmp (by kernel_rfl)) ResAll.nil))) ?_
          have st := st.nilroom 5 1
          have st := st.front1
          have st := st.tail
          exact ⟨none, 0, m1, rfl, hm, st, (RepS.nil _ _)⟩
        · intro hc
          rw [if_neg (not_true hc)] at hr
          refine W_skip ?_
          refine X_then ?_
          refine W_seq ?_
          refine W_seq ?_
          refine W_region ?_
          refine WO_seg 5 [(35, .bool ((IntKind.wrap .i64 (p1 + 1)) == (List.length p0 : Int)))] (by kernel_rfl) (by kernel_rfl) ?_
          refine WO_end rfl ?_
          refine X_then ?_
          refine W_cond ((IntKind.wrap .i64 (p1 + 1)) == (List.length p0 : Int)) (by kernel_rfl) ?_ ?_
          · intro hc
            rw [if_pos hc] at hr
            refine W_seq ?_
            refine W_region ?_
            refine WO_one rfl (One_load_own (d := 36) (t := 54) (x := (.tmp 4)) (.agg #[.int .i64 0, .slice none (List.length ([] : List (UInt8))) 0]) (by kernel_rfl) rfl (show evL _ _ = some (.pointer (some ⟨b1, 0, none⟩)) from (by kernel_rfl)) st.head (by kernel_rfl) ?_)
            refine WO_one rfl (One_store (t := 54) (x := (.tmp 4)) (y := (.tmp 36)) (v := .agg #[.int .i64 0, .slice none (List.length ([] : List (UInt8))) 0]) (c' := #[.int .i64 0, .slice none (List.length ([] : List (UInt8))) 0]) (by kernel_rfl) (show evL _ _ = some (.pointer (some ⟨b1, 0, none⟩)) from (by kernel_rfl)) (show evL _ _ = some (.agg #[.int .i64 0, .slice none (List.length ([] : List (UInt8))) 0]) from (by kernel_rfl)) st (by kernel_rfl) (by kernel_rfl) ?_)
            clear st
            intro w6 st
            refine WO_seg 2 [(5, .int .i64 0), (6, .int .i64 7)] (by kernel_rfl) (by kernel_rfl) ?_
            refine WO_end rfl ?_
            refine X_then ?_
            refine W_ret ?_
            refine X_then_ret ?_
            obtain rfl := Option.some.inj hr
            refine X_ret [.cell 4 54, .tmp 5, .tmp 6] [.agg #[.int .i64 0, .slice none (List.length ([] : List (UInt8))) 0], .int .i64 0, .int .i64 7] rfl (ResAll.cons (ResAt.blk (v := .agg #[.int .i64 0, .slice none (List.length ([] : List (UInt8))) 0]) (o := 0) (by kernel_rfl) st.head (by kernel_rfl)) (ResAll.cons (ResAt.tmp (by kernel_rfl)) (ResAll.cons (ResAt.tmp (by kernel_rfl)) ResAll.nil))) ?_
            have st := st.nilroom 5 1
            have st := st.front1
            have st := st.tail
            exact ⟨none, 0, m1, rfl, hm, st, (RepS.nil _ _)⟩
          · intro hc
            rw [if_neg (not_true hc)] at hr
            refine W_skip ?_
            refine X_then ?_
            refine W_seq ?_
            refine W_seq ?_
            refine W_region ?_
            refine WO_seg 3 [(37, .slice a1 (List.length p0) c1), (39, .int .i64 (IntKind.wrap .i64 (p1 + 1)))] (by kernel_rfl) (by kernel_rfl) ?_
            replace hr := bindS hr
            obtain ⟨x2, hx2, hr⟩ := hr
            refine WO_one rfl (One_index (d := 40) (t := 50) (e := 5) (x := (.tmp 37)) (y := (.tmp 39)) cU8 (by kernel_rfl) rfl (show evL _ _ = some (.slice a1 (List.length p0) c1) from (by kernel_rfl)) (show evL _ _ = some (.int .i64 (IntKind.wrap .i64 (p1 + 1))) from (by kernel_rfl)) (by kernel_rfl) r1 hx2 ?_)
            rintro b3 f2 cs2 rfl hq2
            refine WO_one rfl (One_load_row (d := 41) (t := 5) (x := (.tmp 40)) (.int .u8 (x2.toNat : Int)) (by kernel_rfl) rfl (show evL _ _ = some (.pointer (some ⟨b3, f2, none⟩)) from (by kernel_rfl)) st hq2 (by kernel_rfl) ?_)
            refine WO_seg 1 [(42, .bool ((x2.toNat : Int) == 0))] (by kernel_rfl) (by kernel_rfl) ?_
            refine WO_end rfl ?_
            refine X_then ?_
            refine W_cond ((x2.toNat : Int) == 0) (by kernel_rfl) ?_ ?_
            · intro hc
              rw [if_pos hc] at hr
              refine W_seq ?_
              refine W_region ?_
              refine WO_one rfl (One_load_own (d := 43) (t := 54) (x := (.tmp 4)) (.agg #[.int .i64 0, .slice none (List.length ([] : List (UInt8))) 0]) (by kernel_rfl) rfl (show evL _ _ = some (.pointer (some ⟨b1, 0, none⟩)) from (by kernel_rfl)) st.head (by kernel_rfl) ?_)
              refine WO_one rfl (One_store (t := 54) (x := (.tmp 4)) (y := (.tmp 43)) (v := .agg #[.int .i64 0, .slice none (List.length ([] : List (UInt8))) 0]) (c' := #[.int .i64 0, .slice none (List.length ([] : List (UInt8))) 0]) (by kernel_rfl) (show evL _ _ = some (.pointer (some ⟨b1, 0, none⟩)) from (by kernel_rfl)) (show evL _ _ = some (.agg #[.int .i64 0, .slice none (List.length ([] : List (UInt8))) 0]) from (by kernel_rfl)) st (by kernel_rfl) (by kernel_rfl) ?_)
              clear st
              intro w7 st
              refine WO_seg 2 [(5, .int .i64 0), (6, .int .i64 6)] (by kernel_rfl) (by kernel_rfl) ?_
              refine WO_end rfl ?_
              refine X_then ?_
              refine W_ret ?_
              refine X_then_ret ?_
              obtain rfl := Option.some.inj hr
              refine X_ret [.cell 4 54, .tmp 5, .tmp 6] [.agg #[.int .i64 0, .slice none (List.length ([] : List (UInt8))) 0], .int .i64 0, .int .i64 6] rfl (ResAll.cons (ResAt.blk (v := .agg #[.int .i64 0, .slice none (List.length ([] : List (UInt8))) 0]) (o := 0) (by kernel_rfl) st.head (by kernel_rfl)) (ResAll.cons (ResAt.tmp (by kernel_rfl)) (ResAll.cons (ResAt.tmp (by kernel_rfl)) ResAll.nil))) ?_
              have st := st.nilroom 5 1
              have st := st.front1
              have st := st.tail
              exact ⟨none, 0, m1, rfl, hm, st, (RepS.nil _ _)⟩
            · intro hc
              rw [if_neg (not_true hc)] at hr
              refine W_skip ?_
              refine X_then ?_
              refine W_seq ?_
              refine W_region ?_
              refine WO_seg 3 [(45, .slice a1 (List.length p0) c1), (47, .int .i64 (IntKind.wrap .i64 (p1 + 2)))] (by kernel_rfl) (by kernel_rfl) ?_
              replace hr := bindS hr
              obtain ⟨y1, hx3, hr⟩ := hr
              refine WO_one rfl (One_fn 48 50 #[.slice a1 (List.length p0) c1, .int .i64 (IntKind.wrap .i64 (p1 + 2))] (by kernel_rfl) rfl ?_)
              refine (testgateref03_Uint_ok st r1 hx3).mono ?_
              clear st
              rintro _ w8 ⟨m2, rfl, hle1, st⟩
              refine ⟨_, rfl, ?_⟩
              have hm := Mem.le_trans hm hle1
              have r1 := r1.mono hle1
              refine WO_seg 7 [(7, .int .u64 y1.1), (8, .int .i64 y1.2.1), (6, .int .i64 y1.2.2)] (by kernel_rfl) (by kernel_rfl) ?_
              refine WO_end rfl ?_
              refine X_then ?_
              refine W_seq ?_
              refine W_seq ?_
              refine W_region ?_
              refine WO_seg 2 [(53, .bool (y1.2.2 != 0))] (by kernel_rfl) (by kernel_rfl) ?_
              refine WO_end rfl ?_
              refine X_then ?_
              refine W_cond (y1.2.2 != 0) (by kernel_rfl) ?_ ?_
              · intro hc
                rw [if_pos hc] at hr
                refine W_seq ?_
                refine W_region ?_
                refine WO_one rfl (One_load_own (d := 54) (t := 54) (x := (.tmp 4)) (.agg #[.int .i64 0, .slice none (List.length ([] : List (UInt8))) 0]) (by kernel_rfl) rfl (show evL _ _ = some (.pointer (some ⟨b1, 0, none⟩)) from (by kernel_rfl)) st.head (by kernel_rfl) ?_)
                refine WO_seg 1 [(55, .int .i64 y1.2.2)] (by kernel_rfl) (by kernel_rfl) ?_
                refine WO_one rfl (One_store (t := 54) (x := (.tmp 4)) (y := (.tmp 54)) (v := .agg #[.int .i64 0, .slice none (List.length ([] : List (UInt8))) 0]) (c' := #[.int .i64 0, .slice none (List.length ([] : List (UInt8))) 0]) (by kernel_rfl) (show evL _ _ = some (.pointer (some ⟨b1, 0, none⟩)) from (by kernel_rfl)) (show evL _ _ = some (.agg #[.int .i64 0, .slice none (List.length ([] : List (UInt8))) 0]) from (by kernel_rfl)) st (by kernel_rfl) (by kernel_rfl) ?_)
                clear st
                intro w9 st
                refine WO_seg 2 [(5, .int .i64 0), (6, .int .i64 y1.2.2)] (by kernel_rfl) (by kernel_rfl) ?_
                refine WO_end rfl ?_
                refine X_then ?_
                refine W_ret ?_
                refine X_then_ret ?_
                obtain rfl := Option.some.inj hr
                refine X_ret [.cell 4 54, .tmp 5, .tmp 6] [.agg #[.int .i64 0, .slice none (List.length ([] : List (UInt8))) 0], .int .i64 0, .int .i64 y1.2.2] rfl (ResAll.cons (ResAt.blk (v := .agg #[.int .i64 0, .slice none (List.length ([] : List (UInt8))) 0]) (o := 0) (by kernel_rfl) st.head (by kernel_rfl)) (ResAll.cons (ResAt.tmp (by kernel_rfl)) (ResAll.cons (ResAt.tmp (by kernel_rfl)) ResAll.nil))) ?_
                have st := st.nilroom 5 1
                have st := st.front1
                have st := st.tail
                exact ⟨none, 0, m2, rfl, hm, st, (RepS.nil _ _)⟩
              · intro hc
                rw [if_neg (not_true hc)] at hr
                refine W_skip ?_
                refine X_then ?_
                refine W_seq ?_
                refine W_seq ?_
                refine W_region ?_
                refine WO_seg 2 [(57, .bool (decide (y1.1 > 2097152)))] (by kernel_rfl) (by kernel_rfl) ?_
                refine WO_end rfl ?_
                refine X_then ?_
                refine W_cond (decide (y1.1 > 2097152)) (by kernel_rfl) ?_ ?_
                · intro hc
                  rw [if_pos hc] at hr
                  refine W_seq ?_
                  refine W_region ?_
                  refine WO_one rfl (One_load_own (d := 58) (t := 54) (x := (.tmp 4)) (.agg #[.int .i64 0, .slice none (List.length ([] : List (UInt8))) 0]) (by kernel_rfl) rfl (show evL _ _ = some (.pointer (some ⟨b1, 0, none⟩)) from (by kernel_rfl)) st.head (by kernel_rfl) ?_)
                  refine WO_one rfl (One_store (t := 54) (x := (.tmp 4)) (y := (.tmp 58)) (v := .agg #[.int .i64 0, .slice none (List.length ([] : List (UInt8))) 0]) (c' := #[.int .i64 0, .slice none (List.length ([] : List (UInt8))) 0]) (by kernel_rfl) (show evL _ _ = some (.pointer (some ⟨b1, 0, none⟩)) from (by kernel_rfl)) (show evL _ _ = some (.agg #[.int .i64 0, .slice none (List.length ([] : List (UInt8))) 0]) from (by kernel_rfl)) st (by kernel_rfl) (by kernel_rfl) ?_)
                  clear st
                  intro w10 st
                  refine WO_seg 2 [(5, .int .i64 0), (6, .int .i64 2)] (by kernel_rfl) (by kernel_rfl) ?_
                  refine WO_end rfl ?_
                  refine X_then ?_
                  refine W_ret ?_
                  refine X_then_ret ?_
                  obtain rfl := Option.some.inj hr
                  refine X_ret [.cell 4 54, .tmp 5, .tmp 6] [.agg #[.int .i64 0, .slice none (List.length ([] : List (UInt8))) 0], .int .i64 0, .int .i64 2] rfl (ResAll.cons (ResAt.blk (v := .agg #[.int .i64 0, .slice none (List.length ([] : List (UInt8))) 0]) (o := 0) (by kernel_rfl) st.head (by kernel_rfl)) (ResAll.cons (ResAt.tmp (by kernel_rfl)) (ResAll.cons (ResAt.tmp (by kernel_rfl)) ResAll.nil))) ?_
                  have st := st.nilroom 5 1
                  have st := st.front1
                  have st := st.tail
                  exact ⟨none, 0, m2, rfl, hm, st, (RepS.nil _ _)⟩
                · intro hc
                  rw [if_neg (not_true hc)] at hr
                  refine W_skip ?_
                  refine X_then ?_
                  refine W_seq ?_
                  refine W_seq ?_
                  refine W_region ?_
                  refine WO_seg 8 [(66, .bool (decide ((IntKind.wrap .i64 ((IntKind.wrap .i64 y1.1) + 4)) > (IntKind.wrap .i64 ((List.length p0 : Int) - y1.2.1)))))] (by kernel_rfl) (by kernel_rfl) ?_
                  refine WO_end rfl ?_
                  refine X_then ?_
                  refine W_cond (decide ((IntKind.wrap .i64 ((IntKind.wrap .i64 y1.1) + 4)) > (IntKind.wrap .i64 ((List.length p0 : Int) - y1.2.1)))) (by kernel_rfl) ?_ ?_
                  · intro hc
                    rw [if_pos hc] at hr
                    refine W_seq ?_
                    refine W_region ?_
                    refine WO_one rfl (One_load_own (d := 67) (t := 54) (x := (.tmp 4)) (.agg #[.int .i64 0, .slice none (List.length ([] : List (UInt8))) 0]) (by kernel_rfl) rfl (show evL _ _ = some (.pointer (some ⟨b1, 0, none⟩)) from (by kernel_rfl)) st.head (by kernel_rfl) ?_)
                    refine WO_one rfl (One_store (t := 54) (x := (.tmp 4)) (y := (.tmp 67)) (v := .agg #[.int .i64 0, .slice none (List.length ([] : List (UInt8))) 0]) (c' := #[.int .i64 0, .slice none (List.length ([] : List (UInt8))) 0]) (by kernel_rfl) (show evL _ _ = some (.pointer (some ⟨b1, 0, none⟩)) from (by kernel_rfl)) (show evL _ _ = some (.agg #[.int .i64 0, .slice none (List.length ([] : List (UInt8))) 0]) from (by kernel_rfl)) st (by kernel_rfl) (by kernel_rfl) ?_)
                    clear st
                    intro w11 st
                    refine WO_seg 2 [(5, .int .i64 0), (6, .int .i64 7)] (by kernel_rfl) (by kernel_rfl) ?_
                    refine WO_end rfl ?_
                    refine X_then ?_
                    refine W_ret ?_
                    refine X_then_ret ?_
                    obtain rfl := Option.some.inj hr
                    refine X_ret [.cell 4 54, .tmp 5, .tmp 6] [.agg #[.int .i64 0, .slice none (List.length ([] : List (UInt8))) 0], .int .i64 0, .int .i64 7] rfl (ResAll.cons (ResAt.blk (v := .agg #[.int .i64 0, .slice none (List.length ([] : List (UInt8))) 0]) (o := 0) (by kernel_rfl) st.head (by kernel_rfl)) (ResAll.cons (ResAt.tmp (by kernel_rfl)) (ResAll.cons (ResAt.tmp (by kernel_rfl)) ResAll.nil))) ?_
                    have st := st.nilroom 5 1
                    have st := st.front1
                    have st := st.tail
                    exact ⟨none, 0, m2, rfl, hm, st, (RepS.nil _ _)⟩
                  · intro hc
                    rw [if_neg (not_true hc)] at hr
                    refine W_skip ?_
                    refine X_then ?_
                    refine W_seq ?_
                    refine W_region ?_
                    refine WO_seg 5 [(9, .int .i64 (IntKind.wrap .i64 (y1.2.1 + (IntKind.wrap .i64 y1.1))))] (by kernel_rfl) (by kernel_rfl) ?_
                    refine WO_end rfl ?_
                    refine X_then ?_
                    refine W_seq ?_
                    refine W_region ?_
                    refine WO_seg 4 [(72, .slice a1 (List.length p0) c1), (74, .int .i64 (IntKind.wrap .i64 (p1 + 1))), (75, .int .i64 (IntKind.wrap .i64 (y1.2.1 + (IntKind.wrap .i64 y1.1))))] (by kernel_rfl) (by kernel_rfl) ?_
                    replace hr := bindS hr
                    obtain ⟨l1, hx4, hr⟩ := hr
                    refine WO_one rfl (One_slice (d := 76) (t := 50) (e := 5) (x := (.tmp 72)) (lo := (some (.tmp 74))) (hi := (some (.tmp 75))) cU8 (by kernel_rfl) rfl (show evL _ _ = some (.slice a1 (List.length p0) c1) from (by kernel_rfl)) (by kernel_rfl) r1 (.inr ⟨_, _, rfl, (show evL _ _ = some (.int .i64 (IntKind.wrap .i64 (p1 + 1))) from (by kernel_rfl))⟩) (.inr ⟨_, _, rfl, (show evL _ _ = some (.int .i64 (IntKind.wrap .i64 (y1.2.1 + (IntKind.wrap .i64 y1.1)))) from (by kernel_rfl))⟩) hx4 ?_)
                    intro a2 c2 r2
                    replace hr := bindS hr
                    obtain ⟨y2, hx5, hr⟩ := hr
                    refine WO_one rfl (One_fn 77 35 #[.slice a2 (List.length l1) c2] (by kernel_rfl) rfl ?_)
                    refine (testgateref03_Checksum_ok st r2 hx5).mono ?_
                    clear st
                    rintro _ w12 ⟨m3, rfl, hle2, st⟩
                    refine ⟨_, rfl, ?_⟩
                    have hm := Mem.le_trans hm hle2
                    have r1 := r1.mono hle2
                    have r2 := r2.mono hle2
                    refine WO_seg 1 [(10, .int .u32 y2)] (by kernel_rfl) (by kernel_rfl) ?_
                    refine WO_end rfl ?_
                    refine X_then ?_
                    refine W_seq ?_
                    refine W_seq ?_
                    refine W_region ?_
                    replace hr := bindS hr
                    obtain ⟨o2, hr, hrK⟩ := hr
                    refine WO_cut (j := 40) (fun L' w' => ∃ (m4 : Mem), L' = [(0, .slice a1 (List.length p0) c1), (1, .int .i64 p1), (4, .pointer (some ⟨b1, 0, none⟩)), (8, .int .i64 y1.2.1), (9, .int .i64 (IntKind.wrap .i64 (y1.2.1 + (IntKind.wrap .i64 y1.1)))), (117, .bool o2)] ∧ m.le m4 ∧ St m4 (.blk b1 (.cells #[.int .i64 0, .slice none (List.length ([] : List (UInt8))) 0] 54 (0, 0)) :: own) w' ∧ RepS cU8 m4 a1 c1 p0) ?_ ?_
                    · clear hr st
                      have hr := hrK
                      clear hrK
                      rintro _ w13 ⟨m4, rfl, hm, st, r1⟩
                      refine WO_end rfl ?_
                      refine X_then ?_
                      refine W_cond o2 (by kernel_rfl) ?_ ?_
                      · intro hc
                        rw [if_pos hc] at hr
                        refine W_seq ?_
                        refine W_region ?_
                        refine WO_one rfl (One_load_own (d := 118) (t := 54) (x := (.tmp 4)) (.agg #[.int .i64 0, .slice none (List.length ([] : List (UInt8))) 0]) (by kernel_rfl) rfl (show evL _ _ = some (.pointer (some ⟨b1, 0, none⟩)) from (by kernel_rfl)) st.head (by kernel_rfl) ?_)
                        refine WO_one rfl (One_store (t := 54) (x := (.tmp 4)) (y := (.tmp 118)) (v := .agg #[.int .i64 0, .slice none (List.length ([] : List (UInt8))) 0]) (c' := #[.int .i64 0, .slice none (List.length ([] : List (UInt8))) 0]) (by kernel_rfl) (show evL _ _ = some (.pointer (some ⟨b1, 0, none⟩)) from (by kernel_rfl)) (show evL _ _ = some (.agg #[.int .i64 0, .slice none (List.length ([] : List (UInt8))) 0]) from (by kernel_rfl)) st (by kernel_rfl) (by kernel_rfl) ?_)
                        clear st
                        intro w14 st
                        refine WO_seg 2 [(5, .int .i64 0), (6, .int .i64 8)] (by kernel_rfl) (by kernel_rfl) ?_
                        refine WO_end rfl ?_
                        refine X_then ?_
                        refine W_ret ?_
                        refine X_then_ret ?_
                        obtain rfl := Option.some.inj hr
                        refine X_ret [.cell 4 54, .tmp 5, .tmp 6] [.agg #[.int .i64 0, .slice none (List.length ([] : List (UInt8))) 0], .int .i64 0, .int .i64 8] rfl (ResAll.cons (ResAt.blk (v := .agg #[.int .i64 0, .slice none (List.length ([] : List (UInt8))) 0]) (o := 0) (by kernel_rfl) st.head (by kernel_rfl)) (ResAll.cons (ResAt.tmp (by kernel_rfl)) (ResAll.cons (ResAt.tmp (by kernel_rfl)) ResAll.nil))) ?_
                        have st := st.nilroom 5 1
                        have st := st.front1
                        have st := st.tail
                        exact ⟨none, 0, m4, rfl, hm, st, (RepS.nil _ _)⟩
                      · intro hc
                        rw [if_neg (not_true hc)] at hr
                        refine W_skip ?_
                        refine X_then ?_
                        refine W_seq ?_
                        refine W_draw [(17, fun w' => Inv m4 w' ∧ True)] (by kernel_rfl) st ?_
                        clear st
                        intro w15 _ st
                        have hmS := m4.le_refl
                        refine ⟨⟨.inr ⟨Inv.anti st.inv hmS, trivial⟩, trivial⟩, ?_⟩
                        refine WA_pure 0 119 (.slice a1 (List.length p0) c1) (by kernel_rfl) rfl (by kernel_rfl) (.head _) (QP_then QP_body) ?_
                        refine WA_pure 1 120 (.int .i64 p1) (by kernel_rfl) rfl (by kernel_rfl) (.head _) (QP_then QP_body) ?_
                        refine WA_pure 2 121 (.int .i64 (IntKind.wrap .i64 (p1 + 1))) (by kernel_rfl) rfl (by kernel_rfl) (.head _) (QP_then QP_body) ?_
                        replace hr := bindS hr
                        obtain ⟨x7, hx10, hr⟩ := hr
                        refine WA_index (t := 50) (e := 5) (x := (.tmp 119)) (y := (.tmp 121)) 3 122 cU8 (by kernel_rfl) rfl (by kernel_rfl) (.head _) (QP_then QP_body) (show evL _ _ = some (.slice a1 (List.length p0) c1) from (by kernel_rfl)) (show evL _ _ = some (.int .i64 (IntKind.wrap .i64 (p1 + 1))) from (by kernel_rfl)) (by kernel_rfl) r1 hx10 ?_
                        rintro b8 f7 cs7 rfl hq7
                        refine WA_load_row (t := 5) (x := (.tmp 122)) 4 123 (.int .u8 (x7.toNat : Int)) (by kernel_rfl) rfl (by kernel_rfl) (.head _) (QP_then QP_body) (fun _ h => h.1) (show evL _ _ = some (.pointer (some ⟨b8, f7, none⟩)) from (by kernel_rfl)) hq7 (by kernel_rfl) ?_
                        refine WA_pure 5 124 (.int .i64 (IntKind.wrap .i64 (x7.toNat : Int))) (by kernel_rfl) rfl (by kernel_rfl) (.head _) (QP_then QP_body) ?_
                        refine WA_pure 6 125 (.slice a1 (List.length p0) c1) (by kernel_rfl) rfl (by kernel_rfl) (.head _) (QP_then QP_body) ?_
                        refine WA_pure 7 126 (.int .i64 y1.2.1) (by kernel_rfl) rfl (by kernel_rfl) (.head _) (QP_then QP_body) ?_
                        refine WA_pure 8 127 (.int .i64 (IntKind.wrap .i64 (y1.2.1 + (IntKind.wrap .i64 y1.1)))) (by kernel_rfl) rfl (by kernel_rfl) (.head _) (QP_then QP_body) ?_
                        replace hr := bindS hr
                        obtain ⟨l2, hx11, hr⟩ := hr
                        refine WA_slice (t := 50) (e := 5) (x := (.tmp 125)) (lo := (some (.tmp 126))) (hi := (some (.tmp 127))) 9 128 cU8 (by kernel_rfl) rfl (by kernel_rfl) (.head _) (QP_then QP_body) (show evL _ _ = some (.slice a1 (List.length p0) c1) from (by kernel_rfl)) (by kernel_rfl) r1 (.inr ⟨_, _, rfl, (show evL _ _ = some (.int .i64 y1.2.1) from (by kernel_rfl))⟩) (.inr ⟨_, _, rfl, (show evL _ _ = some (.int .i64 (IntKind.wrap .i64 (y1.2.1 + (IntKind.wrap .i64 y1.1)))) from (by kernel_rfl))⟩) hx11 ?_
                        intro a3 c3 r3
                        refine WA_pure 12 131 (.int .i64 (IntKind.wrap .i64 (y1.2.1 + (IntKind.wrap .i64 y1.1)))) (by kernel_rfl) rfl (by kernel_rfl) (.head _) (QP_then QP_body) ?_
                        refine WA_pure 13 132 (.int .i64 (IntKind.wrap .i64 ((IntKind.wrap .i64 (y1.2.1 + (IntKind.wrap .i64 y1.1))) + 4))) (by kernel_rfl) rfl (by kernel_rfl) (.head _) (QP_then QP_body) ?_
                        have st := st.nilroom 5 1
                        replace hr := bindS hr
                        obtain ⟨l3, hx12, hr⟩ := hr
                        refine WA_one 10 (by kernel_rfl) (One_append (d := 129) (t := 50) (u := 50) (e := 5) (by_ := 1) (x := (.const (.slice none 0 0))) (y := (.tmp 128)) cU8 (by kernel_rfl) rfl (show evL _ _ = some (.slice none (List.length ([] : List (UInt8))) 0) from (by kernel_rfl)) (show evL _ _ = some (.slice a3 (List.length l2) c3) from (by kernel_rfl)) st (by kernel_rfl) (.inl (by kernel_rfl)) (RepS.nil _ _) r3.src hx12 ?_)
                        clear st
                        intro a4 c4 m5 w16 hle3 st r4
                        have hm := Mem.le_trans hm hle3
                        have r1 := r1.mono hle3
                        have hq7 := hq7.mono hle3
                        have r3 := r3.mono hle3
                        have hmS := Mem.le_trans hmS hle3
                        refine ⟨⟨.inr ⟨Inv.anti st.inv hmS, trivial⟩, trivial⟩, ?_⟩
                        refine WA_pure 11 130 (.agg #[.int .i64 (IntKind.wrap .i64 (x7.toNat : Int)), .slice a4 (List.length l3) c4]) (by kernel_rfl) rfl (by kernel_rfl) (.head _) (QP_then QP_body) ?_
                        have st := st.front1
                        refine WA_one 14 (by kernel_rfl) (One_store (t := 54) (x := (.tmp 4)) (y := (.tmp 130)) (v := .agg #[.int .i64 (IntKind.wrap .i64 (x7.toNat : Int)), .slice a4 (List.length l3) c4]) (c' := #[.int .i64 (IntKind.wrap .i64 (x7.toNat : Int)), .slice a4 (List.length l3) c4]) (by kernel_rfl) (show evL _ _ = some (.pointer (some ⟨b1, 0, none⟩)) from (by kernel_rfl)) (show evL _ _ = some (.agg #[.int .i64 (IntKind.wrap .i64 (x7.toNat : Int)), .slice a4 (List.length l3) c4]) from (by kernel_rfl)) st (by kernel_rfl) (by kernel_rfl) ?_)
                        clear st
                        intro w17 st
                        refine ⟨⟨.inr ⟨Inv.anti st.inv hmS, trivial⟩, trivial⟩, ?_⟩
                        refine WA_pure 15 5 (.int .i64 (IntKind.wrap .i64 ((IntKind.wrap .i64 (y1.2.1 + (IntKind.wrap .i64 y1.1))) + 4))) (by kernel_rfl) rfl (by kernel_rfl) (.head _) (QP_then QP_body) ?_
                        refine WA_pure 16 6 (.int .i64 0) (by kernel_rfl) rfl (by kernel_rfl) (.head _) (QP_then QP_body) ?_
                        refine WA_done (by kernel_rfl) ?_
                        refine X_then ?_
                        refine W_ret ?_
                        obtain rfl := Option.some.inj hr
                        refine X_ret [.cell 4 54, .tmp 5, .tmp 6] [.agg #[.int .i64 (IntKind.wrap .i64 (x7.toNat : Int)), .slice a4 (List.length l3) c4], .int .i64 (IntKind.wrap .i64 ((IntKind.wrap .i64 (y1.2.1 + (IntKind.wrap .i64 y1.1))) + 4)), .int .i64 0] rfl (ResAll.cons (ResAt.blk (v := .agg #[.int .i64 (IntKind.wrap .i64 (x7.toNat : Int)), .slice a4 (List.length l3) c4]) (o := 0) (by kernel_rfl) st.head (by kernel_rfl)) (ResAll.cons (ResAt.tmp (by kernel_rfl)) (ResAll.cons (ResAt.tmp (by kernel_rfl)) ResAll.nil))) ?_
                        have st := st.tail
                        exact ⟨a4, c4, m5, rfl, hm, st, r4⟩
                    · intro K
                      clear hrK
                      refine WO_seg 2 [(78, .slice a1 (List.length p0) c1), (79, .int .i64 (IntKind.wrap .i64 (y1.2.1 + (IntKind.wrap .i64 y1.1))))] (by kernel_rfl) (by kernel_rfl) ?_
                      replace hr := bindS hr
                      obtain ⟨x3, hx6, hr⟩ := hr
                      refine WO_one rfl (One_index (d := 80) (t := 50) (e := 5) (x := (.tmp 78)) (y := (.tmp 79)) cU8 (by kernel_rfl) rfl (show evL _ _ = some (.slice a1 (List.length p0) c1) from (by kernel_rfl)) (show evL _ _ = some (.int .i64 (IntKind.wrap .i64 (y1.2.1 + (IntKind.wrap .i64 y1.1)))) from (by kernel_rfl)) (by kernel_rfl) r1 hx6 ?_)
                      rintro b4 f3 cs3 rfl hq3
                      refine WO_one rfl (One_load_row (d := 81) (t := 5) (x := (.tmp 80)) (.int .u8 (x3.toNat : Int)) (by kernel_rfl) rfl (show evL _ _ = some (.pointer (some ⟨b4, f3, none⟩)) from (by kernel_rfl)) st hq3 (by kernel_rfl) ?_)
                      refine WO_seg 4 [(85, .bool ((x3.toNat : Int) != (IntKind.wrap .u8 y2)))] (by kernel_rfl) (by kernel_rfl) ?_
                      rcases bcases ((x3.toNat : Int) != (IntKind.wrap .u8 y2)) with hc | hc
                      · rw [if_pos hc] at hr
                        refine WO_fact (t := 85) (b := true) ((x3.toNat : Int) != (IntKind.wrap .u8 y2)) (by kernel_rfl) hc ?_
                        refine WO_seg 32 [(117, .bool true)] (by kernel_rfl) (by kernel_rfl) ?_
                        obtain rfl := Option.some.inj hr
                        exact WO_env _ (by kernel_rfl) (K _ _ ⟨m3, rfl, hm, st, r1⟩)
                      · rw [if_neg (not_true hc)] at hr
                        refine WO_fact (t := 85) (b := false) ((x3.toNat : Int) != (IntKind.wrap .u8 y2)) (by kernel_rfl) hc ?_
                        refine WO_seg 3 [(86, .slice a1 (List.length p0) c1), (88, .int .i64 (IntKind.wrap .i64 ((IntKind.wrap .i64 (y1.2.1 + (IntKind.wrap .i64 y1.1))) + 1)))] (by kernel_rfl) (by kernel_rfl) ?_
                        replace hr := bindS hr
                        obtain ⟨x4, hx7, hr⟩ := hr
                        refine WO_one rfl (One_index (d := 89) (t := 50) (e := 5) (x := (.tmp 86)) (y := (.tmp 88)) cU8 (by kernel_rfl) rfl (show evL _ _ = some (.slice a1 (List.length p0) c1) from (by kernel_rfl)) (show evL _ _ = some (.int .i64 (IntKind.wrap .i64 ((IntKind.wrap .i64 (y1.2.1 + (IntKind.wrap .i64 y1.1))) + 1))) from (by kernel_rfl)) (by kernel_rfl) r1 hx7 ?_)
                        rintro b5 f4 cs4 rfl hq4
                        refine WO_one rfl (One_load_row (d := 90) (t := 5) (x := (.tmp 89)) (.int .u8 (x4.toNat : Int)) (by kernel_rfl) rfl (show evL _ _ = some (.pointer (some ⟨b5, f4, none⟩)) from (by kernel_rfl)) st hq4 (by kernel_rfl) ?_)
                        refine WO_seg 6 [(96, .bool ((x4.toNat : Int) != (IntKind.wrap .u8 (Int.fdiv y2 (2 ^ 8)))))] (by kernel_rfl) (by kernel_rfl) ?_
                        rcases bcases ((x4.toNat : Int) != (IntKind.wrap .u8 (Int.fdiv y2 (2 ^ 8)))) with hc | hc
                        · rw [if_pos hc] at hr
                          refine WO_fact (t := 96) (b := true) ((x4.toNat : Int) != (IntKind.wrap .u8 (Int.fdiv y2 (2 ^ 8)))) (by kernel_rfl) hc ?_
                          refine WO_seg 21 [(117, .bool true)] (by kernel_rfl) (by kernel_rfl) ?_
                          obtain rfl := Option.some.inj hr
                          exact WO_env _ (by kernel_rfl) (K _ _ ⟨m3, rfl, hm, st, r1⟩)
                        · rw [if_neg (not_true hc)] at hr
                          refine WO_fact (t := 96) (b := false) ((x4.toNat : Int) != (IntKind.wrap .u8 (Int.fdiv y2 (2 ^ 8)))) (by kernel_rfl) hc ?_
                          refine WO_seg 3 [(97, .slice a1 (List.length p0) c1), (99, .int .i64 (IntKind.wrap .i64 ((IntKind.wrap .i64 (y1.2.1 + (IntKind.wrap .i64 y1.1))) + 2)))] (by kernel_rfl) (by kernel_rfl) ?_
                          replace hr := bindS hr
                          obtain ⟨x5, hx8, hr⟩ := hr
                          refine WO_one rfl (One_index (d := 100) (t := 50) (e := 5) (x := (.tmp 97)) (y := (.tmp 99)) cU8 (by kernel_rfl) rfl (show evL _ _ = some (.slice a1 (List.length p0) c1) from (by kernel_rfl)) (show evL _ _ = some (.int .i64 (IntKind.wrap .i64 ((IntKind.wrap .i64 (y1.2.1 + (IntKind.wrap .i64 y1.1))) + 2))) from (by kernel_rfl)) (by kernel_rfl) r1 hx8 ?_)
                          rintro b6 f5 cs5 rfl hq5
                          refine WO_one rfl (One_load_row (d := 101) (t := 5) (x := (.tmp 100)) (.int .u8 (x5.toNat : Int)) (by kernel_rfl) rfl (show evL _ _ = some (.pointer (some ⟨b6, f5, none⟩)) from (by kernel_rfl)) st hq5 (by kernel_rfl) ?_)
                          refine WO_seg 6 [(107, .bool ((x5.toNat : Int) != (IntKind.wrap .u8 (Int.fdiv y2 (2 ^ 16)))))] (by kernel_rfl) (by kernel_rfl) ?_
                          rcases bcases ((x5.toNat : Int) != (IntKind.wrap .u8 (Int.fdiv y2 (2 ^ 16)))) with hc | hc
                          · rw [if_pos hc] at hr
                            refine WO_fact (t := 107) (b := true) ((x5.toNat : Int) != (IntKind.wrap .u8 (Int.fdiv y2 (2 ^ 16)))) (by kernel_rfl) hc ?_
                            refine WO_seg 10 [(117, .bool true)] (by kernel_rfl) (by kernel_rfl) ?_
                            obtain rfl := Option.some.inj hr
                            exact WO_env _ (by kernel_rfl) (K _ _ ⟨m3, rfl, hm, st, r1⟩)
                          · rw [if_neg (not_true hc)] at hr
                            refine WO_fact (t := 107) (b := false) ((x5.toNat : Int) != (IntKind.wrap .u8 (Int.fdiv y2 (2 ^ 16)))) (by kernel_rfl) hc ?_
                            refine WO_seg 3 [(108, .slice a1 (List.length p0) c1), (110, .int .i64 (IntKind.wrap .i64 ((IntKind.wrap .i64 (y1.2.1 + (IntKind.wrap .i64 y1.1))) + 3)))] (by kernel_rfl) (by kernel_rfl) ?_
                            replace hr := bindS hr
                            obtain ⟨x6, hx9, hr⟩ := hr
                            refine WO_one rfl (One_index (d := 111) (t := 50) (e := 5) (x := (.tmp 108)) (y := (.tmp 110)) cU8 (by kernel_rfl) rfl (show evL _ _ = some (.slice a1 (List.length p0) c1) from (by kernel_rfl)) (show evL _ _ = some (.int .i64 (IntKind.wrap .i64 ((IntKind.wrap .i64 (y1.2.1 + (IntKind.wrap .i64 y1.1))) + 3))) from (by kernel_rfl)) (by kernel_rfl) r1 hx9 ?_)
                            rintro b7 f6 cs6 rfl hq6
                            refine WO_one rfl (One_load_row (d := 112) (t := 5) (x := (.tmp 111)) (.int .u8 (x6.toNat : Int)) (by kernel_rfl) rfl (show evL _ _ = some (.pointer (some ⟨b7, f6, none⟩)) from (by kernel_rfl)) st hq6 (by kernel_rfl) ?_)
                            refine WO_seg 5 [(117, .bool ((x6.toNat : Int) != (IntKind.wrap .u8 (Int.fdiv y2 (2 ^ 24)))))] (by kernel_rfl) (by kernel_rfl) ?_
                            obtain rfl := Option.some.inj hr
                            exact WO_env _ (by kernel_rfl) (K _ _ ⟨m3, rfl, hm, st, r1⟩)
  · intro K
    clear hrK
    refine WO_seg 3 [(13, .bool (decide (p1 < 0)))] (by kernel_rfl) (by kernel_rfl) ?_
    rcases bcases (decide (p1 < 0)) with hc | hc
    · rw [if_pos hc] at hr
      refine WO_fact (t := 13) (b := true) (decide (p1 < 0)) (by kernel_rfl) hc ?_
      refine WO_seg 5 [(18, .bool true)] (by kernel_rfl) (by kernel_rfl) ?_
      obtain rfl := Option.some.inj hr
      exact WO_env _ (by kernel_rfl) (K _ _ ⟨m, rfl, hm, st, r1⟩)
    · rw [if_neg (not_true hc)] at hr
      refine WO_fact (t := 13) (b := false) (decide (p1 < 0)) (by kernel_rfl) hc ?_
      refine WO_seg 5 [(18, .bool (decide (p1 > (List.length p0 : Int))))] (by kernel_rfl) (by kernel_rfl) ?_
      obtain rfl := Option.some.inj hr
      exact WO_env _ (by kernel_rfl) (K _ _ ⟨m, rfl, hm, st, r1⟩)

def testgateref03_SameFrames_L1 (N : Nat) (p0 : List (Int × List UInt8)) (p1 : List (Int × List UInt8)) (s1 : Int) : Option ((Int) ⊕ ((Unit) ⊕ (Bool))) :=
  if (decide (s1 < (List.length p0 : Int))) = true then (((idx p0 s1).bind fun x1 => (idx p1 s1).bind fun x2 => if (x1.1 != x2.1) = true then (some true) else ((idx p0 s1).bind fun x3 => (idx p1 s1).bind fun x4 => (testgateref03_Same N x3.2 x4.2).bind fun y1 => some (!y1)) : Option (Bool)).bind fun o2 => if o2 = true then (some (.inr (.inr (false)))) else (some (.inl (IntKind.wrap .i64 (s1 + 1))))) else (some (.inr (.inl ())))

def testgateref03_SameFrames (N : Nat) (p0 : List (Int × List UInt8)) (p1 : List (Int × List UInt8)) : Option (Bool) :=
  if ((List.length p0 : Int) != (List.length p1 : Int)) = true then (some false) else ((loopM (testgateref03_SameFrames_L1 N p0 p1) N 0).bind fun out1 => (match out1 with | .inl o1 => some true | .inr (z) => some z))

set_option maxHeartbeats 4000000 in
set_option maxRecDepth 100000 in
theorem testgateref03_SameFrames_ok {N : Nat} {m : Mem} {own : List Piece} {w : World} {p0 : List (Int × List UInt8)} {p1 : List (Int × List UInt8)} {a1 : Option Addr} {c1 : Nat} {a2 : Option Addr} {c2 : Nat} {r : Bool} (st : St m (own) w) (r1 : RepS (cPair (cInt .i64) (cSl cU8)) m a1 c1 p0) (r2 : RepS (cPair (cInt .i64) (cSl cU8)) m a2 c2 p1) (hr : testgateref03_SameFrames N p0 p1 = some r) : Calls Go.Proofs.Try.prog 38 #[.slice a1 (List.length p0) c1, .slice a2 (List.length p1) c2] w fun e w' => ∃ (m' : Mem), e = .returned (.bool r) ∧ m.le m' ∧ St m' (own) w' := by
  unfold testgateref03_SameFrames at hr
  have hm := m.le_refl
  refine W_calls Go.Proofs.Try.func38 rfl Go.Proofs.Try.ntmps38 [(0, .slice a1 (List.length p0) c1), (1, .slice a2 (List.length p1) c2)] (by kernel_rfl) rfl ?_
  refine W_seq ?_
  refine W_region ?_
  refine WO_seg 1 [] (by kernel_rfl) (by kernel_rfl) ?_
  refine WO_end rfl ?_
  refine X_then ?_
  refine W_seq ?_
  refine W_seq ?_
  refine W_region ?_
  refine WO_seg 5 [(10, .bool ((List.length p0 : Int) != (List.length p1 : Int)))] (by kernel_rfl) (by kernel_rfl) ?_
  refine WO_end rfl ?_
  refine X_then ?_
  refine W_cond ((List.length p0 : Int) != (List.length p1 : Int)) (by kernel_rfl) ?_ ?_
  · intro hc
    rw [if_pos hc] at hr
    refine W_seq ?_
    refine W_region ?_
    refine WO_seg 1 [(4, .bool false)] (by kernel_rfl) (by kernel_rfl) ?_
    refine WO_end rfl ?_
    refine X_then ?_
    refine W_ret ?_
    refine X_then_ret ?_
    obtain rfl := Option.some.inj hr
    refine X_ret [.tmp 4] [.bool false] rfl (ResAll.cons (ResAt.tmp (by kernel_rfl)) ResAll.nil) ?_
    exact ⟨m, rfl, hm, st⟩
  · intro hc
    rw [if_neg (not_true hc)] at hr
    refine W_skip ?_
    refine X_then ?_
    refine W_seq ?_
    refine W_seq ?_
    refine W_region ?_
    refine WO_seg 1 [(5, .int .i64 0)] (by kernel_rfl) (by kernel_rfl) ?_
    refine WO_end rfl ?_
    refine X_then ?_
    refine W_block ?_
    replace hr := bindS hr
    obtain ⟨out1, hr, hrKu1⟩ := hr
    refine W_cut (.exit 0) (fun L' w' => ∃ (o1 : Unit) (m1 : Mem), (.inl o1) = out1 ∧ L' = [] ∧ m.le m1 ∧ St m1 (own) w') ?_ ?_
    · clear hr st
      rintro _ w1 ⟨o1, m1, rfl, rfl, hm, st⟩
      have hr := hrKu1
      clear hrKu1
      dsimp only at hr
      refine X_block_eq ?_
      refine X_then ?_
      refine W_seq ?_
      refine W_region ?_
      refine WO_seg 1 [(4, .bool true)] (by kernel_rfl) (by kernel_rfl) ?_
      refine WO_end rfl ?_
      refine X_then ?_
      refine W_ret ?_
      obtain rfl := Option.some.inj hr
      refine X_ret [.tmp 4] [.bool true] rfl (ResAll.cons (ResAt.tmp (by kernel_rfl)) ResAll.nil) ?_
      exact ⟨m1, rfl, hm, st⟩
    intro K0_u1
    refine W_env _ (by kernel_rfl) (W_loop (fun k1 L' w' => ∃ (s1 : Int) (m2 : Mem), loopM (testgateref03_SameFrames_L1 N p0 p1) k1 s1 = some out1 ∧ L' = [(0, .slice a1 (List.length p0) c1), (1, .slice a2 (List.length p1) c2), (5, .int .i64 s1)] ∧ m.le m2 ∧ St m2 (own) w' ∧ RepS (cPair (cInt .i64) (cSl cU8)) m2 a1 c1 p0 ∧ RepS (cPair (cInt .i64) (cSl cU8)) m2 a2 c2 p1) N ⟨0, m, hr, rfl, hm, st, r1, r2⟩ ?_)
    clear st hr
    rintro k1 _ w2 ⟨s1, m2, hL, rfl, hm, st, r1, r2⟩
    rcases k1 with _ | k1
    · exact loopM_zero hL
    · obtain ⟨qu1, hr, hSu1, hBu1⟩ := loopM_succ hL
      clear hL
      unfold testgateref03_SameFrames_L1 at hr
      refine W_seq ?_
      refine W_seq ?_
      refine W_region ?_
      refine WO_seg 4 [(14, .bool (decide (s1 < (List.length p0 : Int))))] (by kernel_rfl) (by kernel_rfl) ?_
      refine WO_end rfl ?_
      refine X_then ?_
      refine W_cond (decide (s1 < (List.length p0 : Int))) (by kernel_rfl) ?_ ?_
      · intro hc
        rw [if_pos hc] at hr
        refine W_skip ?_
        refine X_then ?_
        refine W_seq ?_
        refine W_block ?_
        refine W_seq ?_
        replace hr := bindS hr
        obtain ⟨o2, hr, hrK⟩ := hr
        refine W_cut .normal (fun L' w' => ∃ (m3 : Mem), L' = [(0, .slice a1 (List.length p0) c1), (1, .slice a2 (List.length p1) c2), (5, .int .i64 s1), (41, .bool o2)] ∧ m.le m3 ∧ St m3 (own) w' ∧ RepS (cPair (cInt .i64) (cSl cU8)) m3 a1 c1 p0 ∧ RepS (cPair (cInt .i64) (cSl cU8)) m3 a2 c2 p1) ?_ ?_
        · clear hr st
          have hr := hrK
          clear hrK
          rintro _ w3 ⟨m3, rfl, hm, st, r1, r2⟩
          refine X_then ?_
          refine W_cond o2 (by kernel_rfl) ?_ ?_
          · intro hc
            rw [if_pos hc] at hr
            refine W_seq ?_
            refine W_region ?_
            refine WO_seg 1 [(4, .bool false)] (by kernel_rfl) (by kernel_rfl) ?_
            refine WO_end rfl ?_
            refine X_then ?_
            refine W_ret ?_
            refine X_block_ret ?_
            refine X_then_ret ?_
            obtain rfl := Option.some.inj hr
            have ho := hBu1 _ rfl
            subst ho
            have hr := hrKu1
            dsimp only at hr
            refine X_then_ret ?_
            refine X_block_ret ?_
            refine X_then_ret ?_
            obtain rfl := Option.some.inj hr
            refine X_ret [.tmp 4] [.bool false] rfl (ResAll.cons (ResAt.tmp (by kernel_rfl)) ResAll.nil) ?_
            exact ⟨m3, rfl, hm, st⟩
          · intro hc
            rw [if_neg (not_true hc)] at hr
            refine W_skip ?_
            refine X_block ?_
            refine X_then ?_
            refine W_region ?_
            refine WO_seg 3 [(5, .int .i64 (IntKind.wrap .i64 (s1 + 1)))] (by kernel_rfl) (by kernel_rfl) ?_
            refine WO_end rfl ?_
            obtain rfl := Option.some.inj hr
            have hL := hSu1 _ rfl
            exact X_env _ (by kernel_rfl) (X_round k1 (Nat.lt_succ_self _) ⟨IntKind.wrap .i64 (s1 + 1), m3, hL, rfl, hm, st, r1, r2⟩)
        · intro K
          clear hrK
          refine W_draw [(25, fun w' => Inv m2 w' ∧ True)] (by kernel_rfl) st ?_
          clear st
          intro w4 _ st
          have hmS := m2.le_refl
          refine ⟨⟨.inr ⟨Inv.anti st.inv hmS, trivial⟩, trivial⟩, ?_⟩
          refine WA_pure 0 17 (.slice a1 (List.length p0) c1) (by kernel_rfl) rfl (by kernel_rfl) (.head _) (QP_then (QP_block (QP_then (QP_then (QP_block (QP_then QP_body)))))) ?_
          refine WA_pure 1 18 (.int .i64 s1) (by kernel_rfl) rfl (by kernel_rfl) (.head _) (QP_then (QP_block (QP_then (QP_then (QP_block (QP_then QP_body)))))) ?_
          replace hr := bindS hr
          obtain ⟨x1, hx1, hr⟩ := hr
          refine WA_index (t := 62) (e := 54) (x := (.tmp 17)) (y := (.tmp 18)) 2 19 (cPair (cInt .i64) (cSl cU8)) (by kernel_rfl) rfl (by kernel_rfl) (.head _) (QP_then (QP_block (QP_then (QP_then (QP_block (QP_then QP_body)))))) (show evL _ _ = some (.slice a1 (List.length p0) c1) from (by kernel_rfl)) (show evL _ _ = some (.int .i64 s1) from (by kernel_rfl)) (by kernel_rfl) r1 hx1 ?_
          rintro b1 f1 cs1 ⟨_, _, rfl, rfl, ⟨a3, c3, rfl, r3⟩⟩ hq1
          refine WA_pure 3 20 (.pointer (some ⟨b1, f1, none⟩)) (by kernel_rfl) rfl (by kernel_rfl) (.head _) (QP_then (QP_block (QP_then (QP_then (QP_block (QP_then QP_body)))))) ?_
          refine WA_load_row (t := 3) (x := (.tmp 20)) 4 21 (.int .i64 x1.1) (by kernel_rfl) rfl (by kernel_rfl) (.head _) (QP_then (QP_block (QP_then (QP_then (QP_block (QP_then QP_body)))))) (fun _ h => h.1) (show evL _ _ = some (.pointer (some ⟨b1, f1, none⟩)) from (by kernel_rfl)) hq1 (by kernel_rfl) ?_
          refine WA_pure 5 22 (.slice a2 (List.length p1) c2) (by kernel_rfl) rfl (by kernel_rfl) (.head _) (QP_then (QP_block (QP_then (QP_then (QP_block (QP_then QP_body)))))) ?_
          refine WA_pure 6 23 (.int .i64 s1) (by kernel_rfl) rfl (by kernel_rfl) (.head _) (QP_then (QP_block (QP_then (QP_then (QP_block (QP_then QP_body)))))) ?_
          replace hr := bindS hr
          obtain ⟨x2, hx2, hr⟩ := hr
          refine WA_index (t := 62) (e := 54) (x := (.tmp 22)) (y := (.tmp 23)) 7 24 (cPair (cInt .i64) (cSl cU8)) (by kernel_rfl) rfl (by kernel_rfl) (.head _) (QP_then (QP_block (QP_then (QP_then (QP_block (QP_then QP_body)))))) (show evL _ _ = some (.slice a2 (List.length p1) c2) from (by kernel_rfl)) (show evL _ _ = some (.int .i64 s1) from (by kernel_rfl)) (by kernel_rfl) r2 hx2 ?_
          rintro b2 f2 cs2 ⟨_, _, rfl, rfl, ⟨a4, c4, rfl, r4⟩⟩ hq2
          refine WA_pure 8 25 (.pointer (some ⟨b2, f2, none⟩)) (by kernel_rfl) rfl (by kernel_rfl) (.head _) (QP_then (QP_block (QP_then (QP_then (QP_block (QP_then QP_body)))))) ?_
          refine WA_load_row (t := 3) (x := (.tmp 25)) 9 26 (.int .i64 x2.1) (by kernel_rfl) rfl (by kernel_rfl) (.head _) (QP_then (QP_block (QP_then (QP_then (QP_block (QP_then QP_body)))))) (fun _ h => h.1) (show evL _ _ = some (.pointer (some ⟨b2, f2, none⟩)) from (by kernel_rfl)) hq2 (by kernel_rfl) ?_
          refine WA_pure 10 27 (.bool (x1.1 != x2.1)) (by kernel_rfl) rfl (by kernel_rfl) (.head _) (QP_then (QP_block (QP_then (QP_then (QP_block (QP_then QP_body)))))) ?_
          refine WA_pure 11 28 (.bool (x1.1 != x2.1)) (by kernel_rfl) rfl (by kernel_rfl) (.head _) (QP_then (QP_block (QP_then (QP_then (QP_block (QP_then QP_body)))))) ?_
          rcases bcases (x1.1 != x2.1) with hc | hc
          · rw [if_pos hc] at hr
            refine WA_fact (t := 28) (b := true) (x1.1 != x2.1) (by kernel_rfl) hc ?_
            refine WA_not 12 29 (by kernel_rfl) rfl (by kernel_rfl) (.head _) (QP_then (QP_block (QP_then (QP_then (QP_block (QP_then QP_body)))))) ?_
            refine WA_not 13 30 (by kernel_rfl) rfl (by kernel_rfl) (.head _) (QP_then (QP_block (QP_then (QP_then (QP_block (QP_then QP_body)))))) ?_
            refine WA_not 14 31 (by kernel_rfl) rfl (by kernel_rfl) (.head _) (QP_then (QP_block (QP_then (QP_then (QP_block (QP_then QP_body)))))) ?_
            refine WA_not 15 32 (by kernel_rfl) rfl (by kernel_rfl) (.head _) (QP_then (QP_block (QP_then (QP_then (QP_block (QP_then QP_body)))))) ?_
            refine WA_not 16 33 (by kernel_rfl) rfl (by kernel_rfl) (.head _) (QP_then (QP_block (QP_then (QP_then (QP_block (QP_then QP_body)))))) ?_
            refine WA_not 17 34 (by kernel_rfl) rfl (by kernel_rfl) (.head _) (QP_then (QP_block (QP_then (QP_then (QP_block (QP_then QP_body)))))) ?_
            refine WA_not 18 35 (by kernel_rfl) rfl (by kernel_rfl) (.head _) (QP_then (QP_block (QP_then (QP_then (QP_block (QP_then QP_body)))))) ?_
            refine WA_not 19 36 (by kernel_rfl) rfl (by kernel_rfl) (.head _) (QP_then (QP_block (QP_then (QP_then (QP_block (QP_then QP_body)))))) ?_
            refine WA_not 20 37 (by kernel_rfl) rfl (by kernel_rfl) (.head _) (QP_then (QP_block (QP_then (QP_then (QP_block (QP_then QP_body)))))) ?_
            refine WA_not 21 38 (by kernel_rfl) rfl (by kernel_rfl) (.head _) (QP_then (QP_block (QP_then (QP_then (QP_block (QP_then QP_body)))))) ?_
            refine WA_not 22 39 (by kernel_rfl) rfl (by kernel_rfl) (.head _) (QP_then (QP_block (QP_then (QP_then (QP_block (QP_then QP_body)))))) ?_
            refine WA_not 23 40 (by kernel_rfl) rfl (by kernel_rfl) (.head _) (QP_then (QP_block (QP_then (QP_then (QP_block (QP_then QP_body)))))) ?_
            refine WA_pure 24 41 (.bool true) (by kernel_rfl) rfl (by kernel_rfl) (.head _) (QP_then (QP_block (QP_then (QP_then (QP_block (QP_then QP_body)))))) ?_
            obtain rfl := Option.some.inj hr
            exact WA_done (by kernel_rfl) (X_env _ (by kernel_rfl) (K _ _ ⟨m2, rfl, hm, st, r1, r2⟩))
          · rw [if_neg (not_true hc)] at hr
            refine WA_fact (t := 28) (b := false) (x1.1 != x2.1) (by kernel_rfl) hc ?_
            refine WA_pure 12 29 (.slice a1 (List.length p0) c1) (by kernel_rfl) rfl (by kernel_rfl) (.head _) (QP_then (QP_block (QP_then (QP_then (QP_block (QP_then QP_body)))))) ?_
            refine WA_pure 13 30 (.int .i64 s1) (by kernel_rfl) rfl (by kernel_rfl) (.head _) (QP_then (QP_block (QP_then (QP_then (QP_block (QP_then QP_body)))))) ?_
            replace hr := bindS hr
            obtain ⟨x3, hx3, hr⟩ := hr
            refine WA_index (t := 62) (e := 54) (x := (.tmp 29)) (y := (.tmp 30)) 14 31 (cPair (cInt .i64) (cSl cU8)) (by kernel_rfl) rfl (by kernel_rfl) (.head _) (QP_then (QP_block (QP_then (QP_then (QP_block (QP_then QP_body)))))) (show evL _ _ = some (.slice a1 (List.length p0) c1) from (by kernel_rfl)) (show evL _ _ = some (.int .i64 s1) from (by kernel_rfl)) (by kernel_rfl) r1 hx3 ?_
            rintro b3 f3 cs3 ⟨_, _, rfl, rfl, ⟨a5, c5, rfl, r5⟩⟩ hq3
            refine WA_pure 15 32 (.pointer (some ⟨b3, f3 + 1, none⟩)) (by kernel_rfl) rfl (by kernel_rfl) (.head _) (QP_then (QP_block (QP_then (QP_then (QP_block (QP_then QP_body)))))) ?_
            refine WA_load_row (t := 50) (x := (.tmp 32)) 16 33 (.slice a5 (List.length x3.2) c5) (by kernel_rfl) rfl (by kernel_rfl) (.head _) (QP_then (QP_block (QP_then (QP_then (QP_block (QP_then QP_body)))))) (fun _ h => h.1) (show evL _ _ = some (.pointer (some ⟨b3, f3 + 1, none⟩)) from (by kernel_rfl)) (hq3.drop 1) (by kernel_rfl) ?_
            refine WA_pure 17 34 (.slice a2 (List.length p1) c2) (by kernel_rfl) rfl (by kernel_rfl) (.head _) (QP_then (QP_block (QP_then (QP_then (QP_block (QP_then QP_body)))))) ?_
            refine WA_pure 18 35 (.int .i64 s1) (by kernel_rfl) rfl (by kernel_rfl) (.head _) (QP_then (QP_block (QP_then (QP_then (QP_block (QP_then QP_body)))))) ?_
            replace hr := bindS hr
            obtain ⟨x4, hx4, hr⟩ := hr
            refine WA_index (t := 62) (e := 54) (x := (.tmp 34)) (y := (.tmp 35)) 19 36 (cPair (cInt .i64) (cSl cU8)) (by kernel_rfl) rfl (by kernel_rfl) (.head _) (QP_then (QP_block (QP_then (QP_then (QP_block (QP_then QP_body)))))) (show evL _ _ = some (.slice a2 (List.length p1) c2) from (by kernel_rfl)) (show evL _ _ = some (.int .i64 s1) from (by kernel_rfl)) (by kernel_rfl) r2 hx4 ?_
            rintro b4 f4 cs4 ⟨_, _, rfl, rfl, ⟨a6, c6, rfl, r6⟩⟩ hq4
            refine WA_pure 20 37 (.pointer (some ⟨b4, f4 + 1, none⟩)) (by kernel_rfl) rfl (by kernel_rfl) (.head _) (QP_then (QP_block (QP_then (QP_then (QP_block (QP_then QP_body)))))) ?_
            refine WA_load_row (t := 50) (x := (.tmp 37)) 21 38 (.slice a6 (List.length x4.2) c6) (by kernel_rfl) rfl (by kernel_rfl) (.head _) (QP_then (QP_block (QP_then (QP_then (QP_block (QP_then QP_body)))))) (fun _ h => h.1) (show evL _ _ = some (.pointer (some ⟨b4, f4 + 1, none⟩)) from (by kernel_rfl)) (hq4.drop 1) (by kernel_rfl) ?_
            replace hr := bindS hr
            obtain ⟨y1, hx5, hr⟩ := hr
            refine WA_one 22 (by kernel_rfl) (One_fn 39 33 #[.slice a5 (List.length x3.2) c5, .slice a6 (List.length x4.2) c6] (by kernel_rfl) rfl ?_)
            refine (testgateref03_Same_ok st r5 r6 hx5).mono ?_
            clear st
            rintro _ w5 ⟨m4, rfl, hle1, st⟩
            refine ⟨_, rfl, ?_⟩
            have hm := Mem.le_trans hm hle1
            have r1 := r1.mono hle1
            have r2 := r2.mono hle1
            have hq1 := hq1.mono hle1
            have r3 := r3.mono hle1
            have hq2 := hq2.mono hle1
            have r4 := r4.mono hle1
            have hq3 := hq3.mono hle1
            have r5 := r5.mono hle1
            have hq4 := hq4.mono hle1
            have r6 := r6.mono hle1
            have hmS := Mem.le_trans hmS hle1
            refine ⟨⟨.inr ⟨Inv.anti st.inv hmS, trivial⟩, trivial⟩, ?_⟩
            refine WA_pure 23 40 (.bool (!y1)) (by kernel_rfl) rfl (by kernel_rfl) (.head _) (QP_then (QP_block (QP_then (QP_then (QP_block (QP_then QP_body)))))) ?_
            refine WA_pure 24 41 (.bool (!y1)) (by kernel_rfl) rfl (by kernel_rfl) (.head _) (QP_then (QP_block (QP_then (QP_then (QP_block (QP_then QP_body)))))) ?_
            obtain rfl := Option.some.inj hr
            exact WA_done (by kernel_rfl) (X_env _ (by kernel_rfl) (K _ _ ⟨m4, rfl, hm, st, r1, r2⟩))
      · intro hc
        rw [if_neg (not_true hc)] at hr
        refine W_exit ?_
        refine X_then_exit ?_
        obtain rfl := Option.some.inj hr
        have ho := hBu1 _ rfl
        refine X_then_exit ?_
        exact X_env _ (by kernel_rfl) (K0_u1 _ _ ⟨(), m2, ho, rfl, hm, st⟩)

def testgateref03_Frames_L1 (N : Nat) (p0 : List UInt8) (s1 : (List (Int × List UInt8)) × Int) : Option (((List (Int × List UInt8)) × Int) ⊕ (((List (Int × List UInt8)) × Int) ⊕ ((List (Int × List UInt8)) × Int × Int))) :=
  if (decide (s1.2 < (List.length p0 : Int))) = true then ((testgateref03_Next N p0 s1.2).bind fun y1 => if (y1.2.2 != 0) = true then (some (.inr (.inr ((s1.1, s1.2, y1.2.2))))) else ((appendS 32 s1.1 ([(y1.1.1, y1.1.2)])).bind fun l1 => some (.inl (l1, y1.2.1)))) else (some (.inr (.inl (s1.1, s1.2))))

def testgateref03_Frames (N : Nat) (p0 : List UInt8) : Option ((List (Int × List UInt8)) × Int × Int) :=
  (loopM (testgateref03_Frames_L1 N p0) N (([] : List (Int × List UInt8)), 0)).bind fun out1 => (match out1 with | .inl o1 => some (o1.1, o1.2, 0) | .inr (z) => some z)

set_option maxHeartbeats 4000000 in
set_option maxRecDepth 100000 in
theorem testgateref03_Frames_ok {N : Nat} {m : Mem} {own : List Piece} {w : World} {p0 : List UInt8} {a1 : Option Addr} {c1 : Nat} {r : (List (Int × List UInt8)) × Int × Int} (st : St m (own) w) (r1 : RepS cU8 m a1 c1 p0) (hr : testgateref03_Frames N p0 = some r) : Calls Go.Proofs.Try.prog 40 #[.slice a1 (List.length p0) c1] w fun e w' => ∃ (ra1 : Option Addr) (rc1 : Nat) (m' : Mem), e = .returned (.tuple #[.slice ra1 (List.length r.1) rc1, .int .i64 r.2.1, .int .i64 r.2.2]) ∧ m.le m' ∧ St m' (.room ra1 (List.length r.1) rc1 54 2 :: own) w' ∧ RepS (cPair (cInt .i64) (cSl cU8)) m' ra1 rc1 r.1 := by
  unfold testgateref03_Frames at hr
  have hm := m.le_refl
  refine W_calls Go.Proofs.Try.func40 rfl Go.Proofs.Try.ntmps40 [(0, .slice a1 (List.length p0) c1)] (by kernel_rfl) rfl ?_
  refine W_seq ?_
  refine W_region ?_
  refine WO_seg 3 [(2, .slice none (List.length ([] : List (Int × List UInt8))) 0), (3, .int .i64 0)] (by kernel_rfl) (by kernel_rfl) ?_
  refine WO_end rfl ?_
  refine X_then ?_
  refine W_seq ?_
  refine W_block ?_
  replace hr := bindS hr
  obtain ⟨out1, hr, hrKu1⟩ := hr
  refine W_cut (.exit 0) (fun L' w' => ∃ (o1 : (List (Int × List UInt8)) × Int) (a2 : Option Addr) (c2 : Nat) (m1 : Mem), (.inl o1) = out1 ∧ L' = [(2, .slice a2 (List.length o1.1) c2), (3, .int .i64 o1.2)] ∧ m.le m1 ∧ St m1 (.room a2 (List.length o1.1) c2 54 2 :: own) w' ∧ RepS (cPair (cInt .i64) (cSl cU8)) m1 a2 c2 o1.1) ?_ ?_
  · clear hr st
    rintro _ w1 ⟨o1, a2, c2, m1, rfl, rfl, hm, st, r2⟩
    have hr := hrKu1
    clear hrKu1
    dsimp only at hr
    refine X_block_eq ?_
    refine X_then ?_
    refine W_seq ?_
    refine W_region ?_
    refine WO_seg 5 [(2, .slice a2 (List.length o1.1) c2), (3, .int .i64 o1.2), (4, .int .i64 0)] (by kernel_rfl) (by kernel_rfl) ?_
    refine WO_end rfl ?_
    refine X_then ?_
    refine W_ret ?_
    obtain rfl := Option.some.inj hr
    refine X_ret [.tmp 2, .tmp 3, .tmp 4] [.slice a2 (List.length o1.1) c2, .int .i64 o1.2, .int .i64 0] rfl (ResAll.cons (ResAt.tmp (by kernel_rfl)) (ResAll.cons (ResAt.tmp (by kernel_rfl)) (ResAll.cons (ResAt.tmp (by kernel_rfl)) ResAll.nil))) ?_
    exact ⟨a2, c2, m1, rfl, hm, st, r2⟩
  intro K0_u1
  have st := st.nilroom 54 2
  refine W_env _ (by kernel_rfl) (W_loop (fun k1 L' w' => ∃ (s1 : (List (Int × List UInt8)) × Int) (a3 : Option Addr) (c3 : Nat) (m2 : Mem), loopM (testgateref03_Frames_L1 N p0) k1 s1 = some out1 ∧ L' = [(0, .slice a1 (List.length p0) c1), (2, .slice a3 (List.length s1.1) c3), (3, .int .i64 s1.2)] ∧ m.le m2 ∧ St m2 (.room a3 (List.length s1.1) c3 54 2 :: own) w' ∧ RepS cU8 m2 a1 c1 p0 ∧ RepS (cPair (cInt .i64) (cSl cU8)) m2 a3 c3 s1.1) N ⟨(([] : List (Int × List UInt8)), 0), none, 0, m, hr, rfl, hm, st, r1, (RepS.nil _ _)⟩ ?_)
  clear st hr
  rintro k1 _ w2 ⟨s1, a3, c3, m2, hL, rfl, hm, st, r1, r3⟩
  rcases k1 with _ | k1
  · exact loopM_zero hL
  · obtain ⟨qu1, hr, hSu1, hBu1⟩ := loopM_succ hL
    clear hL
    unfold testgateref03_Frames_L1 at hr
    refine W_seq ?_
    refine W_seq ?_
    refine W_region ?_
    refine WO_seg 4 [(11, .bool (decide (s1.2 < (List.length p0 : Int))))] (by kernel_rfl) (by kernel_rfl) ?_
    refine WO_end rfl ?_
    refine X_then ?_
    refine W_cond (decide (s1.2 < (List.length p0 : Int))) (by kernel_rfl) ?_ ?_
    · intro hc
      rw [if_pos hc] at hr
      refine W_skip ?_
      refine X_then ?_
      refine W_block ?_
      refine W_seq ?_
      refine W_region ?_
      refine WO_seg 2 [(13, .slice a1 (List.length p0) c1), (14, .int .i64 s1.2)] (by kernel_rfl) (by kernel_rfl) ?_
      replace hr := bindS hr
      obtain ⟨y1, hx1, hr⟩ := hr
      refine WO_one rfl (One_fn 15 37 #[.slice a1 (List.length p0) c1, .int .i64 s1.2] (by kernel_rfl) rfl ?_)
      refine (testgateref03_Next_ok st r1 hx1).mono ?_
      clear st
      rintro _ w3 ⟨a4, c4, m3, rfl, hle1, st, r4⟩
      refine ⟨_, rfl, ?_⟩
      have hm := Mem.le_trans hm hle1
      have r1 := r1.mono hle1
      have r3 := r3.mono hle1
      refine WO_seg 4 [(16, .agg #[.int .i64 y1.1.1, .slice a4 (List.length y1.1.2) c4]), (17, .int .i64 y1.2.1), (18, .int .i64 y1.2.2)] (by kernel_rfl) (by kernel_rfl) ?_
      refine WO_one rfl (One_alloc (d := 5) (e := 54) (.agg #[.int .i64 0, .slice none 0 0]) (by kernel_rfl) rfl (by kernel_rfl) st ?_)
      clear st
      intro b1 w4 st
      refine WO_one rfl (One_store (t := 54) (x := (.tmp 5)) (y := (.tmp 16)) (v := .agg #[.int .i64 y1.1.1, .slice a4 (List.length y1.1.2) c4]) (c' := #[.int .i64 y1.1.1, .slice a4 (List.length y1.1.2) c4]) (by kernel_rfl) (show evL _ _ = some (.pointer (some ⟨b1, 0, none⟩)) from (by kernel_rfl)) (show evL _ _ = some (.agg #[.int .i64 y1.1.1, .slice a4 (List.length y1.1.2) c4]) from (by kernel_rfl)) st (by kernel_rfl) (by kernel_rfl) ?_)
      clear st
      intro w5 st
      refine WO_seg 2 [(6, .int .i64 y1.2.1), (7, .int .i64 y1.2.2)] (by kernel_rfl) (by kernel_rfl) ?_
      refine WO_end rfl ?_
      refine X_then ?_
      refine W_seq ?_
      refine W_seq ?_
      refine W_region ?_
      refine WO_seg 2 [(20, .bool (y1.2.2 != 0))] (by kernel_rfl) (by kernel_rfl) ?_
      refine WO_end rfl ?_
      refine X_then ?_
      refine W_cond (y1.2.2 != 0) (by kernel_rfl) ?_ ?_
      · intro hc
        rw [if_pos hc] at hr
        refine W_seq ?_
        refine W_region ?_
        refine WO_seg 6 [(2, .slice a3 (List.length s1.1) c3), (3, .int .i64 s1.2), (4, .int .i64 y1.2.2)] (by kernel_rfl) (by kernel_rfl) ?_
        refine WO_end rfl ?_
        refine X_then ?_
        refine W_ret ?_
        refine X_then_ret ?_
        refine X_block_ret ?_
        obtain rfl := Option.some.inj hr
        have ho := hBu1 _ rfl
        subst ho
        have hr := hrKu1
        dsimp only at hr
        refine X_then_ret ?_
        refine X_block_ret ?_
        refine X_then_ret ?_
        obtain rfl := Option.some.inj hr
        refine X_ret [.tmp 2, .tmp 3, .tmp 4] [.slice a3 (List.length s1.1) c3, .int .i64 s1.2, .int .i64 y1.2.2] rfl (ResAll.cons (ResAt.tmp (by kernel_rfl)) (ResAll.cons (ResAt.tmp (by kernel_rfl)) (ResAll.cons (ResAt.tmp (by kernel_rfl)) ResAll.nil))) ?_
        have st := st.tail
        have st := st.tail
        exact ⟨a3, c3, m3, rfl, hm, st, r3⟩
      · intro hc
        rw [if_neg (not_true hc)] at hr
        refine W_skip ?_
        refine X_then ?_
        refine W_seq ?_
        refine W_region ?_
        refine WO_seg 1 [(24, .slice a3 (List.length s1.1) c3)] (by kernel_rfl) (by kernel_rfl) ?_
        refine WO_one rfl (One_load_own (d := 25) (t := 54) (x := (.tmp 5)) (.agg #[.int .i64 y1.1.1, .slice a4 (List.length y1.1.2) c4]) (by kernel_rfl) rfl (show evL _ _ = some (.pointer (some ⟨b1, 0, none⟩)) from (by kernel_rfl)) st.head (by kernel_rfl) ?_)
        refine WO_one rfl (One_buildSlice (d := 26) (t := 62) (e := 54) (len := 1) (parts := #[(0, (.tmp 25))]) (cPair (cInt .i64) (cSl cU8)) (xs := [(y1.1.1, y1.1.2)]) [.int .i64 y1.1.1, .slice a4 (List.length y1.1.2) c4] (by kernel_rfl) rfl (fun _ => buildCells_run (by kernel_rfl) _) rfl rfl st ⟨[.int .i64 y1.1.1, .slice a4 (List.length y1.1.2) c4], _, rfl, ⟨_, _, rfl, rfl, (cSl_mk r4)⟩, rfl⟩ ?_)
        clear st
        intro b2 m4 w6 hle2 st r5
        have hm := Mem.le_trans hm hle2
        have r1 := r1.mono hle2
        have r3 := r3.mono hle2
        have r4 := r4.mono hle2
        have st := st.front3
        replace hr := bindS hr
        obtain ⟨l1, hx2, hr⟩ := hr
        refine WO_one rfl (One_append (d := 27) (t := 62) (u := 62) (e := 54) (by_ := 32) (x := (.tmp 24)) (y := (.tmp 26)) (cPair (cInt .i64) (cSl cU8)) (by kernel_rfl) rfl (show evL _ _ = some (.slice a3 (List.length s1.1) c3) from (by kernel_rfl)) (show evL _ _ = some (.slice (some ⟨b2, 0, none⟩) (List.length ([(y1.1.1, y1.1.2)])) 1) from (by kernel_rfl)) st (by kernel_rfl) (.inl (by kernel_rfl)) r3 r5.src hx2 ?_)
        clear st
        intro a5 c5 m5 w7 hle3 st r6
        have hm := Mem.le_trans hm hle3
        have r1 := r1.mono hle3
        have r3 := r3.mono hle3
        have r4 := r4.mono hle3
        have r5 := r5.mono hle3
        refine WO_seg 1 [(2, .slice a5 (List.length l1) c5)] (by kernel_rfl) (by kernel_rfl) ?_
        refine WO_end rfl ?_
        have st := st.front1
        have st := st.tail
        refine X_then ?_
        refine W_region ?_
        refine WO_seg 2 [(3, .int .i64 y1.2.1)] (by kernel_rfl) (by kernel_rfl) ?_
        refine WO_end rfl ?_
        refine X_block ?_
        obtain rfl := Option.some.inj hr
        have hL := hSu1 _ rfl
        have st := st.front1
        have st := st.tail
        have st := st.front1
        have st := st.tail
        exact X_env _ (by kernel_rfl) (X_round k1 (Nat.lt_succ_self _) ⟨(l1, y1.2.1), a5, c5, m5, hL, rfl, hm, st, r1, r6⟩)
    · intro hc
      rw [if_neg (not_true hc)] at hr
      refine W_exit ?_
      refine X_then_exit ?_
      obtain rfl := Option.some.inj hr
      have ho := hBu1 _ rfl
      refine X_then_exit ?_
      exact X_env _ (by kernel_rfl) (K0_u1 _ _ ⟨(s1.1, s1.2), a3, c3, m2, ho, rfl, hm, st, r3⟩)

def testgatelaw03_WireFrames_L2 (N : Nat) (p3 : Int) (y1 : List UInt8 × Int) (x1 : List UInt8) (s2 : Int) : Option ((Int) ⊕ ((Unit) ⊕ (Bool))) :=
  if (decide (s2 < (List.length ([0, p3, (List.length y1.1 : Int), (-1), (List.length x1 : Int), IntKind.wrap .i64 ((List.length x1 : Int) + 1)]) : Int))) = true then ((idx ([0, p3, (List.length y1.1 : Int), (-1), (List.length x1 : Int), IntKind.wrap .i64 ((List.length x1 : Int) + 1)]) s2).bind fun x2 => (wire_Next N x1 x2).bind fun y6 => (testgateref03_Next N x1 x2).bind fun y7 => (if (y6.2.2 != y7.2.2) = true then (some true) else (if (y6.2.1 != y7.2.1) = true then (some true) else ((testgateref03_SameFrames N ([(y6.1.1, y6.1.2)]) ([(y7.1.1, y7.1.2)])).bind fun y8 => some (!y8))) : Option (Bool)).bind fun o6 => if o6 = true then (some (.inr (.inr (false)))) else (some (.inl (IntKind.wrap .i64 (s2 + 1))))) else (some (.inr (.inl ())))

def testgatelaw03_WireFrames_L1 (N : Nat) (p3 : Int) (o1 : List (UInt8)) (y1 : List UInt8 × Int) (l5 : List (UInt8)) (l6 : List (UInt8)) (s1 : Int) : Option ((Int) ⊕ ((Unit) ⊕ (Bool))) :=
  if (decide (s1 < (List.length ([o1, l5, l6]) : Int))) = true then ((idx ([o1, l5, l6]) s1).bind fun x1 => (loopM (testgatelaw03_WireFrames_L2 N p3 y1 x1) N 0).bind fun out2 => (match out2 with | .inl o5 => (wire_Frames N x1).bind fun y9 => (testgateref03_Frames N x1).bind fun y10 => (if (y9.2.2 != y10.2.2) = true then (some true) else (if (y9.2.1 != y10.2.1) = true then (some true) else ((testgateref03_SameFrames N y9.1 y10.1).bind fun y11 => some (!y11))) : Option (Bool)).bind fun o7 => if o7 = true then (some (.inr (.inr (false)))) else (some (.inl (IntKind.wrap .i64 (s1 + 1)))) | .inr (z) => some (.inr (.inr (z))))) else (some (.inr (.inl ())))

def testgatelaw03_WireFrames (N : Nat) (p0 : List UInt8) (p1 : Int) (p2 : List UInt8) (p3 : Int) : Option (Bool) :=
  (if (decide ((List.length p0 : Int) > 600)) = true then ((subS p0 0 600).bind fun l1 => some l1) else (some p0) : Option (List (UInt8))).bind fun o1 => (wire_Frame N (p1, o1)).bind fun y1 => (testgateref03_Frame N (p1, o1)).bind fun y2 => (if (y1.2 != y2.2) = true then (some true) else ((testgateref03_Same N y1.1 y2.1).bind fun y3 => if (!y3) = true then (some true) else ((wire_Checksum N o1).bind fun y4 => (testgateref03_Checksum N o1).bind fun y5 => some (y4 != y5))) : Option (Bool)).bind fun o2 => if o2 = true then (some false) else ((if (decide ((List.length p2 : Int) > 200)) = true then ((subS p2 0 200).bind fun l2 => some l2) else (some p2) : Option (List (UInt8))).bind fun o3 => (appendS 1 ([] : List (UInt8)) y1.1).bind fun l3 => (appendS 1 l3 o3).bind fun l4 => (appendS 1 l4 y1.1).bind fun l5 => (appendS 1 ([(247 : UInt8)]) o3).bind fun l6 => (loopM (testgatelaw03_WireFrames_L1 N p3 o1 y1 l5 l6) N 0).bind fun out1 => (match out1 with | .inl o4 => (testgatelaw03_awake N).bind fun y12 => some y12 | .inr (z) => some z))

set_option maxHeartbeats 4000000 in
set_option maxRecDepth 100000 in
theorem testgatelaw03_WireFrames_ok {N : Nat} {m : Mem} {own : List Piece} {w : World} {p0 : List UInt8} {p1 : Int} {p2 : List UInt8} {p3 : Int} {a1 : Option Addr} {c1 : Nat} {a2 : Option Addr} {c2 : Nat} {r : Bool} (st : St m (own) w) (r1 : RepS cU8 m a1 c1 p0) (r2 : RepS cU8 m a2 c2 p2) (hr : testgatelaw03_WireFrames N p0 p1 p2 p3 = some r) : Calls Go.Proofs.Try.prog 5 #[.slice a1 (List.length p0) c1, .int .i64 p1, .slice a2 (List.length p2) c2, .int .i64 p3] w fun e w' => ∃ (m' : Mem), e = .returned (.bool r) ∧ m.le m' ∧ St m' (own) w' := by
  unfold testgatelaw03_WireFrames at hr
  have hm := m.le_refl
  refine W_calls Go.Proofs.Try.func5 rfl Go.Proofs.Try.ntmps5 [(0, .slice a1 (List.length p0) c1), (1, .int .i64 p1), (2, .slice a2 (List.length p2) c2), (3, .int .i64 p3)] (by kernel_rfl) rfl ?_
  refine W_seq ?_
  refine W_region ?_
  refine WO_seg 1 [] (by kernel_rfl) (by kernel_rfl) ?_
  refine WO_end rfl ?_
  refine X_then ?_
  refine W_seq ?_
  refine W_seq ?_
  refine W_region ?_
  refine WO_seg 3 [(31, .bool (decide ((List.length p0 : Int) > 600)))] (by kernel_rfl) (by kernel_rfl) ?_
  refine WO_end rfl ?_
  refine X_then ?_
  replace hr := bindS hr
  obtain ⟨o1, hr, hrKu1⟩ := hr
  refine W_cut .normal (fun L' w' => ∃ (a3 : Option Addr) (c3 : Nat) (m1 : Mem), L' = [(0, .slice a3 (List.length o1) c3), (1, .int .i64 p1), (2, .slice a2 (List.length p2) c2), (3, .int .i64 p3)] ∧ m.le m1 ∧ St m1 (own) w' ∧ RepS cU8 m1 a3 c3 o1 ∧ RepS cU8 m1 a2 c2 p2) ?_ ?_
  · clear hr st
    have hr := hrKu1
    clear hrKu1
    rintro _ w1 ⟨a3, c3, m1, rfl, hm, st, r3, r2⟩
    refine X_then ?_
    refine W_seq ?_
    refine W_region ?_
    refine WO_seg 3 [(37, .agg #[.int .i64 p1, .slice a3 (List.length o1) c3])] (by kernel_rfl) (by kernel_rfl) ?_
    replace hr := bindS hr
    obtain ⟨y1, hx2, hr⟩ := hr
    refine WO_one rfl (One_fn 38 31 #[.agg #[.int .i64 p1, .slice a3 (List.length o1) c3]] (by kernel_rfl) rfl ?_)
    refine (wire_Frame_ok st r3 hx2).mono ?_
    clear st
    rintro _ w2 ⟨a5, c5, m2, rfl, hle1, st, r5⟩
    refine ⟨_, rfl, ?_⟩
    have hm := Mem.le_trans hm hle1
    have r3 := r3.mono hle1
    have r2 := r2.mono hle1
    refine WO_seg 5 [(9, .slice a5 (List.length y1.1) c5), (10, .int .i64 y1.2)] (by kernel_rfl) (by kernel_rfl) ?_
    refine WO_end rfl ?_
    refine X_then ?_
    refine W_seq ?_
    refine W_region ?_
    refine WO_seg 3 [(44, .agg #[.int .i64 p1, .slice a3 (List.length o1) c3])] (by kernel_rfl) (by kernel_rfl) ?_
    replace hr := bindS hr
    obtain ⟨y2, hx3, hr⟩ := hr
    refine WO_one rfl (One_fn 45 32 #[.agg #[.int .i64 p1, .slice a3 (List.length o1) c3]] (by kernel_rfl) rfl ?_)
    refine (testgateref03_Frame_ok st r3 hx3).mono ?_
    clear st
    rintro _ w3 ⟨a6, c6, m3, rfl, hle2, st, r6⟩
    refine ⟨_, rfl, ?_⟩
    have hm := Mem.le_trans hm hle2
    have r3 := r3.mono hle2
    have r2 := r2.mono hle2
    have r5 := r5.mono hle2
    refine WO_seg 5 [(11, .slice a6 (List.length y2.1) c6), (12, .int .i64 y2.2)] (by kernel_rfl) (by kernel_rfl) ?_
    refine WO_end rfl ?_
    refine X_then ?_
    refine W_seq ?_
    refine W_seq ?_
    refine W_region ?_
    replace hr := bindS hr
    obtain ⟨o2, hr, hrK⟩ := hr
    refine WO_cut (j := 16) (fun L' w' => ∃ (m4 : Mem), L' = [(0, .slice a3 (List.length o1) c3), (2, .slice a2 (List.length p2) c2), (3, .int .i64 p3), (9, .slice a5 (List.length y1.1) c5), (63, .bool o2)] ∧ m.le m4 ∧ St m4 (.room a6 (List.length y2.1) c6 5 1 :: .room a5 (List.length y1.1) c5 5 1 :: own) w' ∧ RepS cU8 m4 a3 c3 o1 ∧ RepS cU8 m4 a2 c2 p2 ∧ RepS cU8 m4 a5 c5 y1.1) ?_ ?_
    · clear hr st
      have hr := hrK
      clear hrK
      rintro _ w4 ⟨m4, rfl, hm, st, r3, r2, r5⟩
      refine WO_end rfl ?_
      refine X_then ?_
      refine W_cond o2 (by kernel_rfl) ?_ ?_
      · intro hc
        rw [if_pos hc] at hr
        refine W_seq ?_
        refine W_region ?_
        refine WO_seg 1 [(8, .bool false)] (by kernel_rfl) (by kernel_rfl) ?_
        refine WO_end rfl ?_
        have st := st.tail
        have st := st.tail
        refine X_then ?_
        refine W_ret ?_
        refine X_then_ret ?_
        obtain rfl := Option.some.inj hr
        refine X_ret [.tmp 8] [.bool false] rfl (ResAll.cons (ResAt.tmp (by kernel_rfl)) ResAll.nil) ?_
        exact ⟨m4, rfl, hm, st⟩
      · intro hc
        rw [if_neg (not_true hc)] at hr
        refine W_skip ?_
        refine X_then ?_
        refine W_seq ?_
        refine W_seq ?_
        refine W_region ?_
        refine WO_seg 3 [(66, .bool (decide ((List.length p2 : Int) > 200)))] (by kernel_rfl) (by kernel_rfl) ?_
        refine WO_end rfl ?_
        have st := st.tail
        refine X_then ?_
        replace hr := bindS hr
        obtain ⟨o3, hr, hrKu2⟩ := hr
        refine W_cut .normal (fun L' w' => ∃ (a7 : Option Addr) (c7 : Nat) (m8 : Mem), L' = [(0, .slice a3 (List.length o1) c3), (2, .slice a7 (List.length o3) c7), (3, .int .i64 p3), (9, .slice a5 (List.length y1.1) c5)] ∧ m.le m8 ∧ St m8 (.room a5 (List.length y1.1) c5 5 1 :: own) w' ∧ RepS cU8 m8 a3 c3 o1 ∧ RepS cU8 m8 a7 c7 o3 ∧ RepS cU8 m8 a5 c5 y1.1) ?_ ?_
        · clear hr st
          have hr := hrKu2
          clear hrKu2
          rintro _ w8 ⟨a7, c7, m8, rfl, hm, st, r3, r7, r5⟩
          refine X_then ?_
          refine W_seq ?_
          refine W_seq ?_
          refine W_region ?_
          refine WO_seg 2 [(69, .slice a3 (List.length o1) c3), (70, .slice a5 (List.length y1.1) c5)] (by kernel_rfl) (by kernel_rfl) ?_
          have st := st.nilroom 5 1
          replace hr := bindS hr
          obtain ⟨l3, hx8, hr⟩ := hr
          refine WO_one rfl (One_append (d := 71) (t := 50) (u := 50) (e := 5) (by_ := 1) (x := (.const (.slice none 0 0))) (y := (.tmp 70)) cU8 (by kernel_rfl) rfl (show evL _ _ = some (.slice none (List.length ([] : List (UInt8))) 0) from (by kernel_rfl)) (show evL _ _ = some (.slice a5 (List.length y1.1) c5) from (by kernel_rfl)) st (by kernel_rfl) (.inl (by kernel_rfl)) (RepS.nil _ _) r5.src hx8 ?_)
          clear st
          intro a9 c9 m9 w9 hle6 st r9
          have hm := Mem.le_trans hm hle6
          have r3 := r3.mono hle6
          have r7 := r7.mono hle6
          have r5 := r5.mono hle6
          refine WO_seg 1 [(72, .slice a7 (List.length o3) c7)] (by kernel_rfl) (by kernel_rfl) ?_
          replace hr := bindS hr
          obtain ⟨l4, hx9, hr⟩ := hr
          refine WO_one rfl (One_append (d := 73) (t := 50) (u := 50) (e := 5) (by_ := 1) (x := (.tmp 71)) (y := (.tmp 72)) cU8 (by kernel_rfl) rfl (show evL _ _ = some (.slice a9 (List.length l3) c9) from (by kernel_rfl)) (show evL _ _ = some (.slice a7 (List.length o3) c7) from (by kernel_rfl)) st (by kernel_rfl) (.inl (by kernel_rfl)) r9 r7.src hx9 ?_)
          clear st
          intro a10 c10 m10 w10 hle7 st r10
          have hm := Mem.le_trans hm hle7
          have r3 := r3.mono hle7
          have r7 := r7.mono hle7
          have r5 := r5.mono hle7
          have r9 := r9.mono hle7
          refine WO_seg 1 [(74, .slice a5 (List.length y1.1) c5)] (by kernel_rfl) (by kernel_rfl) ?_
          replace hr := bindS hr
          obtain ⟨l5, hx10, hr⟩ := hr
          refine WO_one rfl (One_append (d := 75) (t := 50) (u := 50) (e := 5) (by_ := 1) (x := (.tmp 73)) (y := (.tmp 74)) cU8 (by kernel_rfl) rfl (show evL _ _ = some (.slice a10 (List.length l4) c10) from (by kernel_rfl)) (show evL _ _ = some (.slice a5 (List.length y1.1) c5) from (by kernel_rfl)) st (by kernel_rfl) (.inl (by kernel_rfl)) r10 r5.src hx10 ?_)
          clear st
          intro a11 c11 m11 w11 hle8 st r11
          have hm := Mem.le_trans hm hle8
          have r3 := r3.mono hle8
          have r7 := r7.mono hle8
          have r5 := r5.mono hle8
          have r9 := r9.mono hle8
          have r10 := r10.mono hle8
          refine WO_one rfl (One_buildSlice (d := 76) (t := 50) (e := 5) (len := 1) (parts := #[(0, (.const (.int .u8 247)))]) cU8 (xs := [(247 : UInt8)]) [.int .u8 247] (by kernel_rfl) rfl (fun _ => buildCells_run (by kernel_rfl) _) rfl rfl st ⟨[.int .u8 247], _, rfl, rfl, rfl⟩ ?_)
          clear st
          intro b1 m12 w12 hle9 st r12
          have hm := Mem.le_trans hm hle9
          have r3 := r3.mono hle9
          have r7 := r7.mono hle9
          have r5 := r5.mono hle9
          have r9 := r9.mono hle9
          have r10 := r10.mono hle9
          have r11 := r11.mono hle9
          refine WO_seg 1 [(77, .slice a7 (List.length o3) c7)] (by kernel_rfl) (by kernel_rfl) ?_
          replace hr := bindS hr
          obtain ⟨l6, hx11, hr⟩ := hr
          refine WO_one rfl (One_append (d := 78) (t := 50) (u := 50) (e := 5) (by_ := 1) (x := (.tmp 76)) (y := (.tmp 77)) cU8 (by kernel_rfl) rfl (show evL _ _ = some (.slice (some ⟨b1, 0, none⟩) (List.length ([(247 : UInt8)])) 1) from (by kernel_rfl)) (show evL _ _ = some (.slice a7 (List.length o3) c7) from (by kernel_rfl)) st (by kernel_rfl) (.inl (by kernel_rfl)) r12 r7.src hx11 ?_)
          clear st
          intro a12 c12 m13 w13 hle10 st r13
          have hm := Mem.le_trans hm hle10
          have r3 := r3.mono hle10
          have r7 := r7.mono hle10
          have r5 := r5.mono hle10
          have r9 := r9.mono hle10
          have r10 := r10.mono hle10
          have r11 := r11.mono hle10
          have r12 := r12.mono hle10
          refine WO_one rfl (One_buildSlice (d := 79) (t := 58) (e := 50) (len := 3) (parts := #[(0, (.tmp 69)), (1, (.tmp 75)), (2, (.tmp 78))]) (cSl cU8) (xs := [o1, l5, l6]) [.slice a3 (List.length o1) c3, .slice a11 (List.length l5) c11, .slice a12 (List.length l6) c12] (by kernel_rfl) rfl (fun _ => buildCells_run (by kernel_rfl) _) rfl rfl st ⟨[.slice a3 (List.length o1) c3], _, rfl, (cSl_mk r3), ⟨[.slice a11 (List.length l5) c11], _, rfl, (cSl_mk r11), ⟨[.slice a12 (List.length l6) c12], _, rfl, (cSl_mk r13), rfl⟩⟩⟩ ?_)
          clear st
          intro b2 m14 w14 hle11 st r14
          have hm := Mem.le_trans hm hle11
          have r3 := r3.mono hle11
          have r7 := r7.mono hle11
          have r5 := r5.mono hle11
          have r9 := r9.mono hle11
          have r10 := r10.mono hle11
          have r11 := r11.mono hle11
          have r12 := r12.mono hle11
          have r13 := r13.mono hle11
          refine WO_seg 2 [(80, .int .i64 (List.length ([o1, l5, l6]) : Int)), (81, .int .i64 0)] (by kernel_rfl) (by kernel_rfl) ?_
          refine WO_end rfl ?_
          have st := st.front1
          have st := st.tail
          have st := st.front1
          have st := st.tail
          refine X_then ?_
          refine W_block ?_
          replace hr := bindS hr
          obtain ⟨out1, hr, hrKu3⟩ := hr
          refine W_cut (.exit 0) (fun L' w' => ∃ (o4 : Unit) (m15 : Mem), (.inl o4) = out1 ∧ L' = [] ∧ m.le m15 ∧ St m15 (.room (some ⟨b2, 0, none⟩) (List.length ([o1, l5, l6])) 3 50 1 :: .room a5 (List.length y1.1) c5 5 1 :: own) w') ?_ ?_
          · clear hr st
            rintro _ w15 ⟨o4, m15, rfl, rfl, hm, st⟩
            have hr := hrKu3
            clear hrKu3
            dsimp only at hr
            refine X_block_eq ?_
            refine X_then ?_
            refine W_seq ?_
            refine W_region ?_
            replace hr := bindS hr
            obtain ⟨y12, hx20, hr⟩ := hr
            refine WO_one rfl (One_fn 157 41 #[] (by kernel_rfl) rfl ?_)
            refine (testgatelaw03_awake_ok st hx20).mono ?_
            clear st
            rintro _ w34 ⟨m30, rfl, hle21, st⟩
            refine ⟨_, rfl, ?_⟩
            have hm := Mem.le_trans hm hle21
            refine WO_seg 1 [(8, .bool y12)] (by kernel_rfl) (by kernel_rfl) ?_
            refine WO_end rfl ?_
            have st := st.tail
            have st := st.tail
            refine X_then ?_
            refine W_ret ?_
            obtain rfl := Option.some.inj hr
            refine X_ret [.tmp 8] [.bool y12] rfl (ResAll.cons (ResAt.tmp (by kernel_rfl)) ResAll.nil) ?_
            exact ⟨m30, rfl, hm, st⟩
          intro K0_u3
          have st := st.front1
          have st := st.front1
          refine W_env _ (by kernel_rfl) (W_loop (fun k1 L' w' => ∃ (s1 : Int) (m16 : Mem), loopM (testgatelaw03_WireFrames_L1 N p3 o1 y1 l5 l6) k1 s1 = some out1 ∧ L' = [(3, .int .i64 p3), (9, .slice a5 (List.length y1.1) c5), (79, .slice (some ⟨b2, 0, none⟩) (List.length ([o1, l5, l6])) 3), (80, .int .i64 (List.length ([o1, l5, l6]) : Int)), (81, .int .i64 s1)] ∧ m.le m16 ∧ St m16 (.room (some ⟨b2, 0, none⟩) (List.length ([o1, l5, l6])) 3 50 1 :: .room a5 (List.length y1.1) c5 5 1 :: own) w' ∧ RepS cU8 m16 a5 c5 y1.1 ∧ RepS (cSl cU8) m16 (some ⟨b2, 0, none⟩) 3 ([o1, l5, l6])) N ⟨0, m14, hr, rfl, hm, st, r5, r14⟩ ?_)
          clear st hr
          rintro k1 _ w16 ⟨s1, m16, hL, rfl, hm, st, r5, r14⟩
          rcases k1 with _ | k1
          · exact loopM_zero hL
          · obtain ⟨qu3, hr, hSu3, hBu3⟩ := loopM_succ hL
            clear hL
            unfold testgatelaw03_WireFrames_L1 at hr
            refine W_seq ?_
            refine W_region ?_
            refine WO_seg 1 [(82, .bool (decide (s1 < (List.length ([o1, l5, l6]) : Int))))] (by kernel_rfl) (by kernel_rfl) ?_
            refine WO_end rfl ?_
            refine X_then ?_
            refine W_seq ?_
            refine W_cond (decide (s1 < (List.length ([o1, l5, l6]) : Int))) (by kernel_rfl) ?_ ?_
            · intro hc
              rw [if_pos hc] at hr
              refine W_skip ?_
              refine X_then ?_
              refine W_seq ?_
              refine W_block ?_
              refine W_seq ?_
              refine W_region ?_
              replace hr := bindS hr
              obtain ⟨x1, hx12, hr⟩ := hr
              refine WO_one rfl (One_index (d := 83) (t := 58) (e := 50) (x := (.tmp 79)) (y := (.tmp 81)) (cSl cU8) (by kernel_rfl) rfl (show evL _ _ = some (.slice (some ⟨b2, 0, none⟩) (List.length ([o1, l5, l6])) 3) from (by kernel_rfl)) (show evL _ _ = some (.int .i64 s1) from (by kernel_rfl)) (by kernel_rfl) r14 hx12 ?_)
              rintro b3 f1 cs1 ⟨a13, c13, rfl, r15⟩ hq1
              refine WO_one rfl (One_load_row (d := 84) (t := 50) (x := (.tmp 83)) (.slice a13 (List.length x1) c13) (by kernel_rfl) rfl (show evL _ _ = some (.pointer (some ⟨b3, f1, none⟩)) from (by kernel_rfl)) st hq1 (by kernel_rfl) ?_)
              refine WO_seg 1 [(14, .slice a13 (List.length x1) c13)] (by kernel_rfl) (by kernel_rfl) ?_
              refine WO_end rfl ?_
              refine X_then ?_
              refine W_seq ?_
              refine W_seq ?_
              refine W_region ?_
              refine WO_seg 8 [(85, .int .i64 p3), (87, .int .i64 (List.length y1.1 : Int)), (89, .int .i64 (List.length x1 : Int)), (92, .int .i64 (IntKind.wrap .i64 ((List.length x1 : Int) + 1)))] (by kernel_rfl) (by kernel_rfl) ?_
              refine WO_one rfl (One_buildSlice (d := 93) (t := 32) (e := 3) (len := 6) (parts := #[(0, (.const (.int .i64 0))), (1, (.tmp 85)), (2, (.tmp 87)), (3, (.const (.int .i64 (-1)))), (4, (.tmp 89)), (5, (.tmp 92))]) (cInt .i64) (xs := [0, p3, (List.length y1.1 : Int), (-1), (List.length x1 : Int), IntKind.wrap .i64 ((List.length x1 : Int) + 1)]) [.int .i64 0, .int .i64 p3, .int .i64 (List.length y1.1 : Int), .int .i64 (-1), .int .i64 (List.length x1 : Int), .int .i64 (IntKind.wrap .i64 ((List.length x1 : Int) + 1))] (by kernel_rfl) rfl (fun _ => buildCells_run (by kernel_rfl) _) rfl rfl st ⟨[.int .i64 0], _, rfl, rfl, ⟨[.int .i64 p3], _, rfl, rfl, ⟨[.int .i64 (List.length y1.1 : Int)], _, rfl, rfl, ⟨[.int .i64 (-1)], _, rfl, rfl, ⟨[.int .i64 (List.length x1 : Int)], _, rfl, rfl, ⟨[.int .i64 (IntKind.wrap .i64 ((List.length x1 : Int) + 1))], _, rfl, rfl, rfl⟩⟩⟩⟩⟩⟩ ?_)
              clear st
              intro b4 m17 w17 hle12 st r16
              have hm := Mem.le_trans hm hle12
              have r5 := r5.mono hle12
              have r14 := r14.mono hle12
              have r15 := r15.mono hle12
              refine WO_seg 2 [(94, .int .i64 (List.length ([0, p3, (List.length y1.1 : Int), (-1), (List.length x1 : Int), IntKind.wrap .i64 ((List.length x1 : Int) + 1)]) : Int)), (95, .int .i64 0)] (by kernel_rfl) (by kernel_rfl) ?_
              refine WO_end rfl ?_
              refine X_then ?_
              refine W_block ?_
              replace hr := bindS hr
              obtain ⟨out2, hr, hrKu4⟩ := hr
              refine W_cut (.exit 2) (fun L' w' => ∃ (o5 : Unit) (m18 : Mem), (.inl o5) = out2 ∧ L' = [(3, .int .i64 p3), (9, .slice a5 (List.length y1.1) c5), (14, .slice a13 (List.length x1) c13), (79, .slice (some ⟨b2, 0, none⟩) (List.length ([o1, l5, l6])) 3), (80, .int .i64 (List.length ([o1, l5, l6]) : Int)), (81, .int .i64 s1)] ∧ m.le m18 ∧ St m18 (.room (some ⟨b4, 0, none⟩) (List.length ([0, p3, (List.length y1.1 : Int), (-1), (List.length x1 : Int), IntKind.wrap .i64 ((List.length x1 : Int) + 1)])) 6 3 1 :: .room (some ⟨b2, 0, none⟩) (List.length ([o1, l5, l6])) 3 50 1 :: .room a5 (List.length y1.1) c5 5 1 :: own) w' ∧ RepS cU8 m18 a5 c5 y1.1 ∧ RepS cU8 m18 a13 c13 x1 ∧ RepS (cSl cU8) m18 (some ⟨b2, 0, none⟩) 3 ([o1, l5, l6])) ?_ ?_
              · clear hr st
                rintro _ w18 ⟨o5, m18, rfl, rfl, hm, st, r5, r15, r14⟩
                have hr := hrKu4
                clear hrKu4
                dsimp only at hr
                refine X_block_eq ?_
                refine X_then ?_
                refine W_seq ?_
                refine W_region ?_
                refine WO_seg 1 [(131, .slice a13 (List.length x1) c13)] (by kernel_rfl) (by kernel_rfl) ?_
                replace hr := bindS hr
                obtain ⟨y9, hx17, hr⟩ := hr
                refine WO_one rfl (One_fn 132 39 #[.slice a13 (List.length x1) c13] (by kernel_rfl) rfl ?_)
                refine (wire_Frames_ok st r15 hx17).mono ?_
                clear st
                rintro _ w30 ⟨a16, c16, m26, rfl, hle18, st, r21⟩
                refine ⟨_, rfl, ?_⟩
                have hm := Mem.le_trans hm hle18
                have r5 := r5.mono hle18
                have r15 := r15.mono hle18
                have r14 := r14.mono hle18
                refine WO_seg 7 [(23, .slice a16 (List.length y9.1) c16), (24, .int .i64 y9.2.1), (25, .int .i64 y9.2.2)] (by kernel_rfl) (by kernel_rfl) ?_
                refine WO_end rfl ?_
                have st := st.front1
                have st := st.tail
                refine X_then ?_
                refine W_seq ?_
                refine W_region ?_
                refine WO_seg 1 [(137, .slice a13 (List.length x1) c13)] (by kernel_rfl) (by kernel_rfl) ?_
                replace hr := bindS hr
                obtain ⟨y10, hx18, hr⟩ := hr
                refine WO_one rfl (One_fn 138 40 #[.slice a13 (List.length x1) c13] (by kernel_rfl) rfl ?_)
                refine (testgateref03_Frames_ok st r15 hx18).mono ?_
                clear st
                rintro _ w31 ⟨a17, c17, m27, rfl, hle19, st, r22⟩
                refine ⟨_, rfl, ?_⟩
                have hm := Mem.le_trans hm hle19
                have r5 := r5.mono hle19
                have r15 := r15.mono hle19
                have r14 := r14.mono hle19
                have r21 := r21.mono hle19
                refine WO_seg 7 [(26, .slice a17 (List.length y10.1) c17), (27, .int .i64 y10.2.1), (28, .int .i64 y10.2.2)] (by kernel_rfl) (by kernel_rfl) ?_
                refine WO_end rfl ?_
                refine X_then ?_
                refine W_seq ?_
                refine W_region ?_
                replace hr := bindS hr
                obtain ⟨o7, hr, hrK⟩ := hr
                refine WO_cut (j := 14) (fun L' w' => ∃ (m28 : Mem), L' = [(3, .int .i64 p3), (9, .slice a5 (List.length y1.1) c5), (79, .slice (some ⟨b2, 0, none⟩) (List.length ([o1, l5, l6])) 3), (80, .int .i64 (List.length ([o1, l5, l6]) : Int)), (81, .int .i64 s1), (155, .bool o7)] ∧ m.le m28 ∧ St m28 (.room a17 (List.length y10.1) c17 54 2 :: .room a16 (List.length y9.1) c16 54 2 :: .room (some ⟨b2, 0, none⟩) (List.length ([o1, l5, l6])) 3 50 1 :: .room a5 (List.length y1.1) c5 5 1 :: own) w' ∧ RepS cU8 m28 a5 c5 y1.1 ∧ RepS (cSl cU8) m28 (some ⟨b2, 0, none⟩) 3 ([o1, l5, l6])) ?_ ?_
                · clear hr st
                  have hr := hrK
                  clear hrK
                  rintro _ w32 ⟨m28, rfl, hm, st, r5, r14⟩
                  refine WO_end rfl ?_
                  refine X_then ?_
                  refine W_cond o7 (by kernel_rfl) ?_ ?_
                  · intro hc
                    rw [if_pos hc] at hr
                    refine W_seq ?_
                    refine W_region ?_
                    refine WO_seg 1 [(8, .bool false)] (by kernel_rfl) (by kernel_rfl) ?_
                    refine WO_end rfl ?_
                    have st := st.tail
                    have st := st.tail
                    have st := st.tail
                    have st := st.tail
                    refine X_then ?_
                    refine W_ret ?_
                    refine X_block_ret ?_
                    refine X_then_ret ?_
                    obtain rfl := Option.some.inj hr
                    have ho := hBu3 _ rfl
                    subst ho
                    have hr := hrKu3
                    dsimp only at hr
                    refine X_then_ret ?_
                    refine X_block_ret ?_
                    refine X_then_ret ?_
                    obtain rfl := Option.some.inj hr
                    refine X_ret [.tmp 8] [.bool false] rfl (ResAll.cons (ResAt.tmp (by kernel_rfl)) ResAll.nil) ?_
                    exact ⟨m28, rfl, hm, st⟩
                  · intro hc
                    rw [if_neg (not_true hc)] at hr
                    refine W_skip ?_
                    refine X_block ?_
                    refine X_then ?_
                    refine W_region ?_
                    refine WO_seg 2 [(81, .int .i64 (IntKind.wrap .i64 (s1 + 1)))] (by kernel_rfl) (by kernel_rfl) ?_
                    refine WO_end rfl ?_
                    have st := st.tail
                    have st := st.tail
                    obtain rfl := Option.some.inj hr
                    have hL := hSu3 _ rfl
                    have st := st.front1
                    have st := st.front1
                    exact X_env _ (by kernel_rfl) (X_round k1 (Nat.lt_succ_self _) ⟨IntKind.wrap .i64 (s1 + 1), m28, hL, rfl, hm, st, r5, r14⟩)
                · intro K
                  clear hrK
                  refine WO_seg 4 [(145, .bool (y9.2.2 != y10.2.2))] (by kernel_rfl) (by kernel_rfl) ?_
                  rcases bcases (y9.2.2 != y10.2.2) with hc | hc
                  · rw [if_pos hc] at hr
                    refine WO_fact (t := 145) (b := true) (y9.2.2 != y10.2.2) (by kernel_rfl) hc ?_
                    refine WO_seg 10 [(155, .bool true)] (by kernel_rfl) (by kernel_rfl) ?_
                    obtain rfl := Option.some.inj hr
                    have st := st.front3
                    have st := st.front3
                    have st := st.front3
                    have st := st.front3
                    exact WO_env _ (by kernel_rfl) (K _ _ ⟨m27, rfl, hm, st, r5, r14⟩)
                  · rw [if_neg (not_true hc)] at hr
                    refine WO_fact (t := 145) (b := false) (y9.2.2 != y10.2.2) (by kernel_rfl) hc ?_
                    refine WO_seg 5 [(150, .bool (y9.2.1 != y10.2.1))] (by kernel_rfl) (by kernel_rfl) ?_
                    rcases bcases (y9.2.1 != y10.2.1) with hc | hc
                    · rw [if_pos hc] at hr
                      refine WO_fact (t := 150) (b := true) (y9.2.1 != y10.2.1) (by kernel_rfl) hc ?_
                      refine WO_seg 5 [(155, .bool true)] (by kernel_rfl) (by kernel_rfl) ?_
                      obtain rfl := Option.some.inj hr
                      have st := st.front3
                      have st := st.front3
                      have st := st.front3
                      have st := st.front3
                      exact WO_env _ (by kernel_rfl) (K _ _ ⟨m27, rfl, hm, st, r5, r14⟩)
                    · rw [if_neg (not_true hc)] at hr
                      refine WO_fact (t := 150) (b := false) (y9.2.1 != y10.2.1) (by kernel_rfl) hc ?_
                      refine WO_seg 2 [(151, .slice a16 (List.length y9.1) c16), (152, .slice a17 (List.length y10.1) c17)] (by kernel_rfl) (by kernel_rfl) ?_
                      replace hr := bindS hr
                      obtain ⟨y11, hx19, hr⟩ := hr
                      refine WO_one rfl (One_fn 153 38 #[.slice a16 (List.length y9.1) c16, .slice a17 (List.length y10.1) c17] (by kernel_rfl) rfl ?_)
                      refine (testgateref03_SameFrames_ok st r21 r22 hx19).mono ?_
                      clear st
                      rintro _ w33 ⟨m29, rfl, hle20, st⟩
                      refine ⟨_, rfl, ?_⟩
                      have hm := Mem.le_trans hm hle20
                      have r5 := r5.mono hle20
                      have r14 := r14.mono hle20
                      have r21 := r21.mono hle20
                      have r22 := r22.mono hle20
                      refine WO_seg 2 [(155, .bool (!y11))] (by kernel_rfl) (by kernel_rfl) ?_
                      obtain rfl := Option.some.inj hr
                      have st := st.front3
                      have st := st.front3
                      have st := st.front3
                      have st := st.front3
                      exact WO_env _ (by kernel_rfl) (K _ _ ⟨m29, rfl, hm, st, r5, r14⟩)
              intro K2_u4
              have st := st.front2
              have st := st.front2
              have st := st.front2
              refine W_env _ (by kernel_rfl) (W_loop (fun k2 L' w' => ∃ (s2 : Int) (m19 : Mem), loopM (testgatelaw03_WireFrames_L2 N p3 y1 x1) k2 s2 = some out2 ∧ L' = [(3, .int .i64 p3), (9, .slice a5 (List.length y1.1) c5), (14, .slice a13 (List.length x1) c13), (79, .slice (some ⟨b2, 0, none⟩) (List.length ([o1, l5, l6])) 3), (80, .int .i64 (List.length ([o1, l5, l6]) : Int)), (81, .int .i64 s1), (93, .slice (some ⟨b4, 0, none⟩) (List.length ([0, p3, (List.length y1.1 : Int), (-1), (List.length x1 : Int), IntKind.wrap .i64 ((List.length x1 : Int) + 1)])) 6), (94, .int .i64 (List.length ([0, p3, (List.length y1.1 : Int), (-1), (List.length x1 : Int), IntKind.wrap .i64 ((List.length x1 : Int) + 1)]) : Int)), (95, .int .i64 s2)] ∧ m.le m19 ∧ St m19 (.room (some ⟨b4, 0, none⟩) (List.length ([0, p3, (List.length y1.1 : Int), (-1), (List.length x1 : Int), IntKind.wrap .i64 ((List.length x1 : Int) + 1)])) 6 3 1 :: .room (some ⟨b2, 0, none⟩) (List.length ([o1, l5, l6])) 3 50 1 :: .room a5 (List.length y1.1) c5 5 1 :: own) w' ∧ RepS cU8 m19 a5 c5 y1.1 ∧ RepS cU8 m19 a13 c13 x1 ∧ RepS (cSl cU8) m19 (some ⟨b2, 0, none⟩) 3 ([o1, l5, l6]) ∧ RepS (cInt .i64) m19 (some ⟨b4, 0, none⟩) 6 ([0, p3, (List.length y1.1 : Int), (-1), (List.length x1 : Int), IntKind.wrap .i64 ((List.length x1 : Int) + 1)])) N ⟨0, m17, hr, rfl, hm, st, r5, r15, r14, r16⟩ ?_)
              clear st hr
              rintro k2 _ w19 ⟨s2, m19, hL, rfl, hm, st, r5, r15, r14, r16⟩
              rcases k2 with _ | k2
              · exact loopM_zero hL
              · obtain ⟨qu4, hr, hSu4, hBu4⟩ := loopM_succ hL
                clear hL
                unfold testgatelaw03_WireFrames_L2 at hr
                refine W_seq ?_
                refine W_region ?_
                refine WO_seg 1 [(96, .bool (decide (s2 < (List.length ([0, p3, (List.length y1.1 : Int), (-1), (List.length x1 : Int), IntKind.wrap .i64 ((List.length x1 : Int) + 1)]) : Int))))] (by kernel_rfl) (by kernel_rfl) ?_
                refine WO_end rfl ?_
                refine X_then ?_
                refine W_seq ?_
                refine W_cond (decide (s2 < (List.length ([0, p3, (List.length y1.1 : Int), (-1), (List.length x1 : Int), IntKind.wrap .i64 ((List.length x1 : Int) + 1)]) : Int))) (by kernel_rfl) ?_ ?_
                · intro hc
                  rw [if_pos hc] at hr
                  refine W_skip ?_
                  refine X_then ?_
                  refine W_seq ?_
                  refine W_block ?_
                  refine W_seq ?_
                  refine W_region ?_
                  replace hr := bindS hr
                  obtain ⟨x2, hx13, hr⟩ := hr
                  refine WO_one rfl (One_index (d := 97) (t := 32) (e := 3) (x := (.tmp 93)) (y := (.tmp 95)) (cInt .i64) (by kernel_rfl) rfl (show evL _ _ = some (.slice (some ⟨b4, 0, none⟩) (List.length ([0, p3, (List.length y1.1 : Int), (-1), (List.length x1 : Int), IntKind.wrap .i64 ((List.length x1 : Int) + 1)])) 6) from (by kernel_rfl)) (show evL _ _ = some (.int .i64 s2) from (by kernel_rfl)) (by kernel_rfl) r16 hx13 ?_)
                  rintro b5 f2 cs2 rfl hq2
                  refine WO_one rfl (One_load_row (d := 98) (t := 3) (x := (.tmp 97)) (.int .i64 x2) (by kernel_rfl) rfl (show evL _ _ = some (.pointer (some ⟨b5, f2, none⟩)) from (by kernel_rfl)) st hq2 (by kernel_rfl) ?_)
                  refine WO_seg 1 [(16, .int .i64 x2)] (by kernel_rfl) (by kernel_rfl) ?_
                  refine WO_end rfl ?_
                  refine X_then ?_
                  refine W_seq ?_
                  refine W_region ?_
                  refine WO_seg 2 [(100, .slice a13 (List.length x1) c13), (101, .int .i64 x2)] (by kernel_rfl) (by kernel_rfl) ?_
                  replace hr := bindS hr
                  obtain ⟨y6, hx14, hr⟩ := hr
                  refine WO_one rfl (One_fn 102 36 #[.slice a13 (List.length x1) c13, .int .i64 x2] (by kernel_rfl) rfl ?_)
                  refine (wire_Next_ok st r15 hx14).mono ?_
                  clear st
                  rintro _ w20 ⟨a14, c14, m20, rfl, hle13, st, r17⟩
                  refine ⟨_, rfl, ?_⟩
                  have hm := Mem.le_trans hm hle13
                  have r5 := r5.mono hle13
                  have r15 := r15.mono hle13
                  have r14 := r14.mono hle13
                  have r16 := r16.mono hle13
                  refine WO_seg 4 [(103, .agg #[.int .i64 y6.1.1, .slice a14 (List.length y6.1.2) c14]), (104, .int .i64 y6.2.1), (105, .int .i64 y6.2.2)] (by kernel_rfl) (by kernel_rfl) ?_
                  refine WO_one rfl (One_alloc (d := 17) (e := 54) (.agg #[.int .i64 0, .slice none 0 0]) (by kernel_rfl) rfl (by kernel_rfl) st ?_)
                  clear st
                  intro b6 w21 st
                  refine WO_one rfl (One_store (t := 54) (x := (.tmp 17)) (y := (.tmp 103)) (v := .agg #[.int .i64 y6.1.1, .slice a14 (List.length y6.1.2) c14]) (c' := #[.int .i64 y6.1.1, .slice a14 (List.length y6.1.2) c14]) (by kernel_rfl) (show evL _ _ = some (.pointer (some ⟨b6, 0, none⟩)) from (by kernel_rfl)) (show evL _ _ = some (.agg #[.int .i64 y6.1.1, .slice a14 (List.length y6.1.2) c14]) from (by kernel_rfl)) st (by kernel_rfl) (by kernel_rfl) ?_)
                  clear st
                  intro w22 st
                  refine WO_seg 2 [(18, .int .i64 y6.2.1), (19, .int .i64 y6.2.2)] (by kernel_rfl) (by kernel_rfl) ?_
                  refine WO_end rfl ?_
                  refine X_then ?_
                  refine W_seq ?_
                  refine W_region ?_
                  refine WO_seg 2 [(107, .slice a13 (List.length x1) c13), (108, .int .i64 x2)] (by kernel_rfl) (by kernel_rfl) ?_
                  replace hr := bindS hr
                  obtain ⟨y7, hx15, hr⟩ := hr
                  refine WO_one rfl (One_fn 109 37 #[.slice a13 (List.length x1) c13, .int .i64 x2] (by kernel_rfl) rfl ?_)
                  refine (testgateref03_Next_ok st r15 hx15).mono ?_
                  clear st
                  rintro _ w23 ⟨a15, c15, m21, rfl, hle14, st, r18⟩
                  refine ⟨_, rfl, ?_⟩
                  have hm := Mem.le_trans hm hle14
                  have r5 := r5.mono hle14
                  have r15 := r15.mono hle14
                  have r14 := r14.mono hle14
                  have r16 := r16.mono hle14
                  have r17 := r17.mono hle14
                  refine WO_seg 4 [(110, .agg #[.int .i64 y7.1.1, .slice a15 (List.length y7.1.2) c15]), (111, .int .i64 y7.2.1), (112, .int .i64 y7.2.2)] (by kernel_rfl) (by kernel_rfl) ?_
                  refine WO_one rfl (One_alloc (d := 20) (e := 54) (.agg #[.int .i64 0, .slice none 0 0]) (by kernel_rfl) rfl (by kernel_rfl) st ?_)
                  clear st
                  intro b7 w24 st
                  refine WO_one rfl (One_store (t := 54) (x := (.tmp 20)) (y := (.tmp 110)) (v := .agg #[.int .i64 y7.1.1, .slice a15 (List.length y7.1.2) c15]) (c' := #[.int .i64 y7.1.1, .slice a15 (List.length y7.1.2) c15]) (by kernel_rfl) (show evL _ _ = some (.pointer (some ⟨b7, 0, none⟩)) from (by kernel_rfl)) (show evL _ _ = some (.agg #[.int .i64 y7.1.1, .slice a15 (List.length y7.1.2) c15]) from (by kernel_rfl)) st (by kernel_rfl) (by kernel_rfl) ?_)
                  clear st
                  intro w25 st
                  refine WO_seg 2 [(21, .int .i64 y7.2.1), (22, .int .i64 y7.2.2)] (by kernel_rfl) (by kernel_rfl) ?_
                  refine WO_end rfl ?_
                  refine X_then ?_
                  refine W_seq ?_
                  refine W_region ?_
                  replace hr := bindS hr
                  obtain ⟨o6, hr, hrK⟩ := hr
                  refine WO_cut (j := 16) (fun L' w' => ∃ (m22 : Mem), L' = [(3, .int .i64 p3), (9, .slice a5 (List.length y1.1) c5), (14, .slice a13 (List.length x1) c13), (79, .slice (some ⟨b2, 0, none⟩) (List.length ([o1, l5, l6])) 3), (80, .int .i64 (List.length ([o1, l5, l6]) : Int)), (81, .int .i64 s1), (93, .slice (some ⟨b4, 0, none⟩) (List.length ([0, p3, (List.length y1.1 : Int), (-1), (List.length x1 : Int), IntKind.wrap .i64 ((List.length x1 : Int) + 1)])) 6), (94, .int .i64 (List.length ([0, p3, (List.length y1.1 : Int), (-1), (List.length x1 : Int), IntKind.wrap .i64 ((List.length x1 : Int) + 1)]) : Int)), (95, .int .i64 s2), (128, .bool o6)] ∧ m.le m22 ∧ St m22 (.blk b7 (.cells #[.int .i64 y7.1.1, .slice a15 (List.length y7.1.2) c15] 54 (0, 0)) :: .blk b6 (.cells #[.int .i64 y6.1.1, .slice a14 (List.length y6.1.2) c14] 54 (0, 0)) :: .room a15 (List.length y7.1.2) c15 5 1 :: .room a14 (List.length y6.1.2) c14 5 1 :: .room (some ⟨b4, 0, none⟩) (List.length ([0, p3, (List.length y1.1 : Int), (-1), (List.length x1 : Int), IntKind.wrap .i64 ((List.length x1 : Int) + 1)])) 6 3 1 :: .room (some ⟨b2, 0, none⟩) (List.length ([o1, l5, l6])) 3 50 1 :: .room a5 (List.length y1.1) c5 5 1 :: own) w' ∧ RepS cU8 m22 a5 c5 y1.1 ∧ RepS cU8 m22 a13 c13 x1 ∧ RepS (cSl cU8) m22 (some ⟨b2, 0, none⟩) 3 ([o1, l5, l6]) ∧ RepS (cInt .i64) m22 (some ⟨b4, 0, none⟩) 6 ([0, p3, (List.length y1.1 : Int), (-1), (List.length x1 : Int), IntKind.wrap .i64 ((List.length x1 : Int) + 1)]) ∧ RepS cU8 m22 a15 c15 y7.1.2 ∧ RepS cU8 m22 a14 c14 y6.1.2) ?_ ?_
                  · clear hr st
                    have hr := hrK
                    clear hrK
                    rintro _ w26 ⟨m22, rfl, hm, st, r5, r15, r14, r16, r18, r17⟩
                    refine WO_end rfl ?_
                    refine X_then ?_
                    refine W_cond o6 (by kernel_rfl) ?_ ?_
                    · intro hc
                      rw [if_pos hc] at hr
                      refine W_seq ?_
                      refine W_region ?_
                      refine WO_seg 1 [(8, .bool false)] (by kernel_rfl) (by kernel_rfl) ?_
                      refine WO_end rfl ?_
                      have st := st.front4
                      have st := st.tail
                      have st := st.front4
                      have st := st.tail
                      have st := st.front4
                      have st := st.tail
                      refine X_then ?_
                      refine W_ret ?_
                      refine X_block_ret ?_
                      refine X_then_ret ?_
                      obtain rfl := Option.some.inj hr
                      have ho := hBu4 _ rfl
                      subst ho
                      have hr := hrKu4
                      dsimp only at hr
                      refine X_then_ret ?_
                      refine X_block_ret ?_
                      refine X_then_ret ?_
                      refine X_block_ret ?_
                      refine X_then_ret ?_
                      obtain rfl := Option.some.inj hr
                      have ho := hBu3 _ rfl
                      subst ho
                      have hr := hrKu3
                      dsimp only at hr
                      refine X_then_ret ?_
                      refine X_block_ret ?_
                      refine X_then_ret ?_
                      obtain rfl := Option.some.inj hr
                      refine X_ret [.tmp 8] [.bool false] rfl (ResAll.cons (ResAt.tmp (by kernel_rfl)) ResAll.nil) ?_
                      have st := st.tail
                      have st := st.tail
                      have st := st.tail
                      have st := st.tail
                      exact ⟨m22, rfl, hm, st⟩
                    · intro hc
                      rw [if_neg (not_true hc)] at hr
                      refine W_skip ?_
                      refine X_block ?_
                      refine X_then ?_
                      refine W_region ?_
                      refine WO_seg 2 [(95, .int .i64 (IntKind.wrap .i64 (s2 + 1)))] (by kernel_rfl) (by kernel_rfl) ?_
                      refine WO_end rfl ?_
                      obtain rfl := Option.some.inj hr
                      have hL := hSu4 _ rfl
                      have st := st.tail
                      have st := st.tail
                      have st := st.tail
                      have st := st.tail
                      have st := st.front2
                      have st := st.front2
                      have st := st.front2
                      exact X_env _ (by kernel_rfl) (X_round k2 (Nat.lt_succ_self _) ⟨IntKind.wrap .i64 (s2 + 1), m22, hL, rfl, hm, st, r5, r15, r14, r16⟩)
                  · intro K
                    clear hrK
                    refine WO_seg 4 [(116, .bool (y6.2.2 != y7.2.2))] (by kernel_rfl) (by kernel_rfl) ?_
                    rcases bcases (y6.2.2 != y7.2.2) with hc | hc
                    · rw [if_pos hc] at hr
                      refine WO_fact (t := 116) (b := true) (y6.2.2 != y7.2.2) (by kernel_rfl) hc ?_
                      refine WO_seg 12 [(128, .bool true)] (by kernel_rfl) (by kernel_rfl) ?_
                      obtain rfl := Option.some.inj hr
                      have st := st.front6
                      have st := st.front6
                      have st := st.front6
                      have st := st.front6
                      have st := st.front5
                      have st := st.front6
                      have st := st.front6
                      exact WO_env _ (by kernel_rfl) (K _ _ ⟨m21, rfl, hm, st, r5, r15, r14, r16, r18, r17⟩)
                    · rw [if_neg (not_true hc)] at hr
                      refine WO_fact (t := 116) (b := false) (y6.2.2 != y7.2.2) (by kernel_rfl) hc ?_
                      refine WO_seg 5 [(121, .bool (y6.2.1 != y7.2.1))] (by kernel_rfl) (by kernel_rfl) ?_
                      rcases bcases (y6.2.1 != y7.2.1) with hc | hc
                      · rw [if_pos hc] at hr
                        refine WO_fact (t := 121) (b := true) (y6.2.1 != y7.2.1) (by kernel_rfl) hc ?_
                        refine WO_seg 7 [(128, .bool true)] (by kernel_rfl) (by kernel_rfl) ?_
                        obtain rfl := Option.some.inj hr
                        have st := st.front6
                        have st := st.front6
                        have st := st.front6
                        have st := st.front6
                        have st := st.front5
                        have st := st.front6
                        have st := st.front6
                        exact WO_env _ (by kernel_rfl) (K _ _ ⟨m21, rfl, hm, st, r5, r15, r14, r16, r18, r17⟩)
                      · rw [if_neg (not_true hc)] at hr
                        refine WO_fact (t := 121) (b := false) (y6.2.1 != y7.2.1) (by kernel_rfl) hc ?_
                        refine WO_one rfl (One_load_own (d := 122) (t := 54) (x := (.tmp 17)) (.agg #[.int .i64 y6.1.1, .slice a14 (List.length y6.1.2) c14]) (by kernel_rfl) rfl (show evL _ _ = some (.pointer (some ⟨b6, 0, none⟩)) from (by kernel_rfl)) st.tail.tail.head (by kernel_rfl) ?_)
                        refine WO_one rfl (One_buildSlice (d := 123) (t := 62) (e := 54) (len := 1) (parts := #[(0, (.tmp 122))]) (cPair (cInt .i64) (cSl cU8)) (xs := [(y6.1.1, y6.1.2)]) [.int .i64 y6.1.1, .slice a14 (List.length y6.1.2) c14] (by kernel_rfl) rfl (fun _ => buildCells_run (by kernel_rfl) _) rfl rfl st ⟨[.int .i64 y6.1.1, .slice a14 (List.length y6.1.2) c14], _, rfl, ⟨_, _, rfl, rfl, (cSl_mk r17)⟩, rfl⟩ ?_)
                        clear st
                        intro b8 m23 w27 hle15 st r19
                        have hm := Mem.le_trans hm hle15
                        have r5 := r5.mono hle15
                        have r15 := r15.mono hle15
                        have r14 := r14.mono hle15
                        have r16 := r16.mono hle15
                        have r17 := r17.mono hle15
                        have r18 := r18.mono hle15
                        refine WO_one rfl (One_load_own (d := 124) (t := 54) (x := (.tmp 20)) (.agg #[.int .i64 y7.1.1, .slice a15 (List.length y7.1.2) c15]) (by kernel_rfl) rfl (show evL _ _ = some (.pointer (some ⟨b7, 0, none⟩)) from (by kernel_rfl)) st.tail.head (by kernel_rfl) ?_)
                        refine WO_one rfl (One_buildSlice (d := 125) (t := 62) (e := 54) (len := 1) (parts := #[(0, (.tmp 124))]) (cPair (cInt .i64) (cSl cU8)) (xs := [(y7.1.1, y7.1.2)]) [.int .i64 y7.1.1, .slice a15 (List.length y7.1.2) c15] (by kernel_rfl) rfl (fun _ => buildCells_run (by kernel_rfl) _) rfl rfl st ⟨[.int .i64 y7.1.1, .slice a15 (List.length y7.1.2) c15], _, rfl, ⟨_, _, rfl, rfl, (cSl_mk r18)⟩, rfl⟩ ?_)
                        clear st
                        intro b9 m24 w28 hle16 st r20
                        have hm := Mem.le_trans hm hle16
                        have r5 := r5.mono hle16
                        have r15 := r15.mono hle16
                        have r14 := r14.mono hle16
                        have r16 := r16.mono hle16
                        have r17 := r17.mono hle16
                        have r19 := r19.mono hle16
                        have r18 := r18.mono hle16
                        replace hr := bindS hr
                        obtain ⟨y8, hx16, hr⟩ := hr
                        refine WO_one rfl (One_fn 126 38 #[.slice (some ⟨b8, 0, none⟩) (List.length ([(y6.1.1, y6.1.2)])) 1, .slice (some ⟨b9, 0, none⟩) (List.length ([(y7.1.1, y7.1.2)])) 1] (by kernel_rfl) rfl ?_)
                        refine (testgateref03_SameFrames_ok st r19 r20 hx16).mono ?_
                        clear st
                        rintro _ w29 ⟨m25, rfl, hle17, st⟩
                        refine ⟨_, rfl, ?_⟩
                        have hm := Mem.le_trans hm hle17
                        have r5 := r5.mono hle17
                        have r15 := r15.mono hle17
                        have r14 := r14.mono hle17
                        have r16 := r16.mono hle17
                        have r17 := r17.mono hle17
                        have r19 := r19.mono hle17
                        have r18 := r18.mono hle17
                        have r20 := r20.mono hle17
                        refine WO_seg 2 [(128, .bool (!y8))] (by kernel_rfl) (by kernel_rfl) ?_
                        obtain rfl := Option.some.inj hr
                        have st := st.tail
                        have st := st.tail
                        have st := st.front6
                        have st := st.front6
                        have st := st.front6
                        have st := st.front6
                        have st := st.front5
                        have st := st.front6
                        have st := st.front6
                        exact WO_env _ (by kernel_rfl) (K _ _ ⟨m25, rfl, hm, st, r5, r15, r14, r16, r18, r17⟩)
                · intro hc
                  rw [if_neg (not_true hc)] at hr
                  refine W_exit ?_
                  refine X_then_exit ?_
                  obtain rfl := Option.some.inj hr
                  have ho := hBu4 _ rfl
                  have st := st.front2
                  have st := st.front2
                  have st := st.front2
                  refine X_then_exit ?_
                  exact X_env _ (by kernel_rfl) (K2_u4 _ _ ⟨(), m19, ho, rfl, hm, st, r5, r15, r14⟩)
            · intro hc
              rw [if_neg (not_true hc)] at hr
              refine W_exit ?_
              refine X_then_exit ?_
              obtain rfl := Option.some.inj hr
              have ho := hBu3 _ rfl
              have st := st.front1
              have st := st.front1
              refine X_then_exit ?_
              exact X_env _ (by kernel_rfl) (K0_u3 _ _ ⟨(), m16, ho, rfl, hm, st⟩)
        · intro Ku2
          clear hrKu2
          refine W_cond (decide ((List.length p2 : Int) > 200)) (by kernel_rfl) ?_ ?_
          · intro hc
            rw [if_pos hc] at hr
            refine W_region ?_
            refine WO_seg 1 [(67, .slice a2 (List.length p2) c2)] (by kernel_rfl) (by kernel_rfl) ?_
            replace hr := bindS hr
            obtain ⟨l2, hx7, hr⟩ := hr
            refine WO_one rfl (One_slice (d := 68) (t := 50) (e := 5) (x := (.tmp 67)) (lo := none) (hi := (some (.const (.int .i64 200)))) cU8 (by kernel_rfl) rfl (show evL _ _ = some (.slice a2 (List.length p2) c2) from (by kernel_rfl)) (by kernel_rfl) r2 (.inl ⟨rfl, rfl⟩) (.inr ⟨_, _, rfl, (show evL _ _ = some (.int .i64 200) from (by kernel_rfl))⟩) hx7 ?_)
            intro a8 c8 r8
            refine WO_seg 1 [(2, .slice a8 (List.length l2) c8)] (by kernel_rfl) (by kernel_rfl) ?_
            refine WO_end rfl ?_
            obtain rfl := Option.some.inj hr
            exact X_env _ (by kernel_rfl) (Ku2 _ _ ⟨a8, c8, m4, rfl, hm, st, r3, r8, r5⟩)
          · intro hc
            rw [if_neg (not_true hc)] at hr
            refine W_skip ?_
            obtain rfl := Option.some.inj hr
            exact X_env _ (by kernel_rfl) (Ku2 _ _ ⟨a2, c2, m4, rfl, hm, st, r3, r2, r5⟩)
    · intro K
      clear hrK
      refine WO_seg 4 [(51, .bool (y1.2 != y2.2))] (by kernel_rfl) (by kernel_rfl) ?_
      rcases bcases (y1.2 != y2.2) with hc | hc
      · rw [if_pos hc] at hr
        refine WO_fact (t := 51) (b := true) (y1.2 != y2.2) (by kernel_rfl) hc ?_
        refine WO_seg 12 [(63, .bool true)] (by kernel_rfl) (by kernel_rfl) ?_
        obtain rfl := Option.some.inj hr
        have st := st.front1
        have st := st.front1
        exact WO_env _ (by kernel_rfl) (K _ _ ⟨m3, rfl, hm, st, r3, r2, r5⟩)
      · rw [if_neg (not_true hc)] at hr
        refine WO_fact (t := 51) (b := false) (y1.2 != y2.2) (by kernel_rfl) hc ?_
        refine WO_seg 2 [(52, .slice a5 (List.length y1.1) c5), (53, .slice a6 (List.length y2.1) c6)] (by kernel_rfl) (by kernel_rfl) ?_
        replace hr := bindS hr
        obtain ⟨y3, hx4, hr⟩ := hr
        refine WO_one rfl (One_fn 54 33 #[.slice a5 (List.length y1.1) c5, .slice a6 (List.length y2.1) c6] (by kernel_rfl) rfl ?_)
        refine (testgateref03_Same_ok st r5 r6 hx4).mono ?_
        clear st
        rintro _ w5 ⟨m5, rfl, hle3, st⟩
        refine ⟨_, rfl, ?_⟩
        have hm := Mem.le_trans hm hle3
        have r3 := r3.mono hle3
        have r2 := r2.mono hle3
        have r5 := r5.mono hle3
        have r6 := r6.mono hle3
        refine WO_seg 3 [(57, .bool (!y3))] (by kernel_rfl) (by kernel_rfl) ?_
        rcases bcases (!y3) with hc | hc
        · rw [if_pos hc] at hr
          refine WO_fact (t := 57) (b := true) (!y3) (by kernel_rfl) hc ?_
          refine WO_seg 6 [(63, .bool true)] (by kernel_rfl) (by kernel_rfl) ?_
          obtain rfl := Option.some.inj hr
          have st := st.front1
          have st := st.front1
          exact WO_env _ (by kernel_rfl) (K _ _ ⟨m5, rfl, hm, st, r3, r2, r5⟩)
        · rw [if_neg (not_true hc)] at hr
          refine WO_fact (t := 57) (b := false) (!y3) (by kernel_rfl) hc ?_
          refine WO_seg 1 [(58, .slice a3 (List.length o1) c3)] (by kernel_rfl) (by kernel_rfl) ?_
          replace hr := bindS hr
          obtain ⟨y4, hx5, hr⟩ := hr
          refine WO_one rfl (One_fn 59 34 #[.slice a3 (List.length o1) c3] (by kernel_rfl) rfl ?_)
          refine (wire_Checksum_ok st r3 hx5).mono ?_
          clear st
          rintro _ w6 ⟨m6, rfl, hle4, st⟩
          refine ⟨_, rfl, ?_⟩
          have hm := Mem.le_trans hm hle4
          have r3 := r3.mono hle4
          have r2 := r2.mono hle4
          have r5 := r5.mono hle4
          have r6 := r6.mono hle4
          refine WO_seg 1 [(60, .slice a3 (List.length o1) c3)] (by kernel_rfl) (by kernel_rfl) ?_
          replace hr := bindS hr
          obtain ⟨y5, hx6, hr⟩ := hr
          refine WO_one rfl (One_fn 61 35 #[.slice a3 (List.length o1) c3] (by kernel_rfl) rfl ?_)
          refine (testgateref03_Checksum_ok st r3 hx6).mono ?_
          clear st
          rintro _ w7 ⟨m7, rfl, hle5, st⟩
          refine ⟨_, rfl, ?_⟩
          have hm := Mem.le_trans hm hle5
          have r3 := r3.mono hle5
          have r2 := r2.mono hle5
          have r5 := r5.mono hle5
          have r6 := r6.mono hle5
          refine WO_seg 2 [(63, .bool (y4 != y5))] (by kernel_rfl) (by kernel_rfl) ?_
          obtain rfl := Option.some.inj hr
          have st := st.front1
          have st := st.front1
          exact WO_env _ (by kernel_rfl) (K _ _ ⟨m7, rfl, hm, st, r3, r2, r5⟩)
  · intro Ku1
    clear hrKu1
    refine W_cond (decide ((List.length p0 : Int) > 600)) (by kernel_rfl) ?_ ?_
    · intro hc
      rw [if_pos hc] at hr
      refine W_region ?_
      refine WO_seg 1 [(32, .slice a1 (List.length p0) c1)] (by kernel_rfl) (by kernel_rfl) ?_
      replace hr := bindS hr
      obtain ⟨l1, hx1, hr⟩ := hr
      refine WO_one rfl (One_slice (d := 33) (t := 50) (e := 5) (x := (.tmp 32)) (lo := none) (hi := (some (.const (.int .i64 600)))) cU8 (by kernel_rfl) rfl (show evL _ _ = some (.slice a1 (List.length p0) c1) from (by kernel_rfl)) (by kernel_rfl) r1 (.inl ⟨rfl, rfl⟩) (.inr ⟨_, _, rfl, (show evL _ _ = some (.int .i64 600) from (by kernel_rfl))⟩) hx1 ?_)
      intro a4 c4 r4
      refine WO_seg 1 [(0, .slice a4 (List.length l1) c4)] (by kernel_rfl) (by kernel_rfl) ?_
      refine WO_end rfl ?_
      obtain rfl := Option.some.inj hr
      exact X_env _ (by kernel_rfl) (Ku1 _ _ ⟨a4, c4, m, rfl, hm, st, r4, r2⟩)
    · intro hc
      rw [if_neg (not_true hc)] at hr
      refine W_skip ?_
      obtain rfl := Option.some.inj hr
      exact X_env _ (by kernel_rfl) (Ku1 _ _ ⟨a1, c1, m, rfl, hm, st, r1, r2⟩)

def testgatelaw03_WireStops_L1 (N : Nat) (p1 : Int) (y1 : List UInt8 × Int) (s1 : List (UInt8) × Int) : Option ((List (UInt8) × Int) ⊕ ((List (UInt8)))) :=
  if (decide (s1.2 < (IntKind.wrap .i64 (Int.tmod p1 6)))) = true then ((appendS 1 s1.1 y1.1).bind fun l2 => some (.inl (l2, IntKind.wrap .i64 (s1.2 + 1)))) else (some (.inr s1.1))

def testgatelaw03_WireStops (N : Nat) (p0 : List UInt8) (p1 : Int) (p2 : Int) : Option (Bool) :=
  (if (decide ((List.length p0 : Int) > 100)) = true then ((subS p0 0 100).bind fun l1 => some l1) else (some p0) : Option (List (UInt8))).bind fun o1 => (wire_Frame N (7, o1)).bind fun y1 => if (y1.2 != 0) = true then (some false) else ((loopM (testgatelaw03_WireStops_L1 N p1 y1) N (([] : List (UInt8)), 0)).bind fun o2 => (appendS 1 o2 ([toU8 (IntKind.wrap .u8 (1 + (Int.tmod p2 200)))])).bind fun l3 => (wire_Frames N l3).bind fun y2 => (if (y2.2.2 == 6) = true then (if (y2.2.1 == (IntKind.wrap .i64 ((IntKind.wrap .i64 (Int.tmod p1 6)) * (List.length y1.1 : Int)))) = true then (if ((List.length y2.1 : Int) == (IntKind.wrap .i64 (Int.tmod p1 6))) = true then ((testgatelaw03_awake N).bind fun y3 => some y3) else (some false)) else (some false)) else (some false) : Option (Bool)).bind fun o3 => some o3)

set_option maxHeartbeats 4000000 in
set_option maxRecDepth 100000 in
theorem testgatelaw03_WireStops_ok {N : Nat} {m : Mem} {own : List Piece} {w : World} {p0 : List UInt8} {p1 : Int} {p2 : Int} {a1 : Option Addr} {c1 : Nat} {r : Bool} (st : St m (own) w) (r1 : RepS cU8 m a1 c1 p0) (hr : testgatelaw03_WireStops N p0 p1 p2 = some r) : Calls Go.Proofs.Try.prog 7 #[.slice a1 (List.length p0) c1, .int .u8 p1, .int .u8 p2] w fun e w' => ∃ (m' : Mem), e = .returned (.bool r) ∧ m.le m' ∧ St m' (own) w' := by
  unfold testgatelaw03_WireStops at hr
  have hm := m.le_refl
  refine W_calls Go.Proofs.Try.func7 rfl Go.Proofs.Try.ntmps7 [(0, .slice a1 (List.length p0) c1), (1, .int .u8 p1), (2, .int .u8 p2)] (by kernel_rfl) rfl ?_
  refine W_seq ?_
  refine W_region ?_
  refine WO_seg 1 [] (by kernel_rfl) (by kernel_rfl) ?_
  refine WO_end rfl ?_
  refine X_then ?_
  refine W_seq ?_
  refine W_seq ?_
  refine W_region ?_
  refine WO_seg 3 [(16, .bool (decide ((List.length p0 : Int) > 100)))] (by kernel_rfl) (by kernel_rfl) ?_
  refine WO_end rfl ?_
  refine X_then ?_
  replace hr := bindS hr
  obtain ⟨o1, hr, hrKu1⟩ := hr
  refine W_cut .normal (fun L' w' => ∃ (a2 : Option Addr) (c2 : Nat) (m1 : Mem), L' = [(0, .slice a2 (List.length o1) c2), (1, .int .u8 p1), (2, .int .u8 p2)] ∧ m.le m1 ∧ St m1 (own) w' ∧ RepS cU8 m1 a2 c2 o1) ?_ ?_
  · clear hr st
    have hr := hrKu1
    clear hrKu1
    rintro _ w1 ⟨a2, c2, m1, rfl, hm, st, r2⟩
    refine X_then ?_
    refine W_seq ?_
    refine W_region ?_
    refine WO_seg 2 [(21, .agg #[.int .i64 7, .slice a2 (List.length o1) c2])] (by kernel_rfl) (by kernel_rfl) ?_
    replace hr := bindS hr
    obtain ⟨y1, hx2, hr⟩ := hr
    refine WO_one rfl (One_fn 22 31 #[.agg #[.int .i64 7, .slice a2 (List.length o1) c2]] (by kernel_rfl) rfl ?_)
    refine (wire_Frame_ok st r2 hx2).mono ?_
    clear st
    rintro _ w2 ⟨a4, c4, m2, rfl, hle1, st, r4⟩
    refine ⟨_, rfl, ?_⟩
    have hm := Mem.le_trans hm hle1
    have r2 := r2.mono hle1
    refine WO_seg 5 [(7, .slice a4 (List.length y1.1) c4), (8, .int .i64 y1.2)] (by kernel_rfl) (by kernel_rfl) ?_
    refine WO_end rfl ?_
    refine X_then ?_
    refine W_seq ?_
    refine W_seq ?_
    refine W_region ?_
    refine WO_seg 2 [(26, .bool (y1.2 != 0))] (by kernel_rfl) (by kernel_rfl) ?_
    refine WO_end rfl ?_
    refine X_then ?_
    refine W_cond (y1.2 != 0) (by kernel_rfl) ?_ ?_
    · intro hc
      rw [if_pos hc] at hr
      refine W_seq ?_
      refine W_region ?_
      refine WO_seg 1 [(6, .bool false)] (by kernel_rfl) (by kernel_rfl) ?_
      refine WO_end rfl ?_
      have st := st.tail
      refine X_then ?_
      refine W_ret ?_
      refine X_then_ret ?_
      obtain rfl := Option.some.inj hr
      refine X_ret [.tmp 6] [.bool false] rfl (ResAll.cons (ResAt.tmp (by kernel_rfl)) ResAll.nil) ?_
      exact ⟨m2, rfl, hm, st⟩
    · intro hc
      rw [if_neg (not_true hc)] at hr
      refine W_skip ?_
      refine X_then ?_
      refine W_seq ?_
      refine W_region ?_
      refine WO_seg 4 [(9, .int .i64 (IntKind.wrap .i64 (Int.tmod p1 6)))] (by kernel_rfl) (by kernel_rfl) ?_
      refine WO_end rfl ?_
      refine X_then ?_
      refine W_seq ?_
      refine W_region ?_
      refine WO_seg 1 [(10, .slice none (List.length ([] : List (UInt8))) 0)] (by kernel_rfl) (by kernel_rfl) ?_
      refine WO_end rfl ?_
      refine X_then ?_
      refine W_seq ?_
      refine W_seq ?_
      refine W_region ?_
      refine WO_seg 1 [(11, .int .i64 0)] (by kernel_rfl) (by kernel_rfl) ?_
      refine WO_end rfl ?_
      refine X_then ?_
      refine W_block ?_
      replace hr := bindS hr
      obtain ⟨out1, hr, hrKu2⟩ := hr
      refine W_cut (.exit 0) (fun L' w' => ∃ (o2 : List (UInt8)) (a5 : Option Addr) (c5 : Nat) (m3 : Mem), o2 = out1 ∧ L' = [(2, .int .u8 p2), (7, .slice a4 (List.length y1.1) c4), (9, .int .i64 (IntKind.wrap .i64 (Int.tmod p1 6))), (10, .slice a5 (List.length o2) c5)] ∧ m.le m3 ∧ St m3 (.room a4 (List.length y1.1) c4 5 1 :: .room a5 (List.length o2) c5 5 1 :: own) w' ∧ RepS cU8 m3 a4 c4 y1.1 ∧ RepS cU8 m3 a5 c5 o2) ?_ ?_
      · clear hr st
        rintro _ w3 ⟨o2, a5, c5, m3, rfl, rfl, hm, st, r4, r5⟩
        have hr := hrKu2
        clear hrKu2
        refine X_block_eq ?_
        refine X_then ?_
        refine W_seq ?_
        refine W_region ?_
        refine WO_seg 4 [(38, .slice a5 (List.length o2) c5), (41, .int .u8 (IntKind.wrap .u8 (1 + (Int.tmod p2 200))))] (by kernel_rfl) (by kernel_rfl) ?_
        refine WO_one rfl (One_buildSlice (d := 42) (t := 50) (e := 5) (len := 1) (parts := #[(0, (.tmp 41))]) cU8 (xs := [toU8 (IntKind.wrap .u8 (1 + (Int.tmod p2 200)))]) [.int .u8 (IntKind.wrap .u8 (1 + (Int.tmod p2 200)))] (by kernel_rfl) rfl (fun _ => buildCells_run (by kernel_rfl) _) rfl rfl st ⟨[.int .u8 (IntKind.wrap .u8 (1 + (Int.tmod p2 200)))], _, rfl, (rep_u8_wrap _), rfl⟩ ?_)
        clear st
        intro b1 m6 w6 hle3 st r8
        have hm := Mem.le_trans hm hle3
        have r4 := r4.mono hle3
        have r5 := r5.mono hle3
        have st := st.front2
        replace hr := bindS hr
        obtain ⟨l3, hx4, hr⟩ := hr
        refine WO_one rfl (One_append (d := 43) (t := 50) (u := 50) (e := 5) (by_ := 1) (x := (.tmp 38)) (y := (.tmp 42)) cU8 (by kernel_rfl) rfl (show evL _ _ = some (.slice a5 (List.length o2) c5) from (by kernel_rfl)) (show evL _ _ = some (.slice (some ⟨b1, 0, none⟩) (List.length ([toU8 (IntKind.wrap .u8 (1 + (Int.tmod p2 200)))])) 1) from (by kernel_rfl)) st (by kernel_rfl) (.inl (by kernel_rfl)) r5 r8.src hx4 ?_)
        clear st
        intro a8 c8 m7 w7 hle4 st r9
        have hm := Mem.le_trans hm hle4
        have r4 := r4.mono hle4
        have r5 := r5.mono hle4
        have r8 := r8.mono hle4
        refine WO_seg 1 [(10, .slice a8 (List.length l3) c8)] (by kernel_rfl) (by kernel_rfl) ?_
        refine WO_end rfl ?_
        have st := st.front1
        have st := st.tail
        refine X_then ?_
        refine W_seq ?_
        refine W_region ?_
        refine WO_seg 1 [(45, .slice a8 (List.length l3) c8)] (by kernel_rfl) (by kernel_rfl) ?_
        replace hr := bindS hr
        obtain ⟨y2, hx5, hr⟩ := hr
        refine WO_one rfl (One_fn 46 39 #[.slice a8 (List.length l3) c8] (by kernel_rfl) rfl ?_)
        refine (wire_Frames_ok st r9 hx5).mono ?_
        clear st
        rintro _ w8 ⟨a9, c9, m8, rfl, hle5, st, r10⟩
        refine ⟨_, rfl, ?_⟩
        have hm := Mem.le_trans hm hle5
        have r4 := r4.mono hle5
        have r9 := r9.mono hle5
        refine WO_seg 7 [(12, .slice a9 (List.length y2.1) c9), (13, .int .i64 y2.2.1), (8, .int .i64 y2.2.2)] (by kernel_rfl) (by kernel_rfl) ?_
        refine WO_end rfl ?_
        have st := st.front1
        have st := st.tail
        refine X_then ?_
        refine W_seq ?_
        refine W_region ?_
        replace hr := bindS hr
        obtain ⟨o3, hr, hrK⟩ := hr
        refine WO_cut (j := 20) (fun L' w' => ∃ (m9 : Mem), L' = [(6, .bool o3)] ∧ m.le m9 ∧ St m9 (.room a9 (List.length y2.1) c9 54 2 :: .room a4 (List.length y1.1) c4 5 1 :: own) w') ?_ ?_
        · clear hr st
          have hr := hrK
          clear hrK
          rintro _ w9 ⟨m9, rfl, hm, st⟩
          refine WO_end rfl ?_
          refine X_then ?_
          refine W_ret ?_
          obtain rfl := Option.some.inj hr
          refine X_ret [.tmp 6] [.bool o3] rfl (ResAll.cons (ResAt.tmp (by kernel_rfl)) ResAll.nil) ?_
          have st := st.tail
          have st := st.tail
          exact ⟨m9, rfl, hm, st⟩
        · intro K
          clear hrK
          refine WO_seg 3 [(52, .bool (y2.2.2 == 6))] (by kernel_rfl) (by kernel_rfl) ?_
          rcases bcases (y2.2.2 == 6) with hc | hc
          · rw [if_pos hc] at hr
            refine WO_fact (t := 52) (b := true) (y2.2.2 == 6) (by kernel_rfl) hc ?_
            refine WO_seg 8 [(60, .bool (y2.2.1 == (IntKind.wrap .i64 ((IntKind.wrap .i64 (Int.tmod p1 6)) * (List.length y1.1 : Int)))))] (by kernel_rfl) (by kernel_rfl) ?_
            rcases bcases (y2.2.1 == (IntKind.wrap .i64 ((IntKind.wrap .i64 (Int.tmod p1 6)) * (List.length y1.1 : Int)))) with hc | hc
            · rw [if_pos hc] at hr
              refine WO_fact (t := 60) (b := true) (y2.2.1 == (IntKind.wrap .i64 ((IntKind.wrap .i64 (Int.tmod p1 6)) * (List.length y1.1 : Int)))) (by kernel_rfl) hc ?_
              refine WO_seg 6 [(66, .bool ((List.length y2.1 : Int) == (IntKind.wrap .i64 (Int.tmod p1 6))))] (by kernel_rfl) (by kernel_rfl) ?_
              rcases bcases ((List.length y2.1 : Int) == (IntKind.wrap .i64 (Int.tmod p1 6))) with hc | hc
              · rw [if_pos hc] at hr
                refine WO_fact (t := 66) (b := true) ((List.length y2.1 : Int) == (IntKind.wrap .i64 (Int.tmod p1 6))) (by kernel_rfl) hc ?_
                replace hr := bindS hr
                obtain ⟨y3, hx6, hr⟩ := hr
                refine WO_one rfl (One_fn 67 41 #[] (by kernel_rfl) rfl ?_)
                refine (testgatelaw03_awake_ok st hx6).mono ?_
                clear st
                rintro _ w10 ⟨m10, rfl, hle6, st⟩
                refine ⟨_, rfl, ?_⟩
                have hm := Mem.le_trans hm hle6
                have r4 := r4.mono hle6
                have r10 := r10.mono hle6
                refine WO_seg 2 [(6, .bool y3)] (by kernel_rfl) (by kernel_rfl) ?_
                obtain rfl := Option.some.inj hr
                have st := st.front1
                have st := st.front1
                exact WO_env _ (by kernel_rfl) (K _ _ ⟨m10, rfl, hm, st⟩)
              · rw [if_neg (not_true hc)] at hr
                refine WO_fact (t := 66) (b := false) ((List.length y2.1 : Int) == (IntKind.wrap .i64 (Int.tmod p1 6))) (by kernel_rfl) hc ?_
                refine WO_seg 3 [(6, .bool false)] (by kernel_rfl) (by kernel_rfl) ?_
                obtain rfl := Option.some.inj hr
                have st := st.front1
                have st := st.front1
                exact WO_env _ (by kernel_rfl) (K _ _ ⟨m8, rfl, hm, st⟩)
            · rw [if_neg (not_true hc)] at hr
              refine WO_fact (t := 60) (b := false) (y2.2.1 == (IntKind.wrap .i64 ((IntKind.wrap .i64 (Int.tmod p1 6)) * (List.length y1.1 : Int)))) (by kernel_rfl) hc ?_
              refine WO_seg 9 [(6, .bool false)] (by kernel_rfl) (by kernel_rfl) ?_
              obtain rfl := Option.some.inj hr
              have st := st.front1
              have st := st.front1
              exact WO_env _ (by kernel_rfl) (K _ _ ⟨m8, rfl, hm, st⟩)
          · rw [if_neg (not_true hc)] at hr
            refine WO_fact (t := 52) (b := false) (y2.2.2 == 6) (by kernel_rfl) hc ?_
            refine WO_seg 17 [(6, .bool false)] (by kernel_rfl) (by kernel_rfl) ?_
            obtain rfl := Option.some.inj hr
            have st := st.front1
            have st := st.front1
            exact WO_env _ (by kernel_rfl) (K _ _ ⟨m8, rfl, hm, st⟩)
      intro K0_u2
      clear hrKu2
      have st := st.nilroom 5 1
      have st := st.front1
      refine W_env _ (by kernel_rfl) (W_loop (fun k1 L' w' => ∃ (s1 : List (UInt8) × Int) (a6 : Option Addr) (c6 : Nat) (m4 : Mem), loopM (testgatelaw03_WireStops_L1 N p1 y1) k1 s1 = some out1 ∧ L' = [(2, .int .u8 p2), (7, .slice a4 (List.length y1.1) c4), (9, .int .i64 (IntKind.wrap .i64 (Int.tmod p1 6))), (10, .slice a6 (List.length s1.1) c6), (11, .int .i64 s1.2)] ∧ m.le m4 ∧ St m4 (.room a4 (List.length y1.1) c4 5 1 :: .room a6 (List.length s1.1) c6 5 1 :: own) w' ∧ RepS cU8 m4 a4 c4 y1.1 ∧ RepS cU8 m4 a6 c6 s1.1) N ⟨(([] : List (UInt8)), 0), none, 0, m2, hr, rfl, hm, st, r4, (RepS.nil _ _)⟩ ?_)
      clear st hr
      rintro k1 _ w4 ⟨s1, a6, c6, m4, hL, rfl, hm, st, r4, r6⟩
      rcases k1 with _ | k1
      · exact loopM_zero hL
      · obtain ⟨qu2, hr, hSu2, hBu2⟩ := loopM_succ hL
        clear hL
        unfold testgatelaw03_WireStops_L1 at hr
        refine W_seq ?_
        refine W_seq ?_
        refine W_region ?_
        refine WO_seg 3 [(32, .bool (decide (s1.2 < (IntKind.wrap .i64 (Int.tmod p1 6)))))] (by kernel_rfl) (by kernel_rfl) ?_
        refine WO_end rfl ?_
        refine X_then ?_
        refine W_cond (decide (s1.2 < (IntKind.wrap .i64 (Int.tmod p1 6)))) (by kernel_rfl) ?_ ?_
        · intro hc
          rw [if_pos hc] at hr
          refine W_skip ?_
          refine X_then ?_
          refine W_seq ?_
          refine W_block ?_
          refine W_region ?_
          refine WO_seg 2 [(35, .slice a6 (List.length s1.1) c6), (36, .slice a4 (List.length y1.1) c4)] (by kernel_rfl) (by kernel_rfl) ?_
          have st := st.front1
          replace hr := bindS hr
          obtain ⟨l2, hx3, hr⟩ := hr
          refine WO_one rfl (One_append (d := 37) (t := 50) (u := 50) (e := 5) (by_ := 1) (x := (.tmp 35)) (y := (.tmp 36)) cU8 (by kernel_rfl) rfl (show evL _ _ = some (.slice a6 (List.length s1.1) c6) from (by kernel_rfl)) (show evL _ _ = some (.slice a4 (List.length y1.1) c4) from (by kernel_rfl)) st (by kernel_rfl) (.inl (by kernel_rfl)) r6 r4.src hx3 ?_)
          clear st
          intro a7 c7 m5 w5 hle2 st r7
          have hm := Mem.le_trans hm hle2
          have r4 := r4.mono hle2
          have r6 := r6.mono hle2
          refine WO_seg 1 [(10, .slice a7 (List.length l2) c7)] (by kernel_rfl) (by kernel_rfl) ?_
          refine WO_end rfl ?_
          refine X_block ?_
          refine X_then ?_
          refine W_region ?_
          refine WO_seg 3 [(11, .int .i64 (IntKind.wrap .i64 (s1.2 + 1)))] (by kernel_rfl) (by kernel_rfl) ?_
          refine WO_end rfl ?_
          obtain rfl := Option.some.inj hr
          have hL := hSu2 _ rfl
          have st := st.front1
          exact X_env _ (by kernel_rfl) (X_round k1 (Nat.lt_succ_self _) ⟨(l2, IntKind.wrap .i64 (s1.2 + 1)), a7, c7, m5, hL, rfl, hm, st, r4, r7⟩)
        · intro hc
          rw [if_neg (not_true hc)] at hr
          refine W_exit ?_
          refine X_then_exit ?_
          obtain rfl := Option.some.inj hr
          have ho := hBu2 _ rfl
          have st := st.front1
          have st := st.front1
          refine X_then_exit ?_
          exact X_env _ (by kernel_rfl) (K0_u2 _ _ ⟨s1.1, a6, c6, m4, ho, rfl, hm, st, r4, r6⟩)
  · intro Ku1
    clear hrKu1
    refine W_cond (decide ((List.length p0 : Int) > 100)) (by kernel_rfl) ?_ ?_
    · intro hc
      rw [if_pos hc] at hr
      refine W_region ?_
      refine WO_seg 1 [(17, .slice a1 (List.length p0) c1)] (by kernel_rfl) (by kernel_rfl) ?_
      replace hr := bindS hr
      obtain ⟨l1, hx1, hr⟩ := hr
      refine WO_one rfl (One_slice (d := 18) (t := 50) (e := 5) (x := (.tmp 17)) (lo := none) (hi := (some (.const (.int .i64 100)))) cU8 (by kernel_rfl) rfl (show evL _ _ = some (.slice a1 (List.length p0) c1) from (by kernel_rfl)) (by kernel_rfl) r1 (.inl ⟨rfl, rfl⟩) (.inr ⟨_, _, rfl, (show evL _ _ = some (.int .i64 100) from (by kernel_rfl))⟩) hx1 ?_)
      intro a3 c3 r3
      refine WO_seg 1 [(0, .slice a3 (List.length l1) c3)] (by kernel_rfl) (by kernel_rfl) ?_
      refine WO_end rfl ?_
      obtain rfl := Option.some.inj hr
      exact X_env _ (by kernel_rfl) (Ku1 _ _ ⟨a3, c3, m, rfl, hm, st, r3⟩)
    · intro hc
      rw [if_neg (not_true hc)] at hr
      refine W_skip ?_
      obtain rfl := Option.some.inj hr
      exact X_env _ (by kernel_rfl) (Ku1 _ _ ⟨a1, c1, m, rfl, hm, st, r1⟩)

def wire_PutInt (N : Nat) (p0 : List UInt8) (p1 : Int) : Option (List UInt8) :=
  (wire_PutUint N p0 (iXor .u64 (IntKind.wrap .u64 ((IntKind.wrap .u64 p1) * 2 ^ 1)) (IntKind.wrap .u64 (Int.fdiv p1 (2 ^ 63))))).bind fun y1 => some y1

set_option maxHeartbeats 4000000 in
set_option maxRecDepth 100000 in
theorem wire_PutInt_ok {N : Nat} {m : Mem} {own : List Piece} {w : World} {p0 : List UInt8} {p1 : Int} {a1 : Option Addr} {c1 : Nat} {r : List UInt8} (st : St m (own) w) (r1 : RepS cU8 m a1 c1 p0) (hr : wire_PutInt N p0 p1 = some r) : Calls Go.Proofs.Try.prog 44 #[.slice a1 (List.length p0) c1, .int .i64 p1] w fun e w' => ∃ (ra1 : Option Addr) (rc1 : Nat) (m' : Mem), e = .returned (.slice ra1 (List.length r) rc1) ∧ m.le m' ∧ St m' (.room ra1 (List.length r) rc1 5 1 :: own) w' ∧ RepS cU8 m' ra1 rc1 r := by
  unfold wire_PutInt at hr
  have hm := m.le_refl
  refine W_calls Go.Proofs.Try.func44 rfl Go.Proofs.Try.ntmps44 [(0, .slice a1 (List.length p0) c1), (1, .int .i64 p1)] (by kernel_rfl) rfl ?_
  refine W_seq ?_
  refine W_region ?_
  refine WO_seg 1 [] (by kernel_rfl) (by kernel_rfl) ?_
  refine WO_end rfl ?_
  refine X_then ?_
  refine W_seq ?_
  refine W_region ?_
  refine WO_seg 8 [(5, .slice a1 (List.length p0) c1), (12, .int .u64 (iXor .u64 (IntKind.wrap .u64 ((IntKind.wrap .u64 p1) * 2 ^ 1)) (IntKind.wrap .u64 (Int.fdiv p1 (2 ^ 63)))))] (by kernel_rfl) (by kernel_rfl) ?_
  replace hr := bindS hr
  obtain ⟨y1, hx1, hr⟩ := hr
  refine WO_one rfl (One_fn 13 45 #[.slice a1 (List.length p0) c1, .int .u64 (iXor .u64 (IntKind.wrap .u64 ((IntKind.wrap .u64 p1) * 2 ^ 1)) (IntKind.wrap .u64 (Int.fdiv p1 (2 ^ 63))))] (by kernel_rfl) rfl ?_)
  refine (wire_PutUint_ok st r1 hx1).mono ?_
  clear st
  rintro _ w1 ⟨a2, c2, m1, rfl, hle1, st, r2⟩
  refine ⟨_, rfl, ?_⟩
  have hm := Mem.le_trans hm hle1
  have r1 := r1.mono hle1
  refine WO_seg 1 [(4, .slice a2 (List.length y1) c2)] (by kernel_rfl) (by kernel_rfl) ?_
  refine WO_end rfl ?_
  refine X_then ?_
  refine W_ret ?_
  obtain rfl := Option.some.inj hr
  refine X_ret [.tmp 4] [.slice a2 (List.length y1) c2] rfl (ResAll.cons (ResAt.tmp (by kernel_rfl)) ResAll.nil) ?_
  exact ⟨a2, c2, m1, rfl, hm, st, r2⟩

def wire_PutText (N : Nat) (p0 : List UInt8) (p1 : ByteArray) : Option (List UInt8) :=
  (wire_PutUint N p0 (IntKind.wrap .u64 (ByteArray.size p1 : Int))).bind fun y1 => (appendS 1 y1 p1.data.toList).bind fun l1 => some l1

set_option maxHeartbeats 4000000 in
set_option maxRecDepth 100000 in
theorem wire_PutText_ok {N : Nat} {m : Mem} {own : List Piece} {w : World} {p0 : List UInt8} {p1 : ByteArray} {a1 : Option Addr} {c1 : Nat} {r : List UInt8} (st : St m (own) w) (r1 : RepS cU8 m a1 c1 p0) (hr : wire_PutText N p0 p1 = some r) : Calls Go.Proofs.Try.prog 43 #[.slice a1 (List.length p0) c1, .string p1] w fun e w' => ∃ (ra1 : Option Addr) (rc1 : Nat) (m' : Mem), e = .returned (.slice ra1 (List.length r) rc1) ∧ m.le m' ∧ St m' (.room ra1 (List.length r) rc1 5 1 :: own) w' ∧ RepS cU8 m' ra1 rc1 r := by
  unfold wire_PutText at hr
  have hm := m.le_refl
  refine W_calls Go.Proofs.Try.func43 rfl Go.Proofs.Try.ntmps43 [(0, .slice a1 (List.length p0) c1), (1, .string p1)] (by kernel_rfl) rfl ?_
  refine W_seq ?_
  refine W_region ?_
  refine WO_seg 1 [] (by kernel_rfl) (by kernel_rfl) ?_
  refine WO_end rfl ?_
  refine X_then ?_
  refine W_seq ?_
  refine W_region ?_
  refine WO_seg 4 [(5, .slice a1 (List.length p0) c1), (8, .int .u64 (IntKind.wrap .u64 (ByteArray.size p1 : Int)))] (by kernel_rfl) (by kernel_rfl) ?_
  replace hr := bindS hr
  obtain ⟨y1, hx1, hr⟩ := hr
  refine WO_one rfl (One_fn 9 45 #[.slice a1 (List.length p0) c1, .int .u64 (IntKind.wrap .u64 (ByteArray.size p1 : Int))] (by kernel_rfl) rfl ?_)
  refine (wire_PutUint_ok st r1 hx1).mono ?_
  clear st
  rintro _ w1 ⟨a2, c2, m1, rfl, hle1, st, r2⟩
  refine ⟨_, rfl, ?_⟩
  have hm := Mem.le_trans hm hle1
  have r1 := r1.mono hle1
  refine WO_seg 1 [(10, .string p1)] (by kernel_rfl) (by kernel_rfl) ?_
  replace hr := bindS hr
  obtain ⟨l1, hx2, hr⟩ := hr
  refine WO_one rfl (One_append (d := 11) (t := 50) (u := 9) (e := 5) (by_ := 1) (x := (.tmp 9)) (y := (.tmp 10)) cU8 (by kernel_rfl) rfl (show evL _ _ = some (.slice a2 (List.length y1) c2) from (by kernel_rfl)) (show evL _ _ = some (.string p1) from (by kernel_rfl)) st (by kernel_rfl) (.inr (by kernel_rfl)) r2 (Gives.str _) hx2 ?_)
  clear st
  intro a3 c3 m2 w2 hle2 st r3
  have hm := Mem.le_trans hm hle2
  have r1 := r1.mono hle2
  have r2 := r2.mono hle2
  refine WO_seg 1 [(4, .slice a3 (List.length l1) c3)] (by kernel_rfl) (by kernel_rfl) ?_
  refine WO_end rfl ?_
  refine X_then ?_
  refine W_ret ?_
  obtain rfl := Option.some.inj hr
  refine X_ret [.tmp 4] [.slice a3 (List.length l1) c3] rfl (ResAll.cons (ResAt.tmp (by kernel_rfl)) ResAll.nil) ?_
  exact ⟨a3, c3, m2, rfl, hm, st, r3⟩

def testgateref03_PutInt (N : Nat) (p0 : List UInt8) (p1 : Int) : Option (List UInt8) :=
  if (decide (p1 ≥ 0)) = true then ((testgateref03_PutUint N p0 (IntKind.wrap .u64 (2 * (IntKind.wrap .u64 p1)))).bind fun y1 => some y1) else ((testgateref03_PutUint N p0 (IntKind.wrap .u64 ((IntKind.wrap .u64 (2 * (IntKind.wrap .u64 (IntKind.wrap .i64 (0 - (IntKind.wrap .i64 (p1 + 1))))))) + 1))).bind fun y2 => some y2)

set_option maxHeartbeats 4000000 in
set_option maxRecDepth 100000 in
theorem testgateref03_PutInt_ok {N : Nat} {m : Mem} {own : List Piece} {w : World} {p0 : List UInt8} {p1 : Int} {a1 : Option Addr} {c1 : Nat} {r : List UInt8} (st : St m (own) w) (r1 : RepS cU8 m a1 c1 p0) (hr : testgateref03_PutInt N p0 p1 = some r) : Calls Go.Proofs.Try.prog 47 #[.slice a1 (List.length p0) c1, .int .i64 p1] w fun e w' => ∃ (ra1 : Option Addr) (rc1 : Nat) (m' : Mem), e = .returned (.slice ra1 (List.length r) rc1) ∧ m.le m' ∧ St m' (.room ra1 (List.length r) rc1 5 1 :: own) w' ∧ RepS cU8 m' ra1 rc1 r := by
  unfold testgateref03_PutInt at hr
  have hm := m.le_refl
  refine W_calls Go.Proofs.Try.func47 rfl Go.Proofs.Try.ntmps47 [(0, .slice a1 (List.length p0) c1), (1, .int .i64 p1)] (by kernel_rfl) rfl ?_
  refine W_seq ?_
  refine W_region ?_
  refine WO_seg 1 [] (by kernel_rfl) (by kernel_rfl) ?_
  refine WO_end rfl ?_
  refine X_then ?_
  refine W_seq ?_
  refine W_seq ?_
  refine W_region ?_
  refine WO_seg 2 [(6, .bool (decide (p1 ≥ 0)))] (by kernel_rfl) (by kernel_rfl) ?_
  refine WO_end rfl ?_
  refine X_then ?_
  refine W_cond (decide (p1 ≥ 0)) (by kernel_rfl) ?_ ?_
  · intro hc
    rw [if_pos hc] at hr
    refine W_seq ?_
    refine W_region ?_
    refine WO_seg 4 [(7, .slice a1 (List.length p0) c1), (10, .int .u64 (IntKind.wrap .u64 (2 * (IntKind.wrap .u64 p1))))] (by kernel_rfl) (by kernel_rfl) ?_
    replace hr := bindS hr
    obtain ⟨y1, hx1, hr⟩ := hr
    refine WO_one rfl (One_fn 11 48 #[.slice a1 (List.length p0) c1, .int .u64 (IntKind.wrap .u64 (2 * (IntKind.wrap .u64 p1)))] (by kernel_rfl) rfl ?_)
    refine (testgateref03_PutUint_ok st r1 hx1).mono ?_
    clear st
    rintro _ w1 ⟨a2, c2, m1, rfl, hle1, st, r2⟩
    refine ⟨_, rfl, ?_⟩
    have hm := Mem.le_trans hm hle1
    have r1 := r1.mono hle1
    refine WO_seg 1 [(4, .slice a2 (List.length y1) c2)] (by kernel_rfl) (by kernel_rfl) ?_
    refine WO_end rfl ?_
    refine X_then ?_
    refine W_ret ?_
    refine X_then_ret ?_
    obtain rfl := Option.some.inj hr
    refine X_ret [.tmp 4] [.slice a2 (List.length y1) c2] rfl (ResAll.cons (ResAt.tmp (by kernel_rfl)) ResAll.nil) ?_
    exact ⟨a2, c2, m1, rfl, hm, st, r2⟩
  · intro hc
    rw [if_neg (not_true hc)] at hr
    refine W_skip ?_
    refine X_then ?_
    refine W_seq ?_
    refine W_region ?_
    refine WO_seg 7 [(12, .slice a1 (List.length p0) c1), (18, .int .u64 (IntKind.wrap .u64 ((IntKind.wrap .u64 (2 * (IntKind.wrap .u64 (IntKind.wrap .i64 (0 - (IntKind.wrap .i64 (p1 + 1))))))) + 1)))] (by kernel_rfl) (by kernel_rfl) ?_
    replace hr := bindS hr
    obtain ⟨y2, hx2, hr⟩ := hr
    refine WO_one rfl (One_fn 19 48 #[.slice a1 (List.length p0) c1, .int .u64 (IntKind.wrap .u64 ((IntKind.wrap .u64 (2 * (IntKind.wrap .u64 (IntKind.wrap .i64 (0 - (IntKind.wrap .i64 (p1 + 1))))))) + 1))] (by kernel_rfl) rfl ?_)
    refine (testgateref03_PutUint_ok st r1 hx2).mono ?_
    clear st
    rintro _ w2 ⟨a3, c3, m2, rfl, hle2, st, r3⟩
    refine ⟨_, rfl, ?_⟩
    have hm := Mem.le_trans hm hle2
    have r1 := r1.mono hle2
    refine WO_seg 1 [(4, .slice a3 (List.length y2) c3)] (by kernel_rfl) (by kernel_rfl) ?_
    refine WO_end rfl ?_
    refine X_then ?_
    refine W_ret ?_
    obtain rfl := Option.some.inj hr
    refine X_ret [.tmp 4] [.slice a3 (List.length y2) c3] rfl (ResAll.cons (ResAt.tmp (by kernel_rfl)) ResAll.nil) ?_
    exact ⟨a3, c3, m2, rfl, hm, st, r3⟩

def testgateref03_PutText (N : Nat) (p0 : List UInt8) (p1 : ByteArray) : Option (List UInt8) :=
  (testgateref03_PutUint N p0 (IntKind.wrap .u64 (ByteArray.size p1 : Int))).bind fun y1 => (appendS 1 y1 p1.data.toList).bind fun l1 => some l1

set_option maxHeartbeats 4000000 in
set_option maxRecDepth 100000 in
theorem testgateref03_PutText_ok {N : Nat} {m : Mem} {own : List Piece} {w : World} {p0 : List UInt8} {p1 : ByteArray} {a1 : Option Addr} {c1 : Nat} {r : List UInt8} (st : St m (own) w) (r1 : RepS cU8 m a1 c1 p0) (hr : testgateref03_PutText N p0 p1 = some r) : Calls Go.Proofs.Try.prog 46 #[.slice a1 (List.length p0) c1, .string p1] w fun e w' => ∃ (ra1 : Option Addr) (rc1 : Nat) (m' : Mem), e = .returned (.slice ra1 (List.length r) rc1) ∧ m.le m' ∧ St m' (.room ra1 (List.length r) rc1 5 1 :: own) w' ∧ RepS cU8 m' ra1 rc1 r := by
  unfold testgateref03_PutText at hr
  have hm := m.le_refl
  refine W_calls Go.Proofs.Try.func46 rfl Go.Proofs.Try.ntmps46 [(0, .slice a1 (List.length p0) c1), (1, .string p1)] (by kernel_rfl) rfl ?_
  refine W_seq ?_
  refine W_region ?_
  refine WO_seg 1 [] (by kernel_rfl) (by kernel_rfl) ?_
  refine WO_end rfl ?_
  refine X_then ?_
  refine W_seq ?_
  refine W_region ?_
  refine WO_seg 4 [(5, .slice a1 (List.length p0) c1), (8, .int .u64 (IntKind.wrap .u64 (ByteArray.size p1 : Int)))] (by kernel_rfl) (by kernel_rfl) ?_
  replace hr := bindS hr
  obtain ⟨y1, hx1, hr⟩ := hr
  refine WO_one rfl (One_fn 9 48 #[.slice a1 (List.length p0) c1, .int .u64 (IntKind.wrap .u64 (ByteArray.size p1 : Int))] (by kernel_rfl) rfl ?_)
  refine (testgateref03_PutUint_ok st r1 hx1).mono ?_
  clear st
  rintro _ w1 ⟨a2, c2, m1, rfl, hle1, st, r2⟩
  refine ⟨_, rfl, ?_⟩
  have hm := Mem.le_trans hm hle1
  have r1 := r1.mono hle1
  refine WO_seg 1 [(10, .string p1)] (by kernel_rfl) (by kernel_rfl) ?_
  replace hr := bindS hr
  obtain ⟨l1, hx2, hr⟩ := hr
  refine WO_one rfl (One_append (d := 11) (t := 50) (u := 9) (e := 5) (by_ := 1) (x := (.tmp 9)) (y := (.tmp 10)) cU8 (by kernel_rfl) rfl (show evL _ _ = some (.slice a2 (List.length y1) c2) from (by kernel_rfl)) (show evL _ _ = some (.string p1) from (by kernel_rfl)) st (by kernel_rfl) (.inr (by kernel_rfl)) r2 (Gives.str _) hx2 ?_)
  clear st
  intro a3 c3 m2 w2 hle2 st r3
  have hm := Mem.le_trans hm hle2
  have r1 := r1.mono hle2
  have r2 := r2.mono hle2
  refine WO_seg 1 [(4, .slice a3 (List.length l1) c3)] (by kernel_rfl) (by kernel_rfl) ?_
  refine WO_end rfl ?_
  refine X_then ?_
  refine W_ret ?_
  obtain rfl := Option.some.inj hr
  refine X_ret [.tmp 4] [.slice a3 (List.length l1) c3] rfl (ResAll.cons (ResAt.tmp (by kernel_rfl)) ResAll.nil) ?_
  exact ⟨a3, c3, m2, rfl, hm, st, r3⟩

def wire_Int (N : Nat) (p0 : List UInt8) (p1 : Int) : Option (Int × Int × Int) :=
  (wire_Uint N p0 p1).bind fun y1 => if (y1.2.2 != 0) = true then (some (0, 0, y1.2.2)) else (some (iXor .i64 (IntKind.wrap .i64 (Int.fdiv y1.1 (2 ^ 1))) (IntKind.wrap .i64 (0 - (IntKind.wrap .i64 (iAnd .u64 y1.1 1)))), y1.2.1, 0))

set_option maxHeartbeats 4000000 in
set_option maxRecDepth 100000 in
theorem wire_Int_ok {N : Nat} {m : Mem} {own : List Piece} {w : World} {p0 : List UInt8} {p1 : Int} {a1 : Option Addr} {c1 : Nat} {r : Int × Int × Int} (st : St m (own) w) (r1 : RepS cU8 m a1 c1 p0) (hr : wire_Int N p0 p1 = some r) : Calls Go.Proofs.Try.prog 51 #[.slice a1 (List.length p0) c1, .int .i64 p1] w fun e w' => ∃ (m' : Mem), e = .returned (.tuple #[.int .i64 r.1, .int .i64 r.2.1, .int .i64 r.2.2]) ∧ m.le m' ∧ St m' (own) w' := by
  unfold wire_Int at hr
  have hm := m.le_refl
  refine W_calls Go.Proofs.Try.func51 rfl Go.Proofs.Try.ntmps51 [(0, .slice a1 (List.length p0) c1), (1, .int .i64 p1)] (by kernel_rfl) rfl ?_
  refine W_seq ?_
  refine W_region ?_
  refine WO_seg 3 [] (by kernel_rfl) (by kernel_rfl) ?_
  refine WO_end rfl ?_
  refine X_then ?_
  refine W_seq ?_
  refine W_region ?_
  refine WO_seg 2 [(9, .slice a1 (List.length p0) c1), (10, .int .i64 p1)] (by kernel_rfl) (by kernel_rfl) ?_
  replace hr := bindS hr
  obtain ⟨y1, hx1, hr⟩ := hr
  refine WO_one rfl (One_fn 11 49 #[.slice a1 (List.length p0) c1, .int .i64 p1] (by kernel_rfl) rfl ?_)
  refine (wire_Uint_ok st r1 hx1).mono ?_
  clear st
  rintro _ w1 ⟨m1, rfl, hle1, st⟩
  refine ⟨_, rfl, ?_⟩
  have hm := Mem.le_trans hm hle1
  have r1 := r1.mono hle1
  refine WO_seg 7 [(7, .int .u64 y1.1), (5, .int .i64 y1.2.1), (6, .int .i64 y1.2.2)] (by kernel_rfl) (by kernel_rfl) ?_
  refine WO_end rfl ?_
  refine X_then ?_
  refine W_seq ?_
  refine W_seq ?_
  refine W_region ?_
  refine WO_seg 2 [(16, .bool (y1.2.2 != 0))] (by kernel_rfl) (by kernel_rfl) ?_
  refine WO_end rfl ?_
  refine X_then ?_
  refine W_cond (y1.2.2 != 0) (by kernel_rfl) ?_ ?_
  · intro hc
    rw [if_pos hc] at hr
    refine W_seq ?_
    refine W_region ?_
    refine WO_seg 4 [(4, .int .i64 0), (5, .int .i64 0), (6, .int .i64 y1.2.2)] (by kernel_rfl) (by kernel_rfl) ?_
    refine WO_end rfl ?_
    refine X_then ?_
    refine W_ret ?_
    refine X_then_ret ?_
    obtain rfl := Option.some.inj hr
    refine X_ret [.tmp 4, .tmp 5, .tmp 6] [.int .i64 0, .int .i64 0, .int .i64 y1.2.2] rfl (ResAll.cons (ResAt.tmp (by kernel_rfl)) (ResAll.cons (ResAt.tmp (by kernel_rfl)) (ResAll.cons (ResAt.tmp (by kernel_rfl)) ResAll.nil))) ?_
    exact ⟨m1, rfl, hm, st⟩
  · intro hc
    rw [if_neg (not_true hc)] at hr
    refine W_skip ?_
    refine X_then ?_
    refine W_seq ?_
    refine W_region ?_
    refine WO_seg 12 [(4, .int .i64 (iXor .i64 (IntKind.wrap .i64 (Int.fdiv y1.1 (2 ^ 1))) (IntKind.wrap .i64 (0 - (IntKind.wrap .i64 (iAnd .u64 y1.1 1)))))), (5, .int .i64 y1.2.1), (6, .int .i64 0)] (by kernel_rfl) (by kernel_rfl) ?_
    refine WO_end rfl ?_
    refine X_then ?_
    refine W_ret ?_
    obtain rfl := Option.some.inj hr
    refine X_ret [.tmp 4, .tmp 5, .tmp 6] [.int .i64 (iXor .i64 (IntKind.wrap .i64 (Int.fdiv y1.1 (2 ^ 1))) (IntKind.wrap .i64 (0 - (IntKind.wrap .i64 (iAnd .u64 y1.1 1))))), .int .i64 y1.2.1, .int .i64 0] rfl (ResAll.cons (ResAt.tmp (by kernel_rfl)) (ResAll.cons (ResAt.tmp (by kernel_rfl)) (ResAll.cons (ResAt.tmp (by kernel_rfl)) ResAll.nil))) ?_
    exact ⟨m1, rfl, hm, st⟩

def testgateref03_Int (N : Nat) (p0 : List UInt8) (p1 : Int) : Option (Int × Int × Int) :=
  (testgateref03_Uint N p0 p1).bind fun y1 => if (y1.2.2 != 0) = true then (some (0, 0, y1.2.2)) else (if ((Int.tmod y1.1 2) == 0) = true then (some (IntKind.wrap .i64 (IntKind.wrap .u64 (Int.tdiv y1.1 2)), y1.2.1, 0)) else (some (IntKind.wrap .i64 ((IntKind.wrap .i64 (0 - (IntKind.wrap .i64 (IntKind.wrap .u64 (Int.tdiv y1.1 2))))) - 1), y1.2.1, 0)))

set_option maxHeartbeats 4000000 in
set_option maxRecDepth 100000 in
theorem testgateref03_Int_ok {N : Nat} {m : Mem} {own : List Piece} {w : World} {p0 : List UInt8} {p1 : Int} {a1 : Option Addr} {c1 : Nat} {r : Int × Int × Int} (st : St m (own) w) (r1 : RepS cU8 m a1 c1 p0) (hr : testgateref03_Int N p0 p1 = some r) : Calls Go.Proofs.Try.prog 52 #[.slice a1 (List.length p0) c1, .int .i64 p1] w fun e w' => ∃ (m' : Mem), e = .returned (.tuple #[.int .i64 r.1, .int .i64 r.2.1, .int .i64 r.2.2]) ∧ m.le m' ∧ St m' (own) w' := by
  unfold testgateref03_Int at hr
  have hm := m.le_refl
  refine W_calls Go.Proofs.Try.func52 rfl Go.Proofs.Try.ntmps52 [(0, .slice a1 (List.length p0) c1), (1, .int .i64 p1)] (by kernel_rfl) rfl ?_
  refine W_seq ?_
  refine W_region ?_
  refine WO_seg 3 [] (by kernel_rfl) (by kernel_rfl) ?_
  refine WO_end rfl ?_
  refine X_then ?_
  refine W_seq ?_
  refine W_region ?_
  refine WO_seg 2 [(9, .slice a1 (List.length p0) c1), (10, .int .i64 p1)] (by kernel_rfl) (by kernel_rfl) ?_
  replace hr := bindS hr
  obtain ⟨y1, hx1, hr⟩ := hr
  refine WO_one rfl (One_fn 11 50 #[.slice a1 (List.length p0) c1, .int .i64 p1] (by kernel_rfl) rfl ?_)
  refine (testgateref03_Uint_ok st r1 hx1).mono ?_
  clear st
  rintro _ w1 ⟨m1, rfl, hle1, st⟩
  refine ⟨_, rfl, ?_⟩
  have hm := Mem.le_trans hm hle1
  have r1 := r1.mono hle1
  refine WO_seg 7 [(7, .int .u64 y1.1), (5, .int .i64 y1.2.1), (6, .int .i64 y1.2.2)] (by kernel_rfl) (by kernel_rfl) ?_
  refine WO_end rfl ?_
  refine X_then ?_
  refine W_seq ?_
  refine W_seq ?_
  refine W_region ?_
  refine WO_seg 2 [(16, .bool (y1.2.2 != 0))] (by kernel_rfl) (by kernel_rfl) ?_
  refine WO_end rfl ?_
  refine X_then ?_
  refine W_cond (y1.2.2 != 0) (by kernel_rfl) ?_ ?_
  · intro hc
    rw [if_pos hc] at hr
    refine W_seq ?_
    refine W_region ?_
    refine WO_seg 4 [(4, .int .i64 0), (5, .int .i64 0), (6, .int .i64 y1.2.2)] (by kernel_rfl) (by kernel_rfl) ?_
    refine WO_end rfl ?_
    refine X_then ?_
    refine W_ret ?_
    refine X_then_ret ?_
    obtain rfl := Option.some.inj hr
    refine X_ret [.tmp 4, .tmp 5, .tmp 6] [.int .i64 0, .int .i64 0, .int .i64 y1.2.2] rfl (ResAll.cons (ResAt.tmp (by kernel_rfl)) (ResAll.cons (ResAt.tmp (by kernel_rfl)) (ResAll.cons (ResAt.tmp (by kernel_rfl)) ResAll.nil))) ?_
    exact ⟨m1, rfl, hm, st⟩
  · intro hc
    rw [if_neg (not_true hc)] at hr
    refine W_skip ?_
    refine X_then ?_
    refine W_seq ?_
    refine W_seq ?_
    refine W_region ?_
    refine WO_seg 3 [(20, .bool ((Int.tmod y1.1 2) == 0))] (by kernel_rfl) (by kernel_rfl) ?_
    refine WO_end rfl ?_
    refine X_then ?_
    refine W_cond ((Int.tmod y1.1 2) == 0) (by kernel_rfl) ?_ ?_
    · intro hc
      rw [if_pos hc] at hr
      refine W_seq ?_
      refine W_region ?_
      refine WO_seg 7 [(4, .int .i64 (IntKind.wrap .i64 (IntKind.wrap .u64 (Int.tdiv y1.1 2)))), (5, .int .i64 y1.2.1), (6, .int .i64 0)] (by kernel_rfl) (by kernel_rfl) ?_
      refine WO_end rfl ?_
      refine X_then ?_
      refine W_ret ?_
      refine X_then_ret ?_
      obtain rfl := Option.some.inj hr
      refine X_ret [.tmp 4, .tmp 5, .tmp 6] [.int .i64 (IntKind.wrap .i64 (IntKind.wrap .u64 (Int.tdiv y1.1 2))), .int .i64 y1.2.1, .int .i64 0] rfl (ResAll.cons (ResAt.tmp (by kernel_rfl)) (ResAll.cons (ResAt.tmp (by kernel_rfl)) (ResAll.cons (ResAt.tmp (by kernel_rfl)) ResAll.nil))) ?_
      exact ⟨m1, rfl, hm, st⟩
    · intro hc
      rw [if_neg (not_true hc)] at hr
      refine W_skip ?_
      refine X_then ?_
      refine W_seq ?_
      refine W_region ?_
      refine WO_seg 9 [(4, .int .i64 (IntKind.wrap .i64 ((IntKind.wrap .i64 (0 - (IntKind.wrap .i64 (IntKind.wrap .u64 (Int.tdiv y1.1 2))))) - 1))), (5, .int .i64 y1.2.1), (6, .int .i64 0)] (by kernel_rfl) (by kernel_rfl) ?_
      refine WO_end rfl ?_
      refine X_then ?_
      refine W_ret ?_
      obtain rfl := Option.some.inj hr
      refine X_ret [.tmp 4, .tmp 5, .tmp 6] [.int .i64 (IntKind.wrap .i64 ((IntKind.wrap .i64 (0 - (IntKind.wrap .i64 (IntKind.wrap .u64 (Int.tdiv y1.1 2))))) - 1)), .int .i64 y1.2.1, .int .i64 0] rfl (ResAll.cons (ResAt.tmp (by kernel_rfl)) (ResAll.cons (ResAt.tmp (by kernel_rfl)) (ResAll.cons (ResAt.tmp (by kernel_rfl)) ResAll.nil))) ?_
      exact ⟨m1, rfl, hm, st⟩

def wire_Text (N : Nat) (p0 : List UInt8) (p1 : Int) (p2 : Int) : Option (ByteArray × Int × Int) :=
  (wire_Uint N p0 p1).bind fun y1 => if (y1.2.2 != 0) = true then (some ((⟨#[]⟩ : ByteArray), 0, y1.2.2)) else ((if (decide (p2 < 0)) = true then (some true) else (some (decide (y1.1 > (IntKind.wrap .u64 p2)))) : Option (Bool)).bind fun o1 => if o1 = true then (some ((⟨#[]⟩ : ByteArray), 0, 2)) else (if (decide (y1.1 > (IntKind.wrap .u64 (IntKind.wrap .i64 ((List.length p0 : Int) - y1.2.1))))) = true then (some ((⟨#[]⟩ : ByteArray), 0, 7)) else ((subS p0 y1.2.1 (IntKind.wrap .i64 (y1.2.1 + (IntKind.wrap .i64 y1.1)))).bind fun l1 => some (strOf l1, IntKind.wrap .i64 (y1.2.1 + (IntKind.wrap .i64 y1.1)), 0))))

set_option maxHeartbeats 4000000 in
set_option maxRecDepth 100000 in
theorem wire_Text_ok {N : Nat} {m : Mem} {own : List Piece} {w : World} {p0 : List UInt8} {p1 : Int} {p2 : Int} {a1 : Option Addr} {c1 : Nat} {r : ByteArray × Int × Int} (st : St m (own) w) (r1 : RepS cU8 m a1 c1 p0) (hr : wire_Text N p0 p1 p2 = some r) : Calls Go.Proofs.Try.prog 53 #[.slice a1 (List.length p0) c1, .int .i64 p1, .int .i64 p2] w fun e w' => ∃ (m' : Mem), e = .returned (.tuple #[.string r.1, .int .i64 r.2.1, .int .i64 r.2.2]) ∧ m.le m' ∧ St m' (own) w' := by
  unfold wire_Text at hr
  have hm := m.le_refl
  refine W_calls Go.Proofs.Try.func53 rfl Go.Proofs.Try.ntmps53 [(0, .slice a1 (List.length p0) c1), (1, .int .i64 p1), (2, .int .i64 p2)] (by kernel_rfl) rfl ?_
  refine W_seq ?_
  refine W_region ?_
  refine WO_seg 3 [] (by kernel_rfl) (by kernel_rfl) ?_
  refine WO_end rfl ?_
  refine X_then ?_
  refine W_seq ?_
  refine W_region ?_
  refine WO_seg 2 [(12, .slice a1 (List.length p0) c1), (13, .int .i64 p1)] (by kernel_rfl) (by kernel_rfl) ?_
  replace hr := bindS hr
  obtain ⟨y1, hx1, hr⟩ := hr
  refine WO_one rfl (One_fn 14 49 #[.slice a1 (List.length p0) c1, .int .i64 p1] (by kernel_rfl) rfl ?_)
  refine (wire_Uint_ok st r1 hx1).mono ?_
  clear st
  rintro _ w1 ⟨m1, rfl, hle1, st⟩
  refine ⟨_, rfl, ?_⟩
  have hm := Mem.le_trans hm hle1
  have r1 := r1.mono hle1
  refine WO_seg 7 [(9, .int .u64 y1.1), (7, .int .i64 y1.2.1), (8, .int .i64 y1.2.2)] (by kernel_rfl) (by kernel_rfl) ?_
  refine WO_end rfl ?_
  refine X_then ?_
  refine W_seq ?_
  refine W_block ?_
  refine W_seq ?_
  refine W_region ?_
  refine WO_seg 3 [(18, .bool (y1.2.2 != 0))] (by kernel_rfl) (by kernel_rfl) ?_
  refine WO_end rfl ?_
  refine X_then ?_
  refine W_cond (y1.2.2 != 0) (by kernel_rfl) ?_ ?_
  · intro hc
    rw [if_pos hc] at hr
    refine W_seq ?_
    refine W_region ?_
    refine WO_seg 4 [(6, .string (⟨#[]⟩ : ByteArray)), (7, .int .i64 0), (8, .int .i64 y1.2.2)] (by kernel_rfl) (by kernel_rfl) ?_
    refine WO_end rfl ?_
    refine X_then ?_
    refine W_ret ?_
    refine X_block_ret ?_
    refine X_then_ret ?_
    obtain rfl := Option.some.inj hr
    refine X_ret [.tmp 6, .tmp 7, .tmp 8] [.string (⟨#[]⟩ : ByteArray), .int .i64 0, .int .i64 y1.2.2] rfl (ResAll.cons (ResAt.tmp (by kernel_rfl)) (ResAll.cons (ResAt.tmp (by kernel_rfl)) (ResAll.cons (ResAt.tmp (by kernel_rfl)) ResAll.nil))) ?_
    exact ⟨m1, rfl, hm, st⟩
  · intro hc
    rw [if_neg (not_true hc)] at hr
    refine W_seq ?_
    refine W_region ?_
    replace hr := bindS hr
    obtain ⟨o1, hr, hrK⟩ := hr
    refine WO_cut (j := 9) (fun L' w' => ∃ (m2 : Mem), L' = [(0, .slice a1 (List.length p0) c1), (7, .int .i64 y1.2.1), (9, .int .u64 y1.1), (22, .bool o1)] ∧ m.le m2 ∧ St m2 (own) w' ∧ RepS cU8 m2 a1 c1 p0) ?_ ?_
    · clear hr st
      have hr := hrK
      clear hrK
      rintro _ w2 ⟨m2, rfl, hm, st, r1⟩
      refine WO_end rfl ?_
      refine X_then ?_
      refine W_cond o1 (by kernel_rfl) ?_ ?_
      · intro hc
        rw [if_pos hc] at hr
        refine W_seq ?_
        refine W_region ?_
        refine WO_seg 3 [(6, .string (⟨#[]⟩ : ByteArray)), (7, .int .i64 0), (8, .int .i64 2)] (by kernel_rfl) (by kernel_rfl) ?_
        refine WO_end rfl ?_
        refine X_then ?_
        refine W_ret ?_
        refine X_block_ret ?_
        refine X_then_ret ?_
        obtain rfl := Option.some.inj hr
        refine X_ret [.tmp 6, .tmp 7, .tmp 8] [.string (⟨#[]⟩ : ByteArray), .int .i64 0, .int .i64 2] rfl (ResAll.cons (ResAt.tmp (by kernel_rfl)) (ResAll.cons (ResAt.tmp (by kernel_rfl)) (ResAll.cons (ResAt.tmp (by kernel_rfl)) ResAll.nil))) ?_
        exact ⟨m2, rfl, hm, st⟩
      · intro hc
        rw [if_neg (not_true hc)] at hr
        refine W_seq ?_
        refine W_region ?_
        refine WO_seg 8 [(31, .bool (decide (y1.1 > (IntKind.wrap .u64 (IntKind.wrap .i64 ((List.length p0 : Int) - y1.2.1))))))] (by kernel_rfl) (by kernel_rfl) ?_
        refine WO_end rfl ?_
        refine X_then ?_
        refine W_cond (decide (y1.1 > (IntKind.wrap .u64 (IntKind.wrap .i64 ((List.length p0 : Int) - y1.2.1))))) (by kernel_rfl) ?_ ?_
        · intro hc
          rw [if_pos hc] at hr
          refine W_seq ?_
          refine W_region ?_
          refine WO_seg 3 [(6, .string (⟨#[]⟩ : ByteArray)), (7, .int .i64 0), (8, .int .i64 7)] (by kernel_rfl) (by kernel_rfl) ?_
          refine WO_end rfl ?_
          refine X_then ?_
          refine W_ret ?_
          refine X_block_ret ?_
          refine X_then_ret ?_
          obtain rfl := Option.some.inj hr
          refine X_ret [.tmp 6, .tmp 7, .tmp 8] [.string (⟨#[]⟩ : ByteArray), .int .i64 0, .int .i64 7] rfl (ResAll.cons (ResAt.tmp (by kernel_rfl)) (ResAll.cons (ResAt.tmp (by kernel_rfl)) (ResAll.cons (ResAt.tmp (by kernel_rfl)) ResAll.nil))) ?_
          exact ⟨m2, rfl, hm, st⟩
        · intro hc
          rw [if_neg (not_true hc)] at hr
          refine W_skip ?_
          refine X_block ?_
          refine X_then ?_
          refine W_seq ?_
          refine W_region ?_
          refine WO_seg 5 [(10, .int .i64 (IntKind.wrap .i64 (y1.2.1 + (IntKind.wrap .i64 y1.1))))] (by kernel_rfl) (by kernel_rfl) ?_
          refine WO_end rfl ?_
          refine X_then ?_
          refine W_seq ?_
          refine W_region ?_
          refine WO_seg 3 [(43, .slice a1 (List.length p0) c1), (44, .int .i64 y1.2.1), (45, .int .i64 (IntKind.wrap .i64 (y1.2.1 + (IntKind.wrap .i64 y1.1))))] (by kernel_rfl) (by kernel_rfl) ?_
          replace hr := bindS hr
          obtain ⟨l1, hx2, hr⟩ := hr
          refine WO_one rfl (One_slice (d := 46) (t := 50) (e := 5) (x := (.tmp 43)) (lo := (some (.tmp 44))) (hi := (some (.tmp 45))) cU8 (by kernel_rfl) rfl (show evL _ _ = some (.slice a1 (List.length p0) c1) from (by kernel_rfl)) (by kernel_rfl) r1 (.inr ⟨_, _, rfl, (show evL _ _ = some (.int .i64 y1.2.1) from (by kernel_rfl))⟩) (.inr ⟨_, _, rfl, (show evL _ _ = some (.int .i64 (IntKind.wrap .i64 (y1.2.1 + (IntKind.wrap .i64 y1.1)))) from (by kernel_rfl))⟩) hx2 ?_)
          intro a2 c2 r2
          refine WO_one rfl (One_bytesStr (d := 47) (t1 := 50) (t2 := 9) (e := 5) (x := (.tmp 46)) (by kernel_rfl) rfl (show evL _ _ = some (.slice a2 (List.length l1) c2) from (by kernel_rfl)) (by kernel_rfl) (by kernel_rfl) st r2 ?_)
          refine WO_seg 4 [(6, .string (strOf l1)), (7, .int .i64 (IntKind.wrap .i64 (y1.2.1 + (IntKind.wrap .i64 y1.1)))), (8, .int .i64 0)] (by kernel_rfl) (by kernel_rfl) ?_
          refine WO_end rfl ?_
          refine X_then ?_
          refine W_ret ?_
          obtain rfl := Option.some.inj hr
          refine X_ret [.tmp 6, .tmp 7, .tmp 8] [.string (strOf l1), .int .i64 (IntKind.wrap .i64 (y1.2.1 + (IntKind.wrap .i64 y1.1))), .int .i64 0] rfl (ResAll.cons (ResAt.tmp (by kernel_rfl)) (ResAll.cons (ResAt.tmp (by kernel_rfl)) (ResAll.cons (ResAt.tmp (by kernel_rfl)) ResAll.nil))) ?_
          exact ⟨m2, rfl, hm, st⟩
    · intro K
      clear hrK
      refine WO_seg 3 [(25, .bool (decide (p2 < 0)))] (by kernel_rfl) (by kernel_rfl) ?_
      rcases bcases (decide (p2 < 0)) with hc | hc
      · rw [if_pos hc] at hr
        refine WO_fact (t := 25) (b := true) (decide (p2 < 0)) (by kernel_rfl) hc ?_
        refine WO_seg 6 [(22, .bool true)] (by kernel_rfl) (by kernel_rfl) ?_
        obtain rfl := Option.some.inj hr
        exact WO_env _ (by kernel_rfl) (K _ _ ⟨m1, rfl, hm, st, r1⟩)
      · rw [if_neg (not_true hc)] at hr
        refine WO_fact (t := 25) (b := false) (decide (p2 < 0)) (by kernel_rfl) hc ?_
        refine WO_seg 6 [(22, .bool (decide (y1.1 > (IntKind.wrap .u64 p2))))] (by kernel_rfl) (by kernel_rfl) ?_
        obtain rfl := Option.some.inj hr
        exact WO_env _ (by kernel_rfl) (K _ _ ⟨m1, rfl, hm, st, r1⟩)

def testgateref03_Text (N : Nat) (p0 : List UInt8) (p1 : Int) (p2 : Int) : Option (ByteArray × Int × Int) :=
  (testgateref03_Uint N p0 p1).bind fun y1 => if (y1.2.2 != 0) = true then (some ((⟨#[]⟩ : ByteArray), 0, y1.2.2)) else ((if (decide (p2 < 0)) = true then (some true) else (some (decide (y1.1 > (IntKind.wrap .u64 p2)))) : Option (Bool)).bind fun o1 => if o1 = true then (some ((⟨#[]⟩ : ByteArray), 0, 2)) else (if (decide (y1.1 > (IntKind.wrap .u64 (IntKind.wrap .i64 ((List.length p0 : Int) - y1.2.1))))) = true then (some ((⟨#[]⟩ : ByteArray), 0, 7)) else ((subS p0 y1.2.1 (IntKind.wrap .i64 (y1.2.1 + (IntKind.wrap .i64 y1.1)))).bind fun l1 => some (strOf l1, IntKind.wrap .i64 (y1.2.1 + (IntKind.wrap .i64 y1.1)), 0))))

set_option maxHeartbeats 4000000 in
set_option maxRecDepth 100000 in
theorem testgateref03_Text_ok {N : Nat} {m : Mem} {own : List Piece} {w : World} {p0 : List UInt8} {p1 : Int} {p2 : Int} {a1 : Option Addr} {c1 : Nat} {r : ByteArray × Int × Int} (st : St m (own) w) (r1 : RepS cU8 m a1 c1 p0) (hr : testgateref03_Text N p0 p1 p2 = some r) : Calls Go.Proofs.Try.prog 54 #[.slice a1 (List.length p0) c1, .int .i64 p1, .int .i64 p2] w fun e w' => ∃ (m' : Mem), e = .returned (.tuple #[.string r.1, .int .i64 r.2.1, .int .i64 r.2.2]) ∧ m.le m' ∧ St m' (own) w' := by
  unfold testgateref03_Text at hr
  have hm := m.le_refl
  refine W_calls Go.Proofs.Try.func54 rfl Go.Proofs.Try.ntmps54 [(0, .slice a1 (List.length p0) c1), (1, .int .i64 p1), (2, .int .i64 p2)] (by kernel_rfl) rfl ?_
  refine W_seq ?_
  refine W_region ?_
  refine WO_seg 3 [] (by kernel_rfl) (by kernel_rfl) ?_
  refine WO_end rfl ?_
  refine X_then ?_
  refine W_seq ?_
  refine W_region ?_
  refine WO_seg 2 [(11, .slice a1 (List.length p0) c1), (12, .int .i64 p1)] (by kernel_rfl) (by kernel_rfl) ?_
  replace hr := bindS hr
  obtain ⟨y1, hx1, hr⟩ := hr
  refine WO_one rfl (One_fn 13 50 #[.slice a1 (List.length p0) c1, .int .i64 p1] (by kernel_rfl) rfl ?_)
  refine (testgateref03_Uint_ok st r1 hx1).mono ?_
  clear st
  rintro _ w1 ⟨m1, rfl, hle1, st⟩
  refine ⟨_, rfl, ?_⟩
  have hm := Mem.le_trans hm hle1
  have r1 := r1.mono hle1
  refine WO_seg 7 [(9, .int .u64 y1.1), (7, .int .i64 y1.2.1), (8, .int .i64 y1.2.2)] (by kernel_rfl) (by kernel_rfl) ?_
  refine WO_end rfl ?_
  refine X_then ?_
  refine W_seq ?_
  refine W_seq ?_
  refine W_region ?_
  refine WO_seg 2 [(18, .bool (y1.2.2 != 0))] (by kernel_rfl) (by kernel_rfl) ?_
  refine WO_end rfl ?_
  refine X_then ?_
  refine W_cond (y1.2.2 != 0) (by kernel_rfl) ?_ ?_
  · intro hc
    rw [if_pos hc] at hr
    refine W_seq ?_
    refine W_region ?_
    refine WO_seg 4 [(6, .string (⟨#[]⟩ : ByteArray)), (7, .int .i64 0), (8, .int .i64 y1.2.2)] (by kernel_rfl) (by kernel_rfl) ?_
    refine WO_end rfl ?_
    refine X_then ?_
    refine W_ret ?_
    refine X_then_ret ?_
    obtain rfl := Option.some.inj hr
    refine X_ret [.tmp 6, .tmp 7, .tmp 8] [.string (⟨#[]⟩ : ByteArray), .int .i64 0, .int .i64 y1.2.2] rfl (ResAll.cons (ResAt.tmp (by kernel_rfl)) (ResAll.cons (ResAt.tmp (by kernel_rfl)) (ResAll.cons (ResAt.tmp (by kernel_rfl)) ResAll.nil))) ?_
    exact ⟨m1, rfl, hm, st⟩
  · intro hc
    rw [if_neg (not_true hc)] at hr
    refine W_skip ?_
    refine X_then ?_
    refine W_seq ?_
    refine W_seq ?_
    refine W_region ?_
    replace hr := bindS hr
    obtain ⟨o1, hr, hrK⟩ := hr
    refine WO_cut (j := 8) (fun L' w' => ∃ (m2 : Mem), L' = [(0, .slice a1 (List.length p0) c1), (7, .int .i64 y1.2.1), (9, .int .u64 y1.1), (27, .bool o1)] ∧ m.le m2 ∧ St m2 (own) w' ∧ RepS cU8 m2 a1 c1 p0) ?_ ?_
    · clear hr st
      have hr := hrK
      clear hrK
      rintro _ w2 ⟨m2, rfl, hm, st, r1⟩
      refine WO_end rfl ?_
      refine X_then ?_
      refine W_cond o1 (by kernel_rfl) ?_ ?_
      · intro hc
        rw [if_pos hc] at hr
        refine W_seq ?_
        refine W_region ?_
        refine WO_seg 3 [(6, .string (⟨#[]⟩ : ByteArray)), (7, .int .i64 0), (8, .int .i64 2)] (by kernel_rfl) (by kernel_rfl) ?_
        refine WO_end rfl ?_
        refine X_then ?_
        refine W_ret ?_
        refine X_then_ret ?_
        obtain rfl := Option.some.inj hr
        refine X_ret [.tmp 6, .tmp 7, .tmp 8] [.string (⟨#[]⟩ : ByteArray), .int .i64 0, .int .i64 2] rfl (ResAll.cons (ResAt.tmp (by kernel_rfl)) (ResAll.cons (ResAt.tmp (by kernel_rfl)) (ResAll.cons (ResAt.tmp (by kernel_rfl)) ResAll.nil))) ?_
        exact ⟨m2, rfl, hm, st⟩
      · intro hc
        rw [if_neg (not_true hc)] at hr
        refine W_skip ?_
        refine X_then ?_
        refine W_seq ?_
        refine W_seq ?_
        refine W_region ?_
        refine WO_seg 7 [(34, .bool (decide (y1.1 > (IntKind.wrap .u64 (IntKind.wrap .i64 ((List.length p0 : Int) - y1.2.1))))))] (by kernel_rfl) (by kernel_rfl) ?_
        refine WO_end rfl ?_
        refine X_then ?_
        refine W_cond (decide (y1.1 > (IntKind.wrap .u64 (IntKind.wrap .i64 ((List.length p0 : Int) - y1.2.1))))) (by kernel_rfl) ?_ ?_
        · intro hc
          rw [if_pos hc] at hr
          refine W_seq ?_
          refine W_region ?_
          refine WO_seg 3 [(6, .string (⟨#[]⟩ : ByteArray)), (7, .int .i64 0), (8, .int .i64 7)] (by kernel_rfl) (by kernel_rfl) ?_
          refine WO_end rfl ?_
          refine X_then ?_
          refine W_ret ?_
          refine X_then_ret ?_
          obtain rfl := Option.some.inj hr
          refine X_ret [.tmp 6, .tmp 7, .tmp 8] [.string (⟨#[]⟩ : ByteArray), .int .i64 0, .int .i64 7] rfl (ResAll.cons (ResAt.tmp (by kernel_rfl)) (ResAll.cons (ResAt.tmp (by kernel_rfl)) (ResAll.cons (ResAt.tmp (by kernel_rfl)) ResAll.nil))) ?_
          exact ⟨m2, rfl, hm, st⟩
        · intro hc
          rw [if_neg (not_true hc)] at hr
          refine W_skip ?_
          refine X_then ?_
          refine W_seq ?_
          refine W_region ?_
          refine WO_seg 6 [(35, .slice a1 (List.length p0) c1), (36, .int .i64 y1.2.1), (40, .int .i64 (IntKind.wrap .i64 (y1.2.1 + (IntKind.wrap .i64 y1.1))))] (by kernel_rfl) (by kernel_rfl) ?_
          replace hr := bindS hr
          obtain ⟨l1, hx2, hr⟩ := hr
          refine WO_one rfl (One_slice (d := 41) (t := 50) (e := 5) (x := (.tmp 35)) (lo := (some (.tmp 36))) (hi := (some (.tmp 40))) cU8 (by kernel_rfl) rfl (show evL _ _ = some (.slice a1 (List.length p0) c1) from (by kernel_rfl)) (by kernel_rfl) r1 (.inr ⟨_, _, rfl, (show evL _ _ = some (.int .i64 y1.2.1) from (by kernel_rfl))⟩) (.inr ⟨_, _, rfl, (show evL _ _ = some (.int .i64 (IntKind.wrap .i64 (y1.2.1 + (IntKind.wrap .i64 y1.1)))) from (by kernel_rfl))⟩) hx2 ?_)
          intro a2 c2 r2
          refine WO_one rfl (One_bytesStr (d := 42) (t1 := 50) (t2 := 9) (e := 5) (x := (.tmp 41)) (by kernel_rfl) rfl (show evL _ _ = some (.slice a2 (List.length l1) c2) from (by kernel_rfl)) (by kernel_rfl) (by kernel_rfl) st r2 ?_)
          refine WO_seg 7 [(6, .string (strOf l1)), (7, .int .i64 (IntKind.wrap .i64 (y1.2.1 + (IntKind.wrap .i64 y1.1)))), (8, .int .i64 0)] (by kernel_rfl) (by kernel_rfl) ?_
          refine WO_end rfl ?_
          refine X_then ?_
          refine W_ret ?_
          obtain rfl := Option.some.inj hr
          refine X_ret [.tmp 6, .tmp 7, .tmp 8] [.string (strOf l1), .int .i64 (IntKind.wrap .i64 (y1.2.1 + (IntKind.wrap .i64 y1.1))), .int .i64 0] rfl (ResAll.cons (ResAt.tmp (by kernel_rfl)) (ResAll.cons (ResAt.tmp (by kernel_rfl)) (ResAll.cons (ResAt.tmp (by kernel_rfl)) ResAll.nil))) ?_
          exact ⟨m2, rfl, hm, st⟩
    · intro K
      clear hrK
      refine WO_seg 3 [(22, .bool (decide (p2 < 0)))] (by kernel_rfl) (by kernel_rfl) ?_
      rcases bcases (decide (p2 < 0)) with hc | hc
      · rw [if_pos hc] at hr
        refine WO_fact (t := 22) (b := true) (decide (p2 < 0)) (by kernel_rfl) hc ?_
        refine WO_seg 5 [(27, .bool true)] (by kernel_rfl) (by kernel_rfl) ?_
        obtain rfl := Option.some.inj hr
        exact WO_env _ (by kernel_rfl) (K _ _ ⟨m1, rfl, hm, st, r1⟩)
      · rw [if_neg (not_true hc)] at hr
        refine WO_fact (t := 22) (b := false) (decide (p2 < 0)) (by kernel_rfl) hc ?_
        refine WO_seg 5 [(27, .bool (decide (y1.1 > (IntKind.wrap .u64 p2))))] (by kernel_rfl) (by kernel_rfl) ?_
        obtain rfl := Option.some.inj hr
        exact WO_env _ (by kernel_rfl) (K _ _ ⟨m1, rfl, hm, st, r1⟩)

def testgatelaw03_WireNumbers_L1 (N : Nat) (p3 : Int) (p4 : Int) (y3 : List UInt8) (s2 : Int) : Option ((Int) ⊕ ((Unit) ⊕ (Bool))) :=
  if (decide (s2 ≤ 40)) = true then ((if (s2 == 40) = true then (some p3) else (some s2) : Option (Int)).bind fun o4 => (wire_Uint N y3 o4).bind fun y8 => (testgateref03_Uint N y3 o4).bind fun y9 => (if (y8.1 != y9.1) = true then (some true) else (if (y8.2.1 != y9.2.1) = true then (some true) else (some (y8.2.2 != y9.2.2))) : Option (Bool)).bind fun o5 => if o5 = true then (some (.inr (.inr (false)))) else ((wire_Int N y3 o4).bind fun y10 => (testgateref03_Int N y3 o4).bind fun y11 => (if (y10.1 != y11.1) = true then (some true) else (if (y10.2.1 != y11.2.1) = true then (some true) else (some (y10.2.2 != y11.2.2))) : Option (Bool)).bind fun o6 => if o6 = true then (some (.inr (.inr (false)))) else ((wire_Text N y3 o4 p4).bind fun y12 => (testgateref03_Text N y3 o4 p4).bind fun y13 => (if (!(y12.1.toList == y13.1.toList)) = true then (some true) else (if (y12.2.1 != y13.2.1) = true then (some true) else (some (y12.2.2 != y13.2.2))) : Option (Bool)).bind fun o7 => if o7 = true then (some (.inr (.inr (false)))) else (some (.inl (IntKind.wrap .i64 (s2 + 1))))))) else (some (.inr (.inl ())))

def testgatelaw03_WireNumbers (N : Nat) (p0 : List UInt8) (p1 : Int) (p2 : Int) (p3 : Int) (p4 : Int) (p5 : ByteArray) : Option (Bool) :=
  (if (decide ((List.length p0 : Int) > 600)) = true then ((subS p0 0 600).bind fun l1 => some l1) else (some p0) : Option (List (UInt8))).bind fun o1 => (if (decide ((ByteArray.size p5 : Int) > 300)) = true then ((subB p5 0 300).bind fun s1 => some s1) else (some p5) : Option (ByteArray)).bind fun o2 => (wire_PutUint N o1 p1).bind fun y1 => (wire_PutInt N y1 p2).bind fun y2 => (wire_PutText N y2 o2).bind fun y3 => (testgateref03_PutUint N o1 p1).bind fun y4 => (testgateref03_PutInt N y4 p2).bind fun y5 => (testgateref03_PutText N y5 o2).bind fun y6 => (testgateref03_Same N y3 y6).bind fun y7 => if (!y7) = true then (some false) else ((loopM (testgatelaw03_WireNumbers_L1 N p3 p4 y3) N (-1)).bind fun out1 => (match out1 with | .inl o3 => (testgatelaw03_awake N).bind fun y14 => some y14 | .inr (z) => some z))

set_option maxHeartbeats 4000000 in
set_option maxRecDepth 100000 in
theorem testgatelaw03_WireNumbers_ok {N : Nat} {m : Mem} {own : List Piece} {w : World} {p0 : List UInt8} {p1 : Int} {p2 : Int} {p3 : Int} {p4 : Int} {p5 : ByteArray} {a1 : Option Addr} {c1 : Nat} {r : Bool} (st : St m (own) w) (r1 : RepS cU8 m a1 c1 p0) (hr : testgatelaw03_WireNumbers N p0 p1 p2 p3 p4 p5 = some r) : Calls Go.Proofs.Try.prog 8 #[.slice a1 (List.length p0) c1, .int .u64 p1, .int .i64 p2, .int .i64 p3, .int .i64 p4, .string p5] w fun e w' => ∃ (m' : Mem), e = .returned (.bool r) ∧ m.le m' ∧ St m' (own) w' := by
  unfold testgatelaw03_WireNumbers at hr
  have hm := m.le_refl
  refine W_calls Go.Proofs.Try.func8 rfl Go.Proofs.Try.ntmps8 [(0, .slice a1 (List.length p0) c1), (1, .int .u64 p1), (2, .int .i64 p2), (3, .int .i64 p3), (4, .int .i64 p4), (5, .string p5)] (by kernel_rfl) rfl ?_
  refine W_seq ?_
  refine W_region ?_
  refine WO_seg 1 [] (by kernel_rfl) (by kernel_rfl) ?_
  refine WO_end rfl ?_
  refine X_then ?_
  refine W_seq ?_
  refine W_seq ?_
  refine W_region ?_
  refine WO_seg 3 [(28, .bool (decide ((List.length p0 : Int) > 600)))] (by kernel_rfl) (by kernel_rfl) ?_
  refine WO_end rfl ?_
  refine X_then ?_
  replace hr := bindS hr
  obtain ⟨o1, hr, hrKu1⟩ := hr
  refine W_cut .normal (fun L' w' => ∃ (a2 : Option Addr) (c2 : Nat) (m1 : Mem), L' = [(0, .slice a2 (List.length o1) c2), (1, .int .u64 p1), (2, .int .i64 p2), (3, .int .i64 p3), (4, .int .i64 p4), (5, .string p5)] ∧ m.le m1 ∧ St m1 (own) w' ∧ RepS cU8 m1 a2 c2 o1) ?_ ?_
  · clear hr st
    have hr := hrKu1
    clear hrKu1
    rintro _ w1 ⟨a2, c2, m1, rfl, hm, st, r2⟩
    refine X_then ?_
    refine W_seq ?_
    refine W_seq ?_
    refine W_region ?_
    refine WO_seg 3 [(33, .bool (decide ((ByteArray.size p5 : Int) > 300)))] (by kernel_rfl) (by kernel_rfl) ?_
    refine WO_end rfl ?_
    refine X_then ?_
    replace hr := bindS hr
    obtain ⟨o2, hr, hrKu2⟩ := hr
    refine W_cut .normal (fun L' w' => ∃ (m2 : Mem), L' = [(0, .slice a2 (List.length o1) c2), (1, .int .u64 p1), (2, .int .i64 p2), (3, .int .i64 p3), (4, .int .i64 p4), (5, .string o2)] ∧ m.le m2 ∧ St m2 (own) w' ∧ RepS cU8 m2 a2 c2 o1) ?_ ?_
    · clear hr st
      have hr := hrKu2
      clear hrKu2
      rintro _ w2 ⟨m2, rfl, hm, st, r2⟩
      refine X_then ?_
      refine W_seq ?_
      refine W_region ?_
      refine WO_seg 2 [(36, .slice a2 (List.length o1) c2), (37, .int .u64 p1)] (by kernel_rfl) (by kernel_rfl) ?_
      replace hr := bindS hr
      obtain ⟨y1, hx3, hr⟩ := hr
      refine WO_one rfl (One_fn 38 45 #[.slice a2 (List.length o1) c2, .int .u64 p1] (by kernel_rfl) rfl ?_)
      refine (wire_PutUint_ok st r2 hx3).mono ?_
      clear st
      rintro _ w3 ⟨a4, c4, m3, rfl, hle1, st, r4⟩
      refine ⟨_, rfl, ?_⟩
      have hm := Mem.le_trans hm hle1
      have r2 := r2.mono hle1
      refine WO_seg 1 [(39, .int .i64 p2)] (by kernel_rfl) (by kernel_rfl) ?_
      replace hr := bindS hr
      obtain ⟨y2, hx4, hr⟩ := hr
      refine WO_one rfl (One_fn 40 44 #[.slice a4 (List.length y1) c4, .int .i64 p2] (by kernel_rfl) rfl ?_)
      refine (wire_PutInt_ok st r4 hx4).mono ?_
      clear st
      rintro _ w4 ⟨a5, c5, m4, rfl, hle2, st, r5⟩
      refine ⟨_, rfl, ?_⟩
      have hm := Mem.le_trans hm hle2
      have r2 := r2.mono hle2
      have r4 := r4.mono hle2
      refine WO_seg 1 [(41, .string o2)] (by kernel_rfl) (by kernel_rfl) ?_
      replace hr := bindS hr
      obtain ⟨y3, hx5, hr⟩ := hr
      refine WO_one rfl (One_fn 42 43 #[.slice a5 (List.length y2) c5, .string o2] (by kernel_rfl) rfl ?_)
      refine (wire_PutText_ok st r5 hx5).mono ?_
      clear st
      rintro _ w5 ⟨a6, c6, m5, rfl, hle3, st, r6⟩
      refine ⟨_, rfl, ?_⟩
      have hm := Mem.le_trans hm hle3
      have r2 := r2.mono hle3
      have r4 := r4.mono hle3
      have r5 := r5.mono hle3
      refine WO_seg 1 [(13, .slice a6 (List.length y3) c6)] (by kernel_rfl) (by kernel_rfl) ?_
      refine WO_end rfl ?_
      have st := st.front1
      have st := st.tail
      have st := st.front1
      have st := st.tail
      refine X_then ?_
      refine W_seq ?_
      refine W_seq ?_
      refine W_region ?_
      refine WO_seg 3 [(43, .slice a6 (List.length y3) c6), (44, .slice a2 (List.length o1) c2), (45, .int .u64 p1)] (by kernel_rfl) (by kernel_rfl) ?_
      replace hr := bindS hr
      obtain ⟨y4, hx6, hr⟩ := hr
      refine WO_one rfl (One_fn 46 48 #[.slice a2 (List.length o1) c2, .int .u64 p1] (by kernel_rfl) rfl ?_)
      refine (testgateref03_PutUint_ok st r2 hx6).mono ?_
      clear st
      rintro _ w6 ⟨a7, c7, m6, rfl, hle4, st, r7⟩
      refine ⟨_, rfl, ?_⟩
      have hm := Mem.le_trans hm hle4
      have r2 := r2.mono hle4
      have r6 := r6.mono hle4
      refine WO_seg 1 [(47, .int .i64 p2)] (by kernel_rfl) (by kernel_rfl) ?_
      replace hr := bindS hr
      obtain ⟨y5, hx7, hr⟩ := hr
      refine WO_one rfl (One_fn 48 47 #[.slice a7 (List.length y4) c7, .int .i64 p2] (by kernel_rfl) rfl ?_)
      refine (testgateref03_PutInt_ok st r7 hx7).mono ?_
      clear st
      rintro _ w7 ⟨a8, c8, m7, rfl, hle5, st, r8⟩
      refine ⟨_, rfl, ?_⟩
      have hm := Mem.le_trans hm hle5
      have r2 := r2.mono hle5
      have r6 := r6.mono hle5
      have r7 := r7.mono hle5
      refine WO_seg 1 [(49, .string o2)] (by kernel_rfl) (by kernel_rfl) ?_
      replace hr := bindS hr
      obtain ⟨y6, hx8, hr⟩ := hr
      refine WO_one rfl (One_fn 50 46 #[.slice a8 (List.length y5) c8, .string o2] (by kernel_rfl) rfl ?_)
      refine (testgateref03_PutText_ok st r8 hx8).mono ?_
      clear st
      rintro _ w8 ⟨a9, c9, m8, rfl, hle6, st, r9⟩
      refine ⟨_, rfl, ?_⟩
      have hm := Mem.le_trans hm hle6
      have r2 := r2.mono hle6
      have r6 := r6.mono hle6
      have r7 := r7.mono hle6
      have r8 := r8.mono hle6
      replace hr := bindS hr
      obtain ⟨y7, hx9, hr⟩ := hr
      refine WO_one rfl (One_fn 51 33 #[.slice a6 (List.length y3) c6, .slice a9 (List.length y6) c9] (by kernel_rfl) rfl ?_)
      refine (testgateref03_Same_ok st r6 r9 hx9).mono ?_
      clear st
      rintro _ w9 ⟨m9, rfl, hle7, st⟩
      refine ⟨_, rfl, ?_⟩
      have hm := Mem.le_trans hm hle7
      have r2 := r2.mono hle7
      have r6 := r6.mono hle7
      have r7 := r7.mono hle7
      have r8 := r8.mono hle7
      have r9 := r9.mono hle7
      refine WO_seg 1 [(52, .bool (!y7))] (by kernel_rfl) (by kernel_rfl) ?_
      refine WO_end rfl ?_
      have st := st.tail
      have st := st.tail
      have st := st.tail
      refine X_then ?_
      refine W_cond (!y7) (by kernel_rfl) ?_ ?_
      · intro hc
        rw [if_pos hc] at hr
        refine W_seq ?_
        refine W_region ?_
        refine WO_seg 1 [(12, .bool false)] (by kernel_rfl) (by kernel_rfl) ?_
        refine WO_end rfl ?_
        have st := st.tail
        refine X_then ?_
        refine W_ret ?_
        refine X_then_ret ?_
        obtain rfl := Option.some.inj hr
        refine X_ret [.tmp 12] [.bool false] rfl (ResAll.cons (ResAt.tmp (by kernel_rfl)) ResAll.nil) ?_
        exact ⟨m9, rfl, hm, st⟩
      · intro hc
        rw [if_neg (not_true hc)] at hr
        refine W_skip ?_
        refine X_then ?_
        refine W_seq ?_
        refine W_seq ?_
        refine W_region ?_
        refine WO_seg 1 [(14, .int .i64 (-1))] (by kernel_rfl) (by kernel_rfl) ?_
        refine WO_end rfl ?_
        refine X_then ?_
        refine W_block ?_
        replace hr := bindS hr
        obtain ⟨out1, hr, hrKu3⟩ := hr
        refine W_cut (.exit 0) (fun L' w' => ∃ (o3 : Unit) (m10 : Mem), (.inl o3) = out1 ∧ L' = [] ∧ m.le m10 ∧ St m10 (.room a6 (List.length y3) c6 5 1 :: own) w') ?_ ?_
        · clear hr st
          rintro _ w10 ⟨o3, m10, rfl, rfl, hm, st⟩
          have hr := hrKu3
          clear hrKu3
          dsimp only at hr
          refine X_block_eq ?_
          refine X_then ?_
          refine W_seq ?_
          refine W_region ?_
          replace hr := bindS hr
          obtain ⟨y14, hx16, hr⟩ := hr
          refine WO_one rfl (One_fn 144 41 #[] (by kernel_rfl) rfl ?_)
          refine (testgatelaw03_awake_ok st hx16).mono ?_
          clear st
          rintro _ w22 ⟨m22, rfl, hle14, st⟩
          refine ⟨_, rfl, ?_⟩
          have hm := Mem.le_trans hm hle14
          refine WO_seg 1 [(12, .bool y14)] (by kernel_rfl) (by kernel_rfl) ?_
          refine WO_end rfl ?_
          have st := st.tail
          refine X_then ?_
          refine W_ret ?_
          obtain rfl := Option.some.inj hr
          refine X_ret [.tmp 12] [.bool y14] rfl (ResAll.cons (ResAt.tmp (by kernel_rfl)) ResAll.nil) ?_
          exact ⟨m22, rfl, hm, st⟩
        intro K0_u3
        refine W_env _ (by kernel_rfl) (W_loop (fun k1 L' w' => ∃ (s2 : Int) (m11 : Mem), loopM (testgatelaw03_WireNumbers_L1 N p3 p4 y3) k1 s2 = some out1 ∧ L' = [(3, .int .i64 p3), (4, .int .i64 p4), (13, .slice a6 (List.length y3) c6), (14, .int .i64 s2)] ∧ m.le m11 ∧ St m11 (.room a6 (List.length y3) c6 5 1 :: own) w' ∧ RepS cU8 m11 a6 c6 y3) N ⟨(-1), m9, hr, rfl, hm, st, r6⟩ ?_)
        clear st hr
        rintro k1 _ w11 ⟨s2, m11, hL, rfl, hm, st, r6⟩
        rcases k1 with _ | k1
        · exact loopM_zero hL
        · obtain ⟨qu3, hr, hSu3, hBu3⟩ := loopM_succ hL
          clear hL
          unfold testgatelaw03_WireNumbers_L1 at hr
          refine W_seq ?_
          refine W_seq ?_
          refine W_region ?_
          refine WO_seg 2 [(54, .bool (decide (s2 ≤ 40)))] (by kernel_rfl) (by kernel_rfl) ?_
          refine WO_end rfl ?_
          refine X_then ?_
          refine W_cond (decide (s2 ≤ 40)) (by kernel_rfl) ?_ ?_
          · intro hc
            rw [if_pos hc] at hr
            refine W_skip ?_
            refine X_then ?_
            refine W_seq ?_
            refine W_block ?_
            refine W_seq ?_
            refine W_region ?_
            refine WO_seg 2 [(15, .int .i64 s2)] (by kernel_rfl) (by kernel_rfl) ?_
            refine WO_end rfl ?_
            refine X_then ?_
            refine W_seq ?_
            refine W_seq ?_
            refine W_region ?_
            refine WO_seg 2 [(59, .bool (s2 == 40))] (by kernel_rfl) (by kernel_rfl) ?_
            refine WO_end rfl ?_
            refine X_then ?_
            replace hr := bindS hr
            obtain ⟨o4, hr, hrKu4⟩ := hr
            refine W_cut .normal (fun L' w' => ∃ (m12 : Mem), L' = [(3, .int .i64 p3), (4, .int .i64 p4), (13, .slice a6 (List.length y3) c6), (14, .int .i64 s2), (15, .int .i64 o4)] ∧ m.le m12 ∧ St m12 (.room a6 (List.length y3) c6 5 1 :: own) w' ∧ RepS cU8 m12 a6 c6 y3) ?_ ?_
            · clear hr st
              have hr := hrKu4
              clear hrKu4
              rintro _ w12 ⟨m12, rfl, hm, st, r6⟩
              refine X_then ?_
              refine W_seq ?_
              refine W_region ?_
              refine WO_seg 2 [(62, .slice a6 (List.length y3) c6), (63, .int .i64 o4)] (by kernel_rfl) (by kernel_rfl) ?_
              replace hr := bindS hr
              obtain ⟨y8, hx10, hr⟩ := hr
              refine WO_one rfl (One_fn 64 49 #[.slice a6 (List.length y3) c6, .int .i64 o4] (by kernel_rfl) rfl ?_)
              refine (wire_Uint_ok st r6 hx10).mono ?_
              clear st
              rintro _ w13 ⟨m13, rfl, hle8, st⟩
              refine ⟨_, rfl, ?_⟩
              have hm := Mem.le_trans hm hle8
              have r6 := r6.mono hle8
              refine WO_seg 7 [(16, .int .u64 y8.1), (17, .int .i64 y8.2.1), (18, .int .i64 y8.2.2)] (by kernel_rfl) (by kernel_rfl) ?_
              refine WO_end rfl ?_
              refine X_then ?_
              refine W_seq ?_
              refine W_region ?_
              refine WO_seg 2 [(69, .slice a6 (List.length y3) c6), (70, .int .i64 o4)] (by kernel_rfl) (by kernel_rfl) ?_
              replace hr := bindS hr
              obtain ⟨y9, hx11, hr⟩ := hr
              refine WO_one rfl (One_fn 71 50 #[.slice a6 (List.length y3) c6, .int .i64 o4] (by kernel_rfl) rfl ?_)
              refine (testgateref03_Uint_ok st r6 hx11).mono ?_
              clear st
              rintro _ w14 ⟨m14, rfl, hle9, st⟩
              refine ⟨_, rfl, ?_⟩
              have hm := Mem.le_trans hm hle9
              have r6 := r6.mono hle9
              refine WO_seg 7 [(19, .int .u64 y9.1), (20, .int .i64 y9.2.1), (21, .int .i64 y9.2.2)] (by kernel_rfl) (by kernel_rfl) ?_
              refine WO_end rfl ?_
              refine X_then ?_
              refine W_seq ?_
              refine W_seq ?_
              refine W_region ?_
              replace hr := bindS hr
              obtain ⟨o5, hr, hrK⟩ := hr
              refine WO_cut (j := 13) (fun L' w' => ∃ (m15 : Mem), L' = [(3, .int .i64 p3), (4, .int .i64 p4), (13, .slice a6 (List.length y3) c6), (14, .int .i64 s2), (15, .int .i64 o4), (87, .bool o5)] ∧ m.le m15 ∧ St m15 (.room a6 (List.length y3) c6 5 1 :: own) w' ∧ RepS cU8 m15 a6 c6 y3) ?_ ?_
              · clear hr st
                have hr := hrK
                clear hrK
                rintro _ w15 ⟨m15, rfl, hm, st, r6⟩
                refine WO_end rfl ?_
                refine X_then ?_
                refine W_cond o5 (by kernel_rfl) ?_ ?_
                · intro hc
                  rw [if_pos hc] at hr
                  refine W_seq ?_
                  refine W_region ?_
                  refine WO_seg 1 [(12, .bool false)] (by kernel_rfl) (by kernel_rfl) ?_
                  refine WO_end rfl ?_
                  have st := st.tail
                  refine X_then ?_
                  refine W_ret ?_
                  refine X_then_ret ?_
                  refine X_block_ret ?_
                  refine X_then_ret ?_
                  obtain rfl := Option.some.inj hr
                  have ho := hBu3 _ rfl
                  subst ho
                  have hr := hrKu3
                  dsimp only at hr
                  refine X_then_ret ?_
                  refine X_block_ret ?_
                  refine X_then_ret ?_
                  obtain rfl := Option.some.inj hr
                  refine X_ret [.tmp 12] [.bool false] rfl (ResAll.cons (ResAt.tmp (by kernel_rfl)) ResAll.nil) ?_
                  exact ⟨m15, rfl, hm, st⟩
                · intro hc
                  rw [if_neg (not_true hc)] at hr
                  refine W_skip ?_
                  refine X_then ?_
                  refine W_seq ?_
                  refine W_region ?_
                  refine WO_seg 2 [(89, .slice a6 (List.length y3) c6), (90, .int .i64 o4)] (by kernel_rfl) (by kernel_rfl) ?_
                  replace hr := bindS hr
                  obtain ⟨y10, hx12, hr⟩ := hr
                  refine WO_one rfl (One_fn 91 51 #[.slice a6 (List.length y3) c6, .int .i64 o4] (by kernel_rfl) rfl ?_)
                  refine (wire_Int_ok st r6 hx12).mono ?_
                  clear st
                  rintro _ w16 ⟨m16, rfl, hle10, st⟩
                  refine ⟨_, rfl, ?_⟩
                  have hm := Mem.le_trans hm hle10
                  have r6 := r6.mono hle10
                  refine WO_seg 7 [(22, .int .i64 y10.1), (17, .int .i64 y10.2.1), (18, .int .i64 y10.2.2)] (by kernel_rfl) (by kernel_rfl) ?_
                  refine WO_end rfl ?_
                  refine X_then ?_
                  refine W_seq ?_
                  refine W_region ?_
                  refine WO_seg 2 [(96, .slice a6 (List.length y3) c6), (97, .int .i64 o4)] (by kernel_rfl) (by kernel_rfl) ?_
                  replace hr := bindS hr
                  obtain ⟨y11, hx13, hr⟩ := hr
                  refine WO_one rfl (One_fn 98 52 #[.slice a6 (List.length y3) c6, .int .i64 o4] (by kernel_rfl) rfl ?_)
                  refine (testgateref03_Int_ok st r6 hx13).mono ?_
                  clear st
                  rintro _ w17 ⟨m17, rfl, hle11, st⟩
                  refine ⟨_, rfl, ?_⟩
                  have hm := Mem.le_trans hm hle11
                  have r6 := r6.mono hle11
                  refine WO_seg 7 [(23, .int .i64 y11.1), (20, .int .i64 y11.2.1), (21, .int .i64 y11.2.2)] (by kernel_rfl) (by kernel_rfl) ?_
                  refine WO_end rfl ?_
                  refine X_then ?_
                  refine W_seq ?_
                  refine W_seq ?_
                  refine W_region ?_
                  replace hr := bindS hr
                  obtain ⟨o6, hr, hrK⟩ := hr
                  refine WO_cut (j := 13) (fun L' w' => ∃ (m18 : Mem), L' = [(3, .int .i64 p3), (4, .int .i64 p4), (13, .slice a6 (List.length y3) c6), (14, .int .i64 s2), (15, .int .i64 o4), (114, .bool o6)] ∧ m.le m18 ∧ St m18 (.room a6 (List.length y3) c6 5 1 :: own) w' ∧ RepS cU8 m18 a6 c6 y3) ?_ ?_
                  · clear hr st
                    have hr := hrK
                    clear hrK
                    rintro _ w18 ⟨m18, rfl, hm, st, r6⟩
                    refine WO_end rfl ?_
                    refine X_then ?_
                    refine W_cond o6 (by kernel_rfl) ?_ ?_
                    · intro hc
                      rw [if_pos hc] at hr
                      refine W_seq ?_
                      refine W_region ?_
                      refine WO_seg 1 [(12, .bool false)] (by kernel_rfl) (by kernel_rfl) ?_
                      refine WO_end rfl ?_
                      have st := st.tail
                      refine X_then ?_
                      refine W_ret ?_
                      refine X_then_ret ?_
                      refine X_block_ret ?_
                      refine X_then_ret ?_
                      obtain rfl := Option.some.inj hr
                      have ho := hBu3 _ rfl
                      subst ho
                      have hr := hrKu3
                      dsimp only at hr
                      refine X_then_ret ?_
                      refine X_block_ret ?_
                      refine X_then_ret ?_
                      obtain rfl := Option.some.inj hr
                      refine X_ret [.tmp 12] [.bool false] rfl (ResAll.cons (ResAt.tmp (by kernel_rfl)) ResAll.nil) ?_
                      exact ⟨m18, rfl, hm, st⟩
                    · intro hc
                      rw [if_neg (not_true hc)] at hr
                      refine W_skip ?_
                      refine X_then ?_
                      refine W_seq ?_
                      refine W_region ?_
                      refine WO_seg 3 [(116, .slice a6 (List.length y3) c6), (117, .int .i64 o4), (118, .int .i64 p4)] (by kernel_rfl) (by kernel_rfl) ?_
                      replace hr := bindS hr
                      obtain ⟨y12, hx14, hr⟩ := hr
                      refine WO_one rfl (One_fn 119 53 #[.slice a6 (List.length y3) c6, .int .i64 o4, .int .i64 p4] (by kernel_rfl) rfl ?_)
                      refine (wire_Text_ok st r6 hx14).mono ?_
                      clear st
                      rintro _ w19 ⟨m19, rfl, hle12, st⟩
                      refine ⟨_, rfl, ?_⟩
                      have hm := Mem.le_trans hm hle12
                      have r6 := r6.mono hle12
                      refine WO_seg 7 [(24, .string y12.1), (17, .int .i64 y12.2.1), (18, .int .i64 y12.2.2)] (by kernel_rfl) (by kernel_rfl) ?_
                      refine WO_end rfl ?_
                      refine X_then ?_
                      refine W_seq ?_
                      refine W_region ?_
                      refine WO_seg 3 [(124, .slice a6 (List.length y3) c6), (125, .int .i64 o4), (126, .int .i64 p4)] (by kernel_rfl) (by kernel_rfl) ?_
                      replace hr := bindS hr
                      obtain ⟨y13, hx15, hr⟩ := hr
                      refine WO_one rfl (One_fn 127 54 #[.slice a6 (List.length y3) c6, .int .i64 o4, .int .i64 p4] (by kernel_rfl) rfl ?_)
                      refine (testgateref03_Text_ok st r6 hx15).mono ?_
                      clear st
                      rintro _ w20 ⟨m20, rfl, hle13, st⟩
                      refine ⟨_, rfl, ?_⟩
                      have hm := Mem.le_trans hm hle13
                      have r6 := r6.mono hle13
                      refine WO_seg 7 [(25, .string y13.1), (20, .int .i64 y13.2.1), (21, .int .i64 y13.2.2)] (by kernel_rfl) (by kernel_rfl) ?_
                      refine WO_end rfl ?_
                      refine X_then ?_
                      refine W_seq ?_
                      refine W_region ?_
                      replace hr := bindS hr
                      obtain ⟨o7, hr, hrK⟩ := hr
                      refine WO_cut (j := 13) (fun L' w' => ∃ (m21 : Mem), L' = [(3, .int .i64 p3), (4, .int .i64 p4), (13, .slice a6 (List.length y3) c6), (14, .int .i64 s2), (143, .bool o7)] ∧ m.le m21 ∧ St m21 (.room a6 (List.length y3) c6 5 1 :: own) w' ∧ RepS cU8 m21 a6 c6 y3) ?_ ?_
                      · clear hr st
                        have hr := hrK
                        clear hrK
                        rintro _ w21 ⟨m21, rfl, hm, st, r6⟩
                        refine WO_end rfl ?_
                        refine X_then ?_
                        refine W_cond o7 (by kernel_rfl) ?_ ?_
                        · intro hc
                          rw [if_pos hc] at hr
                          refine W_seq ?_
                          refine W_region ?_
                          refine WO_seg 1 [(12, .bool false)] (by kernel_rfl) (by kernel_rfl) ?_
                          refine WO_end rfl ?_
                          have st := st.tail
                          refine X_then ?_
                          refine W_ret ?_
                          refine X_block_ret ?_
                          refine X_then_ret ?_
                          obtain rfl := Option.some.inj hr
                          have ho := hBu3 _ rfl
                          subst ho
                          have hr := hrKu3
                          dsimp only at hr
                          refine X_then_ret ?_
                          refine X_block_ret ?_
                          refine X_then_ret ?_
                          obtain rfl := Option.some.inj hr
                          refine X_ret [.tmp 12] [.bool false] rfl (ResAll.cons (ResAt.tmp (by kernel_rfl)) ResAll.nil) ?_
                          exact ⟨m21, rfl, hm, st⟩
                        · intro hc
                          rw [if_neg (not_true hc)] at hr
                          refine W_skip ?_
                          refine X_block ?_
                          refine X_then ?_
                          refine W_region ?_
                          refine WO_seg 3 [(14, .int .i64 (IntKind.wrap .i64 (s2 + 1)))] (by kernel_rfl) (by kernel_rfl) ?_
                          refine WO_end rfl ?_
                          obtain rfl := Option.some.inj hr
                          have hL := hSu3 _ rfl
                          exact X_env _ (by kernel_rfl) (X_round k1 (Nat.lt_succ_self _) ⟨IntKind.wrap .i64 (s2 + 1), m21, hL, rfl, hm, st, r6⟩)
                      · intro K
                        clear hrK
                        refine WO_seg 4 [(134, .bool (!(y12.1.toList == y13.1.toList)))] (by kernel_rfl) (by kernel_rfl) ?_
                        rcases bcases (!(y12.1.toList == y13.1.toList)) with hc | hc
                        · rw [if_pos hc] at hr
                          refine WO_fact (t := 134) (b := true) (!(y12.1.toList == y13.1.toList)) (by kernel_rfl) hc ?_
                          refine WO_seg 9 [(143, .bool true)] (by kernel_rfl) (by kernel_rfl) ?_
                          obtain rfl := Option.some.inj hr
                          exact WO_env _ (by kernel_rfl) (K _ _ ⟨m20, rfl, hm, st, r6⟩)
                        · rw [if_neg (not_true hc)] at hr
                          refine WO_fact (t := 134) (b := false) (!(y12.1.toList == y13.1.toList)) (by kernel_rfl) hc ?_
                          refine WO_seg 5 [(139, .bool (y12.2.1 != y13.2.1))] (by kernel_rfl) (by kernel_rfl) ?_
                          rcases bcases (y12.2.1 != y13.2.1) with hc | hc
                          · rw [if_pos hc] at hr
                            refine WO_fact (t := 139) (b := true) (y12.2.1 != y13.2.1) (by kernel_rfl) hc ?_
                            refine WO_seg 4 [(143, .bool true)] (by kernel_rfl) (by kernel_rfl) ?_
                            obtain rfl := Option.some.inj hr
                            exact WO_env _ (by kernel_rfl) (K _ _ ⟨m20, rfl, hm, st, r6⟩)
                          · rw [if_neg (not_true hc)] at hr
                            refine WO_fact (t := 139) (b := false) (y12.2.1 != y13.2.1) (by kernel_rfl) hc ?_
                            refine WO_seg 4 [(143, .bool (y12.2.2 != y13.2.2))] (by kernel_rfl) (by kernel_rfl) ?_
                            obtain rfl := Option.some.inj hr
                            exact WO_env _ (by kernel_rfl) (K _ _ ⟨m20, rfl, hm, st, r6⟩)
                  · intro K
                    clear hrK
                    refine WO_seg 4 [(105, .bool (y10.1 != y11.1))] (by kernel_rfl) (by kernel_rfl) ?_
                    rcases bcases (y10.1 != y11.1) with hc | hc
                    · rw [if_pos hc] at hr
                      refine WO_fact (t := 105) (b := true) (y10.1 != y11.1) (by kernel_rfl) hc ?_
                      refine WO_seg 9 [(114, .bool true)] (by kernel_rfl) (by kernel_rfl) ?_
                      obtain rfl := Option.some.inj hr
                      exact WO_env _ (by kernel_rfl) (K _ _ ⟨m17, rfl, hm, st, r6⟩)
                    · rw [if_neg (not_true hc)] at hr
                      refine WO_fact (t := 105) (b := false) (y10.1 != y11.1) (by kernel_rfl) hc ?_
                      refine WO_seg 5 [(110, .bool (y10.2.1 != y11.2.1))] (by kernel_rfl) (by kernel_rfl) ?_
                      rcases bcases (y10.2.1 != y11.2.1) with hc | hc
                      · rw [if_pos hc] at hr
                        refine WO_fact (t := 110) (b := true) (y10.2.1 != y11.2.1) (by kernel_rfl) hc ?_
                        refine WO_seg 4 [(114, .bool true)] (by kernel_rfl) (by kernel_rfl) ?_
                        obtain rfl := Option.some.inj hr
                        exact WO_env _ (by kernel_rfl) (K _ _ ⟨m17, rfl, hm, st, r6⟩)
                      · rw [if_neg (not_true hc)] at hr
                        refine WO_fact (t := 110) (b := false) (y10.2.1 != y11.2.1) (by kernel_rfl) hc ?_
                        refine WO_seg 4 [(114, .bool (y10.2.2 != y11.2.2))] (by kernel_rfl) (by kernel_rfl) ?_
                        obtain rfl := Option.some.inj hr
                        exact WO_env _ (by kernel_rfl) (K _ _ ⟨m17, rfl, hm, st, r6⟩)
              · intro K
                clear hrK
                refine WO_seg 4 [(78, .bool (y8.1 != y9.1))] (by kernel_rfl) (by kernel_rfl) ?_
                rcases bcases (y8.1 != y9.1) with hc | hc
                · rw [if_pos hc] at hr
                  refine WO_fact (t := 78) (b := true) (y8.1 != y9.1) (by kernel_rfl) hc ?_
                  refine WO_seg 9 [(87, .bool true)] (by kernel_rfl) (by kernel_rfl) ?_
                  obtain rfl := Option.some.inj hr
                  exact WO_env _ (by kernel_rfl) (K _ _ ⟨m14, rfl, hm, st, r6⟩)
                · rw [if_neg (not_true hc)] at hr
                  refine WO_fact (t := 78) (b := false) (y8.1 != y9.1) (by kernel_rfl) hc ?_
                  refine WO_seg 5 [(83, .bool (y8.2.1 != y9.2.1))] (by kernel_rfl) (by kernel_rfl) ?_
                  rcases bcases (y8.2.1 != y9.2.1) with hc | hc
                  · rw [if_pos hc] at hr
                    refine WO_fact (t := 83) (b := true) (y8.2.1 != y9.2.1) (by kernel_rfl) hc ?_
                    refine WO_seg 4 [(87, .bool true)] (by kernel_rfl) (by kernel_rfl) ?_
                    obtain rfl := Option.some.inj hr
                    exact WO_env _ (by kernel_rfl) (K _ _ ⟨m14, rfl, hm, st, r6⟩)
                  · rw [if_neg (not_true hc)] at hr
                    refine WO_fact (t := 83) (b := false) (y8.2.1 != y9.2.1) (by kernel_rfl) hc ?_
                    refine WO_seg 4 [(87, .bool (y8.2.2 != y9.2.2))] (by kernel_rfl) (by kernel_rfl) ?_
                    obtain rfl := Option.some.inj hr
                    exact WO_env _ (by kernel_rfl) (K _ _ ⟨m14, rfl, hm, st, r6⟩)
            · intro Ku4
              clear hrKu4
              refine W_cond (s2 == 40) (by kernel_rfl) ?_ ?_
              · intro hc
                rw [if_pos hc] at hr
                refine W_region ?_
                refine WO_seg 2 [(15, .int .i64 p3)] (by kernel_rfl) (by kernel_rfl) ?_
                refine WO_end rfl ?_
                obtain rfl := Option.some.inj hr
                exact X_env _ (by kernel_rfl) (Ku4 _ _ ⟨m11, rfl, hm, st, r6⟩)
              · intro hc
                rw [if_neg (not_true hc)] at hr
                refine W_skip ?_
                obtain rfl := Option.some.inj hr
                exact X_env _ (by kernel_rfl) (Ku4 _ _ ⟨m11, rfl, hm, st, r6⟩)
          · intro hc
            rw [if_neg (not_true hc)] at hr
            refine W_exit ?_
            refine X_then_exit ?_
            obtain rfl := Option.some.inj hr
            have ho := hBu3 _ rfl
            refine X_then_exit ?_
            exact X_env _ (by kernel_rfl) (K0_u3 _ _ ⟨(), m11, ho, rfl, hm, st⟩)
    · intro Ku2
      clear hrKu2
      refine W_cond (decide ((ByteArray.size p5 : Int) > 300)) (by kernel_rfl) ?_ ?_
      · intro hc
        rw [if_pos hc] at hr
        refine W_region ?_
        refine WO_seg 1 [(34, .string p5)] (by kernel_rfl) (by kernel_rfl) ?_
        replace hr := bindS hr
        obtain ⟨s1, hx2, hr⟩ := hr
        refine WO_one rfl (One_strSlice (d := 35) (t := 9) (x := (.tmp 34)) (lo := none) (hi := (some (.const (.int .i64 300)))) (by kernel_rfl) rfl (show evL _ _ = some (.string p5) from (by kernel_rfl)) (by kernel_rfl) (.inl ⟨rfl, rfl⟩) (.inr ⟨_, _, rfl, (show evL _ _ = some (.int .i64 300) from (by kernel_rfl))⟩) hx2 ?_)
        refine WO_seg 1 [(5, .string s1)] (by kernel_rfl) (by kernel_rfl) ?_
        refine WO_end rfl ?_
        obtain rfl := Option.some.inj hr
        exact X_env _ (by kernel_rfl) (Ku2 _ _ ⟨m1, rfl, hm, st, r2⟩)
      · intro hc
        rw [if_neg (not_true hc)] at hr
        refine W_skip ?_
        obtain rfl := Option.some.inj hr
        exact X_env _ (by kernel_rfl) (Ku2 _ _ ⟨m1, rfl, hm, st, r2⟩)
  · intro Ku1
    clear hrKu1
    refine W_cond (decide ((List.length p0 : Int) > 600)) (by kernel_rfl) ?_ ?_
    · intro hc
      rw [if_pos hc] at hr
      refine W_region ?_
      refine WO_seg 1 [(29, .slice a1 (List.length p0) c1)] (by kernel_rfl) (by kernel_rfl) ?_
      replace hr := bindS hr
      obtain ⟨l1, hx1, hr⟩ := hr
      refine WO_one rfl (One_slice (d := 30) (t := 50) (e := 5) (x := (.tmp 29)) (lo := none) (hi := (some (.const (.int .i64 600)))) cU8 (by kernel_rfl) rfl (show evL _ _ = some (.slice a1 (List.length p0) c1) from (by kernel_rfl)) (by kernel_rfl) r1 (.inl ⟨rfl, rfl⟩) (.inr ⟨_, _, rfl, (show evL _ _ = some (.int .i64 600) from (by kernel_rfl))⟩) hx1 ?_)
      intro a3 c3 r3
      refine WO_seg 1 [(0, .slice a3 (List.length l1) c3)] (by kernel_rfl) (by kernel_rfl) ?_
      refine WO_end rfl ?_
      obtain rfl := Option.some.inj hr
      exact X_env _ (by kernel_rfl) (Ku1 _ _ ⟨a3, c3, m, rfl, hm, st, r3⟩)
    · intro hc
      rw [if_neg (not_true hc)] at hr
      refine W_skip ?_
      obtain rfl := Option.some.inj hr
      exact X_env _ (by kernel_rfl) (Ku1 _ _ ⟨a1, c1, m, rfl, hm, st, r1⟩)

def testgatemake_Tape_Next (N : Nat) (p0 : List Int × Int) (p1 : Int) : Option ((List Int × Int) × Int) :=
  (if (decide (p0.2 < (List.length p0.1 : Int))) = true then ((idx p0.1 p0.2).bind fun x1 => some x1) else (some (Int.tmod (IntKind.wrap .i64 (p0.2 * 7)) 11)) : Option (Int)).bind fun o1 => (testgatemake_Fold N o1 p1).bind fun y1 => some ((p0.1, IntKind.wrap .i64 (p0.2 + 1)), y1)

set_option maxHeartbeats 4000000 in
set_option maxRecDepth 100000 in
theorem testgatemake_Tape_Next_ok {N : Nat} {m : Mem} {own : List Piece} {w : World} {p0 : List Int × Int} {p1 : Int} {bp0 : Nat} {a1 : Option Addr} {c1 : Nat} {r : (List Int × Int) × Int} (st : St m (.blk bp0 (.cells #[.slice a1 (List.length p0.1) c1, .int .i64 p0.2] 35 (0, 0)) :: own) w) (r1 : RepS (cInt .i64) m a1 c1 p0.1) (hr : testgatemake_Tape_Next N p0 p1 = some r) : Calls Go.Proofs.Try.prog 25 #[.pointer (some ⟨bp0, 0, none⟩), .int .i64 p1] w fun e w' => ∃ (ra1 : Option Addr) (rc1 : Nat) (m' : Mem), e = .returned (.int .i64 r.2) ∧ m.le m' ∧ St m' (.blk bp0 (.cells #[.slice ra1 (List.length r.1.1) rc1, .int .i64 r.1.2] 35 (0, 0)) :: own) w' ∧ RepS (cInt .i64) m' ra1 rc1 r.1.1 := by
  unfold testgatemake_Tape_Next at hr
  have hm := m.le_refl
  refine W_calls Go.Proofs.Try.func25 rfl Go.Proofs.Try.ntmps25 [(0, .pointer (some ⟨bp0, 0, none⟩)), (1, .int .i64 p1)] (by kernel_rfl) rfl ?_
  refine W_seq ?_
  refine W_region ?_
  refine WO_seg 1 [] (by kernel_rfl) (by kernel_rfl) ?_
  refine WO_end rfl ?_
  refine X_then ?_
  refine W_seq ?_
  refine W_region ?_
  refine WO_seg 3 [(8, .pointer (some ⟨bp0, 1, none⟩))] (by kernel_rfl) (by kernel_rfl) ?_
  refine WO_one rfl (One_load_own (d := 9) (t := 3) (x := (.tmp 8)) (.int .i64 p0.2) (by kernel_rfl) rfl (show evL _ _ = some (.pointer (some ⟨bp0, 1, none⟩)) from (by kernel_rfl)) st.head (by kernel_rfl) ?_)
  refine WO_seg 3 [(5, .int .i64 (Int.tmod (IntKind.wrap .i64 (p0.2 * 7)) 11))] (by kernel_rfl) (by kernel_rfl) ?_
  refine WO_end rfl ?_
  refine X_then ?_
  refine W_seq ?_
  refine W_seq ?_
  refine W_draw [(10, fun w' => Inv m w' ∧ Piece.holds m w' (.blk bp0 (.cells #[.slice a1 (List.length p0.1) c1, .int .i64 p0.2] 35 (0, 0))) ∧ True)] (by kernel_rfl) st ?_
  clear st
  intro w1 _ st
  have hmS := m.le_refl
  refine ⟨⟨.inr ⟨Inv.anti st.inv hmS, Piece.holds_anti st.head hmS, trivial⟩, trivial⟩, ?_⟩
  refine WA_pure 0 12 (.pointer (some ⟨bp0, 0, none⟩)) (by kernel_rfl) rfl (by kernel_rfl) (.head _) (QP_then (QP_then QP_body)) ?_
  refine WA_pure 1 13 (.pointer (some ⟨bp0, 0, none⟩)) (by kernel_rfl) rfl (by kernel_rfl) (.head _) (QP_then (QP_then QP_body)) ?_
  refine WA_pure 2 14 (.pointer (some ⟨bp0, 1, none⟩)) (by kernel_rfl) rfl (by kernel_rfl) (.head _) (QP_then (QP_then QP_body)) ?_
  refine WA_load_own (t := 3) (x := (.tmp 14)) 3 15 (.int .i64 p0.2) (by kernel_rfl) rfl (by kernel_rfl) (.head _) (QP_then (QP_then QP_body)) (fun _ h => h.2.1) (show evL _ _ = some (.pointer (some ⟨bp0, 1, none⟩)) from (by kernel_rfl)) (by kernel_rfl) ?_
  refine WA_pure 4 16 (.pointer (some ⟨bp0, 0, none⟩)) (by kernel_rfl) rfl (by kernel_rfl) (.head _) (QP_then (QP_then QP_body)) ?_
  refine WA_pure 5 17 (.pointer (some ⟨bp0, 0, none⟩)) (by kernel_rfl) rfl (by kernel_rfl) (.head _) (QP_then (QP_then QP_body)) ?_
  refine WA_pure 6 18 (.pointer (some ⟨bp0, 0, none⟩)) (by kernel_rfl) rfl (by kernel_rfl) (.head _) (QP_then (QP_then QP_body)) ?_
  refine WA_load_own (t := 32) (x := (.tmp 18)) 7 19 (.slice a1 (List.length p0.1) c1) (by kernel_rfl) rfl (by kernel_rfl) (.head _) (QP_then (QP_then QP_body)) (fun _ h => h.2.1) (show evL _ _ = some (.pointer (some ⟨bp0, 0, none⟩)) from (by kernel_rfl)) (by kernel_rfl) ?_
  refine WA_pure 8 20 (.int .i64 (List.length p0.1 : Int)) (by kernel_rfl) rfl (by kernel_rfl) (.head _) (QP_then (QP_then QP_body)) ?_
  refine WA_pure 9 21 (.bool (decide (p0.2 < (List.length p0.1 : Int)))) (by kernel_rfl) rfl (by kernel_rfl) (.head _) (QP_then (QP_then QP_body)) ?_
  refine WA_done (by kernel_rfl) ?_
  refine X_then ?_
  replace hr := bindS hr
  obtain ⟨o1, hr, hrKu1⟩ := hr
  refine W_cut .normal (fun L' w' => ∃ (m1 : Mem), L' = [(0, .pointer (some ⟨bp0, 0, none⟩)), (1, .int .i64 p1), (5, .int .i64 o1)] ∧ m.le m1 ∧ St m1 (.blk bp0 (.cells #[.slice a1 (List.length p0.1) c1, .int .i64 p0.2] 35 (0, 0)) :: own) w' ∧ RepS (cInt .i64) m1 a1 c1 p0.1) ?_ ?_
  · clear hr st
    have hr := hrKu1
    clear hrKu1
    rintro _ w2 ⟨m1, rfl, hm, st, r1⟩
    refine X_then ?_
    refine W_seq ?_
    refine W_region ?_
    refine WO_seg 3 [(32, .pointer (some ⟨bp0, 0, none⟩)), (34, .pointer (some ⟨bp0, 1, none⟩))] (by kernel_rfl) (by kernel_rfl) ?_
    refine WO_one rfl (One_load_own (d := 35) (t := 3) (x := (.tmp 34)) (.int .i64 p0.2) (by kernel_rfl) rfl (show evL _ _ = some (.pointer (some ⟨bp0, 1, none⟩)) from (by kernel_rfl)) st.head (by kernel_rfl) ?_)
    refine WO_seg 3 [(36, .int .i64 (IntKind.wrap .i64 (p0.2 + 1))), (38, .pointer (some ⟨bp0, 1, none⟩))] (by kernel_rfl) (by kernel_rfl) ?_
    refine WO_one rfl (One_store (t := 3) (x := (.tmp 38)) (y := (.tmp 36)) (v := .int .i64 (IntKind.wrap .i64 (p0.2 + 1))) (c' := #[.slice a1 (List.length p0.1) c1, .int .i64 (IntKind.wrap .i64 (p0.2 + 1))]) (by kernel_rfl) (show evL _ _ = some (.pointer (some ⟨bp0, 1, none⟩)) from (by kernel_rfl)) (show evL _ _ = some (.int .i64 (IntKind.wrap .i64 (p0.2 + 1))) from (by kernel_rfl)) st (by kernel_rfl) (by kernel_rfl) ?_)
    clear st
    intro w4 st
    refine WO_end rfl ?_
    refine X_then ?_
    refine W_seq ?_
    refine W_region ?_
    refine WO_seg 2 [(39, .int .i64 o1), (40, .int .i64 p1)] (by kernel_rfl) (by kernel_rfl) ?_
    replace hr := bindS hr
    obtain ⟨y1, hx2, hr⟩ := hr
    refine WO_one rfl (One_fn 41 42 #[.int .i64 o1, .int .i64 p1] (by kernel_rfl) rfl ?_)
    refine (testgatemake_Fold_ok st hx2).mono ?_
    clear st
    rintro _ w5 ⟨m2, rfl, hle1, st⟩
    refine ⟨_, rfl, ?_⟩
    have hm := Mem.le_trans hm hle1
    have r1 := r1.mono hle1
    refine WO_seg 1 [(4, .int .i64 y1)] (by kernel_rfl) (by kernel_rfl) ?_
    refine WO_end rfl ?_
    refine X_then ?_
    refine W_ret ?_
    obtain rfl := Option.some.inj hr
    refine X_ret [.tmp 4] [.int .i64 y1] rfl (ResAll.cons (ResAt.tmp (by kernel_rfl)) ResAll.nil) ?_
    exact ⟨a1, c1, m2, rfl, hm, st, r1⟩
  · intro Ku1
    clear hrKu1
    refine W_cond (decide (p0.2 < (List.length p0.1 : Int))) (by kernel_rfl) ?_ ?_
    · intro hc
      rw [if_pos hc] at hr
      refine W_draw [(11, fun w' => Inv m w' ∧ Piece.holds m w' (.blk bp0 (.cells #[.slice a1 (List.length p0.1) c1, .int .i64 p0.2] 35 (0, 0))) ∧ True)] (by kernel_rfl) st ?_
      clear st
      intro w3 _ st
      have hmS := m.le_refl
      refine ⟨⟨.inr ⟨Inv.anti st.inv hmS, Piece.holds_anti st.head hmS, trivial⟩, trivial⟩, ?_⟩
      refine WA_pure 0 22 (.pointer (some ⟨bp0, 0, none⟩)) (by kernel_rfl) rfl (by kernel_rfl) (.head _) (QP_then QP_body) ?_
      refine WA_pure 1 23 (.pointer (some ⟨bp0, 0, none⟩)) (by kernel_rfl) rfl (by kernel_rfl) (.head _) (QP_then QP_body) ?_
      refine WA_pure 2 24 (.pointer (some ⟨bp0, 0, none⟩)) (by kernel_rfl) rfl (by kernel_rfl) (.head _) (QP_then QP_body) ?_
      refine WA_load_own (t := 32) (x := (.tmp 24)) 3 25 (.slice a1 (List.length p0.1) c1) (by kernel_rfl) rfl (by kernel_rfl) (.head _) (QP_then QP_body) (fun _ h => h.2.1) (show evL _ _ = some (.pointer (some ⟨bp0, 0, none⟩)) from (by kernel_rfl)) (by kernel_rfl) ?_
      refine WA_pure 4 26 (.pointer (some ⟨bp0, 0, none⟩)) (by kernel_rfl) rfl (by kernel_rfl) (.head _) (QP_then QP_body) ?_
      refine WA_pure 5 27 (.pointer (some ⟨bp0, 0, none⟩)) (by kernel_rfl) rfl (by kernel_rfl) (.head _) (QP_then QP_body) ?_
      refine WA_pure 6 28 (.pointer (some ⟨bp0, 1, none⟩)) (by kernel_rfl) rfl (by kernel_rfl) (.head _) (QP_then QP_body) ?_
      refine WA_load_own (t := 3) (x := (.tmp 28)) 7 29 (.int .i64 p0.2) (by kernel_rfl) rfl (by kernel_rfl) (.head _) (QP_then QP_body) (fun _ h => h.2.1) (show evL _ _ = some (.pointer (some ⟨bp0, 1, none⟩)) from (by kernel_rfl)) (by kernel_rfl) ?_
      replace hr := bindS hr
      obtain ⟨x1, hx1, hr⟩ := hr
      refine WA_index (t := 32) (e := 3) (x := (.tmp 25)) (y := (.tmp 29)) 8 30 (cInt .i64) (by kernel_rfl) rfl (by kernel_rfl) (.head _) (QP_then QP_body) (show evL _ _ = some (.slice a1 (List.length p0.1) c1) from (by kernel_rfl)) (show evL _ _ = some (.int .i64 p0.2) from (by kernel_rfl)) (by kernel_rfl) r1 hx1 ?_
      rintro b1 f1 cs1 rfl hq1
      refine WA_load_row (t := 3) (x := (.tmp 30)) 9 31 (.int .i64 x1) (by kernel_rfl) rfl (by kernel_rfl) (.head _) (QP_then QP_body) (fun _ h => h.1) (show evL _ _ = some (.pointer (some ⟨b1, f1, none⟩)) from (by kernel_rfl)) hq1 (by kernel_rfl) ?_
      refine WA_pure 10 5 (.int .i64 x1) (by kernel_rfl) rfl (by kernel_rfl) (.head _) (QP_then QP_body) ?_
      refine WA_done (by kernel_rfl) ?_
      obtain rfl := Option.some.inj hr
      exact X_env _ (by kernel_rfl) (Ku1 _ _ ⟨m, rfl, hm, st, r1⟩)
    · intro hc
      rw [if_neg (not_true hc)] at hr
      refine W_skip ?_
      obtain rfl := Option.some.inj hr
      exact X_env _ (by kernel_rfl) (Ku1 _ _ ⟨m, rfl, hm, st, r1⟩)

def testgatemake_Tape_Text_L1 (N : Nat) (p1 : Int) (p2 : ByteArray) (s1 : List (UInt8) × Int × List (Int) × Int) : Option ((List (UInt8) × Int × List (Int) × Int) ⊕ ((List (UInt8) × List (Int) × Int))) :=
  if (decide (s1.2.1 < p1)) = true then ((testgatemake_Tape_Next N (s1.2.2.1, s1.2.2.2) (ByteArray.size p2 : Int)).bind fun y1 => (idxB p2 y1.2).bind fun x1 => (appendS 1 s1.1 ([x1])).bind fun l1 => some (.inl (l1, IntKind.wrap .i64 (s1.2.1 + 1), y1.1.1, y1.1.2))) else (some (.inr (s1.1, s1.2.2.1, s1.2.2.2)))

def testgatemake_Tape_Text (N : Nat) (p0 : List Int × Int) (p1 : Int) (p2 : ByteArray) : Option ((List Int × Int) × ByteArray) :=
  (loopM (testgatemake_Tape_Text_L1 N p1 p2) N (([] : List (UInt8)), 0, p0.1, p0.2)).bind fun o1 => some ((o1.2.1, o1.2.2), strOf o1.1)

set_option maxHeartbeats 4000000 in
set_option maxRecDepth 100000 in
theorem testgatemake_Tape_Text_ok {N : Nat} {m : Mem} {own : List Piece} {w : World} {p0 : List Int × Int} {p1 : Int} {p2 : ByteArray} {bp0 : Nat} {a1 : Option Addr} {c1 : Nat} {r : (List Int × Int) × ByteArray} (st : St m (.blk bp0 (.cells #[.slice a1 (List.length p0.1) c1, .int .i64 p0.2] 35 (0, 0)) :: own) w) (r1 : RepS (cInt .i64) m a1 c1 p0.1) (hr : testgatemake_Tape_Text N p0 p1 p2 = some r) : Calls Go.Proofs.Try.prog 55 #[.pointer (some ⟨bp0, 0, none⟩), .int .i64 p1, .string p2] w fun e w' => ∃ (ra1 : Option Addr) (rc1 : Nat) (m' : Mem), e = .returned (.string r.2) ∧ m.le m' ∧ St m' (.blk bp0 (.cells #[.slice ra1 (List.length r.1.1) rc1, .int .i64 r.1.2] 35 (0, 0)) :: own) w' ∧ RepS (cInt .i64) m' ra1 rc1 r.1.1 := by
  unfold testgatemake_Tape_Text at hr
  have hm := m.le_refl
  refine W_calls Go.Proofs.Try.func55 rfl Go.Proofs.Try.ntmps55 [(0, .pointer (some ⟨bp0, 0, none⟩)), (1, .int .i64 p1), (2, .string p2)] (by kernel_rfl) rfl ?_
  refine W_seq ?_
  refine W_region ?_
  refine WO_seg 1 [] (by kernel_rfl) (by kernel_rfl) ?_
  refine WO_end rfl ?_
  refine X_then ?_
  refine W_seq ?_
  refine W_region ?_
  refine WO_seg 1 [(7, .slice none (List.length ([] : List (UInt8))) 0)] (by kernel_rfl) (by kernel_rfl) ?_
  refine WO_end rfl ?_
  refine X_then ?_
  refine W_seq ?_
  refine W_seq ?_
  refine W_region ?_
  refine WO_seg 1 [(8, .int .i64 0)] (by kernel_rfl) (by kernel_rfl) ?_
  refine WO_end rfl ?_
  refine X_then ?_
  refine W_block ?_
  replace hr := bindS hr
  obtain ⟨out1, hr, hrKu1⟩ := hr
  refine W_cut (.exit 0) (fun L' w' => ∃ (o1 : List (UInt8) × List (Int) × Int) (a2 : Option Addr) (c3 : Nat) (a3 : Option Addr) (c4 : Nat) (m1 : Mem), o1 = out1 ∧ L' = [(7, .slice a2 (List.length o1.1) c3)] ∧ m.le m1 ∧ St m1 (.blk bp0 (.cells #[.slice a3 (List.length o1.2.1) c4, .int .i64 o1.2.2] 35 (0, 0)) :: .room a2 (List.length o1.1) c3 5 1 :: own) w' ∧ RepS cU8 m1 a2 c3 o1.1 ∧ RepS (cInt .i64) m1 a3 c4 o1.2.1) ?_ ?_
  · clear hr st
    rintro _ w1 ⟨o1, a2, c3, a3, c4, m1, rfl, rfl, hm, st, r2, r3⟩
    have hr := hrKu1
    clear hrKu1
    refine X_block_eq ?_
    refine X_then ?_
    refine W_seq ?_
    refine W_region ?_
    refine WO_seg 1 [(23, .slice a2 (List.length o1.1) c3)] (by kernel_rfl) (by kernel_rfl) ?_
    refine WO_one rfl (One_bytesStr (d := 24) (t1 := 50) (t2 := 9) (e := 5) (x := (.tmp 23)) (by kernel_rfl) rfl (show evL _ _ = some (.slice a2 (List.length o1.1) c3) from (by kernel_rfl)) (by kernel_rfl) (by kernel_rfl) st r2 ?_)
    refine WO_seg 1 [(6, .string (strOf o1.1))] (by kernel_rfl) (by kernel_rfl) ?_
    refine WO_end rfl ?_
    have st := st.front1
    have st := st.tail
    refine X_then ?_
    refine W_ret ?_
    obtain rfl := Option.some.inj hr
    refine X_ret [.tmp 6] [.string (strOf o1.1)] rfl (ResAll.cons (ResAt.tmp (by kernel_rfl)) ResAll.nil) ?_
    exact ⟨a3, c4, m1, rfl, hm, st, r3⟩
  intro K0_u1
  clear hrKu1
  have st := st.nilroom 5 1
  have st := st.front1
  refine W_env _ (by kernel_rfl) (W_loop (fun k1 L' w' => ∃ (s1 : List (UInt8) × Int × List (Int) × Int) (a4 : Option Addr) (c5 : Nat) (a5 : Option Addr) (c6 : Nat) (m2 : Mem), loopM (testgatemake_Tape_Text_L1 N p1 p2) k1 s1 = some out1 ∧ L' = [(0, .pointer (some ⟨bp0, 0, none⟩)), (1, .int .i64 p1), (2, .string p2), (7, .slice a4 (List.length s1.1) c5), (8, .int .i64 s1.2.1)] ∧ m.le m2 ∧ St m2 (.blk bp0 (.cells #[.slice a5 (List.length s1.2.2.1) c6, .int .i64 s1.2.2.2] 35 (0, 0)) :: .room a4 (List.length s1.1) c5 5 1 :: own) w' ∧ RepS cU8 m2 a4 c5 s1.1 ∧ RepS (cInt .i64) m2 a5 c6 s1.2.2.1) N ⟨(([] : List (UInt8)), 0, p0.1, p0.2), none, 0, a1, c1, m, hr, rfl, hm, st, (RepS.nil _ _), r1⟩ ?_)
  clear st hr
  rintro k1 _ w2 ⟨s1, a4, c5, a5, c6, m2, hL, rfl, hm, st, r4, r5⟩
  rcases k1 with _ | k1
  · exact loopM_zero hL
  · obtain ⟨qu1, hr, hSu1, hBu1⟩ := loopM_succ hL
    clear hL
    unfold testgatemake_Tape_Text_L1 at hr
    refine W_seq ?_
    refine W_seq ?_
    refine W_region ?_
    refine WO_seg 3 [(11, .bool (decide (s1.2.1 < p1)))] (by kernel_rfl) (by kernel_rfl) ?_
    refine WO_end rfl ?_
    refine X_then ?_
    refine W_cond (decide (s1.2.1 < p1)) (by kernel_rfl) ?_ ?_
    · intro hc
      rw [if_pos hc] at hr
      refine W_skip ?_
      refine X_then ?_
      refine W_seq ?_
      refine W_block ?_
      refine W_region ?_
      refine WO_seg 5 [(14, .slice a4 (List.length s1.1) c5), (15, .string p2), (16, .pointer (some ⟨bp0, 0, none⟩)), (18, .int .i64 (ByteArray.size p2 : Int))] (by kernel_rfl) (by kernel_rfl) ?_
      replace hr := bindS hr
      obtain ⟨y1, hx1, hr⟩ := hr
      refine WO_one rfl (One_fn 19 25 #[.pointer (some ⟨bp0, 0, none⟩), .int .i64 (ByteArray.size p2 : Int)] (by kernel_rfl) rfl ?_)
      refine (testgatemake_Tape_Next_ok st r5 hx1).mono ?_
      clear st
      rintro _ w3 ⟨a6, c7, m3, rfl, hle1, st, r6⟩
      refine ⟨_, rfl, ?_⟩
      have hm := Mem.le_trans hm hle1
      have r4 := r4.mono hle1
      have r5 := r5.mono hle1
      replace hr := bindS hr
      obtain ⟨x1, hx2, hr⟩ := hr
      refine WO_one rfl (One_strIndex (d := 20) (t := 9) (x := (.tmp 15)) (y := (.tmp 19)) (by kernel_rfl) rfl (show evL _ _ = some (.string p2) from (by kernel_rfl)) (show evL _ _ = some (.int .i64 y1.2) from (by kernel_rfl)) (by kernel_rfl) hx2 ?_)
      refine WO_one rfl (One_buildSlice (d := 21) (t := 50) (e := 5) (len := 1) (parts := #[(0, (.tmp 20))]) cU8 (xs := [x1]) [.int .u8 (x1.toNat : Int)] (by kernel_rfl) rfl (fun _ => buildCells_run (by kernel_rfl) _) rfl rfl st ⟨[.int .u8 (x1.toNat : Int)], _, rfl, rfl, rfl⟩ ?_)
      clear st
      intro b1 m4 w4 hle2 st r7
      have hm := Mem.le_trans hm hle2
      have r4 := r4.mono hle2
      have r6 := r6.mono hle2
      have st := st.front2
      replace hr := bindS hr
      obtain ⟨l1, hx3, hr⟩ := hr
      refine WO_one rfl (One_append (d := 22) (t := 50) (u := 50) (e := 5) (by_ := 1) (x := (.tmp 14)) (y := (.tmp 21)) cU8 (by kernel_rfl) rfl (show evL _ _ = some (.slice a4 (List.length s1.1) c5) from (by kernel_rfl)) (show evL _ _ = some (.slice (some ⟨b1, 0, none⟩) (List.length ([x1])) 1) from (by kernel_rfl)) st (by kernel_rfl) (.inl (by kernel_rfl)) r4 r7.src hx3 ?_)
      clear st
      intro a7 c8 m5 w5 hle3 st r8
      have hm := Mem.le_trans hm hle3
      have r4 := r4.mono hle3
      have r7 := r7.mono hle3
      have r6 := r6.mono hle3
      refine WO_seg 1 [(7, .slice a7 (List.length l1) c8)] (by kernel_rfl) (by kernel_rfl) ?_
      refine WO_end rfl ?_
      have st := st.front1
      have st := st.tail
      refine X_block ?_
      refine X_then ?_
      refine W_region ?_
      refine WO_seg 3 [(8, .int .i64 (IntKind.wrap .i64 (s1.2.1 + 1)))] (by kernel_rfl) (by kernel_rfl) ?_
      refine WO_end rfl ?_
      obtain rfl := Option.some.inj hr
      have hL := hSu1 _ rfl
      have st := st.front1
      exact X_env _ (by kernel_rfl) (X_round k1 (Nat.lt_succ_self _) ⟨(l1, IntKind.wrap .i64 (s1.2.1 + 1), y1.1.1, y1.1.2), a7, c8, a6, c7, m5, hL, rfl, hm, st, r8, r6⟩)
    · intro hc
      rw [if_neg (not_true hc)] at hr
      refine W_exit ?_
      refine X_then_exit ?_
      obtain rfl := Option.some.inj hr
      have ho := hBu1 _ rfl
      have st := st.front1
      have st := st.front1
      refine X_then_exit ?_
      exact X_env _ (by kernel_rfl) (K0_u1 _ _ ⟨(s1.1, s1.2.2.1, s1.2.2.2), a4, c5, a5, c6, m2, ho, rfl, hm, st, r4, r5⟩)

def testgatelaw03_WireBack_L1 (N : Nat) (p1 : Int) (s1 : List (UInt8) × List (Int) × List (ByteArray) × Int × List (Int) × Int) : Option ((List (UInt8) × List (Int) × List (ByteArray) × Int × List (Int) × Int) ⊕ ((List (UInt8) × List (Int) × List (ByteArray) × List (Int) × Int))) :=
  if (decide (s1.2.2.2.1 > 0)) = true then ((testgatemake_Tape_Next N (s1.2.2.2.2.1, s1.2.2.2.2.2) 64).bind fun y2 => (shrS .u64 p1 (IntKind.wrap .u64 y2.2)).bind fun i1 => (testgatemake_Tape_Next N (y2.1.1, y2.1.2) 20).bind fun y3 => (testgatemake_Tape_Text N (y3.1.1, y3.1.2) y3.2 (⟨#[97, 98, 247, 0]⟩ : ByteArray)).bind fun y4 => (appendS 8 s1.2.1 ([i1])).bind fun l1 => (appendS 16 s1.2.2.1 ([y4.2])).bind fun l2 => (wire_PutUint N s1.1 i1).bind fun y5 => (wire_PutInt N y5 (IntKind.wrap .i64 i1)).bind fun y6 => (wire_PutText N y6 y4.2).bind fun y7 => some (.inl (y7, l1, l2, IntKind.wrap .i64 (s1.2.2.2.1 - 1), y4.1.1, y4.1.2))) else (some (.inr (s1.1, s1.2.1, s1.2.2.1, s1.2.2.2.2.1, s1.2.2.2.2.2)))

def testgatelaw03_WireBack_L2 (N : Nat) (o1 : List (UInt8) × List (Int) × List (ByteArray) × List (Int) × Int) (s2 : Int × Int) : Option ((Int × Int) ⊕ ((Int) ⊕ (Bool))) :=
  if (decide (s2.2 < (List.length o1.2.1 : Int))) = true then ((wire_Uint N o1.1 s2.1).bind fun y8 => (wire_Int N o1.1 y8.2.1).bind fun y9 => (wire_Text N o1.1 y9.2.1 20).bind fun y10 => (if (y8.2.2 != 0) = true then (some true) else (if (y9.2.2 != 0) = true then (some true) else (if (y10.2.2 != 0) = true then (some true) else ((idx o1.2.1 s2.2).bind fun x1 => if (y8.1 != x1) = true then (some true) else ((idx o1.2.1 s2.2).bind fun x2 => if (y9.1 != (IntKind.wrap .i64 x2)) = true then (some true) else ((idx o1.2.2.1 s2.2).bind fun x3 => some (!(y10.1.toList == x3.toList))))))) : Option (Bool)).bind fun o3 => if o3 = true then (some (.inr (.inr (false)))) else (some (.inl (y10.2.1, IntKind.wrap .i64 (s2.2 + 1))))) else (some (.inr (.inl s2.1)))

def testgatelaw03_WireBack (N : Nat) (p0 : List Int) (p1 : Int) : Option (Bool) :=
  (testgatemake_Tape_Next N (p0, 0) 8).bind fun y1 => (loopM (testgatelaw03_WireBack_L1 N p1) N (([] : List (UInt8)), ([] : List (Int)), ([] : List (ByteArray)), y1.2, y1.1.1, y1.1.2)).bind fun o1 => (loopM (testgatelaw03_WireBack_L2 N o1) N (0, 0)).bind fun out2 => (match out2 with | .inl o2 => (if (o2 == (List.length o1.1 : Int)) = true then ((testgatelaw03_awake N).bind fun y11 => some y11) else (some false) : Option (Bool)).bind fun o4 => some o4 | .inr (z) => some z)

set_option maxHeartbeats 4000000 in
set_option maxRecDepth 100000 in
theorem testgatelaw03_WireBack_ok {N : Nat} {m : Mem} {own : List Piece} {w : World} {p0 : List Int} {p1 : Int} {a1 : Option Addr} {c1 : Nat} {r : Bool} (st : St m (own) w) (r1 : RepS (cInt .i64) m a1 c1 p0) (hr : testgatelaw03_WireBack N p0 p1 = some r) : Calls Go.Proofs.Try.prog 9 #[.slice a1 (List.length p0) c1, .int .u64 p1] w fun e w' => ∃ (m' : Mem), e = .returned (.bool r) ∧ m.le m' ∧ St m' (own) w' := by
  unfold testgatelaw03_WireBack at hr
  have hm := m.le_refl
  refine W_calls Go.Proofs.Try.func9 rfl Go.Proofs.Try.ntmps9 [(0, .slice a1 (List.length p0) c1), (1, .int .u64 p1)] (by kernel_rfl) rfl ?_
  refine W_seq ?_
  refine W_region ?_
  refine WO_seg 1 [] (by kernel_rfl) (by kernel_rfl) ?_
  refine WO_end rfl ?_
  refine X_then ?_
  refine W_seq ?_
  refine W_region ?_
  refine WO_seg 2 [(22, .agg #[.slice a1 (List.length p0) c1, .int .i64 0])] (by kernel_rfl) (by kernel_rfl) ?_
  refine WO_one rfl (One_box_own (d := 23) (e := 35) (x := (.tmp 22)) (.agg #[.slice a1 (List.length p0) c1, .int .i64 0]) (by kernel_rfl) rfl (by kernel_rfl) st ?_)
  clear st
  intro b1 w1 st
  refine WO_seg 1 [(5, .pointer (some ⟨b1, 0, none⟩))] (by kernel_rfl) (by kernel_rfl) ?_
  refine WO_end rfl ?_
  refine X_then ?_
  refine W_seq ?_
  refine W_region ?_
  refine WO_seg 1 [(6, .slice none (List.length ([] : List (UInt8))) 0)] (by kernel_rfl) (by kernel_rfl) ?_
  refine WO_end rfl ?_
  refine X_then ?_
  refine W_seq ?_
  refine W_region ?_
  refine WO_seg 1 [(7, .slice none (List.length ([] : List (Int))) 0)] (by kernel_rfl) (by kernel_rfl) ?_
  refine WO_end rfl ?_
  refine X_then ?_
  refine W_seq ?_
  refine W_region ?_
  refine WO_seg 1 [(8, .slice none (List.length ([] : List (ByteArray))) 0)] (by kernel_rfl) (by kernel_rfl) ?_
  refine WO_end rfl ?_
  refine X_then ?_
  refine W_seq ?_
  refine W_seq ?_
  refine W_region ?_
  refine WO_seg 1 [(24, .pointer (some ⟨b1, 0, none⟩))] (by kernel_rfl) (by kernel_rfl) ?_
  replace hr := bindS hr
  obtain ⟨y1, hx1, hr⟩ := hr
  refine WO_one rfl (One_fn 25 25 #[.pointer (some ⟨b1, 0, none⟩), .int .i64 8] (by kernel_rfl) rfl ?_)
  refine (testgatemake_Tape_Next_ok st r1 hx1).mono ?_
  clear st
  rintro _ w2 ⟨a2, c2, m2, rfl, hle2, st, r2⟩
  refine ⟨_, rfl, ?_⟩
  have hm := Mem.le_trans hm hle2
  have r1 := r1.mono hle2
  refine WO_seg 1 [(9, .int .i64 y1.2)] (by kernel_rfl) (by kernel_rfl) ?_
  refine WO_end rfl ?_
  refine X_then ?_
  refine W_block ?_
  replace hr := bindS hr
  obtain ⟨out1, hr, hrKu1⟩ := hr
  refine W_cut (.exit 0) (fun L' w' => ∃ (o1 : List (UInt8) × List (Int) × List (ByteArray) × List (Int) × Int) (a3 : Option Addr) (c3 : Nat) (a4 : Option Addr) (c4 : Nat) (a5 : Option Addr) (c5 : Nat) (a6 : Option Addr) (c6 : Nat) (m3 : Mem), o1 = out1 ∧ L' = [(6, .slice a3 (List.length o1.1) c3), (7, .slice a4 (List.length o1.2.1) c4), (8, .slice a5 (List.length o1.2.2.1) c5)] ∧ m.le m3 ∧ St m3 (.blk b1 (.cells #[.slice a6 (List.length o1.2.2.2.1) c6, .int .i64 o1.2.2.2.2] 35 (0, 0)) :: .room a3 (List.length o1.1) c3 5 1 :: .room a4 (List.length o1.2.1) c4 69 1 :: .room a5 (List.length o1.2.2.1) c5 9 1 :: own) w' ∧ RepS cU8 m3 a3 c3 o1.1 ∧ RepS (cInt .u64) m3 a4 c4 o1.2.1 ∧ RepS cStr m3 a5 c5 o1.2.2.1 ∧ RepS (cInt .i64) m3 a6 c6 o1.2.2.2.1) ?_ ?_
  · clear hr st
    rintro _ w3 ⟨o1, a3, c3, a4, c4, a5, c5, a6, c6, m3, rfl, rfl, hm, st, r3, r4, r5, r6⟩
    have hr := hrKu1
    clear hrKu1
    refine X_block_eq ?_
    refine X_then ?_
    refine W_seq ?_
    refine W_region ?_
    refine WO_seg 1 [(12, .int .i64 0)] (by kernel_rfl) (by kernel_rfl) ?_
    refine WO_end rfl ?_
    refine X_then ?_
    refine W_seq ?_
    refine W_seq ?_
    refine W_region ?_
    refine WO_seg 3 [(56, .int .i64 (List.length o1.2.1 : Int)), (57, .int .i64 0)] (by kernel_rfl) (by kernel_rfl) ?_
    refine WO_end rfl ?_
    refine X_then ?_
    refine W_block ?_
    replace hr := bindS hr
    obtain ⟨out2, hr, hrKu2⟩ := hr
    refine W_cut (.exit 2) (fun L' w' => ∃ (o2 : Int) (m15 : Mem), (.inl o2) = out2 ∧ L' = [(6, .slice a3 (List.length o1.1) c3), (12, .int .i64 o2)] ∧ m.le m15 ∧ St m15 (.blk b1 (.cells #[.slice a6 (List.length o1.2.2.2.1) c6, .int .i64 o1.2.2.2.2] 35 (0, 0)) :: .room a3 (List.length o1.1) c3 5 1 :: .room a4 (List.length o1.2.1) c4 69 1 :: .room a5 (List.length o1.2.2.1) c5 9 1 :: own) w' ∧ RepS cU8 m15 a3 c3 o1.1 ∧ RepS (cInt .i64) m15 a6 c6 o1.2.2.2.1) ?_ ?_
    · clear hr st
      rintro _ w15 ⟨o2, m15, rfl, rfl, hm, st, r3, r6⟩
      have hr := hrKu2
      clear hrKu2
      dsimp only at hr
      refine X_block_eq ?_
      refine X_then ?_
      refine W_seq ?_
      refine W_region ?_
      replace hr := bindS hr
      obtain ⟨o4, hr, hrK⟩ := hr
      refine WO_cut (j := 8) (fun L' w' => ∃ (m21 : Mem), L' = [(4, .bool o4)] ∧ m.le m21 ∧ St m21 (.blk b1 (.cells #[.slice a6 (List.length o1.2.2.2.1) c6, .int .i64 o1.2.2.2.2] 35 (0, 0)) :: .room a3 (List.length o1.1) c3 5 1 :: .room a4 (List.length o1.2.1) c4 69 1 :: .room a5 (List.length o1.2.2.1) c5 9 1 :: own) w' ∧ RepS (cInt .i64) m21 a6 c6 o1.2.2.2.1) ?_ ?_
      · clear hr st
        have hr := hrK
        clear hrK
        rintro _ w21 ⟨m21, rfl, hm, st, r6⟩
        refine WO_end rfl ?_
        refine X_then ?_
        refine W_ret ?_
        obtain rfl := Option.some.inj hr
        refine X_ret [.tmp 4] [.bool o4] rfl (ResAll.cons (ResAt.tmp (by kernel_rfl)) ResAll.nil) ?_
        have st := st.tail
        have st := st.tail
        have st := st.tail
        have st := st.tail
        exact ⟨m21, rfl, hm, st⟩
      · intro K
        clear hrK
        refine WO_seg 5 [(122, .bool (o2 == (List.length o1.1 : Int)))] (by kernel_rfl) (by kernel_rfl) ?_
        rcases bcases (o2 == (List.length o1.1 : Int)) with hc | hc
        · rw [if_pos hc] at hr
          refine WO_fact (t := 122) (b := true) (o2 == (List.length o1.1 : Int)) (by kernel_rfl) hc ?_
          replace hr := bindS hr
          obtain ⟨y11, hx17, hr⟩ := hr
          refine WO_one rfl (One_fn 123 41 #[] (by kernel_rfl) rfl ?_)
          refine (testgatelaw03_awake_ok st hx17).mono ?_
          clear st
          rintro _ w22 ⟨m22, rfl, hle16, st⟩
          refine ⟨_, rfl, ?_⟩
          have hm := Mem.le_trans hm hle16
          have r3 := r3.mono hle16
          have r6 := r6.mono hle16
          refine WO_seg 2 [(4, .bool y11)] (by kernel_rfl) (by kernel_rfl) ?_
          obtain rfl := Option.some.inj hr
          have st := st.front3
          have st := st.front3
          have st := st.front3
          have st := st.front3
          exact WO_env _ (by kernel_rfl) (K _ _ ⟨m22, rfl, hm, st, r6⟩)
        · rw [if_neg (not_true hc)] at hr
          refine WO_fact (t := 122) (b := false) (o2 == (List.length o1.1 : Int)) (by kernel_rfl) hc ?_
          refine WO_seg 3 [(4, .bool false)] (by kernel_rfl) (by kernel_rfl) ?_
          obtain rfl := Option.some.inj hr
          have st := st.front3
          have st := st.front3
          have st := st.front3
          have st := st.front3
          exact WO_env _ (by kernel_rfl) (K _ _ ⟨m15, rfl, hm, st, r6⟩)
    intro K2_u2
    have st := st.front3
    have st := st.front3
    have st := st.front3
    have st := st.front3
    refine W_env _ (by kernel_rfl) (W_loop (fun k2 L' w' => ∃ (s2 : Int × Int) (m16 : Mem), loopM (testgatelaw03_WireBack_L2 N o1) k2 s2 = some out2 ∧ L' = [(6, .slice a3 (List.length o1.1) c3), (7, .slice a4 (List.length o1.2.1) c4), (8, .slice a5 (List.length o1.2.2.1) c5), (12, .int .i64 s2.1), (56, .int .i64 (List.length o1.2.1 : Int)), (57, .int .i64 s2.2)] ∧ m.le m16 ∧ St m16 (.blk b1 (.cells #[.slice a6 (List.length o1.2.2.2.1) c6, .int .i64 o1.2.2.2.2] 35 (0, 0)) :: .room a3 (List.length o1.1) c3 5 1 :: .room a4 (List.length o1.2.1) c4 69 1 :: .room a5 (List.length o1.2.2.1) c5 9 1 :: own) w' ∧ RepS cU8 m16 a3 c3 o1.1 ∧ RepS (cInt .u64) m16 a4 c4 o1.2.1 ∧ RepS cStr m16 a5 c5 o1.2.2.1 ∧ RepS (cInt .i64) m16 a6 c6 o1.2.2.2.1) N ⟨(0, 0), m3, hr, rfl, hm, st, r3, r4, r5, r6⟩ ?_)
    clear st hr
    rintro k2 _ w16 ⟨s2, m16, hL, rfl, hm, st, r3, r4, r5, r6⟩
    rcases k2 with _ | k2
    · exact loopM_zero hL
    · obtain ⟨qu2, hr, hSu2, hBu2⟩ := loopM_succ hL
      clear hL
      unfold testgatelaw03_WireBack_L2 at hr
      refine W_seq ?_
      refine W_region ?_
      refine WO_seg 1 [(58, .bool (decide (s2.2 < (List.length o1.2.1 : Int))))] (by kernel_rfl) (by kernel_rfl) ?_
      refine WO_end rfl ?_
      refine X_then ?_
      refine W_seq ?_
      refine W_cond (decide (s2.2 < (List.length o1.2.1 : Int))) (by kernel_rfl) ?_ ?_
      · intro hc
        rw [if_pos hc] at hr
        refine W_skip ?_
        refine X_then ?_
        refine W_seq ?_
        refine W_block ?_
        refine W_seq ?_
        refine W_region ?_
        refine WO_seg 2 [(13, .int .i64 s2.2)] (by kernel_rfl) (by kernel_rfl) ?_
        refine WO_end rfl ?_
        refine X_then ?_
        refine W_seq ?_
        refine W_region ?_
        refine WO_seg 2 [(61, .slice a3 (List.length o1.1) c3), (62, .int .i64 s2.1)] (by kernel_rfl) (by kernel_rfl) ?_
        replace hr := bindS hr
        obtain ⟨y8, hx11, hr⟩ := hr
        refine WO_one rfl (One_fn 63 49 #[.slice a3 (List.length o1.1) c3, .int .i64 s2.1] (by kernel_rfl) rfl ?_)
        refine (wire_Uint_ok st r3 hx11).mono ?_
        clear st
        rintro _ w17 ⟨m17, rfl, hle13, st⟩
        refine ⟨_, rfl, ?_⟩
        have hm := Mem.le_trans hm hle13
        have r3 := r3.mono hle13
        have r4 := r4.mono hle13
        have r5 := r5.mono hle13
        have r6 := r6.mono hle13
        refine WO_seg 7 [(14, .int .u64 y8.1), (15, .int .i64 y8.2.1), (16, .int .i64 y8.2.2)] (by kernel_rfl) (by kernel_rfl) ?_
        refine WO_end rfl ?_
        refine X_then ?_
        refine W_seq ?_
        refine W_region ?_
        refine WO_seg 2 [(68, .slice a3 (List.length o1.1) c3), (69, .int .i64 y8.2.1)] (by kernel_rfl) (by kernel_rfl) ?_
        replace hr := bindS hr
        obtain ⟨y9, hx12, hr⟩ := hr
        refine WO_one rfl (One_fn 70 51 #[.slice a3 (List.length o1.1) c3, .int .i64 y8.2.1] (by kernel_rfl) rfl ?_)
        refine (wire_Int_ok st r3 hx12).mono ?_
        clear st
        rintro _ w18 ⟨m18, rfl, hle14, st⟩
        refine ⟨_, rfl, ?_⟩
        have hm := Mem.le_trans hm hle14
        have r3 := r3.mono hle14
        have r4 := r4.mono hle14
        have r5 := r5.mono hle14
        have r6 := r6.mono hle14
        refine WO_seg 7 [(17, .int .i64 y9.1), (15, .int .i64 y9.2.1), (18, .int .i64 y9.2.2)] (by kernel_rfl) (by kernel_rfl) ?_
        refine WO_end rfl ?_
        refine X_then ?_
        refine W_seq ?_
        refine W_region ?_
        refine WO_seg 2 [(75, .slice a3 (List.length o1.1) c3), (76, .int .i64 y9.2.1)] (by kernel_rfl) (by kernel_rfl) ?_
        replace hr := bindS hr
        obtain ⟨y10, hx13, hr⟩ := hr
        refine WO_one rfl (One_fn 77 53 #[.slice a3 (List.length o1.1) c3, .int .i64 y9.2.1, .int .i64 20] (by kernel_rfl) rfl ?_)
        refine (wire_Text_ok st r3 hx13).mono ?_
        clear st
        rintro _ w19 ⟨m19, rfl, hle15, st⟩
        refine ⟨_, rfl, ?_⟩
        have hm := Mem.le_trans hm hle15
        have r3 := r3.mono hle15
        have r4 := r4.mono hle15
        have r5 := r5.mono hle15
        have r6 := r6.mono hle15
        refine WO_seg 7 [(19, .string y10.1), (15, .int .i64 y10.2.1), (20, .int .i64 y10.2.2)] (by kernel_rfl) (by kernel_rfl) ?_
        refine WO_end rfl ?_
        refine X_then ?_
        refine W_seq ?_
        refine W_seq ?_
        refine W_region ?_
        replace hr := bindS hr
        obtain ⟨o3, hr, hrK⟩ := hr
        refine WO_cut (j := 35) (fun L' w' => ∃ (m20 : Mem), L' = [(6, .slice a3 (List.length o1.1) c3), (7, .slice a4 (List.length o1.2.1) c4), (8, .slice a5 (List.length o1.2.2.1) c5), (15, .int .i64 y10.2.1), (56, .int .i64 (List.length o1.2.1 : Int)), (57, .int .i64 s2.2), (115, .bool o3)] ∧ m.le m20 ∧ St m20 (.blk b1 (.cells #[.slice a6 (List.length o1.2.2.2.1) c6, .int .i64 o1.2.2.2.2] 35 (0, 0)) :: .room a3 (List.length o1.1) c3 5 1 :: .room a4 (List.length o1.2.1) c4 69 1 :: .room a5 (List.length o1.2.2.1) c5 9 1 :: own) w' ∧ RepS cU8 m20 a3 c3 o1.1 ∧ RepS (cInt .u64) m20 a4 c4 o1.2.1 ∧ RepS cStr m20 a5 c5 o1.2.2.1 ∧ RepS (cInt .i64) m20 a6 c6 o1.2.2.2.1) ?_ ?_
        · clear hr st
          have hr := hrK
          clear hrK
          rintro _ w20 ⟨m20, rfl, hm, st, r3, r4, r5, r6⟩
          refine WO_end rfl ?_
          refine X_then ?_
          refine W_cond o3 (by kernel_rfl) ?_ ?_
          · intro hc
            rw [if_pos hc] at hr
            refine W_seq ?_
            refine W_region ?_
            refine WO_seg 1 [(4, .bool false)] (by kernel_rfl) (by kernel_rfl) ?_
            refine WO_end rfl ?_
            have st := st.front1
            have st := st.tail
            have st := st.front1
            have st := st.tail
            have st := st.front1
            have st := st.tail
            refine X_then ?_
            refine W_ret ?_
            refine X_then_ret ?_
            refine X_block_ret ?_
            refine X_then_ret ?_
            obtain rfl := Option.some.inj hr
            have ho := hBu2 _ rfl
            subst ho
            have hr := hrKu2
            dsimp only at hr
            refine X_then_ret ?_
            refine X_block_ret ?_
            refine X_then_ret ?_
            obtain rfl := Option.some.inj hr
            refine X_ret [.tmp 4] [.bool false] rfl (ResAll.cons (ResAt.tmp (by kernel_rfl)) ResAll.nil) ?_
            have st := st.tail
            exact ⟨m20, rfl, hm, st⟩
          · intro hc
            rw [if_neg (not_true hc)] at hr
            refine W_skip ?_
            refine X_then ?_
            refine W_region ?_
            refine WO_seg 2 [(12, .int .i64 y10.2.1)] (by kernel_rfl) (by kernel_rfl) ?_
            refine WO_end rfl ?_
            refine X_block ?_
            refine X_then ?_
            refine W_region ?_
            refine WO_seg 2 [(57, .int .i64 (IntKind.wrap .i64 (s2.2 + 1)))] (by kernel_rfl) (by kernel_rfl) ?_
            refine WO_end rfl ?_
            obtain rfl := Option.some.inj hr
            have hL := hSu2 _ rfl
            have st := st.front3
            have st := st.front3
            have st := st.front3
            have st := st.front3
            exact X_env _ (by kernel_rfl) (X_round k2 (Nat.lt_succ_self _) ⟨(y10.2.1, IntKind.wrap .i64 (s2.2 + 1)), m20, hL, rfl, hm, st, r3, r4, r5, r6⟩)
        · intro K
          clear hrK
          refine WO_seg 3 [(83, .bool (y8.2.2 != 0))] (by kernel_rfl) (by kernel_rfl) ?_
          rcases bcases (y8.2.2 != 0) with hc | hc
          · rw [if_pos hc] at hr
            refine WO_fact (t := 83) (b := true) (y8.2.2 != 0) (by kernel_rfl) hc ?_
            refine WO_seg 32 [(115, .bool true)] (by kernel_rfl) (by kernel_rfl) ?_
            obtain rfl := Option.some.inj hr
            have st := st.front3
            have st := st.front3
            have st := st.front3
            have st := st.front3
            exact WO_env _ (by kernel_rfl) (K _ _ ⟨m19, rfl, hm, st, r3, r4, r5, r6⟩)
          · rw [if_neg (not_true hc)] at hr
            refine WO_fact (t := 83) (b := false) (y8.2.2 != 0) (by kernel_rfl) hc ?_
            refine WO_seg 4 [(87, .bool (y9.2.2 != 0))] (by kernel_rfl) (by kernel_rfl) ?_
            rcases bcases (y9.2.2 != 0) with hc | hc
            · rw [if_pos hc] at hr
              refine WO_fact (t := 87) (b := true) (y9.2.2 != 0) (by kernel_rfl) hc ?_
              refine WO_seg 28 [(115, .bool true)] (by kernel_rfl) (by kernel_rfl) ?_
              obtain rfl := Option.some.inj hr
              have st := st.front3
              have st := st.front3
              have st := st.front3
              have st := st.front3
              exact WO_env _ (by kernel_rfl) (K _ _ ⟨m19, rfl, hm, st, r3, r4, r5, r6⟩)
            · rw [if_neg (not_true hc)] at hr
              refine WO_fact (t := 87) (b := false) (y9.2.2 != 0) (by kernel_rfl) hc ?_
              refine WO_seg 4 [(91, .bool (y10.2.2 != 0))] (by kernel_rfl) (by kernel_rfl) ?_
              rcases bcases (y10.2.2 != 0) with hc | hc
              · rw [if_pos hc] at hr
                refine WO_fact (t := 91) (b := true) (y10.2.2 != 0) (by kernel_rfl) hc ?_
                refine WO_seg 24 [(115, .bool true)] (by kernel_rfl) (by kernel_rfl) ?_
                obtain rfl := Option.some.inj hr
                have st := st.front3
                have st := st.front3
                have st := st.front3
                have st := st.front3
                exact WO_env _ (by kernel_rfl) (K _ _ ⟨m19, rfl, hm, st, r3, r4, r5, r6⟩)
              · rw [if_neg (not_true hc)] at hr
                refine WO_fact (t := 91) (b := false) (y10.2.2 != 0) (by kernel_rfl) hc ?_
                refine WO_seg 3 [(92, .int .u64 y8.1), (93, .slice a4 (List.length o1.2.1) c4), (94, .int .i64 s2.2)] (by kernel_rfl) (by kernel_rfl) ?_
                replace hr := bindS hr
                obtain ⟨x1, hx14, hr⟩ := hr
                refine WO_one rfl (One_index (d := 95) (t := 80) (e := 69) (x := (.tmp 93)) (y := (.tmp 94)) (cInt .u64) (by kernel_rfl) rfl (show evL _ _ = some (.slice a4 (List.length o1.2.1) c4) from (by kernel_rfl)) (show evL _ _ = some (.int .i64 s2.2) from (by kernel_rfl)) (by kernel_rfl) r4 hx14 ?_)
                rintro b4 f1 cs1 rfl hq1
                refine WO_one rfl (One_load_row (d := 96) (t := 69) (x := (.tmp 95)) (.int .u64 x1) (by kernel_rfl) rfl (show evL _ _ = some (.pointer (some ⟨b4, f1, none⟩)) from (by kernel_rfl)) st hq1 (by kernel_rfl) ?_)
                refine WO_seg 3 [(99, .bool (y8.1 != x1))] (by kernel_rfl) (by kernel_rfl) ?_
                rcases bcases (y8.1 != x1) with hc | hc
                · rw [if_pos hc] at hr
                  refine WO_fact (t := 99) (b := true) (y8.1 != x1) (by kernel_rfl) hc ?_
                  refine WO_seg 16 [(115, .bool true)] (by kernel_rfl) (by kernel_rfl) ?_
                  obtain rfl := Option.some.inj hr
                  have st := st.front3
                  have st := st.front3
                  have st := st.front3
                  have st := st.front3
                  exact WO_env _ (by kernel_rfl) (K _ _ ⟨m19, rfl, hm, st, r3, r4, r5, r6⟩)
                · rw [if_neg (not_true hc)] at hr
                  refine WO_fact (t := 99) (b := false) (y8.1 != x1) (by kernel_rfl) hc ?_
                  refine WO_seg 3 [(100, .int .i64 y9.1), (101, .slice a4 (List.length o1.2.1) c4), (102, .int .i64 s2.2)] (by kernel_rfl) (by kernel_rfl) ?_
                  replace hr := bindS hr
                  obtain ⟨x2, hx15, hr⟩ := hr
                  refine WO_one rfl (One_index (d := 103) (t := 80) (e := 69) (x := (.tmp 101)) (y := (.tmp 102)) (cInt .u64) (by kernel_rfl) rfl (show evL _ _ = some (.slice a4 (List.length o1.2.1) c4) from (by kernel_rfl)) (show evL _ _ = some (.int .i64 s2.2) from (by kernel_rfl)) (by kernel_rfl) r4 hx15 ?_)
                  rintro b5 f2 cs2 rfl hq2
                  refine WO_one rfl (One_load_row (d := 104) (t := 69) (x := (.tmp 103)) (.int .u64 x2) (by kernel_rfl) rfl (show evL _ _ = some (.pointer (some ⟨b5, f2, none⟩)) from (by kernel_rfl)) st hq2 (by kernel_rfl) ?_)
                  refine WO_seg 4 [(108, .bool (y9.1 != (IntKind.wrap .i64 x2)))] (by kernel_rfl) (by kernel_rfl) ?_
                  rcases bcases (y9.1 != (IntKind.wrap .i64 x2)) with hc | hc
                  · rw [if_pos hc] at hr
                    refine WO_fact (t := 108) (b := true) (y9.1 != (IntKind.wrap .i64 x2)) (by kernel_rfl) hc ?_
                    refine WO_seg 7 [(115, .bool true)] (by kernel_rfl) (by kernel_rfl) ?_
                    obtain rfl := Option.some.inj hr
                    have st := st.front3
                    have st := st.front3
                    have st := st.front3
                    have st := st.front3
                    exact WO_env _ (by kernel_rfl) (K _ _ ⟨m19, rfl, hm, st, r3, r4, r5, r6⟩)
                  · rw [if_neg (not_true hc)] at hr
                    refine WO_fact (t := 108) (b := false) (y9.1 != (IntKind.wrap .i64 x2)) (by kernel_rfl) hc ?_
                    refine WO_seg 3 [(109, .string y10.1), (110, .slice a5 (List.length o1.2.2.1) c5), (111, .int .i64 s2.2)] (by kernel_rfl) (by kernel_rfl) ?_
                    replace hr := bindS hr
                    obtain ⟨x3, hx16, hr⟩ := hr
                    refine WO_one rfl (One_index (d := 112) (t := 22) (e := 9) (x := (.tmp 110)) (y := (.tmp 111)) cStr (by kernel_rfl) rfl (show evL _ _ = some (.slice a5 (List.length o1.2.2.1) c5) from (by kernel_rfl)) (show evL _ _ = some (.int .i64 s2.2) from (by kernel_rfl)) (by kernel_rfl) r5 hx16 ?_)
                    rintro b6 f3 cs3 rfl hq3
                    refine WO_one rfl (One_load_row (d := 113) (t := 9) (x := (.tmp 112)) (.string x3) (by kernel_rfl) rfl (show evL _ _ = some (.pointer (some ⟨b6, f3, none⟩)) from (by kernel_rfl)) st hq3 (by kernel_rfl) ?_)
                    refine WO_seg 2 [(115, .bool (!(y10.1.toList == x3.toList)))] (by kernel_rfl) (by kernel_rfl) ?_
                    obtain rfl := Option.some.inj hr
                    have st := st.front3
                    have st := st.front3
                    have st := st.front3
                    have st := st.front3
                    exact WO_env _ (by kernel_rfl) (K _ _ ⟨m19, rfl, hm, st, r3, r4, r5, r6⟩)
      · intro hc
        rw [if_neg (not_true hc)] at hr
        refine W_exit ?_
        refine X_then_exit ?_
        obtain rfl := Option.some.inj hr
        have ho := hBu2 _ rfl
        have st := st.front3
        have st := st.front3
        have st := st.front3
        have st := st.front3
        refine X_then_exit ?_
        exact X_env _ (by kernel_rfl) (K2_u2 _ _ ⟨s2.1, m16, ho, rfl, hm, st, r3, r6⟩)
  intro K0_u1
  clear hrKu1
  have st := st.nilroom 5 1
  have st := st.nilroom 69 1
  have st := st.nilroom 9 1
  have st := st.front1
  have st := st.front2
  have st := st.front3
  refine W_env _ (by kernel_rfl) (W_loop (fun k1 L' w' => ∃ (s1 : List (UInt8) × List (Int) × List (ByteArray) × Int × List (Int) × Int) (a7 : Option Addr) (c7 : Nat) (a8 : Option Addr) (c8 : Nat) (a9 : Option Addr) (c9 : Nat) (a10 : Option Addr) (c10 : Nat) (m4 : Mem), loopM (testgatelaw03_WireBack_L1 N p1) k1 s1 = some out1 ∧ L' = [(1, .int .u64 p1), (5, .pointer (some ⟨b1, 0, none⟩)), (6, .slice a7 (List.length s1.1) c7), (7, .slice a8 (List.length s1.2.1) c8), (8, .slice a9 (List.length s1.2.2.1) c9), (9, .int .i64 s1.2.2.2.1)] ∧ m.le m4 ∧ St m4 (.blk b1 (.cells #[.slice a10 (List.length s1.2.2.2.2.1) c10, .int .i64 s1.2.2.2.2.2] 35 (0, 0)) :: .room a7 (List.length s1.1) c7 5 1 :: .room a8 (List.length s1.2.1) c8 69 1 :: .room a9 (List.length s1.2.2.1) c9 9 1 :: own) w' ∧ RepS cU8 m4 a7 c7 s1.1 ∧ RepS (cInt .u64) m4 a8 c8 s1.2.1 ∧ RepS cStr m4 a9 c9 s1.2.2.1 ∧ RepS (cInt .i64) m4 a10 c10 s1.2.2.2.2.1) N ⟨(([] : List (UInt8)), ([] : List (Int)), ([] : List (ByteArray)), y1.2, y1.1.1, y1.1.2), none, 0, none, 0, none, 0, a2, c2, m2, hr, rfl, hm, st, (RepS.nil _ _), (RepS.nil _ _), (RepS.nil _ _), r2⟩ ?_)
  clear st hr
  rintro k1 _ w4 ⟨s1, a7, c7, a8, c8, a9, c9, a10, c10, m4, hL, rfl, hm, st, r7, r8, r9, r10⟩
  rcases k1 with _ | k1
  · exact loopM_zero hL
  · obtain ⟨qu1, hr, hSu1, hBu1⟩ := loopM_succ hL
    clear hL
    unfold testgatelaw03_WireBack_L1 at hr
    refine W_seq ?_
    refine W_seq ?_
    refine W_region ?_
    refine WO_seg 2 [(27, .bool (decide (s1.2.2.2.1 > 0)))] (by kernel_rfl) (by kernel_rfl) ?_
    refine WO_end rfl ?_
    refine X_then ?_
    refine W_cond (decide (s1.2.2.2.1 > 0)) (by kernel_rfl) ?_ ?_
    · intro hc
      rw [if_pos hc] at hr
      refine W_skip ?_
      refine X_then ?_
      refine W_seq ?_
      refine W_block ?_
      refine W_seq ?_
      refine W_region ?_
      refine WO_seg 2 [(30, .int .u64 p1), (31, .pointer (some ⟨b1, 0, none⟩))] (by kernel_rfl) (by kernel_rfl) ?_
      replace hr := bindS hr
      obtain ⟨y2, hx2, hr⟩ := hr
      refine WO_one rfl (One_fn 32 25 #[.pointer (some ⟨b1, 0, none⟩), .int .i64 64] (by kernel_rfl) rfl ?_)
      refine (testgatemake_Tape_Next_ok st r10 hx2).mono ?_
      clear st
      rintro _ w5 ⟨a11, c11, m5, rfl, hle3, st, r11⟩
      refine ⟨_, rfl, ?_⟩
      have hm := Mem.le_trans hm hle3
      have r7 := r7.mono hle3
      have r8 := r8.mono hle3
      have r9 := r9.mono hle3
      have r10 := r10.mono hle3
      refine WO_seg 1 [(33, .int .u64 (IntKind.wrap .u64 y2.2))] (by kernel_rfl) (by kernel_rfl) ?_
      replace hr := bindS hr
      obtain ⟨i1, hx3, hr⟩ := hr
      refine WO_one rfl (One_shr (d := 34) (t := 69) (t2 := 81) (x := (.tmp 30)) (y := (.tmp 33)) (by kernel_rfl) rfl (show evL _ _ = some (.int .u64 p1) from (by kernel_rfl)) (show evL _ _ = some (.int .u64 (IntKind.wrap .u64 y2.2)) from (by kernel_rfl)) hx3 ?_)
      refine WO_seg 1 [(10, .int .u64 i1)] (by kernel_rfl) (by kernel_rfl) ?_
      refine WO_end rfl ?_
      refine X_then ?_
      refine W_seq ?_
      refine W_region ?_
      refine WO_seg 2 [(35, .pointer (some ⟨b1, 0, none⟩)), (36, .pointer (some ⟨b1, 0, none⟩))] (by kernel_rfl) (by kernel_rfl) ?_
      replace hr := bindS hr
      obtain ⟨y3, hx4, hr⟩ := hr
      refine WO_one rfl (One_fn 37 25 #[.pointer (some ⟨b1, 0, none⟩), .int .i64 20] (by kernel_rfl) rfl ?_)
      refine (testgatemake_Tape_Next_ok st r11 hx4).mono ?_
      clear st
      rintro _ w6 ⟨a12, c12, m6, rfl, hle4, st, r12⟩
      refine ⟨_, rfl, ?_⟩
      have hm := Mem.le_trans hm hle4
      have r7 := r7.mono hle4
      have r8 := r8.mono hle4
      have r9 := r9.mono hle4
      have r11 := r11.mono hle4
      replace hr := bindS hr
      obtain ⟨y4, hx5, hr⟩ := hr
      refine WO_one rfl (One_fn 38 55 #[.pointer (some ⟨b1, 0, none⟩), .int .i64 y3.2, .string (⟨#[97, 98, 247, 0]⟩ : ByteArray)] (by kernel_rfl) rfl ?_)
      refine (testgatemake_Tape_Text_ok st r12 hx5).mono ?_
      clear st
      rintro _ w7 ⟨a13, c13, m7, rfl, hle5, st, r13⟩
      refine ⟨_, rfl, ?_⟩
      have hm := Mem.le_trans hm hle5
      have r7 := r7.mono hle5
      have r8 := r8.mono hle5
      have r9 := r9.mono hle5
      have r12 := r12.mono hle5
      refine WO_seg 1 [(11, .string y4.2)] (by kernel_rfl) (by kernel_rfl) ?_
      refine WO_end rfl ?_
      refine X_then ?_
      refine W_seq ?_
      refine W_region ?_
      refine WO_seg 2 [(39, .slice a8 (List.length s1.2.1) c8), (40, .int .u64 i1)] (by kernel_rfl) (by kernel_rfl) ?_
      refine WO_one rfl (One_buildSlice (d := 41) (t := 80) (e := 69) (len := 1) (parts := #[(0, (.tmp 40))]) (cInt .u64) (xs := [i1]) [.int .u64 i1] (by kernel_rfl) rfl (fun _ => buildCells_run (by kernel_rfl) _) rfl rfl st ⟨[.int .u64 i1], _, rfl, rfl, rfl⟩ ?_)
      clear st
      intro b2 m8 w8 hle6 st r14
      have hm := Mem.le_trans hm hle6
      have r7 := r7.mono hle6
      have r8 := r8.mono hle6
      have r9 := r9.mono hle6
      have r13 := r13.mono hle6
      have st := st.front3
      replace hr := bindS hr
      obtain ⟨l1, hx6, hr⟩ := hr
      refine WO_one rfl (One_append (d := 42) (t := 80) (u := 80) (e := 69) (by_ := 8) (x := (.tmp 39)) (y := (.tmp 41)) (cInt .u64) (by kernel_rfl) rfl (show evL _ _ = some (.slice a8 (List.length s1.2.1) c8) from (by kernel_rfl)) (show evL _ _ = some (.slice (some ⟨b2, 0, none⟩) (List.length ([i1])) 1) from (by kernel_rfl)) st (by kernel_rfl) (.inl (by kernel_rfl)) r8 r14.src hx6 ?_)
      clear st
      intro a14 c14 m9 w9 hle7 st r15
      have hm := Mem.le_trans hm hle7
      have r7 := r7.mono hle7
      have r8 := r8.mono hle7
      have r9 := r9.mono hle7
      have r14 := r14.mono hle7
      have r13 := r13.mono hle7
      refine WO_seg 2 [(43, .slice a9 (List.length s1.2.2.1) c9), (44, .string y4.2)] (by kernel_rfl) (by kernel_rfl) ?_
      refine WO_one rfl (One_buildSlice (d := 45) (t := 22) (e := 9) (len := 1) (parts := #[(0, (.tmp 44))]) cStr (xs := [y4.2]) [.string y4.2] (by kernel_rfl) rfl (fun _ => buildCells_run (by kernel_rfl) _) rfl rfl st ⟨[.string y4.2], _, rfl, rfl, rfl⟩ ?_)
      clear st
      intro b3 m10 w10 hle8 st r16
      have hm := Mem.le_trans hm hle8
      have r7 := r7.mono hle8
      have r8 := r8.mono hle8
      have r9 := r9.mono hle8
      have r14 := r14.mono hle8
      have r15 := r15.mono hle8
      have r13 := r13.mono hle8
      have st := st.front5
      replace hr := bindS hr
      obtain ⟨l2, hx7, hr⟩ := hr
      refine WO_one rfl (One_append (d := 46) (t := 22) (u := 22) (e := 9) (by_ := 16) (x := (.tmp 43)) (y := (.tmp 45)) cStr (by kernel_rfl) rfl (show evL _ _ = some (.slice a9 (List.length s1.2.2.1) c9) from (by kernel_rfl)) (show evL _ _ = some (.slice (some ⟨b3, 0, none⟩) (List.length ([y4.2])) 1) from (by kernel_rfl)) st (by kernel_rfl) (.inl (by kernel_rfl)) r9 r16.src hx7 ?_)
      clear st
      intro a15 c15 m11 w11 hle9 st r17
      have hm := Mem.le_trans hm hle9
      have r7 := r7.mono hle9
      have r8 := r8.mono hle9
      have r9 := r9.mono hle9
      have r14 := r14.mono hle9
      have r15 := r15.mono hle9
      have r16 := r16.mono hle9
      have r13 := r13.mono hle9
      refine WO_seg 2 [(7, .slice a14 (List.length l1) c14), (8, .slice a15 (List.length l2) c15)] (by kernel_rfl) (by kernel_rfl) ?_
      refine WO_end rfl ?_
      have st := st.front1
      have st := st.tail
      have st := st.front2
      have st := st.tail
      refine X_then ?_
      refine W_region ?_
      refine WO_seg 2 [(47, .slice a7 (List.length s1.1) c7), (48, .int .u64 i1)] (by kernel_rfl) (by kernel_rfl) ?_
      replace hr := bindS hr
      obtain ⟨y5, hx8, hr⟩ := hr
      refine WO_one rfl (One_fn 49 45 #[.slice a7 (List.length s1.1) c7, .int .u64 i1] (by kernel_rfl) rfl ?_)
      refine (wire_PutUint_ok st r7 hx8).mono ?_
      clear st
      rintro _ w12 ⟨a16, c16, m12, rfl, hle10, st, r18⟩
      refine ⟨_, rfl, ?_⟩
      have hm := Mem.le_trans hm hle10
      have r7 := r7.mono hle10
      have r15 := r15.mono hle10
      have r17 := r17.mono hle10
      have r13 := r13.mono hle10
      refine WO_seg 2 [(51, .int .i64 (IntKind.wrap .i64 i1))] (by kernel_rfl) (by kernel_rfl) ?_
      replace hr := bindS hr
      obtain ⟨y6, hx9, hr⟩ := hr
      refine WO_one rfl (One_fn 52 44 #[.slice a16 (List.length y5) c16, .int .i64 (IntKind.wrap .i64 i1)] (by kernel_rfl) rfl ?_)
      refine (wire_PutInt_ok st r18 hx9).mono ?_
      clear st
      rintro _ w13 ⟨a17, c17, m13, rfl, hle11, st, r19⟩
      refine ⟨_, rfl, ?_⟩
      have hm := Mem.le_trans hm hle11
      have r7 := r7.mono hle11
      have r15 := r15.mono hle11
      have r17 := r17.mono hle11
      have r18 := r18.mono hle11
      have r13 := r13.mono hle11
      refine WO_seg 1 [(53, .string y4.2)] (by kernel_rfl) (by kernel_rfl) ?_
      replace hr := bindS hr
      obtain ⟨y7, hx10, hr⟩ := hr
      refine WO_one rfl (One_fn 54 43 #[.slice a17 (List.length y6) c17, .string y4.2] (by kernel_rfl) rfl ?_)
      refine (wire_PutText_ok st r19 hx10).mono ?_
      clear st
      rintro _ w14 ⟨a18, c18, m14, rfl, hle12, st, r20⟩
      refine ⟨_, rfl, ?_⟩
      have hm := Mem.le_trans hm hle12
      have r7 := r7.mono hle12
      have r15 := r15.mono hle12
      have r17 := r17.mono hle12
      have r18 := r18.mono hle12
      have r19 := r19.mono hle12
      have r13 := r13.mono hle12
      refine WO_seg 1 [(6, .slice a18 (List.length y7) c18)] (by kernel_rfl) (by kernel_rfl) ?_
      refine WO_end rfl ?_
      have st := st.front1
      have st := st.tail
      have st := st.front1
      have st := st.tail
      have st := st.front4
      have st := st.tail
      refine X_block ?_
      refine X_then ?_
      refine W_region ?_
      refine WO_seg 3 [(9, .int .i64 (IntKind.wrap .i64 (s1.2.2.2.1 - 1)))] (by kernel_rfl) (by kernel_rfl) ?_
      refine WO_end rfl ?_
      obtain rfl := Option.some.inj hr
      have hL := hSu1 _ rfl
      have st := st.front1
      have st := st.front2
      have st := st.front2
      have st := st.front3
      exact X_env _ (by kernel_rfl) (X_round k1 (Nat.lt_succ_self _) ⟨(y7, l1, l2, IntKind.wrap .i64 (s1.2.2.2.1 - 1), y4.1.1, y4.1.2), a18, c18, a14, c14, a15, c15, a13, c13, m14, hL, rfl, hm, st, r20, r15, r17, r13⟩)
    · intro hc
      rw [if_neg (not_true hc)] at hr
      refine W_exit ?_
      refine X_then_exit ?_
      obtain rfl := Option.some.inj hr
      have ho := hBu1 _ rfl
      have st := st.front3
      have st := st.front3
      have st := st.front3
      have st := st.front3
      refine X_then_exit ?_
      exact X_env _ (by kernel_rfl) (K0_u1 _ _ ⟨(s1.1, s1.2.1, s1.2.2.1, s1.2.2.2.2.1, s1.2.2.2.2.2), a7, c7, a8, c8, a9, c9, a10, c10, m4, ho, rfl, hm, st, r7, r8, r9, r10⟩)

end Go.Proofs.Ytgkjigejejofkaa
