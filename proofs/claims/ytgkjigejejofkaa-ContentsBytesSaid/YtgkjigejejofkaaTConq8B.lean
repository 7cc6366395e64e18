/- MADE BY gen.py: plain functions and the proofs that the Go functions compute them. No condition but those of each theorem. -/
import Derived.Test.YtgkjigejejofkaaProg
import Derived.Test.YtgkjigejejofkaaMap
import Derived.Test.YtgkjigejejofkaaTConq8A
namespace Go.Proofs.Ytgkjigejejofkaa
open Go Go.Dc

def contents_Decode_L1 (N : Nat) (y1 : (List (Int × List UInt8)) × Int × Int) (s1 : Int × List (ByteArray)) : Option ((Int × List (ByteArray)) ⊕ ((List (ByteArray)) ⊕ (List ByteArray × Int))) :=
  if (decide (s1.1 < (List.length y1.1 : Int))) = true then ((idx y1.1 s1.1).bind fun x1 => if (x1.1 != 3) = true then (some (.inr (.inr ((([] : List (ByteArray)), 6))))) else ((appendS 16 s1.2 ([strOf x1.2])).bind fun l1 => some (.inl (IntKind.wrap .i64 (s1.1 + 1), l1)))) else (some (.inr (.inl s1.2)))

def contents_Decode (N : Nat) (p0 : List UInt8) : Option (List ByteArray × Int) :=
  (wire_Frames N p0).bind fun y1 => if (y1.2.2 != 0) = true then (some (([] : List (ByteArray)), y1.2.2)) else ((loopM (contents_Decode_L1 N y1) N (0, ([] : List (ByteArray)))).bind fun out1 => (match out1 with | .inl o1 => (contents_Check N o1).bind fun y2 => if (y2 != 0) = true then (some (([] : List (ByteArray)), y2)) else (some (o1, 0)) | .inr (z) => some z))

set_option maxHeartbeats 4000000 in
set_option maxRecDepth 100000 in
theorem contents_Decode_ok {N : Nat} {m : Mem} {own : List Piece} {w : World} {p0 : List UInt8} {a1 : Option Addr} {c1 : Nat} {r : List ByteArray × Int} (st : St m (own) w) (r1 : RepS cU8 m a1 c1 p0) (hr : contents_Decode N p0 = some r) : Calls Go.Proofs.Try.prog 61 #[.slice a1 (List.length p0) c1] w fun e w' => ∃ (ra1 : Option Addr) (rc1 : Nat) (m' : Mem), e = .returned (.tuple #[.agg #[.slice ra1 (List.length r.1) rc1], .int .i64 r.2]) ∧ m.le m' ∧ St m' (.room ra1 (List.length r.1) rc1 9 1 :: own) w' ∧ RepS cStr m' ra1 rc1 r.1 := by
  unfold contents_Decode at hr
  have hm := m.le_refl
  refine W_calls Go.Proofs.Try.func61 rfl Go.Proofs.Try.ntmps61 [(0, .slice a1 (List.length p0) c1)] (by kernel_rfl) rfl ?_
  refine W_seq ?_
  refine W_region ?_
  refine WO_one rfl (One_alloc (d := 2) (e := 24) (.agg #[.slice none 0 0]) (by kernel_rfl) rfl (by kernel_rfl) st ?_)
  clear st
  intro b1 w1 st
  refine WO_seg 1 [] (by kernel_rfl) (by kernel_rfl) ?_
  refine WO_end rfl ?_
  refine X_then ?_
  refine W_seq ?_
  refine W_region ?_
  refine WO_seg 1 [(12, .slice a1 (List.length p0) c1)] (by kernel_rfl) (by kernel_rfl) ?_
  replace hr := bindS hr
  obtain ⟨y1, hx1, hr⟩ := hr
  refine WO_one rfl (One_fn 13 39 #[.slice a1 (List.length p0) c1] (by kernel_rfl) rfl ?_)
  refine (wire_Frames_ok st r1 hx1).mono ?_
  clear st
  rintro _ w2 ⟨a2, c2, m1, rfl, hle1, st, r2⟩
  refine ⟨_, rfl, ?_⟩
  have hm := Mem.le_trans hm hle1
  have r1 := r1.mono hle1
  refine WO_seg 7 [(4, .slice a2 (List.length y1.1) c2), (6, .int .i64 y1.2.2)] (by kernel_rfl) (by kernel_rfl) ?_
  refine WO_end rfl ?_
  refine X_then ?_
  refine W_seq ?_
  refine W_seq ?_
  refine W_region ?_
  refine WO_seg 2 [(18, .bool (y1.2.2 != 0))] (by kernel_rfl) (by kernel_rfl) ?_
  refine WO_end rfl ?_
  refine X_then ?_
  refine W_cond (y1.2.2 != 0) (by kernel_rfl) ?_ ?_
  · intro hc
    rw [if_pos hc] at hr
    refine W_seq ?_
    refine W_region ?_
    refine WO_seg 2 [(19, .agg #[.slice none (List.length ([] : List (ByteArray))) 0]), (20, .int .i64 y1.2.2)] (by kernel_rfl) (by kernel_rfl) ?_
    have st := st.front1
    refine WO_one rfl (One_store (t := 24) (x := (.tmp 2)) (y := (.tmp 19)) (v := .agg #[.slice none (List.length ([] : List (ByteArray))) 0]) (c' := #[.slice none (List.length ([] : List (ByteArray))) 0]) (by kernel_rfl) (show evL _ _ = some (.pointer (some ⟨b1, 0, none⟩)) from (by kernel_rfl)) (show evL _ _ = some (.agg #[.slice none (List.length ([] : List (ByteArray))) 0]) from (by kernel_rfl)) st (by kernel_rfl) (by kernel_rfl) ?_)
    clear st
    intro w3 st
    refine WO_seg 1 [(3, .int .i64 y1.2.2)] (by kernel_rfl) (by kernel_rfl) ?_
    refine WO_end rfl ?_
    have st := st.front1
    have st := st.tail
    refine X_then ?_
    refine W_ret ?_
    refine X_then_ret ?_
    obtain rfl := Option.some.inj hr
    refine X_ret [.cell 2 24, .tmp 3] [.agg #[.slice none (List.length ([] : List (ByteArray))) 0], .int .i64 y1.2.2] rfl (ResAll.cons (ResAt.blk (v := .agg #[.slice none (List.length ([] : List (ByteArray))) 0]) (o := 0) (by kernel_rfl) st.head (by kernel_rfl)) (ResAll.cons (ResAt.tmp (by kernel_rfl)) ResAll.nil)) ?_
    have st := st.nilroom 9 1
    have st := st.front1
    have st := st.tail
    exact ⟨none, 0, m1, rfl, hm, st, (RepS.nil _ _)⟩
  · intro hc
    rw [if_neg (not_true hc)] at hr
    refine W_skip ?_
    refine X_then ?_
    refine W_seq ?_
    refine W_region ?_
    refine WO_one rfl (One_alloc (d := 7) (e := 24) (.agg #[.slice none 0 0]) (by kernel_rfl) rfl (by kernel_rfl) st ?_)
    clear st
    intro b2 w4 st
    refine WO_end rfl ?_
    refine X_then ?_
    refine W_seq ?_
    refine W_seq ?_
    refine W_region ?_
    refine WO_seg 3 [(21, .slice a2 (List.length y1.1) c2), (22, .int .i64 (List.length y1.1 : Int)), (23, .int .i64 0)] (by kernel_rfl) (by kernel_rfl) ?_
    refine WO_end rfl ?_
    refine X_then ?_
    refine W_block ?_
    replace hr := bindS hr
    obtain ⟨out1, hr, hrKu1⟩ := hr
    refine W_cut (.exit 0) (fun L' w' => ∃ (o1 : List (ByteArray)) (a3 : Option Addr) (c3 : Nat) (m2 : Mem), (.inl o1) = out1 ∧ L' = [(2, .pointer (some ⟨b1, 0, none⟩)), (7, .pointer (some ⟨b2, 0, none⟩))] ∧ m.le m2 ∧ St m2 (.blk b2 (.cells #[.slice a3 (List.length o1) c3] 24 (0, 0)) :: .blk b1 (.cells #[.slice none (List.length ([] : List (ByteArray))) 0] 24 (0, 0)) :: .room a2 (List.length y1.1) c2 54 2 :: .room a3 (List.length o1) c3 9 1 :: own) w' ∧ RepS cStr m2 a3 c3 o1) ?_ ?_
    · clear hr st
      rintro _ w5 ⟨o1, a3, c3, m2, rfl, rfl, hm, st, r3⟩
      have hr := hrKu1
      clear hrKu1
      dsimp only at hr
      refine X_block_eq ?_
      refine X_then ?_
      refine W_seq ?_
      refine W_seq ?_
      refine W_region ?_
      refine WO_one rfl (One_load_own (d := 40) (t := 24) (x := (.tmp 7)) (.agg #[.slice a3 (List.length o1) c3]) (by kernel_rfl) rfl (show evL _ _ = some (.pointer (some ⟨b2, 0, none⟩)) from (by kernel_rfl)) st.head (by kernel_rfl) ?_)
      replace hr := bindS hr
      obtain ⟨y2, hx4, hr⟩ := hr
      refine WO_one rfl (One_fn 41 14 #[.agg #[.slice a3 (List.length o1) c3]] (by kernel_rfl) rfl ?_)
      refine (contents_Check_ok st r3 hx4).mono ?_
      clear st
      rintro _ w13 ⟨m6, rfl, hle4, st⟩
      refine ⟨_, rfl, ?_⟩
      have hm := Mem.le_trans hm hle4
      have r3 := r3.mono hle4
      refine WO_seg 1 [(10, .int .i64 y2)] (by kernel_rfl) (by kernel_rfl) ?_
      refine WO_end rfl ?_
      have st := st.front2
      have st := st.tail
      refine X_then ?_
      refine W_seq ?_
      refine W_region ?_
      refine WO_seg 2 [(43, .bool (y2 != 0))] (by kernel_rfl) (by kernel_rfl) ?_
      refine WO_end rfl ?_
      refine X_then ?_
      refine W_cond (y2 != 0) (by kernel_rfl) ?_ ?_
      · intro hc
        rw [if_pos hc] at hr
        refine W_seq ?_
        refine W_region ?_
        refine WO_seg 2 [(44, .agg #[.slice none (List.length ([] : List (ByteArray))) 0]), (45, .int .i64 y2)] (by kernel_rfl) (by kernel_rfl) ?_
        have st := st.front1
        refine WO_one rfl (One_store (t := 24) (x := (.tmp 2)) (y := (.tmp 44)) (v := .agg #[.slice none (List.length ([] : List (ByteArray))) 0]) (c' := #[.slice none (List.length ([] : List (ByteArray))) 0]) (by kernel_rfl) (show evL _ _ = some (.pointer (some ⟨b1, 0, none⟩)) from (by kernel_rfl)) (show evL _ _ = some (.agg #[.slice none (List.length ([] : List (ByteArray))) 0]) from (by kernel_rfl)) st (by kernel_rfl) (by kernel_rfl) ?_)
        clear st
        intro w14 st
        refine WO_seg 1 [(3, .int .i64 y2)] (by kernel_rfl) (by kernel_rfl) ?_
        refine WO_end rfl ?_
        refine X_then ?_
        refine W_ret ?_
        refine X_then_ret ?_
        obtain rfl := Option.some.inj hr
        refine X_ret [.cell 2 24, .tmp 3] [.agg #[.slice none (List.length ([] : List (ByteArray))) 0], .int .i64 y2] rfl (ResAll.cons (ResAt.blk (v := .agg #[.slice none (List.length ([] : List (ByteArray))) 0]) (o := 0) (by kernel_rfl) st.head (by kernel_rfl)) (ResAll.cons (ResAt.tmp (by kernel_rfl)) ResAll.nil)) ?_
        have st := st.nilroom 9 1
        have st := st.front1
        have st := st.tail
        have st := st.front1
        have st := st.tail
        have st := st.front1
        have st := st.tail
        exact ⟨none, 0, m6, rfl, hm, st, (RepS.nil _ _)⟩
      · intro hc
        rw [if_neg (not_true hc)] at hr
        refine W_skip ?_
        refine X_then ?_
        refine W_seq ?_
        refine W_region ?_
        refine WO_one rfl (One_load_own (d := 46) (t := 24) (x := (.tmp 7)) (.agg #[.slice a3 (List.length o1) c3]) (by kernel_rfl) rfl (show evL _ _ = some (.pointer (some ⟨b2, 0, none⟩)) from (by kernel_rfl)) st.head (by kernel_rfl) ?_)
        have st := st.front1
        refine WO_one rfl (One_store (t := 24) (x := (.tmp 2)) (y := (.tmp 46)) (v := .agg #[.slice a3 (List.length o1) c3]) (c' := #[.slice a3 (List.length o1) c3]) (by kernel_rfl) (show evL _ _ = some (.pointer (some ⟨b1, 0, none⟩)) from (by kernel_rfl)) (show evL _ _ = some (.agg #[.slice a3 (List.length o1) c3]) from (by kernel_rfl)) st (by kernel_rfl) (by kernel_rfl) ?_)
        clear st
        intro w15 st
        refine WO_seg 1 [(3, .int .i64 0)] (by kernel_rfl) (by kernel_rfl) ?_
        refine WO_end rfl ?_
        refine X_then ?_
        refine W_ret ?_
        obtain rfl := Option.some.inj hr
        refine X_ret [.cell 2 24, .tmp 3] [.agg #[.slice a3 (List.length o1) c3], .int .i64 0] rfl (ResAll.cons (ResAt.blk (v := .agg #[.slice a3 (List.length o1) c3]) (o := 0) (by kernel_rfl) st.head (by kernel_rfl)) (ResAll.cons (ResAt.tmp (by kernel_rfl)) ResAll.nil)) ?_
        have st := st.tail
        have st := st.tail
        exact ⟨a3, c3, m6, rfl, hm, st, r3⟩
    intro K0_u1
    have st := st.nilroom 9 1
    have st := st.front2
    have st := st.front3
    have st := st.front3
    refine W_env _ (by kernel_rfl) (W_loop (fun k1 L' w' => ∃ (s1 : Int × List (ByteArray)) (a4 : Option Addr) (c4 : Nat) (m3 : Mem), loopM (contents_Decode_L1 N y1) k1 s1 = some out1 ∧ L' = [(2, .pointer (some ⟨b1, 0, none⟩)), (7, .pointer (some ⟨b2, 0, none⟩)), (21, .slice a2 (List.length y1.1) c2), (22, .int .i64 (List.length y1.1 : Int)), (23, .int .i64 s1.1)] ∧ m.le m3 ∧ St m3 (.blk b2 (.cells #[.slice a4 (List.length s1.2) c4] 24 (0, 0)) :: .blk b1 (.cells #[.slice none (List.length ([] : List (ByteArray))) 0] 24 (0, 0)) :: .room a2 (List.length y1.1) c2 54 2 :: .room a4 (List.length s1.2) c4 9 1 :: own) w' ∧ RepS (cPair (cInt .i64) (cSl cU8)) m3 a2 c2 y1.1 ∧ RepS cStr m3 a4 c4 s1.2) N ⟨(0, ([] : List (ByteArray))), none, 0, m1, hr, rfl, hm, st, r2, (RepS.nil _ _)⟩ ?_)
    clear st hr
    rintro k1 _ w6 ⟨s1, a4, c4, m3, hL, rfl, hm, st, r2, r4⟩
    rcases k1 with _ | k1
    · exact loopM_zero hL
    · obtain ⟨qu1, hr, hSu1, hBu1⟩ := loopM_succ hL
      clear hL
      unfold contents_Decode_L1 at hr
      refine W_seq ?_
      refine W_region ?_
      refine WO_seg 1 [(24, .bool (decide (s1.1 < (List.length y1.1 : Int))))] (by kernel_rfl) (by kernel_rfl) ?_
      refine WO_end rfl ?_
      refine X_then ?_
      refine W_seq ?_
      refine W_cond (decide (s1.1 < (List.length y1.1 : Int))) (by kernel_rfl) ?_ ?_
      · intro hc
        rw [if_pos hc] at hr
        refine W_skip ?_
        refine X_then ?_
        refine W_seq ?_
        refine W_block ?_
        refine W_seq ?_
        refine W_region ?_
        replace hr := bindS hr
        obtain ⟨x1, hx2, hr⟩ := hr
        refine WO_one rfl (One_index (d := 25) (t := 62) (e := 54) (x := (.tmp 21)) (y := (.tmp 23)) (cPair (cInt .i64) (cSl cU8)) (by kernel_rfl) rfl (show evL _ _ = some (.slice a2 (List.length y1.1) c2) from (by kernel_rfl)) (show evL _ _ = some (.int .i64 s1.1) from (by kernel_rfl)) (by kernel_rfl) r2 hx2 ?_)
        rintro b3 f1 cs1 ⟨_, _, rfl, rfl, ⟨a5, c5, rfl, r5⟩⟩ hq1
        refine WO_one rfl (One_load_row (d := 26) (t := 54) (x := (.tmp 25)) (.agg #[.int .i64 x1.1, .slice a5 (List.length x1.2) c5]) (by kernel_rfl) rfl (show evL _ _ = some (.pointer (some ⟨b3, f1, none⟩)) from (by kernel_rfl)) st hq1 (by kernel_rfl) ?_)
        refine WO_one rfl (One_alloc (d := 9) (e := 54) (.agg #[.int .i64 0, .slice none 0 0]) (by kernel_rfl) rfl (by kernel_rfl) st ?_)
        clear st
        intro b4 w7 st
        refine WO_one rfl (One_store (t := 54) (x := (.tmp 9)) (y := (.tmp 26)) (v := .agg #[.int .i64 x1.1, .slice a5 (List.length x1.2) c5]) (c' := #[.int .i64 x1.1, .slice a5 (List.length x1.2) c5]) (by kernel_rfl) (show evL _ _ = some (.pointer (some ⟨b4, 0, none⟩)) from (by kernel_rfl)) (show evL _ _ = some (.agg #[.int .i64 x1.1, .slice a5 (List.length x1.2) c5]) from (by kernel_rfl)) st (by kernel_rfl) (by kernel_rfl) ?_)
        clear st
        intro w8 st
        refine WO_end rfl ?_
        refine X_then ?_
        refine W_seq ?_
        refine W_seq ?_
        refine W_region ?_
        refine WO_seg 1 [(27, .pointer (some ⟨b4, 0, none⟩))] (by kernel_rfl) (by kernel_rfl) ?_
        refine WO_one rfl (One_load_own (d := 28) (t := 3) (x := (.tmp 27)) (.int .i64 x1.1) (by kernel_rfl) rfl (show evL _ _ = some (.pointer (some ⟨b4, 0, none⟩)) from (by kernel_rfl)) st.head (by kernel_rfl) ?_)
        refine WO_seg 1 [(29, .bool (x1.1 != 3))] (by kernel_rfl) (by kernel_rfl) ?_
        refine WO_end rfl ?_
        refine X_then ?_
        refine W_cond (x1.1 != 3) (by kernel_rfl) ?_ ?_
        · intro hc
          rw [if_pos hc] at hr
          refine W_seq ?_
          refine W_region ?_
          refine WO_seg 1 [(30, .agg #[.slice none (List.length ([] : List (ByteArray))) 0])] (by kernel_rfl) (by kernel_rfl) ?_
          have st := st.front2
          refine WO_one rfl (One_store (t := 24) (x := (.tmp 2)) (y := (.tmp 30)) (v := .agg #[.slice none (List.length ([] : List (ByteArray))) 0]) (c' := #[.slice none (List.length ([] : List (ByteArray))) 0]) (by kernel_rfl) (show evL _ _ = some (.pointer (some ⟨b1, 0, none⟩)) from (by kernel_rfl)) (show evL _ _ = some (.agg #[.slice none (List.length ([] : List (ByteArray))) 0]) from (by kernel_rfl)) st (by kernel_rfl) (by kernel_rfl) ?_)
          clear st
          intro w9 st
          refine WO_seg 1 [(3, .int .i64 6)] (by kernel_rfl) (by kernel_rfl) ?_
          refine WO_end rfl ?_
          have st := st.front3
          have st := st.tail
          refine X_then ?_
          refine W_ret ?_
          refine X_then_ret ?_
          refine X_block_ret ?_
          refine X_then_ret ?_
          obtain rfl := Option.some.inj hr
          have ho := hBu1 _ rfl
          subst ho
          have hr := hrKu1
          dsimp only at hr
          refine X_then_ret ?_
          refine X_block_ret ?_
          refine X_then_ret ?_
          obtain rfl := Option.some.inj hr
          refine X_ret [.cell 2 24, .tmp 3] [.agg #[.slice none (List.length ([] : List (ByteArray))) 0], .int .i64 6] rfl (ResAll.cons (ResAt.blk (v := .agg #[.slice none (List.length ([] : List (ByteArray))) 0]) (o := 0) (by kernel_rfl) st.head (by kernel_rfl)) (ResAll.cons (ResAt.tmp (by kernel_rfl)) ResAll.nil)) ?_
          have st := st.nilroom 9 1
          have st := st.front1
          have st := st.tail
          have st := st.front1
          have st := st.tail
          have st := st.front1
          have st := st.tail
          have st := st.front1
          have st := st.tail
          exact ⟨none, 0, m3, rfl, hm, st, (RepS.nil _ _)⟩
        · intro hc
          rw [if_neg (not_true hc)] at hr
          refine W_skip ?_
          refine X_then ?_
          refine W_region ?_
          refine WO_seg 1 [(31, .pointer (some ⟨b2, 0, none⟩))] (by kernel_rfl) (by kernel_rfl) ?_
          refine WO_one rfl (One_load_own (d := 32) (t := 22) (x := (.tmp 31)) (.slice a4 (List.length s1.2) c4) (by kernel_rfl) rfl (show evL _ _ = some (.pointer (some ⟨b2, 0, none⟩)) from (by kernel_rfl)) st.tail.head (by kernel_rfl) ?_)
          refine WO_seg 1 [(33, .pointer (some ⟨b4, 1, none⟩))] (by kernel_rfl) (by kernel_rfl) ?_
          refine WO_one rfl (One_load_own (d := 34) (t := 50) (x := (.tmp 33)) (.slice a5 (List.length x1.2) c5) (by kernel_rfl) rfl (show evL _ _ = some (.pointer (some ⟨b4, 1, none⟩)) from (by kernel_rfl)) st.head (by kernel_rfl) ?_)
          refine WO_one rfl (One_bytesStr (d := 35) (t1 := 50) (t2 := 9) (e := 5) (x := (.tmp 34)) (by kernel_rfl) rfl (show evL _ _ = some (.slice a5 (List.length x1.2) c5) from (by kernel_rfl)) (by kernel_rfl) (by kernel_rfl) st r5 ?_)
          refine WO_one rfl (One_buildSlice (d := 36) (t := 22) (e := 9) (len := 1) (parts := #[(0, (.tmp 35))]) cStr (xs := [strOf x1.2]) [.string (strOf x1.2)] (by kernel_rfl) rfl (fun _ => buildCells_run (by kernel_rfl) _) rfl rfl st ⟨[.string (strOf x1.2)], _, rfl, rfl, rfl⟩ ?_)
          clear st
          intro b5 m4 w10 hle2 st r6
          have hm := Mem.le_trans hm hle2
          have r2 := r2.mono hle2
          have r4 := r4.mono hle2
          have r5 := r5.mono hle2
          have st := st.front5
          replace hr := bindS hr
          obtain ⟨l1, hx3, hr⟩ := hr
          refine WO_one rfl (One_append (d := 37) (t := 22) (u := 22) (e := 9) (by_ := 16) (x := (.tmp 32)) (y := (.tmp 36)) cStr (by kernel_rfl) rfl (show evL _ _ = some (.slice a4 (List.length s1.2) c4) from (by kernel_rfl)) (show evL _ _ = some (.slice (some ⟨b5, 0, none⟩) (List.length ([strOf x1.2])) 1) from (by kernel_rfl)) st (by kernel_rfl) (.inl (by kernel_rfl)) r4 r6.src hx3 ?_)
          clear st
          intro a6 c6 m5 w11 hle3 st r7
          have hm := Mem.le_trans hm hle3
          have r2 := r2.mono hle3
          have r4 := r4.mono hle3
          have r5 := r5.mono hle3
          have r6 := r6.mono hle3
          refine WO_seg 1 [(38, .pointer (some ⟨b2, 0, none⟩))] (by kernel_rfl) (by kernel_rfl) ?_
          have st := st.front3
          refine WO_one rfl (One_store (t := 22) (x := (.tmp 38)) (y := (.tmp 37)) (v := .slice a6 (List.length l1) c6) (c' := #[.slice a6 (List.length l1) c6]) (by kernel_rfl) (show evL _ _ = some (.pointer (some ⟨b2, 0, none⟩)) from (by kernel_rfl)) (show evL _ _ = some (.slice a6 (List.length l1) c6) from (by kernel_rfl)) st (by kernel_rfl) (by kernel_rfl) ?_)
          clear st
          intro w12 st
          refine WO_end rfl ?_
          have st := st.front2
          have st := st.tail
          refine X_block ?_
          refine X_then ?_
          refine W_region ?_
          refine WO_seg 2 [(23, .int .i64 (IntKind.wrap .i64 (s1.1 + 1)))] (by kernel_rfl) (by kernel_rfl) ?_
          refine WO_end rfl ?_
          obtain rfl := Option.some.inj hr
          have hL := hSu1 _ rfl
          have st := st.front2
          have st := st.tail
          have st := st.front1
          have st := st.front3
          have st := st.front3
          have st := st.front3
          exact X_env _ (by kernel_rfl) (X_round k1 (Nat.lt_succ_self _) ⟨(IntKind.wrap .i64 (s1.1 + 1), l1), a6, c6, m5, hL, rfl, hm, st, r2, r7⟩)
      · intro hc
        rw [if_neg (not_true hc)] at hr
        refine W_exit ?_
        refine X_then_exit ?_
        obtain rfl := Option.some.inj hr
        have ho := hBu1 _ rfl
        have st := st.front3
        have st := st.front3
        have st := st.front3
        have st := st.front3
        refine X_then_exit ?_
        exact X_env _ (by kernel_rfl) (K0_u1 _ _ ⟨s1.2, a4, c4, m3, ho, rfl, hm, st, r4⟩)

def testgateref03_Uint_L1 (N : Nat) (p0 : List UInt8) (s1 : Int) : Option ((Int) ⊕ ((Int))) :=
  (if (decide (s1 < (List.length p0 : Int))) = true then ((idx p0 s1).bind fun x1 => some (decide ((x1.toNat : Int) ≥ 128))) else (some false) : Option (Bool)).bind fun o3 => if o3 = true then (some (.inl (IntKind.wrap .i64 (s1 + 1)))) else (some (.inr s1))

def testgateref03_Uint_L2 (N : Nat) (p0 : List UInt8) (p1 : Int) (s2 : Int × Int) : Option ((Int × Int) ⊕ ((Int))) :=
  if (decide (s2.2 ≥ p1)) = true then ((idx p0 s2.2).bind fun x5 => some (.inl (IntKind.wrap .u64 ((IntKind.wrap .u64 (s2.1 * 128)) + (IntKind.wrap .u64 (Int.tmod (x5.toNat : Int) 128))), IntKind.wrap .i64 (s2.2 - 1)))) else (some (.inr s2.1))

def testgateref03_Uint (N : Nat) (p0 : List UInt8) (p1 : Int) : Option (Int × Int × Int) :=
  (if (decide (p1 < 0)) = true then (some true) else (some (decide (p1 > (List.length p0 : Int)))) : Option (Bool)).bind fun o1 => if o1 = true then (some (0, 0, 3)) else ((loopM (testgateref03_Uint_L1 N p0) N p1).bind fun o2 => if (o2 == (List.length p0 : Int)) = true then (some (0, 0, 7)) else ((if (decide ((IntKind.wrap .i64 (o2 - p1)) ≥ 10)) = true then (some true) else (if ((IntKind.wrap .i64 (o2 - p1)) == 9) = true then ((idx p0 o2).bind fun x2 => if (decide ((x2.toNat : Int) > 1)) = true then (some true) else (if (decide (o2 > p1)) = true then ((idx p0 o2).bind fun x3 => some ((x3.toNat : Int) == 0)) else (some false))) else (if (decide (o2 > p1)) = true then ((idx p0 o2).bind fun x4 => some ((x4.toNat : Int) == 0)) else (some false))) : Option (Bool)).bind fun o4 => if o4 = true then (some (0, 0, 6)) else ((loopM (testgateref03_Uint_L2 N p0 p1) N (0, o2)).bind fun o5 => some (o5, IntKind.wrap .i64 (o2 + 1), 0))))

set_option maxHeartbeats 4000000 in
set_option maxRecDepth 100000 in
theorem testgateref03_Uint_ok {N : Nat} {m : Mem} {own : List Piece} {w : World} {p0 : List UInt8} {p1 : Int} {a1 : Option Addr} {c1 : Nat} {r : Int × Int × Int} (st : St m (own) w) (r1 : RepS cU8 m a1 c1 p0) (hr : testgateref03_Uint N p0 p1 = some r) : Calls Go.Proofs.Try.prog 50 #[.slice a1 (List.length p0) c1, .int .i64 p1] w fun e w' => ∃ (m' : Mem), e = .returned (.tuple #[.int .u64 r.1, .int .i64 r.2.1, .int .i64 r.2.2]) ∧ m.le m' ∧ St m' (own) w' := by
  unfold testgateref03_Uint at hr
  have hm := m.le_refl
  refine W_calls Go.Proofs.Try.func50 rfl Go.Proofs.Try.ntmps50 [(0, .slice a1 (List.length p0) c1), (1, .int .i64 p1)] (by kernel_rfl) rfl ?_
  refine W_seq ?_
  refine W_region ?_
  refine WO_seg 3 [(4, .int .u64 0)] (by kernel_rfl) (by kernel_rfl) ?_
  refine WO_end rfl ?_
  refine X_then ?_
  refine W_seq ?_
  refine W_seq ?_
  refine W_region ?_
  replace hr := bindS hr
  obtain ⟨o1, hr, hrK⟩ := hr
  refine WO_cut (j := 8) (fun L' w' => ∃ (m1 : Mem), L' = [(0, .slice a1 (List.length p0) c1), (1, .int .i64 p1), (4, .int .u64 0), (16, .bool o1)] ∧ m.le m1 ∧ St m1 (own) w' ∧ RepS cU8 m1 a1 c1 p0) ?_ ?_
  · clear hr st
    have hr := hrK
    clear hrK
    rintro _ w1 ⟨m1, rfl, hm, st, r1⟩
    refine WO_end rfl ?_
    refine X_then ?_
    refine W_cond o1 (by kernel_rfl) ?_ ?_
    · intro hc
      rw [if_pos hc] at hr
      refine W_seq ?_
      refine W_region ?_
      refine WO_seg 3 [(4, .int .u64 0), (5, .int .i64 0), (6, .int .i64 3)] (by kernel_rfl) (by kernel_rfl) ?_
      refine WO_end rfl ?_
      refine X_then ?_
      refine W_ret ?_
      refine X_then_ret ?_
      obtain rfl := Option.some.inj hr
      refine X_ret [.tmp 4, .tmp 5, .tmp 6] [.int .u64 0, .int .i64 0, .int .i64 3] rfl (ResAll.cons (ResAt.tmp (by kernel_rfl)) (ResAll.cons (ResAt.tmp (by kernel_rfl)) (ResAll.cons (ResAt.tmp (by kernel_rfl)) ResAll.nil))) ?_
      exact ⟨m1, rfl, hm, st⟩
    · intro hc
      rw [if_neg (not_true hc)] at hr
      refine W_skip ?_
      refine X_then ?_
      refine W_seq ?_
      refine W_region ?_
      refine WO_seg 2 [(7, .int .i64 p1)] (by kernel_rfl) (by kernel_rfl) ?_
      refine WO_end rfl ?_
      refine X_then ?_
      refine W_seq ?_
      refine W_block ?_
      replace hr := bindS hr
      obtain ⟨out1, hr, hrKu1⟩ := hr
      refine W_cut (.exit 0) (fun L' w' => ∃ (o2 : Int) (m2 : Mem), o2 = out1 ∧ L' = [(0, .slice a1 (List.length p0) c1), (1, .int .i64 p1), (4, .int .u64 0), (7, .int .i64 o2)] ∧ m.le m2 ∧ St m2 (own) w' ∧ RepS cU8 m2 a1 c1 p0) ?_ ?_
      · clear hr st
        rintro _ w2 ⟨o2, m2, rfl, rfl, hm, st, r1⟩
        have hr := hrKu1
        clear hrKu1
        refine X_block_eq ?_
        refine X_then ?_
        refine W_seq ?_
        refine W_seq ?_
        refine W_region ?_
        refine WO_seg 4 [(34, .bool (o2 == (List.length p0 : Int)))] (by kernel_rfl) (by kernel_rfl) ?_
        refine WO_end rfl ?_
        refine X_then ?_
        refine W_cond (o2 == (List.length p0 : Int)) (by kernel_rfl) ?_ ?_
        · intro hc
          rw [if_pos hc] at hr
          refine W_seq ?_
          refine W_region ?_
          refine WO_seg 3 [(4, .int .u64 0), (5, .int .i64 0), (6, .int .i64 7)] (by kernel_rfl) (by kernel_rfl) ?_
          refine WO_end rfl ?_
          refine X_then ?_
          refine W_ret ?_
          refine X_then_ret ?_
          obtain rfl := Option.some.inj hr
          refine X_ret [.tmp 4, .tmp 5, .tmp 6] [.int .u64 0, .int .i64 0, .int .i64 7] rfl (ResAll.cons (ResAt.tmp (by kernel_rfl)) (ResAll.cons (ResAt.tmp (by kernel_rfl)) (ResAll.cons (ResAt.tmp (by kernel_rfl)) ResAll.nil))) ?_
          exact ⟨m2, rfl, hm, st⟩
        · intro hc
          rw [if_neg (not_true hc)] at hr
          refine W_skip ?_
          refine X_then ?_
          refine W_seq ?_
          refine W_seq ?_
          refine W_region ?_
          replace hr := bindS hr
          obtain ⟨o4, hr, hrK⟩ := hr
          refine WO_cut (j := 29) (fun L' w' => ∃ (m5 : Mem), L' = [(0, .slice a1 (List.length p0) c1), (1, .int .i64 p1), (4, .int .u64 0), (7, .int .i64 o2), (63, .bool o4)] ∧ m.le m5 ∧ St m5 (own) w' ∧ RepS cU8 m5 a1 c1 p0) ?_ ?_
          · clear hr st
            have hr := hrK
            clear hrK
            rintro _ w5 ⟨m5, rfl, hm, st, r1⟩
            refine WO_end rfl ?_
            refine X_then ?_
            refine W_cond o4 (by kernel_rfl) ?_ ?_
            · intro hc
              rw [if_pos hc] at hr
              refine W_seq ?_
              refine W_region ?_
              refine WO_seg 3 [(4, .int .u64 0), (5, .int .i64 0), (6, .int .i64 6)] (by kernel_rfl) (by kernel_rfl) ?_
              refine WO_end rfl ?_
              refine X_then ?_
              refine W_ret ?_
              refine X_then_ret ?_
              obtain rfl := Option.some.inj hr
              refine X_ret [.tmp 4, .tmp 5, .tmp 6] [.int .u64 0, .int .i64 0, .int .i64 6] rfl (ResAll.cons (ResAt.tmp (by kernel_rfl)) (ResAll.cons (ResAt.tmp (by kernel_rfl)) (ResAll.cons (ResAt.tmp (by kernel_rfl)) ResAll.nil))) ?_
              exact ⟨m5, rfl, hm, st⟩
            · intro hc
              rw [if_neg (not_true hc)] at hr
              refine W_skip ?_
              refine X_then ?_
              refine W_seq ?_
              refine W_seq ?_
              refine W_region ?_
              refine WO_seg 2 [(8, .int .i64 o2)] (by kernel_rfl) (by kernel_rfl) ?_
              refine WO_end rfl ?_
              refine X_then ?_
              refine W_block ?_
              replace hr := bindS hr
              obtain ⟨out2, hr, hrKu3⟩ := hr
              refine W_cut (.exit 2) (fun L' w' => ∃ (o5 : Int) (m6 : Mem), o5 = out2 ∧ L' = [(4, .int .u64 o5), (7, .int .i64 o2)] ∧ m.le m6 ∧ St m6 (own) w') ?_ ?_
              · clear hr st
                rintro _ w6 ⟨o5, m6, rfl, rfl, hm, st⟩
                have hr := hrKu3
                clear hrKu3
                refine X_block_eq ?_
                refine X_then ?_
                refine W_seq ?_
                refine W_region ?_
                refine WO_seg 6 [(4, .int .u64 o5), (5, .int .i64 (IntKind.wrap .i64 (o2 + 1))), (6, .int .i64 0)] (by kernel_rfl) (by kernel_rfl) ?_
                refine WO_end rfl ?_
                refine X_then ?_
                refine W_ret ?_
                obtain rfl := Option.some.inj hr
                refine X_ret [.tmp 4, .tmp 5, .tmp 6] [.int .u64 o5, .int .i64 (IntKind.wrap .i64 (o2 + 1)), .int .i64 0] rfl (ResAll.cons (ResAt.tmp (by kernel_rfl)) (ResAll.cons (ResAt.tmp (by kernel_rfl)) (ResAll.cons (ResAt.tmp (by kernel_rfl)) ResAll.nil))) ?_
                exact ⟨m6, rfl, hm, st⟩
              intro K2_u3
              clear hrKu3
              refine W_env _ (by kernel_rfl) (W_loop (fun k2 L' w' => ∃ (s2 : Int × Int) (m7 : Mem), loopM (testgateref03_Uint_L2 N p0 p1) k2 s2 = some out2 ∧ L' = [(0, .slice a1 (List.length p0) c1), (1, .int .i64 p1), (4, .int .u64 s2.1), (7, .int .i64 o2), (8, .int .i64 s2.2)] ∧ m.le m7 ∧ St m7 (own) w' ∧ RepS cU8 m7 a1 c1 p0) N ⟨(0, o2), m5, hr, rfl, hm, st, r1⟩ ?_)
              clear st hr
              rintro k2 _ w7 ⟨s2, m7, hL, rfl, hm, st, r1⟩
              rcases k2 with _ | k2
              · exact loopM_zero hL
              · obtain ⟨qu3, hr, hSu3, hBu3⟩ := loopM_succ hL
                clear hL
                unfold testgateref03_Uint_L2 at hr
                refine W_seq ?_
                refine W_seq ?_
                refine W_region ?_
                refine WO_seg 3 [(67, .bool (decide (s2.2 ≥ p1)))] (by kernel_rfl) (by kernel_rfl) ?_
                refine WO_end rfl ?_
                refine X_then ?_
                refine W_cond (decide (s2.2 ≥ p1)) (by kernel_rfl) ?_ ?_
                · intro hc
                  rw [if_pos hc] at hr
                  refine W_skip ?_
                  refine X_then ?_
                  refine W_seq ?_
                  refine W_block ?_
                  refine W_region ?_
                  refine WO_seg 4 [(71, .int .u64 (IntKind.wrap .u64 (s2.1 * 128))), (72, .slice a1 (List.length p0) c1), (73, .int .i64 s2.2)] (by kernel_rfl) (by kernel_rfl) ?_
                  replace hr := bindS hr
                  obtain ⟨x5, hx5, hr⟩ := hr
                  refine WO_one rfl (One_index (d := 74) (t := 50) (e := 5) (x := (.tmp 72)) (y := (.tmp 73)) cU8 (by kernel_rfl) rfl (show evL _ _ = some (.slice a1 (List.length p0) c1) from (by kernel_rfl)) (show evL _ _ = some (.int .i64 s2.2) from (by kernel_rfl)) (by kernel_rfl) r1 hx5 ?_)
                  rintro b5 f5 cs5 rfl hq5
                  refine WO_one rfl (One_load_row (d := 75) (t := 5) (x := (.tmp 74)) (.int .u8 (x5.toNat : Int)) (by kernel_rfl) rfl (show evL _ _ = some (.pointer (some ⟨b5, f5, none⟩)) from (by kernel_rfl)) st hq5 (by kernel_rfl) ?_)
                  refine WO_seg 4 [(4, .int .u64 (IntKind.wrap .u64 ((IntKind.wrap .u64 (s2.1 * 128)) + (IntKind.wrap .u64 (Int.tmod (x5.toNat : Int) 128)))))] (by kernel_rfl) (by kernel_rfl) ?_
                  refine WO_end rfl ?_
                  refine X_block ?_
                  refine X_then ?_
                  refine W_region ?_
                  refine WO_seg 3 [(8, .int .i64 (IntKind.wrap .i64 (s2.2 - 1)))] (by kernel_rfl) (by kernel_rfl) ?_
                  refine WO_end rfl ?_
                  obtain rfl := Option.some.inj hr
                  have hL := hSu3 _ rfl
                  exact X_env _ (by kernel_rfl) (X_round k2 (Nat.lt_succ_self _) ⟨(IntKind.wrap .u64 ((IntKind.wrap .u64 (s2.1 * 128)) + (IntKind.wrap .u64 (Int.tmod (x5.toNat : Int) 128))), IntKind.wrap .i64 (s2.2 - 1)), m7, hL, rfl, hm, st, r1⟩)
                · intro hc
                  rw [if_neg (not_true hc)] at hr
                  refine W_exit ?_
                  refine X_then_exit ?_
                  obtain rfl := Option.some.inj hr
                  have ho := hBu3 _ rfl
                  refine X_then_exit ?_
                  exact X_env _ (by kernel_rfl) (K2_u3 _ _ ⟨s2.1, m7, ho, rfl, hm, st⟩)
          · intro K
            clear hrK
            refine WO_seg 5 [(39, .bool (decide ((IntKind.wrap .i64 (o2 - p1)) ≥ 10)))] (by kernel_rfl) (by kernel_rfl) ?_
            rcases bcases (decide ((IntKind.wrap .i64 (o2 - p1)) ≥ 10)) with hc | hc
            · rw [if_pos hc] at hr
              refine WO_fact (t := 39) (b := true) (decide ((IntKind.wrap .i64 (o2 - p1)) ≥ 10)) (by kernel_rfl) hc ?_
              refine WO_seg 24 [(63, .bool true)] (by kernel_rfl) (by kernel_rfl) ?_
              obtain rfl := Option.some.inj hr
              exact WO_env _ (by kernel_rfl) (K _ _ ⟨m2, rfl, hm, st, r1⟩)
            · rw [if_neg (not_true hc)] at hr
              refine WO_fact (t := 39) (b := false) (decide ((IntKind.wrap .i64 (o2 - p1)) ≥ 10)) (by kernel_rfl) hc ?_
              refine WO_seg 5 [(44, .bool ((IntKind.wrap .i64 (o2 - p1)) == 9))] (by kernel_rfl) (by kernel_rfl) ?_
              rcases bcases ((IntKind.wrap .i64 (o2 - p1)) == 9) with hc | hc
              · rw [if_pos hc] at hr
                refine WO_fact (t := 44) (b := true) ((IntKind.wrap .i64 (o2 - p1)) == 9) (by kernel_rfl) hc ?_
                refine WO_seg 2 [(45, .slice a1 (List.length p0) c1), (46, .int .i64 o2)] (by kernel_rfl) (by kernel_rfl) ?_
                replace hr := bindS hr
                obtain ⟨x2, hx2, hr⟩ := hr
                refine WO_one rfl (One_index (d := 47) (t := 50) (e := 5) (x := (.tmp 45)) (y := (.tmp 46)) cU8 (by kernel_rfl) rfl (show evL _ _ = some (.slice a1 (List.length p0) c1) from (by kernel_rfl)) (show evL _ _ = some (.int .i64 o2) from (by kernel_rfl)) (by kernel_rfl) r1 hx2 ?_)
                rintro b2 f2 cs2 rfl hq2
                refine WO_one rfl (One_load_row (d := 48) (t := 5) (x := (.tmp 47)) (.int .u8 (x2.toNat : Int)) (by kernel_rfl) rfl (show evL _ _ = some (.pointer (some ⟨b2, f2, none⟩)) from (by kernel_rfl)) st hq2 (by kernel_rfl) ?_)
                refine WO_seg 4 [(52, .bool (decide ((x2.toNat : Int) > 1)))] (by kernel_rfl) (by kernel_rfl) ?_
                rcases bcases (decide ((x2.toNat : Int) > 1)) with hc | hc
                · rw [if_pos hc] at hr
                  refine WO_fact (t := 52) (b := true) (decide ((x2.toNat : Int) > 1)) (by kernel_rfl) hc ?_
                  refine WO_seg 11 [(63, .bool true)] (by kernel_rfl) (by kernel_rfl) ?_
                  obtain rfl := Option.some.inj hr
                  exact WO_env _ (by kernel_rfl) (K _ _ ⟨m2, rfl, hm, st, r1⟩)
                · rw [if_neg (not_true hc)] at hr
                  refine WO_fact (t := 52) (b := false) (decide ((x2.toNat : Int) > 1)) (by kernel_rfl) hc ?_
                  refine WO_seg 4 [(56, .bool (decide (o2 > p1)))] (by kernel_rfl) (by kernel_rfl) ?_
                  rcases bcases (decide (o2 > p1)) with hc | hc
                  · rw [if_pos hc] at hr
                    refine WO_fact (t := 56) (b := true) (decide (o2 > p1)) (by kernel_rfl) hc ?_
                    refine WO_seg 2 [(57, .slice a1 (List.length p0) c1), (58, .int .i64 o2)] (by kernel_rfl) (by kernel_rfl) ?_
                    replace hr := bindS hr
                    obtain ⟨x3, hx3, hr⟩ := hr
                    refine WO_one rfl (One_index (d := 59) (t := 50) (e := 5) (x := (.tmp 57)) (y := (.tmp 58)) cU8 (by kernel_rfl) rfl (show evL _ _ = some (.slice a1 (List.length p0) c1) from (by kernel_rfl)) (show evL _ _ = some (.int .i64 o2) from (by kernel_rfl)) (by kernel_rfl) r1 hx3 ?_)
                    rintro b3 f3 cs3 rfl hq3
                    refine WO_one rfl (One_load_row (d := 60) (t := 5) (x := (.tmp 59)) (.int .u8 (x3.toNat : Int)) (by kernel_rfl) rfl (show evL _ _ = some (.pointer (some ⟨b3, f3, none⟩)) from (by kernel_rfl)) st hq3 (by kernel_rfl) ?_)
                    refine WO_seg 3 [(63, .bool ((x3.toNat : Int) == 0))] (by kernel_rfl) (by kernel_rfl) ?_
                    obtain rfl := Option.some.inj hr
                    exact WO_env _ (by kernel_rfl) (K _ _ ⟨m2, rfl, hm, st, r1⟩)
                  · rw [if_neg (not_true hc)] at hr
                    refine WO_fact (t := 56) (b := false) (decide (o2 > p1)) (by kernel_rfl) hc ?_
                    refine WO_seg 7 [(63, .bool false)] (by kernel_rfl) (by kernel_rfl) ?_
                    obtain rfl := Option.some.inj hr
                    exact WO_env _ (by kernel_rfl) (K _ _ ⟨m2, rfl, hm, st, r1⟩)
              · rw [if_neg (not_true hc)] at hr
                refine WO_fact (t := 44) (b := false) ((IntKind.wrap .i64 (o2 - p1)) == 9) (by kernel_rfl) hc ?_
                refine WO_seg 12 [(52, .bool false), (56, .bool (decide (o2 > p1)))] (by kernel_rfl) (by kernel_rfl) ?_
                rcases bcases (decide (o2 > p1)) with hc | hc
                · rw [if_pos hc] at hr
                  refine WO_fact (t := 56) (b := true) (decide (o2 > p1)) (by kernel_rfl) hc ?_
                  refine WO_seg 2 [(57, .slice a1 (List.length p0) c1), (58, .int .i64 o2)] (by kernel_rfl) (by kernel_rfl) ?_
                  replace hr := bindS hr
                  obtain ⟨x4, hx4, hr⟩ := hr
                  refine WO_one rfl (One_index (d := 59) (t := 50) (e := 5) (x := (.tmp 57)) (y := (.tmp 58)) cU8 (by kernel_rfl) rfl (show evL _ _ = some (.slice a1 (List.length p0) c1) from (by kernel_rfl)) (show evL _ _ = some (.int .i64 o2) from (by kernel_rfl)) (by kernel_rfl) r1 hx4 ?_)
                  rintro b4 f4 cs4 rfl hq4
                  refine WO_one rfl (One_load_row (d := 60) (t := 5) (x := (.tmp 59)) (.int .u8 (x4.toNat : Int)) (by kernel_rfl) rfl (show evL _ _ = some (.pointer (some ⟨b4, f4, none⟩)) from (by kernel_rfl)) st hq4 (by kernel_rfl) ?_)
                  refine WO_seg 3 [(63, .bool ((x4.toNat : Int) == 0))] (by kernel_rfl) (by kernel_rfl) ?_
                  obtain rfl := Option.some.inj hr
                  exact WO_env _ (by kernel_rfl) (K _ _ ⟨m2, rfl, hm, st, r1⟩)
                · rw [if_neg (not_true hc)] at hr
                  refine WO_fact (t := 56) (b := false) (decide (o2 > p1)) (by kernel_rfl) hc ?_
                  refine WO_seg 7 [(63, .bool false)] (by kernel_rfl) (by kernel_rfl) ?_
                  obtain rfl := Option.some.inj hr
                  exact WO_env _ (by kernel_rfl) (K _ _ ⟨m2, rfl, hm, st, r1⟩)
      intro K0_u1
      clear hrKu1
      refine W_env _ (by kernel_rfl) (W_loop (fun k1 L' w' => ∃ (s1 : Int) (m3 : Mem), loopM (testgateref03_Uint_L1 N p0) k1 s1 = some out1 ∧ L' = [(0, .slice a1 (List.length p0) c1), (1, .int .i64 p1), (4, .int .u64 0), (7, .int .i64 s1)] ∧ m.le m3 ∧ St m3 (own) w' ∧ RepS cU8 m3 a1 c1 p0) N ⟨p1, m1, hr, rfl, hm, st, r1⟩ ?_)
      clear st hr
      rintro k1 _ w3 ⟨s1, m3, hL, rfl, hm, st, r1⟩
      rcases k1 with _ | k1
      · exact loopM_zero hL
      · obtain ⟨qu1, hr, hSu1, hBu1⟩ := loopM_succ hL
        clear hL
        unfold testgateref03_Uint_L1 at hr
        refine W_seq ?_
        refine W_seq ?_
        refine W_region ?_
        replace hr := bindS hr
        obtain ⟨o3, hr, hrK⟩ := hr
        refine WO_cut (j := 11) (fun L' w' => ∃ (m4 : Mem), L' = [(0, .slice a1 (List.length p0) c1), (1, .int .i64 p1), (4, .int .u64 0), (7, .int .i64 s1), (28, .bool o3)] ∧ m.le m4 ∧ St m4 (own) w' ∧ RepS cU8 m4 a1 c1 p0) ?_ ?_
        · clear hr st
          have hr := hrK
          clear hrK
          rintro _ w4 ⟨m4, rfl, hm, st, r1⟩
          refine WO_end rfl ?_
          refine X_then ?_
          refine W_cond o3 (by kernel_rfl) ?_ ?_
          · intro hc
            rw [if_pos hc] at hr
            refine W_skip ?_
            refine X_then ?_
            refine W_block ?_
            refine W_region ?_
            refine WO_seg 3 [(7, .int .i64 (IntKind.wrap .i64 (s1 + 1)))] (by kernel_rfl) (by kernel_rfl) ?_
            refine WO_end rfl ?_
            refine X_block ?_
            obtain rfl := Option.some.inj hr
            have hL := hSu1 _ rfl
            exact X_env _ (by kernel_rfl) (X_round k1 (Nat.lt_succ_self _) ⟨IntKind.wrap .i64 (s1 + 1), m4, hL, rfl, hm, st, r1⟩)
          · intro hc
            rw [if_neg (not_true hc)] at hr
            refine W_exit ?_
            refine X_then_exit ?_
            obtain rfl := Option.some.inj hr
            have ho := hBu1 _ rfl
            refine X_then_exit ?_
            exact X_env _ (by kernel_rfl) (K0_u1 _ _ ⟨s1, m4, ho, rfl, hm, st, r1⟩)
        · intro K
          clear hrK
          refine WO_seg 5 [(22, .bool (decide (s1 < (List.length p0 : Int))))] (by kernel_rfl) (by kernel_rfl) ?_
          rcases bcases (decide (s1 < (List.length p0 : Int))) with hc | hc
          · rw [if_pos hc] at hr
            refine WO_fact (t := 22) (b := true) (decide (s1 < (List.length p0 : Int))) (by kernel_rfl) hc ?_
            refine WO_seg 2 [(23, .slice a1 (List.length p0) c1), (24, .int .i64 s1)] (by kernel_rfl) (by kernel_rfl) ?_
            replace hr := bindS hr
            obtain ⟨x1, hx1, hr⟩ := hr
            refine WO_one rfl (One_index (d := 25) (t := 50) (e := 5) (x := (.tmp 23)) (y := (.tmp 24)) cU8 (by kernel_rfl) rfl (show evL _ _ = some (.slice a1 (List.length p0) c1) from (by kernel_rfl)) (show evL _ _ = some (.int .i64 s1) from (by kernel_rfl)) (by kernel_rfl) r1 hx1 ?_)
            rintro b1 f1 cs1 rfl hq1
            refine WO_one rfl (One_load_row (d := 26) (t := 5) (x := (.tmp 25)) (.int .u8 (x1.toNat : Int)) (by kernel_rfl) rfl (show evL _ _ = some (.pointer (some ⟨b1, f1, none⟩)) from (by kernel_rfl)) st hq1 (by kernel_rfl) ?_)
            refine WO_seg 2 [(28, .bool (decide ((x1.toNat : Int) ≥ 128)))] (by kernel_rfl) (by kernel_rfl) ?_
            obtain rfl := Option.some.inj hr
            exact WO_env _ (by kernel_rfl) (K _ _ ⟨m3, rfl, hm, st, r1⟩)
          · rw [if_neg (not_true hc)] at hr
            refine WO_fact (t := 22) (b := false) (decide (s1 < (List.length p0 : Int))) (by kernel_rfl) hc ?_
            refine WO_seg 6 [(28, .bool false)] (by kernel_rfl) (by kernel_rfl) ?_
            obtain rfl := Option.some.inj hr
            exact WO_env _ (by kernel_rfl) (K _ _ ⟨m3, rfl, hm, st, r1⟩)
  · intro K
    clear hrK
    refine WO_seg 3 [(11, .bool (decide (p1 < 0)))] (by kernel_rfl) (by kernel_rfl) ?_
    rcases bcases (decide (p1 < 0)) with hc | hc
    · rw [if_pos hc] at hr
      refine WO_fact (t := 11) (b := true) (decide (p1 < 0)) (by kernel_rfl) hc ?_
      refine WO_seg 5 [(16, .bool true)] (by kernel_rfl) (by kernel_rfl) ?_
      obtain rfl := Option.some.inj hr
      exact WO_env _ (by kernel_rfl) (K _ _ ⟨m, rfl, hm, st, r1⟩)
    · rw [if_neg (not_true hc)] at hr
      refine WO_fact (t := 11) (b := false) (decide (p1 < 0)) (by kernel_rfl) hc ?_
      refine WO_seg 5 [(16, .bool (decide (p1 > (List.length p0 : Int))))] (by kernel_rfl) (by kernel_rfl) ?_
      obtain rfl := Option.some.inj hr
      exact WO_env _ (by kernel_rfl) (K _ _ ⟨m, rfl, hm, st, r1⟩)

def testgateref03_Next (N : Nat) (p0 : List UInt8) (p1 : Int) : Option ((Int × List UInt8) × Int × Int) :=
  (if (decide (p1 < 0)) = true then (some true) else (some (decide (p1 > (List.length p0 : Int)))) : Option (Bool)).bind fun o1 => if o1 = true then (some ((0, ([] : List (UInt8))), 0, 3)) else (if (p1 == (List.length p0 : Int)) = true then (some ((0, ([] : List (UInt8))), 0, 7)) else ((idx p0 p1).bind fun x1 => if ((x1.toNat : Int) != 247) = true then (some ((0, ([] : List (UInt8))), 0, 6)) else (if ((IntKind.wrap .i64 (p1 + 1)) == (List.length p0 : Int)) = true then (some ((0, ([] : List (UInt8))), 0, 7)) else ((idx p0 (IntKind.wrap .i64 (p1 + 1))).bind fun x2 => if ((x2.toNat : Int) == 0) = true then (some ((0, ([] : List (UInt8))), 0, 6)) else ((testgateref03_Uint N p0 (IntKind.wrap .i64 (p1 + 2))).bind fun y1 => if (y1.2.2 != 0) = true then (some ((0, ([] : List (UInt8))), 0, y1.2.2)) else (if (decide (y1.1 > 2097152)) = true then (some ((0, ([] : List (UInt8))), 0, 2)) else (if (decide ((IntKind.wrap .i64 ((IntKind.wrap .i64 y1.1) + 4)) > (IntKind.wrap .i64 ((List.length p0 : Int) - y1.2.1)))) = true then (some ((0, ([] : List (UInt8))), 0, 7)) else ((subS p0 (IntKind.wrap .i64 (p1 + 1)) (IntKind.wrap .i64 (y1.2.1 + (IntKind.wrap .i64 y1.1)))).bind fun l1 => (testgateref03_Checksum N l1).bind fun y2 => ((idx p0 (IntKind.wrap .i64 (y1.2.1 + (IntKind.wrap .i64 y1.1)))).bind fun x3 => if ((x3.toNat : Int) != (IntKind.wrap .u8 y2)) = true then (some true) else ((idx p0 (IntKind.wrap .i64 ((IntKind.wrap .i64 (y1.2.1 + (IntKind.wrap .i64 y1.1))) + 1))).bind fun x4 => if ((x4.toNat : Int) != (IntKind.wrap .u8 (Int.fdiv y2 (2 ^ 8)))) = true then (some true) else ((idx p0 (IntKind.wrap .i64 ((IntKind.wrap .i64 (y1.2.1 + (IntKind.wrap .i64 y1.1))) + 2))).bind fun x5 => if ((x5.toNat : Int) != (IntKind.wrap .u8 (Int.fdiv y2 (2 ^ 16)))) = true then (some true) else ((idx p0 (IntKind.wrap .i64 ((IntKind.wrap .i64 (y1.2.1 + (IntKind.wrap .i64 y1.1))) + 3))).bind fun x6 => some ((x6.toNat : Int) != (IntKind.wrap .u8 (Int.fdiv y2 (2 ^ 24))))))) : Option (Bool)).bind fun o2 => if o2 = true then (some ((0, ([] : List (UInt8))), 0, 8)) else ((idx p0 (IntKind.wrap .i64 (p1 + 1))).bind fun x7 => (subS p0 y1.2.1 (IntKind.wrap .i64 (y1.2.1 + (IntKind.wrap .i64 y1.1)))).bind fun l2 => (appendS 1 ([] : List (UInt8)) l2).bind fun l3 => some ((IntKind.wrap .i64 (x7.toNat : Int), l3), IntKind.wrap .i64 ((IntKind.wrap .i64 (y1.2.1 + (IntKind.wrap .i64 y1.1))) + 4), 0))))))))))

set_option maxHeartbeats 4000000 in
set_option maxRecDepth 100000 in
theorem testgateref03_Next_ok {N : Nat} {m : Mem} {own : List Piece} {w : World} {p0 : List UInt8} {p1 : Int} {a1 : Option Addr} {c1 : Nat} {r : (Int × List UInt8) × Int × Int} (st : St m (own) w) (r1 : RepS cU8 m a1 c1 p0) (hr : testgateref03_Next N p0 p1 = some r) : Calls Go.Proofs.Try.prog 37 #[.slice a1 (List.length p0) c1, .int .i64 p1] w fun e w' => ∃ (ra1 : Option Addr) (rc1 : Nat) (m' : Mem), e = .returned (.tuple #[.agg #[.int .i64 r.1.1, .slice ra1 (List.length r.1.2) rc1], .int .i64 r.2.1, .int .i64 r.2.2]) ∧ m.le m' ∧ St m' (.room ra1 (List.length r.1.2) rc1 5 1 :: own) w' ∧ RepS cU8 m' ra1 rc1 r.1.2 := by
  unfold testgateref03_Next at hr
  have hm := m.le_refl
  refine W_calls Go.Proofs.Try.func37 rfl Go.Proofs.Try.ntmps37 [(0, .slice a1 (List.length p0) c1), (1, .int .i64 p1)] (by kernel_rfl) rfl ?_
  refine W_seq ?_
  refine W_region ?_
  refine WO_one rfl (One_alloc (d := 4) (e := 54) (.agg #[.int .i64 0, .slice none 0 0]) (by kernel_rfl) rfl (by kernel_rfl) st ?_)
  clear st
  intro b1 w1 st
  refine WO_seg 2 [] (by kernel_rfl) (by kernel_rfl) ?_
  refine WO_end rfl ?_
  refine X_then ?_
  refine W_seq ?_
  refine W_seq ?_
  refine W_region ?_
  replace hr := bindS hr
  obtain ⟨o1, hr, hrK⟩ := hr
  refine WO_cut (j := 8) (fun L' w' => ∃ (m1 : Mem), L' = [(0, .slice a1 (List.length p0) c1), (1, .int .i64 p1), (4, .pointer (some ⟨b1, 0, none⟩)), (18, .bool o1)] ∧ m.le m1 ∧ St m1 (.blk b1 (.cells #[.int .i64 0, .slice none (List.length ([] : List (UInt8))) 0] 54 (0, 0)) :: own) w' ∧ RepS cU8 m1 a1 c1 p0) ?_ ?_
  · clear hr st
    have hr := hrK
    clear hrK
    rintro _ w2 ⟨m1, rfl, hm, st, r1⟩
    refine WO_end rfl ?_
    refine X_then ?_
    refine W_cond o1 (by kernel_rfl) ?_ ?_
    · intro hc
      rw [if_pos hc] at hr
      refine W_seq ?_
      refine W_region ?_
      refine WO_one rfl (One_load_own (d := 19) (t := 54) (x := (.tmp 4)) (.agg #[.int .i64 0, .slice none (List.length ([] : List (UInt8))) 0]) (by kernel_rfl) rfl (show evL _ _ = some (.pointer (some ⟨b1, 0, none⟩)) from (by kernel_rfl)) st.head (by kernel_rfl) ?_)
      refine WO_one rfl (One_store (t := 54) (x := (.tmp 4)) (y := (.tmp 19)) (v := .agg #[.int .i64 0, .slice none (List.length ([] : List (UInt8))) 0]) (c' := #[.int .i64 0, .slice none (List.length ([] : List (UInt8))) 0]) (by kernel_rfl) (show evL _ _ = some (.pointer (some ⟨b1, 0, none⟩)) from (by kernel_rfl)) (show evL _ _ = some (.agg #[.int .i64 0, .slice none (List.length ([] : List (UInt8))) 0]) from (by kernel_rfl)) st (by kernel_rfl) (by kernel_rfl) ?_)
      clear st
      intro w3 st
      refine WO_seg 2 [(5, .int .i64 0), (6, .int .i64 3)] (by kernel_rfl) (by kernel_rfl) ?_
      refine WO_end rfl ?_
      refine X_then ?_
      refine W_ret ?_
      refine X_then_ret ?_
      obtain rfl := Option.some.inj hr
      refine X_ret [.cell 4 54, .tmp 5, .tmp 6] [.agg #[.int .i64 0, .slice none (List.length ([] : List (UInt8))) 0], .int .i64 0, .int .i64 3] rfl (ResAll.cons (ResAt.blk (v := .agg #[.int .i64 0, .slice none (List.length ([] : List (UInt8))) 0]) (o := 0) (by kernel_rfl) st.head (by kernel_rfl)) (ResAll.cons (ResAt.tmp (by kernel_rfl)) (ResAll.cons (ResAt.tmp (by kernel_rfl)) ResAll.nil))) ?_
      have st := st.nilroom 5 1
      have st := st.front1
      have st := st.tail
      exact ⟨none, 0, m1, rfl, hm, st, (RepS.nil _ _)⟩
    · intro hc
      rw [if_neg (not_true hc)] at hr
      refine W_skip ?_
      refine X_then ?_
      refine W_seq ?_
      refine W_seq ?_
      refine W_region ?_
      refine WO_seg 4 [(23, .bool (p1 == (List.length p0 : Int)))] (by kernel_rfl) (by kernel_rfl) ?_
      refine WO_end rfl ?_
      refine X_then ?_
      refine W_cond (p1 == (List.length p0 : Int)) (by kernel_rfl) ?_ ?_
      · intro hc
        rw [if_pos hc] at hr
        refine W_seq ?_
        refine W_region ?_
        refine WO_one rfl (One_load_own (d := 24) (t := 54) (x := (.tmp 4)) (.agg #[.int .i64 0, .slice none (List.length ([] : List (UInt8))) 0]) (by kernel_rfl) rfl (show evL _ _ = some (.pointer (some ⟨b1, 0, none⟩)) from (by kernel_rfl)) st.head (by kernel_rfl) ?_)
        refine WO_one rfl (One_store (t := 54) (x := (.tmp 4)) (y := (.tmp 24)) (v := .agg #[.int .i64 0, .slice none (List.length ([] : List (UInt8))) 0]) (c' := #[.int .i64 0, .slice none (List.length ([] : List (UInt8))) 0]) (by kernel_rfl) (show evL _ _ = some (.pointer (some ⟨b1, 0, none⟩)) from (by kernel_rfl)) (show evL _ _ = some (.agg #[.int .i64 0, .slice none (List.length ([] : List (UInt8))) 0]) from (by kernel_rfl)) st (by kernel_rfl) (by kernel_rfl) ?_)
        clear st
        intro w4 st
        refine WO_seg 2 [(5, .int .i64 0), (6, .int .i64 7)] (by kernel_rfl) (by kernel_rfl) ?_
        refine WO_end rfl ?_
        refine X_then ?_
        refine W_ret ?_
        refine X_then_ret ?_
        obtain rfl := Option.some.inj hr
        refine X_ret [.cell 4 54, .tmp 5, .tmp 6] [.agg #[.int .i64 0, .slice none (List.length ([] : List (UInt8))) 0], .int .i64 0, .int .i64 7] rfl (ResAll.cons (ResAt.blk (v := .agg #[.int .i64 0, .slice none (List.length ([] : List (UInt8))) 0]) (o := 0) (by kernel_rfl) st.head (by kernel_rfl)) (ResAll.cons (ResAt.tmp (by kernel_rfl)) (ResAll.cons (ResAt.tmp (by kernel_rfl)) ResAll.nil))) ?_
        have st := st.nilroom 5 1
        have st := st.front1
        have st := st.tail
        exact ⟨none, 0, m1, rfl, hm, st, (RepS.nil _ _)⟩
      · intro hc
        rw [if_neg (not_true hc)] at hr
        refine W_skip ?_
        refine X_then ?_
        refine W_seq ?_
        refine W_seq ?_
        refine W_region ?_
        refine WO_seg 2 [(25, .slice a1 (List.length p0) c1), (26, .int .i64 p1)] (by kernel_rfl) (by kernel_rfl) ?_
        replace hr := bindS hr
        obtain ⟨x1, hx1, hr⟩ := hr
        refine WO_one rfl (One_index (d := 27) (t := 50) (e := 5) (x := (.tmp 25)) (y := (.tmp 26)) cU8 (by kernel_rfl) rfl (show evL _ _ = some (.slice a1 (List.length p0) c1) from (by kernel_rfl)) (show evL _ _ = some (.int .i64 p1) from (by kernel_rfl)) (by kernel_rfl) r1 hx1 ?_)
        rintro b2 f1 cs1 rfl hq1
        refine WO_one rfl (One_load_row (d := 28) (t := 5) (x := (.tmp 27)) (.int .u8 (x1.toNat : Int)) (by kernel_rfl) rfl (show evL _ _ = some (.pointer (some ⟨b2, f1, none⟩)) from (by kernel_rfl)) st hq1 (by kernel_rfl) ?_)
        refine WO_seg 1 [(29, .bool ((x1.toNat : Int) != 247))] (by kernel_rfl) (by kernel_rfl) ?_
        refine WO_end rfl ?_
        refine X_then ?_
        refine W_cond ((x1.toNat : Int) != 247) (by kernel_rfl) ?_ ?_
        · intro hc
          rw [if_pos hc] at hr
          refine W_seq ?_
          refine W_region ?_
          refine WO_one rfl (One_load_own (d := 30) (t := 54) (x := (.tmp 4)) (.agg #[.int .i64 0, .slice none (List.length ([] : List (UInt8))) 0]) (by kernel_rfl) rfl (show evL _ _ = some (.pointer (some ⟨b1, 0, none⟩)) from (by kernel_rfl)) st.head (by kernel_rfl) ?_)
          refine WO_one rfl (One_store (t := 54) (x := (.tmp 4)) (y := (.tmp 30)) (v := .agg #[.int .i64 0, .slice none (List.length ([] : List (UInt8))) 0]) (c' := #[.int .i64 0, .slice none (List.length ([] : List (UInt8))) 0]) (by kernel_rfl) (show evL _ _ = some (.pointer (some ⟨b1, 0, none⟩)) from (by kernel_rfl)) (show evL _ _ = some (.agg #[.int .i64 0, .slice none (List.length ([] : List (UInt8))) 0]) from (by kernel_rfl)) st (by kernel_rfl) (by kernel_rfl) ?_)
          clear st
          intro w5 st
          refine WO_seg 2 [(5, .int .i64 0), (6, .int .i64 6)] (by kernel_rfl) (by kernel_rfl) ?_
          refine WO_end rfl ?_
          refine X_then ?_
          refine W_ret ?_
          refine X_then_ret ?_
          obtain rfl := Option.some.inj hr
          refine X_ret [.cell 4 54, .tmp 5, .tmp 6] [.agg #[.int .i64 0, .slice none (List.length ([] : List (UInt8))) 0], .int .i64 0, .int .i64 6] rfl (ResAll.cons (ResAt.blk (v := .agg #[.int .i64 0, .slice none (List.length ([] : List (UInt8))) 0]) (o := 0) (by kernel_rfl) st.head (by kernel_rfl)) (ResAll.cons (ResAt.tmp (by kernel_rfl)) (ResAll.cons (ResAt.tmp (by kernel_rfl)) ResAll.nil))) ?_
          have st := st.nilroom 5 1
          have st := st.front1
          have st := st.tail
          exact ⟨none, 0, m1, rfl, hm, st, (RepS.nil _ _)⟩
        · intro hc
          rw [if_neg (not_true hc)] at hr
          refine W_skip ?_
          refine X_then ?_
          refine W_seq ?_
          refine W_seq ?_
          refine W_region ?_
          refine WO_seg 5 [(35, .bool ((IntKind.wrap .i64 (p1 + 1)) == (List.length p0 : Int)))] (by kernel_rfl) (by kernel_rfl) ?_
          refine WO_end rfl ?_
          refine X_then ?_
          refine W_cond ((IntKind.wrap .i64 (p1 + 1)) == (List.length p0 : Int)) (by kernel_rfl) ?_ ?_
          · intro hc
            rw [if_pos hc] at hr
            refine W_seq ?_
            refine W_region ?_
            refine WO_one rfl (One_load_own (d := 36) (t := 54) (x := (.tmp 4)) (.agg #[.int .i64 0, .slice none (List.length ([] : List (UInt8))) 0]) (by kernel_rfl) rfl (show evL _ _ = some (.pointer (some ⟨b1, 0, none⟩)) from (by kernel_rfl)) st.head (by kernel_rfl) ?_)
            refine WO_one rfl (One_store (t := 54) (x := (.tmp 4)) (y := (.tmp 36)) (v := .agg #[.int .i64 0, .slice none (List.length ([] : List (UInt8))) 0]) (c' := #[.int .i64 0, .slice none (List.length ([] : List (UInt8))) 0]) (by kernel_rfl) (show evL _ _ = some (.pointer (some ⟨b1, 0, none⟩)) from (by kernel_rfl)) (show evL _ _ = some (.agg #[.int .i64 0, .slice none (List.length ([] : List (UInt8))) 0]) from (by kernel_rfl)) st (by kernel_rfl) (by kernel_rfl) ?_)
            clear st
            intro w6 st
            refine WO_seg 2 [(5, .int .i64 0), (6, .int .i64 7)] (by kernel_rfl) (by kernel_rfl) ?_
            refine WO_end rfl ?_
            refine X_then ?_
            refine W_ret ?_
            refine X_then_ret ?_
            obtain rfl := Option.some.inj hr
            refine X_ret [.cell 4 54, .tmp 5, .tmp 6] [.agg #[.int .i64 0, .slice none (List.length ([] : List (UInt8))) 0], .int .i64 0, .int .i64 7] rfl (ResAll.cons (ResAt.blk (v := .agg #[.int .i64 0, .slice none (List.length ([] : List (UInt8))) 0]) (o := 0) (by kernel_rfl) st.head (by kernel_rfl)) (ResAll.cons (ResAt.tmp (by kernel_rfl)) (ResAll.cons (ResAt.tmp (by kernel_rfl)) ResAll.nil))) ?_
            have st := st.nilroom 5 1
            have st := st.front1
            have st := st.tail
            exact ⟨none, 0, m1, rfl, hm, st, (RepS.nil _ _)⟩
          · intro hc
            rw [if_neg (not_true hc)] at hr
            refine W_skip ?_
            refine X_then ?_
            refine W_seq ?_
            refine W_seq ?_
            refine W_region ?_
            refine WO_seg 3 [(37, .slice a1 (List.length p0) c1), (39, .int .i64 (IntKind.wrap .i64 (p1 + 1)))] (by kernel_rfl) (by kernel_rfl) ?_
            replace hr := bindS hr
            obtain ⟨x2, hx2, hr⟩ := hr
            refine WO_one rfl (One_index (d := 40) (t := 50) (e := 5) (x := (.tmp 37)) (y := (.tmp 39)) cU8 (by kernel_rfl) rfl (show evL _ _ = some (.slice a1 (List.length p0) c1) from (by kernel_rfl)) (show evL _ _ = some (.int .i64 (IntKind.wrap .i64 (p1 + 1))) from (by kernel_rfl)) (by kernel_rfl) r1 hx2 ?_)
            rintro b3 f2 cs2 rfl hq2
            refine WO_one rfl (One_load_row (d := 41) (t := 5) (x := (.tmp 40)) (.int .u8 (x2.toNat : Int)) (by kernel_rfl) rfl (show evL _ _ = some (.pointer (some ⟨b3, f2, none⟩)) from (by kernel_rfl)) st hq2 (by kernel_rfl) ?_)
            refine WO_seg 1 [(42, .bool ((x2.toNat : Int) == 0))] (by kernel_rfl) (by kernel_rfl) ?_
            refine WO_end rfl ?_
            refine X_then ?_
            refine W_cond ((x2.toNat : Int) == 0) (by kernel_rfl) ?_ ?_
            · intro hc
              rw [if_pos hc] at hr
              refine W_seq ?_
              refine W_region ?_
              refine WO_one rfl (One_load_own (d := 43) (t := 54) (x := (.tmp 4)) (.agg #[.int .i64 0, .slice none (List.length ([] : List (UInt8))) 0]) (by kernel_rfl) rfl (show evL _ _ = some (.pointer (some ⟨b1, 0, none⟩)) from (by kernel_rfl)) st.head (by kernel_rfl) ?_)
              refine WO_one rfl (One_store (t := 54) (x := (.tmp 4)) (y := (.tmp 43)) (v := .agg #[.int .i64 0, .slice none (List.length ([] : List (UInt8))) 0]) (c' := #[.int .i64 0, .slice none (List.length ([] : List (UInt8))) 0]) (by kernel_rfl) (show evL _ _ = some (.pointer (some ⟨b1, 0, none⟩)) from (by kernel_rfl)) (show evL _ _ = some (.agg #[.int .i64 0, .slice none (List.length ([] : List (UInt8))) 0]) from (by kernel_rfl)) st (by kernel_rfl) (by kernel_rfl) ?_)
              clear st
              intro w7 st
              refine WO_seg 2 [(5, .int .i64 0), (6, .int .i64 6)] (by kernel_rfl) (by kernel_rfl) ?_
              refine WO_end rfl ?_
              refine X_then ?_
              refine W_ret ?_
              refine X_then_ret ?_
              obtain rfl := Option.some.inj hr
              refine X_ret [.cell 4 54, .tmp 5, .tmp 6] [.agg #[.int .i64 0, .slice none (List.length ([] : List (UInt8))) 0], .int .i64 0, .int .i64 6] rfl (ResAll.cons (ResAt.blk (v := .agg #[.int .i64 0, .slice none (List.length ([] : List (UInt8))) 0]) (o := 0) (by kernel_rfl) st.head (by kernel_rfl)) (ResAll.cons (ResAt.tmp (by kernel_rfl)) (ResAll.cons (ResAt.tmp (by kernel_rfl)) ResAll.nil))) ?_
              have st := st.nilroom 5 1
              have st := st.front1
              have st := st.tail
              exact ⟨none, 0, m1, rfl, hm, st, (RepS.nil _ _)⟩
            · intro hc
              rw [if_neg (not_true hc)] at hr
              refine W_skip ?_
              refine X_then ?_
              refine W_seq ?_
              refine W_region ?_
              refine WO_seg 3 [(45, .slice a1 (List.length p0) c1), (47, .int .i64 (IntKind.wrap .i64 (p1 + 2)))] (by kernel_rfl) (by kernel_rfl) ?_
              replace hr := bindS hr
              obtain ⟨y1, hx3, hr⟩ := hr
              refine WO_one rfl (One_fn 48 50 #[.slice a1 (List.length p0) c1, .int .i64 (IntKind.wrap .i64 (p1 + 2))] (by kernel_rfl) rfl ?_)
              refine (testgateref03_Uint_ok st r1 hx3).mono ?_
              clear st
              rintro _ w8 ⟨m2, rfl, hle1, st⟩
              refine ⟨_, rfl, ?_⟩
              have hm := Mem.le_trans hm hle1
              have r1 := r1.mono hle1
              refine WO_seg 7 [(7, .int .u64 y1.1), (8, .int .i64 y1.2.1), (6, .int .i64 y1.2.2)] (by kernel_rfl) (by kernel_rfl) ?_
              refine WO_end rfl ?_
              refine X_then ?_
              refine W_seq ?_
              refine W_seq ?_
              refine W_region ?_
              refine WO_seg 2 [(53, .bool (y1.2.2 != 0))] (by kernel_rfl) (by kernel_rfl) ?_
              refine WO_end rfl ?_
              refine X_then ?_
              refine W_cond (y1.2.2 != 0) (by kernel_rfl) ?_ ?_
              · intro hc
                rw [if_pos hc] at hr
                refine W_seq ?_
                refine W_region ?_
                refine WO_one rfl (One_load_own (d := 54) (t := 54) (x := (.tmp 4)) (.agg #[.int .i64 0, .slice none (List.length ([] : List (UInt8))) 0]) (by kernel_rfl) rfl (show evL _ _ = some (.pointer (some ⟨b1, 0, none⟩)) from (by kernel_rfl)) st.head (by kernel_rfl) ?_)
                refine WO_seg 1 [(55, .int .i64 y1.2.2)] (by kernel_rfl) (by kernel_rfl) ?_
                refine WO_one rfl (One_store (t := 54) (x := (.tmp 4)) (y := (.tmp 54)) (v := .agg #[.int .i64 0, .slice none (List.length ([] : List (UInt8))) 0]) (c' := #[.int .i64 0, .slice none (List.length ([] : List (UInt8))) 0]) (by kernel_rfl) (show evL _ _ = some (.pointer (some ⟨b1, 0, none⟩)) from (by kernel_rfl)) (show evL _ _ = some (.agg #[.int .i64 0, .slice none (List.length ([] : List (UInt8))) 0]) from (by kernel_rfl)) st (by kernel_rfl) (by kernel_rfl) ?_)
                clear st
                intro w9 st
                refine WO_seg 2 [(5, .int .i64 0), (6, .int .i64 y1.2.2)] (by kernel_rfl) (by kernel_rfl) ?_
                refine WO_end rfl ?_
                refine X_then ?_
                refine W_ret ?_
                refine X_then_ret ?_
                obtain rfl := Option.some.inj hr
                refine X_ret [.cell 4 54, .tmp 5, .tmp 6] [.agg #[.int .i64 0, .slice none (List.length ([] : List (UInt8))) 0], .int .i64 0, .int .i64 y1.2.2] rfl (ResAll.cons (ResAt.blk (v := .agg #[.int .i64 0, .slice none (List.length ([] : List (UInt8))) 0]) (o := 0) (by kernel_rfl) st.head (by kernel_rfl)) (ResAll.cons (ResAt.tmp (by kernel_rfl)) (ResAll.cons (ResAt.tmp (by kernel_rfl)) ResAll.nil))) ?_
                have st := st.nilroom 5 1
                have st := st.front1
                have st := st.tail
                exact ⟨none, 0, m2, rfl, hm, st, (RepS.nil _ _)⟩
              · intro hc
                rw [if_neg (not_true hc)] at hr
                refine W_skip ?_
                refine X_then ?_
                refine W_seq ?_
                refine W_seq ?_
                refine W_region ?_
                refine WO_seg 2 [(57, .bool (decide (y1.1 > 2097152)))] (by kernel_rfl) (by kernel_rfl) ?_
                refine WO_end rfl ?_
                refine X_then ?_
                refine W_cond (decide (y1.1 > 2097152)) (by kernel_rfl) ?_ ?_
                · intro hc
                  rw [if_pos hc] at hr
                  refine W_seq ?_
                  refine W_region ?_
                  refine WO_one rfl (One_load_own (d := 58) (t := 54) (x := (.tmp 4)) (.agg #[.int .i64 0, .slice none (List.length ([] : List (UInt8))) 0]) (by kernel_rfl) rfl (show evL _ _ = some (.pointer (some ⟨b1, 0, none⟩)) from (by kernel_rfl)) st.head (by kernel_rfl) ?_)
                  refine WO_one rfl (One_store (t := 54) (x := (.tmp 4)) (y := (.tmp 58)) (v := .agg #[.int .i64 0, .slice none (List.length ([] : List (UInt8))) 0]) (c' := #[.int .i64 0, .slice none (List.length ([] : List (UInt8))) 0]) (by kernel_rfl) (show evL _ _ = some (.pointer (some ⟨b1, 0, none⟩)) from (by kernel_rfl)) (show evL _ _ = some (.agg #[.int .i64 0, .slice none (List.length ([] : List (UInt8))) 0]) from (by kernel_rfl)) st (by kernel_rfl) (by kernel_rfl) ?_)
                  clear st
                  intro w10 st
                  refine WO_seg 2 [(5, .int .i64 0), (6, .int .i64 2)] (by kernel_rfl) (by kernel_rfl) ?_
                  refine WO_end rfl ?_
                  refine X_then ?_
                  refine W_ret ?_
                  refine X_then_ret ?_
                  obtain rfl := Option.some.inj hr
                  refine X_ret [.cell 4 54, .tmp 5, .tmp 6] [.agg #[.int .i64 0, .slice none (List.length ([] : List (UInt8))) 0], .int .i64 0, .int .i64 2] rfl (ResAll.cons (ResAt.blk (v := .agg #[.int .i64 0, .slice none (List.length ([] : List (UInt8))) 0]) (o := 0) (by kernel_rfl) st.head (by kernel_rfl)) (ResAll.cons (ResAt.tmp (by kernel_rfl)) (ResAll.cons (ResAt.tmp (by kernel_rfl)) ResAll.nil))) ?_
                  have st := st.nilroom 5 1
                  have st := st.front1
                  have st := st.tail
                  exact ⟨none, 0, m2, rfl, hm, st, (RepS.nil _ _)⟩
                · intro hc
                  rw [if_neg (not_true hc)] at hr
                  refine W_skip ?_
                  refine X_then ?_
                  refine W_seq ?_
                  refine W_seq ?_
                  refine W_region ?_
                  refine WO_seg 8 [(66, .bool (decide ((IntKind.wrap .i64 ((IntKind.wrap .i64 y1.1) + 4)) > (IntKind.wrap .i64 ((List.length p0 : Int) - y1.2.1)))))] (by kernel_rfl) (by kernel_rfl) ?_
                  refine WO_end rfl ?_
                  refine X_then ?_
                  refine W_cond (decide ((IntKind.wrap .i64 ((IntKind.wrap .i64 y1.1) + 4)) > (IntKind.wrap .i64 ((List.length p0 : Int) - y1.2.1)))) (by kernel_rfl) ?_ ?_
                  · intro hc
                    rw [if_pos hc] at hr
                    refine W_seq ?_
                    refine W_region ?_
                    refine WO_one rfl (One_load_own (d := 67) (t := 54) (x := (.tmp 4)) (.agg #[.int .i64 0, .slice none (List.length ([] : List (UInt8))) 0]) (by kernel_rfl) rfl (show evL _ _ = some (.pointer (some ⟨b1, 0, none⟩)) from (by kernel_rfl)) st.head (by kernel_rfl) ?_)
                    refine WO_one rfl (One_store (t := 54) (x := (.tmp 4)) (y := (.tmp 67)) (v := .agg #[.int .i64 0, .slice none (List.length ([] : List (UInt8))) 0]) (c' := #[.int .i64 0, .slice none (List.length ([] : List (UInt8))) 0]) (by kernel_rfl) (show evL _ _ = some (.pointer (some ⟨b1, 0, none⟩)) from (by kernel_rfl)) (show evL _ _ = some (.agg #[.int .i64 0, .slice none (List.length ([] : List (UInt8))) 0]) from (by kernel_rfl)) st (by kernel_rfl) (by kernel_rfl) ?_)
                    clear st
                    intro w11 st
                    refine WO_seg 2 [(5, .int .i64 0), (6, .int .i64 7)] (by kernel_rfl) (by kernel_rfl) ?_
                    refine WO_end rfl ?_
                    refine X_then ?_
                    refine W_ret ?_
                    refine X_then_ret ?_
                    obtain rfl := Option.some.inj hr
                    refine X_ret [.cell 4 54, .tmp 5, .tmp 6] [.agg #[.int .i64 0, .slice none (List.length ([] : List (UInt8))) 0], .int .i64 0, .int .i64 7] rfl (ResAll.cons (ResAt.blk (v := .agg #[.int .i64 0, .slice none (List.length ([] : List (UInt8))) 0]) (o := 0) (by kernel_rfl) st.head (by kernel_rfl)) (ResAll.cons (ResAt.tmp (by kernel_rfl)) (ResAll.cons (ResAt.tmp (by kernel_rfl)) ResAll.nil))) ?_
                    have st := st.nilroom 5 1
                    have st := st.front1
                    have st := st.tail
                    exact ⟨none, 0, m2, rfl, hm, st, (RepS.nil _ _)⟩
                  · intro hc
                    rw [if_neg (not_true hc)] at hr
                    refine W_skip ?_
                    refine X_then ?_
                    refine W_seq ?_
                    refine W_region ?_
                    refine WO_seg 5 [(9, .int .i64 (IntKind.wrap .i64 (y1.2.1 + (IntKind.wrap .i64 y1.1))))] (by kernel_rfl) (by kernel_rfl) ?_
                    refine WO_end rfl ?_
                    refine X_then ?_
                    refine W_seq ?_
                    refine W_region ?_
                    refine WO_seg 4 [(72, .slice a1 (List.length p0) c1), (74, .int .i64 (IntKind.wrap .i64 (p1 + 1))), (75, .int .i64 (IntKind.wrap .i64 (y1.2.1 + (IntKind.wrap .i64 y1.1))))] (by kernel_rfl) (by kernel_rfl) ?_
                    replace hr := bindS hr
                    obtain ⟨l1, hx4, hr⟩ := hr
                    refine WO_one rfl (One_slice (d := 76) (t := 50) (e := 5) (x := (.tmp 72)) (lo := (some (.tmp 74))) (hi := (some (.tmp 75))) cU8 (by kernel_rfl) rfl (show evL _ _ = some (.slice a1 (List.length p0) c1) from (by kernel_rfl)) (by kernel_rfl) r1 (.inr ⟨_, _, rfl, (show evL _ _ = some (.int .i64 (IntKind.wrap .i64 (p1 + 1))) from (by kernel_rfl))⟩) (.inr ⟨_, _, rfl, (show evL _ _ = some (.int .i64 (IntKind.wrap .i64 (y1.2.1 + (IntKind.wrap .i64 y1.1)))) from (by kernel_rfl))⟩) hx4 ?_)
                    intro a2 c2 r2
                    replace hr := bindS hr
                    obtain ⟨y2, hx5, hr⟩ := hr
                    refine WO_one rfl (One_fn 77 35 #[.slice a2 (List.length l1) c2] (by kernel_rfl) rfl ?_)
                    refine (testgateref03_Checksum_ok st r2 hx5).mono ?_
                    clear st
                    rintro _ w12 ⟨m3, rfl, hle2, st⟩
                    refine ⟨_, rfl, ?_⟩
                    have hm := Mem.le_trans hm hle2
                    have r1 := r1.mono hle2
                    have r2 := r2.mono hle2
                    refine WO_seg 1 [(10, .int .u32 y2)] (by kernel_rfl) (by kernel_rfl) ?_
                    refine WO_end rfl ?_
                    refine X_then ?_
                    refine W_seq ?_
                    refine W_seq ?_
                    refine W_region ?_
                    replace hr := bindS hr
                    obtain ⟨o2, hr, hrK⟩ := hr
                    refine WO_cut (j := 40) (fun L' w' => ∃ (m4 : Mem), L' = [(0, .slice a1 (List.length p0) c1), (1, .int .i64 p1), (4, .pointer (some ⟨b1, 0, none⟩)), (8, .int .i64 y1.2.1), (9, .int .i64 (IntKind.wrap .i64 (y1.2.1 + (IntKind.wrap .i64 y1.1)))), (117, .bool o2)] ∧ m.le m4 ∧ St m4 (.blk b1 (.cells #[.int .i64 0, .slice none (List.length ([] : List (UInt8))) 0] 54 (0, 0)) :: own) w' ∧ RepS cU8 m4 a1 c1 p0) ?_ ?_
                    · clear hr st
                      have hr := hrK
                      clear hrK
                      rintro _ w13 ⟨m4, rfl, hm, st, r1⟩
                      refine WO_end rfl ?_
                      refine X_then ?_
                      refine W_cond o2 (by kernel_rfl) ?_ ?_
                      · intro hc
                        rw [if_pos hc] at hr
                        refine W_seq ?_
                        refine W_region ?_
                        refine WO_one rfl (One_load_own (d := 118) (t := 54) (x := (.tmp 4)) (.agg #[.int .i64 0, .slice none (List.length ([] : List (UInt8))) 0]) (by kernel_rfl) rfl (show evL _ _ = some (.pointer (some ⟨b1, 0, none⟩)) from (by kernel_rfl)) st.head (by kernel_rfl) ?_)
                        refine WO_one rfl (One_store (t := 54) (x := (.tmp 4)) (y := (.tmp 118)) (v := .agg #[.int .i64 0, .slice none (List.length ([] : List (UInt8))) 0]) (c' := #[.int .i64 0, .slice none (List.length ([] : List (UInt8))) 0]) (by kernel_rfl) (show evL _ _ = some (.pointer (some ⟨b1, 0, none⟩)) from (by kernel_rfl)) (show evL _ _ = some (.agg #[.int .i64 0, .slice none (List.length ([] : List (UInt8))) 0]) from (by kernel_rfl)) st (by kernel_rfl) (by kernel_rfl) ?_)
                        clear st
                        intro w14 st
                        refine WO_seg 2 [(5, .int .i64 0), (6, .int .i64 8)] (by kernel_rfl) (by kernel_rfl) ?_
                        refine WO_end rfl ?_
                        refine X_then ?_
                        refine W_ret ?_
                        refine X_then_ret ?_
                        obtain rfl := Option.some.inj hr
                        refine X_ret [.cell 4 54, .tmp 5, .tmp 6] [.agg #[.int .i64 0, .slice none (List.length ([] : List (UInt8))) 0], .int .i64 0, .int .i64 8] rfl (ResAll.cons (ResAt.blk (v := .agg #[.int .i64 0, .slice none (List.length ([] : List (UInt8))) 0]) (o := 0) (by kernel_rfl) st.head (by kernel_rfl)) (ResAll.cons (ResAt.tmp (by kernel_rfl)) (ResAll.cons (ResAt.tmp (by kernel_rfl)) ResAll.nil))) ?_
                        have st := st.nilroom 5 1
                        have st := st.front1
                        have st := st.tail
                        exact ⟨none, 0, m4, rfl, hm, st, (RepS.nil _ _)⟩
                      · intro hc
                        rw [if_neg (not_true hc)] at hr
                        refine W_skip ?_
                        refine X_then ?_
                        refine W_seq ?_
                        refine W_draw [(17, fun w' => Inv m4 w' ∧ True)] (by kernel_rfl) st ?_
                        clear st
                        intro w15 _ st
                        have hmS := m4.le_refl
                        refine ⟨⟨.inr ⟨Inv.anti st.inv hmS, trivial⟩, trivial⟩, ?_⟩
                        refine WA_pure 0 119 (.slice a1 (List.length p0) c1) (by kernel_rfl) rfl (by kernel_rfl) (.head _) (QP_then QP_body) ?_
                        refine WA_pure 1 120 (.int .i64 p1) (by kernel_rfl) rfl (by kernel_rfl) (.head _) (QP_then QP_body) ?_
                        refine WA_pure 2 121 (.int .i64 (IntKind.wrap .i64 (p1 + 1))) (by kernel_rfl) rfl (by kernel_rfl) (.head _) (QP_then QP_body) ?_
                        replace hr := bindS hr
                        obtain ⟨x7, hx10, hr⟩ := hr
                        refine WA_index (t := 50) (e := 5) (x := (.tmp 119)) (y := (.tmp 121)) 3 122 cU8 (by kernel_rfl) rfl (by kernel_rfl) (.head _) (QP_then QP_body) (show evL _ _ = some (.slice a1 (List.length p0) c1) from (by kernel_rfl)) (show evL _ _ = some (.int .i64 (IntKind.wrap .i64 (p1 + 1))) from (by kernel_rfl)) (by kernel_rfl) r1 hx10 ?_
                        rintro b8 f7 cs7 rfl hq7
                        refine WA_load_row (t := 5) (x := (.tmp 122)) 4 123 (.int .u8 (x7.toNat : Int)) (by kernel_rfl) rfl (by kernel_rfl) (.head _) (QP_then QP_body) (fun _ h => h.1) (show evL _ _ = some (.pointer (some ⟨b8, f7, none⟩)) from (by kernel_rfl)) hq7 (by kernel_rfl) ?_
                        refine WA_pure 5 124 (.int .i64 (IntKind.wrap .i64 (x7.toNat : Int))) (by kernel_rfl) rfl (by kernel_rfl) (.head _) (QP_then QP_body) ?_
                        refine WA_pure 6 125 (.slice a1 (List.length p0) c1) (by kernel_rfl) rfl (by kernel_rfl) (.head _) (QP_then QP_body) ?_
                        refine WA_pure 7 126 (.int .i64 y1.2.1) (by kernel_rfl) rfl (by kernel_rfl) (.head _) (QP_then QP_body) ?_
                        refine WA_pure 8 127 (.int .i64 (IntKind.wrap .i64 (y1.2.1 + (IntKind.wrap .i64 y1.1)))) (by kernel_rfl) rfl (by kernel_rfl) (.head _) (QP_then QP_body) ?_
                        replace hr := bindS hr
                        obtain ⟨l2, hx11, hr⟩ := hr
                        refine WA_slice (t := 50) (e := 5) (x := (.tmp 125)) (lo := (some (.tmp 126))) (hi := (some (.tmp 127))) 9 128 cU8 (by kernel_rfl) rfl (by kernel_rfl) (.head _) (QP_then QP_body) (show evL _ _ = some (.slice a1 (List.length p0) c1) from (by kernel_rfl)) (by kernel_rfl) r1 (.inr ⟨_, _, rfl, (show evL _ _ = some (.int .i64 y1.2.1) from (by kernel_rfl))⟩) (.inr ⟨_, _, rfl, (show evL _ _ = some (.int .i64 (IntKind.wrap .i64 (y1.2.1 + (IntKind.wrap .i64 y1.1)))) from (by kernel_rfl))⟩) hx11 ?_
                        intro a3 c3 r3
                        refine WA_pure 12 131 (.int .i64 (IntKind.wrap .i64 (y1.2.1 + (IntKind.wrap .i64 y1.1)))) (by kernel_rfl) rfl (by kernel_rfl) (.head _) (QP_then QP_body) ?_
                        refine WA_pure 13 132 (.int .i64 (IntKind.wrap .i64 ((IntKind.wrap .i64 (y1.2.1 + (IntKind.wrap .i64 y1.1))) + 4))) (by kernel_rfl) rfl (by kernel_rfl) (.head _) (QP_then QP_body) ?_
                        have st := st.nilroom 5 1
                        replace hr := bindS hr
                        obtain ⟨l3, hx12, hr⟩ := hr
                        refine WA_one 10 (by kernel_rfl) (One_append (d := 129) (t := 50) (u := 50) (e := 5) (by_ := 1) (x := (.const (.slice none 0 0))) (y := (.tmp 128)) cU8 (by kernel_rfl) rfl (show evL _ _ = some (.slice none (List.length ([] : List (UInt8))) 0) from (by kernel_rfl)) (show evL _ _ = some (.slice a3 (List.length l2) c3) from (by kernel_rfl)) st (by kernel_rfl) (.inl (by kernel_rfl)) (RepS.nil _ _) r3.src hx12 ?_)
                        clear st
                        intro a4 c4 m5 w16 hle3 st r4
                        have hm := Mem.le_trans hm hle3
                        have r1 := r1.mono hle3
                        have hq7 := hq7.mono hle3
                        have r3 := r3.mono hle3
                        have hmS := Mem.le_trans hmS hle3
                        refine ⟨⟨.inr ⟨Inv.anti st.inv hmS, trivial⟩, trivial⟩, ?_⟩
                        refine WA_pure 11 130 (.agg #[.int .i64 (IntKind.wrap .i64 (x7.toNat : Int)), .slice a4 (List.length l3) c4]) (by kernel_rfl) rfl (by kernel_rfl) (.head _) (QP_then QP_body) ?_
                        have st := st.front1
                        refine WA_one 14 (by kernel_rfl) (One_store (t := 54) (x := (.tmp 4)) (y := (.tmp 130)) (v := .agg #[.int .i64 (IntKind.wrap .i64 (x7.toNat : Int)), .slice a4 (List.length l3) c4]) (c' := #[.int .i64 (IntKind.wrap .i64 (x7.toNat : Int)), .slice a4 (List.length l3) c4]) (by kernel_rfl) (show evL _ _ = some (.pointer (some ⟨b1, 0, none⟩)) from (by kernel_rfl)) (show evL _ _ = some (.agg #[.int .i64 (IntKind.wrap .i64 (x7.toNat : Int)), .slice a4 (List.length l3) c4]) from (by kernel_rfl)) st (by kernel_rfl) (by kernel_rfl) ?_)
                        clear st
                        intro w17 st
                        refine ⟨⟨.inr ⟨Inv.anti st.inv hmS, trivial⟩, trivial⟩, ?_⟩
                        refine WA_pure 15 5 (.int .i64 (IntKind.wrap .i64 ((IntKind.wrap .i64 (y1.2.1 + (IntKind.wrap .i64 y1.1))) + 4))) (by kernel_rfl) rfl (by kernel_rfl) (.head _) (QP_then QP_body) ?_
                        refine WA_pure 16 6 (.int .i64 0) (by kernel_rfl) rfl (by kernel_rfl) (.head _) (QP_then QP_body) ?_
                        refine WA_done (by kernel_rfl) ?_
                        refine X_then ?_
                        refine W_ret ?_
                        obtain rfl := Option.some.inj hr
                        refine X_ret [.cell 4 54, .tmp 5, .tmp 6] [.agg #[.int .i64 (IntKind.wrap .i64 (x7.toNat : Int)), .slice a4 (List.length l3) c4], .int .i64 (IntKind.wrap .i64 ((IntKind.wrap .i64 (y1.2.1 + (IntKind.wrap .i64 y1.1))) + 4)), .int .i64 0] rfl (ResAll.cons (ResAt.blk (v := .agg #[.int .i64 (IntKind.wrap .i64 (x7.toNat : Int)), .slice a4 (List.length l3) c4]) (o := 0) (by kernel_rfl) st.head (by kernel_rfl)) (ResAll.cons (ResAt.tmp (by kernel_rfl)) (ResAll.cons (ResAt.tmp (by kernel_rfl)) ResAll.nil))) ?_
                        have st := st.tail
                        exact ⟨a4, c4, m5, rfl, hm, st, r4⟩
                    · intro K
                      clear hrK
                      refine WO_seg 2 [(78, .slice a1 (List.length p0) c1), (79, .int .i64 (IntKind.wrap .i64 (y1.2.1 + (IntKind.wrap .i64 y1.1))))] (by kernel_rfl) (by kernel_rfl) ?_
                      replace hr := bindS hr
                      obtain ⟨x3, hx6, hr⟩ := hr
                      refine WO_one rfl (One_index (d := 80) (t := 50) (e := 5) (x := (.tmp 78)) (y := (.tmp 79)) cU8 (by kernel_rfl) rfl (show evL _ _ = some (.slice a1 (List.length p0) c1) from (by kernel_rfl)) (show evL _ _ = some (.int .i64 (IntKind.wrap .i64 (y1.2.1 + (IntKind.wrap .i64 y1.1)))) from (by kernel_rfl)) (by kernel_rfl) r1 hx6 ?_)
                      rintro b4 f3 cs3 rfl hq3
                      refine WO_one rfl (One_load_row (d := 81) (t := 5) (x := (.tmp 80)) (.int .u8 (x3.toNat : Int)) (by kernel_rfl) rfl (show evL _ _ = some (.pointer (some ⟨b4, f3, none⟩)) from (by kernel_rfl)) st hq3 (by kernel_rfl) ?_)
                      refine WO_seg 4 [(85, .bool ((x3.toNat : Int) != (IntKind.wrap .u8 y2)))] (by kernel_rfl) (by kernel_rfl) ?_
                      rcases bcases ((x3.toNat : Int) != (IntKind.wrap .u8 y2)) with hc | hc
                      · rw [if_pos hc] at hr
                        refine WO_fact (t := 85) (b := true) ((x3.toNat : Int) != (IntKind.wrap .u8 y2)) (by kernel_rfl) hc ?_
                        refine WO_seg 32 [(117, .bool true)] (by kernel_rfl) (by kernel_rfl) ?_
                        obtain rfl := Option.some.inj hr
                        exact WO_env _ (by kernel_rfl) (K _ _ ⟨m3, rfl, hm, st, r1⟩)
                      · rw [if_neg (not_true hc)] at hr
                        refine WO_fact (t := 85) (b := false) ((x3.toNat : Int) != (IntKind.wrap .u8 y2)) (by kernel_rfl) hc ?_
                        refine WO_seg 3 [(86, .slice a1 (List.length p0) c1), (88, .int .i64 (IntKind.wrap .i64 ((IntKind.wrap .i64 (y1.2.1 + (IntKind.wrap .i64 y1.1))) + 1)))] (by kernel_rfl) (by kernel_rfl) ?_
                        replace hr := bindS hr
                        obtain ⟨x4, hx7, hr⟩ := hr
                        refine WO_one rfl (One_index (d := 89) (t := 50) (e := 5) (x := (.tmp 86)) (y := (.tmp 88)) cU8 (by kernel_rfl) rfl (show evL _ _ = some (.slice a1 (List.length p0) c1) from (by kernel_rfl)) (show evL _ _ = some (.int .i64 (IntKind.wrap .i64 ((IntKind.wrap .i64 (y1.2.1 + (IntKind.wrap .i64 y1.1))) + 1))) from (by kernel_rfl)) (by kernel_rfl) r1 hx7 ?_)
                        rintro b5 f4 cs4 rfl hq4
                        refine WO_one rfl (One_load_row (d := 90) (t := 5) (x := (.tmp 89)) (.int .u8 (x4.toNat : Int)) (by kernel_rfl) rfl (show evL _ _ = some (.pointer (some ⟨b5, f4, none⟩)) from (by kernel_rfl)) st hq4 (by kernel_rfl) ?_)
                        refine WO_seg 6 [(96, .bool ((x4.toNat : Int) != (IntKind.wrap .u8 (Int.fdiv y2 (2 ^ 8)))))] (by kernel_rfl) (by kernel_rfl) ?_
                        rcases bcases ((x4.toNat : Int) != (IntKind.wrap .u8 (Int.fdiv y2 (2 ^ 8)))) with hc | hc
                        · rw [if_pos hc] at hr
                          refine WO_fact (t := 96) (b := true) ((x4.toNat : Int) != (IntKind.wrap .u8 (Int.fdiv y2 (2 ^ 8)))) (by kernel_rfl) hc ?_
                          refine WO_seg 21 [(117, .bool true)] (by kernel_rfl) (by kernel_rfl) ?_
                          obtain rfl := Option.some.inj hr
                          exact WO_env _ (by kernel_rfl) (K _ _ ⟨m3, rfl, hm, st, r1⟩)
                        · rw [if_neg (not_true hc)] at hr
                          refine WO_fact (t := 96) (b := false) ((x4.toNat : Int) != (IntKind.wrap .u8 (Int.fdiv y2 (2 ^ 8)))) (by kernel_rfl) hc ?_
                          refine WO_seg 3 [(97, .slice a1 (List.length p0) c1), (99, .int .i64 (IntKind.wrap .i64 ((IntKind.wrap .i64 (y1.2.1 + (IntKind.wrap .i64 y1.1))) + 2)))] (by kernel_rfl) (by kernel_rfl) ?_
                          replace hr := bindS hr
                          obtain ⟨x5, hx8, hr⟩ := hr
                          refine WO_one rfl (One_index (d := 100) (t := 50) (e := 5) (x := (.tmp 97)) (y := (.tmp 99)) cU8 (by kernel_rfl) rfl (show evL _ _ = some (.slice a1 (List.length p0) c1) from (by kernel_rfl)) (show evL _ _ = some (.int .i64 (IntKind.wrap .i64 ((IntKind.wrap .i64 (y1.2.1 + (IntKind.wrap .i64 y1.1))) + 2))) from (by kernel_rfl)) (by kernel_rfl) r1 hx8 ?_)
                          rintro b6 f5 cs5 rfl hq5
                          refine WO_one rfl (One_load_row (d := 101) (t := 5) (x := (.tmp 100)) (.int .u8 (x5.toNat : Int)) (by kernel_rfl) rfl (show evL _ _ = some (.pointer (some ⟨b6, f5, none⟩)) from (by kernel_rfl)) st hq5 (by kernel_rfl) ?_)
                          refine WO_seg 6 [(107, .bool ((x5.toNat : Int) != (IntKind.wrap .u8 (Int.fdiv y2 (2 ^ 16)))))] (by kernel_rfl) (by kernel_rfl) ?_
                          rcases bcases ((x5.toNat : Int) != (IntKind.wrap .u8 (Int.fdiv y2 (2 ^ 16)))) with hc | hc
                          · rw [if_pos hc] at hr
                            refine WO_fact (t := 107) (b := true) ((x5.toNat : Int) != (IntKind.wrap .u8 (Int.fdiv y2 (2 ^ 16)))) (by kernel_rfl) hc ?_
                            refine WO_seg 10 [(117, .bool true)] (by kernel_rfl) (by kernel_rfl) ?_
                            obtain rfl := Option.some.inj hr
                            exact WO_env _ (by kernel_rfl) (K _ _ ⟨m3, rfl, hm, st, r1⟩)
                          · rw [if_neg (not_true hc)] at hr
                            refine WO_fact (t := 107) (b := false) ((x5.toNat : Int) != (IntKind.wrap .u8 (Int.fdiv y2 (2 ^ 16)))) (by kernel_rfl) hc ?_
                            refine WO_seg 3 [(108, .slice a1 (List.length p0) c1), (110, .int .i64 (IntKind.wrap .i64 ((IntKind.wrap .i64 (y1.2.1 + (IntKind.wrap .i64 y1.1))) + 3)))] (by kernel_rfl) (by kernel_rfl) ?_
                            replace hr := bindS hr
                            obtain ⟨x6, hx9, hr⟩ := hr
                            refine WO_one rfl (One_index (d := 111) (t := 50) (e := 5) (x := (.tmp 108)) (y := (.tmp 110)) cU8 (by kernel_rfl) rfl (show evL _ _ = some (.slice a1 (List.length p0) c1) from (by kernel_rfl)) (show evL _ _ = some (.int .i64 (IntKind.wrap .i64 ((IntKind.wrap .i64 (y1.2.1 + (IntKind.wrap .i64 y1.1))) + 3))) from (by kernel_rfl)) (by kernel_rfl) r1 hx9 ?_)
                            rintro b7 f6 cs6 rfl hq6
                            refine WO_one rfl (One_load_row (d := 112) (t := 5) (x := (.tmp 111)) (.int .u8 (x6.toNat : Int)) (by kernel_rfl) rfl (show evL _ _ = some (.pointer (some ⟨b7, f6, none⟩)) from (by kernel_rfl)) st hq6 (by kernel_rfl) ?_)
                            refine WO_seg 5 [(117, .bool ((x6.toNat : Int) != (IntKind.wrap .u8 (Int.fdiv y2 (2 ^ 24)))))] (by kernel_rfl) (by kernel_rfl) ?_
                            obtain rfl := Option.some.inj hr
                            exact WO_env _ (by kernel_rfl) (K _ _ ⟨m3, rfl, hm, st, r1⟩)
  · intro K
    clear hrK
    refine WO_seg 3 [(13, .bool (decide (p1 < 0)))] (by kernel_rfl) (by kernel_rfl) ?_
    rcases bcases (decide (p1 < 0)) with hc | hc
    · rw [if_pos hc] at hr
      refine WO_fact (t := 13) (b := true) (decide (p1 < 0)) (by kernel_rfl) hc ?_
      refine WO_seg 5 [(18, .bool true)] (by kernel_rfl) (by kernel_rfl) ?_
      obtain rfl := Option.some.inj hr
      exact WO_env _ (by kernel_rfl) (K _ _ ⟨m, rfl, hm, st, r1⟩)
    · rw [if_neg (not_true hc)] at hr
      refine WO_fact (t := 13) (b := false) (decide (p1 < 0)) (by kernel_rfl) hc ?_
      refine WO_seg 5 [(18, .bool (decide (p1 > (List.length p0 : Int))))] (by kernel_rfl) (by kernel_rfl) ?_
      obtain rfl := Option.some.inj hr
      exact WO_env _ (by kernel_rfl) (K _ _ ⟨m, rfl, hm, st, r1⟩)

def testgateref03_Frames_L1 (N : Nat) (p0 : List UInt8) (s1 : (List (Int × List UInt8)) × Int) : Option (((List (Int × List UInt8)) × Int) ⊕ (((List (Int × List UInt8)) × Int) ⊕ ((List (Int × List UInt8)) × Int × Int))) :=
  if (decide (s1.2 < (List.length p0 : Int))) = true then ((testgateref03_Next N p0 s1.2).bind fun y1 => if (y1.2.2 != 0) = true then (some (.inr (.inr ((s1.1, s1.2, y1.2.2))))) else ((appendS 32 s1.1 ([(y1.1.1, y1.1.2)])).bind fun l1 => some (.inl (l1, y1.2.1)))) else (some (.inr (.inl (s1.1, s1.2))))

def testgateref03_Frames (N : Nat) (p0 : List UInt8) : Option ((List (Int × List UInt8)) × Int × Int) :=
  (loopM (testgateref03_Frames_L1 N p0) N (([] : List (Int × List UInt8)), 0)).bind fun out1 => (match out1 with | .inl o1 => some (o1.1, o1.2, 0) | .inr (z) => some z)

set_option maxHeartbeats 4000000 in
set_option maxRecDepth 100000 in
theorem testgateref03_Frames_ok {N : Nat} {m : Mem} {own : List Piece} {w : World} {p0 : List UInt8} {a1 : Option Addr} {c1 : Nat} {r : (List (Int × List UInt8)) × Int × Int} (st : St m (own) w) (r1 : RepS cU8 m a1 c1 p0) (hr : testgateref03_Frames N p0 = some r) : Calls Go.Proofs.Try.prog 40 #[.slice a1 (List.length p0) c1] w fun e w' => ∃ (ra1 : Option Addr) (rc1 : Nat) (m' : Mem), e = .returned (.tuple #[.slice ra1 (List.length r.1) rc1, .int .i64 r.2.1, .int .i64 r.2.2]) ∧ m.le m' ∧ St m' (.room ra1 (List.length r.1) rc1 54 2 :: own) w' ∧ RepS (cPair (cInt .i64) (cSl cU8)) m' ra1 rc1 r.1 := by
  unfold testgateref03_Frames at hr
  have hm := m.le_refl
  refine W_calls Go.Proofs.Try.func40 rfl Go.Proofs.Try.ntmps40 [(0, .slice a1 (List.length p0) c1)] (by kernel_rfl) rfl ?_
  refine W_seq ?_
  refine W_region ?_
  refine WO_seg 3 [(2, .slice none (List.length ([] : List (Int × List UInt8))) 0), (3, .int .i64 0)] (by kernel_rfl) (by kernel_rfl) ?_
  refine WO_end rfl ?_
  refine X_then ?_
  refine W_seq ?_
  refine W_block ?_
  replace hr := bindS hr
  obtain ⟨out1, hr, hrKu1⟩ := hr
  refine W_cut (.exit 0) (fun L' w' => ∃ (o1 : (List (Int × List UInt8)) × Int) (a2 : Option Addr) (c2 : Nat) (m1 : Mem), (.inl o1) = out1 ∧ L' = [(2, .slice a2 (List.length o1.1) c2), (3, .int .i64 o1.2)] ∧ m.le m1 ∧ St m1 (.room a2 (List.length o1.1) c2 54 2 :: own) w' ∧ RepS (cPair (cInt .i64) (cSl cU8)) m1 a2 c2 o1.1) ?_ ?_
  · clear hr st
    rintro _ w1 ⟨o1, a2, c2, m1, rfl, rfl, hm, st, r2⟩
    have hr := hrKu1
    clear hrKu1
    dsimp only at hr
    refine X_block_eq ?_
    refine X_then ?_
    refine W_seq ?_
    refine W_region ?_
    refine WO_seg 5 [(2, .slice a2 (List.length o1.1) c2), (3, .int .i64 o1.2), (4, .int .i64 0)] (by kernel_rfl) (by kernel_rfl) ?_
    refine WO_end rfl ?_
    refine X_then ?_
    refine W_ret ?_
    obtain rfl := Option.some.inj hr
    refine X_ret [.tmp 2, .tmp 3, .tmp 4] [.slice a2 (List.length o1.1) c2, .int .i64 o1.2, .int .i64 0] rfl (ResAll.cons (ResAt.tmp (by kernel_rfl)) (ResAll.cons (ResAt.tmp (by kernel_rfl)) (ResAll.cons (ResAt.tmp (by kernel_rfl)) ResAll.nil))) ?_
    exact ⟨a2, c2, m1, rfl, hm, st, r2⟩
  intro K0_u1
  have st := st.nilroom 54 2
  refine W_env _ (by kernel_rfl) (W_loop (fun k1 L' w' => ∃ (s1 : (List (Int × List UInt8)) × Int) (a3 : Option Addr) (c3 : Nat) (m2 : Mem), loopM (testgateref03_Frames_L1 N p0) k1 s1 = some out1 ∧ L' = [(0, .slice a1 (List.length p0) c1), (2, .slice a3 (List.length s1.1) c3), (3, .int .i64 s1.2)] ∧ m.le m2 ∧ St m2 (.room a3 (List.length s1.1) c3 54 2 :: own) w' ∧ RepS cU8 m2 a1 c1 p0 ∧ RepS (cPair (cInt .i64) (cSl cU8)) m2 a3 c3 s1.1) N ⟨(([] : List (Int × List UInt8)), 0), none, 0, m, hr, rfl, hm, st, r1, (RepS.nil _ _)⟩ ?_)
  clear st hr
  rintro k1 _ w2 ⟨s1, a3, c3, m2, hL, rfl, hm, st, r1, r3⟩
  rcases k1 with _ | k1
  · exact loopM_zero hL
  · obtain ⟨qu1, hr, hSu1, hBu1⟩ := loopM_succ hL
    clear hL
    unfold testgateref03_Frames_L1 at hr
    refine W_seq ?_
    refine W_seq ?_
    refine W_region ?_
    refine WO_seg 4 [(11, .bool (decide (s1.2 < (List.length p0 : Int))))] (by kernel_rfl) (by kernel_rfl) ?_
    refine WO_end rfl ?_
    refine X_then ?_
    refine W_cond (decide (s1.2 < (List.length p0 : Int))) (by kernel_rfl) ?_ ?_
    · intro hc
      rw [if_pos hc] at hr
      refine W_skip ?_
      refine X_then ?_
      refine W_block ?_
      refine W_seq ?_
      refine W_region ?_
      refine WO_seg 2 [(13, .slice a1 (List.length p0) c1), (14, .int .i64 s1.2)] (by kernel_rfl) (by kernel_rfl) ?_
      replace hr := bindS hr
      obtain ⟨y1, hx1, hr⟩ := hr
      refine WO_one rfl (One_fn 15 37 #[.slice a1 (List.length p0) c1, .int .i64 s1.2] (by kernel_rfl) rfl ?_)
      refine (testgateref03_Next_ok st r1 hx1).mono ?_
      clear st
      rintro _ w3 ⟨a4, c4, m3, rfl, hle1, st, r4⟩
      refine ⟨_, rfl, ?_⟩
      have hm := Mem.le_trans hm hle1
      have r1 := r1.mono hle1
      have r3 := r3.mono hle1
      refine WO_seg 4 [(16, .agg #[.int .i64 y1.1.1, .slice a4 (List.length y1.1.2) c4]), (17, .int .i64 y1.2.1), (18, .int .i64 y1.2.2)] (by kernel_rfl) (by kernel_rfl) ?_
      refine WO_one rfl (One_alloc (d := 5) (e := 54) (.agg #[.int .i64 0, .slice none 0 0]) (by kernel_rfl) rfl (by kernel_rfl) st ?_)
      clear st
      intro b1 w4 st
      refine WO_one rfl (One_store (t := 54) (x := (.tmp 5)) (y := (.tmp 16)) (v := .agg #[.int .i64 y1.1.1, .slice a4 (List.length y1.1.2) c4]) (c' := #[.int .i64 y1.1.1, .slice a4 (List.length y1.1.2) c4]) (by kernel_rfl) (show evL _ _ = some (.pointer (some ⟨b1, 0, none⟩)) from (by kernel_rfl)) (show evL _ _ = some (.agg #[.int .i64 y1.1.1, .slice a4 (List.length y1.1.2) c4]) from (by kernel_rfl)) st (by kernel_rfl) (by kernel_rfl) ?_)
      clear st
      intro w5 st
      refine WO_seg 2 [(6, .int .i64 y1.2.1), (7, .int .i64 y1.2.2)] (by kernel_rfl) (by kernel_rfl) ?_
      refine WO_end rfl ?_
      refine X_then ?_
      refine W_seq ?_
      refine W_seq ?_
      refine W_region ?_
      refine WO_seg 2 [(20, .bool (y1.2.2 != 0))] (by kernel_rfl) (by kernel_rfl) ?_
      refine WO_end rfl ?_
      refine X_then ?_
      refine W_cond (y1.2.2 != 0) (by kernel_rfl) ?_ ?_
      · intro hc
        rw [if_pos hc] at hr
        refine W_seq ?_
        refine W_region ?_
        refine WO_seg 6 [(2, .slice a3 (List.length s1.1) c3), (3, .int .i64 s1.2), (4, .int .i64 y1.2.2)] (by kernel_rfl) (by kernel_rfl) ?_
        refine WO_end rfl ?_
        refine X_then ?_
        refine W_ret ?_
        refine X_then_ret ?_
        refine X_block_ret ?_
        obtain rfl := Option.some.inj hr
        have ho := hBu1 _ rfl
        subst ho
        have hr := hrKu1
        dsimp only at hr
        refine X_then_ret ?_
        refine X_block_ret ?_
        refine X_then_ret ?_
        obtain rfl := Option.some.inj hr
        refine X_ret [.tmp 2, .tmp 3, .tmp 4] [.slice a3 (List.length s1.1) c3, .int .i64 s1.2, .int .i64 y1.2.2] rfl (ResAll.cons (ResAt.tmp (by kernel_rfl)) (ResAll.cons (ResAt.tmp (by kernel_rfl)) (ResAll.cons (ResAt.tmp (by kernel_rfl)) ResAll.nil))) ?_
        have st := st.tail
        have st := st.tail
        exact ⟨a3, c3, m3, rfl, hm, st, r3⟩
      · intro hc
        rw [if_neg (not_true hc)] at hr
        refine W_skip ?_
        refine X_then ?_
        refine W_seq ?_
        refine W_region ?_
        refine WO_seg 1 [(24, .slice a3 (List.length s1.1) c3)] (by kernel_rfl) (by kernel_rfl) ?_
        refine WO_one rfl (One_load_own (d := 25) (t := 54) (x := (.tmp 5)) (.agg #[.int .i64 y1.1.1, .slice a4 (List.length y1.1.2) c4]) (by kernel_rfl) rfl (show evL _ _ = some (.pointer (some ⟨b1, 0, none⟩)) from (by kernel_rfl)) st.head (by kernel_rfl) ?_)
        refine WO_one rfl (One_buildSlice (d := 26) (t := 62) (e := 54) (len := 1) (parts := #[(0, (.tmp 25))]) (cPair (cInt .i64) (cSl cU8)) (xs := [(y1.1.1, y1.1.2)]) [.int .i64 y1.1.1, .slice a4 (List.length y1.1.2) c4] (by kernel_rfl) rfl (fun _ => buildCells_run (by kernel_rfl) _) rfl rfl st ⟨[.int .i64 y1.1.1, .slice a4 (List.length y1.1.2) c4], _, rfl, ⟨_, _, rfl, rfl, (cSl_mk r4)⟩, rfl⟩ ?_)
        clear st
        intro b2 m4 w6 hle2 st r5
        have hm := Mem.le_trans hm hle2
        have r1 := r1.mono hle2
        have r3 := r3.mono hle2
        have r4 := r4.mono hle2
        have st := st.front3
        replace hr := bindS hr
        obtain ⟨l1, hx2, hr⟩ := hr
        refine WO_one rfl (One_append (d := 27) (t := 62) (u := 62) (e := 54) (by_ := 32) (x := (.tmp 24)) (y := (.tmp 26)) (cPair (cInt .i64) (cSl cU8)) (by kernel_rfl) rfl (show evL _ _ = some (.slice a3 (List.length s1.1) c3) from (by kernel_rfl)) (show evL _ _ = some (.slice (some ⟨b2, 0, none⟩) (List.length ([(y1.1.1, y1.1.2)])) 1) from (by kernel_rfl)) st (by kernel_rfl) (.inl (by kernel_rfl)) r3 r5.src hx2 ?_)
        clear st
        intro a5 c5 m5 w7 hle3 st r6
        have hm := Mem.le_trans hm hle3
        have r1 := r1.mono hle3
        have r3 := r3.mono hle3
        have r4 := r4.mono hle3
        have r5 := r5.mono hle3
        refine WO_seg 1 [(2, .slice a5 (List.length l1) c5)] (by kernel_rfl) (by kernel_rfl) ?_
        refine WO_end rfl ?_
        have st := st.front1
        have st := st.tail
        refine X_then ?_
        refine W_region ?_
        refine WO_seg 2 [(3, .int .i64 y1.2.1)] (by kernel_rfl) (by kernel_rfl) ?_
        refine WO_end rfl ?_
        refine X_block ?_
        obtain rfl := Option.some.inj hr
        have hL := hSu1 _ rfl
        have st := st.front1
        have st := st.tail
        have st := st.front1
        have st := st.tail
        exact X_env _ (by kernel_rfl) (X_round k1 (Nat.lt_succ_self _) ⟨(l1, y1.2.1), a5, c5, m5, hL, rfl, hm, st, r1, r6⟩)
    · intro hc
      rw [if_neg (not_true hc)] at hr
      refine W_exit ?_
      refine X_then_exit ?_
      obtain rfl := Option.some.inj hr
      have ho := hBu1 _ rfl
      refine X_then_exit ?_
      exact X_env _ (by kernel_rfl) (K0_u1 _ _ ⟨(s1.1, s1.2), a3, c3, m2, ho, rfl, hm, st, r3⟩)

def testgateref13_Decode_L1 (N : Nat) (y1 : (List (Int × List UInt8)) × Int × Int) (s1 : Int × List (ByteArray)) : Option ((Int × List (ByteArray)) ⊕ ((List (ByteArray)) ⊕ (List ByteArray × Int))) :=
  if (decide (s1.1 < (List.length y1.1 : Int))) = true then ((idx y1.1 s1.1).bind fun x1 => if (x1.1 != 3) = true then (some (.inr (.inr ((([] : List (ByteArray)), 6))))) else ((appendS 16 s1.2 ([strOf x1.2])).bind fun l1 => some (.inl (IntKind.wrap .i64 (s1.1 + 1), l1)))) else (some (.inr (.inl s1.2)))

def testgateref13_Decode (N : Nat) (p0 : List UInt8) : Option (List ByteArray × Int) :=
  (testgateref03_Frames N p0).bind fun y1 => if (y1.2.2 != 0) = true then (some (([] : List (ByteArray)), y1.2.2)) else ((loopM (testgateref13_Decode_L1 N y1) N (0, ([] : List (ByteArray)))).bind fun out1 => (match out1 with | .inl o1 => (testgateref13_Check N o1).bind fun y2 => if (y2 != 0) = true then (some (([] : List (ByteArray)), y2)) else (some (o1, 0)) | .inr (z) => some z))

set_option maxHeartbeats 4000000 in
set_option maxRecDepth 100000 in
theorem testgateref13_Decode_ok {N : Nat} {m : Mem} {own : List Piece} {w : World} {p0 : List UInt8} {a1 : Option Addr} {c1 : Nat} {r : List ByteArray × Int} (st : St m (own) w) (r1 : RepS cU8 m a1 c1 p0) (hr : testgateref13_Decode N p0 = some r) : Calls Go.Proofs.Try.prog 70 #[.slice a1 (List.length p0) c1] w fun e w' => ∃ (ra1 : Option Addr) (rc1 : Nat) (m' : Mem), e = .returned (.tuple #[.agg #[.slice ra1 (List.length r.1) rc1], .int .i64 r.2]) ∧ m.le m' ∧ St m' (.room ra1 (List.length r.1) rc1 9 1 :: own) w' ∧ RepS cStr m' ra1 rc1 r.1 := by
  unfold testgateref13_Decode at hr
  have hm := m.le_refl
  refine W_calls Go.Proofs.Try.func70 rfl Go.Proofs.Try.ntmps70 [(0, .slice a1 (List.length p0) c1)] (by kernel_rfl) rfl ?_
  refine W_seq ?_
  refine W_region ?_
  refine WO_one rfl (One_alloc (d := 2) (e := 24) (.agg #[.slice none 0 0]) (by kernel_rfl) rfl (by kernel_rfl) st ?_)
  clear st
  intro b1 w1 st
  refine WO_seg 1 [] (by kernel_rfl) (by kernel_rfl) ?_
  refine WO_end rfl ?_
  refine X_then ?_
  refine W_seq ?_
  refine W_region ?_
  refine WO_seg 1 [(12, .slice a1 (List.length p0) c1)] (by kernel_rfl) (by kernel_rfl) ?_
  replace hr := bindS hr
  obtain ⟨y1, hx1, hr⟩ := hr
  refine WO_one rfl (One_fn 13 40 #[.slice a1 (List.length p0) c1] (by kernel_rfl) rfl ?_)
  refine (testgateref03_Frames_ok st r1 hx1).mono ?_
  clear st
  rintro _ w2 ⟨a2, c2, m1, rfl, hle1, st, r2⟩
  refine ⟨_, rfl, ?_⟩
  have hm := Mem.le_trans hm hle1
  have r1 := r1.mono hle1
  refine WO_seg 7 [(4, .slice a2 (List.length y1.1) c2), (6, .int .i64 y1.2.2)] (by kernel_rfl) (by kernel_rfl) ?_
  refine WO_end rfl ?_
  refine X_then ?_
  refine W_seq ?_
  refine W_seq ?_
  refine W_region ?_
  refine WO_seg 2 [(18, .bool (y1.2.2 != 0))] (by kernel_rfl) (by kernel_rfl) ?_
  refine WO_end rfl ?_
  refine X_then ?_
  refine W_cond (y1.2.2 != 0) (by kernel_rfl) ?_ ?_
  · intro hc
    rw [if_pos hc] at hr
    refine W_seq ?_
    refine W_region ?_
    refine WO_seg 2 [(19, .agg #[.slice none (List.length ([] : List (ByteArray))) 0]), (20, .int .i64 y1.2.2)] (by kernel_rfl) (by kernel_rfl) ?_
    have st := st.front1
    refine WO_one rfl (One_store (t := 24) (x := (.tmp 2)) (y := (.tmp 19)) (v := .agg #[.slice none (List.length ([] : List (ByteArray))) 0]) (c' := #[.slice none (List.length ([] : List (ByteArray))) 0]) (by kernel_rfl) (show evL _ _ = some (.pointer (some ⟨b1, 0, none⟩)) from (by kernel_rfl)) (show evL _ _ = some (.agg #[.slice none (List.length ([] : List (ByteArray))) 0]) from (by kernel_rfl)) st (by kernel_rfl) (by kernel_rfl) ?_)
    clear st
    intro w3 st
    refine WO_seg 1 [(3, .int .i64 y1.2.2)] (by kernel_rfl) (by kernel_rfl) ?_
    refine WO_end rfl ?_
    have st := st.front1
    have st := st.tail
    refine X_then ?_
    refine W_ret ?_
    refine X_then_ret ?_
    obtain rfl := Option.some.inj hr
    refine X_ret [.cell 2 24, .tmp 3] [.agg #[.slice none (List.length ([] : List (ByteArray))) 0], .int .i64 y1.2.2] rfl (ResAll.cons (ResAt.blk (v := .agg #[.slice none (List.length ([] : List (ByteArray))) 0]) (o := 0) (by kernel_rfl) st.head (by kernel_rfl)) (ResAll.cons (ResAt.tmp (by kernel_rfl)) ResAll.nil)) ?_
    have st := st.nilroom 9 1
    have st := st.front1
    have st := st.tail
    exact ⟨none, 0, m1, rfl, hm, st, (RepS.nil _ _)⟩
  · intro hc
    rw [if_neg (not_true hc)] at hr
    refine W_skip ?_
    refine X_then ?_
    refine W_seq ?_
    refine W_region ?_
    refine WO_one rfl (One_alloc (d := 7) (e := 24) (.agg #[.slice none 0 0]) (by kernel_rfl) rfl (by kernel_rfl) st ?_)
    clear st
    intro b2 w4 st
    refine WO_end rfl ?_
    refine X_then ?_
    refine W_seq ?_
    refine W_seq ?_
    refine W_region ?_
    refine WO_seg 3 [(21, .slice a2 (List.length y1.1) c2), (22, .int .i64 (List.length y1.1 : Int)), (23, .int .i64 0)] (by kernel_rfl) (by kernel_rfl) ?_
    refine WO_end rfl ?_
    refine X_then ?_
    refine W_block ?_
    replace hr := bindS hr
    obtain ⟨out1, hr, hrKu1⟩ := hr
    refine W_cut (.exit 0) (fun L' w' => ∃ (o1 : List (ByteArray)) (a3 : Option Addr) (c3 : Nat) (m2 : Mem), (.inl o1) = out1 ∧ L' = [(2, .pointer (some ⟨b1, 0, none⟩)), (7, .pointer (some ⟨b2, 0, none⟩))] ∧ m.le m2 ∧ St m2 (.blk b2 (.cells #[.slice a3 (List.length o1) c3] 24 (0, 0)) :: .blk b1 (.cells #[.slice none (List.length ([] : List (ByteArray))) 0] 24 (0, 0)) :: .room a2 (List.length y1.1) c2 54 2 :: .room a3 (List.length o1) c3 9 1 :: own) w' ∧ RepS cStr m2 a3 c3 o1) ?_ ?_
    · clear hr st
      rintro _ w5 ⟨o1, a3, c3, m2, rfl, rfl, hm, st, r3⟩
      have hr := hrKu1
      clear hrKu1
      dsimp only at hr
      refine X_block_eq ?_
      refine X_then ?_
      refine W_seq ?_
      refine W_seq ?_
      refine W_region ?_
      refine WO_one rfl (One_load_own (d := 40) (t := 24) (x := (.tmp 7)) (.agg #[.slice a3 (List.length o1) c3]) (by kernel_rfl) rfl (show evL _ _ = some (.pointer (some ⟨b2, 0, none⟩)) from (by kernel_rfl)) st.head (by kernel_rfl) ?_)
      replace hr := bindS hr
      obtain ⟨y2, hx4, hr⟩ := hr
      refine WO_one rfl (One_fn 41 18 #[.agg #[.slice a3 (List.length o1) c3]] (by kernel_rfl) rfl ?_)
      refine (testgateref13_Check_ok st r3 hx4).mono ?_
      clear st
      rintro _ w13 ⟨m6, rfl, hle4, st⟩
      refine ⟨_, rfl, ?_⟩
      have hm := Mem.le_trans hm hle4
      have r3 := r3.mono hle4
      refine WO_seg 1 [(10, .int .i64 y2)] (by kernel_rfl) (by kernel_rfl) ?_
      refine WO_end rfl ?_
      have st := st.front2
      have st := st.tail
      refine X_then ?_
      refine W_seq ?_
      refine W_region ?_
      refine WO_seg 2 [(43, .bool (y2 != 0))] (by kernel_rfl) (by kernel_rfl) ?_
      refine WO_end rfl ?_
      refine X_then ?_
      refine W_cond (y2 != 0) (by kernel_rfl) ?_ ?_
      · intro hc
        rw [if_pos hc] at hr
        refine W_seq ?_
        refine W_region ?_
        refine WO_seg 2 [(44, .agg #[.slice none (List.length ([] : List (ByteArray))) 0]), (45, .int .i64 y2)] (by kernel_rfl) (by kernel_rfl) ?_
        have st := st.front1
        refine WO_one rfl (One_store (t := 24) (x := (.tmp 2)) (y := (.tmp 44)) (v := .agg #[.slice none (List.length ([] : List (ByteArray))) 0]) (c' := #[.slice none (List.length ([] : List (ByteArray))) 0]) (by kernel_rfl) (show evL _ _ = some (.pointer (some ⟨b1, 0, none⟩)) from (by kernel_rfl)) (show evL _ _ = some (.agg #[.slice none (List.length ([] : List (ByteArray))) 0]) from (by kernel_rfl)) st (by kernel_rfl) (by kernel_rfl) ?_)
        clear st
        intro w14 st
        refine WO_seg 1 [(3, .int .i64 y2)] (by kernel_rfl) (by kernel_rfl) ?_
        refine WO_end rfl ?_
        refine X_then ?_
        refine W_ret ?_
        refine X_then_ret ?_
        obtain rfl := Option.some.inj hr
        refine X_ret [.cell 2 24, .tmp 3] [.agg #[.slice none (List.length ([] : List (ByteArray))) 0], .int .i64 y2] rfl (ResAll.cons (ResAt.blk (v := .agg #[.slice none (List.length ([] : List (ByteArray))) 0]) (o := 0) (by kernel_rfl) st.head (by kernel_rfl)) (ResAll.cons (ResAt.tmp (by kernel_rfl)) ResAll.nil)) ?_
        have st := st.nilroom 9 1
        have st := st.front1
        have st := st.tail
        have st := st.front1
        have st := st.tail
        have st := st.front1
        have st := st.tail
        exact ⟨none, 0, m6, rfl, hm, st, (RepS.nil _ _)⟩
      · intro hc
        rw [if_neg (not_true hc)] at hr
        refine W_skip ?_
        refine X_then ?_
        refine W_seq ?_
        refine W_region ?_
        refine WO_one rfl (One_load_own (d := 46) (t := 24) (x := (.tmp 7)) (.agg #[.slice a3 (List.length o1) c3]) (by kernel_rfl) rfl (show evL _ _ = some (.pointer (some ⟨b2, 0, none⟩)) from (by kernel_rfl)) st.head (by kernel_rfl) ?_)
        have st := st.front1
        refine WO_one rfl (One_store (t := 24) (x := (.tmp 2)) (y := (.tmp 46)) (v := .agg #[.slice a3 (List.length o1) c3]) (c' := #[.slice a3 (List.length o1) c3]) (by kernel_rfl) (show evL _ _ = some (.pointer (some ⟨b1, 0, none⟩)) from (by kernel_rfl)) (show evL _ _ = some (.agg #[.slice a3 (List.length o1) c3]) from (by kernel_rfl)) st (by kernel_rfl) (by kernel_rfl) ?_)
        clear st
        intro w15 st
        refine WO_seg 1 [(3, .int .i64 0)] (by kernel_rfl) (by kernel_rfl) ?_
        refine WO_end rfl ?_
        refine X_then ?_
        refine W_ret ?_
        obtain rfl := Option.some.inj hr
        refine X_ret [.cell 2 24, .tmp 3] [.agg #[.slice a3 (List.length o1) c3], .int .i64 0] rfl (ResAll.cons (ResAt.blk (v := .agg #[.slice a3 (List.length o1) c3]) (o := 0) (by kernel_rfl) st.head (by kernel_rfl)) (ResAll.cons (ResAt.tmp (by kernel_rfl)) ResAll.nil)) ?_
        have st := st.tail
        have st := st.tail
        exact ⟨a3, c3, m6, rfl, hm, st, r3⟩
    intro K0_u1
    have st := st.nilroom 9 1
    have st := st.front2
    have st := st.front3
    have st := st.front3
    refine W_env _ (by kernel_rfl) (W_loop (fun k1 L' w' => ∃ (s1 : Int × List (ByteArray)) (a4 : Option Addr) (c4 : Nat) (m3 : Mem), loopM (testgateref13_Decode_L1 N y1) k1 s1 = some out1 ∧ L' = [(2, .pointer (some ⟨b1, 0, none⟩)), (7, .pointer (some ⟨b2, 0, none⟩)), (21, .slice a2 (List.length y1.1) c2), (22, .int .i64 (List.length y1.1 : Int)), (23, .int .i64 s1.1)] ∧ m.le m3 ∧ St m3 (.blk b2 (.cells #[.slice a4 (List.length s1.2) c4] 24 (0, 0)) :: .blk b1 (.cells #[.slice none (List.length ([] : List (ByteArray))) 0] 24 (0, 0)) :: .room a2 (List.length y1.1) c2 54 2 :: .room a4 (List.length s1.2) c4 9 1 :: own) w' ∧ RepS (cPair (cInt .i64) (cSl cU8)) m3 a2 c2 y1.1 ∧ RepS cStr m3 a4 c4 s1.2) N ⟨(0, ([] : List (ByteArray))), none, 0, m1, hr, rfl, hm, st, r2, (RepS.nil _ _)⟩ ?_)
    clear st hr
    rintro k1 _ w6 ⟨s1, a4, c4, m3, hL, rfl, hm, st, r2, r4⟩
    rcases k1 with _ | k1
    · exact loopM_zero hL
    · obtain ⟨qu1, hr, hSu1, hBu1⟩ := loopM_succ hL
      clear hL
      unfold testgateref13_Decode_L1 at hr
      refine W_seq ?_
      refine W_region ?_
      refine WO_seg 1 [(24, .bool (decide (s1.1 < (List.length y1.1 : Int))))] (by kernel_rfl) (by kernel_rfl) ?_
      refine WO_end rfl ?_
      refine X_then ?_
      refine W_seq ?_
      refine W_cond (decide (s1.1 < (List.length y1.1 : Int))) (by kernel_rfl) ?_ ?_
      · intro hc
        rw [if_pos hc] at hr
        refine W_skip ?_
        refine X_then ?_
        refine W_seq ?_
        refine W_block ?_
        refine W_seq ?_
        refine W_region ?_
        replace hr := bindS hr
        obtain ⟨x1, hx2, hr⟩ := hr
        refine WO_one rfl (One_index (d := 25) (t := 62) (e := 54) (x := (.tmp 21)) (y := (.tmp 23)) (cPair (cInt .i64) (cSl cU8)) (by kernel_rfl) rfl (show evL _ _ = some (.slice a2 (List.length y1.1) c2) from (by kernel_rfl)) (show evL _ _ = some (.int .i64 s1.1) from (by kernel_rfl)) (by kernel_rfl) r2 hx2 ?_)
        rintro b3 f1 cs1 ⟨_, _, rfl, rfl, ⟨a5, c5, rfl, r5⟩⟩ hq1
        refine WO_one rfl (One_load_row (d := 26) (t := 54) (x := (.tmp 25)) (.agg #[.int .i64 x1.1, .slice a5 (List.length x1.2) c5]) (by kernel_rfl) rfl (show evL _ _ = some (.pointer (some ⟨b3, f1, none⟩)) from (by kernel_rfl)) st hq1 (by kernel_rfl) ?_)
        refine WO_one rfl (One_alloc (d := 9) (e := 54) (.agg #[.int .i64 0, .slice none 0 0]) (by kernel_rfl) rfl (by kernel_rfl) st ?_)
        clear st
        intro b4 w7 st
        refine WO_one rfl (One_store (t := 54) (x := (.tmp 9)) (y := (.tmp 26)) (v := .agg #[.int .i64 x1.1, .slice a5 (List.length x1.2) c5]) (c' := #[.int .i64 x1.1, .slice a5 (List.length x1.2) c5]) (by kernel_rfl) (show evL _ _ = some (.pointer (some ⟨b4, 0, none⟩)) from (by kernel_rfl)) (show evL _ _ = some (.agg #[.int .i64 x1.1, .slice a5 (List.length x1.2) c5]) from (by kernel_rfl)) st (by kernel_rfl) (by kernel_rfl) ?_)
        clear st
        intro w8 st
        refine WO_end rfl ?_
        refine X_then ?_
        refine W_seq ?_
        refine W_seq ?_
        refine W_region ?_
        refine WO_seg 1 [(27, .pointer (some ⟨b4, 0, none⟩))] (by kernel_rfl) (by kernel_rfl) ?_
        refine WO_one rfl (One_load_own (d := 28) (t := 3) (x := (.tmp 27)) (.int .i64 x1.1) (by kernel_rfl) rfl (show evL _ _ = some (.pointer (some ⟨b4, 0, none⟩)) from (by kernel_rfl)) st.head (by kernel_rfl) ?_)
        refine WO_seg 1 [(29, .bool (x1.1 != 3))] (by kernel_rfl) (by kernel_rfl) ?_
        refine WO_end rfl ?_
        refine X_then ?_
        refine W_cond (x1.1 != 3) (by kernel_rfl) ?_ ?_
        · intro hc
          rw [if_pos hc] at hr
          refine W_seq ?_
          refine W_region ?_
          refine WO_seg 1 [(30, .agg #[.slice none (List.length ([] : List (ByteArray))) 0])] (by kernel_rfl) (by kernel_rfl) ?_
          have st := st.front2
          refine WO_one rfl (One_store (t := 24) (x := (.tmp 2)) (y := (.tmp 30)) (v := .agg #[.slice none (List.length ([] : List (ByteArray))) 0]) (c' := #[.slice none (List.length ([] : List (ByteArray))) 0]) (by kernel_rfl) (show evL _ _ = some (.pointer (some ⟨b1, 0, none⟩)) from (by kernel_rfl)) (show evL _ _ = some (.agg #[.slice none (List.length ([] : List (ByteArray))) 0]) from (by kernel_rfl)) st (by kernel_rfl) (by kernel_rfl) ?_)
          clear st
          intro w9 st
          refine WO_seg 1 [(3, .int .i64 6)] (by kernel_rfl) (by kernel_rfl) ?_
          refine WO_end rfl ?_
          have st := st.front3
          have st := st.tail
          refine X_then ?_
          refine W_ret ?_
          refine X_then_ret ?_
          refine X_block_ret ?_
          refine X_then_ret ?_
          obtain rfl := Option.some.inj hr
          have ho := hBu1 _ rfl
          subst ho
          have hr := hrKu1
          dsimp only at hr
          refine X_then_ret ?_
          refine X_block_ret ?_
          refine X_then_ret ?_
          obtain rfl := Option.some.inj hr
          refine X_ret [.cell 2 24, .tmp 3] [.agg #[.slice none (List.length ([] : List (ByteArray))) 0], .int .i64 6] rfl (ResAll.cons (ResAt.blk (v := .agg #[.slice none (List.length ([] : List (ByteArray))) 0]) (o := 0) (by kernel_rfl) st.head (by kernel_rfl)) (ResAll.cons (ResAt.tmp (by kernel_rfl)) ResAll.nil)) ?_
          have st := st.nilroom 9 1
          have st := st.front1
          have st := st.tail
          have st := st.front1
          have st := st.tail
          have st := st.front1
          have st := st.tail
          have st := st.front1
          have st := st.tail
          exact ⟨none, 0, m3, rfl, hm, st, (RepS.nil _ _)⟩
        · intro hc
          rw [if_neg (not_true hc)] at hr
          refine W_skip ?_
          refine X_then ?_
          refine W_region ?_
          refine WO_seg 1 [(31, .pointer (some ⟨b2, 0, none⟩))] (by kernel_rfl) (by kernel_rfl) ?_
          refine WO_one rfl (One_load_own (d := 32) (t := 22) (x := (.tmp 31)) (.slice a4 (List.length s1.2) c4) (by kernel_rfl) rfl (show evL _ _ = some (.pointer (some ⟨b2, 0, none⟩)) from (by kernel_rfl)) st.tail.head (by kernel_rfl) ?_)
          refine WO_seg 1 [(33, .pointer (some ⟨b4, 1, none⟩))] (by kernel_rfl) (by kernel_rfl) ?_
          refine WO_one rfl (One_load_own (d := 34) (t := 50) (x := (.tmp 33)) (.slice a5 (List.length x1.2) c5) (by kernel_rfl) rfl (show evL _ _ = some (.pointer (some ⟨b4, 1, none⟩)) from (by kernel_rfl)) st.head (by kernel_rfl) ?_)
          refine WO_one rfl (One_bytesStr (d := 35) (t1 := 50) (t2 := 9) (e := 5) (x := (.tmp 34)) (by kernel_rfl) rfl (show evL _ _ = some (.slice a5 (List.length x1.2) c5) from (by kernel_rfl)) (by kernel_rfl) (by kernel_rfl) st r5 ?_)
          refine WO_one rfl (One_buildSlice (d := 36) (t := 22) (e := 9) (len := 1) (parts := #[(0, (.tmp 35))]) cStr (xs := [strOf x1.2]) [.string (strOf x1.2)] (by kernel_rfl) rfl (fun _ => buildCells_run (by kernel_rfl) _) rfl rfl st ⟨[.string (strOf x1.2)], _, rfl, rfl, rfl⟩ ?_)
          clear st
          intro b5 m4 w10 hle2 st r6
          have hm := Mem.le_trans hm hle2
          have r2 := r2.mono hle2
          have r4 := r4.mono hle2
          have r5 := r5.mono hle2
          have st := st.front5
          replace hr := bindS hr
          obtain ⟨l1, hx3, hr⟩ := hr
          refine WO_one rfl (One_append (d := 37) (t := 22) (u := 22) (e := 9) (by_ := 16) (x := (.tmp 32)) (y := (.tmp 36)) cStr (by kernel_rfl) rfl (show evL _ _ = some (.slice a4 (List.length s1.2) c4) from (by kernel_rfl)) (show evL _ _ = some (.slice (some ⟨b5, 0, none⟩) (List.length ([strOf x1.2])) 1) from (by kernel_rfl)) st (by kernel_rfl) (.inl (by kernel_rfl)) r4 r6.src hx3 ?_)
          clear st
          intro a6 c6 m5 w11 hle3 st r7
          have hm := Mem.le_trans hm hle3
          have r2 := r2.mono hle3
          have r4 := r4.mono hle3
          have r5 := r5.mono hle3
          have r6 := r6.mono hle3
          refine WO_seg 1 [(38, .pointer (some ⟨b2, 0, none⟩))] (by kernel_rfl) (by kernel_rfl) ?_
          have st := st.front3
          refine WO_one rfl (One_store (t := 22) (x := (.tmp 38)) (y := (.tmp 37)) (v := .slice a6 (List.length l1) c6) (c' := #[.slice a6 (List.length l1) c6]) (by kernel_rfl) (show evL _ _ = some (.pointer (some ⟨b2, 0, none⟩)) from (by kernel_rfl)) (show evL _ _ = some (.slice a6 (List.length l1) c6) from (by kernel_rfl)) st (by kernel_rfl) (by kernel_rfl) ?_)
          clear st
          intro w12 st
          refine WO_end rfl ?_
          have st := st.front2
          have st := st.tail
          refine X_block ?_
          refine X_then ?_
          refine W_region ?_
          refine WO_seg 2 [(23, .int .i64 (IntKind.wrap .i64 (s1.1 + 1)))] (by kernel_rfl) (by kernel_rfl) ?_
          refine WO_end rfl ?_
          obtain rfl := Option.some.inj hr
          have hL := hSu1 _ rfl
          have st := st.front2
          have st := st.tail
          have st := st.front1
          have st := st.front3
          have st := st.front3
          have st := st.front3
          exact X_env _ (by kernel_rfl) (X_round k1 (Nat.lt_succ_self _) ⟨(IntKind.wrap .i64 (s1.1 + 1), l1), a6, c6, m5, hL, rfl, hm, st, r2, r7⟩)
      · intro hc
        rw [if_neg (not_true hc)] at hr
        refine W_exit ?_
        refine X_then_exit ?_
        obtain rfl := Option.some.inj hr
        have ho := hBu1 _ rfl
        have st := st.front3
        have st := st.front3
        have st := st.front3
        have st := st.front3
        refine X_then_exit ?_
        exact X_env _ (by kernel_rfl) (K0_u1 _ _ ⟨s1.2, a4, c4, m3, ho, rfl, hm, st, r4⟩)

def testgateref13_Same_L1 (N : Nat) (p0 : List ByteArray) (p1 : List ByteArray) (s1 : Int) : Option ((Int) ⊕ ((Unit) ⊕ (Bool))) :=
  if (decide (s1 < (List.length p0 : Int))) = true then ((idx p0 s1).bind fun x1 => (idx p1 s1).bind fun x2 => if (!(x1.toList == x2.toList)) = true then (some (.inr (.inr (false)))) else (some (.inl (IntKind.wrap .i64 (s1 + 1))))) else (some (.inr (.inl ())))

def testgateref13_Same (N : Nat) (p0 : List ByteArray) (p1 : List ByteArray) : Option (Bool) :=
  if ((List.length p0 : Int) != (List.length p1 : Int)) = true then (some false) else ((loopM (testgateref13_Same_L1 N p0 p1) N 0).bind fun out1 => (match out1 with | .inl o1 => some true | .inr (z) => some z))

set_option maxHeartbeats 4000000 in
set_option maxRecDepth 100000 in
theorem testgateref13_Same_ok {N : Nat} {m : Mem} {own : List Piece} {w : World} {p0 : List ByteArray} {p1 : List ByteArray} {a1 : Option Addr} {c1 : Nat} {a2 : Option Addr} {c2 : Nat} {r : Bool} (st : St m (own) w) (r1 : RepS cStr m a1 c1 p0) (r2 : RepS cStr m a2 c2 p1) (hr : testgateref13_Same N p0 p1 = some r) : Calls Go.Proofs.Try.prog 22 #[.agg #[.slice a1 (List.length p0) c1], .agg #[.slice a2 (List.length p1) c2]] w fun e w' => ∃ (m' : Mem), e = .returned (.bool r) ∧ m.le m' ∧ St m' (own) w' := by
  unfold testgateref13_Same at hr
  have hm := m.le_refl
  refine W_calls Go.Proofs.Try.func22 rfl Go.Proofs.Try.ntmps22 [(0, .agg #[.slice a1 (List.length p0) c1]), (1, .agg #[.slice a2 (List.length p1) c2])] (by kernel_rfl) rfl ?_
  refine W_seq ?_
  refine W_region ?_
  refine WO_one rfl (One_box (d := 2) (e := 24) (x := (.tmp 0)) (.agg #[.slice a1 (List.length p0) c1]) (by kernel_rfl) rfl (by kernel_rfl) st ?_)
  clear st
  intro b1 m1 w1 hle1 st hb1
  have hm := Mem.le_trans hm hle1
  have r1 := r1.mono hle1
  have r2 := r2.mono hle1
  refine WO_one rfl (One_box (d := 3) (e := 24) (x := (.tmp 1)) (.agg #[.slice a2 (List.length p1) c2]) (by kernel_rfl) rfl (by kernel_rfl) st ?_)
  clear st
  intro b2 m2 w2 hle2 st hb2
  have hm := Mem.le_trans hm hle2
  have r1 := r1.mono hle2
  have r2 := r2.mono hle2
  have hb1 := hb1.mono hle2
  refine WO_seg 1 [] (by kernel_rfl) (by kernel_rfl) ?_
  refine WO_end rfl ?_
  refine X_then ?_
  refine W_seq ?_
  refine W_seq ?_
  refine W_region ?_
  refine WO_seg 1 [(6, .pointer (some ⟨b1, 0, none⟩))] (by kernel_rfl) (by kernel_rfl) ?_
  refine WO_one rfl (One_load_row (d := 7) (t := 22) (x := (.tmp 6)) (.slice a1 (List.length p0) c1) (by kernel_rfl) rfl (show evL _ _ = some (.pointer (some ⟨b1, 0, none⟩)) from (by kernel_rfl)) st hb1 (by kernel_rfl) ?_)
  refine WO_seg 2 [(8, .int .i64 (List.length p0 : Int)), (9, .pointer (some ⟨b2, 0, none⟩))] (by kernel_rfl) (by kernel_rfl) ?_
  refine WO_one rfl (One_load_row (d := 10) (t := 22) (x := (.tmp 9)) (.slice a2 (List.length p1) c2) (by kernel_rfl) rfl (show evL _ _ = some (.pointer (some ⟨b2, 0, none⟩)) from (by kernel_rfl)) st hb2 (by kernel_rfl) ?_)
  refine WO_seg 2 [(12, .bool ((List.length p0 : Int) != (List.length p1 : Int)))] (by kernel_rfl) (by kernel_rfl) ?_
  refine WO_end rfl ?_
  refine X_then ?_
  refine W_cond ((List.length p0 : Int) != (List.length p1 : Int)) (by kernel_rfl) ?_ ?_
  · intro hc
    rw [if_pos hc] at hr
    refine W_seq ?_
    refine W_region ?_
    refine WO_seg 1 [(4, .bool false)] (by kernel_rfl) (by kernel_rfl) ?_
    refine WO_end rfl ?_
    refine X_then ?_
    refine W_ret ?_
    refine X_then_ret ?_
    obtain rfl := Option.some.inj hr
    refine X_ret [.tmp 4] [.bool false] rfl (ResAll.cons (ResAt.tmp (by kernel_rfl)) ResAll.nil) ?_
    exact ⟨m2, rfl, hm, st⟩
  · intro hc
    rw [if_neg (not_true hc)] at hr
    refine W_skip ?_
    refine X_then ?_
    refine W_seq ?_
    refine W_seq ?_
    refine W_region ?_
    refine WO_seg 1 [(13, .pointer (some ⟨b1, 0, none⟩))] (by kernel_rfl) (by kernel_rfl) ?_
    refine WO_one rfl (One_load_row (d := 14) (t := 22) (x := (.tmp 13)) (.slice a1 (List.length p0) c1) (by kernel_rfl) rfl (show evL _ _ = some (.pointer (some ⟨b1, 0, none⟩)) from (by kernel_rfl)) st hb1 (by kernel_rfl) ?_)
    refine WO_seg 2 [(15, .int .i64 (List.length p0 : Int)), (16, .int .i64 0)] (by kernel_rfl) (by kernel_rfl) ?_
    refine WO_end rfl ?_
    refine X_then ?_
    refine W_block ?_
    replace hr := bindS hr
    obtain ⟨out1, hr, hrKu1⟩ := hr
    refine W_cut (.exit 0) (fun L' w' => ∃ (o1 : Unit) (m3 : Mem), (.inl o1) = out1 ∧ L' = [] ∧ m.le m3 ∧ St m3 (own) w') ?_ ?_
    · clear hr st
      rintro _ w3 ⟨o1, m3, rfl, rfl, hm, st⟩
      have hr := hrKu1
      clear hrKu1
      dsimp only at hr
      refine X_block_eq ?_
      refine X_then ?_
      refine W_seq ?_
      refine W_region ?_
      refine WO_seg 1 [(4, .bool true)] (by kernel_rfl) (by kernel_rfl) ?_
      refine WO_end rfl ?_
      refine X_then ?_
      refine W_ret ?_
      obtain rfl := Option.some.inj hr
      refine X_ret [.tmp 4] [.bool true] rfl (ResAll.cons (ResAt.tmp (by kernel_rfl)) ResAll.nil) ?_
      exact ⟨m3, rfl, hm, st⟩
    intro K0_u1
    refine W_env _ (by kernel_rfl) (W_loop (fun k1 L' w' => ∃ (s1 : Int) (m4 : Mem), loopM (testgateref13_Same_L1 N p0 p1) k1 s1 = some out1 ∧ L' = [(2, .pointer (some ⟨b1, 0, none⟩)), (3, .pointer (some ⟨b2, 0, none⟩)), (15, .int .i64 (List.length p0 : Int)), (16, .int .i64 s1)] ∧ m.le m4 ∧ St m4 (own) w' ∧ MRow m4 b1 0 [.slice a1 (List.length p0) c1] ∧ RepS cStr m4 a1 c1 p0 ∧ MRow m4 b2 0 [.slice a2 (List.length p1) c2] ∧ RepS cStr m4 a2 c2 p1) N ⟨0, m2, hr, rfl, hm, st, hb1, r1, hb2, r2⟩ ?_)
    clear st hr
    rintro k1 _ w4 ⟨s1, m4, hL, rfl, hm, st, hb1, r1, hb2, r2⟩
    rcases k1 with _ | k1
    · exact loopM_zero hL
    · obtain ⟨qu1, hr, hSu1, hBu1⟩ := loopM_succ hL
      clear hL
      unfold testgateref13_Same_L1 at hr
      refine W_seq ?_
      refine W_region ?_
      refine WO_seg 1 [(17, .bool (decide (s1 < (List.length p0 : Int))))] (by kernel_rfl) (by kernel_rfl) ?_
      refine WO_end rfl ?_
      refine X_then ?_
      refine W_seq ?_
      refine W_cond (decide (s1 < (List.length p0 : Int))) (by kernel_rfl) ?_ ?_
      · intro hc
        rw [if_pos hc] at hr
        refine W_skip ?_
        refine X_then ?_
        refine W_seq ?_
        refine W_block ?_
        refine W_seq ?_
        refine W_region ?_
        refine WO_seg 2 [(5, .int .i64 s1)] (by kernel_rfl) (by kernel_rfl) ?_
        refine WO_end rfl ?_
        refine X_then ?_
        refine W_seq ?_
        refine W_draw [(11, fun w' => Inv m4 w' ∧ True)] (by kernel_rfl) st ?_
        clear st
        intro w5 _ st
        have hmS := m4.le_refl
        refine ⟨⟨.inr ⟨Inv.anti st.inv hmS, trivial⟩, trivial⟩, ?_⟩
        refine WA_pure 0 19 (.pointer (some ⟨b1, 0, none⟩)) (by kernel_rfl) rfl (by kernel_rfl) (.head _) (QP_then (QP_block (QP_then (QP_then (QP_block (QP_then QP_body)))))) ?_
        refine WA_load_row (t := 22) (x := (.tmp 19)) 1 20 (.slice a1 (List.length p0) c1) (by kernel_rfl) rfl (by kernel_rfl) (.head _) (QP_then (QP_block (QP_then (QP_then (QP_block (QP_then QP_body)))))) (fun _ h => h.1) (show evL _ _ = some (.pointer (some ⟨b1, 0, none⟩)) from (by kernel_rfl)) hb1 (by kernel_rfl) ?_
        refine WA_pure 2 21 (.int .i64 s1) (by kernel_rfl) rfl (by kernel_rfl) (.head _) (QP_then (QP_block (QP_then (QP_then (QP_block (QP_then QP_body)))))) ?_
        replace hr := bindS hr
        obtain ⟨x1, hx1, hr⟩ := hr
        refine WA_index (t := 22) (e := 9) (x := (.tmp 20)) (y := (.tmp 21)) 3 22 cStr (by kernel_rfl) rfl (by kernel_rfl) (.head _) (QP_then (QP_block (QP_then (QP_then (QP_block (QP_then QP_body)))))) (show evL _ _ = some (.slice a1 (List.length p0) c1) from (by kernel_rfl)) (show evL _ _ = some (.int .i64 s1) from (by kernel_rfl)) (by kernel_rfl) r1 hx1 ?_
        rintro b3 f1 cs1 rfl hq1
        refine WA_load_row (t := 9) (x := (.tmp 22)) 4 23 (.string x1) (by kernel_rfl) rfl (by kernel_rfl) (.head _) (QP_then (QP_block (QP_then (QP_then (QP_block (QP_then QP_body)))))) (fun _ h => h.1) (show evL _ _ = some (.pointer (some ⟨b3, f1, none⟩)) from (by kernel_rfl)) hq1 (by kernel_rfl) ?_
        refine WA_pure 5 24 (.pointer (some ⟨b2, 0, none⟩)) (by kernel_rfl) rfl (by kernel_rfl) (.head _) (QP_then (QP_block (QP_then (QP_then (QP_block (QP_then QP_body)))))) ?_
        refine WA_load_row (t := 22) (x := (.tmp 24)) 6 25 (.slice a2 (List.length p1) c2) (by kernel_rfl) rfl (by kernel_rfl) (.head _) (QP_then (QP_block (QP_then (QP_then (QP_block (QP_then QP_body)))))) (fun _ h => h.1) (show evL _ _ = some (.pointer (some ⟨b2, 0, none⟩)) from (by kernel_rfl)) hb2 (by kernel_rfl) ?_
        refine WA_pure 7 26 (.int .i64 s1) (by kernel_rfl) rfl (by kernel_rfl) (.head _) (QP_then (QP_block (QP_then (QP_then (QP_block (QP_then QP_body)))))) ?_
        replace hr := bindS hr
        obtain ⟨x2, hx2, hr⟩ := hr
        refine WA_index (t := 22) (e := 9) (x := (.tmp 25)) (y := (.tmp 26)) 8 27 cStr (by kernel_rfl) rfl (by kernel_rfl) (.head _) (QP_then (QP_block (QP_then (QP_then (QP_block (QP_then QP_body)))))) (show evL _ _ = some (.slice a2 (List.length p1) c2) from (by kernel_rfl)) (show evL _ _ = some (.int .i64 s1) from (by kernel_rfl)) (by kernel_rfl) r2 hx2 ?_
        rintro b4 f2 cs2 rfl hq2
        refine WA_load_row (t := 9) (x := (.tmp 27)) 9 28 (.string x2) (by kernel_rfl) rfl (by kernel_rfl) (.head _) (QP_then (QP_block (QP_then (QP_then (QP_block (QP_then QP_body)))))) (fun _ h => h.1) (show evL _ _ = some (.pointer (some ⟨b4, f2, none⟩)) from (by kernel_rfl)) hq2 (by kernel_rfl) ?_
        refine WA_pure 10 29 (.bool (!(x1.toList == x2.toList))) (by kernel_rfl) rfl (by kernel_rfl) (.head _) (QP_then (QP_block (QP_then (QP_then (QP_block (QP_then QP_body)))))) ?_
        refine WA_done (by kernel_rfl) ?_
        refine X_then ?_
        refine W_cond (!(x1.toList == x2.toList)) (by kernel_rfl) ?_ ?_
        · intro hc
          rw [if_pos hc] at hr
          refine W_seq ?_
          refine W_region ?_
          refine WO_seg 1 [(4, .bool false)] (by kernel_rfl) (by kernel_rfl) ?_
          refine WO_end rfl ?_
          refine X_then ?_
          refine W_ret ?_
          refine X_block_ret ?_
          refine X_then_ret ?_
          obtain rfl := Option.some.inj hr
          have ho := hBu1 _ rfl
          subst ho
          have hr := hrKu1
          dsimp only at hr
          refine X_then_ret ?_
          refine X_block_ret ?_
          refine X_then_ret ?_
          obtain rfl := Option.some.inj hr
          refine X_ret [.tmp 4] [.bool false] rfl (ResAll.cons (ResAt.tmp (by kernel_rfl)) ResAll.nil) ?_
          exact ⟨m4, rfl, hm, st⟩
        · intro hc
          rw [if_neg (not_true hc)] at hr
          refine W_skip ?_
          refine X_block ?_
          refine X_then ?_
          refine W_region ?_
          refine WO_seg 2 [(16, .int .i64 (IntKind.wrap .i64 (s1 + 1)))] (by kernel_rfl) (by kernel_rfl) ?_
          refine WO_end rfl ?_
          obtain rfl := Option.some.inj hr
          have hL := hSu1 _ rfl
          exact X_env _ (by kernel_rfl) (X_round k1 (Nat.lt_succ_self _) ⟨IntKind.wrap .i64 (s1 + 1), m4, hL, rfl, hm, st, hb1, r1, hb2, r2⟩)
      · intro hc
        rw [if_neg (not_true hc)] at hr
        refine W_exit ?_
        refine X_then_exit ?_
        obtain rfl := Option.some.inj hr
        have ho := hBu1 _ rfl
        refine X_then_exit ?_
        exact X_env _ (by kernel_rfl) (K0_u1 _ _ ⟨(), m4, ho, rfl, hm, st⟩)

def testgatelaw13_decodes (N : Nat) (p0 : List UInt8) : Option (Bool) :=
  (contents_Decode N p0).bind fun y1 => (testgateref13_Decode N p0).bind fun y2 => (if (y1.2 == y2.2) = true then ((testgateref13_Same N y1.1 y2.1).bind fun y3 => some y3) else (some false) : Option (Bool)).bind fun o1 => some o1

set_option maxHeartbeats 4000000 in
set_option maxRecDepth 100000 in
theorem testgatelaw13_decodes_ok {N : Nat} {m : Mem} {own : List Piece} {w : World} {p0 : List UInt8} {a1 : Option Addr} {c1 : Nat} {r : Bool} (st : St m (own) w) (r1 : RepS cU8 m a1 c1 p0) (hr : testgatelaw13_decodes N p0 = some r) : Calls Go.Proofs.Try.prog 58 #[.slice a1 (List.length p0) c1] w fun e w' => ∃ (m' : Mem), e = .returned (.bool r) ∧ m.le m' ∧ St m' (own) w' := by
  unfold testgatelaw13_decodes at hr
  have hm := m.le_refl
  refine W_calls Go.Proofs.Try.func58 rfl Go.Proofs.Try.ntmps58 [(0, .slice a1 (List.length p0) c1)] (by kernel_rfl) rfl ?_
  refine W_seq ?_
  refine W_region ?_
  refine WO_seg 1 [] (by kernel_rfl) (by kernel_rfl) ?_
  refine WO_end rfl ?_
  refine X_then ?_
  refine W_seq ?_
  refine W_region ?_
  refine WO_seg 1 [(8, .slice a1 (List.length p0) c1)] (by kernel_rfl) (by kernel_rfl) ?_
  replace hr := bindS hr
  obtain ⟨y1, hx1, hr⟩ := hr
  refine WO_one rfl (One_fn 9 61 #[.slice a1 (List.length p0) c1] (by kernel_rfl) rfl ?_)
  refine (contents_Decode_ok st r1 hx1).mono ?_
  clear st
  rintro _ w1 ⟨a2, c2, m1, rfl, hle1, st, r2⟩
  refine ⟨_, rfl, ?_⟩
  have hm := Mem.le_trans hm hle1
  have r1 := r1.mono hle1
  refine WO_seg 3 [(10, .agg #[.slice a2 (List.length y1.1) c2]), (11, .int .i64 y1.2)] (by kernel_rfl) (by kernel_rfl) ?_
  refine WO_one rfl (One_alloc (d := 3) (e := 24) (.agg #[.slice none 0 0]) (by kernel_rfl) rfl (by kernel_rfl) st ?_)
  clear st
  intro b1 w2 st
  refine WO_one rfl (One_store (t := 24) (x := (.tmp 3)) (y := (.tmp 10)) (v := .agg #[.slice a2 (List.length y1.1) c2]) (c' := #[.slice a2 (List.length y1.1) c2]) (by kernel_rfl) (show evL _ _ = some (.pointer (some ⟨b1, 0, none⟩)) from (by kernel_rfl)) (show evL _ _ = some (.agg #[.slice a2 (List.length y1.1) c2]) from (by kernel_rfl)) st (by kernel_rfl) (by kernel_rfl) ?_)
  clear st
  intro w3 st
  refine WO_seg 1 [(4, .int .i64 y1.2)] (by kernel_rfl) (by kernel_rfl) ?_
  refine WO_end rfl ?_
  refine X_then ?_
  refine W_seq ?_
  refine W_region ?_
  refine WO_seg 1 [(13, .slice a1 (List.length p0) c1)] (by kernel_rfl) (by kernel_rfl) ?_
  replace hr := bindS hr
  obtain ⟨y2, hx2, hr⟩ := hr
  refine WO_one rfl (One_fn 14 70 #[.slice a1 (List.length p0) c1] (by kernel_rfl) rfl ?_)
  refine (testgateref13_Decode_ok st r1 hx2).mono ?_
  clear st
  rintro _ w4 ⟨a3, c3, m2, rfl, hle2, st, r3⟩
  refine ⟨_, rfl, ?_⟩
  have hm := Mem.le_trans hm hle2
  have r1 := r1.mono hle2
  have r2 := r2.mono hle2
  refine WO_seg 3 [(15, .agg #[.slice a3 (List.length y2.1) c3]), (16, .int .i64 y2.2)] (by kernel_rfl) (by kernel_rfl) ?_
  refine WO_one rfl (One_alloc (d := 5) (e := 24) (.agg #[.slice none 0 0]) (by kernel_rfl) rfl (by kernel_rfl) st ?_)
  clear st
  intro b2 w5 st
  refine WO_one rfl (One_store (t := 24) (x := (.tmp 5)) (y := (.tmp 15)) (v := .agg #[.slice a3 (List.length y2.1) c3]) (c' := #[.slice a3 (List.length y2.1) c3]) (by kernel_rfl) (show evL _ _ = some (.pointer (some ⟨b2, 0, none⟩)) from (by kernel_rfl)) (show evL _ _ = some (.agg #[.slice a3 (List.length y2.1) c3]) from (by kernel_rfl)) st (by kernel_rfl) (by kernel_rfl) ?_)
  clear st
  intro w6 st
  refine WO_seg 1 [(6, .int .i64 y2.2)] (by kernel_rfl) (by kernel_rfl) ?_
  refine WO_end rfl ?_
  refine X_then ?_
  refine W_seq ?_
  refine W_region ?_
  replace hr := bindS hr
  obtain ⟨o1, hr, hrK⟩ := hr
  refine WO_cut (j := 9) (fun L' w' => ∃ (m3 : Mem), L' = [(2, .bool o1)] ∧ m.le m3 ∧ St m3 (.blk b2 (.cells #[.slice a3 (List.length y2.1) c3] 24 (0, 0)) :: .blk b1 (.cells #[.slice a2 (List.length y1.1) c2] 24 (0, 0)) :: .room a3 (List.length y2.1) c3 9 1 :: .room a2 (List.length y1.1) c2 9 1 :: own) w' ∧ RepS cStr m3 a3 c3 y2.1 ∧ RepS cStr m3 a2 c2 y1.1) ?_ ?_
  · clear hr st
    have hr := hrK
    clear hrK
    rintro _ w7 ⟨m3, rfl, hm, st, r3, r2⟩
    refine WO_end rfl ?_
    refine X_then ?_
    refine W_ret ?_
    obtain rfl := Option.some.inj hr
    refine X_ret [.tmp 2] [.bool o1] rfl (ResAll.cons (ResAt.tmp (by kernel_rfl)) ResAll.nil) ?_
    have st := st.tail
    have st := st.tail
    have st := st.tail
    have st := st.tail
    exact ⟨m3, rfl, hm, st⟩
  · intro K
    clear hrK
    refine WO_seg 4 [(20, .bool (y1.2 == y2.2))] (by kernel_rfl) (by kernel_rfl) ?_
    rcases bcases (y1.2 == y2.2) with hc | hc
    · rw [if_pos hc] at hr
      refine WO_fact (t := 20) (b := true) (y1.2 == y2.2) (by kernel_rfl) hc ?_
      refine WO_one rfl (One_load_own (d := 21) (t := 24) (x := (.tmp 3)) (.agg #[.slice a2 (List.length y1.1) c2]) (by kernel_rfl) rfl (show evL _ _ = some (.pointer (some ⟨b1, 0, none⟩)) from (by kernel_rfl)) st.tail.tail.head (by kernel_rfl) ?_)
      refine WO_one rfl (One_load_own (d := 22) (t := 24) (x := (.tmp 5)) (.agg #[.slice a3 (List.length y2.1) c3]) (by kernel_rfl) rfl (show evL _ _ = some (.pointer (some ⟨b2, 0, none⟩)) from (by kernel_rfl)) st.head (by kernel_rfl) ?_)
      replace hr := bindS hr
      obtain ⟨y3, hx3, hr⟩ := hr
      refine WO_one rfl (One_fn 23 22 #[.agg #[.slice a2 (List.length y1.1) c2], .agg #[.slice a3 (List.length y2.1) c3]] (by kernel_rfl) rfl ?_)
      refine (testgateref13_Same_ok st r2 r3 hx3).mono ?_
      clear st
      rintro _ w8 ⟨m4, rfl, hle3, st⟩
      refine ⟨_, rfl, ?_⟩
      have hm := Mem.le_trans hm hle3
      have r2 := r2.mono hle3
      have r3 := r3.mono hle3
      refine WO_seg 2 [(2, .bool y3)] (by kernel_rfl) (by kernel_rfl) ?_
      obtain rfl := Option.some.inj hr
      have st := st.front3
      have st := st.front2
      have st := st.front3
      have st := st.front3
      exact WO_env _ (by kernel_rfl) (K _ _ ⟨m4, rfl, hm, st, r3, r2⟩)
    · rw [if_neg (not_true hc)] at hr
      refine WO_fact (t := 20) (b := false) (y1.2 == y2.2) (by kernel_rfl) hc ?_
      refine WO_seg 5 [(2, .bool false)] (by kernel_rfl) (by kernel_rfl) ?_
      obtain rfl := Option.some.inj hr
      have st := st.front3
      have st := st.front2
      have st := st.front3
      have st := st.front3
      exact WO_env _ (by kernel_rfl) (K _ _ ⟨m2, rfl, hm, st, r3, r2⟩)

def slices_Clone_string_string (N : Nat) (p0 : List ByteArray) : Option (List ByteArray) :=
  nilS p0 (some ([] : List (ByteArray))) ((appendS 16 ([] : List (ByteArray)) p0).bind fun l1 => some l1)

set_option maxHeartbeats 4000000 in
set_option maxRecDepth 100000 in
theorem slices_Clone_string_string_ok {N : Nat} {m : Mem} {own : List Piece} {w : World} {p0 : List ByteArray} {a1 : Option Addr} {c1 : Nat} {r : List ByteArray} (st : St m (own) w) (r1 : RepS cStr m a1 c1 p0) (hr : slices_Clone_string_string N p0 = some r) : Calls Go.Proofs.Try.prog 71 #[.slice a1 (List.length p0) c1] w fun e w' => ∃ (ra1 : Option Addr) (rc1 : Nat) (m' : Mem), e = .returned (.slice ra1 (List.length r) rc1) ∧ m.le m' ∧ St m' (.room ra1 (List.length r) rc1 9 1 :: own) w' ∧ RepS cStr m' ra1 rc1 r := by
  unfold slices_Clone_string_string at hr
  have hm := m.le_refl
  refine W_calls Go.Proofs.Try.func71 rfl Go.Proofs.Try.ntmps71 [(0, .slice a1 (List.length p0) c1)] (by kernel_rfl) rfl ?_
  refine W_seq ?_
  refine W_region ?_
  refine WO_seg 1 [] (by kernel_rfl) (by kernel_rfl) ?_
  refine WO_end rfl ?_
  refine X_then ?_
  refine W_seq ?_
  refine W_seq ?_
  refine W_region ?_
  refine WO_seg 1 [(3, .slice a1 (List.length p0) c1)] (by kernel_rfl) (by kernel_rfl) ?_
  rcases bcases (Option.isNone a1) with hnil | hnil
  · replace hr := nilS_true hr r1 hnil
    refine WO_one rfl (One_nileq (d := 4) (t := 22) (t2 := 22) (e := 9) (x := (.tmp 3)) (y := (.const (.slice none 0 0))) true (by kernel_rfl) rfl (show evL _ _ = some (.slice a1 (List.length p0) c1) from (by kernel_rfl)) (by kernel_rfl) rfl hnil ?_)
    refine WO_end rfl ?_
    refine X_then ?_
    refine W_cond true (by kernel_rfl) ?_ (fun h => Bool.noConfusion h)
    intro _
    refine W_seq ?_
    refine W_region ?_
    refine WO_seg 1 [(2, .slice none (List.length ([] : List (ByteArray))) 0)] (by kernel_rfl) (by kernel_rfl) ?_
    refine WO_end rfl ?_
    refine X_then ?_
    refine W_ret ?_
    refine X_then_ret ?_
    obtain rfl := Option.some.inj hr
    refine X_ret [.tmp 2] [.slice none (List.length ([] : List (ByteArray))) 0] rfl (ResAll.cons (ResAt.tmp (by kernel_rfl)) ResAll.nil) ?_
    have st := st.nilroom 9 1
    exact ⟨none, 0, m, rfl, hm, st, (RepS.nil _ _)⟩
  · replace hr := nilS_false hr
    refine WO_one rfl (One_nileq (d := 4) (t := 22) (t2 := 22) (e := 9) (x := (.tmp 3)) (y := (.const (.slice none 0 0))) false (by kernel_rfl) rfl (show evL _ _ = some (.slice a1 (List.length p0) c1) from (by kernel_rfl)) (by kernel_rfl) rfl hnil ?_)
    refine WO_end rfl ?_
    refine X_then ?_
    refine W_cond false (by kernel_rfl) (fun h => Bool.noConfusion h) ?_
    intro _
    refine W_skip ?_
    refine X_then ?_
    refine W_seq ?_
    refine W_region ?_
    refine WO_one rfl (One_buildSlice (d := 5) (t := 22) (e := 9) (len := 0) (parts := #[]) cStr (xs := ([] : List (ByteArray))) [] (by kernel_rfl) rfl (fun _ => buildEmpty_run (by simp) (by kernel_rfl) _) rfl rfl st rfl ?_)
    clear st
    intro b1 m1 w1 hle1 st r2
    have hm := Mem.le_trans hm hle1
    have r1 := r1.mono hle1
    refine WO_seg 1 [(6, .slice a1 (List.length p0) c1)] (by kernel_rfl) (by kernel_rfl) ?_
    replace hr := bindS hr
    obtain ⟨l1, hx1, hr⟩ := hr
    refine WO_one rfl (One_append (d := 7) (t := 22) (u := 22) (e := 9) (by_ := 16) (x := (.tmp 5)) (y := (.tmp 6)) cStr (by kernel_rfl) rfl (show evL _ _ = some (.slice (some ⟨b1, 0, none⟩) (List.length ([] : List (ByteArray))) 0) from (by kernel_rfl)) (show evL _ _ = some (.slice a1 (List.length p0) c1) from (by kernel_rfl)) st (by kernel_rfl) (.inl (by kernel_rfl)) r2 r1.src hx1 ?_)
    clear st
    intro a2 c2 m2 w2 hle2 st r3
    have hm := Mem.le_trans hm hle2
    have r1 := r1.mono hle2
    have r2 := r2.mono hle2
    refine WO_seg 1 [(2, .slice a2 (List.length l1) c2)] (by kernel_rfl) (by kernel_rfl) ?_
    refine WO_end rfl ?_
    refine X_then ?_
    refine W_ret ?_
    obtain rfl := Option.some.inj hr
    refine X_ret [.tmp 2] [.slice a2 (List.length l1) c2] rfl (ResAll.cons (ResAt.tmp (by kernel_rfl)) ResAll.nil) ?_
    exact ⟨a2, c2, m2, rfl, hm, st, r3⟩

def contents_Merge_L1 (N : Nat) (p1 : List ByteArray) (s1 : Int × List (ByteArray) × List (Int) × (Option (List (ByteArray × Int)))) : Option ((Int × List (ByteArray) × List (Int) × (Option (List (ByteArray × Int)))) ⊕ ((List (ByteArray) × List (Int) × (Option (List (ByteArray × Int)))) ⊕ (List (ByteArray) × Bool × List (Int)))) :=
  if (decide (s1.1 < (List.length p1 : Int))) = true then ((idx p1 s1.1).bind fun x1 => (if (!((mgetQ s1.2.2.2 x1).isSome)) = true then (if ((List.length s1.2.1 : Int) == 4096) = true then ((some (.inr (.inr ((([] : List (ByteArray)), false, s1.2.2.1))))).map .inr) else ((msetQ s1.2.2.2 x1 (List.length s1.2.1 : Int)).bind fun mp1 => (appendS 16 s1.2.1 ([x1])).bind fun l1 => some (.inl ((List.length s1.2.1 : Int), l1, mp1)))) else (some (.inl (((mgetQ s1.2.2.2 x1).getD 0), s1.2.1, s1.2.2.2))) : Option ((Int × List (ByteArray) × (Option (List (ByteArray × Int)))) ⊕ ((Int × List (ByteArray) × List (Int) × (Option (List (ByteArray × Int)))) ⊕ ((List (ByteArray) × List (Int) × (Option (List (ByteArray × Int)))) ⊕ (List (ByteArray) × Bool × List (Int)))))).bind fun qu3 => (match qu3 with | .inl o3 => (appendS 8 s1.2.2.1 ([o3.1])).bind fun l2 => some (.inl (IntKind.wrap .i64 (s1.1 + 1), o3.2.1, l2, o3.2.2)) | .inr z => some z)) else (some (.inr (.inl (s1.2.1, s1.2.2.1, s1.2.2.2))))

def contents_Merge (N : Nat) (p0 : List ByteArray) (p1 : List ByteArray) : Option (List ByteArray × List Int × Int) :=
  (contents_Check N p0).bind fun y1 => if (y1 != 0) = true then (some (([] : List (ByteArray)), ([] : List (Int)), y1)) else ((contents_Check N p1).bind fun y2 => if (y2 != 0) = true then (some (([] : List (ByteArray)), ([] : List (Int)), y2)) else (((contents_numbers N p0).bind fun y3 => (slices_Clone_string_string N p0).bind fun y4 => (loopM (contents_Merge_L1 N p1) N (0, y4, ([] : List (Int)), y3.1)).bind fun out1 => (match out1 with | .inl o2 => some (o2.1, true, o2.2.1) | .inr (z) => some z) : Option (List (ByteArray) × Bool × List (Int))).bind fun o1 => if (!o1.2.1) = true then (some (([] : List (ByteArray)), ([] : List (Int)), 2)) else (some (o1.1, o1.2.2, 0))))

set_option maxHeartbeats 4000000 in
set_option maxRecDepth 100000 in
theorem contents_Merge_ok {N : Nat} {m : Mem} {own : List Piece} {w : World} {p0 : List ByteArray} {p1 : List ByteArray} {a1 : Option Addr} {c1 : Nat} {a2 : Option Addr} {c2 : Nat} {r : List ByteArray × List Int × Int} (st : St m (own) w) (r1 : RepS cStr m a1 c1 p0) (r2 : RepS cStr m a2 c2 p1) (hr : contents_Merge N p0 p1 = some r) : Calls Go.Proofs.Try.prog 29 #[.agg #[.slice a1 (List.length p0) c1], .agg #[.slice a2 (List.length p1) c2]] w fun e w' => ∃ (ra1 : Option Addr) (rc1 : Nat) (ra2 : Option Addr) (rc2 : Nat) (m' : Mem), e = .returned (.tuple #[.agg #[.slice ra1 (List.length r.1) rc1], .slice ra2 (List.length r.2.1) rc2, .int .i64 r.2.2]) ∧ m.le m' ∧ St m' (.room ra1 (List.length r.1) rc1 9 1 :: .room ra2 (List.length r.2.1) rc2 3 1 :: own) w' ∧ RepS cStr m' ra1 rc1 r.1 ∧ RepS (cInt .i64) m' ra2 rc2 r.2.1 := by
  unfold contents_Merge at hr
  have hm := m.le_refl
  refine W_calls Go.Proofs.Try.func29 rfl Go.Proofs.Try.ntmps29 [(0, .agg #[.slice a1 (List.length p0) c1]), (1, .agg #[.slice a2 (List.length p1) c2])] (by kernel_rfl) rfl ?_
  refine W_seq ?_
  refine W_region ?_
  refine WO_one rfl (One_box (d := 2) (e := 24) (x := (.tmp 0)) (.agg #[.slice a1 (List.length p0) c1]) (by kernel_rfl) rfl (by kernel_rfl) st ?_)
  clear st
  intro b1 m1 w1 hle1 st hb1
  have hm := Mem.le_trans hm hle1
  have r1 := r1.mono hle1
  have r2 := r2.mono hle1
  refine WO_one rfl (One_box (d := 3) (e := 24) (x := (.tmp 1)) (.agg #[.slice a2 (List.length p1) c2]) (by kernel_rfl) rfl (by kernel_rfl) st ?_)
  clear st
  intro b2 m2 w2 hle2 st hb2
  have hm := Mem.le_trans hm hle2
  have r1 := r1.mono hle2
  have r2 := r2.mono hle2
  have hb1 := hb1.mono hle2
  refine WO_one rfl (One_alloc (d := 4) (e := 24) (.agg #[.slice none 0 0]) (by kernel_rfl) rfl (by kernel_rfl) st ?_)
  clear st
  intro b3 w3 st
  refine WO_seg 2 [] (by kernel_rfl) (by kernel_rfl) ?_
  refine WO_end rfl ?_
  refine X_then ?_
  refine W_seq ?_
  refine W_seq ?_
  refine W_region ?_
  refine WO_one rfl (One_load_row (d := 12) (t := 24) (x := (.tmp 2)) (.agg #[.slice a1 (List.length p0) c1]) (by kernel_rfl) rfl (show evL _ _ = some (.pointer (some ⟨b1, 0, none⟩)) from (by kernel_rfl)) st hb1 (by kernel_rfl) ?_)
  replace hr := bindS hr
  obtain ⟨y1, hx1, hr⟩ := hr
  refine WO_one rfl (One_fn 13 14 #[.agg #[.slice a1 (List.length p0) c1]] (by kernel_rfl) rfl ?_)
  refine (contents_Check_ok st r1 hx1).mono ?_
  clear st
  rintro _ w4 ⟨m3, rfl, hle3, st⟩
  refine ⟨_, rfl, ?_⟩
  have hm := Mem.le_trans hm hle3
  have hb1 := hb1.mono hle3
  have r1 := r1.mono hle3
  have hb2 := hb2.mono hle3
  have r2 := r2.mono hle3
  refine WO_seg 1 [(7, .int .i64 y1)] (by kernel_rfl) (by kernel_rfl) ?_
  refine WO_end rfl ?_
  refine X_then ?_
  refine W_seq ?_
  refine W_region ?_
  refine WO_seg 2 [(15, .bool (y1 != 0))] (by kernel_rfl) (by kernel_rfl) ?_
  refine WO_end rfl ?_
  refine X_then ?_
  refine W_cond (y1 != 0) (by kernel_rfl) ?_ ?_
  · intro hc
    rw [if_pos hc] at hr
    refine W_seq ?_
    refine W_region ?_
    refine WO_seg 2 [(16, .agg #[.slice none (List.length ([] : List (ByteArray))) 0]), (17, .int .i64 y1)] (by kernel_rfl) (by kernel_rfl) ?_
    refine WO_one rfl (One_store (t := 24) (x := (.tmp 4)) (y := (.tmp 16)) (v := .agg #[.slice none (List.length ([] : List (ByteArray))) 0]) (c' := #[.slice none (List.length ([] : List (ByteArray))) 0]) (by kernel_rfl) (show evL _ _ = some (.pointer (some ⟨b3, 0, none⟩)) from (by kernel_rfl)) (show evL _ _ = some (.agg #[.slice none (List.length ([] : List (ByteArray))) 0]) from (by kernel_rfl)) st (by kernel_rfl) (by kernel_rfl) ?_)
    clear st
    intro w5 st
    refine WO_seg 2 [(5, .slice none (List.length ([] : List (Int))) 0), (6, .int .i64 y1)] (by kernel_rfl) (by kernel_rfl) ?_
    refine WO_end rfl ?_
    refine X_then ?_
    refine W_ret ?_
    refine X_then_ret ?_
    obtain rfl := Option.some.inj hr
    refine X_ret [.cell 4 24, .tmp 5, .tmp 6] [.agg #[.slice none (List.length ([] : List (ByteArray))) 0], .slice none (List.length ([] : List (Int))) 0, .int .i64 y1] rfl (ResAll.cons (ResAt.blk (v := .agg #[.slice none (List.length ([] : List (ByteArray))) 0]) (o := 0) (by kernel_rfl) st.head (by kernel_rfl)) (ResAll.cons (ResAt.tmp (by kernel_rfl)) (ResAll.cons (ResAt.tmp (by kernel_rfl)) ResAll.nil))) ?_
    have st := st.nilroom 9 1
    have st := st.nilroom 3 1
    have st := st.front2
    have st := st.tail
    have st := st.front1
    exact ⟨none, 0, none, 0, m3, rfl, hm, st, (RepS.nil _ _), (RepS.nil _ _)⟩
  · intro hc
    rw [if_neg (not_true hc)] at hr
    refine W_skip ?_
    refine X_then ?_
    refine W_seq ?_
    refine W_seq ?_
    refine W_region ?_
    refine WO_one rfl (One_load_row (d := 18) (t := 24) (x := (.tmp 3)) (.agg #[.slice a2 (List.length p1) c2]) (by kernel_rfl) rfl (show evL _ _ = some (.pointer (some ⟨b2, 0, none⟩)) from (by kernel_rfl)) st hb2 (by kernel_rfl) ?_)
    replace hr := bindS hr
    obtain ⟨y2, hx2, hr⟩ := hr
    refine WO_one rfl (One_fn 19 14 #[.agg #[.slice a2 (List.length p1) c2]] (by kernel_rfl) rfl ?_)
    refine (contents_Check_ok st r2 hx2).mono ?_
    clear st
    rintro _ w6 ⟨m4, rfl, hle4, st⟩
    refine ⟨_, rfl, ?_⟩
    have hm := Mem.le_trans hm hle4
    have hb1 := hb1.mono hle4
    have r1 := r1.mono hle4
    have hb2 := hb2.mono hle4
    have r2 := r2.mono hle4
    refine WO_seg 1 [(8, .int .i64 y2)] (by kernel_rfl) (by kernel_rfl) ?_
    refine WO_end rfl ?_
    refine X_then ?_
    refine W_seq ?_
    refine W_region ?_
    refine WO_seg 2 [(21, .bool (y2 != 0))] (by kernel_rfl) (by kernel_rfl) ?_
    refine WO_end rfl ?_
    refine X_then ?_
    refine W_cond (y2 != 0) (by kernel_rfl) ?_ ?_
    · intro hc
      rw [if_pos hc] at hr
      refine W_seq ?_
      refine W_region ?_
      refine WO_seg 2 [(22, .agg #[.slice none (List.length ([] : List (ByteArray))) 0]), (23, .int .i64 y2)] (by kernel_rfl) (by kernel_rfl) ?_
      refine WO_one rfl (One_store (t := 24) (x := (.tmp 4)) (y := (.tmp 22)) (v := .agg #[.slice none (List.length ([] : List (ByteArray))) 0]) (c' := #[.slice none (List.length ([] : List (ByteArray))) 0]) (by kernel_rfl) (show evL _ _ = some (.pointer (some ⟨b3, 0, none⟩)) from (by kernel_rfl)) (show evL _ _ = some (.agg #[.slice none (List.length ([] : List (ByteArray))) 0]) from (by kernel_rfl)) st (by kernel_rfl) (by kernel_rfl) ?_)
      clear st
      intro w7 st
      refine WO_seg 2 [(5, .slice none (List.length ([] : List (Int))) 0), (6, .int .i64 y2)] (by kernel_rfl) (by kernel_rfl) ?_
      refine WO_end rfl ?_
      refine X_then ?_
      refine W_ret ?_
      refine X_then_ret ?_
      obtain rfl := Option.some.inj hr
      refine X_ret [.cell 4 24, .tmp 5, .tmp 6] [.agg #[.slice none (List.length ([] : List (ByteArray))) 0], .slice none (List.length ([] : List (Int))) 0, .int .i64 y2] rfl (ResAll.cons (ResAt.blk (v := .agg #[.slice none (List.length ([] : List (ByteArray))) 0]) (o := 0) (by kernel_rfl) st.head (by kernel_rfl)) (ResAll.cons (ResAt.tmp (by kernel_rfl)) (ResAll.cons (ResAt.tmp (by kernel_rfl)) ResAll.nil))) ?_
      have st := st.nilroom 9 1
      have st := st.nilroom 3 1
      have st := st.front2
      have st := st.tail
      have st := st.front1
      exact ⟨none, 0, none, 0, m4, rfl, hm, st, (RepS.nil _ _), (RepS.nil _ _)⟩
    · intro hc
      rw [if_neg (not_true hc)] at hr
      refine W_skip ?_
      refine X_then ?_
      refine W_seq ?_
      refine W_region ?_
      refine WO_one rfl (One_alloc (d := 9) (e := 32) (.slice none 0 0) (by kernel_rfl) rfl (by kernel_rfl) st ?_)
      clear st
      intro b4 w8 st
      refine WO_end rfl ?_
      refine X_then ?_
      refine W_seq ?_
      refine W_region ?_
      refine WO_one rfl (One_load_row (d := 25) (t := 24) (x := (.tmp 2)) (.agg #[.slice a1 (List.length p0) c1]) (by kernel_rfl) rfl (show evL _ _ = some (.pointer (some ⟨b1, 0, none⟩)) from (by kernel_rfl)) st hb1 (by kernel_rfl) ?_)
      refine WO_seg 1 [(26, .pointer (some ⟨b2, 0, none⟩))] (by kernel_rfl) (by kernel_rfl) ?_
      refine WO_one rfl (One_load_row (d := 27) (t := 22) (x := (.tmp 26)) (.slice a2 (List.length p1) c2) (by kernel_rfl) rfl (show evL _ _ = some (.pointer (some ⟨b2, 0, none⟩)) from (by kernel_rfl)) st hb2 (by kernel_rfl) ?_)
      refine WO_seg 1 [(28, .func (.func 67) #[] #[.pointer (some ⟨b4, 0, none⟩)])] (by kernel_rfl) (by kernel_rfl) ?_
      replace hr := bindS hr
      obtain ⟨o1, hr, hrKu1⟩ := hr
      refine WO_one rfl (One_fn 29 66 #[.agg #[.slice a1 (List.length p0) c1], .slice a2 (List.length p1) c2, .func (.func 67) #[] #[.pointer (some ⟨b4, 0, none⟩)]] (by kernel_rfl) rfl ?_)
      refine Calls_cut (fun v' w' => ∃ (a3 : Option Addr) (c3 : Nat) (a4 : Option Addr) (c4 : Nat) (m5 : Mem), v' = (.tuple #[.agg #[.slice a3 (List.length o1.1) c3], .bool o1.2.1]) ∧ m.le m5 ∧ St m5 (.blk b4 (.cells #[.slice a4 (List.length o1.2.2) c4] 32 (0, 0)) :: .blk b3 (.cells #[.slice none (List.length ([] : List (ByteArray))) 0] 24 (0, 0)) :: .room a3 (List.length o1.1) c3 9 1 :: .room a4 (List.length o1.2.2) c4 3 1 :: own) w' ∧ RepS cStr m5 a3 c3 o1.1 ∧ MRow m5 b1 0 [.slice a1 (List.length p0) c1] ∧ RepS cStr m5 a1 c1 p0 ∧ MRow m5 b2 0 [.slice a2 (List.length p1) c2] ∧ RepS cStr m5 a2 c2 p1 ∧ RepS (cInt .i64) m5 a4 c4 o1.2.2) ?_ ?_
      · clear hr st
        have hr := hrKu1
        clear hrKu1
        rintro _ w9 ⟨a3, c3, a4, c4, m5, rfl, hm, st, r3, hb1, r1, hb2, r2, r4⟩
        refine ⟨_, rfl, ?_⟩
        refine WO_seg 3 [(30, .agg #[.slice a3 (List.length o1.1) c3]), (31, .bool o1.2.1)] (by kernel_rfl) (by kernel_rfl) ?_
        refine WO_one rfl (One_alloc (d := 10) (e := 24) (.agg #[.slice none 0 0]) (by kernel_rfl) rfl (by kernel_rfl) st ?_)
        clear st
        intro b11 w28 st
        refine WO_one rfl (One_store (t := 24) (x := (.tmp 10)) (y := (.tmp 30)) (v := .agg #[.slice a3 (List.length o1.1) c3]) (c' := #[.slice a3 (List.length o1.1) c3]) (by kernel_rfl) (show evL _ _ = some (.pointer (some ⟨b11, 0, none⟩)) from (by kernel_rfl)) (show evL _ _ = some (.agg #[.slice a3 (List.length o1.1) c3]) from (by kernel_rfl)) st (by kernel_rfl) (by kernel_rfl) ?_)
        clear st
        intro w29 st
        refine WO_seg 1 [(11, .bool o1.2.1)] (by kernel_rfl) (by kernel_rfl) ?_
        refine WO_end rfl ?_
        refine X_then ?_
        refine W_seq ?_
        refine W_seq ?_
        refine W_region ?_
        refine WO_seg 2 [(33, .bool (!o1.2.1))] (by kernel_rfl) (by kernel_rfl) ?_
        refine WO_end rfl ?_
        refine X_then ?_
        refine W_cond (!o1.2.1) (by kernel_rfl) ?_ ?_
        · intro hc
          rw [if_pos hc] at hr
          refine W_seq ?_
          refine W_region ?_
          refine WO_seg 1 [(34, .agg #[.slice none (List.length ([] : List (ByteArray))) 0])] (by kernel_rfl) (by kernel_rfl) ?_
          have st := st.front2
          refine WO_one rfl (One_store (t := 24) (x := (.tmp 4)) (y := (.tmp 34)) (v := .agg #[.slice none (List.length ([] : List (ByteArray))) 0]) (c' := #[.slice none (List.length ([] : List (ByteArray))) 0]) (by kernel_rfl) (show evL _ _ = some (.pointer (some ⟨b3, 0, none⟩)) from (by kernel_rfl)) (show evL _ _ = some (.agg #[.slice none (List.length ([] : List (ByteArray))) 0]) from (by kernel_rfl)) st (by kernel_rfl) (by kernel_rfl) ?_)
          clear st
          intro w30 st
          refine WO_seg 2 [(5, .slice none (List.length ([] : List (Int))) 0), (6, .int .i64 2)] (by kernel_rfl) (by kernel_rfl) ?_
          refine WO_end rfl ?_
          refine X_then ?_
          refine W_ret ?_
          refine X_then_ret ?_
          obtain rfl := Option.some.inj hr
          refine X_ret [.cell 4 24, .tmp 5, .tmp 6] [.agg #[.slice none (List.length ([] : List (ByteArray))) 0], .slice none (List.length ([] : List (Int))) 0, .int .i64 2] rfl (ResAll.cons (ResAt.blk (v := .agg #[.slice none (List.length ([] : List (ByteArray))) 0]) (o := 0) (by kernel_rfl) st.head (by kernel_rfl)) (ResAll.cons (ResAt.tmp (by kernel_rfl)) (ResAll.cons (ResAt.tmp (by kernel_rfl)) ResAll.nil))) ?_
          have st := st.nilroom 9 1
          have st := st.nilroom 3 1
          have st := st.front2
          have st := st.tail
          have st := st.front2
          have st := st.tail
          have st := st.front2
          have st := st.tail
          have st := st.front2
          have st := st.tail
          have st := st.front2
          have st := st.tail
          have st := st.front1
          exact ⟨none, 0, none, 0, m5, rfl, hm, st, (RepS.nil _ _), (RepS.nil _ _)⟩
        · intro hc
          rw [if_neg (not_true hc)] at hr
          refine W_skip ?_
          refine X_then ?_
          refine W_seq ?_
          refine W_draw [(5, fun w' => Inv m5 w' ∧ Piece.holds m5 w' (.blk b11 (.cells #[.slice a3 (List.length o1.1) c3] 24 (0, 0))) ∧ Piece.holds m5 w' (.blk b4 (.cells #[.slice a4 (List.length o1.2.2) c4] 32 (0, 0))) ∧ True)] (by kernel_rfl) st ?_
          clear st
          intro w31 _ st
          have hmS := m5.le_refl
          refine ⟨⟨.inr ⟨Inv.anti st.inv hmS, Piece.holds_anti st.head hmS, Piece.holds_anti st.tail.head hmS, trivial⟩, trivial⟩, ?_⟩
          refine WA_load_own (t := 24) (x := (.tmp 10)) 0 35 (.agg #[.slice a3 (List.length o1.1) c3]) (by kernel_rfl) rfl (by kernel_rfl) (.head _) (QP_then QP_body) (fun _ h => h.2.1) (show evL _ _ = some (.pointer (some ⟨b11, 0, none⟩)) from (by kernel_rfl)) (by kernel_rfl) ?_
          refine WA_load_own (t := 32) (x := (.tmp 9)) 1 36 (.slice a4 (List.length o1.2.2) c4) (by kernel_rfl) rfl (by kernel_rfl) (.head _) (QP_then QP_body) (fun _ h => h.2.2.1) (show evL _ _ = some (.pointer (some ⟨b4, 0, none⟩)) from (by kernel_rfl)) (by kernel_rfl) ?_
          have st := st.front2
          refine WA_one 2 (by kernel_rfl) (One_store (t := 24) (x := (.tmp 4)) (y := (.tmp 35)) (v := .agg #[.slice a3 (List.length o1.1) c3]) (c' := #[.slice a3 (List.length o1.1) c3]) (by kernel_rfl) (show evL _ _ = some (.pointer (some ⟨b3, 0, none⟩)) from (by kernel_rfl)) (show evL _ _ = some (.agg #[.slice a3 (List.length o1.1) c3]) from (by kernel_rfl)) st (by kernel_rfl) (by kernel_rfl) ?_)
          clear st
          intro w32 st
          refine ⟨⟨.inr ⟨Inv.anti st.inv hmS, Piece.holds_anti st.tail.head hmS, Piece.holds_anti st.tail.tail.head hmS, trivial⟩, trivial⟩, ?_⟩
          refine WA_pure 3 5 (.slice a4 (List.length o1.2.2) c4) (by kernel_rfl) rfl (by kernel_rfl) (.head _) (QP_then QP_body) ?_
          refine WA_pure 4 6 (.int .i64 0) (by kernel_rfl) rfl (by kernel_rfl) (.head _) (QP_then QP_body) ?_
          refine WA_done (by kernel_rfl) ?_
          refine X_then ?_
          refine W_ret ?_
          obtain rfl := Option.some.inj hr
          refine X_ret [.cell 4 24, .tmp 5, .tmp 6] [.agg #[.slice a3 (List.length o1.1) c3], .slice a4 (List.length o1.2.2) c4, .int .i64 0] rfl (ResAll.cons (ResAt.blk (v := .agg #[.slice a3 (List.length o1.1) c3]) (o := 0) (by kernel_rfl) st.head (by kernel_rfl)) (ResAll.cons (ResAt.tmp (by kernel_rfl)) (ResAll.cons (ResAt.tmp (by kernel_rfl)) ResAll.nil))) ?_
          have st := st.tail
          have st := st.tail
          have st := st.tail
          have st := st.front1
          have st := st.front1
          exact ⟨a3, c3, a4, c4, m5, rfl, hm, st, r3, r4⟩
      · clear hrKu1
        refine W_calls Go.Proofs.Try.func66 rfl Go.Proofs.Try.ntmps66 [(0, .agg #[.slice a1 (List.length p0) c1]), (1, .slice a2 (List.length p1) c2), (2, .func (.func 67) #[] #[.pointer (some ⟨b4, 0, none⟩)])] (by kernel_rfl) rfl ?_
        refine W_seq ?_
        refine W_region ?_
        refine WO_one rfl (One_box (d := 3) (e := 24) (x := (.tmp 0)) (.agg #[.slice a1 (List.length p0) c1]) (by kernel_rfl) rfl (by kernel_rfl) st ?_)
        clear st
        intro b5 m6 w10 hle5 st hb3
        have hm := Mem.le_trans hm hle5
        have r1 := r1.mono hle5
        have r2 := r2.mono hle5
        have hb1 := hb1.mono hle5
        have hb2 := hb2.mono hle5
        refine WO_one rfl (One_alloc (d := 6) (e := 24) (.agg #[.slice none 0 0]) (by kernel_rfl) rfl (by kernel_rfl) st ?_)
        clear st
        intro b6 w11 st
        refine WO_seg 1 [] (by kernel_rfl) (by kernel_rfl) ?_
        refine WO_end rfl ?_
        refine X_then ?_
        refine W_seq ?_
        refine W_region ?_
        refine WO_one rfl (One_load_row (d := 16) (t := 24) (x := (.tmp 3)) (.agg #[.slice a1 (List.length p0) c1]) (by kernel_rfl) rfl (show evL _ _ = some (.pointer (some ⟨b5, 0, none⟩)) from (by kernel_rfl)) st hb3 (by kernel_rfl) ?_)
        replace hr := bindS hr
        obtain ⟨y3, hx3, hr⟩ := hr
        refine WO_one rfl (One_fn 17 62 #[.agg #[.slice a1 (List.length p0) c1]] (by kernel_rfl) rfl ?_)
        refine (contents_numbers_ok st r1 hx3).mono ?_
        clear st
        rintro _ w12 ⟨q1, es1, ck1, m7, rfl, hle6, st, r5⟩
        refine ⟨_, rfl, ?_⟩
        have hm := Mem.le_trans hm hle6
        have r2 := r2.mono hle6
        have hb3 := hb3.mono hle6
        have r1 := r1.mono hle6
        have hb1 := hb1.mono hle6
        have hb2 := hb2.mono hle6
        refine WO_seg 5 [(8, .map q1)] (by kernel_rfl) (by kernel_rfl) ?_
        refine WO_end rfl ?_
        refine X_then ?_
        refine W_seq ?_
        refine W_region ?_
        refine WO_seg 1 [(20, .pointer (some ⟨b5, 0, none⟩))] (by kernel_rfl) (by kernel_rfl) ?_
        refine WO_one rfl (One_load_row (d := 21) (t := 22) (x := (.tmp 20)) (.slice a1 (List.length p0) c1) (by kernel_rfl) rfl (show evL _ _ = some (.pointer (some ⟨b5, 0, none⟩)) from (by kernel_rfl)) st hb3 (by kernel_rfl) ?_)
        replace hr := bindS hr
        obtain ⟨y4, hx4, hr⟩ := hr
        refine WO_one rfl (One_fn 22 71 #[.slice a1 (List.length p0) c1] (by kernel_rfl) rfl ?_)
        refine (slices_Clone_string_string_ok st r1 hx4).mono ?_
        clear st
        rintro _ w13 ⟨a5, c5, m8, rfl, hle7, st, r6⟩
        refine ⟨_, rfl, ?_⟩
        have hm := Mem.le_trans hm hle7
        have r2 := r2.mono hle7
        have hb3 := hb3.mono hle7
        have r1 := r1.mono hle7
        have hb1 := hb1.mono hle7
        have hb2 := hb2.mono hle7
        have r5 := r5.mono hle7
        refine WO_seg 1 [(23, .agg #[.slice a5 (List.length y4) c5])] (by kernel_rfl) (by kernel_rfl) ?_
        refine WO_one rfl (One_alloc (d := 10) (e := 24) (.agg #[.slice none 0 0]) (by kernel_rfl) rfl (by kernel_rfl) st ?_)
        clear st
        intro b7 w14 st
        refine WO_one rfl (One_store (t := 24) (x := (.tmp 10)) (y := (.tmp 23)) (v := .agg #[.slice a5 (List.length y4) c5]) (c' := #[.slice a5 (List.length y4) c5]) (by kernel_rfl) (show evL _ _ = some (.pointer (some ⟨b7, 0, none⟩)) from (by kernel_rfl)) (show evL _ _ = some (.agg #[.slice a5 (List.length y4) c5]) from (by kernel_rfl)) st (by kernel_rfl) (by kernel_rfl) ?_)
        clear st
        intro w15 st
        refine WO_end rfl ?_
        refine X_then ?_
        refine W_seq ?_
        refine W_seq ?_
        refine W_region ?_
        refine WO_seg 3 [(24, .slice a2 (List.length p1) c2), (25, .int .i64 (List.length p1 : Int)), (26, .int .i64 0)] (by kernel_rfl) (by kernel_rfl) ?_
        refine WO_end rfl ?_
        refine X_then ?_
        refine W_block ?_
        replace hr := bindS hr
        obtain ⟨out1, hr, hrKu2⟩ := hr
        refine W_cut (.exit 0) (fun L' w' => ∃ (o2 : List (ByteArray) × List (Int) × (Option (List (ByteArray × Int)))) (a6 : Option Addr) (c6 : Nat) (a7 : Option Addr) (c7 : Nat) (es2 : Array MapEntry) (ck2 : Nat) (m9 : Mem), (.inl o2) = out1 ∧ L' = [(6, .pointer (some ⟨b6, 0, none⟩)), (10, .pointer (some ⟨b7, 0, none⟩))] ∧ m.le m9 ∧ St m9 (.blk b7 (.cells #[.slice a6 (List.length o2.1) c6] 24 (0, 0)) :: .blk b6 (.cells #[.slice none (List.length ([] : List (ByteArray))) 0] 24 (0, 0)) :: .blk b4 (.cells #[.slice a7 (List.length o2.2.1) c7] 32 (0, 0)) :: .blk b3 (.cells #[.slice none (List.length ([] : List (ByteArray))) 0] 24 (0, 0)) :: mpiece q1 es2 ck2 :: .room a6 (List.length o2.1) c6 9 1 :: .room a7 (List.length o2.2.1) c7 3 1 :: own) w' ∧ MRow m9 b1 0 [.slice a1 (List.length p0) c1] ∧ RepS cStr m9 a1 c1 p0 ∧ MRow m9 b2 0 [.slice a2 (List.length p1) c2] ∧ RepS cStr m9 a2 c2 p1 ∧ RepS cStr m9 a6 c6 o2.1 ∧ RepS (cInt .i64) m9 a7 c7 o2.2.1 ∧ MapQ (fun s : ByteArray => Value.string s) (cInt .i64) false m9 q1 es2 o2.2.2) ?_ ?_
        · clear hr st
          rintro _ w16 ⟨o2, a6, c6, a7, c7, es2, ck2, m9, rfl, rfl, hm, st, hb1, r1, hb2, r2, r7, r8, r9⟩
          have hr := hrKu2
          clear hrKu2
          dsimp only at hr
          refine X_block_eq ?_
          refine X_then ?_
          refine W_seq ?_
          refine W_region ?_
          refine WO_one rfl (One_load_own (d := 59) (t := 24) (x := (.tmp 10)) (.agg #[.slice a6 (List.length o2.1) c6]) (by kernel_rfl) rfl (show evL _ _ = some (.pointer (some ⟨b7, 0, none⟩)) from (by kernel_rfl)) st.head (by kernel_rfl) ?_)
          have st := st.front1
          refine WO_one rfl (One_store (t := 24) (x := (.tmp 6)) (y := (.tmp 59)) (v := .agg #[.slice a6 (List.length o2.1) c6]) (c' := #[.slice a6 (List.length o2.1) c6]) (by kernel_rfl) (show evL _ _ = some (.pointer (some ⟨b6, 0, none⟩)) from (by kernel_rfl)) (show evL _ _ = some (.agg #[.slice a6 (List.length o2.1) c6]) from (by kernel_rfl)) st (by kernel_rfl) (by kernel_rfl) ?_)
          clear st
          intro w27 st
          refine WO_seg 1 [(7, .bool true)] (by kernel_rfl) (by kernel_rfl) ?_
          refine WO_end rfl ?_
          refine X_then ?_
          refine W_ret ?_
          obtain rfl := Option.some.inj hr
          refine X_ret [.cell 6 24, .tmp 7] [.agg #[.slice a6 (List.length o2.1) c6], .bool true] rfl (ResAll.cons (ResAt.blk (v := .agg #[.slice a6 (List.length o2.1) c6]) (o := 0) (by kernel_rfl) st.head (by kernel_rfl)) (ResAll.cons (ResAt.tmp (by kernel_rfl)) ResAll.nil)) ?_
          have st := st.tail
          have st := st.tail
          have st := st.front2
          have st := st.tail
          have st := st.front3
          have st := st.front3
          have st := st.front3
          have st := st.front3
          exact ⟨_, rfl, ⟨a6, c6, a7, c7, m9, rfl, hm, st, r7, hb1, r1, hb2, r2, r8⟩⟩
        intro K0_u2
        have st := st.nilroom 3 1
        have st := st.front2
        have st := st.front3
        have st := st.front6
        have st := st.front6
        have st := st.front6
        have st := st.front6
        refine W_env _ (by kernel_rfl) (W_loop (fun k1 L' w' => ∃ (s1 : Int × List (ByteArray) × List (Int) × (Option (List (ByteArray × Int)))) (a8 : Option Addr) (c8 : Nat) (a9 : Option Addr) (c9 : Nat) (es3 : Array MapEntry) (ck3 : Nat) (m10 : Mem), loopM (contents_Merge_L1 N p1) k1 s1 = some out1 ∧ L' = [(2, .func (.func 67) #[] #[.pointer (some ⟨b4, 0, none⟩)]), (6, .pointer (some ⟨b6, 0, none⟩)), (8, .map q1), (10, .pointer (some ⟨b7, 0, none⟩)), (24, .slice a2 (List.length p1) c2), (25, .int .i64 (List.length p1 : Int)), (26, .int .i64 s1.1)] ∧ m.le m10 ∧ St m10 (.blk b7 (.cells #[.slice a8 (List.length s1.2.1) c8] 24 (0, 0)) :: .blk b6 (.cells #[.slice none (List.length ([] : List (ByteArray))) 0] 24 (0, 0)) :: .blk b4 (.cells #[.slice a9 (List.length s1.2.2.1) c9] 32 (0, 0)) :: .blk b3 (.cells #[.slice none (List.length ([] : List (ByteArray))) 0] 24 (0, 0)) :: mpiece q1 es3 ck3 :: .room a8 (List.length s1.2.1) c8 9 1 :: .room a9 (List.length s1.2.2.1) c9 3 1 :: own) w' ∧ RepS cStr m10 a2 c2 p1 ∧ MRow m10 b1 0 [.slice a1 (List.length p0) c1] ∧ RepS cStr m10 a1 c1 p0 ∧ MRow m10 b2 0 [.slice a2 (List.length p1) c2] ∧ RepS cStr m10 a8 c8 s1.2.1 ∧ RepS (cInt .i64) m10 a9 c9 s1.2.2.1 ∧ MapQ (fun s : ByteArray => Value.string s) (cInt .i64) false m10 q1 es3 s1.2.2.2) N ⟨(0, y4, ([] : List (Int)), y3.1), a5, c5, none, 0, es1, ck1, m8, hr, rfl, hm, st, r2, hb1, r1, hb2, r6, (RepS.nil _ _), r5⟩ ?_)
        clear st hr
        rintro k1 _ w17 ⟨s1, a8, c8, a9, c9, es3, ck3, m10, hL, rfl, hm, st, r2, hb1, r1, hb2, r10, r11, r12⟩
        rcases k1 with _ | k1
        · exact loopM_zero hL
        · obtain ⟨qu2, hr, hSu2, hBu2⟩ := loopM_succ hL
          clear hL
          unfold contents_Merge_L1 at hr
          refine W_seq ?_
          refine W_region ?_
          refine WO_seg 1 [(27, .bool (decide (s1.1 < (List.length p1 : Int))))] (by kernel_rfl) (by kernel_rfl) ?_
          refine WO_end rfl ?_
          refine X_then ?_
          refine W_seq ?_
          refine W_cond (decide (s1.1 < (List.length p1 : Int))) (by kernel_rfl) ?_ ?_
          · intro hc
            rw [if_pos hc] at hr
            refine W_skip ?_
            refine X_then ?_
            refine W_seq ?_
            refine W_block ?_
            refine W_seq ?_
            refine W_region ?_
            replace hr := bindS hr
            obtain ⟨x1, hx5, hr⟩ := hr
            refine WO_one rfl (One_index (d := 28) (t := 22) (e := 9) (x := (.tmp 24)) (y := (.tmp 26)) cStr (by kernel_rfl) rfl (show evL _ _ = some (.slice a2 (List.length p1) c2) from (by kernel_rfl)) (show evL _ _ = some (.int .i64 s1.1) from (by kernel_rfl)) (by kernel_rfl) r2 hx5 ?_)
            rintro b8 f1 cs1 rfl hq1
            refine WO_one rfl (One_load_row (d := 29) (t := 9) (x := (.tmp 28)) (.string x1) (by kernel_rfl) rfl (show evL _ _ = some (.pointer (some ⟨b8, f1, none⟩)) from (by kernel_rfl)) st hq1 (by kernel_rfl) ?_)
            refine WO_seg 1 [(12, .string x1)] (by kernel_rfl) (by kernel_rfl) ?_
            refine WO_end rfl ?_
            refine X_then ?_
            refine W_seq ?_
            refine W_region ?_
            refine WO_seg 2 [(31, .map q1), (32, .string x1)] (by kernel_rfl) (by kernel_rfl) ?_
            refine WO_one rfl (One_lookup (ek := (fun s : ByteArray => Value.string s)) (c := (cInt .i64)) (agg := false) (k := x1) (zx := 0) (zcs := [.int .i64 0]) (z := (.int .i64 0)) (kt := 9) (et := 3) (d := 33) (t := 92) (x := (.tmp 31)) (y := (.tmp 32)) (ok := true) (by kernel_rfl) rfl (show evL _ _ = some (.map q1) from (by kernel_rfl)) (show evL _ _ = some (.string x1) from (by kernel_rfl)) (by kernel_rfl) (keyStr (by kernel_rfl)) st.tail.tail.tail.tail.head r12 rfl rfl ?_)
            rintro cs2 rfl
            refine WO_seg 5 [(13, .int .i64 ((mgetQ s1.2.2.2 x1).getD 0)), (14, .bool ((mgetQ s1.2.2.2 x1).isSome))] (by kernel_rfl) (by kernel_rfl) ?_
            refine WO_end rfl ?_
            refine X_then ?_
            refine W_seq ?_
            refine W_seq ?_
            refine W_region ?_
            refine WO_seg 2 [(37, .bool (!((mgetQ s1.2.2.2 x1).isSome)))] (by kernel_rfl) (by kernel_rfl) ?_
            refine WO_end rfl ?_
            refine X_then ?_
            replace hr := bindS hr
            obtain ⟨qu3, hr, hrKu3⟩ := hr
            refine W_cut .normal (fun L' w' => ∃ (o3 : Int × List (ByteArray) × (Option (List (ByteArray × Int)))) (a10 : Option Addr) (c10 : Nat) (es4 : Array MapEntry) (ck4 : Nat) (m11 : Mem), (.inl o3 : (Int × List (ByteArray) × (Option (List (ByteArray × Int)))) ⊕ ((Int × List (ByteArray) × List (Int) × (Option (List (ByteArray × Int)))) ⊕ ((List (ByteArray) × List (Int) × (Option (List (ByteArray × Int)))) ⊕ (List (ByteArray) × Bool × List (Int))))) = qu3 ∧ L' = [(2, .func (.func 67) #[] #[.pointer (some ⟨b4, 0, none⟩)]), (6, .pointer (some ⟨b6, 0, none⟩)), (8, .map q1), (10, .pointer (some ⟨b7, 0, none⟩)), (13, .int .i64 o3.1), (24, .slice a2 (List.length p1) c2), (25, .int .i64 (List.length p1 : Int)), (26, .int .i64 s1.1)] ∧ m.le m11 ∧ St m11 (.blk b7 (.cells #[.slice a10 (List.length o3.2.1) c10] 24 (0, 0)) :: .blk b6 (.cells #[.slice none (List.length ([] : List (ByteArray))) 0] 24 (0, 0)) :: .blk b4 (.cells #[.slice a9 (List.length s1.2.2.1) c9] 32 (0, 0)) :: .blk b3 (.cells #[.slice none (List.length ([] : List (ByteArray))) 0] 24 (0, 0)) :: mpiece q1 es4 ck4 :: .room a9 (List.length s1.2.2.1) c9 3 1 :: .room a10 (List.length o3.2.1) c10 9 1 :: own) w' ∧ RepS cStr m11 a2 c2 p1 ∧ MRow m11 b1 0 [.slice a1 (List.length p0) c1] ∧ RepS cStr m11 a1 c1 p0 ∧ MRow m11 b2 0 [.slice a2 (List.length p1) c2] ∧ RepS cStr m11 a10 c10 o3.2.1 ∧ RepS (cInt .i64) m11 a9 c9 s1.2.2.1 ∧ MapQ (fun s : ByteArray => Value.string s) (cInt .i64) false m11 q1 es4 o3.2.2) ?_ ?_
            · clear hr st
              rintro _ w18 ⟨o3, a10, c10, es4, ck4, m11, rfl, rfl, hm, st, r2, hb1, r1, hb2, r13, r11, r14⟩
              have hr := hrKu3
              clear hrKu3
              dsimp only at hr
              refine X_then ?_
              refine W_region ?_
              refine WO_seg 2 [(55, .func (.func 67) #[] #[.pointer (some ⟨b4, 0, none⟩)]), (56, .int .i64 o3.1)] (by kernel_rfl) (by kernel_rfl) ?_
              refine WO_one rfl (One_fn 57 67 #[.int .i64 o3.1, .pointer (some ⟨b4, 0, none⟩)] (by kernel_rfl) rfl ?_)
              refine W_calls Go.Proofs.Try.func67 rfl Go.Proofs.Try.ntmps67 [(0, .int .i64 o3.1), (1, .pointer (some ⟨b4, 0, none⟩))] (by kernel_rfl) rfl ?_
              refine W_region ?_
              refine WO_one rfl (One_load_own (d := 3) (t := 32) (x := (.tmp 1)) (.slice a9 (List.length s1.2.2.1) c9) (by kernel_rfl) rfl (show evL _ _ = some (.pointer (some ⟨b4, 0, none⟩)) from (by kernel_rfl)) st.tail.tail.head (by kernel_rfl) ?_)
              refine WO_seg 1 [(4, .int .i64 o3.1)] (by kernel_rfl) (by kernel_rfl) ?_
              refine WO_one rfl (One_buildSlice (d := 5) (t := 32) (e := 3) (len := 1) (parts := #[(0, (.tmp 4))]) (cInt .i64) (xs := [o3.1]) [.int .i64 o3.1] (by kernel_rfl) rfl (fun _ => buildCells_run (by kernel_rfl) _) rfl rfl st ⟨[.int .i64 o3.1], _, rfl, rfl, rfl⟩ ?_)
              clear st
              intro b10 m14 w24 hle10 st r18
              have hm := Mem.le_trans hm hle10
              have r11 := r11.mono hle10
              have hb1 := hb1.mono hle10
              have r1 := r1.mono hle10
              have hb2 := hb2.mono hle10
              have r2 := r2.mono hle10
              have r13 := r13.mono hle10
              have r14 := r14.mono hle10
              have st := st.front6
              replace hr := bindS hr
              obtain ⟨l2, hx8, hr⟩ := hr
              refine WO_one rfl (One_append (d := 6) (t := 32) (u := 32) (e := 3) (by_ := 8) (x := (.tmp 3)) (y := (.tmp 5)) (cInt .i64) (by kernel_rfl) rfl (show evL _ _ = some (.slice a9 (List.length s1.2.2.1) c9) from (by kernel_rfl)) (show evL _ _ = some (.slice (some ⟨b10, 0, none⟩) (List.length ([o3.1])) 1) from (by kernel_rfl)) st (by kernel_rfl) (.inl (by kernel_rfl)) r11 r18.src hx8 ?_)
              clear st
              intro a12 c12 m15 w25 hle11 st r19
              have hm := Mem.le_trans hm hle11
              have r11 := r11.mono hle11
              have r18 := r18.mono hle11
              have hb1 := hb1.mono hle11
              have r1 := r1.mono hle11
              have hb2 := hb2.mono hle11
              have r2 := r2.mono hle11
              have r13 := r13.mono hle11
              have r14 := r14.mono hle11
              have st := st.front4
              refine WO_one rfl (One_store (t := 32) (x := (.tmp 1)) (y := (.tmp 6)) (v := .slice a12 (List.length l2) c12) (c' := #[.slice a12 (List.length l2) c12]) (by kernel_rfl) (show evL _ _ = some (.pointer (some ⟨b4, 0, none⟩)) from (by kernel_rfl)) (show evL _ _ = some (.slice a12 (List.length l2) c12) from (by kernel_rfl)) st (by kernel_rfl) (by kernel_rfl) ?_)
              clear st
              intro w26 st
              refine WO_end rfl ?_
              have st := st.front2
              have st := st.tail
              refine X_fall [] [] rfl ResAll.nil ?_
              refine ⟨_, rfl, ?_⟩
              refine WO_end rfl ?_
              refine X_block ?_
              refine X_then ?_
              refine W_region ?_
              refine WO_seg 2 [(26, .int .i64 (IntKind.wrap .i64 (s1.1 + 1)))] (by kernel_rfl) (by kernel_rfl) ?_
              refine WO_end rfl ?_
              obtain rfl := Option.some.inj hr
              have hL := hSu2 _ rfl
              have st := st.front1
              have st := st.front6
              have st := st.front6
              have st := st.front6
              have st := st.front4
              have st := st.front6
              have st := st.front6
              exact X_env _ (by kernel_rfl) (X_round k1 (Nat.lt_succ_self _) ⟨(IntKind.wrap .i64 (s1.1 + 1), o3.2.1, l2, o3.2.2), a10, c10, a12, c12, es4, ck4, m15, hL, rfl, hm, st, r2, hb1, r1, hb2, r13, r19, r14⟩)
            · intro Ku3
              refine W_cond (!((mgetQ s1.2.2.2 x1).isSome)) (by kernel_rfl) ?_ ?_
              · intro hc
                rw [if_pos hc] at hr
                refine W_seq ?_
                refine W_seq ?_
                refine W_region ?_
                refine WO_seg 1 [(38, .pointer (some ⟨b7, 0, none⟩))] (by kernel_rfl) (by kernel_rfl) ?_
                refine WO_one rfl (One_load_own (d := 39) (t := 22) (x := (.tmp 38)) (.slice a8 (List.length s1.2.1) c8) (by kernel_rfl) rfl (show evL _ _ = some (.pointer (some ⟨b7, 0, none⟩)) from (by kernel_rfl)) st.head (by kernel_rfl) ?_)
                refine WO_seg 2 [(41, .bool ((List.length s1.2.1 : Int) == 4096))] (by kernel_rfl) (by kernel_rfl) ?_
                refine WO_end rfl ?_
                refine X_then ?_
                refine W_cond ((List.length s1.2.1 : Int) == 4096) (by kernel_rfl) ?_ ?_
                · intro hc
                  rw [if_pos hc] at hr
                  refine W_seq ?_
                  refine W_region ?_
                  refine WO_seg 1 [(42, .agg #[.slice none (List.length ([] : List (ByteArray))) 0])] (by kernel_rfl) (by kernel_rfl) ?_
                  have st := st.front1
                  refine WO_one rfl (One_store (t := 24) (x := (.tmp 6)) (y := (.tmp 42)) (v := .agg #[.slice none (List.length ([] : List (ByteArray))) 0]) (c' := #[.slice none (List.length ([] : List (ByteArray))) 0]) (by kernel_rfl) (show evL _ _ = some (.pointer (some ⟨b6, 0, none⟩)) from (by kernel_rfl)) (show evL _ _ = some (.agg #[.slice none (List.length ([] : List (ByteArray))) 0]) from (by kernel_rfl)) st (by kernel_rfl) (by kernel_rfl) ?_)
                  clear st
                  intro w19 st
                  refine WO_seg 1 [(7, .bool false)] (by kernel_rfl) (by kernel_rfl) ?_
                  refine WO_end rfl ?_
                  refine X_then ?_
                  refine W_ret ?_
                  refine X_then_ret ?_
                  replace hr := Option.map_eq_some_iff.1 hr
                  obtain ⟨zu3, hr, hzu3⟩ := hr
                  subst hzu3
                  have hrKu3 := Option.some.inj hrKu3
                  subst hrKu3
                  refine X_then_ret ?_
                  refine X_block_ret ?_
                  refine X_then_ret ?_
                  obtain rfl := Option.some.inj hr
                  have ho := hBu2 _ rfl
                  subst ho
                  have hr := hrKu2
                  dsimp only at hr
                  refine X_then_ret ?_
                  refine X_block_ret ?_
                  refine X_then_ret ?_
                  obtain rfl := Option.some.inj hr
                  refine X_ret [.cell 6 24, .tmp 7] [.agg #[.slice none (List.length ([] : List (ByteArray))) 0], .bool false] rfl (ResAll.cons (ResAt.blk (v := .agg #[.slice none (List.length ([] : List (ByteArray))) 0]) (o := 0) (by kernel_rfl) st.head (by kernel_rfl)) (ResAll.cons (ResAt.tmp (by kernel_rfl)) ResAll.nil)) ?_
                  have st := st.nilroom 9 1
                  have st := st.front1
                  have st := st.tail
                  have st := st.front1
                  have st := st.tail
                  have st := st.front3
                  have st := st.tail
                  have st := st.front3
                  have st := st.tail
                  have st := st.front3
                  have st := st.front1
                  have st := st.front3
                  have st := st.front3
                  exact ⟨_, rfl, ⟨none, 0, a9, c9, m10, rfl, hm, st, (RepS.nil _ _), hb1, r1, hb2, r2, r11⟩⟩
                · intro hc
                  rw [if_neg (not_true hc)] at hr
                  refine W_skip ?_
                  refine X_then ?_
                  refine W_seq ?_
                  refine W_region ?_
                  refine WO_seg 1 [(43, .pointer (some ⟨b7, 0, none⟩))] (by kernel_rfl) (by kernel_rfl) ?_
                  refine WO_one rfl (One_load_own (d := 44) (t := 22) (x := (.tmp 43)) (.slice a8 (List.length s1.2.1) c8) (by kernel_rfl) rfl (show evL _ _ = some (.pointer (some ⟨b7, 0, none⟩)) from (by kernel_rfl)) st.head (by kernel_rfl) ?_)
                  refine WO_seg 2 [(13, .int .i64 (List.length s1.2.1 : Int))] (by kernel_rfl) (by kernel_rfl) ?_
                  refine WO_end rfl ?_
                  refine X_then ?_
                  refine W_seq ?_
                  refine W_region ?_
                  refine WO_seg 3 [(46, .map q1), (47, .string x1), (48, .int .i64 (List.length s1.2.1 : Int))] (by kernel_rfl) (by kernel_rfl) ?_
                  have st := st.front4
                  replace hr := bindS hr
                  obtain ⟨mp1, hx6, hr⟩ := hr
                  refine WO_one rfl (One_mapUpdate (ek := (fun s : ByteArray => Value.string s)) (c := (cInt .i64)) (agg := false) (k := x1) (yv := (List.length s1.2.1 : Int)) (cs := [.int .i64 (List.length s1.2.1 : Int)]) (z := (.int .i64 0)) (v := (.int .i64 (List.length s1.2.1 : Int))) (kt := 9) (et := 3) (t := 92) (x := (.tmp 46)) (y := (.tmp 47)) (u := (.tmp 48)) (by kernel_rfl) (show evL _ _ = some (.map q1) from (by kernel_rfl)) (show evL _ _ = some (.string x1) from (by kernel_rfl)) (show evL _ _ = some (.int .i64 (List.length s1.2.1 : Int)) from (by kernel_rfl)) (by kernel_rfl) (keyStr (by kernel_rfl)) st r12 rfl rfl hx6 ?_)
                  clear st
                  intro es5 ck5 w20 st r15
                  refine WO_end rfl ?_
                  refine X_then ?_
                  refine W_region ?_
                  refine WO_seg 1 [(49, .pointer (some ⟨b7, 0, none⟩))] (by kernel_rfl) (by kernel_rfl) ?_
                  refine WO_one rfl (One_load_own (d := 50) (t := 22) (x := (.tmp 49)) (.slice a8 (List.length s1.2.1) c8) (by kernel_rfl) rfl (show evL _ _ = some (.pointer (some ⟨b7, 0, none⟩)) from (by kernel_rfl)) st.tail.head (by kernel_rfl) ?_)
                  refine WO_seg 1 [(51, .string x1)] (by kernel_rfl) (by kernel_rfl) ?_
                  refine WO_one rfl (One_buildSlice (d := 52) (t := 22) (e := 9) (len := 1) (parts := #[(0, (.tmp 51))]) cStr (xs := [x1]) [.string x1] (by kernel_rfl) rfl (fun _ => buildCells_run (by kernel_rfl) _) rfl rfl st ⟨[.string x1], _, rfl, rfl, rfl⟩ ?_)
                  clear st
                  intro b9 m12 w21 hle8 st r16
                  have hm := Mem.le_trans hm hle8
                  have r2 := r2.mono hle8
                  have r10 := r10.mono hle8
                  have hb1 := hb1.mono hle8
                  have r1 := r1.mono hle8
                  have hb2 := hb2.mono hle8
                  have r15 := r15.mono hle8
                  have r11 := r11.mono hle8
                  have st := st.front6
                  replace hr := bindS hr
                  obtain ⟨l1, hx7, hr⟩ := hr
                  refine WO_one rfl (One_append (d := 53) (t := 22) (u := 22) (e := 9) (by_ := 16) (x := (.tmp 50)) (y := (.tmp 52)) cStr (by kernel_rfl) rfl (show evL _ _ = some (.slice a8 (List.length s1.2.1) c8) from (by kernel_rfl)) (show evL _ _ = some (.slice (some ⟨b9, 0, none⟩) (List.length ([x1])) 1) from (by kernel_rfl)) st (by kernel_rfl) (.inl (by kernel_rfl)) r10 r16.src hx7 ?_)
                  clear st
                  intro a11 c11 m13 w22 hle9 st r17
                  have hm := Mem.le_trans hm hle9
                  have r2 := r2.mono hle9
                  have r10 := r10.mono hle9
                  have r16 := r16.mono hle9
                  have hb1 := hb1.mono hle9
                  have r1 := r1.mono hle9
                  have hb2 := hb2.mono hle9
                  have r15 := r15.mono hle9
                  have r11 := r11.mono hle9
                  refine WO_seg 1 [(54, .pointer (some ⟨b7, 0, none⟩))] (by kernel_rfl) (by kernel_rfl) ?_
                  have st := st.front3
                  refine WO_one rfl (One_store (t := 22) (x := (.tmp 54)) (y := (.tmp 53)) (v := .slice a11 (List.length l1) c11) (c' := #[.slice a11 (List.length l1) c11]) (by kernel_rfl) (show evL _ _ = some (.pointer (some ⟨b7, 0, none⟩)) from (by kernel_rfl)) (show evL _ _ = some (.slice a11 (List.length l1) c11) from (by kernel_rfl)) st (by kernel_rfl) (by kernel_rfl) ?_)
                  clear st
                  intro w23 st
                  refine WO_end rfl ?_
                  have st := st.front2
                  have st := st.tail
                  have hqu3 := Option.some.inj hr
                  have st := st.front1
                  have st := st.front6
                  have st := st.front3
                  have st := st.front6
                  have st := st.front6
                  have st := st.front6
                  have st := st.front6
                  exact X_env _ (by kernel_rfl) (Ku3 _ _ ⟨((List.length s1.2.1 : Int), l1, mp1), a11, c11, es5, ck5, m13, hqu3, rfl, hm, st, r2, hb1, r1, hb2, r17, r11, r15⟩)
              · intro hc
                rw [if_neg (not_true hc)] at hr
                refine W_skip ?_
                have hqu3 := Option.some.inj hr
                have st := st.front5
                have st := st.front6
                have st := st.front6
                have st := st.front6
                have st := st.front6
                have st := st.front6
                have st := st.front6
                exact X_env _ (by kernel_rfl) (Ku3 _ _ ⟨(((mgetQ s1.2.2.2 x1).getD 0), s1.2.1, s1.2.2.2), a8, c8, es3, ck3, m10, hqu3, rfl, hm, st, r2, hb1, r1, hb2, r10, r11, r12⟩)
          · intro hc
            rw [if_neg (not_true hc)] at hr
            refine W_exit ?_
            refine X_then_exit ?_
            obtain rfl := Option.some.inj hr
            have ho := hBu2 _ rfl
            have st := st.front6
            have st := st.front6
            have st := st.front6
            have st := st.front6
            have st := st.front6
            have st := st.front6
            have st := st.front6
            refine X_then_exit ?_
            exact X_env _ (by kernel_rfl) (K0_u2 _ _ ⟨(s1.2.1, s1.2.2.1, s1.2.2.2), a8, c8, a9, c9, es3, ck3, m10, ho, rfl, hm, st, hb1, r1, hb2, r2, r10, r11, r12⟩)

def contents_Put (N : Nat) (p0 : List ByteArray) (p1 : ByteArray) : Option (List ByteArray × Int × Int) :=
  (contents_Merge N p0 ([p1])).bind fun y1 => if (y1.2.2 != 0) = true then (some (([] : List (ByteArray)), 0, y1.2.2)) else ((idx y1.2.1 0).bind fun x1 => some (y1.1, x1, 0))

set_option maxHeartbeats 4000000 in
set_option maxRecDepth 100000 in
theorem contents_Put_ok {N : Nat} {m : Mem} {own : List Piece} {w : World} {p0 : List ByteArray} {p1 : ByteArray} {a1 : Option Addr} {c1 : Nat} {r : List ByteArray × Int × Int} (st : St m (own) w) (r1 : RepS cStr m a1 c1 p0) (hr : contents_Put N p0 p1 = some r) : Calls Go.Proofs.Try.prog 13 #[.agg #[.slice a1 (List.length p0) c1], .string p1] w fun e w' => ∃ (ra1 : Option Addr) (rc1 : Nat) (m' : Mem), e = .returned (.tuple #[.agg #[.slice ra1 (List.length r.1) rc1], .int .i64 r.2.1, .int .i64 r.2.2]) ∧ m.le m' ∧ St m' (.room ra1 (List.length r.1) rc1 9 1 :: own) w' ∧ RepS cStr m' ra1 rc1 r.1 := by
  unfold contents_Put at hr
  have hm := m.le_refl
  refine W_calls Go.Proofs.Try.func13 rfl Go.Proofs.Try.ntmps13 [(0, .agg #[.slice a1 (List.length p0) c1]), (1, .string p1)] (by kernel_rfl) rfl ?_
  refine W_seq ?_
  refine W_region ?_
  refine WO_one rfl (One_box (d := 2) (e := 24) (x := (.tmp 0)) (.agg #[.slice a1 (List.length p0) c1]) (by kernel_rfl) rfl (by kernel_rfl) st ?_)
  clear st
  intro b1 m1 w1 hle1 st hb1
  have hm := Mem.le_trans hm hle1
  have r1 := r1.mono hle1
  refine WO_one rfl (One_alloc (d := 4) (e := 24) (.agg #[.slice none 0 0]) (by kernel_rfl) rfl (by kernel_rfl) st ?_)
  clear st
  intro b2 w2 st
  refine WO_seg 2 [] (by kernel_rfl) (by kernel_rfl) ?_
  refine WO_end rfl ?_
  refine X_then ?_
  refine W_seq ?_
  refine W_region ?_
  refine WO_one rfl (One_load_row (d := 11) (t := 24) (x := (.tmp 2)) (.agg #[.slice a1 (List.length p0) c1]) (by kernel_rfl) rfl (show evL _ _ = some (.pointer (some ⟨b1, 0, none⟩)) from (by kernel_rfl)) st hb1 (by kernel_rfl) ?_)
  refine WO_seg 1 [(12, .string p1)] (by kernel_rfl) (by kernel_rfl) ?_
  refine WO_one rfl (One_buildSlice (d := 13) (t := 22) (e := 9) (len := 1) (parts := #[(0, (.tmp 12))]) cStr (xs := [p1]) [.string p1] (by kernel_rfl) rfl (fun _ => buildCells_run (by kernel_rfl) _) rfl rfl st ⟨[.string p1], _, rfl, rfl, rfl⟩ ?_)
  clear st
  intro b3 m2 w3 hle2 st r2
  have hm := Mem.le_trans hm hle2
  have hb1 := hb1.mono hle2
  have r1 := r1.mono hle2
  refine WO_seg 1 [(14, .agg #[.slice (some ⟨b3, 0, none⟩) (List.length ([p1])) 1])] (by kernel_rfl) (by kernel_rfl) ?_
  replace hr := bindS hr
  obtain ⟨y1, hx1, hr⟩ := hr
  refine WO_one rfl (One_fn 15 29 #[.agg #[.slice a1 (List.length p0) c1], .agg #[.slice (some ⟨b3, 0, none⟩) (List.length ([p1])) 1]] (by kernel_rfl) rfl ?_)
  refine (contents_Merge_ok st r1 r2 hx1).mono ?_
  clear st
  rintro _ w4 ⟨a2, c2, a3, c3, m3, rfl, hle3, st, r3, r4⟩
  refine ⟨_, rfl, ?_⟩
  have hm := Mem.le_trans hm hle3
  have hb1 := hb1.mono hle3
  have r1 := r1.mono hle3
  have r2 := r2.mono hle3
  refine WO_seg 4 [(16, .agg #[.slice a2 (List.length y1.1) c2]), (17, .slice a3 (List.length y1.2.1) c3), (18, .int .i64 y1.2.2)] (by kernel_rfl) (by kernel_rfl) ?_
  refine WO_one rfl (One_alloc (d := 7) (e := 24) (.agg #[.slice none 0 0]) (by kernel_rfl) rfl (by kernel_rfl) st ?_)
  clear st
  intro b4 w5 st
  refine WO_one rfl (One_store (t := 24) (x := (.tmp 7)) (y := (.tmp 16)) (v := .agg #[.slice a2 (List.length y1.1) c2]) (c' := #[.slice a2 (List.length y1.1) c2]) (by kernel_rfl) (show evL _ _ = some (.pointer (some ⟨b4, 0, none⟩)) from (by kernel_rfl)) (show evL _ _ = some (.agg #[.slice a2 (List.length y1.1) c2]) from (by kernel_rfl)) st (by kernel_rfl) (by kernel_rfl) ?_)
  clear st
  intro w6 st
  refine WO_seg 2 [(8, .slice a3 (List.length y1.2.1) c3), (9, .int .i64 y1.2.2)] (by kernel_rfl) (by kernel_rfl) ?_
  refine WO_end rfl ?_
  have st := st.front3
  have st := st.tail
  refine X_then ?_
  refine W_seq ?_
  refine W_seq ?_
  refine W_region ?_
  refine WO_seg 2 [(20, .bool (y1.2.2 != 0))] (by kernel_rfl) (by kernel_rfl) ?_
  refine WO_end rfl ?_
  refine X_then ?_
  refine W_cond (y1.2.2 != 0) (by kernel_rfl) ?_ ?_
  · intro hc
    rw [if_pos hc] at hr
    refine W_seq ?_
    refine W_region ?_
    refine WO_seg 2 [(21, .agg #[.slice none (List.length ([] : List (ByteArray))) 0]), (22, .int .i64 y1.2.2)] (by kernel_rfl) (by kernel_rfl) ?_
    have st := st.front3
    refine WO_one rfl (One_store (t := 24) (x := (.tmp 4)) (y := (.tmp 21)) (v := .agg #[.slice none (List.length ([] : List (ByteArray))) 0]) (c' := #[.slice none (List.length ([] : List (ByteArray))) 0]) (by kernel_rfl) (show evL _ _ = some (.pointer (some ⟨b2, 0, none⟩)) from (by kernel_rfl)) (show evL _ _ = some (.agg #[.slice none (List.length ([] : List (ByteArray))) 0]) from (by kernel_rfl)) st (by kernel_rfl) (by kernel_rfl) ?_)
    clear st
    intro w7 st
    refine WO_seg 2 [(5, .int .i64 0), (6, .int .i64 y1.2.2)] (by kernel_rfl) (by kernel_rfl) ?_
    refine WO_end rfl ?_
    have st := st.front3
    have st := st.tail
    refine X_then ?_
    refine W_ret ?_
    refine X_then_ret ?_
    obtain rfl := Option.some.inj hr
    refine X_ret [.cell 4 24, .tmp 5, .tmp 6] [.agg #[.slice none (List.length ([] : List (ByteArray))) 0], .int .i64 0, .int .i64 y1.2.2] rfl (ResAll.cons (ResAt.blk (v := .agg #[.slice none (List.length ([] : List (ByteArray))) 0]) (o := 0) (by kernel_rfl) st.head (by kernel_rfl)) (ResAll.cons (ResAt.tmp (by kernel_rfl)) (ResAll.cons (ResAt.tmp (by kernel_rfl)) ResAll.nil))) ?_
    have st := st.nilroom 9 1
    have st := st.front1
    have st := st.tail
    have st := st.front1
    have st := st.tail
    have st := st.front1
    have st := st.tail
    exact ⟨none, 0, m3, rfl, hm, st, (RepS.nil _ _)⟩
  · intro hc
    rw [if_neg (not_true hc)] at hr
    refine W_skip ?_
    refine X_then ?_
    refine W_seq ?_
    refine W_draw [(7, fun w' => Inv m3 w' ∧ Piece.holds m3 w' (.blk b4 (.cells #[.slice a2 (List.length y1.1) c2] 24 (0, 0))) ∧ True)] (by kernel_rfl) st ?_
    clear st
    intro w8 _ st
    have hmS := m3.le_refl
    refine ⟨⟨.inr ⟨Inv.anti st.inv hmS, Piece.holds_anti st.head hmS, trivial⟩, trivial⟩, ?_⟩
    refine WA_load_own (t := 24) (x := (.tmp 7)) 0 23 (.agg #[.slice a2 (List.length y1.1) c2]) (by kernel_rfl) rfl (by kernel_rfl) (.head _) (QP_then QP_body) (fun _ h => h.2.1) (show evL _ _ = some (.pointer (some ⟨b4, 0, none⟩)) from (by kernel_rfl)) (by kernel_rfl) ?_
    refine WA_pure 1 24 (.slice a3 (List.length y1.2.1) c3) (by kernel_rfl) rfl (by kernel_rfl) (.head _) (QP_then QP_body) ?_
    replace hr := bindS hr
    obtain ⟨x1, hx2, hr⟩ := hr
    refine WA_index (t := 32) (e := 3) (x := (.tmp 24)) (y := (.const (.int .i64 0))) 2 25 (cInt .i64) (by kernel_rfl) rfl (by kernel_rfl) (.head _) (QP_then QP_body) (show evL _ _ = some (.slice a3 (List.length y1.2.1) c3) from (by kernel_rfl)) (show evL _ _ = some (.int .i64 0) from (by kernel_rfl)) (by kernel_rfl) r4 hx2 ?_
    rintro b5 f1 cs1 rfl hq1
    refine WA_load_row (t := 3) (x := (.tmp 25)) 3 26 (.int .i64 x1) (by kernel_rfl) rfl (by kernel_rfl) (.head _) (QP_then QP_body) (fun _ h => h.1) (show evL _ _ = some (.pointer (some ⟨b5, f1, none⟩)) from (by kernel_rfl)) hq1 (by kernel_rfl) ?_
    have st := st.front3
    refine WA_one 4 (by kernel_rfl) (One_store (t := 24) (x := (.tmp 4)) (y := (.tmp 23)) (v := .agg #[.slice a2 (List.length y1.1) c2]) (c' := #[.slice a2 (List.length y1.1) c2]) (by kernel_rfl) (show evL _ _ = some (.pointer (some ⟨b2, 0, none⟩)) from (by kernel_rfl)) (show evL _ _ = some (.agg #[.slice a2 (List.length y1.1) c2]) from (by kernel_rfl)) st (by kernel_rfl) (by kernel_rfl) ?_)
    clear st
    intro w9 st
    refine ⟨⟨.inr ⟨Inv.anti st.inv hmS, Piece.holds_anti st.tail.head hmS, trivial⟩, trivial⟩, ?_⟩
    refine WA_pure 5 5 (.int .i64 x1) (by kernel_rfl) rfl (by kernel_rfl) (.head _) (QP_then QP_body) ?_
    refine WA_pure 6 6 (.int .i64 0) (by kernel_rfl) rfl (by kernel_rfl) (.head _) (QP_then QP_body) ?_
    refine WA_done (by kernel_rfl) ?_
    have st := st.front3
    have st := st.tail
    refine X_then ?_
    refine W_ret ?_
    obtain rfl := Option.some.inj hr
    refine X_ret [.cell 4 24, .tmp 5, .tmp 6] [.agg #[.slice a2 (List.length y1.1) c2], .int .i64 x1, .int .i64 0] rfl (ResAll.cons (ResAt.blk (v := .agg #[.slice a2 (List.length y1.1) c2]) (o := 0) (by kernel_rfl) st.head (by kernel_rfl)) (ResAll.cons (ResAt.tmp (by kernel_rfl)) (ResAll.cons (ResAt.tmp (by kernel_rfl)) ResAll.nil))) ?_
    have st := st.tail
    have st := st.tail
    exact ⟨a2, c2, m3, rfl, hm, st, r3⟩

def contents_Get (N : Nat) (p0 : List ByteArray) (p1 : Int) : Option (ByteArray × Int) :=
  (contents_Check N p0).bind fun y1 => if (y1 != 0) = true then (some ((⟨#[]⟩ : ByteArray), y1)) else ((if (decide (p1 < 0)) = true then (some true) else (some (decide (p1 ≥ (List.length p0 : Int)))) : Option (Bool)).bind fun o1 => if o1 = true then (some ((⟨#[]⟩ : ByteArray), 20)) else ((idx p0 p1).bind fun x1 => some (x1, 0)))

set_option maxHeartbeats 4000000 in
set_option maxRecDepth 100000 in
theorem contents_Get_ok {N : Nat} {m : Mem} {own : List Piece} {w : World} {p0 : List ByteArray} {p1 : Int} {a1 : Option Addr} {c1 : Nat} {r : ByteArray × Int} (st : St m (own) w) (r1 : RepS cStr m a1 c1 p0) (hr : contents_Get N p0 p1 = some r) : Calls Go.Proofs.Try.prog 23 #[.agg #[.slice a1 (List.length p0) c1], .int .i64 p1] w fun e w' => ∃ (m' : Mem), e = .returned (.tuple #[.string r.1, .int .i64 r.2]) ∧ m.le m' ∧ St m' (own) w' := by
  unfold contents_Get at hr
  have hm := m.le_refl
  refine W_calls Go.Proofs.Try.func23 rfl Go.Proofs.Try.ntmps23 [(0, .agg #[.slice a1 (List.length p0) c1]), (1, .int .i64 p1)] (by kernel_rfl) rfl ?_
  refine W_seq ?_
  refine W_region ?_
  refine WO_one rfl (One_box (d := 2) (e := 24) (x := (.tmp 0)) (.agg #[.slice a1 (List.length p0) c1]) (by kernel_rfl) rfl (by kernel_rfl) st ?_)
  clear st
  intro b1 m1 w1 hle1 st hb1
  have hm := Mem.le_trans hm hle1
  have r1 := r1.mono hle1
  refine WO_seg 2 [] (by kernel_rfl) (by kernel_rfl) ?_
  refine WO_end rfl ?_
  refine X_then ?_
  refine W_seq ?_
  refine W_seq ?_
  refine W_region ?_
  refine WO_one rfl (One_load_row (d := 7) (t := 24) (x := (.tmp 2)) (.agg #[.slice a1 (List.length p0) c1]) (by kernel_rfl) rfl (show evL _ _ = some (.pointer (some ⟨b1, 0, none⟩)) from (by kernel_rfl)) st hb1 (by kernel_rfl) ?_)
  replace hr := bindS hr
  obtain ⟨y1, hx1, hr⟩ := hr
  refine WO_one rfl (One_fn 8 14 #[.agg #[.slice a1 (List.length p0) c1]] (by kernel_rfl) rfl ?_)
  refine (contents_Check_ok st r1 hx1).mono ?_
  clear st
  rintro _ w2 ⟨m2, rfl, hle2, st⟩
  refine ⟨_, rfl, ?_⟩
  have hm := Mem.le_trans hm hle2
  have hb1 := hb1.mono hle2
  have r1 := r1.mono hle2
  refine WO_seg 1 [(6, .int .i64 y1)] (by kernel_rfl) (by kernel_rfl) ?_
  refine WO_end rfl ?_
  refine X_then ?_
  refine W_seq ?_
  refine W_region ?_
  refine WO_seg 2 [(10, .bool (y1 != 0))] (by kernel_rfl) (by kernel_rfl) ?_
  refine WO_end rfl ?_
  refine X_then ?_
  refine W_cond (y1 != 0) (by kernel_rfl) ?_ ?_
  · intro hc
    rw [if_pos hc] at hr
    refine W_seq ?_
    refine W_region ?_
    refine WO_seg 3 [(4, .string (⟨#[]⟩ : ByteArray)), (5, .int .i64 y1)] (by kernel_rfl) (by kernel_rfl) ?_
    refine WO_end rfl ?_
    refine X_then ?_
    refine W_ret ?_
    refine X_then_ret ?_
    obtain rfl := Option.some.inj hr
    refine X_ret [.tmp 4, .tmp 5] [.string (⟨#[]⟩ : ByteArray), .int .i64 y1] rfl (ResAll.cons (ResAt.tmp (by kernel_rfl)) (ResAll.cons (ResAt.tmp (by kernel_rfl)) ResAll.nil)) ?_
    exact ⟨m2, rfl, hm, st⟩
  · intro hc
    rw [if_neg (not_true hc)] at hr
    refine W_skip ?_
    refine X_then ?_
    refine W_seq ?_
    refine W_seq ?_
    refine W_region ?_
    replace hr := bindS hr
    obtain ⟨o1, hr, hrK⟩ := hr
    refine WO_cut (j := 9) (fun L' w' => ∃ (m3 : Mem), L' = [(1, .int .i64 p1), (2, .pointer (some ⟨b1, 0, none⟩)), (20, .bool o1)] ∧ m.le m3 ∧ St m3 (own) w' ∧ MRow m3 b1 0 [.slice a1 (List.length p0) c1] ∧ RepS cStr m3 a1 c1 p0) ?_ ?_
    · clear hr st
      have hr := hrK
      clear hrK
      rintro _ w3 ⟨m3, rfl, hm, st, hb1, r1⟩
      refine WO_end rfl ?_
      refine X_then ?_
      refine W_cond o1 (by kernel_rfl) ?_ ?_
      · intro hc
        rw [if_pos hc] at hr
        refine W_seq ?_
        refine W_region ?_
        refine WO_seg 2 [(4, .string (⟨#[]⟩ : ByteArray)), (5, .int .i64 20)] (by kernel_rfl) (by kernel_rfl) ?_
        refine WO_end rfl ?_
        refine X_then ?_
        refine W_ret ?_
        refine X_then_ret ?_
        obtain rfl := Option.some.inj hr
        refine X_ret [.tmp 4, .tmp 5] [.string (⟨#[]⟩ : ByteArray), .int .i64 20] rfl (ResAll.cons (ResAt.tmp (by kernel_rfl)) (ResAll.cons (ResAt.tmp (by kernel_rfl)) ResAll.nil)) ?_
        exact ⟨m3, rfl, hm, st⟩
      · intro hc
        rw [if_neg (not_true hc)] at hr
        refine W_skip ?_
        refine X_then ?_
        refine W_seq ?_
        refine W_region ?_
        refine WO_seg 1 [(21, .pointer (some ⟨b1, 0, none⟩))] (by kernel_rfl) (by kernel_rfl) ?_
        refine WO_one rfl (One_load_row (d := 22) (t := 22) (x := (.tmp 21)) (.slice a1 (List.length p0) c1) (by kernel_rfl) rfl (show evL _ _ = some (.pointer (some ⟨b1, 0, none⟩)) from (by kernel_rfl)) st hb1 (by kernel_rfl) ?_)
        refine WO_seg 1 [(23, .int .i64 p1)] (by kernel_rfl) (by kernel_rfl) ?_
        replace hr := bindS hr
        obtain ⟨x1, hx2, hr⟩ := hr
        refine WO_one rfl (One_index (d := 24) (t := 22) (e := 9) (x := (.tmp 22)) (y := (.tmp 23)) cStr (by kernel_rfl) rfl (show evL _ _ = some (.slice a1 (List.length p0) c1) from (by kernel_rfl)) (show evL _ _ = some (.int .i64 p1) from (by kernel_rfl)) (by kernel_rfl) r1 hx2 ?_)
        rintro b2 f1 cs1 rfl hq1
        refine WO_one rfl (One_load_row (d := 25) (t := 9) (x := (.tmp 24)) (.string x1) (by kernel_rfl) rfl (show evL _ _ = some (.pointer (some ⟨b2, f1, none⟩)) from (by kernel_rfl)) st hq1 (by kernel_rfl) ?_)
        refine WO_seg 2 [(4, .string x1), (5, .int .i64 0)] (by kernel_rfl) (by kernel_rfl) ?_
        refine WO_end rfl ?_
        refine X_then ?_
        refine W_ret ?_
        obtain rfl := Option.some.inj hr
        refine X_ret [.tmp 4, .tmp 5] [.string x1, .int .i64 0] rfl (ResAll.cons (ResAt.tmp (by kernel_rfl)) (ResAll.cons (ResAt.tmp (by kernel_rfl)) ResAll.nil)) ?_
        exact ⟨m3, rfl, hm, st⟩
    · intro K
      clear hrK
      refine WO_seg 3 [(14, .bool (decide (p1 < 0)))] (by kernel_rfl) (by kernel_rfl) ?_
      rcases bcases (decide (p1 < 0)) with hc | hc
      · rw [if_pos hc] at hr
        refine WO_fact (t := 14) (b := true) (decide (p1 < 0)) (by kernel_rfl) hc ?_
        refine WO_seg 6 [(20, .bool true)] (by kernel_rfl) (by kernel_rfl) ?_
        obtain rfl := Option.some.inj hr
        exact WO_env _ (by kernel_rfl) (K _ _ ⟨m2, rfl, hm, st, hb1, r1⟩)
      · rw [if_neg (not_true hc)] at hr
        refine WO_fact (t := 14) (b := false) (decide (p1 < 0)) (by kernel_rfl) hc ?_
        refine WO_seg 2 [(15, .int .i64 p1), (16, .pointer (some ⟨b1, 0, none⟩))] (by kernel_rfl) (by kernel_rfl) ?_
        refine WO_one rfl (One_load_row (d := 17) (t := 22) (x := (.tmp 16)) (.slice a1 (List.length p0) c1) (by kernel_rfl) rfl (show evL _ _ = some (.pointer (some ⟨b1, 0, none⟩)) from (by kernel_rfl)) st hb1 (by kernel_rfl) ?_)
        refine WO_seg 3 [(20, .bool (decide (p1 ≥ (List.length p0 : Int))))] (by kernel_rfl) (by kernel_rfl) ?_
        obtain rfl := Option.some.inj hr
        exact WO_env _ (by kernel_rfl) (K _ _ ⟨m2, rfl, hm, st, hb1, r1⟩)

def testgatelaw13_awake (N : Nat) : Option (Bool) :=
  (contents_Put N ([] : List (ByteArray)) (⟨#[120]⟩ : ByteArray)).bind fun y1 => (contents_Put N y1.1 (⟨#[121]⟩ : ByteArray)).bind fun y2 => (contents_Put N y2.1 (⟨#[120]⟩ : ByteArray)).bind fun y3 => (contents_Get N y3.1 1).bind fun y4 => (if (y1.2.2 == 0) = true then (if (y2.2.2 == 0) = true then (if (y3.2.2 == 0) = true then (if (y4.2 == 0) = true then (if (y1.2.1 == 0) = true then (if (y2.2.1 == 1) = true then (if (y3.2.1 == 0) = true then (if (y4.1.toList == (⟨#[121]⟩ : ByteArray).toList) = true then (some ((List.length y3.1 : Int) == 2)) else (some false)) else (some false)) else (some false)) else (some false)) else (some false)) else (some false)) else (some false)) else (some false) : Option (Bool)).bind fun o1 => some o1

set_option maxHeartbeats 4000000 in
set_option maxRecDepth 100000 in
theorem testgatelaw13_awake_ok {N : Nat} {m : Mem} {own : List Piece} {w : World} {r : Bool} (st : St m (own) w) (hr : testgatelaw13_awake N = some r) : Calls Go.Proofs.Try.prog 15 #[] w fun e w' => ∃ (m' : Mem), e = .returned (.bool r) ∧ m.le m' ∧ St m' (own) w' := by
  unfold testgatelaw13_awake at hr
  have hm := m.le_refl
  refine W_calls Go.Proofs.Try.func15 rfl Go.Proofs.Try.ntmps15 [] (by kernel_rfl) rfl ?_
  refine W_seq ?_
  refine W_region ?_
  refine WO_seg 1 [] (by kernel_rfl) (by kernel_rfl) ?_
  refine WO_end rfl ?_
  refine X_then ?_
  refine W_seq ?_
  refine W_region ?_
  refine WO_seg 1 [(11, .agg #[.slice none (List.length ([] : List (ByteArray))) 0])] (by kernel_rfl) (by kernel_rfl) ?_
  replace hr := bindS hr
  obtain ⟨y1, hx1, hr⟩ := hr
  refine WO_one rfl (One_fn 12 13 #[.agg #[.slice none (List.length ([] : List (ByteArray))) 0], .string (⟨#[120]⟩ : ByteArray)] (by kernel_rfl) rfl ?_)
  refine (contents_Put_ok st (RepS.nil _ _) hx1).mono ?_
  clear st
  rintro _ w1 ⟨a1, c1, m1, rfl, hle1, st, r1⟩
  refine ⟨_, rfl, ?_⟩
  have hm := Mem.le_trans hm hle1
  refine WO_seg 4 [(13, .agg #[.slice a1 (List.length y1.1) c1]), (14, .int .i64 y1.2.1), (15, .int .i64 y1.2.2)] (by kernel_rfl) (by kernel_rfl) ?_
  refine WO_one rfl (One_alloc (d := 1) (e := 24) (.agg #[.slice none 0 0]) (by kernel_rfl) rfl (by kernel_rfl) st ?_)
  clear st
  intro b1 w2 st
  refine WO_one rfl (One_store (t := 24) (x := (.tmp 1)) (y := (.tmp 13)) (v := .agg #[.slice a1 (List.length y1.1) c1]) (c' := #[.slice a1 (List.length y1.1) c1]) (by kernel_rfl) (show evL _ _ = some (.pointer (some ⟨b1, 0, none⟩)) from (by kernel_rfl)) (show evL _ _ = some (.agg #[.slice a1 (List.length y1.1) c1]) from (by kernel_rfl)) st (by kernel_rfl) (by kernel_rfl) ?_)
  clear st
  intro w3 st
  refine WO_seg 2 [(2, .int .i64 y1.2.1), (3, .int .i64 y1.2.2)] (by kernel_rfl) (by kernel_rfl) ?_
  refine WO_end rfl ?_
  refine X_then ?_
  refine W_seq ?_
  refine W_region ?_
  refine WO_one rfl (One_load_own (d := 17) (t := 24) (x := (.tmp 1)) (.agg #[.slice a1 (List.length y1.1) c1]) (by kernel_rfl) rfl (show evL _ _ = some (.pointer (some ⟨b1, 0, none⟩)) from (by kernel_rfl)) st.head (by kernel_rfl) ?_)
  replace hr := bindS hr
  obtain ⟨y2, hx2, hr⟩ := hr
  refine WO_one rfl (One_fn 18 13 #[.agg #[.slice a1 (List.length y1.1) c1], .string (⟨#[121]⟩ : ByteArray)] (by kernel_rfl) rfl ?_)
  refine (contents_Put_ok st r1 hx2).mono ?_
  clear st
  rintro _ w4 ⟨a2, c2, m2, rfl, hle2, st, r2⟩
  refine ⟨_, rfl, ?_⟩
  have hm := Mem.le_trans hm hle2
  have r1 := r1.mono hle2
  refine WO_seg 4 [(19, .agg #[.slice a2 (List.length y2.1) c2]), (20, .int .i64 y2.2.1), (21, .int .i64 y2.2.2)] (by kernel_rfl) (by kernel_rfl) ?_
  have st := st.front1
  refine WO_one rfl (One_store (t := 24) (x := (.tmp 1)) (y := (.tmp 19)) (v := .agg #[.slice a2 (List.length y2.1) c2]) (c' := #[.slice a2 (List.length y2.1) c2]) (by kernel_rfl) (show evL _ _ = some (.pointer (some ⟨b1, 0, none⟩)) from (by kernel_rfl)) (show evL _ _ = some (.agg #[.slice a2 (List.length y2.1) c2]) from (by kernel_rfl)) st (by kernel_rfl) (by kernel_rfl) ?_)
  clear st
  intro w5 st
  refine WO_seg 2 [(4, .int .i64 y2.2.1), (5, .int .i64 y2.2.2)] (by kernel_rfl) (by kernel_rfl) ?_
  refine WO_end rfl ?_
  have st := st.front2
  have st := st.tail
  refine X_then ?_
  refine W_seq ?_
  refine W_region ?_
  refine WO_one rfl (One_load_own (d := 23) (t := 24) (x := (.tmp 1)) (.agg #[.slice a2 (List.length y2.1) c2]) (by kernel_rfl) rfl (show evL _ _ = some (.pointer (some ⟨b1, 0, none⟩)) from (by kernel_rfl)) st.head (by kernel_rfl) ?_)
  replace hr := bindS hr
  obtain ⟨y3, hx3, hr⟩ := hr
  refine WO_one rfl (One_fn 24 13 #[.agg #[.slice a2 (List.length y2.1) c2], .string (⟨#[120]⟩ : ByteArray)] (by kernel_rfl) rfl ?_)
  refine (contents_Put_ok st r2 hx3).mono ?_
  clear st
  rintro _ w6 ⟨a3, c3, m3, rfl, hle3, st, r3⟩
  refine ⟨_, rfl, ?_⟩
  have hm := Mem.le_trans hm hle3
  have r2 := r2.mono hle3
  refine WO_seg 4 [(25, .agg #[.slice a3 (List.length y3.1) c3]), (26, .int .i64 y3.2.1), (27, .int .i64 y3.2.2)] (by kernel_rfl) (by kernel_rfl) ?_
  have st := st.front1
  refine WO_one rfl (One_store (t := 24) (x := (.tmp 1)) (y := (.tmp 25)) (v := .agg #[.slice a3 (List.length y3.1) c3]) (c' := #[.slice a3 (List.length y3.1) c3]) (by kernel_rfl) (show evL _ _ = some (.pointer (some ⟨b1, 0, none⟩)) from (by kernel_rfl)) (show evL _ _ = some (.agg #[.slice a3 (List.length y3.1) c3]) from (by kernel_rfl)) st (by kernel_rfl) (by kernel_rfl) ?_)
  clear st
  intro w7 st
  refine WO_seg 2 [(6, .int .i64 y3.2.1), (7, .int .i64 y3.2.2)] (by kernel_rfl) (by kernel_rfl) ?_
  refine WO_end rfl ?_
  have st := st.front2
  have st := st.tail
  refine X_then ?_
  refine W_seq ?_
  refine W_region ?_
  refine WO_one rfl (One_load_own (d := 29) (t := 24) (x := (.tmp 1)) (.agg #[.slice a3 (List.length y3.1) c3]) (by kernel_rfl) rfl (show evL _ _ = some (.pointer (some ⟨b1, 0, none⟩)) from (by kernel_rfl)) st.head (by kernel_rfl) ?_)
  replace hr := bindS hr
  obtain ⟨y4, hx4, hr⟩ := hr
  refine WO_one rfl (One_fn 30 23 #[.agg #[.slice a3 (List.length y3.1) c3], .int .i64 1] (by kernel_rfl) rfl ?_)
  refine (contents_Get_ok st r3 hx4).mono ?_
  clear st
  rintro _ w8 ⟨m4, rfl, hle4, st⟩
  refine ⟨_, rfl, ?_⟩
  have hm := Mem.le_trans hm hle4
  have r3 := r3.mono hle4
  refine WO_seg 5 [(8, .string y4.1), (9, .int .i64 y4.2)] (by kernel_rfl) (by kernel_rfl) ?_
  refine WO_end rfl ?_
  refine X_then ?_
  refine W_seq ?_
  refine W_region ?_
  replace hr := bindS hr
  obtain ⟨o1, hr, hrK⟩ := hr
  refine WO_cut (j := 37) (fun L' w' => ∃ (m5 : Mem), L' = [(0, .bool o1)] ∧ m.le m5 ∧ St m5 (.blk b1 (.cells #[.slice a3 (List.length y3.1) c3] 24 (0, 0)) :: .room a3 (List.length y3.1) c3 9 1 :: own) w' ∧ RepS cStr m5 a3 c3 y3.1) ?_ ?_
  · clear hr st
    have hr := hrK
    clear hrK
    rintro _ w9 ⟨m5, rfl, hm, st, r3⟩
    refine WO_end rfl ?_
    refine X_then ?_
    refine W_ret ?_
    obtain rfl := Option.some.inj hr
    refine X_ret [.tmp 0] [.bool o1] rfl (ResAll.cons (ResAt.tmp (by kernel_rfl)) ResAll.nil) ?_
    have st := st.tail
    have st := st.tail
    exact ⟨m5, rfl, hm, st⟩
  · intro K
    clear hrK
    refine WO_seg 3 [(35, .bool (y1.2.2 == 0))] (by kernel_rfl) (by kernel_rfl) ?_
    rcases bcases (y1.2.2 == 0) with hc | hc
    · rw [if_pos hc] at hr
      refine WO_fact (t := 35) (b := true) (y1.2.2 == 0) (by kernel_rfl) hc ?_
      refine WO_seg 4 [(39, .bool (y2.2.2 == 0))] (by kernel_rfl) (by kernel_rfl) ?_
      rcases bcases (y2.2.2 == 0) with hc | hc
      · rw [if_pos hc] at hr
        refine WO_fact (t := 39) (b := true) (y2.2.2 == 0) (by kernel_rfl) hc ?_
        refine WO_seg 4 [(43, .bool (y3.2.2 == 0))] (by kernel_rfl) (by kernel_rfl) ?_
        rcases bcases (y3.2.2 == 0) with hc | hc
        · rw [if_pos hc] at hr
          refine WO_fact (t := 43) (b := true) (y3.2.2 == 0) (by kernel_rfl) hc ?_
          refine WO_seg 4 [(47, .bool (y4.2 == 0))] (by kernel_rfl) (by kernel_rfl) ?_
          rcases bcases (y4.2 == 0) with hc | hc
          · rw [if_pos hc] at hr
            refine WO_fact (t := 47) (b := true) (y4.2 == 0) (by kernel_rfl) hc ?_
            refine WO_seg 4 [(51, .bool (y1.2.1 == 0))] (by kernel_rfl) (by kernel_rfl) ?_
            rcases bcases (y1.2.1 == 0) with hc | hc
            · rw [if_pos hc] at hr
              refine WO_fact (t := 51) (b := true) (y1.2.1 == 0) (by kernel_rfl) hc ?_
              refine WO_seg 4 [(55, .bool (y2.2.1 == 1))] (by kernel_rfl) (by kernel_rfl) ?_
              rcases bcases (y2.2.1 == 1) with hc | hc
              · rw [if_pos hc] at hr
                refine WO_fact (t := 55) (b := true) (y2.2.1 == 1) (by kernel_rfl) hc ?_
                refine WO_seg 4 [(59, .bool (y3.2.1 == 0))] (by kernel_rfl) (by kernel_rfl) ?_
                rcases bcases (y3.2.1 == 0) with hc | hc
                · rw [if_pos hc] at hr
                  refine WO_fact (t := 59) (b := true) (y3.2.1 == 0) (by kernel_rfl) hc ?_
                  refine WO_seg 4 [(63, .bool (y4.1.toList == (⟨#[121]⟩ : ByteArray).toList))] (by kernel_rfl) (by kernel_rfl) ?_
                  rcases bcases (y4.1.toList == (⟨#[121]⟩ : ByteArray).toList) with hc | hc
                  · rw [if_pos hc] at hr
                    refine WO_fact (t := 63) (b := true) (y4.1.toList == (⟨#[121]⟩ : ByteArray).toList) (by kernel_rfl) hc ?_
                    refine WO_seg 1 [(64, .pointer (some ⟨b1, 0, none⟩))] (by kernel_rfl) (by kernel_rfl) ?_
                    refine WO_one rfl (One_load_own (d := 65) (t := 22) (x := (.tmp 64)) (.slice a3 (List.length y3.1) c3) (by kernel_rfl) rfl (show evL _ _ = some (.pointer (some ⟨b1, 0, none⟩)) from (by kernel_rfl)) st.head (by kernel_rfl) ?_)
                    refine WO_seg 4 [(0, .bool ((List.length y3.1 : Int) == 2))] (by kernel_rfl) (by kernel_rfl) ?_
                    obtain rfl := Option.some.inj hr
                    have st := st.front1
                    have st := st.front1
                    exact WO_env _ (by kernel_rfl) (K _ _ ⟨m4, rfl, hm, st, r3⟩)
                  · rw [if_neg (not_true hc)] at hr
                    refine WO_fact (t := 63) (b := false) (y4.1.toList == (⟨#[121]⟩ : ByteArray).toList) (by kernel_rfl) hc ?_
                    refine WO_seg 6 [(0, .bool false)] (by kernel_rfl) (by kernel_rfl) ?_
                    obtain rfl := Option.some.inj hr
                    have st := st.front1
                    have st := st.front1
                    exact WO_env _ (by kernel_rfl) (K _ _ ⟨m4, rfl, hm, st, r3⟩)
                · rw [if_neg (not_true hc)] at hr
                  refine WO_fact (t := 59) (b := false) (y3.2.1 == 0) (by kernel_rfl) hc ?_
                  refine WO_seg 10 [(0, .bool false)] (by kernel_rfl) (by kernel_rfl) ?_
                  obtain rfl := Option.some.inj hr
                  have st := st.front1
                  have st := st.front1
                  exact WO_env _ (by kernel_rfl) (K _ _ ⟨m4, rfl, hm, st, r3⟩)
              · rw [if_neg (not_true hc)] at hr
                refine WO_fact (t := 55) (b := false) (y2.2.1 == 1) (by kernel_rfl) hc ?_
                refine WO_seg 14 [(0, .bool false)] (by kernel_rfl) (by kernel_rfl) ?_
                obtain rfl := Option.some.inj hr
                have st := st.front1
                have st := st.front1
                exact WO_env _ (by kernel_rfl) (K _ _ ⟨m4, rfl, hm, st, r3⟩)
            · rw [if_neg (not_true hc)] at hr
              refine WO_fact (t := 51) (b := false) (y1.2.1 == 0) (by kernel_rfl) hc ?_
              refine WO_seg 18 [(0, .bool false)] (by kernel_rfl) (by kernel_rfl) ?_
              obtain rfl := Option.some.inj hr
              have st := st.front1
              have st := st.front1
              exact WO_env _ (by kernel_rfl) (K _ _ ⟨m4, rfl, hm, st, r3⟩)
          · rw [if_neg (not_true hc)] at hr
            refine WO_fact (t := 47) (b := false) (y4.2 == 0) (by kernel_rfl) hc ?_
            refine WO_seg 22 [(0, .bool false)] (by kernel_rfl) (by kernel_rfl) ?_
            obtain rfl := Option.some.inj hr
            have st := st.front1
            have st := st.front1
            exact WO_env _ (by kernel_rfl) (K _ _ ⟨m4, rfl, hm, st, r3⟩)
        · rw [if_neg (not_true hc)] at hr
          refine WO_fact (t := 43) (b := false) (y3.2.2 == 0) (by kernel_rfl) hc ?_
          refine WO_seg 26 [(0, .bool false)] (by kernel_rfl) (by kernel_rfl) ?_
          obtain rfl := Option.some.inj hr
          have st := st.front1
          have st := st.front1
          exact WO_env _ (by kernel_rfl) (K _ _ ⟨m4, rfl, hm, st, r3⟩)
      · rw [if_neg (not_true hc)] at hr
        refine WO_fact (t := 39) (b := false) (y2.2.2 == 0) (by kernel_rfl) hc ?_
        refine WO_seg 30 [(0, .bool false)] (by kernel_rfl) (by kernel_rfl) ?_
        obtain rfl := Option.some.inj hr
        have st := st.front1
        have st := st.front1
        exact WO_env _ (by kernel_rfl) (K _ _ ⟨m4, rfl, hm, st, r3⟩)
    · rw [if_neg (not_true hc)] at hr
      refine WO_fact (t := 35) (b := false) (y1.2.2 == 0) (by kernel_rfl) hc ?_
      refine WO_seg 34 [(0, .bool false)] (by kernel_rfl) (by kernel_rfl) ?_
      obtain rfl := Option.some.inj hr
      have st := st.front1
      have st := st.front1
      exact WO_env _ (by kernel_rfl) (K _ _ ⟨m4, rfl, hm, st, r3⟩)

def testgatelaw13_ContentsBytes (N : Nat) (p0 : List Int) (p1 : List UInt8) (p2 : Int) (p3 : Int) : Option (Bool) :=
  (testgatelaw13_store N (p0, 0)).bind fun y1 => (contents_Encode N y1.2).bind fun y2 => (testgateref13_Encode N y1.2).bind fun y3 => (if (y2.2 != y3.2) = true then (some true) else ((testgateref03_Same N y2.1 y3.1).bind fun y4 => some (!y4)) : Option (Bool)).bind fun o1 => if o1 = true then (some false) else ((if (decide ((List.length p1 : Int) > 300)) = true then ((subS p1 0 300).bind fun l1 => some l1) else (some p1) : Option (List (UInt8))).bind fun o2 => ((testgatelaw13_decodes N y2.1).bind fun y5 => if (!y5) = true then (some true) else ((testgatelaw13_decodes N o2).bind fun y6 => if (!y6) = true then (some true) else ((appendS 1 ([] : List (UInt8)) y2.1).bind fun l2 => (appendS 1 l2 y2.1).bind fun l3 => (testgatelaw13_decodes N l3).bind fun y7 => some (!y7))) : Option (Bool)).bind fun o3 => if o3 = true then (some false) else (if ((List.length y2.1 : Int) == 0) = true then ((testgatelaw13_awake N).bind fun y8 => some y8) else ((testgatemake_Fold N p2 (List.length y2.1 : Int)).bind fun y9 => (appA 1 y2.1).bind fun l4 => (idx l4 y9).bind fun x1 => (idx l4 y9).bind fun x2 => ((testgatelaw13_decodes N (List.set l4 (Int.toNat y9) (toU8 (iXor .u8 (x1.toNat : Int) p3)))).bind fun y10 => if y10 = true then ((subS y2.1 0 y9).bind fun l5 => (testgatelaw13_decodes N l5).bind fun y11 => if y11 = true then ((testgatelaw13_awake N).bind fun y12 => some y12) else (some false)) else (some false) : Option (Bool)).bind fun o4 => some o4)))

set_option maxHeartbeats 4000000 in
set_option maxRecDepth 100000 in
theorem testgatelaw13_ContentsBytes_ok {N : Nat} {m : Mem} {own : List Piece} {w : World} {p0 : List Int} {p1 : List UInt8} {p2 : Int} {p3 : Int} {a1 : Option Addr} {c1 : Nat} {a2 : Option Addr} {c2 : Nat} {r : Bool} (st : St m (own) w) (r1 : RepS (cInt .i64) m a1 c1 p0) (r2 : RepS cU8 m a2 c2 p1) (hr : testgatelaw13_ContentsBytes N p0 p1 p2 p3 = some r) : Calls Go.Proofs.Try.prog 10 #[.slice a1 (List.length p0) c1, .slice a2 (List.length p1) c2, .int .i64 p2, .int .u8 p3] w fun e w' => ∃ (m' : Mem), e = .returned (.bool r) ∧ m.le m' ∧ St m' (own) w' := by
  unfold testgatelaw13_ContentsBytes at hr
  have hm := m.le_refl
  refine W_calls Go.Proofs.Try.func10 rfl Go.Proofs.Try.ntmps10 [(0, .slice a1 (List.length p0) c1), (1, .slice a2 (List.length p1) c2), (2, .int .i64 p2), (3, .int .u8 p3)] (by kernel_rfl) rfl ?_
  refine W_seq ?_
  refine W_region ?_
  refine WO_seg 1 [] (by kernel_rfl) (by kernel_rfl) ?_
  refine WO_end rfl ?_
  refine X_then ?_
  refine W_seq ?_
  refine W_region ?_
  refine WO_seg 2 [(17, .agg #[.slice a1 (List.length p0) c1, .int .i64 0])] (by kernel_rfl) (by kernel_rfl) ?_
  refine WO_one rfl (One_box_own (d := 18) (e := 35) (x := (.tmp 17)) (.agg #[.slice a1 (List.length p0) c1, .int .i64 0]) (by kernel_rfl) rfl (by kernel_rfl) st ?_)
  clear st
  intro b1 w1 st
  replace hr := bindS hr
  obtain ⟨y1, hx1, hr⟩ := hr
  refine WO_one rfl (One_fn 19 16 #[.pointer (some ⟨b1, 0, none⟩)] (by kernel_rfl) rfl ?_)
  refine (testgatelaw13_store_ok st r1 hx1).mono ?_
  clear st
  rintro _ w2 ⟨a3, c3, a4, c4, m2, rfl, hle2, st, r3, r4⟩
  refine ⟨_, rfl, ?_⟩
  have hm := Mem.le_trans hm hle2
  have r1 := r1.mono hle2
  have r2 := r2.mono hle2
  refine WO_one rfl (One_alloc (d := 9) (e := 24) (.agg #[.slice none 0 0]) (by kernel_rfl) rfl (by kernel_rfl) st ?_)
  clear st
  intro b2 w3 st
  refine WO_one rfl (One_store (t := 24) (x := (.tmp 9)) (y := (.tmp 19)) (v := .agg #[.slice a4 (List.length y1.2) c4]) (c' := #[.slice a4 (List.length y1.2) c4]) (by kernel_rfl) (show evL _ _ = some (.pointer (some ⟨b2, 0, none⟩)) from (by kernel_rfl)) (show evL _ _ = some (.agg #[.slice a4 (List.length y1.2) c4]) from (by kernel_rfl)) st (by kernel_rfl) (by kernel_rfl) ?_)
  clear st
  intro w4 st
  refine WO_end rfl ?_
  refine X_then ?_
  refine W_seq ?_
  refine W_region ?_
  refine WO_one rfl (One_load_own (d := 21) (t := 24) (x := (.tmp 9)) (.agg #[.slice a4 (List.length y1.2) c4]) (by kernel_rfl) rfl (show evL _ _ = some (.pointer (some ⟨b2, 0, none⟩)) from (by kernel_rfl)) st.head (by kernel_rfl) ?_)
  replace hr := bindS hr
  obtain ⟨y2, hx2, hr⟩ := hr
  refine WO_one rfl (One_fn 22 56 #[.agg #[.slice a4 (List.length y1.2) c4]] (by kernel_rfl) rfl ?_)
  refine (contents_Encode_ok st r4 hx2).mono ?_
  clear st
  rintro _ w5 ⟨a5, c5, m3, rfl, hle3, st, r5⟩
  refine ⟨_, rfl, ?_⟩
  have hm := Mem.le_trans hm hle3
  have r2 := r2.mono hle3
  have r4 := r4.mono hle3
  have r3 := r3.mono hle3
  refine WO_seg 5 [(10, .slice a5 (List.length y2.1) c5), (11, .int .i64 y2.2)] (by kernel_rfl) (by kernel_rfl) ?_
  refine WO_end rfl ?_
  refine X_then ?_
  refine W_seq ?_
  refine W_region ?_
  refine WO_one rfl (One_load_own (d := 26) (t := 24) (x := (.tmp 9)) (.agg #[.slice a4 (List.length y1.2) c4]) (by kernel_rfl) rfl (show evL _ _ = some (.pointer (some ⟨b2, 0, none⟩)) from (by kernel_rfl)) st.tail.head (by kernel_rfl) ?_)
  replace hr := bindS hr
  obtain ⟨y3, hx3, hr⟩ := hr
  refine WO_one rfl (One_fn 27 57 #[.agg #[.slice a4 (List.length y1.2) c4]] (by kernel_rfl) rfl ?_)
  refine (testgateref13_Encode_ok st r4 hx3).mono ?_
  clear st
  rintro _ w6 ⟨a6, c6, m4, rfl, hle4, st, r6⟩
  refine ⟨_, rfl, ?_⟩
  have hm := Mem.le_trans hm hle4
  have r2 := r2.mono hle4
  have r5 := r5.mono hle4
  have r4 := r4.mono hle4
  have r3 := r3.mono hle4
  refine WO_seg 5 [(12, .slice a6 (List.length y3.1) c6), (13, .int .i64 y3.2)] (by kernel_rfl) (by kernel_rfl) ?_
  refine WO_end rfl ?_
  refine X_then ?_
  refine W_seq ?_
  refine W_seq ?_
  refine W_region ?_
  replace hr := bindS hr
  obtain ⟨o1, hr, hrK⟩ := hr
  refine WO_cut (j := 9) (fun L' w' => ∃ (m5 : Mem), L' = [(1, .slice a2 (List.length p1) c2), (2, .int .i64 p2), (3, .int .u8 p3), (10, .slice a5 (List.length y2.1) c5), (38, .bool o1)] ∧ m.le m5 ∧ St m5 (.blk b2 (.cells #[.slice a4 (List.length y1.2) c4] 24 (0, 0)) :: .blk b1 (.cells #[.slice a3 (List.length y1.1.1) c3, .int .i64 y1.1.2] 35 (0, 0)) :: .room a6 (List.length y3.1) c6 5 1 :: .room a5 (List.length y2.1) c5 5 1 :: .room a4 (List.length y1.2) c4 9 1 :: own) w' ∧ RepS cU8 m5 a2 c2 p1 ∧ RepS cU8 m5 a5 c5 y2.1 ∧ RepS cStr m5 a4 c4 y1.2 ∧ RepS (cInt .i64) m5 a3 c3 y1.1.1) ?_ ?_
  · clear hr st
    have hr := hrK
    clear hrK
    rintro _ w7 ⟨m5, rfl, hm, st, r2, r5, r4, r3⟩
    refine WO_end rfl ?_
    refine X_then ?_
    refine W_cond o1 (by kernel_rfl) ?_ ?_
    · intro hc
      rw [if_pos hc] at hr
      refine W_seq ?_
      refine W_region ?_
      refine WO_seg 1 [(8, .bool false)] (by kernel_rfl) (by kernel_rfl) ?_
      refine WO_end rfl ?_
      have st := st.front2
      have st := st.tail
      have st := st.front2
      have st := st.tail
      refine X_then ?_
      refine W_ret ?_
      refine X_then_ret ?_
      obtain rfl := Option.some.inj hr
      refine X_ret [.tmp 8] [.bool false] rfl (ResAll.cons (ResAt.tmp (by kernel_rfl)) ResAll.nil) ?_
      have st := st.tail
      have st := st.tail
      have st := st.tail
      exact ⟨m5, rfl, hm, st⟩
    · intro hc
      rw [if_neg (not_true hc)] at hr
      refine W_skip ?_
      refine X_then ?_
      refine W_seq ?_
      refine W_seq ?_
      refine W_region ?_
      refine WO_seg 3 [(41, .bool (decide ((List.length p1 : Int) > 300)))] (by kernel_rfl) (by kernel_rfl) ?_
      refine WO_end rfl ?_
      have st := st.front2
      have st := st.tail
      refine X_then ?_
      replace hr := bindS hr
      obtain ⟨o2, hr, hrKu1⟩ := hr
      refine W_cut .normal (fun L' w' => ∃ (a7 : Option Addr) (c7 : Nat) (m7 : Mem), L' = [(1, .slice a7 (List.length o2) c7), (2, .int .i64 p2), (3, .int .u8 p3), (10, .slice a5 (List.length y2.1) c5)] ∧ m.le m7 ∧ St m7 (.blk b2 (.cells #[.slice a4 (List.length y1.2) c4] 24 (0, 0)) :: .blk b1 (.cells #[.slice a3 (List.length y1.1.1) c3, .int .i64 y1.1.2] 35 (0, 0)) :: .room a5 (List.length y2.1) c5 5 1 :: .room a4 (List.length y1.2) c4 9 1 :: own) w' ∧ RepS cU8 m7 a7 c7 o2 ∧ RepS cU8 m7 a5 c5 y2.1 ∧ RepS cStr m7 a4 c4 y1.2 ∧ RepS (cInt .i64) m7 a3 c3 y1.1.1) ?_ ?_
      · clear hr st
        have hr := hrKu1
        clear hrKu1
        rintro _ w9 ⟨a7, c7, m7, rfl, hm, st, r7, r5, r4, r3⟩
        refine X_then ?_
        refine W_seq ?_
        refine W_seq ?_
        refine W_region ?_
        replace hr := bindS hr
        obtain ⟨o3, hr, hrK⟩ := hr
        refine WO_cut (j := 16) (fun L' w' => ∃ (m8 : Mem), L' = [(2, .int .i64 p2), (3, .int .u8 p3), (10, .slice a5 (List.length y2.1) c5), (59, .bool o3)] ∧ m.le m8 ∧ St m8 (.blk b2 (.cells #[.slice a4 (List.length y1.2) c4] 24 (0, 0)) :: .blk b1 (.cells #[.slice a3 (List.length y1.1.1) c3, .int .i64 y1.1.2] 35 (0, 0)) :: .room a5 (List.length y2.1) c5 5 1 :: .room a4 (List.length y1.2) c4 9 1 :: own) w' ∧ RepS cU8 m8 a5 c5 y2.1 ∧ RepS cStr m8 a4 c4 y1.2 ∧ RepS (cInt .i64) m8 a3 c3 y1.1.1) ?_ ?_
        · clear hr st
          have hr := hrK
          clear hrK
          rintro _ w10 ⟨m8, rfl, hm, st, r5, r4, r3⟩
          refine WO_end rfl ?_
          refine X_then ?_
          refine W_cond o3 (by kernel_rfl) ?_ ?_
          · intro hc
            rw [if_pos hc] at hr
            refine W_seq ?_
            refine W_region ?_
            refine WO_seg 1 [(8, .bool false)] (by kernel_rfl) (by kernel_rfl) ?_
            refine WO_end rfl ?_
            have st := st.front2
            have st := st.tail
            refine X_then ?_
            refine W_ret ?_
            refine X_then_ret ?_
            obtain rfl := Option.some.inj hr
            refine X_ret [.tmp 8] [.bool false] rfl (ResAll.cons (ResAt.tmp (by kernel_rfl)) ResAll.nil) ?_
            have st := st.tail
            have st := st.tail
            have st := st.tail
            exact ⟨m8, rfl, hm, st⟩
          · intro hc
            rw [if_neg (not_true hc)] at hr
            refine W_skip ?_
            refine X_then ?_
            refine W_seq ?_
            refine W_seq ?_
            refine W_region ?_
            refine WO_seg 3 [(62, .bool ((List.length y2.1 : Int) == 0))] (by kernel_rfl) (by kernel_rfl) ?_
            refine WO_end rfl ?_
            refine X_then ?_
            refine W_cond ((List.length y2.1 : Int) == 0) (by kernel_rfl) ?_ ?_
            · intro hc
              rw [if_pos hc] at hr
              refine W_seq ?_
              refine W_region ?_
              replace hr := bindS hr
              obtain ⟨y8, hx11, hr⟩ := hr
              refine WO_one rfl (One_fn 63 15 #[] (by kernel_rfl) rfl ?_)
              refine (testgatelaw13_awake_ok st hx11).mono ?_
              clear st
              rintro _ w16 ⟨m14, rfl, hle11, st⟩
              refine ⟨_, rfl, ?_⟩
              have hm := Mem.le_trans hm hle11
              have r5 := r5.mono hle11
              have r4 := r4.mono hle11
              have r3 := r3.mono hle11
              refine WO_seg 1 [(8, .bool y8)] (by kernel_rfl) (by kernel_rfl) ?_
              refine WO_end rfl ?_
              have st := st.front2
              have st := st.tail
              refine X_then ?_
              refine W_ret ?_
              refine X_then_ret ?_
              obtain rfl := Option.some.inj hr
              refine X_ret [.tmp 8] [.bool y8] rfl (ResAll.cons (ResAt.tmp (by kernel_rfl)) ResAll.nil) ?_
              have st := st.tail
              have st := st.tail
              have st := st.tail
              exact ⟨m14, rfl, hm, st⟩
            · intro hc
              rw [if_neg (not_true hc)] at hr
              refine W_skip ?_
              refine X_then ?_
              refine W_seq ?_
              refine W_region ?_
              refine WO_seg 3 [(64, .int .i64 p2), (66, .int .i64 (List.length y2.1 : Int))] (by kernel_rfl) (by kernel_rfl) ?_
              replace hr := bindS hr
              obtain ⟨y9, hx12, hr⟩ := hr
              refine WO_one rfl (One_fn 67 42 #[.int .i64 p2, .int .i64 (List.length y2.1 : Int)] (by kernel_rfl) rfl ?_)
              refine (testgatemake_Fold_ok st hx12).mono ?_
              clear st
              rintro _ w17 ⟨m15, rfl, hle12, st⟩
              refine ⟨_, rfl, ?_⟩
              have hm := Mem.le_trans hm hle12
              have r5 := r5.mono hle12
              have r4 := r4.mono hle12
              have r3 := r3.mono hle12
              refine WO_seg 1 [(14, .int .i64 y9)] (by kernel_rfl) (by kernel_rfl) ?_
              refine WO_end rfl ?_
              refine X_then ?_
              refine W_seq ?_
              refine W_region ?_
              refine WO_seg 1 [(68, .slice a5 (List.length y2.1) c5)] (by kernel_rfl) (by kernel_rfl) ?_
              replace hr := bindS hr
              obtain ⟨l4, hx13, hr⟩ := hr
              refine WO_one rfl (One_appArr (d := 69) (t := 50) (u := 50) (e := 5) (by_ := 1) (x := (.const (.slice none 0 0))) (y := (.tmp 68)) cU8 (fun x : UInt8 => Value.int .u8 (x.toNat : Int)) (by kernel_rfl) rfl (show evL _ _ = some (.slice none (List.length ([] : List (UInt8))) 0) from (by kernel_rfl)) (show evL _ _ = some (.slice a5 (List.length y2.1) c5) from (by kernel_rfl)) st (by kernel_rfl) (.inl (by kernel_rfl)) rfl (fun _ _ _ h => h) r5.src hx13 ?_)
              clear st
              intro b3 c11 T1 w18 hn1 hn2 hn3 st
              refine WO_seg 1 [(15, .slice (some ⟨b3, 0, none⟩) (List.length l4) c11)] (by kernel_rfl) (by kernel_rfl) ?_
              refine WO_end rfl ?_
              refine X_then ?_
              refine W_seq ?_
              refine W_region ?_
              refine WO_seg 2 [(70, .slice (some ⟨b3, 0, none⟩) (List.length l4) c11), (71, .int .i64 y9)] (by kernel_rfl) (by kernel_rfl) ?_
              replace hr := bindS hr
              obtain ⟨x1, hx14, hr⟩ := hr
              refine WO_one rfl (One_arrIndex (d := 72) (t := 50) (e := 5) (x := (.tmp 70)) (y := (.tmp 71)) (by kernel_rfl) rfl (show evL _ _ = some (.slice (some ⟨b3, 0, none⟩) (List.length l4) c11) from (by kernel_rfl)) (show evL _ _ = some (.int .i64 y9) from (by kernel_rfl)) (by kernel_rfl) rfl hx14 ?_)
              refine WO_one rfl (One_arrLoad (d := 73) (t := 5) (x := (.tmp 72)) (by kernel_rfl) rfl (show evL _ _ = some (.pointer (some ⟨b3, Int.toNat y9, none⟩)) from (by kernel_rfl)) st.head hx14 (by kernel_rfl) ?_)
              refine WO_seg 2 [(75, .int .u8 (iXor .u8 (x1.toNat : Int) p3))] (by kernel_rfl) (by kernel_rfl) ?_
              replace hr := bindS hr
              obtain ⟨x2, hx15, hr⟩ := hr
              refine WO_one rfl (One_arrIndex (d := 76) (t := 50) (e := 5) (x := (.tmp 70)) (y := (.tmp 71)) (by kernel_rfl) rfl (show evL _ _ = some (.slice (some ⟨b3, 0, none⟩) (List.length l4) c11) from (by kernel_rfl)) (show evL _ _ = some (.int .i64 y9) from (by kernel_rfl)) (by kernel_rfl) rfl hx15 ?_)
              refine WO_one rfl (One_arrStore (f := (fun x : UInt8 => Value.int .u8 (x.toNat : Int))) (u := toU8 (iXor .u8 (x1.toNat : Int) p3)) (t := 5) (x := (.tmp 76)) (y := (.tmp 75)) (by kernel_rfl) (show evL _ _ = some (.pointer (some ⟨b3, Int.toNat y9, none⟩)) from (by kernel_rfl)) ((show evL _ _ = some (.int .u8 (iXor .u8 (x1.toNat : Int) p3)) from (by kernel_rfl)).trans (congrArg (fun z => some (Value.int .u8 z)) (toU8_wrap _).symm)) st hx15 rfl (by kernel_rfl) ?_)
              clear st
              intro w19 st
              have hn4 : List.length (List.set l4 (Int.toNat y9) (toU8 (iXor .u8 (x1.toNat : Int) p3))) = (List.length l4) := set_len rfl _ _
              refine WO_end rfl ?_
              refine X_then ?_
              refine W_seq ?_
              refine W_region ?_
              replace hr := bindS hr
              obtain ⟨o4, hr, hrK⟩ := hr
              refine WO_cut (j := 12) (fun L' w' => ∃ (m16 : Mem), L' = [(8, .bool o4)] ∧ m.le m16 ∧ St m16 (.blk b2 (.cells #[.slice a4 (List.length y1.2) c4] 24 (0, 0)) :: .blk b1 (.cells #[.slice a3 (List.length y1.1.1) c3, .int .i64 y1.1.2] 35 (0, 0)) :: .room a5 (List.length y2.1) c5 5 1 :: .room a4 (List.length y1.2) c4 9 1 :: own) w' ∧ RepS cStr m16 a4 c4 y1.2 ∧ RepS (cInt .i64) m16 a3 c3 y1.1.1) ?_ ?_
              · clear hr st
                have hr := hrK
                clear hrK
                rintro _ w20 ⟨m16, rfl, hm, st, r4, r3⟩
                refine WO_end rfl ?_
                refine X_then ?_
                refine W_ret ?_
                obtain rfl := Option.some.inj hr
                refine X_ret [.tmp 8] [.bool o4] rfl (ResAll.cons (ResAt.tmp (by kernel_rfl)) ResAll.nil) ?_
                have st := st.tail
                have st := st.tail
                have st := st.tail
                have st := st.tail
                exact ⟨m16, rfl, hm, st⟩
              · intro K
                clear hrK
                refine WO_seg 1 [(77, .slice (some ⟨b3, 0, none⟩) (List.length l4) c11)] (by kernel_rfl) (by kernel_rfl) ?_
                obtain ⟨m17, hle13, st, r11⟩ := St.freeze (c := cU8) st hn4 hn1 hn2 (acells_size hn4 hn3) rfl (fun _ _ => rfl)
                have hm := Mem.le_trans hm hle13
                have r5 := r5.mono hle13
                have r4 := r4.mono hle13
                have r3 := r3.mono hle13
                refine WO_env [(10, .slice a5 (List.length y2.1) c5), (14, .int .i64 y9), (15, .slice (some ⟨b3, 0, none⟩) (List.length (List.set l4 (Int.toNat y9) (toU8 (iXor .u8 (x1.toNat : Int) p3)))) c11), (77, .slice (some ⟨b3, 0, none⟩) (List.length (List.set l4 (Int.toNat y9) (toU8 (iXor .u8 (x1.toNat : Int) p3)))) c11)] (by rw [hn4]; kernel_rfl) ?_
                replace hr := bindS hr
                obtain ⟨y10, hx16, hr⟩ := hr
                refine WO_one rfl (One_fn 78 58 #[.slice (some ⟨b3, 0, none⟩) (List.length (List.set l4 (Int.toNat y9) (toU8 (iXor .u8 (x1.toNat : Int) p3)))) c11] (by kernel_rfl) rfl ?_)
                refine (testgatelaw13_decodes_ok st r11 hx16).mono ?_
                clear st
                rintro _ w21 ⟨m18, rfl, hle14, st⟩
                refine ⟨_, rfl, ?_⟩
                have hm := Mem.le_trans hm hle14
                have r5 := r5.mono hle14
                have r11 := r11.mono hle14
                have r4 := r4.mono hle14
                have r3 := r3.mono hle14
                refine WO_seg 1 [(79, .bool y10)] (by kernel_rfl) (by kernel_rfl) ?_
                rcases bcases y10 with hc | hc
                · rw [if_pos hc] at hr
                  refine WO_fact (t := 79) (b := true) y10 (by kernel_rfl) hc ?_
                  refine WO_seg 2 [(80, .slice a5 (List.length y2.1) c5), (81, .int .i64 y9)] (by kernel_rfl) (by kernel_rfl) ?_
                  replace hr := bindS hr
                  obtain ⟨l5, hx17, hr⟩ := hr
                  refine WO_one rfl (One_slice (d := 82) (t := 50) (e := 5) (x := (.tmp 80)) (lo := none) (hi := (some (.tmp 81))) cU8 (by kernel_rfl) rfl (show evL _ _ = some (.slice a5 (List.length y2.1) c5) from (by kernel_rfl)) (by kernel_rfl) r5 (.inl ⟨rfl, rfl⟩) (.inr ⟨_, _, rfl, (show evL _ _ = some (.int .i64 y9) from (by kernel_rfl))⟩) hx17 ?_)
                  intro a11 c12 r12
                  replace hr := bindS hr
                  obtain ⟨y11, hx18, hr⟩ := hr
                  refine WO_one rfl (One_fn 83 58 #[.slice a11 (List.length l5) c12] (by kernel_rfl) rfl ?_)
                  refine (testgatelaw13_decodes_ok st r12 hx18).mono ?_
                  clear st
                  rintro _ w22 ⟨m19, rfl, hle15, st⟩
                  refine ⟨_, rfl, ?_⟩
                  have hm := Mem.le_trans hm hle15
                  have r5 := r5.mono hle15
                  have r11 := r11.mono hle15
                  have r12 := r12.mono hle15
                  have r4 := r4.mono hle15
                  have r3 := r3.mono hle15
                  refine WO_seg 2 [(85, .bool y11)] (by kernel_rfl) (by kernel_rfl) ?_
                  rcases bcases y11 with hc | hc
                  · rw [if_pos hc] at hr
                    refine WO_fact (t := 85) (b := true) y11 (by kernel_rfl) hc ?_
                    replace hr := bindS hr
                    obtain ⟨y12, hx19, hr⟩ := hr
                    refine WO_one rfl (One_fn 86 15 #[] (by kernel_rfl) rfl ?_)
                    refine (testgatelaw13_awake_ok st hx19).mono ?_
                    clear st
                    rintro _ w23 ⟨m20, rfl, hle16, st⟩
                    refine ⟨_, rfl, ?_⟩
                    have hm := Mem.le_trans hm hle16
                    have r5 := r5.mono hle16
                    have r11 := r11.mono hle16
                    have r12 := r12.mono hle16
                    have r4 := r4.mono hle16
                    have r3 := r3.mono hle16
                    refine WO_seg 2 [(8, .bool y12)] (by kernel_rfl) (by kernel_rfl) ?_
                    obtain rfl := Option.some.inj hr
                    have st := st.tail
                    have st := st.front3
                    have st := st.front3
                    have st := st.front3
                    have st := st.front3
                    exact WO_env _ (by kernel_rfl) (K _ _ ⟨m20, rfl, hm, st, r4, r3⟩)
                  · rw [if_neg (not_true hc)] at hr
                    refine WO_fact (t := 85) (b := false) y11 (by kernel_rfl) hc ?_
                    refine WO_seg 3 [(8, .bool false)] (by kernel_rfl) (by kernel_rfl) ?_
                    obtain rfl := Option.some.inj hr
                    have st := st.tail
                    have st := st.front3
                    have st := st.front3
                    have st := st.front3
                    have st := st.front3
                    exact WO_env _ (by kernel_rfl) (K _ _ ⟨m19, rfl, hm, st, r4, r3⟩)
                · rw [if_neg (not_true hc)] at hr
                  refine WO_fact (t := 79) (b := false) y10 (by kernel_rfl) hc ?_
                  refine WO_seg 9 [(8, .bool false)] (by kernel_rfl) (by kernel_rfl) ?_
                  obtain rfl := Option.some.inj hr
                  have st := st.tail
                  have st := st.front3
                  have st := st.front3
                  have st := st.front3
                  have st := st.front3
                  exact WO_env _ (by kernel_rfl) (K _ _ ⟨m18, rfl, hm, st, r4, r3⟩)
        · intro K
          clear hrK
          refine WO_seg 1 [(44, .slice a5 (List.length y2.1) c5)] (by kernel_rfl) (by kernel_rfl) ?_
          replace hr := bindS hr
          obtain ⟨y5, hx6, hr⟩ := hr
          refine WO_one rfl (One_fn 45 58 #[.slice a5 (List.length y2.1) c5] (by kernel_rfl) rfl ?_)
          refine (testgatelaw13_decodes_ok st r5 hx6).mono ?_
          clear st
          rintro _ w11 ⟨m9, rfl, hle6, st⟩
          refine ⟨_, rfl, ?_⟩
          have hm := Mem.le_trans hm hle6
          have r7 := r7.mono hle6
          have r5 := r5.mono hle6
          have r4 := r4.mono hle6
          have r3 := r3.mono hle6
          refine WO_seg 2 [(47, .bool (!y5))] (by kernel_rfl) (by kernel_rfl) ?_
          rcases bcases (!y5) with hc | hc
          · rw [if_pos hc] at hr
            refine WO_fact (t := 47) (b := true) (!y5) (by kernel_rfl) hc ?_
            refine WO_seg 12 [(59, .bool true)] (by kernel_rfl) (by kernel_rfl) ?_
            obtain rfl := Option.some.inj hr
            have st := st.front3
            have st := st.front3
            have st := st.front3
            have st := st.front3
            exact WO_env _ (by kernel_rfl) (K _ _ ⟨m9, rfl, hm, st, r5, r4, r3⟩)
          · rw [if_neg (not_true hc)] at hr
            refine WO_fact (t := 47) (b := false) (!y5) (by kernel_rfl) hc ?_
            refine WO_seg 1 [(48, .slice a7 (List.length o2) c7)] (by kernel_rfl) (by kernel_rfl) ?_
            replace hr := bindS hr
            obtain ⟨y6, hx7, hr⟩ := hr
            refine WO_one rfl (One_fn 49 58 #[.slice a7 (List.length o2) c7] (by kernel_rfl) rfl ?_)
            refine (testgatelaw13_decodes_ok st r7 hx7).mono ?_
            clear st
            rintro _ w12 ⟨m10, rfl, hle7, st⟩
            refine ⟨_, rfl, ?_⟩
            have hm := Mem.le_trans hm hle7
            have r7 := r7.mono hle7
            have r5 := r5.mono hle7
            have r4 := r4.mono hle7
            have r3 := r3.mono hle7
            refine WO_seg 3 [(52, .bool (!y6))] (by kernel_rfl) (by kernel_rfl) ?_
            rcases bcases (!y6) with hc | hc
            · rw [if_pos hc] at hr
              refine WO_fact (t := 52) (b := true) (!y6) (by kernel_rfl) hc ?_
              refine WO_seg 7 [(59, .bool true)] (by kernel_rfl) (by kernel_rfl) ?_
              obtain rfl := Option.some.inj hr
              have st := st.front3
              have st := st.front3
              have st := st.front3
              have st := st.front3
              exact WO_env _ (by kernel_rfl) (K _ _ ⟨m10, rfl, hm, st, r5, r4, r3⟩)
            · rw [if_neg (not_true hc)] at hr
              refine WO_fact (t := 52) (b := false) (!y6) (by kernel_rfl) hc ?_
              refine WO_seg 1 [(53, .slice a5 (List.length y2.1) c5)] (by kernel_rfl) (by kernel_rfl) ?_
              have st := st.nilroom 5 1
              replace hr := bindS hr
              obtain ⟨l2, hx8, hr⟩ := hr
              refine WO_one rfl (One_append (d := 54) (t := 50) (u := 50) (e := 5) (by_ := 1) (x := (.const (.slice none 0 0))) (y := (.tmp 53)) cU8 (by kernel_rfl) rfl (show evL _ _ = some (.slice none (List.length ([] : List (UInt8))) 0) from (by kernel_rfl)) (show evL _ _ = some (.slice a5 (List.length y2.1) c5) from (by kernel_rfl)) st (by kernel_rfl) (.inl (by kernel_rfl)) (RepS.nil _ _) r5.src hx8 ?_)
              clear st
              intro a9 c9 m11 w13 hle8 st r9
              have hm := Mem.le_trans hm hle8
              have r7 := r7.mono hle8
              have r5 := r5.mono hle8
              have r4 := r4.mono hle8
              have r3 := r3.mono hle8
              refine WO_seg 1 [(55, .slice a5 (List.length y2.1) c5)] (by kernel_rfl) (by kernel_rfl) ?_
              replace hr := bindS hr
              obtain ⟨l3, hx9, hr⟩ := hr
              refine WO_one rfl (One_append (d := 56) (t := 50) (u := 50) (e := 5) (by_ := 1) (x := (.tmp 54)) (y := (.tmp 55)) cU8 (by kernel_rfl) rfl (show evL _ _ = some (.slice a9 (List.length l2) c9) from (by kernel_rfl)) (show evL _ _ = some (.slice a5 (List.length y2.1) c5) from (by kernel_rfl)) st (by kernel_rfl) (.inl (by kernel_rfl)) r9 r5.src hx9 ?_)
              clear st
              intro a10 c10 m12 w14 hle9 st r10
              have hm := Mem.le_trans hm hle9
              have r7 := r7.mono hle9
              have r5 := r5.mono hle9
              have r9 := r9.mono hle9
              have r4 := r4.mono hle9
              have r3 := r3.mono hle9
              replace hr := bindS hr
              obtain ⟨y7, hx10, hr⟩ := hr
              refine WO_one rfl (One_fn 57 58 #[.slice a10 (List.length l3) c10] (by kernel_rfl) rfl ?_)
              refine (testgatelaw13_decodes_ok st r10 hx10).mono ?_
              clear st
              rintro _ w15 ⟨m13, rfl, hle10, st⟩
              refine ⟨_, rfl, ?_⟩
              have hm := Mem.le_trans hm hle10
              have r7 := r7.mono hle10
              have r5 := r5.mono hle10
              have r9 := r9.mono hle10
              have r10 := r10.mono hle10
              have r4 := r4.mono hle10
              have r3 := r3.mono hle10
              refine WO_seg 2 [(59, .bool (!y7))] (by kernel_rfl) (by kernel_rfl) ?_
              obtain rfl := Option.some.inj hr
              have st := st.tail
              have st := st.front3
              have st := st.front3
              have st := st.front3
              have st := st.front3
              exact WO_env _ (by kernel_rfl) (K _ _ ⟨m13, rfl, hm, st, r5, r4, r3⟩)
      · intro Ku1
        clear hrKu1
        refine W_cond (decide ((List.length p1 : Int) > 300)) (by kernel_rfl) ?_ ?_
        · intro hc
          rw [if_pos hc] at hr
          refine W_region ?_
          refine WO_seg 1 [(42, .slice a2 (List.length p1) c2)] (by kernel_rfl) (by kernel_rfl) ?_
          replace hr := bindS hr
          obtain ⟨l1, hx5, hr⟩ := hr
          refine WO_one rfl (One_slice (d := 43) (t := 50) (e := 5) (x := (.tmp 42)) (lo := none) (hi := (some (.const (.int .i64 300)))) cU8 (by kernel_rfl) rfl (show evL _ _ = some (.slice a2 (List.length p1) c2) from (by kernel_rfl)) (by kernel_rfl) r2 (.inl ⟨rfl, rfl⟩) (.inr ⟨_, _, rfl, (show evL _ _ = some (.int .i64 300) from (by kernel_rfl))⟩) hx5 ?_)
          intro a8 c8 r8
          refine WO_seg 1 [(1, .slice a8 (List.length l1) c8)] (by kernel_rfl) (by kernel_rfl) ?_
          refine WO_end rfl ?_
          obtain rfl := Option.some.inj hr
          have st := st.front3
          have st := st.front3
          have st := st.front3
          have st := st.front3
          exact X_env _ (by kernel_rfl) (Ku1 _ _ ⟨a8, c8, m5, rfl, hm, st, r8, r5, r4, r3⟩)
        · intro hc
          rw [if_neg (not_true hc)] at hr
          refine W_skip ?_
          obtain rfl := Option.some.inj hr
          have st := st.front3
          have st := st.front3
          have st := st.front3
          have st := st.front3
          exact X_env _ (by kernel_rfl) (Ku1 _ _ ⟨a2, c2, m5, rfl, hm, st, r2, r5, r4, r3⟩)
  · intro K
    clear hrK
    refine WO_seg 4 [(33, .bool (y2.2 != y3.2))] (by kernel_rfl) (by kernel_rfl) ?_
    rcases bcases (y2.2 != y3.2) with hc | hc
    · rw [if_pos hc] at hr
      refine WO_fact (t := 33) (b := true) (y2.2 != y3.2) (by kernel_rfl) hc ?_
      refine WO_seg 5 [(38, .bool true)] (by kernel_rfl) (by kernel_rfl) ?_
      obtain rfl := Option.some.inj hr
      have st := st.front3
      have st := st.front2
      have st := st.front2
      have st := st.front4
      have st := st.front4
      exact WO_env _ (by kernel_rfl) (K _ _ ⟨m4, rfl, hm, st, r2, r5, r4, r3⟩)
    · rw [if_neg (not_true hc)] at hr
      refine WO_fact (t := 33) (b := false) (y2.2 != y3.2) (by kernel_rfl) hc ?_
      refine WO_seg 2 [(34, .slice a5 (List.length y2.1) c5), (35, .slice a6 (List.length y3.1) c6)] (by kernel_rfl) (by kernel_rfl) ?_
      replace hr := bindS hr
      obtain ⟨y4, hx4, hr⟩ := hr
      refine WO_one rfl (One_fn 36 33 #[.slice a5 (List.length y2.1) c5, .slice a6 (List.length y3.1) c6] (by kernel_rfl) rfl ?_)
      refine (testgateref03_Same_ok st r5 r6 hx4).mono ?_
      clear st
      rintro _ w8 ⟨m6, rfl, hle5, st⟩
      refine ⟨_, rfl, ?_⟩
      have hm := Mem.le_trans hm hle5
      have r2 := r2.mono hle5
      have r5 := r5.mono hle5
      have r6 := r6.mono hle5
      have r4 := r4.mono hle5
      have r3 := r3.mono hle5
      refine WO_seg 2 [(38, .bool (!y4))] (by kernel_rfl) (by kernel_rfl) ?_
      obtain rfl := Option.some.inj hr
      have st := st.front3
      have st := st.front2
      have st := st.front2
      have st := st.front4
      have st := st.front4
      exact WO_env _ (by kernel_rfl) (K _ _ ⟨m6, rfl, hm, st, r2, r5, r4, r3⟩)

def slices_Index_string_string_L1 (N : Nat) (p0 : List ByteArray) (p1 : ByteArray) (s1 : Int) : Option ((Int) ⊕ ((Unit) ⊕ (Int))) :=
  if (decide (s1 < (List.length p0 : Int))) = true then ((idx p0 s1).bind fun x1 => if (p1.toList == x1.toList) = true then (some (.inr (.inr (s1)))) else (some (.inl (IntKind.wrap .i64 (s1 + 1))))) else (some (.inr (.inl ())))

def slices_Index_string_string (N : Nat) (p0 : List ByteArray) (p1 : ByteArray) : Option (Int) :=
  (loopM (slices_Index_string_string_L1 N p0 p1) N 0).bind fun out1 => (match out1 with | .inl o1 => some (-1) | .inr (z) => some z)

set_option maxHeartbeats 4000000 in
set_option maxRecDepth 100000 in
theorem slices_Index_string_string_ok {N : Nat} {m : Mem} {own : List Piece} {w : World} {p0 : List ByteArray} {p1 : ByteArray} {a1 : Option Addr} {c1 : Nat} {r : Int} (st : St m (own) w) (r1 : RepS cStr m a1 c1 p0) (hr : slices_Index_string_string N p0 p1 = some r) : Calls Go.Proofs.Try.prog 64 #[.slice a1 (List.length p0) c1, .string p1] w fun e w' => ∃ (m' : Mem), e = .returned (.int .i64 r) ∧ m.le m' ∧ St m' (own) w' := by
  unfold slices_Index_string_string at hr
  have hm := m.le_refl
  refine W_calls Go.Proofs.Try.func64 rfl Go.Proofs.Try.ntmps64 [(0, .slice a1 (List.length p0) c1), (1, .string p1)] (by kernel_rfl) rfl ?_
  refine W_seq ?_
  refine W_region ?_
  refine WO_seg 1 [] (by kernel_rfl) (by kernel_rfl) ?_
  refine WO_end rfl ?_
  refine X_then ?_
  refine W_seq ?_
  refine W_seq ?_
  refine W_region ?_
  refine WO_seg 3 [(7, .int .i64 (List.length p0 : Int)), (8, .int .i64 0)] (by kernel_rfl) (by kernel_rfl) ?_
  refine WO_end rfl ?_
  refine X_then ?_
  refine W_block ?_
  replace hr := bindS hr
  obtain ⟨out1, hr, hrKu1⟩ := hr
  refine W_cut (.exit 0) (fun L' w' => ∃ (o1 : Unit) (m1 : Mem), (.inl o1) = out1 ∧ L' = [] ∧ m.le m1 ∧ St m1 (own) w') ?_ ?_
  · clear hr st
    rintro _ w1 ⟨o1, m1, rfl, rfl, hm, st⟩
    have hr := hrKu1
    clear hrKu1
    dsimp only at hr
    refine X_block_eq ?_
    refine X_then ?_
    refine W_seq ?_
    refine W_region ?_
    refine WO_seg 1 [(4, .int .i64 (-1))] (by kernel_rfl) (by kernel_rfl) ?_
    refine WO_end rfl ?_
    refine X_then ?_
    refine W_ret ?_
    obtain rfl := Option.some.inj hr
    refine X_ret [.tmp 4] [.int .i64 (-1)] rfl (ResAll.cons (ResAt.tmp (by kernel_rfl)) ResAll.nil) ?_
    exact ⟨m1, rfl, hm, st⟩
  intro K0_u1
  refine W_env _ (by kernel_rfl) (W_loop (fun k1 L' w' => ∃ (s1 : Int) (m2 : Mem), loopM (slices_Index_string_string_L1 N p0 p1) k1 s1 = some out1 ∧ L' = [(0, .slice a1 (List.length p0) c1), (1, .string p1), (7, .int .i64 (List.length p0 : Int)), (8, .int .i64 s1)] ∧ m.le m2 ∧ St m2 (own) w' ∧ RepS cStr m2 a1 c1 p0) N ⟨0, m, hr, rfl, hm, st, r1⟩ ?_)
  clear st hr
  rintro k1 _ w2 ⟨s1, m2, hL, rfl, hm, st, r1⟩
  rcases k1 with _ | k1
  · exact loopM_zero hL
  · obtain ⟨qu1, hr, hSu1, hBu1⟩ := loopM_succ hL
    clear hL
    unfold slices_Index_string_string_L1 at hr
    refine W_seq ?_
    refine W_region ?_
    refine WO_seg 1 [(9, .bool (decide (s1 < (List.length p0 : Int))))] (by kernel_rfl) (by kernel_rfl) ?_
    refine WO_end rfl ?_
    refine X_then ?_
    refine W_seq ?_
    refine W_cond (decide (s1 < (List.length p0 : Int))) (by kernel_rfl) ?_ ?_
    · intro hc
      rw [if_pos hc] at hr
      refine W_skip ?_
      refine X_then ?_
      refine W_seq ?_
      refine W_block ?_
      refine W_seq ?_
      refine W_region ?_
      refine WO_seg 2 [(5, .int .i64 s1)] (by kernel_rfl) (by kernel_rfl) ?_
      refine WO_end rfl ?_
      refine X_then ?_
      refine W_seq ?_
      refine W_region ?_
      refine WO_seg 3 [(11, .string p1), (12, .slice a1 (List.length p0) c1), (13, .int .i64 s1)] (by kernel_rfl) (by kernel_rfl) ?_
      replace hr := bindS hr
      obtain ⟨x1, hx1, hr⟩ := hr
      refine WO_one rfl (One_index (d := 14) (t := 22) (e := 9) (x := (.tmp 12)) (y := (.tmp 13)) cStr (by kernel_rfl) rfl (show evL _ _ = some (.slice a1 (List.length p0) c1) from (by kernel_rfl)) (show evL _ _ = some (.int .i64 s1) from (by kernel_rfl)) (by kernel_rfl) r1 hx1 ?_)
      rintro b1 f1 cs1 rfl hq1
      refine WO_one rfl (One_load_row (d := 15) (t := 9) (x := (.tmp 14)) (.string x1) (by kernel_rfl) rfl (show evL _ _ = some (.pointer (some ⟨b1, f1, none⟩)) from (by kernel_rfl)) st hq1 (by kernel_rfl) ?_)
      refine WO_seg 1 [(16, .bool (p1.toList == x1.toList))] (by kernel_rfl) (by kernel_rfl) ?_
      refine WO_end rfl ?_
      refine X_then ?_
      refine W_cond (p1.toList == x1.toList) (by kernel_rfl) ?_ ?_
      · intro hc
        rw [if_pos hc] at hr
        refine W_seq ?_
        refine W_region ?_
        refine WO_seg 2 [(4, .int .i64 s1)] (by kernel_rfl) (by kernel_rfl) ?_
        refine WO_end rfl ?_
        refine X_then ?_
        refine W_ret ?_
        refine X_block_ret ?_
        refine X_then_ret ?_
        obtain rfl := Option.some.inj hr
        have ho := hBu1 _ rfl
        subst ho
        have hr := hrKu1
        dsimp only at hr
        refine X_then_ret ?_
        refine X_block_ret ?_
        refine X_then_ret ?_
        obtain rfl := Option.some.inj hr
        refine X_ret [.tmp 4] [.int .i64 s1] rfl (ResAll.cons (ResAt.tmp (by kernel_rfl)) ResAll.nil) ?_
        exact ⟨m2, rfl, hm, st⟩
      · intro hc
        rw [if_neg (not_true hc)] at hr
        refine W_skip ?_
        refine X_block ?_
        refine X_then ?_
        refine W_region ?_
        refine WO_seg 2 [(8, .int .i64 (IntKind.wrap .i64 (s1 + 1)))] (by kernel_rfl) (by kernel_rfl) ?_
        refine WO_end rfl ?_
        obtain rfl := Option.some.inj hr
        have hL := hSu1 _ rfl
        exact X_env _ (by kernel_rfl) (X_round k1 (Nat.lt_succ_self _) ⟨IntKind.wrap .i64 (s1 + 1), m2, hL, rfl, hm, st, r1⟩)
    · intro hc
      rw [if_neg (not_true hc)] at hr
      refine W_exit ?_
      refine X_then_exit ?_
      obtain rfl := Option.some.inj hr
      have ho := hBu1 _ rfl
      refine X_then_exit ?_
      exact X_env _ (by kernel_rfl) (K0_u1 _ _ ⟨(), m2, ho, rfl, hm, st⟩)

def contents_Find (N : Nat) (p0 : List ByteArray) (p1 : ByteArray) : Option (Int × Bool) :=
  (contents_Check N p0).bind fun y1 => if (y1 != 0) = true then (some (0, false)) else ((slices_Index_string_string N p0 p1).bind fun y2 => some (if 0 > y2 then 0 else y2, decide (y2 ≥ 0)))

set_option maxHeartbeats 4000000 in
set_option maxRecDepth 100000 in
theorem contents_Find_ok {N : Nat} {m : Mem} {own : List Piece} {w : World} {p0 : List ByteArray} {p1 : ByteArray} {a1 : Option Addr} {c1 : Nat} {r : Int × Bool} (st : St m (own) w) (r1 : RepS cStr m a1 c1 p0) (hr : contents_Find N p0 p1 = some r) : Calls Go.Proofs.Try.prog 19 #[.agg #[.slice a1 (List.length p0) c1], .string p1] w fun e w' => ∃ (m' : Mem), e = .returned (.tuple #[.int .i64 r.1, .bool r.2]) ∧ m.le m' ∧ St m' (own) w' := by
  unfold contents_Find at hr
  have hm := m.le_refl
  refine W_calls Go.Proofs.Try.func19 rfl Go.Proofs.Try.ntmps19 [(0, .agg #[.slice a1 (List.length p0) c1]), (1, .string p1)] (by kernel_rfl) rfl ?_
  refine W_seq ?_
  refine W_region ?_
  refine WO_one rfl (One_box (d := 2) (e := 24) (x := (.tmp 0)) (.agg #[.slice a1 (List.length p0) c1]) (by kernel_rfl) rfl (by kernel_rfl) st ?_)
  clear st
  intro b1 m1 w1 hle1 st hb1
  have hm := Mem.le_trans hm hle1
  have r1 := r1.mono hle1
  refine WO_seg 2 [] (by kernel_rfl) (by kernel_rfl) ?_
  refine WO_end rfl ?_
  refine X_then ?_
  refine W_seq ?_
  refine W_seq ?_
  refine W_region ?_
  refine WO_one rfl (One_load_row (d := 7) (t := 24) (x := (.tmp 2)) (.agg #[.slice a1 (List.length p0) c1]) (by kernel_rfl) rfl (show evL _ _ = some (.pointer (some ⟨b1, 0, none⟩)) from (by kernel_rfl)) st hb1 (by kernel_rfl) ?_)
  replace hr := bindS hr
  obtain ⟨y1, hx1, hr⟩ := hr
  refine WO_one rfl (One_fn 8 14 #[.agg #[.slice a1 (List.length p0) c1]] (by kernel_rfl) rfl ?_)
  refine (contents_Check_ok st r1 hx1).mono ?_
  clear st
  rintro _ w2 ⟨m2, rfl, hle2, st⟩
  refine ⟨_, rfl, ?_⟩
  have hm := Mem.le_trans hm hle2
  have hb1 := hb1.mono hle2
  have r1 := r1.mono hle2
  refine WO_seg 1 [(9, .bool (y1 != 0))] (by kernel_rfl) (by kernel_rfl) ?_
  refine WO_end rfl ?_
  refine X_then ?_
  refine W_cond (y1 != 0) (by kernel_rfl) ?_ ?_
  · intro hc
    rw [if_pos hc] at hr
    refine W_seq ?_
    refine W_region ?_
    refine WO_seg 2 [(4, .int .i64 0), (5, .bool false)] (by kernel_rfl) (by kernel_rfl) ?_
    refine WO_end rfl ?_
    refine X_then ?_
    refine W_ret ?_
    refine X_then_ret ?_
    obtain rfl := Option.some.inj hr
    refine X_ret [.tmp 4, .tmp 5] [.int .i64 0, .bool false] rfl (ResAll.cons (ResAt.tmp (by kernel_rfl)) (ResAll.cons (ResAt.tmp (by kernel_rfl)) ResAll.nil)) ?_
    exact ⟨m2, rfl, hm, st⟩
  · intro hc
    rw [if_neg (not_true hc)] at hr
    refine W_skip ?_
    refine X_then ?_
    refine W_seq ?_
    refine W_region ?_
    refine WO_seg 1 [(10, .pointer (some ⟨b1, 0, none⟩))] (by kernel_rfl) (by kernel_rfl) ?_
    refine WO_one rfl (One_load_row (d := 11) (t := 22) (x := (.tmp 10)) (.slice a1 (List.length p0) c1) (by kernel_rfl) rfl (show evL _ _ = some (.pointer (some ⟨b1, 0, none⟩)) from (by kernel_rfl)) st hb1 (by kernel_rfl) ?_)
    refine WO_seg 1 [(12, .string p1)] (by kernel_rfl) (by kernel_rfl) ?_
    replace hr := bindS hr
    obtain ⟨y2, hx2, hr⟩ := hr
    refine WO_one rfl (One_fn 13 64 #[.slice a1 (List.length p0) c1, .string p1] (by kernel_rfl) rfl ?_)
    refine (slices_Index_string_string_ok st r1 hx2).mono ?_
    clear st
    rintro _ w3 ⟨m3, rfl, hle3, st⟩
    refine ⟨_, rfl, ?_⟩
    have hm := Mem.le_trans hm hle3
    have hb1 := hb1.mono hle3
    have r1 := r1.mono hle3
    refine WO_seg 1 [(6, .int .i64 y2)] (by kernel_rfl) (by kernel_rfl) ?_
    refine WO_end rfl ?_
    refine X_then ?_
    refine W_seq ?_
    refine W_region ?_
    refine WO_seg 6 [(4, .int .i64 (if 0 > y2 then 0 else y2)), (5, .bool (decide (y2 ≥ 0)))] (by kernel_rfl) (by kernel_rfl) ?_
    refine WO_end rfl ?_
    refine X_then ?_
    refine W_ret ?_
    obtain rfl := Option.some.inj hr
    refine X_ret [.tmp 4, .tmp 5] [.int .i64 (if 0 > y2 then 0 else y2), .bool (decide (y2 ≥ 0))] rfl (ResAll.cons (ResAt.tmp (by kernel_rfl)) (ResAll.cons (ResAt.tmp (by kernel_rfl)) ResAll.nil)) ?_
    exact ⟨m3, rfl, hm, st⟩

def testgateref13_find_L1 (N : Nat) (p0 : List ByteArray) (p1 : ByteArray) (s1 : Int) : Option ((Int) ⊕ ((Unit) ⊕ (Int))) :=
  if (decide (s1 < (List.length p0 : Int))) = true then ((idx p0 s1).bind fun x1 => if (x1.toList == p1.toList) = true then (some (.inr (.inr (s1)))) else (some (.inl (IntKind.wrap .i64 (s1 + 1))))) else (some (.inr (.inl ())))

def testgateref13_find (N : Nat) (p0 : List ByteArray) (p1 : ByteArray) : Option (Int) :=
  (loopM (testgateref13_find_L1 N p0 p1) N 0).bind fun out1 => (match out1 with | .inl o1 => some (-1) | .inr (z) => some z)

set_option maxHeartbeats 4000000 in
set_option maxRecDepth 100000 in
theorem testgateref13_find_ok {N : Nat} {m : Mem} {own : List Piece} {w : World} {p0 : List ByteArray} {p1 : ByteArray} {a1 : Option Addr} {c1 : Nat} {r : Int} (st : St m (own) w) (r1 : RepS cStr m a1 c1 p0) (hr : testgateref13_find N p0 p1 = some r) : Calls Go.Proofs.Try.prog 65 #[.agg #[.slice a1 (List.length p0) c1], .string p1] w fun e w' => ∃ (m' : Mem), e = .returned (.int .i64 r) ∧ m.le m' ∧ St m' (own) w' := by
  unfold testgateref13_find at hr
  have hm := m.le_refl
  refine W_calls Go.Proofs.Try.func65 rfl Go.Proofs.Try.ntmps65 [(0, .agg #[.slice a1 (List.length p0) c1]), (1, .string p1)] (by kernel_rfl) rfl ?_
  refine W_seq ?_
  refine W_region ?_
  refine WO_one rfl (One_box (d := 2) (e := 24) (x := (.tmp 0)) (.agg #[.slice a1 (List.length p0) c1]) (by kernel_rfl) rfl (by kernel_rfl) st ?_)
  clear st
  intro b1 m1 w1 hle1 st hb1
  have hm := Mem.le_trans hm hle1
  have r1 := r1.mono hle1
  refine WO_seg 1 [] (by kernel_rfl) (by kernel_rfl) ?_
  refine WO_end rfl ?_
  refine X_then ?_
  refine W_seq ?_
  refine W_seq ?_
  refine W_region ?_
  refine WO_seg 1 [(7, .pointer (some ⟨b1, 0, none⟩))] (by kernel_rfl) (by kernel_rfl) ?_
  refine WO_one rfl (One_load_row (d := 8) (t := 22) (x := (.tmp 7)) (.slice a1 (List.length p0) c1) (by kernel_rfl) rfl (show evL _ _ = some (.pointer (some ⟨b1, 0, none⟩)) from (by kernel_rfl)) st hb1 (by kernel_rfl) ?_)
  refine WO_seg 2 [(9, .int .i64 (List.length p0 : Int)), (10, .int .i64 0)] (by kernel_rfl) (by kernel_rfl) ?_
  refine WO_end rfl ?_
  refine X_then ?_
  refine W_block ?_
  replace hr := bindS hr
  obtain ⟨out1, hr, hrKu1⟩ := hr
  refine W_cut (.exit 0) (fun L' w' => ∃ (o1 : Unit) (m2 : Mem), (.inl o1) = out1 ∧ L' = [] ∧ m.le m2 ∧ St m2 (own) w') ?_ ?_
  · clear hr st
    rintro _ w2 ⟨o1, m2, rfl, rfl, hm, st⟩
    have hr := hrKu1
    clear hrKu1
    dsimp only at hr
    refine X_block_eq ?_
    refine X_then ?_
    refine W_seq ?_
    refine W_region ?_
    refine WO_seg 1 [(4, .int .i64 (-1))] (by kernel_rfl) (by kernel_rfl) ?_
    refine WO_end rfl ?_
    refine X_then ?_
    refine W_ret ?_
    obtain rfl := Option.some.inj hr
    refine X_ret [.tmp 4] [.int .i64 (-1)] rfl (ResAll.cons (ResAt.tmp (by kernel_rfl)) ResAll.nil) ?_
    exact ⟨m2, rfl, hm, st⟩
  intro K0_u1
  refine W_env _ (by kernel_rfl) (W_loop (fun k1 L' w' => ∃ (s1 : Int) (m3 : Mem), loopM (testgateref13_find_L1 N p0 p1) k1 s1 = some out1 ∧ L' = [(1, .string p1), (8, .slice a1 (List.length p0) c1), (9, .int .i64 (List.length p0 : Int)), (10, .int .i64 s1)] ∧ m.le m3 ∧ St m3 (own) w' ∧ RepS cStr m3 a1 c1 p0) N ⟨0, m1, hr, rfl, hm, st, r1⟩ ?_)
  clear st hr
  rintro k1 _ w3 ⟨s1, m3, hL, rfl, hm, st, r1⟩
  rcases k1 with _ | k1
  · exact loopM_zero hL
  · obtain ⟨qu1, hr, hSu1, hBu1⟩ := loopM_succ hL
    clear hL
    unfold testgateref13_find_L1 at hr
    refine W_seq ?_
    refine W_region ?_
    refine WO_seg 1 [(11, .bool (decide (s1 < (List.length p0 : Int))))] (by kernel_rfl) (by kernel_rfl) ?_
    refine WO_end rfl ?_
    refine X_then ?_
    refine W_seq ?_
    refine W_cond (decide (s1 < (List.length p0 : Int))) (by kernel_rfl) ?_ ?_
    · intro hc
      rw [if_pos hc] at hr
      refine W_skip ?_
      refine X_then ?_
      refine W_seq ?_
      refine W_block ?_
      refine W_seq ?_
      refine W_region ?_
      refine WO_seg 1 [(12, .int .i64 s1)] (by kernel_rfl) (by kernel_rfl) ?_
      replace hr := bindS hr
      obtain ⟨x1, hx1, hr⟩ := hr
      refine WO_one rfl (One_index (d := 13) (t := 22) (e := 9) (x := (.tmp 8)) (y := (.tmp 10)) cStr (by kernel_rfl) rfl (show evL _ _ = some (.slice a1 (List.length p0) c1) from (by kernel_rfl)) (show evL _ _ = some (.int .i64 s1) from (by kernel_rfl)) (by kernel_rfl) r1 hx1 ?_)
      rintro b2 f1 cs1 rfl hq1
      refine WO_one rfl (One_load_row (d := 14) (t := 9) (x := (.tmp 13)) (.string x1) (by kernel_rfl) rfl (show evL _ _ = some (.pointer (some ⟨b2, f1, none⟩)) from (by kernel_rfl)) st hq1 (by kernel_rfl) ?_)
      refine WO_seg 2 [(5, .int .i64 s1), (6, .string x1)] (by kernel_rfl) (by kernel_rfl) ?_
      refine WO_end rfl ?_
      refine X_then ?_
      refine W_seq ?_
      refine W_region ?_
      refine WO_seg 3 [(17, .bool (x1.toList == p1.toList))] (by kernel_rfl) (by kernel_rfl) ?_
      refine WO_end rfl ?_
      refine X_then ?_
      refine W_cond (x1.toList == p1.toList) (by kernel_rfl) ?_ ?_
      · intro hc
        rw [if_pos hc] at hr
        refine W_seq ?_
        refine W_region ?_
        refine WO_seg 2 [(4, .int .i64 s1)] (by kernel_rfl) (by kernel_rfl) ?_
        refine WO_end rfl ?_
        refine X_then ?_
        refine W_ret ?_
        refine X_block_ret ?_
        refine X_then_ret ?_
        obtain rfl := Option.some.inj hr
        have ho := hBu1 _ rfl
        subst ho
        have hr := hrKu1
        dsimp only at hr
        refine X_then_ret ?_
        refine X_block_ret ?_
        refine X_then_ret ?_
        obtain rfl := Option.some.inj hr
        refine X_ret [.tmp 4] [.int .i64 s1] rfl (ResAll.cons (ResAt.tmp (by kernel_rfl)) ResAll.nil) ?_
        exact ⟨m3, rfl, hm, st⟩
      · intro hc
        rw [if_neg (not_true hc)] at hr
        refine W_skip ?_
        refine X_block ?_
        refine X_then ?_
        refine W_region ?_
        refine WO_seg 2 [(10, .int .i64 (IntKind.wrap .i64 (s1 + 1)))] (by kernel_rfl) (by kernel_rfl) ?_
        refine WO_end rfl ?_
        obtain rfl := Option.some.inj hr
        have hL := hSu1 _ rfl
        exact X_env _ (by kernel_rfl) (X_round k1 (Nat.lt_succ_self _) ⟨IntKind.wrap .i64 (s1 + 1), m3, hL, rfl, hm, st, r1⟩)
    · intro hc
      rw [if_neg (not_true hc)] at hr
      refine W_exit ?_
      refine X_then_exit ?_
      obtain rfl := Option.some.inj hr
      have ho := hBu1 _ rfl
      refine X_then_exit ?_
      exact X_env _ (by kernel_rfl) (K0_u1 _ _ ⟨(), m3, ho, rfl, hm, st⟩)

def testgateref13_Find (N : Nat) (p0 : List ByteArray) (p1 : ByteArray) : Option (Int × Bool) :=
  (testgateref13_find N p0 p1).bind fun y1 => ((testgateref13_Check N p0).bind fun y2 => if (y2 == 0) = true then (some (decide (y1 ≥ 0))) else (some false) : Option (Bool)).bind fun o1 => if o1 = true then (some (y1, true)) else (some (0, false))

set_option maxHeartbeats 4000000 in
set_option maxRecDepth 100000 in
theorem testgateref13_Find_ok {N : Nat} {m : Mem} {own : List Piece} {w : World} {p0 : List ByteArray} {p1 : ByteArray} {a1 : Option Addr} {c1 : Nat} {r : Int × Bool} (st : St m (own) w) (r1 : RepS cStr m a1 c1 p0) (hr : testgateref13_Find N p0 p1 = some r) : Calls Go.Proofs.Try.prog 20 #[.agg #[.slice a1 (List.length p0) c1], .string p1] w fun e w' => ∃ (m' : Mem), e = .returned (.tuple #[.int .i64 r.1, .bool r.2]) ∧ m.le m' ∧ St m' (own) w' := by
  unfold testgateref13_Find at hr
  have hm := m.le_refl
  refine W_calls Go.Proofs.Try.func20 rfl Go.Proofs.Try.ntmps20 [(0, .agg #[.slice a1 (List.length p0) c1]), (1, .string p1)] (by kernel_rfl) rfl ?_
  refine W_seq ?_
  refine W_region ?_
  refine WO_one rfl (One_box (d := 2) (e := 24) (x := (.tmp 0)) (.agg #[.slice a1 (List.length p0) c1]) (by kernel_rfl) rfl (by kernel_rfl) st ?_)
  clear st
  intro b1 m1 w1 hle1 st hb1
  have hm := Mem.le_trans hm hle1
  have r1 := r1.mono hle1
  refine WO_seg 2 [] (by kernel_rfl) (by kernel_rfl) ?_
  refine WO_end rfl ?_
  refine X_then ?_
  refine W_seq ?_
  refine W_seq ?_
  refine W_region ?_
  refine WO_one rfl (One_load_row (d := 7) (t := 24) (x := (.tmp 2)) (.agg #[.slice a1 (List.length p0) c1]) (by kernel_rfl) rfl (show evL _ _ = some (.pointer (some ⟨b1, 0, none⟩)) from (by kernel_rfl)) st hb1 (by kernel_rfl) ?_)
  refine WO_seg 1 [(8, .string p1)] (by kernel_rfl) (by kernel_rfl) ?_
  replace hr := bindS hr
  obtain ⟨y1, hx1, hr⟩ := hr
  refine WO_one rfl (One_fn 9 65 #[.agg #[.slice a1 (List.length p0) c1], .string p1] (by kernel_rfl) rfl ?_)
  refine (testgateref13_find_ok st r1 hx1).mono ?_
  clear st
  rintro _ w2 ⟨m2, rfl, hle2, st⟩
  refine ⟨_, rfl, ?_⟩
  have hm := Mem.le_trans hm hle2
  have hb1 := hb1.mono hle2
  have r1 := r1.mono hle2
  refine WO_seg 1 [(6, .int .i64 y1)] (by kernel_rfl) (by kernel_rfl) ?_
  refine WO_end rfl ?_
  refine X_then ?_
  refine W_seq ?_
  refine W_region ?_
  replace hr := bindS hr
  obtain ⟨o1, hr, hrK⟩ := hr
  refine WO_cut (j := 7) (fun L' w' => ∃ (m3 : Mem), L' = [(6, .int .i64 y1), (16, .bool o1)] ∧ m.le m3 ∧ St m3 (own) w') ?_ ?_
  · clear hr st
    have hr := hrK
    clear hrK
    rintro _ w3 ⟨m3, rfl, hm, st⟩
    refine WO_end rfl ?_
    refine X_then ?_
    refine W_cond o1 (by kernel_rfl) ?_ ?_
    · intro hc
      rw [if_pos hc] at hr
      refine W_seq ?_
      refine W_region ?_
      refine WO_seg 3 [(4, .int .i64 y1), (5, .bool true)] (by kernel_rfl) (by kernel_rfl) ?_
      refine WO_end rfl ?_
      refine X_then ?_
      refine W_ret ?_
      refine X_then_ret ?_
      obtain rfl := Option.some.inj hr
      refine X_ret [.tmp 4, .tmp 5] [.int .i64 y1, .bool true] rfl (ResAll.cons (ResAt.tmp (by kernel_rfl)) (ResAll.cons (ResAt.tmp (by kernel_rfl)) ResAll.nil)) ?_
      exact ⟨m3, rfl, hm, st⟩
    · intro hc
      rw [if_neg (not_true hc)] at hr
      refine W_skip ?_
      refine X_then ?_
      refine W_seq ?_
      refine W_region ?_
      refine WO_seg 2 [(4, .int .i64 0), (5, .bool false)] (by kernel_rfl) (by kernel_rfl) ?_
      refine WO_end rfl ?_
      refine X_then ?_
      refine W_ret ?_
      obtain rfl := Option.some.inj hr
      refine X_ret [.tmp 4, .tmp 5] [.int .i64 0, .bool false] rfl (ResAll.cons (ResAt.tmp (by kernel_rfl)) (ResAll.cons (ResAt.tmp (by kernel_rfl)) ResAll.nil)) ?_
      exact ⟨m3, rfl, hm, st⟩
  · intro K
    clear hrK
    refine WO_one rfl (One_load_row (d := 10) (t := 24) (x := (.tmp 2)) (.agg #[.slice a1 (List.length p0) c1]) (by kernel_rfl) rfl (show evL _ _ = some (.pointer (some ⟨b1, 0, none⟩)) from (by kernel_rfl)) st hb1 (by kernel_rfl) ?_)
    replace hr := bindS hr
    obtain ⟨y2, hx2, hr⟩ := hr
    refine WO_one rfl (One_fn 11 18 #[.agg #[.slice a1 (List.length p0) c1]] (by kernel_rfl) rfl ?_)
    refine (testgateref13_Check_ok st r1 hx2).mono ?_
    clear st
    rintro _ w4 ⟨m4, rfl, hle3, st⟩
    refine ⟨_, rfl, ?_⟩
    have hm := Mem.le_trans hm hle3
    have hb1 := hb1.mono hle3
    have r1 := r1.mono hle3
    refine WO_seg 2 [(13, .bool (y2 == 0))] (by kernel_rfl) (by kernel_rfl) ?_
    rcases bcases (y2 == 0) with hc | hc
    · rw [if_pos hc] at hr
      refine WO_fact (t := 13) (b := true) (y2 == 0) (by kernel_rfl) hc ?_
      refine WO_seg 3 [(16, .bool (decide (y1 ≥ 0)))] (by kernel_rfl) (by kernel_rfl) ?_
      obtain rfl := Option.some.inj hr
      exact WO_env _ (by kernel_rfl) (K _ _ ⟨m4, rfl, hm, st⟩)
    · rw [if_neg (not_true hc)] at hr
      refine WO_fact (t := 13) (b := false) (y2 == 0) (by kernel_rfl) hc ?_
      refine WO_seg 3 [(16, .bool false)] (by kernel_rfl) (by kernel_rfl) ?_
      obtain rfl := Option.some.inj hr
      exact WO_env _ (by kernel_rfl) (K _ _ ⟨m4, rfl, hm, st⟩)

def testgateref13_Put (N : Nat) (p0 : List ByteArray) (p1 : ByteArray) : Option (List ByteArray × Int × Int) :=
  (testgateref13_Check N p0).bind fun y1 => if (y1 != 0) = true then (some (([] : List (ByteArray)), 0, y1)) else ((appendS 16 ([] : List (ByteArray)) p0).bind fun l1 => (testgateref13_find N p0 p1).bind fun y2 => if (decide (y2 ≥ 0)) = true then (some (l1, y2, 0)) else (if ((List.length p0 : Int) == 4096) = true then (some (([] : List (ByteArray)), 0, 2)) else ((appendS 16 l1 ([p1])).bind fun l2 => some (l2, (List.length p0 : Int), 0))))

set_option maxHeartbeats 4000000 in
set_option maxRecDepth 100000 in
theorem testgateref13_Put_ok {N : Nat} {m : Mem} {own : List Piece} {w : World} {p0 : List ByteArray} {p1 : ByteArray} {a1 : Option Addr} {c1 : Nat} {r : List ByteArray × Int × Int} (st : St m (own) w) (r1 : RepS cStr m a1 c1 p0) (hr : testgateref13_Put N p0 p1 = some r) : Calls Go.Proofs.Try.prog 21 #[.agg #[.slice a1 (List.length p0) c1], .string p1] w fun e w' => ∃ (ra1 : Option Addr) (rc1 : Nat) (m' : Mem), e = .returned (.tuple #[.agg #[.slice ra1 (List.length r.1) rc1], .int .i64 r.2.1, .int .i64 r.2.2]) ∧ m.le m' ∧ St m' (.room ra1 (List.length r.1) rc1 9 1 :: own) w' ∧ RepS cStr m' ra1 rc1 r.1 := by
  unfold testgateref13_Put at hr
  have hm := m.le_refl
  refine W_calls Go.Proofs.Try.func21 rfl Go.Proofs.Try.ntmps21 [(0, .agg #[.slice a1 (List.length p0) c1]), (1, .string p1)] (by kernel_rfl) rfl ?_
  refine W_seq ?_
  refine W_region ?_
  refine WO_one rfl (One_box (d := 2) (e := 24) (x := (.tmp 0)) (.agg #[.slice a1 (List.length p0) c1]) (by kernel_rfl) rfl (by kernel_rfl) st ?_)
  clear st
  intro b1 m1 w1 hle1 st hb1
  have hm := Mem.le_trans hm hle1
  have r1 := r1.mono hle1
  refine WO_one rfl (One_alloc (d := 4) (e := 24) (.agg #[.slice none 0 0]) (by kernel_rfl) rfl (by kernel_rfl) st ?_)
  clear st
  intro b2 w2 st
  refine WO_seg 2 [] (by kernel_rfl) (by kernel_rfl) ?_
  refine WO_end rfl ?_
  refine X_then ?_
  refine W_seq ?_
  refine W_seq ?_
  refine W_region ?_
  refine WO_one rfl (One_load_row (d := 10) (t := 24) (x := (.tmp 2)) (.agg #[.slice a1 (List.length p0) c1]) (by kernel_rfl) rfl (show evL _ _ = some (.pointer (some ⟨b1, 0, none⟩)) from (by kernel_rfl)) st hb1 (by kernel_rfl) ?_)
  replace hr := bindS hr
  obtain ⟨y1, hx1, hr⟩ := hr
  refine WO_one rfl (One_fn 11 18 #[.agg #[.slice a1 (List.length p0) c1]] (by kernel_rfl) rfl ?_)
  refine (testgateref13_Check_ok st r1 hx1).mono ?_
  clear st
  rintro _ w3 ⟨m2, rfl, hle2, st⟩
  refine ⟨_, rfl, ?_⟩
  have hm := Mem.le_trans hm hle2
  have hb1 := hb1.mono hle2
  have r1 := r1.mono hle2
  refine WO_seg 1 [(7, .int .i64 y1)] (by kernel_rfl) (by kernel_rfl) ?_
  refine WO_end rfl ?_
  refine X_then ?_
  refine W_seq ?_
  refine W_region ?_
  refine WO_seg 2 [(13, .bool (y1 != 0))] (by kernel_rfl) (by kernel_rfl) ?_
  refine WO_end rfl ?_
  refine X_then ?_
  refine W_cond (y1 != 0) (by kernel_rfl) ?_ ?_
  · intro hc
    rw [if_pos hc] at hr
    refine W_seq ?_
    refine W_region ?_
    refine WO_seg 2 [(14, .agg #[.slice none (List.length ([] : List (ByteArray))) 0]), (15, .int .i64 y1)] (by kernel_rfl) (by kernel_rfl) ?_
    refine WO_one rfl (One_store (t := 24) (x := (.tmp 4)) (y := (.tmp 14)) (v := .agg #[.slice none (List.length ([] : List (ByteArray))) 0]) (c' := #[.slice none (List.length ([] : List (ByteArray))) 0]) (by kernel_rfl) (show evL _ _ = some (.pointer (some ⟨b2, 0, none⟩)) from (by kernel_rfl)) (show evL _ _ = some (.agg #[.slice none (List.length ([] : List (ByteArray))) 0]) from (by kernel_rfl)) st (by kernel_rfl) (by kernel_rfl) ?_)
    clear st
    intro w4 st
    refine WO_seg 2 [(5, .int .i64 0), (6, .int .i64 y1)] (by kernel_rfl) (by kernel_rfl) ?_
    refine WO_end rfl ?_
    refine X_then ?_
    refine W_ret ?_
    refine X_then_ret ?_
    obtain rfl := Option.some.inj hr
    refine X_ret [.cell 4 24, .tmp 5, .tmp 6] [.agg #[.slice none (List.length ([] : List (ByteArray))) 0], .int .i64 0, .int .i64 y1] rfl (ResAll.cons (ResAt.blk (v := .agg #[.slice none (List.length ([] : List (ByteArray))) 0]) (o := 0) (by kernel_rfl) st.head (by kernel_rfl)) (ResAll.cons (ResAt.tmp (by kernel_rfl)) (ResAll.cons (ResAt.tmp (by kernel_rfl)) ResAll.nil))) ?_
    have st := st.nilroom 9 1
    have st := st.front1
    have st := st.tail
    exact ⟨none, 0, m2, rfl, hm, st, (RepS.nil _ _)⟩
  · intro hc
    rw [if_neg (not_true hc)] at hr
    refine W_skip ?_
    refine X_then ?_
    refine W_seq ?_
    refine W_region ?_
    refine WO_seg 1 [(16, .pointer (some ⟨b1, 0, none⟩))] (by kernel_rfl) (by kernel_rfl) ?_
    refine WO_one rfl (One_load_row (d := 17) (t := 22) (x := (.tmp 16)) (.slice a1 (List.length p0) c1) (by kernel_rfl) rfl (show evL _ _ = some (.pointer (some ⟨b1, 0, none⟩)) from (by kernel_rfl)) st hb1 (by kernel_rfl) ?_)
    have st := st.nilroom 9 1
    replace hr := bindS hr
    obtain ⟨l1, hx2, hr⟩ := hr
    refine WO_one rfl (One_append (d := 18) (t := 22) (u := 22) (e := 9) (by_ := 16) (x := (.const (.slice none 0 0))) (y := (.tmp 17)) cStr (by kernel_rfl) rfl (show evL _ _ = some (.slice none (List.length ([] : List (ByteArray))) 0) from (by kernel_rfl)) (show evL _ _ = some (.slice a1 (List.length p0) c1) from (by kernel_rfl)) st (by kernel_rfl) (.inl (by kernel_rfl)) (RepS.nil _ _) r1.src hx2 ?_)
    clear st
    intro a2 c2 m3 w5 hle3 st r2
    have hm := Mem.le_trans hm hle3
    have hb1 := hb1.mono hle3
    have r1 := r1.mono hle3
    refine WO_seg 1 [(19, .agg #[.slice a2 (List.length l1) c2])] (by kernel_rfl) (by kernel_rfl) ?_
    refine WO_one rfl (One_alloc (d := 8) (e := 24) (.agg #[.slice none 0 0]) (by kernel_rfl) rfl (by kernel_rfl) st ?_)
    clear st
    intro b3 w6 st
    refine WO_one rfl (One_store (t := 24) (x := (.tmp 8)) (y := (.tmp 19)) (v := .agg #[.slice a2 (List.length l1) c2]) (c' := #[.slice a2 (List.length l1) c2]) (by kernel_rfl) (show evL _ _ = some (.pointer (some ⟨b3, 0, none⟩)) from (by kernel_rfl)) (show evL _ _ = some (.agg #[.slice a2 (List.length l1) c2]) from (by kernel_rfl)) st (by kernel_rfl) (by kernel_rfl) ?_)
    clear st
    intro w7 st
    refine WO_end rfl ?_
    refine X_then ?_
    refine W_seq ?_
    refine W_seq ?_
    refine W_region ?_
    refine WO_one rfl (One_load_row (d := 20) (t := 24) (x := (.tmp 2)) (.agg #[.slice a1 (List.length p0) c1]) (by kernel_rfl) rfl (show evL _ _ = some (.pointer (some ⟨b1, 0, none⟩)) from (by kernel_rfl)) st hb1 (by kernel_rfl) ?_)
    refine WO_seg 1 [(21, .string p1)] (by kernel_rfl) (by kernel_rfl) ?_
    replace hr := bindS hr
    obtain ⟨y2, hx3, hr⟩ := hr
    refine WO_one rfl (One_fn 22 65 #[.agg #[.slice a1 (List.length p0) c1], .string p1] (by kernel_rfl) rfl ?_)
    refine (testgateref13_find_ok st r1 hx3).mono ?_
    clear st
    rintro _ w8 ⟨m4, rfl, hle4, st⟩
    refine ⟨_, rfl, ?_⟩
    have hm := Mem.le_trans hm hle4
    have hb1 := hb1.mono hle4
    have r1 := r1.mono hle4
    have r2 := r2.mono hle4
    refine WO_seg 1 [(9, .int .i64 y2)] (by kernel_rfl) (by kernel_rfl) ?_
    refine WO_end rfl ?_
    refine X_then ?_
    refine W_seq ?_
    refine W_region ?_
    refine WO_seg 2 [(24, .bool (decide (y2 ≥ 0)))] (by kernel_rfl) (by kernel_rfl) ?_
    refine WO_end rfl ?_
    refine X_then ?_
    refine W_cond (decide (y2 ≥ 0)) (by kernel_rfl) ?_ ?_
    · intro hc
      rw [if_pos hc] at hr
      refine W_seq ?_
      refine W_region ?_
      refine WO_one rfl (One_load_own (d := 25) (t := 24) (x := (.tmp 8)) (.agg #[.slice a2 (List.length l1) c2]) (by kernel_rfl) rfl (show evL _ _ = some (.pointer (some ⟨b3, 0, none⟩)) from (by kernel_rfl)) st.head (by kernel_rfl) ?_)
      refine WO_seg 1 [(26, .int .i64 y2)] (by kernel_rfl) (by kernel_rfl) ?_
      have st := st.front2
      refine WO_one rfl (One_store (t := 24) (x := (.tmp 4)) (y := (.tmp 25)) (v := .agg #[.slice a2 (List.length l1) c2]) (c' := #[.slice a2 (List.length l1) c2]) (by kernel_rfl) (show evL _ _ = some (.pointer (some ⟨b2, 0, none⟩)) from (by kernel_rfl)) (show evL _ _ = some (.agg #[.slice a2 (List.length l1) c2]) from (by kernel_rfl)) st (by kernel_rfl) (by kernel_rfl) ?_)
      clear st
      intro w9 st
      refine WO_seg 2 [(5, .int .i64 y2), (6, .int .i64 0)] (by kernel_rfl) (by kernel_rfl) ?_
      refine WO_end rfl ?_
      refine X_then ?_
      refine W_ret ?_
      refine X_then_ret ?_
      obtain rfl := Option.some.inj hr
      refine X_ret [.cell 4 24, .tmp 5, .tmp 6] [.agg #[.slice a2 (List.length l1) c2], .int .i64 y2, .int .i64 0] rfl (ResAll.cons (ResAt.blk (v := .agg #[.slice a2 (List.length l1) c2]) (o := 0) (by kernel_rfl) st.head (by kernel_rfl)) (ResAll.cons (ResAt.tmp (by kernel_rfl)) (ResAll.cons (ResAt.tmp (by kernel_rfl)) ResAll.nil))) ?_
      have st := st.tail
      have st := st.tail
      exact ⟨a2, c2, m4, rfl, hm, st, r2⟩
    · intro hc
      rw [if_neg (not_true hc)] at hr
      refine W_skip ?_
      refine X_then ?_
      refine W_seq ?_
      refine W_seq ?_
      refine W_region ?_
      refine WO_seg 1 [(27, .pointer (some ⟨b1, 0, none⟩))] (by kernel_rfl) (by kernel_rfl) ?_
      refine WO_one rfl (One_load_row (d := 28) (t := 22) (x := (.tmp 27)) (.slice a1 (List.length p0) c1) (by kernel_rfl) rfl (show evL _ _ = some (.pointer (some ⟨b1, 0, none⟩)) from (by kernel_rfl)) st hb1 (by kernel_rfl) ?_)
      refine WO_seg 2 [(30, .bool ((List.length p0 : Int) == 4096))] (by kernel_rfl) (by kernel_rfl) ?_
      refine WO_end rfl ?_
      refine X_then ?_
      refine W_cond ((List.length p0 : Int) == 4096) (by kernel_rfl) ?_ ?_
      · intro hc
        rw [if_pos hc] at hr
        refine W_seq ?_
        refine W_region ?_
        refine WO_seg 1 [(31, .agg #[.slice none (List.length ([] : List (ByteArray))) 0])] (by kernel_rfl) (by kernel_rfl) ?_
        have st := st.front2
        refine WO_one rfl (One_store (t := 24) (x := (.tmp 4)) (y := (.tmp 31)) (v := .agg #[.slice none (List.length ([] : List (ByteArray))) 0]) (c' := #[.slice none (List.length ([] : List (ByteArray))) 0]) (by kernel_rfl) (show evL _ _ = some (.pointer (some ⟨b2, 0, none⟩)) from (by kernel_rfl)) (show evL _ _ = some (.agg #[.slice none (List.length ([] : List (ByteArray))) 0]) from (by kernel_rfl)) st (by kernel_rfl) (by kernel_rfl) ?_)
        clear st
        intro w10 st
        refine WO_seg 2 [(5, .int .i64 0), (6, .int .i64 2)] (by kernel_rfl) (by kernel_rfl) ?_
        refine WO_end rfl ?_
        refine X_then ?_
        refine W_ret ?_
        refine X_then_ret ?_
        obtain rfl := Option.some.inj hr
        refine X_ret [.cell 4 24, .tmp 5, .tmp 6] [.agg #[.slice none (List.length ([] : List (ByteArray))) 0], .int .i64 0, .int .i64 2] rfl (ResAll.cons (ResAt.blk (v := .agg #[.slice none (List.length ([] : List (ByteArray))) 0]) (o := 0) (by kernel_rfl) st.head (by kernel_rfl)) (ResAll.cons (ResAt.tmp (by kernel_rfl)) (ResAll.cons (ResAt.tmp (by kernel_rfl)) ResAll.nil))) ?_
        have st := st.nilroom 9 1
        have st := st.front1
        have st := st.tail
        have st := st.front1
        have st := st.tail
        have st := st.front1
        have st := st.tail
        exact ⟨none, 0, m4, rfl, hm, st, (RepS.nil _ _)⟩
      · intro hc
        rw [if_neg (not_true hc)] at hr
        refine W_skip ?_
        refine X_then ?_
        refine W_seq ?_
        refine W_region ?_
        refine WO_seg 1 [(32, .pointer (some ⟨b3, 0, none⟩))] (by kernel_rfl) (by kernel_rfl) ?_
        refine WO_one rfl (One_load_own (d := 33) (t := 22) (x := (.tmp 32)) (.slice a2 (List.length l1) c2) (by kernel_rfl) rfl (show evL _ _ = some (.pointer (some ⟨b3, 0, none⟩)) from (by kernel_rfl)) st.head (by kernel_rfl) ?_)
        refine WO_seg 1 [(34, .string p1)] (by kernel_rfl) (by kernel_rfl) ?_
        refine WO_one rfl (One_buildSlice (d := 35) (t := 22) (e := 9) (len := 1) (parts := #[(0, (.tmp 34))]) cStr (xs := [p1]) [.string p1] (by kernel_rfl) rfl (fun _ => buildCells_run (by kernel_rfl) _) rfl rfl st ⟨[.string p1], _, rfl, rfl, rfl⟩ ?_)
        clear st
        intro b4 m5 w11 hle5 st r3
        have hm := Mem.le_trans hm hle5
        have hb1 := hb1.mono hle5
        have r1 := r1.mono hle5
        have r2 := r2.mono hle5
        have st := st.front2
        replace hr := bindS hr
        obtain ⟨l2, hx4, hr⟩ := hr
        refine WO_one rfl (One_append (d := 36) (t := 22) (u := 22) (e := 9) (by_ := 16) (x := (.tmp 33)) (y := (.tmp 35)) cStr (by kernel_rfl) rfl (show evL _ _ = some (.slice a2 (List.length l1) c2) from (by kernel_rfl)) (show evL _ _ = some (.slice (some ⟨b4, 0, none⟩) (List.length ([p1])) 1) from (by kernel_rfl)) st (by kernel_rfl) (.inl (by kernel_rfl)) r2 r3.src hx4 ?_)
        clear st
        intro a3 c3 m6 w12 hle6 st r4
        have hm := Mem.le_trans hm hle6
        have hb1 := hb1.mono hle6
        have r1 := r1.mono hle6
        have r2 := r2.mono hle6
        have r3 := r3.mono hle6
        refine WO_seg 1 [(37, .pointer (some ⟨b3, 0, none⟩))] (by kernel_rfl) (by kernel_rfl) ?_
        have st := st.front2
        refine WO_one rfl (One_store (t := 22) (x := (.tmp 37)) (y := (.tmp 36)) (v := .slice a3 (List.length l2) c3) (c' := #[.slice a3 (List.length l2) c3]) (by kernel_rfl) (show evL _ _ = some (.pointer (some ⟨b3, 0, none⟩)) from (by kernel_rfl)) (show evL _ _ = some (.slice a3 (List.length l2) c3) from (by kernel_rfl)) st (by kernel_rfl) (by kernel_rfl) ?_)
        clear st
        intro w13 st
        refine WO_end rfl ?_
        have st := st.front2
        have st := st.tail
        refine X_then ?_
        refine W_seq ?_
        refine W_draw [(7, fun w' => Inv m6 w' ∧ Piece.holds m6 w' (.blk b3 (.cells #[.slice a3 (List.length l2) c3] 24 (0, 0))) ∧ True)] (by kernel_rfl) st ?_
        clear st
        intro w14 _ st
        have hmS := m6.le_refl
        refine ⟨⟨.inr ⟨Inv.anti st.inv hmS, Piece.holds_anti st.head hmS, trivial⟩, trivial⟩, ?_⟩
        refine WA_load_own (t := 24) (x := (.tmp 8)) 0 38 (.agg #[.slice a3 (List.length l2) c3]) (by kernel_rfl) rfl (by kernel_rfl) (.head _) (QP_then QP_body) (fun _ h => h.2.1) (show evL _ _ = some (.pointer (some ⟨b3, 0, none⟩)) from (by kernel_rfl)) (by kernel_rfl) ?_
        refine WA_pure 1 39 (.pointer (some ⟨b1, 0, none⟩)) (by kernel_rfl) rfl (by kernel_rfl) (.head _) (QP_then QP_body) ?_
        refine WA_load_row (t := 22) (x := (.tmp 39)) 2 40 (.slice a1 (List.length p0) c1) (by kernel_rfl) rfl (by kernel_rfl) (.head _) (QP_then QP_body) (fun _ h => h.1) (show evL _ _ = some (.pointer (some ⟨b1, 0, none⟩)) from (by kernel_rfl)) hb1 (by kernel_rfl) ?_
        refine WA_pure 3 41 (.int .i64 (List.length p0 : Int)) (by kernel_rfl) rfl (by kernel_rfl) (.head _) (QP_then QP_body) ?_
        have st := st.front2
        refine WA_one 4 (by kernel_rfl) (One_store (t := 24) (x := (.tmp 4)) (y := (.tmp 38)) (v := .agg #[.slice a3 (List.length l2) c3]) (c' := #[.slice a3 (List.length l2) c3]) (by kernel_rfl) (show evL _ _ = some (.pointer (some ⟨b2, 0, none⟩)) from (by kernel_rfl)) (show evL _ _ = some (.agg #[.slice a3 (List.length l2) c3]) from (by kernel_rfl)) st (by kernel_rfl) (by kernel_rfl) ?_)
        clear st
        intro w15 st
        refine ⟨⟨.inr ⟨Inv.anti st.inv hmS, Piece.holds_anti st.tail.head hmS, trivial⟩, trivial⟩, ?_⟩
        refine WA_pure 5 5 (.int .i64 (List.length p0 : Int)) (by kernel_rfl) rfl (by kernel_rfl) (.head _) (QP_then QP_body) ?_
        refine WA_pure 6 6 (.int .i64 0) (by kernel_rfl) rfl (by kernel_rfl) (.head _) (QP_then QP_body) ?_
        refine WA_done (by kernel_rfl) ?_
        refine X_then ?_
        refine W_ret ?_
        obtain rfl := Option.some.inj hr
        refine X_ret [.cell 4 24, .tmp 5, .tmp 6] [.agg #[.slice a3 (List.length l2) c3], .int .i64 (List.length p0 : Int), .int .i64 0] rfl (ResAll.cons (ResAt.blk (v := .agg #[.slice a3 (List.length l2) c3]) (o := 0) (by kernel_rfl) st.head (by kernel_rfl)) (ResAll.cons (ResAt.tmp (by kernel_rfl)) (ResAll.cons (ResAt.tmp (by kernel_rfl)) ResAll.nil))) ?_
        have st := st.tail
        have st := st.tail
        exact ⟨a3, c3, m6, rfl, hm, st, r4⟩

def testgateref13_Get (N : Nat) (p0 : List ByteArray) (p1 : Int) : Option (ByteArray × Int) :=
  (testgateref13_Check N p0).bind fun y1 => if (y1 != 0) = true then (some ((⟨#[]⟩ : ByteArray), y1)) else ((if (decide (p1 < 0)) = true then (some true) else (some (decide (p1 ≥ (List.length p0 : Int)))) : Option (Bool)).bind fun o1 => if o1 = true then (some ((⟨#[]⟩ : ByteArray), 20)) else ((idx p0 p1).bind fun x1 => some (x1, 0)))

set_option maxHeartbeats 4000000 in
set_option maxRecDepth 100000 in
theorem testgateref13_Get_ok {N : Nat} {m : Mem} {own : List Piece} {w : World} {p0 : List ByteArray} {p1 : Int} {a1 : Option Addr} {c1 : Nat} {r : ByteArray × Int} (st : St m (own) w) (r1 : RepS cStr m a1 c1 p0) (hr : testgateref13_Get N p0 p1 = some r) : Calls Go.Proofs.Try.prog 24 #[.agg #[.slice a1 (List.length p0) c1], .int .i64 p1] w fun e w' => ∃ (m' : Mem), e = .returned (.tuple #[.string r.1, .int .i64 r.2]) ∧ m.le m' ∧ St m' (own) w' := by
  unfold testgateref13_Get at hr
  have hm := m.le_refl
  refine W_calls Go.Proofs.Try.func24 rfl Go.Proofs.Try.ntmps24 [(0, .agg #[.slice a1 (List.length p0) c1]), (1, .int .i64 p1)] (by kernel_rfl) rfl ?_
  refine W_seq ?_
  refine W_region ?_
  refine WO_one rfl (One_box (d := 2) (e := 24) (x := (.tmp 0)) (.agg #[.slice a1 (List.length p0) c1]) (by kernel_rfl) rfl (by kernel_rfl) st ?_)
  clear st
  intro b1 m1 w1 hle1 st hb1
  have hm := Mem.le_trans hm hle1
  have r1 := r1.mono hle1
  refine WO_seg 2 [] (by kernel_rfl) (by kernel_rfl) ?_
  refine WO_end rfl ?_
  refine X_then ?_
  refine W_seq ?_
  refine W_seq ?_
  refine W_region ?_
  refine WO_one rfl (One_load_row (d := 7) (t := 24) (x := (.tmp 2)) (.agg #[.slice a1 (List.length p0) c1]) (by kernel_rfl) rfl (show evL _ _ = some (.pointer (some ⟨b1, 0, none⟩)) from (by kernel_rfl)) st hb1 (by kernel_rfl) ?_)
  replace hr := bindS hr
  obtain ⟨y1, hx1, hr⟩ := hr
  refine WO_one rfl (One_fn 8 18 #[.agg #[.slice a1 (List.length p0) c1]] (by kernel_rfl) rfl ?_)
  refine (testgateref13_Check_ok st r1 hx1).mono ?_
  clear st
  rintro _ w2 ⟨m2, rfl, hle2, st⟩
  refine ⟨_, rfl, ?_⟩
  have hm := Mem.le_trans hm hle2
  have hb1 := hb1.mono hle2
  have r1 := r1.mono hle2
  refine WO_seg 1 [(6, .int .i64 y1)] (by kernel_rfl) (by kernel_rfl) ?_
  refine WO_end rfl ?_
  refine X_then ?_
  refine W_seq ?_
  refine W_region ?_
  refine WO_seg 2 [(10, .bool (y1 != 0))] (by kernel_rfl) (by kernel_rfl) ?_
  refine WO_end rfl ?_
  refine X_then ?_
  refine W_cond (y1 != 0) (by kernel_rfl) ?_ ?_
  · intro hc
    rw [if_pos hc] at hr
    refine W_seq ?_
    refine W_region ?_
    refine WO_seg 3 [(4, .string (⟨#[]⟩ : ByteArray)), (5, .int .i64 y1)] (by kernel_rfl) (by kernel_rfl) ?_
    refine WO_end rfl ?_
    refine X_then ?_
    refine W_ret ?_
    refine X_then_ret ?_
    obtain rfl := Option.some.inj hr
    refine X_ret [.tmp 4, .tmp 5] [.string (⟨#[]⟩ : ByteArray), .int .i64 y1] rfl (ResAll.cons (ResAt.tmp (by kernel_rfl)) (ResAll.cons (ResAt.tmp (by kernel_rfl)) ResAll.nil)) ?_
    exact ⟨m2, rfl, hm, st⟩
  · intro hc
    rw [if_neg (not_true hc)] at hr
    refine W_skip ?_
    refine X_then ?_
    refine W_seq ?_
    refine W_seq ?_
    refine W_region ?_
    replace hr := bindS hr
    obtain ⟨o1, hr, hrK⟩ := hr
    refine WO_cut (j := 9) (fun L' w' => ∃ (m3 : Mem), L' = [(1, .int .i64 p1), (2, .pointer (some ⟨b1, 0, none⟩)), (20, .bool o1)] ∧ m.le m3 ∧ St m3 (own) w' ∧ MRow m3 b1 0 [.slice a1 (List.length p0) c1] ∧ RepS cStr m3 a1 c1 p0) ?_ ?_
    · clear hr st
      have hr := hrK
      clear hrK
      rintro _ w3 ⟨m3, rfl, hm, st, hb1, r1⟩
      refine WO_end rfl ?_
      refine X_then ?_
      refine W_cond o1 (by kernel_rfl) ?_ ?_
      · intro hc
        rw [if_pos hc] at hr
        refine W_seq ?_
        refine W_region ?_
        refine WO_seg 2 [(4, .string (⟨#[]⟩ : ByteArray)), (5, .int .i64 20)] (by kernel_rfl) (by kernel_rfl) ?_
        refine WO_end rfl ?_
        refine X_then ?_
        refine W_ret ?_
        refine X_then_ret ?_
        obtain rfl := Option.some.inj hr
        refine X_ret [.tmp 4, .tmp 5] [.string (⟨#[]⟩ : ByteArray), .int .i64 20] rfl (ResAll.cons (ResAt.tmp (by kernel_rfl)) (ResAll.cons (ResAt.tmp (by kernel_rfl)) ResAll.nil)) ?_
        exact ⟨m3, rfl, hm, st⟩
      · intro hc
        rw [if_neg (not_true hc)] at hr
        refine W_skip ?_
        refine X_then ?_
        refine W_seq ?_
        refine W_region ?_
        refine WO_seg 1 [(21, .pointer (some ⟨b1, 0, none⟩))] (by kernel_rfl) (by kernel_rfl) ?_
        refine WO_one rfl (One_load_row (d := 22) (t := 22) (x := (.tmp 21)) (.slice a1 (List.length p0) c1) (by kernel_rfl) rfl (show evL _ _ = some (.pointer (some ⟨b1, 0, none⟩)) from (by kernel_rfl)) st hb1 (by kernel_rfl) ?_)
        refine WO_seg 1 [(23, .int .i64 p1)] (by kernel_rfl) (by kernel_rfl) ?_
        replace hr := bindS hr
        obtain ⟨x1, hx2, hr⟩ := hr
        refine WO_one rfl (One_index (d := 24) (t := 22) (e := 9) (x := (.tmp 22)) (y := (.tmp 23)) cStr (by kernel_rfl) rfl (show evL _ _ = some (.slice a1 (List.length p0) c1) from (by kernel_rfl)) (show evL _ _ = some (.int .i64 p1) from (by kernel_rfl)) (by kernel_rfl) r1 hx2 ?_)
        rintro b2 f1 cs1 rfl hq1
        refine WO_one rfl (One_load_row (d := 25) (t := 9) (x := (.tmp 24)) (.string x1) (by kernel_rfl) rfl (show evL _ _ = some (.pointer (some ⟨b2, f1, none⟩)) from (by kernel_rfl)) st hq1 (by kernel_rfl) ?_)
        refine WO_seg 2 [(4, .string x1), (5, .int .i64 0)] (by kernel_rfl) (by kernel_rfl) ?_
        refine WO_end rfl ?_
        refine X_then ?_
        refine W_ret ?_
        obtain rfl := Option.some.inj hr
        refine X_ret [.tmp 4, .tmp 5] [.string x1, .int .i64 0] rfl (ResAll.cons (ResAt.tmp (by kernel_rfl)) (ResAll.cons (ResAt.tmp (by kernel_rfl)) ResAll.nil)) ?_
        exact ⟨m3, rfl, hm, st⟩
    · intro K
      clear hrK
      refine WO_seg 3 [(14, .bool (decide (p1 < 0)))] (by kernel_rfl) (by kernel_rfl) ?_
      rcases bcases (decide (p1 < 0)) with hc | hc
      · rw [if_pos hc] at hr
        refine WO_fact (t := 14) (b := true) (decide (p1 < 0)) (by kernel_rfl) hc ?_
        refine WO_seg 6 [(20, .bool true)] (by kernel_rfl) (by kernel_rfl) ?_
        obtain rfl := Option.some.inj hr
        exact WO_env _ (by kernel_rfl) (K _ _ ⟨m2, rfl, hm, st, hb1, r1⟩)
      · rw [if_neg (not_true hc)] at hr
        refine WO_fact (t := 14) (b := false) (decide (p1 < 0)) (by kernel_rfl) hc ?_
        refine WO_seg 2 [(15, .int .i64 p1), (16, .pointer (some ⟨b1, 0, none⟩))] (by kernel_rfl) (by kernel_rfl) ?_
        refine WO_one rfl (One_load_row (d := 17) (t := 22) (x := (.tmp 16)) (.slice a1 (List.length p0) c1) (by kernel_rfl) rfl (show evL _ _ = some (.pointer (some ⟨b1, 0, none⟩)) from (by kernel_rfl)) st hb1 (by kernel_rfl) ?_)
        refine WO_seg 3 [(20, .bool (decide (p1 ≥ (List.length p0 : Int))))] (by kernel_rfl) (by kernel_rfl) ?_
        obtain rfl := Option.some.inj hr
        exact WO_env _ (by kernel_rfl) (K _ _ ⟨m2, rfl, hm, st, hb1, r1⟩)

end Go.Proofs.Ytgkjigejejofkaa
