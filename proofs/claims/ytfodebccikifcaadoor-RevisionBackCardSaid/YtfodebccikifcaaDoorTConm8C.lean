/- MADE BY gen.py: plain functions and the proofs that the Go functions compute them. No condition but those of each theorem. -/
import Derived.Test.YtfodebccikifcaaDoorProg
import Derived.Test.YtfodebccikifcaaDoorIns
import Derived.Test.YtfodebccikifcaaDoorTConm8B
namespace Go.Proofs.YtfodebccikifcaaDoor
open Go Go.Dc

def wire_Next (N : Nat) (p0 : List UInt8) (p1 : Int) : Option ((Int × List UInt8) × Int × Int) :=
 (if (decide (p1 < 0)) = true then (some true) else (some (decide (p1 > (List.length p0 : Int)))) : Option (Bool)).bind fun o1 => if o1 = true then (some ((0, ([] : List (UInt8))), 0, 3)) else ((if (p1 == (List.length p0 : Int)) = true then (some (0, 7)) else ((idx p0 p1).bind fun x1 => if ((x1.toNat : Int) != 247) = true then (some (0, 6)) else (some (IntKind.wrap .i64 (p1 + 1), 0))) : Option (Int × Int)).bind fun o2 => if (o2.2 != 0) = true then (some ((0, ([] : List (UInt8))), 0, o2.2)) else ((if (o2.1 == (List.length p0 : Int)) = true then (some (0, 7, 0)) else ((idx p0 o2.1).bind fun x2 => if ((x2.toNat : Int) == 0) = true then (some (0, 6, 0)) else ((idx p0 o2.1).bind fun x3 => some (IntKind.wrap .i64 (o2.1 + 1), 0, IntKind.wrap .i64 (x3.toNat : Int)))) : Option (Int × Int × Int)).bind fun o3 => if (o3.2.1 != 0) = true then (some ((0, ([] : List (UInt8))), 0, o3.2.1)) else (((wire_Uint N p0 o3.1).bind fun y1 => if (y1.2.2 != 0) = true then (some (0, y1.2.2, ([] : List (UInt8)))) else (if (decide (y1.1 > 2097152)) = true then (some (0, 2, ([] : List (UInt8)))) else (if (decide ((IntKind.wrap .i64 ((IntKind.wrap .i64 y1.1) + 4)) > (IntKind.wrap .i64 ((List.length p0 : Int) - y1.2.1)))) = true then (some (0, 7, ([] : List (UInt8)))) else ((subS p0 y1.2.1 (IntKind.wrap .i64 (y1.2.1 + (IntKind.wrap .i64 y1.1)))).bind fun l1 => (appendS 1 ([] : List (UInt8)) l1).bind fun l2 => some (IntKind.wrap .i64 (y1.2.1 + (IntKind.wrap .i64 y1.1)), 0, l2)))) : Option (Int × Int × List (UInt8))).bind fun o4 => if (o4.2.1 != 0) = true then (some ((0, ([] : List (UInt8))), 0, o4.2.1)) else (((idx p0 o4.1).bind fun x4 => (idx p0 (IntKind.wrap .i64 (o4.1 + 1))).bind fun x5 => (idx p0 (IntKind.wrap .i64 (o4.1 + 2))).bind fun x6 => (idx p0 (IntKind.wrap .i64 (o4.1 + 3))).bind fun x7 => (subS p0 (IntKind.wrap .i64 (p1 + 1)) o4.1).bind fun l3 => (wire_Checksum N l3).bind fun y2 => if ((iOr .u32 (iOr .u32 (iOr .u32 (IntKind.wrap .u32 (x4.toNat : Int)) (IntKind.wrap .u32 ((IntKind.wrap .u32 (x5.toNat : Int)) * 2 ^ 8))) (IntKind.wrap .u32 ((IntKind.wrap .u32 (x6.toNat : Int)) * 2 ^ 16))) (IntKind.wrap .u32 ((IntKind.wrap .u32 (x7.toNat : Int)) * 2 ^ 24))) != y2) = true then (some (0, 8)) else (some (IntKind.wrap .i64 (o4.1 + 4), 0)) : Option (Int × Int)).bind fun o5 => if (o5.2 != 0) = true then (some ((0, ([] : List (UInt8))), 0, o5.2)) else (some ((o3.2.2, o4.2.2), o5.1, 0))))))

set_option maxHeartbeats 4000000 in
set_option maxRecDepth 100000 in
theorem wire_Next_ok {N : Nat} {m : Mem} {own : List Piece} {w : World} {p0 : List UInt8} {p1 : Int} {a1 : Option Addr} {c1 : Nat} {r : (Int × List UInt8) × Int × Int} (st : St m (own) w) (r1 : RepS cU8 m a1 c1 p0) (hr : wire_Next N p0 p1 = some r) : Calls Go.Proofs.Tryd.prog 115 #[.slice a1 (List.length p0) c1, .int .i64 p1] w fun e w' => ∃ (ra1 : Option Addr) (rc1 : Nat) (m' : Mem), e = .returned (.tuple #[.agg #[.int .i64 r.1.1, .slice ra1 (List.length r.1.2) rc1], .int .i64 r.2.1, .int .i64 r.2.2]) ∧ m.le m' ∧ St m' (.room ra1 (List.length r.1.2) rc1 5 1 :: own) w' ∧ RepS cU8 m' ra1 rc1 r.1.2 := by
 unfold wire_Next at hr
 have hm := m.le_refl
 refine W_calls Go.Proofs.Tryd.func115 rfl Go.Proofs.Tryd.ntmps115 [(0, .slice a1 (List.length p0) c1), (1, .int .i64 p1)] (by kernel_rfl) rfl ?_
 refine W_sr ?_
 refine WO_one rfl (One_alloc (d := 4) (e := 86) (.agg #[.int .i64 0, .slice none 0 0]) (by kernel_rfl) rfl (by kernel_rfl) st ?_)
 clear st
 intro b1 w1 st
 refine WO_seg 2 [] (by kernel_rfl) (by kernel_rfl) ?_
 refine WO_et rfl ?_
 refine W_seq ?_
 refine W_sr ?_
 replace hr := bindS hr
 obtain ⟨o1, hr, hrK⟩ := hr
 refine WO_cut (j := 8) (fun L' w' => ∃ (m1 : Mem), L' = [(0, .slice a1 (List.length p0) c1), (1, .int .i64 p1), (4, .pointer (some ⟨b1, 0, none⟩)), (16, .bool o1)] ∧ m.le m1 ∧ St m1 (.blk b1 (.cells #[.int .i64 0, .slice none (List.length ([] : List (UInt8))) 0] 86 (0, 0)) :: own) w' ∧ RepS cU8 m1 a1 c1 p0) ?_ ?_
 ·clear hr st
  have hr := hrK
  clear hrK
  rintro _ w2 ⟨m1, rfl, hm, st, r1⟩
  refine WO_et rfl ?_
  refine W_cond o1 (by kernel_rfl) ?_ ?_
  ·intro hc
   rw [if_pos hc] at hr
   refine W_sr ?_
   refine WO_seg 1 [(17, .agg #[.int .i64 0, .slice none (List.length ([] : List (UInt8))) 0])] (by kernel_rfl) (by kernel_rfl) ?_
   refine WO_one rfl (One_store (t := 86) (x := (.tmp 4)) (y := (.tmp 17)) (v := .agg #[.int .i64 0, .slice none (List.length ([] : List (UInt8))) 0]) (c' := #[.int .i64 0, .slice none (List.length ([] : List (UInt8))) 0]) (by kernel_rfl) (show evL _ _ = some (.pointer (some ⟨b1, 0, none⟩)) from (by kernel_rfl)) (show evL _ _ = some (.agg #[.int .i64 0, .slice none (List.length ([] : List (UInt8))) 0]) from (by kernel_rfl)) st (by kernel_rfl) (by kernel_rfl) ?_)
   clear st
   intro w3 st
   refine WO_seg 2 [(5, .int .i64 0), (6, .int .i64 3)] (by kernel_rfl) (by kernel_rfl) ?_
   refine WO_et rfl ?_
   refine W_ret ?_
   refine X_then_ret ?_
   obtain rfl := Option.some.inj hr
   refine X_ret [.cell 4 86, .tmp 5, .tmp 6] [.agg #[.int .i64 0, .slice none (List.length ([] : List (UInt8))) 0], .int .i64 0, .int .i64 3] rfl (ResAll.cons (ResAt.blk (v := .agg #[.int .i64 0, .slice none (List.length ([] : List (UInt8))) 0]) (o := 0) (by kernel_rfl) st.head (by kernel_rfl)) (ResAll.cons (ResAt.tmp (by kernel_rfl)) (ResAll.cons (ResAt.tmp (by kernel_rfl)) ResAll.nil))) ?_
   have st := st.nilroom 5 1
   have st := st.front1
   have st := st.tail
   exact ⟨none, 0, m1, rfl, hm, st, (RepS.nil _ _)⟩
  ·intro hc
   rw [if_neg (not_true hc)] at hr
   refine W_skip ?_
   refine X_then ?_
   refine W_sr ?_
   refine WO_seg 2 [(5, .int .i64 p1)] (by kernel_rfl) (by kernel_rfl) ?_
   refine WO_et rfl ?_
   refine W_seq ?_
   refine W_sr ?_
   refine WO_seg 1 [(19, .int .i64 p1)] (by kernel_rfl) (by kernel_rfl) ?_
   refine WO_one rfl (One_fn 20 125 #[.int .i64 p1] (by kernel_rfl) rfl ?_)
   refine W_calls Go.Proofs.Tryd.func125 rfl Go.Proofs.Tryd.ntmps125 [(0, .int .i64 p1)] (by kernel_rfl) rfl ?_
   refine W_sr ?_
   refine WO_one rfl (One_box_own (d := 1) (e := 3) (x := (.tmp 0)) (.int .i64 p1) (by kernel_rfl) rfl (by kernel_rfl) st ?_)
   clear st
   intro b2 w4 st
   refine WO_seg 1 [] (by kernel_rfl) (by kernel_rfl) ?_
   refine WO_et rfl ?_
   refine W_sr ?_
   refine WO_seg 5 [(3, .agg #[.func (.func 130) #[] #[]]), (4, .agg #[.func (.func 131) #[] #[]]), (5, .agg #[.func (.func 132) #[] #[]]), (7, .agg #[.func (.func 133) #[] #[.pointer (some ⟨b2, 0, none⟩)]])] (by kernel_rfl) (by kernel_rfl) ?_
   refine WO_one rfl (One_buildRaw (d := 8) (t := 135) (e := 139) (len := 4) (parts := #[(0, (.tmp 3)), (1, (.tmp 4)), (2, (.tmp 5)), (3, (.tmp 7))]) [.func (.func 130) #[] #[], .func (.func 131) #[] #[], .func (.func 132) #[] #[], .func (.func 133) #[] #[.pointer (some ⟨b2, 0, none⟩)]] (by kernel_rfl) rfl (fun _ => buildCells_run (by kernel_rfl) _) st ?_)
   clear st
   intro b3 m3 w5 hle2 st hb2
   have hm := Mem.le_trans hm hle2
   have r1 := r1.mono hle2
   refine WO_seg 1 [(2, .slice (some ⟨b3, 0, none⟩) 4 4)] (by kernel_rfl) (by kernel_rfl) ?_
   refine WO_et rfl ?_
   refine W_ret ?_
   refine X_ret [.tmp 2] [.slice (some ⟨b3, 0, none⟩) 4 4] rfl (ResAll.cons (ResAt.tmp (by kernel_rfl)) ResAll.nil) ?_
   refine ⟨_, rfl, ?_⟩
   refine WO_seg 2 [(21, .int .i64 4), (22, .int .i64 0)] (by kernel_rfl) (by kernel_rfl) ?_
   refine WO_et rfl ?_
   refine W_block ?_
   refine W_unroll 6 ?_
   refine WR_succ ?_
   refine W_sr ?_
   refine WO_seg 1 [(23, .bool true)] (by kernel_rfl) (by kernel_rfl) ?_
   refine WO_et rfl ?_
   refine W_seq ?_
   refine W_cond true (by kernel_rfl) ?_ (fun h => Bool.noConfusion h)
   intro _
   refine W_skip ?_
   refine X_then ?_
   refine W_seq ?_
   refine W_block ?_
   refine W_sr ?_
   refine WO_seg 1 [(24, .pointer (some ⟨b3, 0, none⟩))] (by kernel_rfl) (by kernel_rfl) ?_
   refine WO_one rfl (One_load_row (d := 25) (t := 139) (x := (.tmp 24)) (.agg #[.func (.func 130) #[] #[]]) (by kernel_rfl) rfl (show evL _ _ = some (.pointer (some ⟨b3, 0, none⟩)) from (by kernel_rfl)) st hb2 (by kernel_rfl) ?_)
   refine WO_one rfl (One_alloc (d := 8) (e := 139) (.agg #[.nilFunc]) (by kernel_rfl) rfl (by kernel_rfl) st ?_)
   clear st
   intro b4 w6 st
   refine WO_one rfl (One_store (t := 139) (x := (.tmp 8)) (y := (.tmp 25)) (v := .agg #[.func (.func 130) #[] #[]]) (c' := #[.func (.func 130) #[] #[]]) (by kernel_rfl) (show evL _ _ = some (.pointer (some ⟨b4, 0, none⟩)) from (by kernel_rfl)) (show evL _ _ = some (.agg #[.func (.func 130) #[] #[]]) from (by kernel_rfl)) st (by kernel_rfl) (by kernel_rfl) ?_)
   clear st
   intro w7 st
   refine WO_et rfl ?_
   refine W_sr ?_
   refine WO_seg 1 [(27, .pointer (some ⟨b4, 0, none⟩))] (by kernel_rfl) (by kernel_rfl) ?_
   refine WO_one rfl (One_load_own (d := 28) (t := 137) (x := (.tmp 27)) (.func (.func 130) #[] #[]) (by kernel_rfl) rfl (show evL _ _ = some (.pointer (some ⟨b4, 0, none⟩)) from (by kernel_rfl)) st.head (by kernel_rfl) ?_)
   refine WO_seg 2 [(29, .slice a1 (List.length p0) c1), (30, .int .i64 p1)] (by kernel_rfl) (by kernel_rfl) ?_
   replace hr := bindS hr
   obtain ⟨o2, hr, hrKu1⟩ := hr
   refine WO_one rfl (One_fn 31 130 #[.slice a1 (List.length p0) c1, .int .i64 p1, .pointer (some ⟨b1, 0, none⟩)] (by kernel_rfl) rfl ?_)
   refine Calls_cut (fun v' w' => ∃ (m4 : Mem), v' = (.tuple #[.int .i64 o2.1, .int .i64 o2.2]) ∧ m.le m4 ∧ St m4 (.blk b4 (.cells #[.func (.func 130) #[] #[]] 139 (0, 0)) :: .blk b2 (.cells #[.int .i64 p1] 3 (0, 0)) :: .blk b1 (.cells #[.int .i64 0, .slice none (List.length ([] : List (UInt8))) 0] 86 (0, 0)) :: own) w' ∧ RepS cU8 m4 a1 c1 p0 ∧ MRow m4 b3 0 [.func (.func 130) #[] #[], .func (.func 131) #[] #[], .func (.func 132) #[] #[], .func (.func 133) #[] #[.pointer (some ⟨b2, 0, none⟩)]]) ?_ ?_
   ·clear hr st
    have hr := hrKu1
    clear hrKu1
    rintro _ w8 ⟨m4, rfl, hm, st, r1, hb2⟩
    refine ⟨_, rfl, ?_⟩
    refine WO_seg 5 [(5, .int .i64 o2.1), (6, .int .i64 o2.2)] (by kernel_rfl) (by kernel_rfl) ?_
    refine WO_et rfl ?_
    refine W_sr ?_
    refine WO_seg 2 [(35, .bool (o2.2 != 0))] (by kernel_rfl) (by kernel_rfl) ?_
    refine WO_et rfl ?_
    refine W_cond (o2.2 != 0) (by kernel_rfl) ?_ ?_
    ·intro hc
     rw [if_pos hc] at hr
     refine W_sr ?_
     refine WO_seg 2 [(36, .agg #[.int .i64 0, .slice none (List.length ([] : List (UInt8))) 0]), (37, .int .i64 o2.2)] (by kernel_rfl) (by kernel_rfl) ?_
     have st := st.front2
     refine WO_one rfl (One_store (t := 86) (x := (.tmp 4)) (y := (.tmp 36)) (v := .agg #[.int .i64 0, .slice none (List.length ([] : List (UInt8))) 0]) (c' := #[.int .i64 0, .slice none (List.length ([] : List (UInt8))) 0]) (by kernel_rfl) (show evL _ _ = some (.pointer (some ⟨b1, 0, none⟩)) from (by kernel_rfl)) (show evL _ _ = some (.agg #[.int .i64 0, .slice none (List.length ([] : List (UInt8))) 0]) from (by kernel_rfl)) st (by kernel_rfl) (by kernel_rfl) ?_)
     clear st
     intro w9 st
     refine WO_seg 2 [(5, .int .i64 0), (6, .int .i64 o2.2)] (by kernel_rfl) (by kernel_rfl) ?_
     refine WO_et rfl ?_
     refine W_ret ?_
     refine X_block_ret ?_
     refine X_then_ret ?_
     refine X_then_ret ?_
     refine X_block_ret ?_
     refine X_then_ret ?_
     obtain rfl := Option.some.inj hr
     refine X_ret [.cell 4 86, .tmp 5, .tmp 6] [.agg #[.int .i64 0, .slice none (List.length ([] : List (UInt8))) 0], .int .i64 0, .int .i64 o2.2] rfl (ResAll.cons (ResAt.blk (v := .agg #[.int .i64 0, .slice none (List.length ([] : List (UInt8))) 0]) (o := 0) (by kernel_rfl) st.head (by kernel_rfl)) (ResAll.cons (ResAt.tmp (by kernel_rfl)) (ResAll.cons (ResAt.tmp (by kernel_rfl)) ResAll.nil))) ?_
     have st := st.nilroom 5 1
     have st := st.front1
     have st := st.tail
     have st := st.front1
     have st := st.tail
     have st := st.front1
     have st := st.tail
     exact ⟨none, 0, m4, rfl, hm, st, (RepS.nil _ _)⟩
    ·intro hc
     rw [if_neg (not_true hc)] at hr
     refine W_skip ?_
     refine X_block ?_
     refine X_then ?_
     refine W_region ?_
     refine WO_seg 2 [(22, .int .i64 1)] (by kernel_rfl) (by kernel_rfl) ?_
     refine WO_end rfl ?_
     refine X_again ?_
     refine WR_succ ?_
     refine W_sr ?_
     refine WO_seg 1 [(23, .bool true)] (by kernel_rfl) (by kernel_rfl) ?_
     refine WO_et rfl ?_
     refine W_seq ?_
     refine W_cond true (by kernel_rfl) ?_ (fun h => Bool.noConfusion h)
     intro _
     refine W_skip ?_
     refine X_then ?_
     refine W_seq ?_
     refine W_block ?_
     refine W_sr ?_
     refine WO_seg 1 [(24, .pointer (some ⟨b3, 1, none⟩))] (by kernel_rfl) (by kernel_rfl) ?_
     refine WO_one rfl (One_load_row (d := 25) (t := 139) (x := (.tmp 24)) (.agg #[.func (.func 131) #[] #[]]) (by kernel_rfl) rfl (show evL _ _ = some (.pointer (some ⟨b3, 1, none⟩)) from (by kernel_rfl)) st (hb2.drop 1) (by kernel_rfl) ?_)
     refine WO_one rfl (One_alloc (d := 8) (e := 139) (.agg #[.nilFunc]) (by kernel_rfl) rfl (by kernel_rfl) st ?_)
     clear st
     intro b6 w10 st
     refine WO_one rfl (One_store (t := 139) (x := (.tmp 8)) (y := (.tmp 25)) (v := .agg #[.func (.func 131) #[] #[]]) (c' := #[.func (.func 131) #[] #[]]) (by kernel_rfl) (show evL _ _ = some (.pointer (some ⟨b6, 0, none⟩)) from (by kernel_rfl)) (show evL _ _ = some (.agg #[.func (.func 131) #[] #[]]) from (by kernel_rfl)) st (by kernel_rfl) (by kernel_rfl) ?_)
     clear st
     intro w11 st
     refine WO_et rfl ?_
     refine W_sr ?_
     refine WO_seg 1 [(27, .pointer (some ⟨b6, 0, none⟩))] (by kernel_rfl) (by kernel_rfl) ?_
     refine WO_one rfl (One_load_own (d := 28) (t := 137) (x := (.tmp 27)) (.func (.func 131) #[] #[]) (by kernel_rfl) rfl (show evL _ _ = some (.pointer (some ⟨b6, 0, none⟩)) from (by kernel_rfl)) st.head (by kernel_rfl) ?_)
     refine WO_seg 2 [(29, .slice a1 (List.length p0) c1), (30, .int .i64 o2.1)] (by kernel_rfl) (by kernel_rfl) ?_
     replace hr := bindS hr
     obtain ⟨o3, hr, hrKu2⟩ := hr
     refine WO_one rfl (One_fn 31 131 #[.slice a1 (List.length p0) c1, .int .i64 o2.1, .pointer (some ⟨b1, 0, none⟩)] (by kernel_rfl) rfl ?_)
     refine Calls_cut (fun v' w' => ∃ (m5 : Mem), v' = (.tuple #[.int .i64 o3.1, .int .i64 o3.2.1]) ∧ m.le m5 ∧ St m5 (.blk b6 (.cells #[.func (.func 131) #[] #[]] 139 (0, 0)) :: .blk b4 (.cells #[.func (.func 130) #[] #[]] 139 (0, 0)) :: .blk b2 (.cells #[.int .i64 p1] 3 (0, 0)) :: .blk b1 (.cells #[.int .i64 o3.2.2, .slice none (List.length ([] : List (UInt8))) 0] 86 (0, 0)) :: own) w' ∧ RepS cU8 m5 a1 c1 p0 ∧ MRow m5 b3 0 [.func (.func 130) #[] #[], .func (.func 131) #[] #[], .func (.func 132) #[] #[], .func (.func 133) #[] #[.pointer (some ⟨b2, 0, none⟩)]]) ?_ ?_
     ·clear hr st
      have hr := hrKu2
      clear hrKu2
      rintro _ w12 ⟨m5, rfl, hm, st, r1, hb2⟩
      refine ⟨_, rfl, ?_⟩
      refine WO_seg 5 [(5, .int .i64 o3.1), (6, .int .i64 o3.2.1)] (by kernel_rfl) (by kernel_rfl) ?_
      refine WO_et rfl ?_
      refine W_sr ?_
      refine WO_seg 2 [(35, .bool (o3.2.1 != 0))] (by kernel_rfl) (by kernel_rfl) ?_
      refine WO_et rfl ?_
      refine W_cond (o3.2.1 != 0) (by kernel_rfl) ?_ ?_
      ·intro hc
       rw [if_pos hc] at hr
       refine W_sr ?_
       refine WO_seg 2 [(36, .agg #[.int .i64 0, .slice none (List.length ([] : List (UInt8))) 0]), (37, .int .i64 o3.2.1)] (by kernel_rfl) (by kernel_rfl) ?_
       have st := st.front3
       refine WO_one rfl (One_store (t := 86) (x := (.tmp 4)) (y := (.tmp 36)) (v := .agg #[.int .i64 0, .slice none (List.length ([] : List (UInt8))) 0]) (c' := #[.int .i64 0, .slice none (List.length ([] : List (UInt8))) 0]) (by kernel_rfl) (show evL _ _ = some (.pointer (some ⟨b1, 0, none⟩)) from (by kernel_rfl)) (show evL _ _ = some (.agg #[.int .i64 0, .slice none (List.length ([] : List (UInt8))) 0]) from (by kernel_rfl)) st (by kernel_rfl) (by kernel_rfl) ?_)
       clear st
       intro w14 st
       refine WO_seg 2 [(5, .int .i64 0), (6, .int .i64 o3.2.1)] (by kernel_rfl) (by kernel_rfl) ?_
       refine WO_et rfl ?_
       refine W_ret ?_
       refine X_block_ret ?_
       refine X_then_ret ?_
       refine X_then_ret ?_
       refine X_block_ret ?_
       refine X_then_ret ?_
       obtain rfl := Option.some.inj hr
       refine X_ret [.cell 4 86, .tmp 5, .tmp 6] [.agg #[.int .i64 0, .slice none (List.length ([] : List (UInt8))) 0], .int .i64 0, .int .i64 o3.2.1] rfl (ResAll.cons (ResAt.blk (v := .agg #[.int .i64 0, .slice none (List.length ([] : List (UInt8))) 0]) (o := 0) (by kernel_rfl) st.head (by kernel_rfl)) (ResAll.cons (ResAt.tmp (by kernel_rfl)) (ResAll.cons (ResAt.tmp (by kernel_rfl)) ResAll.nil))) ?_
       have st := st.nilroom 5 1
       have st := st.front1
       have st := st.tail
       have st := st.front1
       have st := st.tail
       have st := st.front1
       have st := st.tail
       have st := st.front1
       have st := st.tail
       exact ⟨none, 0, m5, rfl, hm, st, (RepS.nil _ _)⟩
      ·intro hc
       rw [if_neg (not_true hc)] at hr
       refine W_skip ?_
       refine X_block ?_
       refine X_then ?_
       refine W_region ?_
       refine WO_seg 2 [(22, .int .i64 2)] (by kernel_rfl) (by kernel_rfl) ?_
       refine WO_end rfl ?_
       refine X_again ?_
       refine WR_succ ?_
       refine W_sr ?_
       refine WO_seg 1 [(23, .bool true)] (by kernel_rfl) (by kernel_rfl) ?_
       refine WO_et rfl ?_
       refine W_seq ?_
       refine W_cond true (by kernel_rfl) ?_ (fun h => Bool.noConfusion h)
       intro _
       refine W_skip ?_
       refine X_then ?_
       refine W_seq ?_
       refine W_block ?_
       refine W_sr ?_
       refine WO_seg 1 [(24, .pointer (some ⟨b3, 2, none⟩))] (by kernel_rfl) (by kernel_rfl) ?_
       refine WO_one rfl (One_load_row (d := 25) (t := 139) (x := (.tmp 24)) (.agg #[.func (.func 132) #[] #[]]) (by kernel_rfl) rfl (show evL _ _ = some (.pointer (some ⟨b3, 2, none⟩)) from (by kernel_rfl)) st (hb2.drop 2) (by kernel_rfl) ?_)
       refine WO_one rfl (One_alloc (d := 8) (e := 139) (.agg #[.nilFunc]) (by kernel_rfl) rfl (by kernel_rfl) st ?_)
       clear st
       intro b9 w15 st
       refine WO_one rfl (One_store (t := 139) (x := (.tmp 8)) (y := (.tmp 25)) (v := .agg #[.func (.func 132) #[] #[]]) (c' := #[.func (.func 132) #[] #[]]) (by kernel_rfl) (show evL _ _ = some (.pointer (some ⟨b9, 0, none⟩)) from (by kernel_rfl)) (show evL _ _ = some (.agg #[.func (.func 132) #[] #[]]) from (by kernel_rfl)) st (by kernel_rfl) (by kernel_rfl) ?_)
       clear st
       intro w16 st
       refine WO_et rfl ?_
       refine W_sr ?_
       refine WO_seg 1 [(27, .pointer (some ⟨b9, 0, none⟩))] (by kernel_rfl) (by kernel_rfl) ?_
       refine WO_one rfl (One_load_own (d := 28) (t := 137) (x := (.tmp 27)) (.func (.func 132) #[] #[]) (by kernel_rfl) rfl (show evL _ _ = some (.pointer (some ⟨b9, 0, none⟩)) from (by kernel_rfl)) st.head (by kernel_rfl) ?_)
       refine WO_seg 2 [(29, .slice a1 (List.length p0) c1), (30, .int .i64 o3.1)] (by kernel_rfl) (by kernel_rfl) ?_
       replace hr := bindS hr
       obtain ⟨o4, hr, hrKu3⟩ := hr
       refine WO_one rfl (One_fn 31 132 #[.slice a1 (List.length p0) c1, .int .i64 o3.1, .pointer (some ⟨b1, 0, none⟩)] (by kernel_rfl) rfl ?_)
       refine Calls_cut (fun v' w' => ∃ (a2 : Option Addr) (c2 : Nat) (m6 : Mem), v' = (.tuple #[.int .i64 o4.1, .int .i64 o4.2.1]) ∧ m.le m6 ∧ St m6 (.blk b9 (.cells #[.func (.func 132) #[] #[]] 139 (0, 0)) :: .blk b6 (.cells #[.func (.func 131) #[] #[]] 139 (0, 0)) :: .blk b4 (.cells #[.func (.func 130) #[] #[]] 139 (0, 0)) :: .blk b2 (.cells #[.int .i64 p1] 3 (0, 0)) :: .blk b1 (.cells #[.int .i64 o3.2.2, .slice a2 (List.length o4.2.2) c2] 86 (0, 0)) :: .room a2 (List.length o4.2.2) c2 5 1 :: own) w' ∧ RepS cU8 m6 a1 c1 p0 ∧ MRow m6 b3 0 [.func (.func 130) #[] #[], .func (.func 131) #[] #[], .func (.func 132) #[] #[], .func (.func 133) #[] #[.pointer (some ⟨b2, 0, none⟩)]] ∧ RepS cU8 m6 a2 c2 o4.2.2) ?_ ?_
       ·clear hr st
        have hr := hrKu3
        clear hrKu3
        rintro _ w17 ⟨a2, c2, m6, rfl, hm, st, r1, hb2, r2⟩
        refine ⟨_, rfl, ?_⟩
        refine WO_seg 5 [(5, .int .i64 o4.1), (6, .int .i64 o4.2.1)] (by kernel_rfl) (by kernel_rfl) ?_
        refine WO_et rfl ?_
        refine W_sr ?_
        refine WO_seg 2 [(35, .bool (o4.2.1 != 0))] (by kernel_rfl) (by kernel_rfl) ?_
        refine WO_et rfl ?_
        refine W_cond (o4.2.1 != 0) (by kernel_rfl) ?_ ?_
        ·intro hc
         rw [if_pos hc] at hr
         refine W_sr ?_
         refine WO_seg 2 [(36, .agg #[.int .i64 0, .slice none (List.length ([] : List (UInt8))) 0]), (37, .int .i64 o4.2.1)] (by kernel_rfl) (by kernel_rfl) ?_
         have st := st.front4
         refine WO_one rfl (One_store (t := 86) (x := (.tmp 4)) (y := (.tmp 36)) (v := .agg #[.int .i64 0, .slice none (List.length ([] : List (UInt8))) 0]) (c' := #[.int .i64 0, .slice none (List.length ([] : List (UInt8))) 0]) (by kernel_rfl) (show evL _ _ = some (.pointer (some ⟨b1, 0, none⟩)) from (by kernel_rfl)) (show evL _ _ = some (.agg #[.int .i64 0, .slice none (List.length ([] : List (UInt8))) 0]) from (by kernel_rfl)) st (by kernel_rfl) (by kernel_rfl) ?_)
         clear st
         intro w21 st
         refine WO_seg 2 [(5, .int .i64 0), (6, .int .i64 o4.2.1)] (by kernel_rfl) (by kernel_rfl) ?_
         refine WO_end rfl ?_
         have st := st.front5
         have st := st.tail
         refine X_then ?_
         refine W_ret ?_
         refine X_block_ret ?_
         refine X_then_ret ?_
         refine X_then_ret ?_
         refine X_block_ret ?_
         refine X_then_ret ?_
         obtain rfl := Option.some.inj hr
         refine X_ret [.cell 4 86, .tmp 5, .tmp 6] [.agg #[.int .i64 0, .slice none (List.length ([] : List (UInt8))) 0], .int .i64 0, .int .i64 o4.2.1] rfl (ResAll.cons (ResAt.blk (v := .agg #[.int .i64 0, .slice none (List.length ([] : List (UInt8))) 0]) (o := 0) (by kernel_rfl) st.head (by kernel_rfl)) (ResAll.cons (ResAt.tmp (by kernel_rfl)) (ResAll.cons (ResAt.tmp (by kernel_rfl)) ResAll.nil))) ?_
         have st := st.nilroom 5 1
         have st := st.front1
         have st := st.tail
         have st := st.front1
         have st := st.tail
         have st := st.front1
         have st := st.tail
         have st := st.front1
         have st := st.tail
         have st := st.front1
         have st := st.tail
         exact ⟨none, 0, m6, rfl, hm, st, (RepS.nil _ _)⟩
        ·intro hc
         rw [if_neg (not_true hc)] at hr
         refine W_skip ?_
         refine X_block ?_
         refine X_then ?_
         refine W_region ?_
         refine WO_seg 2 [(22, .int .i64 3)] (by kernel_rfl) (by kernel_rfl) ?_
         refine WO_end rfl ?_
         refine X_again ?_
         refine WR_succ ?_
         refine W_sr ?_
         refine WO_seg 1 [(23, .bool true)] (by kernel_rfl) (by kernel_rfl) ?_
         refine WO_et rfl ?_
         refine W_seq ?_
         refine W_cond true (by kernel_rfl) ?_ (fun h => Bool.noConfusion h)
         intro _
         refine W_skip ?_
         refine X_then ?_
         refine W_seq ?_
         refine W_block ?_
         refine W_sr ?_
         refine WO_seg 1 [(24, .pointer (some ⟨b3, 3, none⟩))] (by kernel_rfl) (by kernel_rfl) ?_
         refine WO_one rfl (One_load_row (d := 25) (t := 139) (x := (.tmp 24)) (.agg #[.func (.func 133) #[] #[.pointer (some ⟨b2, 0, none⟩)]]) (by kernel_rfl) rfl (show evL _ _ = some (.pointer (some ⟨b3, 3, none⟩)) from (by kernel_rfl)) st (hb2.drop 3) (by kernel_rfl) ?_)
         refine WO_one rfl (One_alloc (d := 8) (e := 139) (.agg #[.nilFunc]) (by kernel_rfl) rfl (by kernel_rfl) st ?_)
         clear st
         intro b10 w22 st
         refine WO_one rfl (One_store (t := 139) (x := (.tmp 8)) (y := (.tmp 25)) (v := .agg #[.func (.func 133) #[] #[.pointer (some ⟨b2, 0, none⟩)]]) (c' := #[.func (.func 133) #[] #[.pointer (some ⟨b2, 0, none⟩)]]) (by kernel_rfl) (show evL _ _ = some (.pointer (some ⟨b10, 0, none⟩)) from (by kernel_rfl)) (show evL _ _ = some (.agg #[.func (.func 133) #[] #[.pointer (some ⟨b2, 0, none⟩)]]) from (by kernel_rfl)) st (by kernel_rfl) (by kernel_rfl) ?_)
         clear st
         intro w23 st
         refine WO_et rfl ?_
         refine W_sr ?_
         refine WO_seg 1 [(27, .pointer (some ⟨b10, 0, none⟩))] (by kernel_rfl) (by kernel_rfl) ?_
         refine WO_one rfl (One_load_own (d := 28) (t := 137) (x := (.tmp 27)) (.func (.func 133) #[] #[.pointer (some ⟨b2, 0, none⟩)]) (by kernel_rfl) rfl (show evL _ _ = some (.pointer (some ⟨b10, 0, none⟩)) from (by kernel_rfl)) st.head (by kernel_rfl) ?_)
         refine WO_seg 2 [(29, .slice a1 (List.length p0) c1), (30, .int .i64 o4.1)] (by kernel_rfl) (by kernel_rfl) ?_
         replace hr := bindS hr
         obtain ⟨o5, hr, hrKu4⟩ := hr
         refine WO_one rfl (One_fn 31 133 #[.slice a1 (List.length p0) c1, .int .i64 o4.1, .pointer (some ⟨b1, 0, none⟩), .pointer (some ⟨b2, 0, none⟩)] (by kernel_rfl) rfl ?_)
         refine Calls_cut (fun v' w' => ∃ (m9 : Mem), v' = (.tuple #[.int .i64 o5.1, .int .i64 o5.2]) ∧ m.le m9 ∧ St m9 (.blk b10 (.cells #[.func (.func 133) #[] #[.pointer (some ⟨b2, 0, none⟩)]] 139 (0, 0)) :: .blk b9 (.cells #[.func (.func 132) #[] #[]] 139 (0, 0)) :: .blk b6 (.cells #[.func (.func 131) #[] #[]] 139 (0, 0)) :: .blk b4 (.cells #[.func (.func 130) #[] #[]] 139 (0, 0)) :: .blk b2 (.cells #[.int .i64 p1] 3 (0, 0)) :: .blk b1 (.cells #[.int .i64 o3.2.2, .slice a2 (List.length o4.2.2) c2] 86 (0, 0)) :: .room a2 (List.length o4.2.2) c2 5 1 :: own) w' ∧ RepS cU8 m9 a1 c1 p0 ∧ MRow m9 b3 0 [.func (.func 130) #[] #[], .func (.func 131) #[] #[], .func (.func 132) #[] #[], .func (.func 133) #[] #[.pointer (some ⟨b2, 0, none⟩)]] ∧ RepS cU8 m9 a2 c2 o4.2.2) ?_ ?_
         ·clear hr st
          have hr := hrKu4
          clear hrKu4
          rintro _ w24 ⟨m9, rfl, hm, st, r1, hb2, r2⟩
          refine ⟨_, rfl, ?_⟩
          refine WO_seg 5 [(5, .int .i64 o5.1), (6, .int .i64 o5.2)] (by kernel_rfl) (by kernel_rfl) ?_
          refine WO_et rfl ?_
          refine W_sr ?_
          refine WO_seg 2 [(35, .bool (o5.2 != 0))] (by kernel_rfl) (by kernel_rfl) ?_
          refine WO_et rfl ?_
          refine W_cond (o5.2 != 0) (by kernel_rfl) ?_ ?_
          ·intro hc
           rw [if_pos hc] at hr
           refine W_sr ?_
           refine WO_seg 2 [(36, .agg #[.int .i64 0, .slice none (List.length ([] : List (UInt8))) 0]), (37, .int .i64 o5.2)] (by kernel_rfl) (by kernel_rfl) ?_
           have st := st.front5
           refine WO_one rfl (One_store (t := 86) (x := (.tmp 4)) (y := (.tmp 36)) (v := .agg #[.int .i64 0, .slice none (List.length ([] : List (UInt8))) 0]) (c' := #[.int .i64 0, .slice none (List.length ([] : List (UInt8))) 0]) (by kernel_rfl) (show evL _ _ = some (.pointer (some ⟨b1, 0, none⟩)) from (by kernel_rfl)) (show evL _ _ = some (.agg #[.int .i64 0, .slice none (List.length ([] : List (UInt8))) 0]) from (by kernel_rfl)) st (by kernel_rfl) (by kernel_rfl) ?_)
           clear st
           intro w27 st
           refine WO_seg 2 [(5, .int .i64 0), (6, .int .i64 o5.2)] (by kernel_rfl) (by kernel_rfl) ?_
           refine WO_end rfl ?_
           have st := st.front6
           have st := st.tail
           refine X_then ?_
           refine W_ret ?_
           refine X_block_ret ?_
           refine X_then_ret ?_
           refine X_then_ret ?_
           refine X_block_ret ?_
           refine X_then_ret ?_
           obtain rfl := Option.some.inj hr
           refine X_ret [.cell 4 86, .tmp 5, .tmp 6] [.agg #[.int .i64 0, .slice none (List.length ([] : List (UInt8))) 0], .int .i64 0, .int .i64 o5.2] rfl (ResAll.cons (ResAt.blk (v := .agg #[.int .i64 0, .slice none (List.length ([] : List (UInt8))) 0]) (o := 0) (by kernel_rfl) st.head (by kernel_rfl)) (ResAll.cons (ResAt.tmp (by kernel_rfl)) (ResAll.cons (ResAt.tmp (by kernel_rfl)) ResAll.nil))) ?_
           have st := st.nilroom 5 1
           have st := st.front1
           have st := st.tail
           have st := st.front1
           have st := st.tail
           have st := st.front1
           have st := st.tail
           have st := st.front1
           have st := st.tail
           have st := st.front1
           have st := st.tail
           have st := st.front1
           have st := st.tail
           exact ⟨none, 0, m9, rfl, hm, st, (RepS.nil _ _)⟩
          ·intro hc
           rw [if_neg (not_true hc)] at hr
           refine W_skip ?_
           refine X_block ?_
           refine X_then ?_
           refine W_region ?_
           refine WO_seg 2 [(22, .int .i64 4)] (by kernel_rfl) (by kernel_rfl) ?_
           refine WO_end rfl ?_
           refine X_again ?_
           refine WR_succ ?_
           refine W_sr ?_
           refine WO_seg 1 [(23, .bool false)] (by kernel_rfl) (by kernel_rfl) ?_
           refine WO_et rfl ?_
           refine W_seq ?_
           refine W_cond false (by kernel_rfl) (fun h => Bool.noConfusion h) ?_
           intro _
           refine W_exit ?_
           refine X_then_exit ?_
           refine X_then_exit ?_
           refine X_block_eq ?_
           refine X_then ?_
           refine W_sr ?_
           refine WO_one rfl (One_load_own (d := 39) (t := 86) (x := (.tmp 4)) (.agg #[.int .i64 o3.2.2, .slice a2 (List.length o4.2.2) c2]) (by kernel_rfl) rfl (show evL _ _ = some (.pointer (some ⟨b1, 0, none⟩)) from (by kernel_rfl)) st.tail.tail.tail.tail.tail.head (by kernel_rfl) ?_)
           refine WO_seg 1 [(40, .int .i64 o5.1)] (by kernel_rfl) (by kernel_rfl) ?_
           have st := st.front5
           refine WO_one rfl (One_store (t := 86) (x := (.tmp 4)) (y := (.tmp 39)) (v := .agg #[.int .i64 o3.2.2, .slice a2 (List.length o4.2.2) c2]) (c' := #[.int .i64 o3.2.2, .slice a2 (List.length o4.2.2) c2]) (by kernel_rfl) (show evL _ _ = some (.pointer (some ⟨b1, 0, none⟩)) from (by kernel_rfl)) (show evL _ _ = some (.agg #[.int .i64 o3.2.2, .slice a2 (List.length o4.2.2) c2]) from (by kernel_rfl)) st (by kernel_rfl) (by kernel_rfl) ?_)
           clear st
           intro w28 st
           refine WO_seg 2 [(5, .int .i64 o5.1), (6, .int .i64 0)] (by kernel_rfl) (by kernel_rfl) ?_
           refine WO_et rfl ?_
           refine W_ret ?_
           obtain rfl := Option.some.inj hr
           refine X_ret [.cell 4 86, .tmp 5, .tmp 6] [.agg #[.int .i64 o3.2.2, .slice a2 (List.length o4.2.2) c2], .int .i64 o5.1, .int .i64 0] rfl (ResAll.cons (ResAt.blk (v := .agg #[.int .i64 o3.2.2, .slice a2 (List.length o4.2.2) c2]) (o := 0) (by kernel_rfl) st.head (by kernel_rfl)) (ResAll.cons (ResAt.tmp (by kernel_rfl)) (ResAll.cons (ResAt.tmp (by kernel_rfl)) ResAll.nil))) ?_
           have st := st.tail
           have st := st.tail
           have st := st.tail
           have st := st.tail
           have st := st.tail
           have st := st.tail
           exact ⟨a2, c2, m9, rfl, hm, st, r2⟩
         ·clear hrKu4
          refine W_calls Go.Proofs.Tryd.func133 rfl Go.Proofs.Tryd.ntmps133 [(0, .slice a1 (List.length p0) c1), (1, .int .i64 o4.1), (2, .pointer (some ⟨b1, 0, none⟩)), (3, .pointer (some ⟨b2, 0, none⟩))] (by kernel_rfl) rfl ?_
          refine W_sr ?_
          refine WO_seg 2 [] (by kernel_rfl) (by kernel_rfl) ?_
          refine WO_et rfl ?_
          refine W_seq ?_
          refine W_draw [(30, fun w' => Inv m6 w' ∧ True)] (by kernel_rfl) st ?_
          clear st
          intro w25 _ st
          have hmS1 := m6.le_refl
          refine ⟨⟨.inr ⟨Inv.anti st.inv hmS1, trivial⟩, trivial⟩, ?_⟩
          refine WA_pure 0 10 (.slice a1 (List.length p0) c1) (by kernel_rfl) rfl (by kernel_rfl) (.head _) (QP_then QP_body) ?_
          refine WA_pure 1 11 (.int .i64 o4.1) (by kernel_rfl) rfl (by kernel_rfl) (.head _) (QP_then QP_body) ?_
          replace hr := bindS hr
          obtain ⟨x4, hx7, hr⟩ := hr
          refine WA_index (t := 43) (e := 5) (x := (.tmp 10)) (y := (.tmp 11)) 2 12 cU8 (by kernel_rfl) rfl (by kernel_rfl) (.head _) (QP_then QP_body) (show evL _ _ = some (.slice a1 (List.length p0) c1) from (by kernel_rfl)) (show evL _ _ = some (.int .i64 o4.1) from (by kernel_rfl)) (by kernel_rfl) r1 hx7 ?_
          rintro b11 f4 cs4 rfl hq4
          refine WA_load_row (t := 5) (x := (.tmp 12)) 3 13 (.int .u8 (x4.toNat : Int)) (by kernel_rfl) rfl (by kernel_rfl) (.head _) (QP_then QP_body) (fun _ h => h.1) (show evL _ _ = some (.pointer (some ⟨b11, f4, none⟩)) from (by kernel_rfl)) hq4 (by kernel_rfl) ?_
          refine WA_pure 4 14 (.int .u32 (IntKind.wrap .u32 (x4.toNat : Int))) (by kernel_rfl) rfl (by kernel_rfl) (.head _) (QP_then QP_body) ?_
          refine WA_pure 5 15 (.slice a1 (List.length p0) c1) (by kernel_rfl) rfl (by kernel_rfl) (.head _) (QP_then QP_body) ?_
          refine WA_pure 6 16 (.int .i64 o4.1) (by kernel_rfl) rfl (by kernel_rfl) (.head _) (QP_then QP_body) ?_
          refine WA_pure 7 17 (.int .i64 (IntKind.wrap .i64 (o4.1 + 1))) (by kernel_rfl) rfl (by kernel_rfl) (.head _) (QP_then QP_body) ?_
          replace hr := bindS hr
          obtain ⟨x5, hx8, hr⟩ := hr
          refine WA_index (t := 43) (e := 5) (x := (.tmp 15)) (y := (.tmp 17)) 8 18 cU8 (by kernel_rfl) rfl (by kernel_rfl) (.head _) (QP_then QP_body) (show evL _ _ = some (.slice a1 (List.length p0) c1) from (by kernel_rfl)) (show evL _ _ = some (.int .i64 (IntKind.wrap .i64 (o4.1 + 1))) from (by kernel_rfl)) (by kernel_rfl) r1 hx8 ?_
          rintro b12 f5 cs5 rfl hq5
          refine WA_load_row (t := 5) (x := (.tmp 18)) 9 19 (.int .u8 (x5.toNat : Int)) (by kernel_rfl) rfl (by kernel_rfl) (.head _) (QP_then QP_body) (fun _ h => h.1) (show evL _ _ = some (.pointer (some ⟨b12, f5, none⟩)) from (by kernel_rfl)) hq5 (by kernel_rfl) ?_
          refine WA_pure 10 20 (.int .u32 (IntKind.wrap .u32 (x5.toNat : Int))) (by kernel_rfl) rfl (by kernel_rfl) (.head _) (QP_then QP_body) ?_
          refine WA_pure 11 21 (.int .u32 (IntKind.wrap .u32 ((IntKind.wrap .u32 (x5.toNat : Int)) * 2 ^ 8))) (by kernel_rfl) rfl (by kernel_rfl) (.head _) (QP_then QP_body) ?_
          refine WA_pure 12 22 (.int .u32 (iOr .u32 (IntKind.wrap .u32 (x4.toNat : Int)) (IntKind.wrap .u32 ((IntKind.wrap .u32 (x5.toNat : Int)) * 2 ^ 8)))) (by kernel_rfl) rfl (by kernel_rfl) (.head _) (QP_then QP_body) ?_
          refine WA_pure 13 23 (.slice a1 (List.length p0) c1) (by kernel_rfl) rfl (by kernel_rfl) (.head _) (QP_then QP_body) ?_
          refine WA_pure 14 24 (.int .i64 o4.1) (by kernel_rfl) rfl (by kernel_rfl) (.head _) (QP_then QP_body) ?_
          refine WA_pure 15 25 (.int .i64 (IntKind.wrap .i64 (o4.1 + 2))) (by kernel_rfl) rfl (by kernel_rfl) (.head _) (QP_then QP_body) ?_
          replace hr := bindS hr
          obtain ⟨x6, hx9, hr⟩ := hr
          refine WA_index (t := 43) (e := 5) (x := (.tmp 23)) (y := (.tmp 25)) 16 26 cU8 (by kernel_rfl) rfl (by kernel_rfl) (.head _) (QP_then QP_body) (show evL _ _ = some (.slice a1 (List.length p0) c1) from (by kernel_rfl)) (show evL _ _ = some (.int .i64 (IntKind.wrap .i64 (o4.1 + 2))) from (by kernel_rfl)) (by kernel_rfl) r1 hx9 ?_
          rintro b13 f6 cs6 rfl hq6
          refine WA_load_row (t := 5) (x := (.tmp 26)) 17 27 (.int .u8 (x6.toNat : Int)) (by kernel_rfl) rfl (by kernel_rfl) (.head _) (QP_then QP_body) (fun _ h => h.1) (show evL _ _ = some (.pointer (some ⟨b13, f6, none⟩)) from (by kernel_rfl)) hq6 (by kernel_rfl) ?_
          refine WA_pure 18 28 (.int .u32 (IntKind.wrap .u32 (x6.toNat : Int))) (by kernel_rfl) rfl (by kernel_rfl) (.head _) (QP_then QP_body) ?_
          refine WA_pure 19 29 (.int .u32 (IntKind.wrap .u32 ((IntKind.wrap .u32 (x6.toNat : Int)) * 2 ^ 16))) (by kernel_rfl) rfl (by kernel_rfl) (.head _) (QP_then QP_body) ?_
          refine WA_pure 20 30 (.int .u32 (iOr .u32 (iOr .u32 (IntKind.wrap .u32 (x4.toNat : Int)) (IntKind.wrap .u32 ((IntKind.wrap .u32 (x5.toNat : Int)) * 2 ^ 8))) (IntKind.wrap .u32 ((IntKind.wrap .u32 (x6.toNat : Int)) * 2 ^ 16)))) (by kernel_rfl) rfl (by kernel_rfl) (.head _) (QP_then QP_body) ?_
          refine WA_pure 21 31 (.slice a1 (List.length p0) c1) (by kernel_rfl) rfl (by kernel_rfl) (.head _) (QP_then QP_body) ?_
          refine WA_pure 22 32 (.int .i64 o4.1) (by kernel_rfl) rfl (by kernel_rfl) (.head _) (QP_then QP_body) ?_
          refine WA_pure 23 33 (.int .i64 (IntKind.wrap .i64 (o4.1 + 3))) (by kernel_rfl) rfl (by kernel_rfl) (.head _) (QP_then QP_body) ?_
          replace hr := bindS hr
          obtain ⟨x7, hx10, hr⟩ := hr
          refine WA_index (t := 43) (e := 5) (x := (.tmp 31)) (y := (.tmp 33)) 24 34 cU8 (by kernel_rfl) rfl (by kernel_rfl) (.head _) (QP_then QP_body) (show evL _ _ = some (.slice a1 (List.length p0) c1) from (by kernel_rfl)) (show evL _ _ = some (.int .i64 (IntKind.wrap .i64 (o4.1 + 3))) from (by kernel_rfl)) (by kernel_rfl) r1 hx10 ?_
          rintro b14 f7 cs7 rfl hq7
          refine WA_load_row (t := 5) (x := (.tmp 34)) 25 35 (.int .u8 (x7.toNat : Int)) (by kernel_rfl) rfl (by kernel_rfl) (.head _) (QP_then QP_body) (fun _ h => h.1) (show evL _ _ = some (.pointer (some ⟨b14, f7, none⟩)) from (by kernel_rfl)) hq7 (by kernel_rfl) ?_
          refine WA_pure 26 36 (.int .u32 (IntKind.wrap .u32 (x7.toNat : Int))) (by kernel_rfl) rfl (by kernel_rfl) (.head _) (QP_then QP_body) ?_
          refine WA_pure 27 37 (.int .u32 (IntKind.wrap .u32 ((IntKind.wrap .u32 (x7.toNat : Int)) * 2 ^ 24))) (by kernel_rfl) rfl (by kernel_rfl) (.head _) (QP_then QP_body) ?_
          refine WA_pure 28 38 (.int .u32 (iOr .u32 (iOr .u32 (iOr .u32 (IntKind.wrap .u32 (x4.toNat : Int)) (IntKind.wrap .u32 ((IntKind.wrap .u32 (x5.toNat : Int)) * 2 ^ 8))) (IntKind.wrap .u32 ((IntKind.wrap .u32 (x6.toNat : Int)) * 2 ^ 16))) (IntKind.wrap .u32 ((IntKind.wrap .u32 (x7.toNat : Int)) * 2 ^ 24)))) (by kernel_rfl) rfl (by kernel_rfl) (.head _) (QP_then QP_body) ?_
          refine WA_pure 29 9 (.int .u32 (iOr .u32 (iOr .u32 (iOr .u32 (IntKind.wrap .u32 (x4.toNat : Int)) (IntKind.wrap .u32 ((IntKind.wrap .u32 (x5.toNat : Int)) * 2 ^ 8))) (IntKind.wrap .u32 ((IntKind.wrap .u32 (x6.toNat : Int)) * 2 ^ 16))) (IntKind.wrap .u32 ((IntKind.wrap .u32 (x7.toNat : Int)) * 2 ^ 24)))) (by kernel_rfl) rfl (by kernel_rfl) (.head _) (QP_then QP_body) ?_
          refine WA_done (by kernel_rfl) ?_
          refine X_then ?_
          refine W_seq ?_
          refine W_sr ?_
          refine WO_seg 2 [(39, .int .u32 (iOr .u32 (iOr .u32 (iOr .u32 (IntKind.wrap .u32 (x4.toNat : Int)) (IntKind.wrap .u32 ((IntKind.wrap .u32 (x5.toNat : Int)) * 2 ^ 8))) (IntKind.wrap .u32 ((IntKind.wrap .u32 (x6.toNat : Int)) * 2 ^ 16))) (IntKind.wrap .u32 ((IntKind.wrap .u32 (x7.toNat : Int)) * 2 ^ 24)))), (40, .slice a1 (List.length p0) c1)] (by kernel_rfl) (by kernel_rfl) ?_
          refine WO_one rfl (One_load_own (d := 41) (t := 3) (x := (.tmp 3)) (.int .i64 p1) (by kernel_rfl) rfl (show evL _ _ = some (.pointer (some ⟨b2, 0, none⟩)) from (by kernel_rfl)) st.tail.tail.tail.tail.head (by kernel_rfl) ?_)
          refine WO_seg 2 [(42, .int .i64 (IntKind.wrap .i64 (p1 + 1))), (43, .int .i64 o4.1)] (by kernel_rfl) (by kernel_rfl) ?_
          replace hr := bindS hr
          obtain ⟨l3, hx11, hr⟩ := hr
          refine WO_one rfl (One_slice (d := 44) (t := 43) (e := 5) (x := (.tmp 40)) (lo := (some (.tmp 42))) (hi := (some (.tmp 43))) cU8 (by kernel_rfl) rfl (show evL _ _ = some (.slice a1 (List.length p0) c1) from (by kernel_rfl)) (by kernel_rfl) r1 (.inr ⟨_, _, rfl, (show evL _ _ = some (.int .i64 (IntKind.wrap .i64 (p1 + 1))) from (by kernel_rfl))⟩) (.inr ⟨_, _, rfl, (show evL _ _ = some (.int .i64 o4.1) from (by kernel_rfl))⟩) hx11 ?_)
          intro a5 c5 r5
          replace hr := bindS hr
          obtain ⟨y2, hx12, hr⟩ := hr
          refine WO_one rfl (One_fn 45 92 #[.slice a5 (List.length l3) c5] (by kernel_rfl) rfl ?_)
          refine (wire_Checksum_ok st r5 hx12).mono ?_
          clear st
          rintro _ w26 ⟨m10, rfl, hle5, st⟩
          refine ⟨_, rfl, ?_⟩
          have hm := Mem.le_trans hm hle5
          have r1 := r1.mono hle5
          have r5 := r5.mono hle5
          have hb2 := hb2.mono hle5
          have r2 := r2.mono hle5
          refine WO_seg 1 [(46, .bool ((iOr .u32 (iOr .u32 (iOr .u32 (IntKind.wrap .u32 (x4.toNat : Int)) (IntKind.wrap .u32 ((IntKind.wrap .u32 (x5.toNat : Int)) * 2 ^ 8))) (IntKind.wrap .u32 ((IntKind.wrap .u32 (x6.toNat : Int)) * 2 ^ 16))) (IntKind.wrap .u32 ((IntKind.wrap .u32 (x7.toNat : Int)) * 2 ^ 24))) != y2))] (by kernel_rfl) (by kernel_rfl) ?_
          refine WO_et rfl ?_
          refine W_cond ((iOr .u32 (iOr .u32 (iOr .u32 (IntKind.wrap .u32 (x4.toNat : Int)) (IntKind.wrap .u32 ((IntKind.wrap .u32 (x5.toNat : Int)) * 2 ^ 8))) (IntKind.wrap .u32 ((IntKind.wrap .u32 (x6.toNat : Int)) * 2 ^ 16))) (IntKind.wrap .u32 ((IntKind.wrap .u32 (x7.toNat : Int)) * 2 ^ 24))) != y2) (by kernel_rfl) ?_ ?_
          ·intro hc
           rw [if_pos hc] at hr
           refine W_sr ?_
           refine WO_seg 2 [(7, .int .i64 0), (8, .int .i64 8)] (by kernel_rfl) (by kernel_rfl) ?_
           refine WO_et rfl ?_
           refine W_ret ?_
           refine X_then_ret ?_
           obtain rfl := Option.some.inj hr
           refine X_ret [.tmp 7, .tmp 8] [.int .i64 0, .int .i64 8] rfl (ResAll.cons (ResAt.tmp (by kernel_rfl)) (ResAll.cons (ResAt.tmp (by kernel_rfl)) ResAll.nil)) ?_
           have st := st.front6
           have st := st.front6
           have st := st.front6
           have st := st.front6
           have st := st.front6
           have st := st.front6
           have st := st.front6
           exact ⟨_, rfl, ⟨m10, rfl, hm, st, r1, hb2, r2⟩⟩
          ·intro hc
           rw [if_neg (not_true hc)] at hr
           refine W_skip ?_
           refine X_then ?_
           refine W_sr ?_
           refine WO_seg 4 [(7, .int .i64 (IntKind.wrap .i64 (o4.1 + 4))), (8, .int .i64 0)] (by kernel_rfl) (by kernel_rfl) ?_
           refine WO_et rfl ?_
           refine W_ret ?_
           obtain rfl := Option.some.inj hr
           refine X_ret [.tmp 7, .tmp 8] [.int .i64 (IntKind.wrap .i64 (o4.1 + 4)), .int .i64 0] rfl (ResAll.cons (ResAt.tmp (by kernel_rfl)) (ResAll.cons (ResAt.tmp (by kernel_rfl)) ResAll.nil)) ?_
           have st := st.front6
           have st := st.front6
           have st := st.front6
           have st := st.front6
           have st := st.front6
           have st := st.front6
           have st := st.front6
           exact ⟨_, rfl, ⟨m10, rfl, hm, st, r1, hb2, r2⟩⟩
       ·clear hrKu3
        refine W_calls Go.Proofs.Tryd.func132 rfl Go.Proofs.Tryd.ntmps132 [(0, .slice a1 (List.length p0) c1), (1, .int .i64 o3.1), (2, .pointer (some ⟨b1, 0, none⟩))] (by kernel_rfl) rfl ?_
        refine W_sr ?_
        refine WO_seg 2 [] (by kernel_rfl) (by kernel_rfl) ?_
        refine WO_et rfl ?_
        refine W_sr ?_
        refine WO_seg 2 [(12, .slice a1 (List.length p0) c1), (13, .int .i64 o3.1)] (by kernel_rfl) (by kernel_rfl) ?_
        replace hr := bindS hr
        obtain ⟨y1, hx4, hr⟩ := hr
        refine WO_one rfl (One_fn 14 101 #[.slice a1 (List.length p0) c1, .int .i64 o3.1] (by kernel_rfl) rfl ?_)
        refine (wire_Uint_ok st r1 hx4).mono ?_
        clear st
        rintro _ w18 ⟨m7, rfl, hle3, st⟩
        refine ⟨_, rfl, ?_⟩
        have hm := Mem.le_trans hm hle3
        have r1 := r1.mono hle3
        have hb2 := hb2.mono hle3
        refine WO_seg 7 [(8, .int .u64 y1.1), (9, .int .i64 y1.2.1), (10, .int .i64 y1.2.2)] (by kernel_rfl) (by kernel_rfl) ?_
        refine WO_et rfl ?_
        refine W_seq ?_
        refine W_block ?_
        refine W_sr ?_
        refine WO_seg 3 [(18, .bool (y1.2.2 != 0))] (by kernel_rfl) (by kernel_rfl) ?_
        refine WO_et rfl ?_
        refine W_cond (y1.2.2 != 0) (by kernel_rfl) ?_ ?_
        ·intro hc
         rw [if_pos hc] at hr
         refine W_sr ?_
         refine WO_seg 3 [(6, .int .i64 0), (7, .int .i64 y1.2.2)] (by kernel_rfl) (by kernel_rfl) ?_
         refine WO_et rfl ?_
         refine W_ret ?_
         refine X_block_ret ?_
         refine X_then_ret ?_
         obtain rfl := Option.some.inj hr
         refine X_ret [.tmp 6, .tmp 7] [.int .i64 0, .int .i64 y1.2.2] rfl (ResAll.cons (ResAt.tmp (by kernel_rfl)) (ResAll.cons (ResAt.tmp (by kernel_rfl)) ResAll.nil)) ?_
         have st := st.nilroom 5 1
         have st := st.front5
         have st := st.front5
         have st := st.front5
         have st := st.front5
         have st := st.front5
         exact ⟨_, rfl, ⟨none, 0, m7, rfl, hm, st, r1, hb2, (RepS.nil _ _)⟩⟩
        ·intro hc
         rw [if_neg (not_true hc)] at hr
         refine W_sr ?_
         refine WO_seg 3 [(22, .bool (decide (y1.1 > 2097152)))] (by kernel_rfl) (by kernel_rfl) ?_
         refine WO_et rfl ?_
         refine W_cond (decide (y1.1 > 2097152)) (by kernel_rfl) ?_ ?_
         ·intro hc
          rw [if_pos hc] at hr
          refine W_sr ?_
          refine WO_seg 2 [(6, .int .i64 0), (7, .int .i64 2)] (by kernel_rfl) (by kernel_rfl) ?_
          refine WO_et rfl ?_
          refine W_ret ?_
          refine X_block_ret ?_
          refine X_then_ret ?_
          obtain rfl := Option.some.inj hr
          refine X_ret [.tmp 6, .tmp 7] [.int .i64 0, .int .i64 2] rfl (ResAll.cons (ResAt.tmp (by kernel_rfl)) (ResAll.cons (ResAt.tmp (by kernel_rfl)) ResAll.nil)) ?_
          have st := st.nilroom 5 1
          have st := st.front5
          have st := st.front5
          have st := st.front5
          have st := st.front5
          have st := st.front5
          exact ⟨_, rfl, ⟨none, 0, m7, rfl, hm, st, r1, hb2, (RepS.nil _ _)⟩⟩
         ·intro hc
          rw [if_neg (not_true hc)] at hr
          refine W_sr ?_
          refine WO_seg 9 [(25, .bool (decide ((IntKind.wrap .i64 ((IntKind.wrap .i64 y1.1) + 4)) > (IntKind.wrap .i64 ((List.length p0 : Int) - y1.2.1)))))] (by kernel_rfl) (by kernel_rfl) ?_
          refine WO_et rfl ?_
          refine W_cond (decide ((IntKind.wrap .i64 ((IntKind.wrap .i64 y1.1) + 4)) > (IntKind.wrap .i64 ((List.length p0 : Int) - y1.2.1)))) (by kernel_rfl) ?_ ?_
          ·intro hc
           rw [if_pos hc] at hr
           refine W_sr ?_
           refine WO_seg 2 [(6, .int .i64 0), (7, .int .i64 7)] (by kernel_rfl) (by kernel_rfl) ?_
           refine WO_et rfl ?_
           refine W_ret ?_
           refine X_block_ret ?_
           refine X_then_ret ?_
           obtain rfl := Option.some.inj hr
           refine X_ret [.tmp 6, .tmp 7] [.int .i64 0, .int .i64 7] rfl (ResAll.cons (ResAt.tmp (by kernel_rfl)) (ResAll.cons (ResAt.tmp (by kernel_rfl)) ResAll.nil)) ?_
           have st := st.nilroom 5 1
           have st := st.front5
           have st := st.front5
           have st := st.front5
           have st := st.front5
           have st := st.front5
           exact ⟨_, rfl, ⟨none, 0, m7, rfl, hm, st, r1, hb2, (RepS.nil _ _)⟩⟩
          ·intro hc
           rw [if_neg (not_true hc)] at hr
           refine W_skip ?_
           refine X_block ?_
           refine X_then ?_
           refine W_sr ?_
           refine WO_seg 7 [(34, .pointer (some ⟨b1, 0, none⟩)), (35, .slice a1 (List.length p0) c1), (36, .int .i64 y1.2.1), (40, .int .i64 (IntKind.wrap .i64 (y1.2.1 + (IntKind.wrap .i64 y1.1))))] (by kernel_rfl) (by kernel_rfl) ?_
           replace hr := bindS hr
           obtain ⟨l1, hx5, hr⟩ := hr
           refine WO_one rfl (One_slice (d := 41) (t := 43) (e := 5) (x := (.tmp 35)) (lo := (some (.tmp 36))) (hi := (some (.tmp 40))) cU8 (by kernel_rfl) rfl (show evL _ _ = some (.slice a1 (List.length p0) c1) from (by kernel_rfl)) (by kernel_rfl) r1 (.inr ⟨_, _, rfl, (show evL _ _ = some (.int .i64 y1.2.1) from (by kernel_rfl))⟩) (.inr ⟨_, _, rfl, (show evL _ _ = some (.int .i64 (IntKind.wrap .i64 (y1.2.1 + (IntKind.wrap .i64 y1.1)))) from (by kernel_rfl))⟩) hx5 ?_)
           intro a3 c3 r3
           have st := st.nilroom 5 1
           replace hr := bindS hr
           obtain ⟨l2, hx6, hr⟩ := hr
           refine WO_one rfl (One_append (d := 42) (t := 43) (u := 43) (e := 5) (by_ := 1) (x := (.const (.slice none 0 0))) (y := (.tmp 41)) cU8 (by kernel_rfl) rfl (show evL _ _ = some (.slice none (List.length ([] : List (UInt8))) 0) from (by kernel_rfl)) (show evL _ _ = some (.slice a3 (List.length l1) c3) from (by kernel_rfl)) st (by kernel_rfl) (.inl (by kernel_rfl)) (RepS.nil _ _) r3.src hx6 ?_)
           clear st
           intro a4 c4 m8 w19 hle4 st r4
           have hm := Mem.le_trans hm hle4
           have r1 := r1.mono hle4
           have r3 := r3.mono hle4
           have hb2 := hb2.mono hle4
           refine WO_seg 2 [(44, .pointer (some ⟨b1, 1, none⟩))] (by kernel_rfl) (by kernel_rfl) ?_
           have st := st.front5
           refine WO_one rfl (One_store (t := 43) (x := (.tmp 44)) (y := (.tmp 42)) (v := .slice a4 (List.length l2) c4) (c' := #[.int .i64 o3.2.2, .slice a4 (List.length l2) c4]) (by kernel_rfl) (show evL _ _ = some (.pointer (some ⟨b1, 1, none⟩)) from (by kernel_rfl)) (show evL _ _ = some (.slice a4 (List.length l2) c4) from (by kernel_rfl)) st (by kernel_rfl) (by kernel_rfl) ?_)
           clear st
           intro w20 st
           refine WO_et rfl ?_
           refine W_sr ?_
           refine WO_seg 6 [(6, .int .i64 (IntKind.wrap .i64 (y1.2.1 + (IntKind.wrap .i64 y1.1)))), (7, .int .i64 0)] (by kernel_rfl) (by kernel_rfl) ?_
           refine WO_et rfl ?_
           refine W_ret ?_
           obtain rfl := Option.some.inj hr
           refine X_ret [.tmp 6, .tmp 7] [.int .i64 (IntKind.wrap .i64 (y1.2.1 + (IntKind.wrap .i64 y1.1))), .int .i64 0] rfl (ResAll.cons (ResAt.tmp (by kernel_rfl)) (ResAll.cons (ResAt.tmp (by kernel_rfl)) ResAll.nil)) ?_
           have st := st.front1
           have st := st.front1
           have st := st.front5
           have st := st.front5
           have st := st.front5
           have st := st.front5
           exact ⟨_, rfl, ⟨a4, c4, m8, rfl, hm, st, r1, hb2, r4⟩⟩
     ·clear hrKu2
      refine W_calls Go.Proofs.Tryd.func131 rfl Go.Proofs.Tryd.ntmps131 [(0, .slice a1 (List.length p0) c1), (1, .int .i64 o2.1), (2, .pointer (some ⟨b1, 0, none⟩))] (by kernel_rfl) rfl ?_
      refine W_sr ?_
      refine WO_seg 2 [] (by kernel_rfl) (by kernel_rfl) ?_
      refine WO_et rfl ?_
      refine W_seq ?_
      refine W_block ?_
      refine W_sr ?_
      refine WO_seg 5 [(8, .bool (o2.1 == (List.length p0 : Int)))] (by kernel_rfl) (by kernel_rfl) ?_
      refine WO_et rfl ?_
      refine W_cond (o2.1 == (List.length p0 : Int)) (by kernel_rfl) ?_ ?_
      ·intro hc
       rw [if_pos hc] at hr
       refine W_sr ?_
       refine WO_seg 2 [(6, .int .i64 0), (7, .int .i64 7)] (by kernel_rfl) (by kernel_rfl) ?_
       refine WO_et rfl ?_
       refine W_ret ?_
       refine X_block_ret ?_
       refine X_then_ret ?_
       obtain rfl := Option.some.inj hr
       refine X_ret [.tmp 6, .tmp 7] [.int .i64 0, .int .i64 7] rfl (ResAll.cons (ResAt.tmp (by kernel_rfl)) (ResAll.cons (ResAt.tmp (by kernel_rfl)) ResAll.nil)) ?_
       have st := st.front3
       have st := st.front3
       have st := st.front3
       have st := st.front3
       exact ⟨_, rfl, ⟨m4, rfl, hm, st, r1, hb2⟩⟩
      ·intro hc
       rw [if_neg (not_true hc)] at hr
       refine W_sr ?_
       refine WO_seg 2 [(14, .slice a1 (List.length p0) c1), (15, .int .i64 o2.1)] (by kernel_rfl) (by kernel_rfl) ?_
       replace hr := bindS hr
       obtain ⟨x2, hx2, hr⟩ := hr
       refine WO_one rfl (One_index (d := 16) (t := 43) (e := 5) (x := (.tmp 14)) (y := (.tmp 15)) cU8 (by kernel_rfl) rfl (show evL _ _ = some (.slice a1 (List.length p0) c1) from (by kernel_rfl)) (show evL _ _ = some (.int .i64 o2.1) from (by kernel_rfl)) (by kernel_rfl) r1 hx2 ?_)
       rintro b7 f2 cs2 rfl hq2
       refine WO_one rfl (One_load_row (d := 17) (t := 5) (x := (.tmp 16)) (.int .u8 (x2.toNat : Int)) (by kernel_rfl) rfl (show evL _ _ = some (.pointer (some ⟨b7, f2, none⟩)) from (by kernel_rfl)) st hq2 (by kernel_rfl) ?_)
       refine WO_seg 2 [(13, .bool ((x2.toNat : Int) == 0))] (by kernel_rfl) (by kernel_rfl) ?_
       refine WO_et rfl ?_
       refine W_cond ((x2.toNat : Int) == 0) (by kernel_rfl) ?_ ?_
       ·intro hc
        rw [if_pos hc] at hr
        refine W_sr ?_
        refine WO_seg 2 [(6, .int .i64 0), (7, .int .i64 6)] (by kernel_rfl) (by kernel_rfl) ?_
        refine WO_et rfl ?_
        refine W_ret ?_
        refine X_block_ret ?_
        refine X_then_ret ?_
        obtain rfl := Option.some.inj hr
        refine X_ret [.tmp 6, .tmp 7] [.int .i64 0, .int .i64 6] rfl (ResAll.cons (ResAt.tmp (by kernel_rfl)) (ResAll.cons (ResAt.tmp (by kernel_rfl)) ResAll.nil)) ?_
        have st := st.front3
        have st := st.front3
        have st := st.front3
        have st := st.front3
        exact ⟨_, rfl, ⟨m4, rfl, hm, st, r1, hb2⟩⟩
       ·intro hc
        rw [if_neg (not_true hc)] at hr
        refine W_skip ?_
        refine X_block ?_
        refine X_then ?_
        refine W_sr ?_
        refine WO_seg 3 [(19, .pointer (some ⟨b1, 0, none⟩)), (20, .slice a1 (List.length p0) c1), (21, .int .i64 o2.1)] (by kernel_rfl) (by kernel_rfl) ?_
        replace hr := bindS hr
        obtain ⟨x3, hx3, hr⟩ := hr
        refine WO_one rfl (One_index (d := 22) (t := 43) (e := 5) (x := (.tmp 20)) (y := (.tmp 21)) cU8 (by kernel_rfl) rfl (show evL _ _ = some (.slice a1 (List.length p0) c1) from (by kernel_rfl)) (show evL _ _ = some (.int .i64 o2.1) from (by kernel_rfl)) (by kernel_rfl) r1 hx3 ?_)
        rintro b8 f3 cs3 rfl hq3
        refine WO_one rfl (One_load_row (d := 23) (t := 5) (x := (.tmp 22)) (.int .u8 (x3.toNat : Int)) (by kernel_rfl) rfl (show evL _ _ = some (.pointer (some ⟨b8, f3, none⟩)) from (by kernel_rfl)) st hq3 (by kernel_rfl) ?_)
        refine WO_seg 3 [(24, .int .i64 (IntKind.wrap .i64 (x3.toNat : Int))), (26, .pointer (some ⟨b1, 0, none⟩))] (by kernel_rfl) (by kernel_rfl) ?_
        have st := st.front3
        refine WO_one rfl (One_store (t := 3) (x := (.tmp 26)) (y := (.tmp 24)) (v := .int .i64 (IntKind.wrap .i64 (x3.toNat : Int))) (c' := #[.int .i64 (IntKind.wrap .i64 (x3.toNat : Int)), .slice none (List.length ([] : List (UInt8))) 0]) (by kernel_rfl) (show evL _ _ = some (.pointer (some ⟨b1, 0, none⟩)) from (by kernel_rfl)) (show evL _ _ = some (.int .i64 (IntKind.wrap .i64 (x3.toNat : Int))) from (by kernel_rfl)) st (by kernel_rfl) (by kernel_rfl) ?_)
        clear st
        intro w13 st
        refine WO_et rfl ?_
        refine W_sr ?_
        refine WO_seg 4 [(6, .int .i64 (IntKind.wrap .i64 (o2.1 + 1))), (7, .int .i64 0)] (by kernel_rfl) (by kernel_rfl) ?_
        refine WO_et rfl ?_
        refine W_ret ?_
        obtain rfl := Option.some.inj hr
        refine X_ret [.tmp 6, .tmp 7] [.int .i64 (IntKind.wrap .i64 (o2.1 + 1)), .int .i64 0] rfl (ResAll.cons (ResAt.tmp (by kernel_rfl)) (ResAll.cons (ResAt.tmp (by kernel_rfl)) ResAll.nil)) ?_
        have st := st.front3
        have st := st.front3
        have st := st.front3
        exact ⟨_, rfl, ⟨m4, rfl, hm, st, r1, hb2⟩⟩
   ·clear hrKu1
    refine W_calls Go.Proofs.Tryd.func130 rfl Go.Proofs.Tryd.ntmps130 [(0, .slice a1 (List.length p0) c1), (1, .int .i64 p1), (2, .pointer (some ⟨b1, 0, none⟩))] (by kernel_rfl) rfl ?_
    refine W_sr ?_
    refine WO_seg 2 [] (by kernel_rfl) (by kernel_rfl) ?_
    refine WO_et rfl ?_
    refine W_seq ?_
    refine W_block ?_
    refine W_sr ?_
    refine WO_seg 5 [(8, .bool (p1 == (List.length p0 : Int)))] (by kernel_rfl) (by kernel_rfl) ?_
    refine WO_et rfl ?_
    refine W_cond (p1 == (List.length p0 : Int)) (by kernel_rfl) ?_ ?_
    ·intro hc
     rw [if_pos hc] at hr
     refine W_sr ?_
     refine WO_seg 2 [(6, .int .i64 0), (7, .int .i64 7)] (by kernel_rfl) (by kernel_rfl) ?_
     refine WO_et rfl ?_
     refine W_ret ?_
     refine X_block_ret ?_
     refine X_then_ret ?_
     obtain rfl := Option.some.inj hr
     refine X_ret [.tmp 6, .tmp 7] [.int .i64 0, .int .i64 7] rfl (ResAll.cons (ResAt.tmp (by kernel_rfl)) (ResAll.cons (ResAt.tmp (by kernel_rfl)) ResAll.nil)) ?_
     have st := st.front2
     have st := st.front2
     have st := st.front2
     exact ⟨_, rfl, ⟨m3, rfl, hm, st, r1, hb2⟩⟩
    ·intro hc
     rw [if_neg (not_true hc)] at hr
     refine W_sr ?_
     refine WO_seg 2 [(14, .slice a1 (List.length p0) c1), (15, .int .i64 p1)] (by kernel_rfl) (by kernel_rfl) ?_
     replace hr := bindS hr
     obtain ⟨x1, hx1, hr⟩ := hr
     refine WO_one rfl (One_index (d := 16) (t := 43) (e := 5) (x := (.tmp 14)) (y := (.tmp 15)) cU8 (by kernel_rfl) rfl (show evL _ _ = some (.slice a1 (List.length p0) c1) from (by kernel_rfl)) (show evL _ _ = some (.int .i64 p1) from (by kernel_rfl)) (by kernel_rfl) r1 hx1 ?_)
     rintro b5 f1 cs1 rfl hq1
     refine WO_one rfl (One_load_row (d := 17) (t := 5) (x := (.tmp 16)) (.int .u8 (x1.toNat : Int)) (by kernel_rfl) rfl (show evL _ _ = some (.pointer (some ⟨b5, f1, none⟩)) from (by kernel_rfl)) st hq1 (by kernel_rfl) ?_)
     refine WO_seg 2 [(13, .bool ((x1.toNat : Int) != 247))] (by kernel_rfl) (by kernel_rfl) ?_
     refine WO_et rfl ?_
     refine W_cond ((x1.toNat : Int) != 247) (by kernel_rfl) ?_ ?_
     ·intro hc
      rw [if_pos hc] at hr
      refine W_sr ?_
      refine WO_seg 2 [(6, .int .i64 0), (7, .int .i64 6)] (by kernel_rfl) (by kernel_rfl) ?_
      refine WO_et rfl ?_
      refine W_ret ?_
      refine X_block_ret ?_
      refine X_then_ret ?_
      obtain rfl := Option.some.inj hr
      refine X_ret [.tmp 6, .tmp 7] [.int .i64 0, .int .i64 6] rfl (ResAll.cons (ResAt.tmp (by kernel_rfl)) (ResAll.cons (ResAt.tmp (by kernel_rfl)) ResAll.nil)) ?_
      have st := st.front2
      have st := st.front2
      have st := st.front2
      exact ⟨_, rfl, ⟨m3, rfl, hm, st, r1, hb2⟩⟩
     ·intro hc
      rw [if_neg (not_true hc)] at hr
      refine W_skip ?_
      refine X_block ?_
      refine X_then ?_
      refine W_sr ?_
      refine WO_seg 4 [(6, .int .i64 (IntKind.wrap .i64 (p1 + 1))), (7, .int .i64 0)] (by kernel_rfl) (by kernel_rfl) ?_
      refine WO_et rfl ?_
      refine W_ret ?_
      obtain rfl := Option.some.inj hr
      refine X_ret [.tmp 6, .tmp 7] [.int .i64 (IntKind.wrap .i64 (p1 + 1)), .int .i64 0] rfl (ResAll.cons (ResAt.tmp (by kernel_rfl)) (ResAll.cons (ResAt.tmp (by kernel_rfl)) ResAll.nil)) ?_
      have st := st.front2
      have st := st.front2
      have st := st.front2
      exact ⟨_, rfl, ⟨m3, rfl, hm, st, r1, hb2⟩⟩
 ·intro K
  clear hrK
  refine WO_seg 3 [(11, .bool (decide (p1 < 0)))] (by kernel_rfl) (by kernel_rfl) ?_
  rcases bcases (decide (p1 < 0)) with hc | hc
  ·rw [if_pos hc] at hr
   refine WO_fact (t := 11) (b := true) (decide (p1 < 0)) (by kernel_rfl) hc ?_
   refine WO_seg 5 [(16, .bool true)] (by kernel_rfl) (by kernel_rfl) ?_
   obtain rfl := Option.some.inj hr
   exact WO_env _ (by kernel_rfl) (K _ _ ⟨m, rfl, hm, st, r1⟩)
  ·rw [if_neg (not_true hc)] at hr
   refine WO_fact (t := 11) (b := false) (decide (p1 < 0)) (by kernel_rfl) hc ?_
   refine WO_seg 5 [(16, .bool (decide (p1 > (List.length p0 : Int))))] (by kernel_rfl) (by kernel_rfl) ?_
   obtain rfl := Option.some.inj hr
   exact WO_env _ (by kernel_rfl) (K _ _ ⟨m, rfl, hm, st, r1⟩)

def wire_Frames_L1 (N : Nat) (p0 : List UInt8) (s1 : Int × Int × Int × (List (Int × List UInt8)) × Nat) : Option ((Int × Int × Int × (List (Int × List UInt8)) × Nat) ⊕ ((Int × Int × (List (Int × List UInt8)) × Nat) ⊕ (Int × Int × (List (Int × List UInt8)) × Nat))) :=
 if (decide (s1.1 < (List.length p0 : Int))) = true then ((wire_Next N p0 s1.1).bind fun y1 => (if s1.2.2.2.2 = 0 then (if (y1.2.2 != 0) = true then (some (true, y1.2.2, s1.2.2.1, s1.2.2.2.1, 1)) else ((appendS 32 s1.2.2.2.1 ([(y1.1.1, y1.1.2)])).bind fun l2 => some (y1.2.2 != 0, s1.2.1, y1.2.1, l2, 0))) else none : Option (Bool × Int × Int × (List (Int × List UInt8)) × Nat)).bind fun o3 => if o3.1 = true then (some (.inr (.inr ((o3.2.1, o3.2.2.1, o3.2.2.2.1, o3.2.2.2.2))))) else (some (.inl (y1.2.1, o3.2.1, o3.2.2.1, o3.2.2.2.1, o3.2.2.2.2)))) else (some (.inr (.inl (s1.2.1, s1.2.2.1, s1.2.2.2.1, s1.2.2.2.2))))

def wire_Frames (N : Nat) (p0 : List UInt8) : Option ((List (Int × List UInt8)) × Int × Int) :=
 ((loopM (wire_Frames_L1 N p0) N (0, 0, 0, ([] : List (Int × List UInt8)), 0)).bind fun out1 => (match out1 with | .inl o2 => some (o2.1, o2.2.1, o2.2.2.1, o2.2.2.2) | .inr (z) => some z) : Option (Int × Int × (List (Int × List UInt8)) × Nat)).bind fun o1 => if o1.2.2.2 = 0 then (some (o1.2.2.1, o1.2.1, 0)) else (if o1.2.2.2 = 1 then (some (o1.2.2.1, o1.2.1, o1.1)) else none)

set_option maxHeartbeats 4000000 in
set_option maxRecDepth 100000 in
theorem wire_Frames_ok {N : Nat} {m : Mem} {own : List Piece} {w : World} {p0 : List UInt8} {a1 : Option Addr} {c1 : Nat} {r : (List (Int × List UInt8)) × Int × Int} (st : St m (own) w) (r1 : RepS cU8 m a1 c1 p0) (hr : wire_Frames N p0 = some r) : Calls Go.Proofs.Tryd.prog 78 #[.slice a1 (List.length p0) c1] w fun e w' => ∃ (ra1 : Option Addr) (rc1 : Nat) (m' : Mem), e = .returned (.tuple #[.slice ra1 (List.length r.1) rc1, .int .i64 r.2.1, .int .i64 r.2.2]) ∧ m.le m' ∧ St m' (.room ra1 (List.length r.1) rc1 86 2 :: own) w' ∧ RepS (cPair (cInt .i64) (cSl cU8)) m' ra1 rc1 r.1 := by
 unfold wire_Frames at hr
 have hm := m.le_refl
 refine W_callsM Go.Proofs.Tryd.func78 rfl Go.Proofs.Tryd.ntmps78 [(0, .slice a1 (List.length p0) c1)] (by kernel_rfl) rfl ?_
 refine W_sr ?_
 refine WO_one rfl (One_alloc (d := 2) (e := 94) (.slice none 0 0) (by kernel_rfl) rfl (by kernel_rfl) st ?_)
 clear st
 intro b1 w1 st
 refine WO_one rfl (One_alloc (d := 3) (e := 3) (.int .i64 0) (by kernel_rfl) rfl (by kernel_rfl) st ?_)
 clear st
 intro b2 w2 st
 refine WO_one rfl (One_alloc (d := 4) (e := 38) (.int .i64 0) (by kernel_rfl) rfl (by kernel_rfl) st ?_)
 clear st
 intro b3 w3 st
 refine WO_et rfl ?_
 refine W_seq ?_
 refine W_sr ?_
 refine WO_seg 1 [(7, .slice a1 (List.length p0) c1)] (by kernel_rfl) (by kernel_rfl) ?_
 refine WO_one rfl (One_fn 8 99 #[.slice a1 (List.length p0) c1] (by kernel_rfl) rfl ?_)
 refine W_calls Go.Proofs.Tryd.func99 rfl Go.Proofs.Tryd.ntmps99 [(0, .slice a1 (List.length p0) c1)] (by kernel_rfl) rfl ?_
 refine W_sr ?_
 refine WO_one rfl (One_box_own (d := 1) (e := 43) (x := (.tmp 0)) (.slice a1 (List.length p0) c1) (by kernel_rfl) rfl (by kernel_rfl) st ?_)
 clear st
 intro b4 w4 st
 refine WO_seg 1 [] (by kernel_rfl) (by kernel_rfl) ?_
 refine WO_et rfl ?_
 refine W_sr ?_
 refine WO_seg 2 [(2, .func (.func 114) #[] #[.pointer (some ⟨b4, 0, none⟩)])] (by kernel_rfl) (by kernel_rfl) ?_
 refine WO_et rfl ?_
 refine W_ret ?_
 refine X_ret [.tmp 2] [.func (.func 114) #[] #[.pointer (some ⟨b4, 0, none⟩)]] rfl (ResAll.cons (ResAt.tmp (by kernel_rfl)) ResAll.nil) ?_
 refine ⟨_, rfl, ?_⟩
 refine WO_et rfl ?_
 refine W_block ?_
 refine W_rangeFunc (f := 114) (cap := #[.pointer (some ⟨b4, 0, none⟩)]) [.ret] (by kernel_rfl) (enters_at Go.Proofs.Tryd.func114 (by kernel_rfl)) st ?_
 clear st
 intro q1 l1 w5 hpq1 haq1 hbq1 htq1 st
 replace hr := bindS hr
 obtain ⟨o1, hr, hrKu1⟩ := hr
 refine Calls_cut (fun v' w' => ∃ (a2 : Option Addr) (c2 : Nat) (m2 : Mem), v' = (.tuple #[]) ∧ m.le m2 ∧ St m2 (.blk b4 (.cells #[.slice a1 (List.length p0) c1] 43 (0, 0)) :: .blk b3 (.cells #[.int .i64 o1.1] 38 (0, 0)) :: .blk b2 (.cells #[.int .i64 o1.2.1] 3 (0, 0)) :: .blk b1 (.cells #[.slice a2 (List.length o1.2.2.1) c2] 94 (0, 0)) :: lpiece l1 q1 [.ret] o1.2.2.2 :: dpiece q1.D :: .room a2 (List.length o1.2.2.1) c2 86 2 :: own) w' ∧ RepS cU8 m2 a1 c1 p0 ∧ RepS (cPair (cInt .i64) (cSl cU8)) m2 a2 c2 o1.2.2.1) ?_ ?_
 ·clear hr st
  have hr := hrKu1
  clear hrKu1
  rintro _ w6 ⟨a2, c2, m2, rfl, hm, st, r1, r2⟩
  refine ⟨_, rfl, ?_⟩
  have st := st.front4
  by_cases hj2 : o1.2.2.2 = 0
  ·rw [if_pos hj2] at hr
   rw [hj2] at st
   refine After_none 0 st rfl ?_
   clear st
   intro w27 st
   refine X_block ?_
   refine X_then ?_
   refine W_seq ?_
   refine W_draw [(5, fun w' => Inv m2 w' ∧ True), (3, fun w' => Inv m2 w' ∧ Piece.holds m2 w' (.blk b2 (.cells #[.int .i64 o1.2.1] 3 (0, 0))) ∧ True), (2, fun w' => Inv m2 w' ∧ Piece.holds m2 w' (.blk b1 (.cells #[.slice a2 (List.length o1.2.2.1) c2] 94 (0, 0))) ∧ True)] (by kernel_rfl) st ?_
   clear st
   intro w28 _ st
   have hmS3 := m2.le_refl
   refine ⟨⟨.inr ⟨Inv.anti st.inv hmS3, trivial⟩, ⟨.inr ⟨Inv.anti st.inv hmS3, Piece.holds_anti st.tail.tail.head hmS3, trivial⟩, ⟨.inr ⟨Inv.anti st.inv hmS3, Piece.holds_anti st.tail.tail.tail.head hmS3, trivial⟩, trivial⟩⟩⟩, ?_⟩
   refine WA_load_own (t := 94) (x := (.tmp 2)) 0 23 (.slice a2 (List.length o1.2.2.1) c2) (by kernel_rfl) rfl (by kernel_rfl) (.tail _ (.tail _ (.head _))) (QP_then QP_bodyQ) (fun _ h => h.2.1) (show evL _ _ = some (.pointer (some ⟨b1, 0, none⟩)) from (by kernel_rfl)) (by kernel_rfl) ?_
   refine WA_load_own (t := 3) (x := (.tmp 3)) 1 24 (.int .i64 o1.2.1) (by kernel_rfl) rfl (by kernel_rfl) (.tail _ (.head _)) (QP_then QP_bodyQ) (fun _ h => h.2.1) (show evL _ _ = some (.pointer (some ⟨b2, 0, none⟩)) from (by kernel_rfl)) (by kernel_rfl) ?_
   have st := st.front3
   refine WA_one 2 (by kernel_rfl)  (One_store (t := 94) (x := (.tmp 2)) (y := (.tmp 23)) (v := .slice a2 (List.length o1.2.2.1) c2) (c' := #[.slice a2 (List.length o1.2.2.1) c2]) (by kernel_rfl) (show evL _ _ = some (.pointer (some ⟨b1, 0, none⟩)) from (by kernel_rfl)) (show evL _ _ = some (.slice a2 (List.length o1.2.2.1) c2) from (by kernel_rfl)) st (by kernel_rfl) (by kernel_rfl) ?_)
   clear st
   intro w29 st
   refine ⟨⟨.inr ⟨Inv.anti st.inv hmS3, trivial⟩, ⟨.inr ⟨Inv.anti st.inv hmS3, Piece.holds_anti st.tail.tail.tail.head hmS3, trivial⟩, ⟨.inl rfl, trivial⟩⟩⟩, ?_⟩
   have st := st.front3
   refine WA_one 3 (by kernel_rfl)  (One_store (t := 3) (x := (.tmp 3)) (y := (.tmp 24)) (v := .int .i64 o1.2.1) (c' := #[.int .i64 o1.2.1]) (by kernel_rfl) (show evL _ _ = some (.pointer (some ⟨b2, 0, none⟩)) from (by kernel_rfl)) (show evL _ _ = some (.int .i64 o1.2.1) from (by kernel_rfl)) st (by kernel_rfl) (by kernel_rfl) ?_)
   clear st
   intro w30 st
   refine ⟨⟨.inr ⟨Inv.anti st.inv hmS3, trivial⟩, ⟨.inl rfl, ⟨.inl rfl, trivial⟩⟩⟩, ?_⟩
   have st := st.front3
   refine WA_one 4 (by kernel_rfl)  (One_store (t := 38) (x := (.tmp 4)) (y := (.const (.int .i64 0))) (v := .int .i64 0) (c' := #[.int .i64 0]) (by kernel_rfl) (show evL _ _ = some (.pointer (some ⟨b3, 0, none⟩)) from (by kernel_rfl)) (show evL _ _ = some (.int .i64 0) from (by kernel_rfl)) st (by kernel_rfl) (by kernel_rfl) ?_)
   clear st
   intro w31 st
   refine ⟨⟨.inr ⟨Inv.anti st.inv hmS3, trivial⟩, ⟨.inl rfl, ⟨.inl rfl, trivial⟩⟩⟩, ?_⟩
   refine WA_done (by kernel_rfl) ?_
   refine X_then ?_
   refine W_ret ?_
   obtain rfl := Option.some.inj hr
   have st := st.front4
   refine X_take st ?_
   clear st
   intro w32 st
   refine X_retM [.cell 2 94, .cell 3 3, .cell 4 38] [.slice a2 (List.length o1.2.2.1) c2, .int .i64 o1.2.1, .int .i64 0] rfl (ResAll.cons (ResAt.blk (v := .slice a2 (List.length o1.2.2.1) c2) (o := 0) (by kernel_rfl) st.tail.tail.head (by kernel_rfl)) (ResAll.cons (ResAt.blk (v := .int .i64 o1.2.1) (o := 0) (by kernel_rfl) st.tail.head (by kernel_rfl)) (ResAll.cons (ResAt.blk (v := .int .i64 0) (o := 0) (by kernel_rfl) st.head (by kernel_rfl)) ResAll.nil))) ?_
   have st := st.tail
   have st := st.tail
   have st := st.tail
   have st := st.tail
   exact ⟨a2, c2, m2, rfl, hm, st, r2⟩
  ·rw [if_neg hj2] at hr
   by_cases hj3 : o1.2.2.2 = 1
   ·rw [if_pos hj3] at hr
    rw [hj3] at st
    refine After_some 1 st rfl ?_
    clear st
    intro w33 st
    refine W_ret ?_
    refine X_block_ret ?_
    refine X_then_ret ?_
    obtain rfl := Option.some.inj hr
    have st := st.front4
    refine X_take st ?_
    clear st
    intro w34 st
    refine X_retM [.cell 2 94, .cell 3 3, .cell 4 38] [.slice a2 (List.length o1.2.2.1) c2, .int .i64 o1.2.1, .int .i64 o1.1] rfl (ResAll.cons (ResAt.blk (v := .slice a2 (List.length o1.2.2.1) c2) (o := 0) (by kernel_rfl) st.tail.tail.tail.head (by kernel_rfl)) (ResAll.cons (ResAt.blk (v := .int .i64 o1.2.1) (o := 0) (by kernel_rfl) st.tail.tail.head (by kernel_rfl)) (ResAll.cons (ResAt.blk (v := .int .i64 o1.1) (o := 0) (by kernel_rfl) st.tail.head (by kernel_rfl)) ResAll.nil))) ?_
    have st := st.tail
    have st := st.tail
    have st := st.tail
    have st := st.tail
    exact ⟨a2, c2, m2, rfl, hm, st, r2⟩
   ·rw [if_neg hj3] at hr
    cases hr
 ·clear hrKu1
  refine W_calls Go.Proofs.Tryd.func114 rfl Go.Proofs.Tryd.ntmps114 [(0, .func (.yield l1) #[] #[]), (1, .pointer (some ⟨b4, 0, none⟩))] (by kernel_rfl) rfl ?_
  refine W_sr ?_
  refine WO_seg 1 [(3, .int .i64 0)] (by kernel_rfl) (by kernel_rfl) ?_
  refine WO_et rfl ?_
  refine W_block ?_
  replace hr := bindS hr
  obtain ⟨out1, hr, hrKu2⟩ := hr
  refine W_cut (.exit 0) (fun L' w' => ∃ (o2 : Int × Int × (List (Int × List UInt8)) × Nat) (a3 : Option Addr) (c3 : Nat) (m3 : Mem), (.inl o2) = out1 ∧ L' = [] ∧ m.le m3 ∧ St m3 (.blk b4 (.cells #[.slice a1 (List.length p0) c1] 43 (0, 0)) :: .blk b3 (.cells #[.int .i64 o2.1] 38 (0, 0)) :: .blk b2 (.cells #[.int .i64 o2.2.1] 3 (0, 0)) :: .blk b1 (.cells #[.slice a3 (List.length o2.2.2.1) c3] 94 (0, 0)) :: lpiece l1 q1 [.ret] o2.2.2.2 :: dpiece q1.D :: .room a3 (List.length o2.2.2.1) c3 86 2 :: own) w' ∧ RepS cU8 m3 a1 c1 p0 ∧ RepS (cPair (cInt .i64) (cSl cU8)) m3 a3 c3 o2.2.2.1) ?_ ?_
  ·clear hr st
   rintro _ w7 ⟨o2, a3, c3, m3, rfl, rfl, hm, st, r1, r3⟩
   have hr := hrKu2
   clear hrKu2
   dsimp only at hr
   refine X_block_eq ?_
   obtain rfl := Option.some.inj hr
   refine X_fall [] [] rfl ResAll.nil ?_
   have st := st.front6
   have st := st.front6
   have st := st.front6
   have st := st.front6
   have st := st.front6
   have st := st.front6
   have st := st.front6
   exact ⟨_, rfl, ⟨a3, c3, m3, rfl, hm, st, r1, r3⟩⟩
  intro K0_u2
  have st := st.nilroom 86 2
  have st := st.front2
  have st := st.front2
  have st := st.front6
  have st := st.front6
  have st := st.front6
  have st := st.front6
  refine W_env _ (by kernel_rfl) (W_loop (fun k1 L' w' => ∃ (s1 : Int × Int × Int × (List (Int × List UInt8)) × Nat) (a4 : Option Addr) (c4 : Nat) (m4 : Mem), loopM (wire_Frames_L1 N p0) k1 s1 = some out1 ∧ L' = [(0, .func (.yield l1) #[] #[]), (1, .pointer (some ⟨b4, 0, none⟩)), (3, .int .i64 s1.1)] ∧ m.le m4 ∧ St m4 (.blk b4 (.cells #[.slice a1 (List.length p0) c1] 43 (0, 0)) :: .blk b3 (.cells #[.int .i64 s1.2.1] 38 (0, 0)) :: .blk b2 (.cells #[.int .i64 s1.2.2.1] 3 (0, 0)) :: .blk b1 (.cells #[.slice a4 (List.length s1.2.2.2.1) c4] 94 (0, 0)) :: lpiece l1 q1 [.ret] s1.2.2.2.2 :: dpiece q1.D :: .room a4 (List.length s1.2.2.2.1) c4 86 2 :: own) w' ∧ RepS cU8 m4 a1 c1 p0 ∧ RepS (cPair (cInt .i64) (cSl cU8)) m4 a4 c4 s1.2.2.2.1) N ⟨(0, 0, 0, ([] : List (Int × List UInt8)), 0), none, 0, m, hr, rfl, hm, st, r1, (RepS.nil _ _)⟩ ?_)
  clear st hr
  rintro k1 _ w8 ⟨s1, a4, c4, m4, hL, rfl, hm, st, r1, r4⟩
  rcases k1 with _ | k1
  ·exact loopM_zero hL
  ·obtain ⟨qu2, hr, hSu2, hBu2⟩ := loopM_succ hL
   clear hL
   unfold wire_Frames_L1 at hr
   refine W_seq ?_
   refine W_sr ?_
   refine WO_seg 1 [(7, .int .i64 s1.1)] (by kernel_rfl) (by kernel_rfl) ?_
   refine WO_one rfl (One_load_own (d := 8) (t := 43) (x := (.tmp 1)) (.slice a1 (List.length p0) c1) (by kernel_rfl) rfl (show evL _ _ = some (.pointer (some ⟨b4, 0, none⟩)) from (by kernel_rfl)) st.head (by kernel_rfl) ?_)
   refine WO_seg 2 [(10, .bool (decide (s1.1 < (List.length p0 : Int))))] (by kernel_rfl) (by kernel_rfl) ?_
   refine WO_et rfl ?_
   refine W_cond (decide (s1.1 < (List.length p0 : Int))) (by kernel_rfl) ?_ ?_
   ·intro hc
    rw [if_pos hc] at hr
    refine W_skip ?_
    refine X_then ?_
    refine W_block ?_
    refine W_sr ?_
    refine WO_one rfl (One_load_own (d := 12) (t := 43) (x := (.tmp 1)) (.slice a1 (List.length p0) c1) (by kernel_rfl) rfl (show evL _ _ = some (.pointer (some ⟨b4, 0, none⟩)) from (by kernel_rfl)) st.head (by kernel_rfl) ?_)
    refine WO_seg 1 [(13, .int .i64 s1.1)] (by kernel_rfl) (by kernel_rfl) ?_
    replace hr := bindS hr
    obtain ⟨y1, hx1, hr⟩ := hr
    refine WO_one rfl (One_fn 14 115 #[.slice a1 (List.length p0) c1, .int .i64 s1.1] (by kernel_rfl) rfl ?_)
    refine (wire_Next_ok st r1 hx1).mono ?_
    clear st
    rintro _ w9 ⟨a5, c5, m5, rfl, hle2, st, r5⟩
    refine ⟨_, rfl, ?_⟩
    have hm := Mem.le_trans hm hle2
    have r1 := r1.mono hle2
    have r4 := r4.mono hle2
    refine WO_seg 4 [(15, .agg #[.int .i64 y1.1.1, .slice a5 (List.length y1.1.2) c5]), (16, .int .i64 y1.2.1), (17, .int .i64 y1.2.2)] (by kernel_rfl) (by kernel_rfl) ?_
    refine WO_one rfl (One_alloc (d := 4) (e := 86) (.agg #[.int .i64 0, .slice none 0 0]) (by kernel_rfl) rfl (by kernel_rfl) st ?_)
    clear st
    intro b5 w10 st
    refine WO_one rfl (One_store (t := 86) (x := (.tmp 4)) (y := (.tmp 15)) (v := .agg #[.int .i64 y1.1.1, .slice a5 (List.length y1.1.2) c5]) (c' := #[.int .i64 y1.1.1, .slice a5 (List.length y1.1.2) c5]) (by kernel_rfl) (show evL _ _ = some (.pointer (some ⟨b5, 0, none⟩)) from (by kernel_rfl)) (show evL _ _ = some (.agg #[.int .i64 y1.1.1, .slice a5 (List.length y1.1.2) c5]) from (by kernel_rfl)) st (by kernel_rfl) (by kernel_rfl) ?_)
    clear st
    intro w11 st
    refine WO_seg 2 [(5, .int .i64 y1.2.1), (6, .int .i64 y1.2.2)] (by kernel_rfl) (by kernel_rfl) ?_
    refine WO_et rfl ?_
    refine W_seq ?_
    refine W_sr ?_
    replace hr := bindS hr
    obtain ⟨o3, hr, hrK⟩ := hr
    refine WO_cut (j := 11) (fun L' w' => ∃ (a6 : Option Addr) (c6 : Nat) (m6 : Mem), L' = [(0, .func (.yield l1) #[] #[]), (1, .pointer (some ⟨b4, 0, none⟩)), (5, .int .i64 y1.2.1), (28, .bool o3.1)] ∧ m.le m6 ∧ St m6 (.blk b5 (.cells #[.int .i64 y1.1.1, .slice a5 (List.length y1.1.2) c5] 86 (0, 0)) :: .blk b4 (.cells #[.slice a1 (List.length p0) c1] 43 (0, 0)) :: .blk b3 (.cells #[.int .i64 o3.2.1] 38 (0, 0)) :: .blk b2 (.cells #[.int .i64 o3.2.2.1] 3 (0, 0)) :: .blk b1 (.cells #[.slice a6 (List.length o3.2.2.2.1) c6] 94 (0, 0)) :: lpiece l1 q1 [.ret] o3.2.2.2.2 :: dpiece q1.D :: .room a5 (List.length y1.1.2) c5 5 1 :: .room a6 (List.length o3.2.2.2.1) c6 86 2 :: own) w' ∧ RepS cU8 m6 a5 c5 y1.1.2 ∧ RepS cU8 m6 a1 c1 p0 ∧ RepS (cPair (cInt .i64) (cSl cU8)) m6 a6 c6 o3.2.2.2.1) ?_ ?_
    ·clear hr st
     have hr := hrK
     clear hrK
     rintro _ w12 ⟨a6, c6, m6, rfl, hm, st, r5, r1, r6⟩
     refine WO_et rfl ?_
     refine W_cond o3.1 (by kernel_rfl) ?_ ?_
     ·intro hc
      rw [if_pos hc] at hr
      refine W_ret ?_
      refine X_then_ret ?_
      refine X_block_ret ?_
      obtain rfl := Option.some.inj hr
      have ho := hBu2 _ rfl
      subst ho
      have hr := hrKu2
      dsimp only at hr
      refine X_then_ret ?_
      refine X_block_ret ?_
      obtain rfl := Option.some.inj hr
      refine X_ret [] [] rfl ResAll.nil ?_
      have st := st.tail
      have st := st.front6
      have st := st.tail
      have st := st.front6
      have st := st.front6
      have st := st.front6
      have st := st.front6
      have st := st.front6
      have st := st.front6
      have st := st.front6
      exact ⟨_, rfl, ⟨a6, c6, m6, rfl, hm, st, r1, r6⟩⟩
     ·intro hc
      rw [if_neg (not_true hc)] at hr
      refine W_skip ?_
      refine X_then ?_
      refine W_region ?_
      refine WO_seg 2 [(3, .int .i64 y1.2.1)] (by kernel_rfl) (by kernel_rfl) ?_
      refine WO_end rfl ?_
      refine X_block ?_
      obtain rfl := Option.some.inj hr
      have hL := hSu2 _ rfl
      have st := st.tail
      have st := st.front6
      have st := st.tail
      have st := st.front6
      have st := st.front6
      have st := st.front6
      have st := st.front6
      have st := st.front6
      have st := st.front6
      have st := st.front6
      exact X_env _ (by kernel_rfl) (X_round k1 (Nat.lt_succ_self _) ⟨(y1.2.1, o3.2.1, o3.2.2.1, o3.2.2.2.1, o3.2.2.2.2), a6, c6, m6, hL, rfl, hm, st, r1, r6⟩)
    ·intro K
     clear hrK
     refine WO_seg 1 [(18, .func (.yield l1) #[] #[])] (by kernel_rfl) (by kernel_rfl) ?_
     refine WO_one rfl (One_load_own (d := 19) (t := 86) (x := (.tmp 4)) (.agg #[.int .i64 y1.1.1, .slice a5 (List.length y1.1.2) c5]) (by kernel_rfl) rfl (show evL _ _ = some (.pointer (some ⟨b5, 0, none⟩)) from (by kernel_rfl)) st.head (by kernel_rfl) ?_)
     refine WO_seg 3 [(21, .agg #[.int .i64 y1.1.1, .slice a5 (List.length y1.1.2) c5, .int .i64 y1.2.1]), (22, .int .i64 y1.2.2)] (by kernel_rfl) (by kernel_rfl) ?_
     have st := st.front6
     by_cases hj1 : s1.2.2.2.2 = 0
     ·rw [if_pos hj1] at hr
      rw [hj1] at st
      refine WO_one rfl (One_yield (d := 23) (l := l1) (x := (.tmp 18)) (xs := #[(.tmp 21), (.tmp 22)]) (ts := #[120, 38]) [.agg #[.int .i64 y1.1.1, .slice a5 (List.length y1.1.2) c5, .int .i64 y1.2.1], .int .i64 y1.2.2] (by kernel_rfl) rfl (show evL _ _ = some (.func (.yield l1) #[] #[]) from (by kernel_rfl)) (by kernel_rfl) htq1 hpq1 haq1 hbq1 rfl (by kernel_rfl) st ?_)
      intro R1 hR1
      refine W_seq ?_
      refine W_regionR rfl ?_
      refine WO_one rfl (One_alloc (d := 5) (e := 120) (.agg #[.int .i64 0, .slice none 0 0, .int .i64 0]) (by kernel_rfl) rfl (by kernel_rfl) st ?_)
      clear st
      intro b6 w13 st
      refine WO_one rfl (One_store (t := 120) (x := (.tmp 5)) (y := (.tmp 9)) (v := .agg #[.int .i64 y1.1.1, .slice a5 (List.length y1.1.2) c5, .int .i64 y1.2.1]) (c' := #[.int .i64 y1.1.1, .slice a5 (List.length y1.1.2) c5, .int .i64 y1.2.1]) (by kernel_rfl) (show evL _ _ = some (.pointer (some ⟨b6, 0, none⟩)) from (by kernel_rfl)) (show evL _ _ = some (.agg #[.int .i64 y1.1.1, .slice a5 (List.length y1.1.2) c5, .int .i64 y1.2.1]) from (by kernel_rfl)) st (by kernel_rfl) (by kernel_rfl) ?_)
      clear st
      intro w14 st
      refine WO_et rfl ?_
      refine W_regionR rfl ?_
      refine WO_seg 1 [(6, .int .i64 y1.2.2)] (by kernel_rfl) (by kernel_rfl) ?_
      refine WO_end rfl ?_
      have st := st.front1
      refine X_begin st ?_
      clear st
      intro w15 st
      refine W_block ?_
      refine W_seq ?_
      refine W_seq ?_
      refine W_regionR rfl ?_
      refine WO_seg 2 [(12, .bool (y1.2.2 != 0))] (by kernel_rfl) (by kernel_rfl) ?_
      refine WO_et rfl ?_
      refine W_cond (y1.2.2 != 0) (by kernel_rfl) ?_ ?_
      ·intro hc
       rw [if_pos hc] at hr
       refine W_seq ?_
       refine W_drawR rfl [(6, fun w' => Inv m5 w' ∧ True), (4, fun w' => Inv m5 w' ∧ Piece.holds m5 w' (.blk b2 (.cells #[.int .i64 s1.2.2.1] 3 (0, 0))) ∧ True), (3, fun w' => Inv m5 w' ∧ Piece.holds m5 w' (.blk b1 (.cells #[.slice a4 (List.length s1.2.2.2.1) c4] 94 (0, 0))) ∧ True)] (by kernel_rfl) st ?_
       clear st
       intro w16 _ st
       have hmS1 := m5.le_refl
       refine ⟨⟨.inr ⟨Inv.anti st.inv hmS1, trivial⟩, ⟨.inr ⟨Inv.anti st.inv hmS1, Piece.holds_anti st.tail.tail.tail.tail.tail.tail.head hmS1, trivial⟩, ⟨.inr ⟨Inv.anti st.inv hmS1, Piece.holds_anti st.tail.tail.tail.tail.tail.tail.tail.head hmS1, trivial⟩, trivial⟩⟩⟩, ?_⟩
       refine WA_load_own (t := 94) (x := (.tmp 2)) 0 13 (.slice a4 (List.length s1.2.2.2.1) c4) (by kernel_rfl) rfl (by kernel_rfl) (.tail _ (.tail _ (.head _))) (QP_then (QP_then (QP_block QP_round))) (fun _ h => h.2.1) (show evL _ _ = some (.pointer (some ⟨b1, 0, none⟩)) from (by kernel_rfl)) (by kernel_rfl) ?_
       refine WA_load_own (t := 3) (x := (.tmp 3)) 1 14 (.int .i64 s1.2.2.1) (by kernel_rfl) rfl (by kernel_rfl) (.tail _ (.head _)) (QP_then (QP_then (QP_block QP_round))) (fun _ h => h.2.1) (show evL _ _ = some (.pointer (some ⟨b2, 0, none⟩)) from (by kernel_rfl)) (by kernel_rfl) ?_
       refine WA_pure 2 15 (.int .i64 y1.2.2) (by kernel_rfl) rfl (by kernel_rfl) (.head _) (QP_then (QP_then (QP_block QP_round))) ?_
       have st := st.front7
       refine WA_one 3 (by kernel_rfl)  (One_store (t := 94) (x := (.tmp 2)) (y := (.tmp 13)) (v := .slice a4 (List.length s1.2.2.2.1) c4) (c' := #[.slice a4 (List.length s1.2.2.2.1) c4]) (by kernel_rfl) (show evL _ _ = some (.pointer (some ⟨b1, 0, none⟩)) from (by kernel_rfl)) (show evL _ _ = some (.slice a4 (List.length s1.2.2.2.1) c4) from (by kernel_rfl)) st (by kernel_rfl) (by kernel_rfl) ?_)
       clear st
       intro w17 st
       refine ⟨⟨.inr ⟨Inv.anti st.inv hmS1, trivial⟩, ⟨.inr ⟨Inv.anti st.inv hmS1, Piece.holds_anti st.tail.tail.tail.tail.tail.tail.tail.head hmS1, trivial⟩, ⟨.inl rfl, trivial⟩⟩⟩, ?_⟩
       have st := st.front7
       refine WA_one 4 (by kernel_rfl)  (One_store (t := 3) (x := (.tmp 3)) (y := (.tmp 14)) (v := .int .i64 s1.2.2.1) (c' := #[.int .i64 s1.2.2.1]) (by kernel_rfl) (show evL _ _ = some (.pointer (some ⟨b2, 0, none⟩)) from (by kernel_rfl)) (show evL _ _ = some (.int .i64 s1.2.2.1) from (by kernel_rfl)) st (by kernel_rfl) (by kernel_rfl) ?_)
       clear st
       intro w18 st
       refine ⟨⟨.inr ⟨Inv.anti st.inv hmS1, trivial⟩, ⟨.inl rfl, ⟨.inl rfl, trivial⟩⟩⟩, ?_⟩
       have st := st.front7
       refine WA_one 5 (by kernel_rfl)  (One_store (t := 38) (x := (.tmp 4)) (y := (.tmp 15)) (v := .int .i64 y1.2.2) (c' := #[.int .i64 y1.2.2]) (by kernel_rfl) (show evL _ _ = some (.pointer (some ⟨b3, 0, none⟩)) from (by kernel_rfl)) (show evL _ _ = some (.int .i64 y1.2.2) from (by kernel_rfl)) st (by kernel_rfl) (by kernel_rfl) ?_)
       clear st
       intro w19 st
       refine ⟨⟨.inr ⟨Inv.anti st.inv hmS1, trivial⟩, ⟨.inl rfl, ⟨.inl rfl, trivial⟩⟩⟩, ?_⟩
       refine WA_done (by kernel_rfl) ?_
       refine X_then ?_
       refine W_ret ?_
       refine X_then_ret ?_
       refine X_block_ret ?_
       have st := st.front3
       refine X_roundR [.ret] 0 rfl st ?_
       clear st
       intro w20 st
       refine hR1 false _ ?_
       refine WO_seg 5 [(28, .bool true)] (by kernel_rfl) (by kernel_rfl) ?_
       obtain rfl := Option.some.inj hr
       have st := st.front4
       have st := st.tail
       have st := st.front8
       have st := st.front6
       have st := st.front8
       have st := st.front3
       have st := st.front6
       have st := st.front6
       have st := st.front6
       have st := st.front8
       have st := st.front8
       exact WO_env _ (by kernel_rfl) (K _ _ ⟨a4, c4, m5, rfl, hm, st, r5, r1, r4⟩)
      ·intro hc
       rw [if_neg (not_true hc)] at hr
       refine W_skip ?_
       refine X_then ?_
       refine W_drawR rfl [(9, fun w' => Inv m5 w' ∧ Piece.holds m5 w' (.blk b6 (.cells #[.int .i64 y1.1.1, .slice a5 (List.length y1.1.2) c5, .int .i64 y1.2.1] 120 (0, 0))) ∧ True), (7, fun w' => Inv m5 w' ∧ Piece.holds m5 w' (.blk b1 (.cells #[.slice a4 (List.length s1.2.2.2.1) c4] 94 (0, 0))) ∧ True)] (by kernel_rfl) st ?_
       clear st
       intro w21 _ st
       have hmS2 := m5.le_refl
       refine ⟨⟨.inr ⟨Inv.anti st.inv hmS2, Piece.holds_anti st.tail.head hmS2, trivial⟩, ⟨.inr ⟨Inv.anti st.inv hmS2, Piece.holds_anti st.tail.tail.tail.tail.tail.tail.tail.head hmS2, trivial⟩, trivial⟩⟩, ?_⟩
       refine WA_load_own (t := 94) (x := (.tmp 2)) 0 16 (.slice a4 (List.length s1.2.2.2.1) c4) (by kernel_rfl) rfl (by kernel_rfl) (.tail _ (.head _)) (QP_block QP_round) (fun _ h => h.2.1) (show evL _ _ = some (.pointer (some ⟨b1, 0, none⟩)) from (by kernel_rfl)) (by kernel_rfl) ?_
       refine WA_pure 1 17 (.pointer (some ⟨b6, 0, none⟩)) (by kernel_rfl) rfl (by kernel_rfl) (.head _) (QP_block QP_round) ?_
       refine WA_load_own (t := 86) (x := (.tmp 17)) 2 18 (.agg #[.int .i64 y1.1.1, .slice a5 (List.length y1.1.2) c5]) (by kernel_rfl) rfl (by kernel_rfl) (.head _) (QP_block QP_round) (fun _ h => h.2.1) (show evL _ _ = some (.pointer (some ⟨b6, 0, none⟩)) from (by kernel_rfl)) (by kernel_rfl) ?_
       refine WA_pure 5 21 (.pointer (some ⟨b6, 2, none⟩)) (by kernel_rfl) rfl (by kernel_rfl) (.head _) (QP_block QP_round) ?_
       refine WA_load_own (t := 3) (x := (.tmp 21)) 6 22 (.int .i64 y1.2.1) (by kernel_rfl) rfl (by kernel_rfl) (.head _) (QP_block QP_round) (fun _ h => h.2.1) (show evL _ _ = some (.pointer (some ⟨b6, 2, none⟩)) from (by kernel_rfl)) (by kernel_rfl) ?_
       refine WA_one 3 (by kernel_rfl)  (One_buildSlice (d := 19) (t := 94) (e := 86) (len := 1) (parts := #[(0, (.tmp 18))]) (cPair (cInt .i64) (cSl cU8)) (xs := [(y1.1.1, y1.1.2)]) [.int .i64 y1.1.1, .slice a5 (List.length y1.1.2) c5] (by kernel_rfl) rfl (fun _ => buildCells_run (by kernel_rfl) _) rfl rfl st ⟨[.int .i64 y1.1.1, .slice a5 (List.length y1.1.2) c5], _, rfl, ⟨_, _, rfl, rfl, (cSl_mk r5)⟩, rfl⟩ ?_)
       clear st
       intro b7 m7 w22 hle3 st r7
       have hm := Mem.le_trans hm hle3
       have r4 := r4.mono hle3
       have r5 := r5.mono hle3
       have r1 := r1.mono hle3
       have hmS2 := Mem.le_trans hmS2 hle3
       refine ⟨⟨.inr ⟨Inv.anti st.inv hmS2, Piece.holds_anti st.tail.tail.head hmS2, trivial⟩, ⟨.inr ⟨Inv.anti st.inv hmS2, Piece.holds_anti st.tail.tail.tail.tail.tail.tail.tail.tail.head hmS2, trivial⟩, trivial⟩⟩, ?_⟩
       have st := st.front10
       replace hr := bindS hr
       obtain ⟨l2, hx2, hr⟩ := hr
       refine WA_one 4 (by kernel_rfl)  (One_append (d := 20) (t := 94) (u := 94) (e := 86) (by_ := 32) (x := (.tmp 16)) (y := (.tmp 19)) (cPair (cInt .i64) (cSl cU8)) (by kernel_rfl) rfl (show evL _ _ = some (.slice a4 (List.length s1.2.2.2.1) c4) from (by kernel_rfl)) (show evL _ _ = some (.slice (some ⟨b7, 0, none⟩) (List.length ([(y1.1.1, y1.1.2)])) 1) from (by kernel_rfl)) st (by kernel_rfl) (.inl (by kernel_rfl)) r4 r7.src hx2 ?_)
       clear st
       intro a7 c7 m8 w23 hle4 st r8
       have hm := Mem.le_trans hm hle4
       have r4 := r4.mono hle4
       have r5 := r5.mono hle4
       have r7 := r7.mono hle4
       have r1 := r1.mono hle4
       have hmS2 := Mem.le_trans hmS2 hle4
       refine ⟨⟨.inr ⟨Inv.anti st.inv hmS2, Piece.holds_anti st.tail.tail.tail.head hmS2, trivial⟩, ⟨.inr ⟨Inv.anti st.inv hmS2, Piece.holds_anti st.tail.tail.tail.tail.tail.tail.tail.tail.tail.head hmS2, trivial⟩, trivial⟩⟩, ?_⟩
       have st := st.front9
       refine WA_one 7 (by kernel_rfl)  (One_store (t := 94) (x := (.tmp 2)) (y := (.tmp 20)) (v := .slice a7 (List.length l2) c7) (c' := #[.slice a7 (List.length l2) c7]) (by kernel_rfl) (show evL _ _ = some (.pointer (some ⟨b1, 0, none⟩)) from (by kernel_rfl)) (show evL _ _ = some (.slice a7 (List.length l2) c7) from (by kernel_rfl)) st (by kernel_rfl) (by kernel_rfl) ?_)
       clear st
       intro w24 st
       refine ⟨⟨.inr ⟨Inv.anti st.inv hmS2, Piece.holds_anti st.tail.tail.tail.tail.head hmS2, trivial⟩, ⟨.inl rfl, trivial⟩⟩, ?_⟩
       have st := st.front9
       refine WA_one 8 (by kernel_rfl)  (One_store (t := 3) (x := (.tmp 3)) (y := (.tmp 22)) (v := .int .i64 y1.2.1) (c' := #[.int .i64 y1.2.1]) (by kernel_rfl) (show evL _ _ = some (.pointer (some ⟨b2, 0, none⟩)) from (by kernel_rfl)) (show evL _ _ = some (.int .i64 y1.2.1) from (by kernel_rfl)) st (by kernel_rfl) (by kernel_rfl) ?_)
       clear st
       intro w25 st
       refine ⟨⟨.inr ⟨Inv.anti st.inv hmS2, Piece.holds_anti st.tail.tail.tail.tail.tail.head hmS2, trivial⟩, ⟨.inl rfl, trivial⟩⟩, ?_⟩
       refine WA_done (by kernel_rfl) ?_
       have st := st.front3
       have st := st.tail
       refine X_block ?_
       have st := st.front3
       refine X_roundN [.ret] st ?_
       clear st
       intro w26 st
       refine hR1 true _ ?_
       refine WO_seg 5 [(28, .bool (y1.2.2 != 0))] (by kernel_rfl) (by kernel_rfl) ?_
       obtain rfl := Option.some.inj hr
       have st := st.front4
       have st := st.tail
       have st := st.front3
       have st := st.front5
       have st := st.front8
       have st := st.front3
       have st := st.front5
       have st := st.front5
       have st := st.front8
       have st := st.front8
       have st := st.front8
       exact WO_env _ (by kernel_rfl) (K _ _ ⟨a7, c7, m8, rfl, hm, st, r5, r1, r8⟩)
     ·rw [if_neg hj1] at hr
      cases hr
   ·intro hc
    rw [if_neg (not_true hc)] at hr
    refine W_exit ?_
    refine X_then_exit ?_
    obtain rfl := Option.some.inj hr
    have ho := hBu2 _ rfl
    have st := st.front6
    have st := st.front6
    have st := st.front6
    have st := st.front6
    have st := st.front6
    have st := st.front6
    have st := st.front6
    refine X_then_exit ?_
    exact X_env _ (by kernel_rfl) (K0_u2 _ _ ⟨(s1.2.1, s1.2.2.1, s1.2.2.2.1, s1.2.2.2.2), a4, c4, m4, ho, rfl, hm, st, r1, r4⟩)

def wire_Text (N : Nat) (p0 : List UInt8) (p1 : Int) (p2 : Int) : Option (ByteArray × Int × Int) :=
 (wire_Uint N p0 p1).bind fun y1 => if (y1.2.2 != 0) = true then (some ((⟨#[]⟩ : ByteArray), 0, y1.2.2)) else ((if (decide (p2 < 0)) = true then (some true) else (some (decide (y1.1 > (IntKind.wrap .u64 p2)))) : Option (Bool)).bind fun o1 => if o1 = true then (some ((⟨#[]⟩ : ByteArray), 0, 2)) else (if (decide (y1.1 > (IntKind.wrap .u64 (IntKind.wrap .i64 ((List.length p0 : Int) - y1.2.1))))) = true then (some ((⟨#[]⟩ : ByteArray), 0, 7)) else ((subS p0 y1.2.1 (IntKind.wrap .i64 (y1.2.1 + (IntKind.wrap .i64 y1.1)))).bind fun l1 => some (strOf l1, IntKind.wrap .i64 (y1.2.1 + (IntKind.wrap .i64 y1.1)), 0))))

set_option maxHeartbeats 4000000 in
set_option maxRecDepth 100000 in
theorem wire_Text_ok {N : Nat} {m : Mem} {own : List Piece} {w : World} {p0 : List UInt8} {p1 : Int} {p2 : Int} {a1 : Option Addr} {c1 : Nat} {r : ByteArray × Int × Int} (st : St m (own) w) (r1 : RepS cU8 m a1 c1 p0) (hr : wire_Text N p0 p1 p2 = some r) : Calls Go.Proofs.Tryd.prog 100 #[.slice a1 (List.length p0) c1, .int .i64 p1, .int .i64 p2] w fun e w' => ∃ (m' : Mem), e = .returned (.tuple #[.string r.1, .int .i64 r.2.1, .int .i64 r.2.2]) ∧ m.le m' ∧ St m' (own) w' := by
 unfold wire_Text at hr
 have hm := m.le_refl
 refine W_calls Go.Proofs.Tryd.func100 rfl Go.Proofs.Tryd.ntmps100 [(0, .slice a1 (List.length p0) c1), (1, .int .i64 p1), (2, .int .i64 p2)] (by kernel_rfl) rfl ?_
 refine W_sr ?_
 refine WO_seg 3 [] (by kernel_rfl) (by kernel_rfl) ?_
 refine WO_et rfl ?_
 refine W_sr ?_
 refine WO_seg 2 [(12, .slice a1 (List.length p0) c1), (13, .int .i64 p1)] (by kernel_rfl) (by kernel_rfl) ?_
 replace hr := bindS hr
 obtain ⟨y1, hx1, hr⟩ := hr
 refine WO_one rfl (One_fn 14 101 #[.slice a1 (List.length p0) c1, .int .i64 p1] (by kernel_rfl) rfl ?_)
 refine (wire_Uint_ok st r1 hx1).mono ?_
 clear st
 rintro _ w1 ⟨m1, rfl, hle1, st⟩
 refine ⟨_, rfl, ?_⟩
 have hm := Mem.le_trans hm hle1
 have r1 := r1.mono hle1
 refine WO_seg 7 [(9, .int .u64 y1.1), (7, .int .i64 y1.2.1), (8, .int .i64 y1.2.2)] (by kernel_rfl) (by kernel_rfl) ?_
 refine WO_et rfl ?_
 refine W_seq ?_
 refine W_block ?_
 refine W_sr ?_
 refine WO_seg 3 [(18, .bool (y1.2.2 != 0))] (by kernel_rfl) (by kernel_rfl) ?_
 refine WO_et rfl ?_
 refine W_cond (y1.2.2 != 0) (by kernel_rfl) ?_ ?_
 ·intro hc
  rw [if_pos hc] at hr
  refine W_sr ?_
  refine WO_seg 4 [(6, .string (⟨#[]⟩ : ByteArray)), (7, .int .i64 0), (8, .int .i64 y1.2.2)] (by kernel_rfl) (by kernel_rfl) ?_
  refine WO_et rfl ?_
  refine W_ret ?_
  refine X_block_ret ?_
  refine X_then_ret ?_
  obtain rfl := Option.some.inj hr
  refine X_ret [.tmp 6, .tmp 7, .tmp 8] [.string (⟨#[]⟩ : ByteArray), .int .i64 0, .int .i64 y1.2.2] rfl (ResAll.cons (ResAt.tmp (by kernel_rfl)) (ResAll.cons (ResAt.tmp (by kernel_rfl)) (ResAll.cons (ResAt.tmp (by kernel_rfl)) ResAll.nil))) ?_
  exact ⟨m1, rfl, hm, st⟩
 ·intro hc
  rw [if_neg (not_true hc)] at hr
  refine W_sr ?_
  replace hr := bindS hr
  obtain ⟨o1, hr, hrK⟩ := hr
  refine WO_cut (j := 9) (fun L' w' => ∃ (m2 : Mem), L' = [(0, .slice a1 (List.length p0) c1), (7, .int .i64 y1.2.1), (9, .int .u64 y1.1), (22, .bool o1)] ∧ m.le m2 ∧ St m2 (own) w' ∧ RepS cU8 m2 a1 c1 p0) ?_ ?_
  ·clear hr st
   have hr := hrK
   clear hrK
   rintro _ w2 ⟨m2, rfl, hm, st, r1⟩
   refine WO_et rfl ?_
   refine W_cond o1 (by kernel_rfl) ?_ ?_
   ·intro hc
    rw [if_pos hc] at hr
    refine W_sr ?_
    refine WO_seg 3 [(6, .string (⟨#[]⟩ : ByteArray)), (7, .int .i64 0), (8, .int .i64 2)] (by kernel_rfl) (by kernel_rfl) ?_
    refine WO_et rfl ?_
    refine W_ret ?_
    refine X_block_ret ?_
    refine X_then_ret ?_
    obtain rfl := Option.some.inj hr
    refine X_ret [.tmp 6, .tmp 7, .tmp 8] [.string (⟨#[]⟩ : ByteArray), .int .i64 0, .int .i64 2] rfl (ResAll.cons (ResAt.tmp (by kernel_rfl)) (ResAll.cons (ResAt.tmp (by kernel_rfl)) (ResAll.cons (ResAt.tmp (by kernel_rfl)) ResAll.nil))) ?_
    exact ⟨m2, rfl, hm, st⟩
   ·intro hc
    rw [if_neg (not_true hc)] at hr
    refine W_sr ?_
    refine WO_seg 8 [(31, .bool (decide (y1.1 > (IntKind.wrap .u64 (IntKind.wrap .i64 ((List.length p0 : Int) - y1.2.1))))))] (by kernel_rfl) (by kernel_rfl) ?_
    refine WO_et rfl ?_
    refine W_cond (decide (y1.1 > (IntKind.wrap .u64 (IntKind.wrap .i64 ((List.length p0 : Int) - y1.2.1))))) (by kernel_rfl) ?_ ?_
    ·intro hc
     rw [if_pos hc] at hr
     refine W_sr ?_
     refine WO_seg 3 [(6, .string (⟨#[]⟩ : ByteArray)), (7, .int .i64 0), (8, .int .i64 7)] (by kernel_rfl) (by kernel_rfl) ?_
     refine WO_et rfl ?_
     refine W_ret ?_
     refine X_block_ret ?_
     refine X_then_ret ?_
     obtain rfl := Option.some.inj hr
     refine X_ret [.tmp 6, .tmp 7, .tmp 8] [.string (⟨#[]⟩ : ByteArray), .int .i64 0, .int .i64 7] rfl (ResAll.cons (ResAt.tmp (by kernel_rfl)) (ResAll.cons (ResAt.tmp (by kernel_rfl)) (ResAll.cons (ResAt.tmp (by kernel_rfl)) ResAll.nil))) ?_
     exact ⟨m2, rfl, hm, st⟩
    ·intro hc
     rw [if_neg (not_true hc)] at hr
     refine W_skip ?_
     refine X_block ?_
     refine X_then ?_
     refine W_sr ?_
     refine WO_seg 5 [(10, .int .i64 (IntKind.wrap .i64 (y1.2.1 + (IntKind.wrap .i64 y1.1))))] (by kernel_rfl) (by kernel_rfl) ?_
     refine WO_et rfl ?_
     refine W_sr ?_
     refine WO_seg 3 [(43, .slice a1 (List.length p0) c1), (44, .int .i64 y1.2.1), (45, .int .i64 (IntKind.wrap .i64 (y1.2.1 + (IntKind.wrap .i64 y1.1))))] (by kernel_rfl) (by kernel_rfl) ?_
     replace hr := bindS hr
     obtain ⟨l1, hx2, hr⟩ := hr
     refine WO_one rfl (One_slice (d := 46) (t := 43) (e := 5) (x := (.tmp 43)) (lo := (some (.tmp 44))) (hi := (some (.tmp 45))) cU8 (by kernel_rfl) rfl (show evL _ _ = some (.slice a1 (List.length p0) c1) from (by kernel_rfl)) (by kernel_rfl) r1 (.inr ⟨_, _, rfl, (show evL _ _ = some (.int .i64 y1.2.1) from (by kernel_rfl))⟩) (.inr ⟨_, _, rfl, (show evL _ _ = some (.int .i64 (IntKind.wrap .i64 (y1.2.1 + (IntKind.wrap .i64 y1.1)))) from (by kernel_rfl))⟩) hx2 ?_)
     intro a2 c2 r2
     refine WO_one rfl (One_bytesStr (d := 47) (t1 := 43) (t2 := 9) (e := 5) (x := (.tmp 46)) (by kernel_rfl) rfl (show evL _ _ = some (.slice a2 (List.length l1) c2) from (by kernel_rfl)) (by kernel_rfl) (by kernel_rfl) st r2 ?_)
     refine WO_seg 4 [(6, .string (strOf l1)), (7, .int .i64 (IntKind.wrap .i64 (y1.2.1 + (IntKind.wrap .i64 y1.1)))), (8, .int .i64 0)] (by kernel_rfl) (by kernel_rfl) ?_
     refine WO_et rfl ?_
     refine W_ret ?_
     obtain rfl := Option.some.inj hr
     refine X_ret [.tmp 6, .tmp 7, .tmp 8] [.string (strOf l1), .int .i64 (IntKind.wrap .i64 (y1.2.1 + (IntKind.wrap .i64 y1.1))), .int .i64 0] rfl (ResAll.cons (ResAt.tmp (by kernel_rfl)) (ResAll.cons (ResAt.tmp (by kernel_rfl)) (ResAll.cons (ResAt.tmp (by kernel_rfl)) ResAll.nil))) ?_
     exact ⟨m2, rfl, hm, st⟩
  ·intro K
   clear hrK
   refine WO_seg 3 [(25, .bool (decide (p2 < 0)))] (by kernel_rfl) (by kernel_rfl) ?_
   rcases bcases (decide (p2 < 0)) with hc | hc
   ·rw [if_pos hc] at hr
    refine WO_fact (t := 25) (b := true) (decide (p2 < 0)) (by kernel_rfl) hc ?_
    refine WO_seg 6 [(22, .bool true)] (by kernel_rfl) (by kernel_rfl) ?_
    obtain rfl := Option.some.inj hr
    exact WO_env _ (by kernel_rfl) (K _ _ ⟨m1, rfl, hm, st, r1⟩)
   ·rw [if_neg (not_true hc)] at hr
    refine WO_fact (t := 25) (b := false) (decide (p2 < 0)) (by kernel_rfl) hc ?_
    refine WO_seg 6 [(22, .bool (decide (y1.1 > (IntKind.wrap .u64 p2))))] (by kernel_rfl) (by kernel_rfl) ?_
    obtain rfl := Option.some.inj hr
    exact WO_env _ (by kernel_rfl) (K _ _ ⟨m1, rfl, hm, st, r1⟩)

def revision_payload_text (N : Nat) (p0 : List UInt8 × Int × Bool) : Option ((List UInt8 × Int × Bool) × ByteArray) :=
 (wire_Text N p0.1 p0.2.1 (List.length p0.1 : Int)).bind fun y1 => if (y1.2.2 != 0) = true then (some ((p0.1, p0.2.1, true), (⟨#[]⟩ : ByteArray))) else (some ((p0.1, y1.2.1, p0.2.2), y1.1))

set_option maxHeartbeats 4000000 in
set_option maxRecDepth 100000 in
theorem revision_payload_text_ok {N : Nat} {m : Mem} {own : List Piece} {w : World} {p0 : List UInt8 × Int × Bool} {bp0 : Nat} {a1 : Option Addr} {c1 : Nat} {r : (List UInt8 × Int × Bool) × ByteArray} (st : St m (.blk bp0 (.cells #[.slice a1 (List.length p0.1) c1, .int .i64 p0.2.1, .bool p0.2.2] 99 (0, 0)) :: own) w) (r1 : RepS cU8 m a1 c1 p0.1) (hr : revision_payload_text N p0 = some r) : Calls Go.Proofs.Tryd.prog 79 #[.pointer (some ⟨bp0, 0, none⟩)] w fun e w' => ∃ (ra1 : Option Addr) (rc1 : Nat) (m' : Mem), e = .returned (.string r.2) ∧ m.le m' ∧ St m' (.blk bp0 (.cells #[.slice ra1 (List.length r.1.1) rc1, .int .i64 r.1.2.1, .bool r.1.2.2] 99 (0, 0)) :: own) w' ∧ RepS cU8 m' ra1 rc1 r.1.1 := by
 unfold revision_payload_text at hr
 have hm := m.le_refl
 refine W_calls Go.Proofs.Tryd.func79 rfl Go.Proofs.Tryd.ntmps79 [(0, .pointer (some ⟨bp0, 0, none⟩))] (by kernel_rfl) rfl ?_
 refine W_sr ?_
 refine WO_seg 1 [] (by kernel_rfl) (by kernel_rfl) ?_
 refine WO_et rfl ?_
 refine W_seq ?_
 refine W_draw [(21, fun w' => Inv m w' ∧ Piece.holds m w' (.blk bp0 (.cells #[.slice a1 (List.length p0.1) c1, .int .i64 p0.2.1, .bool p0.2.2] 99 (0, 0))) ∧ True)] (by kernel_rfl) st ?_
 clear st
 intro w1 _ st
 have hmS1 := m.le_refl
 refine ⟨⟨.inr ⟨Inv.anti st.inv hmS1, Piece.holds_anti st.head hmS1, trivial⟩, trivial⟩, ?_⟩
 refine WA_pure 0 7 (.pointer (some ⟨bp0, 0, none⟩)) (by kernel_rfl) rfl (by kernel_rfl) (.head _) (QP_then QP_body) ?_
 refine WA_pure 1 8 (.pointer (some ⟨bp0, 0, none⟩)) (by kernel_rfl) rfl (by kernel_rfl) (.head _) (QP_then QP_body) ?_
 refine WA_pure 2 9 (.pointer (some ⟨bp0, 0, none⟩)) (by kernel_rfl) rfl (by kernel_rfl) (.head _) (QP_then QP_body) ?_
 refine WA_load_own (t := 43) (x := (.tmp 9)) 3 10 (.slice a1 (List.length p0.1) c1) (by kernel_rfl) rfl (by kernel_rfl) (.head _) (QP_then QP_body) (fun _ h => h.2.1) (show evL _ _ = some (.pointer (some ⟨bp0, 0, none⟩)) from (by kernel_rfl)) (by kernel_rfl) ?_
 refine WA_pure 4 11 (.pointer (some ⟨bp0, 0, none⟩)) (by kernel_rfl) rfl (by kernel_rfl) (.head _) (QP_then QP_body) ?_
 refine WA_pure 5 12 (.pointer (some ⟨bp0, 0, none⟩)) (by kernel_rfl) rfl (by kernel_rfl) (.head _) (QP_then QP_body) ?_
 refine WA_pure 6 13 (.pointer (some ⟨bp0, 1, none⟩)) (by kernel_rfl) rfl (by kernel_rfl) (.head _) (QP_then QP_body) ?_
 refine WA_load_own (t := 3) (x := (.tmp 13)) 7 14 (.int .i64 p0.2.1) (by kernel_rfl) rfl (by kernel_rfl) (.head _) (QP_then QP_body) (fun _ h => h.2.1) (show evL _ _ = some (.pointer (some ⟨bp0, 1, none⟩)) from (by kernel_rfl)) (by kernel_rfl) ?_
 refine WA_pure 8 15 (.pointer (some ⟨bp0, 0, none⟩)) (by kernel_rfl) rfl (by kernel_rfl) (.head _) (QP_then QP_body) ?_
 refine WA_pure 9 16 (.pointer (some ⟨bp0, 0, none⟩)) (by kernel_rfl) rfl (by kernel_rfl) (.head _) (QP_then QP_body) ?_
 refine WA_pure 10 17 (.pointer (some ⟨bp0, 0, none⟩)) (by kernel_rfl) rfl (by kernel_rfl) (.head _) (QP_then QP_body) ?_
 refine WA_load_own (t := 43) (x := (.tmp 17)) 11 18 (.slice a1 (List.length p0.1) c1) (by kernel_rfl) rfl (by kernel_rfl) (.head _) (QP_then QP_body) (fun _ h => h.2.1) (show evL _ _ = some (.pointer (some ⟨bp0, 0, none⟩)) from (by kernel_rfl)) (by kernel_rfl) ?_
 refine WA_pure 12 19 (.int .i64 (List.length p0.1 : Int)) (by kernel_rfl) rfl (by kernel_rfl) (.head _) (QP_then QP_body) ?_
 replace hr := bindS hr
 obtain ⟨y1, hx1, hr⟩ := hr
 refine WA_one 13 (by kernel_rfl)  (One_fn 20 100 #[.slice a1 (List.length p0.1) c1, .int .i64 p0.2.1, .int .i64 (List.length p0.1 : Int)] (by kernel_rfl) rfl ?_)
 refine (wire_Text_ok st r1 hx1).mono ?_
 clear st
 rintro _ w2 ⟨m1, rfl, hle1, st⟩
 refine ⟨_, rfl, ?_⟩
 have hm := Mem.le_trans hm hle1
 have r1 := r1.mono hle1
 have hmS1 := Mem.le_trans hmS1 hle1
 refine ⟨⟨.inr ⟨Inv.anti st.inv hmS1, Piece.holds_anti st.head hmS1, trivial⟩, trivial⟩, ?_⟩
 refine WA_pure 14 6 (.tuple #[.string y1.1, .int .i64 y1.2.1, .int .i64 y1.2.2]) (by kernel_rfl) rfl (by kernel_rfl) (.head _) (QP_then QP_body) ?_
 refine WA_pure 15 21 (.string y1.1) (by kernel_rfl) rfl (by kernel_rfl) (.head _) (QP_then QP_body) ?_
 refine WA_pure 16 22 (.int .i64 y1.2.1) (by kernel_rfl) rfl (by kernel_rfl) (.head _) (QP_then QP_body) ?_
 refine WA_pure 17 23 (.int .i64 y1.2.2) (by kernel_rfl) rfl (by kernel_rfl) (.head _) (QP_then QP_body) ?_
 refine WA_pure 18 3 (.string y1.1) (by kernel_rfl) rfl (by kernel_rfl) (.head _) (QP_then QP_body) ?_
 refine WA_pure 19 4 (.int .i64 y1.2.1) (by kernel_rfl) rfl (by kernel_rfl) (.head _) (QP_then QP_body) ?_
 refine WA_pure 20 5 (.int .i64 y1.2.2) (by kernel_rfl) rfl (by kernel_rfl) (.head _) (QP_then QP_body) ?_
 refine WA_done (by kernel_rfl) ?_
 refine X_then ?_
 refine W_seq ?_
 refine W_sr ?_
 refine WO_seg 2 [(25, .bool (y1.2.2 != 0))] (by kernel_rfl) (by kernel_rfl) ?_
 refine WO_et rfl ?_
 refine W_cond (y1.2.2 != 0) (by kernel_rfl) ?_ ?_
 ·intro hc
  rw [if_pos hc] at hr
  refine W_sr ?_
  refine WO_seg 3 [(28, .pointer (some ⟨bp0, 2, none⟩))] (by kernel_rfl) (by kernel_rfl) ?_
  refine WO_one rfl (One_store (t := 4) (x := (.tmp 28)) (y := (.const (.bool true))) (v := .bool true) (c' := #[.slice a1 (List.length p0.1) c1, .int .i64 p0.2.1, .bool true]) (by kernel_rfl) (show evL _ _ = some (.pointer (some ⟨bp0, 2, none⟩)) from (by kernel_rfl)) (show evL _ _ = some (.bool true) from (by kernel_rfl)) st (by kernel_rfl) (by kernel_rfl) ?_)
  clear st
  intro w3 st
  refine WO_et rfl ?_
  refine W_sr ?_
  refine WO_seg 1 [(2, .string (⟨#[]⟩ : ByteArray))] (by kernel_rfl) (by kernel_rfl) ?_
  refine WO_et rfl ?_
  refine W_ret ?_
  refine X_then_ret ?_
  obtain rfl := Option.some.inj hr
  refine X_ret [.tmp 2] [.string (⟨#[]⟩ : ByteArray)] rfl (ResAll.cons (ResAt.tmp (by kernel_rfl)) ResAll.nil) ?_
  exact ⟨a1, c1, m1, rfl, hm, st, r1⟩
 ·intro hc
  rw [if_neg (not_true hc)] at hr
  refine W_skip ?_
  refine X_then ?_
  refine W_sr ?_
  refine WO_seg 4 [(30, .int .i64 y1.2.1), (32, .pointer (some ⟨bp0, 1, none⟩))] (by kernel_rfl) (by kernel_rfl) ?_
  refine WO_one rfl (One_store (t := 3) (x := (.tmp 32)) (y := (.tmp 30)) (v := .int .i64 y1.2.1) (c' := #[.slice a1 (List.length p0.1) c1, .int .i64 y1.2.1, .bool p0.2.2]) (by kernel_rfl) (show evL _ _ = some (.pointer (some ⟨bp0, 1, none⟩)) from (by kernel_rfl)) (show evL _ _ = some (.int .i64 y1.2.1) from (by kernel_rfl)) st (by kernel_rfl) (by kernel_rfl) ?_)
  clear st
  intro w4 st
  refine WO_et rfl ?_
  refine W_sr ?_
  refine WO_seg 2 [(2, .string y1.1)] (by kernel_rfl) (by kernel_rfl) ?_
  refine WO_et rfl ?_
  refine W_ret ?_
  obtain rfl := Option.some.inj hr
  refine X_ret [.tmp 2] [.string y1.1] rfl (ResAll.cons (ResAt.tmp (by kernel_rfl)) ResAll.nil) ?_
  exact ⟨a1, c1, m1, rfl, hm, st, r1⟩

def revision_payload_end (N : Nat) (p0 : List UInt8 × Int × Bool) : Option ((List UInt8 × Int × Bool) × Bool) :=
 (if (!p0.2.2) = true then (some (p0.2.1 == (List.length p0.1 : Int))) else (some false) : Option (Bool)).bind fun o1 => some ((p0.1, p0.2.1, p0.2.2), o1)

set_option maxHeartbeats 4000000 in
set_option maxRecDepth 100000 in
theorem revision_payload_end_ok {N : Nat} {m : Mem} {own : List Piece} {w : World} {p0 : List UInt8 × Int × Bool} {bp0 : Nat} {a1 : Option Addr} {c1 : Nat} {r : (List UInt8 × Int × Bool) × Bool} (st : St m (.blk bp0 (.cells #[.slice a1 (List.length p0.1) c1, .int .i64 p0.2.1, .bool p0.2.2] 99 (0, 0)) :: own) w) (r1 : RepS cU8 m a1 c1 p0.1) (hr : revision_payload_end N p0 = some r) : Calls Go.Proofs.Tryd.prog 80 #[.pointer (some ⟨bp0, 0, none⟩)] w fun e w' => ∃ (ra1 : Option Addr) (rc1 : Nat) (m' : Mem), e = .returned (.bool r.2) ∧ m.le m' ∧ St m' (.blk bp0 (.cells #[.slice ra1 (List.length r.1.1) rc1, .int .i64 r.1.2.1, .bool r.1.2.2] 99 (0, 0)) :: own) w' ∧ RepS cU8 m' ra1 rc1 r.1.1 := by
 unfold revision_payload_end at hr
 have hm := m.le_refl
 refine W_calls Go.Proofs.Tryd.func80 rfl Go.Proofs.Tryd.ntmps80 [(0, .pointer (some ⟨bp0, 0, none⟩))] (by kernel_rfl) rfl ?_
 refine W_sr ?_
 refine WO_seg 1 [] (by kernel_rfl) (by kernel_rfl) ?_
 refine WO_et rfl ?_
 refine W_seq ?_
 replace hr := bindS hr
 obtain ⟨o1, hr, hrK⟩ := hr
 refine W_cut .normal (fun L' w' => ∃ (m1 : Mem), L' = [(2, .bool o1)] ∧ m.le m1 ∧ St m1 (.blk bp0 (.cells #[.slice a1 (List.length p0.1) c1, .int .i64 p0.2.1, .bool p0.2.2] 99 (0, 0)) :: own) w' ∧ RepS cU8 m1 a1 c1 p0.1) ?_ ?_
 ·clear hr st
  have hr := hrK
  clear hrK
  rintro _ w1 ⟨m1, rfl, hm, st, r1⟩
  refine X_then ?_
  refine W_ret ?_
  obtain rfl := Option.some.inj hr
  refine X_ret [.tmp 2] [.bool o1] rfl (ResAll.cons (ResAt.tmp (by kernel_rfl)) ResAll.nil) ?_
  exact ⟨a1, c1, m1, rfl, hm, st, r1⟩
 ·intro K
  clear hrK
  refine W_draw [(18, fun w' => Inv m w' ∧ Piece.holds m w' (.blk bp0 (.cells #[.slice a1 (List.length p0.1) c1, .int .i64 p0.2.1, .bool p0.2.2] 99 (0, 0))) ∧ True)] (by kernel_rfl) st ?_
  clear st
  intro w2 _ st
  have hmS1 := m.le_refl
  refine ⟨⟨.inr ⟨Inv.anti st.inv hmS1, Piece.holds_anti st.head hmS1, trivial⟩, trivial⟩, ?_⟩
  refine WA_pure 0 3 (.pointer (some ⟨bp0, 0, none⟩)) (by kernel_rfl) rfl (by kernel_rfl) (.head _) (QP_then QP_body) ?_
  refine WA_pure 1 4 (.pointer (some ⟨bp0, 0, none⟩)) (by kernel_rfl) rfl (by kernel_rfl) (.head _) (QP_then QP_body) ?_
  refine WA_pure 2 5 (.pointer (some ⟨bp0, 2, none⟩)) (by kernel_rfl) rfl (by kernel_rfl) (.head _) (QP_then QP_body) ?_
  refine WA_load_own (t := 4) (x := (.tmp 5)) 3 6 (.bool p0.2.2) (by kernel_rfl) rfl (by kernel_rfl) (.head _) (QP_then QP_body) (fun _ h => h.2.1) (show evL _ _ = some (.pointer (some ⟨bp0, 2, none⟩)) from (by kernel_rfl)) (by kernel_rfl) ?_
  refine WA_pure 4 7 (.bool (!p0.2.2)) (by kernel_rfl) rfl (by kernel_rfl) (.head _) (QP_then QP_body) ?_
  refine WA_pure 5 8 (.bool (!p0.2.2)) (by kernel_rfl) rfl (by kernel_rfl) (.head _) (QP_then QP_body) ?_
  rcases bcases (!p0.2.2) with hc | hc
  ·rw [if_pos hc] at hr
   refine WA_fact (t := 8) (b := true) (!p0.2.2) (by kernel_rfl) hc ?_
   refine WA_pure 6 9 (.pointer (some ⟨bp0, 0, none⟩)) (by kernel_rfl) rfl (by kernel_rfl) (.head _) (QP_then QP_body) ?_
   refine WA_pure 7 10 (.pointer (some ⟨bp0, 0, none⟩)) (by kernel_rfl) rfl (by kernel_rfl) (.head _) (QP_then QP_body) ?_
   refine WA_pure 8 11 (.pointer (some ⟨bp0, 1, none⟩)) (by kernel_rfl) rfl (by kernel_rfl) (.head _) (QP_then QP_body) ?_
   refine WA_load_own (t := 3) (x := (.tmp 11)) 9 12 (.int .i64 p0.2.1) (by kernel_rfl) rfl (by kernel_rfl) (.head _) (QP_then QP_body) (fun _ h => h.2.1) (show evL _ _ = some (.pointer (some ⟨bp0, 1, none⟩)) from (by kernel_rfl)) (by kernel_rfl) ?_
   refine WA_pure 10 13 (.pointer (some ⟨bp0, 0, none⟩)) (by kernel_rfl) rfl (by kernel_rfl) (.head _) (QP_then QP_body) ?_
   refine WA_pure 11 14 (.pointer (some ⟨bp0, 0, none⟩)) (by kernel_rfl) rfl (by kernel_rfl) (.head _) (QP_then QP_body) ?_
   refine WA_pure 12 15 (.pointer (some ⟨bp0, 0, none⟩)) (by kernel_rfl) rfl (by kernel_rfl) (.head _) (QP_then QP_body) ?_
   refine WA_load_own (t := 43) (x := (.tmp 15)) 13 16 (.slice a1 (List.length p0.1) c1) (by kernel_rfl) rfl (by kernel_rfl) (.head _) (QP_then QP_body) (fun _ h => h.2.1) (show evL _ _ = some (.pointer (some ⟨bp0, 0, none⟩)) from (by kernel_rfl)) (by kernel_rfl) ?_
   refine WA_pure 14 17 (.int .i64 (List.length p0.1 : Int)) (by kernel_rfl) rfl (by kernel_rfl) (.head _) (QP_then QP_body) ?_
   refine WA_pure 15 18 (.bool (p0.2.1 == (List.length p0.1 : Int))) (by kernel_rfl) rfl (by kernel_rfl) (.head _) (QP_then QP_body) ?_
   refine WA_pure 16 19 (.bool (p0.2.1 == (List.length p0.1 : Int))) (by kernel_rfl) rfl (by kernel_rfl) (.head _) (QP_then QP_body) ?_
   refine WA_pure 17 2 (.bool (p0.2.1 == (List.length p0.1 : Int))) (by kernel_rfl) rfl (by kernel_rfl) (.head _) (QP_then QP_body) ?_
   obtain rfl := Option.some.inj hr
   exact WA_done (by kernel_rfl) (X_env _ (by kernel_rfl) (K _ _ ⟨m, rfl, hm, st, r1⟩))
  ·rw [if_neg (not_true hc)] at hr
   refine WA_fact (t := 8) (b := false) (!p0.2.2) (by kernel_rfl) hc ?_
   refine WA_not 6 9 (by kernel_rfl) rfl (by kernel_rfl) (.head _) (QP_then QP_body) ?_
   refine WA_not 7 10 (by kernel_rfl) rfl (by kernel_rfl) (.head _) (QP_then QP_body) ?_
   refine WA_not 8 11 (by kernel_rfl) rfl (by kernel_rfl) (.head _) (QP_then QP_body) ?_
   refine WA_not 9 12 (by kernel_rfl) rfl (by kernel_rfl) (.head _) (QP_then QP_body) ?_
   refine WA_not 10 13 (by kernel_rfl) rfl (by kernel_rfl) (.head _) (QP_then QP_body) ?_
   refine WA_not 11 14 (by kernel_rfl) rfl (by kernel_rfl) (.head _) (QP_then QP_body) ?_
   refine WA_not 12 15 (by kernel_rfl) rfl (by kernel_rfl) (.head _) (QP_then QP_body) ?_
   refine WA_not 13 16 (by kernel_rfl) rfl (by kernel_rfl) (.head _) (QP_then QP_body) ?_
   refine WA_not 14 17 (by kernel_rfl) rfl (by kernel_rfl) (.head _) (QP_then QP_body) ?_
   refine WA_not 15 18 (by kernel_rfl) rfl (by kernel_rfl) (.head _) (QP_then QP_body) ?_
   refine WA_pure 16 19 (.bool false) (by kernel_rfl) rfl (by kernel_rfl) (.head _) (QP_then QP_body) ?_
   refine WA_pure 17 2 (.bool false) (by kernel_rfl) rfl (by kernel_rfl) (.head _) (QP_then QP_body) ?_
   obtain rfl := Option.some.inj hr
   exact WA_done (by kernel_rfl) (X_env _ (by kernel_rfl) (K _ _ ⟨m, rfl, hm, st, r1⟩))

def revision_payload_number (N : Nat) (p0 : List UInt8 × Int × Bool) : Option ((List UInt8 × Int × Bool) × Int) :=
 (wire_Uint N p0.1 p0.2.1).bind fun y1 => if (y1.2.2 != 0) = true then (some ((p0.1, p0.2.1, true), 0)) else (some ((p0.1, y1.2.1, p0.2.2), y1.1))

set_option maxHeartbeats 4000000 in
set_option maxRecDepth 100000 in
theorem revision_payload_number_ok {N : Nat} {m : Mem} {own : List Piece} {w : World} {p0 : List UInt8 × Int × Bool} {bp0 : Nat} {a1 : Option Addr} {c1 : Nat} {r : (List UInt8 × Int × Bool) × Int} (st : St m (.blk bp0 (.cells #[.slice a1 (List.length p0.1) c1, .int .i64 p0.2.1, .bool p0.2.2] 99 (0, 0)) :: own) w) (r1 : RepS cU8 m a1 c1 p0.1) (hr : revision_payload_number N p0 = some r) : Calls Go.Proofs.Tryd.prog 81 #[.pointer (some ⟨bp0, 0, none⟩)] w fun e w' => ∃ (ra1 : Option Addr) (rc1 : Nat) (m' : Mem), e = .returned (.int .u64 r.2) ∧ m.le m' ∧ St m' (.blk bp0 (.cells #[.slice ra1 (List.length r.1.1) rc1, .int .i64 r.1.2.1, .bool r.1.2.2] 99 (0, 0)) :: own) w' ∧ RepS cU8 m' ra1 rc1 r.1.1 := by
 unfold revision_payload_number at hr
 have hm := m.le_refl
 refine W_calls Go.Proofs.Tryd.func81 rfl Go.Proofs.Tryd.ntmps81 [(0, .pointer (some ⟨bp0, 0, none⟩))] (by kernel_rfl) rfl ?_
 refine W_sr ?_
 refine WO_seg 1 [] (by kernel_rfl) (by kernel_rfl) ?_
 refine WO_et rfl ?_
 refine W_seq ?_
 refine W_draw [(16, fun w' => Inv m w' ∧ Piece.holds m w' (.blk bp0 (.cells #[.slice a1 (List.length p0.1) c1, .int .i64 p0.2.1, .bool p0.2.2] 99 (0, 0))) ∧ True)] (by kernel_rfl) st ?_
 clear st
 intro w1 _ st
 have hmS1 := m.le_refl
 refine ⟨⟨.inr ⟨Inv.anti st.inv hmS1, Piece.holds_anti st.head hmS1, trivial⟩, trivial⟩, ?_⟩
 refine WA_pure 0 7 (.pointer (some ⟨bp0, 0, none⟩)) (by kernel_rfl) rfl (by kernel_rfl) (.head _) (QP_then QP_body) ?_
 refine WA_pure 1 8 (.pointer (some ⟨bp0, 0, none⟩)) (by kernel_rfl) rfl (by kernel_rfl) (.head _) (QP_then QP_body) ?_
 refine WA_pure 2 9 (.pointer (some ⟨bp0, 0, none⟩)) (by kernel_rfl) rfl (by kernel_rfl) (.head _) (QP_then QP_body) ?_
 refine WA_load_own (t := 43) (x := (.tmp 9)) 3 10 (.slice a1 (List.length p0.1) c1) (by kernel_rfl) rfl (by kernel_rfl) (.head _) (QP_then QP_body) (fun _ h => h.2.1) (show evL _ _ = some (.pointer (some ⟨bp0, 0, none⟩)) from (by kernel_rfl)) (by kernel_rfl) ?_
 refine WA_pure 4 11 (.pointer (some ⟨bp0, 0, none⟩)) (by kernel_rfl) rfl (by kernel_rfl) (.head _) (QP_then QP_body) ?_
 refine WA_pure 5 12 (.pointer (some ⟨bp0, 0, none⟩)) (by kernel_rfl) rfl (by kernel_rfl) (.head _) (QP_then QP_body) ?_
 refine WA_pure 6 13 (.pointer (some ⟨bp0, 1, none⟩)) (by kernel_rfl) rfl (by kernel_rfl) (.head _) (QP_then QP_body) ?_
 refine WA_load_own (t := 3) (x := (.tmp 13)) 7 14 (.int .i64 p0.2.1) (by kernel_rfl) rfl (by kernel_rfl) (.head _) (QP_then QP_body) (fun _ h => h.2.1) (show evL _ _ = some (.pointer (some ⟨bp0, 1, none⟩)) from (by kernel_rfl)) (by kernel_rfl) ?_
 replace hr := bindS hr
 obtain ⟨y1, hx1, hr⟩ := hr
 refine WA_one 8 (by kernel_rfl)  (One_fn 15 101 #[.slice a1 (List.length p0.1) c1, .int .i64 p0.2.1] (by kernel_rfl) rfl ?_)
 refine (wire_Uint_ok st r1 hx1).mono ?_
 clear st
 rintro _ w2 ⟨m1, rfl, hle1, st⟩
 refine ⟨_, rfl, ?_⟩
 have hm := Mem.le_trans hm hle1
 have r1 := r1.mono hle1
 have hmS1 := Mem.le_trans hmS1 hle1
 refine ⟨⟨.inr ⟨Inv.anti st.inv hmS1, Piece.holds_anti st.head hmS1, trivial⟩, trivial⟩, ?_⟩
 refine WA_pure 9 6 (.tuple #[.int .u64 y1.1, .int .i64 y1.2.1, .int .i64 y1.2.2]) (by kernel_rfl) rfl (by kernel_rfl) (.head _) (QP_then QP_body) ?_
 refine WA_pure 10 16 (.int .u64 y1.1) (by kernel_rfl) rfl (by kernel_rfl) (.head _) (QP_then QP_body) ?_
 refine WA_pure 11 17 (.int .i64 y1.2.1) (by kernel_rfl) rfl (by kernel_rfl) (.head _) (QP_then QP_body) ?_
 refine WA_pure 12 18 (.int .i64 y1.2.2) (by kernel_rfl) rfl (by kernel_rfl) (.head _) (QP_then QP_body) ?_
 refine WA_pure 13 3 (.int .u64 y1.1) (by kernel_rfl) rfl (by kernel_rfl) (.head _) (QP_then QP_body) ?_
 refine WA_pure 14 4 (.int .i64 y1.2.1) (by kernel_rfl) rfl (by kernel_rfl) (.head _) (QP_then QP_body) ?_
 refine WA_pure 15 5 (.int .i64 y1.2.2) (by kernel_rfl) rfl (by kernel_rfl) (.head _) (QP_then QP_body) ?_
 refine WA_done (by kernel_rfl) ?_
 refine X_then ?_
 refine W_seq ?_
 refine W_sr ?_
 refine WO_seg 2 [(20, .bool (y1.2.2 != 0))] (by kernel_rfl) (by kernel_rfl) ?_
 refine WO_et rfl ?_
 refine W_cond (y1.2.2 != 0) (by kernel_rfl) ?_ ?_
 ·intro hc
  rw [if_pos hc] at hr
  refine W_sr ?_
  refine WO_seg 3 [(23, .pointer (some ⟨bp0, 2, none⟩))] (by kernel_rfl) (by kernel_rfl) ?_
  refine WO_one rfl (One_store (t := 4) (x := (.tmp 23)) (y := (.const (.bool true))) (v := .bool true) (c' := #[.slice a1 (List.length p0.1) c1, .int .i64 p0.2.1, .bool true]) (by kernel_rfl) (show evL _ _ = some (.pointer (some ⟨bp0, 2, none⟩)) from (by kernel_rfl)) (show evL _ _ = some (.bool true) from (by kernel_rfl)) st (by kernel_rfl) (by kernel_rfl) ?_)
  clear st
  intro w3 st
  refine WO_et rfl ?_
  refine W_sr ?_
  refine WO_seg 1 [(2, .int .u64 0)] (by kernel_rfl) (by kernel_rfl) ?_
  refine WO_et rfl ?_
  refine W_ret ?_
  refine X_then_ret ?_
  obtain rfl := Option.some.inj hr
  refine X_ret [.tmp 2] [.int .u64 0] rfl (ResAll.cons (ResAt.tmp (by kernel_rfl)) ResAll.nil) ?_
  exact ⟨a1, c1, m1, rfl, hm, st, r1⟩
 ·intro hc
  rw [if_neg (not_true hc)] at hr
  refine W_skip ?_
  refine X_then ?_
  refine W_sr ?_
  refine WO_seg 4 [(25, .int .i64 y1.2.1), (27, .pointer (some ⟨bp0, 1, none⟩))] (by kernel_rfl) (by kernel_rfl) ?_
  refine WO_one rfl (One_store (t := 3) (x := (.tmp 27)) (y := (.tmp 25)) (v := .int .i64 y1.2.1) (c' := #[.slice a1 (List.length p0.1) c1, .int .i64 y1.2.1, .bool p0.2.2]) (by kernel_rfl) (show evL _ _ = some (.pointer (some ⟨bp0, 1, none⟩)) from (by kernel_rfl)) (show evL _ _ = some (.int .i64 y1.2.1) from (by kernel_rfl)) st (by kernel_rfl) (by kernel_rfl) ?_)
  clear st
  intro w4 st
  refine WO_et rfl ?_
  refine W_sr ?_
  refine WO_seg 2 [(2, .int .u64 y1.1)] (by kernel_rfl) (by kernel_rfl) ?_
  refine WO_et rfl ?_
  refine W_ret ?_
  obtain rfl := Option.some.inj hr
  refine X_ret [.tmp 2] [.int .u64 y1.1] rfl (ResAll.cons (ResAt.tmp (by kernel_rfl)) ResAll.nil) ?_
  exact ⟨a1, c1, m1, rfl, hm, st, r1⟩

def revision_Decode_L1 (N : Nat) (l1 : List (Int × List UInt8)) (s1 : Int × (List (ByteArray × ByteArray))) : Option ((Int × (List (ByteArray × ByteArray))) ⊕ (((List (ByteArray × ByteArray))) ⊕ (((List (ByteArray × ByteArray))) × Int))) :=
 if (decide (s1.1 < (List.length l1 : Int))) = true then ((idx l1 s1.1).bind fun x2 => (revision_payload_text N (x2.2, 0, false)).bind fun y2 => (revision_payload_text N (y2.1.1, y2.1.2.1, y2.1.2.2)).bind fun y3 => (appendS 32 s1.2 ([(y2.2, y3.2)])).bind fun l2 => (if (x2.1 != 1) = true then (some (true, y3.1.1, y3.1.2.1, y3.1.2.2)) else ((revision_payload_end N (y3.1.1, y3.1.2.1, y3.1.2.2)).bind fun y4 => some (!y4.2, y4.1.1, y4.1.2.1, y4.1.2.2)) : Option (Bool × List (UInt8) × Int × Bool)).bind fun o3 => if o3.1 = true then (some (.inr (.inr ((([] : List (ByteArray × ByteArray)), 6))))) else (some (.inl (IntKind.wrap .i64 (s1.1 + 1), l2)))) else (some (.inr (.inl s1.2)))

def revision_Decode (N : Nat) (p0 : List UInt8) : Option (((List (ByteArray × ByteArray))) × Int) :=
 (wire_Frames N p0).bind fun y1 => if (y1.2.2 != 0) = true then (some (([] : List (ByteArray × ByteArray)), y1.2.2)) else ((if (decide ((IntKind.wrap .i64 ((List.length y1.1 : Int) - 1)) < 0)) = true then (some true) else ((idx y1.1 (IntKind.wrap .i64 ((List.length y1.1 : Int) - 1))).bind fun x1 => some (x1.1 != 2)) : Option (Bool)).bind fun o1 => if o1 = true then (some (([] : List (ByteArray × ByteArray)), 7)) else ((subS y1.1 0 (IntKind.wrap .i64 ((List.length y1.1 : Int) - 1))).bind fun l1 => (loopM (revision_Decode_L1 N l1) N (0, ([] : List (ByteArray × ByteArray)))).bind fun out1 => (match out1 with | .inl o2 => (idx y1.1 (IntKind.wrap .i64 ((List.length y1.1 : Int) - 1))).bind fun x3 => (revision_payload_number N (x3.2, 0, false)).bind fun y5 => ((revision_payload_end N (y5.1.1, y5.1.2.1, y5.1.2.2)).bind fun y6 => if (!y6.2) = true then (some (true, y6.1.1, y6.1.2.1, y6.1.2.2)) else (some (y5.2 != (IntKind.wrap .u64 (IntKind.wrap .i64 ((List.length y1.1 : Int) - 1))), y6.1.1, y6.1.2.1, y6.1.2.2)) : Option (Bool × List (UInt8) × Int × Bool)).bind fun o4 => if o4.1 = true then (some (([] : List (ByteArray × ByteArray)), 6)) else ((revision_Check N o2).bind fun y7 => if (y7 != 0) = true then (some (([] : List (ByteArray × ByteArray)), y7)) else (some (o2, 0))) | .inr (z) => some z)))

set_option maxHeartbeats 4000000 in
set_option maxRecDepth 100000 in
theorem revision_Decode_ok {N : Nat} {m : Mem} {own : List Piece} {w : World} {p0 : List UInt8} {a1 : Option Addr} {c1 : Nat} {r : ((List (ByteArray × ByteArray))) × Int} (st : St m (own) w) (r1 : RepS cU8 m a1 c1 p0) (hr : revision_Decode N p0 = some r) : Calls Go.Proofs.Tryd.prog 46 #[.slice a1 (List.length p0) c1] w fun e w' => ∃ (ra1 : Option Addr) (rc1 : Nat) (m' : Mem), e = .returned (.tuple #[.agg #[.slice ra1 (List.length r.1) rc1], .int .i64 r.2]) ∧ m.le m' ∧ St m' (.room ra1 (List.length r.1) rc1 66 2 :: own) w' ∧ RepS (cPair cStr cStr) m' ra1 rc1 r.1 := by
 unfold revision_Decode at hr
 have hm := m.le_refl
 refine W_calls Go.Proofs.Tryd.func46 rfl Go.Proofs.Tryd.ntmps46 [(0, .slice a1 (List.length p0) c1)] (by kernel_rfl) rfl ?_
 refine W_sr ?_
 refine WO_one rfl (One_alloc (d := 2) (e := 47) (.agg #[.slice none 0 0]) (by kernel_rfl) rfl (by kernel_rfl) st ?_)
 clear st
 intro b1 w1 st
 refine WO_seg 1 [] (by kernel_rfl) (by kernel_rfl) ?_
 refine WO_et rfl ?_
 refine W_sr ?_
 refine WO_seg 1 [(17, .slice a1 (List.length p0) c1)] (by kernel_rfl) (by kernel_rfl) ?_
 replace hr := bindS hr
 obtain ⟨y1, hx1, hr⟩ := hr
 refine WO_one rfl (One_fn 18 78 #[.slice a1 (List.length p0) c1] (by kernel_rfl) rfl ?_)
 refine (wire_Frames_ok st r1 hx1).mono ?_
 clear st
 rintro _ w2 ⟨a2, c2, m1, rfl, hle1, st, r2⟩
 refine ⟨_, rfl, ?_⟩
 have hm := Mem.le_trans hm hle1
 have r1 := r1.mono hle1
 refine WO_seg 7 [(4, .slice a2 (List.length y1.1) c2), (6, .int .i64 y1.2.2)] (by kernel_rfl) (by kernel_rfl) ?_
 refine WO_et rfl ?_
 refine W_seq ?_
 refine W_sr ?_
 refine WO_seg 2 [(23, .bool (y1.2.2 != 0))] (by kernel_rfl) (by kernel_rfl) ?_
 refine WO_et rfl ?_
 refine W_cond (y1.2.2 != 0) (by kernel_rfl) ?_ ?_
 ·intro hc
  rw [if_pos hc] at hr
  refine W_sr ?_
  refine WO_seg 2 [(24, .agg #[.slice none (List.length ([] : List (ByteArray × ByteArray))) 0]), (25, .int .i64 y1.2.2)] (by kernel_rfl) (by kernel_rfl) ?_
  have st := st.front1
  refine WO_one rfl (One_store (t := 47) (x := (.tmp 2)) (y := (.tmp 24)) (v := .agg #[.slice none (List.length ([] : List (ByteArray × ByteArray))) 0]) (c' := #[.slice none (List.length ([] : List (ByteArray × ByteArray))) 0]) (by kernel_rfl) (show evL _ _ = some (.pointer (some ⟨b1, 0, none⟩)) from (by kernel_rfl)) (show evL _ _ = some (.agg #[.slice none (List.length ([] : List (ByteArray × ByteArray))) 0]) from (by kernel_rfl)) st (by kernel_rfl) (by kernel_rfl) ?_)
  clear st
  intro w3 st
  refine WO_seg 1 [(3, .int .i64 y1.2.2)] (by kernel_rfl) (by kernel_rfl) ?_
  refine WO_end rfl ?_
  have st := st.front1
  have st := st.tail
  refine X_then ?_
  refine W_ret ?_
  refine X_then_ret ?_
  obtain rfl := Option.some.inj hr
  refine X_ret [.cell 2 47, .tmp 3] [.agg #[.slice none (List.length ([] : List (ByteArray × ByteArray))) 0], .int .i64 y1.2.2] rfl (ResAll.cons (ResAt.blk (v := .agg #[.slice none (List.length ([] : List (ByteArray × ByteArray))) 0]) (o := 0) (by kernel_rfl) st.head (by kernel_rfl)) (ResAll.cons (ResAt.tmp (by kernel_rfl)) ResAll.nil)) ?_
  have st := st.nilroom 66 2
  have st := st.front1
  have st := st.tail
  exact ⟨none, 0, m1, rfl, hm, st, (RepS.nil _ _)⟩
 ·intro hc
  rw [if_neg (not_true hc)] at hr
  refine W_skip ?_
  refine X_then ?_
  refine W_sr ?_
  refine WO_seg 4 [(7, .int .i64 (IntKind.wrap .i64 ((List.length y1.1 : Int) - 1)))] (by kernel_rfl) (by kernel_rfl) ?_
  refine WO_et rfl ?_
  refine W_seq ?_
  refine W_sr ?_
  replace hr := bindS hr
  obtain ⟨o1, hr, hrK⟩ := hr
  refine WO_cut (j := 10) (fun L' w' => ∃ (m2 : Mem), L' = [(2, .pointer (some ⟨b1, 0, none⟩)), (4, .slice a2 (List.length y1.1) c2), (7, .int .i64 (IntKind.wrap .i64 ((List.length y1.1 : Int) - 1))), (38, .bool o1)] ∧ m.le m2 ∧ St m2 (.blk b1 (.cells #[.slice none (List.length ([] : List (ByteArray × ByteArray))) 0] 47 (0, 0)) :: .room a2 (List.length y1.1) c2 86 2 :: own) w' ∧ RepS (cPair (cInt .i64) (cSl cU8)) m2 a2 c2 y1.1) ?_ ?_
  ·clear hr st
   have hr := hrK
   clear hrK
   rintro _ w4 ⟨m2, rfl, hm, st, r2⟩
   refine WO_et rfl ?_
   refine W_cond o1 (by kernel_rfl) ?_ ?_
   ·intro hc
    rw [if_pos hc] at hr
    refine W_sr ?_
    refine WO_seg 1 [(39, .agg #[.slice none (List.length ([] : List (ByteArray × ByteArray))) 0])] (by kernel_rfl) (by kernel_rfl) ?_
    refine WO_one rfl (One_store (t := 47) (x := (.tmp 2)) (y := (.tmp 39)) (v := .agg #[.slice none (List.length ([] : List (ByteArray × ByteArray))) 0]) (c' := #[.slice none (List.length ([] : List (ByteArray × ByteArray))) 0]) (by kernel_rfl) (show evL _ _ = some (.pointer (some ⟨b1, 0, none⟩)) from (by kernel_rfl)) (show evL _ _ = some (.agg #[.slice none (List.length ([] : List (ByteArray × ByteArray))) 0]) from (by kernel_rfl)) st (by kernel_rfl) (by kernel_rfl) ?_)
    clear st
    intro w5 st
    refine WO_seg 1 [(3, .int .i64 7)] (by kernel_rfl) (by kernel_rfl) ?_
    refine WO_end rfl ?_
    have st := st.front1
    have st := st.tail
    refine X_then ?_
    refine W_ret ?_
    refine X_then_ret ?_
    obtain rfl := Option.some.inj hr
    refine X_ret [.cell 2 47, .tmp 3] [.agg #[.slice none (List.length ([] : List (ByteArray × ByteArray))) 0], .int .i64 7] rfl (ResAll.cons (ResAt.blk (v := .agg #[.slice none (List.length ([] : List (ByteArray × ByteArray))) 0]) (o := 0) (by kernel_rfl) st.head (by kernel_rfl)) (ResAll.cons (ResAt.tmp (by kernel_rfl)) ResAll.nil)) ?_
    have st := st.nilroom 66 2
    have st := st.front1
    have st := st.tail
    exact ⟨none, 0, m2, rfl, hm, st, (RepS.nil _ _)⟩
   ·intro hc
    rw [if_neg (not_true hc)] at hr
    refine W_skip ?_
    refine X_then ?_
    refine W_sr ?_
    refine WO_one rfl (One_alloc (d := 8) (e := 47) (.agg #[.slice none 0 0]) (by kernel_rfl) rfl (by kernel_rfl) st ?_)
    clear st
    intro b3 w6 st
    refine WO_et rfl ?_
    refine W_seq ?_
    refine W_sr ?_
    refine WO_seg 2 [(40, .slice a2 (List.length y1.1) c2), (41, .int .i64 (IntKind.wrap .i64 ((List.length y1.1 : Int) - 1)))] (by kernel_rfl) (by kernel_rfl) ?_
    replace hr := bindS hr
    obtain ⟨l1, hx3, hr⟩ := hr
    refine WO_one rfl (One_slice (d := 42) (t := 94) (e := 86) (x := (.tmp 40)) (lo := none) (hi := (some (.tmp 41))) (cPair (cInt .i64) (cSl cU8)) (by kernel_rfl) rfl (show evL _ _ = some (.slice a2 (List.length y1.1) c2) from (by kernel_rfl)) (by kernel_rfl) r2 (.inl ⟨rfl, rfl⟩) (.inr ⟨_, _, rfl, (show evL _ _ = some (.int .i64 (IntKind.wrap .i64 ((List.length y1.1 : Int) - 1))) from (by kernel_rfl))⟩) hx3 ?_)
    intro a4 c4 r4
    refine WO_seg 2 [(43, .int .i64 (List.length l1 : Int)), (44, .int .i64 0)] (by kernel_rfl) (by kernel_rfl) ?_
    refine WO_et rfl ?_
    refine W_block ?_
    replace hr := bindS hr
    obtain ⟨out1, hr, hrKu1⟩ := hr
    refine W_cut (.exit 0) (fun L' w' => ∃ (o2 : (List (ByteArray × ByteArray))) (a5 : Option Addr) (c5 : Nat) (m3 : Mem), (.inl o2) = out1 ∧ L' = [(2, .pointer (some ⟨b1, 0, none⟩)), (4, .slice a2 (List.length y1.1) c2), (7, .int .i64 (IntKind.wrap .i64 ((List.length y1.1 : Int) - 1))), (8, .pointer (some ⟨b3, 0, none⟩))] ∧ m.le m3 ∧ St m3 (.blk b3 (.cells #[.slice a5 (List.length o2) c5] 47 (0, 0)) :: .blk b1 (.cells #[.slice none (List.length ([] : List (ByteArray × ByteArray))) 0] 47 (0, 0)) :: .room a2 (List.length y1.1) c2 86 2 :: .room a5 (List.length o2) c5 66 2 :: own) w' ∧ RepS (cPair (cInt .i64) (cSl cU8)) m3 a2 c2 y1.1 ∧ RepS (cPair cStr cStr) m3 a5 c5 o2) ?_ ?_
    ·clear hr st
     rintro _ w7 ⟨o2, a5, c5, m3, rfl, rfl, hm, st, r2, r5⟩
     have hr := hrKu1
     clear hrKu1
     dsimp only at hr
     refine X_block_eq ?_
     refine X_then ?_
     refine W_sr ?_
     refine WO_seg 2 [(74, .slice a2 (List.length y1.1) c2), (75, .int .i64 (IntKind.wrap .i64 ((List.length y1.1 : Int) - 1)))] (by kernel_rfl) (by kernel_rfl) ?_
     replace hr := bindS hr
     obtain ⟨x3, hx9, hr⟩ := hr
     refine WO_one rfl (One_index (d := 76) (t := 94) (e := 86) (x := (.tmp 74)) (y := (.tmp 75)) (cPair (cInt .i64) (cSl cU8)) (by kernel_rfl) rfl (show evL _ _ = some (.slice a2 (List.length y1.1) c2) from (by kernel_rfl)) (show evL _ _ = some (.int .i64 (IntKind.wrap .i64 ((List.length y1.1 : Int) - 1))) from (by kernel_rfl)) (by kernel_rfl) r2 hx9 ?_)
     rintro b8 f3 cs3 ⟨_, _, rfl, rfl, ⟨a13, c13, rfl, r14⟩⟩ hq3
     refine WO_seg 1 [(77, .pointer (some ⟨b8, f3 + 1, none⟩))] (by kernel_rfl) (by kernel_rfl) ?_
     refine WO_one rfl (One_load_row (d := 78) (t := 43) (x := (.tmp 77)) (.slice a13 (List.length x3.2) c13) (by kernel_rfl) rfl (show evL _ _ = some (.pointer (some ⟨b8, f3 + 1, none⟩)) from (by kernel_rfl)) st (hq3.drop 1) (by kernel_rfl) ?_)
     refine WO_seg 1 [(79, .agg #[.slice a13 (List.length x3.2) c13, .int .i64 0, .bool false])] (by kernel_rfl) (by kernel_rfl) ?_
     refine WO_one rfl (One_box_own (d := 80) (e := 99) (x := (.tmp 79)) (.agg #[.slice a13 (List.length x3.2) c13, .int .i64 0, .bool false]) (by kernel_rfl) rfl (by kernel_rfl) st ?_)
     clear st
     intro b9 w21 st
     refine WO_seg 1 [(13, .pointer (some ⟨b9, 0, none⟩))] (by kernel_rfl) (by kernel_rfl) ?_
     refine WO_end rfl ?_
     have st := st.front3
     have st := st.tail
     refine X_then ?_
     refine W_seq ?_
     refine W_sr ?_
     refine WO_seg 1 [(81, .pointer (some ⟨b9, 0, none⟩))] (by kernel_rfl) (by kernel_rfl) ?_
     replace hr := bindS hr
     obtain ⟨y5, hx10, hr⟩ := hr
     refine WO_one rfl (One_fn 82 81 #[.pointer (some ⟨b9, 0, none⟩)] (by kernel_rfl) rfl ?_)
     refine (revision_payload_number_ok st r14 hx10).mono ?_
     clear st
     rintro _ w22 ⟨a14, c14, m13, rfl, hle9, st, r15⟩
     refine ⟨_, rfl, ?_⟩
     have hm := Mem.le_trans hm hle9
     have r14 := r14.mono hle9
     have r5 := r5.mono hle9
     refine WO_seg 1 [(14, .int .u64 y5.2)] (by kernel_rfl) (by kernel_rfl) ?_
     refine WO_et rfl ?_
     refine W_sr ?_
     replace hr := bindS hr
     obtain ⟨o4, hr, hrK⟩ := hr
     refine WO_cut (j := 9) (fun L' w' => ∃ (a15 : Option Addr) (c15 : Nat) (m14 : Mem), L' = [(2, .pointer (some ⟨b1, 0, none⟩)), (8, .pointer (some ⟨b3, 0, none⟩)), (91, .bool o4.1)] ∧ m.le m14 ∧ St m14 (.blk b9 (.cells #[.slice a15 (List.length o4.2.1) c15, .int .i64 o4.2.2.1, .bool o4.2.2.2] 99 (0, 0)) :: .blk b3 (.cells #[.slice a5 (List.length o2) c5] 47 (0, 0)) :: .blk b1 (.cells #[.slice none (List.length ([] : List (ByteArray × ByteArray))) 0] 47 (0, 0)) :: .room a5 (List.length o2) c5 66 2 :: own) w' ∧ RepS cU8 m14 a15 c15 o4.2.1 ∧ RepS (cPair cStr cStr) m14 a5 c5 o2) ?_ ?_
     ·clear hr st
      have hr := hrK
      clear hrK
      rintro _ w23 ⟨a15, c15, m14, rfl, hm, st, r16, r5⟩
      refine WO_et rfl ?_
      refine W_cond o4.1 (by kernel_rfl) ?_ ?_
      ·intro hc
       rw [if_pos hc] at hr
       refine W_sr ?_
       refine WO_seg 1 [(92, .agg #[.slice none (List.length ([] : List (ByteArray × ByteArray))) 0])] (by kernel_rfl) (by kernel_rfl) ?_
       have st := st.front2
       refine WO_one rfl (One_store (t := 47) (x := (.tmp 2)) (y := (.tmp 92)) (v := .agg #[.slice none (List.length ([] : List (ByteArray × ByteArray))) 0]) (c' := #[.slice none (List.length ([] : List (ByteArray × ByteArray))) 0]) (by kernel_rfl) (show evL _ _ = some (.pointer (some ⟨b1, 0, none⟩)) from (by kernel_rfl)) (show evL _ _ = some (.agg #[.slice none (List.length ([] : List (ByteArray × ByteArray))) 0]) from (by kernel_rfl)) st (by kernel_rfl) (by kernel_rfl) ?_)
       clear st
       intro w25 st
       refine WO_seg 1 [(3, .int .i64 6)] (by kernel_rfl) (by kernel_rfl) ?_
       refine WO_et rfl ?_
       refine W_ret ?_
       refine X_then_ret ?_
       obtain rfl := Option.some.inj hr
       refine X_ret [.cell 2 47, .tmp 3] [.agg #[.slice none (List.length ([] : List (ByteArray × ByteArray))) 0], .int .i64 6] rfl (ResAll.cons (ResAt.blk (v := .agg #[.slice none (List.length ([] : List (ByteArray × ByteArray))) 0]) (o := 0) (by kernel_rfl) st.head (by kernel_rfl)) (ResAll.cons (ResAt.tmp (by kernel_rfl)) ResAll.nil)) ?_
       have st := st.nilroom 66 2
       have st := st.front1
       have st := st.tail
       have st := st.front1
       have st := st.tail
       have st := st.front1
       have st := st.tail
       have st := st.front1
       have st := st.tail
       exact ⟨none, 0, m14, rfl, hm, st, (RepS.nil _ _)⟩
      ·intro hc
       rw [if_neg (not_true hc)] at hr
       refine W_skip ?_
       refine X_then ?_
       refine W_seq ?_
       refine W_sr ?_
       refine WO_one rfl (One_load_own (d := 93) (t := 47) (x := (.tmp 8)) (.agg #[.slice a5 (List.length o2) c5]) (by kernel_rfl) rfl (show evL _ _ = some (.pointer (some ⟨b3, 0, none⟩)) from (by kernel_rfl)) st.tail.head (by kernel_rfl) ?_)
       replace hr := bindS hr
       obtain ⟨y7, hx12, hr⟩ := hr
       refine WO_one rfl (One_fn 94 26 #[.agg #[.slice a5 (List.length o2) c5]] (by kernel_rfl) rfl ?_)
       refine (revision_Check_ok st r5 hx12).mono ?_
       clear st
       rintro _ w26 ⟨m16, rfl, hle11, st⟩
       refine ⟨_, rfl, ?_⟩
       have hm := Mem.le_trans hm hle11
       have r5 := r5.mono hle11
       have r16 := r16.mono hle11
       refine WO_seg 1 [(15, .int .i64 y7)] (by kernel_rfl) (by kernel_rfl) ?_
       refine WO_et rfl ?_
       refine W_sr ?_
       refine WO_seg 2 [(96, .bool (y7 != 0))] (by kernel_rfl) (by kernel_rfl) ?_
       refine WO_et rfl ?_
       refine W_cond (y7 != 0) (by kernel_rfl) ?_ ?_
       ·intro hc
        rw [if_pos hc] at hr
        refine W_sr ?_
        refine WO_seg 2 [(97, .agg #[.slice none (List.length ([] : List (ByteArray × ByteArray))) 0]), (98, .int .i64 y7)] (by kernel_rfl) (by kernel_rfl) ?_
        have st := st.front2
        refine WO_one rfl (One_store (t := 47) (x := (.tmp 2)) (y := (.tmp 97)) (v := .agg #[.slice none (List.length ([] : List (ByteArray × ByteArray))) 0]) (c' := #[.slice none (List.length ([] : List (ByteArray × ByteArray))) 0]) (by kernel_rfl) (show evL _ _ = some (.pointer (some ⟨b1, 0, none⟩)) from (by kernel_rfl)) (show evL _ _ = some (.agg #[.slice none (List.length ([] : List (ByteArray × ByteArray))) 0]) from (by kernel_rfl)) st (by kernel_rfl) (by kernel_rfl) ?_)
        clear st
        intro w27 st
        refine WO_seg 1 [(3, .int .i64 y7)] (by kernel_rfl) (by kernel_rfl) ?_
        refine WO_et rfl ?_
        refine W_ret ?_
        refine X_then_ret ?_
        obtain rfl := Option.some.inj hr
        refine X_ret [.cell 2 47, .tmp 3] [.agg #[.slice none (List.length ([] : List (ByteArray × ByteArray))) 0], .int .i64 y7] rfl (ResAll.cons (ResAt.blk (v := .agg #[.slice none (List.length ([] : List (ByteArray × ByteArray))) 0]) (o := 0) (by kernel_rfl) st.head (by kernel_rfl)) (ResAll.cons (ResAt.tmp (by kernel_rfl)) ResAll.nil)) ?_
        have st := st.nilroom 66 2
        have st := st.front1
        have st := st.tail
        have st := st.front1
        have st := st.tail
        have st := st.front1
        have st := st.tail
        have st := st.front1
        have st := st.tail
        exact ⟨none, 0, m16, rfl, hm, st, (RepS.nil _ _)⟩
       ·intro hc
        rw [if_neg (not_true hc)] at hr
        refine W_skip ?_
        refine X_then ?_
        refine W_sr ?_
        refine WO_one rfl (One_load_own (d := 99) (t := 47) (x := (.tmp 8)) (.agg #[.slice a5 (List.length o2) c5]) (by kernel_rfl) rfl (show evL _ _ = some (.pointer (some ⟨b3, 0, none⟩)) from (by kernel_rfl)) st.tail.head (by kernel_rfl) ?_)
        have st := st.front2
        refine WO_one rfl (One_store (t := 47) (x := (.tmp 2)) (y := (.tmp 99)) (v := .agg #[.slice a5 (List.length o2) c5]) (c' := #[.slice a5 (List.length o2) c5]) (by kernel_rfl) (show evL _ _ = some (.pointer (some ⟨b1, 0, none⟩)) from (by kernel_rfl)) (show evL _ _ = some (.agg #[.slice a5 (List.length o2) c5]) from (by kernel_rfl)) st (by kernel_rfl) (by kernel_rfl) ?_)
        clear st
        intro w28 st
        refine WO_seg 1 [(3, .int .i64 0)] (by kernel_rfl) (by kernel_rfl) ?_
        refine WO_et rfl ?_
        refine W_ret ?_
        obtain rfl := Option.some.inj hr
        refine X_ret [.cell 2 47, .tmp 3] [.agg #[.slice a5 (List.length o2) c5], .int .i64 0] rfl (ResAll.cons (ResAt.blk (v := .agg #[.slice a5 (List.length o2) c5]) (o := 0) (by kernel_rfl) st.head (by kernel_rfl)) (ResAll.cons (ResAt.tmp (by kernel_rfl)) ResAll.nil)) ?_
        have st := st.tail
        have st := st.tail
        have st := st.tail
        exact ⟨a5, c5, m16, rfl, hm, st, r5⟩
     ·intro K
      clear hrK
      refine WO_seg 1 [(83, .pointer (some ⟨b9, 0, none⟩))] (by kernel_rfl) (by kernel_rfl) ?_
      replace hr := bindS hr
      obtain ⟨y6, hx11, hr⟩ := hr
      refine WO_one rfl (One_fn 84 80 #[.pointer (some ⟨b9, 0, none⟩)] (by kernel_rfl) rfl ?_)
      refine (revision_payload_end_ok st r15 hx11).mono ?_
      clear st
      rintro _ w24 ⟨a16, c16, m15, rfl, hle10, st, r17⟩
      refine ⟨_, rfl, ?_⟩
      have hm := Mem.le_trans hm hle10
      have r15 := r15.mono hle10
      have r5 := r5.mono hle10
      refine WO_seg 2 [(86, .bool (!y6.2))] (by kernel_rfl) (by kernel_rfl) ?_
      rcases bcases (!y6.2) with hc | hc
      ·rw [if_pos hc] at hr
       refine WO_fact (t := 86) (b := true) (!y6.2) (by kernel_rfl) hc ?_
       refine WO_seg 5 [(91, .bool true)] (by kernel_rfl) (by kernel_rfl) ?_
       obtain rfl := Option.some.inj hr
       have st := st.front3
       have st := st.front3
       have st := st.front3
       have st := st.front3
       exact WO_env _ (by kernel_rfl) (K _ _ ⟨a16, c16, m15, rfl, hm, st, r17, r5⟩)
      ·rw [if_neg (not_true hc)] at hr
       refine WO_fact (t := 86) (b := false) (!y6.2) (by kernel_rfl) hc ?_
       refine WO_seg 5 [(91, .bool (y5.2 != (IntKind.wrap .u64 (IntKind.wrap .i64 ((List.length y1.1 : Int) - 1)))))] (by kernel_rfl) (by kernel_rfl) ?_
       obtain rfl := Option.some.inj hr
       have st := st.front3
       have st := st.front3
       have st := st.front3
       have st := st.front3
       exact WO_env _ (by kernel_rfl) (K _ _ ⟨a16, c16, m15, rfl, hm, st, r17, r5⟩)
    intro K0_u1
    have st := st.nilroom 66 2
    have st := st.front3
    have st := st.front3
    have st := st.front3
    refine W_env _ (by kernel_rfl) (W_loop (fun k1 L' w' => ∃ (s1 : Int × (List (ByteArray × ByteArray))) (a6 : Option Addr) (c6 : Nat) (m4 : Mem), loopM (revision_Decode_L1 N l1) k1 s1 = some out1 ∧ L' = [(2, .pointer (some ⟨b1, 0, none⟩)), (4, .slice a2 (List.length y1.1) c2), (7, .int .i64 (IntKind.wrap .i64 ((List.length y1.1 : Int) - 1))), (8, .pointer (some ⟨b3, 0, none⟩)), (42, .slice a4 (List.length l1) c4), (43, .int .i64 (List.length l1 : Int)), (44, .int .i64 s1.1)] ∧ m.le m4 ∧ St m4 (.blk b3 (.cells #[.slice a6 (List.length s1.2) c6] 47 (0, 0)) :: .blk b1 (.cells #[.slice none (List.length ([] : List (ByteArray × ByteArray))) 0] 47 (0, 0)) :: .room a2 (List.length y1.1) c2 86 2 :: .room a6 (List.length s1.2) c6 66 2 :: own) w' ∧ RepS (cPair (cInt .i64) (cSl cU8)) m4 a2 c2 y1.1 ∧ RepS (cPair (cInt .i64) (cSl cU8)) m4 a4 c4 l1 ∧ RepS (cPair cStr cStr) m4 a6 c6 s1.2) N ⟨(0, ([] : List (ByteArray × ByteArray))), none, 0, m2, hr, rfl, hm, st, r2, r4, (RepS.nil _ _)⟩ ?_)
    clear st hr
    rintro k1 _ w8 ⟨s1, a6, c6, m4, hL, rfl, hm, st, r2, r4, r6⟩
    rcases k1 with _ | k1
    ·exact loopM_zero hL
    ·obtain ⟨qu1, hr, hSu1, hBu1⟩ := loopM_succ hL
     clear hL
     unfold revision_Decode_L1 at hr
     refine W_sr ?_
     refine WO_seg 1 [(45, .bool (decide (s1.1 < (List.length l1 : Int))))] (by kernel_rfl) (by kernel_rfl) ?_
     refine WO_et rfl ?_
     refine W_seq ?_
     refine W_cond (decide (s1.1 < (List.length l1 : Int))) (by kernel_rfl) ?_ ?_
     ·intro hc
      rw [if_pos hc] at hr
      refine W_skip ?_
      refine X_then ?_
      refine W_seq ?_
      refine W_block ?_
      refine W_sr ?_
      replace hr := bindS hr
      obtain ⟨x2, hx4, hr⟩ := hr
      refine WO_one rfl (One_index (d := 46) (t := 94) (e := 86) (x := (.tmp 42)) (y := (.tmp 44)) (cPair (cInt .i64) (cSl cU8)) (by kernel_rfl) rfl (show evL _ _ = some (.slice a4 (List.length l1) c4) from (by kernel_rfl)) (show evL _ _ = some (.int .i64 s1.1) from (by kernel_rfl)) (by kernel_rfl) r4 hx4 ?_)
      rintro b4 f2 cs2 ⟨_, _, rfl, rfl, ⟨a7, c7, rfl, r7⟩⟩ hq2
      refine WO_one rfl (One_load_row (d := 47) (t := 86) (x := (.tmp 46)) (.agg #[.int .i64 x2.1, .slice a7 (List.length x2.2) c7]) (by kernel_rfl) rfl (show evL _ _ = some (.pointer (some ⟨b4, f2, none⟩)) from (by kernel_rfl)) st hq2 (by kernel_rfl) ?_)
      refine WO_one rfl (One_alloc (d := 10) (e := 86) (.agg #[.int .i64 0, .slice none 0 0]) (by kernel_rfl) rfl (by kernel_rfl) st ?_)
      clear st
      intro b5 w9 st
      refine WO_one rfl (One_store (t := 86) (x := (.tmp 10)) (y := (.tmp 47)) (v := .agg #[.int .i64 x2.1, .slice a7 (List.length x2.2) c7]) (c' := #[.int .i64 x2.1, .slice a7 (List.length x2.2) c7]) (by kernel_rfl) (show evL _ _ = some (.pointer (some ⟨b5, 0, none⟩)) from (by kernel_rfl)) (show evL _ _ = some (.agg #[.int .i64 x2.1, .slice a7 (List.length x2.2) c7]) from (by kernel_rfl)) st (by kernel_rfl) (by kernel_rfl) ?_)
      clear st
      intro w10 st
      refine WO_et rfl ?_
      refine W_sr ?_
      refine WO_seg 1 [(48, .pointer (some ⟨b5, 1, none⟩))] (by kernel_rfl) (by kernel_rfl) ?_
      refine WO_one rfl (One_load_own (d := 49) (t := 43) (x := (.tmp 48)) (.slice a7 (List.length x2.2) c7) (by kernel_rfl) rfl (show evL _ _ = some (.pointer (some ⟨b5, 1, none⟩)) from (by kernel_rfl)) st.head (by kernel_rfl) ?_)
      refine WO_seg 1 [(50, .agg #[.slice a7 (List.length x2.2) c7, .int .i64 0, .bool false])] (by kernel_rfl) (by kernel_rfl) ?_
      refine WO_one rfl (One_box_own (d := 51) (e := 99) (x := (.tmp 50)) (.agg #[.slice a7 (List.length x2.2) c7, .int .i64 0, .bool false]) (by kernel_rfl) rfl (by kernel_rfl) st ?_)
      clear st
      intro b6 w11 st
      refine WO_seg 1 [(11, .pointer (some ⟨b6, 0, none⟩))] (by kernel_rfl) (by kernel_rfl) ?_
      refine WO_et rfl ?_
      refine W_sr ?_
      refine WO_seg 3 [(12, .func (.func 79) #[.pointer (some ⟨b6, 0, none⟩)] #[])] (by kernel_rfl) (by kernel_rfl) ?_
      refine WO_et rfl ?_
      refine W_seq ?_
      refine W_draw [(11, fun w' => Inv m4 w' ∧ True), (10, fun w' => Inv m4 w' ∧ Piece.holds m4 w' (.blk b3 (.cells #[.slice a6 (List.length s1.2) c6] 47 (0, 0))) ∧ True)] (by kernel_rfl) st ?_
      clear st
      intro w12 _ st
      have hmS1 := m4.le_refl
      refine ⟨⟨.inr ⟨Inv.anti st.inv hmS1, trivial⟩, ⟨.inr ⟨Inv.anti st.inv hmS1, Piece.holds_anti st.tail.tail.head hmS1, trivial⟩, trivial⟩⟩, ?_⟩
      refine WA_pure 0 54 (.pointer (some ⟨b3, 0, none⟩)) (by kernel_rfl) rfl (by kernel_rfl) (.head _) (QP_then (QP_block (QP_then (QP_then (QP_block (QP_then QP_body)))))) ?_
      refine WA_load_own (t := 45) (x := (.tmp 54)) 1 55 (.slice a6 (List.length s1.2) c6) (by kernel_rfl) rfl (by kernel_rfl) (.tail _ (.head _)) (QP_then (QP_block (QP_then (QP_then (QP_block (QP_then QP_body)))))) (fun _ h => h.2.1) (show evL _ _ = some (.pointer (some ⟨b3, 0, none⟩)) from (by kernel_rfl)) (by kernel_rfl) ?_
      refine WA_pure 2 56 (.func (.func 79) #[.pointer (some ⟨b6, 0, none⟩)] #[]) (by kernel_rfl) rfl (by kernel_rfl) (.head _) (QP_then (QP_block (QP_then (QP_then (QP_block (QP_then QP_body)))))) ?_
      refine WA_pure 4 58 (.func (.func 79) #[.pointer (some ⟨b6, 0, none⟩)] #[]) (by kernel_rfl) rfl (by kernel_rfl) (.head _) (QP_then (QP_block (QP_then (QP_then (QP_block (QP_then QP_body)))))) ?_
      replace hr := bindS hr
      obtain ⟨y2, hx5, hr⟩ := hr
      refine WA_one 3 (by kernel_rfl)  (One_fn 57 79 #[.pointer (some ⟨b6, 0, none⟩)] (by kernel_rfl) rfl ?_)
      refine (revision_payload_text_ok st r7 hx5).mono ?_
      clear st
      rintro _ w13 ⟨a8, c8, m6, rfl, hle3, st, r8⟩
      refine ⟨_, rfl, ?_⟩
      have hm := Mem.le_trans hm hle3
      have r2 := r2.mono hle3
      have r4 := r4.mono hle3
      have r6 := r6.mono hle3
      have r7 := r7.mono hle3
      have hmS1 := Mem.le_trans hmS1 hle3
      refine ⟨⟨.inr ⟨Inv.anti st.inv hmS1, trivial⟩, ⟨.inr ⟨Inv.anti st.inv hmS1, Piece.holds_anti st.tail.tail.head hmS1, trivial⟩, trivial⟩⟩, ?_⟩
      replace hr := bindS hr
      obtain ⟨y3, hx6, hr⟩ := hr
      refine WA_one 5 (by kernel_rfl)  (One_fn 59 79 #[.pointer (some ⟨b6, 0, none⟩)] (by kernel_rfl) rfl ?_)
      refine (revision_payload_text_ok st r8 hx6).mono ?_
      clear st
      rintro _ w14 ⟨a9, c9, m7, rfl, hle4, st, r9⟩
      refine ⟨_, rfl, ?_⟩
      have hm := Mem.le_trans hm hle4
      have r2 := r2.mono hle4
      have r4 := r4.mono hle4
      have r6 := r6.mono hle4
      have r8 := r8.mono hle4
      have r7 := r7.mono hle4
      have hmS1 := Mem.le_trans hmS1 hle4
      refine ⟨⟨.inr ⟨Inv.anti st.inv hmS1, trivial⟩, ⟨.inr ⟨Inv.anti st.inv hmS1, Piece.holds_anti st.tail.tail.head hmS1, trivial⟩, trivial⟩⟩, ?_⟩
      refine WA_pure 6 60 (.agg #[.string y2.2, .string y3.2]) (by kernel_rfl) rfl (by kernel_rfl) (.head _) (QP_then (QP_block (QP_then (QP_then (QP_block (QP_then QP_body)))))) ?_
      refine WA_one 7 (by kernel_rfl)  (One_buildSlice (d := 61) (t := 45) (e := 66) (len := 1) (parts := #[(0, (.tmp 60))]) (cPair cStr cStr) (xs := [(y2.2, y3.2)]) [.string y2.2, .string y3.2] (by kernel_rfl) rfl (fun _ => buildCells_run (by kernel_rfl) _) rfl rfl st ⟨[.string y2.2, .string y3.2], _, rfl, ⟨_, _, rfl, rfl, rfl⟩, rfl⟩ ?_)
      clear st
      intro b7 m8 w15 hle5 st r10
      have hm := Mem.le_trans hm hle5
      have r2 := r2.mono hle5
      have r4 := r4.mono hle5
      have r6 := r6.mono hle5
      have r9 := r9.mono hle5
      have r7 := r7.mono hle5
      have hmS1 := Mem.le_trans hmS1 hle5
      refine ⟨⟨.inr ⟨Inv.anti st.inv hmS1, trivial⟩, ⟨.inr ⟨Inv.anti st.inv hmS1, Piece.holds_anti st.tail.tail.tail.head hmS1, trivial⟩, trivial⟩⟩, ?_⟩
      have st := st.front6
      replace hr := bindS hr
      obtain ⟨l2, hx7, hr⟩ := hr
      refine WA_one 8 (by kernel_rfl)  (One_append (d := 62) (t := 45) (u := 45) (e := 66) (by_ := 32) (x := (.tmp 55)) (y := (.tmp 61)) (cPair cStr cStr) (by kernel_rfl) rfl (show evL _ _ = some (.slice a6 (List.length s1.2) c6) from (by kernel_rfl)) (show evL _ _ = some (.slice (some ⟨b7, 0, none⟩) (List.length ([(y2.2, y3.2)])) 1) from (by kernel_rfl)) st (by kernel_rfl) (.inl (by kernel_rfl)) r6 r10.src hx7 ?_)
      clear st
      intro a10 c10 m9 w16 hle6 st r11
      have hm := Mem.le_trans hm hle6
      have r2 := r2.mono hle6
      have r4 := r4.mono hle6
      have r6 := r6.mono hle6
      have r10 := r10.mono hle6
      have r9 := r9.mono hle6
      have r7 := r7.mono hle6
      have hmS1 := Mem.le_trans hmS1 hle6
      refine ⟨⟨.inr ⟨Inv.anti st.inv hmS1, trivial⟩, ⟨.inr ⟨Inv.anti st.inv hmS1, Piece.holds_anti st.tail.tail.tail.tail.head hmS1, trivial⟩, trivial⟩⟩, ?_⟩
      refine WA_pure 9 63 (.pointer (some ⟨b3, 0, none⟩)) (by kernel_rfl) rfl (by kernel_rfl) (.head _) (QP_then (QP_block (QP_then (QP_then (QP_block (QP_then QP_body)))))) ?_
      have st := st.front4
      refine WA_one 10 (by kernel_rfl)  (One_store (t := 45) (x := (.tmp 63)) (y := (.tmp 62)) (v := .slice a10 (List.length l2) c10) (c' := #[.slice a10 (List.length l2) c10]) (by kernel_rfl) (show evL _ _ = some (.pointer (some ⟨b3, 0, none⟩)) from (by kernel_rfl)) (show evL _ _ = some (.slice a10 (List.length l2) c10) from (by kernel_rfl)) st (by kernel_rfl) (by kernel_rfl) ?_)
      clear st
      intro w17 st
      refine ⟨⟨.inr ⟨Inv.anti st.inv hmS1, trivial⟩, ⟨.inl rfl, trivial⟩⟩, ?_⟩
      refine WA_done (by kernel_rfl) ?_
      have st := st.front2
      have st := st.tail
      refine X_then ?_
      refine W_sr ?_
      replace hr := bindS hr
      obtain ⟨o3, hr, hrK⟩ := hr
      refine WO_cut (j := 8) (fun L' w' => ∃ (a11 : Option Addr) (c11 : Nat) (m10 : Mem), L' = [(2, .pointer (some ⟨b1, 0, none⟩)), (4, .slice a2 (List.length y1.1) c2), (7, .int .i64 (IntKind.wrap .i64 ((List.length y1.1 : Int) - 1))), (8, .pointer (some ⟨b3, 0, none⟩)), (42, .slice a4 (List.length l1) c4), (43, .int .i64 (List.length l1 : Int)), (44, .int .i64 s1.1), (71, .bool o3.1)] ∧ m.le m10 ∧ St m10 (.blk b3 (.cells #[.slice a10 (List.length l2) c10] 47 (0, 0)) :: .blk b6 (.cells #[.slice a11 (List.length o3.2.1) c11, .int .i64 o3.2.2.1, .bool o3.2.2.2] 99 (0, 0)) :: .blk b5 (.cells #[.int .i64 x2.1, .slice a7 (List.length x2.2) c7] 86 (0, 0)) :: .blk b1 (.cells #[.slice none (List.length ([] : List (ByteArray × ByteArray))) 0] 47 (0, 0)) :: .room a10 (List.length l2) c10 66 2 :: .room a2 (List.length y1.1) c2 86 2 :: own) w' ∧ RepS (cPair (cInt .i64) (cSl cU8)) m10 a2 c2 y1.1 ∧ RepS (cPair (cInt .i64) (cSl cU8)) m10 a4 c4 l1 ∧ RepS (cPair cStr cStr) m10 a10 c10 l2 ∧ RepS cU8 m10 a11 c11 o3.2.1 ∧ RepS cU8 m10 a7 c7 x2.2) ?_ ?_
      ·clear hr st
       have hr := hrK
       clear hrK
       rintro _ w18 ⟨a11, c11, m10, rfl, hm, st, r2, r4, r11, r12, r7⟩
       refine WO_et rfl ?_
       refine W_cond o3.1 (by kernel_rfl) ?_ ?_
       ·intro hc
        rw [if_pos hc] at hr
        refine W_sr ?_
        refine WO_seg 1 [(72, .agg #[.slice none (List.length ([] : List (ByteArray × ByteArray))) 0])] (by kernel_rfl) (by kernel_rfl) ?_
        have st := st.front3
        refine WO_one rfl (One_store (t := 47) (x := (.tmp 2)) (y := (.tmp 72)) (v := .agg #[.slice none (List.length ([] : List (ByteArray × ByteArray))) 0]) (c' := #[.slice none (List.length ([] : List (ByteArray × ByteArray))) 0]) (by kernel_rfl) (show evL _ _ = some (.pointer (some ⟨b1, 0, none⟩)) from (by kernel_rfl)) (show evL _ _ = some (.agg #[.slice none (List.length ([] : List (ByteArray × ByteArray))) 0]) from (by kernel_rfl)) st (by kernel_rfl) (by kernel_rfl) ?_)
        clear st
        intro w20 st
        refine WO_seg 1 [(3, .int .i64 6)] (by kernel_rfl) (by kernel_rfl) ?_
        refine WO_end rfl ?_
        have st := st.front5
        have st := st.tail
        refine X_then ?_
        refine W_ret ?_
        refine X_block_ret ?_
        refine X_then_ret ?_
        obtain rfl := Option.some.inj hr
        have ho := hBu1 _ rfl
        subst ho
        have hr := hrKu1
        dsimp only at hr
        refine X_then_ret ?_
        refine X_block_ret ?_
        refine X_then_ret ?_
        obtain rfl := Option.some.inj hr
        refine X_ret [.cell 2 47, .tmp 3] [.agg #[.slice none (List.length ([] : List (ByteArray × ByteArray))) 0], .int .i64 6] rfl (ResAll.cons (ResAt.blk (v := .agg #[.slice none (List.length ([] : List (ByteArray × ByteArray))) 0]) (o := 0) (by kernel_rfl) st.head (by kernel_rfl)) (ResAll.cons (ResAt.tmp (by kernel_rfl)) ResAll.nil)) ?_
        have st := st.nilroom 66 2
        have st := st.front1
        have st := st.tail
        have st := st.front1
        have st := st.tail
        have st := st.front1
        have st := st.tail
        have st := st.front1
        have st := st.tail
        have st := st.front1
        have st := st.tail
        exact ⟨none, 0, m10, rfl, hm, st, (RepS.nil _ _)⟩
       ·intro hc
        rw [if_neg (not_true hc)] at hr
        refine W_skip ?_
        refine X_block ?_
        refine X_then ?_
        refine W_region ?_
        refine WO_seg 2 [(44, .int .i64 (IntKind.wrap .i64 (s1.1 + 1)))] (by kernel_rfl) (by kernel_rfl) ?_
        refine WO_end rfl ?_
        obtain rfl := Option.some.inj hr
        have hL := hSu1 _ rfl
        have st := st.front1
        have st := st.tail
        have st := st.front1
        have st := st.tail
        have st := st.front2
        have st := st.front3
        have st := st.front3
        have st := st.front3
        exact X_env _ (by kernel_rfl) (X_round k1 (Nat.lt_succ_self _) ⟨(IntKind.wrap .i64 (s1.1 + 1), l2), a10, c10, m10, hL, rfl, hm, st, r2, r4, r11⟩)
      ·intro K
       clear hrK
       refine WO_seg 1 [(64, .pointer (some ⟨b5, 0, none⟩))] (by kernel_rfl) (by kernel_rfl) ?_
       refine WO_one rfl (One_load_own (d := 65) (t := 3) (x := (.tmp 64)) (.int .i64 x2.1) (by kernel_rfl) rfl (show evL _ _ = some (.pointer (some ⟨b5, 0, none⟩)) from (by kernel_rfl)) st.tail.tail.tail.head (by kernel_rfl) ?_)
       refine WO_seg 2 [(67, .bool (x2.1 != 1))] (by kernel_rfl) (by kernel_rfl) ?_
       rcases bcases (x2.1 != 1) with hc | hc
       ·rw [if_pos hc] at hr
        refine WO_fact (t := 67) (b := true) (x2.1 != 1) (by kernel_rfl) hc ?_
        refine WO_seg 4 [(71, .bool true)] (by kernel_rfl) (by kernel_rfl) ?_
        obtain rfl := Option.some.inj hr
        have st := st.front5
        have st := st.front2
        have st := st.front5
        have st := st.front5
        have st := st.front5
        have st := st.front5
        exact WO_env _ (by kernel_rfl) (K _ _ ⟨a9, c9, m9, rfl, hm, st, r2, r4, r11, r9, r7⟩)
       ·rw [if_neg (not_true hc)] at hr
        refine WO_fact (t := 67) (b := false) (x2.1 != 1) (by kernel_rfl) hc ?_
        refine WO_seg 1 [(68, .pointer (some ⟨b6, 0, none⟩))] (by kernel_rfl) (by kernel_rfl) ?_
        have st := st.front2
        replace hr := bindS hr
        obtain ⟨y4, hx8, hr⟩ := hr
        refine WO_one rfl (One_fn 69 80 #[.pointer (some ⟨b6, 0, none⟩)] (by kernel_rfl) rfl ?_)
        refine (revision_payload_end_ok st r9 hx8).mono ?_
        clear st
        rintro _ w19 ⟨a12, c12, m11, rfl, hle7, st, r13⟩
        refine ⟨_, rfl, ?_⟩
        have hm := Mem.le_trans hm hle7
        have r2 := r2.mono hle7
        have r4 := r4.mono hle7
        have r9 := r9.mono hle7
        have r11 := r11.mono hle7
        have r7 := r7.mono hle7
        refine WO_seg 2 [(71, .bool (!y4.2))] (by kernel_rfl) (by kernel_rfl) ?_
        obtain rfl := Option.some.inj hr
        have st := st.front5
        have st := st.front3
        have st := st.front5
        have st := st.front5
        have st := st.front4
        have st := st.front5
        exact WO_env _ (by kernel_rfl) (K _ _ ⟨a12, c12, m11, rfl, hm, st, r2, r4, r11, r13, r7⟩)
     ·intro hc
      rw [if_neg (not_true hc)] at hr
      refine W_exit ?_
      refine X_then_exit ?_
      obtain rfl := Option.some.inj hr
      have ho := hBu1 _ rfl
      have st := st.front3
      have st := st.front3
      have st := st.front3
      have st := st.front3
      refine X_then_exit ?_
      exact X_env _ (by kernel_rfl) (K0_u1 _ _ ⟨s1.2, a6, c6, m4, ho, rfl, hm, st, r2, r6⟩)
  ·intro K
   clear hrK
   refine WO_seg 3 [(31, .bool (decide ((IntKind.wrap .i64 ((List.length y1.1 : Int) - 1)) < 0)))] (by kernel_rfl) (by kernel_rfl) ?_
   rcases bcases (decide ((IntKind.wrap .i64 ((List.length y1.1 : Int) - 1)) < 0)) with hc | hc
   ·rw [if_pos hc] at hr
    refine WO_fact (t := 31) (b := true) (decide ((IntKind.wrap .i64 ((List.length y1.1 : Int) - 1)) < 0)) (by kernel_rfl) hc ?_
    refine WO_seg 7 [(38, .bool true)] (by kernel_rfl) (by kernel_rfl) ?_
    obtain rfl := Option.some.inj hr
    have st := st.front1
    exact WO_env _ (by kernel_rfl) (K _ _ ⟨m1, rfl, hm, st, r2⟩)
   ·rw [if_neg (not_true hc)] at hr
    refine WO_fact (t := 31) (b := false) (decide ((IntKind.wrap .i64 ((List.length y1.1 : Int) - 1)) < 0)) (by kernel_rfl) hc ?_
    refine WO_seg 2 [(32, .slice a2 (List.length y1.1) c2), (33, .int .i64 (IntKind.wrap .i64 ((List.length y1.1 : Int) - 1)))] (by kernel_rfl) (by kernel_rfl) ?_
    replace hr := bindS hr
    obtain ⟨x1, hx2, hr⟩ := hr
    refine WO_one rfl (One_index (d := 34) (t := 94) (e := 86) (x := (.tmp 32)) (y := (.tmp 33)) (cPair (cInt .i64) (cSl cU8)) (by kernel_rfl) rfl (show evL _ _ = some (.slice a2 (List.length y1.1) c2) from (by kernel_rfl)) (show evL _ _ = some (.int .i64 (IntKind.wrap .i64 ((List.length y1.1 : Int) - 1))) from (by kernel_rfl)) (by kernel_rfl) r2 hx2 ?_)
    rintro b2 f1 cs1 ⟨_, _, rfl, rfl, ⟨a3, c3, rfl, r3⟩⟩ hq1
    refine WO_seg 1 [(35, .pointer (some ⟨b2, f1, none⟩))] (by kernel_rfl) (by kernel_rfl) ?_
    refine WO_one rfl (One_load_row (d := 36) (t := 3) (x := (.tmp 35)) (.int .i64 x1.1) (by kernel_rfl) rfl (show evL _ _ = some (.pointer (some ⟨b2, f1, none⟩)) from (by kernel_rfl)) st hq1 (by kernel_rfl) ?_)
    refine WO_seg 2 [(38, .bool (x1.1 != 2))] (by kernel_rfl) (by kernel_rfl) ?_
    obtain rfl := Option.some.inj hr
    have st := st.front1
    exact WO_env _ (by kernel_rfl) (K _ _ ⟨m1, rfl, hm, st, r2⟩)

def testgateref07_Same_L1 (N : Nat) (p0 : (List (ByteArray × ByteArray))) (p1 : (List (ByteArray × ByteArray))) (s1 : Int) : Option ((Int) ⊕ ((Unit) ⊕ (Bool))) :=
 if (decide (s1 < (List.length p0 : Int))) = true then ((idx p0 s1).bind fun x1 => (idx p1 s1).bind fun x2 => if (!((x1.1.toList == x2.1.toList) && ((x1.2.toList == x2.2.toList) && true))) = true then (some (.inr (.inr (false)))) else (some (.inl (IntKind.wrap .i64 (s1 + 1))))) else (some (.inr (.inl ())))

def testgateref07_Same (N : Nat) (p0 : (List (ByteArray × ByteArray))) (p1 : (List (ByteArray × ByteArray))) : Option (Bool) :=
 if ((List.length p0 : Int) != (List.length p1 : Int)) = true then (some false) else ((loopM (testgateref07_Same_L1 N p0 p1) N 0).bind fun out1 => (match out1 with | .inl o1 => some true | .inr (z) => some z))

set_option maxHeartbeats 4000000 in
set_option maxRecDepth 100000 in
theorem testgateref07_Same_ok {N : Nat} {m : Mem} {own : List Piece} {w : World} {p0 : (List (ByteArray × ByteArray))} {p1 : (List (ByteArray × ByteArray))} {a1 : Option Addr} {c1 : Nat} {a2 : Option Addr} {c2 : Nat} {r : Bool} (st : St m (own) w) (r1 : RepS (cPair cStr cStr) m a1 c1 p0) (r2 : RepS (cPair cStr cStr) m a2 c2 p1) (hr : testgateref07_Same N p0 p1 = some r) : Calls Go.Proofs.Tryd.prog 29 #[.agg #[.slice a1 (List.length p0) c1], .agg #[.slice a2 (List.length p1) c2]] w fun e w' => ∃ (m' : Mem), e = .returned (.bool r) ∧ m.le m' ∧ St m' (own) w' := by
 unfold testgateref07_Same at hr
 have hm := m.le_refl
 refine W_calls Go.Proofs.Tryd.func29 rfl Go.Proofs.Tryd.ntmps29 [(0, .agg #[.slice a1 (List.length p0) c1]), (1, .agg #[.slice a2 (List.length p1) c2])] (by kernel_rfl) rfl ?_
 refine W_sr ?_
 refine WO_one rfl (One_box (d := 2) (e := 47) (x := (.tmp 0)) (.agg #[.slice a1 (List.length p0) c1]) (by kernel_rfl) rfl (by kernel_rfl) st ?_)
 clear st
 intro b1 m1 w1 hle1 st hb1
 have hm := Mem.le_trans hm hle1
 have r1 := r1.mono hle1
 have r2 := r2.mono hle1
 refine WO_one rfl (One_box (d := 3) (e := 47) (x := (.tmp 1)) (.agg #[.slice a2 (List.length p1) c2]) (by kernel_rfl) rfl (by kernel_rfl) st ?_)
 clear st
 intro b2 m2 w2 hle2 st hb2
 have hm := Mem.le_trans hm hle2
 have r1 := r1.mono hle2
 have r2 := r2.mono hle2
 have hb1 := hb1.mono hle2
 refine WO_seg 1 [] (by kernel_rfl) (by kernel_rfl) ?_
 refine WO_et rfl ?_
 refine W_seq ?_
 refine W_sr ?_
 refine WO_seg 1 [(6, .pointer (some ⟨b1, 0, none⟩))] (by kernel_rfl) (by kernel_rfl) ?_
 refine WO_one rfl (One_load_row (d := 7) (t := 45) (x := (.tmp 6)) (.slice a1 (List.length p0) c1) (by kernel_rfl) rfl (show evL _ _ = some (.pointer (some ⟨b1, 0, none⟩)) from (by kernel_rfl)) st hb1 (by kernel_rfl) ?_)
 refine WO_seg 2 [(8, .int .i64 (List.length p0 : Int)), (9, .pointer (some ⟨b2, 0, none⟩))] (by kernel_rfl) (by kernel_rfl) ?_
 refine WO_one rfl (One_load_row (d := 10) (t := 45) (x := (.tmp 9)) (.slice a2 (List.length p1) c2) (by kernel_rfl) rfl (show evL _ _ = some (.pointer (some ⟨b2, 0, none⟩)) from (by kernel_rfl)) st hb2 (by kernel_rfl) ?_)
 refine WO_seg 2 [(12, .bool ((List.length p0 : Int) != (List.length p1 : Int)))] (by kernel_rfl) (by kernel_rfl) ?_
 refine WO_et rfl ?_
 refine W_cond ((List.length p0 : Int) != (List.length p1 : Int)) (by kernel_rfl) ?_ ?_
 ·intro hc
  rw [if_pos hc] at hr
  refine W_sr ?_
  refine WO_seg 1 [(4, .bool false)] (by kernel_rfl) (by kernel_rfl) ?_
  refine WO_et rfl ?_
  refine W_ret ?_
  refine X_then_ret ?_
  obtain rfl := Option.some.inj hr
  refine X_ret [.tmp 4] [.bool false] rfl (ResAll.cons (ResAt.tmp (by kernel_rfl)) ResAll.nil) ?_
  exact ⟨m2, rfl, hm, st⟩
 ·intro hc
  rw [if_neg (not_true hc)] at hr
  refine W_skip ?_
  refine X_then ?_
  refine W_seq ?_
  refine W_sr ?_
  refine WO_seg 1 [(13, .pointer (some ⟨b1, 0, none⟩))] (by kernel_rfl) (by kernel_rfl) ?_
  refine WO_one rfl (One_load_row (d := 14) (t := 45) (x := (.tmp 13)) (.slice a1 (List.length p0) c1) (by kernel_rfl) rfl (show evL _ _ = some (.pointer (some ⟨b1, 0, none⟩)) from (by kernel_rfl)) st hb1 (by kernel_rfl) ?_)
  refine WO_seg 2 [(15, .int .i64 (List.length p0 : Int)), (16, .int .i64 0)] (by kernel_rfl) (by kernel_rfl) ?_
  refine WO_et rfl ?_
  refine W_block ?_
  replace hr := bindS hr
  obtain ⟨out1, hr, hrKu1⟩ := hr
  refine W_cut (.exit 0) (fun L' w' => ∃ (o1 : Unit) (m3 : Mem), (.inl o1) = out1 ∧ L' = [] ∧ m.le m3 ∧ St m3 (own) w') ?_ ?_
  ·clear hr st
   rintro _ w3 ⟨o1, m3, rfl, rfl, hm, st⟩
   have hr := hrKu1
   clear hrKu1
   dsimp only at hr
   refine X_block_eq ?_
   refine X_then ?_
   refine W_sr ?_
   refine WO_seg 1 [(4, .bool true)] (by kernel_rfl) (by kernel_rfl) ?_
   refine WO_et rfl ?_
   refine W_ret ?_
   obtain rfl := Option.some.inj hr
   refine X_ret [.tmp 4] [.bool true] rfl (ResAll.cons (ResAt.tmp (by kernel_rfl)) ResAll.nil) ?_
   exact ⟨m3, rfl, hm, st⟩
  intro K0_u1
  refine W_env _ (by kernel_rfl) (W_loop (fun k1 L' w' => ∃ (s1 : Int) (m4 : Mem), loopM (testgateref07_Same_L1 N p0 p1) k1 s1 = some out1 ∧ L' = [(2, .pointer (some ⟨b1, 0, none⟩)), (3, .pointer (some ⟨b2, 0, none⟩)), (15, .int .i64 (List.length p0 : Int)), (16, .int .i64 s1)] ∧ m.le m4 ∧ St m4 (own) w' ∧ MRow m4 b1 0 [.slice a1 (List.length p0) c1] ∧ RepS (cPair cStr cStr) m4 a1 c1 p0 ∧ MRow m4 b2 0 [.slice a2 (List.length p1) c2] ∧ RepS (cPair cStr cStr) m4 a2 c2 p1) N ⟨0, m2, hr, rfl, hm, st, hb1, r1, hb2, r2⟩ ?_)
  clear st hr
  rintro k1 _ w4 ⟨s1, m4, hL, rfl, hm, st, hb1, r1, hb2, r2⟩
  rcases k1 with _ | k1
  ·exact loopM_zero hL
  ·obtain ⟨qu1, hr, hSu1, hBu1⟩ := loopM_succ hL
   clear hL
   unfold testgateref07_Same_L1 at hr
   refine W_sr ?_
   refine WO_seg 1 [(17, .bool (decide (s1 < (List.length p0 : Int))))] (by kernel_rfl) (by kernel_rfl) ?_
   refine WO_et rfl ?_
   refine W_seq ?_
   refine W_cond (decide (s1 < (List.length p0 : Int))) (by kernel_rfl) ?_ ?_
   ·intro hc
    rw [if_pos hc] at hr
    refine W_skip ?_
    refine X_then ?_
    refine W_seq ?_
    refine W_block ?_
    refine W_sr ?_
    refine WO_seg 2 [(5, .int .i64 s1)] (by kernel_rfl) (by kernel_rfl) ?_
    refine WO_et rfl ?_
    refine W_seq ?_
    refine W_draw [(11, fun w' => Inv m4 w' ∧ True)] (by kernel_rfl) st ?_
    clear st
    intro w5 _ st
    have hmS1 := m4.le_refl
    refine ⟨⟨.inr ⟨Inv.anti st.inv hmS1, trivial⟩, trivial⟩, ?_⟩
    refine WA_pure 0 19 (.pointer (some ⟨b1, 0, none⟩)) (by kernel_rfl) rfl (by kernel_rfl) (.head _) (QP_then (QP_block (QP_then (QP_then (QP_block (QP_then QP_body)))))) ?_
    refine WA_load_row (t := 45) (x := (.tmp 19)) 1 20 (.slice a1 (List.length p0) c1) (by kernel_rfl) rfl (by kernel_rfl) (.head _) (QP_then (QP_block (QP_then (QP_then (QP_block (QP_then QP_body)))))) (fun _ h => h.1) (show evL _ _ = some (.pointer (some ⟨b1, 0, none⟩)) from (by kernel_rfl)) hb1 (by kernel_rfl) ?_
    refine WA_pure 2 21 (.int .i64 s1) (by kernel_rfl) rfl (by kernel_rfl) (.head _) (QP_then (QP_block (QP_then (QP_then (QP_block (QP_then QP_body)))))) ?_
    replace hr := bindS hr
    obtain ⟨x1, hx1, hr⟩ := hr
    refine WA_index (t := 45) (e := 66) (x := (.tmp 20)) (y := (.tmp 21)) 3 22 (cPair cStr cStr) (by kernel_rfl) rfl (by kernel_rfl) (.head _) (QP_then (QP_block (QP_then (QP_then (QP_block (QP_then QP_body)))))) (show evL _ _ = some (.slice a1 (List.length p0) c1) from (by kernel_rfl)) (show evL _ _ = some (.int .i64 s1) from (by kernel_rfl)) (by kernel_rfl) r1 hx1 ?_
    rintro b3 f1 cs1 ⟨_, _, rfl, rfl, rfl⟩ hq1
    refine WA_load_row (t := 66) (x := (.tmp 22)) 4 23 (.agg #[.string x1.1, .string x1.2]) (by kernel_rfl) rfl (by kernel_rfl) (.head _) (QP_then (QP_block (QP_then (QP_then (QP_block (QP_then QP_body)))))) (fun _ h => h.1) (show evL _ _ = some (.pointer (some ⟨b3, f1, none⟩)) from (by kernel_rfl)) hq1 (by kernel_rfl) ?_
    refine WA_pure 5 24 (.pointer (some ⟨b2, 0, none⟩)) (by kernel_rfl) rfl (by kernel_rfl) (.head _) (QP_then (QP_block (QP_then (QP_then (QP_block (QP_then QP_body)))))) ?_
    refine WA_load_row (t := 45) (x := (.tmp 24)) 6 25 (.slice a2 (List.length p1) c2) (by kernel_rfl) rfl (by kernel_rfl) (.head _) (QP_then (QP_block (QP_then (QP_then (QP_block (QP_then QP_body)))))) (fun _ h => h.1) (show evL _ _ = some (.pointer (some ⟨b2, 0, none⟩)) from (by kernel_rfl)) hb2 (by kernel_rfl) ?_
    refine WA_pure 7 26 (.int .i64 s1) (by kernel_rfl) rfl (by kernel_rfl) (.head _) (QP_then (QP_block (QP_then (QP_then (QP_block (QP_then QP_body)))))) ?_
    replace hr := bindS hr
    obtain ⟨x2, hx2, hr⟩ := hr
    refine WA_index (t := 45) (e := 66) (x := (.tmp 25)) (y := (.tmp 26)) 8 27 (cPair cStr cStr) (by kernel_rfl) rfl (by kernel_rfl) (.head _) (QP_then (QP_block (QP_then (QP_then (QP_block (QP_then QP_body)))))) (show evL _ _ = some (.slice a2 (List.length p1) c2) from (by kernel_rfl)) (show evL _ _ = some (.int .i64 s1) from (by kernel_rfl)) (by kernel_rfl) r2 hx2 ?_
    rintro b4 f2 cs2 ⟨_, _, rfl, rfl, rfl⟩ hq2
    refine WA_load_row (t := 66) (x := (.tmp 27)) 9 28 (.agg #[.string x2.1, .string x2.2]) (by kernel_rfl) rfl (by kernel_rfl) (.head _) (QP_then (QP_block (QP_then (QP_then (QP_block (QP_then QP_body)))))) (fun _ h => h.1) (show evL _ _ = some (.pointer (some ⟨b4, f2, none⟩)) from (by kernel_rfl)) hq2 (by kernel_rfl) ?_
    refine WA_one 10 (by kernel_rfl)  (One_neAgg (d := 29) (t := 66) (t2 := 66) (x := (.tmp 23)) (y := (.tmp 28)) (xs := #[.string x1.1, .string x1.2]) (ys := #[.string x2.1, .string x2.2]) ((x1.1.toList == x2.1.toList) && ((x1.2.toList == x2.2.toList) && true)) (by kernel_rfl) rfl (show evL _ _ = some (.agg #[.string x1.1, .string x1.2]) from (by kernel_rfl)) (show evL _ _ = some (.agg #[.string x2.1, .string x2.2]) from (by kernel_rfl)) (by kernel_rfl) (by kernel_rfl) (by kernel_rfl) ?_)
    refine ⟨⟨.inr ⟨Inv.anti st.inv hmS1, trivial⟩, trivial⟩, ?_⟩
    refine WA_done (by kernel_rfl) ?_
    refine X_then ?_
    refine W_cond (!((x1.1.toList == x2.1.toList) && ((x1.2.toList == x2.2.toList) && true))) (by kernel_rfl) ?_ ?_
    ·intro hc
     rw [if_pos hc] at hr
     refine W_sr ?_
     refine WO_seg 1 [(4, .bool false)] (by kernel_rfl) (by kernel_rfl) ?_
     refine WO_et rfl ?_
     refine W_ret ?_
     refine X_block_ret ?_
     refine X_then_ret ?_
     obtain rfl := Option.some.inj hr
     have ho := hBu1 _ rfl
     subst ho
     have hr := hrKu1
     dsimp only at hr
     refine X_then_ret ?_
     refine X_block_ret ?_
     refine X_then_ret ?_
     obtain rfl := Option.some.inj hr
     refine X_ret [.tmp 4] [.bool false] rfl (ResAll.cons (ResAt.tmp (by kernel_rfl)) ResAll.nil) ?_
     exact ⟨m4, rfl, hm, st⟩
    ·intro hc
     rw [if_neg (not_true hc)] at hr
     refine W_skip ?_
     refine X_block ?_
     refine X_then ?_
     refine W_region ?_
     refine WO_seg 2 [(16, .int .i64 (IntKind.wrap .i64 (s1 + 1)))] (by kernel_rfl) (by kernel_rfl) ?_
     refine WO_end rfl ?_
     obtain rfl := Option.some.inj hr
     have hL := hSu1 _ rfl
     exact X_env _ (by kernel_rfl) (X_round k1 (Nat.lt_succ_self _) ⟨IntKind.wrap .i64 (s1 + 1), m4, hL, rfl, hm, st, hb1, r1, hb2, r2⟩)
   ·intro hc
    rw [if_neg (not_true hc)] at hr
    refine W_exit ?_
    refine X_then_exit ?_
    obtain rfl := Option.some.inj hr
    have ho := hBu1 _ rfl
    refine X_then_exit ?_
    exact X_env _ (by kernel_rfl) (K0_u1 _ _ ⟨(), m4, ho, rfl, hm, st⟩)

def revision_at_L1 (N : Nat) (p0 : (List (ByteArray × ByteArray))) (p1 : ByteArray) (s1 : Int × Int) : Option ((Int × Int) ⊕ ((Int))) :=
 if (decide (s1.1 < s1.2)) = true then ((idx p0 (IntKind.wrap .i64 (Int.fdiv (IntKind.wrap .u64 (IntKind.wrap .i64 (s1.1 + s1.2))) (2 ^ 1)))).bind fun x1 => if (!(!Op.bytesLess x1.1.toList p1.toList)) = true then (some (.inl (IntKind.wrap .i64 ((IntKind.wrap .i64 (Int.fdiv (IntKind.wrap .u64 (IntKind.wrap .i64 (s1.1 + s1.2))) (2 ^ 1))) + 1), s1.2))) else (some (.inl (s1.1, IntKind.wrap .i64 (Int.fdiv (IntKind.wrap .u64 (IntKind.wrap .i64 (s1.1 + s1.2))) (2 ^ 1)))))) else (some (.inr s1.1))

def revision_at (N : Nat) (p0 : (List (ByteArray × ByteArray))) (p1 : ByteArray) : Option (Int × Bool) :=
 ((loopM (revision_at_L1 N p0 p1) N (0, (List.length p0 : Int))).bind fun o2 => some o2 : Option (Int)).bind fun o1 => (if (decide (o1 < (List.length p0 : Int))) = true then ((idx p0 o1).bind fun x2 => some (x2.1.toList == p1.toList)) else (some false) : Option (Bool)).bind fun o3 => some (o1, o3)

set_option maxHeartbeats 4000000 in
set_option maxRecDepth 100000 in
theorem revision_at_ok {N : Nat} {m : Mem} {own : List Piece} {w : World} {p0 : (List (ByteArray × ByteArray))} {p1 : ByteArray} {a1 : Option Addr} {c1 : Nat} {r : Int × Bool} (st : St m (own) w) (r1 : RepS (cPair cStr cStr) m a1 c1 p0) (hr : revision_at N p0 p1 = some r) : Calls Go.Proofs.Tryd.prog 58 #[.agg #[.slice a1 (List.length p0) c1], .string p1] w fun e w' => ∃ (m' : Mem), e = .returned (.tuple #[.int .i64 r.1, .bool r.2]) ∧ m.le m' ∧ St m' (own) w' := by
 unfold revision_at at hr
 have hm := m.le_refl
 refine W_calls Go.Proofs.Tryd.func58 rfl Go.Proofs.Tryd.ntmps58 [(0, .agg #[.slice a1 (List.length p0) c1]), (1, .string p1)] (by kernel_rfl) rfl ?_
 refine W_sr ?_
 refine WO_one rfl (One_box_own (d := 2) (e := 47) (x := (.tmp 0)) (.agg #[.slice a1 (List.length p0) c1]) (by kernel_rfl) rfl (by kernel_rfl) st ?_)
 clear st
 intro b1 w1 st
 refine WO_one rfl (One_box_own (d := 3) (e := 9) (x := (.tmp 1)) (.string p1) (by kernel_rfl) rfl (by kernel_rfl) st ?_)
 clear st
 intro b2 w2 st
 refine WO_seg 2 [] (by kernel_rfl) (by kernel_rfl) ?_
 refine WO_et rfl ?_
 refine W_sr ?_
 refine WO_seg 1 [(7, .pointer (some ⟨b1, 0, none⟩))] (by kernel_rfl) (by kernel_rfl) ?_
 refine WO_one rfl (One_load_own (d := 8) (t := 45) (x := (.tmp 7)) (.slice a1 (List.length p0) c1) (by kernel_rfl) rfl (show evL _ _ = some (.pointer (some ⟨b1, 0, none⟩)) from (by kernel_rfl)) st.tail.head (by kernel_rfl) ?_)
 refine WO_seg 2 [(9, .int .i64 (List.length p0 : Int)), (10, .func (.func 88) #[] #[.pointer (some ⟨b1, 0, none⟩), .pointer (some ⟨b2, 0, none⟩)])] (by kernel_rfl) (by kernel_rfl) ?_
 replace hr := bindS hr
 obtain ⟨o1, hr, hrKu1⟩ := hr
 refine WO_one rfl (One_fn 11 87 #[.int .i64 (List.length p0 : Int), .func (.func 88) #[] #[.pointer (some ⟨b1, 0, none⟩), .pointer (some ⟨b2, 0, none⟩)]] (by kernel_rfl) rfl ?_)
 refine Calls_cut (fun v' w' => ∃ (m3 : Mem), v' = (.int .i64 o1) ∧ m.le m3 ∧ St m3 (.blk b2 (.cells #[.string p1] 9 (0, 0)) :: .blk b1 (.cells #[.slice a1 (List.length p0) c1] 47 (0, 0)) :: own) w' ∧ RepS (cPair cStr cStr) m3 a1 c1 p0) ?_ ?_
 ·clear hr st
  have hr := hrKu1
  clear hrKu1
  rintro _ w3 ⟨m3, rfl, hm, st, r1⟩
  refine ⟨_, rfl, ?_⟩
  refine WO_seg 1 [(6, .int .i64 o1)] (by kernel_rfl) (by kernel_rfl) ?_
  refine WO_et rfl ?_
  refine W_seq ?_
  replace hr := bindS hr
  obtain ⟨o3, hr, hrK⟩ := hr
  refine W_cut .normal (fun L' w' => ∃ (m6 : Mem), L' = [(4, .int .i64 o1), (5, .bool o3)] ∧ m.le m6 ∧ St m6 (.blk b2 (.cells #[.string p1] 9 (0, 0)) :: .blk b1 (.cells #[.slice a1 (List.length p0) c1] 47 (0, 0)) :: own) w' ∧ RepS (cPair cStr cStr) m6 a1 c1 p0) ?_ ?_
  ·clear hr st
   have hr := hrK
   clear hrK
   rintro _ w7 ⟨m6, rfl, hm, st, r1⟩
   refine X_then ?_
   refine W_ret ?_
   obtain rfl := Option.some.inj hr
   refine X_ret [.tmp 4, .tmp 5] [.int .i64 o1, .bool o3] rfl (ResAll.cons (ResAt.tmp (by kernel_rfl)) (ResAll.cons (ResAt.tmp (by kernel_rfl)) ResAll.nil)) ?_
   have st := st.tail
   have st := st.tail
   exact ⟨m6, rfl, hm, st⟩
  ·intro K
   clear hrK
   refine W_draw [(18, fun w' => Inv m3 w' ∧ Piece.holds m3 w' (.blk b2 (.cells #[.string p1] 9 (0, 0))) ∧ Piece.holds m3 w' (.blk b1 (.cells #[.slice a1 (List.length p0) c1] 47 (0, 0))) ∧ True)] (by kernel_rfl) st ?_
   clear st
   intro w8 _ st
   have hmS2 := m3.le_refl
   refine ⟨⟨.inr ⟨Inv.anti st.inv hmS2, Piece.holds_anti st.head hmS2, Piece.holds_anti st.tail.head hmS2, trivial⟩, trivial⟩, ?_⟩
   refine WA_pure 0 12 (.int .i64 o1) (by kernel_rfl) rfl (by kernel_rfl) (.head _) (QP_then QP_body) ?_
   refine WA_pure 1 13 (.int .i64 o1) (by kernel_rfl) rfl (by kernel_rfl) (.head _) (QP_then QP_body) ?_
   refine WA_pure 2 14 (.pointer (some ⟨b1, 0, none⟩)) (by kernel_rfl) rfl (by kernel_rfl) (.head _) (QP_then QP_body) ?_
   refine WA_load_own (t := 45) (x := (.tmp 14)) 3 15 (.slice a1 (List.length p0) c1) (by kernel_rfl) rfl (by kernel_rfl) (.head _) (QP_then QP_body) (fun _ h => h.2.2.1) (show evL _ _ = some (.pointer (some ⟨b1, 0, none⟩)) from (by kernel_rfl)) (by kernel_rfl) ?_
   refine WA_pure 4 16 (.int .i64 (List.length p0 : Int)) (by kernel_rfl) rfl (by kernel_rfl) (.head _) (QP_then QP_body) ?_
   refine WA_pure 5 17 (.bool (decide (o1 < (List.length p0 : Int)))) (by kernel_rfl) rfl (by kernel_rfl) (.head _) (QP_then QP_body) ?_
   refine WA_pure 6 18 (.bool (decide (o1 < (List.length p0 : Int)))) (by kernel_rfl) rfl (by kernel_rfl) (.head _) (QP_then QP_body) ?_
   rcases bcases (decide (o1 < (List.length p0 : Int))) with hc | hc
   ·rw [if_pos hc] at hr
    refine WA_fact (t := 18) (b := true) (decide (o1 < (List.length p0 : Int))) (by kernel_rfl) hc ?_
    refine WA_pure 7 19 (.pointer (some ⟨b1, 0, none⟩)) (by kernel_rfl) rfl (by kernel_rfl) (.head _) (QP_then QP_body) ?_
    refine WA_load_own (t := 45) (x := (.tmp 19)) 8 20 (.slice a1 (List.length p0) c1) (by kernel_rfl) rfl (by kernel_rfl) (.head _) (QP_then QP_body) (fun _ h => h.2.2.1) (show evL _ _ = some (.pointer (some ⟨b1, 0, none⟩)) from (by kernel_rfl)) (by kernel_rfl) ?_
    refine WA_pure 9 21 (.int .i64 o1) (by kernel_rfl) rfl (by kernel_rfl) (.head _) (QP_then QP_body) ?_
    replace hr := bindS hr
    obtain ⟨x2, hx2, hr⟩ := hr
    refine WA_index (t := 45) (e := 66) (x := (.tmp 20)) (y := (.tmp 21)) 10 22 (cPair cStr cStr) (by kernel_rfl) rfl (by kernel_rfl) (.head _) (QP_then QP_body) (show evL _ _ = some (.slice a1 (List.length p0) c1) from (by kernel_rfl)) (show evL _ _ = some (.int .i64 o1) from (by kernel_rfl)) (by kernel_rfl) r1 hx2 ?_
    rintro b4 f2 cs2 ⟨_, _, rfl, rfl, rfl⟩ hq2
    refine WA_pure 11 23 (.pointer (some ⟨b4, f2, none⟩)) (by kernel_rfl) rfl (by kernel_rfl) (.head _) (QP_then QP_body) ?_
    refine WA_load_row (t := 9) (x := (.tmp 23)) 12 24 (.string x2.1) (by kernel_rfl) rfl (by kernel_rfl) (.head _) (QP_then QP_body) (fun _ h => h.1) (show evL _ _ = some (.pointer (some ⟨b4, f2, none⟩)) from (by kernel_rfl)) hq2 (by kernel_rfl) ?_
    refine WA_load_own (t := 9) (x := (.tmp 3)) 13 25 (.string p1) (by kernel_rfl) rfl (by kernel_rfl) (.head _) (QP_then QP_body) (fun _ h => h.2.1) (show evL _ _ = some (.pointer (some ⟨b2, 0, none⟩)) from (by kernel_rfl)) (by kernel_rfl) ?_
    refine WA_pure 14 26 (.bool (x2.1.toList == p1.toList)) (by kernel_rfl) rfl (by kernel_rfl) (.head _) (QP_then QP_body) ?_
    refine WA_pure 15 27 (.bool (x2.1.toList == p1.toList)) (by kernel_rfl) rfl (by kernel_rfl) (.head _) (QP_then QP_body) ?_
    refine WA_pure 16 4 (.int .i64 o1) (by kernel_rfl) rfl (by kernel_rfl) (.head _) (QP_then QP_body) ?_
    refine WA_pure 17 5 (.bool (x2.1.toList == p1.toList)) (by kernel_rfl) rfl (by kernel_rfl) (.head _) (QP_then QP_body) ?_
    obtain rfl := Option.some.inj hr
    have st := st.front1
    have st := st.front1
    exact WA_done (by kernel_rfl) (X_env _ (by kernel_rfl) (K _ _ ⟨m3, rfl, hm, st, r1⟩))
   ·rw [if_neg (not_true hc)] at hr
    refine WA_fact (t := 18) (b := false) (decide (o1 < (List.length p0 : Int))) (by kernel_rfl) hc ?_
    refine WA_not 7 19 (by kernel_rfl) rfl (by kernel_rfl) (.head _) (QP_then QP_body) ?_
    refine WA_not 8 20 (by kernel_rfl) rfl (by kernel_rfl) (.head _) (QP_then QP_body) ?_
    refine WA_not 9 21 (by kernel_rfl) rfl (by kernel_rfl) (.head _) (QP_then QP_body) ?_
    refine WA_not 10 22 (by kernel_rfl) rfl (by kernel_rfl) (.head _) (QP_then QP_body) ?_
    refine WA_not 11 23 (by kernel_rfl) rfl (by kernel_rfl) (.head _) (QP_then QP_body) ?_
    refine WA_not 12 24 (by kernel_rfl) rfl (by kernel_rfl) (.head _) (QP_then QP_body) ?_
    refine WA_not 13 25 (by kernel_rfl) rfl (by kernel_rfl) (.head _) (QP_then QP_body) ?_
    refine WA_not 14 26 (by kernel_rfl) rfl (by kernel_rfl) (.head _) (QP_then QP_body) ?_
    refine WA_pure 15 27 (.bool false) (by kernel_rfl) rfl (by kernel_rfl) (.head _) (QP_then QP_body) ?_
    refine WA_pure 16 4 (.int .i64 o1) (by kernel_rfl) rfl (by kernel_rfl) (.head _) (QP_then QP_body) ?_
    refine WA_pure 17 5 (.bool false) (by kernel_rfl) rfl (by kernel_rfl) (.head _) (QP_then QP_body) ?_
    obtain rfl := Option.some.inj hr
    have st := st.front1
    have st := st.front1
    exact WA_done (by kernel_rfl) (X_env _ (by kernel_rfl) (K _ _ ⟨m3, rfl, hm, st, r1⟩))
 ·clear hrKu1
  refine W_calls Go.Proofs.Tryd.func87 rfl Go.Proofs.Tryd.ntmps87 [(0, .int .i64 (List.length p0 : Int)), (1, .func (.func 88) #[] #[.pointer (some ⟨b1, 0, none⟩), .pointer (some ⟨b2, 0, none⟩)])] (by kernel_rfl) rfl ?_
  refine W_sr ?_
  refine WO_seg 1 [] (by kernel_rfl) (by kernel_rfl) ?_
  refine WO_et rfl ?_
  refine W_sr ?_
  refine WO_seg 3 [(5, .int .i64 0), (6, .int .i64 (List.length p0 : Int))] (by kernel_rfl) (by kernel_rfl) ?_
  refine WO_et rfl ?_
  refine W_seq ?_
  refine W_block ?_
  replace hr := bindS hr
  obtain ⟨out1, hr, hrKu2⟩ := hr
  refine W_cut (.exit 0) (fun L' w' => ∃ (o2 : Int) (m4 : Mem), o2 = out1 ∧ L' = [(5, .int .i64 o2)] ∧ m.le m4 ∧ St m4 (.blk b2 (.cells #[.string p1] 9 (0, 0)) :: .blk b1 (.cells #[.slice a1 (List.length p0) c1] 47 (0, 0)) :: own) w' ∧ RepS (cPair cStr cStr) m4 a1 c1 p0) ?_ ?_
  ·clear hr st
   rintro _ w4 ⟨o2, m4, rfl, rfl, hm, st, r1⟩
   have hr := hrKu2
   clear hrKu2
   refine X_block_eq ?_
   refine X_then ?_
   refine W_sr ?_
   refine WO_seg 2 [(4, .int .i64 o2)] (by kernel_rfl) (by kernel_rfl) ?_
   refine WO_et rfl ?_
   refine W_ret ?_
   obtain rfl := Option.some.inj hr
   refine X_ret [.tmp 4] [.int .i64 o2] rfl (ResAll.cons (ResAt.tmp (by kernel_rfl)) ResAll.nil) ?_
   have st := st.front1
   have st := st.front1
   exact ⟨_, rfl, ⟨m4, rfl, hm, st, r1⟩⟩
  intro K0_u2
  clear hrKu2
  have st := st.front1
  have st := st.front1
  refine W_env _ (by kernel_rfl) (W_loop (fun k1 L' w' => ∃ (s1 : Int × Int) (m5 : Mem), loopM (revision_at_L1 N p0 p1) k1 s1 = some out1 ∧ L' = [(1, .func (.func 88) #[] #[.pointer (some ⟨b1, 0, none⟩), .pointer (some ⟨b2, 0, none⟩)]), (5, .int .i64 s1.1), (6, .int .i64 s1.2)] ∧ m.le m5 ∧ St m5 (.blk b2 (.cells #[.string p1] 9 (0, 0)) :: .blk b1 (.cells #[.slice a1 (List.length p0) c1] 47 (0, 0)) :: own) w' ∧ RepS (cPair cStr cStr) m5 a1 c1 p0) N ⟨(0, (List.length p0 : Int)), m, hr, rfl, hm, st, r1⟩ ?_)
  clear st hr
  rintro k1 _ w5 ⟨s1, m5, hL, rfl, hm, st, r1⟩
  rcases k1 with _ | k1
  ·exact loopM_zero hL
  ·obtain ⟨qu2, hr, hSu2, hBu2⟩ := loopM_succ hL
   clear hL
   unfold revision_at_L1 at hr
   refine W_seq ?_
   refine W_sr ?_
   refine WO_seg 3 [(11, .bool (decide (s1.1 < s1.2)))] (by kernel_rfl) (by kernel_rfl) ?_
   refine WO_et rfl ?_
   refine W_cond (decide (s1.1 < s1.2)) (by kernel_rfl) ?_ ?_
   ·intro hc
    rw [if_pos hc] at hr
    refine W_skip ?_
    refine X_then ?_
    refine W_block ?_
    refine W_sr ?_
    refine WO_seg 7 [(7, .int .i64 (IntKind.wrap .i64 (Int.fdiv (IntKind.wrap .u64 (IntKind.wrap .i64 (s1.1 + s1.2))) (2 ^ 1))))] (by kernel_rfl) (by kernel_rfl) ?_
    refine WO_et rfl ?_
    refine W_sr ?_
    refine WO_seg 2 [(18, .func (.func 88) #[] #[.pointer (some ⟨b1, 0, none⟩), .pointer (some ⟨b2, 0, none⟩)]), (19, .int .i64 (IntKind.wrap .i64 (Int.fdiv (IntKind.wrap .u64 (IntKind.wrap .i64 (s1.1 + s1.2))) (2 ^ 1))))] (by kernel_rfl) (by kernel_rfl) ?_
    refine WO_one rfl (One_fn 20 88 #[.int .i64 (IntKind.wrap .i64 (Int.fdiv (IntKind.wrap .u64 (IntKind.wrap .i64 (s1.1 + s1.2))) (2 ^ 1))), .pointer (some ⟨b1, 0, none⟩), .pointer (some ⟨b2, 0, none⟩)] (by kernel_rfl) rfl ?_)
    refine W_calls Go.Proofs.Tryd.func88 rfl Go.Proofs.Tryd.ntmps88 [(0, .int .i64 (IntKind.wrap .i64 (Int.fdiv (IntKind.wrap .u64 (IntKind.wrap .i64 (s1.1 + s1.2))) (2 ^ 1)))), (1, .pointer (some ⟨b1, 0, none⟩)), (2, .pointer (some ⟨b2, 0, none⟩))] (by kernel_rfl) rfl ?_
    refine W_sr ?_
    refine WO_seg 1 [] (by kernel_rfl) (by kernel_rfl) ?_
    refine WO_et rfl ?_
    refine W_seq ?_
    refine W_draw [(9, fun w' => Inv m5 w' ∧ Piece.holds m5 w' (.blk b2 (.cells #[.string p1] 9 (0, 0))) ∧ Piece.holds m5 w' (.blk b1 (.cells #[.slice a1 (List.length p0) c1] 47 (0, 0))) ∧ True)] (by kernel_rfl) st ?_
    clear st
    intro w6 _ st
    have hmS1 := m5.le_refl
    refine ⟨⟨.inr ⟨Inv.anti st.inv hmS1, Piece.holds_anti st.head hmS1, Piece.holds_anti st.tail.head hmS1, trivial⟩, trivial⟩, ?_⟩
    refine WA_pure 0 5 (.pointer (some ⟨b1, 0, none⟩)) (by kernel_rfl) rfl (by kernel_rfl) (.head _) (QP_then QP_body) ?_
    refine WA_load_own (t := 45) (x := (.tmp 5)) 1 6 (.slice a1 (List.length p0) c1) (by kernel_rfl) rfl (by kernel_rfl) (.head _) (QP_then QP_body) (fun _ h => h.2.2.1) (show evL _ _ = some (.pointer (some ⟨b1, 0, none⟩)) from (by kernel_rfl)) (by kernel_rfl) ?_
    refine WA_pure 2 7 (.int .i64 (IntKind.wrap .i64 (Int.fdiv (IntKind.wrap .u64 (IntKind.wrap .i64 (s1.1 + s1.2))) (2 ^ 1)))) (by kernel_rfl) rfl (by kernel_rfl) (.head _) (QP_then QP_body) ?_
    replace hr := bindS hr
    obtain ⟨x1, hx1, hr⟩ := hr
    refine WA_index (t := 45) (e := 66) (x := (.tmp 6)) (y := (.tmp 7)) 3 8 (cPair cStr cStr) (by kernel_rfl) rfl (by kernel_rfl) (.head _) (QP_then QP_body) (show evL _ _ = some (.slice a1 (List.length p0) c1) from (by kernel_rfl)) (show evL _ _ = some (.int .i64 (IntKind.wrap .i64 (Int.fdiv (IntKind.wrap .u64 (IntKind.wrap .i64 (s1.1 + s1.2))) (2 ^ 1)))) from (by kernel_rfl)) (by kernel_rfl) r1 hx1 ?_
    rintro b3 f1 cs1 ⟨_, _, rfl, rfl, rfl⟩ hq1
    refine WA_pure 4 9 (.pointer (some ⟨b3, f1, none⟩)) (by kernel_rfl) rfl (by kernel_rfl) (.head _) (QP_then QP_body) ?_
    refine WA_load_row (t := 9) (x := (.tmp 9)) 5 10 (.string x1.1) (by kernel_rfl) rfl (by kernel_rfl) (.head _) (QP_then QP_body) (fun _ h => h.1) (show evL _ _ = some (.pointer (some ⟨b3, f1, none⟩)) from (by kernel_rfl)) hq1 (by kernel_rfl) ?_
    refine WA_load_own (t := 9) (x := (.tmp 2)) 6 11 (.string p1) (by kernel_rfl) rfl (by kernel_rfl) (.head _) (QP_then QP_body) (fun _ h => h.2.1) (show evL _ _ = some (.pointer (some ⟨b2, 0, none⟩)) from (by kernel_rfl)) (by kernel_rfl) ?_
    refine WA_pure 7 12 (.bool (!Op.bytesLess x1.1.toList p1.toList)) (by kernel_rfl) rfl (by kernel_rfl) (.head _) (QP_then QP_body) ?_
    refine WA_pure 8 4 (.bool (!Op.bytesLess x1.1.toList p1.toList)) (by kernel_rfl) rfl (by kernel_rfl) (.head _) (QP_then QP_body) ?_
    refine WA_done (by kernel_rfl) ?_
    refine X_then ?_
    refine W_ret ?_
    refine X_ret [.tmp 4] [.bool (!Op.bytesLess x1.1.toList p1.toList)] rfl (ResAll.cons (ResAt.tmp (by kernel_rfl)) ResAll.nil) ?_
    refine ⟨_, rfl, ?_⟩
    refine WO_seg 1 [(21, .bool (!(!Op.bytesLess x1.1.toList p1.toList)))] (by kernel_rfl) (by kernel_rfl) ?_
    refine WO_et rfl ?_
    refine W_cond (!(!Op.bytesLess x1.1.toList p1.toList)) (by kernel_rfl) ?_ ?_
    ·intro hc
     rw [if_pos hc] at hr
     refine W_region ?_
     refine WO_seg 3 [(5, .int .i64 (IntKind.wrap .i64 ((IntKind.wrap .i64 (Int.fdiv (IntKind.wrap .u64 (IntKind.wrap .i64 (s1.1 + s1.2))) (2 ^ 1))) + 1)))] (by kernel_rfl) (by kernel_rfl) ?_
     refine WO_end rfl ?_
     refine X_block ?_
     obtain rfl := Option.some.inj hr
     have hL := hSu2 _ rfl
     have st := st.front1
     have st := st.front1
     exact X_env _ (by kernel_rfl) (X_round k1 (Nat.lt_succ_self _) ⟨(IntKind.wrap .i64 ((IntKind.wrap .i64 (Int.fdiv (IntKind.wrap .u64 (IntKind.wrap .i64 (s1.1 + s1.2))) (2 ^ 1))) + 1), s1.2), m5, hL, rfl, hm, st, r1⟩)
    ·intro hc
     rw [if_neg (not_true hc)] at hr
     refine W_region ?_
     refine WO_seg 2 [(6, .int .i64 (IntKind.wrap .i64 (Int.fdiv (IntKind.wrap .u64 (IntKind.wrap .i64 (s1.1 + s1.2))) (2 ^ 1))))] (by kernel_rfl) (by kernel_rfl) ?_
     refine WO_end rfl ?_
     refine X_block ?_
     obtain rfl := Option.some.inj hr
     have hL := hSu2 _ rfl
     have st := st.front1
     have st := st.front1
     exact X_env _ (by kernel_rfl) (X_round k1 (Nat.lt_succ_self _) ⟨(s1.1, IntKind.wrap .i64 (Int.fdiv (IntKind.wrap .u64 (IntKind.wrap .i64 (s1.1 + s1.2))) (2 ^ 1))), m5, hL, rfl, hm, st, r1⟩)
   ·intro hc
    rw [if_neg (not_true hc)] at hr
    refine W_exit ?_
    refine X_then_exit ?_
    obtain rfl := Option.some.inj hr
    have ho := hBu2 _ rfl
    have st := st.front1
    have st := st.front1
    refine X_then_exit ?_
    exact X_env _ (by kernel_rfl) (K0_u2 _ _ ⟨s1.1, m5, ho, rfl, hm, st, r1⟩)

def slices_Clone_api_File_api_File (N : Nat) (p0 : List (ByteArray × ByteArray)) : Option (List (ByteArray × ByteArray)) :=
 nilS p0 (some ([] : List (ByteArray × ByteArray))) ((appendS 32 ([] : List (ByteArray × ByteArray)) p0).bind fun l1 => some l1)

set_option maxHeartbeats 4000000 in
set_option maxRecDepth 100000 in
theorem slices_Clone_api_File_api_File_ok {N : Nat} {m : Mem} {own : List Piece} {w : World} {p0 : List (ByteArray × ByteArray)} {a1 : Option Addr} {c1 : Nat} {r : List (ByteArray × ByteArray)} (st : St m (own) w) (r1 : RepS (cPair cStr cStr) m a1 c1 p0) (hr : slices_Clone_api_File_api_File N p0 = some r) : Calls Go.Proofs.Tryd.prog 60 #[.slice a1 (List.length p0) c1] w fun e w' => ∃ (ra1 : Option Addr) (rc1 : Nat) (m' : Mem), e = .returned (.slice ra1 (List.length r) rc1) ∧ m.le m' ∧ St m' (.room ra1 (List.length r) rc1 66 2 :: own) w' ∧ RepS (cPair cStr cStr) m' ra1 rc1 r := by
 unfold slices_Clone_api_File_api_File at hr
 have hm := m.le_refl
 refine W_calls Go.Proofs.Tryd.func60 rfl Go.Proofs.Tryd.ntmps60 [(0, .slice a1 (List.length p0) c1)] (by kernel_rfl) rfl ?_
 refine W_sr ?_
 refine WO_seg 1 [] (by kernel_rfl) (by kernel_rfl) ?_
 refine WO_et rfl ?_
 refine W_seq ?_
 refine W_sr ?_
 refine WO_seg 1 [(3, .slice a1 (List.length p0) c1)] (by kernel_rfl) (by kernel_rfl) ?_
 rcases bcases (Option.isNone a1) with hnil | hnil
 ·replace hr := nilS_true hr r1 hnil
  refine WO_one rfl (One_nileq (d := 4) (t := 45) (t2 := 45) (e := 66) (x := (.tmp 3)) (y := (.const (.slice none 0 0))) true (by kernel_rfl) rfl (show evL _ _ = some (.slice a1 (List.length p0) c1) from (by kernel_rfl)) (by kernel_rfl) rfl hnil ?_)
  refine WO_et rfl ?_
  refine W_cond true (by kernel_rfl) ?_ (fun h => Bool.noConfusion h)
  intro _
  refine W_sr ?_
  refine WO_seg 1 [(2, .slice none (List.length ([] : List (ByteArray × ByteArray))) 0)] (by kernel_rfl) (by kernel_rfl) ?_
  refine WO_et rfl ?_
  refine W_ret ?_
  refine X_then_ret ?_
  obtain rfl := Option.some.inj hr
  refine X_ret [.tmp 2] [.slice none (List.length ([] : List (ByteArray × ByteArray))) 0] rfl (ResAll.cons (ResAt.tmp (by kernel_rfl)) ResAll.nil) ?_
  have st := st.nilroom 66 2
  exact ⟨none, 0, m, rfl, hm, st, (RepS.nil _ _)⟩
 ·replace hr := nilS_false hr
  refine WO_one rfl (One_nileq (d := 4) (t := 45) (t2 := 45) (e := 66) (x := (.tmp 3)) (y := (.const (.slice none 0 0))) false (by kernel_rfl) rfl (show evL _ _ = some (.slice a1 (List.length p0) c1) from (by kernel_rfl)) (by kernel_rfl) rfl hnil ?_)
  refine WO_et rfl ?_
  refine W_cond false (by kernel_rfl) (fun h => Bool.noConfusion h) ?_
  intro _
  refine W_skip ?_
  refine X_then ?_
  refine W_sr ?_
  refine WO_one rfl (One_buildSlice (d := 5) (t := 45) (e := 66) (len := 0) (parts := #[]) (cPair cStr cStr) (xs := ([] : List (ByteArray × ByteArray))) [] (by kernel_rfl) rfl (fun _ => buildEmpty_run (by simp) (by kernel_rfl) _) rfl rfl st rfl ?_)
  clear st
  intro b1 m1 w1 hle1 st r2
  have hm := Mem.le_trans hm hle1
  have r1 := r1.mono hle1
  refine WO_seg 1 [(6, .slice a1 (List.length p0) c1)] (by kernel_rfl) (by kernel_rfl) ?_
  replace hr := bindS hr
  obtain ⟨l1, hx1, hr⟩ := hr
  refine WO_one rfl (One_append (d := 7) (t := 45) (u := 45) (e := 66) (by_ := 32) (x := (.tmp 5)) (y := (.tmp 6)) (cPair cStr cStr) (by kernel_rfl) rfl (show evL _ _ = some (.slice (some ⟨b1, 0, none⟩) (List.length ([] : List (ByteArray × ByteArray))) 0) from (by kernel_rfl)) (show evL _ _ = some (.slice a1 (List.length p0) c1) from (by kernel_rfl)) st (by kernel_rfl) (.inl (by kernel_rfl)) r2 r1.src hx1 ?_)
  clear st
  intro a2 c2 m2 w2 hle2 st r3
  have hm := Mem.le_trans hm hle2
  have r1 := r1.mono hle2
  have r2 := r2.mono hle2
  refine WO_seg 1 [(2, .slice a2 (List.length l1) c2)] (by kernel_rfl) (by kernel_rfl) ?_
  refine WO_et rfl ?_
  refine W_ret ?_
  obtain rfl := Option.some.inj hr
  refine X_ret [.tmp 2] [.slice a2 (List.length l1) c2] rfl (ResAll.cons (ResAt.tmp (by kernel_rfl)) ResAll.nil) ?_
  exact ⟨a2, c2, m2, rfl, hm, st, r3⟩

def slices_Clone_api_File_api_File_O (p0 : List (ByteArray × ByteArray)) : Option (List (ByteArray × ByteArray)) := appM 32 p0

set_option maxHeartbeats 4000000 in
set_option maxRecDepth 100000 in
theorem slices_Clone_api_File_api_File_own {m : Mem} {own : List Piece} {w : World} {p0 : List (ByteArray × ByteArray)} {a1 : Option Addr} {c1 : Nat} {r : List (ByteArray × ByteArray)} (st : St m (own) w) (r1 : RepS (cPair cStr cStr) m a1 c1 p0) (hr : slices_Clone_api_File_api_File_O p0 = some r) : Calls Go.Proofs.Tryd.prog 60 #[.slice a1 (List.length p0) c1] w fun e w' => ∃ (a : Option Addr) (k : Nat) (T : List Value) (m' : Mem), e = .returned (.slice a (List.length r) k) ∧ m.le m' ∧ OAS a (List.length r) k 2 T ∧ St m' (opc a (acellsM (fun x : ByteArray × ByteArray => ([.string x.1, .string x.2] : List Value)) r T) 66 :: own) w' := by
 unfold slices_Clone_api_File_api_File_O at hr
 have hm := m.le_refl
 refine W_calls Go.Proofs.Tryd.func60 rfl Go.Proofs.Tryd.ntmps60 [(0, .slice a1 (List.length p0) c1)] (by kernel_rfl) rfl ?_
 refine W_sr ?_
 refine WO_seg 1 [] (by kernel_rfl) (by kernel_rfl) ?_
 refine WO_et rfl ?_
 refine W_seq ?_
 refine W_sr ?_
 refine WO_seg 1 [(3, .slice a1 (List.length p0) c1)] (by kernel_rfl) (by kernel_rfl) ?_
 rcases bcases (Option.isNone a1) with hnil | hnil
 ·refine WO_one rfl (One_nileq (d := 4) (t := 45) (t2 := 45) (e := 66) (x := (.tmp 3)) (y := (.const (.slice none 0 0))) true (by kernel_rfl) rfl (show evL _ _ = some (.slice a1 (List.length p0) c1) from (by kernel_rfl)) (by kernel_rfl) rfl hnil ?_)
  refine WO_et rfl ?_
  refine W_cond true (by kernel_rfl) ?_ (fun h => Bool.noConfusion h)
  intro _
  refine W_sr ?_
  refine WO_seg 1 [(2, .slice none 0 0)] (by kernel_rfl) (by kernel_rfl) ?_
  refine WO_et rfl ?_
  refine W_ret ?_
  refine X_then_ret ?_
  have hp : p0 = [] := by
   cases a1 with
   | none => exact r1.none_nil.1
   | some p => cases hnil
  subst hp
  have hr' : r = [] := by simp [appM] at hr; first | exact hr | exact hr.symm
  subst hr'
  refine X_ret [.tmp 2] [.slice none 0 0] rfl (ResAll.cons (ResAt.tmp (by kernel_rfl)) ResAll.nil) ?_
  have st := st.nilroom 0 0
  exact ⟨none, 0, [], m, rfl, hm, ⟨Nat.le_refl _, Nat.zero_le _, rfl⟩, st⟩
 ·refine WO_one rfl (One_nileq (d := 4) (t := 45) (t2 := 45) (e := 66) (x := (.tmp 3)) (y := (.const (.slice none 0 0))) false (by kernel_rfl) rfl (show evL _ _ = some (.slice a1 (List.length p0) c1) from (by kernel_rfl)) (by kernel_rfl) rfl hnil ?_)
  refine WO_et rfl ?_
  refine W_cond false (by kernel_rfl) (fun h => Bool.noConfusion h) ?_
  intro _
  refine W_skip ?_
  refine X_then ?_
  refine W_sr ?_
  refine WO_one rfl (One_buildSlice (d := 5) (t := 45) (e := 66) (len := 0) (parts := #[]) (cPair cStr cStr) (xs := ([] : List (ByteArray × ByteArray))) [] (by kernel_rfl) rfl (fun _ => buildEmpty_run (by simp) (by kernel_rfl) _) rfl rfl st rfl ?_)
  clear st
  intro b1 m1 w1 hle1 st r2
  have hm := Mem.le_trans hm hle1
  have r1 := r1.mono hle1
  refine WO_seg 1 [(6, .slice a1 (List.length p0) c1)] (by kernel_rfl) (by kernel_rfl) ?_
  refine WO_one rfl (One_appM (d := 7) (t := 45) (u := 45) (e := 66) (by_ := 32) (x := (.tmp 5)) (y := (.tmp 6)) (c := (cPair cStr cStr)) (f := (fun x : ByteArray × ByteArray => ([.string x.1, .string x.2] : List Value))) (a := (some ⟨b1, 0, none⟩)) (fun _ _ _ h => by obtain ⟨_, _, rfl, rfl, rfl⟩ := h; rfl) (fun _ => rfl) (by kernel_rfl) rfl (show evL _ _ = some (.slice (some ⟨b1, 0, none⟩) 0 0) from (by kernel_rfl)) (show evL _ _ = some (.slice a1 (List.length p0) c1) from (by kernel_rfl)) st (by kernel_rfl) (.inl (by kernel_rfl)) r1.src hr ?_)
  clear st
  intro a2 c2 T2 w2 hs st
  refine WO_seg 1 [(2, .slice a2 (List.length r) c2)] (by kernel_rfl) (by kernel_rfl) ?_
  refine WO_et rfl ?_
  refine W_ret ?_
  refine X_ret [.tmp 2] [.slice a2 (List.length r) c2] rfl (ResAll.cons (ResAt.tmp (by kernel_rfl)) ResAll.nil) ?_
  exact ⟨a2, c2, T2, m1, rfl, hm, hs, st⟩

def slices_Reverse_api_File_api_File_L1 (N : Nat) (s1 : Int × Int) : Option ((Int × Int) ⊕ ((Unit))) :=
 if (decide (s1.1 < s1.2)) = true then none else (some (.inr ()))

def slices_Reverse_api_File_api_File (N : Nat) (p0 : List (ByteArray × ByteArray)) : Option (Unit) :=
 (loopM (slices_Reverse_api_File_api_File_L1 N) N (0, IntKind.wrap .i64 ((List.length p0 : Int) - 1))).bind fun o1 => some ()

set_option maxHeartbeats 4000000 in
set_option maxRecDepth 100000 in
theorem slices_Reverse_api_File_api_File_ok {N : Nat} {m : Mem} {own : List Piece} {w : World} {p0 : List (ByteArray × ByteArray)} {a1 : Option Addr} {c1 : Nat} {r : Unit} (st : St m (own) w) (r1 : RepS (cPair cStr cStr) m a1 c1 p0) (hr : slices_Reverse_api_File_api_File N p0 = some r) : Calls Go.Proofs.Tryd.prog 120 #[.slice a1 (List.length p0) c1] w fun e w' => ∃ (m' : Mem), e = .returned (.tuple #[]) ∧ m.le m' ∧ St m' (own) w' := by
 unfold slices_Reverse_api_File_api_File at hr
 have hm := m.le_refl
 refine W_calls Go.Proofs.Tryd.func120 rfl Go.Proofs.Tryd.ntmps120 [(0, .slice a1 (List.length p0) c1)] (by kernel_rfl) rfl ?_
 refine W_sr ?_
 refine WO_seg 5 [(2, .int .i64 0), (3, .int .i64 (IntKind.wrap .i64 ((List.length p0 : Int) - 1)))] (by kernel_rfl) (by kernel_rfl) ?_
 refine WO_et rfl ?_
 refine W_block ?_
 replace hr := bindS hr
 obtain ⟨out1, hr, hrKu1⟩ := hr
 refine W_cut (.exit 0) (fun L' w' => ∃ (o1 : Unit) (m1 : Mem), o1 = out1 ∧ L' = [] ∧ m.le m1 ∧ St m1 (own) w') ?_ ?_
 ·clear hr st
  rintro _ w1 ⟨o1, m1, rfl, rfl, hm, st⟩
  have hr := hrKu1
  clear hrKu1
  refine X_block_eq ?_
  obtain rfl := Option.some.inj hr
  refine X_fall [] [] rfl ResAll.nil ?_
  exact ⟨m1, rfl, hm, st⟩
 intro K0_u1
 clear hrKu1
 refine W_env _ (by kernel_rfl) (W_loop (fun k1 L' w' => ∃ (s1 : Int × Int) (m2 : Mem), loopM (slices_Reverse_api_File_api_File_L1 N) k1 s1 = some out1 ∧ L' = [(0, .slice a1 (List.length p0) c1), (2, .int .i64 s1.1), (3, .int .i64 s1.2)] ∧ m.le m2 ∧ St m2 (own) w' ∧ RepS (cPair cStr cStr) m2 a1 c1 p0) N ⟨(0, IntKind.wrap .i64 ((List.length p0 : Int) - 1)), m, hr, rfl, hm, st, r1⟩ ?_)
 clear st hr
 rintro k1 _ w2 ⟨s1, m2, hL, rfl, hm, st, r1⟩
 rcases k1 with _ | k1
 ·exact loopM_zero hL
 ·obtain ⟨qu1, hr, hSu1, hBu1⟩ := loopM_succ hL
  clear hL
  unfold slices_Reverse_api_File_api_File_L1 at hr
  refine W_seq ?_
  refine W_sr ?_
  refine WO_seg 3 [(9, .bool (decide (s1.1 < s1.2)))] (by kernel_rfl) (by kernel_rfl) ?_
  refine WO_et rfl ?_
  refine W_cond (decide (s1.1 < s1.2)) (by kernel_rfl) ?_ ?_
  ·intro hc
   rw [if_pos hc] at hr
   cases hr
  ·intro hc
   rw [if_neg (not_true hc)] at hr
   refine W_exit ?_
   refine X_then_exit ?_
   obtain rfl := Option.some.inj hr
   have ho := hBu1 _ rfl
   refine X_then_exit ?_
   exact X_env _ (by kernel_rfl) (K0_u1 _ _ ⟨(), m2, ho, rfl, hm, st⟩)

def slices_rotateLeft_api_File (N : Nat) (p0 : List (ByteArray × ByteArray)) (p1 : Int) : Option (Unit) :=
 (subS p0 0 p1).bind fun l1 => (slices_Reverse_api_File_api_File N l1).bind fun y1 => (subS p0 p1 (List.length p0 : Int)).bind fun l2 => (slices_Reverse_api_File_api_File N l2).bind fun y2 => (slices_Reverse_api_File_api_File N p0).bind fun y3 => some ()

set_option maxHeartbeats 4000000 in
set_option maxRecDepth 100000 in
theorem slices_rotateLeft_api_File_ok {N : Nat} {m : Mem} {own : List Piece} {w : World} {p0 : List (ByteArray × ByteArray)} {p1 : Int} {a1 : Option Addr} {c1 : Nat} {r : Unit} (st : St m (own) w) (r1 : RepS (cPair cStr cStr) m a1 c1 p0) (hr : slices_rotateLeft_api_File N p0 p1 = some r) : Calls Go.Proofs.Tryd.prog 107 #[.slice a1 (List.length p0) c1, .int .i64 p1] w fun e w' => ∃ (m' : Mem), e = .returned (.tuple #[]) ∧ m.le m' ∧ St m' (own) w' := by
 unfold slices_rotateLeft_api_File at hr
 have hm := m.le_refl
 refine W_calls Go.Proofs.Tryd.func107 rfl Go.Proofs.Tryd.ntmps107 [(0, .slice a1 (List.length p0) c1), (1, .int .i64 p1)] (by kernel_rfl) rfl ?_
 refine W_sr ?_
 refine WO_seg 2 [(4, .slice a1 (List.length p0) c1), (5, .int .i64 p1)] (by kernel_rfl) (by kernel_rfl) ?_
 replace hr := bindS hr
 obtain ⟨l1, hx1, hr⟩ := hr
 refine WO_one rfl (One_slice (d := 6) (t := 45) (e := 66) (x := (.tmp 4)) (lo := none) (hi := (some (.tmp 5))) (cPair cStr cStr) (by kernel_rfl) rfl (show evL _ _ = some (.slice a1 (List.length p0) c1) from (by kernel_rfl)) (by kernel_rfl) r1 (.inl ⟨rfl, rfl⟩) (.inr ⟨_, _, rfl, (show evL _ _ = some (.int .i64 p1) from (by kernel_rfl))⟩) hx1 ?_)
 intro a2 c2 r2
 replace hr := bindS hr
 obtain ⟨y1, hx2, hr⟩ := hr
 refine WO_one rfl (One_fn 7 120 #[.slice a2 (List.length l1) c2] (by kernel_rfl) rfl ?_)
 refine (slices_Reverse_api_File_api_File_ok st r2 hx2).mono ?_
 clear st
 rintro _ w1 ⟨m1, rfl, hle1, st⟩
 refine ⟨_, rfl, ?_⟩
 have hm := Mem.le_trans hm hle1
 have r1 := r1.mono hle1
 have r2 := r2.mono hle1
 refine WO_et rfl ?_
 refine W_sr ?_
 refine WO_seg 2 [(8, .slice a1 (List.length p0) c1), (9, .int .i64 p1)] (by kernel_rfl) (by kernel_rfl) ?_
 replace hr := bindS hr
 obtain ⟨l2, hx3, hr⟩ := hr
 refine WO_one rfl (One_slice (d := 10) (t := 45) (e := 66) (x := (.tmp 8)) (lo := (some (.tmp 9))) (hi := none) (cPair cStr cStr) (by kernel_rfl) rfl (show evL _ _ = some (.slice a1 (List.length p0) c1) from (by kernel_rfl)) (by kernel_rfl) r1 (.inr ⟨_, _, rfl, (show evL _ _ = some (.int .i64 p1) from (by kernel_rfl))⟩) (.inl ⟨rfl, rfl⟩) hx3 ?_)
 intro a3 c3 r3
 replace hr := bindS hr
 obtain ⟨y2, hx4, hr⟩ := hr
 refine WO_one rfl (One_fn 11 120 #[.slice a3 (List.length l2) c3] (by kernel_rfl) rfl ?_)
 refine (slices_Reverse_api_File_api_File_ok st r3 hx4).mono ?_
 clear st
 rintro _ w2 ⟨m2, rfl, hle2, st⟩
 refine ⟨_, rfl, ?_⟩
 have hm := Mem.le_trans hm hle2
 have r1 := r1.mono hle2
 have r3 := r3.mono hle2
 refine WO_et rfl ?_
 refine W_region ?_
 refine WO_seg 1 [(12, .slice a1 (List.length p0) c1)] (by kernel_rfl) (by kernel_rfl) ?_
 replace hr := bindS hr
 obtain ⟨y3, hx5, hr⟩ := hr
 refine WO_one rfl (One_fn 13 120 #[.slice a1 (List.length p0) c1] (by kernel_rfl) rfl ?_)
 refine (slices_Reverse_api_File_api_File_ok st r1 hx5).mono ?_
 clear st
 rintro _ w3 ⟨m3, rfl, hle3, st⟩
 refine ⟨_, rfl, ?_⟩
 have hm := Mem.le_trans hm hle3
 have r1 := r1.mono hle3
 refine WO_end rfl ?_
 obtain rfl := Option.some.inj hr
 refine X_fall [] [] rfl ResAll.nil ?_
 exact ⟨m3, rfl, hm, st⟩

def slices_rotateRight_api_File (N : Nat) (p0 : List (ByteArray × ByteArray)) (p1 : Int) : Option (Unit) :=
 (slices_rotateLeft_api_File N p0 (IntKind.wrap .i64 ((List.length p0 : Int) - p1))).bind fun y1 => some ()

set_option maxHeartbeats 4000000 in
set_option maxRecDepth 100000 in
theorem slices_rotateRight_api_File_ok {N : Nat} {m : Mem} {own : List Piece} {w : World} {p0 : List (ByteArray × ByteArray)} {p1 : Int} {a1 : Option Addr} {c1 : Nat} {r : Unit} (st : St m (own) w) (r1 : RepS (cPair cStr cStr) m a1 c1 p0) (hr : slices_rotateRight_api_File N p0 p1 = some r) : Calls Go.Proofs.Tryd.prog 91 #[.slice a1 (List.length p0) c1, .int .i64 p1] w fun e w' => ∃ (m' : Mem), e = .returned (.tuple #[]) ∧ m.le m' ∧ St m' (own) w' := by
 unfold slices_rotateRight_api_File at hr
 have hm := m.le_refl
 refine W_calls Go.Proofs.Tryd.func91 rfl Go.Proofs.Tryd.ntmps91 [(0, .slice a1 (List.length p0) c1), (1, .int .i64 p1)] (by kernel_rfl) rfl ?_
 refine W_region ?_
 refine WO_seg 5 [(4, .slice a1 (List.length p0) c1), (8, .int .i64 (IntKind.wrap .i64 ((List.length p0 : Int) - p1)))] (by kernel_rfl) (by kernel_rfl) ?_
 replace hr := bindS hr
 obtain ⟨y1, hx1, hr⟩ := hr
 refine WO_one rfl (One_fn 9 107 #[.slice a1 (List.length p0) c1, .int .i64 (IntKind.wrap .i64 ((List.length p0 : Int) - p1))] (by kernel_rfl) rfl ?_)
 refine (slices_rotateLeft_api_File_ok st r1 hx1).mono ?_
 clear st
 rintro _ w1 ⟨m1, rfl, hle1, st⟩
 refine ⟨_, rfl, ?_⟩
 have hm := Mem.le_trans hm hle1
 have r1 := r1.mono hle1
 refine WO_end rfl ?_
 obtain rfl := Option.some.inj hr
 refine X_fall [] [] rfl ResAll.nil ?_
 exact ⟨m1, rfl, hm, st⟩



set_option maxHeartbeats 4000000 in
set_option maxRecDepth 100000 in
theorem slices_Insert_api_File_api_File_own {m : Mem} {own : List Piece} {w : World} {l : List (ByteArray × ByteArray)} {x : ByteArray × ByteArray} {i : Nat} {a a2 : Option Addr} {cap c2 nn : Nat} {T : List Value} (st : St m (opc a (acellsM (fun x : ByteArray × ByteArray => ([.string x.1, .string x.2] : List Value)) l T) 66 :: own) w) (hs : OAS a nn cap 2 T) (hn : List.length l = nn) (hv : RepS (cPair cStr cStr) m a2 c2 [x]) (hi : i ≤ List.length l)
  (hb : (List.length l + 1) * 32 ≤ 140737488355328) (hmx : List.length l + 1 ≤ maxLen) : Calls Go.Proofs.Tryd.prog 61 #[.slice a nn cap, .int .i64 (i : Int), .slice a2 1 c2] w fun e w' => ∃ (ra1 : Option Addr) (rc1 : Nat) (m' : Mem), e = .returned (.slice ra1 (List.length (List.take i l ++ x :: List.drop i l)) rc1) ∧ m.le m' ∧ St m' (.room ra1 (List.length (List.take i l ++ x :: List.drop i l)) rc1 66 2 :: own) w' ∧ RepS (cPair cStr cStr) m' ra1 rc1 (List.take i l ++ x :: List.drop i l) := by
 subst hn
 have hm := m.le_refl
 have hcap := hs.1
 have hlen : List.length (List.take i l ++ x :: List.drop i l) = List.length l + 1 := by simp; omega
 have hmxI : (maxLen : Int) = 9223372036854775807 := rfl
 have hw1 : IntKind.wrap .i64 ((List.length l : Int) + 1) = (List.length l : Int) + 1 := by simp [IntKind.wrap, IntKind.signed, IntKind.bits]; simp only [maxLen] at hmx; omega
 have hw2 : IntKind.wrap .i64 ((i : Int) + 1) = (i : Int) + 1 := by simp [IntKind.wrap, IntKind.signed, IntKind.bits]; simp only [maxLen] at hmx; omega
 have hX : ∀ w' : World, Inv m w' → (Builtin.firstCells 2 1 (.slice a2 1 c2)).run Go.Proofs.Tryd.prog w' = .ok ((fun x : ByteArray × ByteArray => ([.string x.1, .string x.2] : List Value)) x).toArray w' := by
  intro w' hi'
  obtain ⟨cs, h1, h2⟩ := hv.src (P := Go.Proofs.Tryd.prog)
  have h3 := flat_of_rep (f := (fun x : ByteArray × ByteArray => ([.string x.1, .string x.2] : List Value))) (fun _ _ _ h => by obtain ⟨_, _, rfl, rfl, rfl⟩ := h; rfl) (h1 w' hi').2.2.1 h2
  have h4 : cs = (fun x : ByteArray × ByteArray => ([.string x.1, .string x.2] : List Value)) x := by rw [h3]; simp
  have h5 := (h1 w' hi').2.1
  rw [h4] at h5
  exact h5
 have hone : ∀ y : ByteArray × ByteArray, ∀ v ∈ (fun x : ByteArray × ByteArray => ([.string x.1, .string x.2] : List Value)) y, v.oneCell' = true := fun y => (cPair cStr cStr).one m y _ ((fun _ x => ⟨_, _, rfl, rfl, rfl⟩) m y)
 have honeL : ∀ k : List (ByteArray × ByteArray), ∀ v ∈ k.flatMap (fun x : ByteArray × ByteArray => ([.string x.1, .string x.2] : List Value)), v.oneCell' = true := fun k v hv => by
  obtain ⟨y, _, hy⟩ := List.mem_flatMap.1 hv; exact hone y v hy
 refine W_calls Go.Proofs.Tryd.func61 rfl Go.Proofs.Tryd.ntmps61 [(0, .slice a (List.length l) cap), (1, .int .i64 (i : Int)), (2, .slice a2 1 c2)] (by kernel_rfl) rfl ?_
 refine W_sr ?_
 refine WO_seg 1 [] (by kernel_rfl) (by kernel_rfl) ?_
 refine WO_et rfl ?_
 refine W_sr ?_
 refine WO_seg 2 [(10, .slice a (List.length l) cap), (11, .int .i64 (i : Int))] (by kernel_rfl) (by kernel_rfl) ?_
 refine WO_one rfl (One_sliceO (d := 12) (t := 45) (e := 66) (k := 2) (x := (.tmp 10)) (lo := some (.tmp 11)) (hi := none) (li := (i : Int)) (hix := (List.length l : Int)) _ (by kernel_rfl) rfl (show evL _ _ = some (.slice a (List.length l) cap) from (by kernel_rfl)) (by kernel_rfl) (.inr ⟨_, _, rfl, (show evL _ _ = some (.int .i64 (i : Int)) from (by kernel_rfl))⟩) (.inl ⟨rfl, rfl⟩) (by omega) (by omega) (by omega) rfl ?_)
 refine WO_et rfl ?_
 refine W_sr ?_
 refine WO_seg 3 [(7, .int .i64 1)] (by kernel_rfl) (by kernel_rfl) ?_
 refine WO_et rfl ?_
 refine W_seq ?_
 refine W_sr ?_
 refine WO_seg 2 [(16, .bool false)] (by kernel_rfl) (by kernel_rfl) ?_
 refine WO_et rfl ?_
 refine W_cond false (by kernel_rfl) (fun h => Bool.noConfusion h) ?_
 intro _
 refine W_skip ?_
 refine X_then ?_
 refine W_sr ?_
 refine WO_seg 3 [(8, .int .i64 (List.length l : Int))] (by kernel_rfl) (by kernel_rfl) ?_
 refine WO_et rfl ?_
 refine W_seq ?_
 refine W_sr ?_
 refine WO_seg 3 [(22, .bool ((i : Int) == (List.length l : Int)))] (by kernel_rfl) (by kernel_rfl) ?_
 refine WO_et rfl ?_
 refine W_cond ((i : Int) == (List.length l : Int)) (by kernel_rfl) ?_ ?_
 ·intro hc
  have hc : i = List.length l := by have := eq_of_beq hc; omega
  obtain ⟨m1, hle1, st, r1⟩ := St.freezeM (c := (cPair cStr cStr)) (f := (fun x : ByteArray × ByteArray => ([.string x.1, .string x.2] : List Value))) st hs rfl (fun _ => rfl) (fun _ x => ⟨_, _, rfl, rfl, rfl⟩)
  have hm := Mem.le_trans hm hle1
  have hv := hv.mono hle1
  refine W_sr ?_
  refine WO_seg 2 [(23, .slice a (List.length l) cap), (24, .slice a2 1 c2)] (by kernel_rfl) (by kernel_rfl) ?_
  refine WO_one rfl (One_append (d := 25) (t := 45) (u := 45) (e := 66) (by_ := 32) (x := (.tmp 23)) (y := (.tmp 24)) (r := List.take i l ++ x :: List.drop i l) (cPair cStr cStr) (by kernel_rfl) rfl (show evL _ _ = some (.slice a (List.length l) cap) from (by kernel_rfl)) (show evL _ _ = some (.slice a2 1 c2) from (by kernel_rfl)) st (by kernel_rfl) (.inl (by kernel_rfl)) r1 hv.src (by unfold appendS; rw [if_pos ⟨by simpa using hb, by simpa using hmx⟩, hc]; simp) ?_)
  clear st
  intro a3 c3 m2 w2 hle2 st r3
  have hm := Mem.le_trans hm hle2
  refine WO_seg 1 [(6, .slice a3 (List.length (List.take i l ++ x :: List.drop i l)) c3)] (by kernel_rfl) (by kernel_rfl) ?_
  refine WO_et rfl ?_
  refine W_ret ?_
  refine X_then_ret ?_
  refine X_ret [.tmp 6] [.slice a3 (List.length (List.take i l ++ x :: List.drop i l)) c3] rfl (ResAll.cons (ResAt.tmp (by kernel_rfl)) ResAll.nil) ?_
  exact ⟨a3, c3, m2, rfl, hm, st, r3⟩
 intro hc
 have hc : i < List.length l := by
  have : ¬ i = List.length l := fun e => by rw [e] at hc; simp at hc
  omega
 have ha := hs.some rfl hc
 generalize ab a = b at ha
 subst ha
 have hcapT : List.length l * 2 + T.length = cap * 2 := hs.2.2.2
 have st : St m (.blk b (.cells (acellsM (fun x : ByteArray × ByteArray => ([.string x.1, .string x.2] : List Value)) l T) 66 (0, 0)) :: own) w := st
 obtain ⟨A, hA⟩ : ∃ A, A = (l.take i).flatMap (fun x : ByteArray × ByteArray => ([.string x.1, .string x.2] : List Value)) := ⟨_, rfl⟩
 obtain ⟨B, hB⟩ : ∃ B, B = (l.drop i).flatMap (fun x : ByteArray × ByteArray => ([.string x.1, .string x.2] : List Value)) := ⟨_, rfl⟩
 have hAl : A.length = i * 2 := by rw [hA, flat_len (k := 2) (fun _ => rfl), List.length_take, Nat.min_eq_left hi]
 have hBl : B.length = (List.length l - i) * 2 := by rw [hB, flat_len (k := 2) (fun _ => rfl), List.length_drop]
 have hC : acellsM (fun x : ByteArray × ByteArray => ([.string x.1, .string x.2] : List Value)) l T = (A ++ (B ++ T)).toArray := by
  unfold acellsM; rw [hA, hB, ← List.append_assoc, ← List.flatMap_append, List.take_append_drop]
 rw [hC] at st
 have hoA : ∀ v ∈ A, v.oneCell' = true := by rw [hA]; exact honeL _
 have hoB : ∀ v ∈ B, v.oneCell' = true := by rw [hB]; exact honeL _
 have hxl : ((fun x : ByteArray × ByteArray => ([.string x.1, .string x.2] : List Value)) x).length = 2 := rfl
 have hfin : ∀ T' : List Value, (A ++ ((fun x : ByteArray × ByteArray => ([.string x.1, .string x.2] : List Value)) x ++ (B ++ T'))).toArray = acellsM (fun x : ByteArray × ByteArray => ([.string x.1, .string x.2] : List Value)) (List.take i l ++ x :: List.drop i l) T' := fun T' => by
  unfold acellsM; rw [List.flatMap_append, List.flatMap_cons, ← hA, ← hB]; simp only [List.append_assoc]
 refine W_skip ?_
 refine X_then ?_
 refine W_seq ?_
 refine W_sr ?_
 refine WO_seg 6 [(31, .bool (decide (IntKind.wrap .i64 ((List.length l : Int) + 1) > (cap : Int))))] (by kernel_rfl) (by kernel_rfl) ?_
 refine WO_et rfl ?_
 refine W_cond (decide (IntKind.wrap .i64 ((List.length l : Int) + 1) > (cap : Int))) (by kernel_rfl) ?_ ?_
 ·intro hg
  rw [hw1] at hg
  have hg : cap < List.length l + 1 := by have := of_decide_eq_true hg; omega
  have hz : IntKind.wrap .i64 (IntKind.wrap .i64 ((List.length l : Int) + 1) - (i : Int)) = ((List.length l + 1 - i : Nat) : Int) := by rw [hw1]; simp [IntKind.wrap, IntKind.signed, IntKind.bits]; simp only [maxLen] at hmx; omega
  refine W_sr ?_
  refine WO_seg 2 [(32, .slice (some ⟨b, 0, none⟩) (List.length l) cap), (33, .int .i64 (i : Int))] (by kernel_rfl) (by kernel_rfl) ?_
  refine WO_one rfl (One_sliceO (d := 34) (t := 45) (e := 66) (k := 2) (x := (.tmp 32)) (lo := none) (hi := some (.tmp 33)) (li := 0) (hix := (i : Int)) (.slice (some ⟨b, 0, none⟩) i cap) (by kernel_rfl) rfl (show evL _ _ = some (.slice (some ⟨b, 0, none⟩) (List.length l) cap) from (by kernel_rfl)) (by kernel_rfl) (.inl ⟨rfl, rfl⟩) (.inr ⟨_, _, rfl, (show evL _ _ = some (.int .i64 (i : Int)) from (by kernel_rfl))⟩) (by omega) (by omega) (by omega) (by rw [slA_some (by simp; omega)]; simp) ?_)
  refine WO_seg 5 [(39, .int .i64 (IntKind.wrap .i64 (IntKind.wrap .i64 ((List.length l : Int) + 1) - (i : Int))))] (by kernel_rfl) (by kernel_rfl) ?_
  have hfA : ∀ w' : World, Step w w' → w'.heap = w.heap → (Builtin.firstCells 2 i (.slice (some ⟨b, 0, none⟩) i cap)).run Go.Proofs.Tryd.prog w' = .ok A.toArray w' := fun w' _ hh =>
   first_own (C := (A ++ (B ++ T)).toArray) (e := 66) (by rw [hh]; exact st.head.1) (by simp only [List.drop_zero]; rw [← hAl]; exact List.take_left) hAl
  refine WO_one rfl (One_appendZ (d := 40) (t := 45) (u := 3) (e := 66) (by_ := 32) (k := 2) (kd' := .i64) (x := (.tmp 34)) (y := (.tmp 39)) (A := A) (z := (.agg #[.string (⟨#[]⟩ : ByteArray), .string (⟨#[]⟩ : ByteArray)])) (zn := IntKind.wrap .i64 (IntKind.wrap .i64 ((List.length l : Int) + 1) - (i : Int))) (by kernel_rfl) rfl (show evL _ _ = some (.slice (some ⟨b, 0, none⟩) i cap) from (by kernel_rfl)) (show evL _ _ = some (.int .i64 (IntKind.wrap .i64 (IntKind.wrap .i64 ((List.length l : Int) + 1) - (i : Int)))) from (by kernel_rfl)) (by kernel_rfl) (by kernel_rfl) (by kernel_rfl) st hfA (by rw [hz]; omega) (by rw [hz]; omega) (by rw [hz, Int.toNat_natCast, show i + (List.length l + 1 - i) = List.length l + 1 by omega]; exact hb) (by rw [hz]; omega) ?_)
  clear st hfA
  intro b2 cap2 Z w2 hc1 hc2 hZl st
  rw [hz, Int.toNat_natCast, show i + (List.length l + 1 - i) = List.length l + 1 by omega] at hc1 hZl ⊢
  have hZ : 2 ≤ Z.length := by omega
  refine WO_seg 1 [(9, .slice (some ⟨b2, 0, none⟩) (List.length l + 1) cap2)] (by kernel_rfl) (by kernel_rfl) ?_
  refine WO_et rfl ?_
  refine W_sr ?_
  refine WO_seg 2 [(41, .slice (some ⟨b2, 0, none⟩) (List.length l + 1) cap2), (42, .int .i64 (i : Int))] (by kernel_rfl) (by kernel_rfl) ?_
  refine WO_one rfl (One_sliceO (d := 43) (t := 45) (e := 66) (k := 2) (x := (.tmp 41)) (lo := some (.tmp 42)) (hi := none) (li := (i : Int)) (hix := ((List.length l + 1 : Nat) : Int)) (.slice (some ⟨b2, A.length, none⟩) (List.length l + 1 - i) (cap2 - i)) (by kernel_rfl) rfl (show evL _ _ = some (.slice (some ⟨b2, 0, none⟩) (List.length l + 1) cap2) from (by kernel_rfl)) (by kernel_rfl) (.inr ⟨_, _, rfl, (show evL _ _ = some (.int .i64 (i : Int)) from (by kernel_rfl))⟩) (.inl ⟨rfl, rfl⟩) (by omega) (by omega) (by omega) (by rw [slA_some (by simp; omega), hAl]; simp) ?_)
  refine WO_seg 1 [(44, .slice a2 1 c2)] (by kernel_rfl) (by kernel_rfl) ?_
  have hmin : Nat.min 1 (List.length l + 1 - i) = 1 := Nat.min_eq_left (by omega)
  refine WO_one rfl (One_copyO (d := 45) (t := 45) (u := 45) (e := 66) (k := 2) (x := (.tmp 43)) (y := (.tmp 44)) ((fun x : ByteArray × ByteArray => ([.string x.1, .string x.2] : List Value)) x) (A ++ ((fun x : ByteArray × ByteArray => ([.string x.1, .string x.2] : List Value)) x ++ Z.drop 2)) (by kernel_rfl) rfl (show evL _ _ = some (.slice (some ⟨b2, A.length, none⟩) (List.length l + 1 - i) (cap2 - i)) from (by kernel_rfl)) (show evL _ _ = some (.slice a2 1 c2) from (by kernel_rfl)) (by kernel_rfl) st (by rw [hmin]; exact hX _ st.inv) (by simp only [hxl, List.size_toArray, List.length_append]; omega) (hone x) (by simp only [hxl]; rw [List.take_left, List.drop_length_add_append, List.append_assoc]) ?_)
  clear st
  intro w3 st
  refine WO_et rfl ?_
  refine W_seq ?_
  refine W_draw [(9, fun _ => True)] (by kernel_rfl) st ?_
  clear st
  intro w4 _ st
  refine ⟨⟨.inr trivial, trivial⟩, ?_⟩
  refine WA_pure 0 46 (.slice (some ⟨b2, 0, none⟩) (List.length l + 1) cap2) (by kernel_rfl) rfl (by kernel_rfl) (.head _) (QP_then (QP_then QP_body)) ?_
  refine WA_pure 1 47 (.int .i64 (i : Int)) (by kernel_rfl) rfl (by kernel_rfl) (.head _) (QP_then (QP_then QP_body)) ?_
  refine WA_pure 2 48 (.int .i64 1) (by kernel_rfl) rfl (by kernel_rfl) (.head _) (QP_then (QP_then QP_body)) ?_
  refine WA_pure 3 49 (.int .i64 (IntKind.wrap .i64 ((i : Int) + 1))) (by kernel_rfl) rfl (by kernel_rfl) (.head _) (QP_then (QP_then QP_body)) ?_
  refine WA_sliceO (t := 45) (e := 66) (k := 2) (x := (.tmp 46)) (lo := some (.tmp 49)) (hi := none) (li := IntKind.wrap .i64 ((i : Int) + 1)) (hix := ((List.length l + 1 : Nat) : Int)) 4 50 (.slice (some ⟨b2, A.length + 2, none⟩) (List.length l - i) (cap2 - (i + 1))) (by kernel_rfl) rfl (by kernel_rfl) (.head _) (QP_then (QP_then QP_body)) (show evL _ _ = some (.slice (some ⟨b2, 0, none⟩) (List.length l + 1) cap2) from (by kernel_rfl)) (by kernel_rfl) (.inr ⟨_, _, rfl, (show evL _ _ = some (.int .i64 (IntKind.wrap .i64 ((i : Int) + 1))) from (by kernel_rfl))⟩) (.inl ⟨rfl, rfl⟩) (by rw [hw2]; omega) (by rw [hw2]; omega) (by omega) (by rw [hw2, show ((i : Int) + 1).toNat = i + 1 by omega, slA_some (by omega), Int.toNat_natCast, show 0 + (i + 1) * 2 = A.length + 2 by omega, show List.length l + 1 - (i + 1) = List.length l - i by omega]) ?_
  refine WA_pure 5 51 (.slice (some ⟨b, 0, none⟩) (List.length l) cap) (by kernel_rfl) rfl (by kernel_rfl) (.head _) (QP_then (QP_then QP_body)) ?_
  refine WA_pure 6 52 (.int .i64 (i : Int)) (by kernel_rfl) rfl (by kernel_rfl) (.head _) (QP_then (QP_then QP_body)) ?_
  refine WA_sliceO (t := 45) (e := 66) (k := 2) (x := (.tmp 51)) (lo := some (.tmp 52)) (hi := none) (li := (i : Int)) (hix := (List.length l : Int)) 7 53 (.slice (some ⟨b, A.length, none⟩) (List.length l - i) (cap - i)) (by kernel_rfl) rfl (by kernel_rfl) (.head _) (QP_then (QP_then QP_body)) (show evL _ _ = some (.slice (some ⟨b, 0, none⟩) (List.length l) cap) from (by kernel_rfl)) (by kernel_rfl) (.inr ⟨_, _, rfl, (show evL _ _ = some (.int .i64 (i : Int)) from (by kernel_rfl))⟩) (.inl ⟨rfl, rfl⟩) (by omega) (by omega) (by omega) (by rw [slA_some (by simp; omega), hAl]; simp) ?_
  refine WA_one 8 (by kernel_rfl) (One_copyO (d := 54) (t := 45) (u := 45) (e := 66) (k := 2) (x := (.tmp 50)) (y := (.tmp 53)) B (A ++ ((fun x : ByteArray × ByteArray => ([.string x.1, .string x.2] : List Value)) x ++ (B ++ (Z.drop 2).drop B.length))) (by kernel_rfl) rfl (show evL _ _ = some (.slice (some ⟨b2, A.length + 2, none⟩) (List.length l - i) (cap2 - (i + 1))) from (by kernel_rfl)) (show evL _ _ = some (.slice (some ⟨b, A.length, none⟩) (List.length l - i) (cap - i)) from (by kernel_rfl)) (by kernel_rfl) st
   (by rw [show Nat.min (List.length l - i) (List.length l - i) = List.length l - i from Nat.min_self _]; exact first_own (C := (A ++ (B ++ T)).toArray) (e := 66) st.tail.head.1 (by simp only; rw [List.drop_left, ← hBl]; exact List.take_left) hBl)
   (by simp only [List.size_toArray, List.length_append, List.length_drop, hxl, hBl]; omega) hoB (by
    have e1 : A ++ ((fun x : ByteArray × ByteArray => ([.string x.1, .string x.2] : List Value)) x ++ Z.drop 2) = (A ++ (fun x : ByteArray × ByteArray => ([.string x.1, .string x.2] : List Value)) x) ++ Z.drop 2 := by rw [List.append_assoc]
    have e2 : A.length + 2 = (A ++ (fun x : ByteArray × ByteArray => ([.string x.1, .string x.2] : List Value)) x).length := by simp only [List.length_append, hxl]
    simp only
    rw [e1, e2, List.take_left, List.drop_length_add_append, List.append_assoc, List.append_assoc]) ?_)
  clear st
  intro w5 st
  refine ⟨⟨.inr trivial, trivial⟩, ?_⟩
  refine WA_done (by kernel_rfl) ?_
  refine X_then ?_
  refine W_sr ?_
  refine WO_seg 2 [(6, .slice (some ⟨b2, 0, none⟩) (List.length l + 1) cap2)] (by kernel_rfl) (by kernel_rfl) ?_
  refine WO_et rfl ?_
  refine W_ret ?_
  refine X_then_ret ?_
  refine X_ret [.tmp 6] [.slice (some ⟨b2, 0, none⟩) (List.length l + 1) cap2] rfl (ResAll.cons (ResAt.tmp (by kernel_rfl)) ResAll.nil) ?_
  rw [hfin] at st
  have st : St m (opc (some ⟨b2, 0, none⟩) (acellsM (fun x : ByteArray × ByteArray => ([.string x.1, .string x.2] : List Value)) (List.take i l ++ x :: List.drop i l) ((Z.drop 2).drop B.length)) 66 :: own) w5 := st.front1.tail
  obtain ⟨m1, hle1, st, r1⟩ := St.freezeM (c := (cPair cStr cStr)) (f := (fun x : ByteArray × ByteArray => ([.string x.1, .string x.2] : List Value))) (nn := List.length l + 1) (cc := cap2) st ⟨by omega, hc2, rfl, (show (List.length l + 1) * 2 + List.length (List.drop B.length (List.drop 2 Z)) = cap2 * 2 by simp only [List.length_drop, hBl]; omega)⟩ hlen (fun _ => rfl) (fun _ x => ⟨_, _, rfl, rfl, rfl⟩)
  rw [hlen] at st ⊢
  exact ⟨_, cap2, m1, rfl, Mem.le_trans hm hle1, st, r1⟩
 intro hg
 rw [hw1] at hg
 have hg : List.length l + 1 ≤ cap := by have := of_decide_eq_false hg; omega
 have hT : 2 ≤ T.length := by omega
 refine W_skip ?_
 refine X_then ?_
 refine W_sr ?_
 refine WO_seg 4 [(56, .slice (some ⟨b, 0, none⟩) (List.length l) cap), (59, .int .i64 (IntKind.wrap .i64 ((List.length l : Int) + 1)))] (by kernel_rfl) (by kernel_rfl) ?_
 refine WO_one rfl (One_sliceO (d := 60) (t := 45) (e := 66) (k := 2) (x := (.tmp 56)) (lo := none) (hi := some (.tmp 59)) (li := 0) (hix := IntKind.wrap .i64 ((List.length l : Int) + 1)) (.slice (some ⟨b, 0, none⟩) (List.length l + 1) cap) (by kernel_rfl) rfl (show evL _ _ = some (.slice (some ⟨b, 0, none⟩) (List.length l) cap) from (by kernel_rfl)) (by kernel_rfl) (.inl ⟨rfl, rfl⟩) (.inr ⟨_, _, rfl, (show evL _ _ = some (.int .i64 (IntKind.wrap .i64 ((List.length l : Int) + 1))) from (by kernel_rfl))⟩) (by omega) (by rw [hw1]; omega) (by rw [hw1]; omega) (by rw [hw1, slA_some (by simp; omega), show ((List.length l : Int) + 1).toNat = List.length l + 1 by omega]; simp) ?_)
 refine WO_seg 1 [(0, .slice (some ⟨b, 0, none⟩) (List.length l + 1) cap)] (by kernel_rfl) (by kernel_rfl) ?_
 refine WO_et rfl ?_
 refine W_seq ?_
 refine W_sr ?_
 refine WO_seg 5 [(61, .slice a2 1 c2), (62, .slice (some ⟨b, 0, none⟩) (List.length l + 1) cap), (65, .int .i64 (IntKind.wrap .i64 ((i : Int) + 1)))] (by kernel_rfl) (by kernel_rfl) ?_
 refine WO_one rfl (One_sliceO (d := 66) (t := 45) (e := 66) (k := 2) (x := (.tmp 62)) (lo := some (.tmp 65)) (hi := none) (li := IntKind.wrap .i64 ((i : Int) + 1)) (hix := ((List.length l + 1 : Nat) : Int)) (.slice (some ⟨b, A.length + 2, none⟩) (List.length l - i) (cap - (i + 1))) (by kernel_rfl) rfl (show evL _ _ = some (.slice (some ⟨b, 0, none⟩) (List.length l + 1) cap) from (by kernel_rfl)) (by kernel_rfl) (.inr ⟨_, _, rfl, (show evL _ _ = some (.int .i64 (IntKind.wrap .i64 ((i : Int) + 1))) from (by kernel_rfl))⟩) (.inl ⟨rfl, rfl⟩) (by rw [hw2]; omega) (by rw [hw2]; omega) (by omega) (by rw [hw2, show ((i : Int) + 1).toNat = i + 1 by omega, slA_some (by omega), Int.toNat_natCast, show 0 + (i + 1) * 2 = A.length + 2 by omega, show List.length l + 1 - (i + 1) = List.length l - i by omega]) ?_)
 have hov : (Extern.SlicesOverlaps.overlaps #[45, 45] #[4] #[.slice a2 1 c2, .slice (some ⟨b, A.length + 2, none⟩) (List.length l - i) (cap - (i + 1))]).run Go.Proofs.Tryd.prog w = .ok (.bool false) w := by
  cases a2 with
  | none => exact absurd hv.none_nil.1 (by simp)
  | some p =>
   obtain ⟨cs, hcs, hrow⟩ := hv.2.2.2 0 x rfl
   have hcs' : cs = (fun x : ByteArray × ByteArray => ([.string x.1, .string x.2] : List Value)) x := (show ∀ (m : Mem) (x : ByteArray × ByteArray) cs, (cPair cStr cStr).rep m x cs → cs = (fun x : ByteArray × ByteArray => ([.string x.1, .string x.2] : List Value)) x from (fun _ _ _ h => by obtain ⟨_, _, rfl, rfl, rfl⟩ := h; rfl)) m x cs hcs
   have hcell := hrow 0 (((fun x : ByteArray × ByteArray => ([.string x.1, .string x.2] : List Value)) x)[0]) (by rw [hcs']; rfl)
   obtain ⟨c0, e0, f0, h1, h2⟩ := st.inv.1 _ _ _ hcell
   have hne : p.block ≠ b := fun e => by
    have := st.head.2.1 (p.off + 0 * (cPair cStr cStr).sz + 0)
    rw [← e, hcell] at this; cases this
   have hpos : c0.size ≠ 0 := by have := (Array.getElem?_eq_some_iff.1 h2).1; omega
   exact run_overlaps_own 45 4 66 (by kernel_rfl) 2 (fun _ => run_sizeOf_of (by kernel_rfl)) p ⟨b, A.length + 2, none⟩ 1 c2 _ _ hne e0 66 c0.size _ (by unfold World.shape?; rw [h1]) (by unfold World.shape?; rw [st.head.1]) hpos (by unfold World.frozen?; rw [st.head.1]; simp) (by unfold World.frozen?; rw [st.head.1]; simp)
 refine WO_one rfl (One_extern (d := 67) (f := 90) (xs := #[(.tmp 61), (.tmp 66)]) (ts := #[45, 45]) [.slice a2 1 c2, .slice (some ⟨b, A.length + 2, none⟩) (List.length l - i) (cap - (i + 1))] (.bool false) (by kernel_rfl) rfl (by kernel_rfl) Go.Proofs.Tryd.func90 (by kernel_rfl) (show Extern.find _ = some (Extern.SlicesOverlaps.overlaps #[45, 45] #[4]) from rfl) hov ?_)
 refine WO_seg 1 [(68, .bool true)] (by kernel_rfl) (by kernel_rfl) ?_
 refine WO_et rfl ?_
 refine W_cond true (by kernel_rfl) ?_ (fun h => Bool.noConfusion h)
 intro _
 refine W_seq ?_
 refine W_draw [(9, fun _ => True)] (by kernel_rfl) st ?_
 clear st hov
 intro w4 _ st
 refine ⟨⟨.inr trivial, trivial⟩, ?_⟩
 refine WA_pure 0 69 (.slice (some ⟨b, 0, none⟩) (List.length l + 1) cap) (by kernel_rfl) rfl (by kernel_rfl) (.head _) (QP_then (QP_then QP_body)) ?_
 refine WA_pure 1 70 (.int .i64 (i : Int)) (by kernel_rfl) rfl (by kernel_rfl) (.head _) (QP_then (QP_then QP_body)) ?_
 refine WA_pure 2 71 (.int .i64 1) (by kernel_rfl) rfl (by kernel_rfl) (.head _) (QP_then (QP_then QP_body)) ?_
 refine WA_pure 3 72 (.int .i64 (IntKind.wrap .i64 ((i : Int) + 1))) (by kernel_rfl) rfl (by kernel_rfl) (.head _) (QP_then (QP_then QP_body)) ?_
 refine WA_sliceO (t := 45) (e := 66) (k := 2) (x := (.tmp 69)) (lo := some (.tmp 72)) (hi := none) (li := IntKind.wrap .i64 ((i : Int) + 1)) (hix := ((List.length l + 1 : Nat) : Int)) 4 73 (.slice (some ⟨b, A.length + 2, none⟩) (List.length l - i) (cap - (i + 1))) (by kernel_rfl) rfl (by kernel_rfl) (.head _) (QP_then (QP_then QP_body)) (show evL _ _ = some (.slice (some ⟨b, 0, none⟩) (List.length l + 1) cap) from (by kernel_rfl)) (by kernel_rfl) (.inr ⟨_, _, rfl, (show evL _ _ = some (.int .i64 (IntKind.wrap .i64 ((i : Int) + 1))) from (by kernel_rfl))⟩) (.inl ⟨rfl, rfl⟩) (by rw [hw2]; omega) (by rw [hw2]; omega) (by omega) (by rw [hw2, show ((i : Int) + 1).toNat = i + 1 by omega, slA_some (by omega), Int.toNat_natCast, show 0 + (i + 1) * 2 = A.length + 2 by omega, show List.length l + 1 - (i + 1) = List.length l - i by omega]) ?_
 refine WA_pure 5 74 (.slice (some ⟨b, 0, none⟩) (List.length l + 1) cap) (by kernel_rfl) rfl (by kernel_rfl) (.head _) (QP_then (QP_then QP_body)) ?_
 refine WA_pure 6 75 (.int .i64 (i : Int)) (by kernel_rfl) rfl (by kernel_rfl) (.head _) (QP_then (QP_then QP_body)) ?_
 refine WA_sliceO (t := 45) (e := 66) (k := 2) (x := (.tmp 74)) (lo := some (.tmp 75)) (hi := none) (li := (i : Int)) (hix := ((List.length l + 1 : Nat) : Int)) 7 76 (.slice (some ⟨b, A.length, none⟩) (List.length l + 1 - i) (cap - i)) (by kernel_rfl) rfl (by kernel_rfl) (.head _) (QP_then (QP_then QP_body)) (show evL _ _ = some (.slice (some ⟨b, 0, none⟩) (List.length l + 1) cap) from (by kernel_rfl)) (by kernel_rfl) (.inr ⟨_, _, rfl, (show evL _ _ = some (.int .i64 (i : Int)) from (by kernel_rfl))⟩) (.inl ⟨rfl, rfl⟩) (by omega) (by omega) (by omega) (by rw [slA_some (by simp; omega), hAl]; simp) ?_
 have hmin : Nat.min (List.length l + 1 - i) (List.length l - i) = List.length l - i := Nat.min_eq_right (by omega)
 refine WA_one 8 (by kernel_rfl) (One_copyO (d := 77) (t := 45) (u := 45) (e := 66) (k := 2) (x := (.tmp 73)) (y := (.tmp 76)) B (A ++ ((B ++ T).take 2 ++ (B ++ T.drop 2))) (by kernel_rfl) rfl (show evL _ _ = some (.slice (some ⟨b, A.length + 2, none⟩) (List.length l - i) (cap - (i + 1))) from (by kernel_rfl)) (show evL _ _ = some (.slice (some ⟨b, A.length, none⟩) (List.length l + 1 - i) (cap - i)) from (by kernel_rfl)) (by kernel_rfl) st
  (by rw [hmin]; exact first_own (C := (A ++ (B ++ T)).toArray) (e := 66) st.head.1 (by simp only; rw [List.drop_left, ← hBl]; exact List.take_left) hBl)
  (by simp only [List.size_toArray, List.length_append]; omega) hoB (by
   simp only
   rw [List.take_length_add_append, Nat.add_assoc, List.drop_length_add_append, Nat.add_comm 2 B.length, List.drop_length_add_append]
   simp only [List.append_assoc]) ?_)
 clear st
 intro w5 st
 refine ⟨⟨.inr trivial, trivial⟩, ?_⟩
 refine WA_done (by kernel_rfl) ?_
 refine X_then ?_
 refine W_sr ?_
 refine WO_seg 2 [(78, .slice (some ⟨b, 0, none⟩) (List.length l + 1) cap), (79, .int .i64 (i : Int))] (by kernel_rfl) (by kernel_rfl) ?_
 refine WO_one rfl (One_sliceO (d := 80) (t := 45) (e := 66) (k := 2) (x := (.tmp 78)) (lo := some (.tmp 79)) (hi := none) (li := (i : Int)) (hix := ((List.length l + 1 : Nat) : Int)) (.slice (some ⟨b, A.length, none⟩) (List.length l + 1 - i) (cap - i)) (by kernel_rfl) rfl (show evL _ _ = some (.slice (some ⟨b, 0, none⟩) (List.length l + 1) cap) from (by kernel_rfl)) (by kernel_rfl) (.inr ⟨_, _, rfl, (show evL _ _ = some (.int .i64 (i : Int)) from (by kernel_rfl))⟩) (.inl ⟨rfl, rfl⟩) (by omega) (by omega) (by omega) (by rw [slA_some (by simp; omega), hAl]; simp) ?_)
 refine WO_seg 1 [(81, .slice a2 1 c2)] (by kernel_rfl) (by kernel_rfl) ?_
 have hmin2 : Nat.min 1 (List.length l + 1 - i) = 1 := Nat.min_eq_left (by omega)
 refine WO_one rfl (One_copyO (d := 82) (t := 45) (u := 45) (e := 66) (k := 2) (x := (.tmp 80)) (y := (.tmp 81)) ((fun x : ByteArray × ByteArray => ([.string x.1, .string x.2] : List Value)) x) (A ++ ((fun x : ByteArray × ByteArray => ([.string x.1, .string x.2] : List Value)) x ++ (B ++ T.drop 2))) (by kernel_rfl) rfl (show evL _ _ = some (.slice (some ⟨b, A.length, none⟩) (List.length l + 1 - i) (cap - i)) from (by kernel_rfl)) (show evL _ _ = some (.slice a2 1 c2) from (by kernel_rfl)) (by kernel_rfl) st (by rw [hmin2]; exact hX _ st.inv) (by simp only [hxl, List.size_toArray, List.length_append, List.length_take, List.length_drop]; omega) (hone x) (by
   have e1 : ((B ++ T).take 2).length = 2 := by rw [List.length_take, List.length_append]; omega
   simp only [hxl]
   rw [List.take_left, List.drop_length_add_append]
   conv => lhs; rw [← e1]
   rw [e1]
   rw [show List.drop 2 ((B ++ T).take 2 ++ (B ++ T.drop 2)) = B ++ T.drop 2 by
    conv => lhs; arg 1; rw [← e1]
    exact List.drop_left]
   rw [List.append_assoc]) ?_)
 clear st
 intro w6 st
 refine WO_et rfl ?_
 refine W_sr ?_
 refine WO_seg 2 [(6, .slice (some ⟨b, 0, none⟩) (List.length l + 1) cap)] (by kernel_rfl) (by kernel_rfl) ?_
 refine WO_et rfl ?_
 refine W_ret ?_
 refine X_then_ret ?_
 refine X_ret [.tmp 6] [.slice (some ⟨b, 0, none⟩) (List.length l + 1) cap] rfl (ResAll.cons (ResAt.tmp (by kernel_rfl)) ResAll.nil) ?_
 rw [hfin] at st
 have st : St m (opc (some ⟨b, 0, none⟩) (acellsM (fun x : ByteArray × ByteArray => ([.string x.1, .string x.2] : List Value)) (List.take i l ++ x :: List.drop i l) (T.drop 2)) 66 :: own) w6 := st
 obtain ⟨m1, hle1, st, r1⟩ := St.freezeM (c := (cPair cStr cStr)) (f := (fun x : ByteArray × ByteArray => ([.string x.1, .string x.2] : List Value))) (nn := List.length l + 1) (cc := cap) st ⟨hg, hs.2.1, rfl, (show (List.length l + 1) * 2 + List.length (List.drop 2 T) = cap * 2 by simp only [List.length_drop]; omega)⟩ hlen (fun _ => rfl) (fun _ x => ⟨_, _, rfl, rfl, rfl⟩)
 rw [hlen] at st ⊢
 exact ⟨_, cap, m1, rfl, Mem.le_trans hm hle1, st, r1⟩

theorem slices_Insert_api_File_api_File_ok2 {m : Mem} {own : List Piece} {w : World} {l r : List (ByteArray × ByteArray)} {x : ByteArray × ByteArray} {ix : Int} {a a2 : Option Addr} {cap c2 nn : Nat} {T : List Value} (st : St m (opc a (acellsM (fun x : ByteArray × ByteArray => ([.string x.1, .string x.2] : List Value)) l T) 66 :: own) w) (hs : OAS a nn cap 2 T) (hn : List.length l = nn) (hv : RepS (cPair cStr cStr) m a2 c2 [x]) (hr : insertS 32 l ix x = some r) :
  Calls Go.Proofs.Tryd.prog 61 #[.slice a nn cap, .int .i64 ix, .slice a2 1 c2] w fun e w' => ∃ (ra1 : Option Addr) (rc1 : Nat) (m' : Mem), e = .returned (.slice ra1 (List.length r) rc1) ∧ m.le m' ∧ St m' (.room ra1 (List.length r) rc1 66 2 :: own) w' ∧ RepS (cPair cStr cStr) m' ra1 rc1 r := by
 obtain ⟨i, rfl, h2, h3, h4, rfl⟩ := insertS_some hr
 exact slices_Insert_api_File_api_File_own st hs hn hv h2 h3 h4

def revision_Put (N : Nat) (p0 : (List (ByteArray × ByteArray))) (p1 : ByteArray) (p2 : ByteArray) : Option (((List (ByteArray × ByteArray))) × Int) :=
 (revision_Check N p0).bind fun y1 => if (y1 != 0) = true then (some (([] : List (ByteArray × ByteArray)), y1)) else ((lexer_Path N p1).bind fun y2 => if (!y2) = true then (some (([] : List (ByteArray × ByteArray)), 6)) else ((revision_at N p0 p1).bind fun y3 => (if (decide ((ByteArray.size p2 : Int) > 16384)) = true then (some true) else (if (!y3.2) = true then (some ((List.length p0 : Int) == 64)) else (some false)) : Option (Bool)).bind fun o1 => if o1 = true then (some (([] : List (ByteArray × ByteArray)), 2)) else ((slices_Clone_api_File_api_File_O p0).bind fun y4 => (if y3.2 = true then ((idx y4 y3.1).bind fun x1 => some (List.set y4 (Int.toNat y3.1) (x1.1, p2))) else ((insertS 32 y4 y3.1 (p1, p2)).bind fun y5 => some y5) : Option ((List (ByteArray × ByteArray)))).bind fun o2 => some (o2, 0))))

set_option maxHeartbeats 4000000 in
set_option maxRecDepth 100000 in
theorem revision_Put_ok {N : Nat} {m : Mem} {own : List Piece} {w : World} {p0 : (List (ByteArray × ByteArray))} {p1 : ByteArray} {p2 : ByteArray} {a1 : Option Addr} {c1 : Nat} {r : ((List (ByteArray × ByteArray))) × Int} (st : St m (own) w) (r1 : RepS (cPair cStr cStr) m a1 c1 p0) (hr : revision_Put N p0 p1 p2 = some r) : Calls Go.Proofs.Tryd.prog 34 #[.agg #[.slice a1 (List.length p0) c1], .string p1, .string p2] w fun e w' => ∃ (ra1 : Option Addr) (rc1 : Nat) (m' : Mem), e = .returned (.tuple #[.agg #[.slice ra1 (List.length r.1) rc1], .int .i64 r.2]) ∧ m.le m' ∧ St m' (.room ra1 (List.length r.1) rc1 66 2 :: own) w' ∧ RepS (cPair cStr cStr) m' ra1 rc1 r.1 := by
 unfold revision_Put at hr
 have hm := m.le_refl
 refine W_calls Go.Proofs.Tryd.func34 rfl Go.Proofs.Tryd.ntmps34 [(0, .agg #[.slice a1 (List.length p0) c1]), (1, .string p1), (2, .string p2)] (by kernel_rfl) rfl ?_
 refine W_sr ?_
 refine WO_one rfl (One_box (d := 3) (e := 47) (x := (.tmp 0)) (.agg #[.slice a1 (List.length p0) c1]) (by kernel_rfl) rfl (by kernel_rfl) st ?_)
 clear st
 intro b1 m1 w1 hle1 st hb1
 have hm := Mem.le_trans hm hle1
 have r1 := r1.mono hle1
 refine WO_one rfl (One_alloc (d := 6) (e := 47) (.agg #[.slice none 0 0]) (by kernel_rfl) rfl (by kernel_rfl) st ?_)
 clear st
 intro b2 w2 st
 refine WO_seg 1 [] (by kernel_rfl) (by kernel_rfl) ?_
 refine WO_et rfl ?_
 refine W_seq ?_
 refine W_sr ?_
 refine WO_one rfl (One_load_row (d := 12) (t := 47) (x := (.tmp 3)) (.agg #[.slice a1 (List.length p0) c1]) (by kernel_rfl) rfl (show evL _ _ = some (.pointer (some ⟨b1, 0, none⟩)) from (by kernel_rfl)) st hb1 (by kernel_rfl) ?_)
 replace hr := bindS hr
 obtain ⟨y1, hx1, hr⟩ := hr
 refine WO_one rfl (One_fn 13 26 #[.agg #[.slice a1 (List.length p0) c1]] (by kernel_rfl) rfl ?_)
 refine (revision_Check_ok st r1 hx1).mono ?_
 clear st
 rintro _ w3 ⟨m2, rfl, hle2, st⟩
 refine ⟨_, rfl, ?_⟩
 have hm := Mem.le_trans hm hle2
 have hb1 := hb1.mono hle2
 have r1 := r1.mono hle2
 refine WO_seg 1 [(8, .int .i64 y1)] (by kernel_rfl) (by kernel_rfl) ?_
 refine WO_et rfl ?_
 refine W_sr ?_
 refine WO_seg 2 [(15, .bool (y1 != 0))] (by kernel_rfl) (by kernel_rfl) ?_
 refine WO_et rfl ?_
 refine W_cond (y1 != 0) (by kernel_rfl) ?_ ?_
 ·intro hc
  rw [if_pos hc] at hr
  refine W_sr ?_
  refine WO_seg 2 [(16, .agg #[.slice none (List.length ([] : List (ByteArray × ByteArray))) 0]), (17, .int .i64 y1)] (by kernel_rfl) (by kernel_rfl) ?_
  refine WO_one rfl (One_store (t := 47) (x := (.tmp 6)) (y := (.tmp 16)) (v := .agg #[.slice none (List.length ([] : List (ByteArray × ByteArray))) 0]) (c' := #[.slice none (List.length ([] : List (ByteArray × ByteArray))) 0]) (by kernel_rfl) (show evL _ _ = some (.pointer (some ⟨b2, 0, none⟩)) from (by kernel_rfl)) (show evL _ _ = some (.agg #[.slice none (List.length ([] : List (ByteArray × ByteArray))) 0]) from (by kernel_rfl)) st (by kernel_rfl) (by kernel_rfl) ?_)
  clear st
  intro w4 st
  refine WO_seg 1 [(7, .int .i64 y1)] (by kernel_rfl) (by kernel_rfl) ?_
  refine WO_et rfl ?_
  refine W_ret ?_
  refine X_then_ret ?_
  obtain rfl := Option.some.inj hr
  refine X_ret [.cell 6 47, .tmp 7] [.agg #[.slice none (List.length ([] : List (ByteArray × ByteArray))) 0], .int .i64 y1] rfl (ResAll.cons (ResAt.blk (v := .agg #[.slice none (List.length ([] : List (ByteArray × ByteArray))) 0]) (o := 0) (by kernel_rfl) st.head (by kernel_rfl)) (ResAll.cons (ResAt.tmp (by kernel_rfl)) ResAll.nil)) ?_
  have st := st.nilroom 66 2
  have st := st.front1
  have st := st.tail
  exact ⟨none, 0, m2, rfl, hm, st, (RepS.nil _ _)⟩
 ·intro hc
  rw [if_neg (not_true hc)] at hr
  refine W_skip ?_
  refine X_then ?_
  refine W_seq ?_
  refine W_sr ?_
  refine WO_seg 1 [(18, .string p1)] (by kernel_rfl) (by kernel_rfl) ?_
  replace hr := bindS hr
  obtain ⟨y2, hx2, hr⟩ := hr
  refine WO_one rfl (One_fn 19 17 #[.string p1] (by kernel_rfl) rfl ?_)
  refine (lexer_Path_ok st hx2).mono ?_
  clear st
  rintro _ w5 ⟨m3, rfl, hle3, st⟩
  refine ⟨_, rfl, ?_⟩
  have hm := Mem.le_trans hm hle3
  have hb1 := hb1.mono hle3
  have r1 := r1.mono hle3
  refine WO_seg 1 [(20, .bool (!y2))] (by kernel_rfl) (by kernel_rfl) ?_
  refine WO_et rfl ?_
  refine W_cond (!y2) (by kernel_rfl) ?_ ?_
  ·intro hc
   rw [if_pos hc] at hr
   refine W_sr ?_
   refine WO_seg 1 [(21, .agg #[.slice none (List.length ([] : List (ByteArray × ByteArray))) 0])] (by kernel_rfl) (by kernel_rfl) ?_
   refine WO_one rfl (One_store (t := 47) (x := (.tmp 6)) (y := (.tmp 21)) (v := .agg #[.slice none (List.length ([] : List (ByteArray × ByteArray))) 0]) (c' := #[.slice none (List.length ([] : List (ByteArray × ByteArray))) 0]) (by kernel_rfl) (show evL _ _ = some (.pointer (some ⟨b2, 0, none⟩)) from (by kernel_rfl)) (show evL _ _ = some (.agg #[.slice none (List.length ([] : List (ByteArray × ByteArray))) 0]) from (by kernel_rfl)) st (by kernel_rfl) (by kernel_rfl) ?_)
   clear st
   intro w6 st
   refine WO_seg 1 [(7, .int .i64 6)] (by kernel_rfl) (by kernel_rfl) ?_
   refine WO_et rfl ?_
   refine W_ret ?_
   refine X_then_ret ?_
   obtain rfl := Option.some.inj hr
   refine X_ret [.cell 6 47, .tmp 7] [.agg #[.slice none (List.length ([] : List (ByteArray × ByteArray))) 0], .int .i64 6] rfl (ResAll.cons (ResAt.blk (v := .agg #[.slice none (List.length ([] : List (ByteArray × ByteArray))) 0]) (o := 0) (by kernel_rfl) st.head (by kernel_rfl)) (ResAll.cons (ResAt.tmp (by kernel_rfl)) ResAll.nil)) ?_
   have st := st.nilroom 66 2
   have st := st.front1
   have st := st.tail
   exact ⟨none, 0, m3, rfl, hm, st, (RepS.nil _ _)⟩
  ·intro hc
   rw [if_neg (not_true hc)] at hr
   refine W_skip ?_
   refine X_then ?_
   refine W_sr ?_
   refine WO_one rfl (One_load_row (d := 23) (t := 47) (x := (.tmp 3)) (.agg #[.slice a1 (List.length p0) c1]) (by kernel_rfl) rfl (show evL _ _ = some (.pointer (some ⟨b1, 0, none⟩)) from (by kernel_rfl)) st hb1 (by kernel_rfl) ?_)
   refine WO_seg 1 [(24, .string p1)] (by kernel_rfl) (by kernel_rfl) ?_
   replace hr := bindS hr
   obtain ⟨y3, hx3, hr⟩ := hr
   refine WO_one rfl (One_fn 25 58 #[.agg #[.slice a1 (List.length p0) c1], .string p1] (by kernel_rfl) rfl ?_)
   refine (revision_at_ok st r1 hx3).mono ?_
   clear st
   rintro _ w7 ⟨m4, rfl, hle4, st⟩
   refine ⟨_, rfl, ?_⟩
   have hm := Mem.le_trans hm hle4
   have hb1 := hb1.mono hle4
   have r1 := r1.mono hle4
   refine WO_seg 5 [(9, .int .i64 y3.1), (10, .bool y3.2)] (by kernel_rfl) (by kernel_rfl) ?_
   refine WO_et rfl ?_
   refine W_seq ?_
   refine W_sr ?_
   replace hr := bindS hr
   obtain ⟨o1, hr, hrK⟩ := hr
   refine WO_cut (j := 13) (fun L' w' => ∃ (m5 : Mem), L' = [(1, .string p1), (2, .string p2), (3, .pointer (some ⟨b1, 0, none⟩)), (6, .pointer (some ⟨b2, 0, none⟩)), (9, .int .i64 y3.1), (10, .bool y3.2), (40, .bool o1)] ∧ m.le m5 ∧ St m5 (.blk b2 (.cells #[.slice none (List.length ([] : List (ByteArray × ByteArray))) 0] 47 (0, 0)) :: own) w' ∧ MRow m5 b1 0 [.slice a1 (List.length p0) c1] ∧ RepS (cPair cStr cStr) m5 a1 c1 p0) ?_ ?_
   ·clear hr st
    have hr := hrK
    clear hrK
    rintro _ w8 ⟨m5, rfl, hm, st, hb1, r1⟩
    refine WO_et rfl ?_
    refine W_cond o1 (by kernel_rfl) ?_ ?_
    ·intro hc
     rw [if_pos hc] at hr
     refine W_sr ?_
     refine WO_seg 1 [(41, .agg #[.slice none (List.length ([] : List (ByteArray × ByteArray))) 0])] (by kernel_rfl) (by kernel_rfl) ?_
     refine WO_one rfl (One_store (t := 47) (x := (.tmp 6)) (y := (.tmp 41)) (v := .agg #[.slice none (List.length ([] : List (ByteArray × ByteArray))) 0]) (c' := #[.slice none (List.length ([] : List (ByteArray × ByteArray))) 0]) (by kernel_rfl) (show evL _ _ = some (.pointer (some ⟨b2, 0, none⟩)) from (by kernel_rfl)) (show evL _ _ = some (.agg #[.slice none (List.length ([] : List (ByteArray × ByteArray))) 0]) from (by kernel_rfl)) st (by kernel_rfl) (by kernel_rfl) ?_)
     clear st
     intro w9 st
     refine WO_seg 1 [(7, .int .i64 2)] (by kernel_rfl) (by kernel_rfl) ?_
     refine WO_et rfl ?_
     refine W_ret ?_
     refine X_then_ret ?_
     obtain rfl := Option.some.inj hr
     refine X_ret [.cell 6 47, .tmp 7] [.agg #[.slice none (List.length ([] : List (ByteArray × ByteArray))) 0], .int .i64 2] rfl (ResAll.cons (ResAt.blk (v := .agg #[.slice none (List.length ([] : List (ByteArray × ByteArray))) 0]) (o := 0) (by kernel_rfl) st.head (by kernel_rfl)) (ResAll.cons (ResAt.tmp (by kernel_rfl)) ResAll.nil)) ?_
     have st := st.nilroom 66 2
     have st := st.front1
     have st := st.tail
     exact ⟨none, 0, m5, rfl, hm, st, (RepS.nil _ _)⟩
    ·intro hc
     rw [if_neg (not_true hc)] at hr
     refine W_skip ?_
     refine X_then ?_
     refine W_sr ?_
     refine WO_seg 1 [(42, .pointer (some ⟨b1, 0, none⟩))] (by kernel_rfl) (by kernel_rfl) ?_
     refine WO_one rfl (One_load_row (d := 43) (t := 45) (x := (.tmp 42)) (.slice a1 (List.length p0) c1) (by kernel_rfl) rfl (show evL _ _ = some (.pointer (some ⟨b1, 0, none⟩)) from (by kernel_rfl)) st hb1 (by kernel_rfl) ?_)
     replace hr := bindS hr
     obtain ⟨y4, hx4, hr⟩ := hr
     refine WO_one rfl (One_fn 44 60 #[.slice a1 (List.length p0) c1] (by kernel_rfl) rfl ?_)
     refine (slices_Clone_api_File_api_File_own st r1 hx4).mono ?_
     clear st
     rintro _ w10 ⟨a2, c2, T1, m6, rfl, hle5, hs1, st⟩
     refine ⟨_, rfl, ?_⟩
     have hm := Mem.le_trans hm hle5
     have hb1 := hb1.mono hle5
     have r1 := r1.mono hle5
     refine WO_seg 1 [(11, .slice a2 (List.length y4) c2)] (by kernel_rfl) (by kernel_rfl) ?_
     refine WO_et rfl ?_
     refine W_seq ?_
     refine W_sr ?_
     refine WO_seg 1 [(45, .bool y3.2)] (by kernel_rfl) (by kernel_rfl) ?_
     refine WO_et rfl ?_
     replace hr := bindS hr
     obtain ⟨o2, hr, hrKu1⟩ := hr
     refine W_cut .normal (fun L' w' => ∃ (a3 : Option Addr) (c3 : Nat) (m8 : Mem), L' = [(6, .pointer (some ⟨b2, 0, none⟩)), (11, .slice a3 (List.length o2) c3)] ∧ m.le m8 ∧ St m8 (.blk b2 (.cells #[.slice none (List.length ([] : List (ByteArray × ByteArray))) 0] 47 (0, 0)) :: .room a3 (List.length o2) c3 66 2 :: own) w' ∧ RepS (cPair cStr cStr) m8 a3 c3 o2) ?_ ?_
     ·clear hr st
      have hr := hrKu1
      clear hrKu1
      rintro _ w11 ⟨a3, c3, m8, rfl, hm, st, r3⟩
      refine X_then ?_
      refine W_sr ?_
      refine WO_seg 2 [(59, .agg #[.slice a3 (List.length o2) c3])] (by kernel_rfl) (by kernel_rfl) ?_
      refine WO_one rfl (One_store (t := 47) (x := (.tmp 6)) (y := (.tmp 59)) (v := .agg #[.slice a3 (List.length o2) c3]) (c' := #[.slice a3 (List.length o2) c3]) (by kernel_rfl) (show evL _ _ = some (.pointer (some ⟨b2, 0, none⟩)) from (by kernel_rfl)) (show evL _ _ = some (.agg #[.slice a3 (List.length o2) c3]) from (by kernel_rfl)) st (by kernel_rfl) (by kernel_rfl) ?_)
      clear st
      intro w15 st
      refine WO_seg 1 [(7, .int .i64 0)] (by kernel_rfl) (by kernel_rfl) ?_
      refine WO_et rfl ?_
      refine W_ret ?_
      obtain rfl := Option.some.inj hr
      refine X_ret [.cell 6 47, .tmp 7] [.agg #[.slice a3 (List.length o2) c3], .int .i64 0] rfl (ResAll.cons (ResAt.blk (v := .agg #[.slice a3 (List.length o2) c3]) (o := 0) (by kernel_rfl) st.head (by kernel_rfl)) (ResAll.cons (ResAt.tmp (by kernel_rfl)) ResAll.nil)) ?_
      have st := st.tail
      exact ⟨a3, c3, m8, rfl, hm, st, r3⟩
     ·intro Ku1
      clear hrKu1
      refine W_cond y3.2 (by kernel_rfl) ?_ ?_
      ·intro hc
       rw [if_pos hc] at hr
       refine W_region ?_
       refine WO_seg 3 [(46, .slice a2 (List.length y4) c2), (47, .int .i64 y3.1), (48, .string p2)] (by kernel_rfl) (by kernel_rfl) ?_
       replace hr := bindS hr
       obtain ⟨x1, hx5, hr⟩ := hr
       refine WO_one rfl (One_arrIndexM (d := 49) (t := 45) (e := 66) (x := (.tmp 46)) (y := (.tmp 47)) (k := 2) (by kernel_rfl) rfl (show evL _ _ = some (.slice a2 (List.length y4) c2) from (by kernel_rfl)) (show evL _ _ = some (.int .i64 y3.1) from (by kernel_rfl)) (by kernel_rfl) hs1 rfl hx5 ?_)
       refine WO_seg 1 [(50, .pointer (some ⟨ab a2, Int.toNat y3.1 * 2 + 1, none⟩))] (by kernel_rfl) (by kernel_rfl) ?_
       refine WO_one rfl (One_arrStoreM (t := 9) (x := (.tmp 50)) (y := (.tmp 48)) (o := 1) (f := (fun x : ByteArray × ByteArray => ([.string x.1, .string x.2] : List Value))) (z := x1) (u := (x1.1, p2)) (v := .string p2) (fun _ => rfl) (Int.toNat y3.1 * 2 + 1) rfl (by kernel_rfl) (show evL _ _ = some (.pointer (some ⟨ab a2, Int.toNat y3.1 * 2 + 1, none⟩)) from (by kernel_rfl)) (show evL _ _ = some (.string p2) from (by kernel_rfl)) st hs1 rfl hx5 (by kernel_rfl) rfl ?_)
       clear st
       intro w12 st
       have hn1 : List.length (List.set y4 (Int.toNat y3.1) (x1.1, p2)) = (List.length y4) := set_len rfl _ _
       refine WO_end rfl ?_
       obtain rfl := Option.some.inj hr
       obtain ⟨m9, hle7, st, r4⟩ := St.freezeM (c := (cPair cStr cStr)) (f := (fun x : ByteArray × ByteArray => ([.string x.1, .string x.2] : List Value))) st hs1 hn1 (fun _ => rfl) (fun _ x => ⟨_, _, rfl, rfl, rfl⟩)
       have hm := Mem.le_trans hm hle7
       refine X_env [(6, .pointer (some ⟨b2, 0, none⟩)), (11, .slice a2 (List.length (List.set y4 (Int.toNat y3.1) (x1.1, p2))) c2)] (by (try simp only [hn1]); kernel_rfl) ?_
       have st := st.front1
       exact X_env _ (by kernel_rfl) (Ku1 _ _ ⟨a2, c2, m9, rfl, hm, st, r4⟩)
      ·intro hc
       rw [if_neg (not_true hc)] at hr
       refine W_region ?_
       refine WO_seg 5 [(51, .slice a2 (List.length y4) c2), (52, .int .i64 y3.1), (55, .agg #[.string p1, .string p2])] (by kernel_rfl) (by kernel_rfl) ?_
       refine WO_one rfl (One_buildSlice (d := 56) (t := 45) (e := 66) (len := 1) (parts := #[(0, (.tmp 55))]) (cPair cStr cStr) (xs := [(p1, p2)]) [.string p1, .string p2] (by kernel_rfl) rfl (fun _ => buildCells_run (by kernel_rfl) _) rfl rfl st ⟨[.string p1, .string p2], _, rfl, ⟨_, _, rfl, rfl, rfl⟩, rfl⟩ ?_)
       clear st
       intro b3 m10 w13 hle8 st r5
       have hm := Mem.le_trans hm hle8
       replace hr := bindS hr
       obtain ⟨y5, hx6, hr⟩ := hr
       have st := st.front1
       refine WO_one rfl (One_fn 57 61 #[.slice a2 (List.length y4) c2, .int .i64 y3.1, .slice (some ⟨b3, 0, none⟩) (List.length ([(p1, p2)])) 1] (by kernel_rfl) rfl ?_)
       refine (slices_Insert_api_File_api_File_ok2 st hs1 rfl r5 hx6).mono ?_
       clear st
       rintro _ w14 ⟨a4, c4, m11, rfl, hle9, st, r6⟩
       refine ⟨_, rfl, ?_⟩
       have hm := Mem.le_trans hm hle9
       have r5 := r5.mono hle9
       refine WO_seg 1 [(11, .slice a4 (List.length y5) c4)] (by kernel_rfl) (by kernel_rfl) ?_
       refine WO_end rfl ?_
       have st := st.front1
       have st := st.tail
       obtain rfl := Option.some.inj hr
       have st := st.front1
       exact X_env _ (by kernel_rfl) (Ku1 _ _ ⟨a4, c4, m11, rfl, hm, st, r6⟩)
   ·intro K
    clear hrK
    refine WO_seg 4 [(31, .bool (decide ((ByteArray.size p2 : Int) > 16384)))] (by kernel_rfl) (by kernel_rfl) ?_
    rcases bcases (decide ((ByteArray.size p2 : Int) > 16384)) with hc | hc
    ·rw [if_pos hc] at hr
     refine WO_fact (t := 31) (b := true) (decide ((ByteArray.size p2 : Int) > 16384)) (by kernel_rfl) hc ?_
     refine WO_seg 9 [(40, .bool true)] (by kernel_rfl) (by kernel_rfl) ?_
     obtain rfl := Option.some.inj hr
     exact WO_env _ (by kernel_rfl) (K _ _ ⟨m4, rfl, hm, st, hb1, r1⟩)
    ·rw [if_neg (not_true hc)] at hr
     refine WO_fact (t := 31) (b := false) (decide ((ByteArray.size p2 : Int) > 16384)) (by kernel_rfl) hc ?_
     refine WO_seg 3 [(34, .bool (!y3.2))] (by kernel_rfl) (by kernel_rfl) ?_
     rcases bcases (!y3.2) with hc | hc
     ·rw [if_pos hc] at hr
      refine WO_fact (t := 34) (b := true) (!y3.2) (by kernel_rfl) hc ?_
      refine WO_seg 1 [(35, .pointer (some ⟨b1, 0, none⟩))] (by kernel_rfl) (by kernel_rfl) ?_
      refine WO_one rfl (One_load_row (d := 36) (t := 45) (x := (.tmp 35)) (.slice a1 (List.length p0) c1) (by kernel_rfl) rfl (show evL _ _ = some (.pointer (some ⟨b1, 0, none⟩)) from (by kernel_rfl)) st hb1 (by kernel_rfl) ?_)
      refine WO_seg 4 [(40, .bool ((List.length p0 : Int) == 64))] (by kernel_rfl) (by kernel_rfl) ?_
      obtain rfl := Option.some.inj hr
      exact WO_env _ (by kernel_rfl) (K _ _ ⟨m4, rfl, hm, st, hb1, r1⟩)
     ·rw [if_neg (not_true hc)] at hr
      refine WO_fact (t := 34) (b := false) (!y3.2) (by kernel_rfl) hc ?_
      refine WO_seg 6 [(40, .bool false)] (by kernel_rfl) (by kernel_rfl) ?_
      obtain rfl := Option.some.inj hr
      exact WO_env _ (by kernel_rfl) (K _ _ ⟨m4, rfl, hm, st, hb1, r1⟩)

def revision_Find (N : Nat) (p0 : (List (ByteArray × ByteArray))) (p1 : ByteArray) : Option (ByteArray × Bool) :=
 (revision_Check N p0).bind fun y1 => if (y1 != 0) = true then (some ((⟨#[]⟩ : ByteArray), false)) else ((revision_at N p0 p1).bind fun y2 => if (!y2.2) = true then (some ((⟨#[]⟩ : ByteArray), false)) else ((idx p0 y2.1).bind fun x1 => some (x1.2, true)))

set_option maxHeartbeats 4000000 in
set_option maxRecDepth 100000 in
theorem revision_Find_ok {N : Nat} {m : Mem} {own : List Piece} {w : World} {p0 : (List (ByteArray × ByteArray))} {p1 : ByteArray} {a1 : Option Addr} {c1 : Nat} {r : ByteArray × Bool} (st : St m (own) w) (r1 : RepS (cPair cStr cStr) m a1 c1 p0) (hr : revision_Find N p0 p1 = some r) : Calls Go.Proofs.Tryd.prog 30 #[.agg #[.slice a1 (List.length p0) c1], .string p1] w fun e w' => ∃ (m' : Mem), e = .returned (.tuple #[.string r.1, .bool r.2]) ∧ m.le m' ∧ St m' (own) w' := by
 unfold revision_Find at hr
 have hm := m.le_refl
 refine W_calls Go.Proofs.Tryd.func30 rfl Go.Proofs.Tryd.ntmps30 [(0, .agg #[.slice a1 (List.length p0) c1]), (1, .string p1)] (by kernel_rfl) rfl ?_
 refine W_sr ?_
 refine WO_one rfl (One_box (d := 2) (e := 47) (x := (.tmp 0)) (.agg #[.slice a1 (List.length p0) c1]) (by kernel_rfl) rfl (by kernel_rfl) st ?_)
 clear st
 intro b1 m1 w1 hle1 st hb1
 have hm := Mem.le_trans hm hle1
 have r1 := r1.mono hle1
 refine WO_seg 2 [] (by kernel_rfl) (by kernel_rfl) ?_
 refine WO_et rfl ?_
 refine W_seq ?_
 refine W_sr ?_
 refine WO_one rfl (One_load_row (d := 8) (t := 47) (x := (.tmp 2)) (.agg #[.slice a1 (List.length p0) c1]) (by kernel_rfl) rfl (show evL _ _ = some (.pointer (some ⟨b1, 0, none⟩)) from (by kernel_rfl)) st hb1 (by kernel_rfl) ?_)
 replace hr := bindS hr
 obtain ⟨y1, hx1, hr⟩ := hr
 refine WO_one rfl (One_fn 9 26 #[.agg #[.slice a1 (List.length p0) c1]] (by kernel_rfl) rfl ?_)
 refine (revision_Check_ok st r1 hx1).mono ?_
 clear st
 rintro _ w2 ⟨m2, rfl, hle2, st⟩
 refine ⟨_, rfl, ?_⟩
 have hm := Mem.le_trans hm hle2
 have hb1 := hb1.mono hle2
 have r1 := r1.mono hle2
 refine WO_seg 1 [(10, .bool (y1 != 0))] (by kernel_rfl) (by kernel_rfl) ?_
 refine WO_et rfl ?_
 refine W_cond (y1 != 0) (by kernel_rfl) ?_ ?_
 ·intro hc
  rw [if_pos hc] at hr
  refine W_sr ?_
  refine WO_seg 2 [(4, .string (⟨#[]⟩ : ByteArray)), (5, .bool false)] (by kernel_rfl) (by kernel_rfl) ?_
  refine WO_et rfl ?_
  refine W_ret ?_
  refine X_then_ret ?_
  obtain rfl := Option.some.inj hr
  refine X_ret [.tmp 4, .tmp 5] [.string (⟨#[]⟩ : ByteArray), .bool false] rfl (ResAll.cons (ResAt.tmp (by kernel_rfl)) (ResAll.cons (ResAt.tmp (by kernel_rfl)) ResAll.nil)) ?_
  exact ⟨m2, rfl, hm, st⟩
 ·intro hc
  rw [if_neg (not_true hc)] at hr
  refine W_skip ?_
  refine X_then ?_
  refine W_sr ?_
  refine WO_one rfl (One_load_row (d := 12) (t := 47) (x := (.tmp 2)) (.agg #[.slice a1 (List.length p0) c1]) (by kernel_rfl) rfl (show evL _ _ = some (.pointer (some ⟨b1, 0, none⟩)) from (by kernel_rfl)) st hb1 (by kernel_rfl) ?_)
  refine WO_seg 1 [(13, .string p1)] (by kernel_rfl) (by kernel_rfl) ?_
  replace hr := bindS hr
  obtain ⟨y2, hx2, hr⟩ := hr
  refine WO_one rfl (One_fn 14 58 #[.agg #[.slice a1 (List.length p0) c1], .string p1] (by kernel_rfl) rfl ?_)
  refine (revision_at_ok st r1 hx2).mono ?_
  clear st
  rintro _ w3 ⟨m3, rfl, hle3, st⟩
  refine ⟨_, rfl, ?_⟩
  have hm := Mem.le_trans hm hle3
  have hb1 := hb1.mono hle3
  have r1 := r1.mono hle3
  refine WO_seg 5 [(6, .int .i64 y2.1), (7, .bool y2.2)] (by kernel_rfl) (by kernel_rfl) ?_
  refine WO_et rfl ?_
  refine W_seq ?_
  refine W_sr ?_
  refine WO_seg 2 [(18, .bool (!y2.2))] (by kernel_rfl) (by kernel_rfl) ?_
  refine WO_et rfl ?_
  refine W_cond (!y2.2) (by kernel_rfl) ?_ ?_
  ·intro hc
   rw [if_pos hc] at hr
   refine W_sr ?_
   refine WO_seg 2 [(4, .string (⟨#[]⟩ : ByteArray)), (5, .bool false)] (by kernel_rfl) (by kernel_rfl) ?_
   refine WO_et rfl ?_
   refine W_ret ?_
   refine X_then_ret ?_
   obtain rfl := Option.some.inj hr
   refine X_ret [.tmp 4, .tmp 5] [.string (⟨#[]⟩ : ByteArray), .bool false] rfl (ResAll.cons (ResAt.tmp (by kernel_rfl)) (ResAll.cons (ResAt.tmp (by kernel_rfl)) ResAll.nil)) ?_
   exact ⟨m3, rfl, hm, st⟩
  ·intro hc
   rw [if_neg (not_true hc)] at hr
   refine W_skip ?_
   refine X_then ?_
   refine W_sr ?_
   refine WO_seg 1 [(19, .pointer (some ⟨b1, 0, none⟩))] (by kernel_rfl) (by kernel_rfl) ?_
   refine WO_one rfl (One_load_row (d := 20) (t := 45) (x := (.tmp 19)) (.slice a1 (List.length p0) c1) (by kernel_rfl) rfl (show evL _ _ = some (.pointer (some ⟨b1, 0, none⟩)) from (by kernel_rfl)) st hb1 (by kernel_rfl) ?_)
   refine WO_seg 1 [(21, .int .i64 y2.1)] (by kernel_rfl) (by kernel_rfl) ?_
   replace hr := bindS hr
   obtain ⟨x1, hx3, hr⟩ := hr
   refine WO_one rfl (One_index (d := 22) (t := 45) (e := 66) (x := (.tmp 20)) (y := (.tmp 21)) (cPair cStr cStr) (by kernel_rfl) rfl (show evL _ _ = some (.slice a1 (List.length p0) c1) from (by kernel_rfl)) (show evL _ _ = some (.int .i64 y2.1) from (by kernel_rfl)) (by kernel_rfl) r1 hx3 ?_)
   rintro b2 f1 cs1 ⟨_, _, rfl, rfl, rfl⟩ hq1
   refine WO_seg 1 [(23, .pointer (some ⟨b2, f1 + 1, none⟩))] (by kernel_rfl) (by kernel_rfl) ?_
   refine WO_one rfl (One_load_row (d := 24) (t := 9) (x := (.tmp 23)) (.string x1.2) (by kernel_rfl) rfl (show evL _ _ = some (.pointer (some ⟨b2, f1 + 1, none⟩)) from (by kernel_rfl)) st (hq1.drop 1) (by kernel_rfl) ?_)
   refine WO_seg 2 [(4, .string x1.2), (5, .bool true)] (by kernel_rfl) (by kernel_rfl) ?_
   refine WO_et rfl ?_
   refine W_ret ?_
   obtain rfl := Option.some.inj hr
   refine X_ret [.tmp 4, .tmp 5] [.string x1.2, .bool true] rfl (ResAll.cons (ResAt.tmp (by kernel_rfl)) (ResAll.cons (ResAt.tmp (by kernel_rfl)) ResAll.nil)) ?_
   exact ⟨m3, rfl, hm, st⟩

end Go.Proofs.YtfodebccikifcaaDoor
