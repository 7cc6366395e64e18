/- MADE BY gen.py: plain functions and the proofs that the Go functions compute them. No condition but those of each theorem. -/
import Derived.Test.YtfodebccikifcaaDoorProg
import Derived.Test.YtfodebccikifcaaDoorExt
import Derived.Test.YtfodebccikifcaaDoorTConk4A
namespace Go.Proofs.YtfodebccikifcaaDoor
open Go Go.Dc

def strings_genSplit_L1 (N : Nat) (p0 : ByteArray) (p1 : ByteArray) (p2 : Int) (o1 : Int) (s1 : ByteArray × Int × List (ByteArray)) : Option ((ByteArray × Int × List (ByteArray)) ⊕ ((ByteArray × Int × List (ByteArray)))) :=
  if (decide (s1.2.1 < (IntKind.wrap .i64 ((if (IntKind.wrap .i64 ((ByteArray.size p0 : Int) + 1)) < o1 then (IntKind.wrap .i64 ((ByteArray.size p0 : Int) + 1)) else o1) - 1)))) = true then ((strings_Index N s1.1 p1).bind fun y2 => if (decide (y2 < 0)) = true then (some (.inr (s1.1, s1.2.1, s1.2.2))) else ((subB s1.1 0 (IntKind.wrap .i64 (y2 + p2))).bind fun s2 => (idx s1.2.2 s1.2.1).bind fun x1 => (subB s1.1 (IntKind.wrap .i64 (y2 + (ByteArray.size p1 : Int))) (ByteArray.size s1.1 : Int)).bind fun s3 => some (.inl (s3, IntKind.wrap .i64 (s1.2.1 + 1), List.set s1.2.2 (Int.toNat s1.2.1) s2)))) else (some (.inr (s1.1, s1.2.1, s1.2.2)))

def strings_genSplit (N : Nat) (p0 : ByteArray) (p1 : ByteArray) (p2 : Int) (p3 : Int) : Option (List ByteArray) :=
  if (p3 == 0) = true then (some ([] : List (ByteArray))) else (if (p1.toList == (⟨#[]⟩ : ByteArray).toList) = true then none else ((if (decide (p3 < 0)) = true then ((strings_Count N p0 p1).bind fun y1 => some (IntKind.wrap .i64 (y1 + 1))) else (some p3) : Option (Int)).bind fun o1 => (makeA 16 (⟨#[]⟩ : ByteArray) (if (IntKind.wrap .i64 ((ByteArray.size p0 : Int) + 1)) < o1 then (IntKind.wrap .i64 ((ByteArray.size p0 : Int) + 1)) else o1)).bind fun l1 => (loopM (strings_genSplit_L1 N p0 p1 p2 o1) N (p0, 0, l1)).bind fun o2 => (idx o2.2.2 o2.2.1).bind fun x2 => (subS (List.set o2.2.2 (Int.toNat o2.2.1) o2.1) 0 (IntKind.wrap .i64 (o2.2.1 + 1))).bind fun l2 => some l2))

set_option maxHeartbeats 4000000 in
set_option maxRecDepth 100000 in
theorem strings_genSplit_ok {N : Nat} {m : Mem} {own : List Piece} {w : World} {p0 : ByteArray} {p1 : ByteArray} {p2 : Int} {p3 : Int} {r : List ByteArray} (st : St m (own) w) (hr : strings_genSplit N p0 p1 p2 p3 = some r) : Calls Go.Proofs.Tryd.prog 84 #[.string p0, .string p1, .int .i64 p2, .int .i64 p3] w fun e w' => ∃ (ra1 : Option Addr) (rc1 : Nat) (m' : Mem), e = .returned (.slice ra1 (List.length r) rc1) ∧ m.le m' ∧ St m' (own) w' ∧ RepS cStr m' ra1 rc1 r := by
  unfold strings_genSplit at hr
  have hm := m.le_refl
  refine W_calls Go.Proofs.Tryd.func84 rfl Go.Proofs.Tryd.ntmps84 [(0, .string p0), (1, .string p1), (2, .int .i64 p2), (3, .int .i64 p3)] (by kernel_rfl) rfl ?_
  refine W_seq ?_
  refine W_region ?_
  refine WO_seg 1 [] (by kernel_rfl) (by kernel_rfl) ?_
  refine WO_end rfl ?_
  refine X_then ?_
  refine W_seq ?_
  refine W_seq ?_
  refine W_region ?_
  refine WO_seg 2 [(13, .bool (p3 == 0))] (by kernel_rfl) (by kernel_rfl) ?_
  refine WO_end rfl ?_
  refine X_then ?_
  refine W_cond (p3 == 0) (by kernel_rfl) ?_ ?_
  · intro hc
    rw [if_pos hc] at hr
    refine W_seq ?_
    refine W_region ?_
    refine WO_seg 1 [(8, .slice none (List.length ([] : List (ByteArray))) 0)] (by kernel_rfl) (by kernel_rfl) ?_
    refine WO_end rfl ?_
    refine X_then ?_
    refine W_ret ?_
    refine X_then_ret ?_
    obtain rfl := Option.some.inj hr
    refine X_ret [.tmp 8] [.slice none (List.length ([] : List (ByteArray))) 0] rfl (ResAll.cons (ResAt.tmp (by kernel_rfl)) ResAll.nil) ?_
    exact ⟨none, 0, m, rfl, hm, st, (RepS.nil _ _)⟩
  · intro hc
    rw [if_neg (not_true hc)] at hr
    refine W_skip ?_
    refine X_then ?_
    refine W_seq ?_
    refine W_seq ?_
    refine W_region ?_
    refine WO_seg 2 [(15, .bool (p1.toList == (⟨#[]⟩ : ByteArray).toList))] (by kernel_rfl) (by kernel_rfl) ?_
    refine WO_end rfl ?_
    refine X_then ?_
    refine W_cond (p1.toList == (⟨#[]⟩ : ByteArray).toList) (by kernel_rfl) ?_ ?_
    · intro hc
      rw [if_pos hc] at hr
      cases hr
    · intro hc
      rw [if_neg (not_true hc)] at hr
      refine W_skip ?_
      refine X_then ?_
      refine W_seq ?_
      refine W_seq ?_
      refine W_region ?_
      refine WO_seg 2 [(20, .bool (decide (p3 < 0)))] (by kernel_rfl) (by kernel_rfl) ?_
      refine WO_end rfl ?_
      refine X_then ?_
      replace hr := bindS hr
      obtain ⟨o1, hr, hrKu1⟩ := hr
      refine W_cut .normal (fun L' w' => ∃ (m1 : Mem), L' = [(0, .string p0), (1, .string p1), (2, .int .i64 p2), (3, .int .i64 o1)] ∧ m.le m1 ∧ St m1 (own) w') ?_ ?_
      · clear hr st
        have hr := hrKu1
        clear hrKu1
        rintro _ w1 ⟨m1, rfl, hm, st⟩
        refine X_then ?_
        refine W_seq ?_
        refine W_region ?_
        refine WO_seg 6 [(3, .int .i64 (if (IntKind.wrap .i64 ((ByteArray.size p0 : Int) + 1)) < o1 then (IntKind.wrap .i64 ((ByteArray.size p0 : Int) + 1)) else o1))] (by kernel_rfl) (by kernel_rfl) ?_
        refine WO_end rfl ?_
        refine X_then ?_
        refine W_seq ?_
        refine W_region ?_
        refine WO_seg 1 [(30, .int .i64 (if (IntKind.wrap .i64 ((ByteArray.size p0 : Int) + 1)) < o1 then (IntKind.wrap .i64 ((ByteArray.size p0 : Int) + 1)) else o1))] (by kernel_rfl) (by kernel_rfl) ?_
        replace hr := bindS hr
        obtain ⟨l1, hx2, hr⟩ := hr
        refine WO_one rfl (One_makeArr (d := 31) (t := 30) (e := 9) (by_ := 16) (x := (.tmp 30)) (y := (.tmp 30)) (fun x : ByteArray => Value.string x) (by kernel_rfl) rfl (show evL _ _ = some (.int .i64 (if (IntKind.wrap .i64 ((ByteArray.size p0 : Int) + 1)) < o1 then (IntKind.wrap .i64 ((ByteArray.size p0 : Int) + 1)) else o1)) from (by kernel_rfl)) (show evL _ _ = some (.int .i64 (if (IntKind.wrap .i64 ((ByteArray.size p0 : Int) + 1)) < o1 then (IntKind.wrap .i64 ((ByteArray.size p0 : Int) + 1)) else o1)) from (by kernel_rfl)) (by kernel_rfl) (by kernel_rfl) rfl st hx2 ?_)
        clear st
        intro b1 w3 hn1 st
        refine WO_seg 1 [(9, .slice (some ⟨b1, 0, none⟩) (Int.toNat (if (IntKind.wrap .i64 ((ByteArray.size p0 : Int) + 1)) < o1 then (IntKind.wrap .i64 ((ByteArray.size p0 : Int) + 1)) else o1)) (Int.toNat (if (IntKind.wrap .i64 ((ByteArray.size p0 : Int) + 1)) < o1 then (IntKind.wrap .i64 ((ByteArray.size p0 : Int) + 1)) else o1)))] (by kernel_rfl) (by kernel_rfl) ?_
        refine WO_end rfl ?_
        refine X_then ?_
        refine W_seq ?_
        refine W_region ?_
        refine WO_seg 3 [(3, .int .i64 (IntKind.wrap .i64 ((if (IntKind.wrap .i64 ((ByteArray.size p0 : Int) + 1)) < o1 then (IntKind.wrap .i64 ((ByteArray.size p0 : Int) + 1)) else o1) - 1)))] (by kernel_rfl) (by kernel_rfl) ?_
        refine WO_end rfl ?_
        refine X_then ?_
        refine W_seq ?_
        refine W_region ?_
        refine WO_seg 1 [(10, .int .i64 0)] (by kernel_rfl) (by kernel_rfl) ?_
        refine WO_end rfl ?_
        refine X_then ?_
        refine W_seq ?_
        refine W_block ?_
        replace hr := bindS hr
        obtain ⟨out1, hr, hrKu2⟩ := hr
        refine W_cut (.exit 0) (fun L' w' => ∃ (o2 : ByteArray × Int × List (ByteArray)) (m3 : Mem), o2 = out1 ∧ L' = [(0, .string o2.1), (9, .slice (some ⟨b1, 0, none⟩) (Int.toNat (if (IntKind.wrap .i64 ((ByteArray.size p0 : Int) + 1)) < o1 then (IntKind.wrap .i64 ((ByteArray.size p0 : Int) + 1)) else o1)) (Int.toNat (if (IntKind.wrap .i64 ((ByteArray.size p0 : Int) + 1)) < o1 then (IntKind.wrap .i64 ((ByteArray.size p0 : Int) + 1)) else o1))), (10, .int .i64 o2.2.1)] ∧ m.le m3 ∧ St m3 (.blk b1 (.cells (acells (fun x : ByteArray => Value.string x) o2.2.2 []) 9 (0, 0)) :: own) w' ∧ List.length o2.2.2 = (Int.toNat (if (IntKind.wrap .i64 ((ByteArray.size p0 : Int) + 1)) < o1 then (IntKind.wrap .i64 ((ByteArray.size p0 : Int) + 1)) else o1))) ?_ ?_
        · clear hr st
          rintro _ w4 ⟨o2, m3, rfl, rfl, hm, st, hn2⟩
          have hr := hrKu2
          clear hrKu2
          refine X_block_eq ?_
          refine X_then ?_
          refine W_seq ?_
          refine W_region ?_
          refine WO_seg 3 [(58, .slice (some ⟨b1, 0, none⟩) (Int.toNat (if (IntKind.wrap .i64 ((ByteArray.size p0 : Int) + 1)) < o1 then (IntKind.wrap .i64 ((ByteArray.size p0 : Int) + 1)) else o1)) (Int.toNat (if (IntKind.wrap .i64 ((ByteArray.size p0 : Int) + 1)) < o1 then (IntKind.wrap .i64 ((ByteArray.size p0 : Int) + 1)) else o1))), (59, .int .i64 o2.2.1), (60, .string o2.1)] (by kernel_rfl) (by kernel_rfl) ?_
          replace hr := bindS hr
          obtain ⟨x2, hx7, hr⟩ := hr
          refine WO_one rfl (One_arrIndex (d := 61) (t := 30) (e := 9) (x := (.tmp 58)) (y := (.tmp 59)) (by kernel_rfl) rfl (show evL _ _ = some (.slice (some ⟨b1, 0, none⟩) (Int.toNat (if (IntKind.wrap .i64 ((ByteArray.size p0 : Int) + 1)) < o1 then (IntKind.wrap .i64 ((ByteArray.size p0 : Int) + 1)) else o1)) (Int.toNat (if (IntKind.wrap .i64 ((ByteArray.size p0 : Int) + 1)) < o1 then (IntKind.wrap .i64 ((ByteArray.size p0 : Int) + 1)) else o1))) from (by kernel_rfl)) (show evL _ _ = some (.int .i64 o2.2.1) from (by kernel_rfl)) (by kernel_rfl) hn2 hx7 ?_)
          refine WO_one rfl (One_arrStore (f := (fun x : ByteArray => Value.string x)) (u := o2.1) (t := 9) (x := (.tmp 61)) (y := (.tmp 60)) (by kernel_rfl) (show evL _ _ = some (.pointer (some ⟨b1, Int.toNat o2.2.1, none⟩)) from (by kernel_rfl)) (show evL _ _ = some (.string o2.1) from (by kernel_rfl)) st hx7 rfl (by kernel_rfl) ?_)
          clear st
          intro w8 st
          have hn5 : List.length (List.set o2.2.2 (Int.toNat o2.2.1) o2.1) = (Int.toNat (if (IntKind.wrap .i64 ((ByteArray.size p0 : Int) + 1)) < o1 then (IntKind.wrap .i64 ((ByteArray.size p0 : Int) + 1)) else o1)) := set_len hn2 _ _
          refine WO_end rfl ?_
          refine X_then ?_
          refine W_seq ?_
          refine W_region ?_
          refine WO_seg 3 [(62, .slice (some ⟨b1, 0, none⟩) (Int.toNat (if (IntKind.wrap .i64 ((ByteArray.size p0 : Int) + 1)) < o1 then (IntKind.wrap .i64 ((ByteArray.size p0 : Int) + 1)) else o1)) (Int.toNat (if (IntKind.wrap .i64 ((ByteArray.size p0 : Int) + 1)) < o1 then (IntKind.wrap .i64 ((ByteArray.size p0 : Int) + 1)) else o1))), (64, .int .i64 (IntKind.wrap .i64 (o2.2.1 + 1)))] (by kernel_rfl) (by kernel_rfl) ?_
          obtain ⟨m6, hle3, st, r1⟩ := St.freeze (c := cStr) st hn5 (Nat.le_refl _) (makeA_le hx2) (acells_size hn5 (Nat.add_zero _)) rfl (fun _ _ => rfl)
          have hm := Mem.le_trans hm hle3
          refine WO_env [(9, .slice (some ⟨b1, 0, none⟩) (List.length (List.set o2.2.2 (Int.toNat o2.2.1) o2.1)) (Int.toNat (if (IntKind.wrap .i64 ((ByteArray.size p0 : Int) + 1)) < o1 then (IntKind.wrap .i64 ((ByteArray.size p0 : Int) + 1)) else o1))), (10, .int .i64 o2.2.1), (62, .slice (some ⟨b1, 0, none⟩) (List.length (List.set o2.2.2 (Int.toNat o2.2.1) o2.1)) (Int.toNat (if (IntKind.wrap .i64 ((ByteArray.size p0 : Int) + 1)) < o1 then (IntKind.wrap .i64 ((ByteArray.size p0 : Int) + 1)) else o1))), (64, .int .i64 (IntKind.wrap .i64 (o2.2.1 + 1)))] (by rw [hn5]; kernel_rfl) ?_
          replace hr := bindS hr
          obtain ⟨l2, hx8, hr⟩ := hr
          refine WO_one rfl (One_slice (d := 65) (t := 30) (e := 9) (x := (.tmp 62)) (lo := none) (hi := (some (.tmp 64))) cStr (by kernel_rfl) rfl (show evL _ _ = some (.slice (some ⟨b1, 0, none⟩) (List.length (List.set o2.2.2 (Int.toNat o2.2.1) o2.1)) (Int.toNat (if (IntKind.wrap .i64 ((ByteArray.size p0 : Int) + 1)) < o1 then (IntKind.wrap .i64 ((ByteArray.size p0 : Int) + 1)) else o1))) from (by kernel_rfl)) (by kernel_rfl) r1 (.inl ⟨rfl, rfl⟩) (.inr ⟨_, _, rfl, (show evL _ _ = some (.int .i64 (IntKind.wrap .i64 (o2.2.1 + 1))) from (by kernel_rfl))⟩) hx8 ?_)
          intro a1 c1 r2
          refine WO_seg 1 [(8, .slice a1 (List.length l2) c1)] (by kernel_rfl) (by kernel_rfl) ?_
          refine WO_end rfl ?_
          have st := st.tail
          refine X_then ?_
          refine W_ret ?_
          obtain rfl := Option.some.inj hr
          refine X_ret [.tmp 8] [.slice a1 (List.length l2) c1] rfl (ResAll.cons (ResAt.tmp (by kernel_rfl)) ResAll.nil) ?_
          exact ⟨a1, c1, m6, rfl, hm, st, r2⟩
        intro K0_u2
        clear hrKu2
        refine W_env _ (by kernel_rfl) (W_loop (fun k1 L' w' => ∃ (s1 : ByteArray × Int × List (ByteArray)) (m4 : Mem), loopM (strings_genSplit_L1 N p0 p1 p2 o1) k1 s1 = some out1 ∧ L' = [(0, .string s1.1), (1, .string p1), (2, .int .i64 p2), (3, .int .i64 (IntKind.wrap .i64 ((if (IntKind.wrap .i64 ((ByteArray.size p0 : Int) + 1)) < o1 then (IntKind.wrap .i64 ((ByteArray.size p0 : Int) + 1)) else o1) - 1))), (9, .slice (some ⟨b1, 0, none⟩) (Int.toNat (if (IntKind.wrap .i64 ((ByteArray.size p0 : Int) + 1)) < o1 then (IntKind.wrap .i64 ((ByteArray.size p0 : Int) + 1)) else o1)) (Int.toNat (if (IntKind.wrap .i64 ((ByteArray.size p0 : Int) + 1)) < o1 then (IntKind.wrap .i64 ((ByteArray.size p0 : Int) + 1)) else o1))), (10, .int .i64 s1.2.1)] ∧ m.le m4 ∧ St m4 (.blk b1 (.cells (acells (fun x : ByteArray => Value.string x) s1.2.2 []) 9 (0, 0)) :: own) w' ∧ List.length s1.2.2 = (Int.toNat (if (IntKind.wrap .i64 ((ByteArray.size p0 : Int) + 1)) < o1 then (IntKind.wrap .i64 ((ByteArray.size p0 : Int) + 1)) else o1))) N ⟨(p0, 0, l1), m1, hr, rfl, hm, st, hn1⟩ ?_)
        clear st hr
        rintro k1 _ w5 ⟨s1, m4, hL, rfl, hm, st, hn3⟩
        rcases k1 with _ | k1
        · exact loopM_zero hL
        · obtain ⟨qu2, hr, hSu2, hBu2⟩ := loopM_succ hL
          clear hL
          unfold strings_genSplit_L1 at hr
          refine W_seq ?_
          refine W_seq ?_
          refine W_region ?_
          refine WO_seg 3 [(36, .bool (decide (s1.2.1 < (IntKind.wrap .i64 ((if (IntKind.wrap .i64 ((ByteArray.size p0 : Int) + 1)) < o1 then (IntKind.wrap .i64 ((ByteArray.size p0 : Int) + 1)) else o1) - 1)))))] (by kernel_rfl) (by kernel_rfl) ?_
          refine WO_end rfl ?_
          refine X_then ?_
          refine W_cond (decide (s1.2.1 < (IntKind.wrap .i64 ((if (IntKind.wrap .i64 ((ByteArray.size p0 : Int) + 1)) < o1 then (IntKind.wrap .i64 ((ByteArray.size p0 : Int) + 1)) else o1) - 1)))) (by kernel_rfl) ?_ ?_
          · intro hc
            rw [if_pos hc] at hr
            refine W_skip ?_
            refine X_then ?_
            refine W_block ?_
            refine W_seq ?_
            refine W_region ?_
            refine WO_seg 2 [(37, .string s1.1), (38, .string p1)] (by kernel_rfl) (by kernel_rfl) ?_
            replace hr := bindS hr
            obtain ⟨y2, hx3, hr⟩ := hr
            refine WO_one rfl (One_fn 39 104 #[.string s1.1, .string p1] (by kernel_rfl) rfl ?_)
            refine (strings_Index_ok st hx3).mono ?_
            clear st
            rintro _ w6 ⟨m5, rfl, hle2, st⟩
            refine ⟨_, rfl, ?_⟩
            have hm := Mem.le_trans hm hle2
            refine WO_seg 1 [(11, .int .i64 y2)] (by kernel_rfl) (by kernel_rfl) ?_
            refine WO_end rfl ?_
            refine X_then ?_
            refine W_seq ?_
            refine W_seq ?_
            refine W_region ?_
            refine WO_seg 2 [(41, .bool (decide (y2 < 0)))] (by kernel_rfl) (by kernel_rfl) ?_
            refine WO_end rfl ?_
            refine X_then ?_
            refine W_cond (decide (y2 < 0)) (by kernel_rfl) ?_ ?_
            · intro hc
              rw [if_pos hc] at hr
              refine W_exit ?_
              refine X_then_exit ?_
              refine X_block_ne rfl ?_
              obtain rfl := Option.some.inj hr
              have ho := hBu2 _ rfl
              refine X_then_exit ?_
              exact X_env _ (by kernel_rfl) (K0_u2 _ _ ⟨(s1.1, s1.2.1, s1.2.2), m5, ho, rfl, hm, st, hn3⟩)
            · intro hc
              rw [if_neg (not_true hc)] at hr
              refine W_skip ?_
              refine X_then ?_
              refine W_seq ?_
              refine W_region ?_
              refine WO_seg 6 [(42, .slice (some ⟨b1, 0, none⟩) (Int.toNat (if (IntKind.wrap .i64 ((ByteArray.size p0 : Int) + 1)) < o1 then (IntKind.wrap .i64 ((ByteArray.size p0 : Int) + 1)) else o1)) (Int.toNat (if (IntKind.wrap .i64 ((ByteArray.size p0 : Int) + 1)) < o1 then (IntKind.wrap .i64 ((ByteArray.size p0 : Int) + 1)) else o1))), (43, .int .i64 s1.2.1), (44, .string s1.1), (47, .int .i64 (IntKind.wrap .i64 (y2 + p2)))] (by kernel_rfl) (by kernel_rfl) ?_
              replace hr := bindS hr
              obtain ⟨s2, hx4, hr⟩ := hr
              refine WO_one rfl (One_strSlice (d := 48) (t := 9) (x := (.tmp 44)) (lo := none) (hi := (some (.tmp 47))) (by kernel_rfl) rfl (show evL _ _ = some (.string s1.1) from (by kernel_rfl)) (by kernel_rfl) (.inl ⟨rfl, rfl⟩) (.inr ⟨_, _, rfl, (show evL _ _ = some (.int .i64 (IntKind.wrap .i64 (y2 + p2))) from (by kernel_rfl))⟩) hx4 ?_)
              replace hr := bindS hr
              obtain ⟨x1, hx5, hr⟩ := hr
              refine WO_one rfl (One_arrIndex (d := 49) (t := 30) (e := 9) (x := (.tmp 42)) (y := (.tmp 43)) (by kernel_rfl) rfl (show evL _ _ = some (.slice (some ⟨b1, 0, none⟩) (Int.toNat (if (IntKind.wrap .i64 ((ByteArray.size p0 : Int) + 1)) < o1 then (IntKind.wrap .i64 ((ByteArray.size p0 : Int) + 1)) else o1)) (Int.toNat (if (IntKind.wrap .i64 ((ByteArray.size p0 : Int) + 1)) < o1 then (IntKind.wrap .i64 ((ByteArray.size p0 : Int) + 1)) else o1))) from (by kernel_rfl)) (show evL _ _ = some (.int .i64 s1.2.1) from (by kernel_rfl)) (by kernel_rfl) hn3 hx5 ?_)
              refine WO_one rfl (One_arrStore (f := (fun x : ByteArray => Value.string x)) (u := s2) (t := 9) (x := (.tmp 49)) (y := (.tmp 48)) (by kernel_rfl) (show evL _ _ = some (.pointer (some ⟨b1, Int.toNat s1.2.1, none⟩)) from (by kernel_rfl)) (show evL _ _ = some (.string s2) from (by kernel_rfl)) st hx5 rfl (by kernel_rfl) ?_)
              clear st
              intro w7 st
              have hn4 : List.length (List.set s1.2.2 (Int.toNat s1.2.1) s2) = (Int.toNat (if (IntKind.wrap .i64 ((ByteArray.size p0 : Int) + 1)) < o1 then (IntKind.wrap .i64 ((ByteArray.size p0 : Int) + 1)) else o1)) := set_len hn3 _ _
              refine WO_end rfl ?_
              refine X_then ?_
              refine W_seq ?_
              refine W_region ?_
              refine WO_seg 5 [(50, .string s1.1), (54, .int .i64 (IntKind.wrap .i64 (y2 + (ByteArray.size p1 : Int))))] (by kernel_rfl) (by kernel_rfl) ?_
              replace hr := bindS hr
              obtain ⟨s3, hx6, hr⟩ := hr
              refine WO_one rfl (One_strSlice (d := 55) (t := 9) (x := (.tmp 50)) (lo := (some (.tmp 54))) (hi := none) (by kernel_rfl) rfl (show evL _ _ = some (.string s1.1) from (by kernel_rfl)) (by kernel_rfl) (.inr ⟨_, _, rfl, (show evL _ _ = some (.int .i64 (IntKind.wrap .i64 (y2 + (ByteArray.size p1 : Int)))) from (by kernel_rfl))⟩) (.inl ⟨rfl, rfl⟩) hx6 ?_)
              refine WO_seg 1 [(0, .string s3)] (by kernel_rfl) (by kernel_rfl) ?_
              refine WO_end rfl ?_
              refine X_then ?_
              refine W_region ?_
              refine WO_seg 3 [(10, .int .i64 (IntKind.wrap .i64 (s1.2.1 + 1)))] (by kernel_rfl) (by kernel_rfl) ?_
              refine WO_end rfl ?_
              refine X_block ?_
              obtain rfl := Option.some.inj hr
              have hL := hSu2 _ rfl
              exact X_env _ (by kernel_rfl) (X_round k1 (Nat.lt_succ_self _) ⟨(s3, IntKind.wrap .i64 (s1.2.1 + 1), List.set s1.2.2 (Int.toNat s1.2.1) s2), m5, hL, rfl, hm, st, hn4⟩)
          · intro hc
            rw [if_neg (not_true hc)] at hr
            refine W_exit ?_
            refine X_then_exit ?_
            obtain rfl := Option.some.inj hr
            have ho := hBu2 _ rfl
            refine X_then_exit ?_
            exact X_env _ (by kernel_rfl) (K0_u2 _ _ ⟨(s1.1, s1.2.1, s1.2.2), m4, ho, rfl, hm, st, hn3⟩)
      · intro Ku1
        clear hrKu1
        refine W_cond (decide (p3 < 0)) (by kernel_rfl) ?_ ?_
        · intro hc
          rw [if_pos hc] at hr
          refine W_region ?_
          refine WO_seg 2 [(21, .string p0), (22, .string p1)] (by kernel_rfl) (by kernel_rfl) ?_
          replace hr := bindS hr
          obtain ⟨y1, hx1, hr⟩ := hr
          refine WO_one rfl (One_fn 23 103 #[.string p0, .string p1] (by kernel_rfl) rfl ?_)
          refine (strings_Count_ok st hx1).mono ?_
          clear st
          rintro _ w2 ⟨m2, rfl, hle1, st⟩
          refine ⟨_, rfl, ?_⟩
          have hm := Mem.le_trans hm hle1
          refine WO_seg 2 [(3, .int .i64 (IntKind.wrap .i64 (y1 + 1)))] (by kernel_rfl) (by kernel_rfl) ?_
          refine WO_end rfl ?_
          obtain rfl := Option.some.inj hr
          exact X_env _ (by kernel_rfl) (Ku1 _ _ ⟨m2, rfl, hm, st⟩)
        · intro hc
          rw [if_neg (not_true hc)] at hr
          refine W_skip ?_
          obtain rfl := Option.some.inj hr
          exact X_env _ (by kernel_rfl) (Ku1 _ _ ⟨m, rfl, hm, st⟩)

def strings_Split (N : Nat) (p0 : ByteArray) (p1 : ByteArray) : Option (List ByteArray) :=
  (strings_genSplit N p0 p1 0 (-1)).bind fun y1 => some y1

set_option maxHeartbeats 4000000 in
set_option maxRecDepth 100000 in
theorem strings_Split_ok {N : Nat} {m : Mem} {own : List Piece} {w : World} {p0 : ByteArray} {p1 : ByteArray} {r : List ByteArray} (st : St m (own) w) (hr : strings_Split N p0 p1 = some r) : Calls Go.Proofs.Tryd.prog 53 #[.string p0, .string p1] w fun e w' => ∃ (ra1 : Option Addr) (rc1 : Nat) (m' : Mem), e = .returned (.slice ra1 (List.length r) rc1) ∧ m.le m' ∧ St m' (own) w' ∧ RepS cStr m' ra1 rc1 r := by
  unfold strings_Split at hr
  have hm := m.le_refl
  refine W_calls Go.Proofs.Tryd.func53 rfl Go.Proofs.Tryd.ntmps53 [(0, .string p0), (1, .string p1)] (by kernel_rfl) rfl ?_
  refine W_seq ?_
  refine W_region ?_
  refine WO_seg 1 [] (by kernel_rfl) (by kernel_rfl) ?_
  refine WO_end rfl ?_
  refine X_then ?_
  refine W_seq ?_
  refine W_region ?_
  refine WO_seg 2 [(5, .string p0), (6, .string p1)] (by kernel_rfl) (by kernel_rfl) ?_
  replace hr := bindS hr
  obtain ⟨y1, hx1, hr⟩ := hr
  refine WO_one rfl (One_fn 7 84 #[.string p0, .string p1, .int .i64 0, .int .i64 (-1)] (by kernel_rfl) rfl ?_)
  refine (strings_genSplit_ok st hx1).mono ?_
  clear st
  rintro _ w1 ⟨a1, c1, m1, rfl, hle1, st, r1⟩
  refine ⟨_, rfl, ?_⟩
  have hm := Mem.le_trans hm hle1
  refine WO_seg 1 [(4, .slice a1 (List.length y1) c1)] (by kernel_rfl) (by kernel_rfl) ?_
  refine WO_end rfl ?_
  refine X_then ?_
  refine W_ret ?_
  obtain rfl := Option.some.inj hr
  refine X_ret [.tmp 4] [.slice a1 (List.length y1) c1] rfl (ResAll.cons (ResAt.tmp (by kernel_rfl)) ResAll.nil) ?_
  exact ⟨a1, c1, m1, rfl, hm, st, r1⟩

def lexer_Path_L1 (N : Nat) (y1 : List ByteArray) (y2 : Option (List (Int × Int))) (s1 : Int) : Option ((Int) ⊕ ((Unit) ⊕ (Bool))) :=
  if (decide (s1 < (List.length y1 : Int))) = true then ((idx y1 s1).bind fun x1 => (if (decide ((ByteArray.size x1 : Int) < 1)) = true then (some true) else (if (decide ((ByteArray.size x1 : Int) > 24)) = true then (some true) else ((lexer_span N x1 0 y2 ([1, 2, 3, 4])).bind fun y3 => some (y3 != (ByteArray.size x1 : Int)))) : Option (Bool)).bind fun o3 => if o3 = true then (some (.inr (.inr (false)))) else (some (.inl (IntKind.wrap .i64 (s1 + 1))))) else (some (.inr (.inl ())))

def lexer_Path (N : Nat) (p0 : ByteArray) : Option (Bool) :=
  (strings_Split N p0 (⟨#[47]⟩ : ByteArray)).bind fun y1 => (if (decide ((ByteArray.size p0 : Int) > 80)) = true then (some true) else (some (decide ((List.length y1 : Int) > 8))) : Option (Bool)).bind fun o1 => if o1 = true then (some false) else ((lexer_kinds N).bind fun y2 => (loopM (lexer_Path_L1 N y1 y2) N 0).bind fun out1 => (match out1 with | .inl o2 => some true | .inr (z) => some z))

set_option maxHeartbeats 4000000 in
set_option maxRecDepth 100000 in
theorem lexer_Path_ok {N : Nat} {m : Mem} {own : List Piece} {w : World} {p0 : ByteArray} {r : Bool} (st : St m (own) w) (hr : lexer_Path N p0 = some r) : Calls Go.Proofs.Tryd.prog 17 #[.string p0] w fun e w' => ∃ (m' : Mem), e = .returned (.bool r) ∧ m.le m' ∧ St m' (own) w' := by
  unfold lexer_Path at hr
  have hm := m.le_refl
  refine W_calls Go.Proofs.Tryd.func17 rfl Go.Proofs.Tryd.ntmps17 [(0, .string p0)] (by kernel_rfl) rfl ?_
  refine W_seq ?_
  refine W_region ?_
  refine WO_seg 1 [] (by kernel_rfl) (by kernel_rfl) ?_
  refine WO_end rfl ?_
  refine X_then ?_
  refine W_seq ?_
  refine W_region ?_
  refine WO_seg 1 [(7, .string p0)] (by kernel_rfl) (by kernel_rfl) ?_
  replace hr := bindS hr
  obtain ⟨y1, hx1, hr⟩ := hr
  refine WO_one rfl (One_fn 8 53 #[.string p0, .string (⟨#[47]⟩ : ByteArray)] (by kernel_rfl) rfl ?_)
  refine (strings_Split_ok st hx1).mono ?_
  clear st
  rintro _ w1 ⟨a1, c1, m1, rfl, hle1, st, r1⟩
  refine ⟨_, rfl, ?_⟩
  have hm := Mem.le_trans hm hle1
  refine WO_seg 1 [(3, .slice a1 (List.length y1) c1)] (by kernel_rfl) (by kernel_rfl) ?_
  refine WO_end rfl ?_
  refine X_then ?_
  refine W_seq ?_
  refine W_seq ?_
  refine W_region ?_
  replace hr := bindS hr
  obtain ⟨o1, hr, hrK⟩ := hr
  refine WO_cut (j := 8) (fun L' w' => ∃ (m2 : Mem), L' = [(3, .slice a1 (List.length y1) c1), (16, .bool o1)] ∧ m.le m2 ∧ St m2 (own) w' ∧ RepS cStr m2 a1 c1 y1) ?_ ?_
  · clear hr st
    have hr := hrK
    clear hrK
    rintro _ w2 ⟨m2, rfl, hm, st, r1⟩
    refine WO_end rfl ?_
    refine X_then ?_
    refine W_cond o1 (by kernel_rfl) ?_ ?_
    · intro hc
      rw [if_pos hc] at hr
      refine W_seq ?_
      refine W_region ?_
      refine WO_seg 1 [(2, .bool false)] (by kernel_rfl) (by kernel_rfl) ?_
      refine WO_end rfl ?_
      refine X_then ?_
      refine W_ret ?_
      refine X_then_ret ?_
      obtain rfl := Option.some.inj hr
      refine X_ret [.tmp 2] [.bool false] rfl (ResAll.cons (ResAt.tmp (by kernel_rfl)) ResAll.nil) ?_
      exact ⟨m2, rfl, hm, st⟩
    · intro hc
      rw [if_neg (not_true hc)] at hr
      refine W_skip ?_
      refine X_then ?_
      refine W_seq ?_
      refine W_region ?_
      replace hr := bindS hr
      obtain ⟨y2, hx2, hr⟩ := hr
      refine WO_one rfl (One_fn 17 49 #[] (by kernel_rfl) rfl ?_)
      refine (lexer_kinds_ok st hx2).mono ?_
      clear st
      rintro _ w3 ⟨q1, es1, ck1, m3, rfl, hle2, st, r2⟩
      refine ⟨_, rfl, ?_⟩
      have hm := Mem.le_trans hm hle2
      have r1 := r1.mono hle2
      refine WO_seg 1 [(4, .map q1)] (by kernel_rfl) (by kernel_rfl) ?_
      refine WO_end rfl ?_
      refine X_then ?_
      refine W_seq ?_
      refine W_seq ?_
      refine W_region ?_
      refine WO_seg 3 [(18, .slice a1 (List.length y1) c1), (19, .int .i64 (List.length y1 : Int)), (20, .int .i64 0)] (by kernel_rfl) (by kernel_rfl) ?_
      refine WO_end rfl ?_
      refine X_then ?_
      refine W_block ?_
      replace hr := bindS hr
      obtain ⟨out1, hr, hrKu1⟩ := hr
      refine W_cut (.exit 0) (fun L' w' => ∃ (o2 : Unit) (m4 : Mem), (.inl o2) = out1 ∧ L' = [] ∧ m.le m4 ∧ St m4 (mpiece q1 es1 ck1 :: own) w' ∧ MapQ (fun n : Int => Value.int .u8 n) (cInt .i64) false m4 q1 es1 ck1 y2) ?_ ?_
      · clear hr st
        rintro _ w4 ⟨o2, m4, rfl, rfl, hm, st, r2⟩
        have hr := hrKu1
        clear hrKu1
        dsimp only at hr
        refine X_block_eq ?_
        refine X_then ?_
        refine W_seq ?_
        refine W_region ?_
        refine WO_seg 1 [(2, .bool true)] (by kernel_rfl) (by kernel_rfl) ?_
        refine WO_end rfl ?_
        refine X_then ?_
        refine W_ret ?_
        obtain rfl := Option.some.inj hr
        refine X_ret [.tmp 2] [.bool true] rfl (ResAll.cons (ResAt.tmp (by kernel_rfl)) ResAll.nil) ?_
        have st := st.tail
        exact ⟨m4, rfl, hm, st⟩
      intro K0_u1
      refine W_env _ (by kernel_rfl) (W_loop (fun k1 L' w' => ∃ (s1 : Int) (m5 : Mem), loopM (lexer_Path_L1 N y1 y2) k1 s1 = some out1 ∧ L' = [(4, .map q1), (18, .slice a1 (List.length y1) c1), (19, .int .i64 (List.length y1 : Int)), (20, .int .i64 s1)] ∧ m.le m5 ∧ St m5 (mpiece q1 es1 ck1 :: own) w' ∧ RepS cStr m5 a1 c1 y1 ∧ MapQ (fun n : Int => Value.int .u8 n) (cInt .i64) false m5 q1 es1 ck1 y2) N ⟨0, m3, hr, rfl, hm, st, r1, r2⟩ ?_)
      clear st hr
      rintro k1 _ w5 ⟨s1, m5, hL, rfl, hm, st, r1, r2⟩
      rcases k1 with _ | k1
      · exact loopM_zero hL
      · obtain ⟨qu1, hr, hSu1, hBu1⟩ := loopM_succ hL
        clear hL
        unfold lexer_Path_L1 at hr
        refine W_seq ?_
        refine W_region ?_
        refine WO_seg 1 [(21, .bool (decide (s1 < (List.length y1 : Int))))] (by kernel_rfl) (by kernel_rfl) ?_
        refine WO_end rfl ?_
        refine X_then ?_
        refine W_seq ?_
        refine W_cond (decide (s1 < (List.length y1 : Int))) (by kernel_rfl) ?_ ?_
        · intro hc
          rw [if_pos hc] at hr
          refine W_skip ?_
          refine X_then ?_
          refine W_seq ?_
          refine W_block ?_
          refine W_seq ?_
          refine W_region ?_
          replace hr := bindS hr
          obtain ⟨x1, hx3, hr⟩ := hr
          refine WO_one rfl (One_index (d := 22) (t := 30) (e := 9) (x := (.tmp 18)) (y := (.tmp 20)) cStr (by kernel_rfl) rfl (show evL _ _ = some (.slice a1 (List.length y1) c1) from (by kernel_rfl)) (show evL _ _ = some (.int .i64 s1) from (by kernel_rfl)) (by kernel_rfl) r1 hx3 ?_)
          rintro b1 f1 cs1 rfl hq1
          refine WO_one rfl (One_load_row (d := 23) (t := 9) (x := (.tmp 22)) (.string x1) (by kernel_rfl) rfl (show evL _ _ = some (.pointer (some ⟨b1, f1, none⟩)) from (by kernel_rfl)) st hq1 (by kernel_rfl) ?_)
          refine WO_seg 1 [(6, .string x1)] (by kernel_rfl) (by kernel_rfl) ?_
          refine WO_end rfl ?_
          refine X_then ?_
          refine W_seq ?_
          refine W_region ?_
          replace hr := bindS hr
          obtain ⟨o3, hr, hrK⟩ := hr
          refine WO_cut (j := 17) (fun L' w' => ∃ (m6 : Mem), L' = [(4, .map q1), (18, .slice a1 (List.length y1) c1), (19, .int .i64 (List.length y1 : Int)), (20, .int .i64 s1), (40, .bool o3)] ∧ m.le m6 ∧ St m6 (mpiece q1 es1 ck1 :: own) w' ∧ RepS cStr m6 a1 c1 y1 ∧ MapQ (fun n : Int => Value.int .u8 n) (cInt .i64) false m6 q1 es1 ck1 y2) ?_ ?_
          · clear hr st
            have hr := hrK
            clear hrK
            rintro _ w6 ⟨m6, rfl, hm, st, r1, r2⟩
            refine WO_end rfl ?_
            refine X_then ?_
            refine W_cond o3 (by kernel_rfl) ?_ ?_
            · intro hc
              rw [if_pos hc] at hr
              refine W_seq ?_
              refine W_region ?_
              refine WO_seg 1 [(2, .bool false)] (by kernel_rfl) (by kernel_rfl) ?_
              refine WO_end rfl ?_
              refine X_then ?_
              refine W_ret ?_
              refine X_block_ret ?_
              refine X_then_ret ?_
              obtain rfl := Option.some.inj hr
              have ho := hBu1 _ rfl
              subst ho
              have hr := hrKu1
              dsimp only at hr
              refine X_then_ret ?_
              refine X_block_ret ?_
              refine X_then_ret ?_
              obtain rfl := Option.some.inj hr
              refine X_ret [.tmp 2] [.bool false] rfl (ResAll.cons (ResAt.tmp (by kernel_rfl)) ResAll.nil) ?_
              have st := st.tail
              exact ⟨m6, rfl, hm, st⟩
            · intro hc
              rw [if_neg (not_true hc)] at hr
              refine W_skip ?_
              refine X_block ?_
              refine X_then ?_
              refine W_region ?_
              refine WO_seg 2 [(20, .int .i64 (IntKind.wrap .i64 (s1 + 1)))] (by kernel_rfl) (by kernel_rfl) ?_
              refine WO_end rfl ?_
              obtain rfl := Option.some.inj hr
              have hL := hSu1 _ rfl
              exact X_env _ (by kernel_rfl) (X_round k1 (Nat.lt_succ_self _) ⟨IntKind.wrap .i64 (s1 + 1), m6, hL, rfl, hm, st, r1, r2⟩)
          · intro K
            clear hrK
            refine WO_seg 4 [(27, .bool (decide ((ByteArray.size x1 : Int) < 1)))] (by kernel_rfl) (by kernel_rfl) ?_
            rcases bcases (decide ((ByteArray.size x1 : Int) < 1)) with hc | hc
            · rw [if_pos hc] at hr
              refine WO_fact (t := 27) (b := true) (decide ((ByteArray.size x1 : Int) < 1)) (by kernel_rfl) hc ?_
              refine WO_seg 13 [(40, .bool true)] (by kernel_rfl) (by kernel_rfl) ?_
              obtain rfl := Option.some.inj hr
              exact WO_env _ (by kernel_rfl) (K _ _ ⟨m5, rfl, hm, st, r1, r2⟩)
            · rw [if_neg (not_true hc)] at hr
              refine WO_fact (t := 27) (b := false) (decide ((ByteArray.size x1 : Int) < 1)) (by kernel_rfl) hc ?_
              refine WO_seg 5 [(32, .bool (decide ((ByteArray.size x1 : Int) > 24)))] (by kernel_rfl) (by kernel_rfl) ?_
              rcases bcases (decide ((ByteArray.size x1 : Int) > 24)) with hc | hc
              · rw [if_pos hc] at hr
                refine WO_fact (t := 32) (b := true) (decide ((ByteArray.size x1 : Int) > 24)) (by kernel_rfl) hc ?_
                refine WO_seg 8 [(40, .bool true)] (by kernel_rfl) (by kernel_rfl) ?_
                obtain rfl := Option.some.inj hr
                exact WO_env _ (by kernel_rfl) (K _ _ ⟨m5, rfl, hm, st, r1, r2⟩)
              · rw [if_neg (not_true hc)] at hr
                refine WO_fact (t := 32) (b := false) (decide ((ByteArray.size x1 : Int) > 24)) (by kernel_rfl) hc ?_
                refine WO_seg 2 [(33, .string x1), (34, .map q1)] (by kernel_rfl) (by kernel_rfl) ?_
                refine WO_one rfl (One_buildSlice (d := 35) (t := 26) (e := 3) (len := 4) (parts := #[(0, (.const (.int .i64 1))), (1, (.const (.int .i64 2))), (2, (.const (.int .i64 3))), (3, (.const (.int .i64 4)))]) (cInt .i64) (xs := [1, 2, 3, 4]) [.int .i64 1, .int .i64 2, .int .i64 3, .int .i64 4] (by kernel_rfl) rfl (fun _ => buildCells_run (by kernel_rfl) _) rfl rfl st ⟨[.int .i64 1], _, rfl, rfl, ⟨[.int .i64 2], _, rfl, rfl, ⟨[.int .i64 3], _, rfl, rfl, ⟨[.int .i64 4], _, rfl, rfl, rfl⟩⟩⟩⟩ ?_)
                clear st
                intro b2 m7 w7 hle3 st r3
                have hm := Mem.le_trans hm hle3
                have r1 := r1.mono hle3
                have r2 := r2.mono hle3
                have st := st.front1
                replace hr := bindS hr
                obtain ⟨y3, hx4, hr⟩ := hr
                refine WO_one rfl (One_fn 36 50 #[.string x1, .int .i64 0, .map q1, .slice (some ⟨b2, 0, none⟩) (List.length ([1, 2, 3, 4])) 4] (by kernel_rfl) rfl ?_)
                refine (lexer_span_ok st r2 r3 hx4).mono ?_
                clear st
                rintro _ w8 ⟨m8, rfl, hle4, st⟩
                refine ⟨_, rfl, ?_⟩
                have hm := Mem.le_trans hm hle4
                have r1 := r1.mono hle4
                have r3 := r3.mono hle4
                have r2 := r2.mono hle4
                refine WO_seg 4 [(40, .bool (y3 != (ByteArray.size x1 : Int)))] (by kernel_rfl) (by kernel_rfl) ?_
                obtain rfl := Option.some.inj hr
                have st := st.front1
                have st := st.tail
                exact WO_env _ (by kernel_rfl) (K _ _ ⟨m8, rfl, hm, st, r1, r2⟩)
        · intro hc
          rw [if_neg (not_true hc)] at hr
          refine W_exit ?_
          refine X_then_exit ?_
          obtain rfl := Option.some.inj hr
          have ho := hBu1 _ rfl
          refine X_then_exit ?_
          exact X_env _ (by kernel_rfl) (K0_u1 _ _ ⟨(), m5, ho, rfl, hm, st, r2⟩)
  · intro K
    clear hrK
    refine WO_seg 4 [(12, .bool (decide ((ByteArray.size p0 : Int) > 80)))] (by kernel_rfl) (by kernel_rfl) ?_
    rcases bcases (decide ((ByteArray.size p0 : Int) > 80)) with hc | hc
    · rw [if_pos hc] at hr
      refine WO_fact (t := 12) (b := true) (decide ((ByteArray.size p0 : Int) > 80)) (by kernel_rfl) hc ?_
      refine WO_seg 4 [(16, .bool true)] (by kernel_rfl) (by kernel_rfl) ?_
      obtain rfl := Option.some.inj hr
      exact WO_env _ (by kernel_rfl) (K _ _ ⟨m1, rfl, hm, st, r1⟩)
    · rw [if_neg (not_true hc)] at hr
      refine WO_fact (t := 12) (b := false) (decide ((ByteArray.size p0 : Int) > 80)) (by kernel_rfl) hc ?_
      refine WO_seg 4 [(16, .bool (decide ((List.length y1 : Int) > 8)))] (by kernel_rfl) (by kernel_rfl) ?_
      obtain rfl := Option.some.inj hr
      exact WO_env _ (by kernel_rfl) (K _ _ ⟨m1, rfl, hm, st, r1⟩)

def testgateref04_Path_L1 (N : Nat) (p0 : ByteArray) (s1 : Int × Int × Int) : Option ((Int × Int × Int) ⊕ ((Int × Int) ⊕ (Bool))) :=
  if (decide (s1.2.2 < (ByteArray.size p0 : Int))) = true then (((idxB p0 s1.2.2).bind fun x1 => if ((x1.toNat : Int) == 47) = true then (if (s1.2.1 == 0) = true then ((some (.inr (.inr (false)))).map .inr) else (some (.inl (IntKind.wrap .i64 (s1.1 + 1), 0)))) else (((idxB p0 s1.2.2).bind fun x2 => (testgateref04_inner N (x2.toNat : Int)).bind fun y1 => if y1 = true then (some true) else ((idxB p0 s1.2.2).bind fun x3 => some ((x3.toNat : Int) == 46)) : Option (Bool)).bind fun o3 => if o3 = true then (some (.inl (s1.1, IntKind.wrap .i64 (s1.2.1 + 1)))) else ((some (.inr (.inr (false)))).map .inr)) : Option ((Int × Int) ⊕ ((Int × Int × Int) ⊕ ((Int × Int) ⊕ (Bool))))).bind fun qu2 => (match qu2 with | .inl o2 => if (decide (o2.2 > 24)) = true then (some (.inr (.inr (false)))) else (some (.inl (o2.1, o2.2, IntKind.wrap .i64 (s1.2.2 + 1)))) | .inr z => some z)) else (some (.inr (.inl (s1.1, s1.2.1))))

def testgateref04_Path (N : Nat) (p0 : ByteArray) : Option (Bool) :=
  if (decide ((ByteArray.size p0 : Int) > 80)) = true then (some false) else ((loopM (testgateref04_Path_L1 N p0) N (1, 0, 0)).bind fun out1 => (match out1 with | .inl o1 => (if (decide (o1.2 > 0)) = true then (some (decide (o1.1 ≤ 8))) else (some false) : Option (Bool)).bind fun o4 => some o4 | .inr (z) => some z))

set_option maxHeartbeats 4000000 in
set_option maxRecDepth 100000 in
theorem testgateref04_Path_ok {N : Nat} {m : Mem} {own : List Piece} {w : World} {p0 : ByteArray} {r : Bool} (st : St m (own) w) (hr : testgateref04_Path N p0 = some r) : Calls Go.Proofs.Tryd.prog 18 #[.string p0] w fun e w' => ∃ (m' : Mem), e = .returned (.bool r) ∧ m.le m' ∧ St m' (own) w' := by
  unfold testgateref04_Path at hr
  have hm := m.le_refl
  refine W_calls Go.Proofs.Tryd.func18 rfl Go.Proofs.Tryd.ntmps18 [(0, .string p0)] (by kernel_rfl) rfl ?_
  refine W_seq ?_
  refine W_region ?_
  refine WO_seg 1 [] (by kernel_rfl) (by kernel_rfl) ?_
  refine WO_end rfl ?_
  refine X_then ?_
  refine W_seq ?_
  refine W_region ?_
  refine WO_seg 2 [(3, .int .i64 1), (4, .int .i64 0)] (by kernel_rfl) (by kernel_rfl) ?_
  refine WO_end rfl ?_
  refine X_then ?_
  refine W_seq ?_
  refine W_seq ?_
  refine W_region ?_
  refine WO_seg 3 [(8, .bool (decide ((ByteArray.size p0 : Int) > 80)))] (by kernel_rfl) (by kernel_rfl) ?_
  refine WO_end rfl ?_
  refine X_then ?_
  refine W_cond (decide ((ByteArray.size p0 : Int) > 80)) (by kernel_rfl) ?_ ?_
  · intro hc
    rw [if_pos hc] at hr
    refine W_seq ?_
    refine W_region ?_
    refine WO_seg 1 [(2, .bool false)] (by kernel_rfl) (by kernel_rfl) ?_
    refine WO_end rfl ?_
    refine X_then ?_
    refine W_ret ?_
    refine X_then_ret ?_
    obtain rfl := Option.some.inj hr
    refine X_ret [.tmp 2] [.bool false] rfl (ResAll.cons (ResAt.tmp (by kernel_rfl)) ResAll.nil) ?_
    exact ⟨m, rfl, hm, st⟩
  · intro hc
    rw [if_neg (not_true hc)] at hr
    refine W_skip ?_
    refine X_then ?_
    refine W_seq ?_
    refine W_seq ?_
    refine W_region ?_
    refine WO_seg 1 [(5, .int .i64 0)] (by kernel_rfl) (by kernel_rfl) ?_
    refine WO_end rfl ?_
    refine X_then ?_
    refine W_block ?_
    replace hr := bindS hr
    obtain ⟨out1, hr, hrKu1⟩ := hr
    refine W_cut (.exit 0) (fun L' w' => ∃ (o1 : Int × Int) (m1 : Mem), (.inl o1) = out1 ∧ L' = [(3, .int .i64 o1.1), (4, .int .i64 o1.2)] ∧ m.le m1 ∧ St m1 (own) w') ?_ ?_
    · clear hr st
      rintro _ w1 ⟨o1, m1, rfl, rfl, hm, st⟩
      have hr := hrKu1
      clear hrKu1
      dsimp only at hr
      refine X_block_eq ?_
      refine X_then ?_
      refine W_seq ?_
      refine W_region ?_
      replace hr := bindS hr
      obtain ⟨o4, hr, hrK⟩ := hr
      refine WO_cut (j := 7) (fun L' w' => ∃ (m6 : Mem), L' = [(2, .bool o4)] ∧ m.le m6 ∧ St m6 (own) w') ?_ ?_
      · clear hr st
        have hr := hrK
        clear hrK
        rintro _ w6 ⟨m6, rfl, hm, st⟩
        refine WO_end rfl ?_
        refine X_then ?_
        refine W_ret ?_
        obtain rfl := Option.some.inj hr
        refine X_ret [.tmp 2] [.bool o4] rfl (ResAll.cons (ResAt.tmp (by kernel_rfl)) ResAll.nil) ?_
        exact ⟨m6, rfl, hm, st⟩
      · intro K
        clear hrK
        refine WO_seg 3 [(41, .bool (decide (o1.2 > 0)))] (by kernel_rfl) (by kernel_rfl) ?_
        rcases bcases (decide (o1.2 > 0)) with hc | hc
        · rw [if_pos hc] at hr
          refine WO_fact (t := 41) (b := true) (decide (o1.2 > 0)) (by kernel_rfl) hc ?_
          refine WO_seg 4 [(2, .bool (decide (o1.1 ≤ 8)))] (by kernel_rfl) (by kernel_rfl) ?_
          obtain rfl := Option.some.inj hr
          exact WO_env _ (by kernel_rfl) (K _ _ ⟨m1, rfl, hm, st⟩)
        · rw [if_neg (not_true hc)] at hr
          refine WO_fact (t := 41) (b := false) (decide (o1.2 > 0)) (by kernel_rfl) hc ?_
          refine WO_seg 4 [(2, .bool false)] (by kernel_rfl) (by kernel_rfl) ?_
          obtain rfl := Option.some.inj hr
          exact WO_env _ (by kernel_rfl) (K _ _ ⟨m1, rfl, hm, st⟩)
    intro K0_u1
    refine W_env _ (by kernel_rfl) (W_loop (fun k1 L' w' => ∃ (s1 : Int × Int × Int) (m2 : Mem), loopM (testgateref04_Path_L1 N p0) k1 s1 = some out1 ∧ L' = [(0, .string p0), (3, .int .i64 s1.1), (4, .int .i64 s1.2.1), (5, .int .i64 s1.2.2)] ∧ m.le m2 ∧ St m2 (own) w') N ⟨(1, 0, 0), m, hr, rfl, hm, st⟩ ?_)
    clear st hr
    rintro k1 _ w2 ⟨s1, m2, hL, rfl, hm, st⟩
    rcases k1 with _ | k1
    · exact loopM_zero hL
    · obtain ⟨qu1, hr, hSu1, hBu1⟩ := loopM_succ hL
      clear hL
      unfold testgateref04_Path_L1 at hr
      refine W_seq ?_
      refine W_seq ?_
      refine W_region ?_
      refine WO_seg 4 [(12, .bool (decide (s1.2.2 < (ByteArray.size p0 : Int))))] (by kernel_rfl) (by kernel_rfl) ?_
      refine WO_end rfl ?_
      refine X_then ?_
      refine W_cond (decide (s1.2.2 < (ByteArray.size p0 : Int))) (by kernel_rfl) ?_ ?_
      · intro hc
        rw [if_pos hc] at hr
        refine W_skip ?_
        refine X_then ?_
        refine W_seq ?_
        refine W_block ?_
        refine W_seq ?_
        replace hr := bindS hr
        obtain ⟨qu2, hr, hrKu2⟩ := hr
        refine W_cut .normal (fun L' w' => ∃ (o2 : Int × Int) (m3 : Mem), (.inl o2 : (Int × Int) ⊕ ((Int × Int × Int) ⊕ ((Int × Int) ⊕ (Bool)))) = qu2 ∧ L' = [(0, .string p0), (3, .int .i64 o2.1), (4, .int .i64 o2.2), (5, .int .i64 s1.2.2)] ∧ m.le m3 ∧ St m3 (own) w') ?_ ?_
        · clear hr st
          rintro _ w3 ⟨o2, m3, rfl, rfl, hm, st⟩
          have hr := hrKu2
          clear hrKu2
          dsimp only at hr
          refine X_then ?_
          refine W_seq ?_
          refine W_region ?_
          refine WO_seg 2 [(38, .bool (decide (o2.2 > 24)))] (by kernel_rfl) (by kernel_rfl) ?_
          refine WO_end rfl ?_
          refine X_then ?_
          refine W_cond (decide (o2.2 > 24)) (by kernel_rfl) ?_ ?_
          · intro hc
            rw [if_pos hc] at hr
            refine W_seq ?_
            refine W_region ?_
            refine WO_seg 1 [(2, .bool false)] (by kernel_rfl) (by kernel_rfl) ?_
            refine WO_end rfl ?_
            refine X_then ?_
            refine W_ret ?_
            refine X_block_ret ?_
            refine X_then_ret ?_
            obtain rfl := Option.some.inj hr
            have ho := hBu1 _ rfl
            subst ho
            have hr := hrKu1
            dsimp only at hr
            refine X_then_ret ?_
            refine X_block_ret ?_
            refine X_then_ret ?_
            obtain rfl := Option.some.inj hr
            refine X_ret [.tmp 2] [.bool false] rfl (ResAll.cons (ResAt.tmp (by kernel_rfl)) ResAll.nil) ?_
            exact ⟨m3, rfl, hm, st⟩
          · intro hc
            rw [if_neg (not_true hc)] at hr
            refine W_skip ?_
            refine X_block ?_
            refine X_then ?_
            refine W_region ?_
            refine WO_seg 3 [(5, .int .i64 (IntKind.wrap .i64 (s1.2.2 + 1)))] (by kernel_rfl) (by kernel_rfl) ?_
            refine WO_end rfl ?_
            obtain rfl := Option.some.inj hr
            have hL := hSu1 _ rfl
            exact X_env _ (by kernel_rfl) (X_round k1 (Nat.lt_succ_self _) ⟨(o2.1, o2.2, IntKind.wrap .i64 (s1.2.2 + 1)), m3, hL, rfl, hm, st⟩)
        · intro Ku2
          refine W_block ?_
          refine W_seq ?_
          refine W_region ?_
          refine WO_seg 2 [(16, .string p0), (17, .int .i64 s1.2.2)] (by kernel_rfl) (by kernel_rfl) ?_
          replace hr := bindS hr
          obtain ⟨x1, hx1, hr⟩ := hr
          refine WO_one rfl (One_strIndex (d := 18) (t := 9) (x := (.tmp 16)) (y := (.tmp 17)) (by kernel_rfl) rfl (show evL _ _ = some (.string p0) from (by kernel_rfl)) (show evL _ _ = some (.int .i64 s1.2.2) from (by kernel_rfl)) (by kernel_rfl) hx1 ?_)
          refine WO_seg 2 [(15, .bool ((x1.toNat : Int) == 47))] (by kernel_rfl) (by kernel_rfl) ?_
          refine WO_end rfl ?_
          refine X_then ?_
          refine W_cond ((x1.toNat : Int) == 47) (by kernel_rfl) ?_ ?_
          · intro hc
            rw [if_pos hc] at hr
            refine W_seq ?_
            refine W_seq ?_
            refine W_region ?_
            refine WO_seg 2 [(21, .bool (s1.2.1 == 0))] (by kernel_rfl) (by kernel_rfl) ?_
            refine WO_end rfl ?_
            refine X_then ?_
            refine W_cond (s1.2.1 == 0) (by kernel_rfl) ?_ ?_
            · intro hc
              rw [if_pos hc] at hr
              refine W_seq ?_
              refine W_region ?_
              refine WO_seg 1 [(2, .bool false)] (by kernel_rfl) (by kernel_rfl) ?_
              refine WO_end rfl ?_
              refine X_then ?_
              refine W_ret ?_
              refine X_then_ret ?_
              refine X_block_ret ?_
              replace hr := Option.map_eq_some_iff.1 hr
              obtain ⟨zu2, hr, hzu2⟩ := hr
              subst hzu2
              have hrKu2 := Option.some.inj hrKu2
              subst hrKu2
              refine X_then_ret ?_
              refine X_block_ret ?_
              refine X_then_ret ?_
              obtain rfl := Option.some.inj hr
              have ho := hBu1 _ rfl
              subst ho
              have hr := hrKu1
              dsimp only at hr
              refine X_then_ret ?_
              refine X_block_ret ?_
              refine X_then_ret ?_
              obtain rfl := Option.some.inj hr
              refine X_ret [.tmp 2] [.bool false] rfl (ResAll.cons (ResAt.tmp (by kernel_rfl)) ResAll.nil) ?_
              exact ⟨m2, rfl, hm, st⟩
            · intro hc
              rw [if_neg (not_true hc)] at hr
              refine W_skip ?_
              refine X_then ?_
              refine W_region ?_
              refine WO_seg 4 [(3, .int .i64 (IntKind.wrap .i64 (s1.1 + 1))), (4, .int .i64 0)] (by kernel_rfl) (by kernel_rfl) ?_
              refine WO_end rfl ?_
              refine X_block ?_
              have hqu2 := Option.some.inj hr
              exact X_env _ (by kernel_rfl) (Ku2 _ _ ⟨(IntKind.wrap .i64 (s1.1 + 1), 0), m2, hqu2, rfl, hm, st⟩)
          · intro hc
            rw [if_neg (not_true hc)] at hr
            refine W_seq ?_
            refine W_region ?_
            replace hr := bindS hr
            obtain ⟨o3, hr, hrK⟩ := hr
            refine WO_cut (j := 11) (fun L' w' => ∃ (m4 : Mem), L' = [(0, .string p0), (3, .int .i64 s1.1), (4, .int .i64 s1.2.1), (5, .int .i64 s1.2.2), (24, .bool o3)] ∧ m.le m4 ∧ St m4 (own) w') ?_ ?_
            · clear hr st
              have hr := hrK
              clear hrK
              rintro _ w4 ⟨m4, rfl, hm, st⟩
              refine WO_end rfl ?_
              refine X_then ?_
              refine W_cond o3 (by kernel_rfl) ?_ ?_
              · intro hc
                rw [if_pos hc] at hr
                refine W_region ?_
                refine WO_seg 3 [(4, .int .i64 (IntKind.wrap .i64 (s1.2.1 + 1)))] (by kernel_rfl) (by kernel_rfl) ?_
                refine WO_end rfl ?_
                refine X_block ?_
                have hqu2 := Option.some.inj hr
                exact X_env _ (by kernel_rfl) (Ku2 _ _ ⟨(s1.1, IntKind.wrap .i64 (s1.2.1 + 1)), m4, hqu2, rfl, hm, st⟩)
              · intro hc
                rw [if_neg (not_true hc)] at hr
                refine W_seq ?_
                refine W_region ?_
                refine WO_seg 1 [(2, .bool false)] (by kernel_rfl) (by kernel_rfl) ?_
                refine WO_end rfl ?_
                refine X_then ?_
                refine W_ret ?_
                refine X_block_ret ?_
                replace hr := Option.map_eq_some_iff.1 hr
                obtain ⟨zu2, hr, hzu2⟩ := hr
                subst hzu2
                have hrKu2 := Option.some.inj hrKu2
                subst hrKu2
                refine X_then_ret ?_
                refine X_block_ret ?_
                refine X_then_ret ?_
                obtain rfl := Option.some.inj hr
                have ho := hBu1 _ rfl
                subst ho
                have hr := hrKu1
                dsimp only at hr
                refine X_then_ret ?_
                refine X_block_ret ?_
                refine X_then_ret ?_
                obtain rfl := Option.some.inj hr
                refine X_ret [.tmp 2] [.bool false] rfl (ResAll.cons (ResAt.tmp (by kernel_rfl)) ResAll.nil) ?_
                exact ⟨m4, rfl, hm, st⟩
            · intro K
              clear hrK
              refine WO_seg 2 [(25, .string p0), (26, .int .i64 s1.2.2)] (by kernel_rfl) (by kernel_rfl) ?_
              replace hr := bindS hr
              obtain ⟨x2, hx2, hr⟩ := hr
              refine WO_one rfl (One_strIndex (d := 27) (t := 9) (x := (.tmp 25)) (y := (.tmp 26)) (by kernel_rfl) rfl (show evL _ _ = some (.string p0) from (by kernel_rfl)) (show evL _ _ = some (.int .i64 s1.2.2) from (by kernel_rfl)) (by kernel_rfl) hx2 ?_)
              replace hr := bindS hr
              obtain ⟨y1, hx3, hr⟩ := hr
              refine WO_one rfl (One_fn 28 52 #[.int .u8 (x2.toNat : Int)] (by kernel_rfl) rfl ?_)
              refine (testgateref04_inner_ok st hx3).mono ?_
              clear st
              rintro _ w5 ⟨m5, rfl, hle1, st⟩
              refine ⟨_, rfl, ?_⟩
              have hm := Mem.le_trans hm hle1
              refine WO_seg 1 [(29, .bool y1)] (by kernel_rfl) (by kernel_rfl) ?_
              rcases bcases y1 with hc | hc
              · rw [if_pos hc] at hr
                refine WO_fact (t := 29) (b := true) y1 (by kernel_rfl) hc ?_
                refine WO_seg 6 [(24, .bool true)] (by kernel_rfl) (by kernel_rfl) ?_
                obtain rfl := Option.some.inj hr
                exact WO_env _ (by kernel_rfl) (K _ _ ⟨m5, rfl, hm, st⟩)
              · rw [if_neg (not_true hc)] at hr
                refine WO_fact (t := 29) (b := false) y1 (by kernel_rfl) hc ?_
                refine WO_seg 2 [(30, .string p0), (31, .int .i64 s1.2.2)] (by kernel_rfl) (by kernel_rfl) ?_
                replace hr := bindS hr
                obtain ⟨x3, hx4, hr⟩ := hr
                refine WO_one rfl (One_strIndex (d := 32) (t := 9) (x := (.tmp 30)) (y := (.tmp 31)) (by kernel_rfl) rfl (show evL _ _ = some (.string p0) from (by kernel_rfl)) (show evL _ _ = some (.int .i64 s1.2.2) from (by kernel_rfl)) (by kernel_rfl) hx4 ?_)
                refine WO_seg 3 [(24, .bool ((x3.toNat : Int) == 46))] (by kernel_rfl) (by kernel_rfl) ?_
                obtain rfl := Option.some.inj hr
                exact WO_env _ (by kernel_rfl) (K _ _ ⟨m5, rfl, hm, st⟩)
      · intro hc
        rw [if_neg (not_true hc)] at hr
        refine W_exit ?_
        refine X_then_exit ?_
        obtain rfl := Option.some.inj hr
        have ho := hBu1 _ rfl
        refine X_then_exit ?_
        exact X_env _ (by kernel_rfl) (K0_u1 _ _ ⟨(s1.1, s1.2.1), m2, ho, rfl, hm, st⟩)

def testgatelaw04_awake (N : Nat) : Option (Bool) :=
  (lexer_Tokens N (⟨#[97, 32, 61, 32, 53, 59, 32, 35, 32, 120]⟩ : ByteArray)).bind fun y1 => (if (y1.2.2 == 0) = true then (if (y1.2.1 == 0) = true then (if ((List.length y1.1 : Int) == 5) = true then ((idx y1.1 0).bind fun x1 => if ((x1.1 == 1) && ((x1.2.1.toList == (⟨#[97]⟩ : ByteArray).toList) && ((x1.2.2.1 == 0) && ((x1.2.2.2 == 0) && true)))) = true then ((idx y1.1 2).bind fun x2 => if ((x2.1 == 2) && ((x2.2.1.toList == (⟨#[]⟩ : ByteArray).toList) && ((x2.2.2.1 == 5) && ((x2.2.2.2 == 4) && true)))) = true then ((idx y1.1 4).bind fun x3 => if (x3.1 == 5) = true then ((idx y1.1 4).bind fun x4 => if (x4.2.2.2 == 10) = true then ((lexer_Path N (⟨#[97, 47, 98, 46, 99]⟩ : ByteArray)).bind fun y2 => if y2 = true then ((lexer_Name N (⟨#[57]⟩ : ByteArray)).bind fun y3 => some (!y3)) else (some false)) else (some false)) else (some false)) else (some false)) else (some false)) else (some false)) else (some false)) else (some false) : Option (Bool)).bind fun o1 => some o1

set_option maxHeartbeats 4000000 in
set_option maxRecDepth 100000 in
theorem testgatelaw04_awake_ok {N : Nat} {m : Mem} {own : List Piece} {w : World} {r : Bool} (st : St m (own) w) (hr : testgatelaw04_awake N = some r) : Calls Go.Proofs.Tryd.prog 19 #[] w fun e w' => ∃ (m' : Mem), e = .returned (.bool r) ∧ m.le m' ∧ St m' (own) w' := by
  unfold testgatelaw04_awake at hr
  have hm := m.le_refl
  refine W_calls Go.Proofs.Tryd.func19 rfl Go.Proofs.Tryd.ntmps19 [] (by kernel_rfl) rfl ?_
  refine W_seq ?_
  refine W_region ?_
  refine WO_seg 1 [] (by kernel_rfl) (by kernel_rfl) ?_
  refine WO_end rfl ?_
  refine X_then ?_
  refine W_seq ?_
  refine W_region ?_
  replace hr := bindS hr
  obtain ⟨y1, hx1, hr⟩ := hr
  refine WO_one rfl (One_fn 5 24 #[.string (⟨#[97, 32, 61, 32, 53, 59, 32, 35, 32, 120]⟩ : ByteArray)] (by kernel_rfl) rfl ?_)
  refine (lexer_Tokens_ok st hx1).mono ?_
  clear st
  rintro _ w1 ⟨a1, c1, m1, rfl, hle1, st, r1⟩
  refine ⟨_, rfl, ?_⟩
  have hm := Mem.le_trans hm hle1
  refine WO_seg 7 [(1, .slice a1 (List.length y1.1) c1), (2, .int .i64 y1.2.1), (3, .int .i64 y1.2.2)] (by kernel_rfl) (by kernel_rfl) ?_
  refine WO_end rfl ?_
  refine X_then ?_
  refine W_seq ?_
  refine W_region ?_
  replace hr := bindS hr
  obtain ⟨o1, hr, hrK⟩ := hr
  refine WO_cut (j := 47) (fun L' w' => ∃ (m2 : Mem), L' = [(0, .bool o1)] ∧ m.le m2 ∧ St m2 (.room a1 (List.length y1.1) c1 42 4 :: own) w') ?_ ?_
  · clear hr st
    have hr := hrK
    clear hrK
    rintro _ w2 ⟨m2, rfl, hm, st⟩
    refine WO_end rfl ?_
    refine X_then ?_
    refine W_ret ?_
    obtain rfl := Option.some.inj hr
    refine X_ret [.tmp 0] [.bool o1] rfl (ResAll.cons (ResAt.tmp (by kernel_rfl)) ResAll.nil) ?_
    have st := st.tail
    exact ⟨m2, rfl, hm, st⟩
  · intro K
    clear hrK
    refine WO_seg 3 [(11, .bool (y1.2.2 == 0))] (by kernel_rfl) (by kernel_rfl) ?_
    rcases bcases (y1.2.2 == 0) with hc | hc
    · rw [if_pos hc] at hr
      refine WO_fact (t := 11) (b := true) (y1.2.2 == 0) (by kernel_rfl) hc ?_
      refine WO_seg 4 [(15, .bool (y1.2.1 == 0))] (by kernel_rfl) (by kernel_rfl) ?_
      rcases bcases (y1.2.1 == 0) with hc | hc
      · rw [if_pos hc] at hr
        refine WO_fact (t := 15) (b := true) (y1.2.1 == 0) (by kernel_rfl) hc ?_
        refine WO_seg 5 [(20, .bool ((List.length y1.1 : Int) == 5))] (by kernel_rfl) (by kernel_rfl) ?_
        rcases bcases ((List.length y1.1 : Int) == 5) with hc | hc
        · rw [if_pos hc] at hr
          refine WO_fact (t := 20) (b := true) ((List.length y1.1 : Int) == 5) (by kernel_rfl) hc ?_
          refine WO_seg 1 [(21, .slice a1 (List.length y1.1) c1)] (by kernel_rfl) (by kernel_rfl) ?_
          replace hr := bindS hr
          obtain ⟨x1, hx2, hr⟩ := hr
          refine WO_one rfl (One_index (d := 22) (t := 37) (e := 42) (x := (.tmp 21)) (y := (.const (.int .i64 0))) (cPair (cInt .i64) (cPair cStr (cPair (cInt .i64) (cInt .i64)))) (by kernel_rfl) rfl (show evL _ _ = some (.slice a1 (List.length y1.1) c1) from (by kernel_rfl)) (show evL _ _ = some (.int .i64 0) from (by kernel_rfl)) (by kernel_rfl) r1 hx2 ?_)
          rintro b1 f1 cs1 ⟨_, _, rfl, rfl, ⟨_, _, rfl, rfl, ⟨_, _, rfl, rfl, rfl⟩⟩⟩ hq1
          refine WO_one rfl (One_load_row (d := 23) (t := 42) (x := (.tmp 22)) (.agg #[.int .i64 x1.1, .string x1.2.1, .int .i64 x1.2.2.1, .int .i64 x1.2.2.2]) (by kernel_rfl) rfl (show evL _ _ = some (.pointer (some ⟨b1, f1, none⟩)) from (by kernel_rfl)) st hq1 (by kernel_rfl) ?_)
          refine WO_seg 1 [(24, .agg #[.int .i64 1, .string (⟨#[97]⟩ : ByteArray), .int .i64 0, .int .i64 0])] (by kernel_rfl) (by kernel_rfl) ?_
          refine WO_one rfl (One_eqAgg (d := 25) (t := 42) (t2 := 42) (x := (.tmp 23)) (y := (.tmp 24)) (xs := #[.int .i64 x1.1, .string x1.2.1, .int .i64 x1.2.2.1, .int .i64 x1.2.2.2]) (ys := #[.int .i64 1, .string (⟨#[97]⟩ : ByteArray), .int .i64 0, .int .i64 0]) ((x1.1 == 1) && ((x1.2.1.toList == (⟨#[97]⟩ : ByteArray).toList) && ((x1.2.2.1 == 0) && ((x1.2.2.2 == 0) && true)))) (by kernel_rfl) rfl (show evL _ _ = some (.agg #[.int .i64 x1.1, .string x1.2.1, .int .i64 x1.2.2.1, .int .i64 x1.2.2.2]) from (by kernel_rfl)) (show evL _ _ = some (.agg #[.int .i64 1, .string (⟨#[97]⟩ : ByteArray), .int .i64 0, .int .i64 0]) from (by kernel_rfl)) (by kernel_rfl) (by kernel_rfl) (by kernel_rfl) ?_)
          refine WO_seg 2 [(27, .bool ((x1.1 == 1) && ((x1.2.1.toList == (⟨#[97]⟩ : ByteArray).toList) && ((x1.2.2.1 == 0) && ((x1.2.2.2 == 0) && true)))))] (by kernel_rfl) (by kernel_rfl) ?_
          rcases bcases ((x1.1 == 1) && ((x1.2.1.toList == (⟨#[97]⟩ : ByteArray).toList) && ((x1.2.2.1 == 0) && ((x1.2.2.2 == 0) && true)))) with hc | hc
          · rw [if_pos hc] at hr
            refine WO_fact (t := 27) (b := true) ((x1.1 == 1) && ((x1.2.1.toList == (⟨#[97]⟩ : ByteArray).toList) && ((x1.2.2.1 == 0) && ((x1.2.2.2 == 0) && true)))) (by kernel_rfl) hc ?_
            refine WO_seg 1 [(28, .slice a1 (List.length y1.1) c1)] (by kernel_rfl) (by kernel_rfl) ?_
            replace hr := bindS hr
            obtain ⟨x2, hx3, hr⟩ := hr
            refine WO_one rfl (One_index (d := 29) (t := 37) (e := 42) (x := (.tmp 28)) (y := (.const (.int .i64 2))) (cPair (cInt .i64) (cPair cStr (cPair (cInt .i64) (cInt .i64)))) (by kernel_rfl) rfl (show evL _ _ = some (.slice a1 (List.length y1.1) c1) from (by kernel_rfl)) (show evL _ _ = some (.int .i64 2) from (by kernel_rfl)) (by kernel_rfl) r1 hx3 ?_)
            rintro b2 f2 cs2 ⟨_, _, rfl, rfl, ⟨_, _, rfl, rfl, ⟨_, _, rfl, rfl, rfl⟩⟩⟩ hq2
            refine WO_one rfl (One_load_row (d := 30) (t := 42) (x := (.tmp 29)) (.agg #[.int .i64 x2.1, .string x2.2.1, .int .i64 x2.2.2.1, .int .i64 x2.2.2.2]) (by kernel_rfl) rfl (show evL _ _ = some (.pointer (some ⟨b2, f2, none⟩)) from (by kernel_rfl)) st hq2 (by kernel_rfl) ?_)
            refine WO_seg 1 [(31, .agg #[.int .i64 2, .string (⟨#[]⟩ : ByteArray), .int .i64 5, .int .i64 4])] (by kernel_rfl) (by kernel_rfl) ?_
            refine WO_one rfl (One_eqAgg (d := 32) (t := 42) (t2 := 42) (x := (.tmp 30)) (y := (.tmp 31)) (xs := #[.int .i64 x2.1, .string x2.2.1, .int .i64 x2.2.2.1, .int .i64 x2.2.2.2]) (ys := #[.int .i64 2, .string (⟨#[]⟩ : ByteArray), .int .i64 5, .int .i64 4]) ((x2.1 == 2) && ((x2.2.1.toList == (⟨#[]⟩ : ByteArray).toList) && ((x2.2.2.1 == 5) && ((x2.2.2.2 == 4) && true)))) (by kernel_rfl) rfl (show evL _ _ = some (.agg #[.int .i64 x2.1, .string x2.2.1, .int .i64 x2.2.2.1, .int .i64 x2.2.2.2]) from (by kernel_rfl)) (show evL _ _ = some (.agg #[.int .i64 2, .string (⟨#[]⟩ : ByteArray), .int .i64 5, .int .i64 4]) from (by kernel_rfl)) (by kernel_rfl) (by kernel_rfl) (by kernel_rfl) ?_)
            refine WO_seg 2 [(34, .bool ((x2.1 == 2) && ((x2.2.1.toList == (⟨#[]⟩ : ByteArray).toList) && ((x2.2.2.1 == 5) && ((x2.2.2.2 == 4) && true)))))] (by kernel_rfl) (by kernel_rfl) ?_
            rcases bcases ((x2.1 == 2) && ((x2.2.1.toList == (⟨#[]⟩ : ByteArray).toList) && ((x2.2.2.1 == 5) && ((x2.2.2.2 == 4) && true)))) with hc | hc
            · rw [if_pos hc] at hr
              refine WO_fact (t := 34) (b := true) ((x2.1 == 2) && ((x2.2.1.toList == (⟨#[]⟩ : ByteArray).toList) && ((x2.2.2.1 == 5) && ((x2.2.2.2 == 4) && true)))) (by kernel_rfl) hc ?_
              refine WO_seg 1 [(35, .slice a1 (List.length y1.1) c1)] (by kernel_rfl) (by kernel_rfl) ?_
              replace hr := bindS hr
              obtain ⟨x3, hx4, hr⟩ := hr
              refine WO_one rfl (One_index (d := 36) (t := 37) (e := 42) (x := (.tmp 35)) (y := (.const (.int .i64 4))) (cPair (cInt .i64) (cPair cStr (cPair (cInt .i64) (cInt .i64)))) (by kernel_rfl) rfl (show evL _ _ = some (.slice a1 (List.length y1.1) c1) from (by kernel_rfl)) (show evL _ _ = some (.int .i64 4) from (by kernel_rfl)) (by kernel_rfl) r1 hx4 ?_)
              rintro b3 f3 cs3 ⟨_, _, rfl, rfl, ⟨_, _, rfl, rfl, ⟨_, _, rfl, rfl, rfl⟩⟩⟩ hq3
              refine WO_seg 1 [(37, .pointer (some ⟨b3, f3, none⟩))] (by kernel_rfl) (by kernel_rfl) ?_
              refine WO_one rfl (One_load_row (d := 38) (t := 3) (x := (.tmp 37)) (.int .i64 x3.1) (by kernel_rfl) rfl (show evL _ _ = some (.pointer (some ⟨b3, f3, none⟩)) from (by kernel_rfl)) st hq3 (by kernel_rfl) ?_)
              refine WO_seg 3 [(41, .bool (x3.1 == 5))] (by kernel_rfl) (by kernel_rfl) ?_
              rcases bcases (x3.1 == 5) with hc | hc
              · rw [if_pos hc] at hr
                refine WO_fact (t := 41) (b := true) (x3.1 == 5) (by kernel_rfl) hc ?_
                refine WO_seg 1 [(42, .slice a1 (List.length y1.1) c1)] (by kernel_rfl) (by kernel_rfl) ?_
                replace hr := bindS hr
                obtain ⟨x4, hx5, hr⟩ := hr
                refine WO_one rfl (One_index (d := 43) (t := 37) (e := 42) (x := (.tmp 42)) (y := (.const (.int .i64 4))) (cPair (cInt .i64) (cPair cStr (cPair (cInt .i64) (cInt .i64)))) (by kernel_rfl) rfl (show evL _ _ = some (.slice a1 (List.length y1.1) c1) from (by kernel_rfl)) (show evL _ _ = some (.int .i64 4) from (by kernel_rfl)) (by kernel_rfl) r1 hx5 ?_)
                rintro b4 f4 cs4 ⟨_, _, rfl, rfl, ⟨_, _, rfl, rfl, ⟨_, _, rfl, rfl, rfl⟩⟩⟩ hq4
                refine WO_seg 1 [(44, .pointer (some ⟨b4, f4 + 3, none⟩))] (by kernel_rfl) (by kernel_rfl) ?_
                refine WO_one rfl (One_load_row (d := 45) (t := 3) (x := (.tmp 44)) (.int .i64 x4.2.2.2) (by kernel_rfl) rfl (show evL _ _ = some (.pointer (some ⟨b4, f4 + 3, none⟩)) from (by kernel_rfl)) st (hq4.drop 3) (by kernel_rfl) ?_)
                refine WO_seg 3 [(48, .bool (x4.2.2.2 == 10))] (by kernel_rfl) (by kernel_rfl) ?_
                rcases bcases (x4.2.2.2 == 10) with hc | hc
                · rw [if_pos hc] at hr
                  refine WO_fact (t := 48) (b := true) (x4.2.2.2 == 10) (by kernel_rfl) hc ?_
                  replace hr := bindS hr
                  obtain ⟨y2, hx6, hr⟩ := hr
                  refine WO_one rfl (One_fn 49 17 #[.string (⟨#[97, 47, 98, 46, 99]⟩ : ByteArray)] (by kernel_rfl) rfl ?_)
                  refine (lexer_Path_ok st hx6).mono ?_
                  clear st
                  rintro _ w3 ⟨m3, rfl, hle2, st⟩
                  refine ⟨_, rfl, ?_⟩
                  have hm := Mem.le_trans hm hle2
                  have r1 := r1.mono hle2
                  have hq1 := hq1.mono hle2
                  have hq2 := hq2.mono hle2
                  have hq3 := hq3.mono hle2
                  have hq4 := hq4.mono hle2
                  refine WO_seg 2 [(51, .bool y2)] (by kernel_rfl) (by kernel_rfl) ?_
                  rcases bcases y2 with hc | hc
                  · rw [if_pos hc] at hr
                    refine WO_fact (t := 51) (b := true) y2 (by kernel_rfl) hc ?_
                    replace hr := bindS hr
                    obtain ⟨y3, hx7, hr⟩ := hr
                    refine WO_one rfl (One_fn 52 15 #[.string (⟨#[57]⟩ : ByteArray)] (by kernel_rfl) rfl ?_)
                    refine (lexer_Name_ok st hx7).mono ?_
                    clear st
                    rintro _ w4 ⟨m4, rfl, hle3, st⟩
                    refine ⟨_, rfl, ?_⟩
                    have hm := Mem.le_trans hm hle3
                    have r1 := r1.mono hle3
                    have hq1 := hq1.mono hle3
                    have hq2 := hq2.mono hle3
                    have hq3 := hq3.mono hle3
                    have hq4 := hq4.mono hle3
                    refine WO_seg 3 [(0, .bool (!y3))] (by kernel_rfl) (by kernel_rfl) ?_
                    obtain rfl := Option.some.inj hr
                    exact WO_env _ (by kernel_rfl) (K _ _ ⟨m4, rfl, hm, st⟩)
                  · rw [if_neg (not_true hc)] at hr
                    refine WO_fact (t := 51) (b := false) y2 (by kernel_rfl) hc ?_
                    refine WO_seg 4 [(0, .bool false)] (by kernel_rfl) (by kernel_rfl) ?_
                    obtain rfl := Option.some.inj hr
                    exact WO_env _ (by kernel_rfl) (K _ _ ⟨m3, rfl, hm, st⟩)
                · rw [if_neg (not_true hc)] at hr
                  refine WO_fact (t := 48) (b := false) (x4.2.2.2 == 10) (by kernel_rfl) hc ?_
                  refine WO_seg 7 [(0, .bool false)] (by kernel_rfl) (by kernel_rfl) ?_
                  obtain rfl := Option.some.inj hr
                  exact WO_env _ (by kernel_rfl) (K _ _ ⟨m1, rfl, hm, st⟩)
              · rw [if_neg (not_true hc)] at hr
                refine WO_fact (t := 41) (b := false) (x3.1 == 5) (by kernel_rfl) hc ?_
                refine WO_seg 14 [(0, .bool false)] (by kernel_rfl) (by kernel_rfl) ?_
                obtain rfl := Option.some.inj hr
                exact WO_env _ (by kernel_rfl) (K _ _ ⟨m1, rfl, hm, st⟩)
            · rw [if_neg (not_true hc)] at hr
              refine WO_fact (t := 34) (b := false) ((x2.1 == 2) && ((x2.2.1.toList == (⟨#[]⟩ : ByteArray).toList) && ((x2.2.2.1 == 5) && ((x2.2.2.2 == 4) && true)))) (by kernel_rfl) hc ?_
              refine WO_seg 21 [(0, .bool false)] (by kernel_rfl) (by kernel_rfl) ?_
              obtain rfl := Option.some.inj hr
              exact WO_env _ (by kernel_rfl) (K _ _ ⟨m1, rfl, hm, st⟩)
          · rw [if_neg (not_true hc)] at hr
            refine WO_fact (t := 27) (b := false) ((x1.1 == 1) && ((x1.2.1.toList == (⟨#[97]⟩ : ByteArray).toList) && ((x1.2.2.1 == 0) && ((x1.2.2.2 == 0) && true)))) (by kernel_rfl) hc ?_
            refine WO_seg 28 [(0, .bool false)] (by kernel_rfl) (by kernel_rfl) ?_
            obtain rfl := Option.some.inj hr
            exact WO_env _ (by kernel_rfl) (K _ _ ⟨m1, rfl, hm, st⟩)
        · rw [if_neg (not_true hc)] at hr
          refine WO_fact (t := 20) (b := false) ((List.length y1.1 : Int) == 5) (by kernel_rfl) hc ?_
          refine WO_seg 35 [(0, .bool false)] (by kernel_rfl) (by kernel_rfl) ?_
          obtain rfl := Option.some.inj hr
          exact WO_env _ (by kernel_rfl) (K _ _ ⟨m1, rfl, hm, st⟩)
      · rw [if_neg (not_true hc)] at hr
        refine WO_fact (t := 15) (b := false) (y1.2.1 == 0) (by kernel_rfl) hc ?_
        refine WO_seg 40 [(0, .bool false)] (by kernel_rfl) (by kernel_rfl) ?_
        obtain rfl := Option.some.inj hr
        exact WO_env _ (by kernel_rfl) (K _ _ ⟨m1, rfl, hm, st⟩)
    · rw [if_neg (not_true hc)] at hr
      refine WO_fact (t := 11) (b := false) (y1.2.2 == 0) (by kernel_rfl) hc ?_
      refine WO_seg 44 [(0, .bool false)] (by kernel_rfl) (by kernel_rfl) ?_
      obtain rfl := Option.some.inj hr
      exact WO_env _ (by kernel_rfl) (K _ _ ⟨m1, rfl, hm, st⟩)

def testgatelaw04_LexerRaw (N : Nat) (p0 : ByteArray) (p1 : ByteArray) : Option (Bool) :=
  (testgatelaw04_limited N p0).bind fun y1 => (testgatelaw04_limited N p1).bind fun y2 => ((testgatelaw04_same N y1).bind fun y3 => if y3 = true then ((catB (⟨#[34]⟩ : ByteArray) y2).bind fun s1 => (catB s1 (⟨#[34]⟩ : ByteArray)).bind fun s2 => (testgatelaw04_same N s2).bind fun y4 => if y4 = true then ((lexer_Name N y1).bind fun y5 => (testgateref04_Name N y1).bind fun y6 => if (y5 == y6) = true then ((lexer_Path N y1).bind fun y7 => (testgateref04_Path N y1).bind fun y8 => if (y7 == y8) = true then ((lexer_Path N y2).bind fun y9 => (testgateref04_Path N y2).bind fun y10 => if (y9 == y10) = true then ((catB (⟨#[97, 47]⟩ : ByteArray) y2).bind fun s3 => (lexer_Path N s3).bind fun y11 => (catB (⟨#[97, 47]⟩ : ByteArray) y2).bind fun s4 => (testgateref04_Path N s4).bind fun y12 => if (y11 == y12) = true then ((testgatelaw04_awake N).bind fun y13 => some y13) else (some false)) else (some false)) else (some false)) else (some false)) else (some false)) else (some false) : Option (Bool)).bind fun o1 => some o1

set_option maxHeartbeats 4000000 in
set_option maxRecDepth 100000 in
theorem testgatelaw04_LexerRaw_ok {N : Nat} {m : Mem} {own : List Piece} {w : World} {p0 : ByteArray} {p1 : ByteArray} {r : Bool} (st : St m (own) w) (hr : testgatelaw04_LexerRaw N p0 p1 = some r) : Calls Go.Proofs.Tryd.prog 3 #[.string p0, .string p1] w fun e w' => ∃ (m' : Mem), e = .returned (.bool r) ∧ m.le m' ∧ St m' (own) w' := by
  unfold testgatelaw04_LexerRaw at hr
  have hm := m.le_refl
  refine W_calls Go.Proofs.Tryd.func3 rfl Go.Proofs.Tryd.ntmps3 [(0, .string p0), (1, .string p1)] (by kernel_rfl) rfl ?_
  refine W_seq ?_
  refine W_region ?_
  refine WO_seg 1 [] (by kernel_rfl) (by kernel_rfl) ?_
  refine WO_end rfl ?_
  refine X_then ?_
  refine W_seq ?_
  refine W_region ?_
  refine WO_seg 1 [(5, .string p0)] (by kernel_rfl) (by kernel_rfl) ?_
  replace hr := bindS hr
  obtain ⟨y1, hx1, hr⟩ := hr
  refine WO_one rfl (One_fn 6 13 #[.string p0] (by kernel_rfl) rfl ?_)
  refine (testgatelaw04_limited_ok st hx1).mono ?_
  clear st
  rintro _ w1 ⟨m1, rfl, hle1, st⟩
  refine ⟨_, rfl, ?_⟩
  have hm := Mem.le_trans hm hle1
  refine WO_seg 1 [(7, .string p1)] (by kernel_rfl) (by kernel_rfl) ?_
  replace hr := bindS hr
  obtain ⟨y2, hx2, hr⟩ := hr
  refine WO_one rfl (One_fn 8 13 #[.string p1] (by kernel_rfl) rfl ?_)
  refine (testgatelaw04_limited_ok st hx2).mono ?_
  clear st
  rintro _ w2 ⟨m2, rfl, hle2, st⟩
  refine ⟨_, rfl, ?_⟩
  have hm := Mem.le_trans hm hle2
  refine WO_seg 2 [(0, .string y1), (1, .string y2)] (by kernel_rfl) (by kernel_rfl) ?_
  refine WO_end rfl ?_
  refine X_then ?_
  refine W_seq ?_
  refine W_region ?_
  replace hr := bindS hr
  obtain ⟨o1, hr, hrK⟩ := hr
  refine WO_cut (j := 42) (fun L' w' => ∃ (m3 : Mem), L' = [(4, .bool o1)] ∧ m.le m3 ∧ St m3 (own) w') ?_ ?_
  · clear hr st
    have hr := hrK
    clear hrK
    rintro _ w3 ⟨m3, rfl, hm, st⟩
    refine WO_end rfl ?_
    refine X_then ?_
    refine W_ret ?_
    obtain rfl := Option.some.inj hr
    refine X_ret [.tmp 4] [.bool o1] rfl (ResAll.cons (ResAt.tmp (by kernel_rfl)) ResAll.nil) ?_
    exact ⟨m3, rfl, hm, st⟩
  · intro K
    clear hrK
    refine WO_seg 1 [(9, .string y1)] (by kernel_rfl) (by kernel_rfl) ?_
    replace hr := bindS hr
    obtain ⟨y3, hx3, hr⟩ := hr
    refine WO_one rfl (One_fn 10 14 #[.string y1] (by kernel_rfl) rfl ?_)
    refine (testgatelaw04_same_ok st hx3).mono ?_
    clear st
    rintro _ w4 ⟨m4, rfl, hle3, st⟩
    refine ⟨_, rfl, ?_⟩
    have hm := Mem.le_trans hm hle3
    refine WO_seg 1 [(11, .bool y3)] (by kernel_rfl) (by kernel_rfl) ?_
    rcases bcases y3 with hc | hc
    · rw [if_pos hc] at hr
      refine WO_fact (t := 11) (b := true) y3 (by kernel_rfl) hc ?_
      refine WO_seg 1 [(12, .string y2)] (by kernel_rfl) (by kernel_rfl) ?_
      replace hr := bindS hr
      obtain ⟨s1, hx4, hr⟩ := hr
      refine WO_one rfl (One_cat (d := 13) (t := 9) (t2 := 9) (x := (.const (.string (⟨#[34]⟩ : ByteArray)))) (y := (.tmp 12)) (by kernel_rfl) rfl (show evL _ _ = some (.string (⟨#[34]⟩ : ByteArray)) from (by kernel_rfl)) (show evL _ _ = some (.string y2) from (by kernel_rfl)) hx4 ?_)
      replace hr := bindS hr
      obtain ⟨s2, hx5, hr⟩ := hr
      refine WO_one rfl (One_cat (d := 14) (t := 9) (t2 := 9) (x := (.tmp 13)) (y := (.const (.string (⟨#[34]⟩ : ByteArray)))) (by kernel_rfl) rfl (show evL _ _ = some (.string s1) from (by kernel_rfl)) (show evL _ _ = some (.string (⟨#[34]⟩ : ByteArray)) from (by kernel_rfl)) hx5 ?_)
      replace hr := bindS hr
      obtain ⟨y4, hx6, hr⟩ := hr
      refine WO_one rfl (One_fn 15 14 #[.string s2] (by kernel_rfl) rfl ?_)
      refine (testgatelaw04_same_ok st hx6).mono ?_
      clear st
      rintro _ w5 ⟨m5, rfl, hle4, st⟩
      refine ⟨_, rfl, ?_⟩
      have hm := Mem.le_trans hm hle4
      refine WO_seg 2 [(17, .bool y4)] (by kernel_rfl) (by kernel_rfl) ?_
      rcases bcases y4 with hc | hc
      · rw [if_pos hc] at hr
        refine WO_fact (t := 17) (b := true) y4 (by kernel_rfl) hc ?_
        refine WO_seg 1 [(18, .string y1)] (by kernel_rfl) (by kernel_rfl) ?_
        replace hr := bindS hr
        obtain ⟨y5, hx7, hr⟩ := hr
        refine WO_one rfl (One_fn 19 15 #[.string y1] (by kernel_rfl) rfl ?_)
        refine (lexer_Name_ok st hx7).mono ?_
        clear st
        rintro _ w6 ⟨m6, rfl, hle5, st⟩
        refine ⟨_, rfl, ?_⟩
        have hm := Mem.le_trans hm hle5
        refine WO_seg 1 [(20, .string y1)] (by kernel_rfl) (by kernel_rfl) ?_
        replace hr := bindS hr
        obtain ⟨y6, hx8, hr⟩ := hr
        refine WO_one rfl (One_fn 21 16 #[.string y1] (by kernel_rfl) rfl ?_)
        refine (testgateref04_Name_ok st hx8).mono ?_
        clear st
        rintro _ w7 ⟨m7, rfl, hle6, st⟩
        refine ⟨_, rfl, ?_⟩
        have hm := Mem.le_trans hm hle6
        refine WO_seg 3 [(24, .bool (y5 == y6))] (by kernel_rfl) (by kernel_rfl) ?_
        rcases bcases (y5 == y6) with hc | hc
        · rw [if_pos hc] at hr
          refine WO_fact (t := 24) (b := true) (y5 == y6) (by kernel_rfl) hc ?_
          refine WO_seg 1 [(25, .string y1)] (by kernel_rfl) (by kernel_rfl) ?_
          replace hr := bindS hr
          obtain ⟨y7, hx9, hr⟩ := hr
          refine WO_one rfl (One_fn 26 17 #[.string y1] (by kernel_rfl) rfl ?_)
          refine (lexer_Path_ok st hx9).mono ?_
          clear st
          rintro _ w8 ⟨m8, rfl, hle7, st⟩
          refine ⟨_, rfl, ?_⟩
          have hm := Mem.le_trans hm hle7
          refine WO_seg 1 [(27, .string y1)] (by kernel_rfl) (by kernel_rfl) ?_
          replace hr := bindS hr
          obtain ⟨y8, hx10, hr⟩ := hr
          refine WO_one rfl (One_fn 28 18 #[.string y1] (by kernel_rfl) rfl ?_)
          refine (testgateref04_Path_ok st hx10).mono ?_
          clear st
          rintro _ w9 ⟨m9, rfl, hle8, st⟩
          refine ⟨_, rfl, ?_⟩
          have hm := Mem.le_trans hm hle8
          refine WO_seg 3 [(31, .bool (y7 == y8))] (by kernel_rfl) (by kernel_rfl) ?_
          rcases bcases (y7 == y8) with hc | hc
          · rw [if_pos hc] at hr
            refine WO_fact (t := 31) (b := true) (y7 == y8) (by kernel_rfl) hc ?_
            refine WO_seg 1 [(32, .string y2)] (by kernel_rfl) (by kernel_rfl) ?_
            replace hr := bindS hr
            obtain ⟨y9, hx11, hr⟩ := hr
            refine WO_one rfl (One_fn 33 17 #[.string y2] (by kernel_rfl) rfl ?_)
            refine (lexer_Path_ok st hx11).mono ?_
            clear st
            rintro _ w10 ⟨m10, rfl, hle9, st⟩
            refine ⟨_, rfl, ?_⟩
            have hm := Mem.le_trans hm hle9
            refine WO_seg 1 [(34, .string y2)] (by kernel_rfl) (by kernel_rfl) ?_
            replace hr := bindS hr
            obtain ⟨y10, hx12, hr⟩ := hr
            refine WO_one rfl (One_fn 35 18 #[.string y2] (by kernel_rfl) rfl ?_)
            refine (testgateref04_Path_ok st hx12).mono ?_
            clear st
            rintro _ w11 ⟨m11, rfl, hle10, st⟩
            refine ⟨_, rfl, ?_⟩
            have hm := Mem.le_trans hm hle10
            refine WO_seg 3 [(38, .bool (y9 == y10))] (by kernel_rfl) (by kernel_rfl) ?_
            rcases bcases (y9 == y10) with hc | hc
            · rw [if_pos hc] at hr
              refine WO_fact (t := 38) (b := true) (y9 == y10) (by kernel_rfl) hc ?_
              refine WO_seg 1 [(39, .string y2)] (by kernel_rfl) (by kernel_rfl) ?_
              replace hr := bindS hr
              obtain ⟨s3, hx13, hr⟩ := hr
              refine WO_one rfl (One_cat (d := 40) (t := 9) (t2 := 9) (x := (.const (.string (⟨#[97, 47]⟩ : ByteArray)))) (y := (.tmp 39)) (by kernel_rfl) rfl (show evL _ _ = some (.string (⟨#[97, 47]⟩ : ByteArray)) from (by kernel_rfl)) (show evL _ _ = some (.string y2) from (by kernel_rfl)) hx13 ?_)
              replace hr := bindS hr
              obtain ⟨y11, hx14, hr⟩ := hr
              refine WO_one rfl (One_fn 41 17 #[.string s3] (by kernel_rfl) rfl ?_)
              refine (lexer_Path_ok st hx14).mono ?_
              clear st
              rintro _ w12 ⟨m12, rfl, hle11, st⟩
              refine ⟨_, rfl, ?_⟩
              have hm := Mem.le_trans hm hle11
              refine WO_seg 1 [(42, .string y2)] (by kernel_rfl) (by kernel_rfl) ?_
              replace hr := bindS hr
              obtain ⟨s4, hx15, hr⟩ := hr
              refine WO_one rfl (One_cat (d := 43) (t := 9) (t2 := 9) (x := (.const (.string (⟨#[97, 47]⟩ : ByteArray)))) (y := (.tmp 42)) (by kernel_rfl) rfl (show evL _ _ = some (.string (⟨#[97, 47]⟩ : ByteArray)) from (by kernel_rfl)) (show evL _ _ = some (.string y2) from (by kernel_rfl)) hx15 ?_)
              replace hr := bindS hr
              obtain ⟨y12, hx16, hr⟩ := hr
              refine WO_one rfl (One_fn 44 18 #[.string s4] (by kernel_rfl) rfl ?_)
              refine (testgateref04_Path_ok st hx16).mono ?_
              clear st
              rintro _ w13 ⟨m13, rfl, hle12, st⟩
              refine ⟨_, rfl, ?_⟩
              have hm := Mem.le_trans hm hle12
              refine WO_seg 3 [(47, .bool (y11 == y12))] (by kernel_rfl) (by kernel_rfl) ?_
              rcases bcases (y11 == y12) with hc | hc
              · rw [if_pos hc] at hr
                refine WO_fact (t := 47) (b := true) (y11 == y12) (by kernel_rfl) hc ?_
                replace hr := bindS hr
                obtain ⟨y13, hx17, hr⟩ := hr
                refine WO_one rfl (One_fn 48 19 #[] (by kernel_rfl) rfl ?_)
                refine (testgatelaw04_awake_ok st hx17).mono ?_
                clear st
                rintro _ w14 ⟨m14, rfl, hle13, st⟩
                refine ⟨_, rfl, ?_⟩
                have hm := Mem.le_trans hm hle13
                refine WO_seg 2 [(4, .bool y13)] (by kernel_rfl) (by kernel_rfl) ?_
                obtain rfl := Option.some.inj hr
                exact WO_env _ (by kernel_rfl) (K _ _ ⟨m14, rfl, hm, st⟩)
              · rw [if_neg (not_true hc)] at hr
                refine WO_fact (t := 47) (b := false) (y11 == y12) (by kernel_rfl) hc ?_
                refine WO_seg 3 [(4, .bool false)] (by kernel_rfl) (by kernel_rfl) ?_
                obtain rfl := Option.some.inj hr
                exact WO_env _ (by kernel_rfl) (K _ _ ⟨m13, rfl, hm, st⟩)
            · rw [if_neg (not_true hc)] at hr
              refine WO_fact (t := 38) (b := false) (y9 == y10) (by kernel_rfl) hc ?_
              refine WO_seg 12 [(4, .bool false)] (by kernel_rfl) (by kernel_rfl) ?_
              obtain rfl := Option.some.inj hr
              exact WO_env _ (by kernel_rfl) (K _ _ ⟨m11, rfl, hm, st⟩)
          · rw [if_neg (not_true hc)] at hr
            refine WO_fact (t := 31) (b := false) (y7 == y8) (by kernel_rfl) hc ?_
            refine WO_seg 19 [(4, .bool false)] (by kernel_rfl) (by kernel_rfl) ?_
            obtain rfl := Option.some.inj hr
            exact WO_env _ (by kernel_rfl) (K _ _ ⟨m9, rfl, hm, st⟩)
        · rw [if_neg (not_true hc)] at hr
          refine WO_fact (t := 24) (b := false) (y5 == y6) (by kernel_rfl) hc ?_
          refine WO_seg 26 [(4, .bool false)] (by kernel_rfl) (by kernel_rfl) ?_
          obtain rfl := Option.some.inj hr
          exact WO_env _ (by kernel_rfl) (K _ _ ⟨m7, rfl, hm, st⟩)
      · rw [if_neg (not_true hc)] at hr
        refine WO_fact (t := 17) (b := false) y4 (by kernel_rfl) hc ?_
        refine WO_seg 33 [(4, .bool false)] (by kernel_rfl) (by kernel_rfl) ?_
        obtain rfl := Option.some.inj hr
        exact WO_env _ (by kernel_rfl) (K _ _ ⟨m5, rfl, hm, st⟩)
    · rw [if_neg (not_true hc)] at hr
      refine WO_fact (t := 11) (b := false) y3 (by kernel_rfl) hc ?_
      refine WO_seg 39 [(4, .bool false)] (by kernel_rfl) (by kernel_rfl) ?_
      obtain rfl := Option.some.inj hr
      exact WO_env _ (by kernel_rfl) (K _ _ ⟨m4, rfl, hm, st⟩)

def testgatelaw04_LexerLong_L1 (N : Nat) (p0 : Int) (s1 : Int × List (UInt8)) : Option ((Int × List (UInt8)) ⊕ ((List (UInt8)))) :=
  if (decide (s1.1 < ((Int.toNat (IntKind.wrap .i64 (16382 + (IntKind.wrap .i64 (Int.tmod p0 5))))) : Int))) = true then ((idx s1.2 s1.1).bind fun x1 => some (.inl (IntKind.wrap .i64 (s1.1 + 1), List.set s1.2 (Int.toNat s1.1) (32 : UInt8)))) else (some (.inr s1.2))

def testgatelaw04_LexerLong (N : Nat) (p0 : Int) : Option (Bool) :=
  (makeA 1 (0 : UInt8) (IntKind.wrap .i64 (16382 + (IntKind.wrap .i64 (Int.tmod p0 5))))).bind fun l1 => (loopM (testgatelaw04_LexerLong_L1 N p0) N (0, l1)).bind fun o1 => (lexer_Tokens N (strOf o1)).bind fun y1 => if (decide ((IntKind.wrap .i64 (16382 + (IntKind.wrap .i64 (Int.tmod p0 5)))) > 16384)) = true then ((if ((List.length y1.1 : Int) == 0) = true then (if (y1.2.1 == 0) = true then (if (y1.2.2 == 2) = true then ((testgatelaw04_awake N).bind fun y2 => some y2) else (some false)) else (some false)) else (some false) : Option (Bool)).bind fun o2 => some o2) else ((if ((List.length y1.1 : Int) == 1) = true then ((idx y1.1 0).bind fun x2 => if (x2.2.2.2 == (IntKind.wrap .i64 (16382 + (IntKind.wrap .i64 (Int.tmod p0 5))))) = true then (if (y1.2.2 == 0) = true then ((testgatelaw04_awake N).bind fun y3 => some y3) else (some false)) else (some false)) else (some false) : Option (Bool)).bind fun o3 => some o3)

set_option maxHeartbeats 4000000 in
set_option maxRecDepth 100000 in
theorem testgatelaw04_LexerLong_ok {N : Nat} {m : Mem} {own : List Piece} {w : World} {p0 : Int} {r : Bool} (st : St m (own) w) (hr : testgatelaw04_LexerLong N p0 = some r) : Calls Go.Proofs.Tryd.prog 8 #[.int .u8 p0] w fun e w' => ∃ (m' : Mem), e = .returned (.bool r) ∧ m.le m' ∧ St m' (own) w' := by
  unfold testgatelaw04_LexerLong at hr
  have hm := m.le_refl
  refine W_calls Go.Proofs.Tryd.func8 rfl Go.Proofs.Tryd.ntmps8 [(0, .int .u8 p0)] (by kernel_rfl) rfl ?_
  refine W_seq ?_
  refine W_region ?_
  refine WO_seg 1 [] (by kernel_rfl) (by kernel_rfl) ?_
  refine WO_end rfl ?_
  refine X_then ?_
  refine W_seq ?_
  refine W_region ?_
  refine WO_seg 5 [(3, .int .i64 (IntKind.wrap .i64 (16382 + (IntKind.wrap .i64 (Int.tmod p0 5)))))] (by kernel_rfl) (by kernel_rfl) ?_
  refine WO_end rfl ?_
  refine X_then ?_
  refine W_seq ?_
  refine W_region ?_
  refine WO_seg 1 [(13, .int .i64 (IntKind.wrap .i64 (16382 + (IntKind.wrap .i64 (Int.tmod p0 5)))))] (by kernel_rfl) (by kernel_rfl) ?_
  replace hr := bindS hr
  obtain ⟨l1, hx1, hr⟩ := hr
  refine WO_one rfl (One_makeArr (d := 14) (t := 43) (e := 5) (by_ := 1) (x := (.tmp 13)) (y := (.tmp 13)) (fun x : UInt8 => Value.int .u8 (x.toNat : Int)) (by kernel_rfl) rfl (show evL _ _ = some (.int .i64 (IntKind.wrap .i64 (16382 + (IntKind.wrap .i64 (Int.tmod p0 5))))) from (by kernel_rfl)) (show evL _ _ = some (.int .i64 (IntKind.wrap .i64 (16382 + (IntKind.wrap .i64 (Int.tmod p0 5))))) from (by kernel_rfl)) (by kernel_rfl) (by kernel_rfl) rfl st hx1 ?_)
  clear st
  intro b1 w1 hn1 st
  refine WO_seg 1 [(4, .slice (some ⟨b1, 0, none⟩) (Int.toNat (IntKind.wrap .i64 (16382 + (IntKind.wrap .i64 (Int.tmod p0 5))))) (Int.toNat (IntKind.wrap .i64 (16382 + (IntKind.wrap .i64 (Int.tmod p0 5))))))] (by kernel_rfl) (by kernel_rfl) ?_
  refine WO_end rfl ?_
  refine X_then ?_
  refine W_seq ?_
  refine W_seq ?_
  refine W_region ?_
  refine WO_seg 3 [(16, .int .i64 ((Int.toNat (IntKind.wrap .i64 (16382 + (IntKind.wrap .i64 (Int.tmod p0 5))))) : Int)), (17, .int .i64 0)] (by kernel_rfl) (by kernel_rfl) ?_
  refine WO_end rfl ?_
  refine X_then ?_
  refine W_block ?_
  replace hr := bindS hr
  obtain ⟨out1, hr, hrKu1⟩ := hr
  refine W_cut (.exit 0) (fun L' w' => ∃ (o1 : List (UInt8)) (m1 : Mem), o1 = out1 ∧ L' = [(3, .int .i64 (IntKind.wrap .i64 (16382 + (IntKind.wrap .i64 (Int.tmod p0 5))))), (4, .slice (some ⟨b1, 0, none⟩) (Int.toNat (IntKind.wrap .i64 (16382 + (IntKind.wrap .i64 (Int.tmod p0 5))))) (Int.toNat (IntKind.wrap .i64 (16382 + (IntKind.wrap .i64 (Int.tmod p0 5))))))] ∧ m.le m1 ∧ St m1 (.blk b1 (.cells (acells (fun x : UInt8 => Value.int .u8 (x.toNat : Int)) o1 []) 5 (0, 0)) :: own) w' ∧ List.length o1 = (Int.toNat (IntKind.wrap .i64 (16382 + (IntKind.wrap .i64 (Int.tmod p0 5)))))) ?_ ?_
  · clear hr st
    rintro _ w2 ⟨o1, m1, rfl, rfl, hm, st, hn2⟩
    have hr := hrKu1
    clear hrKu1
    refine X_block_eq ?_
    refine X_then ?_
    refine W_seq ?_
    refine W_region ?_
    refine WO_seg 1 [(25, .slice (some ⟨b1, 0, none⟩) (Int.toNat (IntKind.wrap .i64 (16382 + (IntKind.wrap .i64 (Int.tmod p0 5))))) (Int.toNat (IntKind.wrap .i64 (16382 + (IntKind.wrap .i64 (Int.tmod p0 5))))))] (by kernel_rfl) (by kernel_rfl) ?_
    obtain ⟨m3, hle1, st, r1⟩ := St.freeze (c := cU8) st hn2 (Nat.le_refl _) (makeA_le hx1) (acells_size hn2 (Nat.add_zero _)) rfl (fun _ _ => rfl)
    have hm := Mem.le_trans hm hle1
    refine WO_env [(3, .int .i64 (IntKind.wrap .i64 (16382 + (IntKind.wrap .i64 (Int.tmod p0 5))))), (4, .slice (some ⟨b1, 0, none⟩) (List.length o1) (Int.toNat (IntKind.wrap .i64 (16382 + (IntKind.wrap .i64 (Int.tmod p0 5)))))), (25, .slice (some ⟨b1, 0, none⟩) (List.length o1) (Int.toNat (IntKind.wrap .i64 (16382 + (IntKind.wrap .i64 (Int.tmod p0 5))))))] (by rw [hn2]; kernel_rfl) ?_
    refine WO_one rfl (One_bytesStr (d := 26) (t1 := 43) (t2 := 9) (e := 5) (x := (.tmp 25)) (by kernel_rfl) rfl (show evL _ _ = some (.slice (some ⟨b1, 0, none⟩) (List.length o1) (Int.toNat (IntKind.wrap .i64 (16382 + (IntKind.wrap .i64 (Int.tmod p0 5)))))) from (by kernel_rfl)) (by kernel_rfl) (by kernel_rfl) st r1 ?_)
    replace hr := bindS hr
    obtain ⟨y1, hx3, hr⟩ := hr
    refine WO_one rfl (One_fn 27 24 #[.string (strOf o1)] (by kernel_rfl) rfl ?_)
    refine (lexer_Tokens_ok st hx3).mono ?_
    clear st
    rintro _ w5 ⟨a1, c1, m4, rfl, hle2, st, r2⟩
    refine ⟨_, rfl, ?_⟩
    have hm := Mem.le_trans hm hle2
    have r1 := r1.mono hle2
    refine WO_seg 7 [(6, .slice a1 (List.length y1.1) c1), (7, .int .i64 y1.2.1), (8, .int .i64 y1.2.2)] (by kernel_rfl) (by kernel_rfl) ?_
    refine WO_end rfl ?_
    have st := st.front1
    have st := st.tail
    refine X_then ?_
    refine W_seq ?_
    refine W_seq ?_
    refine W_region ?_
    refine WO_seg 2 [(32, .bool (decide ((IntKind.wrap .i64 (16382 + (IntKind.wrap .i64 (Int.tmod p0 5)))) > 16384)))] (by kernel_rfl) (by kernel_rfl) ?_
    refine WO_end rfl ?_
    refine X_then ?_
    refine W_cond (decide ((IntKind.wrap .i64 (16382 + (IntKind.wrap .i64 (Int.tmod p0 5)))) > 16384)) (by kernel_rfl) ?_ ?_
    · intro hc
      rw [if_pos hc] at hr
      refine W_seq ?_
      refine W_region ?_
      replace hr := bindS hr
      obtain ⟨o2, hr, hrK⟩ := hr
      refine WO_cut (j := 15) (fun L' w' => ∃ (m5 : Mem), L' = [(2, .bool o2)] ∧ m.le m5 ∧ St m5 (.room a1 (List.length y1.1) c1 42 4 :: own) w') ?_ ?_
      · clear hr st
        have hr := hrK
        clear hrK
        rintro _ w6 ⟨m5, rfl, hm, st⟩
        refine WO_end rfl ?_
        refine X_then ?_
        refine W_ret ?_
        refine X_then_ret ?_
        obtain rfl := Option.some.inj hr
        refine X_ret [.tmp 2] [.bool o2] rfl (ResAll.cons (ResAt.tmp (by kernel_rfl)) ResAll.nil) ?_
        have st := st.tail
        exact ⟨m5, rfl, hm, st⟩
      · intro K
        clear hrK
        refine WO_seg 4 [(36, .bool ((List.length y1.1 : Int) == 0))] (by kernel_rfl) (by kernel_rfl) ?_
        rcases bcases ((List.length y1.1 : Int) == 0) with hc | hc
        · rw [if_pos hc] at hr
          refine WO_fact (t := 36) (b := true) ((List.length y1.1 : Int) == 0) (by kernel_rfl) hc ?_
          refine WO_seg 4 [(40, .bool (y1.2.1 == 0))] (by kernel_rfl) (by kernel_rfl) ?_
          rcases bcases (y1.2.1 == 0) with hc | hc
          · rw [if_pos hc] at hr
            refine WO_fact (t := 40) (b := true) (y1.2.1 == 0) (by kernel_rfl) hc ?_
            refine WO_seg 4 [(44, .bool (y1.2.2 == 2))] (by kernel_rfl) (by kernel_rfl) ?_
            rcases bcases (y1.2.2 == 2) with hc | hc
            · rw [if_pos hc] at hr
              refine WO_fact (t := 44) (b := true) (y1.2.2 == 2) (by kernel_rfl) hc ?_
              replace hr := bindS hr
              obtain ⟨y2, hx4, hr⟩ := hr
              refine WO_one rfl (One_fn 45 19 #[] (by kernel_rfl) rfl ?_)
              refine (testgatelaw04_awake_ok st hx4).mono ?_
              clear st
              rintro _ w7 ⟨m6, rfl, hle3, st⟩
              refine ⟨_, rfl, ?_⟩
              have hm := Mem.le_trans hm hle3
              have r2 := r2.mono hle3
              refine WO_seg 2 [(2, .bool y2)] (by kernel_rfl) (by kernel_rfl) ?_
              obtain rfl := Option.some.inj hr
              exact WO_env _ (by kernel_rfl) (K _ _ ⟨m6, rfl, hm, st⟩)
            · rw [if_neg (not_true hc)] at hr
              refine WO_fact (t := 44) (b := false) (y1.2.2 == 2) (by kernel_rfl) hc ?_
              refine WO_seg 3 [(2, .bool false)] (by kernel_rfl) (by kernel_rfl) ?_
              obtain rfl := Option.some.inj hr
              exact WO_env _ (by kernel_rfl) (K _ _ ⟨m4, rfl, hm, st⟩)
          · rw [if_neg (not_true hc)] at hr
            refine WO_fact (t := 40) (b := false) (y1.2.1 == 0) (by kernel_rfl) hc ?_
            refine WO_seg 7 [(2, .bool false)] (by kernel_rfl) (by kernel_rfl) ?_
            obtain rfl := Option.some.inj hr
            exact WO_env _ (by kernel_rfl) (K _ _ ⟨m4, rfl, hm, st⟩)
        · rw [if_neg (not_true hc)] at hr
          refine WO_fact (t := 36) (b := false) ((List.length y1.1 : Int) == 0) (by kernel_rfl) hc ?_
          refine WO_seg 11 [(2, .bool false)] (by kernel_rfl) (by kernel_rfl) ?_
          obtain rfl := Option.some.inj hr
          exact WO_env _ (by kernel_rfl) (K _ _ ⟨m4, rfl, hm, st⟩)
    · intro hc
      rw [if_neg (not_true hc)] at hr
      refine W_skip ?_
      refine X_then ?_
      refine W_seq ?_
      refine W_region ?_
      replace hr := bindS hr
      obtain ⟨o3, hr, hrK⟩ := hr
      refine WO_cut (j := 19) (fun L' w' => ∃ (m7 : Mem), L' = [(2, .bool o3)] ∧ m.le m7 ∧ St m7 (.room a1 (List.length y1.1) c1 42 4 :: own) w') ?_ ?_
      · clear hr st
        have hr := hrK
        clear hrK
        rintro _ w8 ⟨m7, rfl, hm, st⟩
        refine WO_end rfl ?_
        refine X_then ?_
        refine W_ret ?_
        obtain rfl := Option.some.inj hr
        refine X_ret [.tmp 2] [.bool o3] rfl (ResAll.cons (ResAt.tmp (by kernel_rfl)) ResAll.nil) ?_
        have st := st.tail
        exact ⟨m7, rfl, hm, st⟩
      · intro K
        clear hrK
        refine WO_seg 4 [(50, .bool ((List.length y1.1 : Int) == 1))] (by kernel_rfl) (by kernel_rfl) ?_
        rcases bcases ((List.length y1.1 : Int) == 1) with hc | hc
        · rw [if_pos hc] at hr
          refine WO_fact (t := 50) (b := true) ((List.length y1.1 : Int) == 1) (by kernel_rfl) hc ?_
          refine WO_seg 1 [(51, .slice a1 (List.length y1.1) c1)] (by kernel_rfl) (by kernel_rfl) ?_
          replace hr := bindS hr
          obtain ⟨x2, hx5, hr⟩ := hr
          refine WO_one rfl (One_index (d := 52) (t := 37) (e := 42) (x := (.tmp 51)) (y := (.const (.int .i64 0))) (cPair (cInt .i64) (cPair cStr (cPair (cInt .i64) (cInt .i64)))) (by kernel_rfl) rfl (show evL _ _ = some (.slice a1 (List.length y1.1) c1) from (by kernel_rfl)) (show evL _ _ = some (.int .i64 0) from (by kernel_rfl)) (by kernel_rfl) r2 hx5 ?_)
          rintro b2 f1 cs1 ⟨_, _, rfl, rfl, ⟨_, _, rfl, rfl, ⟨_, _, rfl, rfl, rfl⟩⟩⟩ hq1
          refine WO_seg 1 [(53, .pointer (some ⟨b2, f1 + 3, none⟩))] (by kernel_rfl) (by kernel_rfl) ?_
          refine WO_one rfl (One_load_row (d := 54) (t := 3) (x := (.tmp 53)) (.int .i64 x2.2.2.2) (by kernel_rfl) rfl (show evL _ _ = some (.pointer (some ⟨b2, f1 + 3, none⟩)) from (by kernel_rfl)) st (hq1.drop 3) (by kernel_rfl) ?_)
          refine WO_seg 4 [(58, .bool (x2.2.2.2 == (IntKind.wrap .i64 (16382 + (IntKind.wrap .i64 (Int.tmod p0 5))))))] (by kernel_rfl) (by kernel_rfl) ?_
          rcases bcases (x2.2.2.2 == (IntKind.wrap .i64 (16382 + (IntKind.wrap .i64 (Int.tmod p0 5))))) with hc | hc
          · rw [if_pos hc] at hr
            refine WO_fact (t := 58) (b := true) (x2.2.2.2 == (IntKind.wrap .i64 (16382 + (IntKind.wrap .i64 (Int.tmod p0 5))))) (by kernel_rfl) hc ?_
            refine WO_seg 4 [(62, .bool (y1.2.2 == 0))] (by kernel_rfl) (by kernel_rfl) ?_
            rcases bcases (y1.2.2 == 0) with hc | hc
            · rw [if_pos hc] at hr
              refine WO_fact (t := 62) (b := true) (y1.2.2 == 0) (by kernel_rfl) hc ?_
              replace hr := bindS hr
              obtain ⟨y3, hx6, hr⟩ := hr
              refine WO_one rfl (One_fn 63 19 #[] (by kernel_rfl) rfl ?_)
              refine (testgatelaw04_awake_ok st hx6).mono ?_
              clear st
              rintro _ w9 ⟨m8, rfl, hle4, st⟩
              refine ⟨_, rfl, ?_⟩
              have hm := Mem.le_trans hm hle4
              have r2 := r2.mono hle4
              have hq1 := hq1.mono hle4
              refine WO_seg 2 [(2, .bool y3)] (by kernel_rfl) (by kernel_rfl) ?_
              obtain rfl := Option.some.inj hr
              exact WO_env _ (by kernel_rfl) (K _ _ ⟨m8, rfl, hm, st⟩)
            · rw [if_neg (not_true hc)] at hr
              refine WO_fact (t := 62) (b := false) (y1.2.2 == 0) (by kernel_rfl) hc ?_
              refine WO_seg 3 [(2, .bool false)] (by kernel_rfl) (by kernel_rfl) ?_
              obtain rfl := Option.some.inj hr
              exact WO_env _ (by kernel_rfl) (K _ _ ⟨m4, rfl, hm, st⟩)
          · rw [if_neg (not_true hc)] at hr
            refine WO_fact (t := 58) (b := false) (x2.2.2.2 == (IntKind.wrap .i64 (16382 + (IntKind.wrap .i64 (Int.tmod p0 5))))) (by kernel_rfl) hc ?_
            refine WO_seg 7 [(2, .bool false)] (by kernel_rfl) (by kernel_rfl) ?_
            obtain rfl := Option.some.inj hr
            exact WO_env _ (by kernel_rfl) (K _ _ ⟨m4, rfl, hm, st⟩)
        · rw [if_neg (not_true hc)] at hr
          refine WO_fact (t := 50) (b := false) ((List.length y1.1 : Int) == 1) (by kernel_rfl) hc ?_
          refine WO_seg 15 [(2, .bool false)] (by kernel_rfl) (by kernel_rfl) ?_
          obtain rfl := Option.some.inj hr
          exact WO_env _ (by kernel_rfl) (K _ _ ⟨m4, rfl, hm, st⟩)
  intro K0_u1
  clear hrKu1
  refine W_env _ (by kernel_rfl) (W_loop (fun k1 L' w' => ∃ (s1 : Int × List (UInt8)) (m2 : Mem), loopM (testgatelaw04_LexerLong_L1 N p0) k1 s1 = some out1 ∧ L' = [(3, .int .i64 (IntKind.wrap .i64 (16382 + (IntKind.wrap .i64 (Int.tmod p0 5))))), (4, .slice (some ⟨b1, 0, none⟩) (Int.toNat (IntKind.wrap .i64 (16382 + (IntKind.wrap .i64 (Int.tmod p0 5))))) (Int.toNat (IntKind.wrap .i64 (16382 + (IntKind.wrap .i64 (Int.tmod p0 5)))))), (16, .int .i64 ((Int.toNat (IntKind.wrap .i64 (16382 + (IntKind.wrap .i64 (Int.tmod p0 5))))) : Int)), (17, .int .i64 s1.1)] ∧ m.le m2 ∧ St m2 (.blk b1 (.cells (acells (fun x : UInt8 => Value.int .u8 (x.toNat : Int)) s1.2 []) 5 (0, 0)) :: own) w' ∧ List.length s1.2 = (Int.toNat (IntKind.wrap .i64 (16382 + (IntKind.wrap .i64 (Int.tmod p0 5)))))) N ⟨(0, l1), m, hr, rfl, hm, st, hn1⟩ ?_)
  clear st hr
  rintro k1 _ w3 ⟨s1, m2, hL, rfl, hm, st, hn3⟩
  rcases k1 with _ | k1
  · exact loopM_zero hL
  · obtain ⟨qu1, hr, hSu1, hBu1⟩ := loopM_succ hL
    clear hL
    unfold testgatelaw04_LexerLong_L1 at hr
    refine W_seq ?_
    refine W_region ?_
    refine WO_seg 1 [(18, .bool (decide (s1.1 < ((Int.toNat (IntKind.wrap .i64 (16382 + (IntKind.wrap .i64 (Int.tmod p0 5))))) : Int))))] (by kernel_rfl) (by kernel_rfl) ?_
    refine WO_end rfl ?_
    refine X_then ?_
    refine W_seq ?_
    refine W_cond (decide (s1.1 < ((Int.toNat (IntKind.wrap .i64 (16382 + (IntKind.wrap .i64 (Int.tmod p0 5))))) : Int))) (by kernel_rfl) ?_ ?_
    · intro hc
      rw [if_pos hc] at hr
      refine W_skip ?_
      refine X_then ?_
      refine W_seq ?_
      refine W_block ?_
      refine W_seq ?_
      refine W_region ?_
      refine WO_seg 2 [(5, .int .i64 s1.1)] (by kernel_rfl) (by kernel_rfl) ?_
      refine WO_end rfl ?_
      refine X_then ?_
      refine W_region ?_
      refine WO_seg 2 [(20, .slice (some ⟨b1, 0, none⟩) (Int.toNat (IntKind.wrap .i64 (16382 + (IntKind.wrap .i64 (Int.tmod p0 5))))) (Int.toNat (IntKind.wrap .i64 (16382 + (IntKind.wrap .i64 (Int.tmod p0 5)))))), (21, .int .i64 s1.1)] (by kernel_rfl) (by kernel_rfl) ?_
      replace hr := bindS hr
      obtain ⟨x1, hx2, hr⟩ := hr
      refine WO_one rfl (One_arrIndex (d := 22) (t := 43) (e := 5) (x := (.tmp 20)) (y := (.tmp 21)) (by kernel_rfl) rfl (show evL _ _ = some (.slice (some ⟨b1, 0, none⟩) (Int.toNat (IntKind.wrap .i64 (16382 + (IntKind.wrap .i64 (Int.tmod p0 5))))) (Int.toNat (IntKind.wrap .i64 (16382 + (IntKind.wrap .i64 (Int.tmod p0 5)))))) from (by kernel_rfl)) (show evL _ _ = some (.int .i64 s1.1) from (by kernel_rfl)) (by kernel_rfl) hn3 hx2 ?_)
      refine WO_one rfl (One_arrStore (f := (fun x : UInt8 => Value.int .u8 (x.toNat : Int))) (u := (32 : UInt8)) (t := 5) (x := (.tmp 22)) (y := (.const (.int .u8 32))) (by kernel_rfl) (show evL _ _ = some (.pointer (some ⟨b1, Int.toNat s1.1, none⟩)) from (by kernel_rfl)) ((show evL _ _ = some (.int .u8 32) from (by kernel_rfl)).trans (congrArg (fun z => some (Value.int .u8 z)) (show (32 : Int) = ((32 : UInt8).toNat : Int) by decide))) st hx2 rfl (by kernel_rfl) ?_)
      clear st
      intro w4 st
      have hn4 : List.length (List.set s1.2 (Int.toNat s1.1) (32 : UInt8)) = (Int.toNat (IntKind.wrap .i64 (16382 + (IntKind.wrap .i64 (Int.tmod p0 5))))) := set_len hn3 _ _
      refine WO_end rfl ?_
      refine X_block ?_
      refine X_then ?_
      refine W_region ?_
      refine WO_seg 2 [(17, .int .i64 (IntKind.wrap .i64 (s1.1 + 1)))] (by kernel_rfl) (by kernel_rfl) ?_
      refine WO_end rfl ?_
      obtain rfl := Option.some.inj hr
      have hL := hSu1 _ rfl
      exact X_env _ (by kernel_rfl) (X_round k1 (Nat.lt_succ_self _) ⟨(IntKind.wrap .i64 (s1.1 + 1), List.set s1.2 (Int.toNat s1.1) (32 : UInt8)), m2, hL, rfl, hm, st, hn4⟩)
    · intro hc
      rw [if_neg (not_true hc)] at hr
      refine W_exit ?_
      refine X_then_exit ?_
      obtain rfl := Option.some.inj hr
      have ho := hBu1 _ rfl
      refine X_then_exit ?_
      exact X_env _ (by kernel_rfl) (K0_u1 _ _ ⟨s1.2, m2, ho, rfl, hm, st, hn3⟩)

def testgatelaw04_LexerPlaces_L1 (N : Nat) (y1 : ByteArray) (y2 : (List (Int × ByteArray × Int × Int)) × Int × Int) (s1 : Int × Int) : Option ((Int × Int) ⊕ ((Unit) ⊕ (Bool))) :=
  if (decide (s1.2 < (List.length y2.1 : Int))) = true then (((idx y2.1 s1.2).bind fun x1 => (if (decide (x1.2.2.2 < s1.1)) = true then (some true) else (if (decide (x1.2.2.2 > (ByteArray.size y1 : Int))) = true then (some true) else (some (!((x1.1 == 5) == (s1.2 == (IntKind.wrap .i64 ((List.length y2.1 : Int) - 1))))))) : Option (Bool)).bind fun o4 => if o4 = true then ((some (.inr (.inr (false)))).map .inr) else ((if (x1.1 == 1) = true then (if (decide ((IntKind.wrap .i64 (x1.2.2.2 + (ByteArray.size x1.2.1 : Int))) > (ByteArray.size y1 : Int))) = true then (some true) else ((subB y1 x1.2.2.2 (IntKind.wrap .i64 (x1.2.2.2 + (ByteArray.size x1.2.1 : Int)))).bind fun s2 => if (!(s2.toList == x1.2.1.toList)) = true then (some true) else (some ((ByteArray.size x1.2.1 : Int) == 0)))) else (if (x1.1 == 4) = true then (if (decide ((IntKind.wrap .i64 (x1.2.2.2 + (ByteArray.size x1.2.1 : Int))) > (ByteArray.size y1 : Int))) = true then (some true) else ((subB y1 x1.2.2.2 (IntKind.wrap .i64 (x1.2.2.2 + (ByteArray.size x1.2.1 : Int)))).bind fun s3 => if (!(s3.toList == x1.2.1.toList)) = true then (some true) else (some ((ByteArray.size x1.2.1 : Int) == 0)))) else (some false)) : Option (Bool)).bind fun o5 => if o5 = true then ((some (.inr (.inr (false)))).map .inr) else (if (x1.1 == 2) = true then (some (.inl (IntKind.wrap .i64 ((IntKind.wrap .i64 (x1.2.2.2 + (ByteArray.size x1.2.1 : Int))) + 1)))) else (some (.inl (IntKind.wrap .i64 (x1.2.2.2 + (ByteArray.size x1.2.1 : Int))))))) : Option ((Int) ⊕ ((Int × Int) ⊕ ((Unit) ⊕ (Bool))))).bind fun qu3 => (match qu3 with | .inl o3 => some (.inl (o3, IntKind.wrap .i64 (s1.2 + 1))) | .inr z => some z)) else (some (.inr (.inl ())))

def testgatelaw04_LexerPlaces (N : Nat) (p0 : ByteArray) : Option (Bool) :=
  (testgatelaw04_limited N p0).bind fun y1 => (lexer_Tokens N y1).bind fun y2 => if (y2.2.2 != 0) = true then ((if ((List.length y2.1 : Int) == 0) = true then (if (decide (y2.2.1 ≥ 0)) = true then (if (decide (y2.2.1 ≤ (ByteArray.size y1 : Int))) = true then ((testgatelaw04_awake N).bind fun y3 => some y3) else (some false)) else (some false)) else (some false) : Option (Bool)).bind fun o1 => some o1) else ((loopM (testgatelaw04_LexerPlaces_L1 N y1 y2) N (0, 0)).bind fun out1 => (match out1 with | .inl o2 => (if (decide ((List.length y2.1 : Int) > 0)) = true then ((testgatelaw04_awake N).bind fun y4 => some y4) else (some false) : Option (Bool)).bind fun o6 => some o6 | .inr (z) => some z))

set_option maxHeartbeats 4000000 in
set_option maxRecDepth 100000 in
theorem testgatelaw04_LexerPlaces_ok {N : Nat} {m : Mem} {own : List Piece} {w : World} {p0 : ByteArray} {r : Bool} (st : St m (own) w) (hr : testgatelaw04_LexerPlaces N p0 = some r) : Calls Go.Proofs.Tryd.prog 7 #[.string p0] w fun e w' => ∃ (m' : Mem), e = .returned (.bool r) ∧ m.le m' ∧ St m' (own) w' := by
  unfold testgatelaw04_LexerPlaces at hr
  have hm := m.le_refl
  refine W_calls Go.Proofs.Tryd.func7 rfl Go.Proofs.Tryd.ntmps7 [(0, .string p0)] (by kernel_rfl) rfl ?_
  refine W_seq ?_
  refine W_region ?_
  refine WO_seg 1 [] (by kernel_rfl) (by kernel_rfl) ?_
  refine WO_end rfl ?_
  refine X_then ?_
  refine W_seq ?_
  refine W_region ?_
  refine WO_seg 1 [(9, .string p0)] (by kernel_rfl) (by kernel_rfl) ?_
  replace hr := bindS hr
  obtain ⟨y1, hx1, hr⟩ := hr
  refine WO_one rfl (One_fn 10 13 #[.string p0] (by kernel_rfl) rfl ?_)
  refine (testgatelaw04_limited_ok st hx1).mono ?_
  clear st
  rintro _ w1 ⟨m1, rfl, hle1, st⟩
  refine ⟨_, rfl, ?_⟩
  have hm := Mem.le_trans hm hle1
  refine WO_seg 1 [(0, .string y1)] (by kernel_rfl) (by kernel_rfl) ?_
  refine WO_end rfl ?_
  refine X_then ?_
  refine W_seq ?_
  refine W_region ?_
  refine WO_seg 1 [(12, .string y1)] (by kernel_rfl) (by kernel_rfl) ?_
  replace hr := bindS hr
  obtain ⟨y2, hx2, hr⟩ := hr
  refine WO_one rfl (One_fn 13 24 #[.string y1] (by kernel_rfl) rfl ?_)
  refine (lexer_Tokens_ok st hx2).mono ?_
  clear st
  rintro _ w2 ⟨a1, c1, m2, rfl, hle2, st, r1⟩
  refine ⟨_, rfl, ?_⟩
  have hm := Mem.le_trans hm hle2
  refine WO_seg 7 [(3, .slice a1 (List.length y2.1) c1), (4, .int .i64 y2.2.1), (5, .int .i64 y2.2.2)] (by kernel_rfl) (by kernel_rfl) ?_
  refine WO_end rfl ?_
  refine X_then ?_
  refine W_seq ?_
  refine W_seq ?_
  refine W_region ?_
  refine WO_seg 2 [(18, .bool (y2.2.2 != 0))] (by kernel_rfl) (by kernel_rfl) ?_
  refine WO_end rfl ?_
  refine X_then ?_
  refine W_cond (y2.2.2 != 0) (by kernel_rfl) ?_ ?_
  · intro hc
    rw [if_pos hc] at hr
    refine W_seq ?_
    refine W_region ?_
    replace hr := bindS hr
    obtain ⟨o1, hr, hrK⟩ := hr
    refine WO_cut (j := 17) (fun L' w' => ∃ (m3 : Mem), L' = [(2, .bool o1)] ∧ m.le m3 ∧ St m3 (.room a1 (List.length y2.1) c1 42 4 :: own) w') ?_ ?_
    · clear hr st
      have hr := hrK
      clear hrK
      rintro _ w3 ⟨m3, rfl, hm, st⟩
      refine WO_end rfl ?_
      refine X_then ?_
      refine W_ret ?_
      refine X_then_ret ?_
      obtain rfl := Option.some.inj hr
      refine X_ret [.tmp 2] [.bool o1] rfl (ResAll.cons (ResAt.tmp (by kernel_rfl)) ResAll.nil) ?_
      have st := st.tail
      exact ⟨m3, rfl, hm, st⟩
    · intro K
      clear hrK
      refine WO_seg 4 [(22, .bool ((List.length y2.1 : Int) == 0))] (by kernel_rfl) (by kernel_rfl) ?_
      rcases bcases ((List.length y2.1 : Int) == 0) with hc | hc
      · rw [if_pos hc] at hr
        refine WO_fact (t := 22) (b := true) ((List.length y2.1 : Int) == 0) (by kernel_rfl) hc ?_
        refine WO_seg 4 [(26, .bool (decide (y2.2.1 ≥ 0)))] (by kernel_rfl) (by kernel_rfl) ?_
        rcases bcases (decide (y2.2.1 ≥ 0)) with hc | hc
        · rw [if_pos hc] at hr
          refine WO_fact (t := 26) (b := true) (decide (y2.2.1 ≥ 0)) (by kernel_rfl) hc ?_
          refine WO_seg 6 [(32, .bool (decide (y2.2.1 ≤ (ByteArray.size y1 : Int))))] (by kernel_rfl) (by kernel_rfl) ?_
          rcases bcases (decide (y2.2.1 ≤ (ByteArray.size y1 : Int))) with hc | hc
          · rw [if_pos hc] at hr
            refine WO_fact (t := 32) (b := true) (decide (y2.2.1 ≤ (ByteArray.size y1 : Int))) (by kernel_rfl) hc ?_
            replace hr := bindS hr
            obtain ⟨y3, hx3, hr⟩ := hr
            refine WO_one rfl (One_fn 33 19 #[] (by kernel_rfl) rfl ?_)
            refine (testgatelaw04_awake_ok st hx3).mono ?_
            clear st
            rintro _ w4 ⟨m4, rfl, hle3, st⟩
            refine ⟨_, rfl, ?_⟩
            have hm := Mem.le_trans hm hle3
            have r1 := r1.mono hle3
            refine WO_seg 2 [(2, .bool y3)] (by kernel_rfl) (by kernel_rfl) ?_
            obtain rfl := Option.some.inj hr
            exact WO_env _ (by kernel_rfl) (K _ _ ⟨m4, rfl, hm, st⟩)
          · rw [if_neg (not_true hc)] at hr
            refine WO_fact (t := 32) (b := false) (decide (y2.2.1 ≤ (ByteArray.size y1 : Int))) (by kernel_rfl) hc ?_
            refine WO_seg 3 [(2, .bool false)] (by kernel_rfl) (by kernel_rfl) ?_
            obtain rfl := Option.some.inj hr
            exact WO_env _ (by kernel_rfl) (K _ _ ⟨m2, rfl, hm, st⟩)
        · rw [if_neg (not_true hc)] at hr
          refine WO_fact (t := 26) (b := false) (decide (y2.2.1 ≥ 0)) (by kernel_rfl) hc ?_
          refine WO_seg 9 [(2, .bool false)] (by kernel_rfl) (by kernel_rfl) ?_
          obtain rfl := Option.some.inj hr
          exact WO_env _ (by kernel_rfl) (K _ _ ⟨m2, rfl, hm, st⟩)
      · rw [if_neg (not_true hc)] at hr
        refine WO_fact (t := 22) (b := false) ((List.length y2.1 : Int) == 0) (by kernel_rfl) hc ?_
        refine WO_seg 13 [(2, .bool false)] (by kernel_rfl) (by kernel_rfl) ?_
        obtain rfl := Option.some.inj hr
        exact WO_env _ (by kernel_rfl) (K _ _ ⟨m2, rfl, hm, st⟩)
  · intro hc
    rw [if_neg (not_true hc)] at hr
    refine W_skip ?_
    refine X_then ?_
    refine W_seq ?_
    refine W_region ?_
    refine WO_seg 1 [(6, .int .i64 0)] (by kernel_rfl) (by kernel_rfl) ?_
    refine WO_end rfl ?_
    refine X_then ?_
    refine W_seq ?_
    refine W_seq ?_
    refine W_region ?_
    refine WO_seg 3 [(35, .slice a1 (List.length y2.1) c1), (36, .int .i64 (List.length y2.1 : Int)), (37, .int .i64 0)] (by kernel_rfl) (by kernel_rfl) ?_
    refine WO_end rfl ?_
    refine X_then ?_
    refine W_block ?_
    replace hr := bindS hr
    obtain ⟨out1, hr, hrKu2⟩ := hr
    refine W_cut (.exit 0) (fun L' w' => ∃ (o2 : Unit) (m5 : Mem), (.inl o2) = out1 ∧ L' = [(3, .slice a1 (List.length y2.1) c1)] ∧ m.le m5 ∧ St m5 (.room a1 (List.length y2.1) c1 42 4 :: own) w' ∧ RepS (cPair (cInt .i64) (cPair cStr (cPair (cInt .i64) (cInt .i64)))) m5 a1 c1 y2.1) ?_ ?_
    · clear hr st
      rintro _ w5 ⟨o2, m5, rfl, rfl, hm, st, r1⟩
      have hr := hrKu2
      clear hrKu2
      dsimp only at hr
      refine X_block_eq ?_
      refine X_then ?_
      refine W_seq ?_
      refine W_region ?_
      replace hr := bindS hr
      obtain ⟨o6, hr, hrK⟩ := hr
      refine WO_cut (j := 7) (fun L' w' => ∃ (m10 : Mem), L' = [(2, .bool o6)] ∧ m.le m10 ∧ St m10 (.room a1 (List.length y2.1) c1 42 4 :: own) w') ?_ ?_
      · clear hr st
        have hr := hrK
        clear hrK
        rintro _ w13 ⟨m10, rfl, hm, st⟩
        refine WO_end rfl ?_
        refine X_then ?_
        refine W_ret ?_
        obtain rfl := Option.some.inj hr
        refine X_ret [.tmp 2] [.bool o6] rfl (ResAll.cons (ResAt.tmp (by kernel_rfl)) ResAll.nil) ?_
        have st := st.tail
        exact ⟨m10, rfl, hm, st⟩
      · intro K
        clear hrK
        refine WO_seg 4 [(109, .bool (decide ((List.length y2.1 : Int) > 0)))] (by kernel_rfl) (by kernel_rfl) ?_
        rcases bcases (decide ((List.length y2.1 : Int) > 0)) with hc | hc
        · rw [if_pos hc] at hr
          refine WO_fact (t := 109) (b := true) (decide ((List.length y2.1 : Int) > 0)) (by kernel_rfl) hc ?_
          replace hr := bindS hr
          obtain ⟨y4, hx7, hr⟩ := hr
          refine WO_one rfl (One_fn 110 19 #[] (by kernel_rfl) rfl ?_)
          refine (testgatelaw04_awake_ok st hx7).mono ?_
          clear st
          rintro _ w14 ⟨m11, rfl, hle4, st⟩
          refine ⟨_, rfl, ?_⟩
          have hm := Mem.le_trans hm hle4
          have r1 := r1.mono hle4
          refine WO_seg 2 [(2, .bool y4)] (by kernel_rfl) (by kernel_rfl) ?_
          obtain rfl := Option.some.inj hr
          exact WO_env _ (by kernel_rfl) (K _ _ ⟨m11, rfl, hm, st⟩)
        · rw [if_neg (not_true hc)] at hr
          refine WO_fact (t := 109) (b := false) (decide ((List.length y2.1 : Int) > 0)) (by kernel_rfl) hc ?_
          refine WO_seg 3 [(2, .bool false)] (by kernel_rfl) (by kernel_rfl) ?_
          obtain rfl := Option.some.inj hr
          exact WO_env _ (by kernel_rfl) (K _ _ ⟨m5, rfl, hm, st⟩)
    intro K0_u2
    refine W_env _ (by kernel_rfl) (W_loop (fun k1 L' w' => ∃ (s1 : Int × Int) (m6 : Mem), loopM (testgatelaw04_LexerPlaces_L1 N y1 y2) k1 s1 = some out1 ∧ L' = [(0, .string y1), (3, .slice a1 (List.length y2.1) c1), (6, .int .i64 s1.1), (35, .slice a1 (List.length y2.1) c1), (36, .int .i64 (List.length y2.1 : Int)), (37, .int .i64 s1.2)] ∧ m.le m6 ∧ St m6 (.room a1 (List.length y2.1) c1 42 4 :: own) w' ∧ RepS (cPair (cInt .i64) (cPair cStr (cPair (cInt .i64) (cInt .i64)))) m6 a1 c1 y2.1) N ⟨(0, 0), m2, hr, rfl, hm, st, r1⟩ ?_)
    clear st hr
    rintro k1 _ w6 ⟨s1, m6, hL, rfl, hm, st, r1⟩
    rcases k1 with _ | k1
    · exact loopM_zero hL
    · obtain ⟨qu2, hr, hSu2, hBu2⟩ := loopM_succ hL
      clear hL
      unfold testgatelaw04_LexerPlaces_L1 at hr
      refine W_seq ?_
      refine W_region ?_
      refine WO_seg 1 [(38, .bool (decide (s1.2 < (List.length y2.1 : Int))))] (by kernel_rfl) (by kernel_rfl) ?_
      refine WO_end rfl ?_
      refine X_then ?_
      refine W_seq ?_
      refine W_cond (decide (s1.2 < (List.length y2.1 : Int))) (by kernel_rfl) ?_ ?_
      · intro hc
        rw [if_pos hc] at hr
        refine W_skip ?_
        refine X_then ?_
        refine W_seq ?_
        replace hr := bindS hr
        obtain ⟨qu3, hr, hrKu3⟩ := hr
        refine W_cut .normal (fun L' w' => ∃ (o3 : Int) (m7 : Mem), (.inl o3 : (Int) ⊕ ((Int × Int) ⊕ ((Unit) ⊕ (Bool)))) = qu3 ∧ L' = [(0, .string y1), (3, .slice a1 (List.length y2.1) c1), (6, .int .i64 o3), (35, .slice a1 (List.length y2.1) c1), (36, .int .i64 (List.length y2.1 : Int)), (37, .int .i64 s1.2)] ∧ m.le m7 ∧ St m7 (.room a1 (List.length y2.1) c1 42 4 :: own) w' ∧ RepS (cPair (cInt .i64) (cPair cStr (cPair (cInt .i64) (cInt .i64)))) m7 a1 c1 y2.1) ?_ ?_
        · clear hr st
          rintro _ w7 ⟨o3, m7, rfl, rfl, hm, st, r1⟩
          have hr := hrKu3
          clear hrKu3
          dsimp only at hr
          refine X_then ?_
          refine W_region ?_
          refine WO_seg 2 [(37, .int .i64 (IntKind.wrap .i64 (s1.2 + 1)))] (by kernel_rfl) (by kernel_rfl) ?_
          refine WO_end rfl ?_
          obtain rfl := Option.some.inj hr
          have hL := hSu2 _ rfl
          exact X_env _ (by kernel_rfl) (X_round k1 (Nat.lt_succ_self _) ⟨(o3, IntKind.wrap .i64 (s1.2 + 1)), m7, hL, rfl, hm, st, r1⟩)
        · intro Ku3
          refine W_block ?_
          refine W_seq ?_
          refine W_region ?_
          refine WO_seg 1 [(39, .int .i64 s1.2)] (by kernel_rfl) (by kernel_rfl) ?_
          replace hr := bindS hr
          obtain ⟨x1, hx4, hr⟩ := hr
          refine WO_one rfl (One_index (d := 40) (t := 37) (e := 42) (x := (.tmp 35)) (y := (.tmp 37)) (cPair (cInt .i64) (cPair cStr (cPair (cInt .i64) (cInt .i64)))) (by kernel_rfl) rfl (show evL _ _ = some (.slice a1 (List.length y2.1) c1) from (by kernel_rfl)) (show evL _ _ = some (.int .i64 s1.2) from (by kernel_rfl)) (by kernel_rfl) r1 hx4 ?_)
          rintro b1 f1 cs1 ⟨_, _, rfl, rfl, ⟨_, _, rfl, rfl, ⟨_, _, rfl, rfl, rfl⟩⟩⟩ hq1
          refine WO_one rfl (One_load_row (d := 41) (t := 42) (x := (.tmp 40)) (.agg #[.int .i64 x1.1, .string x1.2.1, .int .i64 x1.2.2.1, .int .i64 x1.2.2.2]) (by kernel_rfl) rfl (show evL _ _ = some (.pointer (some ⟨b1, f1, none⟩)) from (by kernel_rfl)) st hq1 (by kernel_rfl) ?_)
          refine WO_one rfl (One_alloc (d := 8) (e := 42) (.agg #[.int .i64 0, .string (⟨#[]⟩ : ByteArray), .int .i64 0, .int .i64 0]) (by kernel_rfl) rfl (by kernel_rfl) st ?_)
          clear st
          intro b2 w8 st
          refine WO_seg 1 [(7, .int .i64 s1.2)] (by kernel_rfl) (by kernel_rfl) ?_
          refine WO_one rfl (One_store (t := 42) (x := (.tmp 8)) (y := (.tmp 41)) (v := .agg #[.int .i64 x1.1, .string x1.2.1, .int .i64 x1.2.2.1, .int .i64 x1.2.2.2]) (c' := #[.int .i64 x1.1, .string x1.2.1, .int .i64 x1.2.2.1, .int .i64 x1.2.2.2]) (by kernel_rfl) (show evL _ _ = some (.pointer (some ⟨b2, 0, none⟩)) from (by kernel_rfl)) (show evL _ _ = some (.agg #[.int .i64 x1.1, .string x1.2.1, .int .i64 x1.2.2.1, .int .i64 x1.2.2.2]) from (by kernel_rfl)) st (by kernel_rfl) (by kernel_rfl) ?_)
          clear st
          intro w9 st
          refine WO_end rfl ?_
          refine X_then ?_
          refine W_seq ?_
          refine W_seq ?_
          refine W_region ?_
          replace hr := bindS hr
          obtain ⟨o4, hr, hrK⟩ := hr
          refine WO_cut (j := 22) (fun L' w' => ∃ (m8 : Mem), L' = [(0, .string y1), (3, .slice a1 (List.length y2.1) c1), (8, .pointer (some ⟨b2, 0, none⟩)), (35, .slice a1 (List.length y2.1) c1), (36, .int .i64 (List.length y2.1 : Int)), (37, .int .i64 s1.2), (63, .bool o4)] ∧ m.le m8 ∧ St m8 (.blk b2 (.cells #[.int .i64 x1.1, .string x1.2.1, .int .i64 x1.2.2.1, .int .i64 x1.2.2.2] 42 (0, 0)) :: .room a1 (List.length y2.1) c1 42 4 :: own) w' ∧ RepS (cPair (cInt .i64) (cPair cStr (cPair (cInt .i64) (cInt .i64)))) m8 a1 c1 y2.1) ?_ ?_
          · clear hr st
            have hr := hrK
            clear hrK
            rintro _ w10 ⟨m8, rfl, hm, st, r1⟩
            refine WO_end rfl ?_
            refine X_then ?_
            refine W_cond o4 (by kernel_rfl) ?_ ?_
            · intro hc
              rw [if_pos hc] at hr
              refine W_seq ?_
              refine W_region ?_
              refine WO_seg 1 [(2, .bool false)] (by kernel_rfl) (by kernel_rfl) ?_
              refine WO_end rfl ?_
              have st := st.front1
              have st := st.tail
              refine X_then ?_
              refine W_ret ?_
              refine X_then_ret ?_
              refine X_block_ret ?_
              replace hr := Option.map_eq_some_iff.1 hr
              obtain ⟨zu3, hr, hzu3⟩ := hr
              subst hzu3
              have hrKu3 := Option.some.inj hrKu3
              subst hrKu3
              refine X_then_ret ?_
              obtain rfl := Option.some.inj hr
              have ho := hBu2 _ rfl
              subst ho
              have hr := hrKu2
              dsimp only at hr
              refine X_then_ret ?_
              refine X_block_ret ?_
              refine X_then_ret ?_
              obtain rfl := Option.some.inj hr
              refine X_ret [.tmp 2] [.bool false] rfl (ResAll.cons (ResAt.tmp (by kernel_rfl)) ResAll.nil) ?_
              have st := st.tail
              exact ⟨m8, rfl, hm, st⟩
            · intro hc
              rw [if_neg (not_true hc)] at hr
              refine W_skip ?_
              refine X_then ?_
              refine W_seq ?_
              refine W_region ?_
              refine WO_seg 1 [(64, .pointer (some ⟨b2, 3, none⟩))] (by kernel_rfl) (by kernel_rfl) ?_
              refine WO_one rfl (One_load_own (d := 65) (t := 3) (x := (.tmp 64)) (.int .i64 x1.2.2.2) (by kernel_rfl) rfl (show evL _ _ = some (.pointer (some ⟨b2, 3, none⟩)) from (by kernel_rfl)) st.head (by kernel_rfl) ?_)
              refine WO_seg 1 [(66, .pointer (some ⟨b2, 1, none⟩))] (by kernel_rfl) (by kernel_rfl) ?_
              refine WO_one rfl (One_load_own (d := 67) (t := 9) (x := (.tmp 66)) (.string x1.2.1) (by kernel_rfl) rfl (show evL _ _ = some (.pointer (some ⟨b2, 1, none⟩)) from (by kernel_rfl)) st.head (by kernel_rfl) ?_)
              refine WO_seg 3 [(6, .int .i64 (IntKind.wrap .i64 (x1.2.2.2 + (ByteArray.size x1.2.1 : Int))))] (by kernel_rfl) (by kernel_rfl) ?_
              refine WO_end rfl ?_
              refine X_then ?_
              refine W_seq ?_
              refine W_seq ?_
              replace hr := bindS hr
              obtain ⟨o5, hr, hrK⟩ := hr
              refine W_cut .normal (fun L' w' => ∃ (m9 : Mem), L' = [(0, .string y1), (3, .slice a1 (List.length y2.1) c1), (6, .int .i64 (IntKind.wrap .i64 (x1.2.2.2 + (ByteArray.size x1.2.1 : Int)))), (8, .pointer (some ⟨b2, 0, none⟩)), (35, .slice a1 (List.length y2.1) c1), (36, .int .i64 (List.length y2.1 : Int)), (37, .int .i64 s1.2), (99, .bool o5)] ∧ m.le m9 ∧ St m9 (.blk b2 (.cells #[.int .i64 x1.1, .string x1.2.1, .int .i64 x1.2.2.1, .int .i64 x1.2.2.2] 42 (0, 0)) :: .room a1 (List.length y2.1) c1 42 4 :: own) w' ∧ RepS (cPair (cInt .i64) (cPair cStr (cPair (cInt .i64) (cInt .i64)))) m9 a1 c1 y2.1) ?_ ?_
              · clear hr st
                have hr := hrK
                clear hrK
                rintro _ w11 ⟨m9, rfl, hm, st, r1⟩
                refine X_then ?_
                refine W_cond o5 (by kernel_rfl) ?_ ?_
                · intro hc
                  rw [if_pos hc] at hr
                  refine W_seq ?_
                  refine W_region ?_
                  refine WO_seg 1 [(2, .bool false)] (by kernel_rfl) (by kernel_rfl) ?_
                  refine WO_end rfl ?_
                  have st := st.front1
                  have st := st.tail
                  refine X_then ?_
                  refine W_ret ?_
                  refine X_then_ret ?_
                  refine X_block_ret ?_
                  replace hr := Option.map_eq_some_iff.1 hr
                  obtain ⟨zu3, hr, hzu3⟩ := hr
                  subst hzu3
                  have hrKu3 := Option.some.inj hrKu3
                  subst hrKu3
                  refine X_then_ret ?_
                  obtain rfl := Option.some.inj hr
                  have ho := hBu2 _ rfl
                  subst ho
                  have hr := hrKu2
                  dsimp only at hr
                  refine X_then_ret ?_
                  refine X_block_ret ?_
                  refine X_then_ret ?_
                  obtain rfl := Option.some.inj hr
                  refine X_ret [.tmp 2] [.bool false] rfl (ResAll.cons (ResAt.tmp (by kernel_rfl)) ResAll.nil) ?_
                  have st := st.tail
                  exact ⟨m9, rfl, hm, st⟩
                · intro hc
                  rw [if_neg (not_true hc)] at hr
                  refine W_skip ?_
                  refine X_then ?_
                  refine W_seq ?_
                  refine W_region ?_
                  refine WO_seg 1 [(100, .pointer (some ⟨b2, 0, none⟩))] (by kernel_rfl) (by kernel_rfl) ?_
                  refine WO_one rfl (One_load_own (d := 101) (t := 3) (x := (.tmp 100)) (.int .i64 x1.1) (by kernel_rfl) rfl (show evL _ _ = some (.pointer (some ⟨b2, 0, none⟩)) from (by kernel_rfl)) st.head (by kernel_rfl) ?_)
                  refine WO_seg 1 [(102, .bool (x1.1 == 2))] (by kernel_rfl) (by kernel_rfl) ?_
                  refine WO_end rfl ?_
                  refine X_then ?_
                  refine W_cond (x1.1 == 2) (by kernel_rfl) ?_ ?_
                  · intro hc
                    rw [if_pos hc] at hr
                    refine W_region ?_
                    refine WO_seg 3 [(6, .int .i64 (IntKind.wrap .i64 ((IntKind.wrap .i64 (x1.2.2.2 + (ByteArray.size x1.2.1 : Int))) + 1)))] (by kernel_rfl) (by kernel_rfl) ?_
                    refine WO_end rfl ?_
                    refine X_block ?_
                    have hqu3 := Option.some.inj hr
                    have st := st.tail
                    exact X_env _ (by kernel_rfl) (Ku3 _ _ ⟨IntKind.wrap .i64 ((IntKind.wrap .i64 (x1.2.2.2 + (ByteArray.size x1.2.1 : Int))) + 1), m9, hqu3, rfl, hm, st, r1⟩)
                  · intro hc
                    rw [if_neg (not_true hc)] at hr
                    refine W_skip ?_
                    refine X_block ?_
                    have hqu3 := Option.some.inj hr
                    have st := st.tail
                    exact X_env _ (by kernel_rfl) (Ku3 _ _ ⟨IntKind.wrap .i64 (x1.2.2.2 + (ByteArray.size x1.2.1 : Int)), m9, hqu3, rfl, hm, st, r1⟩)
              · intro K
                clear hrK
                refine W_draw [(30, fun w' => Inv m8 w' ∧ Piece.holds m8 w' (.blk b2 (.cells #[.int .i64 x1.1, .string x1.2.1, .int .i64 x1.2.2.1, .int .i64 x1.2.2.2] 42 (0, 0))) ∧ True)] (by kernel_rfl) st ?_
                clear st
                intro w12 _ st
                have hmS := m8.le_refl
                refine ⟨⟨.inr ⟨Inv.anti st.inv hmS, Piece.holds_anti st.head hmS, trivial⟩, trivial⟩, ?_⟩
                refine WA_pure 0 70 (.pointer (some ⟨b2, 0, none⟩)) (by kernel_rfl) rfl (by kernel_rfl) (.head _) (QP_then (QP_then (QP_block (QP_then (QP_then (QP_block (QP_then QP_body))))))) ?_
                refine WA_load_own (t := 3) (x := (.tmp 70)) 1 71 (.int .i64 x1.1) (by kernel_rfl) rfl (by kernel_rfl) (.head _) (QP_then (QP_then (QP_block (QP_then (QP_then (QP_block (QP_then QP_body))))))) (fun _ h => h.2.1) (show evL _ _ = some (.pointer (some ⟨b2, 0, none⟩)) from (by kernel_rfl)) (by kernel_rfl) ?_
                refine WA_pure 2 72 (.bool (x1.1 == 1)) (by kernel_rfl) rfl (by kernel_rfl) (.head _) (QP_then (QP_then (QP_block (QP_then (QP_then (QP_block (QP_then QP_body))))))) ?_
                refine WA_pure 3 73 (.bool (x1.1 == 1)) (by kernel_rfl) rfl (by kernel_rfl) (.head _) (QP_then (QP_then (QP_block (QP_then (QP_then (QP_block (QP_then QP_body))))))) ?_
                rcases bcases (x1.1 == 1) with hc | hc
                · rw [if_pos hc] at hr
                  refine WA_fact (t := 73) (b := true) (x1.1 == 1) (by kernel_rfl) hc ?_
                  refine WA_not 4 74 (by kernel_rfl) rfl (by kernel_rfl) (.head _) (QP_then (QP_then (QP_block (QP_then (QP_then (QP_block (QP_then QP_body))))))) ?_
                  refine WA_not 5 75 (by kernel_rfl) rfl (by kernel_rfl) (.head _) (QP_then (QP_then (QP_block (QP_then (QP_then (QP_block (QP_then QP_body))))))) ?_
                  refine WA_not 6 76 (by kernel_rfl) rfl (by kernel_rfl) (.head _) (QP_then (QP_then (QP_block (QP_then (QP_then (QP_block (QP_then QP_body))))))) ?_
                  refine WA_pure 7 77 (.bool true) (by kernel_rfl) rfl (by kernel_rfl) (.head _) (QP_then (QP_then (QP_block (QP_then (QP_then (QP_block (QP_then QP_body))))))) ?_
                  refine WA_pure 8 78 (.bool true) (by kernel_rfl) rfl (by kernel_rfl) (.head _) (QP_then (QP_then (QP_block (QP_then (QP_then (QP_block (QP_then QP_body))))))) ?_
                  refine WA_pure 9 79 (.int .i64 (IntKind.wrap .i64 (x1.2.2.2 + (ByteArray.size x1.2.1 : Int)))) (by kernel_rfl) rfl (by kernel_rfl) (.head _) (QP_then (QP_then (QP_block (QP_then (QP_then (QP_block (QP_then QP_body))))))) ?_
                  refine WA_pure 10 80 (.string y1) (by kernel_rfl) rfl (by kernel_rfl) (.head _) (QP_then (QP_then (QP_block (QP_then (QP_then (QP_block (QP_then QP_body))))))) ?_
                  refine WA_pure 11 81 (.int .i64 (ByteArray.size y1 : Int)) (by kernel_rfl) rfl (by kernel_rfl) (.head _) (QP_then (QP_then (QP_block (QP_then (QP_then (QP_block (QP_then QP_body))))))) ?_
                  refine WA_pure 12 82 (.bool (decide ((IntKind.wrap .i64 (x1.2.2.2 + (ByteArray.size x1.2.1 : Int))) > (ByteArray.size y1 : Int)))) (by kernel_rfl) rfl (by kernel_rfl) (.head _) (QP_then (QP_then (QP_block (QP_then (QP_then (QP_block (QP_then QP_body))))))) ?_
                  refine WA_pure 13 83 (.bool (decide ((IntKind.wrap .i64 (x1.2.2.2 + (ByteArray.size x1.2.1 : Int))) > (ByteArray.size y1 : Int)))) (by kernel_rfl) rfl (by kernel_rfl) (.head _) (QP_then (QP_then (QP_block (QP_then (QP_then (QP_block (QP_then QP_body))))))) ?_
                  rcases bcases (decide ((IntKind.wrap .i64 (x1.2.2.2 + (ByteArray.size x1.2.1 : Int))) > (ByteArray.size y1 : Int))) with hc | hc
                  · rw [if_pos hc] at hr
                    refine WA_fact (t := 83) (b := true) (decide ((IntKind.wrap .i64 (x1.2.2.2 + (ByteArray.size x1.2.1 : Int))) > (ByteArray.size y1 : Int))) (by kernel_rfl) hc ?_
                    refine WA_not 14 84 (by kernel_rfl) rfl (by kernel_rfl) (.head _) (QP_then (QP_then (QP_block (QP_then (QP_then (QP_block (QP_then QP_body))))))) ?_
                    refine WA_not 15 85 (by kernel_rfl) rfl (by kernel_rfl) (.head _) (QP_then (QP_then (QP_block (QP_then (QP_then (QP_block (QP_then QP_body))))))) ?_
                    refine WA_not 16 86 (by kernel_rfl) rfl (by kernel_rfl) (.head _) (QP_then (QP_then (QP_block (QP_then (QP_then (QP_block (QP_then QP_body))))))) ?_
                    refine WA_not 17 87 (by kernel_rfl) rfl (by kernel_rfl) (.head _) (QP_then (QP_then (QP_block (QP_then (QP_then (QP_block (QP_then QP_body))))))) ?_
                    refine WA_not 18 88 (by kernel_rfl) rfl (by kernel_rfl) (.head _) (QP_then (QP_then (QP_block (QP_then (QP_then (QP_block (QP_then QP_body))))))) ?_
                    refine WA_not 19 89 (by kernel_rfl) rfl (by kernel_rfl) (.head _) (QP_then (QP_then (QP_block (QP_then (QP_then (QP_block (QP_then QP_body))))))) ?_
                    refine WA_not 20 90 (by kernel_rfl) rfl (by kernel_rfl) (.head _) (QP_then (QP_then (QP_block (QP_then (QP_then (QP_block (QP_then QP_body))))))) ?_
                    refine WA_not 21 91 (by kernel_rfl) rfl (by kernel_rfl) (.head _) (QP_then (QP_then (QP_block (QP_then (QP_then (QP_block (QP_then QP_body))))))) ?_
                    refine WA_pure 22 92 (.bool true) (by kernel_rfl) rfl (by kernel_rfl) (.head _) (QP_then (QP_then (QP_block (QP_then (QP_then (QP_block (QP_then QP_body))))))) ?_
                    refine WA_pure 23 93 (.bool true) (by kernel_rfl) rfl (by kernel_rfl) (.head _) (QP_then (QP_then (QP_block (QP_then (QP_then (QP_block (QP_then QP_body))))))) ?_
                    refine WA_not 24 94 (by kernel_rfl) rfl (by kernel_rfl) (.head _) (QP_then (QP_then (QP_block (QP_then (QP_then (QP_block (QP_then QP_body))))))) ?_
                    refine WA_not 25 95 (by kernel_rfl) rfl (by kernel_rfl) (.head _) (QP_then (QP_then (QP_block (QP_then (QP_then (QP_block (QP_then QP_body))))))) ?_
                    refine WA_not 26 96 (by kernel_rfl) rfl (by kernel_rfl) (.head _) (QP_then (QP_then (QP_block (QP_then (QP_then (QP_block (QP_then QP_body))))))) ?_
                    refine WA_not 27 97 (by kernel_rfl) rfl (by kernel_rfl) (.head _) (QP_then (QP_then (QP_block (QP_then (QP_then (QP_block (QP_then QP_body))))))) ?_
                    refine WA_pure 28 98 (.bool true) (by kernel_rfl) rfl (by kernel_rfl) (.head _) (QP_then (QP_then (QP_block (QP_then (QP_then (QP_block (QP_then QP_body))))))) ?_
                    refine WA_pure 29 99 (.bool true) (by kernel_rfl) rfl (by kernel_rfl) (.head _) (QP_then (QP_then (QP_block (QP_then (QP_then (QP_block (QP_then QP_body))))))) ?_
                    obtain rfl := Option.some.inj hr
                    have st := st.front1
                    have st := st.front1
                    exact WA_done (by kernel_rfl) (X_env _ (by kernel_rfl) (K _ _ ⟨m8, rfl, hm, st, r1⟩))
                  · rw [if_neg (not_true hc)] at hr
                    refine WA_fact (t := 83) (b := false) (decide ((IntKind.wrap .i64 (x1.2.2.2 + (ByteArray.size x1.2.1 : Int))) > (ByteArray.size y1 : Int))) (by kernel_rfl) hc ?_
                    refine WA_pure 14 84 (.string y1) (by kernel_rfl) rfl (by kernel_rfl) (.head _) (QP_then (QP_then (QP_block (QP_then (QP_then (QP_block (QP_then QP_body))))))) ?_
                    refine WA_pure 15 85 (.pointer (some ⟨b2, 3, none⟩)) (by kernel_rfl) rfl (by kernel_rfl) (.head _) (QP_then (QP_then (QP_block (QP_then (QP_then (QP_block (QP_then QP_body))))))) ?_
                    refine WA_load_own (t := 3) (x := (.tmp 85)) 16 86 (.int .i64 x1.2.2.2) (by kernel_rfl) rfl (by kernel_rfl) (.head _) (QP_then (QP_then (QP_block (QP_then (QP_then (QP_block (QP_then QP_body))))))) (fun _ h => h.2.1) (show evL _ _ = some (.pointer (some ⟨b2, 3, none⟩)) from (by kernel_rfl)) (by kernel_rfl) ?_
                    refine WA_pure 17 87 (.int .i64 (IntKind.wrap .i64 (x1.2.2.2 + (ByteArray.size x1.2.1 : Int)))) (by kernel_rfl) rfl (by kernel_rfl) (.head _) (QP_then (QP_then (QP_block (QP_then (QP_then (QP_block (QP_then QP_body))))))) ?_
                    refine WA_pure 19 89 (.pointer (some ⟨b2, 1, none⟩)) (by kernel_rfl) rfl (by kernel_rfl) (.head _) (QP_then (QP_then (QP_block (QP_then (QP_then (QP_block (QP_then QP_body))))))) ?_
                    refine WA_load_own (t := 9) (x := (.tmp 89)) 20 90 (.string x1.2.1) (by kernel_rfl) rfl (by kernel_rfl) (.head _) (QP_then (QP_then (QP_block (QP_then (QP_then (QP_block (QP_then QP_body))))))) (fun _ h => h.2.1) (show evL _ _ = some (.pointer (some ⟨b2, 1, none⟩)) from (by kernel_rfl)) (by kernel_rfl) ?_
                    replace hr := bindS hr
                    obtain ⟨s2, hx5, hr⟩ := hr
                    refine WA_one 18 (by kernel_rfl) (One_strSlice (d := 88) (t := 9) (x := (.tmp 84)) (lo := (some (.tmp 86))) (hi := (some (.tmp 87))) (by kernel_rfl) rfl (show evL _ _ = some (.string y1) from (by kernel_rfl)) (by kernel_rfl) (.inr ⟨_, _, rfl, (show evL _ _ = some (.int .i64 x1.2.2.2) from (by kernel_rfl))⟩) (.inr ⟨_, _, rfl, (show evL _ _ = some (.int .i64 (IntKind.wrap .i64 (x1.2.2.2 + (ByteArray.size x1.2.1 : Int)))) from (by kernel_rfl))⟩) hx5 ?_)
                    refine ⟨⟨.inr ⟨Inv.anti st.inv hmS, Piece.holds_anti st.head hmS, trivial⟩, trivial⟩, ?_⟩
                    refine WA_pure 21 91 (.bool (!(s2.toList == x1.2.1.toList))) (by kernel_rfl) rfl (by kernel_rfl) (.head _) (QP_then (QP_then (QP_block (QP_then (QP_then (QP_block (QP_then QP_body))))))) ?_
                    refine WA_pure 22 92 (.bool (!(s2.toList == x1.2.1.toList))) (by kernel_rfl) rfl (by kernel_rfl) (.head _) (QP_then (QP_then (QP_block (QP_then (QP_then (QP_block (QP_then QP_body))))))) ?_
                    refine WA_pure 23 93 (.bool (!(s2.toList == x1.2.1.toList))) (by kernel_rfl) rfl (by kernel_rfl) (.head _) (QP_then (QP_then (QP_block (QP_then (QP_then (QP_block (QP_then QP_body))))))) ?_
                    rcases bcases (!(s2.toList == x1.2.1.toList)) with hc | hc
                    · rw [if_pos hc] at hr
                      refine WA_fact (t := 93) (b := true) (!(s2.toList == x1.2.1.toList)) (by kernel_rfl) hc ?_
                      refine WA_not 24 94 (by kernel_rfl) rfl (by kernel_rfl) (.head _) (QP_then (QP_then (QP_block (QP_then (QP_then (QP_block (QP_then QP_body))))))) ?_
                      refine WA_not 25 95 (by kernel_rfl) rfl (by kernel_rfl) (.head _) (QP_then (QP_then (QP_block (QP_then (QP_then (QP_block (QP_then QP_body))))))) ?_
                      refine WA_not 26 96 (by kernel_rfl) rfl (by kernel_rfl) (.head _) (QP_then (QP_then (QP_block (QP_then (QP_then (QP_block (QP_then QP_body))))))) ?_
                      refine WA_not 27 97 (by kernel_rfl) rfl (by kernel_rfl) (.head _) (QP_then (QP_then (QP_block (QP_then (QP_then (QP_block (QP_then QP_body))))))) ?_
                      refine WA_pure 28 98 (.bool true) (by kernel_rfl) rfl (by kernel_rfl) (.head _) (QP_then (QP_then (QP_block (QP_then (QP_then (QP_block (QP_then QP_body))))))) ?_
                      refine WA_pure 29 99 (.bool true) (by kernel_rfl) rfl (by kernel_rfl) (.head _) (QP_then (QP_then (QP_block (QP_then (QP_then (QP_block (QP_then QP_body))))))) ?_
                      obtain rfl := Option.some.inj hr
                      have st := st.front1
                      have st := st.front1
                      exact WA_done (by kernel_rfl) (X_env _ (by kernel_rfl) (K _ _ ⟨m8, rfl, hm, st, r1⟩))
                    · rw [if_neg (not_true hc)] at hr
                      refine WA_fact (t := 93) (b := false) (!(s2.toList == x1.2.1.toList)) (by kernel_rfl) hc ?_
                      refine WA_pure 24 94 (.pointer (some ⟨b2, 1, none⟩)) (by kernel_rfl) rfl (by kernel_rfl) (.head _) (QP_then (QP_then (QP_block (QP_then (QP_then (QP_block (QP_then QP_body))))))) ?_
                      refine WA_load_own (t := 9) (x := (.tmp 94)) 25 95 (.string x1.2.1) (by kernel_rfl) rfl (by kernel_rfl) (.head _) (QP_then (QP_then (QP_block (QP_then (QP_then (QP_block (QP_then QP_body))))))) (fun _ h => h.2.1) (show evL _ _ = some (.pointer (some ⟨b2, 1, none⟩)) from (by kernel_rfl)) (by kernel_rfl) ?_
                      refine WA_pure 26 96 (.int .i64 (ByteArray.size x1.2.1 : Int)) (by kernel_rfl) rfl (by kernel_rfl) (.head _) (QP_then (QP_then (QP_block (QP_then (QP_then (QP_block (QP_then QP_body))))))) ?_
                      refine WA_pure 27 97 (.bool ((ByteArray.size x1.2.1 : Int) == 0)) (by kernel_rfl) rfl (by kernel_rfl) (.head _) (QP_then (QP_then (QP_block (QP_then (QP_then (QP_block (QP_then QP_body))))))) ?_
                      refine WA_pure 28 98 (.bool ((ByteArray.size x1.2.1 : Int) == 0)) (by kernel_rfl) rfl (by kernel_rfl) (.head _) (QP_then (QP_then (QP_block (QP_then (QP_then (QP_block (QP_then QP_body))))))) ?_
                      refine WA_pure 29 99 (.bool ((ByteArray.size x1.2.1 : Int) == 0)) (by kernel_rfl) rfl (by kernel_rfl) (.head _) (QP_then (QP_then (QP_block (QP_then (QP_then (QP_block (QP_then QP_body))))))) ?_
                      obtain rfl := Option.some.inj hr
                      have st := st.front1
                      have st := st.front1
                      exact WA_done (by kernel_rfl) (X_env _ (by kernel_rfl) (K _ _ ⟨m8, rfl, hm, st, r1⟩))
                · rw [if_neg (not_true hc)] at hr
                  refine WA_fact (t := 73) (b := false) (x1.1 == 1) (by kernel_rfl) hc ?_
                  refine WA_pure 4 74 (.pointer (some ⟨b2, 0, none⟩)) (by kernel_rfl) rfl (by kernel_rfl) (.head _) (QP_then (QP_then (QP_block (QP_then (QP_then (QP_block (QP_then QP_body))))))) ?_
                  refine WA_load_own (t := 3) (x := (.tmp 74)) 5 75 (.int .i64 x1.1) (by kernel_rfl) rfl (by kernel_rfl) (.head _) (QP_then (QP_then (QP_block (QP_then (QP_then (QP_block (QP_then QP_body))))))) (fun _ h => h.2.1) (show evL _ _ = some (.pointer (some ⟨b2, 0, none⟩)) from (by kernel_rfl)) (by kernel_rfl) ?_
                  refine WA_pure 6 76 (.bool (x1.1 == 4)) (by kernel_rfl) rfl (by kernel_rfl) (.head _) (QP_then (QP_then (QP_block (QP_then (QP_then (QP_block (QP_then QP_body))))))) ?_
                  refine WA_pure 7 77 (.bool (x1.1 == 4)) (by kernel_rfl) rfl (by kernel_rfl) (.head _) (QP_then (QP_then (QP_block (QP_then (QP_then (QP_block (QP_then QP_body))))))) ?_
                  refine WA_pure 8 78 (.bool (x1.1 == 4)) (by kernel_rfl) rfl (by kernel_rfl) (.head _) (QP_then (QP_then (QP_block (QP_then (QP_then (QP_block (QP_then QP_body))))))) ?_
                  rcases bcases (x1.1 == 4) with hc | hc
                  · rw [if_pos hc] at hr
                    refine WA_fact (t := 78) (b := true) (x1.1 == 4) (by kernel_rfl) hc ?_
                    refine WA_pure 9 79 (.int .i64 (IntKind.wrap .i64 (x1.2.2.2 + (ByteArray.size x1.2.1 : Int)))) (by kernel_rfl) rfl (by kernel_rfl) (.head _) (QP_then (QP_then (QP_block (QP_then (QP_then (QP_block (QP_then QP_body))))))) ?_
                    refine WA_pure 10 80 (.string y1) (by kernel_rfl) rfl (by kernel_rfl) (.head _) (QP_then (QP_then (QP_block (QP_then (QP_then (QP_block (QP_then QP_body))))))) ?_
                    refine WA_pure 11 81 (.int .i64 (ByteArray.size y1 : Int)) (by kernel_rfl) rfl (by kernel_rfl) (.head _) (QP_then (QP_then (QP_block (QP_then (QP_then (QP_block (QP_then QP_body))))))) ?_
                    refine WA_pure 12 82 (.bool (decide ((IntKind.wrap .i64 (x1.2.2.2 + (ByteArray.size x1.2.1 : Int))) > (ByteArray.size y1 : Int)))) (by kernel_rfl) rfl (by kernel_rfl) (.head _) (QP_then (QP_then (QP_block (QP_then (QP_then (QP_block (QP_then QP_body))))))) ?_
                    refine WA_pure 13 83 (.bool (decide ((IntKind.wrap .i64 (x1.2.2.2 + (ByteArray.size x1.2.1 : Int))) > (ByteArray.size y1 : Int)))) (by kernel_rfl) rfl (by kernel_rfl) (.head _) (QP_then (QP_then (QP_block (QP_then (QP_then (QP_block (QP_then QP_body))))))) ?_
                    rcases bcases (decide ((IntKind.wrap .i64 (x1.2.2.2 + (ByteArray.size x1.2.1 : Int))) > (ByteArray.size y1 : Int))) with hc | hc
                    · rw [if_pos hc] at hr
                      refine WA_fact (t := 83) (b := true) (decide ((IntKind.wrap .i64 (x1.2.2.2 + (ByteArray.size x1.2.1 : Int))) > (ByteArray.size y1 : Int))) (by kernel_rfl) hc ?_
                      refine WA_not 14 84 (by kernel_rfl) rfl (by kernel_rfl) (.head _) (QP_then (QP_then (QP_block (QP_then (QP_then (QP_block (QP_then QP_body))))))) ?_
                      refine WA_not 15 85 (by kernel_rfl) rfl (by kernel_rfl) (.head _) (QP_then (QP_then (QP_block (QP_then (QP_then (QP_block (QP_then QP_body))))))) ?_
                      refine WA_not 16 86 (by kernel_rfl) rfl (by kernel_rfl) (.head _) (QP_then (QP_then (QP_block (QP_then (QP_then (QP_block (QP_then QP_body))))))) ?_
                      refine WA_not 17 87 (by kernel_rfl) rfl (by kernel_rfl) (.head _) (QP_then (QP_then (QP_block (QP_then (QP_then (QP_block (QP_then QP_body))))))) ?_
                      refine WA_not 18 88 (by kernel_rfl) rfl (by kernel_rfl) (.head _) (QP_then (QP_then (QP_block (QP_then (QP_then (QP_block (QP_then QP_body))))))) ?_
                      refine WA_not 19 89 (by kernel_rfl) rfl (by kernel_rfl) (.head _) (QP_then (QP_then (QP_block (QP_then (QP_then (QP_block (QP_then QP_body))))))) ?_
                      refine WA_not 20 90 (by kernel_rfl) rfl (by kernel_rfl) (.head _) (QP_then (QP_then (QP_block (QP_then (QP_then (QP_block (QP_then QP_body))))))) ?_
                      refine WA_not 21 91 (by kernel_rfl) rfl (by kernel_rfl) (.head _) (QP_then (QP_then (QP_block (QP_then (QP_then (QP_block (QP_then QP_body))))))) ?_
                      refine WA_pure 22 92 (.bool true) (by kernel_rfl) rfl (by kernel_rfl) (.head _) (QP_then (QP_then (QP_block (QP_then (QP_then (QP_block (QP_then QP_body))))))) ?_
                      refine WA_pure 23 93 (.bool true) (by kernel_rfl) rfl (by kernel_rfl) (.head _) (QP_then (QP_then (QP_block (QP_then (QP_then (QP_block (QP_then QP_body))))))) ?_
                      refine WA_not 24 94 (by kernel_rfl) rfl (by kernel_rfl) (.head _) (QP_then (QP_then (QP_block (QP_then (QP_then (QP_block (QP_then QP_body))))))) ?_
                      refine WA_not 25 95 (by kernel_rfl) rfl (by kernel_rfl) (.head _) (QP_then (QP_then (QP_block (QP_then (QP_then (QP_block (QP_then QP_body))))))) ?_
                      refine WA_not 26 96 (by kernel_rfl) rfl (by kernel_rfl) (.head _) (QP_then (QP_then (QP_block (QP_then (QP_then (QP_block (QP_then QP_body))))))) ?_
                      refine WA_not 27 97 (by kernel_rfl) rfl (by kernel_rfl) (.head _) (QP_then (QP_then (QP_block (QP_then (QP_then (QP_block (QP_then QP_body))))))) ?_
                      refine WA_pure 28 98 (.bool true) (by kernel_rfl) rfl (by kernel_rfl) (.head _) (QP_then (QP_then (QP_block (QP_then (QP_then (QP_block (QP_then QP_body))))))) ?_
                      refine WA_pure 29 99 (.bool true) (by kernel_rfl) rfl (by kernel_rfl) (.head _) (QP_then (QP_then (QP_block (QP_then (QP_then (QP_block (QP_then QP_body))))))) ?_
                      obtain rfl := Option.some.inj hr
                      have st := st.front1
                      have st := st.front1
                      exact WA_done (by kernel_rfl) (X_env _ (by kernel_rfl) (K _ _ ⟨m8, rfl, hm, st, r1⟩))
                    · rw [if_neg (not_true hc)] at hr
                      refine WA_fact (t := 83) (b := false) (decide ((IntKind.wrap .i64 (x1.2.2.2 + (ByteArray.size x1.2.1 : Int))) > (ByteArray.size y1 : Int))) (by kernel_rfl) hc ?_
                      refine WA_pure 14 84 (.string y1) (by kernel_rfl) rfl (by kernel_rfl) (.head _) (QP_then (QP_then (QP_block (QP_then (QP_then (QP_block (QP_then QP_body))))))) ?_
                      refine WA_pure 15 85 (.pointer (some ⟨b2, 3, none⟩)) (by kernel_rfl) rfl (by kernel_rfl) (.head _) (QP_then (QP_then (QP_block (QP_then (QP_then (QP_block (QP_then QP_body))))))) ?_
                      refine WA_load_own (t := 3) (x := (.tmp 85)) 16 86 (.int .i64 x1.2.2.2) (by kernel_rfl) rfl (by kernel_rfl) (.head _) (QP_then (QP_then (QP_block (QP_then (QP_then (QP_block (QP_then QP_body))))))) (fun _ h => h.2.1) (show evL _ _ = some (.pointer (some ⟨b2, 3, none⟩)) from (by kernel_rfl)) (by kernel_rfl) ?_
                      refine WA_pure 17 87 (.int .i64 (IntKind.wrap .i64 (x1.2.2.2 + (ByteArray.size x1.2.1 : Int)))) (by kernel_rfl) rfl (by kernel_rfl) (.head _) (QP_then (QP_then (QP_block (QP_then (QP_then (QP_block (QP_then QP_body))))))) ?_
                      refine WA_pure 19 89 (.pointer (some ⟨b2, 1, none⟩)) (by kernel_rfl) rfl (by kernel_rfl) (.head _) (QP_then (QP_then (QP_block (QP_then (QP_then (QP_block (QP_then QP_body))))))) ?_
                      refine WA_load_own (t := 9) (x := (.tmp 89)) 20 90 (.string x1.2.1) (by kernel_rfl) rfl (by kernel_rfl) (.head _) (QP_then (QP_then (QP_block (QP_then (QP_then (QP_block (QP_then QP_body))))))) (fun _ h => h.2.1) (show evL _ _ = some (.pointer (some ⟨b2, 1, none⟩)) from (by kernel_rfl)) (by kernel_rfl) ?_
                      replace hr := bindS hr
                      obtain ⟨s3, hx6, hr⟩ := hr
                      refine WA_one 18 (by kernel_rfl) (One_strSlice (d := 88) (t := 9) (x := (.tmp 84)) (lo := (some (.tmp 86))) (hi := (some (.tmp 87))) (by kernel_rfl) rfl (show evL _ _ = some (.string y1) from (by kernel_rfl)) (by kernel_rfl) (.inr ⟨_, _, rfl, (show evL _ _ = some (.int .i64 x1.2.2.2) from (by kernel_rfl))⟩) (.inr ⟨_, _, rfl, (show evL _ _ = some (.int .i64 (IntKind.wrap .i64 (x1.2.2.2 + (ByteArray.size x1.2.1 : Int)))) from (by kernel_rfl))⟩) hx6 ?_)
                      refine ⟨⟨.inr ⟨Inv.anti st.inv hmS, Piece.holds_anti st.head hmS, trivial⟩, trivial⟩, ?_⟩
                      refine WA_pure 21 91 (.bool (!(s3.toList == x1.2.1.toList))) (by kernel_rfl) rfl (by kernel_rfl) (.head _) (QP_then (QP_then (QP_block (QP_then (QP_then (QP_block (QP_then QP_body))))))) ?_
                      refine WA_pure 22 92 (.bool (!(s3.toList == x1.2.1.toList))) (by kernel_rfl) rfl (by kernel_rfl) (.head _) (QP_then (QP_then (QP_block (QP_then (QP_then (QP_block (QP_then QP_body))))))) ?_
                      refine WA_pure 23 93 (.bool (!(s3.toList == x1.2.1.toList))) (by kernel_rfl) rfl (by kernel_rfl) (.head _) (QP_then (QP_then (QP_block (QP_then (QP_then (QP_block (QP_then QP_body))))))) ?_
                      rcases bcases (!(s3.toList == x1.2.1.toList)) with hc | hc
                      · rw [if_pos hc] at hr
                        refine WA_fact (t := 93) (b := true) (!(s3.toList == x1.2.1.toList)) (by kernel_rfl) hc ?_
                        refine WA_not 24 94 (by kernel_rfl) rfl (by kernel_rfl) (.head _) (QP_then (QP_then (QP_block (QP_then (QP_then (QP_block (QP_then QP_body))))))) ?_
                        refine WA_not 25 95 (by kernel_rfl) rfl (by kernel_rfl) (.head _) (QP_then (QP_then (QP_block (QP_then (QP_then (QP_block (QP_then QP_body))))))) ?_
                        refine WA_not 26 96 (by kernel_rfl) rfl (by kernel_rfl) (.head _) (QP_then (QP_then (QP_block (QP_then (QP_then (QP_block (QP_then QP_body))))))) ?_
                        refine WA_not 27 97 (by kernel_rfl) rfl (by kernel_rfl) (.head _) (QP_then (QP_then (QP_block (QP_then (QP_then (QP_block (QP_then QP_body))))))) ?_
                        refine WA_pure 28 98 (.bool true) (by kernel_rfl) rfl (by kernel_rfl) (.head _) (QP_then (QP_then (QP_block (QP_then (QP_then (QP_block (QP_then QP_body))))))) ?_
                        refine WA_pure 29 99 (.bool true) (by kernel_rfl) rfl (by kernel_rfl) (.head _) (QP_then (QP_then (QP_block (QP_then (QP_then (QP_block (QP_then QP_body))))))) ?_
                        obtain rfl := Option.some.inj hr
                        have st := st.front1
                        have st := st.front1
                        exact WA_done (by kernel_rfl) (X_env _ (by kernel_rfl) (K _ _ ⟨m8, rfl, hm, st, r1⟩))
                      · rw [if_neg (not_true hc)] at hr
                        refine WA_fact (t := 93) (b := false) (!(s3.toList == x1.2.1.toList)) (by kernel_rfl) hc ?_
                        refine WA_pure 24 94 (.pointer (some ⟨b2, 1, none⟩)) (by kernel_rfl) rfl (by kernel_rfl) (.head _) (QP_then (QP_then (QP_block (QP_then (QP_then (QP_block (QP_then QP_body))))))) ?_
                        refine WA_load_own (t := 9) (x := (.tmp 94)) 25 95 (.string x1.2.1) (by kernel_rfl) rfl (by kernel_rfl) (.head _) (QP_then (QP_then (QP_block (QP_then (QP_then (QP_block (QP_then QP_body))))))) (fun _ h => h.2.1) (show evL _ _ = some (.pointer (some ⟨b2, 1, none⟩)) from (by kernel_rfl)) (by kernel_rfl) ?_
                        refine WA_pure 26 96 (.int .i64 (ByteArray.size x1.2.1 : Int)) (by kernel_rfl) rfl (by kernel_rfl) (.head _) (QP_then (QP_then (QP_block (QP_then (QP_then (QP_block (QP_then QP_body))))))) ?_
                        refine WA_pure 27 97 (.bool ((ByteArray.size x1.2.1 : Int) == 0)) (by kernel_rfl) rfl (by kernel_rfl) (.head _) (QP_then (QP_then (QP_block (QP_then (QP_then (QP_block (QP_then QP_body))))))) ?_
                        refine WA_pure 28 98 (.bool ((ByteArray.size x1.2.1 : Int) == 0)) (by kernel_rfl) rfl (by kernel_rfl) (.head _) (QP_then (QP_then (QP_block (QP_then (QP_then (QP_block (QP_then QP_body))))))) ?_
                        refine WA_pure 29 99 (.bool ((ByteArray.size x1.2.1 : Int) == 0)) (by kernel_rfl) rfl (by kernel_rfl) (.head _) (QP_then (QP_then (QP_block (QP_then (QP_then (QP_block (QP_then QP_body))))))) ?_
                        obtain rfl := Option.some.inj hr
                        have st := st.front1
                        have st := st.front1
                        exact WA_done (by kernel_rfl) (X_env _ (by kernel_rfl) (K _ _ ⟨m8, rfl, hm, st, r1⟩))
                  · rw [if_neg (not_true hc)] at hr
                    refine WA_fact (t := 78) (b := false) (x1.1 == 4) (by kernel_rfl) hc ?_
                    refine WA_not 9 79 (by kernel_rfl) rfl (by kernel_rfl) (.head _) (QP_then (QP_then (QP_block (QP_then (QP_then (QP_block (QP_then QP_body))))))) ?_
                    refine WA_not 10 80 (by kernel_rfl) rfl (by kernel_rfl) (.head _) (QP_then (QP_then (QP_block (QP_then (QP_then (QP_block (QP_then QP_body))))))) ?_
                    refine WA_not 11 81 (by kernel_rfl) rfl (by kernel_rfl) (.head _) (QP_then (QP_then (QP_block (QP_then (QP_then (QP_block (QP_then QP_body))))))) ?_
                    refine WA_not 12 82 (by kernel_rfl) rfl (by kernel_rfl) (.head _) (QP_then (QP_then (QP_block (QP_then (QP_then (QP_block (QP_then QP_body))))))) ?_
                    refine WA_not 13 83 (by kernel_rfl) rfl (by kernel_rfl) (.head _) (QP_then (QP_then (QP_block (QP_then (QP_then (QP_block (QP_then QP_body))))))) ?_
                    refine WA_not 14 84 (by kernel_rfl) rfl (by kernel_rfl) (.head _) (QP_then (QP_then (QP_block (QP_then (QP_then (QP_block (QP_then QP_body))))))) ?_
                    refine WA_not 15 85 (by kernel_rfl) rfl (by kernel_rfl) (.head _) (QP_then (QP_then (QP_block (QP_then (QP_then (QP_block (QP_then QP_body))))))) ?_
                    refine WA_not 16 86 (by kernel_rfl) rfl (by kernel_rfl) (.head _) (QP_then (QP_then (QP_block (QP_then (QP_then (QP_block (QP_then QP_body))))))) ?_
                    refine WA_not 17 87 (by kernel_rfl) rfl (by kernel_rfl) (.head _) (QP_then (QP_then (QP_block (QP_then (QP_then (QP_block (QP_then QP_body))))))) ?_
                    refine WA_not 18 88 (by kernel_rfl) rfl (by kernel_rfl) (.head _) (QP_then (QP_then (QP_block (QP_then (QP_then (QP_block (QP_then QP_body))))))) ?_
                    refine WA_not 19 89 (by kernel_rfl) rfl (by kernel_rfl) (.head _) (QP_then (QP_then (QP_block (QP_then (QP_then (QP_block (QP_then QP_body))))))) ?_
                    refine WA_not 20 90 (by kernel_rfl) rfl (by kernel_rfl) (.head _) (QP_then (QP_then (QP_block (QP_then (QP_then (QP_block (QP_then QP_body))))))) ?_
                    refine WA_not 21 91 (by kernel_rfl) rfl (by kernel_rfl) (.head _) (QP_then (QP_then (QP_block (QP_then (QP_then (QP_block (QP_then QP_body))))))) ?_
                    refine WA_not 22 92 (by kernel_rfl) rfl (by kernel_rfl) (.head _) (QP_then (QP_then (QP_block (QP_then (QP_then (QP_block (QP_then QP_body))))))) ?_
                    refine WA_not 23 93 (by kernel_rfl) rfl (by kernel_rfl) (.head _) (QP_then (QP_then (QP_block (QP_then (QP_then (QP_block (QP_then QP_body))))))) ?_
                    refine WA_not 24 94 (by kernel_rfl) rfl (by kernel_rfl) (.head _) (QP_then (QP_then (QP_block (QP_then (QP_then (QP_block (QP_then QP_body))))))) ?_
                    refine WA_not 25 95 (by kernel_rfl) rfl (by kernel_rfl) (.head _) (QP_then (QP_then (QP_block (QP_then (QP_then (QP_block (QP_then QP_body))))))) ?_
                    refine WA_not 26 96 (by kernel_rfl) rfl (by kernel_rfl) (.head _) (QP_then (QP_then (QP_block (QP_then (QP_then (QP_block (QP_then QP_body))))))) ?_
                    refine WA_not 27 97 (by kernel_rfl) rfl (by kernel_rfl) (.head _) (QP_then (QP_then (QP_block (QP_then (QP_then (QP_block (QP_then QP_body))))))) ?_
                    refine WA_not 28 98 (by kernel_rfl) rfl (by kernel_rfl) (.head _) (QP_then (QP_then (QP_block (QP_then (QP_then (QP_block (QP_then QP_body))))))) ?_
                    refine WA_pure 29 99 (.bool false) (by kernel_rfl) rfl (by kernel_rfl) (.head _) (QP_then (QP_then (QP_block (QP_then (QP_then (QP_block (QP_then QP_body))))))) ?_
                    obtain rfl := Option.some.inj hr
                    have st := st.front1
                    have st := st.front1
                    exact WA_done (by kernel_rfl) (X_env _ (by kernel_rfl) (K _ _ ⟨m8, rfl, hm, st, r1⟩))
          · intro K
            clear hrK
            refine WO_seg 1 [(42, .pointer (some ⟨b2, 3, none⟩))] (by kernel_rfl) (by kernel_rfl) ?_
            refine WO_one rfl (One_load_own (d := 43) (t := 3) (x := (.tmp 42)) (.int .i64 x1.2.2.2) (by kernel_rfl) rfl (show evL _ _ = some (.pointer (some ⟨b2, 3, none⟩)) from (by kernel_rfl)) st.head (by kernel_rfl) ?_)
            refine WO_seg 3 [(46, .bool (decide (x1.2.2.2 < s1.1)))] (by kernel_rfl) (by kernel_rfl) ?_
            rcases bcases (decide (x1.2.2.2 < s1.1)) with hc | hc
            · rw [if_pos hc] at hr
              refine WO_fact (t := 46) (b := true) (decide (x1.2.2.2 < s1.1)) (by kernel_rfl) hc ?_
              refine WO_seg 17 [(63, .bool true)] (by kernel_rfl) (by kernel_rfl) ?_
              obtain rfl := Option.some.inj hr
              have st := st.front1
              have st := st.front1
              exact WO_env _ (by kernel_rfl) (K _ _ ⟨m6, rfl, hm, st, r1⟩)
            · rw [if_neg (not_true hc)] at hr
              refine WO_fact (t := 46) (b := false) (decide (x1.2.2.2 < s1.1)) (by kernel_rfl) hc ?_
              refine WO_seg 1 [(47, .pointer (some ⟨b2, 3, none⟩))] (by kernel_rfl) (by kernel_rfl) ?_
              refine WO_one rfl (One_load_own (d := 48) (t := 3) (x := (.tmp 47)) (.int .i64 x1.2.2.2) (by kernel_rfl) rfl (show evL _ _ = some (.pointer (some ⟨b2, 3, none⟩)) from (by kernel_rfl)) st.head (by kernel_rfl) ?_)
              refine WO_seg 5 [(53, .bool (decide (x1.2.2.2 > (ByteArray.size y1 : Int))))] (by kernel_rfl) (by kernel_rfl) ?_
              rcases bcases (decide (x1.2.2.2 > (ByteArray.size y1 : Int))) with hc | hc
              · rw [if_pos hc] at hr
                refine WO_fact (t := 53) (b := true) (decide (x1.2.2.2 > (ByteArray.size y1 : Int))) (by kernel_rfl) hc ?_
                refine WO_seg 10 [(63, .bool true)] (by kernel_rfl) (by kernel_rfl) ?_
                obtain rfl := Option.some.inj hr
                have st := st.front1
                have st := st.front1
                exact WO_env _ (by kernel_rfl) (K _ _ ⟨m6, rfl, hm, st, r1⟩)
              · rw [if_neg (not_true hc)] at hr
                refine WO_fact (t := 53) (b := false) (decide (x1.2.2.2 > (ByteArray.size y1 : Int))) (by kernel_rfl) hc ?_
                refine WO_seg 1 [(54, .pointer (some ⟨b2, 0, none⟩))] (by kernel_rfl) (by kernel_rfl) ?_
                refine WO_one rfl (One_load_own (d := 55) (t := 3) (x := (.tmp 54)) (.int .i64 x1.1) (by kernel_rfl) rfl (show evL _ _ = some (.pointer (some ⟨b2, 0, none⟩)) from (by kernel_rfl)) st.head (by kernel_rfl) ?_)
                refine WO_seg 8 [(63, .bool (!((x1.1 == 5) == (s1.2 == (IntKind.wrap .i64 ((List.length y2.1 : Int) - 1))))))] (by kernel_rfl) (by kernel_rfl) ?_
                obtain rfl := Option.some.inj hr
                have st := st.front1
                have st := st.front1
                exact WO_env _ (by kernel_rfl) (K _ _ ⟨m6, rfl, hm, st, r1⟩)
      · intro hc
        rw [if_neg (not_true hc)] at hr
        refine W_exit ?_
        refine X_then_exit ?_
        obtain rfl := Option.some.inj hr
        have ho := hBu2 _ rfl
        refine X_then_exit ?_
        exact X_env _ (by kernel_rfl) (K0_u2 _ _ ⟨(), m6, ho, rfl, hm, st, r1⟩)

end Go.Proofs.YtfodebccikifcaaDoor
