/- MADE BY gen.py: plain functions and the proofs that the Go functions compute them. No condition but those of each theorem. -/
import Derived.Test.YtfodebccikifcaaDoorProg
import Derived.Test.YtfodebccikifcaaDoorExt
namespace Go.Proofs.YtfodebccikifcaaDoor
open Go Go.Dc

def testgatelaw04_limited (N : Nat) (p0 : ByteArray) : Option (ByteArray) :=
  if (decide ((ByteArray.size p0 : Int) > 2000)) = true then ((subB p0 0 2000).bind fun s1 => some s1) else (some p0)

set_option maxHeartbeats 4000000 in
set_option maxRecDepth 100000 in
theorem testgatelaw04_limited_ok {N : Nat} {m : Mem} {own : List Piece} {w : World} {p0 : ByteArray} {r : ByteArray} (st : St m (own) w) (hr : testgatelaw04_limited N p0 = some r) : Calls Go.Proofs.Tryd.prog 13 #[.string p0] w fun e w' => ∃ (m' : Mem), e = .returned (.string r) ∧ m.le m' ∧ St m' (own) w' := by
  unfold testgatelaw04_limited at hr
  have hm := m.le_refl
  refine W_calls Go.Proofs.Tryd.func13 rfl Go.Proofs.Tryd.ntmps13 [(0, .string p0)] (by kernel_rfl) rfl ?_
  refine W_seq ?_
  refine W_region ?_
  refine WO_seg 1 [] (by kernel_rfl) (by kernel_rfl) ?_
  refine WO_end rfl ?_
  refine X_then ?_
  refine W_seq ?_
  refine W_seq ?_
  refine W_region ?_
  refine WO_seg 3 [(5, .bool (decide ((ByteArray.size p0 : Int) > 2000)))] (by kernel_rfl) (by kernel_rfl) ?_
  refine WO_end rfl ?_
  refine X_then ?_
  refine W_cond (decide ((ByteArray.size p0 : Int) > 2000)) (by kernel_rfl) ?_ ?_
  · intro hc
    rw [if_pos hc] at hr
    refine W_seq ?_
    refine W_region ?_
    refine WO_seg 1 [(6, .string p0)] (by kernel_rfl) (by kernel_rfl) ?_
    replace hr := bindS hr
    obtain ⟨s1, hx1, hr⟩ := hr
    refine WO_one rfl (One_strSlice (d := 7) (t := 9) (x := (.tmp 6)) (lo := none) (hi := (some (.const (.int .i64 2000)))) (by kernel_rfl) rfl (show evL _ _ = some (.string p0) from (by kernel_rfl)) (by kernel_rfl) (.inl ⟨rfl, rfl⟩) (.inr ⟨_, _, rfl, (show evL _ _ = some (.int .i64 2000) from (by kernel_rfl))⟩) hx1 ?_)
    refine WO_seg 1 [(2, .string s1)] (by kernel_rfl) (by kernel_rfl) ?_
    refine WO_end rfl ?_
    refine X_then ?_
    refine W_ret ?_
    refine X_then_ret ?_
    obtain rfl := Option.some.inj hr
    refine X_ret [.tmp 2] [.string s1] rfl (ResAll.cons (ResAt.tmp (by kernel_rfl)) ResAll.nil) ?_
    exact ⟨m, rfl, hm, st⟩
  · intro hc
    rw [if_neg (not_true hc)] at hr
    refine W_skip ?_
    refine X_then ?_
    refine W_seq ?_
    refine W_region ?_
    refine WO_seg 2 [(2, .string p0)] (by kernel_rfl) (by kernel_rfl) ?_
    refine WO_end rfl ?_
    refine X_then ?_
    refine W_ret ?_
    obtain rfl := Option.some.inj hr
    refine X_ret [.tmp 2] [.string p0] rfl (ResAll.cons (ResAt.tmp (by kernel_rfl)) ResAll.nil) ?_
    exact ⟨m, rfl, hm, st⟩

def lexer_kinds_L2 (N : Nat) (kv1 : Int × ByteArray) (l1 : List (UInt8)) (s2 : Int × (Option (List (Int × Int)))) : Option ((Int × (Option (List (Int × Int)))) ⊕ (((Option (List (Int × Int)))))) :=
  if (decide (s2.1 < (List.length l1 : Int))) = true then ((idx l1 s2.1).bind fun x1 => (msetQ s2.2 (x1.toNat : Int) kv1.1).bind fun mp9 => some (.inl (IntKind.wrap .i64 (s2.1 + 1), mp9))) else (some (.inr s2.2))

def lexer_kinds_L1 (N : Nat) (z1 : Option (Int × ByteArray)) (s1 : (Option (List (Int × Int)))) : Option (((Option (List (Int × Int)))) ⊕ (((Option (List (Int × Int)))))) :=
  (match z1 with | none => some (.inr s1) | some kv1 => (bytesOf kv1.2).bind fun l1 => (loopM (lexer_kinds_L2 N kv1 l1) N (0, s1)).bind fun o2 => some (.inl o2))

def lexer_kinds (N : Nat) : Option (Option (List (Int × Int))) :=
  (msetQ (some [] : Option (List (Int × ByteArray))) 1 (⟨#[97, 98, 99, 100, 101, 102, 103, 104, 105, 106, 107, 108, 109, 110, 111, 112, 113, 114, 115, 116, 117, 118, 119, 120, 121, 122]⟩ : ByteArray)).bind fun mp1 => (msetQ mp1 2 (⟨#[48, 49, 50, 51, 52, 53, 54, 55, 56, 57]⟩ : ByteArray)).bind fun mp2 => (msetQ mp2 3 (⟨#[95]⟩ : ByteArray)).bind fun mp3 => (msetQ mp3 4 (⟨#[46]⟩ : ByteArray)).bind fun mp4 => (msetQ mp4 5 (⟨#[9, 10, 13, 32]⟩ : ByteArray)).bind fun mp5 => (msetQ mp5 6 (⟨#[35]⟩ : ByteArray)).bind fun mp6 => (msetQ mp6 7 (⟨#[34]⟩ : ByteArray)).bind fun mp7 => (msetQ mp7 8 (⟨#[59, 44, 40, 41, 43, 45, 42, 47, 37, 60, 61]⟩ : ByteArray)).bind fun mp8 => (mrange (lexer_kinds_L1 N) (Option.getD mp8 []) (some [] : Option (List (Int × Int)))).bind fun o1 => some o1

set_option maxHeartbeats 4000000 in
set_option maxRecDepth 100000 in
theorem lexer_kinds_ok {N : Nat} {m : Mem} {own : List Piece} {w : World} {r : Option (List (Int × Int))} (st : St m (own) w) (hr : lexer_kinds N = some r) : Calls Go.Proofs.Tryd.prog 49 #[] w fun e w' => ∃ (rq1 : Option Nat) (re1 : Array MapEntry) (rk1 : Nat) (m' : Mem), e = .returned (.map rq1) ∧ m.le m' ∧ St m' (mpiece rq1 re1 rk1 :: own) w' ∧ MapQ (fun n : Int => Value.int .u8 n) (cInt .i64) false m' rq1 re1 rk1 r := by
  unfold lexer_kinds at hr
  have hm := m.le_refl
  refine W_calls Go.Proofs.Tryd.func49 rfl Go.Proofs.Tryd.ntmps49 [] (by kernel_rfl) rfl ?_
  refine W_seq ?_
  refine W_region ?_
  refine WO_seg 1 [] (by kernel_rfl) (by kernel_rfl) ?_
  refine WO_end rfl ?_
  refine X_then ?_
  refine W_seq ?_
  refine W_region ?_
  refine WO_one rfl (One_makeMap (d := 6) (t := 68) (by kernel_rfl) rfl st ?_)
  clear st
  intro b1 w1 st
  refine WO_seg 1 [(1, .map (some b1))] (by kernel_rfl) (by kernel_rfl) ?_
  refine WO_end rfl ?_
  refine X_then ?_
  refine W_seq ?_
  refine W_seq ?_
  refine W_region ?_
  refine WO_one rfl (One_makeMap (d := 7) (t := 104) (by kernel_rfl) rfl st ?_)
  clear st
  intro b2 w2 st
  replace hr := bindS hr
  obtain ⟨mp1, hx1, hr⟩ := hr
  refine WO_one rfl (One_insert (ek := (fun n : Int => Value.int .i64 n)) (c := cStr) (agg := false) (k := 1) (yv := (⟨#[97, 98, 99, 100, 101, 102, 103, 104, 105, 106, 107, 108, 109, 110, 111, 112, 113, 114, 115, 116, 117, 118, 119, 120, 121, 122]⟩ : ByteArray)) (cs := [.string (⟨#[97, 98, 99, 100, 101, 102, 103, 104, 105, 106, 107, 108, 109, 110, 111, 112, 113, 114, 115, 116, 117, 118, 119, 120, 121, 122]⟩ : ByteArray)]) (z := (.string (⟨#[]⟩ : ByteArray))) (v := (.string (⟨#[97, 98, 99, 100, 101, 102, 103, 104, 105, 106, 107, 108, 109, 110, 111, 112, 113, 114, 115, 116, 117, 118, 119, 120, 121, 122]⟩ : ByteArray))) (kt := 3) (et := 9) (t := 104) (x := (.tmp 7)) (y := (.const (.int .i64 1))) (u := (.const (.string (⟨#[97, 98, 99, 100, 101, 102, 103, 104, 105, 106, 107, 108, 109, 110, 111, 112, 113, 114, 115, 116, 117, 118, 119, 120, 121, 122]⟩ : ByteArray)))) (by kernel_rfl) (show evL _ _ = some (.map (some b2)) from (by kernel_rfl)) (show evL _ _ = some (.int .i64 1) from (by kernel_rfl)) (show evL _ _ = some (.string (⟨#[97, 98, 99, 100, 101, 102, 103, 104, 105, 106, 107, 108, 109, 110, 111, 112, 113, 114, 115, 116, 117, 118, 119, 120, 121, 122]⟩ : ByteArray)) from (by kernel_rfl)) (by kernel_rfl) (keyInt (by kernel_rfl)) st (MapQ.new (fun n : Int => Value.int .i64 n) cStr false _ _) rfl rfl hx1 ?_)
  clear st
  intro es1 ck1 w3 st r1
  replace hr := bindS hr
  obtain ⟨mp2, hx2, hr⟩ := hr
  refine WO_one rfl (One_insert (ek := (fun n : Int => Value.int .i64 n)) (c := cStr) (agg := false) (k := 2) (yv := (⟨#[48, 49, 50, 51, 52, 53, 54, 55, 56, 57]⟩ : ByteArray)) (cs := [.string (⟨#[48, 49, 50, 51, 52, 53, 54, 55, 56, 57]⟩ : ByteArray)]) (z := (.string (⟨#[]⟩ : ByteArray))) (v := (.string (⟨#[48, 49, 50, 51, 52, 53, 54, 55, 56, 57]⟩ : ByteArray))) (kt := 3) (et := 9) (t := 104) (x := (.tmp 7)) (y := (.const (.int .i64 2))) (u := (.const (.string (⟨#[48, 49, 50, 51, 52, 53, 54, 55, 56, 57]⟩ : ByteArray)))) (by kernel_rfl) (show evL _ _ = some (.map (some b2)) from (by kernel_rfl)) (show evL _ _ = some (.int .i64 2) from (by kernel_rfl)) (show evL _ _ = some (.string (⟨#[48, 49, 50, 51, 52, 53, 54, 55, 56, 57]⟩ : ByteArray)) from (by kernel_rfl)) (by kernel_rfl) (keyInt (by kernel_rfl)) st r1 rfl rfl hx2 ?_)
  clear st
  intro es2 ck2 w4 st r2
  replace hr := bindS hr
  obtain ⟨mp3, hx3, hr⟩ := hr
  refine WO_one rfl (One_insert (ek := (fun n : Int => Value.int .i64 n)) (c := cStr) (agg := false) (k := 3) (yv := (⟨#[95]⟩ : ByteArray)) (cs := [.string (⟨#[95]⟩ : ByteArray)]) (z := (.string (⟨#[]⟩ : ByteArray))) (v := (.string (⟨#[95]⟩ : ByteArray))) (kt := 3) (et := 9) (t := 104) (x := (.tmp 7)) (y := (.const (.int .i64 3))) (u := (.const (.string (⟨#[95]⟩ : ByteArray)))) (by kernel_rfl) (show evL _ _ = some (.map (some b2)) from (by kernel_rfl)) (show evL _ _ = some (.int .i64 3) from (by kernel_rfl)) (show evL _ _ = some (.string (⟨#[95]⟩ : ByteArray)) from (by kernel_rfl)) (by kernel_rfl) (keyInt (by kernel_rfl)) st r2 rfl rfl hx3 ?_)
  clear st
  intro es3 ck3 w5 st r3
  replace hr := bindS hr
  obtain ⟨mp4, hx4, hr⟩ := hr
  refine WO_one rfl (One_insert (ek := (fun n : Int => Value.int .i64 n)) (c := cStr) (agg := false) (k := 4) (yv := (⟨#[46]⟩ : ByteArray)) (cs := [.string (⟨#[46]⟩ : ByteArray)]) (z := (.string (⟨#[]⟩ : ByteArray))) (v := (.string (⟨#[46]⟩ : ByteArray))) (kt := 3) (et := 9) (t := 104) (x := (.tmp 7)) (y := (.const (.int .i64 4))) (u := (.const (.string (⟨#[46]⟩ : ByteArray)))) (by kernel_rfl) (show evL _ _ = some (.map (some b2)) from (by kernel_rfl)) (show evL _ _ = some (.int .i64 4) from (by kernel_rfl)) (show evL _ _ = some (.string (⟨#[46]⟩ : ByteArray)) from (by kernel_rfl)) (by kernel_rfl) (keyInt (by kernel_rfl)) st r3 rfl rfl hx4 ?_)
  clear st
  intro es4 ck4 w6 st r4
  replace hr := bindS hr
  obtain ⟨mp5, hx5, hr⟩ := hr
  refine WO_one rfl (One_insert (ek := (fun n : Int => Value.int .i64 n)) (c := cStr) (agg := false) (k := 5) (yv := (⟨#[9, 10, 13, 32]⟩ : ByteArray)) (cs := [.string (⟨#[9, 10, 13, 32]⟩ : ByteArray)]) (z := (.string (⟨#[]⟩ : ByteArray))) (v := (.string (⟨#[9, 10, 13, 32]⟩ : ByteArray))) (kt := 3) (et := 9) (t := 104) (x := (.tmp 7)) (y := (.const (.int .i64 5))) (u := (.const (.string (⟨#[9, 10, 13, 32]⟩ : ByteArray)))) (by kernel_rfl) (show evL _ _ = some (.map (some b2)) from (by kernel_rfl)) (show evL _ _ = some (.int .i64 5) from (by kernel_rfl)) (show evL _ _ = some (.string (⟨#[9, 10, 13, 32]⟩ : ByteArray)) from (by kernel_rfl)) (by kernel_rfl) (keyInt (by kernel_rfl)) st r4 rfl rfl hx5 ?_)
  clear st
  intro es5 ck5 w7 st r5
  replace hr := bindS hr
  obtain ⟨mp6, hx6, hr⟩ := hr
  refine WO_one rfl (One_insert (ek := (fun n : Int => Value.int .i64 n)) (c := cStr) (agg := false) (k := 6) (yv := (⟨#[35]⟩ : ByteArray)) (cs := [.string (⟨#[35]⟩ : ByteArray)]) (z := (.string (⟨#[]⟩ : ByteArray))) (v := (.string (⟨#[35]⟩ : ByteArray))) (kt := 3) (et := 9) (t := 104) (x := (.tmp 7)) (y := (.const (.int .i64 6))) (u := (.const (.string (⟨#[35]⟩ : ByteArray)))) (by kernel_rfl) (show evL _ _ = some (.map (some b2)) from (by kernel_rfl)) (show evL _ _ = some (.int .i64 6) from (by kernel_rfl)) (show evL _ _ = some (.string (⟨#[35]⟩ : ByteArray)) from (by kernel_rfl)) (by kernel_rfl) (keyInt (by kernel_rfl)) st r5 rfl rfl hx6 ?_)
  clear st
  intro es6 ck6 w8 st r6
  replace hr := bindS hr
  obtain ⟨mp7, hx7, hr⟩ := hr
  refine WO_one rfl (One_insert (ek := (fun n : Int => Value.int .i64 n)) (c := cStr) (agg := false) (k := 7) (yv := (⟨#[34]⟩ : ByteArray)) (cs := [.string (⟨#[34]⟩ : ByteArray)]) (z := (.string (⟨#[]⟩ : ByteArray))) (v := (.string (⟨#[34]⟩ : ByteArray))) (kt := 3) (et := 9) (t := 104) (x := (.tmp 7)) (y := (.const (.int .i64 7))) (u := (.const (.string (⟨#[34]⟩ : ByteArray)))) (by kernel_rfl) (show evL _ _ = some (.map (some b2)) from (by kernel_rfl)) (show evL _ _ = some (.int .i64 7) from (by kernel_rfl)) (show evL _ _ = some (.string (⟨#[34]⟩ : ByteArray)) from (by kernel_rfl)) (by kernel_rfl) (keyInt (by kernel_rfl)) st r6 rfl rfl hx7 ?_)
  clear st
  intro es7 ck7 w9 st r7
  replace hr := bindS hr
  obtain ⟨mp8, hx8, hr⟩ := hr
  refine WO_one rfl (One_insert (ek := (fun n : Int => Value.int .i64 n)) (c := cStr) (agg := false) (k := 8) (yv := (⟨#[59, 44, 40, 41, 43, 45, 42, 47, 37, 60, 61]⟩ : ByteArray)) (cs := [.string (⟨#[59, 44, 40, 41, 43, 45, 42, 47, 37, 60, 61]⟩ : ByteArray)]) (z := (.string (⟨#[]⟩ : ByteArray))) (v := (.string (⟨#[59, 44, 40, 41, 43, 45, 42, 47, 37, 60, 61]⟩ : ByteArray))) (kt := 3) (et := 9) (t := 104) (x := (.tmp 7)) (y := (.const (.int .i64 8))) (u := (.const (.string (⟨#[59, 44, 40, 41, 43, 45, 42, 47, 37, 60, 61]⟩ : ByteArray)))) (by kernel_rfl) (show evL _ _ = some (.map (some b2)) from (by kernel_rfl)) (show evL _ _ = some (.int .i64 8) from (by kernel_rfl)) (show evL _ _ = some (.string (⟨#[59, 44, 40, 41, 43, 45, 42, 47, 37, 60, 61]⟩ : ByteArray)) from (by kernel_rfl)) (by kernel_rfl) (keyInt (by kernel_rfl)) st r7 rfl rfl hx8 ?_)
  clear st
  intro es8 ck8 w10 st r8
  refine WO_seg 1 [(8, .map (some b2))] (by kernel_rfl) (by kernel_rfl) ?_
  refine WO_one rfl (One_range (ek := (fun n : Int => Value.int .i64 n)) (c := cStr) (agg := false) (d := 9) (t := 104) (kt := 3) (et := 9) (x := (.tmp 8)) (by kernel_rfl) rfl (show evL _ _ = some (.map (some b2)) from (by kernel_rfl)) (by kernel_rfl) st r8 ?_)
  clear st
  intro b3 w11 st hi1
  refine WO_end rfl ?_
  refine X_then ?_
  refine W_block ?_
  replace hr := bindS hr
  obtain ⟨out1, hr, hrKu1⟩ := hr
  refine W_cut (.exit 0) (fun L' w' => ∃ (o1 : (Option (List (Int × Int)))) (es9 : Array MapEntry) (ck9 : Nat) (sn1 : Array Nat) (rem1 : List (Int × ByteArray)) (m1 : Mem), o1 = out1 ∧ L' = [(1, .map (some b1))] ∧ m.le m1 ∧ St m1 (mpiece (some b2) es8 ck8 :: mpiece (some b1) es9 ck9 :: itpiece b3 (some b2) ck8 sn1 :: own) w' ∧ MapQ (fun n : Int => Value.int .i64 n) cStr false m1 (some b2) es8 ck8 mp8 ∧ MapQ (fun n : Int => Value.int .u8 n) (cInt .i64) false m1 (some b1) es9 ck9 o1 ∧ ItR (fun n : Int => Value.int .i64 n) cStr false m1 es8 sn1 rem1) ?_ ?_
  · clear hr st
    rintro _ w12 ⟨o1, es9, ck9, sn1, rem1, m1, rfl, rfl, hm, st, r8, r9, hi2⟩
    have hr := hrKu1
    clear hrKu1
    refine X_block_eq ?_
    refine X_then ?_
    refine W_seq ?_
    refine W_region ?_
    refine WO_seg 2 [(0, .map (some b1))] (by kernel_rfl) (by kernel_rfl) ?_
    refine WO_end rfl ?_
    have st := st.front2
    have st := st.tail
    refine X_then ?_
    refine W_ret ?_
    obtain rfl := Option.some.inj hr
    refine X_ret [.tmp 0] [.map (some b1)] rfl (ResAll.cons (ResAt.tmp (by kernel_rfl)) ResAll.nil) ?_
    have st := st.tail
    exact ⟨(some b1), es9, ck9, m1, rfl, hm, st, r9⟩
  intro K0_u1
  clear hrKu1
  have st := st.front2
  have st := st.front2
  refine W_env _ (by kernel_rfl) (W_loop (fun k1 L' w' => ∃ (s1 : (Option (List (Int × Int)))) (es10 : Array MapEntry) (ck10 : Nat) (sn2 : Array Nat) (rem2 : List (Int × ByteArray)) (m2 : Mem), LoopE (lexer_kinds_L1 N) rem2 s1 out1 k1 ∧ L' = [(1, .map (some b1)), (9, .pointer (some ⟨b3, 0, none⟩))] ∧ m.le m2 ∧ St m2 (mpiece (some b2) es8 ck8 :: mpiece (some b1) es10 ck10 :: itpiece b3 (some b2) ck8 sn2 :: own) w' ∧ MapQ (fun n : Int => Value.int .i64 n) cStr false m2 (some b2) es8 ck8 mp8 ∧ MapQ (fun n : Int => Value.int .u8 n) (cInt .i64) false m2 (some b1) es10 ck10 s1 ∧ ItR (fun n : Int => Value.int .i64 n) cStr false m2 es8 sn2 rem2) (List.length (Option.getD mp8 []) + 1) ⟨(some [] : Option (List (Int × Int))), #[], 0, #[], (Option.getD mp8 []), m, LoopE.start hr, rfl, hm, st, r8, (MapQ.new (fun n : Int => Value.int .u8 n) (cInt .i64) false _ _), hi1⟩ ?_)
  clear st hr
  rintro k1 _ w13 ⟨s1, es10, ck10, sn2, rem2, m2, hL, rfl, hm, st, r8, r10, hi3⟩
  rcases k1 with _ | k1
  · exact LoopE.zero hL
  · refine W_seq ?_
    refine W_region ?_
    have st := st.front2
    refine WO_one rfl (One_next (ek := (fun n : Int => Value.int .i64 n)) (c := cStr) (agg := false) (d := 10) (x := (.tmp 9)) (by kernel_rfl) rfl (show evL _ _ = some (.pointer (some ⟨b3, 0, none⟩)) from (by kernel_rfl)) st r8 hi3 ?_ ?_)
    · intro hx9 w14 st
      obtain ⟨qu1, hr, hSu1, hBu1⟩ := hL.nil hx9
      clear hL
      unfold lexer_kinds_L1 at hr
      dsimp only at hr
      refine WO_seg 1 [(11, .bool false)] (by kernel_rfl) (by kernel_rfl) ?_
      refine WO_end rfl ?_
      refine X_then ?_
      refine W_seq ?_
      refine W_cond false (by kernel_rfl) (fun h => Bool.noConfusion h) ?_
      intro _
      refine W_exit ?_
      refine X_then_exit ?_
      obtain rfl := Option.some.inj hr
      have ho := hBu1 _ rfl
      have st := st.front2
      have st := st.front2
      refine X_then_exit ?_
      exact X_env _ (by kernel_rfl) (K0_u1 _ _ ⟨s1, es10, ck10, sn2, rem2, m2, ho, rfl, hm, st, r8, r10, hi3⟩)
    · rintro kv1 rem3 sn3 cs1 w15 hx10 rfl st hi4 he1
      obtain ⟨qu1, hr, hSu1, hBu1⟩ := hL.cons hx10
      clear hL
      unfold lexer_kinds_L1 at hr
      dsimp only at hr
      refine WO_seg 1 [(11, .bool true)] (by kernel_rfl) (by kernel_rfl) ?_
      refine WO_end rfl ?_
      refine X_then ?_
      refine W_seq ?_
      refine W_cond true (by kernel_rfl) ?_ (fun h => Bool.noConfusion h)
      intro _
      refine W_skip ?_
      refine X_then ?_
      refine W_block ?_
      refine W_seq ?_
      refine W_region ?_
      have st := st.front1
      have st := st.front1
      refine WO_one rfl (One_entry (ek := (fun n : Int => Value.int .i64 n)) (c := cStr) (agg := false) (d := 12) (x := (.tmp 9)) (K := .int .i64 kv1.1) (V := .string kv1.2) (by kernel_rfl) rfl (show evL _ _ = some (.pointer (some ⟨b3, 0, none⟩)) from (by kernel_rfl)) st r8 he1 ?_)
      refine WO_seg 4 [(2, .int .i64 kv1.1), (3, .string kv1.2)] (by kernel_rfl) (by kernel_rfl) ?_
      refine WO_end rfl ?_
      refine X_then ?_
      refine W_seq ?_
      refine W_region ?_
      refine WO_seg 1 [(15, .string kv1.2)] (by kernel_rfl) (by kernel_rfl) ?_
      replace hr := bindS hr
      obtain ⟨l1, hx11, hr⟩ := hr
      refine WO_one rfl (One_strBytes (d := 16) (t1 := 9) (t2 := 43) (e := 5) (x := (.tmp 15)) (by kernel_rfl) rfl (show evL _ _ = some (.string kv1.2) from (by kernel_rfl)) (by kernel_rfl) (by kernel_rfl) st hx11 ?_)
      clear st
      intro b4 c1 m3 w16 hle1 st r11
      have hm := Mem.le_trans hm hle1
      have hi4 := hi4.mono hle1
      have r8 := r8.mono hle1
      have r10 := r10.mono hle1
      refine WO_seg 2 [(17, .int .i64 (List.length l1 : Int)), (18, .int .i64 0)] (by kernel_rfl) (by kernel_rfl) ?_
      refine WO_end rfl ?_
      refine X_then ?_
      refine W_block ?_
      replace hr := bindS hr
      obtain ⟨out2, hr, hrKu2⟩ := hr
      refine W_cut (.exit 2) (fun L' w' => ∃ (o2 : (Option (List (Int × Int)))) (es11 : Array MapEntry) (ck11 : Nat) (m4 : Mem), o2 = out2 ∧ L' = [(1, .map (some b1)), (9, .pointer (some ⟨b3, 0, none⟩))] ∧ m.le m4 ∧ St m4 (mpiece (some b2) es8 ck8 :: mpiece (some b1) es11 ck11 :: itpiece b3 (some b2) ck8 sn3 :: own) w' ∧ MapQ (fun n : Int => Value.int .i64 n) cStr false m4 (some b2) es8 ck8 mp8 ∧ MapQ (fun n : Int => Value.int .u8 n) (cInt .i64) false m4 (some b1) es11 ck11 o2 ∧ ItR (fun n : Int => Value.int .i64 n) cStr false m4 es8 sn3 rem3) ?_ ?_
      · clear hr st
        rintro _ w17 ⟨o2, es11, ck11, m4, rfl, rfl, hm, st, r8, r12, hi4⟩
        have hr := hrKu2
        clear hrKu2
        refine X_block_eq ?_
        refine X_block ?_
        obtain rfl := Option.some.inj hr
        have hL := hSu1 _ rfl
        have st := st.front2
        have st := st.front2
        have st := st.front2
        exact X_env _ (by kernel_rfl) (X_round k1 (Nat.lt_succ_self _) ⟨o2, es11, ck11, sn3, rem3, m4, hL, rfl, hm, st, r8, r12, hi4⟩)
      intro K2_u2
      clear hrKu2
      have st := st.front2
      have st := st.front2
      refine W_env _ (by kernel_rfl) (W_loop (fun k2 L' w' => ∃ (s2 : Int × (Option (List (Int × Int)))) (es12 : Array MapEntry) (ck12 : Nat) (m5 : Mem), loopM (lexer_kinds_L2 N kv1 l1) k2 s2 = some out2 ∧ L' = [(1, .map (some b1)), (2, .int .i64 kv1.1), (9, .pointer (some ⟨b3, 0, none⟩)), (16, .slice (some ⟨b4, 0, none⟩) (List.length l1) c1), (17, .int .i64 (List.length l1 : Int)), (18, .int .i64 s2.1)] ∧ m.le m5 ∧ St m5 (mpiece (some b2) es8 ck8 :: mpiece (some b1) es12 ck12 :: itpiece b3 (some b2) ck8 sn3 :: own) w' ∧ RepS cU8 m5 (some ⟨b4, 0, none⟩) c1 l1 ∧ MapQ (fun n : Int => Value.int .i64 n) cStr false m5 (some b2) es8 ck8 mp8 ∧ MapQ (fun n : Int => Value.int .u8 n) (cInt .i64) false m5 (some b1) es12 ck12 s2.2 ∧ ItR (fun n : Int => Value.int .i64 n) cStr false m5 es8 sn3 rem3) N ⟨(0, s1), es10, ck10, m3, hr, rfl, hm, st, r11, r8, r10, hi4⟩ ?_)
      clear st hr
      rintro k2 _ w18 ⟨s2, es12, ck12, m5, hL, rfl, hm, st, r11, r8, r13, hi4⟩
      rcases k2 with _ | k2
      · exact loopM_zero hL
      · obtain ⟨qu2, hr, hSu2, hBu2⟩ := loopM_succ hL
        clear hL
        unfold lexer_kinds_L2 at hr
        refine W_seq ?_
        refine W_region ?_
        refine WO_seg 1 [(19, .bool (decide (s2.1 < (List.length l1 : Int))))] (by kernel_rfl) (by kernel_rfl) ?_
        refine WO_end rfl ?_
        refine X_then ?_
        refine W_seq ?_
        refine W_cond (decide (s2.1 < (List.length l1 : Int))) (by kernel_rfl) ?_ ?_
        · intro hc
          rw [if_pos hc] at hr
          refine W_skip ?_
          refine X_then ?_
          refine W_seq ?_
          refine W_block ?_
          refine W_seq ?_
          refine W_region ?_
          replace hr := bindS hr
          obtain ⟨x1, hx12, hr⟩ := hr
          refine WO_one rfl (One_index (d := 20) (t := 43) (e := 5) (x := (.tmp 16)) (y := (.tmp 18)) cU8 (by kernel_rfl) rfl (show evL _ _ = some (.slice (some ⟨b4, 0, none⟩) (List.length l1) c1) from (by kernel_rfl)) (show evL _ _ = some (.int .i64 s2.1) from (by kernel_rfl)) (by kernel_rfl) r11 hx12 ?_)
          rintro b5 f1 cs2 rfl hq1
          refine WO_one rfl (One_load_row (d := 21) (t := 5) (x := (.tmp 20)) (.int .u8 (x1.toNat : Int)) (by kernel_rfl) rfl (show evL _ _ = some (.pointer (some ⟨b5, f1, none⟩)) from (by kernel_rfl)) st hq1 (by kernel_rfl) ?_)
          refine WO_seg 1 [(5, .int .u8 (x1.toNat : Int))] (by kernel_rfl) (by kernel_rfl) ?_
          refine WO_end rfl ?_
          refine X_then ?_
          refine W_region ?_
          refine WO_seg 3 [(22, .map (some b1)), (23, .int .u8 (x1.toNat : Int)), (24, .int .i64 kv1.1)] (by kernel_rfl) (by kernel_rfl) ?_
          have st := st.front1
          replace hr := bindS hr
          obtain ⟨mp9, hx13, hr⟩ := hr
          refine WO_one rfl (One_mapUpdate (ek := (fun n : Int => Value.int .u8 n)) (c := (cInt .i64)) (agg := false) (k := (x1.toNat : Int)) (yv := kv1.1) (cs := [.int .i64 kv1.1]) (z := (.int .i64 0)) (v := (.int .i64 kv1.1)) (kt := 5) (et := 3) (t := 68) (x := (.tmp 22)) (y := (.tmp 23)) (u := (.tmp 24)) (by kernel_rfl) (show evL _ _ = some (.map (some b1)) from (by kernel_rfl)) (show evL _ _ = some (.int .u8 (x1.toNat : Int)) from (by kernel_rfl)) (show evL _ _ = some (.int .i64 kv1.1) from (by kernel_rfl)) (by kernel_rfl) (keyInt (by kernel_rfl)) st r13 rfl rfl hx13 ?_)
          clear st
          intro es13 ck13 w19 st r14
          refine WO_end rfl ?_
          refine X_block ?_
          refine X_then ?_
          refine W_region ?_
          refine WO_seg 2 [(18, .int .i64 (IntKind.wrap .i64 (s2.1 + 1)))] (by kernel_rfl) (by kernel_rfl) ?_
          refine WO_end rfl ?_
          obtain rfl := Option.some.inj hr
          have hL := hSu2 _ rfl
          have st := st.front2
          have st := st.front1
          have st := st.front2
          exact X_env _ (by kernel_rfl) (X_round k2 (Nat.lt_succ_self _) ⟨(IntKind.wrap .i64 (s2.1 + 1), mp9), es13, ck13, m5, hL, rfl, hm, st, r11, r8, r14, hi4⟩)
        · intro hc
          rw [if_neg (not_true hc)] at hr
          refine W_exit ?_
          refine X_then_exit ?_
          obtain rfl := Option.some.inj hr
          have ho := hBu2 _ rfl
          have st := st.front2
          have st := st.front2
          have st := st.front2
          refine X_then_exit ?_
          exact X_env _ (by kernel_rfl) (K2_u2 _ _ ⟨s2.2, es12, ck12, m5, ho, rfl, hm, st, r8, r13, hi4⟩)

def lexer_span_L2 (N : Nat) (p0 : ByteArray) (p2 : Option (List (Int × Int))) (p3 : List Int) (s1 : Int) (s2 : Bool × Int) : Option ((Bool × Int) ⊕ ((Bool))) :=
  if (decide (s2.2 < (List.length p3 : Int))) = true then ((idx p3 s2.2).bind fun x1 => (if s2.1 = true then (some true) else ((idxB p0 s1).bind fun x2 => some (((mgetQ p2 (x2.toNat : Int)).getD 0) == x1)) : Option (Bool)).bind fun o3 => some (.inl (o3, IntKind.wrap .i64 (s2.2 + 1)))) else (some (.inr s2.1))

def lexer_span_L1 (N : Nat) (p0 : ByteArray) (p2 : Option (List (Int × Int))) (p3 : List Int) (s1 : Int) : Option ((Int) ⊕ ((Int))) :=
  if (decide (s1 < (ByteArray.size p0 : Int))) = true then ((loopM (lexer_span_L2 N p0 p2 p3 s1) N (false, 0)).bind fun o2 => if (!o2) = true then (some (.inr s1)) else (some (.inl (IntKind.wrap .i64 (s1 + 1))))) else (some (.inr s1))

def lexer_span (N : Nat) (p0 : ByteArray) (p1 : Int) (p2 : Option (List (Int × Int))) (p3 : List Int) : Option (Int) :=
  (loopM (lexer_span_L1 N p0 p2 p3) N p1).bind fun o1 => some o1

set_option maxHeartbeats 4000000 in
set_option maxRecDepth 100000 in
theorem lexer_span_ok {N : Nat} {m : Mem} {own : List Piece} {w : World} {p0 : ByteArray} {p1 : Int} {p2 : Option (List (Int × Int))} {p3 : List Int} {q1 : Option Nat} {es1 : Array MapEntry} {ck1 : Nat} {a1 : Option Addr} {c1 : Nat} {r : Int} (st : St m (mpiece q1 es1 ck1 :: own) w) (r1 : MapQ (fun n : Int => Value.int .u8 n) (cInt .i64) false m q1 es1 ck1 p2) (r2 : RepS (cInt .i64) m a1 c1 p3) (hr : lexer_span N p0 p1 p2 p3 = some r) : Calls Go.Proofs.Tryd.prog 50 #[.string p0, .int .i64 p1, .map q1, .slice a1 (List.length p3) c1] w fun e w' => ∃ (m' : Mem), e = .returned (.int .i64 r) ∧ m.le m' ∧ St m' (mpiece q1 es1 ck1 :: own) w' := by
  unfold lexer_span at hr
  have hm := m.le_refl
  refine W_calls Go.Proofs.Tryd.func50 rfl Go.Proofs.Tryd.ntmps50 [(0, .string p0), (1, .int .i64 p1), (2, .map q1), (3, .slice a1 (List.length p3) c1)] (by kernel_rfl) rfl ?_
  refine W_seq ?_
  refine W_region ?_
  refine WO_seg 1 [] (by kernel_rfl) (by kernel_rfl) ?_
  refine WO_end rfl ?_
  refine X_then ?_
  refine W_seq ?_
  refine W_block ?_
  replace hr := bindS hr
  obtain ⟨out1, hr, hrKu1⟩ := hr
  refine W_cut (.exit 0) (fun L' w' => ∃ (o1 : Int) (m1 : Mem), o1 = out1 ∧ L' = [(1, .int .i64 o1)] ∧ m.le m1 ∧ St m1 (mpiece q1 es1 ck1 :: own) w' ∧ MapQ (fun n : Int => Value.int .u8 n) (cInt .i64) false m1 q1 es1 ck1 p2) ?_ ?_
  · clear hr st
    rintro _ w1 ⟨o1, m1, rfl, rfl, hm, st, r1⟩
    have hr := hrKu1
    clear hrKu1
    refine X_block_eq ?_
    refine X_then ?_
    refine W_seq ?_
    refine W_region ?_
    refine WO_seg 2 [(8, .int .i64 o1)] (by kernel_rfl) (by kernel_rfl) ?_
    refine WO_end rfl ?_
    refine X_then ?_
    refine W_ret ?_
    obtain rfl := Option.some.inj hr
    refine X_ret [.tmp 8] [.int .i64 o1] rfl (ResAll.cons (ResAt.tmp (by kernel_rfl)) ResAll.nil) ?_
    exact ⟨m1, rfl, hm, st⟩
  intro K0_u1
  clear hrKu1
  refine W_env _ (by kernel_rfl) (W_loop (fun k1 L' w' => ∃ (s1 : Int) (m2 : Mem), loopM (lexer_span_L1 N p0 p2 p3) k1 s1 = some out1 ∧ L' = [(0, .string p0), (1, .int .i64 s1), (2, .map q1), (3, .slice a1 (List.length p3) c1)] ∧ m.le m2 ∧ St m2 (mpiece q1 es1 ck1 :: own) w' ∧ RepS (cInt .i64) m2 a1 c1 p3 ∧ MapQ (fun n : Int => Value.int .u8 n) (cInt .i64) false m2 q1 es1 ck1 p2) N ⟨p1, m, hr, rfl, hm, st, r2, r1⟩ ?_)
  clear st hr
  rintro k1 _ w2 ⟨s1, m2, hL, rfl, hm, st, r2, r1⟩
  rcases k1 with _ | k1
  · exact loopM_zero hL
  · obtain ⟨qu1, hr, hSu1, hBu1⟩ := loopM_succ hL
    clear hL
    unfold lexer_span_L1 at hr
    refine W_seq ?_
    refine W_seq ?_
    refine W_region ?_
    refine WO_seg 4 [(15, .bool (decide (s1 < (ByteArray.size p0 : Int))))] (by kernel_rfl) (by kernel_rfl) ?_
    refine WO_end rfl ?_
    refine X_then ?_
    refine W_cond (decide (s1 < (ByteArray.size p0 : Int))) (by kernel_rfl) ?_ ?_
    · intro hc
      rw [if_pos hc] at hr
      refine W_skip ?_
      refine X_then ?_
      refine W_block ?_
      refine W_seq ?_
      refine W_region ?_
      refine WO_seg 1 [(9, .bool false)] (by kernel_rfl) (by kernel_rfl) ?_
      refine WO_end rfl ?_
      refine X_then ?_
      refine W_seq ?_
      refine W_seq ?_
      refine W_region ?_
      refine WO_seg 3 [(16, .slice a1 (List.length p3) c1), (17, .int .i64 (List.length p3 : Int)), (18, .int .i64 0)] (by kernel_rfl) (by kernel_rfl) ?_
      refine WO_end rfl ?_
      refine X_then ?_
      refine W_block ?_
      replace hr := bindS hr
      obtain ⟨out2, hr, hrKu2⟩ := hr
      refine W_cut (.exit 2) (fun L' w' => ∃ (o2 : Bool) (m3 : Mem), o2 = out2 ∧ L' = [(0, .string p0), (1, .int .i64 s1), (2, .map q1), (3, .slice a1 (List.length p3) c1), (9, .bool o2)] ∧ m.le m3 ∧ St m3 (mpiece q1 es1 ck1 :: own) w' ∧ RepS (cInt .i64) m3 a1 c1 p3 ∧ MapQ (fun n : Int => Value.int .u8 n) (cInt .i64) false m3 q1 es1 ck1 p2) ?_ ?_
      · clear hr st
        rintro _ w3 ⟨o2, m3, rfl, rfl, hm, st, r2, r1⟩
        have hr := hrKu2
        clear hrKu2
        refine X_block_eq ?_
        refine X_then ?_
        refine W_seq ?_
        refine W_seq ?_
        refine W_region ?_
        refine WO_seg 2 [(34, .bool (!o2))] (by kernel_rfl) (by kernel_rfl) ?_
        refine WO_end rfl ?_
        refine X_then ?_
        refine W_cond (!o2) (by kernel_rfl) ?_ ?_
        · intro hc
          rw [if_pos hc] at hr
          refine W_exit ?_
          refine X_then_exit ?_
          refine X_block_ne rfl ?_
          obtain rfl := Option.some.inj hr
          have ho := hBu1 _ rfl
          refine X_then_exit ?_
          exact X_env _ (by kernel_rfl) (K0_u1 _ _ ⟨s1, m3, ho, rfl, hm, st, r1⟩)
        · intro hc
          rw [if_neg (not_true hc)] at hr
          refine W_skip ?_
          refine X_then ?_
          refine W_region ?_
          refine WO_seg 3 [(1, .int .i64 (IntKind.wrap .i64 (s1 + 1)))] (by kernel_rfl) (by kernel_rfl) ?_
          refine WO_end rfl ?_
          refine X_block ?_
          obtain rfl := Option.some.inj hr
          have hL := hSu1 _ rfl
          exact X_env _ (by kernel_rfl) (X_round k1 (Nat.lt_succ_self _) ⟨IntKind.wrap .i64 (s1 + 1), m3, hL, rfl, hm, st, r2, r1⟩)
      intro K2_u2
      clear hrKu2
      refine W_env _ (by kernel_rfl) (W_loop (fun k2 L' w' => ∃ (s2 : Bool × Int) (m4 : Mem), loopM (lexer_span_L2 N p0 p2 p3 s1) k2 s2 = some out2 ∧ L' = [(0, .string p0), (1, .int .i64 s1), (2, .map q1), (3, .slice a1 (List.length p3) c1), (9, .bool s2.1), (16, .slice a1 (List.length p3) c1), (17, .int .i64 (List.length p3 : Int)), (18, .int .i64 s2.2)] ∧ m.le m4 ∧ St m4 (mpiece q1 es1 ck1 :: own) w' ∧ RepS (cInt .i64) m4 a1 c1 p3 ∧ MapQ (fun n : Int => Value.int .u8 n) (cInt .i64) false m4 q1 es1 ck1 p2) N ⟨(false, 0), m2, hr, rfl, hm, st, r2, r1⟩ ?_)
      clear st hr
      rintro k2 _ w4 ⟨s2, m4, hL, rfl, hm, st, r2, r1⟩
      rcases k2 with _ | k2
      · exact loopM_zero hL
      · obtain ⟨qu2, hr, hSu2, hBu2⟩ := loopM_succ hL
        clear hL
        unfold lexer_span_L2 at hr
        refine W_seq ?_
        refine W_region ?_
        refine WO_seg 1 [(19, .bool (decide (s2.2 < (List.length p3 : Int))))] (by kernel_rfl) (by kernel_rfl) ?_
        refine WO_end rfl ?_
        refine X_then ?_
        refine W_seq ?_
        refine W_cond (decide (s2.2 < (List.length p3 : Int))) (by kernel_rfl) ?_ ?_
        · intro hc
          rw [if_pos hc] at hr
          refine W_skip ?_
          refine X_then ?_
          refine W_seq ?_
          refine W_block ?_
          refine W_seq ?_
          refine W_region ?_
          replace hr := bindS hr
          obtain ⟨x1, hx1, hr⟩ := hr
          refine WO_one rfl (One_index (d := 20) (t := 26) (e := 3) (x := (.tmp 16)) (y := (.tmp 18)) (cInt .i64) (by kernel_rfl) rfl (show evL _ _ = some (.slice a1 (List.length p3) c1) from (by kernel_rfl)) (show evL _ _ = some (.int .i64 s2.2) from (by kernel_rfl)) (by kernel_rfl) r2 hx1 ?_)
          rintro b1 f1 cs1 rfl hq1
          refine WO_one rfl (One_load_row (d := 21) (t := 3) (x := (.tmp 20)) (.int .i64 x1) (by kernel_rfl) rfl (show evL _ _ = some (.pointer (some ⟨b1, f1, none⟩)) from (by kernel_rfl)) st hq1 (by kernel_rfl) ?_)
          refine WO_seg 1 [(11, .int .i64 x1)] (by kernel_rfl) (by kernel_rfl) ?_
          refine WO_end rfl ?_
          refine X_then ?_
          refine W_region ?_
          replace hr := bindS hr
          obtain ⟨o3, hr, hrK⟩ := hr
          refine WO_cut (j := 11) (fun L' w' => ∃ (m5 : Mem), L' = [(0, .string p0), (1, .int .i64 s1), (2, .map q1), (3, .slice a1 (List.length p3) c1), (9, .bool o3), (16, .slice a1 (List.length p3) c1), (17, .int .i64 (List.length p3 : Int)), (18, .int .i64 s2.2)] ∧ m.le m5 ∧ St m5 (mpiece q1 es1 ck1 :: own) w' ∧ RepS (cInt .i64) m5 a1 c1 p3 ∧ MapQ (fun n : Int => Value.int .u8 n) (cInt .i64) false m5 q1 es1 ck1 p2) ?_ ?_
          · clear hr st
            have hr := hrK
            clear hrK
            rintro _ w5 ⟨m5, rfl, hm, st, r2, r1⟩
            refine WO_end rfl ?_
            refine X_block ?_
            refine X_then ?_
            refine W_region ?_
            refine WO_seg 2 [(18, .int .i64 (IntKind.wrap .i64 (s2.2 + 1)))] (by kernel_rfl) (by kernel_rfl) ?_
            refine WO_end rfl ?_
            obtain rfl := Option.some.inj hr
            have hL := hSu2 _ rfl
            exact X_env _ (by kernel_rfl) (X_round k2 (Nat.lt_succ_self _) ⟨(o3, IntKind.wrap .i64 (s2.2 + 1)), m5, hL, rfl, hm, st, r2, r1⟩)
          · intro K
            clear hrK
            refine WO_seg 2 [(23, .bool s2.1)] (by kernel_rfl) (by kernel_rfl) ?_
            rcases bcases s2.1 with hc | hc
            · rw [if_pos hc] at hr
              refine WO_fact (t := 23) (b := true) s2.1 (by kernel_rfl) hc ?_
              refine WO_seg 9 [(9, .bool true)] (by kernel_rfl) (by kernel_rfl) ?_
              obtain rfl := Option.some.inj hr
              exact WO_env _ (by kernel_rfl) (K _ _ ⟨m4, rfl, hm, st, r2, r1⟩)
            · rw [if_neg (not_true hc)] at hr
              refine WO_fact (t := 23) (b := false) s2.1 (by kernel_rfl) hc ?_
              refine WO_seg 3 [(24, .map q1), (25, .string p0), (26, .int .i64 s1)] (by kernel_rfl) (by kernel_rfl) ?_
              replace hr := bindS hr
              obtain ⟨x2, hx2, hr⟩ := hr
              refine WO_one rfl (One_strIndex (d := 27) (t := 9) (x := (.tmp 25)) (y := (.tmp 26)) (by kernel_rfl) rfl (show evL _ _ = some (.string p0) from (by kernel_rfl)) (show evL _ _ = some (.int .i64 s1) from (by kernel_rfl)) (by kernel_rfl) hx2 ?_)
              refine WO_one rfl (One_lookup (ek := (fun n : Int => Value.int .u8 n)) (c := (cInt .i64)) (agg := false) (k := (x2.toNat : Int)) (zx := 0) (zcs := [.int .i64 0]) (z := (.int .i64 0)) (kt := 5) (et := 3) (d := 28) (t := 68) (x := (.tmp 24)) (y := (.tmp 27)) (ok := false) (by kernel_rfl) rfl (show evL _ _ = some (.map q1) from (by kernel_rfl)) (show evL _ _ = some (.int .u8 (x2.toNat : Int)) from (by kernel_rfl)) (by kernel_rfl) (keyInt (by kernel_rfl)) st.head r1 rfl rfl ?_)
              rintro cs2 rfl
              refine WO_seg 4 [(9, .bool (((mgetQ p2 (x2.toNat : Int)).getD 0) == x1))] (by kernel_rfl) (by kernel_rfl) ?_
              obtain rfl := Option.some.inj hr
              exact WO_env _ (by kernel_rfl) (K _ _ ⟨m4, rfl, hm, st, r2, r1⟩)
        · intro hc
          rw [if_neg (not_true hc)] at hr
          refine W_exit ?_
          refine X_then_exit ?_
          obtain rfl := Option.some.inj hr
          have ho := hBu2 _ rfl
          refine X_then_exit ?_
          exact X_env _ (by kernel_rfl) (K2_u2 _ _ ⟨s2.1, m4, ho, rfl, hm, st, r2, r1⟩)
    · intro hc
      rw [if_neg (not_true hc)] at hr
      refine W_exit ?_
      refine X_then_exit ?_
      obtain rfl := Option.some.inj hr
      have ho := hBu1 _ rfl
      refine X_then_exit ?_
      exact X_env _ (by kernel_rfl) (K0_u1 _ _ ⟨s1, m2, ho, rfl, hm, st, r1⟩)

def internal_stringslite_IndexByte (N : Nat) (p0 : ByteArray) (p1 : Int) : Option (Int) :=
  some (ixB p0 p1)

set_option maxHeartbeats 4000000 in
set_option maxRecDepth 100000 in
theorem internal_stringslite_IndexByte_ok {N : Nat} {m : Mem} {own : List Piece} {w : World} {p0 : ByteArray} {p1 : Int} {r : Int} (st : St m (own) w) (hr : internal_stringslite_IndexByte N p0 p1 = some r) : Calls Go.Proofs.Tryd.prog 85 #[.string p0, .int .u8 p1] w fun e w' => ∃ (m' : Mem), e = .returned (.int .i64 r) ∧ m.le m' ∧ St m' (own) w' := by
  unfold internal_stringslite_IndexByte at hr
  have hm := m.le_refl
  refine W_calls Go.Proofs.Tryd.func85 rfl Go.Proofs.Tryd.ntmps85 [(0, .string p0), (1, .int .u8 p1)] (by kernel_rfl) rfl ?_
  refine W_seq ?_
  refine W_region ?_
  refine WO_seg 1 [] (by kernel_rfl) (by kernel_rfl) ?_
  refine WO_end rfl ?_
  refine X_then ?_
  refine W_seq ?_
  refine W_region ?_
  refine WO_seg 2 [(5, .string p0), (6, .int .u8 p1)] (by kernel_rfl) (by kernel_rfl) ?_
  refine WO_one rfl (One_indexByte (d := 7) (f := 105) (x := (.tmp 5)) (y := (.tmp 6)) (ts := #[9, 5]) (by kernel_rfl) rfl (show evL _ _ = some (.string p0) from (by kernel_rfl)) (show evL _ _ = some (.int .u8 p1) from (by kernel_rfl)) Go.Proofs.Tryd.func105 (by kernel_rfl) (by kernel_rfl) ?_)
  refine WO_seg 1 [(4, .int .i64 (ixB p0 p1))] (by kernel_rfl) (by kernel_rfl) ?_
  refine WO_end rfl ?_
  refine X_then ?_
  refine W_ret ?_
  obtain rfl := Option.some.inj hr
  refine X_ret [.tmp 4] [.int .i64 (ixB p0 p1)] rfl (ResAll.cons (ResAt.tmp (by kernel_rfl)) ResAll.nil) ?_
  exact ⟨m, rfl, hm, st⟩

def strings_IndexByte (N : Nat) (p0 : ByteArray) (p1 : Int) : Option (Int) :=
  (internal_stringslite_IndexByte N p0 p1).bind fun y1 => some y1

set_option maxHeartbeats 4000000 in
set_option maxRecDepth 100000 in
theorem strings_IndexByte_ok {N : Nat} {m : Mem} {own : List Piece} {w : World} {p0 : ByteArray} {p1 : Int} {r : Int} (st : St m (own) w) (hr : strings_IndexByte N p0 p1 = some r) : Calls Go.Proofs.Tryd.prog 54 #[.string p0, .int .u8 p1] w fun e w' => ∃ (m' : Mem), e = .returned (.int .i64 r) ∧ m.le m' ∧ St m' (own) w' := by
  unfold strings_IndexByte at hr
  have hm := m.le_refl
  refine W_calls Go.Proofs.Tryd.func54 rfl Go.Proofs.Tryd.ntmps54 [(0, .string p0), (1, .int .u8 p1)] (by kernel_rfl) rfl ?_
  refine W_seq ?_
  refine W_region ?_
  refine WO_seg 1 [] (by kernel_rfl) (by kernel_rfl) ?_
  refine WO_end rfl ?_
  refine X_then ?_
  refine W_seq ?_
  refine W_region ?_
  refine WO_seg 2 [(5, .string p0), (6, .int .u8 p1)] (by kernel_rfl) (by kernel_rfl) ?_
  replace hr := bindS hr
  obtain ⟨y1, hx1, hr⟩ := hr
  refine WO_one rfl (One_fn 7 85 #[.string p0, .int .u8 p1] (by kernel_rfl) rfl ?_)
  refine (internal_stringslite_IndexByte_ok st hx1).mono ?_
  clear st
  rintro _ w1 ⟨m1, rfl, hle1, st⟩
  refine ⟨_, rfl, ?_⟩
  have hm := Mem.le_trans hm hle1
  refine WO_seg 1 [(4, .int .i64 y1)] (by kernel_rfl) (by kernel_rfl) ?_
  refine WO_end rfl ?_
  refine X_then ?_
  refine W_ret ?_
  obtain rfl := Option.some.inj hr
  refine X_ret [.tmp 4] [.int .i64 y1] rfl (ResAll.cons (ResAt.tmp (by kernel_rfl)) ResAll.nil) ?_
  exact ⟨m1, rfl, hm, st⟩

def internal_stringslite_HasPrefix (N : Nat) (p0 : ByteArray) (p1 : ByteArray) : Option (Bool) :=
  (if (decide ((ByteArray.size p0 : Int) ≥ (ByteArray.size p1 : Int))) = true then ((subB p0 0 (ByteArray.size p1 : Int)).bind fun s1 => some (s1.toList == p1.toList)) else (some false) : Option (Bool)).bind fun o1 => some o1

set_option maxHeartbeats 4000000 in
set_option maxRecDepth 100000 in
theorem internal_stringslite_HasPrefix_ok {N : Nat} {m : Mem} {own : List Piece} {w : World} {p0 : ByteArray} {p1 : ByteArray} {r : Bool} (st : St m (own) w) (hr : internal_stringslite_HasPrefix N p0 p1 = some r) : Calls Go.Proofs.Tryd.prog 106 #[.string p0, .string p1] w fun e w' => ∃ (m' : Mem), e = .returned (.bool r) ∧ m.le m' ∧ St m' (own) w' := by
  unfold internal_stringslite_HasPrefix at hr
  have hm := m.le_refl
  refine W_calls Go.Proofs.Tryd.func106 rfl Go.Proofs.Tryd.ntmps106 [(0, .string p0), (1, .string p1)] (by kernel_rfl) rfl ?_
  refine W_seq ?_
  refine W_region ?_
  refine WO_seg 1 [] (by kernel_rfl) (by kernel_rfl) ?_
  refine WO_end rfl ?_
  refine X_then ?_
  refine W_seq ?_
  refine W_region ?_
  replace hr := bindS hr
  obtain ⟨o1, hr, hrK⟩ := hr
  refine WO_cut (j := 14) (fun L' w' => ∃ (m1 : Mem), L' = [(4, .bool o1)] ∧ m.le m1 ∧ St m1 (own) w') ?_ ?_
  · clear hr st
    have hr := hrK
    clear hrK
    rintro _ w1 ⟨m1, rfl, hm, st⟩
    refine WO_end rfl ?_
    refine X_then ?_
    refine W_ret ?_
    obtain rfl := Option.some.inj hr
    refine X_ret [.tmp 4] [.bool o1] rfl (ResAll.cons (ResAt.tmp (by kernel_rfl)) ResAll.nil) ?_
    exact ⟨m1, rfl, hm, st⟩
  · intro K
    clear hrK
    refine WO_seg 6 [(10, .bool (decide ((ByteArray.size p0 : Int) ≥ (ByteArray.size p1 : Int))))] (by kernel_rfl) (by kernel_rfl) ?_
    rcases bcases (decide ((ByteArray.size p0 : Int) ≥ (ByteArray.size p1 : Int))) with hc | hc
    · rw [if_pos hc] at hr
      refine WO_fact (t := 10) (b := true) (decide ((ByteArray.size p0 : Int) ≥ (ByteArray.size p1 : Int))) (by kernel_rfl) hc ?_
      refine WO_seg 3 [(11, .string p0), (13, .int .i64 (ByteArray.size p1 : Int))] (by kernel_rfl) (by kernel_rfl) ?_
      replace hr := bindS hr
      obtain ⟨s1, hx1, hr⟩ := hr
      refine WO_one rfl (One_strSlice (d := 14) (t := 9) (x := (.tmp 11)) (lo := none) (hi := (some (.tmp 13))) (by kernel_rfl) rfl (show evL _ _ = some (.string p0) from (by kernel_rfl)) (by kernel_rfl) (.inl ⟨rfl, rfl⟩) (.inr ⟨_, _, rfl, (show evL _ _ = some (.int .i64 (ByteArray.size p1 : Int)) from (by kernel_rfl))⟩) hx1 ?_)
      refine WO_seg 4 [(4, .bool (s1.toList == p1.toList))] (by kernel_rfl) (by kernel_rfl) ?_
      obtain rfl := Option.some.inj hr
      exact WO_env _ (by kernel_rfl) (K _ _ ⟨m, rfl, hm, st⟩)
    · rw [if_neg (not_true hc)] at hr
      refine WO_fact (t := 10) (b := false) (decide ((ByteArray.size p0 : Int) ≥ (ByteArray.size p1 : Int))) (by kernel_rfl) hc ?_
      refine WO_seg 8 [(4, .bool false)] (by kernel_rfl) (by kernel_rfl) ?_
      obtain rfl := Option.some.inj hr
      exact WO_env _ (by kernel_rfl) (K _ _ ⟨m, rfl, hm, st⟩)

def strings_HasPrefix (N : Nat) (p0 : ByteArray) (p1 : ByteArray) : Option (Bool) :=
  (internal_stringslite_HasPrefix N p0 p1).bind fun y1 => some y1

set_option maxHeartbeats 4000000 in
set_option maxRecDepth 100000 in
theorem strings_HasPrefix_ok {N : Nat} {m : Mem} {own : List Piece} {w : World} {p0 : ByteArray} {p1 : ByteArray} {r : Bool} (st : St m (own) w) (hr : strings_HasPrefix N p0 p1 = some r) : Calls Go.Proofs.Tryd.prog 86 #[.string p0, .string p1] w fun e w' => ∃ (m' : Mem), e = .returned (.bool r) ∧ m.le m' ∧ St m' (own) w' := by
  unfold strings_HasPrefix at hr
  have hm := m.le_refl
  refine W_calls Go.Proofs.Tryd.func86 rfl Go.Proofs.Tryd.ntmps86 [(0, .string p0), (1, .string p1)] (by kernel_rfl) rfl ?_
  refine W_seq ?_
  refine W_region ?_
  refine WO_seg 1 [] (by kernel_rfl) (by kernel_rfl) ?_
  refine WO_end rfl ?_
  refine X_then ?_
  refine W_seq ?_
  refine W_region ?_
  refine WO_seg 2 [(5, .string p0), (6, .string p1)] (by kernel_rfl) (by kernel_rfl) ?_
  replace hr := bindS hr
  obtain ⟨y1, hx1, hr⟩ := hr
  refine WO_one rfl (One_fn 7 106 #[.string p0, .string p1] (by kernel_rfl) rfl ?_)
  refine (internal_stringslite_HasPrefix_ok st hx1).mono ?_
  clear st
  rintro _ w1 ⟨m1, rfl, hle1, st⟩
  refine ⟨_, rfl, ?_⟩
  have hm := Mem.le_trans hm hle1
  refine WO_seg 1 [(4, .bool y1)] (by kernel_rfl) (by kernel_rfl) ?_
  refine WO_end rfl ?_
  refine X_then ?_
  refine W_ret ?_
  obtain rfl := Option.some.inj hr
  refine X_ret [.tmp 4] [.bool y1] rfl (ResAll.cons (ResAt.tmp (by kernel_rfl)) ResAll.nil) ?_
  exact ⟨m1, rfl, hm, st⟩

def lexer_token_L1 (N : Nat) (l1 : List (UInt8)) (s3 : Int × Int) : Option ((Int × Int) ⊕ ((Int))) :=
  if (decide (s3.2 < (List.length l1 : Int))) = true then ((idx l1 s3.2).bind fun x2 => some (.inl (if 9007199254740993 < (IntKind.wrap .i64 ((IntKind.wrap .i64 (10 * s3.1)) + (IntKind.wrap .i64 (IntKind.wrap .u8 ((x2.toNat : Int) - 48))))) then 9007199254740993 else (IntKind.wrap .i64 ((IntKind.wrap .i64 (10 * s3.1)) + (IntKind.wrap .i64 (IntKind.wrap .u8 ((x2.toNat : Int) - 48))))), IntKind.wrap .i64 (s3.2 + 1)))) else (some (.inr s3.1))

def lexer_token_L2 (N : Nat) (p0 : ByteArray) (p1 : Int) (s4 : Int) : Option ((Int) ⊕ ((Unit) ⊕ ((Int × ByteArray × Int × Int) × Int × Int))) :=
  (if (decide (s4 < (ByteArray.size p0 : Int))) = true then ((idxB p0 s4).bind fun x3 => if (decide ((x3.toNat : Int) ≥ 32)) = true then ((idxB p0 s4).bind fun x4 => some (decide ((x4.toNat : Int) ≤ 126))) else (some false)) else (some false) : Option (Bool)).bind fun o3 => if o3 = true then ((idxB p0 s4).bind fun x5 => if ((x5.toNat : Int) == 34) = true then ((subB p0 (IntKind.wrap .i64 (p1 + 1)) s4).bind fun s5 => some (.inr (.inr (((3, s5, 0, 0), IntKind.wrap .i64 (s4 + 1), 0))))) else (some (.inl (IntKind.wrap .i64 (s4 + 1))))) else (some (.inr (.inl ())))

def lexer_token (N : Nat) (p0 : ByteArray) (p1 : Int) (p2 : Option (List (Int × Int))) : Option ((Int × ByteArray × Int × Int) × Int × Int) :=
  (idxB p0 p1).bind fun x1 => if (((mgetQ p2 (x1.toNat : Int)).getD 0) == 1) = true then ((lexer_span N p0 p1 p2 ([1, 2, 3])).bind fun y1 => if (decide ((IntKind.wrap .i64 (y1 - p1)) > 24)) = true then (some ((0, (⟨#[]⟩ : ByteArray), 0, 0), 0, 2)) else ((subB p0 p1 y1).bind fun s1 => some ((1, s1, 0, 0), y1, 0))) else (if (((mgetQ p2 (x1.toNat : Int)).getD 0) == 2) = true then ((lexer_span N p0 p1 p2 ([2])).bind fun y2 => (subB p0 p1 y2).bind fun s2 => (bytesOf s2).bind fun l1 => (loopM (lexer_token_L1 N l1) N (0, 0)).bind fun o1 => if (decide (o1 > 9007199254740992)) = true then (some ((0, (⟨#[]⟩ : ByteArray), 0, 0), 0, 3)) else (some ((2, (⟨#[]⟩ : ByteArray), o1, 0), y2, 0))) else (if (((mgetQ p2 (x1.toNat : Int)).getD 0) == 7) = true then ((loopM (lexer_token_L2 N p0 p1) N (IntKind.wrap .i64 (p1 + 1))).bind fun out2 => (match out2 with | .inl o2 => some ((0, (⟨#[]⟩ : ByteArray), 0, 0), 0, 9) | .inr (z) => some z)) else (if (((mgetQ p2 (x1.toNat : Int)).getD 0) == 8) = true then ((subB p0 p1 (ByteArray.size p0 : Int)).bind fun s6 => (strings_HasPrefix N s6 (⟨#[61, 61]⟩ : ByteArray)).bind fun y3 => (if y3 = true then (some (IntKind.wrap .i64 ((IntKind.wrap .i64 (p1 + 1)) + 1))) else (some (IntKind.wrap .i64 (p1 + 1))) : Option (Int)).bind fun o4 => (subB p0 p1 o4).bind fun s7 => some ((4, s7, 0, 0), o4, 0)) else (some ((0, (⟨#[]⟩ : ByteArray), 0, 0), 0, 9)))))

set_option maxHeartbeats 4000000 in
set_option maxRecDepth 100000 in
theorem lexer_token_ok {N : Nat} {m : Mem} {own : List Piece} {w : World} {p0 : ByteArray} {p1 : Int} {p2 : Option (List (Int × Int))} {q1 : Option Nat} {es1 : Array MapEntry} {ck1 : Nat} {r : (Int × ByteArray × Int × Int) × Int × Int} (st : St m (mpiece q1 es1 ck1 :: own) w) (r1 : MapQ (fun n : Int => Value.int .u8 n) (cInt .i64) false m q1 es1 ck1 p2) (hr : lexer_token N p0 p1 p2 = some r) : Calls Go.Proofs.Tryd.prog 55 #[.string p0, .int .i64 p1, .map q1] w fun e w' => ∃ (m' : Mem), e = .returned (.tuple #[.agg #[.int .i64 r.1.1, .string r.1.2.1, .int .i64 r.1.2.2.1, .int .i64 r.1.2.2.2], .int .i64 r.2.1, .int .i64 r.2.2]) ∧ m.le m' ∧ St m' (mpiece q1 es1 ck1 :: own) w' := by
  unfold lexer_token at hr
  have hm := m.le_refl
  refine W_calls Go.Proofs.Tryd.func55 rfl Go.Proofs.Tryd.ntmps55 [(0, .string p0), (1, .int .i64 p1), (2, .map q1)] (by kernel_rfl) rfl ?_
  refine W_seq ?_
  refine W_region ?_
  refine WO_one rfl (One_alloc (d := 6) (e := 42) (.agg #[.int .i64 0, .string (⟨#[]⟩ : ByteArray), .int .i64 0, .int .i64 0]) (by kernel_rfl) rfl (by kernel_rfl) st ?_)
  clear st
  intro b1 w1 st
  refine WO_seg 2 [] (by kernel_rfl) (by kernel_rfl) ?_
  refine WO_end rfl ?_
  refine X_then ?_
  refine W_seq ?_
  refine W_seq ?_
  refine W_region ?_
  refine WO_seg 3 [(16, .map q1), (17, .string p0), (18, .int .i64 p1)] (by kernel_rfl) (by kernel_rfl) ?_
  replace hr := bindS hr
  obtain ⟨x1, hx1, hr⟩ := hr
  refine WO_one rfl (One_strIndex (d := 19) (t := 9) (x := (.tmp 17)) (y := (.tmp 18)) (by kernel_rfl) rfl (show evL _ _ = some (.string p0) from (by kernel_rfl)) (show evL _ _ = some (.int .i64 p1) from (by kernel_rfl)) (by kernel_rfl) hx1 ?_)
  refine WO_one rfl (One_lookup (ek := (fun n : Int => Value.int .u8 n)) (c := (cInt .i64)) (agg := false) (k := (x1.toNat : Int)) (zx := 0) (zcs := [.int .i64 0]) (z := (.int .i64 0)) (kt := 5) (et := 3) (d := 20) (t := 68) (x := (.tmp 16)) (y := (.tmp 19)) (ok := false) (by kernel_rfl) rfl (show evL _ _ = some (.map q1) from (by kernel_rfl)) (show evL _ _ = some (.int .u8 (x1.toNat : Int)) from (by kernel_rfl)) (by kernel_rfl) (keyInt (by kernel_rfl)) st.tail.head r1 rfl rfl ?_)
  rintro cs1 rfl
  refine WO_end rfl ?_
  refine X_then ?_
  refine W_block ?_
  refine W_seq ?_
  refine W_region ?_
  refine WO_seg 2 [(21, .bool (((mgetQ p2 (x1.toNat : Int)).getD 0) == 1))] (by kernel_rfl) (by kernel_rfl) ?_
  refine WO_end rfl ?_
  refine X_then ?_
  refine W_cond (((mgetQ p2 (x1.toNat : Int)).getD 0) == 1) (by kernel_rfl) ?_ ?_
  · intro hc
    rw [if_pos hc] at hr
    refine W_seq ?_
    refine W_region ?_
    refine WO_seg 3 [(23, .string p0), (24, .int .i64 p1), (25, .map q1)] (by kernel_rfl) (by kernel_rfl) ?_
    refine WO_one rfl (One_buildSlice (d := 26) (t := 26) (e := 3) (len := 3) (parts := #[(0, (.const (.int .i64 1))), (1, (.const (.int .i64 2))), (2, (.const (.int .i64 3)))]) (cInt .i64) (xs := [1, 2, 3]) [.int .i64 1, .int .i64 2, .int .i64 3] (by kernel_rfl) rfl (fun _ => buildCells_run (by kernel_rfl) _) rfl rfl st ⟨[.int .i64 1], _, rfl, rfl, ⟨[.int .i64 2], _, rfl, rfl, ⟨[.int .i64 3], _, rfl, rfl, rfl⟩⟩⟩ ?_)
    clear st
    intro b2 m1 w2 hle1 st r2
    have hm := Mem.le_trans hm hle1
    have r1 := r1.mono hle1
    have st := st.front2
    replace hr := bindS hr
    obtain ⟨y1, hx2, hr⟩ := hr
    refine WO_one rfl (One_fn 27 50 #[.string p0, .int .i64 p1, .map q1, .slice (some ⟨b2, 0, none⟩) (List.length ([1, 2, 3])) 3] (by kernel_rfl) rfl ?_)
    refine (lexer_span_ok st r1 r2 hx2).mono ?_
    clear st
    rintro _ w3 ⟨m2, rfl, hle2, st⟩
    refine ⟨_, rfl, ?_⟩
    have hm := Mem.le_trans hm hle2
    have r2 := r2.mono hle2
    have r1 := r1.mono hle2
    refine WO_seg 1 [(9, .int .i64 y1)] (by kernel_rfl) (by kernel_rfl) ?_
    refine WO_end rfl ?_
    have st := st.front1
    have st := st.tail
    refine X_then ?_
    refine W_seq ?_
    refine W_seq ?_
    refine W_region ?_
    refine WO_seg 4 [(31, .bool (decide ((IntKind.wrap .i64 (y1 - p1)) > 24)))] (by kernel_rfl) (by kernel_rfl) ?_
    refine WO_end rfl ?_
    refine X_then ?_
    refine W_cond (decide ((IntKind.wrap .i64 (y1 - p1)) > 24)) (by kernel_rfl) ?_ ?_
    · intro hc
      rw [if_pos hc] at hr
      refine W_seq ?_
      refine W_region ?_
      refine WO_seg 1 [(32, .agg #[.int .i64 0, .string (⟨#[]⟩ : ByteArray), .int .i64 0, .int .i64 0])] (by kernel_rfl) (by kernel_rfl) ?_
      have st := st.front1
      refine WO_one rfl (One_store (t := 42) (x := (.tmp 6)) (y := (.tmp 32)) (v := .agg #[.int .i64 0, .string (⟨#[]⟩ : ByteArray), .int .i64 0, .int .i64 0]) (c' := #[.int .i64 0, .string (⟨#[]⟩ : ByteArray), .int .i64 0, .int .i64 0]) (by kernel_rfl) (show evL _ _ = some (.pointer (some ⟨b1, 0, none⟩)) from (by kernel_rfl)) (show evL _ _ = some (.agg #[.int .i64 0, .string (⟨#[]⟩ : ByteArray), .int .i64 0, .int .i64 0]) from (by kernel_rfl)) st (by kernel_rfl) (by kernel_rfl) ?_)
      clear st
      intro w4 st
      refine WO_seg 2 [(7, .int .i64 0), (8, .int .i64 2)] (by kernel_rfl) (by kernel_rfl) ?_
      refine WO_end rfl ?_
      refine X_then ?_
      refine W_ret ?_
      refine X_then_ret ?_
      refine X_block_ret ?_
      refine X_then_ret ?_
      obtain rfl := Option.some.inj hr
      refine X_ret [.cell 6 42, .tmp 7, .tmp 8] [.agg #[.int .i64 0, .string (⟨#[]⟩ : ByteArray), .int .i64 0, .int .i64 0], .int .i64 0, .int .i64 2] rfl (ResAll.cons (ResAt.blk (v := .agg #[.int .i64 0, .string (⟨#[]⟩ : ByteArray), .int .i64 0, .int .i64 0]) (o := 0) (by kernel_rfl) st.head (by kernel_rfl)) (ResAll.cons (ResAt.tmp (by kernel_rfl)) (ResAll.cons (ResAt.tmp (by kernel_rfl)) ResAll.nil))) ?_
      have st := st.tail
      exact ⟨m2, rfl, hm, st⟩
    · intro hc
      rw [if_neg (not_true hc)] at hr
      refine W_skip ?_
      refine X_then ?_
      refine W_seq ?_
      refine W_region ?_
      refine WO_seg 3 [(33, .string p0), (34, .int .i64 p1), (35, .int .i64 y1)] (by kernel_rfl) (by kernel_rfl) ?_
      replace hr := bindS hr
      obtain ⟨s1, hx3, hr⟩ := hr
      refine WO_one rfl (One_strSlice (d := 36) (t := 9) (x := (.tmp 33)) (lo := (some (.tmp 34))) (hi := (some (.tmp 35))) (by kernel_rfl) rfl (show evL _ _ = some (.string p0) from (by kernel_rfl)) (by kernel_rfl) (.inr ⟨_, _, rfl, (show evL _ _ = some (.int .i64 p1) from (by kernel_rfl))⟩) (.inr ⟨_, _, rfl, (show evL _ _ = some (.int .i64 y1) from (by kernel_rfl))⟩) hx3 ?_)
      refine WO_seg 2 [(37, .agg #[.int .i64 1, .string s1, .int .i64 0, .int .i64 0]), (38, .int .i64 y1)] (by kernel_rfl) (by kernel_rfl) ?_
      have st := st.front1
      refine WO_one rfl (One_store (t := 42) (x := (.tmp 6)) (y := (.tmp 37)) (v := .agg #[.int .i64 1, .string s1, .int .i64 0, .int .i64 0]) (c' := #[.int .i64 1, .string s1, .int .i64 0, .int .i64 0]) (by kernel_rfl) (show evL _ _ = some (.pointer (some ⟨b1, 0, none⟩)) from (by kernel_rfl)) (show evL _ _ = some (.agg #[.int .i64 1, .string s1, .int .i64 0, .int .i64 0]) from (by kernel_rfl)) st (by kernel_rfl) (by kernel_rfl) ?_)
      clear st
      intro w5 st
      refine WO_seg 2 [(7, .int .i64 y1), (8, .int .i64 0)] (by kernel_rfl) (by kernel_rfl) ?_
      refine WO_end rfl ?_
      refine X_then ?_
      refine W_ret ?_
      refine X_block_ret ?_
      refine X_then_ret ?_
      obtain rfl := Option.some.inj hr
      refine X_ret [.cell 6 42, .tmp 7, .tmp 8] [.agg #[.int .i64 1, .string s1, .int .i64 0, .int .i64 0], .int .i64 y1, .int .i64 0] rfl (ResAll.cons (ResAt.blk (v := .agg #[.int .i64 1, .string s1, .int .i64 0, .int .i64 0]) (o := 0) (by kernel_rfl) st.head (by kernel_rfl)) (ResAll.cons (ResAt.tmp (by kernel_rfl)) (ResAll.cons (ResAt.tmp (by kernel_rfl)) ResAll.nil))) ?_
      have st := st.tail
      exact ⟨m2, rfl, hm, st⟩
  · intro hc
    rw [if_neg (not_true hc)] at hr
    refine W_seq ?_
    refine W_region ?_
    refine WO_seg 2 [(39, .bool (((mgetQ p2 (x1.toNat : Int)).getD 0) == 2))] (by kernel_rfl) (by kernel_rfl) ?_
    refine WO_end rfl ?_
    refine X_then ?_
    refine W_cond (((mgetQ p2 (x1.toNat : Int)).getD 0) == 2) (by kernel_rfl) ?_ ?_
    · intro hc
      rw [if_pos hc] at hr
      refine W_seq ?_
      refine W_region ?_
      refine WO_seg 3 [(41, .string p0), (42, .int .i64 p1), (43, .map q1)] (by kernel_rfl) (by kernel_rfl) ?_
      refine WO_one rfl (One_buildSlice (d := 44) (t := 26) (e := 3) (len := 1) (parts := #[(0, (.const (.int .i64 2)))]) (cInt .i64) (xs := [2]) [.int .i64 2] (by kernel_rfl) rfl (fun _ => buildCells_run (by kernel_rfl) _) rfl rfl st ⟨[.int .i64 2], _, rfl, rfl, rfl⟩ ?_)
      clear st
      intro b3 m3 w6 hle3 st r3
      have hm := Mem.le_trans hm hle3
      have r1 := r1.mono hle3
      have st := st.front2
      replace hr := bindS hr
      obtain ⟨y2, hx4, hr⟩ := hr
      refine WO_one rfl (One_fn 45 50 #[.string p0, .int .i64 p1, .map q1, .slice (some ⟨b3, 0, none⟩) (List.length ([2])) 1] (by kernel_rfl) rfl ?_)
      refine (lexer_span_ok st r1 r3 hx4).mono ?_
      clear st
      rintro _ w7 ⟨m4, rfl, hle4, st⟩
      refine ⟨_, rfl, ?_⟩
      have hm := Mem.le_trans hm hle4
      have r3 := r3.mono hle4
      have r1 := r1.mono hle4
      refine WO_seg 1 [(10, .int .i64 y2)] (by kernel_rfl) (by kernel_rfl) ?_
      refine WO_end rfl ?_
      have st := st.front1
      have st := st.tail
      refine X_then ?_
      refine W_seq ?_
      refine W_region ?_
      refine WO_seg 1 [(11, .int .i64 0)] (by kernel_rfl) (by kernel_rfl) ?_
      refine WO_end rfl ?_
      refine X_then ?_
      refine W_seq ?_
      refine W_seq ?_
      refine W_region ?_
      refine WO_seg 3 [(46, .string p0), (47, .int .i64 p1), (48, .int .i64 y2)] (by kernel_rfl) (by kernel_rfl) ?_
      replace hr := bindS hr
      obtain ⟨s2, hx5, hr⟩ := hr
      refine WO_one rfl (One_strSlice (d := 49) (t := 9) (x := (.tmp 46)) (lo := (some (.tmp 47))) (hi := (some (.tmp 48))) (by kernel_rfl) rfl (show evL _ _ = some (.string p0) from (by kernel_rfl)) (by kernel_rfl) (.inr ⟨_, _, rfl, (show evL _ _ = some (.int .i64 p1) from (by kernel_rfl))⟩) (.inr ⟨_, _, rfl, (show evL _ _ = some (.int .i64 y2) from (by kernel_rfl))⟩) hx5 ?_)
      replace hr := bindS hr
      obtain ⟨l1, hx6, hr⟩ := hr
      refine WO_one rfl (One_strBytes (d := 50) (t1 := 9) (t2 := 43) (e := 5) (x := (.tmp 49)) (by kernel_rfl) rfl (show evL _ _ = some (.string s2) from (by kernel_rfl)) (by kernel_rfl) (by kernel_rfl) st hx6 ?_)
      clear st
      intro b4 c1 m5 w8 hle5 st r4
      have hm := Mem.le_trans hm hle5
      have r1 := r1.mono hle5
      refine WO_seg 2 [(51, .int .i64 (List.length l1 : Int)), (52, .int .i64 0)] (by kernel_rfl) (by kernel_rfl) ?_
      refine WO_end rfl ?_
      refine X_then ?_
      refine W_block ?_
      replace hr := bindS hr
      obtain ⟨out1, hr, hrKu1⟩ := hr
      refine W_cut (.exit 1) (fun L' w' => ∃ (o1 : Int) (m6 : Mem), o1 = out1 ∧ L' = [(6, .pointer (some ⟨b1, 0, none⟩)), (10, .int .i64 y2), (11, .int .i64 o1)] ∧ m.le m6 ∧ St m6 (.blk b1 (.cells #[.int .i64 0, .string (⟨#[]⟩ : ByteArray), .int .i64 0, .int .i64 0] 42 (0, 0)) :: mpiece q1 es1 ck1 :: own) w' ∧ MapQ (fun n : Int => Value.int .u8 n) (cInt .i64) false m6 q1 es1 ck1 p2) ?_ ?_
      · clear hr st
        rintro _ w9 ⟨o1, m6, rfl, rfl, hm, st, r1⟩
        have hr := hrKu1
        clear hrKu1
        refine X_block_eq ?_
        refine X_then ?_
        refine W_seq ?_
        refine W_seq ?_
        refine W_region ?_
        refine WO_seg 2 [(65, .bool (decide (o1 > 9007199254740992)))] (by kernel_rfl) (by kernel_rfl) ?_
        refine WO_end rfl ?_
        refine X_then ?_
        refine W_cond (decide (o1 > 9007199254740992)) (by kernel_rfl) ?_ ?_
        · intro hc
          rw [if_pos hc] at hr
          refine W_seq ?_
          refine W_region ?_
          refine WO_seg 1 [(66, .agg #[.int .i64 0, .string (⟨#[]⟩ : ByteArray), .int .i64 0, .int .i64 0])] (by kernel_rfl) (by kernel_rfl) ?_
          refine WO_one rfl (One_store (t := 42) (x := (.tmp 6)) (y := (.tmp 66)) (v := .agg #[.int .i64 0, .string (⟨#[]⟩ : ByteArray), .int .i64 0, .int .i64 0]) (c' := #[.int .i64 0, .string (⟨#[]⟩ : ByteArray), .int .i64 0, .int .i64 0]) (by kernel_rfl) (show evL _ _ = some (.pointer (some ⟨b1, 0, none⟩)) from (by kernel_rfl)) (show evL _ _ = some (.agg #[.int .i64 0, .string (⟨#[]⟩ : ByteArray), .int .i64 0, .int .i64 0]) from (by kernel_rfl)) st (by kernel_rfl) (by kernel_rfl) ?_)
          clear st
          intro w11 st
          refine WO_seg 2 [(7, .int .i64 0), (8, .int .i64 3)] (by kernel_rfl) (by kernel_rfl) ?_
          refine WO_end rfl ?_
          refine X_then ?_
          refine W_ret ?_
          refine X_then_ret ?_
          refine X_block_ret ?_
          refine X_then_ret ?_
          obtain rfl := Option.some.inj hr
          refine X_ret [.cell 6 42, .tmp 7, .tmp 8] [.agg #[.int .i64 0, .string (⟨#[]⟩ : ByteArray), .int .i64 0, .int .i64 0], .int .i64 0, .int .i64 3] rfl (ResAll.cons (ResAt.blk (v := .agg #[.int .i64 0, .string (⟨#[]⟩ : ByteArray), .int .i64 0, .int .i64 0]) (o := 0) (by kernel_rfl) st.head (by kernel_rfl)) (ResAll.cons (ResAt.tmp (by kernel_rfl)) (ResAll.cons (ResAt.tmp (by kernel_rfl)) ResAll.nil))) ?_
          have st := st.tail
          exact ⟨m6, rfl, hm, st⟩
        · intro hc
          rw [if_neg (not_true hc)] at hr
          refine W_skip ?_
          refine X_then ?_
          refine W_seq ?_
          refine W_region ?_
          refine WO_seg 3 [(68, .agg #[.int .i64 2, .string (⟨#[]⟩ : ByteArray), .int .i64 o1, .int .i64 0]), (69, .int .i64 y2)] (by kernel_rfl) (by kernel_rfl) ?_
          refine WO_one rfl (One_store (t := 42) (x := (.tmp 6)) (y := (.tmp 68)) (v := .agg #[.int .i64 2, .string (⟨#[]⟩ : ByteArray), .int .i64 o1, .int .i64 0]) (c' := #[.int .i64 2, .string (⟨#[]⟩ : ByteArray), .int .i64 o1, .int .i64 0]) (by kernel_rfl) (show evL _ _ = some (.pointer (some ⟨b1, 0, none⟩)) from (by kernel_rfl)) (show evL _ _ = some (.agg #[.int .i64 2, .string (⟨#[]⟩ : ByteArray), .int .i64 o1, .int .i64 0]) from (by kernel_rfl)) st (by kernel_rfl) (by kernel_rfl) ?_)
          clear st
          intro w12 st
          refine WO_seg 2 [(7, .int .i64 y2), (8, .int .i64 0)] (by kernel_rfl) (by kernel_rfl) ?_
          refine WO_end rfl ?_
          refine X_then ?_
          refine W_ret ?_
          refine X_block_ret ?_
          refine X_then_ret ?_
          obtain rfl := Option.some.inj hr
          refine X_ret [.cell 6 42, .tmp 7, .tmp 8] [.agg #[.int .i64 2, .string (⟨#[]⟩ : ByteArray), .int .i64 o1, .int .i64 0], .int .i64 y2, .int .i64 0] rfl (ResAll.cons (ResAt.blk (v := .agg #[.int .i64 2, .string (⟨#[]⟩ : ByteArray), .int .i64 o1, .int .i64 0]) (o := 0) (by kernel_rfl) st.head (by kernel_rfl)) (ResAll.cons (ResAt.tmp (by kernel_rfl)) (ResAll.cons (ResAt.tmp (by kernel_rfl)) ResAll.nil))) ?_
          have st := st.tail
          exact ⟨m6, rfl, hm, st⟩
      intro K1_u1
      clear hrKu1
      have st := st.front1
      refine W_env _ (by kernel_rfl) (W_loop (fun k1 L' w' => ∃ (s3 : Int × Int) (m7 : Mem), loopM (lexer_token_L1 N l1) k1 s3 = some out1 ∧ L' = [(6, .pointer (some ⟨b1, 0, none⟩)), (10, .int .i64 y2), (11, .int .i64 s3.1), (50, .slice (some ⟨b4, 0, none⟩) (List.length l1) c1), (51, .int .i64 (List.length l1 : Int)), (52, .int .i64 s3.2)] ∧ m.le m7 ∧ St m7 (.blk b1 (.cells #[.int .i64 0, .string (⟨#[]⟩ : ByteArray), .int .i64 0, .int .i64 0] 42 (0, 0)) :: mpiece q1 es1 ck1 :: own) w' ∧ RepS cU8 m7 (some ⟨b4, 0, none⟩) c1 l1 ∧ MapQ (fun n : Int => Value.int .u8 n) (cInt .i64) false m7 q1 es1 ck1 p2) N ⟨(0, 0), m5, hr, rfl, hm, st, r4, r1⟩ ?_)
      clear st hr
      rintro k1 _ w10 ⟨s3, m7, hL, rfl, hm, st, r4, r1⟩
      rcases k1 with _ | k1
      · exact loopM_zero hL
      · obtain ⟨qu1, hr, hSu1, hBu1⟩ := loopM_succ hL
        clear hL
        unfold lexer_token_L1 at hr
        refine W_seq ?_
        refine W_region ?_
        refine WO_seg 1 [(53, .bool (decide (s3.2 < (List.length l1 : Int))))] (by kernel_rfl) (by kernel_rfl) ?_
        refine WO_end rfl ?_
        refine X_then ?_
        refine W_seq ?_
        refine W_cond (decide (s3.2 < (List.length l1 : Int))) (by kernel_rfl) ?_ ?_
        · intro hc
          rw [if_pos hc] at hr
          refine W_skip ?_
          refine X_then ?_
          refine W_seq ?_
          refine W_block ?_
          refine W_seq ?_
          refine W_region ?_
          replace hr := bindS hr
          obtain ⟨x2, hx7, hr⟩ := hr
          refine WO_one rfl (One_index (d := 54) (t := 43) (e := 5) (x := (.tmp 50)) (y := (.tmp 52)) cU8 (by kernel_rfl) rfl (show evL _ _ = some (.slice (some ⟨b4, 0, none⟩) (List.length l1) c1) from (by kernel_rfl)) (show evL _ _ = some (.int .i64 s3.2) from (by kernel_rfl)) (by kernel_rfl) r4 hx7 ?_)
          rintro b5 f1 cs2 rfl hq1
          refine WO_one rfl (One_load_row (d := 55) (t := 5) (x := (.tmp 54)) (.int .u8 (x2.toNat : Int)) (by kernel_rfl) rfl (show evL _ _ = some (.pointer (some ⟨b5, f1, none⟩)) from (by kernel_rfl)) st hq1 (by kernel_rfl) ?_)
          refine WO_seg 1 [(13, .int .u8 (x2.toNat : Int))] (by kernel_rfl) (by kernel_rfl) ?_
          refine WO_end rfl ?_
          refine X_then ?_
          refine W_region ?_
          refine WO_seg 8 [(11, .int .i64 (if 9007199254740993 < (IntKind.wrap .i64 ((IntKind.wrap .i64 (10 * s3.1)) + (IntKind.wrap .i64 (IntKind.wrap .u8 ((x2.toNat : Int) - 48))))) then 9007199254740993 else (IntKind.wrap .i64 ((IntKind.wrap .i64 (10 * s3.1)) + (IntKind.wrap .i64 (IntKind.wrap .u8 ((x2.toNat : Int) - 48)))))))] (by kernel_rfl) (by kernel_rfl) ?_
          refine WO_end rfl ?_
          refine X_block ?_
          refine X_then ?_
          refine W_region ?_
          refine WO_seg 2 [(52, .int .i64 (IntKind.wrap .i64 (s3.2 + 1)))] (by kernel_rfl) (by kernel_rfl) ?_
          refine WO_end rfl ?_
          obtain rfl := Option.some.inj hr
          have hL := hSu1 _ rfl
          have st := st.front1
          have st := st.front1
          exact X_env _ (by kernel_rfl) (X_round k1 (Nat.lt_succ_self _) ⟨(if 9007199254740993 < (IntKind.wrap .i64 ((IntKind.wrap .i64 (10 * s3.1)) + (IntKind.wrap .i64 (IntKind.wrap .u8 ((x2.toNat : Int) - 48))))) then 9007199254740993 else (IntKind.wrap .i64 ((IntKind.wrap .i64 (10 * s3.1)) + (IntKind.wrap .i64 (IntKind.wrap .u8 ((x2.toNat : Int) - 48))))), IntKind.wrap .i64 (s3.2 + 1)), m7, hL, rfl, hm, st, r4, r1⟩)
        · intro hc
          rw [if_neg (not_true hc)] at hr
          refine W_exit ?_
          refine X_then_exit ?_
          obtain rfl := Option.some.inj hr
          have ho := hBu1 _ rfl
          have st := st.front1
          have st := st.front1
          refine X_then_exit ?_
          exact X_env _ (by kernel_rfl) (K1_u1 _ _ ⟨s3.1, m7, ho, rfl, hm, st, r1⟩)
    · intro hc
      rw [if_neg (not_true hc)] at hr
      refine W_seq ?_
      refine W_region ?_
      refine WO_seg 2 [(70, .bool (((mgetQ p2 (x1.toNat : Int)).getD 0) == 7))] (by kernel_rfl) (by kernel_rfl) ?_
      refine WO_end rfl ?_
      refine X_then ?_
      refine W_cond (((mgetQ p2 (x1.toNat : Int)).getD 0) == 7) (by kernel_rfl) ?_ ?_
      · intro hc
        rw [if_pos hc] at hr
        refine W_seq ?_
        refine W_seq ?_
        refine W_region ?_
        refine WO_seg 3 [(14, .int .i64 (IntKind.wrap .i64 (p1 + 1)))] (by kernel_rfl) (by kernel_rfl) ?_
        refine WO_end rfl ?_
        refine X_then ?_
        refine W_block ?_
        replace hr := bindS hr
        obtain ⟨out2, hr, hrKu2⟩ := hr
        refine W_cut (.exit 3) (fun L' w' => ∃ (o2 : Unit) (m8 : Mem), (.inl o2) = out2 ∧ L' = [(6, .pointer (some ⟨b1, 0, none⟩))] ∧ m.le m8 ∧ St m8 (.blk b1 (.cells #[.int .i64 0, .string (⟨#[]⟩ : ByteArray), .int .i64 0, .int .i64 0] 42 (0, 0)) :: mpiece q1 es1 ck1 :: own) w' ∧ MapQ (fun n : Int => Value.int .u8 n) (cInt .i64) false m8 q1 es1 ck1 p2) ?_ ?_
        · clear hr st
          rintro _ w13 ⟨o2, m8, rfl, rfl, hm, st, r1⟩
          have hr := hrKu2
          clear hrKu2
          dsimp only at hr
          refine X_block_eq ?_
          refine X_then ?_
          refine W_seq ?_
          refine W_region ?_
          refine WO_seg 1 [(104, .agg #[.int .i64 0, .string (⟨#[]⟩ : ByteArray), .int .i64 0, .int .i64 0])] (by kernel_rfl) (by kernel_rfl) ?_
          refine WO_one rfl (One_store (t := 42) (x := (.tmp 6)) (y := (.tmp 104)) (v := .agg #[.int .i64 0, .string (⟨#[]⟩ : ByteArray), .int .i64 0, .int .i64 0]) (c' := #[.int .i64 0, .string (⟨#[]⟩ : ByteArray), .int .i64 0, .int .i64 0]) (by kernel_rfl) (show evL _ _ = some (.pointer (some ⟨b1, 0, none⟩)) from (by kernel_rfl)) (show evL _ _ = some (.agg #[.int .i64 0, .string (⟨#[]⟩ : ByteArray), .int .i64 0, .int .i64 0]) from (by kernel_rfl)) st (by kernel_rfl) (by kernel_rfl) ?_)
          clear st
          intro w17 st
          refine WO_seg 2 [(7, .int .i64 0), (8, .int .i64 9)] (by kernel_rfl) (by kernel_rfl) ?_
          refine WO_end rfl ?_
          refine X_then ?_
          refine W_ret ?_
          refine X_block_ret ?_
          refine X_then_ret ?_
          obtain rfl := Option.some.inj hr
          refine X_ret [.cell 6 42, .tmp 7, .tmp 8] [.agg #[.int .i64 0, .string (⟨#[]⟩ : ByteArray), .int .i64 0, .int .i64 0], .int .i64 0, .int .i64 9] rfl (ResAll.cons (ResAt.blk (v := .agg #[.int .i64 0, .string (⟨#[]⟩ : ByteArray), .int .i64 0, .int .i64 0]) (o := 0) (by kernel_rfl) st.head (by kernel_rfl)) (ResAll.cons (ResAt.tmp (by kernel_rfl)) (ResAll.cons (ResAt.tmp (by kernel_rfl)) ResAll.nil))) ?_
          have st := st.tail
          exact ⟨m8, rfl, hm, st⟩
        intro K3_u2
        have st := st.front1
        have st := st.front1
        refine W_env _ (by kernel_rfl) (W_loop (fun k2 L' w' => ∃ (s4 : Int) (m9 : Mem), loopM (lexer_token_L2 N p0 p1) k2 s4 = some out2 ∧ L' = [(0, .string p0), (1, .int .i64 p1), (6, .pointer (some ⟨b1, 0, none⟩)), (14, .int .i64 s4)] ∧ m.le m9 ∧ St m9 (.blk b1 (.cells #[.int .i64 0, .string (⟨#[]⟩ : ByteArray), .int .i64 0, .int .i64 0] 42 (0, 0)) :: mpiece q1 es1 ck1 :: own) w' ∧ MapQ (fun n : Int => Value.int .u8 n) (cInt .i64) false m9 q1 es1 ck1 p2) N ⟨IntKind.wrap .i64 (p1 + 1), m, hr, rfl, hm, st, r1⟩ ?_)
        clear st hr
        rintro k2 _ w14 ⟨s4, m9, hL, rfl, hm, st, r1⟩
        rcases k2 with _ | k2
        · exact loopM_zero hL
        · obtain ⟨qu2, hr, hSu2, hBu2⟩ := loopM_succ hL
          clear hL
          unfold lexer_token_L2 at hr
          refine W_seq ?_
          refine W_seq ?_
          refine W_region ?_
          replace hr := bindS hr
          obtain ⟨o3, hr, hrK⟩ := hr
          refine WO_cut (j := 16) (fun L' w' => ∃ (m10 : Mem), L' = [(0, .string p0), (1, .int .i64 p1), (6, .pointer (some ⟨b1, 0, none⟩)), (14, .int .i64 s4), (89, .bool o3)] ∧ m.le m10 ∧ St m10 (.blk b1 (.cells #[.int .i64 0, .string (⟨#[]⟩ : ByteArray), .int .i64 0, .int .i64 0] 42 (0, 0)) :: mpiece q1 es1 ck1 :: own) w' ∧ MapQ (fun n : Int => Value.int .u8 n) (cInt .i64) false m10 q1 es1 ck1 p2) ?_ ?_
          · clear hr st
            have hr := hrK
            clear hrK
            rintro _ w15 ⟨m10, rfl, hm, st, r1⟩
            refine WO_end rfl ?_
            refine X_then ?_
            refine W_cond o3 (by kernel_rfl) ?_ ?_
            · intro hc
              rw [if_pos hc] at hr
              refine W_skip ?_
              refine X_then ?_
              refine W_seq ?_
              refine W_block ?_
              refine W_seq ?_
              refine W_region ?_
              refine WO_seg 2 [(92, .string p0), (93, .int .i64 s4)] (by kernel_rfl) (by kernel_rfl) ?_
              replace hr := bindS hr
              obtain ⟨x5, hx10, hr⟩ := hr
              refine WO_one rfl (One_strIndex (d := 94) (t := 9) (x := (.tmp 92)) (y := (.tmp 93)) (by kernel_rfl) rfl (show evL _ _ = some (.string p0) from (by kernel_rfl)) (show evL _ _ = some (.int .i64 s4) from (by kernel_rfl)) (by kernel_rfl) hx10 ?_)
              refine WO_seg 1 [(95, .bool ((x5.toNat : Int) == 34))] (by kernel_rfl) (by kernel_rfl) ?_
              refine WO_end rfl ?_
              refine X_then ?_
              refine W_cond ((x5.toNat : Int) == 34) (by kernel_rfl) ?_ ?_
              · intro hc
                rw [if_pos hc] at hr
                refine W_seq ?_
                refine W_region ?_
                refine WO_seg 4 [(96, .string p0), (98, .int .i64 (IntKind.wrap .i64 (p1 + 1))), (99, .int .i64 s4)] (by kernel_rfl) (by kernel_rfl) ?_
                replace hr := bindS hr
                obtain ⟨s5, hx11, hr⟩ := hr
                refine WO_one rfl (One_strSlice (d := 100) (t := 9) (x := (.tmp 96)) (lo := (some (.tmp 98))) (hi := (some (.tmp 99))) (by kernel_rfl) rfl (show evL _ _ = some (.string p0) from (by kernel_rfl)) (by kernel_rfl) (.inr ⟨_, _, rfl, (show evL _ _ = some (.int .i64 (IntKind.wrap .i64 (p1 + 1))) from (by kernel_rfl))⟩) (.inr ⟨_, _, rfl, (show evL _ _ = some (.int .i64 s4) from (by kernel_rfl))⟩) hx11 ?_)
                refine WO_seg 3 [(101, .agg #[.int .i64 3, .string s5, .int .i64 0, .int .i64 0]), (103, .int .i64 (IntKind.wrap .i64 (s4 + 1)))] (by kernel_rfl) (by kernel_rfl) ?_
                refine WO_one rfl (One_store (t := 42) (x := (.tmp 6)) (y := (.tmp 101)) (v := .agg #[.int .i64 3, .string s5, .int .i64 0, .int .i64 0]) (c' := #[.int .i64 3, .string s5, .int .i64 0, .int .i64 0]) (by kernel_rfl) (show evL _ _ = some (.pointer (some ⟨b1, 0, none⟩)) from (by kernel_rfl)) (show evL _ _ = some (.agg #[.int .i64 3, .string s5, .int .i64 0, .int .i64 0]) from (by kernel_rfl)) st (by kernel_rfl) (by kernel_rfl) ?_)
                clear st
                intro w16 st
                refine WO_seg 2 [(7, .int .i64 (IntKind.wrap .i64 (s4 + 1))), (8, .int .i64 0)] (by kernel_rfl) (by kernel_rfl) ?_
                refine WO_end rfl ?_
                refine X_then ?_
                refine W_ret ?_
                refine X_block_ret ?_
                refine X_then_ret ?_
                obtain rfl := Option.some.inj hr
                have ho := hBu2 _ rfl
                subst ho
                have hr := hrKu2
                dsimp only at hr
                refine X_then_ret ?_
                refine X_block_ret ?_
                refine X_then_ret ?_
                refine X_block_ret ?_
                refine X_then_ret ?_
                obtain rfl := Option.some.inj hr
                refine X_ret [.cell 6 42, .tmp 7, .tmp 8] [.agg #[.int .i64 3, .string s5, .int .i64 0, .int .i64 0], .int .i64 (IntKind.wrap .i64 (s4 + 1)), .int .i64 0] rfl (ResAll.cons (ResAt.blk (v := .agg #[.int .i64 3, .string s5, .int .i64 0, .int .i64 0]) (o := 0) (by kernel_rfl) st.head (by kernel_rfl)) (ResAll.cons (ResAt.tmp (by kernel_rfl)) (ResAll.cons (ResAt.tmp (by kernel_rfl)) ResAll.nil))) ?_
                have st := st.tail
                exact ⟨m10, rfl, hm, st⟩
              · intro hc
                rw [if_neg (not_true hc)] at hr
                refine W_skip ?_
                refine X_block ?_
                refine X_then ?_
                refine W_region ?_
                refine WO_seg 3 [(14, .int .i64 (IntKind.wrap .i64 (s4 + 1)))] (by kernel_rfl) (by kernel_rfl) ?_
                refine WO_end rfl ?_
                obtain rfl := Option.some.inj hr
                have hL := hSu2 _ rfl
                have st := st.front1
                have st := st.front1
                exact X_env _ (by kernel_rfl) (X_round k2 (Nat.lt_succ_self _) ⟨IntKind.wrap .i64 (s4 + 1), m10, hL, rfl, hm, st, r1⟩)
            · intro hc
              rw [if_neg (not_true hc)] at hr
              refine W_exit ?_
              refine X_then_exit ?_
              obtain rfl := Option.some.inj hr
              have ho := hBu2 _ rfl
              have st := st.front1
              have st := st.front1
              refine X_then_exit ?_
              exact X_env _ (by kernel_rfl) (K3_u2 _ _ ⟨(), m10, ho, rfl, hm, st, r1⟩)
          · intro K
            clear hrK
            refine WO_seg 5 [(78, .bool (decide (s4 < (ByteArray.size p0 : Int))))] (by kernel_rfl) (by kernel_rfl) ?_
            rcases bcases (decide (s4 < (ByteArray.size p0 : Int))) with hc | hc
            · rw [if_pos hc] at hr
              refine WO_fact (t := 78) (b := true) (decide (s4 < (ByteArray.size p0 : Int))) (by kernel_rfl) hc ?_
              refine WO_seg 2 [(79, .string p0), (80, .int .i64 s4)] (by kernel_rfl) (by kernel_rfl) ?_
              replace hr := bindS hr
              obtain ⟨x3, hx8, hr⟩ := hr
              refine WO_one rfl (One_strIndex (d := 81) (t := 9) (x := (.tmp 79)) (y := (.tmp 80)) (by kernel_rfl) rfl (show evL _ _ = some (.string p0) from (by kernel_rfl)) (show evL _ _ = some (.int .i64 s4) from (by kernel_rfl)) (by kernel_rfl) hx8 ?_)
              refine WO_seg 3 [(84, .bool (decide ((x3.toNat : Int) ≥ 32)))] (by kernel_rfl) (by kernel_rfl) ?_
              rcases bcases (decide ((x3.toNat : Int) ≥ 32)) with hc | hc
              · rw [if_pos hc] at hr
                refine WO_fact (t := 84) (b := true) (decide ((x3.toNat : Int) ≥ 32)) (by kernel_rfl) hc ?_
                refine WO_seg 2 [(85, .string p0), (86, .int .i64 s4)] (by kernel_rfl) (by kernel_rfl) ?_
                replace hr := bindS hr
                obtain ⟨x4, hx9, hr⟩ := hr
                refine WO_one rfl (One_strIndex (d := 87) (t := 9) (x := (.tmp 85)) (y := (.tmp 86)) (by kernel_rfl) rfl (show evL _ _ = some (.string p0) from (by kernel_rfl)) (show evL _ _ = some (.int .i64 s4) from (by kernel_rfl)) (by kernel_rfl) hx9 ?_)
                refine WO_seg 2 [(89, .bool (decide ((x4.toNat : Int) ≤ 126)))] (by kernel_rfl) (by kernel_rfl) ?_
                obtain rfl := Option.some.inj hr
                have st := st.front1
                have st := st.front1
                exact WO_env _ (by kernel_rfl) (K _ _ ⟨m9, rfl, hm, st, r1⟩)
              · rw [if_neg (not_true hc)] at hr
                refine WO_fact (t := 84) (b := false) (decide ((x3.toNat : Int) ≥ 32)) (by kernel_rfl) hc ?_
                refine WO_seg 5 [(89, .bool false)] (by kernel_rfl) (by kernel_rfl) ?_
                obtain rfl := Option.some.inj hr
                have st := st.front1
                have st := st.front1
                exact WO_env _ (by kernel_rfl) (K _ _ ⟨m9, rfl, hm, st, r1⟩)
            · rw [if_neg (not_true hc)] at hr
              refine WO_fact (t := 78) (b := false) (decide (s4 < (ByteArray.size p0 : Int))) (by kernel_rfl) hc ?_
              refine WO_seg 11 [(89, .bool false)] (by kernel_rfl) (by kernel_rfl) ?_
              obtain rfl := Option.some.inj hr
              have st := st.front1
              have st := st.front1
              exact WO_env _ (by kernel_rfl) (K _ _ ⟨m9, rfl, hm, st, r1⟩)
      · intro hc
        rw [if_neg (not_true hc)] at hr
        refine W_seq ?_
        refine W_region ?_
        refine WO_seg 2 [(105, .bool (((mgetQ p2 (x1.toNat : Int)).getD 0) == 8))] (by kernel_rfl) (by kernel_rfl) ?_
        refine WO_end rfl ?_
        refine X_then ?_
        refine W_cond (((mgetQ p2 (x1.toNat : Int)).getD 0) == 8) (by kernel_rfl) ?_ ?_
        · intro hc
          rw [if_pos hc] at hr
          refine W_seq ?_
          refine W_region ?_
          refine WO_seg 3 [(15, .int .i64 (IntKind.wrap .i64 (p1 + 1)))] (by kernel_rfl) (by kernel_rfl) ?_
          refine WO_end rfl ?_
          refine X_then ?_
          refine W_seq ?_
          refine W_seq ?_
          refine W_region ?_
          refine WO_seg 2 [(109, .string p0), (110, .int .i64 p1)] (by kernel_rfl) (by kernel_rfl) ?_
          replace hr := bindS hr
          obtain ⟨s6, hx12, hr⟩ := hr
          refine WO_one rfl (One_strSlice (d := 111) (t := 9) (x := (.tmp 109)) (lo := (some (.tmp 110))) (hi := none) (by kernel_rfl) rfl (show evL _ _ = some (.string p0) from (by kernel_rfl)) (by kernel_rfl) (.inr ⟨_, _, rfl, (show evL _ _ = some (.int .i64 p1) from (by kernel_rfl))⟩) (.inl ⟨rfl, rfl⟩) hx12 ?_)
          replace hr := bindS hr
          obtain ⟨y3, hx13, hr⟩ := hr
          refine WO_one rfl (One_fn 112 86 #[.string s6, .string (⟨#[61, 61]⟩ : ByteArray)] (by kernel_rfl) rfl ?_)
          refine (strings_HasPrefix_ok st hx13).mono ?_
          clear st
          rintro _ w18 ⟨m11, rfl, hle6, st⟩
          refine ⟨_, rfl, ?_⟩
          have hm := Mem.le_trans hm hle6
          have r1 := r1.mono hle6
          refine WO_end rfl ?_
          refine X_then ?_
          replace hr := bindS hr
          obtain ⟨o4, hr, hrKu4⟩ := hr
          refine W_cut .normal (fun L' w' => ∃ (m12 : Mem), L' = [(0, .string p0), (1, .int .i64 p1), (6, .pointer (some ⟨b1, 0, none⟩)), (15, .int .i64 o4)] ∧ m.le m12 ∧ St m12 (.blk b1 (.cells #[.int .i64 0, .string (⟨#[]⟩ : ByteArray), .int .i64 0, .int .i64 0] 42 (0, 0)) :: mpiece q1 es1 ck1 :: own) w' ∧ MapQ (fun n : Int => Value.int .u8 n) (cInt .i64) false m12 q1 es1 ck1 p2) ?_ ?_
          · clear hr st
            have hr := hrKu4
            clear hrKu4
            rintro _ w19 ⟨m12, rfl, hm, st, r1⟩
            refine X_then ?_
            refine W_seq ?_
            refine W_region ?_
            refine WO_seg 3 [(115, .string p0), (116, .int .i64 p1), (117, .int .i64 o4)] (by kernel_rfl) (by kernel_rfl) ?_
            replace hr := bindS hr
            obtain ⟨s7, hx14, hr⟩ := hr
            refine WO_one rfl (One_strSlice (d := 118) (t := 9) (x := (.tmp 115)) (lo := (some (.tmp 116))) (hi := (some (.tmp 117))) (by kernel_rfl) rfl (show evL _ _ = some (.string p0) from (by kernel_rfl)) (by kernel_rfl) (.inr ⟨_, _, rfl, (show evL _ _ = some (.int .i64 p1) from (by kernel_rfl))⟩) (.inr ⟨_, _, rfl, (show evL _ _ = some (.int .i64 o4) from (by kernel_rfl))⟩) hx14 ?_)
            refine WO_seg 2 [(119, .agg #[.int .i64 4, .string s7, .int .i64 0, .int .i64 0]), (120, .int .i64 o4)] (by kernel_rfl) (by kernel_rfl) ?_
            refine WO_one rfl (One_store (t := 42) (x := (.tmp 6)) (y := (.tmp 119)) (v := .agg #[.int .i64 4, .string s7, .int .i64 0, .int .i64 0]) (c' := #[.int .i64 4, .string s7, .int .i64 0, .int .i64 0]) (by kernel_rfl) (show evL _ _ = some (.pointer (some ⟨b1, 0, none⟩)) from (by kernel_rfl)) (show evL _ _ = some (.agg #[.int .i64 4, .string s7, .int .i64 0, .int .i64 0]) from (by kernel_rfl)) st (by kernel_rfl) (by kernel_rfl) ?_)
            clear st
            intro w20 st
            refine WO_seg 2 [(7, .int .i64 o4), (8, .int .i64 0)] (by kernel_rfl) (by kernel_rfl) ?_
            refine WO_end rfl ?_
            refine X_then ?_
            refine W_ret ?_
            refine X_block_ret ?_
            refine X_then_ret ?_
            obtain rfl := Option.some.inj hr
            refine X_ret [.cell 6 42, .tmp 7, .tmp 8] [.agg #[.int .i64 4, .string s7, .int .i64 0, .int .i64 0], .int .i64 o4, .int .i64 0] rfl (ResAll.cons (ResAt.blk (v := .agg #[.int .i64 4, .string s7, .int .i64 0, .int .i64 0]) (o := 0) (by kernel_rfl) st.head (by kernel_rfl)) (ResAll.cons (ResAt.tmp (by kernel_rfl)) (ResAll.cons (ResAt.tmp (by kernel_rfl)) ResAll.nil))) ?_
            have st := st.tail
            exact ⟨m12, rfl, hm, st⟩
          · intro Ku4
            clear hrKu4
            refine W_cond y3 (by kernel_rfl) ?_ ?_
            · intro hc
              rw [if_pos hc] at hr
              refine W_region ?_
              refine WO_seg 3 [(15, .int .i64 (IntKind.wrap .i64 ((IntKind.wrap .i64 (p1 + 1)) + 1)))] (by kernel_rfl) (by kernel_rfl) ?_
              refine WO_end rfl ?_
              obtain rfl := Option.some.inj hr
              have st := st.front1
              have st := st.front1
              exact X_env _ (by kernel_rfl) (Ku4 _ _ ⟨m11, rfl, hm, st, r1⟩)
            · intro hc
              rw [if_neg (not_true hc)] at hr
              refine W_skip ?_
              obtain rfl := Option.some.inj hr
              have st := st.front1
              have st := st.front1
              exact X_env _ (by kernel_rfl) (Ku4 _ _ ⟨m11, rfl, hm, st, r1⟩)
        · intro hc
          rw [if_neg (not_true hc)] at hr
          refine W_skip ?_
          refine X_block ?_
          refine X_then ?_
          refine W_seq ?_
          refine W_region ?_
          refine WO_seg 1 [(121, .agg #[.int .i64 0, .string (⟨#[]⟩ : ByteArray), .int .i64 0, .int .i64 0])] (by kernel_rfl) (by kernel_rfl) ?_
          refine WO_one rfl (One_store (t := 42) (x := (.tmp 6)) (y := (.tmp 121)) (v := .agg #[.int .i64 0, .string (⟨#[]⟩ : ByteArray), .int .i64 0, .int .i64 0]) (c' := #[.int .i64 0, .string (⟨#[]⟩ : ByteArray), .int .i64 0, .int .i64 0]) (by kernel_rfl) (show evL _ _ = some (.pointer (some ⟨b1, 0, none⟩)) from (by kernel_rfl)) (show evL _ _ = some (.agg #[.int .i64 0, .string (⟨#[]⟩ : ByteArray), .int .i64 0, .int .i64 0]) from (by kernel_rfl)) st (by kernel_rfl) (by kernel_rfl) ?_)
          clear st
          intro w21 st
          refine WO_seg 2 [(7, .int .i64 0), (8, .int .i64 9)] (by kernel_rfl) (by kernel_rfl) ?_
          refine WO_end rfl ?_
          refine X_then ?_
          refine W_ret ?_
          obtain rfl := Option.some.inj hr
          refine X_ret [.cell 6 42, .tmp 7, .tmp 8] [.agg #[.int .i64 0, .string (⟨#[]⟩ : ByteArray), .int .i64 0, .int .i64 0], .int .i64 0, .int .i64 9] rfl (ResAll.cons (ResAt.blk (v := .agg #[.int .i64 0, .string (⟨#[]⟩ : ByteArray), .int .i64 0, .int .i64 0]) (o := 0) (by kernel_rfl) st.head (by kernel_rfl)) (ResAll.cons (ResAt.tmp (by kernel_rfl)) (ResAll.cons (ResAt.tmp (by kernel_rfl)) ResAll.nil))) ?_
          have st := st.tail
          exact ⟨m, rfl, hm, st⟩

def lexer_Tokens_L1 (N : Nat) (p0 : ByteArray) (y1 : Option (List (Int × Int))) (s1 : (List (Int × ByteArray × Int × Int)) × Int) : Option (((List (Int × ByteArray × Int × Int)) × Int) ⊕ (((List (Int × ByteArray × Int × Int)) × Int × Int))) :=
  (lexer_span N p0 s1.2 y1 ([5])).bind fun y2 => if (y2 == (ByteArray.size p0 : Int)) = true then ((appendS 40 s1.1 ([(5, (⟨#[]⟩ : ByteArray), 0, y2)])).bind fun l1 => some (.inr (l1, 0, 0))) else ((idxB p0 y2).bind fun x1 => if (((mgetQ y1 (x1.toNat : Int)).getD 0) == 6) = true then ((subB p0 y2 (ByteArray.size p0 : Int)).bind fun s2 => (strings_IndexByte N s2 10).bind fun y3 => (if (decide (y3 < 0)) = true then (some (IntKind.wrap .i64 ((ByteArray.size p0 : Int) - y2))) else (some y3) : Option (Int)).bind fun o1 => some (.inl (s1.1, IntKind.wrap .i64 (y2 + o1)))) else ((lexer_token N p0 y2 y1).bind fun y4 => if (y4.2.2 != 0) = true then (some (.inr (([] : List (Int × ByteArray × Int × Int)), y2, y4.2.2))) else ((appendS 40 s1.1 ([(y4.1.1, y4.1.2.1, y4.1.2.2.1, y2)])).bind fun l2 => some (.inl (l2, y4.2.1)))))

def lexer_Tokens (N : Nat) (p0 : ByteArray) : Option ((List (Int × ByteArray × Int × Int)) × Int × Int) :=
  if (decide ((ByteArray.size p0 : Int) > 16384)) = true then (some (([] : List (Int × ByteArray × Int × Int)), 0, 2)) else ((lexer_kinds N).bind fun y1 => (loopM (lexer_Tokens_L1 N p0 y1) N (([] : List (Int × ByteArray × Int × Int)), 0)).bind fun z => some z)

set_option maxHeartbeats 4000000 in
set_option maxRecDepth 100000 in
theorem lexer_Tokens_ok {N : Nat} {m : Mem} {own : List Piece} {w : World} {p0 : ByteArray} {r : (List (Int × ByteArray × Int × Int)) × Int × Int} (st : St m (own) w) (hr : lexer_Tokens N p0 = some r) : Calls Go.Proofs.Tryd.prog 24 #[.string p0] w fun e w' => ∃ (ra1 : Option Addr) (rc1 : Nat) (m' : Mem), e = .returned (.tuple #[.slice ra1 (List.length r.1) rc1, .int .i64 r.2.1, .int .i64 r.2.2]) ∧ m.le m' ∧ St m' (.room ra1 (List.length r.1) rc1 42 4 :: own) w' ∧ RepS (cPair (cInt .i64) (cPair cStr (cPair (cInt .i64) (cInt .i64)))) m' ra1 rc1 r.1 := by
  unfold lexer_Tokens at hr
  have hm := m.le_refl
  refine W_calls Go.Proofs.Tryd.func24 rfl Go.Proofs.Tryd.ntmps24 [(0, .string p0)] (by kernel_rfl) rfl ?_
  refine W_seq ?_
  refine W_region ?_
  refine WO_seg 3 [(2, .slice none (List.length ([] : List (Int × ByteArray × Int × Int))) 0)] (by kernel_rfl) (by kernel_rfl) ?_
  refine WO_end rfl ?_
  refine X_then ?_
  refine W_scope ?_
  refine W_seq ?_
  refine W_seq ?_
  refine W_region ?_
  refine WO_seg 3 [(13, .bool (decide ((ByteArray.size p0 : Int) > 16384)))] (by kernel_rfl) (by kernel_rfl) ?_
  refine WO_end rfl ?_
  refine X_then ?_
  refine W_cond (decide ((ByteArray.size p0 : Int) > 16384)) (by kernel_rfl) ?_ ?_
  · intro hc
    rw [if_pos hc] at hr
    refine W_seq ?_
    refine W_region ?_
    refine WO_seg 3 [(2, .slice none (List.length ([] : List (Int × ByteArray × Int × Int))) 0), (3, .int .i64 0), (4, .int .i64 2)] (by kernel_rfl) (by kernel_rfl) ?_
    refine WO_end rfl ?_
    refine X_then ?_
    refine W_ret ?_
    refine X_then_ret ?_
    refine X_scope_ret ?_
    obtain rfl := Option.some.inj hr
    refine X_ret [.tmp 2, .tmp 3, .tmp 4] [.slice none (List.length ([] : List (Int × ByteArray × Int × Int))) 0, .int .i64 0, .int .i64 2] rfl (ResAll.cons (ResAt.tmp (by kernel_rfl)) (ResAll.cons (ResAt.tmp (by kernel_rfl)) (ResAll.cons (ResAt.tmp (by kernel_rfl)) ResAll.nil))) ?_
    have st := st.nilroom 42 4
    exact ⟨none, 0, m, rfl, hm, st, (RepS.nil _ _)⟩
  · intro hc
    rw [if_neg (not_true hc)] at hr
    refine W_skip ?_
    refine X_then ?_
    refine W_seq ?_
    refine W_region ?_
    replace hr := bindS hr
    obtain ⟨y1, hx1, hr⟩ := hr
    refine WO_one rfl (One_fn 14 49 #[] (by kernel_rfl) rfl ?_)
    refine (lexer_kinds_ok st hx1).mono ?_
    clear st
    rintro _ w1 ⟨q1, es1, ck1, m1, rfl, hle1, st, r1⟩
    refine ⟨_, rfl, ?_⟩
    have hm := Mem.le_trans hm hle1
    refine WO_seg 1 [(5, .map q1)] (by kernel_rfl) (by kernel_rfl) ?_
    refine WO_end rfl ?_
    refine X_then ?_
    refine W_seq ?_
    refine W_region ?_
    refine WO_seg 1 [(6, .int .i64 0)] (by kernel_rfl) (by kernel_rfl) ?_
    refine WO_end rfl ?_
    refine X_then ?_
    refine W_seq ?_
    refine W_label ?_
    refine X_then ?_
    refine W_block ?_
    replace hr := bindS hr
    obtain ⟨out1, hr, hrKu1⟩ := hr
    have st := st.nilroom 42 4
    have st := st.front1
    refine W_env _ (by kernel_rfl) (W_loop (fun k1 L' w' => ∃ (s1 : (List (Int × ByteArray × Int × Int)) × Int) (a1 : Option Addr) (c1 : Nat) (m2 : Mem), loopM (lexer_Tokens_L1 N p0 y1) k1 s1 = some out1 ∧ L' = [(0, .string p0), (2, .slice a1 (List.length s1.1) c1), (5, .map q1), (6, .int .i64 s1.2)] ∧ m.le m2 ∧ St m2 (mpiece q1 es1 ck1 :: .room a1 (List.length s1.1) c1 42 4 :: own) w' ∧ RepS (cPair (cInt .i64) (cPair cStr (cPair (cInt .i64) (cInt .i64)))) m2 a1 c1 s1.1 ∧ MapQ (fun n : Int => Value.int .u8 n) (cInt .i64) false m2 q1 es1 ck1 y1) N ⟨(([] : List (Int × ByteArray × Int × Int)), 0), none, 0, m1, hr, rfl, hm, st, (RepS.nil _ _), r1⟩ ?_)
    clear st hr
    rintro k1 _ w2 ⟨s1, a1, c1, m2, hL, rfl, hm, st, r2, r1⟩
    rcases k1 with _ | k1
    · exact loopM_zero hL
    · obtain ⟨qu1, hr, hSu1, hBu1⟩ := loopM_succ hL
      clear hL
      unfold lexer_Tokens_L1 at hr
      refine W_block ?_
      refine W_seq ?_
      refine W_region ?_
      refine WO_seg 3 [(15, .string p0), (16, .int .i64 s1.2), (17, .map q1)] (by kernel_rfl) (by kernel_rfl) ?_
      refine WO_one rfl (One_buildSlice (d := 18) (t := 26) (e := 3) (len := 1) (parts := #[(0, (.const (.int .i64 5)))]) (cInt .i64) (xs := [5]) [.int .i64 5] (by kernel_rfl) rfl (fun _ => buildCells_run (by kernel_rfl) _) rfl rfl st ⟨[.int .i64 5], _, rfl, rfl, rfl⟩ ?_)
      clear st
      intro b1 m3 w3 hle2 st r3
      have hm := Mem.le_trans hm hle2
      have r2 := r2.mono hle2
      have r1 := r1.mono hle2
      have st := st.front1
      replace hr := bindS hr
      obtain ⟨y2, hx2, hr⟩ := hr
      refine WO_one rfl (One_fn 19 50 #[.string p0, .int .i64 s1.2, .map q1, .slice (some ⟨b1, 0, none⟩) (List.length ([5])) 1] (by kernel_rfl) rfl ?_)
      refine (lexer_span_ok st r1 r3 hx2).mono ?_
      clear st
      rintro _ w4 ⟨m4, rfl, hle3, st⟩
      refine ⟨_, rfl, ?_⟩
      have hm := Mem.le_trans hm hle3
      have r2 := r2.mono hle3
      have r3 := r3.mono hle3
      have r1 := r1.mono hle3
      refine WO_seg 1 [(6, .int .i64 y2)] (by kernel_rfl) (by kernel_rfl) ?_
      refine WO_end rfl ?_
      have st := st.front1
      have st := st.tail
      refine X_then ?_
      refine W_seq ?_
      refine W_block ?_
      refine W_seq ?_
      refine W_region ?_
      refine WO_seg 5 [(20, .bool (y2 == (ByteArray.size p0 : Int)))] (by kernel_rfl) (by kernel_rfl) ?_
      refine WO_end rfl ?_
      refine X_then ?_
      refine W_cond (y2 == (ByteArray.size p0 : Int)) (by kernel_rfl) ?_ ?_
      · intro hc
        rw [if_pos hc] at hr
        refine W_seq ?_
        refine W_region ?_
        refine WO_seg 3 [(25, .slice a1 (List.length s1.1) c1), (27, .agg #[.int .i64 5, .string (⟨#[]⟩ : ByteArray), .int .i64 0, .int .i64 y2])] (by kernel_rfl) (by kernel_rfl) ?_
        refine WO_one rfl (One_buildSlice (d := 28) (t := 37) (e := 42) (len := 1) (parts := #[(0, (.tmp 27))]) (cPair (cInt .i64) (cPair cStr (cPair (cInt .i64) (cInt .i64)))) (xs := [(5, (⟨#[]⟩ : ByteArray), 0, y2)]) [.int .i64 5, .string (⟨#[]⟩ : ByteArray), .int .i64 0, .int .i64 y2] (by kernel_rfl) rfl (fun _ => buildCells_run (by kernel_rfl) _) rfl rfl st ⟨[.int .i64 5, .string (⟨#[]⟩ : ByteArray), .int .i64 0, .int .i64 y2], _, rfl, ⟨_, _, rfl, rfl, ⟨_, _, rfl, rfl, ⟨_, _, rfl, rfl, rfl⟩⟩⟩, rfl⟩ ?_)
        clear st
        intro b2 m5 w5 hle4 st r4
        have hm := Mem.le_trans hm hle4
        have r2 := r2.mono hle4
        have r1 := r1.mono hle4
        have st := st.front2
        replace hr := bindS hr
        obtain ⟨l1, hx3, hr⟩ := hr
        refine WO_one rfl (One_append (d := 29) (t := 37) (u := 37) (e := 42) (by_ := 40) (x := (.tmp 25)) (y := (.tmp 28)) (cPair (cInt .i64) (cPair cStr (cPair (cInt .i64) (cInt .i64)))) (by kernel_rfl) rfl (show evL _ _ = some (.slice a1 (List.length s1.1) c1) from (by kernel_rfl)) (show evL _ _ = some (.slice (some ⟨b2, 0, none⟩) (List.length ([(5, (⟨#[]⟩ : ByteArray), 0, y2)])) 1) from (by kernel_rfl)) st (by kernel_rfl) (.inl (by kernel_rfl)) r2 r4.src hx3 ?_)
        clear st
        intro a2 c2 m6 w6 hle5 st r5
        have hm := Mem.le_trans hm hle5
        have r2 := r2.mono hle5
        have r4 := r4.mono hle5
        have r1 := r1.mono hle5
        refine WO_seg 3 [(2, .slice a2 (List.length l1) c2), (3, .int .i64 0), (4, .int .i64 0)] (by kernel_rfl) (by kernel_rfl) ?_
        refine WO_end rfl ?_
        have st := st.front1
        have st := st.tail
        refine X_then ?_
        refine W_ret ?_
        refine X_block_ret ?_
        refine X_then_ret ?_
        refine X_block_ret ?_
        obtain rfl := Option.some.inj hr
        have ho := hBu1 _ rfl
        subst ho
        have hr := hrKu1
        refine X_then_ret ?_
        refine X_block_ret ?_
        refine X_scope_ret ?_
        obtain rfl := Option.some.inj hr
        refine X_ret [.tmp 2, .tmp 3, .tmp 4] [.slice a2 (List.length l1) c2, .int .i64 0, .int .i64 0] rfl (ResAll.cons (ResAt.tmp (by kernel_rfl)) (ResAll.cons (ResAt.tmp (by kernel_rfl)) (ResAll.cons (ResAt.tmp (by kernel_rfl)) ResAll.nil))) ?_
        have st := st.front1
        have st := st.tail
        exact ⟨a2, c2, m6, rfl, hm, st, r5⟩
      · intro hc
        rw [if_neg (not_true hc)] at hr
        refine W_seq ?_
        refine W_region ?_
        refine WO_seg 3 [(31, .map q1), (32, .string p0), (33, .int .i64 y2)] (by kernel_rfl) (by kernel_rfl) ?_
        replace hr := bindS hr
        obtain ⟨x1, hx4, hr⟩ := hr
        refine WO_one rfl (One_strIndex (d := 34) (t := 9) (x := (.tmp 32)) (y := (.tmp 33)) (by kernel_rfl) rfl (show evL _ _ = some (.string p0) from (by kernel_rfl)) (show evL _ _ = some (.int .i64 y2) from (by kernel_rfl)) (by kernel_rfl) hx4 ?_)
        refine WO_one rfl (One_lookup (ek := (fun n : Int => Value.int .u8 n)) (c := (cInt .i64)) (agg := false) (k := (x1.toNat : Int)) (zx := 0) (zcs := [.int .i64 0]) (z := (.int .i64 0)) (kt := 5) (et := 3) (d := 35) (t := 68) (x := (.tmp 31)) (y := (.tmp 34)) (ok := false) (by kernel_rfl) rfl (show evL _ _ = some (.map q1) from (by kernel_rfl)) (show evL _ _ = some (.int .u8 (x1.toNat : Int)) from (by kernel_rfl)) (by kernel_rfl) (keyInt (by kernel_rfl)) st.head r1 rfl rfl ?_)
        rintro cs1 rfl
        refine WO_seg 2 [(30, .bool (((mgetQ y1 (x1.toNat : Int)).getD 0) == 6))] (by kernel_rfl) (by kernel_rfl) ?_
        refine WO_end rfl ?_
        refine X_then ?_
        refine W_cond (((mgetQ y1 (x1.toNat : Int)).getD 0) == 6) (by kernel_rfl) ?_ ?_
        · intro hc
          rw [if_pos hc] at hr
          refine W_seq ?_
          refine W_region ?_
          refine WO_seg 2 [(37, .string p0), (38, .int .i64 y2)] (by kernel_rfl) (by kernel_rfl) ?_
          replace hr := bindS hr
          obtain ⟨s2, hx5, hr⟩ := hr
          refine WO_one rfl (One_strSlice (d := 39) (t := 9) (x := (.tmp 37)) (lo := (some (.tmp 38))) (hi := none) (by kernel_rfl) rfl (show evL _ _ = some (.string p0) from (by kernel_rfl)) (by kernel_rfl) (.inr ⟨_, _, rfl, (show evL _ _ = some (.int .i64 y2) from (by kernel_rfl))⟩) (.inl ⟨rfl, rfl⟩) hx5 ?_)
          replace hr := bindS hr
          obtain ⟨y3, hx6, hr⟩ := hr
          refine WO_one rfl (One_fn 40 54 #[.string s2, .int .u8 10] (by kernel_rfl) rfl ?_)
          refine (strings_IndexByte_ok st hx6).mono ?_
          clear st
          rintro _ w7 ⟨m7, rfl, hle6, st⟩
          refine ⟨_, rfl, ?_⟩
          have hm := Mem.le_trans hm hle6
          have r2 := r2.mono hle6
          have r1 := r1.mono hle6
          refine WO_seg 1 [(7, .int .i64 y3)] (by kernel_rfl) (by kernel_rfl) ?_
          refine WO_end rfl ?_
          refine X_then ?_
          refine W_seq ?_
          refine W_seq ?_
          refine W_region ?_
          refine WO_seg 2 [(42, .bool (decide (y3 < 0)))] (by kernel_rfl) (by kernel_rfl) ?_
          refine WO_end rfl ?_
          refine X_then ?_
          replace hr := bindS hr
          obtain ⟨o1, hr, hrKu2⟩ := hr
          refine W_cut .normal (fun L' w' => ∃ (m8 : Mem), L' = [(0, .string p0), (2, .slice a1 (List.length s1.1) c1), (5, .map q1), (6, .int .i64 y2), (7, .int .i64 o1)] ∧ m.le m8 ∧ St m8 (mpiece q1 es1 ck1 :: .room a1 (List.length s1.1) c1 42 4 :: own) w' ∧ RepS (cPair (cInt .i64) (cPair cStr (cPair (cInt .i64) (cInt .i64)))) m8 a1 c1 s1.1 ∧ MapQ (fun n : Int => Value.int .u8 n) (cInt .i64) false m8 q1 es1 ck1 y1) ?_ ?_
          · clear hr st
            have hr := hrKu2
            clear hrKu2
            rintro _ w8 ⟨m8, rfl, hm, st, r2, r1⟩
            refine X_then ?_
            refine W_seq ?_
            refine W_region ?_
            refine WO_seg 4 [(6, .int .i64 (IntKind.wrap .i64 (y2 + o1)))] (by kernel_rfl) (by kernel_rfl) ?_
            refine WO_end rfl ?_
            refine X_then ?_
            refine W_exit ?_
            refine X_block_ne rfl ?_
            refine X_then_exit ?_
            refine X_block_eq ?_
            obtain rfl := Option.some.inj hr
            have hL := hSu1 _ rfl
            have st := st.front1
            have st := st.front1
            exact X_env _ (by kernel_rfl) (X_round k1 (Nat.lt_succ_self _) ⟨(s1.1, IntKind.wrap .i64 (y2 + o1)), a1, c1, m8, hL, rfl, hm, st, r2, r1⟩)
          · intro Ku2
            clear hrKu2
            refine W_cond (decide (y3 < 0)) (by kernel_rfl) ?_ ?_
            · intro hc
              rw [if_pos hc] at hr
              refine W_region ?_
              refine WO_seg 5 [(7, .int .i64 (IntKind.wrap .i64 ((ByteArray.size p0 : Int) - y2)))] (by kernel_rfl) (by kernel_rfl) ?_
              refine WO_end rfl ?_
              obtain rfl := Option.some.inj hr
              have st := st.front1
              have st := st.front1
              exact X_env _ (by kernel_rfl) (Ku2 _ _ ⟨m7, rfl, hm, st, r2, r1⟩)
            · intro hc
              rw [if_neg (not_true hc)] at hr
              refine W_skip ?_
              obtain rfl := Option.some.inj hr
              have st := st.front1
              have st := st.front1
              exact X_env _ (by kernel_rfl) (Ku2 _ _ ⟨m7, rfl, hm, st, r2, r1⟩)
        · intro hc
          rw [if_neg (not_true hc)] at hr
          refine W_skip ?_
          refine X_block ?_
          refine X_then ?_
          refine W_seq ?_
          refine W_region ?_
          refine WO_seg 3 [(51, .string p0), (52, .int .i64 y2), (53, .map q1)] (by kernel_rfl) (by kernel_rfl) ?_
          replace hr := bindS hr
          obtain ⟨y4, hx7, hr⟩ := hr
          refine WO_one rfl (One_fn 54 55 #[.string p0, .int .i64 y2, .map q1] (by kernel_rfl) rfl ?_)
          refine (lexer_token_ok st r1 hx7).mono ?_
          clear st
          rintro _ w9 ⟨m9, rfl, hle7, st⟩
          refine ⟨_, rfl, ?_⟩
          have hm := Mem.le_trans hm hle7
          have r2 := r2.mono hle7
          have r1 := r1.mono hle7
          refine WO_seg 4 [(55, .agg #[.int .i64 y4.1.1, .string y4.1.2.1, .int .i64 y4.1.2.2.1, .int .i64 y4.1.2.2.2]), (56, .int .i64 y4.2.1), (57, .int .i64 y4.2.2)] (by kernel_rfl) (by kernel_rfl) ?_
          refine WO_one rfl (One_alloc (d := 8) (e := 42) (.agg #[.int .i64 0, .string (⟨#[]⟩ : ByteArray), .int .i64 0, .int .i64 0]) (by kernel_rfl) rfl (by kernel_rfl) st ?_)
          clear st
          intro b3 w10 st
          refine WO_one rfl (One_store (t := 42) (x := (.tmp 8)) (y := (.tmp 55)) (v := .agg #[.int .i64 y4.1.1, .string y4.1.2.1, .int .i64 y4.1.2.2.1, .int .i64 y4.1.2.2.2]) (c' := #[.int .i64 y4.1.1, .string y4.1.2.1, .int .i64 y4.1.2.2.1, .int .i64 y4.1.2.2.2]) (by kernel_rfl) (show evL _ _ = some (.pointer (some ⟨b3, 0, none⟩)) from (by kernel_rfl)) (show evL _ _ = some (.agg #[.int .i64 y4.1.1, .string y4.1.2.1, .int .i64 y4.1.2.2.1, .int .i64 y4.1.2.2.2]) from (by kernel_rfl)) st (by kernel_rfl) (by kernel_rfl) ?_)
          clear st
          intro w11 st
          refine WO_seg 2 [(9, .int .i64 y4.2.1), (10, .int .i64 y4.2.2)] (by kernel_rfl) (by kernel_rfl) ?_
          refine WO_end rfl ?_
          refine X_then ?_
          refine W_seq ?_
          refine W_seq ?_
          refine W_region ?_
          refine WO_seg 2 [(59, .bool (y4.2.2 != 0))] (by kernel_rfl) (by kernel_rfl) ?_
          refine WO_end rfl ?_
          refine X_then ?_
          refine W_cond (y4.2.2 != 0) (by kernel_rfl) ?_ ?_
          · intro hc
            rw [if_pos hc] at hr
            refine W_seq ?_
            refine W_region ?_
            refine WO_seg 5 [(2, .slice none (List.length ([] : List (Int × ByteArray × Int × Int))) 0), (3, .int .i64 y2), (4, .int .i64 y4.2.2)] (by kernel_rfl) (by kernel_rfl) ?_
            refine WO_end rfl ?_
            have st := st.front2
            have st := st.tail
            refine X_then ?_
            refine W_ret ?_
            refine X_then_ret ?_
            refine X_block_ret ?_
            obtain rfl := Option.some.inj hr
            have ho := hBu1 _ rfl
            subst ho
            have hr := hrKu1
            refine X_then_ret ?_
            refine X_block_ret ?_
            refine X_scope_ret ?_
            obtain rfl := Option.some.inj hr
            refine X_ret [.tmp 2, .tmp 3, .tmp 4] [.slice none (List.length ([] : List (Int × ByteArray × Int × Int))) 0, .int .i64 y2, .int .i64 y4.2.2] rfl (ResAll.cons (ResAt.tmp (by kernel_rfl)) (ResAll.cons (ResAt.tmp (by kernel_rfl)) (ResAll.cons (ResAt.tmp (by kernel_rfl)) ResAll.nil))) ?_
            have st := st.nilroom 42 4
            have st := st.front1
            have st := st.tail
            have st := st.front1
            have st := st.tail
            exact ⟨none, 0, m9, rfl, hm, st, (RepS.nil _ _)⟩
          · intro hc
            rw [if_neg (not_true hc)] at hr
            refine W_skip ?_
            refine X_then ?_
            refine W_seq ?_
            refine W_region ?_
            refine WO_seg 2 [(62, .int .i64 y2), (63, .pointer (some ⟨b3, 3, none⟩))] (by kernel_rfl) (by kernel_rfl) ?_
            refine WO_one rfl (One_store (t := 3) (x := (.tmp 63)) (y := (.tmp 62)) (v := .int .i64 y2) (c' := #[.int .i64 y4.1.1, .string y4.1.2.1, .int .i64 y4.1.2.2.1, .int .i64 y2]) (by kernel_rfl) (show evL _ _ = some (.pointer (some ⟨b3, 3, none⟩)) from (by kernel_rfl)) (show evL _ _ = some (.int .i64 y2) from (by kernel_rfl)) st (by kernel_rfl) (by kernel_rfl) ?_)
            clear st
            intro w12 st
            refine WO_end rfl ?_
            refine X_then ?_
            refine W_region ?_
            refine WO_seg 1 [(64, .slice a1 (List.length s1.1) c1)] (by kernel_rfl) (by kernel_rfl) ?_
            refine WO_one rfl (One_load_own (d := 65) (t := 42) (x := (.tmp 8)) (.agg #[.int .i64 y4.1.1, .string y4.1.2.1, .int .i64 y4.1.2.2.1, .int .i64 y2]) (by kernel_rfl) rfl (show evL _ _ = some (.pointer (some ⟨b3, 0, none⟩)) from (by kernel_rfl)) st.head (by kernel_rfl) ?_)
            refine WO_one rfl (One_buildSlice (d := 66) (t := 37) (e := 42) (len := 1) (parts := #[(0, (.tmp 65))]) (cPair (cInt .i64) (cPair cStr (cPair (cInt .i64) (cInt .i64)))) (xs := [(y4.1.1, y4.1.2.1, y4.1.2.2.1, y2)]) [.int .i64 y4.1.1, .string y4.1.2.1, .int .i64 y4.1.2.2.1, .int .i64 y2] (by kernel_rfl) rfl (fun _ => buildCells_run (by kernel_rfl) _) rfl rfl st ⟨[.int .i64 y4.1.1, .string y4.1.2.1, .int .i64 y4.1.2.2.1, .int .i64 y2], _, rfl, ⟨_, _, rfl, rfl, ⟨_, _, rfl, rfl, ⟨_, _, rfl, rfl, rfl⟩⟩⟩, rfl⟩ ?_)
            clear st
            intro b4 m10 w13 hle8 st r6
            have hm := Mem.le_trans hm hle8
            have r2 := r2.mono hle8
            have r1 := r1.mono hle8
            have st := st.front3
            replace hr := bindS hr
            obtain ⟨l2, hx8, hr⟩ := hr
            refine WO_one rfl (One_append (d := 67) (t := 37) (u := 37) (e := 42) (by_ := 40) (x := (.tmp 64)) (y := (.tmp 66)) (cPair (cInt .i64) (cPair cStr (cPair (cInt .i64) (cInt .i64)))) (by kernel_rfl) rfl (show evL _ _ = some (.slice a1 (List.length s1.1) c1) from (by kernel_rfl)) (show evL _ _ = some (.slice (some ⟨b4, 0, none⟩) (List.length ([(y4.1.1, y4.1.2.1, y4.1.2.2.1, y2)])) 1) from (by kernel_rfl)) st (by kernel_rfl) (.inl (by kernel_rfl)) r2 r6.src hx8 ?_)
            clear st
            intro a3 c3 m11 w14 hle9 st r7
            have hm := Mem.le_trans hm hle9
            have r2 := r2.mono hle9
            have r6 := r6.mono hle9
            have r1 := r1.mono hle9
            refine WO_seg 3 [(2, .slice a3 (List.length l2) c3), (6, .int .i64 y4.2.1)] (by kernel_rfl) (by kernel_rfl) ?_
            refine WO_end rfl ?_
            have st := st.front1
            have st := st.tail
            refine X_block ?_
            obtain rfl := Option.some.inj hr
            have hL := hSu1 _ rfl
            have st := st.front1
            have st := st.tail
            have st := st.front1
            exact X_env _ (by kernel_rfl) (X_round k1 (Nat.lt_succ_self _) ⟨(l2, y4.2.1), a3, c3, m11, hL, rfl, hm, st, r7, r1⟩)

def testgateref04_skip_L2 (N : Nat) (p0 : ByteArray) (s2 : Int) : Option ((Int) ⊕ ((Int))) :=
  (if (decide (s2 < (ByteArray.size p0 : Int))) = true then ((idxB p0 s2).bind fun x6 => some ((x6.toNat : Int) != 10)) else (some false) : Option (Bool)).bind fun o4 => if o4 = true then (some (.inl (IntKind.wrap .i64 (s2 + 1)))) else (some (.inr s2))

def testgateref04_skip_L1 (N : Nat) (p0 : ByteArray) (s1 : Int) : Option ((Int) ⊕ ((Int) ⊕ (Int))) :=
  if (decide (s1 < (ByteArray.size p0 : Int))) = true then (((idxB p0 s1).bind fun x1 => if ((x1.toNat : Int) == 32) = true then (some true) else ((idxB p0 s1).bind fun x2 => if ((x2.toNat : Int) == 9) = true then (some true) else ((idxB p0 s1).bind fun x3 => if ((x3.toNat : Int) == 10) = true then (some true) else ((idxB p0 s1).bind fun x4 => some ((x4.toNat : Int) == 13)))) : Option (Bool)).bind fun o2 => if o2 = true then (some (.inl (IntKind.wrap .i64 (s1 + 1)))) else ((idxB p0 s1).bind fun x5 => if ((x5.toNat : Int) == 35) = true then ((loopM (testgateref04_skip_L2 N p0) N s1).bind fun o3 => some (.inl o3)) else (some (.inr (.inr (s1)))))) else (some (.inr (.inl s1)))

def testgateref04_skip (N : Nat) (p0 : ByteArray) (p1 : Int) : Option (Int) :=
  (loopM (testgateref04_skip_L1 N p0) N p1).bind fun out1 => (match out1 with | .inl o1 => some o1 | .inr (z) => some z)

set_option maxHeartbeats 4000000 in
set_option maxRecDepth 100000 in
theorem testgateref04_skip_ok {N : Nat} {m : Mem} {own : List Piece} {w : World} {p0 : ByteArray} {p1 : Int} {r : Int} (st : St m (own) w) (hr : testgateref04_skip N p0 p1 = some r) : Calls Go.Proofs.Tryd.prog 82 #[.string p0, .int .i64 p1] w fun e w' => ∃ (m' : Mem), e = .returned (.int .i64 r) ∧ m.le m' ∧ St m' (own) w' := by
  unfold testgateref04_skip at hr
  have hm := m.le_refl
  refine W_calls Go.Proofs.Tryd.func82 rfl Go.Proofs.Tryd.ntmps82 [(0, .string p0), (1, .int .i64 p1)] (by kernel_rfl) rfl ?_
  refine W_seq ?_
  refine W_region ?_
  refine WO_seg 1 [] (by kernel_rfl) (by kernel_rfl) ?_
  refine WO_end rfl ?_
  refine X_then ?_
  refine W_seq ?_
  refine W_block ?_
  replace hr := bindS hr
  obtain ⟨out1, hr, hrKu1⟩ := hr
  refine W_cut (.exit 0) (fun L' w' => ∃ (o1 : Int) (m1 : Mem), (.inl o1) = out1 ∧ L' = [(1, .int .i64 o1)] ∧ m.le m1 ∧ St m1 (own) w') ?_ ?_
  · clear hr st
    rintro _ w1 ⟨o1, m1, rfl, rfl, hm, st⟩
    have hr := hrKu1
    clear hrKu1
    dsimp only at hr
    refine X_block_eq ?_
    refine X_then ?_
    refine W_seq ?_
    refine W_region ?_
    refine WO_seg 2 [(4, .int .i64 o1)] (by kernel_rfl) (by kernel_rfl) ?_
    refine WO_end rfl ?_
    refine X_then ?_
    refine W_ret ?_
    obtain rfl := Option.some.inj hr
    refine X_ret [.tmp 4] [.int .i64 o1] rfl (ResAll.cons (ResAt.tmp (by kernel_rfl)) ResAll.nil) ?_
    exact ⟨m1, rfl, hm, st⟩
  intro K0_u1
  refine W_env _ (by kernel_rfl) (W_loop (fun k1 L' w' => ∃ (s1 : Int) (m2 : Mem), loopM (testgateref04_skip_L1 N p0) k1 s1 = some out1 ∧ L' = [(0, .string p0), (1, .int .i64 s1)] ∧ m.le m2 ∧ St m2 (own) w') N ⟨p1, m, hr, rfl, hm, st⟩ ?_)
  clear st hr
  rintro k1 _ w2 ⟨s1, m2, hL, rfl, hm, st⟩
  rcases k1 with _ | k1
  · exact loopM_zero hL
  · obtain ⟨qu1, hr, hSu1, hBu1⟩ := loopM_succ hL
    clear hL
    unfold testgateref04_skip_L1 at hr
    refine W_seq ?_
    refine W_seq ?_
    refine W_region ?_
    refine WO_seg 4 [(8, .bool (decide (s1 < (ByteArray.size p0 : Int))))] (by kernel_rfl) (by kernel_rfl) ?_
    refine WO_end rfl ?_
    refine X_then ?_
    refine W_cond (decide (s1 < (ByteArray.size p0 : Int))) (by kernel_rfl) ?_ ?_
    · intro hc
      rw [if_pos hc] at hr
      refine W_skip ?_
      refine X_then ?_
      refine W_block ?_
      refine W_block ?_
      refine W_seq ?_
      refine W_region ?_
      replace hr := bindS hr
      obtain ⟨o2, hr, hrK⟩ := hr
      refine WO_cut (j := 23) (fun L' w' => ∃ (m3 : Mem), L' = [(0, .string p0), (1, .int .i64 s1), (10, .bool o2)] ∧ m.le m3 ∧ St m3 (own) w') ?_ ?_
      · clear hr st
        have hr := hrK
        clear hrK
        rintro _ w3 ⟨m3, rfl, hm, st⟩
        refine WO_end rfl ?_
        refine X_then ?_
        refine W_cond o2 (by kernel_rfl) ?_ ?_
        · intro hc
          rw [if_pos hc] at hr
          refine W_region ?_
          refine WO_seg 3 [(1, .int .i64 (IntKind.wrap .i64 (s1 + 1)))] (by kernel_rfl) (by kernel_rfl) ?_
          refine WO_end rfl ?_
          refine X_block ?_
          refine X_block ?_
          obtain rfl := Option.some.inj hr
          have hL := hSu1 _ rfl
          exact X_env _ (by kernel_rfl) (X_round k1 (Nat.lt_succ_self _) ⟨IntKind.wrap .i64 (s1 + 1), m3, hL, rfl, hm, st⟩)
        · intro hc
          rw [if_neg (not_true hc)] at hr
          refine W_seq ?_
          refine W_region ?_
          refine WO_seg 2 [(36, .string p0), (37, .int .i64 s1)] (by kernel_rfl) (by kernel_rfl) ?_
          replace hr := bindS hr
          obtain ⟨x5, hx5, hr⟩ := hr
          refine WO_one rfl (One_strIndex (d := 38) (t := 9) (x := (.tmp 36)) (y := (.tmp 37)) (by kernel_rfl) rfl (show evL _ _ = some (.string p0) from (by kernel_rfl)) (show evL _ _ = some (.int .i64 s1) from (by kernel_rfl)) (by kernel_rfl) hx5 ?_)
          refine WO_seg 2 [(35, .bool ((x5.toNat : Int) == 35))] (by kernel_rfl) (by kernel_rfl) ?_
          refine WO_end rfl ?_
          refine X_then ?_
          refine W_cond ((x5.toNat : Int) == 35) (by kernel_rfl) ?_ ?_
          · intro hc
            rw [if_pos hc] at hr
            refine W_block ?_
            replace hr := bindS hr
            obtain ⟨out2, hr, hrKu2⟩ := hr
            refine W_cut (.exit 3) (fun L' w' => ∃ (o3 : Int) (m4 : Mem), o3 = out2 ∧ L' = [(0, .string p0), (1, .int .i64 o3)] ∧ m.le m4 ∧ St m4 (own) w') ?_ ?_
            · clear hr st
              rintro _ w4 ⟨o3, m4, rfl, rfl, hm, st⟩
              have hr := hrKu2
              clear hrKu2
              refine X_block_eq ?_
              refine X_block ?_
              refine X_block ?_
              obtain rfl := Option.some.inj hr
              have hL := hSu1 _ rfl
              exact X_env _ (by kernel_rfl) (X_round k1 (Nat.lt_succ_self _) ⟨o3, m4, hL, rfl, hm, st⟩)
            intro K3_u2
            clear hrKu2
            refine W_env _ (by kernel_rfl) (W_loop (fun k2 L' w' => ∃ (s2 : Int) (m5 : Mem), loopM (testgateref04_skip_L2 N p0) k2 s2 = some out2 ∧ L' = [(0, .string p0), (1, .int .i64 s2)] ∧ m.le m5 ∧ St m5 (own) w') N ⟨s1, m3, hr, rfl, hm, st⟩ ?_)
            clear st hr
            rintro k2 _ w5 ⟨s2, m5, hL, rfl, hm, st⟩
            rcases k2 with _ | k2
            · exact loopM_zero hL
            · obtain ⟨qu2, hr, hSu2, hBu2⟩ := loopM_succ hL
              clear hL
              unfold testgateref04_skip_L2 at hr
              refine W_seq ?_
              refine W_seq ?_
              refine W_region ?_
              replace hr := bindS hr
              obtain ⟨o4, hr, hrK⟩ := hr
              refine WO_cut (j := 10) (fun L' w' => ∃ (m6 : Mem), L' = [(0, .string p0), (1, .int .i64 s2), (49, .bool o4)] ∧ m.le m6 ∧ St m6 (own) w') ?_ ?_
              · clear hr st
                have hr := hrK
                clear hrK
                rintro _ w6 ⟨m6, rfl, hm, st⟩
                refine WO_end rfl ?_
                refine X_then ?_
                refine W_cond o4 (by kernel_rfl) ?_ ?_
                · intro hc
                  rw [if_pos hc] at hr
                  refine W_skip ?_
                  refine X_then ?_
                  refine W_block ?_
                  refine W_region ?_
                  refine WO_seg 3 [(1, .int .i64 (IntKind.wrap .i64 (s2 + 1)))] (by kernel_rfl) (by kernel_rfl) ?_
                  refine WO_end rfl ?_
                  refine X_block ?_
                  obtain rfl := Option.some.inj hr
                  have hL := hSu2 _ rfl
                  exact X_env _ (by kernel_rfl) (X_round k2 (Nat.lt_succ_self _) ⟨IntKind.wrap .i64 (s2 + 1), m6, hL, rfl, hm, st⟩)
                · intro hc
                  rw [if_neg (not_true hc)] at hr
                  refine W_exit ?_
                  refine X_then_exit ?_
                  obtain rfl := Option.some.inj hr
                  have ho := hBu2 _ rfl
                  refine X_then_exit ?_
                  exact X_env _ (by kernel_rfl) (K3_u2 _ _ ⟨s2, m6, ho, rfl, hm, st⟩)
              · intro K
                clear hrK
                refine WO_seg 5 [(44, .bool (decide (s2 < (ByteArray.size p0 : Int))))] (by kernel_rfl) (by kernel_rfl) ?_
                rcases bcases (decide (s2 < (ByteArray.size p0 : Int))) with hc | hc
                · rw [if_pos hc] at hr
                  refine WO_fact (t := 44) (b := true) (decide (s2 < (ByteArray.size p0 : Int))) (by kernel_rfl) hc ?_
                  refine WO_seg 2 [(45, .string p0), (46, .int .i64 s2)] (by kernel_rfl) (by kernel_rfl) ?_
                  replace hr := bindS hr
                  obtain ⟨x6, hx6, hr⟩ := hr
                  refine WO_one rfl (One_strIndex (d := 47) (t := 9) (x := (.tmp 45)) (y := (.tmp 46)) (by kernel_rfl) rfl (show evL _ _ = some (.string p0) from (by kernel_rfl)) (show evL _ _ = some (.int .i64 s2) from (by kernel_rfl)) (by kernel_rfl) hx6 ?_)
                  refine WO_seg 2 [(49, .bool ((x6.toNat : Int) != 10))] (by kernel_rfl) (by kernel_rfl) ?_
                  obtain rfl := Option.some.inj hr
                  exact WO_env _ (by kernel_rfl) (K _ _ ⟨m5, rfl, hm, st⟩)
                · rw [if_neg (not_true hc)] at hr
                  refine WO_fact (t := 44) (b := false) (decide (s2 < (ByteArray.size p0 : Int))) (by kernel_rfl) hc ?_
                  refine WO_seg 5 [(49, .bool false)] (by kernel_rfl) (by kernel_rfl) ?_
                  obtain rfl := Option.some.inj hr
                  exact WO_env _ (by kernel_rfl) (K _ _ ⟨m5, rfl, hm, st⟩)
          · intro hc
            rw [if_neg (not_true hc)] at hr
            refine W_seq ?_
            refine W_region ?_
            refine WO_seg 2 [(4, .int .i64 s1)] (by kernel_rfl) (by kernel_rfl) ?_
            refine WO_end rfl ?_
            refine X_then ?_
            refine W_ret ?_
            refine X_block_ret ?_
            refine X_block_ret ?_
            obtain rfl := Option.some.inj hr
            have ho := hBu1 _ rfl
            subst ho
            have hr := hrKu1
            dsimp only at hr
            refine X_then_ret ?_
            refine X_block_ret ?_
            refine X_then_ret ?_
            obtain rfl := Option.some.inj hr
            refine X_ret [.tmp 4] [.int .i64 s1] rfl (ResAll.cons (ResAt.tmp (by kernel_rfl)) ResAll.nil) ?_
            exact ⟨m3, rfl, hm, st⟩
      · intro K
        clear hrK
        refine WO_seg 2 [(11, .string p0), (12, .int .i64 s1)] (by kernel_rfl) (by kernel_rfl) ?_
        replace hr := bindS hr
        obtain ⟨x1, hx1, hr⟩ := hr
        refine WO_one rfl (One_strIndex (d := 13) (t := 9) (x := (.tmp 11)) (y := (.tmp 12)) (by kernel_rfl) rfl (show evL _ _ = some (.string p0) from (by kernel_rfl)) (show evL _ _ = some (.int .i64 s1) from (by kernel_rfl)) (by kernel_rfl) hx1 ?_)
        refine WO_seg 2 [(15, .bool ((x1.toNat : Int) == 32))] (by kernel_rfl) (by kernel_rfl) ?_
        rcases bcases ((x1.toNat : Int) == 32) with hc | hc
        · rw [if_pos hc] at hr
          refine WO_fact (t := 15) (b := true) ((x1.toNat : Int) == 32) (by kernel_rfl) hc ?_
          refine WO_seg 18 [(10, .bool true)] (by kernel_rfl) (by kernel_rfl) ?_
          obtain rfl := Option.some.inj hr
          exact WO_env _ (by kernel_rfl) (K _ _ ⟨m2, rfl, hm, st⟩)
        · rw [if_neg (not_true hc)] at hr
          refine WO_fact (t := 15) (b := false) ((x1.toNat : Int) == 32) (by kernel_rfl) hc ?_
          refine WO_seg 2 [(16, .string p0), (17, .int .i64 s1)] (by kernel_rfl) (by kernel_rfl) ?_
          replace hr := bindS hr
          obtain ⟨x2, hx2, hr⟩ := hr
          refine WO_one rfl (One_strIndex (d := 18) (t := 9) (x := (.tmp 16)) (y := (.tmp 17)) (by kernel_rfl) rfl (show evL _ _ = some (.string p0) from (by kernel_rfl)) (show evL _ _ = some (.int .i64 s1) from (by kernel_rfl)) (by kernel_rfl) hx2 ?_)
          refine WO_seg 3 [(21, .bool ((x2.toNat : Int) == 9))] (by kernel_rfl) (by kernel_rfl) ?_
          rcases bcases ((x2.toNat : Int) == 9) with hc | hc
          · rw [if_pos hc] at hr
            refine WO_fact (t := 21) (b := true) ((x2.toNat : Int) == 9) (by kernel_rfl) hc ?_
            refine WO_seg 12 [(10, .bool true)] (by kernel_rfl) (by kernel_rfl) ?_
            obtain rfl := Option.some.inj hr
            exact WO_env _ (by kernel_rfl) (K _ _ ⟨m2, rfl, hm, st⟩)
          · rw [if_neg (not_true hc)] at hr
            refine WO_fact (t := 21) (b := false) ((x2.toNat : Int) == 9) (by kernel_rfl) hc ?_
            refine WO_seg 2 [(22, .string p0), (23, .int .i64 s1)] (by kernel_rfl) (by kernel_rfl) ?_
            replace hr := bindS hr
            obtain ⟨x3, hx3, hr⟩ := hr
            refine WO_one rfl (One_strIndex (d := 24) (t := 9) (x := (.tmp 22)) (y := (.tmp 23)) (by kernel_rfl) rfl (show evL _ _ = some (.string p0) from (by kernel_rfl)) (show evL _ _ = some (.int .i64 s1) from (by kernel_rfl)) (by kernel_rfl) hx3 ?_)
            refine WO_seg 3 [(27, .bool ((x3.toNat : Int) == 10))] (by kernel_rfl) (by kernel_rfl) ?_
            rcases bcases ((x3.toNat : Int) == 10) with hc | hc
            · rw [if_pos hc] at hr
              refine WO_fact (t := 27) (b := true) ((x3.toNat : Int) == 10) (by kernel_rfl) hc ?_
              refine WO_seg 6 [(10, .bool true)] (by kernel_rfl) (by kernel_rfl) ?_
              obtain rfl := Option.some.inj hr
              exact WO_env _ (by kernel_rfl) (K _ _ ⟨m2, rfl, hm, st⟩)
            · rw [if_neg (not_true hc)] at hr
              refine WO_fact (t := 27) (b := false) ((x3.toNat : Int) == 10) (by kernel_rfl) hc ?_
              refine WO_seg 2 [(28, .string p0), (29, .int .i64 s1)] (by kernel_rfl) (by kernel_rfl) ?_
              replace hr := bindS hr
              obtain ⟨x4, hx4, hr⟩ := hr
              refine WO_one rfl (One_strIndex (d := 30) (t := 9) (x := (.tmp 28)) (y := (.tmp 29)) (by kernel_rfl) rfl (show evL _ _ = some (.string p0) from (by kernel_rfl)) (show evL _ _ = some (.int .i64 s1) from (by kernel_rfl)) (by kernel_rfl) hx4 ?_)
              refine WO_seg 3 [(10, .bool ((x4.toNat : Int) == 13))] (by kernel_rfl) (by kernel_rfl) ?_
              obtain rfl := Option.some.inj hr
              exact WO_env _ (by kernel_rfl) (K _ _ ⟨m2, rfl, hm, st⟩)
    · intro hc
      rw [if_neg (not_true hc)] at hr
      refine W_exit ?_
      refine X_then_exit ?_
      obtain rfl := Option.some.inj hr
      have ho := hBu1 _ rfl
      refine X_then_exit ?_
      exact X_env _ (by kernel_rfl) (K0_u1 _ _ ⟨s1, m2, ho, rfl, hm, st⟩)

def testgateref04_letter (N : Nat) (p0 : Int) : Option (Bool) :=
  (if (decide (p0 ≥ 97)) = true then (some (decide (p0 ≤ 122))) else (some false) : Option (Bool)).bind fun o1 => some o1

set_option maxHeartbeats 4000000 in
set_option maxRecDepth 100000 in
theorem testgateref04_letter_ok {N : Nat} {m : Mem} {own : List Piece} {w : World} {p0 : Int} {r : Bool} (st : St m (own) w) (hr : testgateref04_letter N p0 = some r) : Calls Go.Proofs.Tryd.prog 51 #[.int .u8 p0] w fun e w' => ∃ (m' : Mem), e = .returned (.bool r) ∧ m.le m' ∧ St m' (own) w' := by
  unfold testgateref04_letter at hr
  have hm := m.le_refl
  refine W_calls Go.Proofs.Tryd.func51 rfl Go.Proofs.Tryd.ntmps51 [(0, .int .u8 p0)] (by kernel_rfl) rfl ?_
  refine W_seq ?_
  refine W_region ?_
  refine WO_seg 1 [] (by kernel_rfl) (by kernel_rfl) ?_
  refine WO_end rfl ?_
  refine X_then ?_
  refine W_seq ?_
  refine W_region ?_
  replace hr := bindS hr
  obtain ⟨o1, hr, hrK⟩ := hr
  refine WO_cut (j := 7) (fun L' w' => ∃ (m1 : Mem), L' = [(2, .bool o1)] ∧ m.le m1 ∧ St m1 (own) w') ?_ ?_
  · clear hr st
    have hr := hrK
    clear hrK
    rintro _ w1 ⟨m1, rfl, hm, st⟩
    refine WO_end rfl ?_
    refine X_then ?_
    refine W_ret ?_
    obtain rfl := Option.some.inj hr
    refine X_ret [.tmp 2] [.bool o1] rfl (ResAll.cons (ResAt.tmp (by kernel_rfl)) ResAll.nil) ?_
    exact ⟨m1, rfl, hm, st⟩
  · intro K
    clear hrK
    refine WO_seg 3 [(5, .bool (decide (p0 ≥ 97)))] (by kernel_rfl) (by kernel_rfl) ?_
    rcases bcases (decide (p0 ≥ 97)) with hc | hc
    · rw [if_pos hc] at hr
      refine WO_fact (t := 5) (b := true) (decide (p0 ≥ 97)) (by kernel_rfl) hc ?_
      refine WO_seg 4 [(2, .bool (decide (p0 ≤ 122)))] (by kernel_rfl) (by kernel_rfl) ?_
      obtain rfl := Option.some.inj hr
      exact WO_env _ (by kernel_rfl) (K _ _ ⟨m, rfl, hm, st⟩)
    · rw [if_neg (not_true hc)] at hr
      refine WO_fact (t := 5) (b := false) (decide (p0 ≥ 97)) (by kernel_rfl) hc ?_
      refine WO_seg 4 [(2, .bool false)] (by kernel_rfl) (by kernel_rfl) ?_
      obtain rfl := Option.some.inj hr
      exact WO_env _ (by kernel_rfl) (K _ _ ⟨m, rfl, hm, st⟩)

def testgateref04_inner (N : Nat) (p0 : Int) : Option (Bool) :=
  ((testgateref04_letter N p0).bind fun y1 => if y1 = true then (some true) else (if (decide (p0 ≥ 48)) = true then (if (decide (p0 ≤ 57)) = true then (some true) else (some (p0 == 95))) else (some (p0 == 95))) : Option (Bool)).bind fun o1 => some o1

set_option maxHeartbeats 4000000 in
set_option maxRecDepth 100000 in
theorem testgateref04_inner_ok {N : Nat} {m : Mem} {own : List Piece} {w : World} {p0 : Int} {r : Bool} (st : St m (own) w) (hr : testgateref04_inner N p0 = some r) : Calls Go.Proofs.Tryd.prog 52 #[.int .u8 p0] w fun e w' => ∃ (m' : Mem), e = .returned (.bool r) ∧ m.le m' ∧ St m' (own) w' := by
  unfold testgateref04_inner at hr
  have hm := m.le_refl
  refine W_calls Go.Proofs.Tryd.func52 rfl Go.Proofs.Tryd.ntmps52 [(0, .int .u8 p0)] (by kernel_rfl) rfl ?_
  refine W_seq ?_
  refine W_region ?_
  refine WO_seg 1 [] (by kernel_rfl) (by kernel_rfl) ?_
  refine WO_end rfl ?_
  refine X_then ?_
  refine W_seq ?_
  refine W_region ?_
  replace hr := bindS hr
  obtain ⟨o1, hr, hrK⟩ := hr
  refine WO_cut (j := 15) (fun L' w' => ∃ (m1 : Mem), L' = [(2, .bool o1)] ∧ m.le m1 ∧ St m1 (own) w') ?_ ?_
  · clear hr st
    have hr := hrK
    clear hrK
    rintro _ w1 ⟨m1, rfl, hm, st⟩
    refine WO_end rfl ?_
    refine X_then ?_
    refine W_ret ?_
    obtain rfl := Option.some.inj hr
    refine X_ret [.tmp 2] [.bool o1] rfl (ResAll.cons (ResAt.tmp (by kernel_rfl)) ResAll.nil) ?_
    exact ⟨m1, rfl, hm, st⟩
  · intro K
    clear hrK
    refine WO_seg 1 [(3, .int .u8 p0)] (by kernel_rfl) (by kernel_rfl) ?_
    replace hr := bindS hr
    obtain ⟨y1, hx1, hr⟩ := hr
    refine WO_one rfl (One_fn 4 51 #[.int .u8 p0] (by kernel_rfl) rfl ?_)
    refine (testgateref04_letter_ok st hx1).mono ?_
    clear st
    rintro _ w2 ⟨m2, rfl, hle1, st⟩
    refine ⟨_, rfl, ?_⟩
    have hm := Mem.le_trans hm hle1
    refine WO_seg 1 [(5, .bool y1)] (by kernel_rfl) (by kernel_rfl) ?_
    rcases bcases y1 with hc | hc
    · rw [if_pos hc] at hr
      refine WO_fact (t := 5) (b := true) y1 (by kernel_rfl) hc ?_
      refine WO_seg 12 [(2, .bool true)] (by kernel_rfl) (by kernel_rfl) ?_
      obtain rfl := Option.some.inj hr
      exact WO_env _ (by kernel_rfl) (K _ _ ⟨m2, rfl, hm, st⟩)
    · rw [if_neg (not_true hc)] at hr
      refine WO_fact (t := 5) (b := false) y1 (by kernel_rfl) hc ?_
      refine WO_seg 3 [(8, .bool (decide (p0 ≥ 48)))] (by kernel_rfl) (by kernel_rfl) ?_
      rcases bcases (decide (p0 ≥ 48)) with hc | hc
      · rw [if_pos hc] at hr
        refine WO_fact (t := 8) (b := true) (decide (p0 ≥ 48)) (by kernel_rfl) hc ?_
        refine WO_seg 5 [(13, .bool (decide (p0 ≤ 57)))] (by kernel_rfl) (by kernel_rfl) ?_
        rcases bcases (decide (p0 ≤ 57)) with hc | hc
        · rw [if_pos hc] at hr
          refine WO_fact (t := 13) (b := true) (decide (p0 ≤ 57)) (by kernel_rfl) hc ?_
          refine WO_seg 4 [(2, .bool true)] (by kernel_rfl) (by kernel_rfl) ?_
          obtain rfl := Option.some.inj hr
          exact WO_env _ (by kernel_rfl) (K _ _ ⟨m2, rfl, hm, st⟩)
        · rw [if_neg (not_true hc)] at hr
          refine WO_fact (t := 13) (b := false) (decide (p0 ≤ 57)) (by kernel_rfl) hc ?_
          refine WO_seg 4 [(2, .bool (p0 == 95))] (by kernel_rfl) (by kernel_rfl) ?_
          obtain rfl := Option.some.inj hr
          exact WO_env _ (by kernel_rfl) (K _ _ ⟨m2, rfl, hm, st⟩)
      · rw [if_neg (not_true hc)] at hr
        refine WO_fact (t := 8) (b := false) (decide (p0 ≥ 48)) (by kernel_rfl) hc ?_
        refine WO_seg 9 [(2, .bool (p0 == 95))] (by kernel_rfl) (by kernel_rfl) ?_
        obtain rfl := Option.some.inj hr
        exact WO_env _ (by kernel_rfl) (K _ _ ⟨m2, rfl, hm, st⟩)

def testgateref04_token_L1 (N : Nat) (p0 : ByteArray) (s1 : Int) : Option ((Int) ⊕ ((Int))) :=
  (if (decide (s1 < (ByteArray.size p0 : Int))) = true then ((idxB p0 s1).bind fun x2 => (testgateref04_inner N (x2.toNat : Int)).bind fun y2 => some y2) else (some false) : Option (Bool)).bind fun o2 => if o2 = true then (some (.inl (IntKind.wrap .i64 (s1 + 1)))) else (some (.inr s1))

def testgateref04_token_L2 (N : Nat) (p0 : ByteArray) (s3 : Int × Int) : Option ((Int × Int) ⊕ ((Int × Int))) :=
  (if (decide (s3.1 < (ByteArray.size p0 : Int))) = true then ((idxB p0 s3.1).bind fun x3 => if (decide ((x3.toNat : Int) ≥ 48)) = true then ((idxB p0 s3.1).bind fun x4 => some (decide ((x4.toNat : Int) ≤ 57))) else (some false)) else (some false) : Option (Bool)).bind fun o5 => if o5 = true then ((if (decide (s3.2 ≤ 9007199254740992)) = true then ((idxB p0 s3.1).bind fun x5 => some (IntKind.wrap .i64 ((IntKind.wrap .i64 (s3.2 * 10)) + (IntKind.wrap .i64 (IntKind.wrap .u8 ((x5.toNat : Int) - 48)))))) else (some s3.2) : Option (Int)).bind fun o6 => some (.inl (IntKind.wrap .i64 (s3.1 + 1), o6))) else (some (.inr (s3.1, s3.2)))

def testgateref04_token_L3 (N : Nat) (p0 : ByteArray) (s4 : Int) : Option ((Int) ⊕ ((Int))) :=
  (if (decide (s4 < (ByteArray.size p0 : Int))) = true then ((idxB p0 s4).bind fun x6 => if (decide ((x6.toNat : Int) ≥ 32)) = true then ((idxB p0 s4).bind fun x7 => if (decide ((x7.toNat : Int) ≤ 126)) = true then ((idxB p0 s4).bind fun x8 => some ((x8.toNat : Int) != 34)) else (some false)) else (some false)) else (some false) : Option (Bool)).bind fun o8 => if o8 = true then (some (.inl (IntKind.wrap .i64 (s4 + 1)))) else (some (.inr s4))

def testgateref04_token_L4 (N : Nat) (p0 : ByteArray) (p1 : Int) (s6 : Int) : Option ((Int) ⊕ ((Unit) ⊕ ((Int × ByteArray × Int × Int) × Int × Int))) :=
  if (decide (s6 < (List.length ([(59 : UInt8), (44 : UInt8), (40 : UInt8), (41 : UInt8), (43 : UInt8), (45 : UInt8), (42 : UInt8), (47 : UInt8), (37 : UInt8), (60 : UInt8), (61 : UInt8)]) : Int))) = true then ((idx ([(59 : UInt8), (44 : UInt8), (40 : UInt8), (41 : UInt8), (43 : UInt8), (45 : UInt8), (42 : UInt8), (47 : UInt8), (37 : UInt8), (60 : UInt8), (61 : UInt8)]) s6).bind fun x12 => (idxB p0 p1).bind fun x13 => if ((x13.toNat : Int) == (x12.toNat : Int)) = true then ((subB p0 p1 (IntKind.wrap .i64 (p1 + 1))).bind fun s7 => some (.inr (.inr (((4, s7, 0, p1), IntKind.wrap .i64 (p1 + 1), 0))))) else (some (.inl (IntKind.wrap .i64 (s6 + 1))))) else (some (.inr (.inl ())))

def testgateref04_token (N : Nat) (p0 : ByteArray) (p1 : Int) : Option ((Int × ByteArray × Int × Int) × Int × Int) :=
  (idxB p0 p1).bind fun x1 => (testgateref04_letter N (x1.toNat : Int)).bind fun y1 => if y1 = true then ((loopM (testgateref04_token_L1 N p0) N p1).bind fun o1 => if (decide ((IntKind.wrap .i64 (o1 - p1)) > 24)) = true then (some ((0, (⟨#[]⟩ : ByteArray), 0, 0), 0, 2)) else ((subB p0 p1 o1).bind fun s2 => some ((1, s2, 0, p1), o1, 0))) else ((if (decide ((x1.toNat : Int) ≥ 48)) = true then (some (decide ((x1.toNat : Int) ≤ 57))) else (some false) : Option (Bool)).bind fun o3 => if o3 = true then ((loopM (testgateref04_token_L2 N p0) N (p1, 0)).bind fun o4 => if (decide (o4.2 > 9007199254740992)) = true then (some ((0, (⟨#[]⟩ : ByteArray), 0, 0), 0, 3)) else (some ((2, (⟨#[]⟩ : ByteArray), o4.2, p1), o4.1, 0))) else (if ((x1.toNat : Int) == 34) = true then ((loopM (testgateref04_token_L3 N p0) N (IntKind.wrap .i64 (p1 + 1))).bind fun o7 => (if (o7 == (ByteArray.size p0 : Int)) = true then (some true) else ((idxB p0 o7).bind fun x9 => some ((x9.toNat : Int) != 34)) : Option (Bool)).bind fun o9 => if o9 = true then (some ((0, (⟨#[]⟩ : ByteArray), 0, 0), 0, 9)) else ((subB p0 (IntKind.wrap .i64 (p1 + 1)) o7).bind fun s5 => some ((3, s5, 0, p1), IntKind.wrap .i64 (o7 + 1), 0))) else (((idxB p0 p1).bind fun x10 => if ((x10.toNat : Int) == 61) = true then (if (decide ((IntKind.wrap .i64 (p1 + 1)) < (ByteArray.size p0 : Int))) = true then ((idxB p0 (IntKind.wrap .i64 (p1 + 1))).bind fun x11 => some ((x11.toNat : Int) == 61)) else (some false)) else (some false) : Option (Bool)).bind fun o10 => if o10 = true then (some ((4, (⟨#[61, 61]⟩ : ByteArray), 0, p1), IntKind.wrap .i64 (p1 + 2), 0)) else ((loopM (testgateref04_token_L4 N p0 p1) N 0).bind fun out4 => (match out4 with | .inl o11 => some ((0, (⟨#[]⟩ : ByteArray), 0, 0), 0, 9) | .inr (z) => some z)))))

set_option maxHeartbeats 4000000 in
set_option maxRecDepth 100000 in
theorem testgateref04_token_ok {N : Nat} {m : Mem} {own : List Piece} {w : World} {p0 : ByteArray} {p1 : Int} {r : (Int × ByteArray × Int × Int) × Int × Int} (st : St m (own) w) (hr : testgateref04_token N p0 p1 = some r) : Calls Go.Proofs.Tryd.prog 83 #[.string p0, .int .i64 p1] w fun e w' => ∃ (m' : Mem), e = .returned (.tuple #[.agg #[.int .i64 r.1.1, .string r.1.2.1, .int .i64 r.1.2.2.1, .int .i64 r.1.2.2.2], .int .i64 r.2.1, .int .i64 r.2.2]) ∧ m.le m' ∧ St m' (own) w' := by
  unfold testgateref04_token at hr
  have hm := m.le_refl
  refine W_calls Go.Proofs.Tryd.func83 rfl Go.Proofs.Tryd.ntmps83 [(0, .string p0), (1, .int .i64 p1)] (by kernel_rfl) rfl ?_
  refine W_seq ?_
  refine W_region ?_
  refine WO_one rfl (One_alloc (d := 4) (e := 42) (.agg #[.int .i64 0, .string (⟨#[]⟩ : ByteArray), .int .i64 0, .int .i64 0]) (by kernel_rfl) rfl (by kernel_rfl) st ?_)
  clear st
  intro b1 w1 st
  refine WO_seg 2 [] (by kernel_rfl) (by kernel_rfl) ?_
  refine WO_end rfl ?_
  refine X_then ?_
  refine W_seq ?_
  refine W_region ?_
  refine WO_seg 2 [(5, .int .i64 p1)] (by kernel_rfl) (by kernel_rfl) ?_
  refine WO_end rfl ?_
  refine X_then ?_
  refine W_seq ?_
  refine W_seq ?_
  refine W_region ?_
  refine WO_seg 2 [(12, .string p0), (13, .int .i64 p1)] (by kernel_rfl) (by kernel_rfl) ?_
  replace hr := bindS hr
  obtain ⟨x1, hx1, hr⟩ := hr
  refine WO_one rfl (One_strIndex (d := 14) (t := 9) (x := (.tmp 12)) (y := (.tmp 13)) (by kernel_rfl) rfl (show evL _ _ = some (.string p0) from (by kernel_rfl)) (show evL _ _ = some (.int .i64 p1) from (by kernel_rfl)) (by kernel_rfl) hx1 ?_)
  refine WO_seg 1 [(7, .int .u8 (x1.toNat : Int))] (by kernel_rfl) (by kernel_rfl) ?_
  refine WO_end rfl ?_
  refine X_then ?_
  refine W_block ?_
  refine W_seq ?_
  refine W_region ?_
  refine WO_seg 1 [(16, .int .u8 (x1.toNat : Int))] (by kernel_rfl) (by kernel_rfl) ?_
  replace hr := bindS hr
  obtain ⟨y1, hx2, hr⟩ := hr
  refine WO_one rfl (One_fn 17 51 #[.int .u8 (x1.toNat : Int)] (by kernel_rfl) rfl ?_)
  refine (testgateref04_letter_ok st hx2).mono ?_
  clear st
  rintro _ w2 ⟨m1, rfl, hle1, st⟩
  refine ⟨_, rfl, ?_⟩
  have hm := Mem.le_trans hm hle1
  refine WO_seg 1 [(15, .bool y1)] (by kernel_rfl) (by kernel_rfl) ?_
  refine WO_end rfl ?_
  refine X_then ?_
  refine W_cond y1 (by kernel_rfl) ?_ ?_
  · intro hc
    rw [if_pos hc] at hr
    refine W_seq ?_
    refine W_block ?_
    replace hr := bindS hr
    obtain ⟨out1, hr, hrKu1⟩ := hr
    refine W_cut (.exit 1) (fun L' w' => ∃ (o1 : Int) (m2 : Mem), o1 = out1 ∧ L' = [(0, .string p0), (1, .int .i64 p1), (4, .pointer (some ⟨b1, 0, none⟩)), (5, .int .i64 o1)] ∧ m.le m2 ∧ St m2 (.blk b1 (.cells #[.int .i64 0, .string (⟨#[]⟩ : ByteArray), .int .i64 0, .int .i64 0] 42 (0, 0)) :: own) w') ?_ ?_
    · clear hr st
      rintro _ w3 ⟨o1, m2, rfl, rfl, hm, st⟩
      have hr := hrKu1
      clear hrKu1
      refine X_block_eq ?_
      refine X_then ?_
      refine W_seq ?_
      refine W_seq ?_
      refine W_region ?_
      refine WO_seg 4 [(33, .bool (decide ((IntKind.wrap .i64 (o1 - p1)) > 24)))] (by kernel_rfl) (by kernel_rfl) ?_
      refine WO_end rfl ?_
      refine X_then ?_
      refine W_cond (decide ((IntKind.wrap .i64 (o1 - p1)) > 24)) (by kernel_rfl) ?_ ?_
      · intro hc
        rw [if_pos hc] at hr
        refine W_seq ?_
        refine W_region ?_
        refine WO_one rfl (One_load_own (d := 34) (t := 42) (x := (.tmp 4)) (.agg #[.int .i64 0, .string (⟨#[]⟩ : ByteArray), .int .i64 0, .int .i64 0]) (by kernel_rfl) rfl (show evL _ _ = some (.pointer (some ⟨b1, 0, none⟩)) from (by kernel_rfl)) st.head (by kernel_rfl) ?_)
        refine WO_one rfl (One_store (t := 42) (x := (.tmp 4)) (y := (.tmp 34)) (v := .agg #[.int .i64 0, .string (⟨#[]⟩ : ByteArray), .int .i64 0, .int .i64 0]) (c' := #[.int .i64 0, .string (⟨#[]⟩ : ByteArray), .int .i64 0, .int .i64 0]) (by kernel_rfl) (show evL _ _ = some (.pointer (some ⟨b1, 0, none⟩)) from (by kernel_rfl)) (show evL _ _ = some (.agg #[.int .i64 0, .string (⟨#[]⟩ : ByteArray), .int .i64 0, .int .i64 0]) from (by kernel_rfl)) st (by kernel_rfl) (by kernel_rfl) ?_)
        clear st
        intro w7 st
        refine WO_seg 2 [(5, .int .i64 0), (6, .int .i64 2)] (by kernel_rfl) (by kernel_rfl) ?_
        refine WO_end rfl ?_
        refine X_then ?_
        refine W_ret ?_
        refine X_then_ret ?_
        refine X_block_ret ?_
        refine X_then_ret ?_
        obtain rfl := Option.some.inj hr
        refine X_ret [.cell 4 42, .tmp 5, .tmp 6] [.agg #[.int .i64 0, .string (⟨#[]⟩ : ByteArray), .int .i64 0, .int .i64 0], .int .i64 0, .int .i64 2] rfl (ResAll.cons (ResAt.blk (v := .agg #[.int .i64 0, .string (⟨#[]⟩ : ByteArray), .int .i64 0, .int .i64 0]) (o := 0) (by kernel_rfl) st.head (by kernel_rfl)) (ResAll.cons (ResAt.tmp (by kernel_rfl)) (ResAll.cons (ResAt.tmp (by kernel_rfl)) ResAll.nil))) ?_
        have st := st.tail
        exact ⟨m2, rfl, hm, st⟩
      · intro hc
        rw [if_neg (not_true hc)] at hr
        refine W_skip ?_
        refine X_then ?_
        refine W_seq ?_
        refine W_region ?_
        refine WO_seg 3 [(35, .string p0), (36, .int .i64 p1), (37, .int .i64 o1)] (by kernel_rfl) (by kernel_rfl) ?_
        replace hr := bindS hr
        obtain ⟨s2, hx5, hr⟩ := hr
        refine WO_one rfl (One_strSlice (d := 38) (t := 9) (x := (.tmp 35)) (lo := (some (.tmp 36))) (hi := (some (.tmp 37))) (by kernel_rfl) rfl (show evL _ _ = some (.string p0) from (by kernel_rfl)) (by kernel_rfl) (.inr ⟨_, _, rfl, (show evL _ _ = some (.int .i64 p1) from (by kernel_rfl))⟩) (.inr ⟨_, _, rfl, (show evL _ _ = some (.int .i64 o1) from (by kernel_rfl))⟩) hx5 ?_)
        refine WO_seg 3 [(40, .agg #[.int .i64 1, .string s2, .int .i64 0, .int .i64 p1]), (41, .int .i64 o1)] (by kernel_rfl) (by kernel_rfl) ?_
        refine WO_one rfl (One_store (t := 42) (x := (.tmp 4)) (y := (.tmp 40)) (v := .agg #[.int .i64 1, .string s2, .int .i64 0, .int .i64 p1]) (c' := #[.int .i64 1, .string s2, .int .i64 0, .int .i64 p1]) (by kernel_rfl) (show evL _ _ = some (.pointer (some ⟨b1, 0, none⟩)) from (by kernel_rfl)) (show evL _ _ = some (.agg #[.int .i64 1, .string s2, .int .i64 0, .int .i64 p1]) from (by kernel_rfl)) st (by kernel_rfl) (by kernel_rfl) ?_)
        clear st
        intro w8 st
        refine WO_seg 2 [(5, .int .i64 o1), (6, .int .i64 0)] (by kernel_rfl) (by kernel_rfl) ?_
        refine WO_end rfl ?_
        refine X_then ?_
        refine W_ret ?_
        refine X_block_ret ?_
        refine X_then_ret ?_
        obtain rfl := Option.some.inj hr
        refine X_ret [.cell 4 42, .tmp 5, .tmp 6] [.agg #[.int .i64 1, .string s2, .int .i64 0, .int .i64 p1], .int .i64 o1, .int .i64 0] rfl (ResAll.cons (ResAt.blk (v := .agg #[.int .i64 1, .string s2, .int .i64 0, .int .i64 p1]) (o := 0) (by kernel_rfl) st.head (by kernel_rfl)) (ResAll.cons (ResAt.tmp (by kernel_rfl)) (ResAll.cons (ResAt.tmp (by kernel_rfl)) ResAll.nil))) ?_
        have st := st.tail
        exact ⟨m2, rfl, hm, st⟩
    intro K1_u1
    clear hrKu1
    refine W_env _ (by kernel_rfl) (W_loop (fun k1 L' w' => ∃ (s1 : Int) (m3 : Mem), loopM (testgateref04_token_L1 N p0) k1 s1 = some out1 ∧ L' = [(0, .string p0), (1, .int .i64 p1), (4, .pointer (some ⟨b1, 0, none⟩)), (5, .int .i64 s1)] ∧ m.le m3 ∧ St m3 (.blk b1 (.cells #[.int .i64 0, .string (⟨#[]⟩ : ByteArray), .int .i64 0, .int .i64 0] 42 (0, 0)) :: own) w') N ⟨p1, m1, hr, rfl, hm, st⟩ ?_)
    clear st hr
    rintro k1 _ w4 ⟨s1, m3, hL, rfl, hm, st⟩
    rcases k1 with _ | k1
    · exact loopM_zero hL
    · obtain ⟨qu1, hr, hSu1, hBu1⟩ := loopM_succ hL
      clear hL
      unfold testgateref04_token_L1 at hr
      refine W_seq ?_
      refine W_seq ?_
      refine W_region ?_
      replace hr := bindS hr
      obtain ⟨o2, hr, hrK⟩ := hr
      refine WO_cut (j := 10) (fun L' w' => ∃ (m4 : Mem), L' = [(0, .string p0), (1, .int .i64 p1), (4, .pointer (some ⟨b1, 0, none⟩)), (5, .int .i64 s1), (27, .bool o2)] ∧ m.le m4 ∧ St m4 (.blk b1 (.cells #[.int .i64 0, .string (⟨#[]⟩ : ByteArray), .int .i64 0, .int .i64 0] 42 (0, 0)) :: own) w') ?_ ?_
      · clear hr st
        have hr := hrK
        clear hrK
        rintro _ w5 ⟨m4, rfl, hm, st⟩
        refine WO_end rfl ?_
        refine X_then ?_
        refine W_cond o2 (by kernel_rfl) ?_ ?_
        · intro hc
          rw [if_pos hc] at hr
          refine W_skip ?_
          refine X_then ?_
          refine W_block ?_
          refine W_region ?_
          refine WO_seg 3 [(5, .int .i64 (IntKind.wrap .i64 (s1 + 1)))] (by kernel_rfl) (by kernel_rfl) ?_
          refine WO_end rfl ?_
          refine X_block ?_
          obtain rfl := Option.some.inj hr
          have hL := hSu1 _ rfl
          exact X_env _ (by kernel_rfl) (X_round k1 (Nat.lt_succ_self _) ⟨IntKind.wrap .i64 (s1 + 1), m4, hL, rfl, hm, st⟩)
        · intro hc
          rw [if_neg (not_true hc)] at hr
          refine W_exit ?_
          refine X_then_exit ?_
          obtain rfl := Option.some.inj hr
          have ho := hBu1 _ rfl
          refine X_then_exit ?_
          exact X_env _ (by kernel_rfl) (K1_u1 _ _ ⟨s1, m4, ho, rfl, hm, st⟩)
      · intro K
        clear hrK
        refine WO_seg 5 [(22, .bool (decide (s1 < (ByteArray.size p0 : Int))))] (by kernel_rfl) (by kernel_rfl) ?_
        rcases bcases (decide (s1 < (ByteArray.size p0 : Int))) with hc | hc
        · rw [if_pos hc] at hr
          refine WO_fact (t := 22) (b := true) (decide (s1 < (ByteArray.size p0 : Int))) (by kernel_rfl) hc ?_
          refine WO_seg 2 [(23, .string p0), (24, .int .i64 s1)] (by kernel_rfl) (by kernel_rfl) ?_
          replace hr := bindS hr
          obtain ⟨x2, hx3, hr⟩ := hr
          refine WO_one rfl (One_strIndex (d := 25) (t := 9) (x := (.tmp 23)) (y := (.tmp 24)) (by kernel_rfl) rfl (show evL _ _ = some (.string p0) from (by kernel_rfl)) (show evL _ _ = some (.int .i64 s1) from (by kernel_rfl)) (by kernel_rfl) hx3 ?_)
          replace hr := bindS hr
          obtain ⟨y2, hx4, hr⟩ := hr
          refine WO_one rfl (One_fn 26 52 #[.int .u8 (x2.toNat : Int)] (by kernel_rfl) rfl ?_)
          refine (testgateref04_inner_ok st hx4).mono ?_
          clear st
          rintro _ w6 ⟨m5, rfl, hle2, st⟩
          refine ⟨_, rfl, ?_⟩
          have hm := Mem.le_trans hm hle2
          refine WO_seg 1 [(27, .bool y2)] (by kernel_rfl) (by kernel_rfl) ?_
          obtain rfl := Option.some.inj hr
          exact WO_env _ (by kernel_rfl) (K _ _ ⟨m5, rfl, hm, st⟩)
        · rw [if_neg (not_true hc)] at hr
          refine WO_fact (t := 22) (b := false) (decide (s1 < (ByteArray.size p0 : Int))) (by kernel_rfl) hc ?_
          refine WO_seg 5 [(27, .bool false)] (by kernel_rfl) (by kernel_rfl) ?_
          obtain rfl := Option.some.inj hr
          exact WO_env _ (by kernel_rfl) (K _ _ ⟨m3, rfl, hm, st⟩)
  · intro hc
    rw [if_neg (not_true hc)] at hr
    refine W_seq ?_
    refine W_region ?_
    replace hr := bindS hr
    obtain ⟨o3, hr, hrK⟩ := hr
    refine WO_cut (j := 7) (fun L' w' => ∃ (m6 : Mem), L' = [(0, .string p0), (1, .int .i64 p1), (4, .pointer (some ⟨b1, 0, none⟩)), (5, .int .i64 p1), (7, .int .u8 (x1.toNat : Int)), (42, .bool o3)] ∧ m.le m6 ∧ St m6 (.blk b1 (.cells #[.int .i64 0, .string (⟨#[]⟩ : ByteArray), .int .i64 0, .int .i64 0] 42 (0, 0)) :: own) w') ?_ ?_
    · clear hr st
      have hr := hrK
      clear hrK
      rintro _ w9 ⟨m6, rfl, hm, st⟩
      refine WO_end rfl ?_
      refine X_then ?_
      refine W_cond o3 (by kernel_rfl) ?_ ?_
      · intro hc
        rw [if_pos hc] at hr
        refine W_seq ?_
        refine W_region ?_
        refine WO_seg 1 [(8, .int .i64 0)] (by kernel_rfl) (by kernel_rfl) ?_
        refine WO_end rfl ?_
        refine X_then ?_
        refine W_seq ?_
        refine W_block ?_
        replace hr := bindS hr
        obtain ⟨out2, hr, hrKu3⟩ := hr
        refine W_cut (.exit 3) (fun L' w' => ∃ (o4 : Int × Int) (m7 : Mem), o4 = out2 ∧ L' = [(1, .int .i64 p1), (4, .pointer (some ⟨b1, 0, none⟩)), (5, .int .i64 o4.1), (8, .int .i64 o4.2)] ∧ m.le m7 ∧ St m7 (.blk b1 (.cells #[.int .i64 0, .string (⟨#[]⟩ : ByteArray), .int .i64 0, .int .i64 0] 42 (0, 0)) :: own) w') ?_ ?_
        · clear hr st
          rintro _ w10 ⟨o4, m7, rfl, rfl, hm, st⟩
          have hr := hrKu3
          clear hrKu3
          refine X_block_eq ?_
          refine X_then ?_
          refine W_seq ?_
          refine W_seq ?_
          refine W_region ?_
          refine WO_seg 2 [(78, .bool (decide (o4.2 > 9007199254740992)))] (by kernel_rfl) (by kernel_rfl) ?_
          refine WO_end rfl ?_
          refine X_then ?_
          refine W_cond (decide (o4.2 > 9007199254740992)) (by kernel_rfl) ?_ ?_
          · intro hc
            rw [if_pos hc] at hr
            refine W_seq ?_
            refine W_region ?_
            refine WO_one rfl (One_load_own (d := 79) (t := 42) (x := (.tmp 4)) (.agg #[.int .i64 0, .string (⟨#[]⟩ : ByteArray), .int .i64 0, .int .i64 0]) (by kernel_rfl) rfl (show evL _ _ = some (.pointer (some ⟨b1, 0, none⟩)) from (by kernel_rfl)) st.head (by kernel_rfl) ?_)
            refine WO_one rfl (One_store (t := 42) (x := (.tmp 4)) (y := (.tmp 79)) (v := .agg #[.int .i64 0, .string (⟨#[]⟩ : ByteArray), .int .i64 0, .int .i64 0]) (c' := #[.int .i64 0, .string (⟨#[]⟩ : ByteArray), .int .i64 0, .int .i64 0]) (by kernel_rfl) (show evL _ _ = some (.pointer (some ⟨b1, 0, none⟩)) from (by kernel_rfl)) (show evL _ _ = some (.agg #[.int .i64 0, .string (⟨#[]⟩ : ByteArray), .int .i64 0, .int .i64 0]) from (by kernel_rfl)) st (by kernel_rfl) (by kernel_rfl) ?_)
            clear st
            intro w14 st
            refine WO_seg 2 [(5, .int .i64 0), (6, .int .i64 3)] (by kernel_rfl) (by kernel_rfl) ?_
            refine WO_end rfl ?_
            refine X_then ?_
            refine W_ret ?_
            refine X_then_ret ?_
            refine X_block_ret ?_
            refine X_then_ret ?_
            obtain rfl := Option.some.inj hr
            refine X_ret [.cell 4 42, .tmp 5, .tmp 6] [.agg #[.int .i64 0, .string (⟨#[]⟩ : ByteArray), .int .i64 0, .int .i64 0], .int .i64 0, .int .i64 3] rfl (ResAll.cons (ResAt.blk (v := .agg #[.int .i64 0, .string (⟨#[]⟩ : ByteArray), .int .i64 0, .int .i64 0]) (o := 0) (by kernel_rfl) st.head (by kernel_rfl)) (ResAll.cons (ResAt.tmp (by kernel_rfl)) (ResAll.cons (ResAt.tmp (by kernel_rfl)) ResAll.nil))) ?_
            have st := st.tail
            exact ⟨m7, rfl, hm, st⟩
          · intro hc
            rw [if_neg (not_true hc)] at hr
            refine W_skip ?_
            refine X_then ?_
            refine W_seq ?_
            refine W_region ?_
            refine WO_seg 4 [(82, .agg #[.int .i64 2, .string (⟨#[]⟩ : ByteArray), .int .i64 o4.2, .int .i64 p1]), (83, .int .i64 o4.1)] (by kernel_rfl) (by kernel_rfl) ?_
            refine WO_one rfl (One_store (t := 42) (x := (.tmp 4)) (y := (.tmp 82)) (v := .agg #[.int .i64 2, .string (⟨#[]⟩ : ByteArray), .int .i64 o4.2, .int .i64 p1]) (c' := #[.int .i64 2, .string (⟨#[]⟩ : ByteArray), .int .i64 o4.2, .int .i64 p1]) (by kernel_rfl) (show evL _ _ = some (.pointer (some ⟨b1, 0, none⟩)) from (by kernel_rfl)) (show evL _ _ = some (.agg #[.int .i64 2, .string (⟨#[]⟩ : ByteArray), .int .i64 o4.2, .int .i64 p1]) from (by kernel_rfl)) st (by kernel_rfl) (by kernel_rfl) ?_)
            clear st
            intro w15 st
            refine WO_seg 2 [(5, .int .i64 o4.1), (6, .int .i64 0)] (by kernel_rfl) (by kernel_rfl) ?_
            refine WO_end rfl ?_
            refine X_then ?_
            refine W_ret ?_
            refine X_block_ret ?_
            refine X_then_ret ?_
            obtain rfl := Option.some.inj hr
            refine X_ret [.cell 4 42, .tmp 5, .tmp 6] [.agg #[.int .i64 2, .string (⟨#[]⟩ : ByteArray), .int .i64 o4.2, .int .i64 p1], .int .i64 o4.1, .int .i64 0] rfl (ResAll.cons (ResAt.blk (v := .agg #[.int .i64 2, .string (⟨#[]⟩ : ByteArray), .int .i64 o4.2, .int .i64 p1]) (o := 0) (by kernel_rfl) st.head (by kernel_rfl)) (ResAll.cons (ResAt.tmp (by kernel_rfl)) (ResAll.cons (ResAt.tmp (by kernel_rfl)) ResAll.nil))) ?_
            have st := st.tail
            exact ⟨m7, rfl, hm, st⟩
        intro K3_u3
        clear hrKu3
        refine W_env _ (by kernel_rfl) (W_loop (fun k2 L' w' => ∃ (s3 : Int × Int) (m8 : Mem), loopM (testgateref04_token_L2 N p0) k2 s3 = some out2 ∧ L' = [(0, .string p0), (1, .int .i64 p1), (4, .pointer (some ⟨b1, 0, none⟩)), (5, .int .i64 s3.1), (8, .int .i64 s3.2)] ∧ m.le m8 ∧ St m8 (.blk b1 (.cells #[.int .i64 0, .string (⟨#[]⟩ : ByteArray), .int .i64 0, .int .i64 0] 42 (0, 0)) :: own) w') N ⟨(p1, 0), m6, hr, rfl, hm, st⟩ ?_)
        clear st hr
        rintro k2 _ w11 ⟨s3, m8, hL, rfl, hm, st⟩
        rcases k2 with _ | k2
        · exact loopM_zero hL
        · obtain ⟨qu3, hr, hSu3, hBu3⟩ := loopM_succ hL
          clear hL
          unfold testgateref04_token_L2 at hr
          refine W_seq ?_
          refine W_seq ?_
          refine W_region ?_
          replace hr := bindS hr
          obtain ⟨o5, hr, hrK⟩ := hr
          refine WO_cut (j := 16) (fun L' w' => ∃ (m9 : Mem), L' = [(0, .string p0), (1, .int .i64 p1), (4, .pointer (some ⟨b1, 0, none⟩)), (5, .int .i64 s3.1), (8, .int .i64 s3.2), (64, .bool o5)] ∧ m.le m9 ∧ St m9 (.blk b1 (.cells #[.int .i64 0, .string (⟨#[]⟩ : ByteArray), .int .i64 0, .int .i64 0] 42 (0, 0)) :: own) w') ?_ ?_
          · clear hr st
            have hr := hrK
            clear hrK
            rintro _ w12 ⟨m9, rfl, hm, st⟩
            refine WO_end rfl ?_
            refine X_then ?_
            refine W_cond o5 (by kernel_rfl) ?_ ?_
            · intro hc
              rw [if_pos hc] at hr
              refine W_skip ?_
              refine X_then ?_
              refine W_block ?_
              refine W_seq ?_
              refine W_seq ?_
              refine W_region ?_
              refine WO_seg 2 [(66, .bool (decide (s3.2 ≤ 9007199254740992)))] (by kernel_rfl) (by kernel_rfl) ?_
              refine WO_end rfl ?_
              refine X_then ?_
              replace hr := bindS hr
              obtain ⟨o6, hr, hrKu4⟩ := hr
              refine W_cut .normal (fun L' w' => ∃ (m10 : Mem), L' = [(0, .string p0), (1, .int .i64 p1), (4, .pointer (some ⟨b1, 0, none⟩)), (5, .int .i64 s3.1), (8, .int .i64 o6)] ∧ m.le m10 ∧ St m10 (.blk b1 (.cells #[.int .i64 0, .string (⟨#[]⟩ : ByteArray), .int .i64 0, .int .i64 0] 42 (0, 0)) :: own) w') ?_ ?_
              · clear hr st
                have hr := hrKu4
                clear hrKu4
                rintro _ w13 ⟨m10, rfl, hm, st⟩
                refine X_then ?_
                refine W_region ?_
                refine WO_seg 3 [(5, .int .i64 (IntKind.wrap .i64 (s3.1 + 1)))] (by kernel_rfl) (by kernel_rfl) ?_
                refine WO_end rfl ?_
                refine X_block ?_
                obtain rfl := Option.some.inj hr
                have hL := hSu3 _ rfl
                exact X_env _ (by kernel_rfl) (X_round k2 (Nat.lt_succ_self _) ⟨(IntKind.wrap .i64 (s3.1 + 1), o6), m10, hL, rfl, hm, st⟩)
              · intro Ku4
                clear hrKu4
                refine W_cond (decide (s3.2 ≤ 9007199254740992)) (by kernel_rfl) ?_ ?_
                · intro hc
                  rw [if_pos hc] at hr
                  refine W_region ?_
                  refine WO_seg 4 [(68, .int .i64 (IntKind.wrap .i64 (s3.2 * 10))), (69, .string p0), (70, .int .i64 s3.1)] (by kernel_rfl) (by kernel_rfl) ?_
                  replace hr := bindS hr
                  obtain ⟨x5, hx8, hr⟩ := hr
                  refine WO_one rfl (One_strIndex (d := 71) (t := 9) (x := (.tmp 69)) (y := (.tmp 70)) (by kernel_rfl) rfl (show evL _ _ = some (.string p0) from (by kernel_rfl)) (show evL _ _ = some (.int .i64 s3.1) from (by kernel_rfl)) (by kernel_rfl) hx8 ?_)
                  refine WO_seg 4 [(8, .int .i64 (IntKind.wrap .i64 ((IntKind.wrap .i64 (s3.2 * 10)) + (IntKind.wrap .i64 (IntKind.wrap .u8 ((x5.toNat : Int) - 48))))))] (by kernel_rfl) (by kernel_rfl) ?_
                  refine WO_end rfl ?_
                  obtain rfl := Option.some.inj hr
                  exact X_env _ (by kernel_rfl) (Ku4 _ _ ⟨m9, rfl, hm, st⟩)
                · intro hc
                  rw [if_neg (not_true hc)] at hr
                  refine W_skip ?_
                  obtain rfl := Option.some.inj hr
                  exact X_env _ (by kernel_rfl) (Ku4 _ _ ⟨m9, rfl, hm, st⟩)
            · intro hc
              rw [if_neg (not_true hc)] at hr
              refine W_exit ?_
              refine X_then_exit ?_
              obtain rfl := Option.some.inj hr
              have ho := hBu3 _ rfl
              refine X_then_exit ?_
              exact X_env _ (by kernel_rfl) (K3_u3 _ _ ⟨(s3.1, s3.2), m9, ho, rfl, hm, st⟩)
          · intro K
            clear hrK
            refine WO_seg 5 [(53, .bool (decide (s3.1 < (ByteArray.size p0 : Int))))] (by kernel_rfl) (by kernel_rfl) ?_
            rcases bcases (decide (s3.1 < (ByteArray.size p0 : Int))) with hc | hc
            · rw [if_pos hc] at hr
              refine WO_fact (t := 53) (b := true) (decide (s3.1 < (ByteArray.size p0 : Int))) (by kernel_rfl) hc ?_
              refine WO_seg 2 [(54, .string p0), (55, .int .i64 s3.1)] (by kernel_rfl) (by kernel_rfl) ?_
              replace hr := bindS hr
              obtain ⟨x3, hx6, hr⟩ := hr
              refine WO_one rfl (One_strIndex (d := 56) (t := 9) (x := (.tmp 54)) (y := (.tmp 55)) (by kernel_rfl) rfl (show evL _ _ = some (.string p0) from (by kernel_rfl)) (show evL _ _ = some (.int .i64 s3.1) from (by kernel_rfl)) (by kernel_rfl) hx6 ?_)
              refine WO_seg 3 [(59, .bool (decide ((x3.toNat : Int) ≥ 48)))] (by kernel_rfl) (by kernel_rfl) ?_
              rcases bcases (decide ((x3.toNat : Int) ≥ 48)) with hc | hc
              · rw [if_pos hc] at hr
                refine WO_fact (t := 59) (b := true) (decide ((x3.toNat : Int) ≥ 48)) (by kernel_rfl) hc ?_
                refine WO_seg 2 [(60, .string p0), (61, .int .i64 s3.1)] (by kernel_rfl) (by kernel_rfl) ?_
                replace hr := bindS hr
                obtain ⟨x4, hx7, hr⟩ := hr
                refine WO_one rfl (One_strIndex (d := 62) (t := 9) (x := (.tmp 60)) (y := (.tmp 61)) (by kernel_rfl) rfl (show evL _ _ = some (.string p0) from (by kernel_rfl)) (show evL _ _ = some (.int .i64 s3.1) from (by kernel_rfl)) (by kernel_rfl) hx7 ?_)
                refine WO_seg 2 [(64, .bool (decide ((x4.toNat : Int) ≤ 57)))] (by kernel_rfl) (by kernel_rfl) ?_
                obtain rfl := Option.some.inj hr
                exact WO_env _ (by kernel_rfl) (K _ _ ⟨m8, rfl, hm, st⟩)
              · rw [if_neg (not_true hc)] at hr
                refine WO_fact (t := 59) (b := false) (decide ((x3.toNat : Int) ≥ 48)) (by kernel_rfl) hc ?_
                refine WO_seg 5 [(64, .bool false)] (by kernel_rfl) (by kernel_rfl) ?_
                obtain rfl := Option.some.inj hr
                exact WO_env _ (by kernel_rfl) (K _ _ ⟨m8, rfl, hm, st⟩)
            · rw [if_neg (not_true hc)] at hr
              refine WO_fact (t := 53) (b := false) (decide (s3.1 < (ByteArray.size p0 : Int))) (by kernel_rfl) hc ?_
              refine WO_seg 11 [(64, .bool false)] (by kernel_rfl) (by kernel_rfl) ?_
              obtain rfl := Option.some.inj hr
              exact WO_env _ (by kernel_rfl) (K _ _ ⟨m8, rfl, hm, st⟩)
      · intro hc
        rw [if_neg (not_true hc)] at hr
        refine W_seq ?_
        refine W_region ?_
        refine WO_seg 3 [(84, .bool ((x1.toNat : Int) == 34))] (by kernel_rfl) (by kernel_rfl) ?_
        refine WO_end rfl ?_
        refine X_then ?_
        refine W_cond ((x1.toNat : Int) == 34) (by kernel_rfl) ?_ ?_
        · intro hc
          rw [if_pos hc] at hr
          refine W_seq ?_
          refine W_region ?_
          refine WO_seg 3 [(5, .int .i64 (IntKind.wrap .i64 (p1 + 1)))] (by kernel_rfl) (by kernel_rfl) ?_
          refine WO_end rfl ?_
          refine X_then ?_
          refine W_seq ?_
          refine W_block ?_
          replace hr := bindS hr
          obtain ⟨out3, hr, hrKu6⟩ := hr
          refine W_cut (.exit 5) (fun L' w' => ∃ (o7 : Int) (m11 : Mem), o7 = out3 ∧ L' = [(0, .string p0), (1, .int .i64 p1), (4, .pointer (some ⟨b1, 0, none⟩)), (5, .int .i64 o7)] ∧ m.le m11 ∧ St m11 (.blk b1 (.cells #[.int .i64 0, .string (⟨#[]⟩ : ByteArray), .int .i64 0, .int .i64 0] 42 (0, 0)) :: own) w') ?_ ?_
          · clear hr st
            rintro _ w16 ⟨o7, m11, rfl, rfl, hm, st⟩
            have hr := hrKu6
            clear hrKu6
            refine X_block_eq ?_
            refine X_then ?_
            refine W_seq ?_
            refine W_seq ?_
            refine W_region ?_
            replace hr := bindS hr
            obtain ⟨o9, hr, hrK⟩ := hr
            refine WO_cut (j := 10) (fun L' w' => ∃ (m14 : Mem), L' = [(0, .string p0), (1, .int .i64 p1), (4, .pointer (some ⟨b1, 0, none⟩)), (5, .int .i64 o7), (122, .bool o9)] ∧ m.le m14 ∧ St m14 (.blk b1 (.cells #[.int .i64 0, .string (⟨#[]⟩ : ByteArray), .int .i64 0, .int .i64 0] 42 (0, 0)) :: own) w') ?_ ?_
            · clear hr st
              have hr := hrK
              clear hrK
              rintro _ w19 ⟨m14, rfl, hm, st⟩
              refine WO_end rfl ?_
              refine X_then ?_
              refine W_cond o9 (by kernel_rfl) ?_ ?_
              · intro hc
                rw [if_pos hc] at hr
                refine W_seq ?_
                refine W_region ?_
                refine WO_one rfl (One_load_own (d := 123) (t := 42) (x := (.tmp 4)) (.agg #[.int .i64 0, .string (⟨#[]⟩ : ByteArray), .int .i64 0, .int .i64 0]) (by kernel_rfl) rfl (show evL _ _ = some (.pointer (some ⟨b1, 0, none⟩)) from (by kernel_rfl)) st.head (by kernel_rfl) ?_)
                refine WO_one rfl (One_store (t := 42) (x := (.tmp 4)) (y := (.tmp 123)) (v := .agg #[.int .i64 0, .string (⟨#[]⟩ : ByteArray), .int .i64 0, .int .i64 0]) (c' := #[.int .i64 0, .string (⟨#[]⟩ : ByteArray), .int .i64 0, .int .i64 0]) (by kernel_rfl) (show evL _ _ = some (.pointer (some ⟨b1, 0, none⟩)) from (by kernel_rfl)) (show evL _ _ = some (.agg #[.int .i64 0, .string (⟨#[]⟩ : ByteArray), .int .i64 0, .int .i64 0]) from (by kernel_rfl)) st (by kernel_rfl) (by kernel_rfl) ?_)
                clear st
                intro w20 st
                refine WO_seg 2 [(5, .int .i64 0), (6, .int .i64 9)] (by kernel_rfl) (by kernel_rfl) ?_
                refine WO_end rfl ?_
                refine X_then ?_
                refine W_ret ?_
                refine X_then_ret ?_
                refine X_block_ret ?_
                refine X_then_ret ?_
                obtain rfl := Option.some.inj hr
                refine X_ret [.cell 4 42, .tmp 5, .tmp 6] [.agg #[.int .i64 0, .string (⟨#[]⟩ : ByteArray), .int .i64 0, .int .i64 0], .int .i64 0, .int .i64 9] rfl (ResAll.cons (ResAt.blk (v := .agg #[.int .i64 0, .string (⟨#[]⟩ : ByteArray), .int .i64 0, .int .i64 0]) (o := 0) (by kernel_rfl) st.head (by kernel_rfl)) (ResAll.cons (ResAt.tmp (by kernel_rfl)) (ResAll.cons (ResAt.tmp (by kernel_rfl)) ResAll.nil))) ?_
                have st := st.tail
                exact ⟨m14, rfl, hm, st⟩
              · intro hc
                rw [if_neg (not_true hc)] at hr
                refine W_skip ?_
                refine X_then ?_
                refine W_seq ?_
                refine W_region ?_
                refine WO_seg 4 [(124, .string p0), (126, .int .i64 (IntKind.wrap .i64 (p1 + 1))), (127, .int .i64 o7)] (by kernel_rfl) (by kernel_rfl) ?_
                replace hr := bindS hr
                obtain ⟨s5, hx13, hr⟩ := hr
                refine WO_one rfl (One_strSlice (d := 128) (t := 9) (x := (.tmp 124)) (lo := (some (.tmp 126))) (hi := (some (.tmp 127))) (by kernel_rfl) rfl (show evL _ _ = some (.string p0) from (by kernel_rfl)) (by kernel_rfl) (.inr ⟨_, _, rfl, (show evL _ _ = some (.int .i64 (IntKind.wrap .i64 (p1 + 1))) from (by kernel_rfl))⟩) (.inr ⟨_, _, rfl, (show evL _ _ = some (.int .i64 o7) from (by kernel_rfl))⟩) hx13 ?_)
                refine WO_seg 4 [(130, .agg #[.int .i64 3, .string s5, .int .i64 0, .int .i64 p1]), (132, .int .i64 (IntKind.wrap .i64 (o7 + 1)))] (by kernel_rfl) (by kernel_rfl) ?_
                refine WO_one rfl (One_store (t := 42) (x := (.tmp 4)) (y := (.tmp 130)) (v := .agg #[.int .i64 3, .string s5, .int .i64 0, .int .i64 p1]) (c' := #[.int .i64 3, .string s5, .int .i64 0, .int .i64 p1]) (by kernel_rfl) (show evL _ _ = some (.pointer (some ⟨b1, 0, none⟩)) from (by kernel_rfl)) (show evL _ _ = some (.agg #[.int .i64 3, .string s5, .int .i64 0, .int .i64 p1]) from (by kernel_rfl)) st (by kernel_rfl) (by kernel_rfl) ?_)
                clear st
                intro w21 st
                refine WO_seg 2 [(5, .int .i64 (IntKind.wrap .i64 (o7 + 1))), (6, .int .i64 0)] (by kernel_rfl) (by kernel_rfl) ?_
                refine WO_end rfl ?_
                refine X_then ?_
                refine W_ret ?_
                refine X_block_ret ?_
                refine X_then_ret ?_
                obtain rfl := Option.some.inj hr
                refine X_ret [.cell 4 42, .tmp 5, .tmp 6] [.agg #[.int .i64 3, .string s5, .int .i64 0, .int .i64 p1], .int .i64 (IntKind.wrap .i64 (o7 + 1)), .int .i64 0] rfl (ResAll.cons (ResAt.blk (v := .agg #[.int .i64 3, .string s5, .int .i64 0, .int .i64 p1]) (o := 0) (by kernel_rfl) st.head (by kernel_rfl)) (ResAll.cons (ResAt.tmp (by kernel_rfl)) (ResAll.cons (ResAt.tmp (by kernel_rfl)) ResAll.nil))) ?_
                have st := st.tail
                exact ⟨m14, rfl, hm, st⟩
            · intro K
              clear hrK
              refine WO_seg 5 [(117, .bool (o7 == (ByteArray.size p0 : Int)))] (by kernel_rfl) (by kernel_rfl) ?_
              rcases bcases (o7 == (ByteArray.size p0 : Int)) with hc | hc
              · rw [if_pos hc] at hr
                refine WO_fact (t := 117) (b := true) (o7 == (ByteArray.size p0 : Int)) (by kernel_rfl) hc ?_
                refine WO_seg 5 [(122, .bool true)] (by kernel_rfl) (by kernel_rfl) ?_
                obtain rfl := Option.some.inj hr
                exact WO_env _ (by kernel_rfl) (K _ _ ⟨m11, rfl, hm, st⟩)
              · rw [if_neg (not_true hc)] at hr
                refine WO_fact (t := 117) (b := false) (o7 == (ByteArray.size p0 : Int)) (by kernel_rfl) hc ?_
                refine WO_seg 2 [(118, .string p0), (119, .int .i64 o7)] (by kernel_rfl) (by kernel_rfl) ?_
                replace hr := bindS hr
                obtain ⟨x9, hx12, hr⟩ := hr
                refine WO_one rfl (One_strIndex (d := 120) (t := 9) (x := (.tmp 118)) (y := (.tmp 119)) (by kernel_rfl) rfl (show evL _ _ = some (.string p0) from (by kernel_rfl)) (show evL _ _ = some (.int .i64 o7) from (by kernel_rfl)) (by kernel_rfl) hx12 ?_)
                refine WO_seg 2 [(122, .bool ((x9.toNat : Int) != 34))] (by kernel_rfl) (by kernel_rfl) ?_
                obtain rfl := Option.some.inj hr
                exact WO_env _ (by kernel_rfl) (K _ _ ⟨m11, rfl, hm, st⟩)
          intro K5_u6
          clear hrKu6
          refine W_env _ (by kernel_rfl) (W_loop (fun k3 L' w' => ∃ (s4 : Int) (m12 : Mem), loopM (testgateref04_token_L3 N p0) k3 s4 = some out3 ∧ L' = [(0, .string p0), (1, .int .i64 p1), (4, .pointer (some ⟨b1, 0, none⟩)), (5, .int .i64 s4)] ∧ m.le m12 ∧ St m12 (.blk b1 (.cells #[.int .i64 0, .string (⟨#[]⟩ : ByteArray), .int .i64 0, .int .i64 0] 42 (0, 0)) :: own) w') N ⟨IntKind.wrap .i64 (p1 + 1), m6, hr, rfl, hm, st⟩ ?_)
          clear st hr
          rintro k3 _ w17 ⟨s4, m12, hL, rfl, hm, st⟩
          rcases k3 with _ | k3
          · exact loopM_zero hL
          · obtain ⟨qu6, hr, hSu6, hBu6⟩ := loopM_succ hL
            clear hL
            unfold testgateref04_token_L3 at hr
            refine W_seq ?_
            refine W_seq ?_
            refine W_region ?_
            replace hr := bindS hr
            obtain ⟨o8, hr, hrK⟩ := hr
            refine WO_cut (j := 22) (fun L' w' => ∃ (m13 : Mem), L' = [(0, .string p0), (1, .int .i64 p1), (4, .pointer (some ⟨b1, 0, none⟩)), (5, .int .i64 s4), (110, .bool o8)] ∧ m.le m13 ∧ St m13 (.blk b1 (.cells #[.int .i64 0, .string (⟨#[]⟩ : ByteArray), .int .i64 0, .int .i64 0] 42 (0, 0)) :: own) w') ?_ ?_
            · clear hr st
              have hr := hrK
              clear hrK
              rintro _ w18 ⟨m13, rfl, hm, st⟩
              refine WO_end rfl ?_
              refine X_then ?_
              refine W_cond o8 (by kernel_rfl) ?_ ?_
              · intro hc
                rw [if_pos hc] at hr
                refine W_skip ?_
                refine X_then ?_
                refine W_block ?_
                refine W_region ?_
                refine WO_seg 3 [(5, .int .i64 (IntKind.wrap .i64 (s4 + 1)))] (by kernel_rfl) (by kernel_rfl) ?_
                refine WO_end rfl ?_
                refine X_block ?_
                obtain rfl := Option.some.inj hr
                have hL := hSu6 _ rfl
                exact X_env _ (by kernel_rfl) (X_round k3 (Nat.lt_succ_self _) ⟨IntKind.wrap .i64 (s4 + 1), m13, hL, rfl, hm, st⟩)
              · intro hc
                rw [if_neg (not_true hc)] at hr
                refine W_exit ?_
                refine X_then_exit ?_
                obtain rfl := Option.some.inj hr
                have ho := hBu6 _ rfl
                refine X_then_exit ?_
                exact X_env _ (by kernel_rfl) (K5_u6 _ _ ⟨s4, m13, ho, rfl, hm, st⟩)
            · intro K
              clear hrK
              refine WO_seg 5 [(93, .bool (decide (s4 < (ByteArray.size p0 : Int))))] (by kernel_rfl) (by kernel_rfl) ?_
              rcases bcases (decide (s4 < (ByteArray.size p0 : Int))) with hc | hc
              · rw [if_pos hc] at hr
                refine WO_fact (t := 93) (b := true) (decide (s4 < (ByteArray.size p0 : Int))) (by kernel_rfl) hc ?_
                refine WO_seg 2 [(94, .string p0), (95, .int .i64 s4)] (by kernel_rfl) (by kernel_rfl) ?_
                replace hr := bindS hr
                obtain ⟨x6, hx9, hr⟩ := hr
                refine WO_one rfl (One_strIndex (d := 96) (t := 9) (x := (.tmp 94)) (y := (.tmp 95)) (by kernel_rfl) rfl (show evL _ _ = some (.string p0) from (by kernel_rfl)) (show evL _ _ = some (.int .i64 s4) from (by kernel_rfl)) (by kernel_rfl) hx9 ?_)
                refine WO_seg 3 [(99, .bool (decide ((x6.toNat : Int) ≥ 32)))] (by kernel_rfl) (by kernel_rfl) ?_
                rcases bcases (decide ((x6.toNat : Int) ≥ 32)) with hc | hc
                · rw [if_pos hc] at hr
                  refine WO_fact (t := 99) (b := true) (decide ((x6.toNat : Int) ≥ 32)) (by kernel_rfl) hc ?_
                  refine WO_seg 2 [(100, .string p0), (101, .int .i64 s4)] (by kernel_rfl) (by kernel_rfl) ?_
                  replace hr := bindS hr
                  obtain ⟨x7, hx10, hr⟩ := hr
                  refine WO_one rfl (One_strIndex (d := 102) (t := 9) (x := (.tmp 100)) (y := (.tmp 101)) (by kernel_rfl) rfl (show evL _ _ = some (.string p0) from (by kernel_rfl)) (show evL _ _ = some (.int .i64 s4) from (by kernel_rfl)) (by kernel_rfl) hx10 ?_)
                  refine WO_seg 3 [(105, .bool (decide ((x7.toNat : Int) ≤ 126)))] (by kernel_rfl) (by kernel_rfl) ?_
                  rcases bcases (decide ((x7.toNat : Int) ≤ 126)) with hc | hc
                  · rw [if_pos hc] at hr
                    refine WO_fact (t := 105) (b := true) (decide ((x7.toNat : Int) ≤ 126)) (by kernel_rfl) hc ?_
                    refine WO_seg 2 [(106, .string p0), (107, .int .i64 s4)] (by kernel_rfl) (by kernel_rfl) ?_
                    replace hr := bindS hr
                    obtain ⟨x8, hx11, hr⟩ := hr
                    refine WO_one rfl (One_strIndex (d := 108) (t := 9) (x := (.tmp 106)) (y := (.tmp 107)) (by kernel_rfl) rfl (show evL _ _ = some (.string p0) from (by kernel_rfl)) (show evL _ _ = some (.int .i64 s4) from (by kernel_rfl)) (by kernel_rfl) hx11 ?_)
                    refine WO_seg 2 [(110, .bool ((x8.toNat : Int) != 34))] (by kernel_rfl) (by kernel_rfl) ?_
                    obtain rfl := Option.some.inj hr
                    exact WO_env _ (by kernel_rfl) (K _ _ ⟨m12, rfl, hm, st⟩)
                  · rw [if_neg (not_true hc)] at hr
                    refine WO_fact (t := 105) (b := false) (decide ((x7.toNat : Int) ≤ 126)) (by kernel_rfl) hc ?_
                    refine WO_seg 5 [(110, .bool false)] (by kernel_rfl) (by kernel_rfl) ?_
                    obtain rfl := Option.some.inj hr
                    exact WO_env _ (by kernel_rfl) (K _ _ ⟨m12, rfl, hm, st⟩)
                · rw [if_neg (not_true hc)] at hr
                  refine WO_fact (t := 99) (b := false) (decide ((x6.toNat : Int) ≥ 32)) (by kernel_rfl) hc ?_
                  refine WO_seg 11 [(110, .bool false)] (by kernel_rfl) (by kernel_rfl) ?_
                  obtain rfl := Option.some.inj hr
                  exact WO_env _ (by kernel_rfl) (K _ _ ⟨m12, rfl, hm, st⟩)
              · rw [if_neg (not_true hc)] at hr
                refine WO_fact (t := 93) (b := false) (decide (s4 < (ByteArray.size p0 : Int))) (by kernel_rfl) hc ?_
                refine WO_seg 17 [(110, .bool false)] (by kernel_rfl) (by kernel_rfl) ?_
                obtain rfl := Option.some.inj hr
                exact WO_env _ (by kernel_rfl) (K _ _ ⟨m12, rfl, hm, st⟩)
        · intro hc
          rw [if_neg (not_true hc)] at hr
          refine W_skip ?_
          refine X_block ?_
          refine X_then ?_
          refine W_seq ?_
          refine W_seq ?_
          refine W_region ?_
          replace hr := bindS hr
          obtain ⟨o10, hr, hrK⟩ := hr
          refine WO_cut (j := 18) (fun L' w' => ∃ (m15 : Mem), L' = [(0, .string p0), (1, .int .i64 p1), (4, .pointer (some ⟨b1, 0, none⟩)), (150, .bool o10)] ∧ m.le m15 ∧ St m15 (.blk b1 (.cells #[.int .i64 0, .string (⟨#[]⟩ : ByteArray), .int .i64 0, .int .i64 0] 42 (0, 0)) :: own) w') ?_ ?_
          · clear hr st
            have hr := hrK
            clear hrK
            rintro _ w22 ⟨m15, rfl, hm, st⟩
            refine WO_end rfl ?_
            refine X_then ?_
            refine W_cond o10 (by kernel_rfl) ?_ ?_
            · intro hc
              rw [if_pos hc] at hr
              refine W_seq ?_
              refine W_region ?_
              refine WO_seg 4 [(152, .agg #[.int .i64 4, .string (⟨#[61, 61]⟩ : ByteArray), .int .i64 0, .int .i64 p1]), (154, .int .i64 (IntKind.wrap .i64 (p1 + 2)))] (by kernel_rfl) (by kernel_rfl) ?_
              refine WO_one rfl (One_store (t := 42) (x := (.tmp 4)) (y := (.tmp 152)) (v := .agg #[.int .i64 4, .string (⟨#[61, 61]⟩ : ByteArray), .int .i64 0, .int .i64 p1]) (c' := #[.int .i64 4, .string (⟨#[61, 61]⟩ : ByteArray), .int .i64 0, .int .i64 p1]) (by kernel_rfl) (show evL _ _ = some (.pointer (some ⟨b1, 0, none⟩)) from (by kernel_rfl)) (show evL _ _ = some (.agg #[.int .i64 4, .string (⟨#[61, 61]⟩ : ByteArray), .int .i64 0, .int .i64 p1]) from (by kernel_rfl)) st (by kernel_rfl) (by kernel_rfl) ?_)
              clear st
              intro w23 st
              refine WO_seg 2 [(5, .int .i64 (IntKind.wrap .i64 (p1 + 2))), (6, .int .i64 0)] (by kernel_rfl) (by kernel_rfl) ?_
              refine WO_end rfl ?_
              refine X_then ?_
              refine W_ret ?_
              refine X_then_ret ?_
              obtain rfl := Option.some.inj hr
              refine X_ret [.cell 4 42, .tmp 5, .tmp 6] [.agg #[.int .i64 4, .string (⟨#[61, 61]⟩ : ByteArray), .int .i64 0, .int .i64 p1], .int .i64 (IntKind.wrap .i64 (p1 + 2)), .int .i64 0] rfl (ResAll.cons (ResAt.blk (v := .agg #[.int .i64 4, .string (⟨#[61, 61]⟩ : ByteArray), .int .i64 0, .int .i64 p1]) (o := 0) (by kernel_rfl) st.head (by kernel_rfl)) (ResAll.cons (ResAt.tmp (by kernel_rfl)) (ResAll.cons (ResAt.tmp (by kernel_rfl)) ResAll.nil))) ?_
              have st := st.tail
              exact ⟨m15, rfl, hm, st⟩
            · intro hc
              rw [if_neg (not_true hc)] at hr
              refine W_skip ?_
              refine X_then ?_
              refine W_seq ?_
              refine W_seq ?_
              refine W_region ?_
              refine WO_one rfl (One_buildSlice (d := 155) (t := 43) (e := 5) (len := 11) (parts := #[(0, (.const (.int .u8 59))), (1, (.const (.int .u8 44))), (2, (.const (.int .u8 40))), (3, (.const (.int .u8 41))), (4, (.const (.int .u8 43))), (5, (.const (.int .u8 45))), (6, (.const (.int .u8 42))), (7, (.const (.int .u8 47))), (8, (.const (.int .u8 37))), (9, (.const (.int .u8 60))), (10, (.const (.int .u8 61)))]) cU8 (xs := [(59 : UInt8), (44 : UInt8), (40 : UInt8), (41 : UInt8), (43 : UInt8), (45 : UInt8), (42 : UInt8), (47 : UInt8), (37 : UInt8), (60 : UInt8), (61 : UInt8)]) [.int .u8 59, .int .u8 44, .int .u8 40, .int .u8 41, .int .u8 43, .int .u8 45, .int .u8 42, .int .u8 47, .int .u8 37, .int .u8 60, .int .u8 61] (by kernel_rfl) rfl (fun _ => buildCells_run (by kernel_rfl) _) rfl rfl st ⟨[.int .u8 59], _, rfl, rfl, ⟨[.int .u8 44], _, rfl, rfl, ⟨[.int .u8 40], _, rfl, rfl, ⟨[.int .u8 41], _, rfl, rfl, ⟨[.int .u8 43], _, rfl, rfl, ⟨[.int .u8 45], _, rfl, rfl, ⟨[.int .u8 42], _, rfl, rfl, ⟨[.int .u8 47], _, rfl, rfl, ⟨[.int .u8 37], _, rfl, rfl, ⟨[.int .u8 60], _, rfl, rfl, ⟨[.int .u8 61], _, rfl, rfl, rfl⟩⟩⟩⟩⟩⟩⟩⟩⟩⟩⟩ ?_)
              clear st
              intro b2 m16 w24 hle3 st r1
              have hm := Mem.le_trans hm hle3
              refine WO_one rfl (One_sliceSame (d := 156) (t := 43) (e := 5) (x := (.tmp 155)) (by kernel_rfl) rfl (show evL _ _ = some (.slice (some ⟨b2, 0, none⟩) (List.length ([(59 : UInt8), (44 : UInt8), (40 : UInt8), (41 : UInt8), (43 : UInt8), (45 : UInt8), (42 : UInt8), (47 : UInt8), (37 : UInt8), (60 : UInt8), (61 : UInt8)])) 11) from (by kernel_rfl)) (by kernel_rfl) st ?_)
              clear st
              intro w25 st
              refine WO_seg 2 [(157, .int .i64 (List.length ([(59 : UInt8), (44 : UInt8), (40 : UInt8), (41 : UInt8), (43 : UInt8), (45 : UInt8), (42 : UInt8), (47 : UInt8), (37 : UInt8), (60 : UInt8), (61 : UInt8)]) : Int)), (158, .int .i64 0)] (by kernel_rfl) (by kernel_rfl) ?_
              refine WO_end rfl ?_
              refine X_then ?_
              refine W_block ?_
              replace hr := bindS hr
              obtain ⟨out4, hr, hrKu9⟩ := hr
              refine W_cut (.exit 7) (fun L' w' => ∃ (o11 : Unit) (m17 : Mem), (.inl o11) = out4 ∧ L' = [(4, .pointer (some ⟨b1, 0, none⟩))] ∧ m.le m17 ∧ St m17 (.blk b1 (.cells #[.int .i64 0, .string (⟨#[]⟩ : ByteArray), .int .i64 0, .int .i64 0] 42 (0, 0)) :: own) w') ?_ ?_
              · clear hr st
                rintro _ w26 ⟨o11, m17, rfl, rfl, hm, st⟩
                have hr := hrKu9
                clear hrKu9
                dsimp only at hr
                refine X_block_eq ?_
                refine X_then ?_
                refine W_seq ?_
                refine W_region ?_
                refine WO_one rfl (One_load_own (d := 177) (t := 42) (x := (.tmp 4)) (.agg #[.int .i64 0, .string (⟨#[]⟩ : ByteArray), .int .i64 0, .int .i64 0]) (by kernel_rfl) rfl (show evL _ _ = some (.pointer (some ⟨b1, 0, none⟩)) from (by kernel_rfl)) st.head (by kernel_rfl) ?_)
                refine WO_one rfl (One_store (t := 42) (x := (.tmp 4)) (y := (.tmp 177)) (v := .agg #[.int .i64 0, .string (⟨#[]⟩ : ByteArray), .int .i64 0, .int .i64 0]) (c' := #[.int .i64 0, .string (⟨#[]⟩ : ByteArray), .int .i64 0, .int .i64 0]) (by kernel_rfl) (show evL _ _ = some (.pointer (some ⟨b1, 0, none⟩)) from (by kernel_rfl)) (show evL _ _ = some (.agg #[.int .i64 0, .string (⟨#[]⟩ : ByteArray), .int .i64 0, .int .i64 0]) from (by kernel_rfl)) st (by kernel_rfl) (by kernel_rfl) ?_)
                clear st
                intro w29 st
                refine WO_seg 2 [(5, .int .i64 0), (6, .int .i64 9)] (by kernel_rfl) (by kernel_rfl) ?_
                refine WO_end rfl ?_
                refine X_then ?_
                refine W_ret ?_
                obtain rfl := Option.some.inj hr
                refine X_ret [.cell 4 42, .tmp 5, .tmp 6] [.agg #[.int .i64 0, .string (⟨#[]⟩ : ByteArray), .int .i64 0, .int .i64 0], .int .i64 0, .int .i64 9] rfl (ResAll.cons (ResAt.blk (v := .agg #[.int .i64 0, .string (⟨#[]⟩ : ByteArray), .int .i64 0, .int .i64 0]) (o := 0) (by kernel_rfl) st.head (by kernel_rfl)) (ResAll.cons (ResAt.tmp (by kernel_rfl)) (ResAll.cons (ResAt.tmp (by kernel_rfl)) ResAll.nil))) ?_
                have st := st.tail
                exact ⟨m17, rfl, hm, st⟩
              intro K7_u9
              refine W_env _ (by kernel_rfl) (W_loop (fun k4 L' w' => ∃ (s6 : Int) (m18 : Mem), loopM (testgateref04_token_L4 N p0 p1) k4 s6 = some out4 ∧ L' = [(0, .string p0), (1, .int .i64 p1), (4, .pointer (some ⟨b1, 0, none⟩)), (156, .slice (some ⟨b2, 0, none⟩) (List.length ([(59 : UInt8), (44 : UInt8), (40 : UInt8), (41 : UInt8), (43 : UInt8), (45 : UInt8), (42 : UInt8), (47 : UInt8), (37 : UInt8), (60 : UInt8), (61 : UInt8)])) 11), (157, .int .i64 (List.length ([(59 : UInt8), (44 : UInt8), (40 : UInt8), (41 : UInt8), (43 : UInt8), (45 : UInt8), (42 : UInt8), (47 : UInt8), (37 : UInt8), (60 : UInt8), (61 : UInt8)]) : Int)), (158, .int .i64 s6)] ∧ m.le m18 ∧ St m18 (.blk b1 (.cells #[.int .i64 0, .string (⟨#[]⟩ : ByteArray), .int .i64 0, .int .i64 0] 42 (0, 0)) :: own) w' ∧ RepS cU8 m18 (some ⟨b2, 0, none⟩) 11 ([(59 : UInt8), (44 : UInt8), (40 : UInt8), (41 : UInt8), (43 : UInt8), (45 : UInt8), (42 : UInt8), (47 : UInt8), (37 : UInt8), (60 : UInt8), (61 : UInt8)])) N ⟨0, m16, hr, rfl, hm, st, r1⟩ ?_)
              clear st hr
              rintro k4 _ w27 ⟨s6, m18, hL, rfl, hm, st, r1⟩
              rcases k4 with _ | k4
              · exact loopM_zero hL
              · obtain ⟨qu9, hr, hSu9, hBu9⟩ := loopM_succ hL
                clear hL
                unfold testgateref04_token_L4 at hr
                refine W_seq ?_
                refine W_region ?_
                refine WO_seg 1 [(159, .bool (decide (s6 < (List.length ([(59 : UInt8), (44 : UInt8), (40 : UInt8), (41 : UInt8), (43 : UInt8), (45 : UInt8), (42 : UInt8), (47 : UInt8), (37 : UInt8), (60 : UInt8), (61 : UInt8)]) : Int))))] (by kernel_rfl) (by kernel_rfl) ?_
                refine WO_end rfl ?_
                refine X_then ?_
                refine W_seq ?_
                refine W_cond (decide (s6 < (List.length ([(59 : UInt8), (44 : UInt8), (40 : UInt8), (41 : UInt8), (43 : UInt8), (45 : UInt8), (42 : UInt8), (47 : UInt8), (37 : UInt8), (60 : UInt8), (61 : UInt8)]) : Int))) (by kernel_rfl) ?_ ?_
                · intro hc
                  rw [if_pos hc] at hr
                  refine W_skip ?_
                  refine X_then ?_
                  refine W_seq ?_
                  refine W_block ?_
                  refine W_seq ?_
                  refine W_region ?_
                  replace hr := bindS hr
                  obtain ⟨x12, hx16, hr⟩ := hr
                  refine WO_one rfl (One_index (d := 160) (t := 43) (e := 5) (x := (.tmp 156)) (y := (.tmp 158)) cU8 (by kernel_rfl) rfl (show evL _ _ = some (.slice (some ⟨b2, 0, none⟩) (List.length ([(59 : UInt8), (44 : UInt8), (40 : UInt8), (41 : UInt8), (43 : UInt8), (45 : UInt8), (42 : UInt8), (47 : UInt8), (37 : UInt8), (60 : UInt8), (61 : UInt8)])) 11) from (by kernel_rfl)) (show evL _ _ = some (.int .i64 s6) from (by kernel_rfl)) (by kernel_rfl) r1 hx16 ?_)
                  rintro b3 f1 cs1 rfl hq1
                  refine WO_one rfl (One_load_row (d := 161) (t := 5) (x := (.tmp 160)) (.int .u8 (x12.toNat : Int)) (by kernel_rfl) rfl (show evL _ _ = some (.pointer (some ⟨b3, f1, none⟩)) from (by kernel_rfl)) st hq1 (by kernel_rfl) ?_)
                  refine WO_seg 1 [(10, .int .u8 (x12.toNat : Int))] (by kernel_rfl) (by kernel_rfl) ?_
                  refine WO_end rfl ?_
                  refine X_then ?_
                  refine W_seq ?_
                  refine W_region ?_
                  refine WO_seg 2 [(162, .string p0), (163, .int .i64 p1)] (by kernel_rfl) (by kernel_rfl) ?_
                  replace hr := bindS hr
                  obtain ⟨x13, hx17, hr⟩ := hr
                  refine WO_one rfl (One_strIndex (d := 164) (t := 9) (x := (.tmp 162)) (y := (.tmp 163)) (by kernel_rfl) rfl (show evL _ _ = some (.string p0) from (by kernel_rfl)) (show evL _ _ = some (.int .i64 p1) from (by kernel_rfl)) (by kernel_rfl) hx17 ?_)
                  refine WO_seg 2 [(166, .bool ((x13.toNat : Int) == (x12.toNat : Int)))] (by kernel_rfl) (by kernel_rfl) ?_
                  refine WO_end rfl ?_
                  refine X_then ?_
                  refine W_cond ((x13.toNat : Int) == (x12.toNat : Int)) (by kernel_rfl) ?_ ?_
                  · intro hc
                    rw [if_pos hc] at hr
                    refine W_seq ?_
                    refine W_region ?_
                    refine WO_seg 4 [(167, .string p0), (168, .int .i64 p1), (170, .int .i64 (IntKind.wrap .i64 (p1 + 1)))] (by kernel_rfl) (by kernel_rfl) ?_
                    replace hr := bindS hr
                    obtain ⟨s7, hx18, hr⟩ := hr
                    refine WO_one rfl (One_strSlice (d := 171) (t := 9) (x := (.tmp 167)) (lo := (some (.tmp 168))) (hi := (some (.tmp 170))) (by kernel_rfl) rfl (show evL _ _ = some (.string p0) from (by kernel_rfl)) (by kernel_rfl) (.inr ⟨_, _, rfl, (show evL _ _ = some (.int .i64 p1) from (by kernel_rfl))⟩) (.inr ⟨_, _, rfl, (show evL _ _ = some (.int .i64 (IntKind.wrap .i64 (p1 + 1))) from (by kernel_rfl))⟩) hx18 ?_)
                    refine WO_seg 4 [(173, .agg #[.int .i64 4, .string s7, .int .i64 0, .int .i64 p1]), (175, .int .i64 (IntKind.wrap .i64 (p1 + 1)))] (by kernel_rfl) (by kernel_rfl) ?_
                    refine WO_one rfl (One_store (t := 42) (x := (.tmp 4)) (y := (.tmp 173)) (v := .agg #[.int .i64 4, .string s7, .int .i64 0, .int .i64 p1]) (c' := #[.int .i64 4, .string s7, .int .i64 0, .int .i64 p1]) (by kernel_rfl) (show evL _ _ = some (.pointer (some ⟨b1, 0, none⟩)) from (by kernel_rfl)) (show evL _ _ = some (.agg #[.int .i64 4, .string s7, .int .i64 0, .int .i64 p1]) from (by kernel_rfl)) st (by kernel_rfl) (by kernel_rfl) ?_)
                    clear st
                    intro w28 st
                    refine WO_seg 2 [(5, .int .i64 (IntKind.wrap .i64 (p1 + 1))), (6, .int .i64 0)] (by kernel_rfl) (by kernel_rfl) ?_
                    refine WO_end rfl ?_
                    refine X_then ?_
                    refine W_ret ?_
                    refine X_block_ret ?_
                    refine X_then_ret ?_
                    obtain rfl := Option.some.inj hr
                    have ho := hBu9 _ rfl
                    subst ho
                    have hr := hrKu9
                    dsimp only at hr
                    refine X_then_ret ?_
                    refine X_block_ret ?_
                    refine X_then_ret ?_
                    obtain rfl := Option.some.inj hr
                    refine X_ret [.cell 4 42, .tmp 5, .tmp 6] [.agg #[.int .i64 4, .string s7, .int .i64 0, .int .i64 p1], .int .i64 (IntKind.wrap .i64 (p1 + 1)), .int .i64 0] rfl (ResAll.cons (ResAt.blk (v := .agg #[.int .i64 4, .string s7, .int .i64 0, .int .i64 p1]) (o := 0) (by kernel_rfl) st.head (by kernel_rfl)) (ResAll.cons (ResAt.tmp (by kernel_rfl)) (ResAll.cons (ResAt.tmp (by kernel_rfl)) ResAll.nil))) ?_
                    have st := st.tail
                    exact ⟨m18, rfl, hm, st⟩
                  · intro hc
                    rw [if_neg (not_true hc)] at hr
                    refine W_skip ?_
                    refine X_block ?_
                    refine X_then ?_
                    refine W_region ?_
                    refine WO_seg 2 [(158, .int .i64 (IntKind.wrap .i64 (s6 + 1)))] (by kernel_rfl) (by kernel_rfl) ?_
                    refine WO_end rfl ?_
                    obtain rfl := Option.some.inj hr
                    have hL := hSu9 _ rfl
                    exact X_env _ (by kernel_rfl) (X_round k4 (Nat.lt_succ_self _) ⟨IntKind.wrap .i64 (s6 + 1), m18, hL, rfl, hm, st, r1⟩)
                · intro hc
                  rw [if_neg (not_true hc)] at hr
                  refine W_exit ?_
                  refine X_then_exit ?_
                  obtain rfl := Option.some.inj hr
                  have ho := hBu9 _ rfl
                  refine X_then_exit ?_
                  exact X_env _ (by kernel_rfl) (K7_u9 _ _ ⟨(), m18, ho, rfl, hm, st⟩)
          · intro K
            clear hrK
            refine WO_seg 2 [(133, .string p0), (134, .int .i64 p1)] (by kernel_rfl) (by kernel_rfl) ?_
            replace hr := bindS hr
            obtain ⟨x10, hx14, hr⟩ := hr
            refine WO_one rfl (One_strIndex (d := 135) (t := 9) (x := (.tmp 133)) (y := (.tmp 134)) (by kernel_rfl) rfl (show evL _ _ = some (.string p0) from (by kernel_rfl)) (show evL _ _ = some (.int .i64 p1) from (by kernel_rfl)) (by kernel_rfl) hx14 ?_)
            refine WO_seg 2 [(137, .bool ((x10.toNat : Int) == 61))] (by kernel_rfl) (by kernel_rfl) ?_
            rcases bcases ((x10.toNat : Int) == 61) with hc | hc
            · rw [if_pos hc] at hr
              refine WO_fact (t := 137) (b := true) ((x10.toNat : Int) == 61) (by kernel_rfl) hc ?_
              refine WO_seg 7 [(144, .bool (decide ((IntKind.wrap .i64 (p1 + 1)) < (ByteArray.size p0 : Int))))] (by kernel_rfl) (by kernel_rfl) ?_
              rcases bcases (decide ((IntKind.wrap .i64 (p1 + 1)) < (ByteArray.size p0 : Int))) with hc | hc
              · rw [if_pos hc] at hr
                refine WO_fact (t := 144) (b := true) (decide ((IntKind.wrap .i64 (p1 + 1)) < (ByteArray.size p0 : Int))) (by kernel_rfl) hc ?_
                refine WO_seg 3 [(145, .string p0), (147, .int .i64 (IntKind.wrap .i64 (p1 + 1)))] (by kernel_rfl) (by kernel_rfl) ?_
                replace hr := bindS hr
                obtain ⟨x11, hx15, hr⟩ := hr
                refine WO_one rfl (One_strIndex (d := 148) (t := 9) (x := (.tmp 145)) (y := (.tmp 147)) (by kernel_rfl) rfl (show evL _ _ = some (.string p0) from (by kernel_rfl)) (show evL _ _ = some (.int .i64 (IntKind.wrap .i64 (p1 + 1))) from (by kernel_rfl)) (by kernel_rfl) hx15 ?_)
                refine WO_seg 2 [(150, .bool ((x11.toNat : Int) == 61))] (by kernel_rfl) (by kernel_rfl) ?_
                obtain rfl := Option.some.inj hr
                exact WO_env _ (by kernel_rfl) (K _ _ ⟨m6, rfl, hm, st⟩)
              · rw [if_neg (not_true hc)] at hr
                refine WO_fact (t := 144) (b := false) (decide ((IntKind.wrap .i64 (p1 + 1)) < (ByteArray.size p0 : Int))) (by kernel_rfl) hc ?_
                refine WO_seg 6 [(150, .bool false)] (by kernel_rfl) (by kernel_rfl) ?_
                obtain rfl := Option.some.inj hr
                exact WO_env _ (by kernel_rfl) (K _ _ ⟨m6, rfl, hm, st⟩)
            · rw [if_neg (not_true hc)] at hr
              refine WO_fact (t := 137) (b := false) ((x10.toNat : Int) == 61) (by kernel_rfl) hc ?_
              refine WO_seg 13 [(150, .bool false)] (by kernel_rfl) (by kernel_rfl) ?_
              obtain rfl := Option.some.inj hr
              exact WO_env _ (by kernel_rfl) (K _ _ ⟨m6, rfl, hm, st⟩)
    · intro K
      clear hrK
      refine WO_seg 3 [(45, .bool (decide ((x1.toNat : Int) ≥ 48)))] (by kernel_rfl) (by kernel_rfl) ?_
      rcases bcases (decide ((x1.toNat : Int) ≥ 48)) with hc | hc
      · rw [if_pos hc] at hr
        refine WO_fact (t := 45) (b := true) (decide ((x1.toNat : Int) ≥ 48)) (by kernel_rfl) hc ?_
        refine WO_seg 4 [(42, .bool (decide ((x1.toNat : Int) ≤ 57)))] (by kernel_rfl) (by kernel_rfl) ?_
        obtain rfl := Option.some.inj hr
        exact WO_env _ (by kernel_rfl) (K _ _ ⟨m1, rfl, hm, st⟩)
      · rw [if_neg (not_true hc)] at hr
        refine WO_fact (t := 45) (b := false) (decide ((x1.toNat : Int) ≥ 48)) (by kernel_rfl) hc ?_
        refine WO_seg 4 [(42, .bool false)] (by kernel_rfl) (by kernel_rfl) ?_
        obtain rfl := Option.some.inj hr
        exact WO_env _ (by kernel_rfl) (K _ _ ⟨m1, rfl, hm, st⟩)

def testgateref04_Tokens_L1 (N : Nat) (p0 : ByteArray) (s1 : (List (Int × ByteArray × Int × Int)) × Int) : Option (((List (Int × ByteArray × Int × Int)) × Int) ⊕ (((List (Int × ByteArray × Int × Int))) ⊕ ((List (Int × ByteArray × Int × Int)) × Int × Int))) :=
  if (decide (s1.2 < (ByteArray.size p0 : Int))) = true then ((testgateref04_token N p0 s1.2).bind fun y2 => if (y2.2.2 != 0) = true then (some (.inr (.inr ((([] : List (Int × ByteArray × Int × Int)), s1.2, y2.2.2))))) else ((appendS 40 s1.1 ([(y2.1.1, y2.1.2.1, y2.1.2.2.1, y2.1.2.2.2)])).bind fun l1 => (testgateref04_skip N p0 y2.2.1).bind fun y3 => some (.inl (l1, y3)))) else (some (.inr (.inl s1.1)))

def testgateref04_Tokens (N : Nat) (p0 : ByteArray) : Option ((List (Int × ByteArray × Int × Int)) × Int × Int) :=
  if (decide ((ByteArray.size p0 : Int) > 16384)) = true then (some (([] : List (Int × ByteArray × Int × Int)), 0, 2)) else ((testgateref04_skip N p0 0).bind fun y1 => (loopM (testgateref04_Tokens_L1 N p0) N (([] : List (Int × ByteArray × Int × Int)), y1)).bind fun out1 => (match out1 with | .inl o1 => (appendS 40 o1 ([(5, (⟨#[]⟩ : ByteArray), 0, (ByteArray.size p0 : Int))])).bind fun l2 => some (l2, 0, 0) | .inr (z) => some z))

set_option maxHeartbeats 4000000 in
set_option maxRecDepth 100000 in
theorem testgateref04_Tokens_ok {N : Nat} {m : Mem} {own : List Piece} {w : World} {p0 : ByteArray} {r : (List (Int × ByteArray × Int × Int)) × Int × Int} (st : St m (own) w) (hr : testgateref04_Tokens N p0 = some r) : Calls Go.Proofs.Tryd.prog 48 #[.string p0] w fun e w' => ∃ (ra1 : Option Addr) (rc1 : Nat) (m' : Mem), e = .returned (.tuple #[.slice ra1 (List.length r.1) rc1, .int .i64 r.2.1, .int .i64 r.2.2]) ∧ m.le m' ∧ St m' (.room ra1 (List.length r.1) rc1 42 4 :: own) w' ∧ RepS (cPair (cInt .i64) (cPair cStr (cPair (cInt .i64) (cInt .i64)))) m' ra1 rc1 r.1 := by
  unfold testgateref04_Tokens at hr
  have hm := m.le_refl
  refine W_calls Go.Proofs.Tryd.func48 rfl Go.Proofs.Tryd.ntmps48 [(0, .string p0)] (by kernel_rfl) rfl ?_
  refine W_seq ?_
  refine W_region ?_
  refine WO_seg 3 [(2, .slice none (List.length ([] : List (Int × ByteArray × Int × Int))) 0)] (by kernel_rfl) (by kernel_rfl) ?_
  refine WO_end rfl ?_
  refine X_then ?_
  refine W_seq ?_
  refine W_seq ?_
  refine W_region ?_
  refine WO_seg 3 [(10, .bool (decide ((ByteArray.size p0 : Int) > 16384)))] (by kernel_rfl) (by kernel_rfl) ?_
  refine WO_end rfl ?_
  refine X_then ?_
  refine W_cond (decide ((ByteArray.size p0 : Int) > 16384)) (by kernel_rfl) ?_ ?_
  · intro hc
    rw [if_pos hc] at hr
    refine W_seq ?_
    refine W_region ?_
    refine WO_seg 3 [(2, .slice none (List.length ([] : List (Int × ByteArray × Int × Int))) 0), (3, .int .i64 0), (4, .int .i64 2)] (by kernel_rfl) (by kernel_rfl) ?_
    refine WO_end rfl ?_
    refine X_then ?_
    refine W_ret ?_
    refine X_then_ret ?_
    obtain rfl := Option.some.inj hr
    refine X_ret [.tmp 2, .tmp 3, .tmp 4] [.slice none (List.length ([] : List (Int × ByteArray × Int × Int))) 0, .int .i64 0, .int .i64 2] rfl (ResAll.cons (ResAt.tmp (by kernel_rfl)) (ResAll.cons (ResAt.tmp (by kernel_rfl)) (ResAll.cons (ResAt.tmp (by kernel_rfl)) ResAll.nil))) ?_
    have st := st.nilroom 42 4
    exact ⟨none, 0, m, rfl, hm, st, (RepS.nil _ _)⟩
  · intro hc
    rw [if_neg (not_true hc)] at hr
    refine W_skip ?_
    refine X_then ?_
    refine W_seq ?_
    refine W_region ?_
    refine WO_seg 1 [(11, .string p0)] (by kernel_rfl) (by kernel_rfl) ?_
    replace hr := bindS hr
    obtain ⟨y1, hx1, hr⟩ := hr
    refine WO_one rfl (One_fn 12 82 #[.string p0, .int .i64 0] (by kernel_rfl) rfl ?_)
    refine (testgateref04_skip_ok st hx1).mono ?_
    clear st
    rintro _ w1 ⟨m1, rfl, hle1, st⟩
    refine ⟨_, rfl, ?_⟩
    have hm := Mem.le_trans hm hle1
    refine WO_seg 1 [(3, .int .i64 y1)] (by kernel_rfl) (by kernel_rfl) ?_
    refine WO_end rfl ?_
    refine X_then ?_
    refine W_seq ?_
    refine W_block ?_
    replace hr := bindS hr
    obtain ⟨out1, hr, hrKu1⟩ := hr
    refine W_cut (.exit 0) (fun L' w' => ∃ (o1 : (List (Int × ByteArray × Int × Int))) (a1 : Option Addr) (c1 : Nat) (m2 : Mem), (.inl o1) = out1 ∧ L' = [(0, .string p0), (2, .slice a1 (List.length o1) c1)] ∧ m.le m2 ∧ St m2 (.room a1 (List.length o1) c1 42 4 :: own) w' ∧ RepS (cPair (cInt .i64) (cPair cStr (cPair (cInt .i64) (cInt .i64)))) m2 a1 c1 o1) ?_ ?_
    · clear hr st
      rintro _ w2 ⟨o1, a1, c1, m2, rfl, rfl, hm, st, r1⟩
      have hr := hrKu1
      clear hrKu1
      dsimp only at hr
      refine X_block_eq ?_
      refine X_then ?_
      refine W_seq ?_
      refine W_region ?_
      refine WO_seg 4 [(35, .slice a1 (List.length o1) c1), (38, .agg #[.int .i64 5, .string (⟨#[]⟩ : ByteArray), .int .i64 0, .int .i64 (ByteArray.size p0 : Int)])] (by kernel_rfl) (by kernel_rfl) ?_
      refine WO_one rfl (One_buildSlice (d := 39) (t := 37) (e := 42) (len := 1) (parts := #[(0, (.tmp 38))]) (cPair (cInt .i64) (cPair cStr (cPair (cInt .i64) (cInt .i64)))) (xs := [(5, (⟨#[]⟩ : ByteArray), 0, (ByteArray.size p0 : Int))]) [.int .i64 5, .string (⟨#[]⟩ : ByteArray), .int .i64 0, .int .i64 (ByteArray.size p0 : Int)] (by kernel_rfl) rfl (fun _ => buildCells_run (by kernel_rfl) _) rfl rfl st ⟨[.int .i64 5, .string (⟨#[]⟩ : ByteArray), .int .i64 0, .int .i64 (ByteArray.size p0 : Int)], _, rfl, ⟨_, _, rfl, rfl, ⟨_, _, rfl, rfl, ⟨_, _, rfl, rfl, rfl⟩⟩⟩, rfl⟩ ?_)
      clear st
      intro b3 m8 w10 hle6 st r5
      have hm := Mem.le_trans hm hle6
      have r1 := r1.mono hle6
      have st := st.front1
      replace hr := bindS hr
      obtain ⟨l2, hx5, hr⟩ := hr
      refine WO_one rfl (One_append (d := 40) (t := 37) (u := 37) (e := 42) (by_ := 40) (x := (.tmp 35)) (y := (.tmp 39)) (cPair (cInt .i64) (cPair cStr (cPair (cInt .i64) (cInt .i64)))) (by kernel_rfl) rfl (show evL _ _ = some (.slice a1 (List.length o1) c1) from (by kernel_rfl)) (show evL _ _ = some (.slice (some ⟨b3, 0, none⟩) (List.length ([(5, (⟨#[]⟩ : ByteArray), 0, (ByteArray.size p0 : Int))])) 1) from (by kernel_rfl)) st (by kernel_rfl) (.inl (by kernel_rfl)) r1 r5.src hx5 ?_)
      clear st
      intro a4 c4 m9 w11 hle7 st r6
      have hm := Mem.le_trans hm hle7
      have r1 := r1.mono hle7
      have r5 := r5.mono hle7
      refine WO_seg 3 [(2, .slice a4 (List.length l2) c4), (3, .int .i64 0), (4, .int .i64 0)] (by kernel_rfl) (by kernel_rfl) ?_
      refine WO_end rfl ?_
      have st := st.front1
      have st := st.tail
      refine X_then ?_
      refine W_ret ?_
      obtain rfl := Option.some.inj hr
      refine X_ret [.tmp 2, .tmp 3, .tmp 4] [.slice a4 (List.length l2) c4, .int .i64 0, .int .i64 0] rfl (ResAll.cons (ResAt.tmp (by kernel_rfl)) (ResAll.cons (ResAt.tmp (by kernel_rfl)) (ResAll.cons (ResAt.tmp (by kernel_rfl)) ResAll.nil))) ?_
      exact ⟨a4, c4, m9, rfl, hm, st, r6⟩
    intro K0_u1
    have st := st.nilroom 42 4
    refine W_env _ (by kernel_rfl) (W_loop (fun k1 L' w' => ∃ (s1 : (List (Int × ByteArray × Int × Int)) × Int) (a2 : Option Addr) (c2 : Nat) (m3 : Mem), loopM (testgateref04_Tokens_L1 N p0) k1 s1 = some out1 ∧ L' = [(0, .string p0), (2, .slice a2 (List.length s1.1) c2), (3, .int .i64 s1.2)] ∧ m.le m3 ∧ St m3 (.room a2 (List.length s1.1) c2 42 4 :: own) w' ∧ RepS (cPair (cInt .i64) (cPair cStr (cPair (cInt .i64) (cInt .i64)))) m3 a2 c2 s1.1) N ⟨(([] : List (Int × ByteArray × Int × Int)), y1), none, 0, m1, hr, rfl, hm, st, (RepS.nil _ _)⟩ ?_)
    clear st hr
    rintro k1 _ w3 ⟨s1, a2, c2, m3, hL, rfl, hm, st, r2⟩
    rcases k1 with _ | k1
    · exact loopM_zero hL
    · obtain ⟨qu1, hr, hSu1, hBu1⟩ := loopM_succ hL
      clear hL
      unfold testgateref04_Tokens_L1 at hr
      refine W_seq ?_
      refine W_seq ?_
      refine W_region ?_
      refine WO_seg 4 [(16, .bool (decide (s1.2 < (ByteArray.size p0 : Int))))] (by kernel_rfl) (by kernel_rfl) ?_
      refine WO_end rfl ?_
      refine X_then ?_
      refine W_cond (decide (s1.2 < (ByteArray.size p0 : Int))) (by kernel_rfl) ?_ ?_
      · intro hc
        rw [if_pos hc] at hr
        refine W_skip ?_
        refine X_then ?_
        refine W_block ?_
        refine W_seq ?_
        refine W_region ?_
        refine WO_seg 2 [(18, .string p0), (19, .int .i64 s1.2)] (by kernel_rfl) (by kernel_rfl) ?_
        replace hr := bindS hr
        obtain ⟨y2, hx2, hr⟩ := hr
        refine WO_one rfl (One_fn 20 83 #[.string p0, .int .i64 s1.2] (by kernel_rfl) rfl ?_)
        refine (testgateref04_token_ok st hx2).mono ?_
        clear st
        rintro _ w4 ⟨m4, rfl, hle2, st⟩
        refine ⟨_, rfl, ?_⟩
        have hm := Mem.le_trans hm hle2
        have r2 := r2.mono hle2
        refine WO_seg 4 [(21, .agg #[.int .i64 y2.1.1, .string y2.1.2.1, .int .i64 y2.1.2.2.1, .int .i64 y2.1.2.2.2]), (22, .int .i64 y2.2.1), (23, .int .i64 y2.2.2)] (by kernel_rfl) (by kernel_rfl) ?_
        refine WO_one rfl (One_alloc (d := 5) (e := 42) (.agg #[.int .i64 0, .string (⟨#[]⟩ : ByteArray), .int .i64 0, .int .i64 0]) (by kernel_rfl) rfl (by kernel_rfl) st ?_)
        clear st
        intro b1 w5 st
        refine WO_one rfl (One_store (t := 42) (x := (.tmp 5)) (y := (.tmp 21)) (v := .agg #[.int .i64 y2.1.1, .string y2.1.2.1, .int .i64 y2.1.2.2.1, .int .i64 y2.1.2.2.2]) (c' := #[.int .i64 y2.1.1, .string y2.1.2.1, .int .i64 y2.1.2.2.1, .int .i64 y2.1.2.2.2]) (by kernel_rfl) (show evL _ _ = some (.pointer (some ⟨b1, 0, none⟩)) from (by kernel_rfl)) (show evL _ _ = some (.agg #[.int .i64 y2.1.1, .string y2.1.2.1, .int .i64 y2.1.2.2.1, .int .i64 y2.1.2.2.2]) from (by kernel_rfl)) st (by kernel_rfl) (by kernel_rfl) ?_)
        clear st
        intro w6 st
        refine WO_seg 2 [(6, .int .i64 y2.2.1), (7, .int .i64 y2.2.2)] (by kernel_rfl) (by kernel_rfl) ?_
        refine WO_end rfl ?_
        refine X_then ?_
        refine W_seq ?_
        refine W_seq ?_
        refine W_region ?_
        refine WO_seg 2 [(25, .bool (y2.2.2 != 0))] (by kernel_rfl) (by kernel_rfl) ?_
        refine WO_end rfl ?_
        refine X_then ?_
        refine W_cond (y2.2.2 != 0) (by kernel_rfl) ?_ ?_
        · intro hc
          rw [if_pos hc] at hr
          refine W_seq ?_
          refine W_region ?_
          refine WO_seg 5 [(2, .slice none (List.length ([] : List (Int × ByteArray × Int × Int))) 0), (3, .int .i64 s1.2), (4, .int .i64 y2.2.2)] (by kernel_rfl) (by kernel_rfl) ?_
          refine WO_end rfl ?_
          have st := st.front1
          have st := st.tail
          refine X_then ?_
          refine W_ret ?_
          refine X_then_ret ?_
          refine X_block_ret ?_
          obtain rfl := Option.some.inj hr
          have ho := hBu1 _ rfl
          subst ho
          have hr := hrKu1
          dsimp only at hr
          refine X_then_ret ?_
          refine X_block_ret ?_
          refine X_then_ret ?_
          obtain rfl := Option.some.inj hr
          refine X_ret [.tmp 2, .tmp 3, .tmp 4] [.slice none (List.length ([] : List (Int × ByteArray × Int × Int))) 0, .int .i64 s1.2, .int .i64 y2.2.2] rfl (ResAll.cons (ResAt.tmp (by kernel_rfl)) (ResAll.cons (ResAt.tmp (by kernel_rfl)) (ResAll.cons (ResAt.tmp (by kernel_rfl)) ResAll.nil))) ?_
          have st := st.nilroom 42 4
          have st := st.front1
          have st := st.tail
          exact ⟨none, 0, m4, rfl, hm, st, (RepS.nil _ _)⟩
        · intro hc
          rw [if_neg (not_true hc)] at hr
          refine W_skip ?_
          refine X_then ?_
          refine W_seq ?_
          refine W_region ?_
          refine WO_seg 1 [(28, .slice a2 (List.length s1.1) c2)] (by kernel_rfl) (by kernel_rfl) ?_
          refine WO_one rfl (One_load_own (d := 29) (t := 42) (x := (.tmp 5)) (.agg #[.int .i64 y2.1.1, .string y2.1.2.1, .int .i64 y2.1.2.2.1, .int .i64 y2.1.2.2.2]) (by kernel_rfl) rfl (show evL _ _ = some (.pointer (some ⟨b1, 0, none⟩)) from (by kernel_rfl)) st.head (by kernel_rfl) ?_)
          refine WO_one rfl (One_buildSlice (d := 30) (t := 37) (e := 42) (len := 1) (parts := #[(0, (.tmp 29))]) (cPair (cInt .i64) (cPair cStr (cPair (cInt .i64) (cInt .i64)))) (xs := [(y2.1.1, y2.1.2.1, y2.1.2.2.1, y2.1.2.2.2)]) [.int .i64 y2.1.1, .string y2.1.2.1, .int .i64 y2.1.2.2.1, .int .i64 y2.1.2.2.2] (by kernel_rfl) rfl (fun _ => buildCells_run (by kernel_rfl) _) rfl rfl st ⟨[.int .i64 y2.1.1, .string y2.1.2.1, .int .i64 y2.1.2.2.1, .int .i64 y2.1.2.2.2], _, rfl, ⟨_, _, rfl, rfl, ⟨_, _, rfl, rfl, ⟨_, _, rfl, rfl, rfl⟩⟩⟩, rfl⟩ ?_)
          clear st
          intro b2 m5 w7 hle3 st r3
          have hm := Mem.le_trans hm hle3
          have r2 := r2.mono hle3
          have st := st.front2
          replace hr := bindS hr
          obtain ⟨l1, hx3, hr⟩ := hr
          refine WO_one rfl (One_append (d := 31) (t := 37) (u := 37) (e := 42) (by_ := 40) (x := (.tmp 28)) (y := (.tmp 30)) (cPair (cInt .i64) (cPair cStr (cPair (cInt .i64) (cInt .i64)))) (by kernel_rfl) rfl (show evL _ _ = some (.slice a2 (List.length s1.1) c2) from (by kernel_rfl)) (show evL _ _ = some (.slice (some ⟨b2, 0, none⟩) (List.length ([(y2.1.1, y2.1.2.1, y2.1.2.2.1, y2.1.2.2.2)])) 1) from (by kernel_rfl)) st (by kernel_rfl) (.inl (by kernel_rfl)) r2 r3.src hx3 ?_)
          clear st
          intro a3 c3 m6 w8 hle4 st r4
          have hm := Mem.le_trans hm hle4
          have r2 := r2.mono hle4
          have r3 := r3.mono hle4
          refine WO_seg 1 [(2, .slice a3 (List.length l1) c3)] (by kernel_rfl) (by kernel_rfl) ?_
          refine WO_end rfl ?_
          have st := st.front1
          have st := st.tail
          refine X_then ?_
          refine W_region ?_
          refine WO_seg 2 [(32, .string p0), (33, .int .i64 y2.2.1)] (by kernel_rfl) (by kernel_rfl) ?_
          replace hr := bindS hr
          obtain ⟨y3, hx4, hr⟩ := hr
          refine WO_one rfl (One_fn 34 82 #[.string p0, .int .i64 y2.2.1] (by kernel_rfl) rfl ?_)
          refine (testgateref04_skip_ok st hx4).mono ?_
          clear st
          rintro _ w9 ⟨m7, rfl, hle5, st⟩
          refine ⟨_, rfl, ?_⟩
          have hm := Mem.le_trans hm hle5
          have r4 := r4.mono hle5
          refine WO_seg 1 [(3, .int .i64 y3)] (by kernel_rfl) (by kernel_rfl) ?_
          refine WO_end rfl ?_
          refine X_block ?_
          obtain rfl := Option.some.inj hr
          have hL := hSu1 _ rfl
          have st := st.front1
          have st := st.tail
          exact X_env _ (by kernel_rfl) (X_round k1 (Nat.lt_succ_self _) ⟨(l1, y3), a3, c3, m7, hL, rfl, hm, st, r4⟩)
      · intro hc
        rw [if_neg (not_true hc)] at hr
        refine W_exit ?_
        refine X_then_exit ?_
        obtain rfl := Option.some.inj hr
        have ho := hBu1 _ rfl
        refine X_then_exit ?_
        exact X_env _ (by kernel_rfl) (K0_u1 _ _ ⟨s1.1, a2, c2, m3, ho, rfl, hm, st, r2⟩)

def testgatelaw04_same_L1 (N : Nat) (y1 : (List (Int × ByteArray × Int × Int)) × Int × Int) (y2 : (List (Int × ByteArray × Int × Int)) × Int × Int) (s1 : Int) : Option ((Int) ⊕ ((Unit) ⊕ (Bool))) :=
  if (decide (s1 < (List.length y1.1 : Int))) = true then ((idx y1.1 s1).bind fun x1 => (idx y2.1 s1).bind fun x2 => if (!((x1.1 == x2.1) && ((x1.2.1.toList == x2.2.1.toList) && ((x1.2.2.1 == x2.2.2.1) && ((x1.2.2.2 == x2.2.2.2) && true))))) = true then (some (.inr (.inr (false)))) else (some (.inl (IntKind.wrap .i64 (s1 + 1))))) else (some (.inr (.inl ())))

def testgatelaw04_same (N : Nat) (p0 : ByteArray) : Option (Bool) :=
  (lexer_Tokens N p0).bind fun y1 => (testgateref04_Tokens N p0).bind fun y2 => (if (y1.2.1 != y2.2.1) = true then (some true) else (if (y1.2.2 != y2.2.2) = true then (some true) else (some ((List.length y1.1 : Int) != (List.length y2.1 : Int)))) : Option (Bool)).bind fun o1 => if o1 = true then (some false) else ((loopM (testgatelaw04_same_L1 N y1 y2) N 0).bind fun out1 => (match out1 with | .inl o2 => some true | .inr (z) => some z))

set_option maxHeartbeats 4000000 in
set_option maxRecDepth 100000 in
theorem testgatelaw04_same_ok {N : Nat} {m : Mem} {own : List Piece} {w : World} {p0 : ByteArray} {r : Bool} (st : St m (own) w) (hr : testgatelaw04_same N p0 = some r) : Calls Go.Proofs.Tryd.prog 14 #[.string p0] w fun e w' => ∃ (m' : Mem), e = .returned (.bool r) ∧ m.le m' ∧ St m' (own) w' := by
  unfold testgatelaw04_same at hr
  have hm := m.le_refl
  refine W_calls Go.Proofs.Tryd.func14 rfl Go.Proofs.Tryd.ntmps14 [(0, .string p0)] (by kernel_rfl) rfl ?_
  refine W_seq ?_
  refine W_region ?_
  refine WO_seg 1 [] (by kernel_rfl) (by kernel_rfl) ?_
  refine WO_end rfl ?_
  refine X_then ?_
  refine W_seq ?_
  refine W_region ?_
  refine WO_seg 1 [(11, .string p0)] (by kernel_rfl) (by kernel_rfl) ?_
  replace hr := bindS hr
  obtain ⟨y1, hx1, hr⟩ := hr
  refine WO_one rfl (One_fn 12 24 #[.string p0] (by kernel_rfl) rfl ?_)
  refine (lexer_Tokens_ok st hx1).mono ?_
  clear st
  rintro _ w1 ⟨a1, c1, m1, rfl, hle1, st, r1⟩
  refine ⟨_, rfl, ?_⟩
  have hm := Mem.le_trans hm hle1
  refine WO_seg 7 [(3, .slice a1 (List.length y1.1) c1), (4, .int .i64 y1.2.1), (5, .int .i64 y1.2.2)] (by kernel_rfl) (by kernel_rfl) ?_
  refine WO_end rfl ?_
  refine X_then ?_
  refine W_seq ?_
  refine W_region ?_
  refine WO_seg 1 [(17, .string p0)] (by kernel_rfl) (by kernel_rfl) ?_
  replace hr := bindS hr
  obtain ⟨y2, hx2, hr⟩ := hr
  refine WO_one rfl (One_fn 18 48 #[.string p0] (by kernel_rfl) rfl ?_)
  refine (testgateref04_Tokens_ok st hx2).mono ?_
  clear st
  rintro _ w2 ⟨a2, c2, m2, rfl, hle2, st, r2⟩
  refine ⟨_, rfl, ?_⟩
  have hm := Mem.le_trans hm hle2
  have r1 := r1.mono hle2
  refine WO_seg 7 [(6, .slice a2 (List.length y2.1) c2), (7, .int .i64 y2.2.1), (8, .int .i64 y2.2.2)] (by kernel_rfl) (by kernel_rfl) ?_
  refine WO_end rfl ?_
  refine X_then ?_
  refine W_seq ?_
  refine W_seq ?_
  refine W_region ?_
  replace hr := bindS hr
  obtain ⟨o1, hr, hrK⟩ := hr
  refine WO_cut (j := 15) (fun L' w' => ∃ (m3 : Mem), L' = [(3, .slice a1 (List.length y1.1) c1), (6, .slice a2 (List.length y2.1) c2), (36, .bool o1)] ∧ m.le m3 ∧ St m3 (.room a2 (List.length y2.1) c2 42 4 :: .room a1 (List.length y1.1) c1 42 4 :: own) w' ∧ RepS (cPair (cInt .i64) (cPair cStr (cPair (cInt .i64) (cInt .i64)))) m3 a1 c1 y1.1 ∧ RepS (cPair (cInt .i64) (cPair cStr (cPair (cInt .i64) (cInt .i64)))) m3 a2 c2 y2.1) ?_ ?_
  · clear hr st
    have hr := hrK
    clear hrK
    rintro _ w3 ⟨m3, rfl, hm, st, r1, r2⟩
    refine WO_end rfl ?_
    refine X_then ?_
    refine W_cond o1 (by kernel_rfl) ?_ ?_
    · intro hc
      rw [if_pos hc] at hr
      refine W_seq ?_
      refine W_region ?_
      refine WO_seg 1 [(2, .bool false)] (by kernel_rfl) (by kernel_rfl) ?_
      refine WO_end rfl ?_
      have st := st.tail
      have st := st.tail
      refine X_then ?_
      refine W_ret ?_
      refine X_then_ret ?_
      obtain rfl := Option.some.inj hr
      refine X_ret [.tmp 2] [.bool false] rfl (ResAll.cons (ResAt.tmp (by kernel_rfl)) ResAll.nil) ?_
      exact ⟨m3, rfl, hm, st⟩
    · intro hc
      rw [if_neg (not_true hc)] at hr
      refine W_skip ?_
      refine X_then ?_
      refine W_seq ?_
      refine W_seq ?_
      refine W_region ?_
      refine WO_seg 3 [(38, .int .i64 (List.length y1.1 : Int)), (39, .int .i64 0)] (by kernel_rfl) (by kernel_rfl) ?_
      refine WO_end rfl ?_
      refine X_then ?_
      refine W_block ?_
      replace hr := bindS hr
      obtain ⟨out1, hr, hrKu1⟩ := hr
      refine W_cut (.exit 0) (fun L' w' => ∃ (o2 : Unit) (m4 : Mem), (.inl o2) = out1 ∧ L' = [] ∧ m.le m4 ∧ St m4 (.room a2 (List.length y2.1) c2 42 4 :: .room a1 (List.length y1.1) c1 42 4 :: own) w') ?_ ?_
      · clear hr st
        rintro _ w4 ⟨o2, m4, rfl, rfl, hm, st⟩
        have hr := hrKu1
        clear hrKu1
        dsimp only at hr
        refine X_block_eq ?_
        refine X_then ?_
        refine W_seq ?_
        refine W_region ?_
        refine WO_seg 1 [(2, .bool true)] (by kernel_rfl) (by kernel_rfl) ?_
        refine WO_end rfl ?_
        have st := st.tail
        have st := st.tail
        refine X_then ?_
        refine W_ret ?_
        obtain rfl := Option.some.inj hr
        refine X_ret [.tmp 2] [.bool true] rfl (ResAll.cons (ResAt.tmp (by kernel_rfl)) ResAll.nil) ?_
        exact ⟨m4, rfl, hm, st⟩
      intro K0_u1
      have st := st.front1
      have st := st.front1
      refine W_env _ (by kernel_rfl) (W_loop (fun k1 L' w' => ∃ (s1 : Int) (m5 : Mem), loopM (testgatelaw04_same_L1 N y1 y2) k1 s1 = some out1 ∧ L' = [(3, .slice a1 (List.length y1.1) c1), (6, .slice a2 (List.length y2.1) c2), (38, .int .i64 (List.length y1.1 : Int)), (39, .int .i64 s1)] ∧ m.le m5 ∧ St m5 (.room a2 (List.length y2.1) c2 42 4 :: .room a1 (List.length y1.1) c1 42 4 :: own) w' ∧ RepS (cPair (cInt .i64) (cPair cStr (cPair (cInt .i64) (cInt .i64)))) m5 a1 c1 y1.1 ∧ RepS (cPair (cInt .i64) (cPair cStr (cPair (cInt .i64) (cInt .i64)))) m5 a2 c2 y2.1) N ⟨0, m3, hr, rfl, hm, st, r1, r2⟩ ?_)
      clear st hr
      rintro k1 _ w5 ⟨s1, m5, hL, rfl, hm, st, r1, r2⟩
      rcases k1 with _ | k1
      · exact loopM_zero hL
      · obtain ⟨qu1, hr, hSu1, hBu1⟩ := loopM_succ hL
        clear hL
        unfold testgatelaw04_same_L1 at hr
        refine W_seq ?_
        refine W_region ?_
        refine WO_seg 1 [(40, .bool (decide (s1 < (List.length y1.1 : Int))))] (by kernel_rfl) (by kernel_rfl) ?_
        refine WO_end rfl ?_
        refine X_then ?_
        refine W_seq ?_
        refine W_cond (decide (s1 < (List.length y1.1 : Int))) (by kernel_rfl) ?_ ?_
        · intro hc
          rw [if_pos hc] at hr
          refine W_skip ?_
          refine X_then ?_
          refine W_seq ?_
          refine W_block ?_
          refine W_seq ?_
          refine W_region ?_
          refine WO_seg 2 [(9, .int .i64 s1)] (by kernel_rfl) (by kernel_rfl) ?_
          refine WO_end rfl ?_
          refine X_then ?_
          refine W_seq ?_
          refine W_draw [(9, fun w' => Inv m5 w' ∧ True)] (by kernel_rfl) st ?_
          clear st
          intro w6 _ st
          have hmS := m5.le_refl
          refine ⟨⟨.inr ⟨Inv.anti st.inv hmS, trivial⟩, trivial⟩, ?_⟩
          refine WA_pure 0 42 (.slice a1 (List.length y1.1) c1) (by kernel_rfl) rfl (by kernel_rfl) (.head _) (QP_then (QP_block (QP_then (QP_then (QP_block (QP_then QP_body)))))) ?_
          refine WA_pure 1 43 (.int .i64 s1) (by kernel_rfl) rfl (by kernel_rfl) (.head _) (QP_then (QP_block (QP_then (QP_then (QP_block (QP_then QP_body)))))) ?_
          replace hr := bindS hr
          obtain ⟨x1, hx3, hr⟩ := hr
          refine WA_index (t := 37) (e := 42) (x := (.tmp 42)) (y := (.tmp 43)) 2 44 (cPair (cInt .i64) (cPair cStr (cPair (cInt .i64) (cInt .i64)))) (by kernel_rfl) rfl (by kernel_rfl) (.head _) (QP_then (QP_block (QP_then (QP_then (QP_block (QP_then QP_body)))))) (show evL _ _ = some (.slice a1 (List.length y1.1) c1) from (by kernel_rfl)) (show evL _ _ = some (.int .i64 s1) from (by kernel_rfl)) (by kernel_rfl) r1 hx3 ?_
          rintro b1 f1 cs1 ⟨_, _, rfl, rfl, ⟨_, _, rfl, rfl, ⟨_, _, rfl, rfl, rfl⟩⟩⟩ hq1
          refine WA_load_row (t := 42) (x := (.tmp 44)) 3 45 (.agg #[.int .i64 x1.1, .string x1.2.1, .int .i64 x1.2.2.1, .int .i64 x1.2.2.2]) (by kernel_rfl) rfl (by kernel_rfl) (.head _) (QP_then (QP_block (QP_then (QP_then (QP_block (QP_then QP_body)))))) (fun _ h => h.1) (show evL _ _ = some (.pointer (some ⟨b1, f1, none⟩)) from (by kernel_rfl)) hq1 (by kernel_rfl) ?_
          refine WA_pure 4 46 (.slice a2 (List.length y2.1) c2) (by kernel_rfl) rfl (by kernel_rfl) (.head _) (QP_then (QP_block (QP_then (QP_then (QP_block (QP_then QP_body)))))) ?_
          refine WA_pure 5 47 (.int .i64 s1) (by kernel_rfl) rfl (by kernel_rfl) (.head _) (QP_then (QP_block (QP_then (QP_then (QP_block (QP_then QP_body)))))) ?_
          replace hr := bindS hr
          obtain ⟨x2, hx4, hr⟩ := hr
          refine WA_index (t := 37) (e := 42) (x := (.tmp 46)) (y := (.tmp 47)) 6 48 (cPair (cInt .i64) (cPair cStr (cPair (cInt .i64) (cInt .i64)))) (by kernel_rfl) rfl (by kernel_rfl) (.head _) (QP_then (QP_block (QP_then (QP_then (QP_block (QP_then QP_body)))))) (show evL _ _ = some (.slice a2 (List.length y2.1) c2) from (by kernel_rfl)) (show evL _ _ = some (.int .i64 s1) from (by kernel_rfl)) (by kernel_rfl) r2 hx4 ?_
          rintro b2 f2 cs2 ⟨_, _, rfl, rfl, ⟨_, _, rfl, rfl, ⟨_, _, rfl, rfl, rfl⟩⟩⟩ hq2
          refine WA_load_row (t := 42) (x := (.tmp 48)) 7 49 (.agg #[.int .i64 x2.1, .string x2.2.1, .int .i64 x2.2.2.1, .int .i64 x2.2.2.2]) (by kernel_rfl) rfl (by kernel_rfl) (.head _) (QP_then (QP_block (QP_then (QP_then (QP_block (QP_then QP_body)))))) (fun _ h => h.1) (show evL _ _ = some (.pointer (some ⟨b2, f2, none⟩)) from (by kernel_rfl)) hq2 (by kernel_rfl) ?_
          refine WA_one 8 (by kernel_rfl) (One_neAgg (d := 50) (t := 42) (t2 := 42) (x := (.tmp 45)) (y := (.tmp 49)) (xs := #[.int .i64 x1.1, .string x1.2.1, .int .i64 x1.2.2.1, .int .i64 x1.2.2.2]) (ys := #[.int .i64 x2.1, .string x2.2.1, .int .i64 x2.2.2.1, .int .i64 x2.2.2.2]) ((x1.1 == x2.1) && ((x1.2.1.toList == x2.2.1.toList) && ((x1.2.2.1 == x2.2.2.1) && ((x1.2.2.2 == x2.2.2.2) && true)))) (by kernel_rfl) rfl (show evL _ _ = some (.agg #[.int .i64 x1.1, .string x1.2.1, .int .i64 x1.2.2.1, .int .i64 x1.2.2.2]) from (by kernel_rfl)) (show evL _ _ = some (.agg #[.int .i64 x2.1, .string x2.2.1, .int .i64 x2.2.2.1, .int .i64 x2.2.2.2]) from (by kernel_rfl)) (by kernel_rfl) (by kernel_rfl) (by kernel_rfl) ?_)
          refine ⟨⟨.inr ⟨Inv.anti st.inv hmS, trivial⟩, trivial⟩, ?_⟩
          refine WA_done (by kernel_rfl) ?_
          refine X_then ?_
          refine W_cond (!((x1.1 == x2.1) && ((x1.2.1.toList == x2.2.1.toList) && ((x1.2.2.1 == x2.2.2.1) && ((x1.2.2.2 == x2.2.2.2) && true))))) (by kernel_rfl) ?_ ?_
          · intro hc
            rw [if_pos hc] at hr
            refine W_seq ?_
            refine W_region ?_
            refine WO_seg 1 [(2, .bool false)] (by kernel_rfl) (by kernel_rfl) ?_
            refine WO_end rfl ?_
            have st := st.tail
            have st := st.tail
            refine X_then ?_
            refine W_ret ?_
            refine X_block_ret ?_
            refine X_then_ret ?_
            obtain rfl := Option.some.inj hr
            have ho := hBu1 _ rfl
            subst ho
            have hr := hrKu1
            dsimp only at hr
            refine X_then_ret ?_
            refine X_block_ret ?_
            refine X_then_ret ?_
            obtain rfl := Option.some.inj hr
            refine X_ret [.tmp 2] [.bool false] rfl (ResAll.cons (ResAt.tmp (by kernel_rfl)) ResAll.nil) ?_
            exact ⟨m5, rfl, hm, st⟩
          · intro hc
            rw [if_neg (not_true hc)] at hr
            refine W_skip ?_
            refine X_block ?_
            refine X_then ?_
            refine W_region ?_
            refine WO_seg 2 [(39, .int .i64 (IntKind.wrap .i64 (s1 + 1)))] (by kernel_rfl) (by kernel_rfl) ?_
            refine WO_end rfl ?_
            obtain rfl := Option.some.inj hr
            have hL := hSu1 _ rfl
            have st := st.front1
            have st := st.front1
            exact X_env _ (by kernel_rfl) (X_round k1 (Nat.lt_succ_self _) ⟨IntKind.wrap .i64 (s1 + 1), m5, hL, rfl, hm, st, r1, r2⟩)
        · intro hc
          rw [if_neg (not_true hc)] at hr
          refine W_exit ?_
          refine X_then_exit ?_
          obtain rfl := Option.some.inj hr
          have ho := hBu1 _ rfl
          have st := st.front1
          have st := st.front1
          refine X_then_exit ?_
          exact X_env _ (by kernel_rfl) (K0_u1 _ _ ⟨(), m5, ho, rfl, hm, st⟩)
  · intro K
    clear hrK
    refine WO_seg 4 [(25, .bool (y1.2.1 != y2.2.1))] (by kernel_rfl) (by kernel_rfl) ?_
    rcases bcases (y1.2.1 != y2.2.1) with hc | hc
    · rw [if_pos hc] at hr
      refine WO_fact (t := 25) (b := true) (y1.2.1 != y2.2.1) (by kernel_rfl) hc ?_
      refine WO_seg 11 [(36, .bool true)] (by kernel_rfl) (by kernel_rfl) ?_
      obtain rfl := Option.some.inj hr
      have st := st.front1
      have st := st.front1
      exact WO_env _ (by kernel_rfl) (K _ _ ⟨m2, rfl, hm, st, r1, r2⟩)
    · rw [if_neg (not_true hc)] at hr
      refine WO_fact (t := 25) (b := false) (y1.2.1 != y2.2.1) (by kernel_rfl) hc ?_
      refine WO_seg 5 [(30, .bool (y1.2.2 != y2.2.2))] (by kernel_rfl) (by kernel_rfl) ?_
      rcases bcases (y1.2.2 != y2.2.2) with hc | hc
      · rw [if_pos hc] at hr
        refine WO_fact (t := 30) (b := true) (y1.2.2 != y2.2.2) (by kernel_rfl) hc ?_
        refine WO_seg 6 [(36, .bool true)] (by kernel_rfl) (by kernel_rfl) ?_
        obtain rfl := Option.some.inj hr
        have st := st.front1
        have st := st.front1
        exact WO_env _ (by kernel_rfl) (K _ _ ⟨m2, rfl, hm, st, r1, r2⟩)
      · rw [if_neg (not_true hc)] at hr
        refine WO_fact (t := 30) (b := false) (y1.2.2 != y2.2.2) (by kernel_rfl) hc ?_
        refine WO_seg 6 [(36, .bool ((List.length y1.1 : Int) != (List.length y2.1 : Int)))] (by kernel_rfl) (by kernel_rfl) ?_
        obtain rfl := Option.some.inj hr
        have st := st.front1
        have st := st.front1
        exact WO_env _ (by kernel_rfl) (K _ _ ⟨m2, rfl, hm, st, r1, r2⟩)

def lexer_Name (N : Nat) (p0 : ByteArray) : Option (Bool) :=
  (lexer_kinds N).bind fun y1 => (if (decide ((ByteArray.size p0 : Int) ≥ 1)) = true then (if (decide ((ByteArray.size p0 : Int) ≤ 24)) = true then ((idxB p0 0).bind fun x1 => if (((mgetQ y1 (x1.toNat : Int)).getD 0) == 1) = true then ((lexer_span N p0 0 y1 ([1, 2, 3])).bind fun y2 => some (y2 == (ByteArray.size p0 : Int))) else (some false)) else (some false)) else (some false) : Option (Bool)).bind fun o1 => some o1

set_option maxHeartbeats 4000000 in
set_option maxRecDepth 100000 in
theorem lexer_Name_ok {N : Nat} {m : Mem} {own : List Piece} {w : World} {p0 : ByteArray} {r : Bool} (st : St m (own) w) (hr : lexer_Name N p0 = some r) : Calls Go.Proofs.Tryd.prog 15 #[.string p0] w fun e w' => ∃ (m' : Mem), e = .returned (.bool r) ∧ m.le m' ∧ St m' (own) w' := by
  unfold lexer_Name at hr
  have hm := m.le_refl
  refine W_calls Go.Proofs.Tryd.func15 rfl Go.Proofs.Tryd.ntmps15 [(0, .string p0)] (by kernel_rfl) rfl ?_
  refine W_seq ?_
  refine W_region ?_
  refine WO_seg 1 [] (by kernel_rfl) (by kernel_rfl) ?_
  refine WO_end rfl ?_
  refine X_then ?_
  refine W_seq ?_
  refine W_region ?_
  replace hr := bindS hr
  obtain ⟨y1, hx1, hr⟩ := hr
  refine WO_one rfl (One_fn 4 49 #[] (by kernel_rfl) rfl ?_)
  refine (lexer_kinds_ok st hx1).mono ?_
  clear st
  rintro _ w1 ⟨q1, es1, ck1, m1, rfl, hle1, st, r1⟩
  refine ⟨_, rfl, ?_⟩
  have hm := Mem.le_trans hm hle1
  refine WO_seg 1 [(3, .map q1)] (by kernel_rfl) (by kernel_rfl) ?_
  refine WO_end rfl ?_
  refine X_then ?_
  refine W_seq ?_
  refine W_region ?_
  replace hr := bindS hr
  obtain ⟨o1, hr, hrK⟩ := hr
  refine WO_cut (j := 25) (fun L' w' => ∃ (m2 : Mem), L' = [(2, .bool o1)] ∧ m.le m2 ∧ St m2 (mpiece q1 es1 ck1 :: own) w' ∧ MapQ (fun n : Int => Value.int .u8 n) (cInt .i64) false m2 q1 es1 ck1 y1) ?_ ?_
  · clear hr st
    have hr := hrK
    clear hrK
    rintro _ w2 ⟨m2, rfl, hm, st, r1⟩
    refine WO_end rfl ?_
    refine X_then ?_
    refine W_ret ?_
    obtain rfl := Option.some.inj hr
    refine X_ret [.tmp 2] [.bool o1] rfl (ResAll.cons (ResAt.tmp (by kernel_rfl)) ResAll.nil) ?_
    have st := st.tail
    exact ⟨m2, rfl, hm, st⟩
  · intro K
    clear hrK
    refine WO_seg 4 [(8, .bool (decide ((ByteArray.size p0 : Int) ≥ 1)))] (by kernel_rfl) (by kernel_rfl) ?_
    rcases bcases (decide ((ByteArray.size p0 : Int) ≥ 1)) with hc | hc
    · rw [if_pos hc] at hr
      refine WO_fact (t := 8) (b := true) (decide ((ByteArray.size p0 : Int) ≥ 1)) (by kernel_rfl) hc ?_
      refine WO_seg 5 [(13, .bool (decide ((ByteArray.size p0 : Int) ≤ 24)))] (by kernel_rfl) (by kernel_rfl) ?_
      rcases bcases (decide ((ByteArray.size p0 : Int) ≤ 24)) with hc | hc
      · rw [if_pos hc] at hr
        refine WO_fact (t := 13) (b := true) (decide ((ByteArray.size p0 : Int) ≤ 24)) (by kernel_rfl) hc ?_
        refine WO_seg 2 [(14, .map q1), (15, .string p0)] (by kernel_rfl) (by kernel_rfl) ?_
        replace hr := bindS hr
        obtain ⟨x1, hx2, hr⟩ := hr
        refine WO_one rfl (One_strIndex (d := 16) (t := 9) (x := (.tmp 15)) (y := (.const (.int .i64 0))) (by kernel_rfl) rfl (show evL _ _ = some (.string p0) from (by kernel_rfl)) (show evL _ _ = some (.int .i64 0) from (by kernel_rfl)) (by kernel_rfl) hx2 ?_)
        refine WO_one rfl (One_lookup (ek := (fun n : Int => Value.int .u8 n)) (c := (cInt .i64)) (agg := false) (k := (x1.toNat : Int)) (zx := 0) (zcs := [.int .i64 0]) (z := (.int .i64 0)) (kt := 5) (et := 3) (d := 17) (t := 68) (x := (.tmp 14)) (y := (.tmp 16)) (ok := false) (by kernel_rfl) rfl (show evL _ _ = some (.map q1) from (by kernel_rfl)) (show evL _ _ = some (.int .u8 (x1.toNat : Int)) from (by kernel_rfl)) (by kernel_rfl) (keyInt (by kernel_rfl)) st.head r1 rfl rfl ?_)
        rintro cs1 rfl
        refine WO_seg 3 [(20, .bool (((mgetQ y1 (x1.toNat : Int)).getD 0) == 1))] (by kernel_rfl) (by kernel_rfl) ?_
        rcases bcases (((mgetQ y1 (x1.toNat : Int)).getD 0) == 1) with hc | hc
        · rw [if_pos hc] at hr
          refine WO_fact (t := 20) (b := true) (((mgetQ y1 (x1.toNat : Int)).getD 0) == 1) (by kernel_rfl) hc ?_
          refine WO_seg 2 [(21, .string p0), (22, .map q1)] (by kernel_rfl) (by kernel_rfl) ?_
          refine WO_one rfl (One_buildSlice (d := 23) (t := 26) (e := 3) (len := 3) (parts := #[(0, (.const (.int .i64 1))), (1, (.const (.int .i64 2))), (2, (.const (.int .i64 3)))]) (cInt .i64) (xs := [1, 2, 3]) [.int .i64 1, .int .i64 2, .int .i64 3] (by kernel_rfl) rfl (fun _ => buildCells_run (by kernel_rfl) _) rfl rfl st ⟨[.int .i64 1], _, rfl, rfl, ⟨[.int .i64 2], _, rfl, rfl, ⟨[.int .i64 3], _, rfl, rfl, rfl⟩⟩⟩ ?_)
          clear st
          intro b1 m3 w3 hle2 st r2
          have hm := Mem.le_trans hm hle2
          have r1 := r1.mono hle2
          have st := st.front1
          replace hr := bindS hr
          obtain ⟨y2, hx3, hr⟩ := hr
          refine WO_one rfl (One_fn 24 50 #[.string p0, .int .i64 0, .map q1, .slice (some ⟨b1, 0, none⟩) (List.length ([1, 2, 3])) 3] (by kernel_rfl) rfl ?_)
          refine (lexer_span_ok st r1 r2 hx3).mono ?_
          clear st
          rintro _ w4 ⟨m4, rfl, hle3, st⟩
          refine ⟨_, rfl, ?_⟩
          have hm := Mem.le_trans hm hle3
          have r2 := r2.mono hle3
          have r1 := r1.mono hle3
          refine WO_seg 5 [(2, .bool (y2 == (ByteArray.size p0 : Int)))] (by kernel_rfl) (by kernel_rfl) ?_
          obtain rfl := Option.some.inj hr
          have st := st.front1
          have st := st.tail
          exact WO_env _ (by kernel_rfl) (K _ _ ⟨m4, rfl, hm, st, r1⟩)
        · rw [if_neg (not_true hc)] at hr
          refine WO_fact (t := 20) (b := false) (((mgetQ y1 (x1.toNat : Int)).getD 0) == 1) (by kernel_rfl) hc ?_
          refine WO_seg 9 [(2, .bool false)] (by kernel_rfl) (by kernel_rfl) ?_
          obtain rfl := Option.some.inj hr
          exact WO_env _ (by kernel_rfl) (K _ _ ⟨m1, rfl, hm, st, r1⟩)
      · rw [if_neg (not_true hc)] at hr
        refine WO_fact (t := 13) (b := false) (decide ((ByteArray.size p0 : Int) ≤ 24)) (by kernel_rfl) hc ?_
        refine WO_seg 16 [(2, .bool false)] (by kernel_rfl) (by kernel_rfl) ?_
        obtain rfl := Option.some.inj hr
        exact WO_env _ (by kernel_rfl) (K _ _ ⟨m1, rfl, hm, st, r1⟩)
    · rw [if_neg (not_true hc)] at hr
      refine WO_fact (t := 8) (b := false) (decide ((ByteArray.size p0 : Int) ≥ 1)) (by kernel_rfl) hc ?_
      refine WO_seg 21 [(2, .bool false)] (by kernel_rfl) (by kernel_rfl) ?_
      obtain rfl := Option.some.inj hr
      exact WO_env _ (by kernel_rfl) (K _ _ ⟨m1, rfl, hm, st, r1⟩)

def testgateref04_Name_L1 (N : Nat) (p0 : ByteArray) (s1 : Int) : Option ((Int) ⊕ ((Unit) ⊕ (Bool))) :=
  if (decide (s1 < (ByteArray.size p0 : Int))) = true then ((idxB p0 s1).bind fun x2 => (testgateref04_inner N (x2.toNat : Int)).bind fun y2 => if (!y2) = true then (some (.inr (.inr (false)))) else (some (.inl (IntKind.wrap .i64 (s1 + 1))))) else (some (.inr (.inl ())))

def testgateref04_Name (N : Nat) (p0 : ByteArray) : Option (Bool) :=
  (if (decide ((ByteArray.size p0 : Int) < 1)) = true then (some true) else (if (decide ((ByteArray.size p0 : Int) > 24)) = true then (some true) else ((idxB p0 0).bind fun x1 => (testgateref04_letter N (x1.toNat : Int)).bind fun y1 => some (!y1))) : Option (Bool)).bind fun o1 => if o1 = true then (some false) else ((loopM (testgateref04_Name_L1 N p0) N 0).bind fun out1 => (match out1 with | .inl o2 => some true | .inr (z) => some z))

set_option maxHeartbeats 4000000 in
set_option maxRecDepth 100000 in
theorem testgateref04_Name_ok {N : Nat} {m : Mem} {own : List Piece} {w : World} {p0 : ByteArray} {r : Bool} (st : St m (own) w) (hr : testgateref04_Name N p0 = some r) : Calls Go.Proofs.Tryd.prog 16 #[.string p0] w fun e w' => ∃ (m' : Mem), e = .returned (.bool r) ∧ m.le m' ∧ St m' (own) w' := by
  unfold testgateref04_Name at hr
  have hm := m.le_refl
  refine W_calls Go.Proofs.Tryd.func16 rfl Go.Proofs.Tryd.ntmps16 [(0, .string p0)] (by kernel_rfl) rfl ?_
  refine W_seq ?_
  refine W_region ?_
  refine WO_seg 1 [] (by kernel_rfl) (by kernel_rfl) ?_
  refine WO_end rfl ?_
  refine X_then ?_
  refine W_seq ?_
  refine W_seq ?_
  refine W_region ?_
  replace hr := bindS hr
  obtain ⟨o1, hr, hrK⟩ := hr
  refine WO_cut (j := 14) (fun L' w' => ∃ (m1 : Mem), L' = [(0, .string p0), (17, .bool o1)] ∧ m.le m1 ∧ St m1 (own) w') ?_ ?_
  · clear hr st
    have hr := hrK
    clear hrK
    rintro _ w1 ⟨m1, rfl, hm, st⟩
    refine WO_end rfl ?_
    refine X_then ?_
    refine W_cond o1 (by kernel_rfl) ?_ ?_
    · intro hc
      rw [if_pos hc] at hr
      refine W_seq ?_
      refine W_region ?_
      refine WO_seg 1 [(2, .bool false)] (by kernel_rfl) (by kernel_rfl) ?_
      refine WO_end rfl ?_
      refine X_then ?_
      refine W_ret ?_
      refine X_then_ret ?_
      obtain rfl := Option.some.inj hr
      refine X_ret [.tmp 2] [.bool false] rfl (ResAll.cons (ResAt.tmp (by kernel_rfl)) ResAll.nil) ?_
      exact ⟨m1, rfl, hm, st⟩
    · intro hc
      rw [if_neg (not_true hc)] at hr
      refine W_skip ?_
      refine X_then ?_
      refine W_seq ?_
      refine W_seq ?_
      refine W_region ?_
      refine WO_seg 1 [(3, .int .i64 0)] (by kernel_rfl) (by kernel_rfl) ?_
      refine WO_end rfl ?_
      refine X_then ?_
      refine W_block ?_
      replace hr := bindS hr
      obtain ⟨out1, hr, hrKu1⟩ := hr
      refine W_cut (.exit 0) (fun L' w' => ∃ (o2 : Unit) (m3 : Mem), (.inl o2) = out1 ∧ L' = [] ∧ m.le m3 ∧ St m3 (own) w') ?_ ?_
      · clear hr st
        rintro _ w3 ⟨o2, m3, rfl, rfl, hm, st⟩
        have hr := hrKu1
        clear hrKu1
        dsimp only at hr
        refine X_block_eq ?_
        refine X_then ?_
        refine W_seq ?_
        refine W_region ?_
        refine WO_seg 1 [(2, .bool true)] (by kernel_rfl) (by kernel_rfl) ?_
        refine WO_end rfl ?_
        refine X_then ?_
        refine W_ret ?_
        obtain rfl := Option.some.inj hr
        refine X_ret [.tmp 2] [.bool true] rfl (ResAll.cons (ResAt.tmp (by kernel_rfl)) ResAll.nil) ?_
        exact ⟨m3, rfl, hm, st⟩
      intro K0_u1
      refine W_env _ (by kernel_rfl) (W_loop (fun k1 L' w' => ∃ (s1 : Int) (m4 : Mem), loopM (testgateref04_Name_L1 N p0) k1 s1 = some out1 ∧ L' = [(0, .string p0), (3, .int .i64 s1)] ∧ m.le m4 ∧ St m4 (own) w') N ⟨0, m1, hr, rfl, hm, st⟩ ?_)
      clear st hr
      rintro k1 _ w4 ⟨s1, m4, hL, rfl, hm, st⟩
      rcases k1 with _ | k1
      · exact loopM_zero hL
      · obtain ⟨qu1, hr, hSu1, hBu1⟩ := loopM_succ hL
        clear hL
        unfold testgateref04_Name_L1 at hr
        refine W_seq ?_
        refine W_seq ?_
        refine W_region ?_
        refine WO_seg 4 [(21, .bool (decide (s1 < (ByteArray.size p0 : Int))))] (by kernel_rfl) (by kernel_rfl) ?_
        refine WO_end rfl ?_
        refine X_then ?_
        refine W_cond (decide (s1 < (ByteArray.size p0 : Int))) (by kernel_rfl) ?_ ?_
        · intro hc
          rw [if_pos hc] at hr
          refine W_skip ?_
          refine X_then ?_
          refine W_seq ?_
          refine W_block ?_
          refine W_seq ?_
          refine W_region ?_
          refine WO_seg 2 [(24, .string p0), (25, .int .i64 s1)] (by kernel_rfl) (by kernel_rfl) ?_
          replace hr := bindS hr
          obtain ⟨x2, hx3, hr⟩ := hr
          refine WO_one rfl (One_strIndex (d := 26) (t := 9) (x := (.tmp 24)) (y := (.tmp 25)) (by kernel_rfl) rfl (show evL _ _ = some (.string p0) from (by kernel_rfl)) (show evL _ _ = some (.int .i64 s1) from (by kernel_rfl)) (by kernel_rfl) hx3 ?_)
          replace hr := bindS hr
          obtain ⟨y2, hx4, hr⟩ := hr
          refine WO_one rfl (One_fn 27 52 #[.int .u8 (x2.toNat : Int)] (by kernel_rfl) rfl ?_)
          refine (testgateref04_inner_ok st hx4).mono ?_
          clear st
          rintro _ w5 ⟨m5, rfl, hle2, st⟩
          refine ⟨_, rfl, ?_⟩
          have hm := Mem.le_trans hm hle2
          refine WO_seg 1 [(28, .bool (!y2))] (by kernel_rfl) (by kernel_rfl) ?_
          refine WO_end rfl ?_
          refine X_then ?_
          refine W_cond (!y2) (by kernel_rfl) ?_ ?_
          · intro hc
            rw [if_pos hc] at hr
            refine W_seq ?_
            refine W_region ?_
            refine WO_seg 1 [(2, .bool false)] (by kernel_rfl) (by kernel_rfl) ?_
            refine WO_end rfl ?_
            refine X_then ?_
            refine W_ret ?_
            refine X_block_ret ?_
            refine X_then_ret ?_
            obtain rfl := Option.some.inj hr
            have ho := hBu1 _ rfl
            subst ho
            have hr := hrKu1
            dsimp only at hr
            refine X_then_ret ?_
            refine X_block_ret ?_
            refine X_then_ret ?_
            obtain rfl := Option.some.inj hr
            refine X_ret [.tmp 2] [.bool false] rfl (ResAll.cons (ResAt.tmp (by kernel_rfl)) ResAll.nil) ?_
            exact ⟨m5, rfl, hm, st⟩
          · intro hc
            rw [if_neg (not_true hc)] at hr
            refine W_skip ?_
            refine X_block ?_
            refine X_then ?_
            refine W_region ?_
            refine WO_seg 3 [(3, .int .i64 (IntKind.wrap .i64 (s1 + 1)))] (by kernel_rfl) (by kernel_rfl) ?_
            refine WO_end rfl ?_
            obtain rfl := Option.some.inj hr
            have hL := hSu1 _ rfl
            exact X_env _ (by kernel_rfl) (X_round k1 (Nat.lt_succ_self _) ⟨IntKind.wrap .i64 (s1 + 1), m5, hL, rfl, hm, st⟩)
        · intro hc
          rw [if_neg (not_true hc)] at hr
          refine W_exit ?_
          refine X_then_exit ?_
          obtain rfl := Option.some.inj hr
          have ho := hBu1 _ rfl
          refine X_then_exit ?_
          exact X_env _ (by kernel_rfl) (K0_u1 _ _ ⟨(), m4, ho, rfl, hm, st⟩)
  · intro K
    clear hrK
    refine WO_seg 4 [(7, .bool (decide ((ByteArray.size p0 : Int) < 1)))] (by kernel_rfl) (by kernel_rfl) ?_
    rcases bcases (decide ((ByteArray.size p0 : Int) < 1)) with hc | hc
    · rw [if_pos hc] at hr
      refine WO_fact (t := 7) (b := true) (decide ((ByteArray.size p0 : Int) < 1)) (by kernel_rfl) hc ?_
      refine WO_seg 10 [(17, .bool true)] (by kernel_rfl) (by kernel_rfl) ?_
      obtain rfl := Option.some.inj hr
      exact WO_env _ (by kernel_rfl) (K _ _ ⟨m, rfl, hm, st⟩)
    · rw [if_neg (not_true hc)] at hr
      refine WO_fact (t := 7) (b := false) (decide ((ByteArray.size p0 : Int) < 1)) (by kernel_rfl) hc ?_
      refine WO_seg 5 [(12, .bool (decide ((ByteArray.size p0 : Int) > 24)))] (by kernel_rfl) (by kernel_rfl) ?_
      rcases bcases (decide ((ByteArray.size p0 : Int) > 24)) with hc | hc
      · rw [if_pos hc] at hr
        refine WO_fact (t := 12) (b := true) (decide ((ByteArray.size p0 : Int) > 24)) (by kernel_rfl) hc ?_
        refine WO_seg 5 [(17, .bool true)] (by kernel_rfl) (by kernel_rfl) ?_
        obtain rfl := Option.some.inj hr
        exact WO_env _ (by kernel_rfl) (K _ _ ⟨m, rfl, hm, st⟩)
      · rw [if_neg (not_true hc)] at hr
        refine WO_fact (t := 12) (b := false) (decide ((ByteArray.size p0 : Int) > 24)) (by kernel_rfl) hc ?_
        refine WO_seg 1 [(13, .string p0)] (by kernel_rfl) (by kernel_rfl) ?_
        replace hr := bindS hr
        obtain ⟨x1, hx1, hr⟩ := hr
        refine WO_one rfl (One_strIndex (d := 14) (t := 9) (x := (.tmp 13)) (y := (.const (.int .i64 0))) (by kernel_rfl) rfl (show evL _ _ = some (.string p0) from (by kernel_rfl)) (show evL _ _ = some (.int .i64 0) from (by kernel_rfl)) (by kernel_rfl) hx1 ?_)
        replace hr := bindS hr
        obtain ⟨y1, hx2, hr⟩ := hr
        refine WO_one rfl (One_fn 15 51 #[.int .u8 (x1.toNat : Int)] (by kernel_rfl) rfl ?_)
        refine (testgateref04_letter_ok st hx2).mono ?_
        clear st
        rintro _ w2 ⟨m2, rfl, hle1, st⟩
        refine ⟨_, rfl, ?_⟩
        have hm := Mem.le_trans hm hle1
        refine WO_seg 2 [(17, .bool (!y1))] (by kernel_rfl) (by kernel_rfl) ?_
        obtain rfl := Option.some.inj hr
        exact WO_env _ (by kernel_rfl) (K _ _ ⟨m2, rfl, hm, st⟩)

def unicode_utf8_decodeRuneInStringSlow (N : Nat) (p0 : ByteArray) : Option (Int × Int) :=
  if (decide ((ByteArray.size p0 : Int) < 1)) = true then (some (65533, 0)) else none

set_option maxHeartbeats 4000000 in
set_option maxRecDepth 100000 in
theorem unicode_utf8_decodeRuneInStringSlow_ok {N : Nat} {m : Mem} {own : List Piece} {w : World} {p0 : ByteArray} {r : Int × Int} (st : St m (own) w) (hr : unicode_utf8_decodeRuneInStringSlow N p0 = some r) : Calls Go.Proofs.Tryd.prog 126 #[.string p0] w fun e w' => ∃ (m' : Mem), e = .returned (.tuple #[.int .i32 r.1, .int .i64 r.2]) ∧ m.le m' ∧ St m' (own) w' := by
  unfold unicode_utf8_decodeRuneInStringSlow at hr
  have hm := m.le_refl
  refine W_calls Go.Proofs.Tryd.func126 rfl Go.Proofs.Tryd.ntmps126 [(0, .string p0)] (by kernel_rfl) rfl ?_
  refine W_seq ?_
  refine W_region ?_
  refine WO_seg 2 [] (by kernel_rfl) (by kernel_rfl) ?_
  refine WO_end rfl ?_
  refine X_then ?_
  refine W_seq ?_
  refine W_region ?_
  refine WO_seg 3 [(4, .int .i64 (ByteArray.size p0 : Int))] (by kernel_rfl) (by kernel_rfl) ?_
  refine WO_end rfl ?_
  refine X_then ?_
  refine W_seq ?_
  refine W_seq ?_
  refine W_region ?_
  refine WO_seg 2 [(16, .bool (decide ((ByteArray.size p0 : Int) < 1)))] (by kernel_rfl) (by kernel_rfl) ?_
  refine WO_end rfl ?_
  refine X_then ?_
  refine W_cond (decide ((ByteArray.size p0 : Int) < 1)) (by kernel_rfl) ?_ ?_
  · intro hc
    rw [if_pos hc] at hr
    refine W_seq ?_
    refine W_region ?_
    refine WO_seg 2 [(2, .int .i32 65533), (3, .int .i64 0)] (by kernel_rfl) (by kernel_rfl) ?_
    refine WO_end rfl ?_
    refine X_then ?_
    refine W_ret ?_
    refine X_then_ret ?_
    obtain rfl := Option.some.inj hr
    refine X_ret [.tmp 2, .tmp 3] [.int .i32 65533, .int .i64 0] rfl (ResAll.cons (ResAt.tmp (by kernel_rfl)) (ResAll.cons (ResAt.tmp (by kernel_rfl)) ResAll.nil)) ?_
    exact ⟨m, rfl, hm, st⟩
  · intro hc
    rw [if_neg (not_true hc)] at hr
    cases hr

def unicode_utf8_DecodeRuneInString (N : Nat) (p0 : ByteArray) : Option (Int × Int) :=
  (if (!(p0.toList == (⟨#[]⟩ : ByteArray).toList)) = true then ((idxB p0 0).bind fun x1 => some (decide ((x1.toNat : Int) < 128))) else (some false) : Option (Bool)).bind fun o1 => if o1 = true then ((idxB p0 0).bind fun x2 => some (IntKind.wrap .i32 (x2.toNat : Int), 1)) else ((unicode_utf8_decodeRuneInStringSlow N p0).bind fun y1 => some (y1.1, y1.2))

set_option maxHeartbeats 4000000 in
set_option maxRecDepth 100000 in
theorem unicode_utf8_DecodeRuneInString_ok {N : Nat} {m : Mem} {own : List Piece} {w : World} {p0 : ByteArray} {r : Int × Int} (st : St m (own) w) (hr : unicode_utf8_DecodeRuneInString N p0 = some r) : Calls Go.Proofs.Tryd.prog 117 #[.string p0] w fun e w' => ∃ (m' : Mem), e = .returned (.tuple #[.int .i32 r.1, .int .i64 r.2]) ∧ m.le m' ∧ St m' (own) w' := by
  unfold unicode_utf8_DecodeRuneInString at hr
  have hm := m.le_refl
  refine W_calls Go.Proofs.Tryd.func117 rfl Go.Proofs.Tryd.ntmps117 [(0, .string p0)] (by kernel_rfl) rfl ?_
  refine W_seq ?_
  refine W_region ?_
  refine WO_seg 2 [] (by kernel_rfl) (by kernel_rfl) ?_
  refine WO_end rfl ?_
  refine X_then ?_
  refine W_seq ?_
  refine W_seq ?_
  refine W_region ?_
  replace hr := bindS hr
  obtain ⟨o1, hr, hrK⟩ := hr
  refine WO_cut (j := 7) (fun L' w' => ∃ (m1 : Mem), L' = [(0, .string p0), (10, .bool o1)] ∧ m.le m1 ∧ St m1 (own) w') ?_ ?_
  · clear hr st
    have hr := hrK
    clear hrK
    rintro _ w1 ⟨m1, rfl, hm, st⟩
    refine WO_end rfl ?_
    refine X_then ?_
    refine W_cond o1 (by kernel_rfl) ?_ ?_
    · intro hc
      rw [if_pos hc] at hr
      refine W_seq ?_
      refine W_region ?_
      refine WO_seg 1 [(11, .string p0)] (by kernel_rfl) (by kernel_rfl) ?_
      replace hr := bindS hr
      obtain ⟨x2, hx2, hr⟩ := hr
      refine WO_one rfl (One_strIndex (d := 12) (t := 9) (x := (.tmp 11)) (y := (.const (.int .i64 0))) (by kernel_rfl) rfl (show evL _ _ = some (.string p0) from (by kernel_rfl)) (show evL _ _ = some (.int .i64 0) from (by kernel_rfl)) (by kernel_rfl) hx2 ?_)
      refine WO_seg 3 [(2, .int .i32 (IntKind.wrap .i32 (x2.toNat : Int))), (3, .int .i64 1)] (by kernel_rfl) (by kernel_rfl) ?_
      refine WO_end rfl ?_
      refine X_then ?_
      refine W_ret ?_
      refine X_then_ret ?_
      obtain rfl := Option.some.inj hr
      refine X_ret [.tmp 2, .tmp 3] [.int .i32 (IntKind.wrap .i32 (x2.toNat : Int)), .int .i64 1] rfl (ResAll.cons (ResAt.tmp (by kernel_rfl)) (ResAll.cons (ResAt.tmp (by kernel_rfl)) ResAll.nil)) ?_
      exact ⟨m1, rfl, hm, st⟩
    · intro hc
      rw [if_neg (not_true hc)] at hr
      refine W_region ?_
      refine WO_seg 1 [(15, .string p0)] (by kernel_rfl) (by kernel_rfl) ?_
      replace hr := bindS hr
      obtain ⟨y1, hx3, hr⟩ := hr
      refine WO_one rfl (One_fn 16 126 #[.string p0] (by kernel_rfl) rfl ?_)
      refine (unicode_utf8_decodeRuneInStringSlow_ok st hx3).mono ?_
      clear st
      rintro _ w2 ⟨m2, rfl, hle1, st⟩
      refine ⟨_, rfl, ?_⟩
      have hm := Mem.le_trans hm hle1
      refine WO_seg 5 [(2, .int .i32 y1.1), (3, .int .i64 y1.2)] (by kernel_rfl) (by kernel_rfl) ?_
      refine WO_end rfl ?_
      refine X_then ?_
      refine W_ret ?_
      obtain rfl := Option.some.inj hr
      refine X_ret [.tmp 2, .tmp 3] [.int .i32 y1.1, .int .i64 y1.2] rfl (ResAll.cons (ResAt.tmp (by kernel_rfl)) (ResAll.cons (ResAt.tmp (by kernel_rfl)) ResAll.nil)) ?_
      exact ⟨m2, rfl, hm, st⟩
  · intro K
    clear hrK
    refine WO_seg 3 [(6, .bool (!(p0.toList == (⟨#[]⟩ : ByteArray).toList)))] (by kernel_rfl) (by kernel_rfl) ?_
    rcases bcases (!(p0.toList == (⟨#[]⟩ : ByteArray).toList)) with hc | hc
    · rw [if_pos hc] at hr
      refine WO_fact (t := 6) (b := true) (!(p0.toList == (⟨#[]⟩ : ByteArray).toList)) (by kernel_rfl) hc ?_
      refine WO_seg 1 [(7, .string p0)] (by kernel_rfl) (by kernel_rfl) ?_
      replace hr := bindS hr
      obtain ⟨x1, hx1, hr⟩ := hr
      refine WO_one rfl (One_strIndex (d := 8) (t := 9) (x := (.tmp 7)) (y := (.const (.int .i64 0))) (by kernel_rfl) rfl (show evL _ _ = some (.string p0) from (by kernel_rfl)) (show evL _ _ = some (.int .i64 0) from (by kernel_rfl)) (by kernel_rfl) hx1 ?_)
      refine WO_seg 2 [(10, .bool (decide ((x1.toNat : Int) < 128)))] (by kernel_rfl) (by kernel_rfl) ?_
      obtain rfl := Option.some.inj hr
      exact WO_env _ (by kernel_rfl) (K _ _ ⟨m, rfl, hm, st⟩)
    · rw [if_neg (not_true hc)] at hr
      refine WO_fact (t := 6) (b := false) (!(p0.toList == (⟨#[]⟩ : ByteArray).toList)) (by kernel_rfl) hc ?_
      refine WO_seg 4 [(10, .bool false)] (by kernel_rfl) (by kernel_rfl) ?_
      obtain rfl := Option.some.inj hr
      exact WO_env _ (by kernel_rfl) (K _ _ ⟨m, rfl, hm, st⟩)

def internal_bytealg_Cutover (N : Nat) (p0 : Int) : Option (Int) :=
  some (IntKind.wrap .i64 (Int.tdiv (IntKind.wrap .i64 (p0 + 16)) 8))

set_option maxHeartbeats 4000000 in
set_option maxRecDepth 100000 in
theorem internal_bytealg_Cutover_ok {N : Nat} {m : Mem} {own : List Piece} {w : World} {p0 : Int} {r : Int} (st : St m (own) w) (hr : internal_bytealg_Cutover N p0 = some r) : Calls Go.Proofs.Tryd.prog 128 #[.int .i64 p0] w fun e w' => ∃ (m' : Mem), e = .returned (.int .i64 r) ∧ m.le m' ∧ St m' (own) w' := by
  unfold internal_bytealg_Cutover at hr
  have hm := m.le_refl
  refine W_calls Go.Proofs.Tryd.func128 rfl Go.Proofs.Tryd.ntmps128 [(0, .int .i64 p0)] (by kernel_rfl) rfl ?_
  refine W_seq ?_
  refine W_region ?_
  refine WO_seg 1 [] (by kernel_rfl) (by kernel_rfl) ?_
  refine WO_end rfl ?_
  refine X_then ?_
  refine W_seq ?_
  refine W_region ?_
  refine WO_seg 4 [(2, .int .i64 (IntKind.wrap .i64 (Int.tdiv (IntKind.wrap .i64 (p0 + 16)) 8)))] (by kernel_rfl) (by kernel_rfl) ?_
  refine WO_end rfl ?_
  refine X_then ?_
  refine W_ret ?_
  obtain rfl := Option.some.inj hr
  refine X_ret [.tmp 2] [.int .i64 (IntKind.wrap .i64 (Int.tdiv (IntKind.wrap .i64 (p0 + 16)) 8))] rfl (ResAll.cons (ResAt.tmp (by kernel_rfl)) ResAll.nil) ?_
  exact ⟨m, rfl, hm, st⟩

def internal_bytealg_hashStr_string_L1 (N : Nat) (p0 : ByteArray) (s1 : Int × Int) : Option ((Int × Int) ⊕ ((Int))) :=
  if (decide (s1.2 < (ByteArray.size p0 : Int))) = true then ((idxB p0 s1.2).bind fun x1 => some (.inl (IntKind.wrap .u32 ((IntKind.wrap .u32 (s1.1 * 16777619)) + (IntKind.wrap .u32 (x1.toNat : Int))), IntKind.wrap .i64 (s1.2 + 1)))) else (some (.inr s1.1))

def internal_bytealg_hashStr_string_L2 (N : Nat) (s2 : Int × Int × Int) : Option ((Int × Int × Int) ⊕ ((Int))) :=
  if (decide (s2.2.2 > 0)) = true then ((if ((iAnd .i64 s2.2.2 1) != 0) = true then (some (IntKind.wrap .u32 (s2.1 * s2.2.1))) else (some s2.1) : Option (Int)).bind fun o3 => some (.inl (o3, IntKind.wrap .u32 (s2.2.1 * s2.2.1), Int.fdiv s2.2.2 (2 ^ 1)))) else (some (.inr s2.1))

def internal_bytealg_hashStr_string (N : Nat) (p0 : ByteArray) : Option (Int × Int) :=
  (loopM (internal_bytealg_hashStr_string_L1 N p0) N (0, 0)).bind fun o1 => (loopM (internal_bytealg_hashStr_string_L2 N) N (1, 16777619, (ByteArray.size p0 : Int))).bind fun o2 => some (o1, o2)

set_option maxHeartbeats 4000000 in
set_option maxRecDepth 100000 in
theorem internal_bytealg_hashStr_string_ok {N : Nat} {m : Mem} {own : List Piece} {w : World} {p0 : ByteArray} {r : Int × Int} (st : St m (own) w) (hr : internal_bytealg_hashStr_string N p0 = some r) : Calls Go.Proofs.Tryd.prog 134 #[.string p0] w fun e w' => ∃ (m' : Mem), e = .returned (.tuple #[.int .u32 r.1, .int .u32 r.2]) ∧ m.le m' ∧ St m' (own) w' := by
  unfold internal_bytealg_hashStr_string at hr
  have hm := m.le_refl
  refine W_calls Go.Proofs.Tryd.func134 rfl Go.Proofs.Tryd.ntmps134 [(0, .string p0)] (by kernel_rfl) rfl ?_
  refine W_seq ?_
  refine W_region ?_
  refine WO_seg 2 [] (by kernel_rfl) (by kernel_rfl) ?_
  refine WO_end rfl ?_
  refine X_then ?_
  refine W_seq ?_
  refine W_region ?_
  refine WO_seg 1 [(4, .int .u32 0)] (by kernel_rfl) (by kernel_rfl) ?_
  refine WO_end rfl ?_
  refine X_then ?_
  refine W_seq ?_
  refine W_seq ?_
  refine W_region ?_
  refine WO_seg 1 [(5, .int .i64 0)] (by kernel_rfl) (by kernel_rfl) ?_
  refine WO_end rfl ?_
  refine X_then ?_
  refine W_block ?_
  replace hr := bindS hr
  obtain ⟨out1, hr, hrKu1⟩ := hr
  refine W_cut (.exit 0) (fun L' w' => ∃ (o1 : Int) (m1 : Mem), o1 = out1 ∧ L' = [(0, .string p0), (4, .int .u32 o1)] ∧ m.le m1 ∧ St m1 (own) w') ?_ ?_
  · clear hr st
    rintro _ w1 ⟨o1, m1, rfl, rfl, hm, st⟩
    have hr := hrKu1
    clear hrKu1
    refine X_block_eq ?_
    refine X_then ?_
    refine W_seq ?_
    refine W_region ?_
    refine WO_seg 2 [(6, .int .u32 1), (7, .int .u32 16777619)] (by kernel_rfl) (by kernel_rfl) ?_
    refine WO_end rfl ?_
    refine X_then ?_
    refine W_seq ?_
    refine W_seq ?_
    refine W_region ?_
    refine WO_seg 3 [(8, .int .i64 (ByteArray.size p0 : Int))] (by kernel_rfl) (by kernel_rfl) ?_
    refine WO_end rfl ?_
    refine X_then ?_
    refine W_block ?_
    replace hr := bindS hr
    obtain ⟨out2, hr, hrKu2⟩ := hr
    refine W_cut (.exit 2) (fun L' w' => ∃ (o2 : Int) (m3 : Mem), o2 = out2 ∧ L' = [(4, .int .u32 o1), (6, .int .u32 o2)] ∧ m.le m3 ∧ St m3 (own) w') ?_ ?_
    · clear hr st
      rintro _ w3 ⟨o2, m3, rfl, rfl, hm, st⟩
      have hr := hrKu2
      clear hrKu2
      refine X_block_eq ?_
      refine X_then ?_
      refine W_seq ?_
      refine W_region ?_
      refine WO_seg 4 [(2, .int .u32 o1), (3, .int .u32 o2)] (by kernel_rfl) (by kernel_rfl) ?_
      refine WO_end rfl ?_
      refine X_then ?_
      refine W_ret ?_
      obtain rfl := Option.some.inj hr
      refine X_ret [.tmp 2, .tmp 3] [.int .u32 o1, .int .u32 o2] rfl (ResAll.cons (ResAt.tmp (by kernel_rfl)) (ResAll.cons (ResAt.tmp (by kernel_rfl)) ResAll.nil)) ?_
      exact ⟨m3, rfl, hm, st⟩
    intro K2_u2
    clear hrKu2
    refine W_env _ (by kernel_rfl) (W_loop (fun k2 L' w' => ∃ (s2 : Int × Int × Int) (m4 : Mem), loopM (internal_bytealg_hashStr_string_L2 N) k2 s2 = some out2 ∧ L' = [(4, .int .u32 o1), (6, .int .u32 s2.1), (7, .int .u32 s2.2.1), (8, .int .i64 s2.2.2)] ∧ m.le m4 ∧ St m4 (own) w') N ⟨(1, 16777619, (ByteArray.size p0 : Int)), m1, hr, rfl, hm, st⟩ ?_)
    clear st hr
    rintro k2 _ w4 ⟨s2, m4, hL, rfl, hm, st⟩
    rcases k2 with _ | k2
    · exact loopM_zero hL
    · obtain ⟨qu2, hr, hSu2, hBu2⟩ := loopM_succ hL
      clear hL
      unfold internal_bytealg_hashStr_string_L2 at hr
      refine W_seq ?_
      refine W_seq ?_
      refine W_region ?_
      refine WO_seg 2 [(25, .bool (decide (s2.2.2 > 0)))] (by kernel_rfl) (by kernel_rfl) ?_
      refine WO_end rfl ?_
      refine X_then ?_
      refine W_cond (decide (s2.2.2 > 0)) (by kernel_rfl) ?_ ?_
      · intro hc
        rw [if_pos hc] at hr
        refine W_skip ?_
        refine X_then ?_
        refine W_seq ?_
        refine W_block ?_
        refine W_seq ?_
        refine W_seq ?_
        refine W_region ?_
        refine WO_seg 3 [(30, .bool ((iAnd .i64 s2.2.2 1) != 0))] (by kernel_rfl) (by kernel_rfl) ?_
        refine WO_end rfl ?_
        refine X_then ?_
        replace hr := bindS hr
        obtain ⟨o3, hr, hrKu3⟩ := hr
        refine W_cut .normal (fun L' w' => ∃ (m5 : Mem), L' = [(4, .int .u32 o1), (6, .int .u32 o3), (7, .int .u32 s2.2.1), (8, .int .i64 s2.2.2)] ∧ m.le m5 ∧ St m5 (own) w') ?_ ?_
        · clear hr st
          have hr := hrKu3
          clear hrKu3
          rintro _ w5 ⟨m5, rfl, hm, st⟩
          refine X_then ?_
          refine W_region ?_
          refine WO_seg 4 [(7, .int .u32 (IntKind.wrap .u32 (s2.2.1 * s2.2.1)))] (by kernel_rfl) (by kernel_rfl) ?_
          refine WO_end rfl ?_
          refine X_block ?_
          refine X_then ?_
          refine W_region ?_
          refine WO_seg 3 [(8, .int .i64 (Int.fdiv s2.2.2 (2 ^ 1)))] (by kernel_rfl) (by kernel_rfl) ?_
          refine WO_end rfl ?_
          obtain rfl := Option.some.inj hr
          have hL := hSu2 _ rfl
          exact X_env _ (by kernel_rfl) (X_round k2 (Nat.lt_succ_self _) ⟨(o3, IntKind.wrap .u32 (s2.2.1 * s2.2.1), Int.fdiv s2.2.2 (2 ^ 1)), m5, hL, rfl, hm, st⟩)
        · intro Ku3
          clear hrKu3
          refine W_cond ((iAnd .i64 s2.2.2 1) != 0) (by kernel_rfl) ?_ ?_
          · intro hc
            rw [if_pos hc] at hr
            refine W_region ?_
            refine WO_seg 4 [(6, .int .u32 (IntKind.wrap .u32 (s2.1 * s2.2.1)))] (by kernel_rfl) (by kernel_rfl) ?_
            refine WO_end rfl ?_
            obtain rfl := Option.some.inj hr
            exact X_env _ (by kernel_rfl) (Ku3 _ _ ⟨m4, rfl, hm, st⟩)
          · intro hc
            rw [if_neg (not_true hc)] at hr
            refine W_skip ?_
            obtain rfl := Option.some.inj hr
            exact X_env _ (by kernel_rfl) (Ku3 _ _ ⟨m4, rfl, hm, st⟩)
      · intro hc
        rw [if_neg (not_true hc)] at hr
        refine W_exit ?_
        refine X_then_exit ?_
        obtain rfl := Option.some.inj hr
        have ho := hBu2 _ rfl
        refine X_then_exit ?_
        exact X_env _ (by kernel_rfl) (K2_u2 _ _ ⟨s2.1, m4, ho, rfl, hm, st⟩)
  intro K0_u1
  clear hrKu1
  refine W_env _ (by kernel_rfl) (W_loop (fun k1 L' w' => ∃ (s1 : Int × Int) (m2 : Mem), loopM (internal_bytealg_hashStr_string_L1 N p0) k1 s1 = some out1 ∧ L' = [(0, .string p0), (4, .int .u32 s1.1), (5, .int .i64 s1.2)] ∧ m.le m2 ∧ St m2 (own) w') N ⟨(0, 0), m, hr, rfl, hm, st⟩ ?_)
  clear st hr
  rintro k1 _ w2 ⟨s1, m2, hL, rfl, hm, st⟩
  rcases k1 with _ | k1
  · exact loopM_zero hL
  · obtain ⟨qu1, hr, hSu1, hBu1⟩ := loopM_succ hL
    clear hL
    unfold internal_bytealg_hashStr_string_L1 at hr
    refine W_seq ?_
    refine W_seq ?_
    refine W_region ?_
    refine WO_seg 4 [(12, .bool (decide (s1.2 < (ByteArray.size p0 : Int))))] (by kernel_rfl) (by kernel_rfl) ?_
    refine WO_end rfl ?_
    refine X_then ?_
    refine W_cond (decide (s1.2 < (ByteArray.size p0 : Int))) (by kernel_rfl) ?_ ?_
    · intro hc
      rw [if_pos hc] at hr
      refine W_skip ?_
      refine X_then ?_
      refine W_seq ?_
      refine W_block ?_
      refine W_region ?_
      refine WO_seg 4 [(16, .int .u32 (IntKind.wrap .u32 (s1.1 * 16777619))), (17, .string p0), (18, .int .i64 s1.2)] (by kernel_rfl) (by kernel_rfl) ?_
      replace hr := bindS hr
      obtain ⟨x1, hx1, hr⟩ := hr
      refine WO_one rfl (One_strIndex (d := 19) (t := 9) (x := (.tmp 17)) (y := (.tmp 18)) (by kernel_rfl) rfl (show evL _ _ = some (.string p0) from (by kernel_rfl)) (show evL _ _ = some (.int .i64 s1.2) from (by kernel_rfl)) (by kernel_rfl) hx1 ?_)
      refine WO_seg 3 [(4, .int .u32 (IntKind.wrap .u32 ((IntKind.wrap .u32 (s1.1 * 16777619)) + (IntKind.wrap .u32 (x1.toNat : Int)))))] (by kernel_rfl) (by kernel_rfl) ?_
      refine WO_end rfl ?_
      refine X_block ?_
      refine X_then ?_
      refine W_region ?_
      refine WO_seg 3 [(5, .int .i64 (IntKind.wrap .i64 (s1.2 + 1)))] (by kernel_rfl) (by kernel_rfl) ?_
      refine WO_end rfl ?_
      obtain rfl := Option.some.inj hr
      have hL := hSu1 _ rfl
      exact X_env _ (by kernel_rfl) (X_round k1 (Nat.lt_succ_self _) ⟨(IntKind.wrap .u32 ((IntKind.wrap .u32 (s1.1 * 16777619)) + (IntKind.wrap .u32 (x1.toNat : Int))), IntKind.wrap .i64 (s1.2 + 1)), m2, hL, rfl, hm, st⟩)
    · intro hc
      rw [if_neg (not_true hc)] at hr
      refine W_exit ?_
      refine X_then_exit ?_
      obtain rfl := Option.some.inj hr
      have ho := hBu1 _ rfl
      refine X_then_exit ?_
      exact X_env _ (by kernel_rfl) (K0_u1 _ _ ⟨s1.1, m2, ho, rfl, hm, st⟩)

def internal_bytealg_IndexRabinKarp_string_L1 (N : Nat) (p0 : ByteArray) (p1 : ByteArray) (s1 : Int × Int) : Option ((Int × Int) ⊕ ((Int))) :=
  if (decide (s1.2 < (ByteArray.size p1 : Int))) = true then ((idxB p0 s1.2).bind fun x1 => some (.inl (IntKind.wrap .u32 ((IntKind.wrap .u32 (s1.1 * 16777619)) + (IntKind.wrap .u32 (x1.toNat : Int))), IntKind.wrap .i64 (s1.2 + 1)))) else (some (.inr s1.1))

def internal_bytealg_IndexRabinKarp_string_L2 (N : Nat) (p0 : ByteArray) (p1 : ByteArray) (y1 : Int × Int) (s3 : Int × Int) : Option ((Int × Int) ⊕ ((Unit) ⊕ (Int))) :=
  if (decide (s3.2 < (ByteArray.size p0 : Int))) = true then ((idxB p0 s3.2).bind fun x2 => (idxB p0 (IntKind.wrap .i64 (s3.2 - (ByteArray.size p1 : Int)))).bind fun x3 => (if ((IntKind.wrap .u32 ((IntKind.wrap .u32 ((IntKind.wrap .u32 (s3.1 * 16777619)) + (IntKind.wrap .u32 (x2.toNat : Int)))) - (IntKind.wrap .u32 (y1.2 * (IntKind.wrap .u32 (x3.toNat : Int)))))) == y1.1) = true then ((subB p0 (IntKind.wrap .i64 ((IntKind.wrap .i64 (s3.2 + 1)) - (ByteArray.size p1 : Int))) (IntKind.wrap .i64 (s3.2 + 1))).bind fun s4 => some (s4.toList == p1.toList)) else (some false) : Option (Bool)).bind fun o4 => if o4 = true then (some (.inr (.inr (IntKind.wrap .i64 ((IntKind.wrap .i64 (s3.2 + 1)) - (ByteArray.size p1 : Int)))))) else (some (.inl (IntKind.wrap .u32 ((IntKind.wrap .u32 ((IntKind.wrap .u32 (s3.1 * 16777619)) + (IntKind.wrap .u32 (x2.toNat : Int)))) - (IntKind.wrap .u32 (y1.2 * (IntKind.wrap .u32 (x3.toNat : Int))))), IntKind.wrap .i64 (s3.2 + 1))))) else (some (.inr (.inl ())))

def internal_bytealg_IndexRabinKarp_string (N : Nat) (p0 : ByteArray) (p1 : ByteArray) : Option (Int) :=
  (internal_bytealg_hashStr_string N p1).bind fun y1 => (loopM (internal_bytealg_IndexRabinKarp_string_L1 N p0 p1) N (0, 0)).bind fun o1 => (if (o1 == y1.1) = true then ((subB p0 0 (ByteArray.size p1 : Int)).bind fun s2 => some (s2.toList == p1.toList)) else (some false) : Option (Bool)).bind fun o2 => if o2 = true then (some 0) else ((loopM (internal_bytealg_IndexRabinKarp_string_L2 N p0 p1 y1) N (o1, (ByteArray.size p1 : Int))).bind fun out2 => (match out2 with | .inl o3 => some (-1) | .inr (z) => some z))

set_option maxHeartbeats 4000000 in
set_option maxRecDepth 100000 in
theorem internal_bytealg_IndexRabinKarp_string_ok {N : Nat} {m : Mem} {own : List Piece} {w : World} {p0 : ByteArray} {p1 : ByteArray} {r : Int} (st : St m (own) w) (hr : internal_bytealg_IndexRabinKarp_string N p0 p1 = some r) : Calls Go.Proofs.Tryd.prog 129 #[.string p0, .string p1] w fun e w' => ∃ (m' : Mem), e = .returned (.int .i64 r) ∧ m.le m' ∧ St m' (own) w' := by
  unfold internal_bytealg_IndexRabinKarp_string at hr
  have hm := m.le_refl
  refine W_calls Go.Proofs.Tryd.func129 rfl Go.Proofs.Tryd.ntmps129 [(0, .string p0), (1, .string p1)] (by kernel_rfl) rfl ?_
  refine W_seq ?_
  refine W_region ?_
  refine WO_seg 1 [] (by kernel_rfl) (by kernel_rfl) ?_
  refine WO_end rfl ?_
  refine X_then ?_
  refine W_seq ?_
  refine W_region ?_
  refine WO_seg 1 [(12, .string p1)] (by kernel_rfl) (by kernel_rfl) ?_
  replace hr := bindS hr
  obtain ⟨y1, hx1, hr⟩ := hr
  refine WO_one rfl (One_fn 13 134 #[.string p1] (by kernel_rfl) rfl ?_)
  refine (internal_bytealg_hashStr_string_ok st hx1).mono ?_
  clear st
  rintro _ w1 ⟨m1, rfl, hle1, st⟩
  refine ⟨_, rfl, ?_⟩
  have hm := Mem.le_trans hm hle1
  refine WO_seg 5 [(5, .int .u32 y1.1), (6, .int .u32 y1.2)] (by kernel_rfl) (by kernel_rfl) ?_
  refine WO_end rfl ?_
  refine X_then ?_
  refine W_seq ?_
  refine W_region ?_
  refine WO_seg 3 [(7, .int .i64 (ByteArray.size p1 : Int))] (by kernel_rfl) (by kernel_rfl) ?_
  refine WO_end rfl ?_
  refine X_then ?_
  refine W_seq ?_
  refine W_region ?_
  refine WO_seg 1 [(8, .int .u32 0)] (by kernel_rfl) (by kernel_rfl) ?_
  refine WO_end rfl ?_
  refine X_then ?_
  refine W_seq ?_
  refine W_seq ?_
  refine W_region ?_
  refine WO_seg 1 [(9, .int .i64 0)] (by kernel_rfl) (by kernel_rfl) ?_
  refine WO_end rfl ?_
  refine X_then ?_
  refine W_block ?_
  replace hr := bindS hr
  obtain ⟨out1, hr, hrKu1⟩ := hr
  refine W_cut (.exit 0) (fun L' w' => ∃ (o1 : Int) (m2 : Mem), o1 = out1 ∧ L' = [(0, .string p0), (1, .string p1), (5, .int .u32 y1.1), (6, .int .u32 y1.2), (7, .int .i64 (ByteArray.size p1 : Int)), (8, .int .u32 o1)] ∧ m.le m2 ∧ St m2 (own) w') ?_ ?_
  · clear hr st
    rintro _ w2 ⟨o1, m2, rfl, rfl, hm, st⟩
    have hr := hrKu1
    clear hrKu1
    refine X_block_eq ?_
    refine X_then ?_
    refine W_seq ?_
    refine W_seq ?_
    refine W_region ?_
    replace hr := bindS hr
    obtain ⟨o2, hr, hrK⟩ := hr
    refine WO_cut (j := 10) (fun L' w' => ∃ (m4 : Mem), L' = [(0, .string p0), (1, .string p1), (5, .int .u32 y1.1), (6, .int .u32 y1.2), (7, .int .i64 (ByteArray.size p1 : Int)), (8, .int .u32 o1), (39, .bool o2)] ∧ m.le m4 ∧ St m4 (own) w') ?_ ?_
    · clear hr st
      have hr := hrK
      clear hrK
      rintro _ w4 ⟨m4, rfl, hm, st⟩
      refine WO_end rfl ?_
      refine X_then ?_
      refine W_cond o2 (by kernel_rfl) ?_ ?_
      · intro hc
        rw [if_pos hc] at hr
        refine W_seq ?_
        refine W_region ?_
        refine WO_seg 1 [(4, .int .i64 0)] (by kernel_rfl) (by kernel_rfl) ?_
        refine WO_end rfl ?_
        refine X_then ?_
        refine W_ret ?_
        refine X_then_ret ?_
        obtain rfl := Option.some.inj hr
        refine X_ret [.tmp 4] [.int .i64 0] rfl (ResAll.cons (ResAt.tmp (by kernel_rfl)) ResAll.nil) ?_
        exact ⟨m4, rfl, hm, st⟩
      · intro hc
        rw [if_neg (not_true hc)] at hr
        refine W_skip ?_
        refine X_then ?_
        refine W_seq ?_
        refine W_seq ?_
        refine W_region ?_
        refine WO_seg 2 [(10, .int .i64 (ByteArray.size p1 : Int))] (by kernel_rfl) (by kernel_rfl) ?_
        refine WO_end rfl ?_
        refine X_then ?_
        refine W_block ?_
        replace hr := bindS hr
        obtain ⟨out2, hr, hrKu2⟩ := hr
        refine W_cut (.exit 2) (fun L' w' => ∃ (o3 : Unit) (m5 : Mem), (.inl o3) = out2 ∧ L' = [] ∧ m.le m5 ∧ St m5 (own) w') ?_ ?_
        · clear hr st
          rintro _ w5 ⟨o3, m5, rfl, rfl, hm, st⟩
          have hr := hrKu2
          clear hrKu2
          dsimp only at hr
          refine X_block_eq ?_
          refine X_then ?_
          refine W_seq ?_
          refine W_region ?_
          refine WO_seg 1 [(4, .int .i64 (-1))] (by kernel_rfl) (by kernel_rfl) ?_
          refine WO_end rfl ?_
          refine X_then ?_
          refine W_ret ?_
          obtain rfl := Option.some.inj hr
          refine X_ret [.tmp 4] [.int .i64 (-1)] rfl (ResAll.cons (ResAt.tmp (by kernel_rfl)) ResAll.nil) ?_
          exact ⟨m5, rfl, hm, st⟩
        intro K2_u2
        refine W_env _ (by kernel_rfl) (W_loop (fun k2 L' w' => ∃ (s3 : Int × Int) (m6 : Mem), loopM (internal_bytealg_IndexRabinKarp_string_L2 N p0 p1 y1) k2 s3 = some out2 ∧ L' = [(0, .string p0), (1, .string p1), (5, .int .u32 y1.1), (6, .int .u32 y1.2), (7, .int .i64 (ByteArray.size p1 : Int)), (8, .int .u32 s3.1), (10, .int .i64 s3.2)] ∧ m.le m6 ∧ St m6 (own) w') N ⟨(o1, (ByteArray.size p1 : Int)), m4, hr, rfl, hm, st⟩ ?_)
        clear st hr
        rintro k2 _ w6 ⟨s3, m6, hL, rfl, hm, st⟩
        rcases k2 with _ | k2
        · exact loopM_zero hL
        · obtain ⟨qu2, hr, hSu2, hBu2⟩ := loopM_succ hL
          clear hL
          unfold internal_bytealg_IndexRabinKarp_string_L2 at hr
          refine W_seq ?_
          refine W_seq ?_
          refine W_region ?_
          refine WO_seg 4 [(44, .bool (decide (s3.2 < (ByteArray.size p0 : Int))))] (by kernel_rfl) (by kernel_rfl) ?_
          refine WO_end rfl ?_
          refine X_then ?_
          refine W_cond (decide (s3.2 < (ByteArray.size p0 : Int))) (by kernel_rfl) ?_ ?_
          · intro hc
            rw [if_pos hc] at hr
            refine W_skip ?_
            refine X_then ?_
            refine W_block ?_
            refine W_seq ?_
            refine W_region ?_
            refine WO_seg 3 [(8, .int .u32 (IntKind.wrap .u32 (s3.1 * 16777619)))] (by kernel_rfl) (by kernel_rfl) ?_
            refine WO_end rfl ?_
            refine X_then ?_
            refine W_seq ?_
            refine W_region ?_
            refine WO_seg 3 [(47, .int .u32 (IntKind.wrap .u32 (s3.1 * 16777619))), (48, .string p0), (49, .int .i64 s3.2)] (by kernel_rfl) (by kernel_rfl) ?_
            replace hr := bindS hr
            obtain ⟨x2, hx4, hr⟩ := hr
            refine WO_one rfl (One_strIndex (d := 50) (t := 9) (x := (.tmp 48)) (y := (.tmp 49)) (by kernel_rfl) rfl (show evL _ _ = some (.string p0) from (by kernel_rfl)) (show evL _ _ = some (.int .i64 s3.2) from (by kernel_rfl)) (by kernel_rfl) hx4 ?_)
            refine WO_seg 3 [(8, .int .u32 (IntKind.wrap .u32 ((IntKind.wrap .u32 (s3.1 * 16777619)) + (IntKind.wrap .u32 (x2.toNat : Int)))))] (by kernel_rfl) (by kernel_rfl) ?_
            refine WO_end rfl ?_
            refine X_then ?_
            refine W_seq ?_
            refine W_region ?_
            refine WO_seg 6 [(53, .int .u32 (IntKind.wrap .u32 ((IntKind.wrap .u32 (s3.1 * 16777619)) + (IntKind.wrap .u32 (x2.toNat : Int))))), (54, .int .u32 y1.2), (55, .string p0), (58, .int .i64 (IntKind.wrap .i64 (s3.2 - (ByteArray.size p1 : Int))))] (by kernel_rfl) (by kernel_rfl) ?_
            replace hr := bindS hr
            obtain ⟨x3, hx5, hr⟩ := hr
            refine WO_one rfl (One_strIndex (d := 59) (t := 9) (x := (.tmp 55)) (y := (.tmp 58)) (by kernel_rfl) rfl (show evL _ _ = some (.string p0) from (by kernel_rfl)) (show evL _ _ = some (.int .i64 (IntKind.wrap .i64 (s3.2 - (ByteArray.size p1 : Int)))) from (by kernel_rfl)) (by kernel_rfl) hx5 ?_)
            refine WO_seg 4 [(8, .int .u32 (IntKind.wrap .u32 ((IntKind.wrap .u32 ((IntKind.wrap .u32 (s3.1 * 16777619)) + (IntKind.wrap .u32 (x2.toNat : Int)))) - (IntKind.wrap .u32 (y1.2 * (IntKind.wrap .u32 (x3.toNat : Int)))))))] (by kernel_rfl) (by kernel_rfl) ?_
            refine WO_end rfl ?_
            refine X_then ?_
            refine W_seq ?_
            refine W_region ?_
            refine WO_seg 3 [(10, .int .i64 (IntKind.wrap .i64 (s3.2 + 1)))] (by kernel_rfl) (by kernel_rfl) ?_
            refine WO_end rfl ?_
            refine X_then ?_
            refine W_seq ?_
            refine W_region ?_
            replace hr := bindS hr
            obtain ⟨o4, hr, hrK⟩ := hr
            refine WO_cut (j := 13) (fun L' w' => ∃ (m7 : Mem), L' = [(0, .string p0), (1, .string p1), (5, .int .u32 y1.1), (6, .int .u32 y1.2), (7, .int .i64 (ByteArray.size p1 : Int)), (8, .int .u32 (IntKind.wrap .u32 ((IntKind.wrap .u32 ((IntKind.wrap .u32 (s3.1 * 16777619)) + (IntKind.wrap .u32 (x2.toNat : Int)))) - (IntKind.wrap .u32 (y1.2 * (IntKind.wrap .u32 (x3.toNat : Int))))))), (10, .int .i64 (IntKind.wrap .i64 (s3.2 + 1))), (77, .bool o4)] ∧ m.le m7 ∧ St m7 (own) w') ?_ ?_
            · clear hr st
              have hr := hrK
              clear hrK
              rintro _ w7 ⟨m7, rfl, hm, st⟩
              refine WO_end rfl ?_
              refine X_then ?_
              refine W_cond o4 (by kernel_rfl) ?_ ?_
              · intro hc
                rw [if_pos hc] at hr
                refine W_seq ?_
                refine W_region ?_
                refine WO_seg 4 [(4, .int .i64 (IntKind.wrap .i64 ((IntKind.wrap .i64 (s3.2 + 1)) - (ByteArray.size p1 : Int))))] (by kernel_rfl) (by kernel_rfl) ?_
                refine WO_end rfl ?_
                refine X_then ?_
                refine W_ret ?_
                refine X_block_ret ?_
                obtain rfl := Option.some.inj hr
                have ho := hBu2 _ rfl
                subst ho
                have hr := hrKu2
                dsimp only at hr
                refine X_then_ret ?_
                refine X_block_ret ?_
                refine X_then_ret ?_
                obtain rfl := Option.some.inj hr
                refine X_ret [.tmp 4] [.int .i64 (IntKind.wrap .i64 ((IntKind.wrap .i64 (s3.2 + 1)) - (ByteArray.size p1 : Int)))] rfl (ResAll.cons (ResAt.tmp (by kernel_rfl)) ResAll.nil) ?_
                exact ⟨m7, rfl, hm, st⟩
              · intro hc
                rw [if_neg (not_true hc)] at hr
                refine W_skip ?_
                refine X_block ?_
                obtain rfl := Option.some.inj hr
                have hL := hSu2 _ rfl
                exact X_env _ (by kernel_rfl) (X_round k2 (Nat.lt_succ_self _) ⟨(IntKind.wrap .u32 ((IntKind.wrap .u32 ((IntKind.wrap .u32 (s3.1 * 16777619)) + (IntKind.wrap .u32 (x2.toNat : Int)))) - (IntKind.wrap .u32 (y1.2 * (IntKind.wrap .u32 (x3.toNat : Int))))), IntKind.wrap .i64 (s3.2 + 1)), m7, hL, rfl, hm, st⟩)
            · intro K
              clear hrK
              refine WO_seg 4 [(68, .bool ((IntKind.wrap .u32 ((IntKind.wrap .u32 ((IntKind.wrap .u32 (s3.1 * 16777619)) + (IntKind.wrap .u32 (x2.toNat : Int)))) - (IntKind.wrap .u32 (y1.2 * (IntKind.wrap .u32 (x3.toNat : Int)))))) == y1.1))] (by kernel_rfl) (by kernel_rfl) ?_
              rcases bcases ((IntKind.wrap .u32 ((IntKind.wrap .u32 ((IntKind.wrap .u32 (s3.1 * 16777619)) + (IntKind.wrap .u32 (x2.toNat : Int)))) - (IntKind.wrap .u32 (y1.2 * (IntKind.wrap .u32 (x3.toNat : Int)))))) == y1.1) with hc | hc
              · rw [if_pos hc] at hr
                refine WO_fact (t := 68) (b := true) ((IntKind.wrap .u32 ((IntKind.wrap .u32 ((IntKind.wrap .u32 (s3.1 * 16777619)) + (IntKind.wrap .u32 (x2.toNat : Int)))) - (IntKind.wrap .u32 (y1.2 * (IntKind.wrap .u32 (x3.toNat : Int)))))) == y1.1) (by kernel_rfl) hc ?_
                refine WO_seg 5 [(69, .string p0), (72, .int .i64 (IntKind.wrap .i64 ((IntKind.wrap .i64 (s3.2 + 1)) - (ByteArray.size p1 : Int)))), (73, .int .i64 (IntKind.wrap .i64 (s3.2 + 1)))] (by kernel_rfl) (by kernel_rfl) ?_
                replace hr := bindS hr
                obtain ⟨s4, hx6, hr⟩ := hr
                refine WO_one rfl (One_strSlice (d := 74) (t := 9) (x := (.tmp 69)) (lo := (some (.tmp 72))) (hi := (some (.tmp 73))) (by kernel_rfl) rfl (show evL _ _ = some (.string p0) from (by kernel_rfl)) (by kernel_rfl) (.inr ⟨_, _, rfl, (show evL _ _ = some (.int .i64 (IntKind.wrap .i64 ((IntKind.wrap .i64 (s3.2 + 1)) - (ByteArray.size p1 : Int)))) from (by kernel_rfl))⟩) (.inr ⟨_, _, rfl, (show evL _ _ = some (.int .i64 (IntKind.wrap .i64 (s3.2 + 1))) from (by kernel_rfl))⟩) hx6 ?_)
                refine WO_seg 3 [(77, .bool (s4.toList == p1.toList))] (by kernel_rfl) (by kernel_rfl) ?_
                obtain rfl := Option.some.inj hr
                exact WO_env _ (by kernel_rfl) (K _ _ ⟨m6, rfl, hm, st⟩)
              · rw [if_neg (not_true hc)] at hr
                refine WO_fact (t := 68) (b := false) ((IntKind.wrap .u32 ((IntKind.wrap .u32 ((IntKind.wrap .u32 (s3.1 * 16777619)) + (IntKind.wrap .u32 (x2.toNat : Int)))) - (IntKind.wrap .u32 (y1.2 * (IntKind.wrap .u32 (x3.toNat : Int)))))) == y1.1) (by kernel_rfl) hc ?_
                refine WO_seg 9 [(77, .bool false)] (by kernel_rfl) (by kernel_rfl) ?_
                obtain rfl := Option.some.inj hr
                exact WO_env _ (by kernel_rfl) (K _ _ ⟨m6, rfl, hm, st⟩)
          · intro hc
            rw [if_neg (not_true hc)] at hr
            refine W_exit ?_
            refine X_then_exit ?_
            obtain rfl := Option.some.inj hr
            have ho := hBu2 _ rfl
            refine X_then_exit ?_
            exact X_env _ (by kernel_rfl) (K2_u2 _ _ ⟨(), m6, ho, rfl, hm, st⟩)
    · intro K
      clear hrK
      refine WO_seg 4 [(33, .bool (o1 == y1.1))] (by kernel_rfl) (by kernel_rfl) ?_
      rcases bcases (o1 == y1.1) with hc | hc
      · rw [if_pos hc] at hr
        refine WO_fact (t := 33) (b := true) (o1 == y1.1) (by kernel_rfl) hc ?_
        refine WO_seg 2 [(34, .string p0), (35, .int .i64 (ByteArray.size p1 : Int))] (by kernel_rfl) (by kernel_rfl) ?_
        replace hr := bindS hr
        obtain ⟨s2, hx3, hr⟩ := hr
        refine WO_one rfl (One_strSlice (d := 36) (t := 9) (x := (.tmp 34)) (lo := none) (hi := (some (.tmp 35))) (by kernel_rfl) rfl (show evL _ _ = some (.string p0) from (by kernel_rfl)) (by kernel_rfl) (.inl ⟨rfl, rfl⟩) (.inr ⟨_, _, rfl, (show evL _ _ = some (.int .i64 (ByteArray.size p1 : Int)) from (by kernel_rfl))⟩) hx3 ?_)
        refine WO_seg 3 [(39, .bool (s2.toList == p1.toList))] (by kernel_rfl) (by kernel_rfl) ?_
        obtain rfl := Option.some.inj hr
        exact WO_env _ (by kernel_rfl) (K _ _ ⟨m2, rfl, hm, st⟩)
      · rw [if_neg (not_true hc)] at hr
        refine WO_fact (t := 33) (b := false) (o1 == y1.1) (by kernel_rfl) hc ?_
        refine WO_seg 6 [(39, .bool false)] (by kernel_rfl) (by kernel_rfl) ?_
        obtain rfl := Option.some.inj hr
        exact WO_env _ (by kernel_rfl) (K _ _ ⟨m2, rfl, hm, st⟩)
  intro K0_u1
  clear hrKu1
  refine W_env _ (by kernel_rfl) (W_loop (fun k1 L' w' => ∃ (s1 : Int × Int) (m3 : Mem), loopM (internal_bytealg_IndexRabinKarp_string_L1 N p0 p1) k1 s1 = some out1 ∧ L' = [(0, .string p0), (1, .string p1), (5, .int .u32 y1.1), (6, .int .u32 y1.2), (7, .int .i64 (ByteArray.size p1 : Int)), (8, .int .u32 s1.1), (9, .int .i64 s1.2)] ∧ m.le m3 ∧ St m3 (own) w') N ⟨(0, 0), m1, hr, rfl, hm, st⟩ ?_)
  clear st hr
  rintro k1 _ w3 ⟨s1, m3, hL, rfl, hm, st⟩
  rcases k1 with _ | k1
  · exact loopM_zero hL
  · obtain ⟨qu1, hr, hSu1, hBu1⟩ := loopM_succ hL
    clear hL
    unfold internal_bytealg_IndexRabinKarp_string_L1 at hr
    refine W_seq ?_
    refine W_seq ?_
    refine W_region ?_
    refine WO_seg 3 [(20, .bool (decide (s1.2 < (ByteArray.size p1 : Int))))] (by kernel_rfl) (by kernel_rfl) ?_
    refine WO_end rfl ?_
    refine X_then ?_
    refine W_cond (decide (s1.2 < (ByteArray.size p1 : Int))) (by kernel_rfl) ?_ ?_
    · intro hc
      rw [if_pos hc] at hr
      refine W_skip ?_
      refine X_then ?_
      refine W_seq ?_
      refine W_block ?_
      refine W_region ?_
      refine WO_seg 4 [(24, .int .u32 (IntKind.wrap .u32 (s1.1 * 16777619))), (25, .string p0), (26, .int .i64 s1.2)] (by kernel_rfl) (by kernel_rfl) ?_
      replace hr := bindS hr
      obtain ⟨x1, hx2, hr⟩ := hr
      refine WO_one rfl (One_strIndex (d := 27) (t := 9) (x := (.tmp 25)) (y := (.tmp 26)) (by kernel_rfl) rfl (show evL _ _ = some (.string p0) from (by kernel_rfl)) (show evL _ _ = some (.int .i64 s1.2) from (by kernel_rfl)) (by kernel_rfl) hx2 ?_)
      refine WO_seg 3 [(8, .int .u32 (IntKind.wrap .u32 ((IntKind.wrap .u32 (s1.1 * 16777619)) + (IntKind.wrap .u32 (x1.toNat : Int)))))] (by kernel_rfl) (by kernel_rfl) ?_
      refine WO_end rfl ?_
      refine X_block ?_
      refine X_then ?_
      refine W_region ?_
      refine WO_seg 3 [(9, .int .i64 (IntKind.wrap .i64 (s1.2 + 1)))] (by kernel_rfl) (by kernel_rfl) ?_
      refine WO_end rfl ?_
      obtain rfl := Option.some.inj hr
      have hL := hSu1 _ rfl
      exact X_env _ (by kernel_rfl) (X_round k1 (Nat.lt_succ_self _) ⟨(IntKind.wrap .u32 ((IntKind.wrap .u32 (s1.1 * 16777619)) + (IntKind.wrap .u32 (x1.toNat : Int))), IntKind.wrap .i64 (s1.2 + 1)), m3, hL, rfl, hm, st⟩)
    · intro hc
      rw [if_neg (not_true hc)] at hr
      refine W_exit ?_
      refine X_then_exit ?_
      obtain rfl := Option.some.inj hr
      have ho := hBu1 _ rfl
      refine X_then_exit ?_
      exact X_env _ (by kernel_rfl) (K0_u1 _ _ ⟨s1.1, m3, ho, rfl, hm, st⟩)

def internal_stringslite_Index (N : Nat) (p0 : ByteArray) (p1 : ByteArray) : Option (Int) :=
  (if ((ByteArray.size p1 : Int) == 0) = true then (some true) else (some (p1.toList == p0.toList)) : Option (Bool)).bind fun o1 => if o1 = true then (some 0) else (if ((ByteArray.size p1 : Int) == 1) = true then ((idxB p1 0).bind fun x1 => (internal_stringslite_IndexByte N p0 (x1.toNat : Int)).bind fun y1 => some y1) else (if (decide ((ByteArray.size p1 : Int) ≥ (ByteArray.size p0 : Int))) = true then (some (-1)) else none))

set_option maxHeartbeats 4000000 in
set_option maxRecDepth 100000 in
theorem internal_stringslite_Index_ok {N : Nat} {m : Mem} {own : List Piece} {w : World} {p0 : ByteArray} {p1 : ByteArray} {r : Int} (st : St m (own) w) (hr : internal_stringslite_Index N p0 p1 = some r) : Calls Go.Proofs.Tryd.prog 119 #[.string p0, .string p1] w fun e w' => ∃ (m' : Mem), e = .returned (.int .i64 r) ∧ m.le m' ∧ St m' (own) w' := by
  unfold internal_stringslite_Index at hr
  have hm := m.le_refl
  refine W_calls Go.Proofs.Tryd.func119 rfl Go.Proofs.Tryd.ntmps119 [(0, .string p0), (1, .string p1)] (by kernel_rfl) rfl ?_
  refine W_seq ?_
  refine W_region ?_
  refine WO_seg 1 [] (by kernel_rfl) (by kernel_rfl) ?_
  refine WO_end rfl ?_
  refine X_then ?_
  refine W_seq ?_
  refine W_region ?_
  refine WO_seg 3 [(5, .int .i64 (ByteArray.size p1 : Int))] (by kernel_rfl) (by kernel_rfl) ?_
  refine WO_end rfl ?_
  refine X_then ?_
  refine W_seq ?_
  refine W_block ?_
  refine W_seq ?_
  refine W_region ?_
  replace hr := bindS hr
  obtain ⟨o1, hr, hrK⟩ := hr
  refine WO_cut (j := 8) (fun L' w' => ∃ (m1 : Mem), L' = [(0, .string p0), (1, .string p1), (5, .int .i64 (ByteArray.size p1 : Int)), (16, .bool o1)] ∧ m.le m1 ∧ St m1 (own) w') ?_ ?_
  · clear hr st
    have hr := hrK
    clear hrK
    rintro _ w1 ⟨m1, rfl, hm, st⟩
    refine WO_end rfl ?_
    refine X_then ?_
    refine W_cond o1 (by kernel_rfl) ?_ ?_
    · intro hc
      rw [if_pos hc] at hr
      refine W_seq ?_
      refine W_region ?_
      refine WO_seg 1 [(4, .int .i64 0)] (by kernel_rfl) (by kernel_rfl) ?_
      refine WO_end rfl ?_
      refine X_then ?_
      refine W_ret ?_
      refine X_block_ret ?_
      refine X_then_ret ?_
      obtain rfl := Option.some.inj hr
      refine X_ret [.tmp 4] [.int .i64 0] rfl (ResAll.cons (ResAt.tmp (by kernel_rfl)) ResAll.nil) ?_
      exact ⟨m1, rfl, hm, st⟩
    · intro hc
      rw [if_neg (not_true hc)] at hr
      refine W_seq ?_
      refine W_region ?_
      refine WO_seg 3 [(24, .bool ((ByteArray.size p1 : Int) == 1))] (by kernel_rfl) (by kernel_rfl) ?_
      refine WO_end rfl ?_
      refine X_then ?_
      refine W_cond ((ByteArray.size p1 : Int) == 1) (by kernel_rfl) ?_ ?_
      · intro hc
        rw [if_pos hc] at hr
        refine W_seq ?_
        refine W_region ?_
        refine WO_seg 2 [(27, .string p0), (28, .string p1)] (by kernel_rfl) (by kernel_rfl) ?_
        replace hr := bindS hr
        obtain ⟨x1, hx1, hr⟩ := hr
        refine WO_one rfl (One_strIndex (d := 29) (t := 9) (x := (.tmp 28)) (y := (.const (.int .i64 0))) (by kernel_rfl) rfl (show evL _ _ = some (.string p1) from (by kernel_rfl)) (show evL _ _ = some (.int .i64 0) from (by kernel_rfl)) (by kernel_rfl) hx1 ?_)
        replace hr := bindS hr
        obtain ⟨y1, hx2, hr⟩ := hr
        refine WO_one rfl (One_fn 30 85 #[.string p0, .int .u8 (x1.toNat : Int)] (by kernel_rfl) rfl ?_)
        refine (internal_stringslite_IndexByte_ok st hx2).mono ?_
        clear st
        rintro _ w2 ⟨m2, rfl, hle1, st⟩
        refine ⟨_, rfl, ?_⟩
        have hm := Mem.le_trans hm hle1
        refine WO_seg 1 [(4, .int .i64 y1)] (by kernel_rfl) (by kernel_rfl) ?_
        refine WO_end rfl ?_
        refine X_then ?_
        refine W_ret ?_
        refine X_block_ret ?_
        refine X_then_ret ?_
        obtain rfl := Option.some.inj hr
        refine X_ret [.tmp 4] [.int .i64 y1] rfl (ResAll.cons (ResAt.tmp (by kernel_rfl)) ResAll.nil) ?_
        exact ⟨m2, rfl, hm, st⟩
      · intro hc
        rw [if_neg (not_true hc)] at hr
        refine W_seq ?_
        refine W_region ?_
        refine WO_seg 5 [(31, .bool (decide ((ByteArray.size p1 : Int) ≥ (ByteArray.size p0 : Int))))] (by kernel_rfl) (by kernel_rfl) ?_
        refine WO_end rfl ?_
        refine X_then ?_
        refine W_cond (decide ((ByteArray.size p1 : Int) ≥ (ByteArray.size p0 : Int))) (by kernel_rfl) ?_ ?_
        · intro hc
          rw [if_pos hc] at hr
          refine W_seq ?_
          refine W_region ?_
          refine WO_seg 1 [(4, .int .i64 (-1))] (by kernel_rfl) (by kernel_rfl) ?_
          refine WO_end rfl ?_
          refine X_then ?_
          refine W_ret ?_
          refine X_block_ret ?_
          refine X_then_ret ?_
          obtain rfl := Option.some.inj hr
          refine X_ret [.tmp 4] [.int .i64 (-1)] rfl (ResAll.cons (ResAt.tmp (by kernel_rfl)) ResAll.nil) ?_
          exact ⟨m1, rfl, hm, st⟩
        · intro hc
          rw [if_neg (not_true hc)] at hr
          cases hr
  · intro K
    clear hrK
    refine WO_seg 3 [(19, .bool ((ByteArray.size p1 : Int) == 0))] (by kernel_rfl) (by kernel_rfl) ?_
    rcases bcases ((ByteArray.size p1 : Int) == 0) with hc | hc
    · rw [if_pos hc] at hr
      refine WO_fact (t := 19) (b := true) ((ByteArray.size p1 : Int) == 0) (by kernel_rfl) hc ?_
      refine WO_seg 5 [(16, .bool true)] (by kernel_rfl) (by kernel_rfl) ?_
      obtain rfl := Option.some.inj hr
      exact WO_env _ (by kernel_rfl) (K _ _ ⟨m, rfl, hm, st⟩)
    · rw [if_neg (not_true hc)] at hr
      refine WO_fact (t := 19) (b := false) ((ByteArray.size p1 : Int) == 0) (by kernel_rfl) hc ?_
      refine WO_seg 5 [(16, .bool (p1.toList == p0.toList))] (by kernel_rfl) (by kernel_rfl) ?_
      obtain rfl := Option.some.inj hr
      exact WO_env _ (by kernel_rfl) (K _ _ ⟨m, rfl, hm, st⟩)

def strings_Index (N : Nat) (p0 : ByteArray) (p1 : ByteArray) : Option (Int) :=
  (internal_stringslite_Index N p0 p1).bind fun y1 => some y1

set_option maxHeartbeats 4000000 in
set_option maxRecDepth 100000 in
theorem strings_Index_ok {N : Nat} {m : Mem} {own : List Piece} {w : World} {p0 : ByteArray} {p1 : ByteArray} {r : Int} (st : St m (own) w) (hr : strings_Index N p0 p1 = some r) : Calls Go.Proofs.Tryd.prog 104 #[.string p0, .string p1] w fun e w' => ∃ (m' : Mem), e = .returned (.int .i64 r) ∧ m.le m' ∧ St m' (own) w' := by
  unfold strings_Index at hr
  have hm := m.le_refl
  refine W_calls Go.Proofs.Tryd.func104 rfl Go.Proofs.Tryd.ntmps104 [(0, .string p0), (1, .string p1)] (by kernel_rfl) rfl ?_
  refine W_seq ?_
  refine W_region ?_
  refine WO_seg 1 [] (by kernel_rfl) (by kernel_rfl) ?_
  refine WO_end rfl ?_
  refine X_then ?_
  refine W_seq ?_
  refine W_region ?_
  refine WO_seg 2 [(5, .string p0), (6, .string p1)] (by kernel_rfl) (by kernel_rfl) ?_
  replace hr := bindS hr
  obtain ⟨y1, hx1, hr⟩ := hr
  refine WO_one rfl (One_fn 7 119 #[.string p0, .string p1] (by kernel_rfl) rfl ?_)
  refine (internal_stringslite_Index_ok st hx1).mono ?_
  clear st
  rintro _ w1 ⟨m1, rfl, hle1, st⟩
  refine ⟨_, rfl, ?_⟩
  have hm := Mem.le_trans hm hle1
  refine WO_seg 1 [(4, .int .i64 y1)] (by kernel_rfl) (by kernel_rfl) ?_
  refine WO_end rfl ?_
  refine X_then ?_
  refine W_ret ?_
  obtain rfl := Option.some.inj hr
  refine X_ret [.tmp 4] [.int .i64 y1] rfl (ResAll.cons (ResAt.tmp (by kernel_rfl)) ResAll.nil) ?_
  exact ⟨m1, rfl, hm, st⟩

def strings_Count_L1 (N : Nat) (p1 : ByteArray) (s1 : ByteArray × Int) : Option ((ByteArray × Int) ⊕ ((Int))) :=
  (strings_Index N s1.1 p1).bind fun y1 => if (y1 == (-1)) = true then (some (.inr s1.2)) else ((subB s1.1 (IntKind.wrap .i64 (y1 + (ByteArray.size p1 : Int))) (ByteArray.size s1.1 : Int)).bind fun s2 => some (.inl (s2, IntKind.wrap .i64 (s1.2 + 1))))

def strings_Count (N : Nat) (p0 : ByteArray) (p1 : ByteArray) : Option (Int) :=
  if ((ByteArray.size p1 : Int) == 0) = true then none else (if ((ByteArray.size p1 : Int) == 1) = true then ((idxB p1 0).bind fun x1 => some (cntB p0 (x1.toNat : Int))) else ((loopM (strings_Count_L1 N p1) N (p0, 0)).bind fun z => some z))

set_option maxHeartbeats 4000000 in
set_option maxRecDepth 100000 in
theorem strings_Count_ok {N : Nat} {m : Mem} {own : List Piece} {w : World} {p0 : ByteArray} {p1 : ByteArray} {r : Int} (st : St m (own) w) (hr : strings_Count N p0 p1 = some r) : Calls Go.Proofs.Tryd.prog 103 #[.string p0, .string p1] w fun e w' => ∃ (m' : Mem), e = .returned (.int .i64 r) ∧ m.le m' ∧ St m' (own) w' := by
  unfold strings_Count at hr
  have hm := m.le_refl
  refine W_calls Go.Proofs.Tryd.func103 rfl Go.Proofs.Tryd.ntmps103 [(0, .string p0), (1, .string p1)] (by kernel_rfl) rfl ?_
  refine W_seq ?_
  refine W_region ?_
  refine WO_seg 1 [] (by kernel_rfl) (by kernel_rfl) ?_
  refine WO_end rfl ?_
  refine X_then ?_
  refine W_seq ?_
  refine W_seq ?_
  refine W_region ?_
  refine WO_seg 3 [(9, .bool ((ByteArray.size p1 : Int) == 0))] (by kernel_rfl) (by kernel_rfl) ?_
  refine WO_end rfl ?_
  refine X_then ?_
  refine W_cond ((ByteArray.size p1 : Int) == 0) (by kernel_rfl) ?_ ?_
  · intro hc
    rw [if_pos hc] at hr
    cases hr
  · intro hc
    rw [if_neg (not_true hc)] at hr
    refine W_skip ?_
    refine X_then ?_
    refine W_seq ?_
    refine W_seq ?_
    refine W_region ?_
    refine WO_seg 3 [(15, .bool ((ByteArray.size p1 : Int) == 1))] (by kernel_rfl) (by kernel_rfl) ?_
    refine WO_end rfl ?_
    refine X_then ?_
    refine W_cond ((ByteArray.size p1 : Int) == 1) (by kernel_rfl) ?_ ?_
    · intro hc
      rw [if_pos hc] at hr
      refine W_seq ?_
      refine W_region ?_
      refine WO_seg 2 [(16, .string p0), (17, .string p1)] (by kernel_rfl) (by kernel_rfl) ?_
      replace hr := bindS hr
      obtain ⟨x1, hx1, hr⟩ := hr
      refine WO_one rfl (One_strIndex (d := 18) (t := 9) (x := (.tmp 17)) (y := (.const (.int .i64 0))) (by kernel_rfl) rfl (show evL _ _ = some (.string p1) from (by kernel_rfl)) (show evL _ _ = some (.int .i64 0) from (by kernel_rfl)) (by kernel_rfl) hx1 ?_)
      refine WO_one rfl (One_countByte (d := 19) (f := 118) (x := (.tmp 16)) (y := (.tmp 18)) (ts := #[9, 5]) (by kernel_rfl) rfl (show evL _ _ = some (.string p0) from (by kernel_rfl)) (show evL _ _ = some (.int .u8 (x1.toNat : Int)) from (by kernel_rfl)) Go.Proofs.Tryd.func118 (by kernel_rfl) (by kernel_rfl) ?_)
      refine WO_seg 1 [(4, .int .i64 (cntB p0 (x1.toNat : Int)))] (by kernel_rfl) (by kernel_rfl) ?_
      refine WO_end rfl ?_
      refine X_then ?_
      refine W_ret ?_
      refine X_then_ret ?_
      obtain rfl := Option.some.inj hr
      refine X_ret [.tmp 4] [.int .i64 (cntB p0 (x1.toNat : Int))] rfl (ResAll.cons (ResAt.tmp (by kernel_rfl)) ResAll.nil) ?_
      exact ⟨m, rfl, hm, st⟩
    · intro hc
      rw [if_neg (not_true hc)] at hr
      refine W_skip ?_
      refine X_then ?_
      refine W_seq ?_
      refine W_region ?_
      refine WO_seg 1 [(5, .int .i64 0)] (by kernel_rfl) (by kernel_rfl) ?_
      refine WO_end rfl ?_
      refine X_then ?_
      refine W_block ?_
      replace hr := bindS hr
      obtain ⟨out1, hr, hrKu1⟩ := hr
      refine W_env _ (by kernel_rfl) (W_loop (fun k1 L' w' => ∃ (s1 : ByteArray × Int) (m1 : Mem), loopM (strings_Count_L1 N p1) k1 s1 = some out1 ∧ L' = [(0, .string s1.1), (1, .string p1), (5, .int .i64 s1.2)] ∧ m.le m1 ∧ St m1 (own) w') N ⟨(p0, 0), m, hr, rfl, hm, st⟩ ?_)
      clear st hr
      rintro k1 _ w1 ⟨s1, m1, hL, rfl, hm, st⟩
      rcases k1 with _ | k1
      · exact loopM_zero hL
      · obtain ⟨qu1, hr, hSu1, hBu1⟩ := loopM_succ hL
        clear hL
        unfold strings_Count_L1 at hr
        refine W_block ?_
        refine W_seq ?_
        refine W_region ?_
        refine WO_seg 2 [(20, .string s1.1), (21, .string p1)] (by kernel_rfl) (by kernel_rfl) ?_
        replace hr := bindS hr
        obtain ⟨y1, hx2, hr⟩ := hr
        refine WO_one rfl (One_fn 22 104 #[.string s1.1, .string p1] (by kernel_rfl) rfl ?_)
        refine (strings_Index_ok st hx2).mono ?_
        clear st
        rintro _ w2 ⟨m2, rfl, hle1, st⟩
        refine ⟨_, rfl, ?_⟩
        have hm := Mem.le_trans hm hle1
        refine WO_seg 1 [(6, .int .i64 y1)] (by kernel_rfl) (by kernel_rfl) ?_
        refine WO_end rfl ?_
        refine X_then ?_
        refine W_seq ?_
        refine W_seq ?_
        refine W_region ?_
        refine WO_seg 2 [(24, .bool (y1 == (-1)))] (by kernel_rfl) (by kernel_rfl) ?_
        refine WO_end rfl ?_
        refine X_then ?_
        refine W_cond (y1 == (-1)) (by kernel_rfl) ?_ ?_
        · intro hc
          rw [if_pos hc] at hr
          refine W_seq ?_
          refine W_region ?_
          refine WO_seg 2 [(4, .int .i64 s1.2)] (by kernel_rfl) (by kernel_rfl) ?_
          refine WO_end rfl ?_
          refine X_then ?_
          refine W_ret ?_
          refine X_then_ret ?_
          refine X_block_ret ?_
          obtain rfl := Option.some.inj hr
          have ho := hBu1 _ rfl
          subst ho
          have hr := hrKu1
          refine X_then_ret ?_
          refine X_block_ret ?_
          obtain rfl := Option.some.inj hr
          refine X_ret [.tmp 4] [.int .i64 s1.2] rfl (ResAll.cons (ResAt.tmp (by kernel_rfl)) ResAll.nil) ?_
          exact ⟨m2, rfl, hm, st⟩
        · intro hc
          rw [if_neg (not_true hc)] at hr
          refine W_skip ?_
          refine X_then ?_
          refine W_seq ?_
          refine W_region ?_
          refine WO_seg 3 [(5, .int .i64 (IntKind.wrap .i64 (s1.2 + 1)))] (by kernel_rfl) (by kernel_rfl) ?_
          refine WO_end rfl ?_
          refine X_then ?_
          refine W_region ?_
          refine WO_seg 5 [(28, .string s1.1), (32, .int .i64 (IntKind.wrap .i64 (y1 + (ByteArray.size p1 : Int))))] (by kernel_rfl) (by kernel_rfl) ?_
          replace hr := bindS hr
          obtain ⟨s2, hx3, hr⟩ := hr
          refine WO_one rfl (One_strSlice (d := 33) (t := 9) (x := (.tmp 28)) (lo := (some (.tmp 32))) (hi := none) (by kernel_rfl) rfl (show evL _ _ = some (.string s1.1) from (by kernel_rfl)) (by kernel_rfl) (.inr ⟨_, _, rfl, (show evL _ _ = some (.int .i64 (IntKind.wrap .i64 (y1 + (ByteArray.size p1 : Int)))) from (by kernel_rfl))⟩) (.inl ⟨rfl, rfl⟩) hx3 ?_)
          refine WO_seg 1 [(0, .string s2)] (by kernel_rfl) (by kernel_rfl) ?_
          refine WO_end rfl ?_
          refine X_block ?_
          obtain rfl := Option.some.inj hr
          have hL := hSu1 _ rfl
          exact X_env _ (by kernel_rfl) (X_round k1 (Nat.lt_succ_self _) ⟨(s2, IntKind.wrap .i64 (s1.2 + 1)), m2, hL, rfl, hm, st⟩)

end Go.Proofs.YtfodebccikifcaaDoor
