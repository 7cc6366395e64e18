/- MADE BY gen.py: plain functions and the proofs that the Go functions compute them. No condition but those of each theorem. -/
import Derived.Test.YtgggihpbhmbjaaaGreatDoorProg
import Derived.Test.YtgggihpbhmbjaaaGreatDoorViewy3
import Derived.Test.YtgggihpbhmbjaaaGreatDoorMapDy3
import Derived.Test.YtgggihpbhmbjaaaGreatDoorLiny3
import Derived.Test.YtgggihpbhmbjaaaGreatDoorTConDy3
namespace Go.Proofs.YtgggihpbhmbjaaaGreatDoor
open Go Go.Dc
def filediff_Diff_L1 (N : Nat) (p0 : (List (ByteArray × ByteArray))) (p1 : (List (ByteArray × ByteArray))) (s1 : (List (Int × ByteArray × ByteArray × ByteArray)) × Int × (Option (List (ByteArray × List ByteArray)))) : Option (((List (Int × ByteArray × ByteArray × ByteArray)) × Int × (Option (List (ByteArray × List ByteArray)))) ⊕ (((List (Int × ByteArray × ByteArray × ByteArray)) × (Option (List (ByteArray × List ByteArray)))))) :=
 if (decide (s1.2.1 < (List.length p0 : Int))) = true then (((idx p0 s1.2.1).bind fun x1 => (revision_Find N p1 x1.1).bind fun y3 => if (!y3.2) = true then ((appendS 16 ((mgetQ s1.2.2 x1.2).getD []) ([x1.1])).bind fun l1 => (msetQ s1.2.2 x1.2 l1).bind fun mp1 => some (s1.1, mp1)) else (if (!(y3.1.toList == x1.2.toList)) = true then ((appendS 56 s1.1 ([(3, x1.1, (⟨#[]⟩ : ByteArray), y3.1)])).bind fun l2 => some (l2, s1.2.2)) else (some (s1.1, s1.2.2))) : Option ((List (Int × ByteArray × ByteArray × ByteArray)) × (Option (List (ByteArray × List ByteArray))))).bind fun o3 => some (.inl (o3.1, IntKind.wrap .i64 (s1.2.1 + 1), o3.2))) else (some (.inr (s1.1, s1.2.2)))
def filediff_Diff_L2 (N : Nat) (p0 : (List (ByteArray × ByteArray))) (p1 : (List (ByteArray × ByteArray))) (s2 : (List (Int × ByteArray × ByteArray × ByteArray)) × Int × (Option (List (ByteArray × List ByteArray)))) : Option (((List (Int × ByteArray × ByteArray × ByteArray)) × Int × (Option (List (ByteArray × List ByteArray)))) ⊕ (((List (Int × ByteArray × ByteArray × ByteArray)) × (Option (List (ByteArray × List ByteArray)))))) :=
 if (decide (s2.2.1 < (List.length p1 : Int))) = true then (((idx p1 s2.2.1).bind fun x2 => (revision_Find N p0 x2.1).bind fun y4 => if y4.2 = true then (some (s2.1, s2.2.2)) else (if ((List.length ((mgetQ s2.2.2 x2.2).getD ([] : List (ByteArray))) : Int) == 0) = true then ((appendS 56 s2.1 ([(1, x2.1, (⟨#[]⟩ : ByteArray), x2.2)])).bind fun l3 => some (l3, s2.2.2)) else ((idx ((mgetQ s2.2.2 x2.2).getD ([] : List (ByteArray))) 0).bind fun x3 => (appendS 56 s2.1 ([(4, x2.1, x3, (⟨#[]⟩ : ByteArray))])).bind fun l4 => (subS ((mgetQ s2.2.2 x2.2).getD ([] : List (ByteArray))) 1 (List.length ((mgetQ s2.2.2 x2.2).getD ([] : List (ByteArray))) : Int)).bind fun l5 => (msetQ s2.2.2 x2.2 l5).bind fun mp2 => if ((List.length ((mgetQ s2.2.2 x2.2).getD ([] : List (ByteArray))) : Int) == 1) = true then (some (l4, mdelQ mp2 x2.2)) else (some (l4, mp2)))) : Option ((List (Int × ByteArray × ByteArray × ByteArray)) × (Option (List (ByteArray × List ByteArray))))).bind fun o5 => some (.inl (o5.1, IntKind.wrap .i64 (s2.2.1 + 1), o5.2))) else (some (.inr (s2.1, s2.2.2)))
def filediff_Diff_L4 (N : Nat) (kv1 : ByteArray × List ByteArray) (s4 : (List (Int × ByteArray × ByteArray × ByteArray)) × Int) : Option (((List (Int × ByteArray × ByteArray × ByteArray)) × Int) ⊕ (((List (Int × ByteArray × ByteArray × ByteArray))))) :=
 if (decide (s4.2 < (List.length kv1.2 : Int))) = true then ((idx kv1.2 s4.2).bind fun x4 => (appendS 56 s4.1 ([(2, x4, (⟨#[]⟩ : ByteArray), (⟨#[]⟩ : ByteArray))])).bind fun l6 => some (.inl (l6, IntKind.wrap .i64 (s4.2 + 1)))) else (some (.inr s4.1))
def filediff_Diff_L3 (N : Nat) (z1 : Option (ByteArray × List ByteArray)) (s3 : (List (Int × ByteArray × ByteArray × ByteArray))) : Option (((List (Int × ByteArray × ByteArray × ByteArray))) ⊕ (((List (Int × ByteArray × ByteArray × ByteArray))))) :=
 (match z1 with | none => some (.inr s3) | some kv1 => (loopM (filediff_Diff_L4 N kv1) N (s3, 0)).bind fun o7 => some (.inl o7))
def filediff_Diff (N : Nat) (p0 : (List (ByteArray × ByteArray))) (p1 : (List (ByteArray × ByteArray))) : Option ((List (Int × ByteArray × ByteArray × ByteArray)) × Int) :=
 ((revision_Check N p0).bind fun y1 => if (y1 != 0) = true then (some true) else ((revision_Check N p1).bind fun y2 => some (y2 != 0)) : Option (Bool)).bind fun o1 => if o1 = true then (some (([] : List (Int × ByteArray × ByteArray × ByteArray)), 1)) else ((loopM (filediff_Diff_L1 N p0 p1) N (([] : List (Int × ByteArray × ByteArray × ByteArray)), 0, (some [] : Option (List (ByteArray × List ByteArray))))).bind fun o2 => (loopM (filediff_Diff_L2 N p0 p1) N (o2.1, 0, o2.2)).bind fun o4 => mrangeK (filediff_Diff_L3 N) (Option.getD o4.2 []) o4.1 (fun o6 => (slices_SortFunc_api_Change_api_Change_S_filediff_Diff_1 N o6).bind fun y5 => some (y5, 0)))
set_option maxHeartbeats 4000000 in
set_option maxRecDepth 100000 in
theorem filediff_Diff_ok {N : Nat} {m : Mem} {own : List Piece} {w : World} {p0 : (List (ByteArray × ByteArray))} {p1 : (List (ByteArray × ByteArray))} {a1 : Option Addr} {c1 : Nat} {a2 : Option Addr} {c2 : Nat} {r : (List (Int × ByteArray × ByteArray × ByteArray)) × Int} (st : St m (own) w) (r1 : RepS (cPair cStr cStr) m a1 c1 p0) (r2 : RepS (cPair cStr cStr) m a2 c2 p1) (hr : filediff_Diff N p0 p1 = some r) : Calls Tryz.prog 24 #[.agg #[.slice a1 (List.length p0) c1], .agg #[.slice a2 (List.length p1) c2]] w fun e w' => ∃ (ra1 : Option Addr) (rc1 : Nat) (m' : Mem), e = .returned (.tuple #[.slice ra1 (List.length r.1) rc1, .int .i64 r.2]) ∧ m.le m' ∧ St m' (.room ra1 (List.length r.1) rc1 72 4 :: own) w' ∧ RepS (cPair (cInt .i64) (cPair cStr (cPair cStr cStr))) m' ra1 rc1 r.1 := by
 unfold filediff_Diff at hr
 have hm := m.le_refl
 refine W_calls Tryz.func24 rfl Tryz.ntmps24 [(0, .agg #[.slice a1 (List.length p0) c1]), (1, .agg #[.slice a2 (List.length p1) c2])] kr rfl ?_
 refine W_sr (WO_one rfl (One_box (d := 2) (e := 25) (x := (.tmp 0)) (.agg #[.slice a1 (List.length p0) c1]) kr rfl kr st ?_))
 clear st
 intro b1 m1 w1 hle1 st hb1
 have hm := Mem.le_trans hm hle1
 have r1 := r1.mono hle1
 have r2 := r2.mono hle1
 refine WO_one rfl (One_box (d := 3) (e := 25) (x := (.tmp 1)) (.agg #[.slice a2 (List.length p1) c2]) kr rfl kr st ?_)
 clear st
 intro b2 m2 w2 hle2 st hb2
 have hm := Mem.le_trans hm hle2
 have r1 := r1.mono hle2
 have r2 := r2.mono hle2
 have hb1 := hb1.mono hle2
 refine WO_seg 2 [] kr kr ?_
 refine WO_et rfl (W_seq ?_)
 refine W_sr ?_
 replace ⟨o1, hr, hrK⟩ := bindS hr
 refine WO_cut (j := 8) (fun L' w' => ∃ (m3 : Mem), L' = [(2, .pointer (some ⟨b1, 0, none⟩)), (3, .pointer (some ⟨b2, 0, none⟩)), (28, .bool o1)] ∧ m.le m3 ∧ St m3 (own) w' ∧ MRow m3 b1 0 [.slice a1 (List.length p0) c1] ∧ RepS (cPair cStr cStr) m3 a1 c1 p0 ∧ MRow m3 b2 0 [.slice a2 (List.length p1) c2] ∧ RepS (cPair cStr cStr) m3 a2 c2 p1) ?_ ?_
 ·clear hr st
  have hr := hrK
  clear hrK
  rintro _ w3 ⟨m3, rfl, hm, st, hb1, r1, hb2, r2⟩
  refine WO_et rfl (W_cond o1 kr ?_ ?_)
  ·intro hc
   rw [if_pos hc] at hr
   refine W_sr (WO_seg 2 [(4, .slice none (List.length ([] : List (Int × ByteArray × ByteArray × ByteArray))) 0), (5, .int .i64 1)] kr kr ?_)
   refine WO_et rfl (W_ret ?_)
   refine X_then_ret ?_
   obtain rfl := Option.some.inj hr
   refine X_ret [.tmp 4, .tmp 5] [.slice none (List.length ([] : List (Int × ByteArray × ByteArray × ByteArray))) 0, .int .i64 1] rfl (ResAll.cons (ResAt.tmp kr) (ResAll.cons (ResAt.tmp kr) ResAll.nil)) ?_
   have st := st.nilroom 72 4
   exact ⟨none, 0, m3, rfl, hm, st, (RepS.nil _ _)⟩
  ·intro hc
   rw [if_neg (not_true hc)] at hr
   refine W_skip ?_
   refine X_then ?_
   refine W_sr (WO_seg 1 [(6, .slice none (List.length ([] : List (Int × ByteArray × ByteArray × ByteArray))) 0)] kr kr ?_)
   refine WO_et rfl (W_sr ?_)
   refine WO_one rfl (One_makeMap (d := 29) (t := 126) kr rfl st ?_)
   clear st
   intro b3 w6 st
   have st : St m3 (mpiece (some b3) #[] 0 :: (roomsV 9 1 #[] ++ own)) w6 := st
   refine WO_seg 1 [(7, .map (some b3))] kr kr ?_
   refine WO_et rfl (W_seq ?_)
   refine W_sr (WO_seg 1 [(30, .pointer (some ⟨b1, 0, none⟩))] kr kr ?_)
   refine WO_one rfl (One_load_row (d := 31) (t := 23) (x := (.tmp 30)) (.slice a1 (List.length p0) c1) kr rfl (ev (.pointer (some ⟨b1, 0, none⟩))) st hb1 kr ?_)
   refine WO_seg 2 [(32, .int .i64 (List.length p0 : Int)), (33, .int .i64 0)] kr kr ?_
   refine WO_et rfl (W_block ?_)
   have st := room_opc (f := (fun x : Int × ByteArray × ByteArray × ByteArray => ([.int .i64 x.1, .string x.2.1, .string x.2.2.1, .string x.2.2.2] : List Value))) (st.nilroom 72 4)
   replace ⟨out1, hr, hrKu1⟩ := bindS hr
   refine W_cut (.exit 0) (fun L' w' => ∃ (o2 : (List (Int × ByteArray × ByteArray × ByteArray)) × (Option (List (ByteArray × List ByteArray)))) (a3 : Option Addr) (c3 : Nat) (T1 : List Value) (es1 : Array MapEntry) (ck1 : Nat) (m6 : Mem), o2 = out1 ∧ L' = [(2, .pointer (some ⟨b1, 0, none⟩)), (3, .pointer (some ⟨b2, 0, none⟩)), (6, .slice a3 (List.length o2.1) c3), (7, .map (some b3))] ∧ m.le m6 ∧ St m6 (mpiece (some b3) es1 ck1 :: opc a3 (acellsM (fun x : Int × ByteArray × ByteArray × ByteArray => ([.int .i64 x.1, .string x.2.1, .string x.2.2.1, .string x.2.2.2] : List Value)) o2.1 T1) 72 :: (roomsV 9 1 es1 ++ own)) w' ∧ MRow m6 b1 0 [.slice a1 (List.length p0) c1] ∧ RepS (cPair cStr cStr) m6 a1 c1 p0 ∧ MRow m6 b2 0 [.slice a2 (List.length p1) c2] ∧ RepS (cPair cStr cStr) m6 a2 c2 p1 ∧ MapQ (fun s : ByteArray => Value.string s) (cSl cStr) false m6 (some b3) es1 ck1 o2.2 ∧ OAS a3 (List.length o2.1) c3 4 T1) ?_ ?_
   ·clear hr st
    rintro _ w7 ⟨o2, a3, c3, T1, es1, ck1, m6, rfl, rfl, hm, st, hb1, r1, hb2, r2, r3, hs1⟩
    have hr := hrKu1
    clear hrKu1
    refine X_block_eq ?_
    refine X_then ?_
    refine W_seq ?_
    refine W_sr (WO_seg 1 [(71, .pointer (some ⟨b2, 0, none⟩))] kr kr ?_)
    refine WO_one rfl (One_load_row (d := 72) (t := 23) (x := (.tmp 71)) (.slice a2 (List.length p1) c2) kr rfl (ev (.pointer (some ⟨b2, 0, none⟩))) st hb2 kr ?_)
    refine WO_seg 2 [(73, .int .i64 (List.length p1 : Int)), (74, .int .i64 0)] kr kr ?_
    refine WO_et rfl (W_block ?_)
    have st : St m6 (mpiece (some b3) es1 ck1 :: opc a3 (acellsM (fun x : Int × ByteArray × ByteArray × ByteArray => ([.int .i64 x.1, .string x.2.1, .string x.2.2.1, .string x.2.2.2] : List Value)) o2.1 T1) 72 :: own) w7 := St.dropR (l := [mpiece (some b3) es1 ck1, opc a3 (acellsM (fun x : Int × ByteArray × ByteArray × ByteArray => ([.int .i64 x.1, .string x.2.1, .string x.2.2.1, .string x.2.2.2] : List Value)) o2.1 T1) 72]) st
    replace ⟨out2, hr, hrKu3⟩ := bindS hr
    refine W_cut (.exit 3) (fun L' w' => ∃ (o4 : (List (Int × ByteArray × ByteArray × ByteArray)) × (Option (List (ByteArray × List ByteArray)))) (a9 : Option Addr) (c9 : Nat) (T5 : List Value) (es5 : Array MapEntry) (ck5 : Nat) (m13 : Mem), o4 = out2 ∧ L' = [(6, .slice a9 (List.length o4.1) c9), (7, .map (some b3))] ∧ m.le m13 ∧ St m13 (mpiece (some b3) es5 ck5 :: opc a9 (acellsM (fun x : Int × ByteArray × ByteArray × ByteArray => ([.int .i64 x.1, .string x.2.1, .string x.2.2.1, .string x.2.2.2] : List Value)) o4.1 T5) 72 :: own) w' ∧ MapQ (fun s : ByteArray => Value.string s) (cSl cStr) false m13 (some b3) es5 ck5 o4.2 ∧ OAS a9 (List.length o4.1) c9 4 T5) ?_ ?_
    ·clear hr st
     rintro _ w19 ⟨o4, a9, c9, T5, es5, ck5, m13, rfl, rfl, hm, st, r11, hs5⟩
     have hr := hrKu3
     clear hrKu3
     refine X_block_eq ?_
     refine X_then ?_
     refine W_seq ?_
     refine W_sr (WO_seg 1 [(122, .map (some b3))] kr kr ?_)
     refine WO_one rfl (One_range (ek := (fun s : ByteArray => Value.string s)) (c := (cSl cStr)) (agg := false) (d := 123) (t := 126) (kt := 9) (et := 33) (x := (.tmp 122)) kr rfl (ev (.map (some b3))) kr st r11 ?_)
     clear st
     intro b13 w33 st hi1
     refine WO_et rfl (W_block ?_)
     obtain ⟨PKu5, hPKu5, hr⟩ := LoopP.start hr
     refine W_cut (.exit 5) (fun L' w' => ∃ (o6 : (List (Int × ByteArray × ByteArray × ByteArray))) (a16 : Option Addr) (c16 : Nat) (T10 : List Value) (sn1 : Array Nat) (rem1 : List (ByteArray × List ByteArray)) (m19 : Mem), PKu5 o6 ∧ L' = [(6, .slice a16 (List.length o6) c16)] ∧ m.le m19 ∧ St m19 (mpiece (some b3) es5 ck5 :: opc a16 (acellsM (fun x : Int × ByteArray × ByteArray × ByteArray => ([.int .i64 x.1, .string x.2.1, .string x.2.2.1, .string x.2.2.2] : List Value)) o6 T10) 72 :: itpiece b13 (some b3) ck5 sn1 :: own) w' ∧ MapQ (fun s : ByteArray => Value.string s) (cSl cStr) false m19 (some b3) es5 ck5 o4.2 ∧ OAS a16 (List.length o6) c16 4 T10 ∧ ItR (fun s : ByteArray => Value.string s) (cSl cStr) false m19 es5 sn1 rem1) ?_ ?_
     ·clear hr st
      rintro _ w34 ⟨o6, a16, c16, T10, sn1, rem1, m19, hPou5, rfl, hm, st, r11, hs10, hi2⟩
      have hr := hPKu5 _ hPou5
      clear hPou5 hPKu5
      try dsimp only at hr
      refine X_block_eq ?_
      refine X_then ?_
      refine W_sr (WO_seg 1 [(140, .slice a16 (List.length o6) c16)] kr kr ?_)
      replace ⟨y5, hx19, hr⟩ := bindS hr
      have st := st.front1
      refine WO_one rfl (One_fn 141 77 #[.slice a16 (List.length o6) c16, .func (.func 78) #[] #[]] kr rfl ?_)
      refine (slices_SortFunc_api_Change_api_Change_own_filediff_Diff_1 st hs10 rfl hx19).mono ?_
      clear st
      rintro _ w42 ⟨rfl, st⟩
      refine ⟨_, rfl, ?_⟩
      have hn1 := ((slices_SortFunc_api_Change_api_Change_len_filediff_Diff_1 hx19).trans rfl)
      refine WO_end rfl ?_
      have st := st.front2
      have st := st.tail
      refine X_then ?_
      refine W_sr (WO_seg 3 [(4, .slice a16 (List.length o6) c16), (5, .int .i64 0)] kr kr ?_)
      refine WO_et rfl (W_ret ?_)
      obtain rfl := Option.some.inj hr
      obtain ⟨m25, hle14, st, r23⟩ := St.freezeM (c := (cPair (cInt .i64) (cPair cStr (cPair cStr cStr)))) (f := (fun x : Int × ByteArray × ByteArray × ByteArray => ([.int .i64 x.1, .string x.2.1, .string x.2.2.1, .string x.2.2.2] : List Value))) st hs10 hn1 (fun _ => rfl) (fun _ x => ⟨_, _, rfl, rfl, ⟨_, _, rfl, rfl, ⟨_, _, rfl, rfl, rfl⟩⟩⟩)
      have hm := Mem.le_trans hm hle14
      have r11 := r11.mono hle14
      refine X_env [(4, .slice a16 (List.length y5) c16), (5, .int .i64 0)] (by (try simp only [hn1]); kernel_rfl) ?_
      refine X_ret [.tmp 4, .tmp 5] [.slice a16 (List.length y5) c16, .int .i64 0] rfl (ResAll.cons (ResAt.tmp kr) (ResAll.cons (ResAt.tmp kr) ResAll.nil)) ?_
      have st := st.front1
      have st := st.tail
      exact ⟨a16, c16, m25, rfl, hm, st, r23⟩
     intro K5_u5
     have st := st.front2.front2
     refine W_env _ kr (W_loop (fun k3 L' w' => ∃ (s3 : (List (Int × ByteArray × ByteArray × ByteArray))) (a17 : Option Addr) (c17 : Nat) (T11 : List Value) (sn2 : Array Nat) (rem2 : List (ByteArray × List ByteArray)) (m20 : Mem), LoopP (filediff_Diff_L3 N) rem2 s3 PKu5 k3 ∧ L' = [(6, .slice a17 (List.length s3) c17), (123, .pointer (some ⟨b13, 0, none⟩))] ∧ m.le m20 ∧ St m20 (mpiece (some b3) es5 ck5 :: opc a17 (acellsM (fun x : Int × ByteArray × ByteArray × ByteArray => ([.int .i64 x.1, .string x.2.1, .string x.2.2.1, .string x.2.2.2] : List Value)) s3 T11) 72 :: itpiece b13 (some b3) ck5 sn2 :: own) w' ∧ MapQ (fun s : ByteArray => Value.string s) (cSl cStr) false m20 (some b3) es5 ck5 o4.2 ∧ OAS a17 (List.length s3) c17 4 T11 ∧ ItR (fun s : ByteArray => Value.string s) (cSl cStr) false m20 es5 sn2 rem2) (List.length (Option.getD o4.2 []) + 1) ⟨o4.1, a9, c9, T5, #[], (Option.getD o4.2 []), m13, hr, rfl, hm, st, r11, hs5, hi1⟩ ?_)
     clear st hr
     rintro k3 _ w35 ⟨s3, a17, c17, T11, sn2, rem2, m20, hL, rfl, hm, st, r11, hs11, hi3⟩
     rcases k3 with _ | k3
     ·exact LoopP.zero hL
     ·refine W_sr ?_
      have st := st.front2
      refine WO_one rfl (One_next (ek := (fun s : ByteArray => Value.string s)) (c := (cSl cStr)) (agg := false) (d := 124) (x := (.tmp 123)) kr rfl (ev (.pointer (some ⟨b13, 0, none⟩))) st r11 hi3 ?_ ?_)
      ·intro hx15 w36 st
       obtain ⟨qu5, hr, hSu5, hBu5⟩ := hL.nil hx15
       clear hL
       unfold filediff_Diff_L3 at hr
       dsimp only at hr
       refine WO_seg 1 [(125, .bool false)] kr kr ?_
       refine WO_et rfl (W_seq ?_)
       refine W_cond false kr (fun h => Bool.noConfusion h) ?_
       intro _
       refine W_exit ?_
       refine X_then_exit ?_
       obtain rfl := Option.some.inj hr
       have ho := hBu5 _ rfl
       have st := st.front2.front2
       refine X_then_exit ?_
       exact X_env _ kr (K5_u5 _ _ ⟨s3, a17, c17, T11, sn2, rem2, m20, ho, rfl, hm, st, r11, hs11, hi3⟩)
      ·rintro kv1 rem3 sn3 cs5 w37 hx16 ⟨a18, c18, rfl, r20⟩ st hi4 he1
       obtain ⟨qu5, hr, hSu5, hBu5⟩ := hL.cons hx16
       clear hL
       unfold filediff_Diff_L3 at hr
       dsimp only at hr
       refine WO_seg 1 [(125, .bool true)] kr kr ?_
       refine WO_et rfl (W_seq ?_)
       refine W_cond true kr ?_ (fun h => Bool.noConfusion h)
       intro _
       refine W_skip ?_
       refine X_then ?_
       refine W_block ?_
       refine W_sr ?_
       have st := st.front1.front1
       refine WO_one rfl (One_entry (ek := (fun s : ByteArray => Value.string s)) (c := (cSl cStr)) (agg := false) (d := 126) (x := (.tmp 123)) (K := .string kv1.1) (V := .slice a18 (List.length kv1.2) c18) kr rfl (ev (.pointer (some ⟨b13, 0, none⟩))) st r11 he1 ?_)
       refine WO_seg 2 [(18, .slice a18 (List.length kv1.2) c18)] kr kr ?_
       refine WO_et rfl (W_sr ?_)
       refine WO_seg 3 [(128, .slice a18 (List.length kv1.2) c18), (129, .int .i64 (List.length kv1.2 : Int)), (130, .int .i64 0)] kr kr ?_
       refine WO_et rfl (W_block ?_)
       replace ⟨out4, hr, hrKu6⟩ := bindS hr
       refine W_cut (.exit 7) (fun L' w' => ∃ (o7 : (List (Int × ByteArray × ByteArray × ByteArray))) (a19 : Option Addr) (c19 : Nat) (T12 : List Value) (m21 : Mem), o7 = out4 ∧ L' = [(6, .slice a19 (List.length o7) c19), (123, .pointer (some ⟨b13, 0, none⟩))] ∧ m.le m21 ∧ St m21 (mpiece (some b3) es5 ck5 :: opc a19 (acellsM (fun x : Int × ByteArray × ByteArray × ByteArray => ([.int .i64 x.1, .string x.2.1, .string x.2.2.1, .string x.2.2.2] : List Value)) o7 T12) 72 :: itpiece b13 (some b3) ck5 sn3 :: own) w' ∧ MapQ (fun s : ByteArray => Value.string s) (cSl cStr) false m21 (some b3) es5 ck5 o4.2 ∧ OAS a19 (List.length o7) c19 4 T12 ∧ ItR (fun s : ByteArray => Value.string s) (cSl cStr) false m21 es5 sn3 rem3) ?_ ?_
       ·clear hr st
        rintro _ w38 ⟨o7, a19, c19, T12, m21, rfl, rfl, hm, st, r11, hs12, hi4⟩
        have hr := hrKu6
        clear hrKu6
        refine X_block_eq ?_
        refine X_block ?_
        obtain rfl := Option.some.inj hr
        have hL := hSu5 _ rfl
        have st := st.front2.front2.front2
        exact X_env _ kr (X_round k3 (Nat.lt_succ_self _) ⟨o7, a19, c19, T12, sn3, rem3, m21, hL, rfl, hm, st, r11, hs12, hi4⟩)
       intro K7_u6
       clear hrKu6
       have st := st.front2.front2
       refine W_env _ kr (W_loop (fun k4 L' w' => ∃ (s4 : (List (Int × ByteArray × ByteArray × ByteArray)) × Int) (a20 : Option Addr) (c20 : Nat) (T13 : List Value) (m22 : Mem), loopM (filediff_Diff_L4 N kv1) k4 s4 = some out4 ∧ L' = [(6, .slice a20 (List.length s4.1) c20), (123, .pointer (some ⟨b13, 0, none⟩)), (128, .slice a18 (List.length kv1.2) c18), (129, .int .i64 (List.length kv1.2 : Int)), (130, .int .i64 s4.2)] ∧ m.le m22 ∧ St m22 (mpiece (some b3) es5 ck5 :: opc a20 (acellsM (fun x : Int × ByteArray × ByteArray × ByteArray => ([.int .i64 x.1, .string x.2.1, .string x.2.2.1, .string x.2.2.2] : List Value)) s4.1 T13) 72 :: itpiece b13 (some b3) ck5 sn3 :: own) w' ∧ RepS cStr m22 a18 c18 kv1.2 ∧ MapQ (fun s : ByteArray => Value.string s) (cSl cStr) false m22 (some b3) es5 ck5 o4.2 ∧ OAS a20 (List.length s4.1) c20 4 T13 ∧ ItR (fun s : ByteArray => Value.string s) (cSl cStr) false m22 es5 sn3 rem3) N ⟨(s3, 0), a17, c17, T11, m20, hr, rfl, hm, st, r20, r11, hs11, hi4⟩ ?_)
       clear st hr
       rintro k4 _ w39 ⟨s4, a20, c20, T13, m22, hL, rfl, hm, st, r20, r11, hs13, hi4⟩
       rcases k4 with _ | k4
       ·exact loopM_zero hL
       ·obtain ⟨qu6, hr, hSu6, hBu6⟩ := loopM_succ hL
        clear hL
        unfold filediff_Diff_L4 at hr
        refine W_sr (WO_seg 1 [(131, .bool (decide (s4.2 < (List.length kv1.2 : Int))))] kr kr ?_)
        refine WO_et rfl (W_seq ?_)
        refine W_cond (decide (s4.2 < (List.length kv1.2 : Int))) kr ?_ ?_
        ·intro hc
         rw [if_pos hc] at hr
         refine W_skip ?_
         refine X_then ?_
         refine W_seq ?_
         refine W_block ?_
         refine W_sr ?_
         replace ⟨x4, hx17, hr⟩ := bindS hr
         refine WO_one rfl (One_index (d := 132) (t := 33) (e := 9) (x := (.tmp 128)) (y := (.tmp 130)) cStr kr rfl (ev (.slice a18 (List.length kv1.2) c18)) (ev (.int .i64 s4.2)) kr r20 hx17 ?_)
         rintro b14 f4 cs6 rfl hq4
         refine WO_one rfl (One_load_row (d := 133) (t := 9) (x := (.tmp 132)) (.string x4) kr rfl (ev (.pointer (some ⟨b14, f4, none⟩))) st hq4 kr ?_)
         refine WO_seg 1 [(20, .string x4)] kr kr ?_
         refine WO_et rfl (W_region ?_)
         refine WO_seg 3 [(134, .slice a20 (List.length s4.1) c20), (136, .agg #[.int .i64 2, .string x4, .string (⟨#[]⟩ : ByteArray), .string (⟨#[]⟩ : ByteArray)])] kr kr ?_
         refine WO_one rfl (One_buildSlice (d := 137) (t := 58) (e := 72) (len := 1) (parts := #[(0, (.tmp 136))]) (cPair (cInt .i64) (cPair cStr (cPair cStr cStr))) (xs := [(2, x4, (⟨#[]⟩ : ByteArray), (⟨#[]⟩ : ByteArray))]) [.int .i64 2, .string x4, .string (⟨#[]⟩ : ByteArray), .string (⟨#[]⟩ : ByteArray)] kr rfl (fun _ => buildCells_run kr _) rfl rfl st ⟨[.int .i64 2, .string x4, .string (⟨#[]⟩ : ByteArray), .string (⟨#[]⟩ : ByteArray)], _, rfl, ⟨_, _, rfl, rfl, ⟨_, _, rfl, rfl, ⟨_, _, rfl, rfl, rfl⟩⟩⟩, rfl⟩ ?_)
         clear st
         intro b15 m23 w40 hle12 st r21
         have hm := Mem.le_trans hm hle12
         have r20 := r20.mono hle12
         have r11 := r11.mono hle12
         have hi4 := hi4.mono hle12
         have st := st.front2
         replace ⟨l6, hx18, hr⟩ := bindS hr
         refine WO_one rfl (One_appendM (d := 138) (t := 58) (u := 58) (e := 72) (by_ := 56) (x := (.tmp 134)) (y := (.tmp 137)) (c := (cPair (cInt .i64) (cPair cStr (cPair cStr cStr)))) (f := (fun x : Int × ByteArray × ByteArray × ByteArray => ([.int .i64 x.1, .string x.2.1, .string x.2.2.1, .string x.2.2.2] : List Value))) (l := s4.1) (fun _ _ _ h => by obtain ⟨_, _, rfl, rfl, ⟨_, _, rfl, rfl, ⟨_, _, rfl, rfl, rfl⟩⟩⟩ := h; rfl) (fun _ => rfl) kr rfl (ev (.slice a20 (List.length s4.1) c20)) (ev (.slice (some ⟨b15, 0, none⟩) (List.length ([(2, x4, (⟨#[]⟩ : ByteArray), (⟨#[]⟩ : ByteArray))])) 1)) st hs13 rfl kr (.inl kr) r21.src hx18 ?_)
         clear st
         intro a21 c21 T14 w41 hs14 st
         refine WO_seg 1 [(6, .slice a21 (List.length l6) c21)] kr kr ?_
         refine WO_end rfl ?_
         have st := st.front1
         have st := st.tail
         refine X_block ?_
         refine X_then ?_
         refine W_region ?_
         refine WO_seg 2 [(130, .int .i64 (IntKind.wrap .i64 (s4.2 + 1)))] kr kr ?_
         refine WO_end rfl ?_
         obtain rfl := Option.some.inj hr
         have hL := hSu6 _ rfl
         have st := st.front2.front1.front2
         exact X_env _ kr (X_round k4 (Nat.lt_succ_self _) ⟨(l6, IntKind.wrap .i64 (s4.2 + 1)), a21, c21, T14, m23, hL, rfl, hm, st, r20, r11, hs14, hi4⟩)
        ·intro hc
         rw [if_neg (not_true hc)] at hr
         refine W_exit ?_
         refine X_then_exit ?_
         obtain rfl := Option.some.inj hr
         have ho := hBu6 _ rfl
         have st := st.front2.front2.front2
         refine X_then_exit ?_
         exact X_env _ kr (K7_u6 _ _ ⟨s4.1, a20, c20, T13, m22, ho, rfl, hm, st, r11, hs13, hi4⟩)
    intro K3_u3
    clear hrKu3
    have st := st.front1.front1
    refine W_env _ kr (W_loop (fun k2 L' w' => ∃ (s2 : (List (Int × ByteArray × ByteArray × ByteArray)) × Int × (Option (List (ByteArray × List ByteArray)))) (a10 : Option Addr) (c10 : Nat) (T6 : List Value) (es6 : Array MapEntry) (ck6 : Nat) (m14 : Mem), loopM (filediff_Diff_L2 N p0 p1) k2 s2 = some out2 ∧ L' = [(2, .pointer (some ⟨b1, 0, none⟩)), (6, .slice a10 (List.length s2.1) c10), (7, .map (some b3)), (72, .slice a2 (List.length p1) c2), (73, .int .i64 (List.length p1 : Int)), (74, .int .i64 s2.2.1)] ∧ m.le m14 ∧ St m14 (mpiece (some b3) es6 ck6 :: opc a10 (acellsM (fun x : Int × ByteArray × ByteArray × ByteArray => ([.int .i64 x.1, .string x.2.1, .string x.2.2.1, .string x.2.2.2] : List Value)) s2.1 T6) 72 :: own) w' ∧ MRow m14 b1 0 [.slice a1 (List.length p0) c1] ∧ RepS (cPair cStr cStr) m14 a1 c1 p0 ∧ RepS (cPair cStr cStr) m14 a2 c2 p1 ∧ MapQ (fun s : ByteArray => Value.string s) (cSl cStr) false m14 (some b3) es6 ck6 s2.2.2 ∧ OAS a10 (List.length s2.1) c10 4 T6) N ⟨(o2.1, 0, o2.2), a3, c3, T1, es1, ck1, m6, hr, rfl, hm, st, hb1, r1, r2, r3, hs1⟩ ?_)
    clear st hr
    rintro k2 _ w20 ⟨s2, a10, c10, T6, es6, ck6, m14, hL, rfl, hm, st, hb1, r1, r2, r12, hs6⟩
    rcases k2 with _ | k2
    ·exact loopM_zero hL
    ·obtain ⟨qu3, hr, hSu3, hBu3⟩ := loopM_succ hL
     clear hL
     unfold filediff_Diff_L2 at hr
     refine W_sr (WO_seg 1 [(75, .bool (decide (s2.2.1 < (List.length p1 : Int))))] kr kr ?_)
     refine WO_et rfl (W_seq ?_)
     refine W_cond (decide (s2.2.1 < (List.length p1 : Int))) kr ?_ ?_
     ·intro hc
      rw [if_pos hc] at hr
      refine W_skip ?_
      refine X_then ?_
      refine W_seq ?_
      replace ⟨o5, hr, hrKu4⟩ := bindS hr
      refine W_cut .normal (fun L' w' => ∃ (a11 : Option Addr) (c11 : Nat) (T7 : List Value) (es7 : Array MapEntry) (ck7 : Nat) (m15 : Mem), L' = [(2, .pointer (some ⟨b1, 0, none⟩)), (6, .slice a11 (List.length o5.1) c11), (7, .map (some b3)), (72, .slice a2 (List.length p1) c2), (73, .int .i64 (List.length p1 : Int)), (74, .int .i64 s2.2.1)] ∧ m.le m15 ∧ St m15 (mpiece (some b3) es7 ck7 :: opc a11 (acellsM (fun x : Int × ByteArray × ByteArray × ByteArray => ([.int .i64 x.1, .string x.2.1, .string x.2.2.1, .string x.2.2.2] : List Value)) o5.1 T7) 72 :: own) w' ∧ MRow m15 b1 0 [.slice a1 (List.length p0) c1] ∧ RepS (cPair cStr cStr) m15 a1 c1 p0 ∧ RepS (cPair cStr cStr) m15 a2 c2 p1 ∧ MapQ (fun s : ByteArray => Value.string s) (cSl cStr) false m15 (some b3) es7 ck7 o5.2 ∧ OAS a11 (List.length o5.1) c11 4 T7) ?_ ?_
      ·clear hr st
       have hr := hrKu4
       clear hrKu4
       rintro _ w21 ⟨a11, c11, T7, es7, ck7, m15, rfl, hm, st, hb1, r1, r2, r13, hs7⟩
       refine X_then ?_
       refine W_region ?_
       refine WO_seg 2 [(74, .int .i64 (IntKind.wrap .i64 (s2.2.1 + 1)))] kr kr ?_
       refine WO_end rfl ?_
       obtain rfl := Option.some.inj hr
       have hL := hSu3 _ rfl
       have st := st.front1.front1
       exact X_env _ kr (X_round k2 (Nat.lt_succ_self _) ⟨(o5.1, IntKind.wrap .i64 (s2.2.1 + 1), o5.2), a11, c11, T7, es7, ck7, m15, hL, rfl, hm, st, hb1, r1, r2, r13, hs7⟩)
      ·intro Ku4
       clear hrKu4
       refine W_block ?_
       refine W_sr ?_
       replace ⟨x2, hx8, hr⟩ := bindS hr
       refine WO_one rfl (One_index (d := 76) (t := 23) (e := 74) (x := (.tmp 72)) (y := (.tmp 74)) (cPair cStr cStr) kr rfl (ev (.slice a2 (List.length p1) c2)) (ev (.int .i64 s2.2.1)) kr r2 hx8 ?_)
       rintro b8 f2 cs2 ⟨_, _, rfl, rfl, rfl⟩ hq2
       refine WO_one rfl (One_load_row (d := 77) (t := 74) (x := (.tmp 76)) (.agg #[.string x2.1, .string x2.2]) kr rfl (ev (.pointer (some ⟨b8, f2, none⟩))) st hq2 kr ?_)
       refine WO_one rfl (One_alloc (d := 13) (e := 74) (.agg #[.string (⟨#[]⟩ : ByteArray), .string (⟨#[]⟩ : ByteArray)]) kr rfl kr st ?_)
       clear st
       intro b9 w22 st
       refine WO_one rfl (One_store (t := 74) (x := (.tmp 13)) (y := (.tmp 77)) (v := .agg #[.string x2.1, .string x2.2]) (c' := #[.string x2.1, .string x2.2]) kr (ev (.pointer (some ⟨b9, 0, none⟩))) (ev (.agg #[.string x2.1, .string x2.2])) st kr kr ?_)
       clear st
       intro w23 st
       refine WO_et rfl (W_seq ?_)
       refine W_sr (WO_one rfl (One_load_row (d := 79) (t := 25) (x := (.tmp 2)) (.agg #[.slice a1 (List.length p0) c1]) kr rfl (ev (.pointer (some ⟨b1, 0, none⟩))) st hb1 kr ?_))
       refine WO_seg 1 [(80, .pointer (some ⟨b9, 0, none⟩))] kr kr ?_
       refine WO_one rfl (One_load_own (d := 81) (t := 9) (x := (.tmp 80)) (.string x2.1) kr rfl (ev (.pointer (some ⟨b9, 0, none⟩))) st.head kr ?_)
       replace ⟨y4, hx9, hr⟩ := bindS hr
       refine WO_one rfl (One_fn 82 76 #[.agg #[.slice a1 (List.length p0) c1], .string x2.1] kr rfl ?_)
       refine (revision_Find_ok st r1 hx9).mono ?_
       clear st
       rintro _ w24 ⟨m16, rfl, hle9, st⟩
       refine ⟨_, rfl, ?_⟩
       have hm := Mem.le_trans hm hle9
       have hb1 := hb1.mono hle9
       have r1 := r1.mono hle9
       have r2 := r2.mono hle9
       have r12 := r12.mono hle9
       refine WO_seg 5 [(15, .bool y4.2)] kr kr ?_
       refine WO_et rfl (W_sr ?_)
       refine WO_seg 1 [(85, .bool y4.2)] kr kr ?_
       refine WO_et rfl (W_cond y4.2 kr ?_ ?_)
       ·intro hc
        rw [if_pos hc] at hr
        refine W_exit ?_
        refine X_then_exit ?_
        refine X_block_eq ?_
        obtain rfl := Option.some.inj hr
        have st := st.tail
        have st := st.front1.front1
        exact X_env _ kr (Ku4 _ _ ⟨a10, c10, T6, es6, ck6, m16, rfl, hm, st, hb1, r1, r2, r12, hs6⟩)
       ·intro hc
        rw [if_neg (not_true hc)] at hr
        refine W_skip ?_
        refine X_then ?_
        refine W_sr (WO_seg 2 [(86, .map (some b3)), (87, .pointer (some ⟨b9, 1, none⟩))] kr kr ?_)
        refine WO_one rfl (One_load_own (d := 88) (t := 9) (x := (.tmp 87)) (.string x2.2) kr rfl (ev (.pointer (some ⟨b9, 1, none⟩))) st.head kr ?_)
        refine WO_one rfl (One_lookup (ek := (fun s : ByteArray => Value.string s)) (c := (cSl cStr)) (agg := false) (k := x2.2) (zx := ([] : List (ByteArray))) (zcs := [.slice none (List.length ([] : List (ByteArray))) 0]) (z := (.slice none (List.length ([] : List (ByteArray))) 0)) (kt := 9) (et := 33) (d := 89) (t := 126) (x := (.tmp 86)) (y := (.tmp 88)) (ok := false) kr rfl (ev (.map (some b3))) (ev (.string x2.2)) kr (keyStr kr) st.tail.head r12 (cSl_mk (RepS.nil _ _)) rfl ?_)
        rintro cs3 ⟨a12, c12, rfl, r14⟩
        refine WO_seg 1 [(16, .slice a12 (List.length ((mgetQ s2.2.2 x2.2).getD ([] : List (ByteArray)))) c12)] kr kr ?_
        refine WO_et rfl (W_seq ?_)
        refine W_sr (WO_seg 3 [(92, .bool ((List.length ((mgetQ s2.2.2 x2.2).getD ([] : List (ByteArray))) : Int) == 0))] kr kr ?_)
        refine WO_et rfl (W_cond ((List.length ((mgetQ s2.2.2 x2.2).getD ([] : List (ByteArray))) : Int) == 0) kr ?_ ?_)
        ·intro hc
         rw [if_pos hc] at hr
         refine W_sr (WO_seg 2 [(93, .slice a10 (List.length s2.1) c10), (94, .pointer (some ⟨b9, 0, none⟩))] kr kr ?_)
         refine WO_one rfl (One_load_own (d := 95) (t := 9) (x := (.tmp 94)) (.string x2.1) kr rfl (ev (.pointer (some ⟨b9, 0, none⟩))) st.head kr ?_)
         refine WO_seg 1 [(96, .pointer (some ⟨b9, 1, none⟩))] kr kr ?_
         refine WO_one rfl (One_load_own (d := 97) (t := 9) (x := (.tmp 96)) (.string x2.2) kr rfl (ev (.pointer (some ⟨b9, 1, none⟩))) st.head kr ?_)
         refine WO_seg 1 [(98, .agg #[.int .i64 1, .string x2.1, .string (⟨#[]⟩ : ByteArray), .string x2.2])] kr kr ?_
         refine WO_one rfl (One_buildSlice (d := 99) (t := 58) (e := 72) (len := 1) (parts := #[(0, (.tmp 98))]) (cPair (cInt .i64) (cPair cStr (cPair cStr cStr))) (xs := [(1, x2.1, (⟨#[]⟩ : ByteArray), x2.2)]) [.int .i64 1, .string x2.1, .string (⟨#[]⟩ : ByteArray), .string x2.2] kr rfl (fun _ => buildCells_run kr _) rfl rfl st ⟨[.int .i64 1, .string x2.1, .string (⟨#[]⟩ : ByteArray), .string x2.2], _, rfl, ⟨_, _, rfl, rfl, ⟨_, _, rfl, rfl, ⟨_, _, rfl, rfl, rfl⟩⟩⟩, rfl⟩ ?_)
         clear st
         intro b10 m17 w25 hle10 st r15
         have hm := Mem.le_trans hm hle10
         have hb1 := hb1.mono hle10
         have r1 := r1.mono hle10
         have r2 := r2.mono hle10
         have r14 := r14.mono hle10
         have r12 := r12.mono hle10
         have st := st.front3
         replace ⟨l3, hx10, hr⟩ := bindS hr
         refine WO_one rfl (One_appendM (d := 100) (t := 58) (u := 58) (e := 72) (by_ := 56) (x := (.tmp 93)) (y := (.tmp 99)) (c := (cPair (cInt .i64) (cPair cStr (cPair cStr cStr)))) (f := (fun x : Int × ByteArray × ByteArray × ByteArray => ([.int .i64 x.1, .string x.2.1, .string x.2.2.1, .string x.2.2.2] : List Value))) (l := s2.1) (fun _ _ _ h => by obtain ⟨_, _, rfl, rfl, ⟨_, _, rfl, rfl, ⟨_, _, rfl, rfl, rfl⟩⟩⟩ := h; rfl) (fun _ => rfl) kr rfl (ev (.slice a10 (List.length s2.1) c10)) (ev (.slice (some ⟨b10, 0, none⟩) (List.length ([(1, x2.1, (⟨#[]⟩ : ByteArray), x2.2)])) 1)) st hs6 rfl kr (.inl kr) r15.src hx10 ?_)
         clear st
         intro a13 c13 T8 w26 hs8 st
         refine WO_seg 1 [(6, .slice a13 (List.length l3) c13)] kr kr ?_
         refine WO_end rfl ?_
         have st := st.front1
         have st := st.tail
         refine X_then ?_
         refine W_exit ?_
         refine X_then_exit ?_
         refine X_block_eq ?_
         obtain rfl := Option.some.inj hr
         have st := st.front1
         have st := st.tail
         have st := st.front1
         exact X_env _ kr (Ku4 _ _ ⟨a13, c13, T8, es6, ck6, m17, rfl, hm, st, hb1, r1, r2, r12, hs8⟩)
        ·intro hc
         rw [if_neg (not_true hc)] at hr
         refine W_skip ?_
         refine X_then ?_
         refine W_seq ?_
         refine W_draw [(10, fun w' => Inv m16 w' ∧ Piece.holds m16 w' (.blk b9 (.cells #[.string x2.1, .string x2.2] 74 (0, 0))) ∧ True)] kr st ?_
         clear st
         intro w27 _ st
         have hmS2 := m16.le_refl
         refine ⟨⟨.inr ⟨Inv.anti st.inv hmS2, Piece.holds_anti st.head hmS2, trivial⟩, trivial⟩, ?_⟩
         refine WA_pure 0 101 (.slice a10 (List.length s2.1) c10) kr rfl kr (.head _) (QP_then (QP_block (QP_then (QP_then (QP_block (QP_then QP_body)))))) ?_
         refine WA_pure 1 102 (.pointer (some ⟨b9, 0, none⟩)) kr rfl kr (.head _) (QP_then (QP_block (QP_then (QP_then (QP_block (QP_then QP_body)))))) ?_
         refine WA_load_own (t := 9) (x := (.tmp 102)) 2 103 (.string x2.1) kr rfl kr (.head _) (QP_then (QP_block (QP_then (QP_then (QP_block (QP_then QP_body)))))) (fun _ h => h.2.1) (ev (.pointer (some ⟨b9, 0, none⟩))) kr ?_
         refine WA_pure 3 104 (.slice a12 (List.length ((mgetQ s2.2.2 x2.2).getD ([] : List (ByteArray)))) c12) kr rfl kr (.head _) (QP_then (QP_block (QP_then (QP_then (QP_block (QP_then QP_body)))))) ?_
         replace ⟨x3, hx11, hr⟩ := bindS hr
         refine WA_index (t := 33) (e := 9) (x := (.tmp 104)) (y := (.const (.int .i64 0))) 4 105 cStr kr rfl kr (.head _) (QP_then (QP_block (QP_then (QP_then (QP_block (QP_then QP_body)))))) (ev (.slice a12 (List.length ((mgetQ s2.2.2 x2.2).getD ([] : List (ByteArray)))) c12)) (ev (.int .i64 0)) kr r14 hx11 ?_
         rintro b11 f3 cs4 rfl hq3
         refine WA_load_row (t := 9) (x := (.tmp 105)) 5 106 (.string x3) kr rfl kr (.head _) (QP_then (QP_block (QP_then (QP_then (QP_block (QP_then QP_body)))))) (fun _ h => h.1) (ev (.pointer (some ⟨b11, f3, none⟩))) hq3 kr ?_
         refine WA_pure 6 107 (.agg #[.int .i64 4, .string x2.1, .string x3, .string (⟨#[]⟩ : ByteArray)]) kr rfl kr (.head _) (QP_then (QP_block (QP_then (QP_then (QP_block (QP_then QP_body)))))) ?_
         refine WA_one 7 kr  (One_buildSlice (d := 108) (t := 58) (e := 72) (len := 1) (parts := #[(0, (.tmp 107))]) (cPair (cInt .i64) (cPair cStr (cPair cStr cStr))) (xs := [(4, x2.1, x3, (⟨#[]⟩ : ByteArray))]) [.int .i64 4, .string x2.1, .string x3, .string (⟨#[]⟩ : ByteArray)] kr rfl (fun _ => buildCells_run kr _) rfl rfl st ⟨[.int .i64 4, .string x2.1, .string x3, .string (⟨#[]⟩ : ByteArray)], _, rfl, ⟨_, _, rfl, rfl, ⟨_, _, rfl, rfl, ⟨_, _, rfl, rfl, rfl⟩⟩⟩, rfl⟩ ?_)
         clear st
         intro b12 m18 w28 hle11 st r16
         have hm := Mem.le_trans hm hle11
         have hb1 := hb1.mono hle11
         have r1 := r1.mono hle11
         have r2 := r2.mono hle11
         have r14 := r14.mono hle11
         have hq3 := hq3.mono hle11
         have r12 := r12.mono hle11
         have hmS2 := Mem.le_trans hmS2 hle11
         refine ⟨⟨.inr ⟨Inv.anti st.inv hmS2, Piece.holds_anti st.tail.head hmS2, trivial⟩, trivial⟩, ?_⟩
         have st := st.front3
         replace ⟨l4, hx12, hr⟩ := bindS hr
         refine WA_one 8 kr  (One_appendM (d := 109) (t := 58) (u := 58) (e := 72) (by_ := 56) (x := (.tmp 101)) (y := (.tmp 108)) (c := (cPair (cInt .i64) (cPair cStr (cPair cStr cStr)))) (f := (fun x : Int × ByteArray × ByteArray × ByteArray => ([.int .i64 x.1, .string x.2.1, .string x.2.2.1, .string x.2.2.2] : List Value))) (l := s2.1) (fun _ _ _ h => by obtain ⟨_, _, rfl, rfl, ⟨_, _, rfl, rfl, ⟨_, _, rfl, rfl, rfl⟩⟩⟩ := h; rfl) (fun _ => rfl) kr rfl (ev (.slice a10 (List.length s2.1) c10)) (ev (.slice (some ⟨b12, 0, none⟩) (List.length ([(4, x2.1, x3, (⟨#[]⟩ : ByteArray))])) 1)) st hs6 rfl kr (.inl kr) r16.src hx12 ?_)
         clear st
         intro a14 c14 T9 w29 hs9 st
         refine ⟨⟨.inr ⟨Inv.anti st.inv hmS2, Piece.holds_anti st.tail.tail.head hmS2, trivial⟩, trivial⟩, ?_⟩
         refine WA_pure 9 6 (.slice a14 (List.length l4) c14) kr rfl kr (.head _) (QP_then (QP_block (QP_then (QP_then (QP_block (QP_then QP_body)))))) ?_
         refine WA_done kr ?_
         have st := st.front1
         have st := st.tail
         refine X_then ?_
         refine W_seq ?_
         refine W_draw [(6, fun w' => Inv m18 w' ∧ Piece.holds m18 w' (.blk b9 (.cells #[.string x2.1, .string x2.2] 74 (0, 0))) ∧ True)] kr st ?_
         clear st
         intro w30 _ st
         have hmS3 := m18.le_refl
         refine ⟨⟨.inr ⟨Inv.anti st.inv hmS3, Piece.holds_anti st.tail.head hmS3, trivial⟩, trivial⟩, ?_⟩
         refine WA_pure 0 110 (.map (some b3)) kr rfl kr (.head _) (QP_then (QP_block (QP_then (QP_then (QP_block (QP_then QP_body)))))) ?_
         refine WA_pure 1 111 (.pointer (some ⟨b9, 1, none⟩)) kr rfl kr (.head _) (QP_then (QP_block (QP_then (QP_then (QP_block (QP_then QP_body)))))) ?_
         refine WA_load_own (t := 9) (x := (.tmp 111)) 2 112 (.string x2.2) kr rfl kr (.head _) (QP_then (QP_block (QP_then (QP_then (QP_block (QP_then QP_body)))))) (fun _ h => h.2.1) (ev (.pointer (some ⟨b9, 1, none⟩))) kr ?_
         refine WA_pure 3 113 (.slice a12 (List.length ((mgetQ s2.2.2 x2.2).getD ([] : List (ByteArray)))) c12) kr rfl kr (.head _) (QP_then (QP_block (QP_then (QP_then (QP_block (QP_then QP_body)))))) ?_
         replace ⟨l5, hx13, hr⟩ := bindS hr
         refine WA_slice (t := 33) (e := 9) (x := (.tmp 113)) (lo := (some (.const (.int .i64 1)))) (hi := none) 4 114 cStr kr rfl kr (.head _) (QP_then (QP_block (QP_then (QP_then (QP_block (QP_then QP_body)))))) (ev (.slice a12 (List.length ((mgetQ s2.2.2 x2.2).getD ([] : List (ByteArray)))) c12)) kr r14 (.inr ⟨_, _, rfl, (ev (.int .i64 1))⟩) (.inl ⟨rfl, rfl⟩) hx13 ?_
         intro a15 c15 r17
         have st := st.front2
         replace ⟨mp2, hx14, hr⟩ := bindS hr
         refine WA_one 5 kr  (One_mapUpdate (ek := (fun s : ByteArray => Value.string s)) (c := (cSl cStr)) (agg := false) (k := x2.2) (yv := l5) (cs := [.slice a15 (List.length l5) c15]) (z := (.slice none (List.length ([] : List (ByteArray))) 0)) (v := (.slice a15 (List.length l5) c15)) (kt := 9) (et := 33) (t := 126) (x := (.tmp 110)) (y := (.tmp 112)) (u := (.tmp 114)) kr (ev (.map (some b3))) (ev (.string x2.2)) (ev (.slice a15 (List.length l5) c15)) kr (keyStr kr) st r12 (cSl_mk r17) rfl hx14 ?_)
         clear st
         intro es8 ck8 w31 st r18
         refine ⟨⟨.inr ⟨Inv.anti st.inv hmS3, Piece.holds_anti st.tail.tail.head hmS3, trivial⟩, trivial⟩, ?_⟩
         refine WA_done kr ?_
         refine X_then ?_
         refine W_sr (WO_seg 3 [(117, .bool ((List.length ((mgetQ s2.2.2 x2.2).getD ([] : List (ByteArray))) : Int) == 1))] kr kr ?_)
         refine WO_et rfl (W_cond ((List.length ((mgetQ s2.2.2 x2.2).getD ([] : List (ByteArray))) : Int) == 1) kr ?_ ?_)
         ·intro hc
          rw [if_pos hc] at hr
          refine W_region ?_
          refine WO_seg 2 [(118, .map (some b3)), (119, .pointer (some ⟨b9, 1, none⟩))] kr kr ?_
          refine WO_one rfl (One_load_own (d := 120) (t := 9) (x := (.tmp 119)) (.string x2.2) kr rfl (ev (.pointer (some ⟨b9, 1, none⟩))) st.tail.tail.head kr ?_)
          refine WO_one rfl (One_delete (ek := (fun s : ByteArray => Value.string s)) (c := (cSl cStr)) (agg := false) (k := x2.2) (z := (.slice none (List.length ([] : List (ByteArray))) 0)) (kt := 9) (et := 33) (t := 126) (t2 := 9) (x := (.tmp 118)) (y := (.tmp 120)) kr (ev (.map (some b3))) (ev (.string x2.2)) kr (keyStr kr) st r18 ?_)
          clear st
          intro es9 w32 st r19
          refine WO_end rfl ?_
          refine X_block ?_
          obtain rfl := Option.some.inj hr
          have st := st.front2
          have st := st.tail
          have st := st.front1.front1
          exact X_env _ kr (Ku4 _ _ ⟨a14, c14, T9, es9, ck8, m18, rfl, hm, st, hb1, r1, r2, r19, hs9⟩)
         ·intro hc
          rw [if_neg (not_true hc)] at hr
          refine W_skip ?_
          refine X_block ?_
          obtain rfl := Option.some.inj hr
          have st := st.front2
          have st := st.tail
          have st := st.front1.front1
          exact X_env _ kr (Ku4 _ _ ⟨a14, c14, T9, es8, ck8, m18, rfl, hm, st, hb1, r1, r2, r18, hs9⟩)
     ·intro hc
      rw [if_neg (not_true hc)] at hr
      refine W_exit ?_
      refine X_then_exit ?_
      obtain rfl := Option.some.inj hr
      have ho := hBu3 _ rfl
      have st := st.front1.front1
      refine X_then_exit ?_
      exact X_env _ kr (K3_u3 _ _ ⟨(s2.1, s2.2.2), a10, c10, T6, es6, ck6, m14, ho, rfl, hm, st, r12, hs6⟩)
   intro K0_u1
   clear hrKu1
   have st := st.front1
   refine W_env _ kr (W_loop (fun k1 L' w' => ∃ (s1 : (List (Int × ByteArray × ByteArray × ByteArray)) × Int × (Option (List (ByteArray × List ByteArray)))) (a4 : Option Addr) (c4 : Nat) (T2 : List Value) (es2 : Array MapEntry) (ck2 : Nat) (m7 : Mem), loopM (filediff_Diff_L1 N p0 p1) k1 s1 = some out1 ∧ L' = [(2, .pointer (some ⟨b1, 0, none⟩)), (3, .pointer (some ⟨b2, 0, none⟩)), (6, .slice a4 (List.length s1.1) c4), (7, .map (some b3)), (31, .slice a1 (List.length p0) c1), (32, .int .i64 (List.length p0 : Int)), (33, .int .i64 s1.2.1)] ∧ m.le m7 ∧ St m7 (mpiece (some b3) es2 ck2 :: opc a4 (acellsM (fun x : Int × ByteArray × ByteArray × ByteArray => ([.int .i64 x.1, .string x.2.1, .string x.2.2.1, .string x.2.2.2] : List Value)) s1.1 T2) 72 :: (roomsV 9 1 es2 ++ own)) w' ∧ MRow m7 b1 0 [.slice a1 (List.length p0) c1] ∧ RepS (cPair cStr cStr) m7 a1 c1 p0 ∧ MRow m7 b2 0 [.slice a2 (List.length p1) c2] ∧ RepS (cPair cStr cStr) m7 a2 c2 p1 ∧ MapQ (fun s : ByteArray => Value.string s) (cSl cStr) false m7 (some b3) es2 ck2 s1.2.2 ∧ OAS a4 (List.length s1.1) c4 4 T2) N ⟨(([] : List (Int × ByteArray × ByteArray × ByteArray)), 0, (some [] : Option (List (ByteArray × List ByteArray)))), none, 0, [], #[], 0, m3, hr, rfl, hm, st, hb1, r1, hb2, r2, (MapQ.new (fun s : ByteArray => Value.string s) (cSl cStr) false _ _), (OAS.nil 4)⟩ ?_)
   clear st hr
   rintro k1 _ w8 ⟨s1, a4, c4, T2, es2, ck2, m7, hL, rfl, hm, st, hb1, r1, hb2, r2, r4, hs2⟩
   rcases k1 with _ | k1
   ·exact loopM_zero hL
   ·obtain ⟨qu1, hr, hSu1, hBu1⟩ := loopM_succ hL
    clear hL
    unfold filediff_Diff_L1 at hr
    refine W_sr (WO_seg 1 [(34, .bool (decide (s1.2.1 < (List.length p0 : Int))))] kr kr ?_)
    refine WO_et rfl (W_seq ?_)
    refine W_cond (decide (s1.2.1 < (List.length p0 : Int))) kr ?_ ?_
    ·intro hc
     rw [if_pos hc] at hr
     refine W_skip ?_
     refine X_then ?_
     refine W_seq ?_
     replace ⟨o3, hr, hrKu2⟩ := bindS hr
     refine W_cut .normal (fun L' w' => ∃ (a5 : Option Addr) (c5 : Nat) (T3 : List Value) (es3 : Array MapEntry) (ck3 : Nat) (m8 : Mem), L' = [(2, .pointer (some ⟨b1, 0, none⟩)), (3, .pointer (some ⟨b2, 0, none⟩)), (6, .slice a5 (List.length o3.1) c5), (7, .map (some b3)), (31, .slice a1 (List.length p0) c1), (32, .int .i64 (List.length p0 : Int)), (33, .int .i64 s1.2.1)] ∧ m.le m8 ∧ St m8 (mpiece (some b3) es3 ck3 :: opc a5 (acellsM (fun x : Int × ByteArray × ByteArray × ByteArray => ([.int .i64 x.1, .string x.2.1, .string x.2.2.1, .string x.2.2.2] : List Value)) o3.1 T3) 72 :: (roomsV 9 1 es3 ++ own)) w' ∧ MRow m8 b1 0 [.slice a1 (List.length p0) c1] ∧ RepS (cPair cStr cStr) m8 a1 c1 p0 ∧ MRow m8 b2 0 [.slice a2 (List.length p1) c2] ∧ RepS (cPair cStr cStr) m8 a2 c2 p1 ∧ MapQ (fun s : ByteArray => Value.string s) (cSl cStr) false m8 (some b3) es3 ck3 o3.2 ∧ OAS a5 (List.length o3.1) c5 4 T3) ?_ ?_
     ·clear hr st
      have hr := hrKu2
      clear hrKu2
      rintro _ w9 ⟨a5, c5, T3, es3, ck3, m8, rfl, hm, st, hb1, r1, hb2, r2, r5, hs3⟩
      refine X_then ?_
      refine W_region ?_
      refine WO_seg 2 [(33, .int .i64 (IntKind.wrap .i64 (s1.2.1 + 1)))] kr kr ?_
      refine WO_end rfl ?_
      obtain rfl := Option.some.inj hr
      have hL := hSu1 _ rfl
      have st := st.front1.front1
      exact X_env _ kr (X_round k1 (Nat.lt_succ_self _) ⟨(o3.1, IntKind.wrap .i64 (s1.2.1 + 1), o3.2), a5, c5, T3, es3, ck3, m8, hL, rfl, hm, st, hb1, r1, hb2, r2, r5, hs3⟩)
     ·intro Ku2
      clear hrKu2
      refine W_block ?_
      refine W_sr ?_
      replace ⟨x1, hx3, hr⟩ := bindS hr
      refine WO_one rfl (One_index (d := 35) (t := 23) (e := 74) (x := (.tmp 31)) (y := (.tmp 33)) (cPair cStr cStr) kr rfl (ev (.slice a1 (List.length p0) c1)) (ev (.int .i64 s1.2.1)) kr r1 hx3 ?_)
      rintro b4 f1 cs1 ⟨_, _, rfl, rfl, rfl⟩ hq1
      refine WO_one rfl (One_load_row (d := 36) (t := 74) (x := (.tmp 35)) (.agg #[.string x1.1, .string x1.2]) kr rfl (ev (.pointer (some ⟨b4, f1, none⟩))) st hq1 kr ?_)
      refine WO_one rfl (One_alloc (d := 9) (e := 74) (.agg #[.string (⟨#[]⟩ : ByteArray), .string (⟨#[]⟩ : ByteArray)]) kr rfl kr st ?_)
      clear st
      intro b5 w10 st
      refine WO_one rfl (One_store (t := 74) (x := (.tmp 9)) (y := (.tmp 36)) (v := .agg #[.string x1.1, .string x1.2]) (c' := #[.string x1.1, .string x1.2]) kr (ev (.pointer (some ⟨b5, 0, none⟩))) (ev (.agg #[.string x1.1, .string x1.2])) st kr kr ?_)
      clear st
      intro w11 st
      refine WO_et rfl (W_sr ?_)
      refine WO_one rfl (One_load_row (d := 38) (t := 25) (x := (.tmp 3)) (.agg #[.slice a2 (List.length p1) c2]) kr rfl (ev (.pointer (some ⟨b2, 0, none⟩))) st hb2 kr ?_)
      refine WO_seg 1 [(39, .pointer (some ⟨b5, 0, none⟩))] kr kr ?_
      refine WO_one rfl (One_load_own (d := 40) (t := 9) (x := (.tmp 39)) (.string x1.1) kr rfl (ev (.pointer (some ⟨b5, 0, none⟩))) st.head kr ?_)
      replace ⟨y3, hx4, hr⟩ := bindS hr
      refine WO_one rfl (One_fn 41 76 #[.agg #[.slice a2 (List.length p1) c2], .string x1.1] kr rfl ?_)
      refine (revision_Find_ok st r2 hx4).mono ?_
      clear st
      rintro _ w12 ⟨m9, rfl, hle5, st⟩
      refine ⟨_, rfl, ?_⟩
      have hm := Mem.le_trans hm hle5
      have hb1 := hb1.mono hle5
      have r1 := r1.mono hle5
      have hb2 := hb2.mono hle5
      have r2 := r2.mono hle5
      have r4 := r4.mono hle5
      refine WO_seg 5 [(10, .string y3.1), (11, .bool y3.2)] kr kr ?_
      refine WO_et rfl (W_block ?_)
      refine W_sr (WO_seg 3 [(44, .bool (!y3.2))] kr kr ?_)
      refine WO_et rfl (W_cond (!y3.2) kr ?_ ?_)
      ·intro hc
       rw [if_pos hc] at hr
       refine W_draw [(12, fun w' => Inv m9 w' ∧ Piece.holds m9 w' (.blk b5 (.cells #[.string x1.1, .string x1.2] 74 (0, 0))) ∧ True)] kr st ?_
       clear st
       intro w13 _ st
       have hmS1 := m9.le_refl
       refine ⟨⟨.inr ⟨Inv.anti st.inv hmS1, Piece.holds_anti st.head hmS1, trivial⟩, trivial⟩, ?_⟩
       refine WA_pure 0 47 (.map (some b3)) kr rfl kr (.head _) (QP_block (QP_block (QP_then (QP_then (QP_block (QP_then QP_body)))))) ?_
       refine WA_pure 1 48 (.pointer (some ⟨b5, 1, none⟩)) kr rfl kr (.head _) (QP_block (QP_block (QP_then (QP_then (QP_block (QP_then QP_body)))))) ?_
       refine WA_load_own (t := 9) (x := (.tmp 48)) 2 49 (.string x1.2) kr rfl kr (.head _) (QP_block (QP_block (QP_then (QP_then (QP_block (QP_then QP_body)))))) (fun _ h => h.2.1) (ev (.pointer (some ⟨b5, 1, none⟩))) kr ?_
       refine WA_pure 3 50 (.map (some b3)) kr rfl kr (.head _) (QP_block (QP_block (QP_then (QP_then (QP_block (QP_then QP_body)))))) ?_
       refine WA_pure 4 51 (.pointer (some ⟨b5, 1, none⟩)) kr rfl kr (.head _) (QP_block (QP_block (QP_then (QP_then (QP_block (QP_then QP_body)))))) ?_
       refine WA_load_own (t := 9) (x := (.tmp 51)) 5 52 (.string x1.2) kr rfl kr (.head _) (QP_block (QP_block (QP_then (QP_then (QP_block (QP_then QP_body)))))) (fun _ h => h.2.1) (ev (.pointer (some ⟨b5, 1, none⟩))) kr ?_
       refine WA_pure 7 54 (.pointer (some ⟨b5, 0, none⟩)) kr rfl kr (.head _) (QP_block (QP_block (QP_then (QP_then (QP_block (QP_then QP_body)))))) ?_
       refine WA_load_own (t := 9) (x := (.tmp 54)) 8 55 (.string x1.1) kr rfl kr (.head _) (QP_block (QP_block (QP_then (QP_then (QP_block (QP_then QP_body)))))) (fun _ h => h.2.1) (ev (.pointer (some ⟨b5, 0, none⟩))) kr ?_
       refine WA_many [6, 9] kr (by simp) (all_two ?_ ?_)
       ·have st := st.front1
        refine One_lookupRL [.blk b5 (.cells #[.string x1.1, .string x1.2] 74 (0, 0)), opc a4 (acellsM (fun x : Int × ByteArray × ByteArray × ByteArray => ([.int .i64 x.1, .string x.2.1, .string x.2.2.1, .string x.2.2.2] : List Value)) s1.1 T2) 72] (z := .slice none 0 0) (ek := (fun s : ByteArray => Value.string s)) (c := cStr) (k := x1.2) (e := 9) (sz := 1) (kt := 9) (et := 33) (d := 53) (t := 126) (x := (.tmp 50)) (y := (.tmp 52)) kr rfl (ev (.map (some b3))) (ev (.string x1.2)) kr (keyStr kr) st r4 rfl ?_
        intro a6 c6 r6 st
        have st : St m9 (.room a6 (List.length ((mgetQ s1.2.2 x1.2).getD [])) c6 9 1 :: mpiece (some b3) es2 ck2 :: .blk b5 (.cells #[.string x1.1, .string x1.2] 74 (0, 0)) :: opc a4 (acellsM (fun x : Int × ByteArray × ByteArray × ByteArray => ([.int .i64 x.1, .string x.2.1, .string x.2.2.1, .string x.2.2.2] : List Value)) s1.1 T2) 72 :: (roomsX 9 1 es2 (.string x1.2) ++ own)) w13 := st
        refine ⟨⟨.inr ⟨Inv.anti st.inv hmS1, Piece.holds_anti st.tail.tail.head hmS1, trivial⟩, trivial⟩, ?_⟩
        refine WA_one 9 kr  (One_buildSlice (d := 56) (t := 33) (e := 9) (len := 1) (parts := #[(0, (.tmp 55))]) cStr (xs := [x1.1]) [.string x1.1] kr rfl (fun _ => buildCells_run kr _) rfl rfl st ⟨[.string x1.1], _, rfl, rfl, rfl⟩ ?_)
        clear st
        intro b6 m10 w14 hle6 st r7
        have hm := Mem.le_trans hm hle6
        have hb1 := hb1.mono hle6
        have r1 := r1.mono hle6
        have hb2 := hb2.mono hle6
        have r2 := r2.mono hle6
        have r6 := r6.mono hle6
        have r4 := r4.mono hle6
        have hmS1 := Mem.le_trans hmS1 hle6
        refine ⟨⟨.inr ⟨Inv.anti st.inv hmS1, Piece.holds_anti st.tail.tail.tail.head hmS1, trivial⟩, trivial⟩, ?_⟩
        have st := st.front1
        replace ⟨l1, hx5, hr⟩ := bindS hr
        refine WA_one 10 kr  (One_append (d := 57) (t := 33) (u := 33) (e := 9) (by_ := 16) (x := (.tmp 53)) (y := (.tmp 56)) cStr kr rfl (ev (.slice a6 (List.length ((mgetQ s1.2.2 x1.2).getD [])) c6)) (ev (.slice (some ⟨b6, 0, none⟩) (List.length ([x1.1])) 1)) st kr (.inl kr) r6 r7.src hx5 ?_)
        clear st
        intro a7 c7 m11 w15 hle7 st r8
        have hm := Mem.le_trans hm hle7
        have hb1 := hb1.mono hle7
        have r1 := r1.mono hle7
        have hb2 := hb2.mono hle7
        have r2 := r2.mono hle7
        have r6 := r6.mono hle7
        have r7 := r7.mono hle7
        have r4 := r4.mono hle7
        have hmS1 := Mem.le_trans hmS1 hle7
        refine ⟨⟨.inr ⟨Inv.anti st.inv hmS1, Piece.holds_anti st.tail.tail.tail.head hmS1, trivial⟩, trivial⟩, ?_⟩
        have st := st.front2.front1
        replace ⟨mp1, hx6, hr⟩ := bindS hr
        refine WA_one 11 kr  (One_mapUpdateRL [.room (some ⟨b6, 0, none⟩) (List.length ([x1.1])) 1 9 1, .blk b5 (.cells #[.string x1.1, .string x1.2] 74 (0, 0)), opc a4 (acellsM (fun x : Int × ByteArray × ByteArray × ByteArray => ([.int .i64 x.1, .string x.2.1, .string x.2.2.1, .string x.2.2.2] : List Value)) s1.1 T2) 72] (z := .slice none 0 0) (ek := (fun s : ByteArray => Value.string s)) (c := cStr) (k := x1.2) (yv := l1) (e := 9) (sz := 1) (kt := 9) (et := 33) (t := 126) (x := (.tmp 47)) (y := (.tmp 49)) (u := (.tmp 57)) kr (ev (.map (some b3))) (ev (.string x1.2)) (ev (.slice a7 (List.length l1) c7)) kr (keyStr kr) st r4 r8 hx6 ?_)
        clear st
        intro es4 ck4 w16 st r9
        have st : St m11 (mpiece (some b3) es4 ck4 :: .room (some ⟨b6, 0, none⟩) (List.length ([x1.1])) 1 9 1 :: .blk b5 (.cells #[.string x1.1, .string x1.2] 74 (0, 0)) :: opc a4 (acellsM (fun x : Int × ByteArray × ByteArray × ByteArray => ([.int .i64 x.1, .string x.2.1, .string x.2.2.1, .string x.2.2.2] : List Value)) s1.1 T2) 72 :: (roomsV 9 1 es4 ++ own)) w16 := st
        refine ⟨⟨.inr ⟨Inv.anti st.inv hmS1, Piece.holds_anti st.tail.tail.head hmS1, trivial⟩, trivial⟩, ?_⟩
        refine WA_done kr ?_
        have st := st.front1
        have st := st.tail
        refine X_block ?_
        refine X_block ?_
        obtain rfl := Option.some.inj hr
        have st := st.front1
        have st := st.tail
        have st := st.front1.front1
        exact X_env _ kr (Ku2 _ _ ⟨a4, c4, T2, es4, ck4, m11, rfl, hm, st, hb1, r1, hb2, r2, r9, hs2⟩)
       ·refine One_buildSlice (d := 56) (t := 33) (e := 9) (len := 1) (parts := #[(0, (.tmp 55))]) cStr (xs := [x1.1]) [.string x1.1] kr rfl (fun _ => buildCells_run kr _) rfl rfl st ⟨[.string x1.1], _, rfl, rfl, rfl⟩ ?_
        clear st
        intro b6 m10 w14 hle6 st r6
        have hm := Mem.le_trans hm hle6
        have hb1 := hb1.mono hle6
        have r1 := r1.mono hle6
        have hb2 := hb2.mono hle6
        have r2 := r2.mono hle6
        have r4 := r4.mono hle6
        have hmS1 := Mem.le_trans hmS1 hle6
        refine ⟨⟨.inr ⟨Inv.anti st.inv hmS1, Piece.holds_anti st.tail.head hmS1, trivial⟩, trivial⟩, ?_⟩
        have st := st.front2
        refine WA_one 6 kr  (One_lookupRL [.room (some ⟨b6, 0, none⟩) (List.length ([x1.1])) 1 9 1, .blk b5 (.cells #[.string x1.1, .string x1.2] 74 (0, 0)), opc a4 (acellsM (fun x : Int × ByteArray × ByteArray × ByteArray => ([.int .i64 x.1, .string x.2.1, .string x.2.2.1, .string x.2.2.2] : List Value)) s1.1 T2) 72] (z := .slice none 0 0) (ek := (fun s : ByteArray => Value.string s)) (c := cStr) (k := x1.2) (e := 9) (sz := 1) (kt := 9) (et := 33) (d := 53) (t := 126) (x := (.tmp 50)) (y := (.tmp 52)) kr rfl (ev (.map (some b3))) (ev (.string x1.2)) kr (keyStr kr) st r4 rfl ?_)
        intro a6 c6 r7 st
        have st : St m10 (.room a6 (List.length ((mgetQ s1.2.2 x1.2).getD [])) c6 9 1 :: mpiece (some b3) es2 ck2 :: .room (some ⟨b6, 0, none⟩) (List.length ([x1.1])) 1 9 1 :: .blk b5 (.cells #[.string x1.1, .string x1.2] 74 (0, 0)) :: opc a4 (acellsM (fun x : Int × ByteArray × ByteArray × ByteArray => ([.int .i64 x.1, .string x.2.1, .string x.2.2.1, .string x.2.2.2] : List Value)) s1.1 T2) 72 :: (roomsX 9 1 es2 (.string x1.2) ++ own)) w14 := st
        refine ⟨⟨.inr ⟨Inv.anti st.inv hmS1, Piece.holds_anti st.tail.tail.tail.head hmS1, trivial⟩, trivial⟩, ?_⟩
        replace ⟨l1, hx5, hr⟩ := bindS hr
        refine WA_one 10 kr  (One_append (d := 57) (t := 33) (u := 33) (e := 9) (by_ := 16) (x := (.tmp 53)) (y := (.tmp 56)) cStr kr rfl (ev (.slice a6 (List.length ((mgetQ s1.2.2 x1.2).getD [])) c6)) (ev (.slice (some ⟨b6, 0, none⟩) (List.length ([x1.1])) 1)) st kr (.inl kr) r7 r6.src hx5 ?_)
        clear st
        intro a7 c7 m11 w15 hle7 st r8
        have hm := Mem.le_trans hm hle7
        have hb1 := hb1.mono hle7
        have r1 := r1.mono hle7
        have hb2 := hb2.mono hle7
        have r2 := r2.mono hle7
        have r6 := r6.mono hle7
        have r7 := r7.mono hle7
        have r4 := r4.mono hle7
        have hmS1 := Mem.le_trans hmS1 hle7
        refine ⟨⟨.inr ⟨Inv.anti st.inv hmS1, Piece.holds_anti st.tail.tail.tail.head hmS1, trivial⟩, trivial⟩, ?_⟩
        have st := st.front1.front1
        replace ⟨mp1, hx6, hr⟩ := bindS hr
        refine WA_one 11 kr  (One_mapUpdateRL [.room (some ⟨b6, 0, none⟩) (List.length ([x1.1])) 1 9 1, .blk b5 (.cells #[.string x1.1, .string x1.2] 74 (0, 0)), opc a4 (acellsM (fun x : Int × ByteArray × ByteArray × ByteArray => ([.int .i64 x.1, .string x.2.1, .string x.2.2.1, .string x.2.2.2] : List Value)) s1.1 T2) 72] (z := .slice none 0 0) (ek := (fun s : ByteArray => Value.string s)) (c := cStr) (k := x1.2) (yv := l1) (e := 9) (sz := 1) (kt := 9) (et := 33) (t := 126) (x := (.tmp 47)) (y := (.tmp 49)) (u := (.tmp 57)) kr (ev (.map (some b3))) (ev (.string x1.2)) (ev (.slice a7 (List.length l1) c7)) kr (keyStr kr) st r4 r8 hx6 ?_)
        clear st
        intro es4 ck4 w16 st r9
        have st : St m11 (mpiece (some b3) es4 ck4 :: .room (some ⟨b6, 0, none⟩) (List.length ([x1.1])) 1 9 1 :: .blk b5 (.cells #[.string x1.1, .string x1.2] 74 (0, 0)) :: opc a4 (acellsM (fun x : Int × ByteArray × ByteArray × ByteArray => ([.int .i64 x.1, .string x.2.1, .string x.2.2.1, .string x.2.2.2] : List Value)) s1.1 T2) 72 :: (roomsV 9 1 es4 ++ own)) w16 := st
        refine ⟨⟨.inr ⟨Inv.anti st.inv hmS1, Piece.holds_anti st.tail.tail.head hmS1, trivial⟩, trivial⟩, ?_⟩
        refine WA_done kr ?_
        have st := st.front1
        have st := st.tail
        refine X_block ?_
        refine X_block ?_
        obtain rfl := Option.some.inj hr
        have st := st.front1
        have st := st.tail
        have st := st.front1.front1
        exact X_env _ kr (Ku2 _ _ ⟨a4, c4, T2, es4, ck4, m11, rfl, hm, st, hb1, r1, hb2, r2, r9, hs2⟩)
      ·intro hc
       rw [if_neg (not_true hc)] at hr
       refine W_sr (WO_seg 2 [(59, .string y3.1), (60, .pointer (some ⟨b5, 1, none⟩))] kr kr ?_)
       refine WO_one rfl (One_load_own (d := 61) (t := 9) (x := (.tmp 60)) (.string x1.2) kr rfl (ev (.pointer (some ⟨b5, 1, none⟩))) st.head kr ?_)
       refine WO_seg 2 [(58, .bool (!(y3.1.toList == x1.2.toList)))] kr kr ?_
       refine WO_et rfl (W_cond (!(y3.1.toList == x1.2.toList)) kr ?_ ?_)
       ·intro hc
        rw [if_pos hc] at hr
        refine W_region ?_
        refine WO_seg 2 [(63, .slice a4 (List.length s1.1) c4), (64, .pointer (some ⟨b5, 0, none⟩))] kr kr ?_
        refine WO_one rfl (One_load_own (d := 65) (t := 9) (x := (.tmp 64)) (.string x1.1) kr rfl (ev (.pointer (some ⟨b5, 0, none⟩))) st.head kr ?_)
        refine WO_seg 2 [(67, .agg #[.int .i64 3, .string x1.1, .string (⟨#[]⟩ : ByteArray), .string y3.1])] kr kr ?_
        refine WO_one rfl (One_buildSlice (d := 68) (t := 58) (e := 72) (len := 1) (parts := #[(0, (.tmp 67))]) (cPair (cInt .i64) (cPair cStr (cPair cStr cStr))) (xs := [(3, x1.1, (⟨#[]⟩ : ByteArray), y3.1)]) [.int .i64 3, .string x1.1, .string (⟨#[]⟩ : ByteArray), .string y3.1] kr rfl (fun _ => buildCells_run kr _) rfl rfl st ⟨[.int .i64 3, .string x1.1, .string (⟨#[]⟩ : ByteArray), .string y3.1], _, rfl, ⟨_, _, rfl, rfl, ⟨_, _, rfl, rfl, ⟨_, _, rfl, rfl, rfl⟩⟩⟩, rfl⟩ ?_)
        clear st
        intro b7 m12 w17 hle8 st r10
        have hm := Mem.le_trans hm hle8
        have hb1 := hb1.mono hle8
        have r1 := r1.mono hle8
        have hb2 := hb2.mono hle8
        have r2 := r2.mono hle8
        have r4 := r4.mono hle8
        have st := st.front3
        replace ⟨l2, hx7, hr⟩ := bindS hr
        refine WO_one rfl (One_appendM (d := 69) (t := 58) (u := 58) (e := 72) (by_ := 56) (x := (.tmp 63)) (y := (.tmp 68)) (c := (cPair (cInt .i64) (cPair cStr (cPair cStr cStr)))) (f := (fun x : Int × ByteArray × ByteArray × ByteArray => ([.int .i64 x.1, .string x.2.1, .string x.2.2.1, .string x.2.2.2] : List Value))) (l := s1.1) (fun _ _ _ h => by obtain ⟨_, _, rfl, rfl, ⟨_, _, rfl, rfl, ⟨_, _, rfl, rfl, rfl⟩⟩⟩ := h; rfl) (fun _ => rfl) kr rfl (ev (.slice a4 (List.length s1.1) c4)) (ev (.slice (some ⟨b7, 0, none⟩) (List.length ([(3, x1.1, (⟨#[]⟩ : ByteArray), y3.1)])) 1)) st hs2 rfl kr (.inl kr) r10.src hx7 ?_)
        clear st
        intro a8 c8 T4 w18 hs4 st
        refine WO_seg 1 [(6, .slice a8 (List.length l2) c8)] kr kr ?_
        refine WO_end rfl ?_
        have st := st.front1
        have st := st.tail
        refine X_block ?_
        refine X_block ?_
        obtain rfl := Option.some.inj hr
        have st := st.front1
        have st := st.tail
        have st := st.front1
        exact X_env _ kr (Ku2 _ _ ⟨a8, c8, T4, es2, ck2, m12, rfl, hm, st, hb1, r1, hb2, r2, r4, hs4⟩)
       ·intro hc
        rw [if_neg (not_true hc)] at hr
        refine W_skip ?_
        refine X_block ?_
        refine X_block ?_
        obtain rfl := Option.some.inj hr
        have st := st.tail
        have st := st.front1.front1
        exact X_env _ kr (Ku2 _ _ ⟨a4, c4, T2, es2, ck2, m9, rfl, hm, st, hb1, r1, hb2, r2, r4, hs2⟩)
    ·intro hc
     rw [if_neg (not_true hc)] at hr
     refine W_exit ?_
     refine X_then_exit ?_
     obtain rfl := Option.some.inj hr
     have ho := hBu1 _ rfl
     have st := st.front1.front1
     refine X_then_exit ?_
     exact X_env _ kr (K0_u1 _ _ ⟨(s1.1, s1.2.2), a4, c4, T2, es2, ck2, m7, ho, rfl, hm, st, hb1, r1, hb2, r2, r4, hs2⟩)
 ·intro K
  clear hrK
  refine WO_one rfl (One_load_row (d := 21) (t := 25) (x := (.tmp 2)) (.agg #[.slice a1 (List.length p0) c1]) kr rfl (ev (.pointer (some ⟨b1, 0, none⟩))) st hb1 kr ?_)
  replace ⟨y1, hx1, hr⟩ := bindS hr
  refine WO_one rfl (One_fn 22 75 #[.agg #[.slice a1 (List.length p0) c1]] kr rfl ?_)
  refine (revision_Check_ok st r1 hx1).mono ?_
  clear st
  rintro _ w4 ⟨m4, rfl, hle3, st⟩
  refine ⟨_, rfl, ?_⟩
  have hm := Mem.le_trans hm hle3
  have hb1 := hb1.mono hle3
  have r1 := r1.mono hle3
  have hb2 := hb2.mono hle3
  have r2 := r2.mono hle3
  refine WO_seg 2 [(24, .bool (y1 != 0))] kr kr ?_
  rcases bcases (y1 != 0) with hc | hc
  ·rw [if_pos hc] at hr
   refine WO_fact (t := 24) (b := true) (y1 != 0) kr hc ?_
   refine WO_seg 4 [(28, .bool true)] kr kr ?_
   obtain rfl := Option.some.inj hr
   exact WO_env _ kr (K _ _ ⟨m4, rfl, hm, st, hb1, r1, hb2, r2⟩)
  ·rw [if_neg (not_true hc)] at hr
   refine WO_fact (t := 24) (b := false) (y1 != 0) kr hc ?_
   refine WO_one rfl (One_load_row (d := 25) (t := 25) (x := (.tmp 3)) (.agg #[.slice a2 (List.length p1) c2]) kr rfl (ev (.pointer (some ⟨b2, 0, none⟩))) st hb2 kr ?_)
   replace ⟨y2, hx2, hr⟩ := bindS hr
   refine WO_one rfl (One_fn 26 75 #[.agg #[.slice a2 (List.length p1) c2]] kr rfl ?_)
   refine (revision_Check_ok st r2 hx2).mono ?_
   clear st
   rintro _ w5 ⟨m5, rfl, hle4, st⟩
   refine ⟨_, rfl, ?_⟩
   have hm := Mem.le_trans hm hle4
   have hb1 := hb1.mono hle4
   have r1 := r1.mono hle4
   have hb2 := hb2.mono hle4
   have r2 := r2.mono hle4
   refine WO_seg 2 [(28, .bool (y2 != 0))] kr kr ?_
   obtain rfl := Option.some.inj hr
   exact WO_env _ kr (K _ _ ⟨m5, rfl, hm, st, hb1, r1, hb2, r2⟩)
def filediff_Invert (N : Nat) (p0 : (List (ByteArray × ByteArray))) (p1 : List (Int × ByteArray × ByteArray × ByteArray)) : Option ((List (Int × ByteArray × ByteArray × ByteArray)) × Int) :=
 (filediff_Apply N p0 p1).bind fun y1 => if (y1.2 != 0) = true then (some (([] : List (Int × ByteArray × ByteArray × ByteArray)), y1.2)) else ((filediff_Diff N y1.1 p0).bind fun y2 => some (y2.1, y2.2))
set_option maxHeartbeats 4000000 in
set_option maxRecDepth 100000 in
theorem filediff_Invert_ok {N : Nat} {m : Mem} {own : List Piece} {w : World} {p0 : (List (ByteArray × ByteArray))} {p1 : List (Int × ByteArray × ByteArray × ByteArray)} {a1 : Option Addr} {c1 : Nat} {a2 : Option Addr} {c2 : Nat} {r : (List (Int × ByteArray × ByteArray × ByteArray)) × Int} (st : St m (own) w) (r1 : RepS (cPair cStr cStr) m a1 c1 p0) (r2 : RepS (cPair (cInt .i64) (cPair cStr (cPair cStr cStr))) m a2 c2 p1) (hr : filediff_Invert N p0 p1 = some r) : Calls Tryz.prog 33 #[.agg #[.slice a1 (List.length p0) c1], .slice a2 (List.length p1) c2] w fun e w' => ∃ (ra1 : Option Addr) (rc1 : Nat) (m' : Mem), e = .returned (.tuple #[.slice ra1 (List.length r.1) rc1, .int .i64 r.2]) ∧ m.le m' ∧ St m' (.room ra1 (List.length r.1) rc1 72 4 :: own) w' ∧ RepS (cPair (cInt .i64) (cPair cStr (cPair cStr cStr))) m' ra1 rc1 r.1 := by
 unfold filediff_Invert at hr
 have hm := m.le_refl
 refine W_calls Tryz.func33 rfl Tryz.ntmps33 [(0, .agg #[.slice a1 (List.length p0) c1]), (1, .slice a2 (List.length p1) c2)] kr rfl ?_
 refine W_sr (WO_one rfl (One_box (d := 2) (e := 25) (x := (.tmp 0)) (.agg #[.slice a1 (List.length p0) c1]) kr rfl kr st ?_))
 clear st
 intro b1 m1 w1 hle1 st hb1
 have hm := Mem.le_trans hm hle1
 have r1 := r1.mono hle1
 have r2 := r2.mono hle1
 refine WO_seg 2 [] kr kr ?_
 refine WO_et rfl (W_sr ?_)
 refine WO_one rfl (One_load_row (d := 9) (t := 25) (x := (.tmp 2)) (.agg #[.slice a1 (List.length p0) c1]) kr rfl (ev (.pointer (some ⟨b1, 0, none⟩))) st hb1 kr ?_)
 refine WO_seg 1 [(10, .slice a2 (List.length p1) c2)] kr kr ?_
 replace ⟨y1, hx1, hr⟩ := bindS hr
 refine WO_one rfl (One_fn 11 30 #[.agg #[.slice a1 (List.length p0) c1], .slice a2 (List.length p1) c2] kr rfl ?_)
 refine (filediff_Apply_ok st r1 r2 hx1).mono ?_
 clear st
 rintro _ w2 ⟨a3, c3, m2, rfl, hle2, st, r3⟩
 refine ⟨_, rfl, ?_⟩
 have hm := Mem.le_trans hm hle2
 have r2 := r2.mono hle2
 have hb1 := hb1.mono hle2
 have r1 := r1.mono hle2
 refine WO_seg 3 [(12, .agg #[.slice a3 (List.length y1.1) c3]), (13, .int .i64 y1.2)] kr kr ?_
 refine WO_one rfl (One_alloc (d := 6) (e := 25) (.agg #[.slice none 0 0]) kr rfl kr st ?_)
 clear st
 intro b2 w3 st
 refine WO_one rfl (One_store (t := 25) (x := (.tmp 6)) (y := (.tmp 12)) (v := .agg #[.slice a3 (List.length y1.1) c3]) (c' := #[.slice a3 (List.length y1.1) c3]) kr (ev (.pointer (some ⟨b2, 0, none⟩))) (ev (.agg #[.slice a3 (List.length y1.1) c3])) st kr kr ?_)
 clear st
 intro w4 st
 refine WO_seg 1 [(7, .int .i64 y1.2)] kr kr ?_
 refine WO_et rfl (W_seq ?_)
 refine W_sr (WO_seg 2 [(15, .bool (y1.2 != 0))] kr kr ?_)
 refine WO_et rfl (W_cond (y1.2 != 0) kr ?_ ?_)
 ·intro hc
  rw [if_pos hc] at hr
  refine W_sr (WO_seg 3 [(4, .slice none (List.length ([] : List (Int × ByteArray × ByteArray × ByteArray))) 0), (5, .int .i64 y1.2)] kr kr ?_)
  refine WO_et rfl (W_ret ?_)
  refine X_then_ret ?_
  obtain rfl := Option.some.inj hr
  refine X_ret [.tmp 4, .tmp 5] [.slice none (List.length ([] : List (Int × ByteArray × ByteArray × ByteArray))) 0, .int .i64 y1.2] rfl (ResAll.cons (ResAt.tmp kr) (ResAll.cons (ResAt.tmp kr) ResAll.nil)) ?_
  have st := st.nilroom 72 4
  have st := st.front1
  have st := st.tail
  have st := st.front1
  have st := st.tail
  exact ⟨none, 0, m2, rfl, hm, st, (RepS.nil _ _)⟩
 ·intro hc
  rw [if_neg (not_true hc)] at hr
  refine W_skip ?_
  refine X_then ?_
  refine W_sr (WO_one rfl (One_load_own (d := 17) (t := 25) (x := (.tmp 6)) (.agg #[.slice a3 (List.length y1.1) c3]) kr rfl (ev (.pointer (some ⟨b2, 0, none⟩))) st.head kr ?_))
  refine WO_one rfl (One_load_row (d := 18) (t := 25) (x := (.tmp 2)) (.agg #[.slice a1 (List.length p0) c1]) kr rfl (ev (.pointer (some ⟨b1, 0, none⟩))) st hb1 kr ?_)
  replace ⟨y2, hx2, hr⟩ := bindS hr
  refine WO_one rfl (One_fn 19 24 #[.agg #[.slice a3 (List.length y1.1) c3], .agg #[.slice a1 (List.length p0) c1]] kr rfl ?_)
  refine (filediff_Diff_ok st r3 r1 hx2).mono ?_
  clear st
  rintro _ w5 ⟨a4, c4, m3, rfl, hle3, st, r4⟩
  refine ⟨_, rfl, ?_⟩
  have hm := Mem.le_trans hm hle3
  have hb1 := hb1.mono hle3
  have r1 := r1.mono hle3
  have r3 := r3.mono hle3
  refine WO_seg 4 [(4, .slice a4 (List.length y2.1) c4), (5, .int .i64 y2.2)] kr kr ?_
  refine WO_et rfl (W_ret ?_)
  obtain rfl := Option.some.inj hr
  refine X_ret [.tmp 4, .tmp 5] [.slice a4 (List.length y2.1) c4, .int .i64 y2.2] rfl (ResAll.cons (ResAt.tmp kr) (ResAll.cons (ResAt.tmp kr) ResAll.nil)) ?_
  have st := st.front1
  have st := st.tail
  have st := st.front1
  have st := st.tail
  exact ⟨a4, c4, m3, rfl, hm, st, r4⟩
def testgatelaw15_awake (N : Nat) : Option (Bool) :=
 (filediff_Diff N ([((⟨#[97]⟩ : ByteArray), (⟨#[49]⟩ : ByteArray))]) ([((⟨#[98]⟩ : ByteArray), (⟨#[49]⟩ : ByteArray)), ((⟨#[99]⟩ : ByteArray), (⟨#[50]⟩ : ByteArray))])).bind fun y1 => (filediff_Apply N ([((⟨#[97]⟩ : ByteArray), (⟨#[49]⟩ : ByteArray))]) y1.1).bind fun y2 => (filediff_Invert N ([((⟨#[97]⟩ : ByteArray), (⟨#[49]⟩ : ByteArray))]) y1.1).bind fun y3 => (if (y1.2 == 0) = true then (if (y2.2 == 0) = true then (if (y3.2 == 0) = true then (if ((List.length y1.1 : Int) == 2) = true then ((idx y1.1 0).bind fun x1 => if ((x1.1 == 4) && ((x1.2.1.toList == (⟨#[98]⟩ : ByteArray).toList) && ((x1.2.2.1.toList == (⟨#[97]⟩ : ByteArray).toList) && ((x1.2.2.2.toList == (⟨#[]⟩ : ByteArray).toList) && true)))) = true then ((testgateref07_Same N y2.1 ([((⟨#[98]⟩ : ByteArray), (⟨#[49]⟩ : ByteArray)), ((⟨#[99]⟩ : ByteArray), (⟨#[50]⟩ : ByteArray))])).bind fun y4 => if y4 = true then (some ((List.length y3.1 : Int) == 2)) else (some false)) else (some false)) else (some false)) else (some false)) else (some false)) else (some false) : Option (Bool)).bind fun o1 => some o1
set_option maxHeartbeats 4000000 in
set_option maxRecDepth 100000 in
theorem testgatelaw15_awake_ok {N : Nat} {m : Mem} {own : List Piece} {w : World} {r : Bool} (st : St m (own) w) (hr : testgatelaw15_awake N = some r) : Calls Tryz.prog 27 #[] w fun e w' => ∃ (m' : Mem), e = .returned (.bool r) ∧ m.le m' ∧ St m' (own) w' := by
 unfold testgatelaw15_awake at hr
 have hm := m.le_refl
 refine W_calls Tryz.func27 rfl Tryz.ntmps27 [] kr rfl ?_
 refine W_sr (WO_seg 1 [] kr kr ?_)
 refine WO_et rfl (W_sr ?_)
 refine WO_seg 1 [(9, .agg #[.string (⟨#[97]⟩ : ByteArray), .string (⟨#[49]⟩ : ByteArray)])] kr kr ?_
 refine WO_one rfl (One_buildSlice (d := 10) (t := 23) (e := 74) (len := 1) (parts := #[(0, (.tmp 9))]) (cPair cStr cStr) (xs := [((⟨#[97]⟩ : ByteArray), (⟨#[49]⟩ : ByteArray))]) [.string (⟨#[97]⟩ : ByteArray), .string (⟨#[49]⟩ : ByteArray)] kr rfl (fun _ => buildCells_run kr _) rfl rfl st ⟨[.string (⟨#[97]⟩ : ByteArray), .string (⟨#[49]⟩ : ByteArray)], _, rfl, ⟨_, _, rfl, rfl, rfl⟩, rfl⟩ ?_)
 clear st
 intro b1 m1 w1 hle1 st r1
 have hm := Mem.le_trans hm hle1
 refine WO_seg 1 [(11, .agg #[.slice (some ⟨b1, 0, none⟩) (List.length ([((⟨#[97]⟩ : ByteArray), (⟨#[49]⟩ : ByteArray))])) 1])] kr kr ?_
 refine WO_one rfl (One_alloc (d := 1) (e := 25) (.agg #[.slice none 0 0]) kr rfl kr st ?_)
 clear st
 intro b2 w2 st
 refine WO_one rfl (One_store (t := 25) (x := (.tmp 1)) (y := (.tmp 11)) (v := .agg #[.slice (some ⟨b1, 0, none⟩) (List.length ([((⟨#[97]⟩ : ByteArray), (⟨#[49]⟩ : ByteArray))])) 1]) (c' := #[.slice (some ⟨b1, 0, none⟩) (List.length ([((⟨#[97]⟩ : ByteArray), (⟨#[49]⟩ : ByteArray))])) 1]) kr (ev (.pointer (some ⟨b2, 0, none⟩))) (ev (.agg #[.slice (some ⟨b1, 0, none⟩) (List.length ([((⟨#[97]⟩ : ByteArray), (⟨#[49]⟩ : ByteArray))])) 1])) st kr kr ?_)
 clear st
 intro w3 st
 refine WO_et rfl (W_sr ?_)
 refine WO_seg 2 [(12, .agg #[.string (⟨#[98]⟩ : ByteArray), .string (⟨#[49]⟩ : ByteArray)]), (13, .agg #[.string (⟨#[99]⟩ : ByteArray), .string (⟨#[50]⟩ : ByteArray)])] kr kr ?_
 refine WO_one rfl (One_buildSlice (d := 14) (t := 23) (e := 74) (len := 2) (parts := #[(0, (.tmp 12)), (1, (.tmp 13))]) (cPair cStr cStr) (xs := [((⟨#[98]⟩ : ByteArray), (⟨#[49]⟩ : ByteArray)), ((⟨#[99]⟩ : ByteArray), (⟨#[50]⟩ : ByteArray))]) [.string (⟨#[98]⟩ : ByteArray), .string (⟨#[49]⟩ : ByteArray), .string (⟨#[99]⟩ : ByteArray), .string (⟨#[50]⟩ : ByteArray)] kr rfl (fun _ => buildCells_run kr _) rfl rfl st ⟨[.string (⟨#[98]⟩ : ByteArray), .string (⟨#[49]⟩ : ByteArray)], _, rfl, ⟨_, _, rfl, rfl, rfl⟩, ⟨[.string (⟨#[99]⟩ : ByteArray), .string (⟨#[50]⟩ : ByteArray)], _, rfl, ⟨_, _, rfl, rfl, rfl⟩, rfl⟩⟩ ?_)
 clear st
 intro b3 m2 w4 hle2 st r2
 have hm := Mem.le_trans hm hle2
 have r1 := r1.mono hle2
 refine WO_seg 1 [(15, .agg #[.slice (some ⟨b3, 0, none⟩) (List.length ([((⟨#[98]⟩ : ByteArray), (⟨#[49]⟩ : ByteArray)), ((⟨#[99]⟩ : ByteArray), (⟨#[50]⟩ : ByteArray))])) 2])] kr kr ?_
 refine WO_one rfl (One_alloc (d := 2) (e := 25) (.agg #[.slice none 0 0]) kr rfl kr st ?_)
 clear st
 intro b4 w5 st
 refine WO_one rfl (One_store (t := 25) (x := (.tmp 2)) (y := (.tmp 15)) (v := .agg #[.slice (some ⟨b3, 0, none⟩) (List.length ([((⟨#[98]⟩ : ByteArray), (⟨#[49]⟩ : ByteArray)), ((⟨#[99]⟩ : ByteArray), (⟨#[50]⟩ : ByteArray))])) 2]) (c' := #[.slice (some ⟨b3, 0, none⟩) (List.length ([((⟨#[98]⟩ : ByteArray), (⟨#[49]⟩ : ByteArray)), ((⟨#[99]⟩ : ByteArray), (⟨#[50]⟩ : ByteArray))])) 2]) kr (ev (.pointer (some ⟨b4, 0, none⟩))) (ev (.agg #[.slice (some ⟨b3, 0, none⟩) (List.length ([((⟨#[98]⟩ : ByteArray), (⟨#[49]⟩ : ByteArray)), ((⟨#[99]⟩ : ByteArray), (⟨#[50]⟩ : ByteArray))])) 2])) st kr kr ?_)
 clear st
 intro w6 st
 refine WO_et rfl (W_sr ?_)
 refine WO_one rfl (One_load_own (d := 17) (t := 25) (x := (.tmp 1)) (.agg #[.slice (some ⟨b1, 0, none⟩) (List.length ([((⟨#[97]⟩ : ByteArray), (⟨#[49]⟩ : ByteArray))])) 1]) kr rfl (ev (.pointer (some ⟨b2, 0, none⟩))) st.tail.tail.head kr ?_)
 refine WO_one rfl (One_load_own (d := 18) (t := 25) (x := (.tmp 2)) (.agg #[.slice (some ⟨b3, 0, none⟩) (List.length ([((⟨#[98]⟩ : ByteArray), (⟨#[49]⟩ : ByteArray)), ((⟨#[99]⟩ : ByteArray), (⟨#[50]⟩ : ByteArray))])) 2]) kr rfl (ev (.pointer (some ⟨b4, 0, none⟩))) st.head kr ?_)
 replace ⟨y1, hx1, hr⟩ := bindS hr
 refine WO_one rfl (One_fn 19 24 #[.agg #[.slice (some ⟨b1, 0, none⟩) (List.length ([((⟨#[97]⟩ : ByteArray), (⟨#[49]⟩ : ByteArray))])) 1], .agg #[.slice (some ⟨b3, 0, none⟩) (List.length ([((⟨#[98]⟩ : ByteArray), (⟨#[49]⟩ : ByteArray)), ((⟨#[99]⟩ : ByteArray), (⟨#[50]⟩ : ByteArray))])) 2]] kr rfl ?_)
 refine (filediff_Diff_ok st r1 r2 hx1).mono ?_
 clear st
 rintro _ w7 ⟨a1, c1, m3, rfl, hle3, st, r3⟩
 refine ⟨_, rfl, ?_⟩
 have hm := Mem.le_trans hm hle3
 have r1 := r1.mono hle3
 have r2 := r2.mono hle3
 refine WO_seg 5 [(3, .slice a1 (List.length y1.1) c1), (4, .int .i64 y1.2)] kr kr ?_
 refine WO_et rfl (W_sr ?_)
 refine WO_one rfl (One_load_own (d := 23) (t := 25) (x := (.tmp 1)) (.agg #[.slice (some ⟨b1, 0, none⟩) (List.length ([((⟨#[97]⟩ : ByteArray), (⟨#[49]⟩ : ByteArray))])) 1]) kr rfl (ev (.pointer (some ⟨b2, 0, none⟩))) st.tail.tail.tail.head kr ?_)
 refine WO_seg 1 [(24, .slice a1 (List.length y1.1) c1)] kr kr ?_
 replace ⟨y2, hx2, hr⟩ := bindS hr
 refine WO_one rfl (One_fn 25 30 #[.agg #[.slice (some ⟨b1, 0, none⟩) (List.length ([((⟨#[97]⟩ : ByteArray), (⟨#[49]⟩ : ByteArray))])) 1], .slice a1 (List.length y1.1) c1] kr rfl ?_)
 refine (filediff_Apply_ok st r1 r3 hx2).mono ?_
 clear st
 rintro _ w8 ⟨a2, c2, m4, rfl, hle4, st, r4⟩
 refine ⟨_, rfl, ?_⟩
 have hm := Mem.le_trans hm hle4
 have r3 := r3.mono hle4
 have r1 := r1.mono hle4
 have r2 := r2.mono hle4
 refine WO_seg 3 [(26, .agg #[.slice a2 (List.length y2.1) c2]), (27, .int .i64 y2.2)] kr kr ?_
 refine WO_one rfl (One_alloc (d := 5) (e := 25) (.agg #[.slice none 0 0]) kr rfl kr st ?_)
 clear st
 intro b5 w9 st
 refine WO_one rfl (One_store (t := 25) (x := (.tmp 5)) (y := (.tmp 26)) (v := .agg #[.slice a2 (List.length y2.1) c2]) (c' := #[.slice a2 (List.length y2.1) c2]) kr (ev (.pointer (some ⟨b5, 0, none⟩))) (ev (.agg #[.slice a2 (List.length y2.1) c2])) st kr kr ?_)
 clear st
 intro w10 st
 refine WO_seg 1 [(6, .int .i64 y2.2)] kr kr ?_
 refine WO_et rfl (W_sr ?_)
 refine WO_one rfl (One_load_own (d := 29) (t := 25) (x := (.tmp 1)) (.agg #[.slice (some ⟨b1, 0, none⟩) (List.length ([((⟨#[97]⟩ : ByteArray), (⟨#[49]⟩ : ByteArray))])) 1]) kr rfl (ev (.pointer (some ⟨b2, 0, none⟩))) st.tail.tail.tail.tail.tail.head kr ?_)
 refine WO_seg 1 [(30, .slice a1 (List.length y1.1) c1)] kr kr ?_
 replace ⟨y3, hx3, hr⟩ := bindS hr
 refine WO_one rfl (One_fn 31 33 #[.agg #[.slice (some ⟨b1, 0, none⟩) (List.length ([((⟨#[97]⟩ : ByteArray), (⟨#[49]⟩ : ByteArray))])) 1], .slice a1 (List.length y1.1) c1] kr rfl ?_)
 refine (filediff_Invert_ok st r1 r3 hx3).mono ?_
 clear st
 rintro _ w11 ⟨a3, c3, m5, rfl, hle5, st, r5⟩
 refine ⟨_, rfl, ?_⟩
 have hm := Mem.le_trans hm hle5
 have r3 := r3.mono hle5
 have r1 := r1.mono hle5
 have r4 := r4.mono hle5
 have r2 := r2.mono hle5
 refine WO_seg 5 [(7, .slice a3 (List.length y3.1) c3), (8, .int .i64 y3.2)] kr kr ?_
 refine WO_et rfl (W_sr ?_)
 replace ⟨o1, hr, hrK⟩ := bindS hr
 refine WO_cut (j := 33) (fun L' w' => ∃ (m6 : Mem), L' = [(0, .bool o1)] ∧ m.le m6 ∧ St m6 (.blk b5 (.cells #[.slice a2 (List.length y2.1) c2] 25 (0, 0)) :: .blk b4 (.cells #[.slice (some ⟨b3, 0, none⟩) (List.length ([((⟨#[98]⟩ : ByteArray), (⟨#[49]⟩ : ByteArray)), ((⟨#[99]⟩ : ByteArray), (⟨#[50]⟩ : ByteArray))])) 2] 25 (0, 0)) :: .blk b2 (.cells #[.slice (some ⟨b1, 0, none⟩) (List.length ([((⟨#[97]⟩ : ByteArray), (⟨#[49]⟩ : ByteArray))])) 1] 25 (0, 0)) :: .room a3 (List.length y3.1) c3 72 4 :: .room a2 (List.length y2.1) c2 74 2 :: .room a1 (List.length y1.1) c1 72 4 :: .room (some ⟨b3, 0, none⟩) (List.length ([((⟨#[98]⟩ : ByteArray), (⟨#[49]⟩ : ByteArray)), ((⟨#[99]⟩ : ByteArray), (⟨#[50]⟩ : ByteArray))])) 2 74 2 :: .room (some ⟨b1, 0, none⟩) (List.length ([((⟨#[97]⟩ : ByteArray), (⟨#[49]⟩ : ByteArray))])) 1 74 2 :: own) w' ∧ RepS (cPair cStr cStr) m6 a2 c2 y2.1 ∧ RepS (cPair cStr cStr) m6 (some ⟨b3, 0, none⟩) 2 ([((⟨#[98]⟩ : ByteArray), (⟨#[49]⟩ : ByteArray)), ((⟨#[99]⟩ : ByteArray), (⟨#[50]⟩ : ByteArray))]) ∧ RepS (cPair cStr cStr) m6 (some ⟨b1, 0, none⟩) 1 ([((⟨#[97]⟩ : ByteArray), (⟨#[49]⟩ : ByteArray))])) ?_ ?_
 ·clear hr st
  have hr := hrK
  clear hrK
  rintro _ w12 ⟨m6, rfl, hm, st, r4, r2, r1⟩
  refine WO_et rfl (W_ret ?_)
  obtain rfl := Option.some.inj hr
  refine X_ret [.tmp 0] [.bool o1] rfl (ResAll.cons (ResAt.tmp kr) ResAll.nil) ?_
  have st := st.tail
  have st := st.tail
  have st := st.tail
  have st := st.tail
  have st := st.tail
  have st := st.tail
  have st := st.tail
  have st := st.tail
  exact ⟨m6, rfl, hm, st⟩
 ·intro K
  clear hrK
  refine WO_seg 3 [(36, .bool (y1.2 == 0))] kr kr ?_
  rcases bcases (y1.2 == 0) with hc | hc
  ·rw [if_pos hc] at hr
   refine WO_fact (t := 36) (b := true) (y1.2 == 0) kr hc ?_
   refine WO_seg 4 [(40, .bool (y2.2 == 0))] kr kr ?_
   rcases bcases (y2.2 == 0) with hc | hc
   ·rw [if_pos hc] at hr
    refine WO_fact (t := 40) (b := true) (y2.2 == 0) kr hc ?_
    refine WO_seg 4 [(44, .bool (y3.2 == 0))] kr kr ?_
    rcases bcases (y3.2 == 0) with hc | hc
    ·rw [if_pos hc] at hr
     refine WO_fact (t := 44) (b := true) (y3.2 == 0) kr hc ?_
     refine WO_seg 5 [(49, .bool ((List.length y1.1 : Int) == 2))] kr kr ?_
     rcases bcases ((List.length y1.1 : Int) == 2) with hc | hc
     ·rw [if_pos hc] at hr
      refine WO_fact (t := 49) (b := true) ((List.length y1.1 : Int) == 2) kr hc ?_
      refine WO_seg 1 [(50, .slice a1 (List.length y1.1) c1)] kr kr ?_
      replace ⟨x1, hx4, hr⟩ := bindS hr
      refine WO_one rfl (One_index (d := 51) (t := 58) (e := 72) (x := (.tmp 50)) (y := (.const (.int .i64 0))) (cPair (cInt .i64) (cPair cStr (cPair cStr cStr))) kr rfl (ev (.slice a1 (List.length y1.1) c1)) (ev (.int .i64 0)) kr r3 hx4 ?_)
      rintro b6 f1 cs1 ⟨_, _, rfl, rfl, ⟨_, _, rfl, rfl, ⟨_, _, rfl, rfl, rfl⟩⟩⟩ hq1
      refine WO_one rfl (One_load_row (d := 52) (t := 72) (x := (.tmp 51)) (.agg #[.int .i64 x1.1, .string x1.2.1, .string x1.2.2.1, .string x1.2.2.2]) kr rfl (ev (.pointer (some ⟨b6, f1, none⟩))) st hq1 kr ?_)
      refine WO_seg 1 [(53, .agg #[.int .i64 4, .string (⟨#[98]⟩ : ByteArray), .string (⟨#[97]⟩ : ByteArray), .string (⟨#[]⟩ : ByteArray)])] kr kr ?_
      refine WO_one rfl (One_eqAgg (d := 54) (t := 72) (t2 := 72) (x := (.tmp 52)) (y := (.tmp 53)) (xs := #[.int .i64 x1.1, .string x1.2.1, .string x1.2.2.1, .string x1.2.2.2]) (ys := #[.int .i64 4, .string (⟨#[98]⟩ : ByteArray), .string (⟨#[97]⟩ : ByteArray), .string (⟨#[]⟩ : ByteArray)]) ((x1.1 == 4) && ((x1.2.1.toList == (⟨#[98]⟩ : ByteArray).toList) && ((x1.2.2.1.toList == (⟨#[97]⟩ : ByteArray).toList) && ((x1.2.2.2.toList == (⟨#[]⟩ : ByteArray).toList) && true)))) kr rfl (ev (.agg #[.int .i64 x1.1, .string x1.2.1, .string x1.2.2.1, .string x1.2.2.2])) (ev (.agg #[.int .i64 4, .string (⟨#[98]⟩ : ByteArray), .string (⟨#[97]⟩ : ByteArray), .string (⟨#[]⟩ : ByteArray)])) kr kr kr ?_)
      refine WO_seg 2 [(56, .bool ((x1.1 == 4) && ((x1.2.1.toList == (⟨#[98]⟩ : ByteArray).toList) && ((x1.2.2.1.toList == (⟨#[97]⟩ : ByteArray).toList) && ((x1.2.2.2.toList == (⟨#[]⟩ : ByteArray).toList) && true)))))] kr kr ?_
      rcases bcases ((x1.1 == 4) && ((x1.2.1.toList == (⟨#[98]⟩ : ByteArray).toList) && ((x1.2.2.1.toList == (⟨#[97]⟩ : ByteArray).toList) && ((x1.2.2.2.toList == (⟨#[]⟩ : ByteArray).toList) && true)))) with hc | hc
      ·rw [if_pos hc] at hr
       refine WO_fact (t := 56) (b := true) ((x1.1 == 4) && ((x1.2.1.toList == (⟨#[98]⟩ : ByteArray).toList) && ((x1.2.2.1.toList == (⟨#[97]⟩ : ByteArray).toList) && ((x1.2.2.2.toList == (⟨#[]⟩ : ByteArray).toList) && true)))) kr hc ?_
       refine WO_one rfl (One_load_own (d := 57) (t := 25) (x := (.tmp 5)) (.agg #[.slice a2 (List.length y2.1) c2]) kr rfl (ev (.pointer (some ⟨b5, 0, none⟩))) st.tail.head kr ?_)
       refine WO_one rfl (One_load_own (d := 58) (t := 25) (x := (.tmp 2)) (.agg #[.slice (some ⟨b3, 0, none⟩) (List.length ([((⟨#[98]⟩ : ByteArray), (⟨#[49]⟩ : ByteArray)), ((⟨#[99]⟩ : ByteArray), (⟨#[50]⟩ : ByteArray))])) 2]) kr rfl (ev (.pointer (some ⟨b4, 0, none⟩))) st.tail.tail.tail.tail.head kr ?_)
       replace ⟨y4, hx5, hr⟩ := bindS hr
       refine WO_one rfl (One_fn 59 32 #[.agg #[.slice a2 (List.length y2.1) c2], .agg #[.slice (some ⟨b3, 0, none⟩) (List.length ([((⟨#[98]⟩ : ByteArray), (⟨#[49]⟩ : ByteArray)), ((⟨#[99]⟩ : ByteArray), (⟨#[50]⟩ : ByteArray))])) 2]] kr rfl ?_)
       refine (testgateref07_Same_ok st r4 r2 hx5).mono ?_
       clear st
       rintro _ w13 ⟨m7, rfl, hle6, st⟩
       refine ⟨_, rfl, ?_⟩
       have hm := Mem.le_trans hm hle6
       have r3 := r3.mono hle6
       have r5 := r5.mono hle6
       have hq1 := hq1.mono hle6
       have r4 := r4.mono hle6
       have r2 := r2.mono hle6
       have r1 := r1.mono hle6
       refine WO_seg 2 [(61, .bool y4)] kr kr ?_
       rcases bcases y4 with hc | hc
       ·rw [if_pos hc] at hr
        refine WO_fact (t := 61) (b := true) y4 kr hc ?_
        refine WO_seg 5 [(0, .bool ((List.length y3.1 : Int) == 2))] kr kr ?_
        obtain rfl := Option.some.inj hr
        have st := st.front7.front6.front5.front5.front4.front7.front7.front7
        exact WO_env _ kr (K _ _ ⟨m7, rfl, hm, st, r4, r2, r1⟩)
       ·rw [if_neg (not_true hc)] at hr
        refine WO_fact (t := 61) (b := false) y4 kr hc ?_
        refine WO_seg 5 [(0, .bool false)] kr kr ?_
        obtain rfl := Option.some.inj hr
        have st := st.front7.front6.front5.front5.front4.front7.front7.front7
        exact WO_env _ kr (K _ _ ⟨m7, rfl, hm, st, r4, r2, r1⟩)
      ·rw [if_neg (not_true hc)] at hr
       refine WO_fact (t := 56) (b := false) ((x1.1 == 4) && ((x1.2.1.toList == (⟨#[98]⟩ : ByteArray).toList) && ((x1.2.2.1.toList == (⟨#[97]⟩ : ByteArray).toList) && ((x1.2.2.2.toList == (⟨#[]⟩ : ByteArray).toList) && true)))) kr hc ?_
       refine WO_seg 10 [(0, .bool false)] kr kr ?_
       obtain rfl := Option.some.inj hr
       have st := st.front7.front6.front5.front5.front4.front7.front7.front7
       exact WO_env _ kr (K _ _ ⟨m5, rfl, hm, st, r4, r2, r1⟩)
     ·rw [if_neg (not_true hc)] at hr
      refine WO_fact (t := 49) (b := false) ((List.length y1.1 : Int) == 2) kr hc ?_
      refine WO_seg 17 [(0, .bool false)] kr kr ?_
      obtain rfl := Option.some.inj hr
      have st := st.front7.front6.front5.front5.front4.front7.front7.front7
      exact WO_env _ kr (K _ _ ⟨m5, rfl, hm, st, r4, r2, r1⟩)
    ·rw [if_neg (not_true hc)] at hr
     refine WO_fact (t := 44) (b := false) (y3.2 == 0) kr hc ?_
     refine WO_seg 22 [(0, .bool false)] kr kr ?_
     obtain rfl := Option.some.inj hr
     have st := st.front7.front6.front5.front5.front4.front7.front7.front7
     exact WO_env _ kr (K _ _ ⟨m5, rfl, hm, st, r4, r2, r1⟩)
   ·rw [if_neg (not_true hc)] at hr
    refine WO_fact (t := 40) (b := false) (y2.2 == 0) kr hc ?_
    refine WO_seg 26 [(0, .bool false)] kr kr ?_
    obtain rfl := Option.some.inj hr
    have st := st.front7.front6.front5.front5.front4.front7.front7.front7
    exact WO_env _ kr (K _ _ ⟨m5, rfl, hm, st, r4, r2, r1⟩)
  ·rw [if_neg (not_true hc)] at hr
   refine WO_fact (t := 36) (b := false) (y1.2 == 0) kr hc ?_
   refine WO_seg 30 [(0, .bool false)] kr kr ?_
   obtain rfl := Option.some.inj hr
   have st := st.front7.front6.front5.front5.front4.front7.front7.front7
   exact WO_env _ kr (K _ _ ⟨m5, rfl, hm, st, r4, r2, r1⟩)
def testgatelaw15_FilediffOrder_L1 (N : Nat) (y2 : (List Int × Int) × (List (Int × ByteArray × ByteArray × ByteArray))) (s1 : (List (Int × ByteArray × ByteArray × ByteArray)) × Int) : Option (((List (Int × ByteArray × ByteArray × ByteArray)) × Int) ⊕ (((List (Int × ByteArray × ByteArray × ByteArray))))) :=
 if (decide (s1.2 ≥ 0)) = true then ((idx y2.2 s1.2).bind fun x1 => (appendS 56 s1.1 ([(x1.1, x1.2.1, x1.2.2.1, x1.2.2.2)])).bind fun l1 => some (.inl (l1, IntKind.wrap .i64 (s1.2 - 1)))) else (some (.inr s1.1))
def testgatelaw15_FilediffOrder (N : Nat) (p0 : List Int) : Option (Bool) :=
 (testgatelaw15_two N (p0, 0)).bind fun y1 => (testgatelaw15_changes N (y1.1.1, y1.1.2) y1.2.1 y1.2.2).bind fun y2 => (loopM (testgatelaw15_FilediffOrder_L1 N y2) N (([] : List (Int × ByteArray × ByteArray × ByteArray)), IntKind.wrap .i64 ((List.length y2.2 : Int) - 1))).bind fun o1 => (filediff_Apply N y1.2.1 y2.2).bind fun y3 => (filediff_Apply N y1.2.1 o1).bind fun y4 => (if ((y3.2 == 0) == (y4.2 == 0)) = true then ((testgateref07_Same N y3.1 y4.1).bind fun y5 => if y5 = true then ((testgatelaw15_awake N).bind fun y6 => some y6) else (some false)) else (some false) : Option (Bool)).bind fun o2 => some o2
set_option maxHeartbeats 4000000 in
set_option maxRecDepth 100000 in
theorem testgatelaw15_FilediffOrder_ok {N : Nat} {m : Mem} {own : List Piece} {w : World} {p0 : List Int} {a1 : Option Addr} {c1 : Nat} {r : Bool} (st : St m (own) w) (r1 : RepS (cInt .i64) m a1 c1 p0) (hr : testgatelaw15_FilediffOrder N p0 = some r) : Calls Tryz.prog 8 #[.slice a1 (List.length p0) c1] w fun e w' => ∃ (m' : Mem), e = .returned (.bool r) ∧ m.le m' ∧ St m' (own) w' := by
 unfold testgatelaw15_FilediffOrder at hr
 have hm := m.le_refl
 refine W_calls Tryz.func8 rfl Tryz.ntmps8 [(0, .slice a1 (List.length p0) c1)] kr rfl ?_
 refine W_sr (WO_seg 1 [] kr kr ?_)
 refine WO_et rfl (W_sr ?_)
 refine WO_seg 2 [(14, .agg #[.slice a1 (List.length p0) c1, .int .i64 0])] kr kr ?_
 refine WO_one rfl (One_box_own (d := 15) (e := 28) (x := (.tmp 14)) (.agg #[.slice a1 (List.length p0) c1, .int .i64 0]) kr rfl kr st ?_)
 clear st
 intro b1 w1 st
 refine WO_seg 1 [(3, .pointer (some ⟨b1, 0, none⟩))] kr kr ?_
 refine WO_et rfl (W_sr ?_)
 refine WO_seg 1 [(17, .pointer (some ⟨b1, 0, none⟩))] kr kr ?_
 replace ⟨y1, hx1, hr⟩ := bindS hr
 refine WO_one rfl (One_fn 18 23 #[.pointer (some ⟨b1, 0, none⟩)] kr rfl ?_)
 refine (testgatelaw15_two_ok st r1 hx1).mono ?_
 clear st
 rintro _ w2 ⟨a2, c2, a3, c3, a4, c4, m2, rfl, hle2, st, r2, r3, r4⟩
 refine ⟨_, rfl, ?_⟩
 have hm := Mem.le_trans hm hle2
 have r1 := r1.mono hle2
 refine WO_seg 3 [(19, .agg #[.slice a3 (List.length y1.2.1) c3]), (20, .agg #[.slice a4 (List.length y1.2.2) c4])] kr kr ?_
 refine WO_one rfl (One_alloc (d := 4) (e := 25) (.agg #[.slice none 0 0]) kr rfl kr st ?_)
 clear st
 intro b2 w3 st
 refine WO_one rfl (One_alloc (d := 5) (e := 25) (.agg #[.slice none 0 0]) kr rfl kr st ?_)
 clear st
 intro b3 w4 st
 have st := st.front1
 refine WO_one rfl (One_store (t := 25) (x := (.tmp 4)) (y := (.tmp 19)) (v := .agg #[.slice a3 (List.length y1.2.1) c3]) (c' := #[.slice a3 (List.length y1.2.1) c3]) kr (ev (.pointer (some ⟨b2, 0, none⟩))) (ev (.agg #[.slice a3 (List.length y1.2.1) c3])) st kr kr ?_)
 clear st
 intro w5 st
 have st := st.front1
 refine WO_one rfl (One_store (t := 25) (x := (.tmp 5)) (y := (.tmp 20)) (v := .agg #[.slice a4 (List.length y1.2.2) c4]) (c' := #[.slice a4 (List.length y1.2.2) c4]) kr (ev (.pointer (some ⟨b3, 0, none⟩))) (ev (.agg #[.slice a4 (List.length y1.2.2) c4])) st kr kr ?_)
 clear st
 intro w6 st
 refine WO_et rfl (W_sr ?_)
 refine WO_seg 1 [(21, .pointer (some ⟨b1, 0, none⟩))] kr kr ?_
 refine WO_one rfl (One_load_own (d := 22) (t := 25) (x := (.tmp 4)) (.agg #[.slice a3 (List.length y1.2.1) c3]) kr rfl (ev (.pointer (some ⟨b2, 0, none⟩))) st.tail.head kr ?_)
 refine WO_one rfl (One_load_own (d := 23) (t := 25) (x := (.tmp 5)) (.agg #[.slice a4 (List.length y1.2.2) c4]) kr rfl (ev (.pointer (some ⟨b3, 0, none⟩))) st.head kr ?_)
 have st := st.front3
 replace ⟨y2, hx2, hr⟩ := bindS hr
 refine WO_one rfl (One_fn 24 28 #[.pointer (some ⟨b1, 0, none⟩), .agg #[.slice a3 (List.length y1.2.1) c3], .agg #[.slice a4 (List.length y1.2.2) c4]] kr rfl ?_)
 refine (testgatelaw15_changes_ok st r2 r3 r4 hx2).mono ?_
 clear st
 rintro _ w7 ⟨a5, c5, a6, c6, m3, rfl, hle3, st, r5, r6⟩
 refine ⟨_, rfl, ?_⟩
 have hm := Mem.le_trans hm hle3
 have r3 := r3.mono hle3
 have r4 := r4.mono hle3
 have r2 := r2.mono hle3
 refine WO_seg 1 [(6, .slice a6 (List.length y2.2) c6)] kr kr ?_
 refine WO_et rfl (W_sr ?_)
 refine WO_seg 1 [(7, .slice none (List.length ([] : List (Int × ByteArray × ByteArray × ByteArray))) 0)] kr kr ?_
 refine WO_et rfl (W_seq ?_)
 refine W_sr (WO_seg 4 [(8, .int .i64 (IntKind.wrap .i64 ((List.length y2.2 : Int) - 1)))] kr kr ?_)
 refine WO_et rfl (W_block ?_)
 replace ⟨out1, hr, hrKu1⟩ := bindS hr
 refine W_cut (.exit 0) (fun L' w' => ∃ (o1 : (List (Int × ByteArray × ByteArray × ByteArray))) (a7 : Option Addr) (c7 : Nat) (m4 : Mem), o1 = out1 ∧ L' = [(4, .pointer (some ⟨b2, 0, none⟩)), (6, .slice a6 (List.length y2.2) c6), (7, .slice a7 (List.length o1) c7)] ∧ m.le m4 ∧ St m4 (.blk b1 (.cells #[.slice a5 (List.length y2.1.1) c5, .int .i64 y2.1.2] 28 (0, 0)) :: .blk b3 (.cells #[.slice a4 (List.length y1.2.2) c4] 25 (0, 0)) :: .blk b2 (.cells #[.slice a3 (List.length y1.2.1) c3] 25 (0, 0)) :: .room a6 (List.length y2.2) c6 72 4 :: .room a4 (List.length y1.2.2) c4 74 2 :: .room a7 (List.length o1) c7 72 4 :: own) w' ∧ RepS (cPair (cInt .i64) (cPair cStr (cPair cStr cStr))) m4 a6 c6 y2.2 ∧ RepS (cPair (cInt .i64) (cPair cStr (cPair cStr cStr))) m4 a7 c7 o1 ∧ RepS (cInt .i64) m4 a5 c5 y2.1.1 ∧ RepS (cPair cStr cStr) m4 a4 c4 y1.2.2 ∧ RepS (cPair cStr cStr) m4 a3 c3 y1.2.1) ?_ ?_
 ·clear hr st
  rintro _ w8 ⟨o1, a7, c7, m4, rfl, rfl, hm, st, r6, r7, r5, r4, r3⟩
  have hr := hrKu1
  clear hrKu1
  refine X_block_eq ?_
  refine X_then ?_
  refine W_sr (WO_one rfl (One_load_own (d := 40) (t := 25) (x := (.tmp 4)) (.agg #[.slice a3 (List.length y1.2.1) c3]) kr rfl (ev (.pointer (some ⟨b2, 0, none⟩))) st.tail.tail.head kr ?_))
  refine WO_seg 1 [(41, .slice a6 (List.length y2.2) c6)] kr kr ?_
  replace ⟨y3, hx5, hr⟩ := bindS hr
  refine WO_one rfl (One_fn 42 30 #[.agg #[.slice a3 (List.length y1.2.1) c3], .slice a6 (List.length y2.2) c6] kr rfl ?_)
  refine (filediff_Apply_ok st r3 r6 hx5).mono ?_
  clear st
  rintro _ w12 ⟨a10, c10, m8, rfl, hle6, st, r11⟩
  refine ⟨_, rfl, ?_⟩
  have hm := Mem.le_trans hm hle6
  have r6 := r6.mono hle6
  have r7 := r7.mono hle6
  have r3 := r3.mono hle6
  have r5 := r5.mono hle6
  have r4 := r4.mono hle6
  refine WO_seg 3 [(43, .agg #[.slice a10 (List.length y3.1) c10]), (44, .int .i64 y3.2)] kr kr ?_
  refine WO_one rfl (One_alloc (d := 9) (e := 25) (.agg #[.slice none 0 0]) kr rfl kr st ?_)
  clear st
  intro b6 w13 st
  refine WO_one rfl (One_store (t := 25) (x := (.tmp 9)) (y := (.tmp 43)) (v := .agg #[.slice a10 (List.length y3.1) c10]) (c' := #[.slice a10 (List.length y3.1) c10]) kr (ev (.pointer (some ⟨b6, 0, none⟩))) (ev (.agg #[.slice a10 (List.length y3.1) c10])) st kr kr ?_)
  clear st
  intro w14 st
  refine WO_seg 1 [(10, .int .i64 y3.2)] kr kr ?_
  refine WO_end rfl ?_
  have st := st.front5
  have st := st.tail
  refine X_then ?_
  refine W_sr (WO_one rfl (One_load_own (d := 46) (t := 25) (x := (.tmp 4)) (.agg #[.slice a3 (List.length y1.2.1) c3]) kr rfl (ev (.pointer (some ⟨b2, 0, none⟩))) st.tail.tail.tail.tail.head kr ?_))
  refine WO_seg 1 [(47, .slice a7 (List.length o1) c7)] kr kr ?_
  replace ⟨y4, hx6, hr⟩ := bindS hr
  refine WO_one rfl (One_fn 48 30 #[.agg #[.slice a3 (List.length y1.2.1) c3], .slice a7 (List.length o1) c7] kr rfl ?_)
  refine (filediff_Apply_ok st r3 r7 hx6).mono ?_
  clear st
  rintro _ w15 ⟨a11, c11, m9, rfl, hle7, st, r12⟩
  refine ⟨_, rfl, ?_⟩
  have hm := Mem.le_trans hm hle7
  have r7 := r7.mono hle7
  have r3 := r3.mono hle7
  have r11 := r11.mono hle7
  have r5 := r5.mono hle7
  have r4 := r4.mono hle7
  refine WO_seg 3 [(49, .agg #[.slice a11 (List.length y4.1) c11]), (50, .int .i64 y4.2)] kr kr ?_
  refine WO_one rfl (One_alloc (d := 11) (e := 25) (.agg #[.slice none 0 0]) kr rfl kr st ?_)
  clear st
  intro b7 w16 st
  refine WO_one rfl (One_store (t := 25) (x := (.tmp 11)) (y := (.tmp 49)) (v := .agg #[.slice a11 (List.length y4.1) c11]) (c' := #[.slice a11 (List.length y4.1) c11]) kr (ev (.pointer (some ⟨b7, 0, none⟩))) (ev (.agg #[.slice a11 (List.length y4.1) c11])) st kr kr ?_)
  clear st
  intro w17 st
  refine WO_seg 1 [(12, .int .i64 y4.2)] kr kr ?_
  refine WO_end rfl ?_
  have st := st.front8
  have st := st.tail
  refine X_then ?_
  refine W_sr ?_
  replace ⟨o2, hr, hrK⟩ := bindS hr
  refine WO_cut (j := 14) (fun L' w' => ∃ (m10 : Mem), L' = [(2, .bool o2)] ∧ m.le m10 ∧ St m10 (.blk b7 (.cells #[.slice a11 (List.length y4.1) c11] 25 (0, 0)) :: .blk b6 (.cells #[.slice a10 (List.length y3.1) c10] 25 (0, 0)) :: .blk b1 (.cells #[.slice a5 (List.length y2.1.1) c5, .int .i64 y2.1.2] 28 (0, 0)) :: .blk b3 (.cells #[.slice a4 (List.length y1.2.2) c4] 25 (0, 0)) :: .blk b2 (.cells #[.slice a3 (List.length y1.2.1) c3] 25 (0, 0)) :: .room a11 (List.length y4.1) c11 74 2 :: .room a10 (List.length y3.1) c10 74 2 :: .room a4 (List.length y1.2.2) c4 74 2 :: own) w' ∧ RepS (cPair cStr cStr) m10 a11 c11 y4.1 ∧ RepS (cPair cStr cStr) m10 a10 c10 y3.1 ∧ RepS (cInt .i64) m10 a5 c5 y2.1.1 ∧ RepS (cPair cStr cStr) m10 a4 c4 y1.2.2 ∧ RepS (cPair cStr cStr) m10 a3 c3 y1.2.1) ?_ ?_
  ·clear hr st
   have hr := hrK
   clear hrK
   rintro _ w18 ⟨m10, rfl, hm, st, r12, r11, r5, r4, r3⟩
   refine WO_et rfl (W_ret ?_)
   obtain rfl := Option.some.inj hr
   refine X_ret [.tmp 2] [.bool o2] rfl (ResAll.cons (ResAt.tmp kr) ResAll.nil) ?_
   have st := st.tail
   have st := st.tail
   have st := st.tail
   have st := st.tail
   have st := st.tail
   have st := st.tail
   have st := st.tail
   have st := st.tail
   exact ⟨m10, rfl, hm, st⟩
  ·intro K
   clear hrK
   refine WO_seg 6 [(56, .bool ((y3.2 == 0) == (y4.2 == 0)))] kr kr ?_
   rcases bcases ((y3.2 == 0) == (y4.2 == 0)) with hc | hc
   ·rw [if_pos hc] at hr
    refine WO_fact (t := 56) (b := true) ((y3.2 == 0) == (y4.2 == 0)) kr hc ?_
    refine WO_one rfl (One_load_own (d := 57) (t := 25) (x := (.tmp 9)) (.agg #[.slice a10 (List.length y3.1) c10]) kr rfl (ev (.pointer (some ⟨b6, 0, none⟩))) st.tail.tail.head kr ?_)
    refine WO_one rfl (One_load_own (d := 58) (t := 25) (x := (.tmp 11)) (.agg #[.slice a11 (List.length y4.1) c11]) kr rfl (ev (.pointer (some ⟨b7, 0, none⟩))) st.head kr ?_)
    replace ⟨y5, hx7, hr⟩ := bindS hr
    refine WO_one rfl (One_fn 59 32 #[.agg #[.slice a10 (List.length y3.1) c10], .agg #[.slice a11 (List.length y4.1) c11]] kr rfl ?_)
    refine (testgateref07_Same_ok st r11 r12 hx7).mono ?_
    clear st
    rintro _ w19 ⟨m11, rfl, hle8, st⟩
    refine ⟨_, rfl, ?_⟩
    have hm := Mem.le_trans hm hle8
    have r11 := r11.mono hle8
    have r12 := r12.mono hle8
    have r5 := r5.mono hle8
    have r4 := r4.mono hle8
    have r3 := r3.mono hle8
    refine WO_seg 2 [(61, .bool y5)] kr kr ?_
    rcases bcases y5 with hc | hc
    ·rw [if_pos hc] at hr
     refine WO_fact (t := 61) (b := true) y5 kr hc ?_
     replace ⟨y6, hx8, hr⟩ := bindS hr
     refine WO_one rfl (One_fn 62 27 #[] kr rfl ?_)
     refine (testgatelaw15_awake_ok st hx8).mono ?_
     clear st
     rintro _ w20 ⟨m12, rfl, hle9, st⟩
     refine ⟨_, rfl, ?_⟩
     have hm := Mem.le_trans hm hle9
     have r11 := r11.mono hle9
     have r12 := r12.mono hle9
     have r5 := r5.mono hle9
     have r4 := r4.mono hle9
     have r3 := r3.mono hle9
     refine WO_seg 2 [(2, .bool y6)] kr kr ?_
     obtain rfl := Option.some.inj hr
     have st := st.front7.front4.front3.front7.front7.front7.front7.front7
     exact WO_env _ kr (K _ _ ⟨m12, rfl, hm, st, r12, r11, r5, r4, r3⟩)
    ·rw [if_neg (not_true hc)] at hr
     refine WO_fact (t := 61) (b := false) y5 kr hc ?_
     refine WO_seg 3 [(2, .bool false)] kr kr ?_
     obtain rfl := Option.some.inj hr
     have st := st.front7.front4.front3.front7.front7.front7.front7.front7
     exact WO_env _ kr (K _ _ ⟨m11, rfl, hm, st, r12, r11, r5, r4, r3⟩)
   ·rw [if_neg (not_true hc)] at hr
    refine WO_fact (t := 56) (b := false) ((y3.2 == 0) == (y4.2 == 0)) kr hc ?_
    refine WO_seg 8 [(2, .bool false)] kr kr ?_
    obtain rfl := Option.some.inj hr
    have st := st.front7.front4.front3.front7.front7.front7.front7.front7
    exact WO_env _ kr (K _ _ ⟨m9, rfl, hm, st, r12, r11, r5, r4, r3⟩)
 intro K0_u1
 clear hrKu1
 have st := st.nilroom 72 4
 have st := st.front5.front2.front5.front5.front5
 refine W_env _ kr (W_loop (fun k1 L' w' => ∃ (s1 : (List (Int × ByteArray × ByteArray × ByteArray)) × Int) (a8 : Option Addr) (c8 : Nat) (m5 : Mem), loopM (testgatelaw15_FilediffOrder_L1 N y2) k1 s1 = some out1 ∧ L' = [(4, .pointer (some ⟨b2, 0, none⟩)), (6, .slice a6 (List.length y2.2) c6), (7, .slice a8 (List.length s1.1) c8), (8, .int .i64 s1.2)] ∧ m.le m5 ∧ St m5 (.blk b1 (.cells #[.slice a5 (List.length y2.1.1) c5, .int .i64 y2.1.2] 28 (0, 0)) :: .blk b3 (.cells #[.slice a4 (List.length y1.2.2) c4] 25 (0, 0)) :: .blk b2 (.cells #[.slice a3 (List.length y1.2.1) c3] 25 (0, 0)) :: .room a6 (List.length y2.2) c6 72 4 :: .room a4 (List.length y1.2.2) c4 74 2 :: .room a8 (List.length s1.1) c8 72 4 :: own) w' ∧ RepS (cPair (cInt .i64) (cPair cStr (cPair cStr cStr))) m5 a6 c6 y2.2 ∧ RepS (cPair (cInt .i64) (cPair cStr (cPair cStr cStr))) m5 a8 c8 s1.1 ∧ RepS (cInt .i64) m5 a5 c5 y2.1.1 ∧ RepS (cPair cStr cStr) m5 a4 c4 y1.2.2 ∧ RepS (cPair cStr cStr) m5 a3 c3 y1.2.1) N ⟨(([] : List (Int × ByteArray × ByteArray × ByteArray)), IntKind.wrap .i64 ((List.length y2.2 : Int) - 1)), none, 0, m3, hr, rfl, hm, st, r6, (RepS.nil _ _), r5, r4, r3⟩ ?_)
 clear st hr
 rintro k1 _ w9 ⟨s1, a8, c8, m5, hL, rfl, hm, st, r6, r8, r5, r4, r3⟩
 rcases k1 with _ | k1
 ·exact loopM_zero hL
 ·obtain ⟨qu1, hr, hSu1, hBu1⟩ := loopM_succ hL
  clear hL
  unfold testgatelaw15_FilediffOrder_L1 at hr
  refine W_seq ?_
  refine W_sr (WO_seg 2 [(29, .bool (decide (s1.2 ≥ 0)))] kr kr ?_)
  refine WO_et rfl (W_cond (decide (s1.2 ≥ 0)) kr ?_ ?_)
  ·intro hc
   rw [if_pos hc] at hr
   refine W_skip ?_
   refine X_then ?_
   refine W_seq ?_
   refine W_block ?_
   refine W_region ?_
   refine WO_seg 3 [(32, .slice a8 (List.length s1.1) c8), (33, .slice a6 (List.length y2.2) c6), (34, .int .i64 s1.2)] kr kr ?_
   replace ⟨x1, hx3, hr⟩ := bindS hr
   refine WO_one rfl (One_index (d := 35) (t := 58) (e := 72) (x := (.tmp 33)) (y := (.tmp 34)) (cPair (cInt .i64) (cPair cStr (cPair cStr cStr))) kr rfl (ev (.slice a6 (List.length y2.2) c6)) (ev (.int .i64 s1.2)) kr r6 hx3 ?_)
   rintro b4 f1 cs1 ⟨_, _, rfl, rfl, ⟨_, _, rfl, rfl, ⟨_, _, rfl, rfl, rfl⟩⟩⟩ hq1
   refine WO_one rfl (One_load_row (d := 36) (t := 72) (x := (.tmp 35)) (.agg #[.int .i64 x1.1, .string x1.2.1, .string x1.2.2.1, .string x1.2.2.2]) kr rfl (ev (.pointer (some ⟨b4, f1, none⟩))) st hq1 kr ?_)
   refine WO_one rfl (One_buildSlice (d := 37) (t := 58) (e := 72) (len := 1) (parts := #[(0, (.tmp 36))]) (cPair (cInt .i64) (cPair cStr (cPair cStr cStr))) (xs := [(x1.1, x1.2.1, x1.2.2.1, x1.2.2.2)]) [.int .i64 x1.1, .string x1.2.1, .string x1.2.2.1, .string x1.2.2.2] kr rfl (fun _ => buildCells_run kr _) rfl rfl st ⟨[.int .i64 x1.1, .string x1.2.1, .string x1.2.2.1, .string x1.2.2.2], _, rfl, ⟨_, _, rfl, rfl, ⟨_, _, rfl, rfl, ⟨_, _, rfl, rfl, rfl⟩⟩⟩, rfl⟩ ?_)
   clear st
   intro b5 m6 w10 hle4 st r9
   have hm := Mem.le_trans hm hle4
   have r6 := r6.mono hle4
   have r8 := r8.mono hle4
   have hq1 := hq1.mono hle4
   have r5 := r5.mono hle4
   have r4 := r4.mono hle4
   have r3 := r3.mono hle4
   have st := st.front6
   replace ⟨l1, hx4, hr⟩ := bindS hr
   refine WO_one rfl (One_append (d := 38) (t := 58) (u := 58) (e := 72) (by_ := 56) (x := (.tmp 32)) (y := (.tmp 37)) (cPair (cInt .i64) (cPair cStr (cPair cStr cStr))) kr rfl (ev (.slice a8 (List.length s1.1) c8)) (ev (.slice (some ⟨b5, 0, none⟩) (List.length ([(x1.1, x1.2.1, x1.2.2.1, x1.2.2.2)])) 1)) st kr (.inl kr) r8 r9.src hx4 ?_)
   clear st
   intro a9 c9 m7 w11 hle5 st r10
   have hm := Mem.le_trans hm hle5
   have r6 := r6.mono hle5
   have r8 := r8.mono hle5
   have hq1 := hq1.mono hle5
   have r9 := r9.mono hle5
   have r5 := r5.mono hle5
   have r4 := r4.mono hle5
   have r3 := r3.mono hle5
   refine WO_seg 1 [(7, .slice a9 (List.length l1) c9)] kr kr ?_
   refine WO_end rfl ?_
   have st := st.front1
   have st := st.tail
   refine X_block ?_
   refine X_then ?_
   refine W_region ?_
   refine WO_seg 3 [(8, .int .i64 (IntKind.wrap .i64 (s1.2 - 1)))] kr kr ?_
   refine WO_end rfl ?_
   obtain rfl := Option.some.inj hr
   have hL := hSu1 _ rfl
   have st := st.front5.front5.front5.front5.front5
   exact X_env _ kr (X_round k1 (Nat.lt_succ_self _) ⟨(l1, IntKind.wrap .i64 (s1.2 - 1)), a9, c9, m7, hL, rfl, hm, st, r6, r10, r5, r4, r3⟩)
  ·intro hc
   rw [if_neg (not_true hc)] at hr
   refine W_exit ?_
   refine X_then_exit ?_
   obtain rfl := Option.some.inj hr
   have ho := hBu1 _ rfl
   have st := st.front5.front5.front5.front5.front5.front5
   refine X_then_exit ?_
   exact X_env _ kr (K0_u1 _ _ ⟨s1.1, a8, c8, m5, ho, rfl, hm, st, r6, r8, r5, r4, r3⟩)
end Go.Proofs.YtgggihpbhmbjaaaGreatDoor
