/- MADE BY gen.py: plain functions and the proofs that the Go functions compute them. No condition but those of each theorem. -/
import Derived.Test.YtgggihpbhmbjaaaDoorProg
import Derived.Test.YtgggihpbhmbjaaaDoorViewk2
import Derived.Test.YtgggihpbhmbjaaaDoorMapDk2
import Derived.Test.YtgggihpbhmbjaaaDoorLink2
import Derived.Test.YtgggihpbhmbjaaaDoorLoank2
import Derived.Test.YtgggihpbhmbjaaaDoorTConAk2
namespace Go.Proofs.YtgggihpbhmbjaaaDoor
open Go Go.Dc
def sortLay66_ren : Go.Shelf.Ren := ⟨fun | 6 => 66 | 15 => 96 | 14 => 95 | 28 => 121 | 29 => 122 | 20 => 113 | 21 => 114 | 22 => 115 | 23 => 116 | 24 => 117 | 25 => 118 | 26 => 119 | 27 => 120 | 46 => 142 | 47 => 143 | 48 => 144 | 49 => 145 | 50 => 146 | 57 => 162 | n => n, fun | 22 => 23 | 24 => 29 | 25 => 113 | 3 => 3 | 39 => 147 | 0 => 0 | 53 => 182 | 55 => 184 | 4 => 4 | 46 => 175 | 45 => 174 | 50 => 179 | 5 => 5 | 9 => 9 | 66 => 198 | 70 => 202 | 76 => 212 | 77 => 83 | n => n, fun | n => n⟩
theorem sortLay66 : Go.Proofs.SlLaysF0.n6 Tryd.prog sortLay66_ren where
 mixed := kr
 f6 := ⟨Tryd.f66.name, kr, Tryd.func66.trans (congrArg some kr)⟩
 f14 := ⟨Tryd.f95.name, kr, Tryd.func95.trans (congrArg some kr)⟩
 f15 := Tryd.func96.trans (congrArg some kr)
 f20 := ⟨Tryd.f113.name, kr, Tryd.func113.trans (congrArg some kr)⟩
 f21 := ⟨Tryd.f114.name, kr, Tryd.func114.trans (congrArg some kr)⟩
 f22 := ⟨Tryd.f115.name, kr, Tryd.func115.trans (congrArg some kr)⟩
 f23 := ⟨Tryd.f116.name, kr, Tryd.func116.trans (congrArg some kr)⟩
 f24 := ⟨Tryd.f117.name, kr, Tryd.func117.trans (congrArg some kr)⟩
 f25 := ⟨Tryd.f118.name, kr, Tryd.func118.trans (congrArg some kr)⟩
 f26 := ⟨Tryd.f119.name, kr, Tryd.func119.trans (congrArg some kr)⟩
 f27 := ⟨Tryd.f120.name, kr, Tryd.func120.trans (congrArg some kr)⟩
 f28 := Tryd.func121.trans (congrArg some kr)
 f29 := Tryd.func122.trans (congrArg some kr)
 f46 := ⟨Tryd.f142.name, kr, Tryd.func142.trans (congrArg some kr)⟩
 f47 := Tryd.func143.trans (congrArg some kr)
 f48 := Tryd.func144.trans (congrArg some kr)
 f49 := ⟨Tryd.f145.name, kr, Tryd.func145.trans (congrArg some kr)⟩
 f50 := ⟨Tryd.f146.name, kr, Tryd.func146.trans (congrArg some kr)⟩
 f57 := ⟨Tryd.f162.name, kr, Tryd.func162.trans (congrArg some kr)⟩
 t0 := Tryd.underlying0
 a0 := Tryd.isAgg0
 z0 := Tryd.sizeOf0
 v0 := Tryd.zeroValue0
 t3 := Tryd.underlying3
 a3 := Tryd.isAgg3
 z3 := Tryd.sizeOf3
 v3 := Tryd.zeroValue3
 t4 := Tryd.underlying4
 a4 := Tryd.isAgg4
 z4 := Tryd.sizeOf4
 v4 := Tryd.zeroValue4
 t5 := Tryd.underlying5
 a5 := Tryd.isAgg5
 z5 := Tryd.sizeOf5
 v5 := Tryd.zeroValue5
 t9 := Tryd.underlying9
 a9 := Tryd.isAgg9
 z9 := Tryd.sizeOf9
 v9 := Tryd.zeroValue9
 t22 := Tryd.underlying23
 a22 := Tryd.isAgg23
 z22 := Tryd.sizeOf23
 v22 := Tryd.zeroValue23
 t25 := Tryd.underlying113
 a25 := Tryd.isAgg113
 z25 := Tryd.sizeOf113
 v25 := Tryd.zeroValue113
 t39 := Tryd.underlying147
 a39 := Tryd.isAgg147
 z39 := Tryd.sizeOf147
 v39 := Tryd.zeroValue147
 t45 := Tryd.underlying174
 a45 := Tryd.isAgg174
 z45 := Tryd.sizeOf174
 v45 := Tryd.zeroValue174
 t46 := Tryd.underlying175
 a46 := Tryd.isAgg175
 z46 := Tryd.sizeOf175
 v46 := Tryd.zeroValue175
 t50 := Tryd.underlying179
 a50 := Tryd.isAgg179
 z50 := Tryd.sizeOf179
 v50 := Tryd.zeroValue179
 t53 := Tryd.underlying182
 a53 := Tryd.isAgg182
 z53 := Tryd.sizeOf182
 v53 := Tryd.zeroValue182
 t55 := Tryd.underlying184
 a55 := Tryd.isAgg184
 z55 := Tryd.sizeOf184
 v55 := Tryd.zeroValue184
 t66 := Tryd.underlying198
 a66 := Tryd.isAgg198
 z66 := Tryd.sizeOf198
 v66 := Tryd.zeroValue198
 t70 := Tryd.underlying202
 a70 := Tryd.isAgg202
 z70 := Tryd.sizeOf202
 v70 := Tryd.zeroValue202
 t76 := Tryd.underlying212
 a76 := Tryd.isAgg212
 z76 := Tryd.sizeOf212
 v76 := Tryd.zeroValue212
 t77 := Tryd.underlying83
 a77 := Tryd.isAgg83
 z77 := Tryd.sizeOf83
 v77 := Tryd.zeroValue83
theorem cmp_Compare_T {N : Nat} (x y : Int) : cmp_Compare_int N x y = some (cmpI x y) := by
 have h : ∀ z : Int, cmp_isNaN_int N z = some false := fun z => by simp [cmp_isNaN_int]
 simp only [cmp_Compare_int, h, Option.bind_some, cmpI]
 by_cases h1 : x < y
 ·simp [h1]
 ·by_cases h2 : x > y
  ·simp [h1, h2]
  ·simp [h1, h2]
theorem strings_Compare_T {N : Nat} (x y : ByteArray) : strings_Compare N x y = some (cmpS x y) := by simp [strings_Compare, internal_bytealg_CompareString]
theorem cmp_Or_T {N : Nat} (hN : 10 ≤ N) (a b c : Int) : cmp_Or_int N [a, b, c] = some (if a ≠ 0 then a else if b ≠ 0 then b else c) := by
 obtain ⟨k, rfl⟩ : ∃ k, N = k + 4 := ⟨N - 4, by omega⟩
 have w1 : IntKind.wrap .i64 1 = 1 := by decide
 have w2 : IntKind.wrap .i64 2 = 2 := by decide
 have w3 : IntKind.wrap .i64 3 = 3 := by decide
 have i0 : idx [a, b, c] 0 = some a := rfl
 have i1 : idx [a, b, c] 1 = some b := rfl
 have i2 : idx [a, b, c] 2 = some c := rfl
 simp only [cmp_Or_int, loopM, cmp_Or_int_L1, List.length_cons, List.length_nil, i0, Option.bind_some]
 by_cases ha : a = 0
 ·subst ha
  by_cases hb : b = 0
  ·subst hb
   by_cases hc : c = 0
   ·subst hc; simp [w1, w2, w3, i1, i2]
   ·simp [w1, w2, i1, i2, hc]
  ·simp [w1, i1, hb]
 ·simp [ha]
theorem fact_Compare_T {N : Nat} (hN : 10 ≤ N) (x y : Int × ByteArray × ByteArray) : fact_Compare N x y = some (lexC cmpI (lexC cmpS cmpS) x y) := by
 have hl : Lin (lexC cmpI (lexC cmpS cmpS)) := lexC_lin cmpI_lin (lexC_lin cmpS_lin cmpS_lin)
 simp only [fact_Compare, cmp_Compare_T, strings_Compare_T, cmp_Or_T hN, Option.bind_some]
 by_cases h : x = y
 ·rw [if_pos (by subst h; simp), (hl.zero x y).2 h]
 ·split
  ·rename_i g
   simp only [Bool.and_eq_true, beq_iff_eq, and_true] at g
   have bt : ∀ {a b : ByteArray}, a.toList = b.toList → a = b := fun {a b} e => by
    rw [ByteArray.toList_eq, ByteArray.toList_eq] at e
    exact Go.WideShapes.bytes_inj e
   exact absurd (Prod.ext g.1 (Prod.ext (bt g.2.1) (bt g.2.2))) h
  ·rfl
def slices_SortFunc_api_Key_api_Key_S_fact_Compare (N : Nat) (l : List (Int × ByteArray × ByteArray)) : Option (List (Int × ByteArray × ByteArray)) := if 10 ≤ N ∧ l.length < 4611686018427387904 then some (l.mergeSort fun x y => !(Go.Proofs.ltOf (lexC cmpI (lexC cmpS cmpS)) y x)) else none
theorem slices_SortFunc_api_Key_api_Key_len_fact_Compare {N : Nat} {l r : List (Int × ByteArray × ByteArray)} (h : slices_SortFunc_api_Key_api_Key_S_fact_Compare N l = some r) : r.length = l.length := by
 unfold slices_SortFunc_api_Key_api_Key_S_fact_Compare at h
 split at h
 ·simp only [Option.some.injEq] at h; subst h; simp
 ·cases h
theorem slices_SortFunc_api_Key_api_Key_own_fact_Compare {N : Nat} {m : Mem} {own : List Piece} {w : World} {a : Option Addr} {nn cc : Nat} {T : List Value} {l r : List (Int × ByteArray × ByteArray)} {e : TypeId} (st : St m (opc a (acellsM (fun x : Int × ByteArray × ByteArray => ([.int .i64 x.1, .string x.2.1, .string x.2.2] : List Value)) l T) e :: own) w) (hs : OAS a nn cc 3 T) (hn : List.length l = nn) (h : slices_SortFunc_api_Key_api_Key_S_fact_Compare N l = some r) :
  Calls Tryd.prog 66 #[.slice a nn cc, .func (.func 67) #[] #[]] w fun e' w' => e' = .returned (.tuple #[]) ∧ St m (opc a (acellsM (fun x : Int × ByteArray × ByteArray => ([.int .i64 x.1, .string x.2.1, .string x.2.2] : List Value)) r T) e :: own) w' := by
 unfold slices_SortFunc_api_Key_api_Key_S_fact_Compare at h
 split at h
 ·rename_i hb
  obtain ⟨hN, hlen⟩ := hb
  simp only [Option.some.injEq] at h; subst h; subst hn
  have hl : Lin (lexC cmpI (lexC cmpS cmpS)) := lexC_lin cmpI_lin (lexC_lin cmpS_lin cmpS_lin)
  have := Calls_sortK (f := (fun x : Int × ByteArray × ByteArray => ([.int .i64 x.1, .string x.2.1, .string x.2.2] : List Value))) (k := 3) sortLay66 Tryd.isAgg29 Tryd.sizeOf29 (fun _ => rfl) (fun _ _ hv => by simp only [List.mem_cons, List.not_mem_nil, or_false] at hv; rcases hv with rfl | rfl | rfl <;> rfl) (lexC cmpI (lexC cmpS cmpS)) hl.swo hl.total 67 (enters_of Tryd.func67 kr rfl) (fun x y W => by
   refine (fact_Compare_ok (snap_st W) (fact_Compare_T hN x y)).mono fun e' w' h => ?_
   obtain ⟨m', h1, h2, h3⟩ := h
   exact ⟨m', h1, h2, h3⟩) st hs hlen
  exact this
 ·cases h
def fact_Set_L2 (N : Nat) (y2 : List (Int × ByteArray × ByteArray)) (s1 : Int) (s2 : Int × Int × (List (Int × ByteArray × ByteArray))) : Option ((Int × Int × (List (Int × ByteArray × ByteArray))) ⊕ ((Int × (List (Int × ByteArray × ByteArray))))) :=
 if (decide (s2.2.1 < ((Int.toNat (List.length y2 : Int) - Int.toNat s1 : Nat) : Int))) = true then (((idx (List.drop (Int.toNat s1) (List.take (Int.toNat (List.length y2 : Int)) s2.2.2)) s2.2.1).bind fun x3 => (idx (List.drop (Int.toNat s1) (List.take (Int.toNat (List.length y2 : Int)) s2.2.2)) (IntKind.wrap .i64 (s2.2.1 - 1))).bind fun x4 => if (!((x3.1 == x4.1) && ((x3.2.1.toList == x4.2.1.toList) && ((x3.2.2.toList == x4.2.2.toList) && true)))) = true then ((idx (List.drop (Int.toNat s1) (List.take (Int.toNat (List.length y2 : Int)) s2.2.2)) s2.2.1).bind fun x5 => (idx s2.2.2 s2.1).bind fun x6 => some (IntKind.wrap .i64 (s2.1 + 1), List.set s2.2.2 (Int.toNat s2.1) (x5.1, x5.2.1, x5.2.2))) else (some (s2.1, s2.2.2)) : Option (Int × (List (Int × ByteArray × ByteArray)))).bind fun o4 => some (.inl (o4.1, IntKind.wrap .i64 (s2.2.1 + 1), o4.2))) else (some (.inr (s2.1, s2.2.2)))
def fact_Set_L1 (N : Nat) (y1 : List (Int × ByteArray × ByteArray)) (y2 : List (Int × ByteArray × ByteArray)) (s1 : Int) : Option ((Int) ⊕ ((Unit) ⊕ ((List (Int × ByteArray × ByteArray))))) :=
 if (decide (s1 < ((List.length y1) : Int))) = true then ((idx y2 s1).bind fun x1 => (idx y2 (IntKind.wrap .i64 (s1 - 1))).bind fun x2 => if ((x1.1 == x2.1) && ((x1.2.1.toList == x2.2.1.toList) && ((x1.2.2.toList == x2.2.2.toList) && true))) = true then ((chkS y2 s1 (List.length y2 : Int)).bind fun u3 => (loopM (fact_Set_L2 N y2 s1) N (s1, 1, y2)).bind fun o3 => (chkS o3.2 o3.1 (List.length o3.2 : Int)).bind fun u6 => (clearM o3.2 o3.1 (0, (⟨#[]⟩ : ByteArray), (⟨#[]⟩ : ByteArray))).bind fun l1 => (chkS l1 0 o3.1).bind fun u7 => some (.inr (.inr (List.take (Int.toNat o3.1) l1)))) else (some (.inl (IntKind.wrap .i64 (s1 + 1))))) else (some (.inr (.inl ())))
def fact_Set (N : Nat) (p0 : List (Int × ByteArray × ByteArray)) : Option (List (Int × ByteArray × ByteArray)) :=
 (slices_Clone_api_Key_api_Key_O p0).bind fun y1 => (slices_SortFunc_api_Key_api_Key_S_fact_Compare N y1).bind fun y2 => (if (decide (((List.length y1) : Int) < 2)) = true then (some y2) else ((loopM (fact_Set_L1 N y1 y2) N 1).bind fun out1 => (match out1 with | .inl o2 => some y2 | .inr (z) => some z)) : Option ((List (Int × ByteArray × ByteArray)))).bind fun o1 => some o1
set_option maxHeartbeats 4000000 in
set_option maxRecDepth 100000 in
theorem fact_Set_ok {N : Nat} {m : Mem} {own : List Piece} {w : World} {p0 : List (Int × ByteArray × ByteArray)} {a1 : Option Addr} {c1 : Nat} {r : List (Int × ByteArray × ByteArray)} (st : St m (own) w) (r1 : RepS (cPair (cInt .i64) (cPair cStr cStr)) m a1 c1 p0) (hr : fact_Set N p0 = some r) : Calls Tryd.prog 38 #[.slice a1 (List.length p0) c1] w fun e w' => ∃ (ra1 : Option Addr) (rc1 : Nat) (m' : Mem), e = .returned (.slice ra1 (List.length r) rc1) ∧ m.le m' ∧ St m' (.room ra1 (List.length r) rc1 29 3 :: own) w' ∧ RepS (cPair (cInt .i64) (cPair cStr cStr)) m' ra1 rc1 r := by
 unfold fact_Set at hr
 have hm := m.le_refl
 refine W_calls Tryd.func38 rfl Tryd.ntmps38 [(0, .slice a1 (List.length p0) c1)] kr rfl ?_
 refine W_sr (WO_seg 1 [] kr kr ?_)
 refine WO_et rfl (W_sr ?_)
 refine WO_seg 1 [(3, .slice a1 (List.length p0) c1)] kr kr ?_
 replace ⟨y1, hx1, hr⟩ := bindS hr
 refine WO_one rfl (One_fn 4 65 #[.slice a1 (List.length p0) c1] kr rfl ?_)
 refine (slices_Clone_api_Key_api_Key_own st r1 hx1).mono ?_
 clear st
 rintro _ w1 ⟨a2, c2, T1, m1, rfl, hle1, hs1, st⟩
 refine ⟨_, rfl, ?_⟩
 have hm := Mem.le_trans hm hle1
 have r1 := r1.mono hle1
 refine WO_seg 1 [(0, .slice a2 (List.length y1) c2)] kr kr ?_
 refine WO_et rfl (W_sr ?_)
 refine WO_seg 1 [(5, .slice a2 (List.length y1) c2)] kr kr ?_
 replace ⟨y2, hx2, hr⟩ := bindS hr
 refine WO_one rfl (One_fn 6 66 #[.slice a2 (List.length y1) c2, .func (.func 67) #[] #[]] kr rfl ?_)
 refine (slices_SortFunc_api_Key_api_Key_own_fact_Compare st hs1 rfl hx2).mono ?_
 clear st
 rintro _ w2 ⟨rfl, st⟩
 refine ⟨_, rfl, ?_⟩
 have hn1 := ((slices_SortFunc_api_Key_api_Key_len_fact_Compare hx2).trans rfl)
 refine WO_et rfl (W_sr ?_)
 refine WO_seg 1 [(7, .slice a2 (List.length y1) c2)] kr kr ?_
 replace ⟨o1, hr, hrKu1⟩ := bindS hr
 refine WO_one rfl (One_fn 8 68 #[.slice a2 (List.length y1) c2] kr rfl ?_)
 refine Calls_cut (fun v' w' => ∃ (a4 : Option Addr) (c4 : Nat) (m3 : Mem), v' = (.slice a4 (List.length o1) c4) ∧ m.le m3 ∧ St m3 (.room a4 (List.length o1) c4 29 3 :: own) w' ∧ RepS (cPair (cInt .i64) (cPair cStr cStr)) m3 a4 c4 o1) ?_ ?_
 ·clear hr st
  have hr := hrKu1
  clear hrKu1
  rintro _ w3 ⟨a4, c4, m3, rfl, hm, st, r3⟩
  refine ⟨_, rfl, ?_⟩
  refine WO_seg 1 [(2, .slice a4 (List.length o1) c4)] kr kr ?_
  refine WO_et rfl (W_ret ?_)
  obtain rfl := Option.some.inj hr
  refine X_ret [.tmp 2] [.slice a4 (List.length o1) c4] rfl (ResAll.cons (ResAt.tmp kr) ResAll.nil) ?_
  exact ⟨a4, c4, m3, rfl, hm, st, r3⟩
 ·clear hrKu1
  refine W_calls Tryd.func68 rfl Tryd.ntmps68 [(0, .slice a2 (List.length y1) c2)] kr rfl ?_
  refine W_sr (WO_seg 1 [] kr kr ?_)
  refine WO_et rfl (W_seq ?_)
  refine W_sr (WO_seg 3 [(8, .bool (decide (((List.length y1) : Int) < 2)))] kr kr ?_)
  refine WO_et rfl (W_cond (decide (((List.length y1) : Int) < 2)) kr ?_ ?_)
  ·intro hc
   rw [if_pos hc] at hr
   refine W_sr (WO_seg 2 [(2, .slice a2 (List.length y1) c2)] kr kr ?_)
   refine WO_et rfl (W_ret ?_)
   refine X_then_ret ?_
   obtain rfl := Option.some.inj hr
   obtain ⟨m4, hle3, st, r4⟩ := St.freezeM (c := (cPair (cInt .i64) (cPair cStr cStr))) (f := (fun x : Int × ByteArray × ByteArray => ([.int .i64 x.1, .string x.2.1, .string x.2.2] : List Value))) st hs1 hn1 (fun _ => rfl) (fun _ x => ⟨_, _, rfl, rfl, ⟨_, _, rfl, rfl, rfl⟩⟩)
   have hm := Mem.le_trans hm hle3
   refine X_env [(2, .slice a2 (List.length y2) c2)] (by (try simp only [hn1]); kernel_rfl) ?_
   refine X_ret [.tmp 2] [.slice a2 (List.length y2) c2] rfl (ResAll.cons (ResAt.tmp kr) ResAll.nil) ?_
   exact ⟨_, rfl, ⟨a2, c2, m4, rfl, hm, st, r4⟩⟩
  ·intro hc
   rw [if_neg (not_true hc)] at hr
   refine W_skip ?_
   refine X_then ?_
   refine W_seq ?_
   refine W_sr (WO_seg 1 [(3, .int .i64 1)] kr kr ?_)
   refine WO_et rfl (W_block ?_)
   replace ⟨out1, hr, hrKu2⟩ := bindS hr
   refine W_cut (.exit 0) (fun L' w' => ∃ (o2 : Unit) (m5 : Mem), (.inl o2) = out1 ∧ L' = [(0, .slice a2 (List.length y1) c2)] ∧ m.le m5 ∧ St m5 (opc a2 (acellsM (fun x : Int × ByteArray × ByteArray => ([.int .i64 x.1, .string x.2.1, .string x.2.2] : List Value)) y2 T1) 29 :: own) w' ∧ List.length y2 = (List.length y1)) ?_ ?_
   ·clear hr st
    rintro _ w4 ⟨o2, m5, rfl, rfl, hm, st, hn1⟩
    have hr := hrKu2
    clear hrKu2
    dsimp only at hr
    refine X_block_eq ?_
    refine X_then ?_
    refine W_sr (WO_seg 2 [(2, .slice a2 (List.length y1) c2)] kr kr ?_)
    refine WO_et rfl (W_ret ?_)
    obtain rfl := Option.some.inj hr
    obtain ⟨m11, hle5, st, r6⟩ := St.freezeM (c := (cPair (cInt .i64) (cPair cStr cStr))) (f := (fun x : Int × ByteArray × ByteArray => ([.int .i64 x.1, .string x.2.1, .string x.2.2] : List Value))) st hs1 hn1 (fun _ => rfl) (fun _ x => ⟨_, _, rfl, rfl, ⟨_, _, rfl, rfl, rfl⟩⟩)
    have hm := Mem.le_trans hm hle5
    refine X_env [(2, .slice a2 (List.length y2) c2)] (by (try simp only [hn1]); kernel_rfl) ?_
    refine X_ret [.tmp 2] [.slice a2 (List.length y2) c2] rfl (ResAll.cons (ResAt.tmp kr) ResAll.nil) ?_
    exact ⟨_, rfl, ⟨a2, c2, m11, rfl, hm, st, r6⟩⟩
   intro K0_u2
   refine W_env _ kr (W_loop (fun k1 L' w' => ∃ (s1 : Int) (m6 : Mem), loopM (fact_Set_L1 N y1 y2) k1 s1 = some out1 ∧ L' = [(0, .slice a2 (List.length y1) c2), (3, .int .i64 s1)] ∧ m.le m6 ∧ St m6 (opc a2 (acellsM (fun x : Int × ByteArray × ByteArray => ([.int .i64 x.1, .string x.2.1, .string x.2.2] : List Value)) y2 T1) 29 :: own) w' ∧ List.length y2 = (List.length y1)) N ⟨1, m1, hr, rfl, hm, st, hn1⟩ ?_)
   clear st hr
   rintro k1 _ w5 ⟨s1, m6, hL, rfl, hm, st, hn1⟩
   rcases k1 with _ | k1
   ·exact loopM_zero hL
   ·obtain ⟨qu2, hr, hSu2, hBu2⟩ := loopM_succ hL
    clear hL
    unfold fact_Set_L1 at hr
    refine W_seq ?_
    refine W_sr (WO_seg 4 [(13, .bool (decide (s1 < ((List.length y1) : Int))))] kr kr ?_)
    refine WO_et rfl (W_cond (decide (s1 < ((List.length y1) : Int))) kr ?_ ?_)
    ·intro hc
     rw [if_pos hc] at hr
     refine W_skip ?_
     refine X_then ?_
     refine W_seq ?_
     refine W_block ?_
     refine W_seq ?_
     refine W_draw [(10, fun w' => Inv m6 w' ∧ Piece.holds m6 w' (opc a2 (acellsM (fun x : Int × ByteArray × ByteArray => ([.int .i64 x.1, .string x.2.1, .string x.2.2] : List Value)) y2 T1) 29) ∧ True)] kr st ?_
     clear st
     intro w6 _ st
     have hmS1 := m6.le_refl
     refine ⟨⟨.inr ⟨Inv.anti st.inv hmS1, opc_anti st.head hmS1, trivial⟩, trivial⟩, ?_⟩
     refine WA_pure 0 16 (.slice a2 (List.length y1) c2) kr rfl kr (.head _) (QP_then (QP_block (QP_then (QP_then (QP_block (QP_then QP_body)))))) ?_
     refine WA_pure 1 17 (.int .i64 s1) kr rfl kr (.head _) (QP_then (QP_block (QP_then (QP_then (QP_block (QP_then QP_body)))))) ?_
     replace ⟨x1, hx3, hr⟩ := bindS hr
     refine WA_arrIndexM (t := 23) (e := 29) (x := (.tmp 16)) (y := (.tmp 17)) (k := 3) 2 18 kr rfl kr (.head _) (QP_then (QP_block (QP_then (QP_then (QP_block (QP_then QP_body)))))) (ev (.slice a2 (List.length y1) c2)) (ev (.int .i64 s1)) kr hs1 hn1 hx3 ?_
     refine WA_arrLoadM (t := 29) (x := (.tmp 18)) (o := 0) (f := (fun x : Int × ByteArray × ByteArray => ([.int .i64 x.1, .string x.2.1, .string x.2.2] : List Value))) (z := x1) (v := .agg #[.int .i64 x1.1, .string x1.2.1, .string x1.2.2]) 3 19 (fun _ => rfl) (Int.toNat s1 * 3) rfl kr rfl kr (.head _) (QP_then (QP_block (QP_then (QP_then (QP_block (QP_then QP_body)))))) (fun _ h => h.2.1) (ev (.pointer (some ⟨ab a2, Int.toNat s1 * 3, none⟩))) hs1 hn1 hx3 kr ?_
     refine WA_pure 4 20 (.slice a2 (List.length y1) c2) kr rfl kr (.head _) (QP_then (QP_block (QP_then (QP_then (QP_block (QP_then QP_body)))))) ?_
     refine WA_pure 5 21 (.int .i64 s1) kr rfl kr (.head _) (QP_then (QP_block (QP_then (QP_then (QP_block (QP_then QP_body)))))) ?_
     refine WA_pure 6 22 (.int .i64 (IntKind.wrap .i64 (s1 - 1))) kr rfl kr (.head _) (QP_then (QP_block (QP_then (QP_then (QP_block (QP_then QP_body)))))) ?_
     replace ⟨x2, hx4, hr⟩ := bindS hr
     refine WA_arrIndexM (t := 23) (e := 29) (x := (.tmp 20)) (y := (.tmp 22)) (k := 3) 7 23 kr rfl kr (.head _) (QP_then (QP_block (QP_then (QP_then (QP_block (QP_then QP_body)))))) (ev (.slice a2 (List.length y1) c2)) (ev (.int .i64 (IntKind.wrap .i64 (s1 - 1)))) kr hs1 hn1 hx4 ?_
     refine WA_arrLoadM (t := 29) (x := (.tmp 23)) (o := 0) (f := (fun x : Int × ByteArray × ByteArray => ([.int .i64 x.1, .string x.2.1, .string x.2.2] : List Value))) (z := x2) (v := .agg #[.int .i64 x2.1, .string x2.2.1, .string x2.2.2]) 8 24 (fun _ => rfl) (Int.toNat (IntKind.wrap .i64 (s1 - 1)) * 3) rfl kr rfl kr (.head _) (QP_then (QP_block (QP_then (QP_then (QP_block (QP_then QP_body)))))) (fun _ h => h.2.1) (ev (.pointer (some ⟨ab a2, Int.toNat (IntKind.wrap .i64 (s1 - 1)) * 3, none⟩))) hs1 hn1 hx4 kr ?_
     refine WA_one 9 kr  (One_eqAgg (d := 25) (t := 29) (t2 := 29) (x := (.tmp 19)) (y := (.tmp 24)) (xs := #[.int .i64 x1.1, .string x1.2.1, .string x1.2.2]) (ys := #[.int .i64 x2.1, .string x2.2.1, .string x2.2.2]) ((x1.1 == x2.1) && ((x1.2.1.toList == x2.2.1.toList) && ((x1.2.2.toList == x2.2.2.toList) && true))) kr rfl (ev (.agg #[.int .i64 x1.1, .string x1.2.1, .string x1.2.2])) (ev (.agg #[.int .i64 x2.1, .string x2.2.1, .string x2.2.2])) kr kr kr ?_)
     refine ⟨⟨.inr ⟨Inv.anti st.inv hmS1, opc_anti st.head hmS1, trivial⟩, trivial⟩, ?_⟩
     refine WA_done kr ?_
     refine X_then ?_
     refine W_cond ((x1.1 == x2.1) && ((x1.2.1.toList == x2.2.1.toList) && ((x1.2.2.toList == x2.2.2.toList) && true))) kr ?_ ?_
     ·intro hc
      rw [if_pos hc] at hr
      refine W_sr (WO_seg 2 [(26, .slice a2 (List.length y1) c2), (27, .int .i64 s1)] kr kr ?_)
      replace ⟨u3, hx5, hr⟩ := bindS hr
      refine WO_one rfl (One_viewM (d := 28) (t := 23) (e := 29) (k := 3) (x := (.tmp 26)) (lo := (some (.tmp 27))) (hi := none) (li := s1) (hix := (List.length y2 : Int)) kr rfl (ev (.slice a2 (List.length y1) c2)) kr (.inr ⟨_, _, rfl, (ev (.int .i64 s1))⟩) (.inl ⟨rfl, congrArg Nat.cast hn1⟩) hs1 hn1 hx5 ?_)
      have hv1 := chk_n hx5 hn1
      refine WO_seg 1 [(4, .slice (slA a2 c2 (Int.toNat s1) 3) (Int.toNat (List.length y2 : Int) - Int.toNat s1) (c2 - Int.toNat s1))] kr kr ?_
      refine WO_et rfl (W_seq ?_)
      refine W_sr (WO_seg 1 [(5, .int .i64 1)] kr kr ?_)
      refine WO_et rfl (W_block ?_)
      replace ⟨out2, hr, hrKu4⟩ := bindS hr
      refine W_cut (.exit 2) (fun L' w' => ∃ (o3 : Int × (List (Int × ByteArray × ByteArray))) (m7 : Mem), o3 = out2 ∧ L' = [(0, .slice a2 (List.length y1) c2), (3, .int .i64 o3.1)] ∧ m.le m7 ∧ St m7 (opc a2 (acellsM (fun x : Int × ByteArray × ByteArray => ([.int .i64 x.1, .string x.2.1, .string x.2.2] : List Value)) o3.2 T1) 29 :: own) w' ∧ List.length o3.2 = (List.length y1)) ?_ ?_
      ·clear hr st
       rintro _ w7 ⟨o3, m7, rfl, rfl, hm, st, hn2⟩
       have hr := hrKu4
       clear hrKu4
       refine X_block_eq ?_
       refine X_then ?_
       refine W_sr (WO_seg 2 [(54, .slice a2 (List.length y1) c2), (55, .int .i64 o3.1)] kr kr ?_)
       replace ⟨u6, hx13, hr⟩ := bindS hr
       refine WO_one rfl (One_viewM (d := 56) (t := 23) (e := 29) (k := 3) (x := (.tmp 54)) (lo := (some (.tmp 55))) (hi := none) (li := o3.1) (hix := (List.length o3.2 : Int)) kr rfl (ev (.slice a2 (List.length y1) c2)) kr (.inr ⟨_, _, rfl, (ev (.int .i64 o3.1))⟩) (.inl ⟨rfl, congrArg Nat.cast hn2⟩) hs1 hn2 hx13 ?_)
       have hv2 := chk_n hx13 hn2
       replace ⟨l1, hx14, hr⟩ := bindS hr
       refine WO_one rfl (One_clearM (t := 23) (e := 29) (k := 3) (x := (.tmp 56)) (f := (fun x : Int × ByteArray × ByteArray => ([.int .i64 x.1, .string x.2.1, .string x.2.2] : List Value))) (l := o3.2) (lo := o3.1) (z := .agg #[.int .i64 0, .string (⟨#[]⟩ : ByteArray), .string (⟨#[]⟩ : ByteArray)]) (z0 := (0, (⟨#[]⟩ : ByteArray), (⟨#[]⟩ : ByteArray))) (fun _ => rfl) (fun _ _ hv => by simp only [List.mem_cons, List.not_mem_nil, or_false] at hv; rcases hv with rfl | rfl | rfl <;> rfl) kr (ev (.slice (slA a2 c2 (Int.toNat o3.1) 3) (Int.toNat (List.length o3.2 : Int) - Int.toNat o3.1) (c2 - Int.toNat o3.1))) rfl kr kr rfl st hs1 hn2 hx14 ?_)
       clear st
       intro w12 st
       have hn6 := ((clearM_len hx14).trans hn2)
       refine WO_et rfl (W_sr ?_)
       refine WO_seg 2 [(57, .slice a2 (List.length y1) c2), (58, .int .i64 o3.1)] kr kr ?_
       replace ⟨u7, hx15, hr⟩ := bindS hr
       refine WO_one rfl (One_viewM (d := 59) (t := 23) (e := 29) (k := 3) (x := (.tmp 57)) (lo := none) (hi := (some (.tmp 58))) (li := 0) (hix := o3.1) kr rfl (ev (.slice a2 (List.length y1) c2)) kr (.inl ⟨rfl, rfl⟩) (.inr ⟨_, _, rfl, (ev (.int .i64 o3.1))⟩) hs1 hn6 hx15 ?_)
       have hv3 := chk_n hx15 hn6
       refine WO_seg 1 [(2, .slice (slA a2 c2 (Int.toNat 0) 3) (Int.toNat o3.1 - Int.toNat 0) (c2 - Int.toNat 0))] kr kr ?_
       refine WO_et rfl (W_ret ?_)
       refine X_block_ret ?_
       refine X_then_ret ?_
       obtain rfl := Option.some.inj hr
       have ho := hBu2 _ rfl
       subst ho
       have hr := hrKu2
       dsimp only at hr
       refine X_then_ret ?_
       refine X_block_ret ?_
       refine X_then_ret ?_
       obtain rfl := Option.some.inj hr
       have hw1 := view0 (k := 3) (l := l1) hs1 hn6 hv3
       obtain ⟨m10, hle4, st, r5⟩ := St.freezeView (c := (cPair (cInt .i64) (cPair cStr cStr))) (f := (fun x : Int × ByteArray × ByteArray => ([.int .i64 x.1, .string x.2.1, .string x.2.2] : List Value))) (hi := o3.1) st hs1 hn6 (fun _ => rfl) (fun _ x => ⟨_, _, rfl, rfl, ⟨_, _, rfl, rfl, rfl⟩⟩) hv3
       have hm := Mem.le_trans hm hle4
       refine X_env [(2, .slice a2 (List.length (List.take (Int.toNat o3.1) l1)) c2)] (by (try simp only [hw1]); kernel_rfl) ?_
       refine X_ret [.tmp 2] [.slice a2 (List.length (List.take (Int.toNat o3.1) l1)) c2] rfl (ResAll.cons (ResAt.tmp kr) ResAll.nil) ?_
       exact ⟨_, rfl, ⟨a2, c2, m10, rfl, hm, st, r5⟩⟩
      intro K2_u4
      clear hrKu4
      refine W_env _ kr (W_loop (fun k2 L' w' => ∃ (s2 : Int × Int × (List (Int × ByteArray × ByteArray))) (m8 : Mem), loopM (fact_Set_L2 N y2 s1) k2 s2 = some out2 ∧ L' = [(0, .slice a2 (List.length y1) c2), (3, .int .i64 s2.1), (4, .slice (slA a2 c2 (Int.toNat s1) 3) (Int.toNat (List.length y2 : Int) - Int.toNat s1) (c2 - Int.toNat s1)), (5, .int .i64 s2.2.1)] ∧ m.le m8 ∧ St m8 (opc a2 (acellsM (fun x : Int × ByteArray × ByteArray => ([.int .i64 x.1, .string x.2.1, .string x.2.2] : List Value)) s2.2.2 T1) 29 :: own) w' ∧ List.length s2.2.2 = (List.length y1)) N ⟨(s1, 1, y2), m6, hr, rfl, hm, st, hn1⟩ ?_)
      clear st hr
      rintro k2 _ w8 ⟨s2, m8, hL, rfl, hm, st, hn3⟩
      rcases k2 with _ | k2
      ·exact loopM_zero hL
      ·obtain ⟨qu4, hr, hSu4, hBu4⟩ := loopM_succ hL
       clear hL
       unfold fact_Set_L2 at hr
       refine W_seq ?_
       refine W_sr (WO_seg 4 [(32, .bool (decide (s2.2.1 < ((Int.toNat (List.length y2 : Int) - Int.toNat s1 : Nat) : Int))))] kr kr ?_)
       refine WO_et rfl (W_cond (decide (s2.2.1 < ((Int.toNat (List.length y2 : Int) - Int.toNat s1 : Nat) : Int))) kr ?_ ?_)
       ·intro hc
        rw [if_pos hc] at hr
        refine W_skip ?_
        refine X_then ?_
        refine W_seq ?_
        replace ⟨o4, hr, hrKu5⟩ := bindS hr
        refine W_cut .normal (fun L' w' => ∃ (m9 : Mem), L' = [(0, .slice a2 (List.length y1) c2), (3, .int .i64 o4.1), (4, .slice (slA a2 c2 (Int.toNat s1) 3) (Int.toNat (List.length y2 : Int) - Int.toNat s1) (c2 - Int.toNat s1)), (5, .int .i64 s2.2.1)] ∧ m.le m9 ∧ St m9 (opc a2 (acellsM (fun x : Int × ByteArray × ByteArray => ([.int .i64 x.1, .string x.2.1, .string x.2.2] : List Value)) o4.2 T1) 29 :: own) w' ∧ List.length o4.2 = (List.length y1)) ?_ ?_
        ·clear hr st
         have hr := hrKu5
         clear hrKu5
         rintro _ w9 ⟨m9, rfl, hm, st, hn4⟩
         refine X_then ?_
         refine W_region ?_
         refine WO_seg 3 [(5, .int .i64 (IntKind.wrap .i64 (s2.2.1 + 1)))] kr kr ?_
         refine WO_end rfl ?_
         obtain rfl := Option.some.inj hr
         have hL := hSu4 _ rfl
         exact X_env _ kr (X_round k2 (Nat.lt_succ_self _) ⟨(o4.1, IntKind.wrap .i64 (s2.2.1 + 1), o4.2), m9, hL, rfl, hm, st, hn4⟩)
        ·intro Ku5
         clear hrKu5
         refine W_block ?_
         refine W_seq ?_
         refine W_draw [(10, fun w' => Inv m8 w' ∧ Piece.holds m8 w' (opc a2 (acellsM (fun x : Int × ByteArray × ByteArray => ([.int .i64 x.1, .string x.2.1, .string x.2.2] : List Value)) s2.2.2 T1) 29) ∧ True)] kr st ?_
         clear st
         intro w10 _ st
         have hmS2 := m8.le_refl
         refine ⟨⟨.inr ⟨Inv.anti st.inv hmS2, opc_anti st.head hmS2, trivial⟩, trivial⟩, ?_⟩
         refine WA_pure 0 35 (.slice (slA a2 c2 (Int.toNat s1) 3) (Int.toNat (List.length y2 : Int) - Int.toNat s1) (c2 - Int.toNat s1)) kr rfl kr (.head _) (QP_then (QP_block (QP_then (QP_then (QP_block (QP_then (QP_block (QP_then (QP_then (QP_block (QP_then QP_body))))))))))) ?_
         refine WA_pure 1 36 (.int .i64 s2.2.1) kr rfl kr (.head _) (QP_then (QP_block (QP_then (QP_then (QP_block (QP_then (QP_block (QP_then (QP_then (QP_block (QP_then QP_body))))))))))) ?_
         replace ⟨x3, hx6, hr⟩ := bindS hr
         refine WA_viewIndex (t := 23) (e := 29) (k := 3) (x := (.tmp 35)) (y := (.tmp 36)) (lo := s1) (hi := (List.length y2 : Int)) (ix := s2.2.1) 2 37 kr rfl kr (.head _) (QP_then (QP_block (QP_then (QP_then (QP_block (QP_then (QP_block (QP_then (QP_then (QP_block (QP_then QP_body))))))))))) (ev (.slice (slA a2 c2 (Int.toNat s1) 3) (Int.toNat (List.length y2 : Int) - Int.toNat s1) (c2 - Int.toNat s1))) (ev (.int .i64 s2.2.1)) kr hs1 hn3 hv1 hx6 ?_
         have hx7 := (idx_view hv1.1 hx6).1
         refine WA_arrLoadM (t := 29) (x := (.tmp 37)) (o := 0) (f := (fun x : Int × ByteArray × ByteArray => ([.int .i64 x.1, .string x.2.1, .string x.2.2] : List Value))) (z := x3) (v := .agg #[.int .i64 x3.1, .string x3.2.1, .string x3.2.2]) 3 38 (fun _ => rfl) (Int.toNat (s1 + s2.2.1) * 3) rfl kr rfl kr (.head _) (QP_then (QP_block (QP_then (QP_then (QP_block (QP_then (QP_block (QP_then (QP_then (QP_block (QP_then QP_body))))))))))) (fun _ h => h.2.1) (ev (.pointer (some ⟨ab a2, Int.toNat (s1 + s2.2.1) * 3, none⟩))) hs1 hn3 hx7 kr ?_
         refine WA_pure 4 39 (.slice (slA a2 c2 (Int.toNat s1) 3) (Int.toNat (List.length y2 : Int) - Int.toNat s1) (c2 - Int.toNat s1)) kr rfl kr (.head _) (QP_then (QP_block (QP_then (QP_then (QP_block (QP_then (QP_block (QP_then (QP_then (QP_block (QP_then QP_body))))))))))) ?_
         refine WA_pure 5 40 (.int .i64 s2.2.1) kr rfl kr (.head _) (QP_then (QP_block (QP_then (QP_then (QP_block (QP_then (QP_block (QP_then (QP_then (QP_block (QP_then QP_body))))))))))) ?_
         refine WA_pure 6 41 (.int .i64 (IntKind.wrap .i64 (s2.2.1 - 1))) kr rfl kr (.head _) (QP_then (QP_block (QP_then (QP_then (QP_block (QP_then (QP_block (QP_then (QP_then (QP_block (QP_then QP_body))))))))))) ?_
         replace ⟨x4, hx8, hr⟩ := bindS hr
         refine WA_viewIndex (t := 23) (e := 29) (k := 3) (x := (.tmp 39)) (y := (.tmp 41)) (lo := s1) (hi := (List.length y2 : Int)) (ix := IntKind.wrap .i64 (s2.2.1 - 1)) 7 42 kr rfl kr (.head _) (QP_then (QP_block (QP_then (QP_then (QP_block (QP_then (QP_block (QP_then (QP_then (QP_block (QP_then QP_body))))))))))) (ev (.slice (slA a2 c2 (Int.toNat s1) 3) (Int.toNat (List.length y2 : Int) - Int.toNat s1) (c2 - Int.toNat s1))) (ev (.int .i64 (IntKind.wrap .i64 (s2.2.1 - 1)))) kr hs1 hn3 hv1 hx8 ?_
         have hx9 := (idx_view hv1.1 hx8).1
         refine WA_arrLoadM (t := 29) (x := (.tmp 42)) (o := 0) (f := (fun x : Int × ByteArray × ByteArray => ([.int .i64 x.1, .string x.2.1, .string x.2.2] : List Value))) (z := x4) (v := .agg #[.int .i64 x4.1, .string x4.2.1, .string x4.2.2]) 8 43 (fun _ => rfl) (Int.toNat (s1 + (IntKind.wrap .i64 (s2.2.1 - 1))) * 3) rfl kr rfl kr (.head _) (QP_then (QP_block (QP_then (QP_then (QP_block (QP_then (QP_block (QP_then (QP_then (QP_block (QP_then QP_body))))))))))) (fun _ h => h.2.1) (ev (.pointer (some ⟨ab a2, Int.toNat (s1 + (IntKind.wrap .i64 (s2.2.1 - 1))) * 3, none⟩))) hs1 hn3 hx9 kr ?_
         refine WA_one 9 kr  (One_neAgg (d := 44) (t := 29) (t2 := 29) (x := (.tmp 38)) (y := (.tmp 43)) (xs := #[.int .i64 x3.1, .string x3.2.1, .string x3.2.2]) (ys := #[.int .i64 x4.1, .string x4.2.1, .string x4.2.2]) ((x3.1 == x4.1) && ((x3.2.1.toList == x4.2.1.toList) && ((x3.2.2.toList == x4.2.2.toList) && true))) kr rfl (ev (.agg #[.int .i64 x3.1, .string x3.2.1, .string x3.2.2])) (ev (.agg #[.int .i64 x4.1, .string x4.2.1, .string x4.2.2])) kr kr kr ?_)
         refine ⟨⟨.inr ⟨Inv.anti st.inv hmS2, opc_anti st.head hmS2, trivial⟩, trivial⟩, ?_⟩
         refine WA_done kr ?_
         refine X_then ?_
         refine W_cond (!((x3.1 == x4.1) && ((x3.2.1.toList == x4.2.1.toList) && ((x3.2.2.toList == x4.2.2.toList) && true)))) kr ?_ ?_
         ·intro hc
          rw [if_pos hc] at hr
          refine W_sr (WO_seg 4 [(45, .slice a2 (List.length y1) c2), (46, .int .i64 s2.1), (47, .slice (slA a2 c2 (Int.toNat s1) 3) (Int.toNat (List.length y2 : Int) - Int.toNat s1) (c2 - Int.toNat s1)), (48, .int .i64 s2.2.1)] kr kr ?_)
          replace ⟨x5, hx10, hr⟩ := bindS hr
          refine WO_one rfl (One_viewIndex (d := 49) (t := 23) (e := 29) (k := 3) (x := (.tmp 47)) (y := (.tmp 48)) (lo := s1) (hi := (List.length y2 : Int)) (ix := s2.2.1) kr rfl (ev (.slice (slA a2 c2 (Int.toNat s1) 3) (Int.toNat (List.length y2 : Int) - Int.toNat s1) (c2 - Int.toNat s1))) (ev (.int .i64 s2.2.1)) kr hs1 hn3 hv1 hx10 ?_)
          have hx11 := (idx_view hv1.1 hx10).1
          refine WO_one rfl (One_arrLoadM (d := 50) (t := 29) (x := (.tmp 49)) (o := 0) (f := (fun x : Int × ByteArray × ByteArray => ([.int .i64 x.1, .string x.2.1, .string x.2.2] : List Value))) (z := x5) (v := .agg #[.int .i64 x5.1, .string x5.2.1, .string x5.2.2]) (fun _ => rfl) (Int.toNat (s1 + s2.2.1) * 3) rfl kr rfl (ev (.pointer (some ⟨ab a2, Int.toNat (s1 + s2.2.1) * 3, none⟩))) st.head hs1 hn3 hx11 kr ?_)
          replace ⟨x6, hx12, hr⟩ := bindS hr
          refine WO_one rfl (One_arrIndexM (d := 51) (t := 23) (e := 29) (x := (.tmp 45)) (y := (.tmp 46)) (k := 3) kr rfl (ev (.slice a2 (List.length y1) c2)) (ev (.int .i64 s2.1)) kr hs1 hn3 hx12 ?_)
          refine WO_one rfl (One_arrStoreM (t := 29) (x := (.tmp 51)) (y := (.tmp 50)) (o := 0) (f := (fun x : Int × ByteArray × ByteArray => ([.int .i64 x.1, .string x.2.1, .string x.2.2] : List Value))) (z := x6) (u := (x5.1, x5.2.1, x5.2.2)) (v := .agg #[.int .i64 x5.1, .string x5.2.1, .string x5.2.2]) (fun _ => rfl) (Int.toNat s2.1 * 3) rfl kr (ev (.pointer (some ⟨ab a2, Int.toNat s2.1 * 3, none⟩))) (ev (.agg #[.int .i64 x5.1, .string x5.2.1, .string x5.2.2])) st hs1 hn3 hx12 kr rfl ?_)
          clear st
          intro w11 st
          have hn5 : List.length (List.set s2.2.2 (Int.toNat s2.1) (x5.1, x5.2.1, x5.2.2)) = (List.length y1) := set_len hn3 _ _
          refine WO_et rfl (W_region ?_)
          refine WO_seg 3 [(3, .int .i64 (IntKind.wrap .i64 (s2.1 + 1)))] kr kr ?_
          refine WO_end rfl ?_
          refine X_block ?_
          obtain rfl := Option.some.inj hr
          exact X_env _ kr (Ku5 _ _ ⟨m8, rfl, hm, st, hn5⟩)
         ·intro hc
          rw [if_neg (not_true hc)] at hr
          refine W_skip ?_
          refine X_block ?_
          obtain rfl := Option.some.inj hr
          exact X_env _ kr (Ku5 _ _ ⟨m8, rfl, hm, st, hn3⟩)
       ·intro hc
        rw [if_neg (not_true hc)] at hr
        refine W_exit ?_
        refine X_then_exit ?_
        obtain rfl := Option.some.inj hr
        have ho := hBu4 _ rfl
        refine X_then_exit ?_
        exact X_env _ kr (K2_u4 _ _ ⟨(s2.1, s2.2.2), m8, ho, rfl, hm, st, hn3⟩)
     ·intro hc
      rw [if_neg (not_true hc)] at hr
      refine W_skip ?_
      refine X_block ?_
      refine X_then ?_
      refine W_region ?_
      refine WO_seg 3 [(3, .int .i64 (IntKind.wrap .i64 (s1 + 1)))] kr kr ?_
      refine WO_end rfl ?_
      obtain rfl := Option.some.inj hr
      have hL := hSu2 _ rfl
      exact X_env _ kr (X_round k1 (Nat.lt_succ_self _) ⟨IntKind.wrap .i64 (s1 + 1), m6, hL, rfl, hm, st, hn1⟩)
    ·intro hc
     rw [if_neg (not_true hc)] at hr
     refine W_exit ?_
     refine X_then_exit ?_
     obtain rfl := Option.some.inj hr
     have ho := hBu2 _ rfl
     refine X_then_exit ?_
     exact X_env _ kr (K0_u2 _ _ ⟨(), m6, ho, rfl, hm, st, hn1⟩)
def level_Keys_L1 (N : Nat) (p0 : List (Int × ByteArray × ByteArray)) (p1 : Int) (s1 : (List (Int × ByteArray × ByteArray)) × Int) : Option (((List (Int × ByteArray × ByteArray)) × Int) ⊕ (((List (Int × ByteArray × ByteArray))) ⊕ ((List (Int × ByteArray × ByteArray)) × Int))) :=
 if (decide (s1.2 < (List.length p0 : Int))) = true then ((idx p0 s1.2).bind fun x1 => (level_Key N (x1.1, x1.2.1, x1.2.2) p1).bind fun y2 => if (y2.2 != 0) = true then (some (.inr (.inr ((([] : List (Int × ByteArray × ByteArray)), y2.2))))) else ((appendS 40 s1.1 ([(y2.1.1, y2.1.2.1, y2.1.2.2)])).bind fun l1 => some (.inl (l1, IntKind.wrap .i64 (s1.2 + 1))))) else (some (.inr (.inl s1.1)))
def level_Keys (N : Nat) (p0 : List (Int × ByteArray × ByteArray)) (p1 : Int) : Option ((List (Int × ByteArray × ByteArray)) × Int) :=
 (level_known N p1).bind fun y1 => if (!y1) = true then (some (([] : List (Int × ByteArray × ByteArray)), 3)) else ((loopM (level_Keys_L1 N p0 p1) N (([] : List (Int × ByteArray × ByteArray)), 0)).bind fun out1 => (match out1 with | .inl o1 => (fact_Set N o1).bind fun y3 => some (y3, 0) | .inr (z) => some z))
set_option maxHeartbeats 4000000 in
set_option maxRecDepth 100000 in
theorem level_Keys_ok {N : Nat} {m : Mem} {own : List Piece} {w : World} {p0 : List (Int × ByteArray × ByteArray)} {p1 : Int} {a1 : Option Addr} {c1 : Nat} {r : (List (Int × ByteArray × ByteArray)) × Int} (st : St m (own) w) (r1 : RepS (cPair (cInt .i64) (cPair cStr cStr)) m a1 c1 p0) (hr : level_Keys N p0 p1 = some r) : Calls Tryd.prog 10 #[.slice a1 (List.length p0) c1, .int .i64 p1] w fun e w' => ∃ (ra1 : Option Addr) (rc1 : Nat) (m' : Mem), e = .returned (.tuple #[.slice ra1 (List.length r.1) rc1, .int .i64 r.2]) ∧ m.le m' ∧ St m' (.room ra1 (List.length r.1) rc1 29 3 :: own) w' ∧ RepS (cPair (cInt .i64) (cPair cStr cStr)) m' ra1 rc1 r.1 := by
 unfold level_Keys at hr
 have hm := m.le_refl
 refine W_calls Tryd.func10 rfl Tryd.ntmps10 [(0, .slice a1 (List.length p0) c1), (1, .int .i64 p1)] kr rfl ?_
 refine W_sr (WO_seg 2 [] kr kr ?_)
 refine WO_et rfl (W_seq ?_)
 refine W_sr (WO_seg 1 [(11, .int .i64 p1)] kr kr ?_)
 replace ⟨y1, hx1, hr⟩ := bindS hr
 refine WO_one rfl (One_fn 12 37 #[.int .i64 p1] kr rfl ?_)
 refine (level_known_ok st hx1).mono ?_
 clear st
 rintro _ w1 ⟨m1, rfl, hle1, st⟩
 refine ⟨_, rfl, ?_⟩
 have hm := Mem.le_trans hm hle1
 have r1 := r1.mono hle1
 refine WO_seg 1 [(13, .bool (!y1))] kr kr ?_
 refine WO_et rfl (W_cond (!y1) kr ?_ ?_)
 ·intro hc
  rw [if_pos hc] at hr
  refine W_sr (WO_seg 2 [(4, .slice none (List.length ([] : List (Int × ByteArray × ByteArray))) 0), (5, .int .i64 3)] kr kr ?_)
  refine WO_et rfl (W_ret ?_)
  refine X_then_ret ?_
  obtain rfl := Option.some.inj hr
  refine X_ret [.tmp 4, .tmp 5] [.slice none (List.length ([] : List (Int × ByteArray × ByteArray))) 0, .int .i64 3] rfl (ResAll.cons (ResAt.tmp kr) (ResAll.cons (ResAt.tmp kr) ResAll.nil)) ?_
  have st := st.nilroom 29 3
  exact ⟨none, 0, m1, rfl, hm, st, (RepS.nil _ _)⟩
 ·intro hc
  rw [if_neg (not_true hc)] at hr
  refine W_skip ?_
  refine X_then ?_
  refine W_sr (WO_seg 1 [(6, .slice none (List.length ([] : List (Int × ByteArray × ByteArray))) 0)] kr kr ?_)
  refine WO_et rfl (W_seq ?_)
  refine W_sr (WO_seg 3 [(14, .slice a1 (List.length p0) c1), (15, .int .i64 (List.length p0 : Int)), (16, .int .i64 0)] kr kr ?_)
  refine WO_et rfl (W_block ?_)
  replace ⟨out1, hr, hrKu1⟩ := bindS hr
  refine W_cut (.exit 0) (fun L' w' => ∃ (o1 : (List (Int × ByteArray × ByteArray))) (a2 : Option Addr) (c2 : Nat) (m2 : Mem), (.inl o1) = out1 ∧ L' = [(6, .slice a2 (List.length o1) c2)] ∧ m.le m2 ∧ St m2 (.room a2 (List.length o1) c2 29 3 :: own) w' ∧ RepS (cPair (cInt .i64) (cPair cStr cStr)) m2 a2 c2 o1) ?_ ?_
  ·clear hr st
   rintro _ w2 ⟨o1, a2, c2, m2, rfl, rfl, hm, st, r2⟩
   have hr := hrKu1
   clear hrKu1
   dsimp only at hr
   refine X_block_eq ?_
   refine X_then ?_
   refine W_sr (WO_seg 1 [(34, .slice a2 (List.length o1) c2)] kr kr ?_)
   replace ⟨y3, hx5, hr⟩ := bindS hr
   refine WO_one rfl (One_fn 35 38 #[.slice a2 (List.length o1) c2] kr rfl ?_)
   refine (fact_Set_ok st r2 hx5).mono ?_
   clear st
   rintro _ w11 ⟨a5, c5, m7, rfl, hle5, st, r6⟩
   refine ⟨_, rfl, ?_⟩
   have hm := Mem.le_trans hm hle5
   have r2 := r2.mono hle5
   refine WO_seg 2 [(4, .slice a5 (List.length y3) c5), (5, .int .i64 0)] kr kr ?_
   refine WO_end rfl ?_
   have st := st.front1
   have st := st.tail
   refine X_then ?_
   refine W_ret ?_
   obtain rfl := Option.some.inj hr
   refine X_ret [.tmp 4, .tmp 5] [.slice a5 (List.length y3) c5, .int .i64 0] rfl (ResAll.cons (ResAt.tmp kr) (ResAll.cons (ResAt.tmp kr) ResAll.nil)) ?_
   exact ⟨a5, c5, m7, rfl, hm, st, r6⟩
  intro K0_u1
  have st := st.nilroom 29 3
  refine W_env _ kr (W_loop (fun k1 L' w' => ∃ (s1 : (List (Int × ByteArray × ByteArray)) × Int) (a3 : Option Addr) (c3 : Nat) (m3 : Mem), loopM (level_Keys_L1 N p0 p1) k1 s1 = some out1 ∧ L' = [(1, .int .i64 p1), (6, .slice a3 (List.length s1.1) c3), (14, .slice a1 (List.length p0) c1), (15, .int .i64 (List.length p0 : Int)), (16, .int .i64 s1.2)] ∧ m.le m3 ∧ St m3 (.room a3 (List.length s1.1) c3 29 3 :: own) w' ∧ RepS (cPair (cInt .i64) (cPair cStr cStr)) m3 a3 c3 s1.1 ∧ RepS (cPair (cInt .i64) (cPair cStr cStr)) m3 a1 c1 p0) N ⟨(([] : List (Int × ByteArray × ByteArray)), 0), none, 0, m1, hr, rfl, hm, st, (RepS.nil _ _), r1⟩ ?_)
  clear st hr
  rintro k1 _ w3 ⟨s1, a3, c3, m3, hL, rfl, hm, st, r3, r1⟩
  rcases k1 with _ | k1
  ·exact loopM_zero hL
  ·obtain ⟨qu1, hr, hSu1, hBu1⟩ := loopM_succ hL
   clear hL
   unfold level_Keys_L1 at hr
   refine W_sr (WO_seg 1 [(17, .bool (decide (s1.2 < (List.length p0 : Int))))] kr kr ?_)
   refine WO_et rfl (W_seq ?_)
   refine W_cond (decide (s1.2 < (List.length p0 : Int))) kr ?_ ?_
   ·intro hc
    rw [if_pos hc] at hr
    refine W_skip ?_
    refine X_then ?_
    refine W_seq ?_
    refine W_block ?_
    refine W_sr ?_
    replace ⟨x1, hx2, hr⟩ := bindS hr
    refine WO_one rfl (One_index (d := 18) (t := 23) (e := 29) (x := (.tmp 14)) (y := (.tmp 16)) (cPair (cInt .i64) (cPair cStr cStr)) kr rfl (ev (.slice a1 (List.length p0) c1)) (ev (.int .i64 s1.2)) kr r1 hx2 ?_)
    rintro b1 f1 cs1 ⟨_, _, rfl, rfl, ⟨_, _, rfl, rfl, rfl⟩⟩ hq1
    refine WO_one rfl (One_load_row (d := 19) (t := 29) (x := (.tmp 18)) (.agg #[.int .i64 x1.1, .string x1.2.1, .string x1.2.2]) kr rfl (ev (.pointer (some ⟨b1, f1, none⟩))) st hq1 kr ?_)
    refine WO_one rfl (One_alloc (d := 8) (e := 29) (.agg #[.int .i64 0, .string (⟨#[]⟩ : ByteArray), .string (⟨#[]⟩ : ByteArray)]) kr rfl kr st ?_)
    clear st
    intro b2 w4 st
    refine WO_one rfl (One_store (t := 29) (x := (.tmp 8)) (y := (.tmp 19)) (v := .agg #[.int .i64 x1.1, .string x1.2.1, .string x1.2.2]) (c' := #[.int .i64 x1.1, .string x1.2.1, .string x1.2.2]) kr (ev (.pointer (some ⟨b2, 0, none⟩))) (ev (.agg #[.int .i64 x1.1, .string x1.2.1, .string x1.2.2])) st kr kr ?_)
    clear st
    intro w5 st
    refine WO_et rfl (W_sr ?_)
    refine WO_one rfl (One_load_own (d := 21) (t := 29) (x := (.tmp 8)) (.agg #[.int .i64 x1.1, .string x1.2.1, .string x1.2.2]) kr rfl (ev (.pointer (some ⟨b2, 0, none⟩))) st.head kr ?_)
    refine WO_seg 1 [(22, .int .i64 p1)] kr kr ?_
    replace ⟨y2, hx3, hr⟩ := bindS hr
    refine WO_one rfl (One_fn 23 15 #[.agg #[.int .i64 x1.1, .string x1.2.1, .string x1.2.2], .int .i64 p1] kr rfl ?_)
    refine (level_Key_ok st hx3).mono ?_
    clear st
    rintro _ w6 ⟨m4, rfl, hle2, st⟩
    refine ⟨_, rfl, ?_⟩
    have hm := Mem.le_trans hm hle2
    have r3 := r3.mono hle2
    have r1 := r1.mono hle2
    refine WO_seg 3 [(24, .agg #[.int .i64 y2.1.1, .string y2.1.2.1, .string y2.1.2.2]), (25, .int .i64 y2.2)] kr kr ?_
    refine WO_one rfl (One_alloc (d := 9) (e := 29) (.agg #[.int .i64 0, .string (⟨#[]⟩ : ByteArray), .string (⟨#[]⟩ : ByteArray)]) kr rfl kr st ?_)
    clear st
    intro b3 w7 st
    refine WO_one rfl (One_store (t := 29) (x := (.tmp 9)) (y := (.tmp 24)) (v := .agg #[.int .i64 y2.1.1, .string y2.1.2.1, .string y2.1.2.2]) (c' := #[.int .i64 y2.1.1, .string y2.1.2.1, .string y2.1.2.2]) kr (ev (.pointer (some ⟨b3, 0, none⟩))) (ev (.agg #[.int .i64 y2.1.1, .string y2.1.2.1, .string y2.1.2.2])) st kr kr ?_)
    clear st
    intro w8 st
    refine WO_seg 1 [(10, .int .i64 y2.2)] kr kr ?_
    refine WO_et rfl (W_seq ?_)
    refine W_sr (WO_seg 2 [(27, .bool (y2.2 != 0))] kr kr ?_)
    refine WO_et rfl (W_cond (y2.2 != 0) kr ?_ ?_)
    ·intro hc
     rw [if_pos hc] at hr
     refine W_sr (WO_seg 3 [(4, .slice none (List.length ([] : List (Int × ByteArray × ByteArray))) 0), (5, .int .i64 y2.2)] kr kr ?_)
     refine WO_end rfl ?_
     have st := st.front2
     have st := st.tail
     refine X_then ?_
     refine W_ret ?_
     refine X_then_ret ?_
     refine X_block_ret ?_
     refine X_then_ret ?_
     obtain rfl := Option.some.inj hr
     have ho := hBu1 _ rfl
     subst ho
     have hr := hrKu1
     dsimp only at hr
     refine X_then_ret ?_
     refine X_block_ret ?_
     refine X_then_ret ?_
     obtain rfl := Option.some.inj hr
     refine X_ret [.tmp 4, .tmp 5] [.slice none (List.length ([] : List (Int × ByteArray × ByteArray))) 0, .int .i64 y2.2] rfl (ResAll.cons (ResAt.tmp kr) (ResAll.cons (ResAt.tmp kr) ResAll.nil)) ?_
     have st := st.nilroom 29 3
     have st := st.front1
     have st := st.tail
     have st := st.front1
     have st := st.tail
     exact ⟨none, 0, m4, rfl, hm, st, (RepS.nil _ _)⟩
    ·intro hc
     rw [if_neg (not_true hc)] at hr
     refine W_skip ?_
     refine X_then ?_
     refine W_region ?_
     refine WO_seg 1 [(29, .slice a3 (List.length s1.1) c3)] kr kr ?_
     refine WO_one rfl (One_load_own (d := 30) (t := 29) (x := (.tmp 9)) (.agg #[.int .i64 y2.1.1, .string y2.1.2.1, .string y2.1.2.2]) kr rfl (ev (.pointer (some ⟨b3, 0, none⟩))) st.head kr ?_)
     refine WO_one rfl (One_buildSlice (d := 31) (t := 23) (e := 29) (len := 1) (parts := #[(0, (.tmp 30))]) (cPair (cInt .i64) (cPair cStr cStr)) (xs := [(y2.1.1, y2.1.2.1, y2.1.2.2)]) [.int .i64 y2.1.1, .string y2.1.2.1, .string y2.1.2.2] kr rfl (fun _ => buildCells_run kr _) rfl rfl st ⟨[.int .i64 y2.1.1, .string y2.1.2.1, .string y2.1.2.2], _, rfl, ⟨_, _, rfl, rfl, ⟨_, _, rfl, rfl, rfl⟩⟩, rfl⟩ ?_)
     clear st
     intro b4 m5 w9 hle3 st r4
     have hm := Mem.le_trans hm hle3
     have r3 := r3.mono hle3
     have r1 := r1.mono hle3
     have st := st.front3
     replace ⟨l1, hx4, hr⟩ := bindS hr
     refine WO_one rfl (One_append (d := 32) (t := 23) (u := 23) (e := 29) (by_ := 40) (x := (.tmp 29)) (y := (.tmp 31)) (cPair (cInt .i64) (cPair cStr cStr)) kr rfl (ev (.slice a3 (List.length s1.1) c3)) (ev (.slice (some ⟨b4, 0, none⟩) (List.length ([(y2.1.1, y2.1.2.1, y2.1.2.2)])) 1)) st kr (.inl kr) r3 r4.src hx4 ?_)
     clear st
     intro a4 c4 m6 w10 hle4 st r5
     have hm := Mem.le_trans hm hle4
     have r3 := r3.mono hle4
     have r1 := r1.mono hle4
     have r4 := r4.mono hle4
     refine WO_seg 1 [(6, .slice a4 (List.length l1) c4)] kr kr ?_
     refine WO_end rfl ?_
     have st := st.front1
     have st := st.tail
     refine X_block ?_
     refine X_then ?_
     refine W_region ?_
     refine WO_seg 2 [(16, .int .i64 (IntKind.wrap .i64 (s1.2 + 1)))] kr kr ?_
     refine WO_end rfl ?_
     obtain rfl := Option.some.inj hr
     have hL := hSu1 _ rfl
     have st := st.front1
     have st := st.tail
     have st := st.front1
     have st := st.tail
     exact X_env _ kr (X_round k1 (Nat.lt_succ_self _) ⟨(l1, IntKind.wrap .i64 (s1.2 + 1)), a4, c4, m6, hL, rfl, hm, st, r5, r1⟩)
   ·intro hc
    rw [if_neg (not_true hc)] at hr
    refine W_exit ?_
    refine X_then_exit ?_
    obtain rfl := Option.some.inj hr
    have ho := hBu1 _ rfl
    refine X_then_exit ?_
    exact X_env _ kr (K0_u1 _ _ ⟨s1.1, a3, c3, m3, ho, rfl, hm, st, r3⟩)
def testgateref04_letter (N : Nat) (p0 : Int) : Option (Bool) :=
 (if (decide (p0 ≥ 97)) = true then (some (decide (p0 ≤ 122))) else (some false) : Option (Bool)).bind fun o1 => some o1
set_option maxHeartbeats 4000000 in
set_option maxRecDepth 100000 in
theorem testgateref04_letter_ok {N : Nat} {m : Mem} {own : List Piece} {w : World} {p0 : Int} {r : Bool} (st : St m (own) w) (hr : testgateref04_letter N p0 = some r) : Calls Tryd.prog 101 #[.int .u8 p0] w fun e w' => ∃ (m' : Mem), e = .returned (.bool r) ∧ m.le m' ∧ St m' (own) w' := by
 unfold testgateref04_letter at hr
 have hm := m.le_refl
 refine W_calls Tryd.func101 rfl Tryd.ntmps101 [(0, .int .u8 p0)] kr rfl ?_
 refine W_sr (WO_seg 1 [] kr kr ?_)
 refine WO_et rfl (W_sr ?_)
 replace ⟨o1, hr, hrK⟩ := bindS hr
 refine WO_cut (j := 7) (fun L' w' => ∃ (m1 : Mem), L' = [(2, .bool o1)] ∧ m.le m1 ∧ St m1 (own) w') ?_ ?_
 ·clear hr st
  have hr := hrK
  clear hrK
  rintro _ w1 ⟨m1, rfl, hm, st⟩
  refine WO_et rfl (W_ret ?_)
  obtain rfl := Option.some.inj hr
  refine X_ret [.tmp 2] [.bool o1] rfl (ResAll.cons (ResAt.tmp kr) ResAll.nil) ?_
  exact ⟨m1, rfl, hm, st⟩
 ·intro K
  clear hrK
  refine WO_seg 3 [(5, .bool (decide (p0 ≥ 97)))] kr kr ?_
  rcases bcases (decide (p0 ≥ 97)) with hc | hc
  ·rw [if_pos hc] at hr
   refine WO_fact (t := 5) (b := true) (decide (p0 ≥ 97)) kr hc ?_
   refine WO_seg 4 [(2, .bool (decide (p0 ≤ 122)))] kr kr ?_
   obtain rfl := Option.some.inj hr
   exact WO_env _ kr (K _ _ ⟨m, rfl, hm, st⟩)
  ·rw [if_neg (not_true hc)] at hr
   refine WO_fact (t := 5) (b := false) (decide (p0 ≥ 97)) kr hc ?_
   refine WO_seg 4 [(2, .bool false)] kr kr ?_
   obtain rfl := Option.some.inj hr
   exact WO_env _ kr (K _ _ ⟨m, rfl, hm, st⟩)
def testgateref04_inner (N : Nat) (p0 : Int) : Option (Bool) :=
 ((testgateref04_letter N p0).bind fun y1 => if y1 = true then (some true) else (if (decide (p0 ≥ 48)) = true then (if (decide (p0 ≤ 57)) = true then (some true) else (some (p0 == 95))) else (some (p0 == 95))) : Option (Bool)).bind fun o1 => some o1
set_option maxHeartbeats 4000000 in
set_option maxRecDepth 100000 in
theorem testgateref04_inner_ok {N : Nat} {m : Mem} {own : List Piece} {w : World} {p0 : Int} {r : Bool} (st : St m (own) w) (hr : testgateref04_inner N p0 = some r) : Calls Tryd.prog 74 #[.int .u8 p0] w fun e w' => ∃ (m' : Mem), e = .returned (.bool r) ∧ m.le m' ∧ St m' (own) w' := by
 unfold testgateref04_inner at hr
 have hm := m.le_refl
 refine W_calls Tryd.func74 rfl Tryd.ntmps74 [(0, .int .u8 p0)] kr rfl ?_
 refine W_sr (WO_seg 1 [] kr kr ?_)
 refine WO_et rfl (W_sr ?_)
 replace ⟨o1, hr, hrK⟩ := bindS hr
 refine WO_cut (j := 15) (fun L' w' => ∃ (m1 : Mem), L' = [(2, .bool o1)] ∧ m.le m1 ∧ St m1 (own) w') ?_ ?_
 ·clear hr st
  have hr := hrK
  clear hrK
  rintro _ w1 ⟨m1, rfl, hm, st⟩
  refine WO_et rfl (W_ret ?_)
  obtain rfl := Option.some.inj hr
  refine X_ret [.tmp 2] [.bool o1] rfl (ResAll.cons (ResAt.tmp kr) ResAll.nil) ?_
  exact ⟨m1, rfl, hm, st⟩
 ·intro K
  clear hrK
  refine WO_seg 1 [(3, .int .u8 p0)] kr kr ?_
  replace ⟨y1, hx1, hr⟩ := bindS hr
  refine WO_one rfl (One_fn 4 101 #[.int .u8 p0] kr rfl ?_)
  refine (testgateref04_letter_ok st hx1).mono ?_
  clear st
  rintro _ w2 ⟨m2, rfl, hle1, st⟩
  refine ⟨_, rfl, ?_⟩
  have hm := Mem.le_trans hm hle1
  refine WO_seg 1 [(5, .bool y1)] kr kr ?_
  rcases bcases y1 with hc | hc
  ·rw [if_pos hc] at hr
   refine WO_fact (t := 5) (b := true) y1 kr hc ?_
   refine WO_seg 12 [(2, .bool true)] kr kr ?_
   obtain rfl := Option.some.inj hr
   exact WO_env _ kr (K _ _ ⟨m2, rfl, hm, st⟩)
  ·rw [if_neg (not_true hc)] at hr
   refine WO_fact (t := 5) (b := false) y1 kr hc ?_
   refine WO_seg 3 [(8, .bool (decide (p0 ≥ 48)))] kr kr ?_
   rcases bcases (decide (p0 ≥ 48)) with hc | hc
   ·rw [if_pos hc] at hr
    refine WO_fact (t := 8) (b := true) (decide (p0 ≥ 48)) kr hc ?_
    refine WO_seg 5 [(13, .bool (decide (p0 ≤ 57)))] kr kr ?_
    rcases bcases (decide (p0 ≤ 57)) with hc | hc
    ·rw [if_pos hc] at hr
     refine WO_fact (t := 13) (b := true) (decide (p0 ≤ 57)) kr hc ?_
     refine WO_seg 4 [(2, .bool true)] kr kr ?_
     obtain rfl := Option.some.inj hr
     exact WO_env _ kr (K _ _ ⟨m2, rfl, hm, st⟩)
    ·rw [if_neg (not_true hc)] at hr
     refine WO_fact (t := 13) (b := false) (decide (p0 ≤ 57)) kr hc ?_
     refine WO_seg 4 [(2, .bool (p0 == 95))] kr kr ?_
     obtain rfl := Option.some.inj hr
     exact WO_env _ kr (K _ _ ⟨m2, rfl, hm, st⟩)
   ·rw [if_neg (not_true hc)] at hr
    refine WO_fact (t := 8) (b := false) (decide (p0 ≥ 48)) kr hc ?_
    refine WO_seg 9 [(2, .bool (p0 == 95))] kr kr ?_
    obtain rfl := Option.some.inj hr
    exact WO_env _ kr (K _ _ ⟨m2, rfl, hm, st⟩)
def testgateref04_Name_L1 (N : Nat) (p0 : ByteArray) (s1 : Int) : Option ((Int) ⊕ ((Unit) ⊕ (Bool))) :=
 if (decide (s1 < (ByteArray.size p0 : Int))) = true then ((idxB p0 s1).bind fun x2 => (testgateref04_inner N (x2.toNat : Int)).bind fun y2 => if (!y2) = true then (some (.inr (.inr (false)))) else (some (.inl (IntKind.wrap .i64 (s1 + 1))))) else (some (.inr (.inl ())))
def testgateref04_Name (N : Nat) (p0 : ByteArray) : Option (Bool) :=
 (if (decide ((ByteArray.size p0 : Int) < 1)) = true then (some true) else (if (decide ((ByteArray.size p0 : Int) > 24)) = true then (some true) else ((idxB p0 0).bind fun x1 => (testgateref04_letter N (x1.toNat : Int)).bind fun y1 => some (!y1))) : Option (Bool)).bind fun o1 => if o1 = true then (some false) else ((loopM (testgateref04_Name_L1 N p0) N 0).bind fun out1 => (match out1 with | .inl o2 => some true | .inr (z) => some z))
set_option maxHeartbeats 4000000 in
set_option maxRecDepth 100000 in
theorem testgateref04_Name_ok {N : Nat} {m : Mem} {own : List Piece} {w : World} {p0 : ByteArray} {r : Bool} (st : St m (own) w) (hr : testgateref04_Name N p0 = some r) : Calls Tryd.prog 70 #[.string p0] w fun e w' => ∃ (m' : Mem), e = .returned (.bool r) ∧ m.le m' ∧ St m' (own) w' := by
 unfold testgateref04_Name at hr
 have hm := m.le_refl
 refine W_calls Tryd.func70 rfl Tryd.ntmps70 [(0, .string p0)] kr rfl ?_
 refine W_sr (WO_seg 1 [] kr kr ?_)
 refine WO_et rfl (W_seq ?_)
 refine W_sr ?_
 replace ⟨o1, hr, hrK⟩ := bindS hr
 refine WO_cut (j := 14) (fun L' w' => ∃ (m1 : Mem), L' = [(0, .string p0), (17, .bool o1)] ∧ m.le m1 ∧ St m1 (own) w') ?_ ?_
 ·clear hr st
  have hr := hrK
  clear hrK
  rintro _ w1 ⟨m1, rfl, hm, st⟩
  refine WO_et rfl (W_cond o1 kr ?_ ?_)
  ·intro hc
   rw [if_pos hc] at hr
   refine W_sr (WO_seg 1 [(2, .bool false)] kr kr ?_)
   refine WO_et rfl (W_ret ?_)
   refine X_then_ret ?_
   obtain rfl := Option.some.inj hr
   refine X_ret [.tmp 2] [.bool false] rfl (ResAll.cons (ResAt.tmp kr) ResAll.nil) ?_
   exact ⟨m1, rfl, hm, st⟩
  ·intro hc
   rw [if_neg (not_true hc)] at hr
   refine W_skip ?_
   refine X_then ?_
   refine W_seq ?_
   refine W_sr (WO_seg 1 [(3, .int .i64 0)] kr kr ?_)
   refine WO_et rfl (W_block ?_)
   replace ⟨out1, hr, hrKu1⟩ := bindS hr
   refine W_cut (.exit 0) (fun L' w' => ∃ (o2 : Unit) (m3 : Mem), (.inl o2) = out1 ∧ L' = [] ∧ m.le m3 ∧ St m3 (own) w') ?_ ?_
   ·clear hr st
    rintro _ w3 ⟨o2, m3, rfl, rfl, hm, st⟩
    have hr := hrKu1
    clear hrKu1
    dsimp only at hr
    refine X_block_eq ?_
    refine X_then ?_
    refine W_sr (WO_seg 1 [(2, .bool true)] kr kr ?_)
    refine WO_et rfl (W_ret ?_)
    obtain rfl := Option.some.inj hr
    refine X_ret [.tmp 2] [.bool true] rfl (ResAll.cons (ResAt.tmp kr) ResAll.nil) ?_
    exact ⟨m3, rfl, hm, st⟩
   intro K0_u1
   refine W_env _ kr (W_loop (fun k1 L' w' => ∃ (s1 : Int) (m4 : Mem), loopM (testgateref04_Name_L1 N p0) k1 s1 = some out1 ∧ L' = [(0, .string p0), (3, .int .i64 s1)] ∧ m.le m4 ∧ St m4 (own) w') N ⟨0, m1, hr, rfl, hm, st⟩ ?_)
   clear st hr
   rintro k1 _ w4 ⟨s1, m4, hL, rfl, hm, st⟩
   rcases k1 with _ | k1
   ·exact loopM_zero hL
   ·obtain ⟨qu1, hr, hSu1, hBu1⟩ := loopM_succ hL
    clear hL
    unfold testgateref04_Name_L1 at hr
    refine W_seq ?_
    refine W_sr (WO_seg 4 [(21, .bool (decide (s1 < (ByteArray.size p0 : Int))))] kr kr ?_)
    refine WO_et rfl (W_cond (decide (s1 < (ByteArray.size p0 : Int))) kr ?_ ?_)
    ·intro hc
     rw [if_pos hc] at hr
     refine W_skip ?_
     refine X_then ?_
     refine W_seq ?_
     refine W_block ?_
     refine W_sr (WO_seg 2 [(24, .string p0), (25, .int .i64 s1)] kr kr ?_)
     replace ⟨x2, hx3, hr⟩ := bindS hr
     refine WO_one rfl (One_strIndex (d := 26) (t := 9) (x := (.tmp 24)) (y := (.tmp 25)) kr rfl (ev (.string p0)) (ev (.int .i64 s1)) kr hx3 ?_)
     replace ⟨y2, hx4, hr⟩ := bindS hr
     refine WO_one rfl (One_fn 27 74 #[.int .u8 (x2.toNat : Int)] kr rfl ?_)
     refine (testgateref04_inner_ok st hx4).mono ?_
     clear st
     rintro _ w5 ⟨m5, rfl, hle2, st⟩
     refine ⟨_, rfl, ?_⟩
     have hm := Mem.le_trans hm hle2
     refine WO_seg 1 [(28, .bool (!y2))] kr kr ?_
     refine WO_et rfl (W_cond (!y2) kr ?_ ?_)
     ·intro hc
      rw [if_pos hc] at hr
      refine W_sr (WO_seg 1 [(2, .bool false)] kr kr ?_)
      refine WO_et rfl (W_ret ?_)
      refine X_block_ret ?_
      refine X_then_ret ?_
      obtain rfl := Option.some.inj hr
      have ho := hBu1 _ rfl
      subst ho
      have hr := hrKu1
      dsimp only at hr
      refine X_then_ret ?_
      refine X_block_ret ?_
      refine X_then_ret ?_
      obtain rfl := Option.some.inj hr
      refine X_ret [.tmp 2] [.bool false] rfl (ResAll.cons (ResAt.tmp kr) ResAll.nil) ?_
      exact ⟨m5, rfl, hm, st⟩
     ·intro hc
      rw [if_neg (not_true hc)] at hr
      refine W_skip ?_
      refine X_block ?_
      refine X_then ?_
      refine W_region ?_
      refine WO_seg 3 [(3, .int .i64 (IntKind.wrap .i64 (s1 + 1)))] kr kr ?_
      refine WO_end rfl ?_
      obtain rfl := Option.some.inj hr
      have hL := hSu1 _ rfl
      exact X_env _ kr (X_round k1 (Nat.lt_succ_self _) ⟨IntKind.wrap .i64 (s1 + 1), m5, hL, rfl, hm, st⟩)
    ·intro hc
     rw [if_neg (not_true hc)] at hr
     refine W_exit ?_
     refine X_then_exit ?_
     obtain rfl := Option.some.inj hr
     have ho := hBu1 _ rfl
     refine X_then_exit ?_
     exact X_env _ kr (K0_u1 _ _ ⟨(), m4, ho, rfl, hm, st⟩)
 ·intro K
  clear hrK
  refine WO_seg 4 [(7, .bool (decide ((ByteArray.size p0 : Int) < 1)))] kr kr ?_
  rcases bcases (decide ((ByteArray.size p0 : Int) < 1)) with hc | hc
  ·rw [if_pos hc] at hr
   refine WO_fact (t := 7) (b := true) (decide ((ByteArray.size p0 : Int) < 1)) kr hc ?_
   refine WO_seg 10 [(17, .bool true)] kr kr ?_
   obtain rfl := Option.some.inj hr
   exact WO_env _ kr (K _ _ ⟨m, rfl, hm, st⟩)
  ·rw [if_neg (not_true hc)] at hr
   refine WO_fact (t := 7) (b := false) (decide ((ByteArray.size p0 : Int) < 1)) kr hc ?_
   refine WO_seg 5 [(12, .bool (decide ((ByteArray.size p0 : Int) > 24)))] kr kr ?_
   rcases bcases (decide ((ByteArray.size p0 : Int) > 24)) with hc | hc
   ·rw [if_pos hc] at hr
    refine WO_fact (t := 12) (b := true) (decide ((ByteArray.size p0 : Int) > 24)) kr hc ?_
    refine WO_seg 5 [(17, .bool true)] kr kr ?_
    obtain rfl := Option.some.inj hr
    exact WO_env _ kr (K _ _ ⟨m, rfl, hm, st⟩)
   ·rw [if_neg (not_true hc)] at hr
    refine WO_fact (t := 12) (b := false) (decide ((ByteArray.size p0 : Int) > 24)) kr hc ?_
    refine WO_seg 1 [(13, .string p0)] kr kr ?_
    replace ⟨x1, hx1, hr⟩ := bindS hr
    refine WO_one rfl (One_strIndex (d := 14) (t := 9) (x := (.tmp 13)) (y := (.const (.int .i64 0))) kr rfl (ev (.string p0)) (ev (.int .i64 0)) kr hx1 ?_)
    replace ⟨y1, hx2, hr⟩ := bindS hr
    refine WO_one rfl (One_fn 15 101 #[.int .u8 (x1.toNat : Int)] kr rfl ?_)
    refine (testgateref04_letter_ok st hx2).mono ?_
    clear st
    rintro _ w2 ⟨m2, rfl, hle1, st⟩
    refine ⟨_, rfl, ?_⟩
    have hm := Mem.le_trans hm hle1
    refine WO_seg 2 [(17, .bool (!y1))] kr kr ?_
    obtain rfl := Option.some.inj hr
    exact WO_env _ kr (K _ _ ⟨m2, rfl, hm, st⟩)
def testgateref04_Path_L1 (N : Nat) (p0 : ByteArray) (s1 : Int × Int × Int) : Option ((Int × Int × Int) ⊕ ((Int × Int) ⊕ (Bool))) :=
 if (decide (s1.2.2 < (ByteArray.size p0 : Int))) = true then (((idxB p0 s1.2.2).bind fun x1 => if ((x1.toNat : Int) == 47) = true then (if (s1.2.1 == 0) = true then (some (.inr (.inr (.inr (false))))) else (some (.inl (IntKind.wrap .i64 (s1.1 + 1), 0)))) else (((idxB p0 s1.2.2).bind fun x2 => (testgateref04_inner N (x2.toNat : Int)).bind fun y1 => if y1 = true then (some true) else ((idxB p0 s1.2.2).bind fun x3 => some ((x3.toNat : Int) == 46)) : Option (Bool)).bind fun o3 => if o3 = true then (some (.inl (s1.1, IntKind.wrap .i64 (s1.2.1 + 1)))) else (some (.inr (.inr (.inr (false)))))) : Option ((Int × Int) ⊕ ((Int × Int × Int) ⊕ ((Int × Int) ⊕ (Bool))))).bind fun qu2 => (match qu2 with | .inl o2 => if (decide (o2.2 > 24)) = true then (some (.inr (.inr (false)))) else (some (.inl (o2.1, o2.2, IntKind.wrap .i64 (s1.2.2 + 1)))) | .inr z => some z)) else (some (.inr (.inl (s1.1, s1.2.1))))
def testgateref04_Path (N : Nat) (p0 : ByteArray) : Option (Bool) :=
 if (decide ((ByteArray.size p0 : Int) > 80)) = true then (some false) else ((loopM (testgateref04_Path_L1 N p0) N (1, 0, 0)).bind fun out1 => (match out1 with | .inl o1 => (if (decide (o1.2 > 0)) = true then (some (decide (o1.1 ≤ 8))) else (some false) : Option (Bool)).bind fun o4 => some o4 | .inr (z) => some z))
set_option maxHeartbeats 4000000 in
set_option maxRecDepth 100000 in
theorem testgateref04_Path_ok {N : Nat} {m : Mem} {own : List Piece} {w : World} {p0 : ByteArray} {r : Bool} (st : St m (own) w) (hr : testgateref04_Path N p0 = some r) : Calls Tryd.prog 48 #[.string p0] w fun e w' => ∃ (m' : Mem), e = .returned (.bool r) ∧ m.le m' ∧ St m' (own) w' := by
 unfold testgateref04_Path at hr
 have hm := m.le_refl
 refine W_calls Tryd.func48 rfl Tryd.ntmps48 [(0, .string p0)] kr rfl ?_
 refine W_sr (WO_seg 1 [] kr kr ?_)
 refine WO_et rfl (W_sr ?_)
 refine WO_seg 2 [(3, .int .i64 1), (4, .int .i64 0)] kr kr ?_
 refine WO_et rfl (W_seq ?_)
 refine W_sr (WO_seg 3 [(8, .bool (decide ((ByteArray.size p0 : Int) > 80)))] kr kr ?_)
 refine WO_et rfl (W_cond (decide ((ByteArray.size p0 : Int) > 80)) kr ?_ ?_)
 ·intro hc
  rw [if_pos hc] at hr
  refine W_sr (WO_seg 1 [(2, .bool false)] kr kr ?_)
  refine WO_et rfl (W_ret ?_)
  refine X_then_ret ?_
  obtain rfl := Option.some.inj hr
  refine X_ret [.tmp 2] [.bool false] rfl (ResAll.cons (ResAt.tmp kr) ResAll.nil) ?_
  exact ⟨m, rfl, hm, st⟩
 ·intro hc
  rw [if_neg (not_true hc)] at hr
  refine W_skip ?_
  refine X_then ?_
  refine W_seq ?_
  refine W_sr (WO_seg 1 [(5, .int .i64 0)] kr kr ?_)
  refine WO_et rfl (W_block ?_)
  replace ⟨out1, hr, hrKu1⟩ := bindS hr
  refine W_cut (.exit 0) (fun L' w' => ∃ (o1 : Int × Int) (m1 : Mem), (.inl o1) = out1 ∧ L' = [(3, .int .i64 o1.1), (4, .int .i64 o1.2)] ∧ m.le m1 ∧ St m1 (own) w') ?_ ?_
  ·clear hr st
   rintro _ w1 ⟨o1, m1, rfl, rfl, hm, st⟩
   have hr := hrKu1
   clear hrKu1
   dsimp only at hr
   refine X_block_eq ?_
   refine X_then ?_
   refine W_sr ?_
   replace ⟨o4, hr, hrK⟩ := bindS hr
   refine WO_cut (j := 7) (fun L' w' => ∃ (m6 : Mem), L' = [(2, .bool o4)] ∧ m.le m6 ∧ St m6 (own) w') ?_ ?_
   ·clear hr st
    have hr := hrK
    clear hrK
    rintro _ w6 ⟨m6, rfl, hm, st⟩
    refine WO_et rfl (W_ret ?_)
    obtain rfl := Option.some.inj hr
    refine X_ret [.tmp 2] [.bool o4] rfl (ResAll.cons (ResAt.tmp kr) ResAll.nil) ?_
    exact ⟨m6, rfl, hm, st⟩
   ·intro K
    clear hrK
    refine WO_seg 3 [(41, .bool (decide (o1.2 > 0)))] kr kr ?_
    rcases bcases (decide (o1.2 > 0)) with hc | hc
    ·rw [if_pos hc] at hr
     refine WO_fact (t := 41) (b := true) (decide (o1.2 > 0)) kr hc ?_
     refine WO_seg 4 [(2, .bool (decide (o1.1 ≤ 8)))] kr kr ?_
     obtain rfl := Option.some.inj hr
     exact WO_env _ kr (K _ _ ⟨m1, rfl, hm, st⟩)
    ·rw [if_neg (not_true hc)] at hr
     refine WO_fact (t := 41) (b := false) (decide (o1.2 > 0)) kr hc ?_
     refine WO_seg 4 [(2, .bool false)] kr kr ?_
     obtain rfl := Option.some.inj hr
     exact WO_env _ kr (K _ _ ⟨m1, rfl, hm, st⟩)
  intro K0_u1
  refine W_env _ kr (W_loop (fun k1 L' w' => ∃ (s1 : Int × Int × Int) (m2 : Mem), loopM (testgateref04_Path_L1 N p0) k1 s1 = some out1 ∧ L' = [(0, .string p0), (3, .int .i64 s1.1), (4, .int .i64 s1.2.1), (5, .int .i64 s1.2.2)] ∧ m.le m2 ∧ St m2 (own) w') N ⟨(1, 0, 0), m, hr, rfl, hm, st⟩ ?_)
  clear st hr
  rintro k1 _ w2 ⟨s1, m2, hL, rfl, hm, st⟩
  rcases k1 with _ | k1
  ·exact loopM_zero hL
  ·obtain ⟨qu1, hr, hSu1, hBu1⟩ := loopM_succ hL
   clear hL
   unfold testgateref04_Path_L1 at hr
   refine W_seq ?_
   refine W_sr (WO_seg 4 [(12, .bool (decide (s1.2.2 < (ByteArray.size p0 : Int))))] kr kr ?_)
   refine WO_et rfl (W_cond (decide (s1.2.2 < (ByteArray.size p0 : Int))) kr ?_ ?_)
   ·intro hc
    rw [if_pos hc] at hr
    refine W_skip ?_
    refine X_then ?_
    refine W_seq ?_
    refine W_block ?_
    refine W_seq ?_
    replace ⟨qu2, hr, hrKu2⟩ := bindS hr
    refine W_cut .normal (fun L' w' => ∃ (o2 : Int × Int) (m3 : Mem), (.inl o2 : (Int × Int) ⊕ ((Int × Int × Int) ⊕ ((Int × Int) ⊕ (Bool)))) = qu2 ∧ L' = [(0, .string p0), (3, .int .i64 o2.1), (4, .int .i64 o2.2), (5, .int .i64 s1.2.2)] ∧ m.le m3 ∧ St m3 (own) w') ?_ ?_
    ·clear hr st
     rintro _ w3 ⟨o2, m3, rfl, rfl, hm, st⟩
     have hr := hrKu2
     clear hrKu2
     dsimp only at hr
     refine X_then ?_
     refine W_sr (WO_seg 2 [(38, .bool (decide (o2.2 > 24)))] kr kr ?_)
     refine WO_et rfl (W_cond (decide (o2.2 > 24)) kr ?_ ?_)
     ·intro hc
      rw [if_pos hc] at hr
      refine W_sr (WO_seg 1 [(2, .bool false)] kr kr ?_)
      refine WO_et rfl (W_ret ?_)
      refine X_block_ret ?_
      refine X_then_ret ?_
      obtain rfl := Option.some.inj hr
      have ho := hBu1 _ rfl
      subst ho
      have hr := hrKu1
      dsimp only at hr
      refine X_then_ret ?_
      refine X_block_ret ?_
      refine X_then_ret ?_
      obtain rfl := Option.some.inj hr
      refine X_ret [.tmp 2] [.bool false] rfl (ResAll.cons (ResAt.tmp kr) ResAll.nil) ?_
      exact ⟨m3, rfl, hm, st⟩
     ·intro hc
      rw [if_neg (not_true hc)] at hr
      refine W_skip ?_
      refine X_block ?_
      refine X_then ?_
      refine W_region ?_
      refine WO_seg 3 [(5, .int .i64 (IntKind.wrap .i64 (s1.2.2 + 1)))] kr kr ?_
      refine WO_end rfl ?_
      obtain rfl := Option.some.inj hr
      have hL := hSu1 _ rfl
      exact X_env _ kr (X_round k1 (Nat.lt_succ_self _) ⟨(o2.1, o2.2, IntKind.wrap .i64 (s1.2.2 + 1)), m3, hL, rfl, hm, st⟩)
    ·intro Ku2
     refine W_block ?_
     refine W_sr (WO_seg 2 [(16, .string p0), (17, .int .i64 s1.2.2)] kr kr ?_)
     replace ⟨x1, hx1, hr⟩ := bindS hr
     refine WO_one rfl (One_strIndex (d := 18) (t := 9) (x := (.tmp 16)) (y := (.tmp 17)) kr rfl (ev (.string p0)) (ev (.int .i64 s1.2.2)) kr hx1 ?_)
     refine WO_seg 2 [(15, .bool ((x1.toNat : Int) == 47))] kr kr ?_
     refine WO_et rfl (W_cond ((x1.toNat : Int) == 47) kr ?_ ?_)
     ·intro hc
      rw [if_pos hc] at hr
      refine W_seq ?_
      refine W_sr (WO_seg 2 [(21, .bool (s1.2.1 == 0))] kr kr ?_)
      refine WO_et rfl (W_cond (s1.2.1 == 0) kr ?_ ?_)
      ·intro hc
       rw [if_pos hc] at hr
       refine W_sr (WO_seg 1 [(2, .bool false)] kr kr ?_)
       refine WO_et rfl (W_ret ?_)
       refine X_then_ret ?_
       refine X_block_ret ?_
       obtain rfl := Option.some.inj hr
       have hr := hrKu2
       try dsimp only at hr
       refine X_then_ret ?_
       refine X_block_ret ?_
       refine X_then_ret ?_
       obtain rfl := Option.some.inj hr
       have ho := hBu1 _ rfl
       subst ho
       have hr := hrKu1
       dsimp only at hr
       refine X_then_ret ?_
       refine X_block_ret ?_
       refine X_then_ret ?_
       obtain rfl := Option.some.inj hr
       refine X_ret [.tmp 2] [.bool false] rfl (ResAll.cons (ResAt.tmp kr) ResAll.nil) ?_
       exact ⟨m2, rfl, hm, st⟩
      ·intro hc
       rw [if_neg (not_true hc)] at hr
       refine W_skip ?_
       refine X_then ?_
       refine W_region ?_
       refine WO_seg 4 [(3, .int .i64 (IntKind.wrap .i64 (s1.1 + 1))), (4, .int .i64 0)] kr kr ?_
       refine WO_end rfl ?_
       refine X_block ?_
       have hqu2 := Option.some.inj hr
       exact X_env _ kr (Ku2 _ _ ⟨(IntKind.wrap .i64 (s1.1 + 1), 0), m2, hqu2, rfl, hm, st⟩)
     ·intro hc
      rw [if_neg (not_true hc)] at hr
      refine W_sr ?_
      replace ⟨o3, hr, hrK⟩ := bindS hr
      refine WO_cut (j := 11) (fun L' w' => ∃ (m4 : Mem), L' = [(0, .string p0), (3, .int .i64 s1.1), (4, .int .i64 s1.2.1), (5, .int .i64 s1.2.2), (24, .bool o3)] ∧ m.le m4 ∧ St m4 (own) w') ?_ ?_
      ·clear hr st
       have hr := hrK
       clear hrK
       rintro _ w4 ⟨m4, rfl, hm, st⟩
       refine WO_et rfl (W_cond o3 kr ?_ ?_)
       ·intro hc
        rw [if_pos hc] at hr
        refine W_region ?_
        refine WO_seg 3 [(4, .int .i64 (IntKind.wrap .i64 (s1.2.1 + 1)))] kr kr ?_
        refine WO_end rfl ?_
        refine X_block ?_
        have hqu2 := Option.some.inj hr
        exact X_env _ kr (Ku2 _ _ ⟨(s1.1, IntKind.wrap .i64 (s1.2.1 + 1)), m4, hqu2, rfl, hm, st⟩)
       ·intro hc
        rw [if_neg (not_true hc)] at hr
        refine W_sr (WO_seg 1 [(2, .bool false)] kr kr ?_)
        refine WO_et rfl (W_ret ?_)
        refine X_block_ret ?_
        obtain rfl := Option.some.inj hr
        have hr := hrKu2
        try dsimp only at hr
        refine X_then_ret ?_
        refine X_block_ret ?_
        refine X_then_ret ?_
        obtain rfl := Option.some.inj hr
        have ho := hBu1 _ rfl
        subst ho
        have hr := hrKu1
        dsimp only at hr
        refine X_then_ret ?_
        refine X_block_ret ?_
        refine X_then_ret ?_
        obtain rfl := Option.some.inj hr
        refine X_ret [.tmp 2] [.bool false] rfl (ResAll.cons (ResAt.tmp kr) ResAll.nil) ?_
        exact ⟨m4, rfl, hm, st⟩
      ·intro K
       clear hrK
       refine WO_seg 2 [(25, .string p0), (26, .int .i64 s1.2.2)] kr kr ?_
       replace ⟨x2, hx2, hr⟩ := bindS hr
       refine WO_one rfl (One_strIndex (d := 27) (t := 9) (x := (.tmp 25)) (y := (.tmp 26)) kr rfl (ev (.string p0)) (ev (.int .i64 s1.2.2)) kr hx2 ?_)
       replace ⟨y1, hx3, hr⟩ := bindS hr
       refine WO_one rfl (One_fn 28 74 #[.int .u8 (x2.toNat : Int)] kr rfl ?_)
       refine (testgateref04_inner_ok st hx3).mono ?_
       clear st
       rintro _ w5 ⟨m5, rfl, hle1, st⟩
       refine ⟨_, rfl, ?_⟩
       have hm := Mem.le_trans hm hle1
       refine WO_seg 1 [(29, .bool y1)] kr kr ?_
       rcases bcases y1 with hc | hc
       ·rw [if_pos hc] at hr
        refine WO_fact (t := 29) (b := true) y1 kr hc ?_
        refine WO_seg 6 [(24, .bool true)] kr kr ?_
        obtain rfl := Option.some.inj hr
        exact WO_env _ kr (K _ _ ⟨m5, rfl, hm, st⟩)
       ·rw [if_neg (not_true hc)] at hr
        refine WO_fact (t := 29) (b := false) y1 kr hc ?_
        refine WO_seg 2 [(30, .string p0), (31, .int .i64 s1.2.2)] kr kr ?_
        replace ⟨x3, hx4, hr⟩ := bindS hr
        refine WO_one rfl (One_strIndex (d := 32) (t := 9) (x := (.tmp 30)) (y := (.tmp 31)) kr rfl (ev (.string p0)) (ev (.int .i64 s1.2.2)) kr hx4 ?_)
        refine WO_seg 3 [(24, .bool ((x3.toNat : Int) == 46))] kr kr ?_
        obtain rfl := Option.some.inj hr
        exact WO_env _ kr (K _ _ ⟨m5, rfl, hm, st⟩)
   ·intro hc
    rw [if_neg (not_true hc)] at hr
    refine W_exit ?_
    refine X_then_exit ?_
    obtain rfl := Option.some.inj hr
    have ho := hBu1 _ rfl
    refine X_then_exit ?_
    exact X_env _ kr (K0_u1 _ _ ⟨(s1.1, s1.2.1), m2, ho, rfl, hm, st⟩)
def testgateref11_Check (N : Nat) (p0 : Int × ByteArray × ByteArray) : Option (Bool) :=
 (if (p0.1 == 1) = true then (some (p0.1 == 1)) else (some (p0.1 == 2)) : Option (Bool)).bind fun o1 => if o1 = true then (((testgateref04_Name N p0.2.1).bind fun y1 => if y1 = true then ((testgateref04_Name N p0.2.2).bind fun y2 => some y2) else (some false) : Option (Bool)).bind fun o2 => some o2) else ((if (p0.1 == 3) = true then (some (p0.1 == 3)) else (some (p0.1 == 4)) : Option (Bool)).bind fun o3 => if o3 = true then (((testgateref04_Path N p0.2.1).bind fun y3 => if y3 = true then (some (p0.2.2.toList == (⟨#[]⟩ : ByteArray).toList)) else (some false) : Option (Bool)).bind fun o4 => some o4) else ((if (p0.1 == 5) = true then (some (p0.1 == 5)) else (if (p0.1 == 6) = true then (some (p0.1 == 6)) else (some (p0.1 == 7))) : Option (Bool)).bind fun o5 => if o5 = true then (((testgateref04_Name N p0.2.1).bind fun y4 => if y4 = true then (some (p0.2.2.toList == (⟨#[]⟩ : ByteArray).toList)) else (some false) : Option (Bool)).bind fun o6 => some o6) else (some false)))
set_option maxHeartbeats 4000000 in
set_option maxRecDepth 100000 in
theorem testgateref11_Check_ok {N : Nat} {m : Mem} {own : List Piece} {w : World} {p0 : Int × ByteArray × ByteArray} {r : Bool} (st : St m (own) w) (hr : testgateref11_Check N p0 = some r) : Calls Tryd.prog 42 #[.agg #[.int .i64 p0.1, .string p0.2.1, .string p0.2.2]] w fun e w' => ∃ (m' : Mem), e = .returned (.bool r) ∧ m.le m' ∧ St m' (own) w' := by
 unfold testgateref11_Check at hr
 have hm := m.le_refl
 refine W_calls Tryd.func42 rfl Tryd.ntmps42 [(0, .agg #[.int .i64 p0.1, .string p0.2.1, .string p0.2.2])] kr rfl ?_
 refine W_sr (WO_one rfl (One_box (d := 1) (e := 29) (x := (.tmp 0)) (.agg #[.int .i64 p0.1, .string p0.2.1, .string p0.2.2]) kr rfl kr st ?_))
 clear st
 intro b1 m1 w1 hle1 st hb1
 have hm := Mem.le_trans hm hle1
 refine WO_seg 1 [] kr kr ?_
 refine WO_et rfl (W_seq ?_)
 refine W_sr (WO_seg 1 [(3, .pointer (some ⟨b1, 0, none⟩))] kr kr ?_)
 refine WO_one rfl (One_load_row (d := 4) (t := 3) (x := (.tmp 3)) (.int .i64 p0.1) kr rfl (ev (.pointer (some ⟨b1, 0, none⟩))) st hb1 kr ?_)
 refine WO_et rfl (W_block ?_)
 refine W_seq ?_
 refine W_sr (WO_seg 2 [(5, .bool (p0.1 == 1))] kr kr ?_)
 refine WO_et rfl ?_
 replace ⟨o1, hr, hrKu1⟩ := bindS hr
 refine W_cut .normal (fun L' w' => ∃ (m2 : Mem), L' = [(1, .pointer (some ⟨b1, 0, none⟩)), (4, .int .i64 p0.1), (5, .bool o1)] ∧ m.le m2 ∧ St m2 (own) w' ∧ MRow m2 b1 0 [.int .i64 p0.1, .string p0.2.1, .string p0.2.2]) ?_ ?_
 ·clear hr st
  have hr := hrKu1
  clear hrKu1
  rintro _ w2 ⟨m2, rfl, hm, st, hb1⟩
  refine X_then ?_
  refine W_cond o1 kr ?_ ?_
  ·intro hc
   rw [if_pos hc] at hr
   refine W_sr ?_
   replace ⟨o2, hr, hrK⟩ := bindS hr
   refine WO_cut (j := 9) (fun L' w' => ∃ (m3 : Mem), L' = [(2, .bool o2)] ∧ m.le m3 ∧ St m3 (own) w') ?_ ?_
   ·clear hr st
    have hr := hrK
    clear hrK
    rintro _ w3 ⟨m3, rfl, hm, st⟩
    refine WO_et rfl (W_ret ?_)
    refine X_block_ret ?_
    refine X_then_ret ?_
    obtain rfl := Option.some.inj hr
    refine X_ret [.tmp 2] [.bool o2] rfl (ResAll.cons (ResAt.tmp kr) ResAll.nil) ?_
    exact ⟨m3, rfl, hm, st⟩
   ·intro K
    clear hrK
    refine WO_seg 1 [(8, .pointer (some ⟨b1, 1, none⟩))] kr kr ?_
    refine WO_one rfl (One_load_row (d := 9) (t := 9) (x := (.tmp 8)) (.string p0.2.1) kr rfl (ev (.pointer (some ⟨b1, 1, none⟩))) st (hb1.drop 1) kr ?_)
    replace ⟨y1, hx1, hr⟩ := bindS hr
    refine WO_one rfl (One_fn 10 70 #[.string p0.2.1] kr rfl ?_)
    refine (testgateref04_Name_ok st hx1).mono ?_
    clear st
    rintro _ w4 ⟨m4, rfl, hle2, st⟩
    refine ⟨_, rfl, ?_⟩
    have hm := Mem.le_trans hm hle2
    have hb1 := hb1.mono hle2
    refine WO_seg 1 [(11, .bool y1)] kr kr ?_
    rcases bcases y1 with hc | hc
    ·rw [if_pos hc] at hr
     refine WO_fact (t := 11) (b := true) y1 kr hc ?_
     refine WO_seg 1 [(12, .pointer (some ⟨b1, 2, none⟩))] kr kr ?_
     refine WO_one rfl (One_load_row (d := 13) (t := 9) (x := (.tmp 12)) (.string p0.2.2) kr rfl (ev (.pointer (some ⟨b1, 2, none⟩))) st (hb1.drop 2) kr ?_)
     replace ⟨y2, hx2, hr⟩ := bindS hr
     refine WO_one rfl (One_fn 14 70 #[.string p0.2.2] kr rfl ?_)
     refine (testgateref04_Name_ok st hx2).mono ?_
     clear st
     rintro _ w5 ⟨m5, rfl, hle3, st⟩
     refine ⟨_, rfl, ?_⟩
     have hm := Mem.le_trans hm hle3
     have hb1 := hb1.mono hle3
     refine WO_seg 2 [(2, .bool y2)] kr kr ?_
     obtain rfl := Option.some.inj hr
     exact WO_env _ kr (K _ _ ⟨m5, rfl, hm, st⟩)
    ·rw [if_neg (not_true hc)] at hr
     refine WO_fact (t := 11) (b := false) y1 kr hc ?_
     refine WO_seg 5 [(2, .bool false)] kr kr ?_
     obtain rfl := Option.some.inj hr
     exact WO_env _ kr (K _ _ ⟨m4, rfl, hm, st⟩)
  ·intro hc
   rw [if_neg (not_true hc)] at hr
   refine W_seq ?_
   refine W_sr (WO_seg 2 [(16, .bool (p0.1 == 3))] kr kr ?_)
   refine WO_et rfl ?_
   replace ⟨o3, hr, hrKu3⟩ := bindS hr
   refine W_cut .normal (fun L' w' => ∃ (m6 : Mem), L' = [(1, .pointer (some ⟨b1, 0, none⟩)), (4, .int .i64 p0.1), (16, .bool o3)] ∧ m.le m6 ∧ St m6 (own) w' ∧ MRow m6 b1 0 [.int .i64 p0.1, .string p0.2.1, .string p0.2.2]) ?_ ?_
   ·clear hr st
    have hr := hrKu3
    clear hrKu3
    rintro _ w6 ⟨m6, rfl, hm, st, hb1⟩
    refine X_then ?_
    refine W_cond o3 kr ?_ ?_
    ·intro hc
     rw [if_pos hc] at hr
     refine W_sr ?_
     replace ⟨o4, hr, hrK⟩ := bindS hr
     refine WO_cut (j := 9) (fun L' w' => ∃ (m7 : Mem), L' = [(2, .bool o4)] ∧ m.le m7 ∧ St m7 (own) w') ?_ ?_
     ·clear hr st
      have hr := hrK
      clear hrK
      rintro _ w7 ⟨m7, rfl, hm, st⟩
      refine WO_et rfl (W_ret ?_)
      refine X_block_ret ?_
      refine X_then_ret ?_
      obtain rfl := Option.some.inj hr
      refine X_ret [.tmp 2] [.bool o4] rfl (ResAll.cons (ResAt.tmp kr) ResAll.nil) ?_
      exact ⟨m7, rfl, hm, st⟩
     ·intro K
      clear hrK
      refine WO_seg 1 [(19, .pointer (some ⟨b1, 1, none⟩))] kr kr ?_
      refine WO_one rfl (One_load_row (d := 20) (t := 9) (x := (.tmp 19)) (.string p0.2.1) kr rfl (ev (.pointer (some ⟨b1, 1, none⟩))) st (hb1.drop 1) kr ?_)
      replace ⟨y3, hx3, hr⟩ := bindS hr
      refine WO_one rfl (One_fn 21 48 #[.string p0.2.1] kr rfl ?_)
      refine (testgateref04_Path_ok st hx3).mono ?_
      clear st
      rintro _ w8 ⟨m8, rfl, hle4, st⟩
      refine ⟨_, rfl, ?_⟩
      have hm := Mem.le_trans hm hle4
      have hb1 := hb1.mono hle4
      refine WO_seg 1 [(22, .bool y3)] kr kr ?_
      rcases bcases y3 with hc | hc
      ·rw [if_pos hc] at hr
       refine WO_fact (t := 22) (b := true) y3 kr hc ?_
       refine WO_seg 1 [(23, .pointer (some ⟨b1, 2, none⟩))] kr kr ?_
       refine WO_one rfl (One_load_row (d := 24) (t := 9) (x := (.tmp 23)) (.string p0.2.2) kr rfl (ev (.pointer (some ⟨b1, 2, none⟩))) st (hb1.drop 2) kr ?_)
       refine WO_seg 3 [(2, .bool (p0.2.2.toList == (⟨#[]⟩ : ByteArray).toList))] kr kr ?_
       obtain rfl := Option.some.inj hr
       exact WO_env _ kr (K _ _ ⟨m8, rfl, hm, st⟩)
      ·rw [if_neg (not_true hc)] at hr
       refine WO_fact (t := 22) (b := false) y3 kr hc ?_
       refine WO_seg 5 [(2, .bool false)] kr kr ?_
       obtain rfl := Option.some.inj hr
       exact WO_env _ kr (K _ _ ⟨m8, rfl, hm, st⟩)
    ·intro hc
     rw [if_neg (not_true hc)] at hr
     refine W_seq ?_
     refine W_sr (WO_seg 2 [(27, .bool (p0.1 == 5))] kr kr ?_)
     refine WO_et rfl ?_
     replace ⟨o5, hr, hrKu5⟩ := bindS hr
     refine W_cut .normal (fun L' w' => ∃ (m9 : Mem), L' = [(1, .pointer (some ⟨b1, 0, none⟩)), (27, .bool o5)] ∧ m.le m9 ∧ St m9 (own) w' ∧ MRow m9 b1 0 [.int .i64 p0.1, .string p0.2.1, .string p0.2.2]) ?_ ?_
     ·clear hr st
      have hr := hrKu5
      clear hrKu5
      rintro _ w9 ⟨m9, rfl, hm, st, hb1⟩
      refine X_then ?_
      refine W_cond o5 kr ?_ ?_
      ·intro hc
       rw [if_pos hc] at hr
       refine W_sr ?_
       replace ⟨o6, hr, hrK⟩ := bindS hr
       refine WO_cut (j := 9) (fun L' w' => ∃ (m10 : Mem), L' = [(2, .bool o6)] ∧ m.le m10 ∧ St m10 (own) w') ?_ ?_
       ·clear hr st
        have hr := hrK
        clear hrK
        rintro _ w10 ⟨m10, rfl, hm, st⟩
        refine WO_et rfl (W_ret ?_)
        refine X_block_ret ?_
        refine X_then_ret ?_
        obtain rfl := Option.some.inj hr
        refine X_ret [.tmp 2] [.bool o6] rfl (ResAll.cons (ResAt.tmp kr) ResAll.nil) ?_
        exact ⟨m10, rfl, hm, st⟩
       ·intro K
        clear hrK
        refine WO_seg 1 [(31, .pointer (some ⟨b1, 1, none⟩))] kr kr ?_
        refine WO_one rfl (One_load_row (d := 32) (t := 9) (x := (.tmp 31)) (.string p0.2.1) kr rfl (ev (.pointer (some ⟨b1, 1, none⟩))) st (hb1.drop 1) kr ?_)
        replace ⟨y4, hx4, hr⟩ := bindS hr
        refine WO_one rfl (One_fn 33 70 #[.string p0.2.1] kr rfl ?_)
        refine (testgateref04_Name_ok st hx4).mono ?_
        clear st
        rintro _ w11 ⟨m11, rfl, hle5, st⟩
        refine ⟨_, rfl, ?_⟩
        have hm := Mem.le_trans hm hle5
        have hb1 := hb1.mono hle5
        refine WO_seg 1 [(34, .bool y4)] kr kr ?_
        rcases bcases y4 with hc | hc
        ·rw [if_pos hc] at hr
         refine WO_fact (t := 34) (b := true) y4 kr hc ?_
         refine WO_seg 1 [(35, .pointer (some ⟨b1, 2, none⟩))] kr kr ?_
         refine WO_one rfl (One_load_row (d := 36) (t := 9) (x := (.tmp 35)) (.string p0.2.2) kr rfl (ev (.pointer (some ⟨b1, 2, none⟩))) st (hb1.drop 2) kr ?_)
         refine WO_seg 3 [(2, .bool (p0.2.2.toList == (⟨#[]⟩ : ByteArray).toList))] kr kr ?_
         obtain rfl := Option.some.inj hr
         exact WO_env _ kr (K _ _ ⟨m11, rfl, hm, st⟩)
        ·rw [if_neg (not_true hc)] at hr
         refine WO_fact (t := 34) (b := false) y4 kr hc ?_
         refine WO_seg 5 [(2, .bool false)] kr kr ?_
         obtain rfl := Option.some.inj hr
         exact WO_env _ kr (K _ _ ⟨m11, rfl, hm, st⟩)
      ·intro hc
       rw [if_neg (not_true hc)] at hr
       refine W_skip ?_
       refine X_block ?_
       refine X_then ?_
       refine W_sr (WO_seg 1 [(2, .bool false)] kr kr ?_)
       refine WO_et rfl (W_ret ?_)
       obtain rfl := Option.some.inj hr
       refine X_ret [.tmp 2] [.bool false] rfl (ResAll.cons (ResAt.tmp kr) ResAll.nil) ?_
       exact ⟨m9, rfl, hm, st⟩
     ·intro Ku5
      clear hrKu5
      refine W_cond (p0.1 == 5) kr ?_ ?_
      ·intro hc
       rw [if_pos hc] at hr
       refine W_skip ?_
       obtain rfl := Option.some.inj hr
       exact X_env _ kr (Ku5 _ _ ⟨m6, rfl, hm, st, hb1⟩)
      ·intro hc
       rw [if_neg (not_true hc)] at hr
       refine W_sr (WO_seg 2 [(27, .bool (p0.1 == 6))] kr kr ?_)
       refine WO_et rfl (W_cond (p0.1 == 6) kr ?_ ?_)
       ·intro hc
        rw [if_pos hc] at hr
        refine W_skip ?_
        obtain rfl := Option.some.inj hr
        exact X_env _ kr (Ku5 _ _ ⟨m6, rfl, hm, st, hb1⟩)
       ·intro hc
        rw [if_neg (not_true hc)] at hr
        refine W_region ?_
        refine WO_seg 2 [(27, .bool (p0.1 == 7))] kr kr ?_
        refine WO_end rfl ?_
        obtain rfl := Option.some.inj hr
        exact X_env _ kr (Ku5 _ _ ⟨m6, rfl, hm, st, hb1⟩)
   ·intro Ku3
    clear hrKu3
    refine W_cond (p0.1 == 3) kr ?_ ?_
    ·intro hc
     rw [if_pos hc] at hr
     refine W_skip ?_
     obtain rfl := Option.some.inj hr
     exact X_env _ kr (Ku3 _ _ ⟨m2, rfl, hm, st, hb1⟩)
    ·intro hc
     rw [if_neg (not_true hc)] at hr
     refine W_region ?_
     refine WO_seg 2 [(16, .bool (p0.1 == 4))] kr kr ?_
     refine WO_end rfl ?_
     obtain rfl := Option.some.inj hr
     exact X_env _ kr (Ku3 _ _ ⟨m2, rfl, hm, st, hb1⟩)
 ·intro Ku1
  clear hrKu1
  refine W_cond (p0.1 == 1) kr ?_ ?_
  ·intro hc
   rw [if_pos hc] at hr
   refine W_skip ?_
   obtain rfl := Option.some.inj hr
   exact X_env _ kr (Ku1 _ _ ⟨m1, rfl, hm, st, hb1⟩)
  ·intro hc
   rw [if_neg (not_true hc)] at hr
   refine W_region ?_
   refine WO_seg 2 [(5, .bool (p0.1 == 2))] kr kr ?_
   refine WO_end rfl ?_
   obtain rfl := Option.some.inj hr
   exact X_env _ kr (Ku1 _ _ ⟨m1, rfl, hm, st, hb1⟩)
def testgateref12_Key (N : Nat) (p0 : Int × ByteArray × ByteArray) (p1 : Int) : Option ((Int × ByteArray × ByteArray) × Int) :=
 (if (decide (p1 < 1)) = true then (some true) else (some (decide (p1 > 3))) : Option (Bool)).bind fun o1 => if o1 = true then (some ((0, (⟨#[]⟩ : ByteArray), (⟨#[]⟩ : ByteArray)), 3)) else ((testgateref11_Check N (p0.1, p0.2.1, p0.2.2)).bind fun y1 => if (!y1) = true then (some ((0, (⟨#[]⟩ : ByteArray), (⟨#[]⟩ : ByteArray)), 1)) else ((if (p0.1 == 1) = true then (some true) else (some (p0.1 == 2)) : Option (Bool)).bind fun o2 => (if (p1 == 2) = true then (some o2) else (some false) : Option (Bool)).bind fun o3 => if o3 = true then (some ((6, p0.2.1, (⟨#[]⟩ : ByteArray)), 0)) else ((if (p1 == 3) = true then (if o2 = true then (some true) else (some (p0.1 == 6))) else (some false) : Option (Bool)).bind fun o4 => if o4 = true then (some ((7, p0.2.1, (⟨#[]⟩ : ByteArray)), 0)) else (some ((p0.1, p0.2.1, p0.2.2), 0)))))
set_option maxHeartbeats 4000000 in
set_option maxRecDepth 100000 in
theorem testgateref12_Key_ok {N : Nat} {m : Mem} {own : List Piece} {w : World} {p0 : Int × ByteArray × ByteArray} {p1 : Int} {r : (Int × ByteArray × ByteArray) × Int} (st : St m (own) w) (hr : testgateref12_Key N p0 p1 = some r) : Calls Tryd.prog 16 #[.agg #[.int .i64 p0.1, .string p0.2.1, .string p0.2.2], .int .i64 p1] w fun e w' => ∃ (m' : Mem), e = .returned (.tuple #[.agg #[.int .i64 r.1.1, .string r.1.2.1, .string r.1.2.2], .int .i64 r.2]) ∧ m.le m' ∧ St m' (own) w' := by
 unfold testgateref12_Key at hr
 have hm := m.le_refl
 refine W_calls Tryd.func16 rfl Tryd.ntmps16 [(0, .agg #[.int .i64 p0.1, .string p0.2.1, .string p0.2.2]), (1, .int .i64 p1)] kr rfl ?_
 refine W_sr (WO_one rfl (One_box (d := 2) (e := 29) (x := (.tmp 0)) (.agg #[.int .i64 p0.1, .string p0.2.1, .string p0.2.2]) kr rfl kr st ?_))
 clear st
 intro b1 m1 w1 hle1 st hb1
 have hm := Mem.le_trans hm hle1
 refine WO_one rfl (One_alloc (d := 4) (e := 29) (.agg #[.int .i64 0, .string (⟨#[]⟩ : ByteArray), .string (⟨#[]⟩ : ByteArray)]) kr rfl kr st ?_)
 clear st
 intro b2 w2 st
 refine WO_seg 1 [] kr kr ?_
 refine WO_et rfl (W_seq ?_)
 refine W_sr ?_
 replace ⟨o1, hr, hrK⟩ := bindS hr
 refine WO_cut (j := 6) (fun L' w' => ∃ (m2 : Mem), L' = [(1, .int .i64 p1), (2, .pointer (some ⟨b1, 0, none⟩)), (4, .pointer (some ⟨b2, 0, none⟩)), (12, .bool o1)] ∧ m.le m2 ∧ St m2 (.blk b2 (.cells #[.int .i64 0, .string (⟨#[]⟩ : ByteArray), .string (⟨#[]⟩ : ByteArray)] 29 (0, 0)) :: own) w' ∧ MRow m2 b1 0 [.int .i64 p0.1, .string p0.2.1, .string p0.2.2]) ?_ ?_
 ·clear hr st
  have hr := hrK
  clear hrK
  rintro _ w3 ⟨m2, rfl, hm, st, hb1⟩
  refine WO_et rfl (W_cond o1 kr ?_ ?_)
  ·intro hc
   rw [if_pos hc] at hr
   refine W_sr (WO_seg 1 [(13, .agg #[.int .i64 0, .string (⟨#[]⟩ : ByteArray), .string (⟨#[]⟩ : ByteArray)])] kr kr ?_)
   refine WO_one rfl (One_store (t := 29) (x := (.tmp 4)) (y := (.tmp 13)) (v := .agg #[.int .i64 0, .string (⟨#[]⟩ : ByteArray), .string (⟨#[]⟩ : ByteArray)]) (c' := #[.int .i64 0, .string (⟨#[]⟩ : ByteArray), .string (⟨#[]⟩ : ByteArray)]) kr (ev (.pointer (some ⟨b2, 0, none⟩))) (ev (.agg #[.int .i64 0, .string (⟨#[]⟩ : ByteArray), .string (⟨#[]⟩ : ByteArray)])) st kr kr ?_)
   clear st
   intro w4 st
   refine WO_seg 1 [(5, .int .i64 3)] kr kr ?_
   refine WO_et rfl (W_ret ?_)
   refine X_then_ret ?_
   obtain rfl := Option.some.inj hr
   refine X_ret [.cell 4 29, .tmp 5] [.agg #[.int .i64 0, .string (⟨#[]⟩ : ByteArray), .string (⟨#[]⟩ : ByteArray)], .int .i64 3] rfl (ResAll.cons (ResAt.blk (v := .agg #[.int .i64 0, .string (⟨#[]⟩ : ByteArray), .string (⟨#[]⟩ : ByteArray)]) (o := 0) kr st.head kr) (ResAll.cons (ResAt.tmp kr) ResAll.nil)) ?_
   have st := st.tail
   exact ⟨m2, rfl, hm, st⟩
  ·intro hc
   rw [if_neg (not_true hc)] at hr
   refine W_skip ?_
   refine X_then ?_
   refine W_seq ?_
   refine W_sr (WO_one rfl (One_load_row (d := 14) (t := 29) (x := (.tmp 2)) (.agg #[.int .i64 p0.1, .string p0.2.1, .string p0.2.2]) kr rfl (ev (.pointer (some ⟨b1, 0, none⟩))) st hb1 kr ?_))
   replace ⟨y1, hx1, hr⟩ := bindS hr
   refine WO_one rfl (One_fn 15 42 #[.agg #[.int .i64 p0.1, .string p0.2.1, .string p0.2.2]] kr rfl ?_)
   refine (testgateref11_Check_ok st hx1).mono ?_
   clear st
   rintro _ w5 ⟨m3, rfl, hle2, st⟩
   refine ⟨_, rfl, ?_⟩
   have hm := Mem.le_trans hm hle2
   have hb1 := hb1.mono hle2
   refine WO_seg 1 [(16, .bool (!y1))] kr kr ?_
   refine WO_et rfl (W_cond (!y1) kr ?_ ?_)
   ·intro hc
    rw [if_pos hc] at hr
    refine W_sr (WO_seg 1 [(17, .agg #[.int .i64 0, .string (⟨#[]⟩ : ByteArray), .string (⟨#[]⟩ : ByteArray)])] kr kr ?_)
    refine WO_one rfl (One_store (t := 29) (x := (.tmp 4)) (y := (.tmp 17)) (v := .agg #[.int .i64 0, .string (⟨#[]⟩ : ByteArray), .string (⟨#[]⟩ : ByteArray)]) (c' := #[.int .i64 0, .string (⟨#[]⟩ : ByteArray), .string (⟨#[]⟩ : ByteArray)]) kr (ev (.pointer (some ⟨b2, 0, none⟩))) (ev (.agg #[.int .i64 0, .string (⟨#[]⟩ : ByteArray), .string (⟨#[]⟩ : ByteArray)])) st kr kr ?_)
    clear st
    intro w6 st
    refine WO_seg 1 [(5, .int .i64 1)] kr kr ?_
    refine WO_et rfl (W_ret ?_)
    refine X_then_ret ?_
    obtain rfl := Option.some.inj hr
    refine X_ret [.cell 4 29, .tmp 5] [.agg #[.int .i64 0, .string (⟨#[]⟩ : ByteArray), .string (⟨#[]⟩ : ByteArray)], .int .i64 1] rfl (ResAll.cons (ResAt.blk (v := .agg #[.int .i64 0, .string (⟨#[]⟩ : ByteArray), .string (⟨#[]⟩ : ByteArray)]) (o := 0) kr st.head kr) (ResAll.cons (ResAt.tmp kr) ResAll.nil)) ?_
    have st := st.tail
    exact ⟨m3, rfl, hm, st⟩
   ·intro hc
    rw [if_neg (not_true hc)] at hr
    refine W_skip ?_
    refine X_then ?_
    refine W_sr ?_
    replace ⟨o2, hr, hrK⟩ := bindS hr
    refine WO_cut (j := 9) (fun L' w' => ∃ (m4 : Mem), L' = [(1, .int .i64 p1), (2, .pointer (some ⟨b1, 0, none⟩)), (4, .pointer (some ⟨b2, 0, none⟩)), (6, .bool o2)] ∧ m.le m4 ∧ St m4 (.blk b2 (.cells #[.int .i64 0, .string (⟨#[]⟩ : ByteArray), .string (⟨#[]⟩ : ByteArray)] 29 (0, 0)) :: own) w' ∧ MRow m4 b1 0 [.int .i64 p0.1, .string p0.2.1, .string p0.2.2]) ?_ ?_
    ·clear hr st
     have hr := hrK
     clear hrK
     rintro _ w7 ⟨m4, rfl, hm, st, hb1⟩
     refine WO_et rfl (W_seq ?_)
     refine W_block ?_
     refine W_sr ?_
     replace ⟨o3, hr, hrK⟩ := bindS hr
     refine WO_cut (j := 6) (fun L' w' => ∃ (m5 : Mem), L' = [(1, .int .i64 p1), (2, .pointer (some ⟨b1, 0, none⟩)), (4, .pointer (some ⟨b2, 0, none⟩)), (6, .bool o2), (26, .bool o3)] ∧ m.le m5 ∧ St m5 (.blk b2 (.cells #[.int .i64 0, .string (⟨#[]⟩ : ByteArray), .string (⟨#[]⟩ : ByteArray)] 29 (0, 0)) :: own) w' ∧ MRow m5 b1 0 [.int .i64 p0.1, .string p0.2.1, .string p0.2.2]) ?_ ?_
     ·clear hr st
      have hr := hrK
      clear hrK
      rintro _ w8 ⟨m5, rfl, hm, st, hb1⟩
      refine WO_et rfl (W_cond o3 kr ?_ ?_)
      ·intro hc
       rw [if_pos hc] at hr
       refine W_sr (WO_seg 1 [(32, .pointer (some ⟨b1, 1, none⟩))] kr kr ?_)
       refine WO_one rfl (One_load_row (d := 33) (t := 9) (x := (.tmp 32)) (.string p0.2.1) kr rfl (ev (.pointer (some ⟨b1, 1, none⟩))) st (hb1.drop 1) kr ?_)
       refine WO_seg 1 [(34, .agg #[.int .i64 6, .string p0.2.1, .string (⟨#[]⟩ : ByteArray)])] kr kr ?_
       refine WO_one rfl (One_store (t := 29) (x := (.tmp 4)) (y := (.tmp 34)) (v := .agg #[.int .i64 6, .string p0.2.1, .string (⟨#[]⟩ : ByteArray)]) (c' := #[.int .i64 6, .string p0.2.1, .string (⟨#[]⟩ : ByteArray)]) kr (ev (.pointer (some ⟨b2, 0, none⟩))) (ev (.agg #[.int .i64 6, .string p0.2.1, .string (⟨#[]⟩ : ByteArray)])) st kr kr ?_)
       clear st
       intro w9 st
       refine WO_seg 1 [(5, .int .i64 0)] kr kr ?_
       refine WO_et rfl (W_ret ?_)
       refine X_block_ret ?_
       refine X_then_ret ?_
       obtain rfl := Option.some.inj hr
       refine X_ret [.cell 4 29, .tmp 5] [.agg #[.int .i64 6, .string p0.2.1, .string (⟨#[]⟩ : ByteArray)], .int .i64 0] rfl (ResAll.cons (ResAt.blk (v := .agg #[.int .i64 6, .string p0.2.1, .string (⟨#[]⟩ : ByteArray)]) (o := 0) kr st.head kr) (ResAll.cons (ResAt.tmp kr) ResAll.nil)) ?_
       have st := st.tail
       exact ⟨m5, rfl, hm, st⟩
      ·intro hc
       rw [if_neg (not_true hc)] at hr
       refine W_sr ?_
       replace ⟨o4, hr, hrK⟩ := bindS hr
       refine WO_cut (j := 11) (fun L' w' => ∃ (m6 : Mem), L' = [(2, .pointer (some ⟨b1, 0, none⟩)), (4, .pointer (some ⟨b2, 0, none⟩)), (35, .bool o4)] ∧ m.le m6 ∧ St m6 (.blk b2 (.cells #[.int .i64 0, .string (⟨#[]⟩ : ByteArray), .string (⟨#[]⟩ : ByteArray)] 29 (0, 0)) :: own) w' ∧ MRow m6 b1 0 [.int .i64 p0.1, .string p0.2.1, .string p0.2.2]) ?_ ?_
       ·clear hr st
        have hr := hrK
        clear hrK
        rintro _ w10 ⟨m6, rfl, hm, st, hb1⟩
        refine WO_et rfl (W_cond o4 kr ?_ ?_)
        ·intro hc
         rw [if_pos hc] at hr
         refine W_sr (WO_seg 1 [(46, .pointer (some ⟨b1, 1, none⟩))] kr kr ?_)
         refine WO_one rfl (One_load_row (d := 47) (t := 9) (x := (.tmp 46)) (.string p0.2.1) kr rfl (ev (.pointer (some ⟨b1, 1, none⟩))) st (hb1.drop 1) kr ?_)
         refine WO_seg 1 [(48, .agg #[.int .i64 7, .string p0.2.1, .string (⟨#[]⟩ : ByteArray)])] kr kr ?_
         refine WO_one rfl (One_store (t := 29) (x := (.tmp 4)) (y := (.tmp 48)) (v := .agg #[.int .i64 7, .string p0.2.1, .string (⟨#[]⟩ : ByteArray)]) (c' := #[.int .i64 7, .string p0.2.1, .string (⟨#[]⟩ : ByteArray)]) kr (ev (.pointer (some ⟨b2, 0, none⟩))) (ev (.agg #[.int .i64 7, .string p0.2.1, .string (⟨#[]⟩ : ByteArray)])) st kr kr ?_)
         clear st
         intro w11 st
         refine WO_seg 1 [(5, .int .i64 0)] kr kr ?_
         refine WO_et rfl (W_ret ?_)
         refine X_block_ret ?_
         refine X_then_ret ?_
         obtain rfl := Option.some.inj hr
         refine X_ret [.cell 4 29, .tmp 5] [.agg #[.int .i64 7, .string p0.2.1, .string (⟨#[]⟩ : ByteArray)], .int .i64 0] rfl (ResAll.cons (ResAt.blk (v := .agg #[.int .i64 7, .string p0.2.1, .string (⟨#[]⟩ : ByteArray)]) (o := 0) kr st.head kr) (ResAll.cons (ResAt.tmp kr) ResAll.nil)) ?_
         have st := st.tail
         exact ⟨m6, rfl, hm, st⟩
        ·intro hc
         rw [if_neg (not_true hc)] at hr
         refine W_skip ?_
         refine X_block ?_
         refine X_then ?_
         refine W_sr (WO_one rfl (One_load_row (d := 49) (t := 29) (x := (.tmp 2)) (.agg #[.int .i64 p0.1, .string p0.2.1, .string p0.2.2]) kr rfl (ev (.pointer (some ⟨b1, 0, none⟩))) st hb1 kr ?_))
         refine WO_one rfl (One_store (t := 29) (x := (.tmp 4)) (y := (.tmp 49)) (v := .agg #[.int .i64 p0.1, .string p0.2.1, .string p0.2.2]) (c' := #[.int .i64 p0.1, .string p0.2.1, .string p0.2.2]) kr (ev (.pointer (some ⟨b2, 0, none⟩))) (ev (.agg #[.int .i64 p0.1, .string p0.2.1, .string p0.2.2])) st kr kr ?_)
         clear st
         intro w12 st
         refine WO_seg 1 [(5, .int .i64 0)] kr kr ?_
         refine WO_et rfl (W_ret ?_)
         obtain rfl := Option.some.inj hr
         refine X_ret [.cell 4 29, .tmp 5] [.agg #[.int .i64 p0.1, .string p0.2.1, .string p0.2.2], .int .i64 0] rfl (ResAll.cons (ResAt.blk (v := .agg #[.int .i64 p0.1, .string p0.2.1, .string p0.2.2]) (o := 0) kr st.head kr) (ResAll.cons (ResAt.tmp kr) ResAll.nil)) ?_
         have st := st.tail
         exact ⟨m6, rfl, hm, st⟩
       ·intro K
        clear hrK
        refine WO_seg 3 [(38, .bool (p1 == 3))] kr kr ?_
        rcases bcases (p1 == 3) with hc | hc
        ·rw [if_pos hc] at hr
         refine WO_fact (t := 38) (b := true) (p1 == 3) kr hc ?_
         refine WO_seg 2 [(40, .bool o2)] kr kr ?_
         rcases bcases o2 with hc | hc
         ·rw [if_pos hc] at hr
          refine WO_fact (t := 40) (b := true) o2 kr hc ?_
          refine WO_seg 6 [(35, .bool true)] kr kr ?_
          obtain rfl := Option.some.inj hr
          exact WO_env _ kr (K _ _ ⟨m5, rfl, hm, st, hb1⟩)
         ·rw [if_neg (not_true hc)] at hr
          refine WO_fact (t := 40) (b := false) o2 kr hc ?_
          refine WO_seg 1 [(41, .pointer (some ⟨b1, 0, none⟩))] kr kr ?_
          refine WO_one rfl (One_load_row (d := 42) (t := 3) (x := (.tmp 41)) (.int .i64 p0.1) kr rfl (ev (.pointer (some ⟨b1, 0, none⟩))) st hb1 kr ?_)
          refine WO_seg 4 [(35, .bool (p0.1 == 6))] kr kr ?_
          obtain rfl := Option.some.inj hr
          exact WO_env _ kr (K _ _ ⟨m5, rfl, hm, st, hb1⟩)
        ·rw [if_neg (not_true hc)] at hr
         refine WO_fact (t := 38) (b := false) (p1 == 3) kr hc ?_
         refine WO_seg 8 [(35, .bool false)] kr kr ?_
         obtain rfl := Option.some.inj hr
         exact WO_env _ kr (K _ _ ⟨m5, rfl, hm, st, hb1⟩)
     ·intro K
      clear hrK
      refine WO_seg 3 [(29, .bool (p1 == 2))] kr kr ?_
      rcases bcases (p1 == 2) with hc | hc
      ·rw [if_pos hc] at hr
       refine WO_fact (t := 29) (b := true) (p1 == 2) kr hc ?_
       refine WO_seg 3 [(26, .bool o2)] kr kr ?_
       obtain rfl := Option.some.inj hr
       exact WO_env _ kr (K _ _ ⟨m4, rfl, hm, st, hb1⟩)
      ·rw [if_neg (not_true hc)] at hr
       refine WO_fact (t := 29) (b := false) (p1 == 2) kr hc ?_
       refine WO_seg 3 [(26, .bool false)] kr kr ?_
       obtain rfl := Option.some.inj hr
       exact WO_env _ kr (K _ _ ⟨m4, rfl, hm, st, hb1⟩)
    ·intro K
     clear hrK
     refine WO_seg 1 [(18, .pointer (some ⟨b1, 0, none⟩))] kr kr ?_
     refine WO_one rfl (One_load_row (d := 19) (t := 3) (x := (.tmp 18)) (.int .i64 p0.1) kr rfl (ev (.pointer (some ⟨b1, 0, none⟩))) st hb1 kr ?_)
     refine WO_seg 2 [(21, .bool (p0.1 == 1))] kr kr ?_
     rcases bcases (p0.1 == 1) with hc | hc
     ·rw [if_pos hc] at hr
      refine WO_fact (t := 21) (b := true) (p0.1 == 1) kr hc ?_
      refine WO_seg 5 [(6, .bool true)] kr kr ?_
      obtain rfl := Option.some.inj hr
      exact WO_env _ kr (K _ _ ⟨m3, rfl, hm, st, hb1⟩)
     ·rw [if_neg (not_true hc)] at hr
      refine WO_fact (t := 21) (b := false) (p0.1 == 1) kr hc ?_
      refine WO_seg 1 [(22, .pointer (some ⟨b1, 0, none⟩))] kr kr ?_
      refine WO_one rfl (One_load_row (d := 23) (t := 3) (x := (.tmp 22)) (.int .i64 p0.1) kr rfl (ev (.pointer (some ⟨b1, 0, none⟩))) st hb1 kr ?_)
      refine WO_seg 3 [(6, .bool (p0.1 == 2))] kr kr ?_
      obtain rfl := Option.some.inj hr
      exact WO_env _ kr (K _ _ ⟨m3, rfl, hm, st, hb1⟩)
 ·intro K
  clear hrK
  refine WO_seg 3 [(9, .bool (decide (p1 < 1)))] kr kr ?_
  rcases bcases (decide (p1 < 1)) with hc | hc
  ·rw [if_pos hc] at hr
   refine WO_fact (t := 9) (b := true) (decide (p1 < 1)) kr hc ?_
   refine WO_seg 3 [(12, .bool true)] kr kr ?_
   obtain rfl := Option.some.inj hr
   exact WO_env _ kr (K _ _ ⟨m1, rfl, hm, st, hb1⟩)
  ·rw [if_neg (not_true hc)] at hr
   refine WO_fact (t := 9) (b := false) (decide (p1 < 1)) kr hc ?_
   refine WO_seg 3 [(12, .bool (decide (p1 > 3)))] kr kr ?_
   obtain rfl := Option.some.inj hr
   exact WO_env _ kr (K _ _ ⟨m1, rfl, hm, st, hb1⟩)
def testgateref10_Less (N : Nat) (p0 : Int × ByteArray × ByteArray) (p1 : Int × ByteArray × ByteArray) : Option (Bool) :=
 if (p0.1 != p1.1) = true then (some (decide (p0.1 < p1.1))) else (if (!(p0.2.1.toList == p1.2.1.toList)) = true then (some (Op.bytesLess p0.2.1.toList p1.2.1.toList)) else (some (Op.bytesLess p0.2.2.toList p1.2.2.toList)))
set_option maxHeartbeats 4000000 in
set_option maxRecDepth 100000 in
theorem testgateref10_Less_ok {N : Nat} {m : Mem} {own : List Piece} {w : World} {p0 : Int × ByteArray × ByteArray} {p1 : Int × ByteArray × ByteArray} {r : Bool} (st : St m (own) w) (hr : testgateref10_Less N p0 p1 = some r) : Calls Tryd.prog 100 #[.agg #[.int .i64 p0.1, .string p0.2.1, .string p0.2.2], .agg #[.int .i64 p1.1, .string p1.2.1, .string p1.2.2]] w fun e w' => ∃ (m' : Mem), e = .returned (.bool r) ∧ m.le m' ∧ St m' (own) w' := by
 unfold testgateref10_Less at hr
 have hm := m.le_refl
 refine W_calls Tryd.func100 rfl Tryd.ntmps100 [(0, .agg #[.int .i64 p0.1, .string p0.2.1, .string p0.2.2]), (1, .agg #[.int .i64 p1.1, .string p1.2.1, .string p1.2.2])] kr rfl ?_
 refine W_sr (WO_one rfl (One_box (d := 2) (e := 29) (x := (.tmp 0)) (.agg #[.int .i64 p0.1, .string p0.2.1, .string p0.2.2]) kr rfl kr st ?_))
 clear st
 intro b1 m1 w1 hle1 st hb1
 have hm := Mem.le_trans hm hle1
 refine WO_one rfl (One_box (d := 3) (e := 29) (x := (.tmp 1)) (.agg #[.int .i64 p1.1, .string p1.2.1, .string p1.2.2]) kr rfl kr st ?_)
 clear st
 intro b2 m2 w2 hle2 st hb2
 have hm := Mem.le_trans hm hle2
 have hb1 := hb1.mono hle2
 refine WO_seg 1 [] kr kr ?_
 refine WO_et rfl (W_seq ?_)
 refine W_sr (WO_seg 1 [(5, .pointer (some ⟨b1, 0, none⟩))] kr kr ?_)
 refine WO_one rfl (One_load_row (d := 6) (t := 3) (x := (.tmp 5)) (.int .i64 p0.1) kr rfl (ev (.pointer (some ⟨b1, 0, none⟩))) st hb1 kr ?_)
 refine WO_seg 1 [(7, .pointer (some ⟨b2, 0, none⟩))] kr kr ?_
 refine WO_one rfl (One_load_row (d := 8) (t := 3) (x := (.tmp 7)) (.int .i64 p1.1) kr rfl (ev (.pointer (some ⟨b2, 0, none⟩))) st hb2 kr ?_)
 refine WO_seg 1 [(9, .bool (p0.1 != p1.1))] kr kr ?_
 refine WO_et rfl (W_cond (p0.1 != p1.1) kr ?_ ?_)
 ·intro hc
  rw [if_pos hc] at hr
  refine W_sr (WO_seg 1 [(10, .pointer (some ⟨b1, 0, none⟩))] kr kr ?_)
  refine WO_one rfl (One_load_row (d := 11) (t := 3) (x := (.tmp 10)) (.int .i64 p0.1) kr rfl (ev (.pointer (some ⟨b1, 0, none⟩))) st hb1 kr ?_)
  refine WO_seg 1 [(12, .pointer (some ⟨b2, 0, none⟩))] kr kr ?_
  refine WO_one rfl (One_load_row (d := 13) (t := 3) (x := (.tmp 12)) (.int .i64 p1.1) kr rfl (ev (.pointer (some ⟨b2, 0, none⟩))) st hb2 kr ?_)
  refine WO_seg 2 [(4, .bool (decide (p0.1 < p1.1)))] kr kr ?_
  refine WO_et rfl (W_ret ?_)
  refine X_then_ret ?_
  obtain rfl := Option.some.inj hr
  refine X_ret [.tmp 4] [.bool (decide (p0.1 < p1.1))] rfl (ResAll.cons (ResAt.tmp kr) ResAll.nil) ?_
  exact ⟨m2, rfl, hm, st⟩
 ·intro hc
  rw [if_neg (not_true hc)] at hr
  refine W_skip ?_
  refine X_then ?_
  refine W_seq ?_
  refine W_sr (WO_seg 1 [(15, .pointer (some ⟨b1, 1, none⟩))] kr kr ?_)
  refine WO_one rfl (One_load_row (d := 16) (t := 9) (x := (.tmp 15)) (.string p0.2.1) kr rfl (ev (.pointer (some ⟨b1, 1, none⟩))) st (hb1.drop 1) kr ?_)
  refine WO_seg 1 [(17, .pointer (some ⟨b2, 1, none⟩))] kr kr ?_
  refine WO_one rfl (One_load_row (d := 18) (t := 9) (x := (.tmp 17)) (.string p1.2.1) kr rfl (ev (.pointer (some ⟨b2, 1, none⟩))) st (hb2.drop 1) kr ?_)
  refine WO_seg 1 [(19, .bool (!(p0.2.1.toList == p1.2.1.toList)))] kr kr ?_
  refine WO_et rfl (W_cond (!(p0.2.1.toList == p1.2.1.toList)) kr ?_ ?_)
  ·intro hc
   rw [if_pos hc] at hr
   refine W_sr (WO_seg 1 [(20, .pointer (some ⟨b1, 1, none⟩))] kr kr ?_)
   refine WO_one rfl (One_load_row (d := 21) (t := 9) (x := (.tmp 20)) (.string p0.2.1) kr rfl (ev (.pointer (some ⟨b1, 1, none⟩))) st (hb1.drop 1) kr ?_)
   refine WO_seg 1 [(22, .pointer (some ⟨b2, 1, none⟩))] kr kr ?_
   refine WO_one rfl (One_load_row (d := 23) (t := 9) (x := (.tmp 22)) (.string p1.2.1) kr rfl (ev (.pointer (some ⟨b2, 1, none⟩))) st (hb2.drop 1) kr ?_)
   refine WO_seg 2 [(4, .bool (Op.bytesLess p0.2.1.toList p1.2.1.toList))] kr kr ?_
   refine WO_et rfl (W_ret ?_)
   refine X_then_ret ?_
   obtain rfl := Option.some.inj hr
   refine X_ret [.tmp 4] [.bool (Op.bytesLess p0.2.1.toList p1.2.1.toList)] rfl (ResAll.cons (ResAt.tmp kr) ResAll.nil) ?_
   exact ⟨m2, rfl, hm, st⟩
  ·intro hc
   rw [if_neg (not_true hc)] at hr
   refine W_skip ?_
   refine X_then ?_
   refine W_sr (WO_seg 1 [(25, .pointer (some ⟨b1, 2, none⟩))] kr kr ?_)
   refine WO_one rfl (One_load_row (d := 26) (t := 9) (x := (.tmp 25)) (.string p0.2.2) kr rfl (ev (.pointer (some ⟨b1, 2, none⟩))) st (hb1.drop 2) kr ?_)
   refine WO_seg 1 [(27, .pointer (some ⟨b2, 2, none⟩))] kr kr ?_
   refine WO_one rfl (One_load_row (d := 28) (t := 9) (x := (.tmp 27)) (.string p1.2.2) kr rfl (ev (.pointer (some ⟨b2, 2, none⟩))) st (hb2.drop 2) kr ?_)
   refine WO_seg 2 [(4, .bool (Op.bytesLess p0.2.2.toList p1.2.2.toList))] kr kr ?_
   refine WO_et rfl (W_ret ?_)
   obtain rfl := Option.some.inj hr
   refine X_ret [.tmp 4] [.bool (Op.bytesLess p0.2.2.toList p1.2.2.toList)] rfl (ResAll.cons (ResAt.tmp kr) ResAll.nil) ?_
   exact ⟨m2, rfl, hm, st⟩
def testgateref10_Insert_L1 (N : Nat) (p0 : List (Int × ByteArray × ByteArray)) (p1 : Int × ByteArray × ByteArray) (s1 : Int) : Option ((Int) ⊕ ((Int))) :=
 (if (decide (s1 < ((List.length p0) : Int))) = true then ((idx p0 s1).bind fun x1 => (testgateref10_Less N (x1.1, x1.2.1, x1.2.2) (p1.1, p1.2.1, p1.2.2)).bind fun y1 => some y1) else (some false) : Option (Bool)).bind fun o2 => if o2 = true then (some (.inl (IntKind.wrap .i64 (s1 + 1)))) else (some (.inr s1))
def testgateref10_Insert (N : Nat) (p0 : List (Int × ByteArray × ByteArray)) (p1 : Int × ByteArray × ByteArray) : Option (List (Int × ByteArray × ByteArray)) :=
 (loopM (testgateref10_Insert_L1 N p0 p1) N 0).bind fun o1 => (if (decide (o1 < ((List.length p0) : Int))) = true then ((idx p0 o1).bind fun x2 => some ((x2.1 == p1.1) && ((x2.2.1.toList == p1.2.1.toList) && ((x2.2.2.toList == p1.2.2.toList) && true)))) else (some false) : Option (Bool)).bind fun o3 => if o3 = true then (some p0) else ((appendS 40 p0 ([(0, (⟨#[]⟩ : ByteArray), (⟨#[]⟩ : ByteArray))])).bind fun l1 => (chkS l1 (IntKind.wrap .i64 (o1 + 1)) (List.length l1 : Int)).bind fun u2 => (chkS l1 o1 (List.length l1 : Int)).bind fun u3 => (copyM l1 (IntKind.wrap .i64 (o1 + 1)) o1).bind fun l2 => (idx l2 o1).bind fun x3 => some (List.set l2 (Int.toNat o1) (p1.1, p1.2.1, p1.2.2)))
set_option maxHeartbeats 4000000 in
set_option maxRecDepth 100000 in
theorem testgateref10_Insert_ok {N : Nat} {m : Mem} {own : List Piece} {w : World} {p0 : List (Int × ByteArray × ByteArray)} {p1 : Int × ByteArray × ByteArray} {a1 : Option Addr} {c1 : Nat} {T1 : List Value} {r : List (Int × ByteArray × ByteArray)} (st : St m (opc a1 (acellsM (fun x : Int × ByteArray × ByteArray => ([.int .i64 x.1, .string x.2.1, .string x.2.2] : List Value)) p0 T1) 29 :: own) w) (hs1 : OAS a1 (List.length p0) c1 3 T1) (hr : testgateref10_Insert N p0 p1 = some r) : Calls Tryd.prog 69 #[.slice a1 (List.length p0) c1, .agg #[.int .i64 p1.1, .string p1.2.1, .string p1.2.2]] w fun e w' => ∃ (ra1 : Option Addr) (rc1 : Nat) (rT1 : List Value) (m' : Mem), e = .returned (.slice ra1 (List.length r) rc1) ∧ m.le m' ∧ St m' (opc ra1 (acellsM (fun x : Int × ByteArray × ByteArray => ([.int .i64 x.1, .string x.2.1, .string x.2.2] : List Value)) r rT1) 29 :: own) w' ∧ OAS ra1 (List.length r) rc1 3 rT1 := by
 unfold testgateref10_Insert at hr
 have hm := m.le_refl
 refine W_calls Tryd.func69 rfl Tryd.ntmps69 [(0, .slice a1 (List.length p0) c1), (1, .agg #[.int .i64 p1.1, .string p1.2.1, .string p1.2.2])] kr rfl ?_
 refine W_sr (WO_one rfl (One_box (d := 3) (e := 29) (x := (.tmp 1)) (.agg #[.int .i64 p1.1, .string p1.2.1, .string p1.2.2]) kr rfl kr st ?_))
 clear st
 intro b1 m1 w1 hle1 st hb1
 have hm := Mem.le_trans hm hle1
 refine WO_seg 1 [] kr kr ?_
 refine WO_et rfl (W_sr ?_)
 refine WO_seg 1 [(5, .int .i64 0)] kr kr ?_
 refine WO_et rfl (W_seq ?_)
 refine W_block ?_
 replace ⟨out1, hr, hrKu1⟩ := bindS hr
 refine W_cut (.exit 0) (fun L' w' => ∃ (o1 : Int) (m2 : Mem), o1 = out1 ∧ L' = [(0, .slice a1 (List.length p0) c1), (3, .pointer (some ⟨b1, 0, none⟩)), (5, .int .i64 o1)] ∧ m.le m2 ∧ St m2 (opc a1 (acellsM (fun x : Int × ByteArray × ByteArray => ([.int .i64 x.1, .string x.2.1, .string x.2.2] : List Value)) p0 T1) 29 :: own) w' ∧ MRow m2 b1 0 [.int .i64 p1.1, .string p1.2.1, .string p1.2.2]) ?_ ?_
 ·clear hr st
  rintro _ w2 ⟨o1, m2, rfl, rfl, hm, st, hb1⟩
  have hr := hrKu1
  clear hrKu1
  refine X_block_eq ?_
  refine X_then ?_
  refine W_seq ?_
  refine W_seq ?_
  replace ⟨o3, hr, hrK⟩ := bindS hr
  refine W_cut .normal (fun L' w' => ∃ (m6 : Mem), L' = [(0, .slice a1 (List.length p0) c1), (3, .pointer (some ⟨b1, 0, none⟩)), (5, .int .i64 o1), (31, .bool o3)] ∧ m.le m6 ∧ St m6 (opc a1 (acellsM (fun x : Int × ByteArray × ByteArray => ([.int .i64 x.1, .string x.2.1, .string x.2.2] : List Value)) p0 T1) 29 :: own) w' ∧ MRow m6 b1 0 [.int .i64 p1.1, .string p1.2.1, .string p1.2.2]) ?_ ?_
  ·clear hr st
   have hr := hrK
   clear hrK
   rintro _ w7 ⟨m6, rfl, hm, st, hb1⟩
   refine X_then ?_
   refine W_cond o3 kr ?_ ?_
   ·intro hc
    rw [if_pos hc] at hr
    refine W_sr (WO_seg 2 [(4, .slice a1 (List.length p0) c1)] kr kr ?_)
    refine WO_et rfl (W_ret ?_)
    refine X_then_ret ?_
    obtain rfl := Option.some.inj hr
    refine X_ret [.tmp 4] [.slice a1 (List.length p0) c1] rfl (ResAll.cons (ResAt.tmp kr) ResAll.nil) ?_
    exact ⟨a1, c1, T1, m6, rfl, hm, st, hs1⟩
   ·intro hc
    rw [if_neg (not_true hc)] at hr
    refine W_skip ?_
    refine X_then ?_
    refine W_sr (WO_seg 2 [(33, .slice a1 (List.length p0) c1), (34, .agg #[.int .i64 0, .string (⟨#[]⟩ : ByteArray), .string (⟨#[]⟩ : ByteArray)])] kr kr ?_)
    refine WO_one rfl (One_buildSlice (d := 35) (t := 23) (e := 29) (len := 1) (parts := #[(0, (.tmp 34))]) (cPair (cInt .i64) (cPair cStr cStr)) (xs := [(0, (⟨#[]⟩ : ByteArray), (⟨#[]⟩ : ByteArray))]) [.int .i64 0, .string (⟨#[]⟩ : ByteArray), .string (⟨#[]⟩ : ByteArray)] kr rfl (fun _ => buildCells_run kr _) rfl rfl st ⟨[.int .i64 0, .string (⟨#[]⟩ : ByteArray), .string (⟨#[]⟩ : ByteArray)], _, rfl, ⟨_, _, rfl, rfl, ⟨_, _, rfl, rfl, rfl⟩⟩, rfl⟩ ?_)
    clear st
    intro b2 m7 w9 hle3 st r1
    have hm := Mem.le_trans hm hle3
    have hb1 := hb1.mono hle3
    have st := st.front1
    replace ⟨l1, hx4, hr⟩ := bindS hr
    refine WO_one rfl (One_appendM (d := 36) (t := 23) (u := 23) (e := 29) (by_ := 40) (x := (.tmp 33)) (y := (.tmp 35)) (c := (cPair (cInt .i64) (cPair cStr cStr))) (f := (fun x : Int × ByteArray × ByteArray => ([.int .i64 x.1, .string x.2.1, .string x.2.2] : List Value))) (l := p0) (fun _ _ _ h => by obtain ⟨_, _, rfl, rfl, ⟨_, _, rfl, rfl, rfl⟩⟩ := h; rfl) (fun _ => rfl) kr rfl (ev (.slice a1 (List.length p0) c1)) (ev (.slice (some ⟨b2, 0, none⟩) (List.length ([(0, (⟨#[]⟩ : ByteArray), (⟨#[]⟩ : ByteArray))])) 1)) st hs1 rfl kr (.inl kr) r1.src hx4 ?_)
    clear st
    intro a2 c2 T2 w10 hs2 st
    refine WO_seg 1 [(0, .slice a2 (List.length l1) c2)] kr kr ?_
    refine WO_end rfl ?_
    have st := st.front1
    have st := st.tail
    refine X_then ?_
    refine W_seq ?_
    refine W_draw [(8, fun w' => Inv m7 w' ∧ True)] kr st ?_
    clear st
    intro w11 _ st
    have hmS3 := m7.le_refl
    refine ⟨⟨.inr ⟨Inv.anti st.inv hmS3, trivial⟩, trivial⟩, ?_⟩
    refine WA_pure 0 37 (.slice a2 (List.length l1) c2) kr rfl kr (.head _) (QP_then QP_body) ?_
    refine WA_pure 1 38 (.int .i64 o1) kr rfl kr (.head _) (QP_then QP_body) ?_
    refine WA_pure 2 39 (.int .i64 (IntKind.wrap .i64 (o1 + 1))) kr rfl kr (.head _) (QP_then QP_body) ?_
    replace ⟨u2, hx5, hr⟩ := bindS hr
    refine WA_viewM (t := 23) (e := 29) (k := 3) (x := (.tmp 37)) (lo := (some (.tmp 39))) (hi := none) (li := IntKind.wrap .i64 (o1 + 1)) (hix := (List.length l1 : Int)) 3 40 kr rfl kr (.head _) (QP_then QP_body) (ev (.slice a2 (List.length l1) c2)) kr (.inr ⟨_, _, rfl, (ev (.int .i64 (IntKind.wrap .i64 (o1 + 1))))⟩) (.inl ⟨rfl, congrArg Nat.cast rfl⟩) hs2 rfl hx5 ?_
    have hv1 := chk_n hx5 rfl
    refine WA_pure 4 41 (.slice a2 (List.length l1) c2) kr rfl kr (.head _) (QP_then QP_body) ?_
    refine WA_pure 5 42 (.int .i64 o1) kr rfl kr (.head _) (QP_then QP_body) ?_
    replace ⟨u3, hx6, hr⟩ := bindS hr
    refine WA_viewM (t := 23) (e := 29) (k := 3) (x := (.tmp 41)) (lo := (some (.tmp 42))) (hi := none) (li := o1) (hix := (List.length l1 : Int)) 6 43 kr rfl kr (.head _) (QP_then QP_body) (ev (.slice a2 (List.length l1) c2)) kr (.inr ⟨_, _, rfl, (ev (.int .i64 o1))⟩) (.inl ⟨rfl, congrArg Nat.cast rfl⟩) hs2 rfl hx6 ?_
    have hv2 := chk_n hx6 rfl
    replace ⟨l2, hx7, hr⟩ := bindS hr
    refine WA_one 7 kr  (One_copyM (d := 44) (t := 23) (u := 23) (e := 29) (k := 3) (x := (.tmp 40)) (y := (.tmp 43)) (f := (fun x : Int × ByteArray × ByteArray => ([.int .i64 x.1, .string x.2.1, .string x.2.2] : List Value))) (l := l1) (d0 := IntKind.wrap .i64 (o1 + 1)) (s0 := o1) (fun _ => rfl) (fun _ _ hv => by simp only [List.mem_cons, List.not_mem_nil, or_false] at hv; rcases hv with rfl | rfl | rfl <;> rfl) (by decide) kr rfl (ev (.slice (slA a2 c2 (Int.toNat (IntKind.wrap .i64 (o1 + 1))) 3) (Int.toNat (List.length l1 : Int) - Int.toNat (IntKind.wrap .i64 (o1 + 1))) (c2 - Int.toNat (IntKind.wrap .i64 (o1 + 1))))) (ev (.slice (slA a2 c2 (Int.toNat o1) 3) (Int.toNat (List.length l1 : Int) - Int.toNat o1) (c2 - Int.toNat o1))) rfl rfl kr st hs2 rfl hx7 ?_)
    clear st
    intro v1 w12 st
    have hn1 := ((copyM_len hx7).trans rfl)
    refine ⟨⟨.inr ⟨Inv.anti st.inv hmS3, trivial⟩, trivial⟩, ?_⟩
    refine WA_done kr ?_
    refine X_then ?_
    refine W_sr (WO_seg 2 [(45, .slice a2 (List.length l1) c2), (46, .int .i64 o1)] kr kr ?_)
    refine WO_one rfl (One_load_row (d := 47) (t := 29) (x := (.tmp 3)) (.agg #[.int .i64 p1.1, .string p1.2.1, .string p1.2.2]) kr rfl (ev (.pointer (some ⟨b1, 0, none⟩))) st hb1 kr ?_)
    replace ⟨x3, hx8, hr⟩ := bindS hr
    refine WO_one rfl (One_arrIndexM (d := 48) (t := 23) (e := 29) (x := (.tmp 45)) (y := (.tmp 46)) (k := 3) kr rfl (ev (.slice a2 (List.length l1) c2)) (ev (.int .i64 o1)) kr hs2 hn1 hx8 ?_)
    refine WO_one rfl (One_arrStoreM (t := 29) (x := (.tmp 48)) (y := (.tmp 47)) (o := 0) (f := (fun x : Int × ByteArray × ByteArray => ([.int .i64 x.1, .string x.2.1, .string x.2.2] : List Value))) (z := x3) (u := (p1.1, p1.2.1, p1.2.2)) (v := .agg #[.int .i64 p1.1, .string p1.2.1, .string p1.2.2]) (fun _ => rfl) (Int.toNat o1 * 3) rfl kr (ev (.pointer (some ⟨ab a2, Int.toNat o1 * 3, none⟩))) (ev (.agg #[.int .i64 p1.1, .string p1.2.1, .string p1.2.2])) st hs2 hn1 hx8 kr rfl ?_)
    clear st
    intro w13 st
    have hn2 : List.length (List.set l2 (Int.toNat o1) (p1.1, p1.2.1, p1.2.2)) = (List.length l1) := set_len hn1 _ _
    refine WO_et rfl (W_sr ?_)
    refine WO_seg 2 [(4, .slice a2 (List.length l1) c2)] kr kr ?_
    refine WO_et rfl (W_ret ?_)
    obtain rfl := Option.some.inj hr
    refine X_ret [.tmp 4] [.slice a2 (List.length l1) c2] rfl (ResAll.cons (ResAt.tmp kr) ResAll.nil) ?_
    exact ⟨a2, c2, T2, m7, (by rw [hn2] <;> rfl), hm, st, (OAS.cast hs2 hn2)⟩
  ·intro K
   clear hrK
   refine W_draw [(12, fun w' => Inv m2 w' ∧ Piece.holds m2 w' (opc a1 (acellsM (fun x : Int × ByteArray × ByteArray => ([.int .i64 x.1, .string x.2.1, .string x.2.2] : List Value)) p0 T1) 29) ∧ True)] kr st ?_
   clear st
   intro w8 _ st
   have hmS2 := m2.le_refl
   refine ⟨⟨.inr ⟨Inv.anti st.inv hmS2, opc_anti st.head hmS2, trivial⟩, trivial⟩, ?_⟩
   refine WA_pure 0 20 (.int .i64 o1) kr rfl kr (.head _) (QP_then (QP_then QP_body)) ?_
   refine WA_pure 1 21 (.slice a1 (List.length p0) c1) kr rfl kr (.head _) (QP_then (QP_then QP_body)) ?_
   refine WA_pure 2 22 (.int .i64 ((List.length p0) : Int)) kr rfl kr (.head _) (QP_then (QP_then QP_body)) ?_
   refine WA_pure 3 23 (.bool (decide (o1 < ((List.length p0) : Int)))) kr rfl kr (.head _) (QP_then (QP_then QP_body)) ?_
   refine WA_pure 4 24 (.bool (decide (o1 < ((List.length p0) : Int)))) kr rfl kr (.head _) (QP_then (QP_then QP_body)) ?_
   rcases bcases (decide (o1 < ((List.length p0) : Int))) with hc | hc
   ·rw [if_pos hc] at hr
    refine WA_fact (t := 24) (b := true) (decide (o1 < ((List.length p0) : Int))) kr hc ?_
    refine WA_pure 5 25 (.slice a1 (List.length p0) c1) kr rfl kr (.head _) (QP_then (QP_then QP_body)) ?_
    refine WA_pure 6 26 (.int .i64 o1) kr rfl kr (.head _) (QP_then (QP_then QP_body)) ?_
    replace ⟨x2, hx3, hr⟩ := bindS hr
    refine WA_arrIndexM (t := 23) (e := 29) (x := (.tmp 25)) (y := (.tmp 26)) (k := 3) 7 27 kr rfl kr (.head _) (QP_then (QP_then QP_body)) (ev (.slice a1 (List.length p0) c1)) (ev (.int .i64 o1)) kr hs1 rfl hx3 ?_
    refine WA_arrLoadM (t := 29) (x := (.tmp 27)) (o := 0) (f := (fun x : Int × ByteArray × ByteArray => ([.int .i64 x.1, .string x.2.1, .string x.2.2] : List Value))) (z := x2) (v := .agg #[.int .i64 x2.1, .string x2.2.1, .string x2.2.2]) 8 28 (fun _ => rfl) (Int.toNat o1 * 3) rfl kr rfl kr (.head _) (QP_then (QP_then QP_body)) (fun _ h => h.2.1) (ev (.pointer (some ⟨ab a1, Int.toNat o1 * 3, none⟩))) hs1 rfl hx3 kr ?_
    refine WA_load_row (t := 29) (x := (.tmp 3)) 9 29 (.agg #[.int .i64 p1.1, .string p1.2.1, .string p1.2.2]) kr rfl kr (.head _) (QP_then (QP_then QP_body)) (fun _ h => h.1) (ev (.pointer (some ⟨b1, 0, none⟩))) hb1 kr ?_
    refine WA_one 10 kr  (One_eqAgg (d := 30) (t := 29) (t2 := 29) (x := (.tmp 28)) (y := (.tmp 29)) (xs := #[.int .i64 x2.1, .string x2.2.1, .string x2.2.2]) (ys := #[.int .i64 p1.1, .string p1.2.1, .string p1.2.2]) ((x2.1 == p1.1) && ((x2.2.1.toList == p1.2.1.toList) && ((x2.2.2.toList == p1.2.2.toList) && true))) kr rfl (ev (.agg #[.int .i64 x2.1, .string x2.2.1, .string x2.2.2])) (ev (.agg #[.int .i64 p1.1, .string p1.2.1, .string p1.2.2])) kr kr kr ?_)
    refine ⟨⟨.inr ⟨Inv.anti st.inv hmS2, opc_anti st.head hmS2, trivial⟩, trivial⟩, ?_⟩
    refine WA_pure 11 31 (.bool ((x2.1 == p1.1) && ((x2.2.1.toList == p1.2.1.toList) && ((x2.2.2.toList == p1.2.2.toList) && true)))) kr rfl kr (.head _) (QP_then (QP_then QP_body)) ?_
    obtain rfl := Option.some.inj hr
    exact WA_done kr (X_env _ kr (K _ _ ⟨m2, rfl, hm, st, hb1⟩))
   ·rw [if_neg (not_true hc)] at hr
    refine WA_fact (t := 24) (b := false) (decide (o1 < ((List.length p0) : Int))) kr hc ?_
    refine WA_not 5 25 kr rfl kr (.head _) (QP_then (QP_then QP_body)) ?_
    refine WA_not 6 26 kr rfl kr (.head _) (QP_then (QP_then QP_body)) ?_
    refine WA_not 7 27 kr rfl kr (.head _) (QP_then (QP_then QP_body)) ?_
    refine WA_not 8 28 kr rfl kr (.head _) (QP_then (QP_then QP_body)) ?_
    refine WA_not 9 29 kr rfl kr (.head _) (QP_then (QP_then QP_body)) ?_
    refine WA_not 10 30 kr rfl kr (.head _) (QP_then (QP_then QP_body)) ?_
    refine WA_pure 11 31 (.bool false) kr rfl kr (.head _) (QP_then (QP_then QP_body)) ?_
    obtain rfl := Option.some.inj hr
    exact WA_done kr (X_env _ kr (K _ _ ⟨m2, rfl, hm, st, hb1⟩))
 intro K0_u1
 clear hrKu1
 refine W_env _ kr (W_loop (fun k1 L' w' => ∃ (s1 : Int) (m3 : Mem), loopM (testgateref10_Insert_L1 N p0 p1) k1 s1 = some out1 ∧ L' = [(0, .slice a1 (List.length p0) c1), (3, .pointer (some ⟨b1, 0, none⟩)), (5, .int .i64 s1)] ∧ m.le m3 ∧ St m3 (opc a1 (acellsM (fun x : Int × ByteArray × ByteArray => ([.int .i64 x.1, .string x.2.1, .string x.2.2] : List Value)) p0 T1) 29 :: own) w' ∧ MRow m3 b1 0 [.int .i64 p1.1, .string p1.2.1, .string p1.2.2]) N ⟨0, m1, hr, rfl, hm, st, hb1⟩ ?_)
 clear st hr
 rintro k1 _ w3 ⟨s1, m3, hL, rfl, hm, st, hb1⟩
 rcases k1 with _ | k1
 ·exact loopM_zero hL
 ·obtain ⟨qu1, hr, hSu1, hBu1⟩ := loopM_succ hL
  clear hL
  unfold testgateref10_Insert_L1 at hr
  refine W_seq ?_
  refine W_seq ?_
  replace ⟨o2, hr, hrK⟩ := bindS hr
  refine W_cut .normal (fun L' w' => ∃ (m4 : Mem), L' = [(0, .slice a1 (List.length p0) c1), (3, .pointer (some ⟨b1, 0, none⟩)), (5, .int .i64 s1), (17, .bool o2)] ∧ m.le m4 ∧ St m4 (opc a1 (acellsM (fun x : Int × ByteArray × ByteArray => ([.int .i64 x.1, .string x.2.1, .string x.2.2] : List Value)) p0 T1) 29 :: own) w' ∧ MRow m4 b1 0 [.int .i64 p1.1, .string p1.2.1, .string p1.2.2]) ?_ ?_
  ·clear hr st
   have hr := hrK
   clear hrK
   rintro _ w4 ⟨m4, rfl, hm, st, hb1⟩
   refine X_then ?_
   refine W_cond o2 kr ?_ ?_
   ·intro hc
    rw [if_pos hc] at hr
    refine W_skip ?_
    refine X_then ?_
    refine W_block ?_
    refine W_region ?_
    refine WO_seg 3 [(5, .int .i64 (IntKind.wrap .i64 (s1 + 1)))] kr kr ?_
    refine WO_end rfl ?_
    refine X_block ?_
    obtain rfl := Option.some.inj hr
    have hL := hSu1 _ rfl
    exact X_env _ kr (X_round k1 (Nat.lt_succ_self _) ⟨IntKind.wrap .i64 (s1 + 1), m4, hL, rfl, hm, st, hb1⟩)
   ·intro hc
    rw [if_neg (not_true hc)] at hr
    refine W_exit ?_
    refine X_then_exit ?_
    obtain rfl := Option.some.inj hr
    have ho := hBu1 _ rfl
    refine X_then_exit ?_
    exact X_env _ kr (K0_u1 _ _ ⟨s1, m4, ho, rfl, hm, st, hb1⟩)
  ·intro K
   clear hrK
   refine W_draw [(12, fun w' => Inv m3 w' ∧ Piece.holds m3 w' (opc a1 (acellsM (fun x : Int × ByteArray × ByteArray => ([.int .i64 x.1, .string x.2.1, .string x.2.2] : List Value)) p0 T1) 29) ∧ True)] kr st ?_
   clear st
   intro w5 _ st
   have hmS1 := m3.le_refl
   refine ⟨⟨.inr ⟨Inv.anti st.inv hmS1, opc_anti st.head hmS1, trivial⟩, trivial⟩, ?_⟩
   refine WA_pure 0 6 (.int .i64 s1) kr rfl kr (.head _) (QP_then (QP_then (QP_then (QP_block (QP_then QP_body))))) ?_
   refine WA_pure 1 7 (.slice a1 (List.length p0) c1) kr rfl kr (.head _) (QP_then (QP_then (QP_then (QP_block (QP_then QP_body))))) ?_
   refine WA_pure 2 8 (.int .i64 ((List.length p0) : Int)) kr rfl kr (.head _) (QP_then (QP_then (QP_then (QP_block (QP_then QP_body))))) ?_
   refine WA_pure 3 9 (.bool (decide (s1 < ((List.length p0) : Int)))) kr rfl kr (.head _) (QP_then (QP_then (QP_then (QP_block (QP_then QP_body))))) ?_
   refine WA_pure 4 10 (.bool (decide (s1 < ((List.length p0) : Int)))) kr rfl kr (.head _) (QP_then (QP_then (QP_then (QP_block (QP_then QP_body))))) ?_
   rcases bcases (decide (s1 < ((List.length p0) : Int))) with hc | hc
   ·rw [if_pos hc] at hr
    refine WA_fact (t := 10) (b := true) (decide (s1 < ((List.length p0) : Int))) kr hc ?_
    refine WA_pure 5 11 (.slice a1 (List.length p0) c1) kr rfl kr (.head _) (QP_then (QP_then (QP_then (QP_block (QP_then QP_body))))) ?_
    refine WA_pure 6 12 (.int .i64 s1) kr rfl kr (.head _) (QP_then (QP_then (QP_then (QP_block (QP_then QP_body))))) ?_
    replace ⟨x1, hx1, hr⟩ := bindS hr
    refine WA_arrIndexM (t := 23) (e := 29) (x := (.tmp 11)) (y := (.tmp 12)) (k := 3) 7 13 kr rfl kr (.head _) (QP_then (QP_then (QP_then (QP_block (QP_then QP_body))))) (ev (.slice a1 (List.length p0) c1)) (ev (.int .i64 s1)) kr hs1 rfl hx1 ?_
    refine WA_arrLoadM (t := 29) (x := (.tmp 13)) (o := 0) (f := (fun x : Int × ByteArray × ByteArray => ([.int .i64 x.1, .string x.2.1, .string x.2.2] : List Value))) (z := x1) (v := .agg #[.int .i64 x1.1, .string x1.2.1, .string x1.2.2]) 8 14 (fun _ => rfl) (Int.toNat s1 * 3) rfl kr rfl kr (.head _) (QP_then (QP_then (QP_then (QP_block (QP_then QP_body))))) (fun _ h => h.2.1) (ev (.pointer (some ⟨ab a1, Int.toNat s1 * 3, none⟩))) hs1 rfl hx1 kr ?_
    refine WA_load_row (t := 29) (x := (.tmp 3)) 9 15 (.agg #[.int .i64 p1.1, .string p1.2.1, .string p1.2.2]) kr rfl kr (.head _) (QP_then (QP_then (QP_then (QP_block (QP_then QP_body))))) (fun _ h => h.1) (ev (.pointer (some ⟨b1, 0, none⟩))) hb1 kr ?_
    replace ⟨y1, hx2, hr⟩ := bindS hr
    refine WA_one 10 kr  (One_fn 16 100 #[.agg #[.int .i64 x1.1, .string x1.2.1, .string x1.2.2], .agg #[.int .i64 p1.1, .string p1.2.1, .string p1.2.2]] kr rfl ?_)
    refine (testgateref10_Less_ok st hx2).mono ?_
    clear st
    rintro _ w6 ⟨m5, rfl, hle2, st⟩
    refine ⟨_, rfl, ?_⟩
    have hm := Mem.le_trans hm hle2
    have hb1 := hb1.mono hle2
    have hmS1 := Mem.le_trans hmS1 hle2
    refine ⟨⟨.inr ⟨Inv.anti st.inv hmS1, opc_anti st.head hmS1, trivial⟩, trivial⟩, ?_⟩
    refine WA_pure 11 17 (.bool y1) kr rfl kr (.head _) (QP_then (QP_then (QP_then (QP_block (QP_then QP_body))))) ?_
    obtain rfl := Option.some.inj hr
    exact WA_done kr (X_env _ kr (K _ _ ⟨m5, rfl, hm, st, hb1⟩))
   ·rw [if_neg (not_true hc)] at hr
    refine WA_fact (t := 10) (b := false) (decide (s1 < ((List.length p0) : Int))) kr hc ?_
    refine WA_not 5 11 kr rfl kr (.head _) (QP_then (QP_then (QP_then (QP_block (QP_then QP_body))))) ?_
    refine WA_not 6 12 kr rfl kr (.head _) (QP_then (QP_then (QP_then (QP_block (QP_then QP_body))))) ?_
    refine WA_not 7 13 kr rfl kr (.head _) (QP_then (QP_then (QP_then (QP_block (QP_then QP_body))))) ?_
    refine WA_not 8 14 kr rfl kr (.head _) (QP_then (QP_then (QP_then (QP_block (QP_then QP_body))))) ?_
    refine WA_not 9 15 kr rfl kr (.head _) (QP_then (QP_then (QP_then (QP_block (QP_then QP_body))))) ?_
    refine WA_not 10 16 kr rfl kr (.head _) (QP_then (QP_then (QP_then (QP_block (QP_then QP_body))))) ?_
    refine WA_pure 11 17 (.bool false) kr rfl kr (.head _) (QP_then (QP_then (QP_then (QP_block (QP_then QP_body))))) ?_
    obtain rfl := Option.some.inj hr
    exact WA_done kr (X_env _ kr (K _ _ ⟨m3, rfl, hm, st, hb1⟩))
def testgateref11_Set_L1 (N : Nat) (p0 : List (Int × ByteArray × ByteArray)) (s1 : (List (Int × ByteArray × ByteArray)) × Int) : Option (((List (Int × ByteArray × ByteArray)) × Int) ⊕ (((List (Int × ByteArray × ByteArray))))) :=
 if (decide (s1.2 < (List.length p0 : Int))) = true then ((idx p0 s1.2).bind fun x1 => (testgateref10_Insert N s1.1 (x1.1, x1.2.1, x1.2.2)).bind fun y1 => some (.inl (y1, IntKind.wrap .i64 (s1.2 + 1)))) else (some (.inr s1.1))
def testgateref11_Set (N : Nat) (p0 : List (Int × ByteArray × ByteArray)) : Option (List (Int × ByteArray × ByteArray)) :=
 (loopM (testgateref11_Set_L1 N p0) N (([] : List (Int × ByteArray × ByteArray)), 0)).bind fun o1 => some o1
set_option maxHeartbeats 4000000 in
set_option maxRecDepth 100000 in
theorem testgateref11_Set_ok {N : Nat} {m : Mem} {own : List Piece} {w : World} {p0 : List (Int × ByteArray × ByteArray)} {a1 : Option Addr} {c1 : Nat} {r : List (Int × ByteArray × ByteArray)} (st : St m (own) w) (r1 : RepS (cPair (cInt .i64) (cPair cStr cStr)) m a1 c1 p0) (hr : testgateref11_Set N p0 = some r) : Calls Tryd.prog 39 #[.slice a1 (List.length p0) c1] w fun e w' => ∃ (ra1 : Option Addr) (rc1 : Nat) (m' : Mem), e = .returned (.slice ra1 (List.length r) rc1) ∧ m.le m' ∧ St m' (.room ra1 (List.length r) rc1 29 3 :: own) w' ∧ RepS (cPair (cInt .i64) (cPair cStr cStr)) m' ra1 rc1 r := by
 unfold testgateref11_Set at hr
 have hm := m.le_refl
 refine W_calls Tryd.func39 rfl Tryd.ntmps39 [(0, .slice a1 (List.length p0) c1)] kr rfl ?_
 refine W_sr (WO_seg 1 [] kr kr ?_)
 refine WO_et rfl (W_sr ?_)
 refine WO_seg 1 [(3, .slice none (List.length ([] : List (Int × ByteArray × ByteArray))) 0)] kr kr ?_
 refine WO_et rfl (W_seq ?_)
 refine W_sr (WO_seg 3 [(6, .slice a1 (List.length p0) c1), (7, .int .i64 (List.length p0 : Int)), (8, .int .i64 0)] kr kr ?_)
 refine WO_et rfl (W_block ?_)
 have st := room_opc (f := (fun x : Int × ByteArray × ByteArray => ([.int .i64 x.1, .string x.2.1, .string x.2.2] : List Value))) (st.nilroom 29 3)
 replace ⟨out1, hr, hrKu1⟩ := bindS hr
 refine W_cut (.exit 0) (fun L' w' => ∃ (o1 : (List (Int × ByteArray × ByteArray))) (a2 : Option Addr) (c2 : Nat) (T1 : List Value) (m1 : Mem), o1 = out1 ∧ L' = [(3, .slice a2 (List.length o1) c2)] ∧ m.le m1 ∧ St m1 (opc a2 (acellsM (fun x : Int × ByteArray × ByteArray => ([.int .i64 x.1, .string x.2.1, .string x.2.2] : List Value)) o1 T1) 29 :: own) w' ∧ OAS a2 (List.length o1) c2 3 T1) ?_ ?_
 ·clear hr st
  rintro _ w1 ⟨o1, a2, c2, T1, m1, rfl, rfl, hm, st, hs1⟩
  have hr := hrKu1
  clear hrKu1
  refine X_block_eq ?_
  refine X_then ?_
  refine W_sr (WO_seg 2 [(2, .slice a2 (List.length o1) c2)] kr kr ?_)
  refine WO_et rfl (W_ret ?_)
  obtain rfl := Option.some.inj hr
  obtain ⟨m4, hle2, st, r2⟩ := St.freezeM (c := (cPair (cInt .i64) (cPair cStr cStr))) (f := (fun x : Int × ByteArray × ByteArray => ([.int .i64 x.1, .string x.2.1, .string x.2.2] : List Value))) st hs1 rfl (fun _ => rfl) (fun _ x => ⟨_, _, rfl, rfl, ⟨_, _, rfl, rfl, rfl⟩⟩)
  have hm := Mem.le_trans hm hle2
  refine X_ret [.tmp 2] [.slice a2 (List.length o1) c2] rfl (ResAll.cons (ResAt.tmp kr) ResAll.nil) ?_
  exact ⟨a2, c2, m4, rfl, hm, st, r2⟩
 intro K0_u1
 clear hrKu1
 refine W_env _ kr (W_loop (fun k1 L' w' => ∃ (s1 : (List (Int × ByteArray × ByteArray)) × Int) (a3 : Option Addr) (c3 : Nat) (T2 : List Value) (m2 : Mem), loopM (testgateref11_Set_L1 N p0) k1 s1 = some out1 ∧ L' = [(3, .slice a3 (List.length s1.1) c3), (6, .slice a1 (List.length p0) c1), (7, .int .i64 (List.length p0 : Int)), (8, .int .i64 s1.2)] ∧ m.le m2 ∧ St m2 (opc a3 (acellsM (fun x : Int × ByteArray × ByteArray => ([.int .i64 x.1, .string x.2.1, .string x.2.2] : List Value)) s1.1 T2) 29 :: own) w' ∧ RepS (cPair (cInt .i64) (cPair cStr cStr)) m2 a1 c1 p0 ∧ OAS a3 (List.length s1.1) c3 3 T2) N ⟨(([] : List (Int × ByteArray × ByteArray)), 0), none, 0, [], m, hr, rfl, hm, st, r1, (OAS.nil 3)⟩ ?_)
 clear st hr
 rintro k1 _ w2 ⟨s1, a3, c3, T2, m2, hL, rfl, hm, st, r1, hs2⟩
 rcases k1 with _ | k1
 ·exact loopM_zero hL
 ·obtain ⟨qu1, hr, hSu1, hBu1⟩ := loopM_succ hL
  clear hL
  unfold testgateref11_Set_L1 at hr
  refine W_sr (WO_seg 1 [(9, .bool (decide (s1.2 < (List.length p0 : Int))))] kr kr ?_)
  refine WO_et rfl (W_seq ?_)
  refine W_cond (decide (s1.2 < (List.length p0 : Int))) kr ?_ ?_
  ·intro hc
   rw [if_pos hc] at hr
   refine W_skip ?_
   refine X_then ?_
   refine W_seq ?_
   refine W_block ?_
   refine W_sr ?_
   replace ⟨x1, hx1, hr⟩ := bindS hr
   refine WO_one rfl (One_index (d := 10) (t := 23) (e := 29) (x := (.tmp 6)) (y := (.tmp 8)) (cPair (cInt .i64) (cPair cStr cStr)) kr rfl (ev (.slice a1 (List.length p0) c1)) (ev (.int .i64 s1.2)) kr r1 hx1 ?_)
   rintro b1 f1 cs1 ⟨_, _, rfl, rfl, ⟨_, _, rfl, rfl, rfl⟩⟩ hq1
   refine WO_one rfl (One_load_row (d := 11) (t := 29) (x := (.tmp 10)) (.agg #[.int .i64 x1.1, .string x1.2.1, .string x1.2.2]) kr rfl (ev (.pointer (some ⟨b1, f1, none⟩))) st hq1 kr ?_)
   refine WO_one rfl (One_alloc (d := 5) (e := 29) (.agg #[.int .i64 0, .string (⟨#[]⟩ : ByteArray), .string (⟨#[]⟩ : ByteArray)]) kr rfl kr st ?_)
   clear st
   intro b2 w3 st
   refine WO_one rfl (One_store (t := 29) (x := (.tmp 5)) (y := (.tmp 11)) (v := .agg #[.int .i64 x1.1, .string x1.2.1, .string x1.2.2]) (c' := #[.int .i64 x1.1, .string x1.2.1, .string x1.2.2]) kr (ev (.pointer (some ⟨b2, 0, none⟩))) (ev (.agg #[.int .i64 x1.1, .string x1.2.1, .string x1.2.2])) st kr kr ?_)
   clear st
   intro w4 st
   refine WO_et rfl (W_region ?_)
   refine WO_seg 1 [(12, .slice a3 (List.length s1.1) c3)] kr kr ?_
   refine WO_one rfl (One_load_own (d := 13) (t := 29) (x := (.tmp 5)) (.agg #[.int .i64 x1.1, .string x1.2.1, .string x1.2.2]) kr rfl (ev (.pointer (some ⟨b2, 0, none⟩))) st.head kr ?_)
   have st := st.front1
   replace ⟨y1, hx2, hr⟩ := bindS hr
   refine WO_one rfl (One_fn 14 69 #[.slice a3 (List.length s1.1) c3, .agg #[.int .i64 x1.1, .string x1.2.1, .string x1.2.2]] kr rfl ?_)
   refine (testgateref10_Insert_ok st hs2 hx2).mono ?_
   clear st
   rintro _ w5 ⟨a4, c4, T3, m3, rfl, hle1, st, hs3⟩
   refine ⟨_, rfl, ?_⟩
   have hm := Mem.le_trans hm hle1
   have r1 := r1.mono hle1
   refine WO_seg 1 [(3, .slice a4 (List.length y1) c4)] kr kr ?_
   refine WO_end rfl ?_
   refine X_block ?_
   refine X_then ?_
   refine W_region ?_
   refine WO_seg 2 [(8, .int .i64 (IntKind.wrap .i64 (s1.2 + 1)))] kr kr ?_
   refine WO_end rfl ?_
   obtain rfl := Option.some.inj hr
   have hL := hSu1 _ rfl
   have st := st.front1
   have st := st.tail
   exact X_env _ kr (X_round k1 (Nat.lt_succ_self _) ⟨(y1, IntKind.wrap .i64 (s1.2 + 1)), a4, c4, T3, m3, hL, rfl, hm, st, r1, hs3⟩)
  ·intro hc
   rw [if_neg (not_true hc)] at hr
   refine W_exit ?_
   refine X_then_exit ?_
   obtain rfl := Option.some.inj hr
   have ho := hBu1 _ rfl
   refine X_then_exit ?_
   exact X_env _ kr (K0_u1 _ _ ⟨s1.1, a3, c3, T2, m2, ho, rfl, hm, st, hs2⟩)
def testgateref12_Keys_L1 (N : Nat) (p0 : List (Int × ByteArray × ByteArray)) (p1 : Int) (s1 : (List (Int × ByteArray × ByteArray)) × Int) : Option (((List (Int × ByteArray × ByteArray)) × Int) ⊕ (((List (Int × ByteArray × ByteArray))) ⊕ ((List (Int × ByteArray × ByteArray)) × Int))) :=
 if (decide (s1.2 < (List.length p0 : Int))) = true then ((idx p0 s1.2).bind fun x1 => (testgateref12_Key N (x1.1, x1.2.1, x1.2.2) p1).bind fun y1 => if (y1.2 != 0) = true then (some (.inr (.inr ((([] : List (Int × ByteArray × ByteArray)), y1.2))))) else ((appendS 40 s1.1 ([(y1.1.1, y1.1.2.1, y1.1.2.2)])).bind fun l1 => some (.inl (l1, IntKind.wrap .i64 (s1.2 + 1))))) else (some (.inr (.inl s1.1)))
def testgateref12_Keys (N : Nat) (p0 : List (Int × ByteArray × ByteArray)) (p1 : Int) : Option ((List (Int × ByteArray × ByteArray)) × Int) :=
 (if (decide (p1 < 1)) = true then (some true) else (some (decide (p1 > 3))) : Option (Bool)).bind fun o1 => if o1 = true then (some (([] : List (Int × ByteArray × ByteArray)), 3)) else ((loopM (testgateref12_Keys_L1 N p0 p1) N (([] : List (Int × ByteArray × ByteArray)), 0)).bind fun out1 => (match out1 with | .inl o2 => (testgateref11_Set N o2).bind fun y2 => some (y2, 0) | .inr (z) => some z))
set_option maxHeartbeats 4000000 in
set_option maxRecDepth 100000 in
theorem testgateref12_Keys_ok {N : Nat} {m : Mem} {own : List Piece} {w : World} {p0 : List (Int × ByteArray × ByteArray)} {p1 : Int} {a1 : Option Addr} {c1 : Nat} {r : (List (Int × ByteArray × ByteArray)) × Int} (st : St m (own) w) (r1 : RepS (cPair (cInt .i64) (cPair cStr cStr)) m a1 c1 p0) (hr : testgateref12_Keys N p0 p1 = some r) : Calls Tryd.prog 11 #[.slice a1 (List.length p0) c1, .int .i64 p1] w fun e w' => ∃ (ra1 : Option Addr) (rc1 : Nat) (m' : Mem), e = .returned (.tuple #[.slice ra1 (List.length r.1) rc1, .int .i64 r.2]) ∧ m.le m' ∧ St m' (.room ra1 (List.length r.1) rc1 29 3 :: own) w' ∧ RepS (cPair (cInt .i64) (cPair cStr cStr)) m' ra1 rc1 r.1 := by
 unfold testgateref12_Keys at hr
 have hm := m.le_refl
 refine W_calls Tryd.func11 rfl Tryd.ntmps11 [(0, .slice a1 (List.length p0) c1), (1, .int .i64 p1)] kr rfl ?_
 refine W_sr (WO_seg 2 [] kr kr ?_)
 refine WO_et rfl (W_seq ?_)
 refine W_sr ?_
 replace ⟨o1, hr, hrK⟩ := bindS hr
 refine WO_cut (j := 6) (fun L' w' => ∃ (m1 : Mem), L' = [(0, .slice a1 (List.length p0) c1), (1, .int .i64 p1), (16, .bool o1)] ∧ m.le m1 ∧ St m1 (own) w' ∧ RepS (cPair (cInt .i64) (cPair cStr cStr)) m1 a1 c1 p0) ?_ ?_
 ·clear hr st
  have hr := hrK
  clear hrK
  rintro _ w1 ⟨m1, rfl, hm, st, r1⟩
  refine WO_et rfl (W_cond o1 kr ?_ ?_)
  ·intro hc
   rw [if_pos hc] at hr
   refine W_sr (WO_seg 2 [(4, .slice none (List.length ([] : List (Int × ByteArray × ByteArray))) 0), (5, .int .i64 3)] kr kr ?_)
   refine WO_et rfl (W_ret ?_)
   refine X_then_ret ?_
   obtain rfl := Option.some.inj hr
   refine X_ret [.tmp 4, .tmp 5] [.slice none (List.length ([] : List (Int × ByteArray × ByteArray))) 0, .int .i64 3] rfl (ResAll.cons (ResAt.tmp kr) (ResAll.cons (ResAt.tmp kr) ResAll.nil)) ?_
   have st := st.nilroom 29 3
   exact ⟨none, 0, m1, rfl, hm, st, (RepS.nil _ _)⟩
  ·intro hc
   rw [if_neg (not_true hc)] at hr
   refine W_skip ?_
   refine X_then ?_
   refine W_sr (WO_seg 1 [(6, .slice none (List.length ([] : List (Int × ByteArray × ByteArray))) 0)] kr kr ?_)
   refine WO_et rfl (W_seq ?_)
   refine W_sr (WO_seg 3 [(17, .slice a1 (List.length p0) c1), (18, .int .i64 (List.length p0 : Int)), (19, .int .i64 0)] kr kr ?_)
   refine WO_et rfl (W_block ?_)
   replace ⟨out1, hr, hrKu1⟩ := bindS hr
   refine W_cut (.exit 0) (fun L' w' => ∃ (o2 : (List (Int × ByteArray × ByteArray))) (a2 : Option Addr) (c2 : Nat) (m2 : Mem), (.inl o2) = out1 ∧ L' = [(6, .slice a2 (List.length o2) c2)] ∧ m.le m2 ∧ St m2 (.room a2 (List.length o2) c2 29 3 :: own) w' ∧ RepS (cPair (cInt .i64) (cPair cStr cStr)) m2 a2 c2 o2) ?_ ?_
   ·clear hr st
    rintro _ w2 ⟨o2, a2, c2, m2, rfl, rfl, hm, st, r2⟩
    have hr := hrKu1
    clear hrKu1
    dsimp only at hr
    refine X_block_eq ?_
    refine X_then ?_
    refine W_sr (WO_seg 1 [(37, .slice a2 (List.length o2) c2)] kr kr ?_)
    replace ⟨y2, hx4, hr⟩ := bindS hr
    refine WO_one rfl (One_fn 38 39 #[.slice a2 (List.length o2) c2] kr rfl ?_)
    refine (testgateref11_Set_ok st r2 hx4).mono ?_
    clear st
    rintro _ w11 ⟨a5, c5, m7, rfl, hle4, st, r6⟩
    refine ⟨_, rfl, ?_⟩
    have hm := Mem.le_trans hm hle4
    have r2 := r2.mono hle4
    refine WO_seg 2 [(4, .slice a5 (List.length y2) c5), (5, .int .i64 0)] kr kr ?_
    refine WO_end rfl ?_
    have st := st.front1
    have st := st.tail
    refine X_then ?_
    refine W_ret ?_
    obtain rfl := Option.some.inj hr
    refine X_ret [.tmp 4, .tmp 5] [.slice a5 (List.length y2) c5, .int .i64 0] rfl (ResAll.cons (ResAt.tmp kr) (ResAll.cons (ResAt.tmp kr) ResAll.nil)) ?_
    exact ⟨a5, c5, m7, rfl, hm, st, r6⟩
   intro K0_u1
   have st := st.nilroom 29 3
   refine W_env _ kr (W_loop (fun k1 L' w' => ∃ (s1 : (List (Int × ByteArray × ByteArray)) × Int) (a3 : Option Addr) (c3 : Nat) (m3 : Mem), loopM (testgateref12_Keys_L1 N p0 p1) k1 s1 = some out1 ∧ L' = [(1, .int .i64 p1), (6, .slice a3 (List.length s1.1) c3), (17, .slice a1 (List.length p0) c1), (18, .int .i64 (List.length p0 : Int)), (19, .int .i64 s1.2)] ∧ m.le m3 ∧ St m3 (.room a3 (List.length s1.1) c3 29 3 :: own) w' ∧ RepS (cPair (cInt .i64) (cPair cStr cStr)) m3 a3 c3 s1.1 ∧ RepS (cPair (cInt .i64) (cPair cStr cStr)) m3 a1 c1 p0) N ⟨(([] : List (Int × ByteArray × ByteArray)), 0), none, 0, m1, hr, rfl, hm, st, (RepS.nil _ _), r1⟩ ?_)
   clear st hr
   rintro k1 _ w3 ⟨s1, a3, c3, m3, hL, rfl, hm, st, r3, r1⟩
   rcases k1 with _ | k1
   ·exact loopM_zero hL
   ·obtain ⟨qu1, hr, hSu1, hBu1⟩ := loopM_succ hL
    clear hL
    unfold testgateref12_Keys_L1 at hr
    refine W_sr (WO_seg 1 [(20, .bool (decide (s1.2 < (List.length p0 : Int))))] kr kr ?_)
    refine WO_et rfl (W_seq ?_)
    refine W_cond (decide (s1.2 < (List.length p0 : Int))) kr ?_ ?_
    ·intro hc
     rw [if_pos hc] at hr
     refine W_skip ?_
     refine X_then ?_
     refine W_seq ?_
     refine W_block ?_
     refine W_sr ?_
     replace ⟨x1, hx1, hr⟩ := bindS hr
     refine WO_one rfl (One_index (d := 21) (t := 23) (e := 29) (x := (.tmp 17)) (y := (.tmp 19)) (cPair (cInt .i64) (cPair cStr cStr)) kr rfl (ev (.slice a1 (List.length p0) c1)) (ev (.int .i64 s1.2)) kr r1 hx1 ?_)
     rintro b1 f1 cs1 ⟨_, _, rfl, rfl, ⟨_, _, rfl, rfl, rfl⟩⟩ hq1
     refine WO_one rfl (One_load_row (d := 22) (t := 29) (x := (.tmp 21)) (.agg #[.int .i64 x1.1, .string x1.2.1, .string x1.2.2]) kr rfl (ev (.pointer (some ⟨b1, f1, none⟩))) st hq1 kr ?_)
     refine WO_one rfl (One_alloc (d := 8) (e := 29) (.agg #[.int .i64 0, .string (⟨#[]⟩ : ByteArray), .string (⟨#[]⟩ : ByteArray)]) kr rfl kr st ?_)
     clear st
     intro b2 w4 st
     refine WO_one rfl (One_store (t := 29) (x := (.tmp 8)) (y := (.tmp 22)) (v := .agg #[.int .i64 x1.1, .string x1.2.1, .string x1.2.2]) (c' := #[.int .i64 x1.1, .string x1.2.1, .string x1.2.2]) kr (ev (.pointer (some ⟨b2, 0, none⟩))) (ev (.agg #[.int .i64 x1.1, .string x1.2.1, .string x1.2.2])) st kr kr ?_)
     clear st
     intro w5 st
     refine WO_et rfl (W_sr ?_)
     refine WO_one rfl (One_load_own (d := 24) (t := 29) (x := (.tmp 8)) (.agg #[.int .i64 x1.1, .string x1.2.1, .string x1.2.2]) kr rfl (ev (.pointer (some ⟨b2, 0, none⟩))) st.head kr ?_)
     refine WO_seg 1 [(25, .int .i64 p1)] kr kr ?_
     replace ⟨y1, hx2, hr⟩ := bindS hr
     refine WO_one rfl (One_fn 26 16 #[.agg #[.int .i64 x1.1, .string x1.2.1, .string x1.2.2], .int .i64 p1] kr rfl ?_)
     refine (testgateref12_Key_ok st hx2).mono ?_
     clear st
     rintro _ w6 ⟨m4, rfl, hle1, st⟩
     refine ⟨_, rfl, ?_⟩
     have hm := Mem.le_trans hm hle1
     have r3 := r3.mono hle1
     have r1 := r1.mono hle1
     refine WO_seg 3 [(27, .agg #[.int .i64 y1.1.1, .string y1.1.2.1, .string y1.1.2.2]), (28, .int .i64 y1.2)] kr kr ?_
     refine WO_one rfl (One_alloc (d := 9) (e := 29) (.agg #[.int .i64 0, .string (⟨#[]⟩ : ByteArray), .string (⟨#[]⟩ : ByteArray)]) kr rfl kr st ?_)
     clear st
     intro b3 w7 st
     refine WO_one rfl (One_store (t := 29) (x := (.tmp 9)) (y := (.tmp 27)) (v := .agg #[.int .i64 y1.1.1, .string y1.1.2.1, .string y1.1.2.2]) (c' := #[.int .i64 y1.1.1, .string y1.1.2.1, .string y1.1.2.2]) kr (ev (.pointer (some ⟨b3, 0, none⟩))) (ev (.agg #[.int .i64 y1.1.1, .string y1.1.2.1, .string y1.1.2.2])) st kr kr ?_)
     clear st
     intro w8 st
     refine WO_seg 1 [(10, .int .i64 y1.2)] kr kr ?_
     refine WO_et rfl (W_seq ?_)
     refine W_sr (WO_seg 2 [(30, .bool (y1.2 != 0))] kr kr ?_)
     refine WO_et rfl (W_cond (y1.2 != 0) kr ?_ ?_)
     ·intro hc
      rw [if_pos hc] at hr
      refine W_sr (WO_seg 3 [(4, .slice none (List.length ([] : List (Int × ByteArray × ByteArray))) 0), (5, .int .i64 y1.2)] kr kr ?_)
      refine WO_end rfl ?_
      have st := st.front2
      have st := st.tail
      refine X_then ?_
      refine W_ret ?_
      refine X_then_ret ?_
      refine X_block_ret ?_
      refine X_then_ret ?_
      obtain rfl := Option.some.inj hr
      have ho := hBu1 _ rfl
      subst ho
      have hr := hrKu1
      dsimp only at hr
      refine X_then_ret ?_
      refine X_block_ret ?_
      refine X_then_ret ?_
      obtain rfl := Option.some.inj hr
      refine X_ret [.tmp 4, .tmp 5] [.slice none (List.length ([] : List (Int × ByteArray × ByteArray))) 0, .int .i64 y1.2] rfl (ResAll.cons (ResAt.tmp kr) (ResAll.cons (ResAt.tmp kr) ResAll.nil)) ?_
      have st := st.nilroom 29 3
      have st := st.front1
      have st := st.tail
      have st := st.front1
      have st := st.tail
      exact ⟨none, 0, m4, rfl, hm, st, (RepS.nil _ _)⟩
     ·intro hc
      rw [if_neg (not_true hc)] at hr
      refine W_skip ?_
      refine X_then ?_
      refine W_region ?_
      refine WO_seg 1 [(32, .slice a3 (List.length s1.1) c3)] kr kr ?_
      refine WO_one rfl (One_load_own (d := 33) (t := 29) (x := (.tmp 9)) (.agg #[.int .i64 y1.1.1, .string y1.1.2.1, .string y1.1.2.2]) kr rfl (ev (.pointer (some ⟨b3, 0, none⟩))) st.head kr ?_)
      refine WO_one rfl (One_buildSlice (d := 34) (t := 23) (e := 29) (len := 1) (parts := #[(0, (.tmp 33))]) (cPair (cInt .i64) (cPair cStr cStr)) (xs := [(y1.1.1, y1.1.2.1, y1.1.2.2)]) [.int .i64 y1.1.1, .string y1.1.2.1, .string y1.1.2.2] kr rfl (fun _ => buildCells_run kr _) rfl rfl st ⟨[.int .i64 y1.1.1, .string y1.1.2.1, .string y1.1.2.2], _, rfl, ⟨_, _, rfl, rfl, ⟨_, _, rfl, rfl, rfl⟩⟩, rfl⟩ ?_)
      clear st
      intro b4 m5 w9 hle2 st r4
      have hm := Mem.le_trans hm hle2
      have r3 := r3.mono hle2
      have r1 := r1.mono hle2
      have st := st.front3
      replace ⟨l1, hx3, hr⟩ := bindS hr
      refine WO_one rfl (One_append (d := 35) (t := 23) (u := 23) (e := 29) (by_ := 40) (x := (.tmp 32)) (y := (.tmp 34)) (cPair (cInt .i64) (cPair cStr cStr)) kr rfl (ev (.slice a3 (List.length s1.1) c3)) (ev (.slice (some ⟨b4, 0, none⟩) (List.length ([(y1.1.1, y1.1.2.1, y1.1.2.2)])) 1)) st kr (.inl kr) r3 r4.src hx3 ?_)
      clear st
      intro a4 c4 m6 w10 hle3 st r5
      have hm := Mem.le_trans hm hle3
      have r3 := r3.mono hle3
      have r1 := r1.mono hle3
      have r4 := r4.mono hle3
      refine WO_seg 1 [(6, .slice a4 (List.length l1) c4)] kr kr ?_
      refine WO_end rfl ?_
      have st := st.front1
      have st := st.tail
      refine X_block ?_
      refine X_then ?_
      refine W_region ?_
      refine WO_seg 2 [(19, .int .i64 (IntKind.wrap .i64 (s1.2 + 1)))] kr kr ?_
      refine WO_end rfl ?_
      obtain rfl := Option.some.inj hr
      have hL := hSu1 _ rfl
      have st := st.front1
      have st := st.tail
      have st := st.front1
      have st := st.tail
      exact X_env _ kr (X_round k1 (Nat.lt_succ_self _) ⟨(l1, IntKind.wrap .i64 (s1.2 + 1)), a4, c4, m6, hL, rfl, hm, st, r5, r1⟩)
    ·intro hc
     rw [if_neg (not_true hc)] at hr
     refine W_exit ?_
     refine X_then_exit ?_
     obtain rfl := Option.some.inj hr
     have ho := hBu1 _ rfl
     refine X_then_exit ?_
     exact X_env _ kr (K0_u1 _ _ ⟨s1.1, a3, c3, m3, ho, rfl, hm, st, r3⟩)
 ·intro K
  clear hrK
  refine WO_seg 3 [(13, .bool (decide (p1 < 1)))] kr kr ?_
  rcases bcases (decide (p1 < 1)) with hc | hc
  ·rw [if_pos hc] at hr
   refine WO_fact (t := 13) (b := true) (decide (p1 < 1)) kr hc ?_
   refine WO_seg 3 [(16, .bool true)] kr kr ?_
   obtain rfl := Option.some.inj hr
   exact WO_env _ kr (K _ _ ⟨m, rfl, hm, st, r1⟩)
  ·rw [if_neg (not_true hc)] at hr
   refine WO_fact (t := 13) (b := false) (decide (p1 < 1)) kr hc ?_
   refine WO_seg 3 [(16, .bool (decide (p1 > 3)))] kr kr ?_
   obtain rfl := Option.some.inj hr
   exact WO_env _ kr (K _ _ ⟨m, rfl, hm, st, r1⟩)
def testgateref11_Same_L1 (N : Nat) (p0 : List (Int × ByteArray × ByteArray)) (p1 : List (Int × ByteArray × ByteArray)) (s1 : Int) : Option ((Int) ⊕ ((Unit) ⊕ (Bool))) :=
 if (decide (s1 < (List.length p0 : Int))) = true then ((idx p0 s1).bind fun x1 => (idx p1 s1).bind fun x2 => if (!((x1.1 == x2.1) && ((x1.2.1.toList == x2.2.1.toList) && ((x1.2.2.toList == x2.2.2.toList) && true)))) = true then (some (.inr (.inr (false)))) else (some (.inl (IntKind.wrap .i64 (s1 + 1))))) else (some (.inr (.inl ())))
def testgateref11_Same (N : Nat) (p0 : List (Int × ByteArray × ByteArray)) (p1 : List (Int × ByteArray × ByteArray)) : Option (Bool) :=
 if ((List.length p0 : Int) != (List.length p1 : Int)) = true then (some false) else ((loopM (testgateref11_Same_L1 N p0 p1) N 0).bind fun out1 => (match out1 with | .inl o1 => some true | .inr (z) => some z))
set_option maxHeartbeats 4000000 in
set_option maxRecDepth 100000 in
theorem testgateref11_Same_ok {N : Nat} {m : Mem} {own : List Piece} {w : World} {p0 : List (Int × ByteArray × ByteArray)} {p1 : List (Int × ByteArray × ByteArray)} {a1 : Option Addr} {c1 : Nat} {a2 : Option Addr} {c2 : Nat} {r : Bool} (st : St m (own) w) (r1 : RepS (cPair (cInt .i64) (cPair cStr cStr)) m a1 c1 p0) (r2 : RepS (cPair (cInt .i64) (cPair cStr cStr)) m a2 c2 p1) (hr : testgateref11_Same N p0 p1 = some r) : Calls Tryd.prog 12 #[.slice a1 (List.length p0) c1, .slice a2 (List.length p1) c2] w fun e w' => ∃ (m' : Mem), e = .returned (.bool r) ∧ m.le m' ∧ St m' (own) w' := by
 unfold testgateref11_Same at hr
 have hm := m.le_refl
 refine W_calls Tryd.func12 rfl Tryd.ntmps12 [(0, .slice a1 (List.length p0) c1), (1, .slice a2 (List.length p1) c2)] kr rfl ?_
 refine W_sr (WO_seg 1 [] kr kr ?_)
 refine WO_et rfl (W_seq ?_)
 refine W_sr (WO_seg 5 [(10, .bool ((List.length p0 : Int) != (List.length p1 : Int)))] kr kr ?_)
 refine WO_et rfl (W_cond ((List.length p0 : Int) != (List.length p1 : Int)) kr ?_ ?_)
 ·intro hc
  rw [if_pos hc] at hr
  refine W_sr (WO_seg 1 [(4, .bool false)] kr kr ?_)
  refine WO_et rfl (W_ret ?_)
  refine X_then_ret ?_
  obtain rfl := Option.some.inj hr
  refine X_ret [.tmp 4] [.bool false] rfl (ResAll.cons (ResAt.tmp kr) ResAll.nil) ?_
  exact ⟨m, rfl, hm, st⟩
 ·intro hc
  rw [if_neg (not_true hc)] at hr
  refine W_skip ?_
  refine X_then ?_
  refine W_seq ?_
  refine W_sr (WO_seg 3 [(12, .int .i64 (List.length p0 : Int)), (13, .int .i64 0)] kr kr ?_)
  refine WO_et rfl (W_block ?_)
  replace ⟨out1, hr, hrKu1⟩ := bindS hr
  refine W_cut (.exit 0) (fun L' w' => ∃ (o1 : Unit) (m1 : Mem), (.inl o1) = out1 ∧ L' = [] ∧ m.le m1 ∧ St m1 (own) w') ?_ ?_
  ·clear hr st
   rintro _ w1 ⟨o1, m1, rfl, rfl, hm, st⟩
   have hr := hrKu1
   clear hrKu1
   dsimp only at hr
   refine X_block_eq ?_
   refine X_then ?_
   refine W_sr (WO_seg 1 [(4, .bool true)] kr kr ?_)
   refine WO_et rfl (W_ret ?_)
   obtain rfl := Option.some.inj hr
   refine X_ret [.tmp 4] [.bool true] rfl (ResAll.cons (ResAt.tmp kr) ResAll.nil) ?_
   exact ⟨m1, rfl, hm, st⟩
  intro K0_u1
  refine W_env _ kr (W_loop (fun k1 L' w' => ∃ (s1 : Int) (m2 : Mem), loopM (testgateref11_Same_L1 N p0 p1) k1 s1 = some out1 ∧ L' = [(0, .slice a1 (List.length p0) c1), (1, .slice a2 (List.length p1) c2), (12, .int .i64 (List.length p0 : Int)), (13, .int .i64 s1)] ∧ m.le m2 ∧ St m2 (own) w' ∧ RepS (cPair (cInt .i64) (cPair cStr cStr)) m2 a1 c1 p0 ∧ RepS (cPair (cInt .i64) (cPair cStr cStr)) m2 a2 c2 p1) N ⟨0, m, hr, rfl, hm, st, r1, r2⟩ ?_)
  clear st hr
  rintro k1 _ w2 ⟨s1, m2, hL, rfl, hm, st, r1, r2⟩
  rcases k1 with _ | k1
  ·exact loopM_zero hL
  ·obtain ⟨qu1, hr, hSu1, hBu1⟩ := loopM_succ hL
   clear hL
   unfold testgateref11_Same_L1 at hr
   refine W_sr (WO_seg 1 [(14, .bool (decide (s1 < (List.length p0 : Int))))] kr kr ?_)
   refine WO_et rfl (W_seq ?_)
   refine W_cond (decide (s1 < (List.length p0 : Int))) kr ?_ ?_
   ·intro hc
    rw [if_pos hc] at hr
    refine W_skip ?_
    refine X_then ?_
    refine W_seq ?_
    refine W_block ?_
    refine W_sr (WO_seg 2 [(5, .int .i64 s1)] kr kr ?_)
    refine WO_et rfl (W_seq ?_)
    refine W_draw [(9, fun w' => Inv m2 w' ∧ True)] kr st ?_
    clear st
    intro w3 _ st
    have hmS1 := m2.le_refl
    refine ⟨⟨.inr ⟨Inv.anti st.inv hmS1, trivial⟩, trivial⟩, ?_⟩
    refine WA_pure 0 16 (.slice a1 (List.length p0) c1) kr rfl kr (.head _) (QP_then (QP_block (QP_then (QP_then (QP_block (QP_then QP_body)))))) ?_
    refine WA_pure 1 17 (.int .i64 s1) kr rfl kr (.head _) (QP_then (QP_block (QP_then (QP_then (QP_block (QP_then QP_body)))))) ?_
    replace ⟨x1, hx1, hr⟩ := bindS hr
    refine WA_index (t := 23) (e := 29) (x := (.tmp 16)) (y := (.tmp 17)) 2 18 (cPair (cInt .i64) (cPair cStr cStr)) kr rfl kr (.head _) (QP_then (QP_block (QP_then (QP_then (QP_block (QP_then QP_body)))))) (ev (.slice a1 (List.length p0) c1)) (ev (.int .i64 s1)) kr r1 hx1 ?_
    rintro b1 f1 cs1 ⟨_, _, rfl, rfl, ⟨_, _, rfl, rfl, rfl⟩⟩ hq1
    refine WA_load_row (t := 29) (x := (.tmp 18)) 3 19 (.agg #[.int .i64 x1.1, .string x1.2.1, .string x1.2.2]) kr rfl kr (.head _) (QP_then (QP_block (QP_then (QP_then (QP_block (QP_then QP_body)))))) (fun _ h => h.1) (ev (.pointer (some ⟨b1, f1, none⟩))) hq1 kr ?_
    refine WA_pure 4 20 (.slice a2 (List.length p1) c2) kr rfl kr (.head _) (QP_then (QP_block (QP_then (QP_then (QP_block (QP_then QP_body)))))) ?_
    refine WA_pure 5 21 (.int .i64 s1) kr rfl kr (.head _) (QP_then (QP_block (QP_then (QP_then (QP_block (QP_then QP_body)))))) ?_
    replace ⟨x2, hx2, hr⟩ := bindS hr
    refine WA_index (t := 23) (e := 29) (x := (.tmp 20)) (y := (.tmp 21)) 6 22 (cPair (cInt .i64) (cPair cStr cStr)) kr rfl kr (.head _) (QP_then (QP_block (QP_then (QP_then (QP_block (QP_then QP_body)))))) (ev (.slice a2 (List.length p1) c2)) (ev (.int .i64 s1)) kr r2 hx2 ?_
    rintro b2 f2 cs2 ⟨_, _, rfl, rfl, ⟨_, _, rfl, rfl, rfl⟩⟩ hq2
    refine WA_load_row (t := 29) (x := (.tmp 22)) 7 23 (.agg #[.int .i64 x2.1, .string x2.2.1, .string x2.2.2]) kr rfl kr (.head _) (QP_then (QP_block (QP_then (QP_then (QP_block (QP_then QP_body)))))) (fun _ h => h.1) (ev (.pointer (some ⟨b2, f2, none⟩))) hq2 kr ?_
    refine WA_one 8 kr  (One_neAgg (d := 24) (t := 29) (t2 := 29) (x := (.tmp 19)) (y := (.tmp 23)) (xs := #[.int .i64 x1.1, .string x1.2.1, .string x1.2.2]) (ys := #[.int .i64 x2.1, .string x2.2.1, .string x2.2.2]) ((x1.1 == x2.1) && ((x1.2.1.toList == x2.2.1.toList) && ((x1.2.2.toList == x2.2.2.toList) && true))) kr rfl (ev (.agg #[.int .i64 x1.1, .string x1.2.1, .string x1.2.2])) (ev (.agg #[.int .i64 x2.1, .string x2.2.1, .string x2.2.2])) kr kr kr ?_)
    refine ⟨⟨.inr ⟨Inv.anti st.inv hmS1, trivial⟩, trivial⟩, ?_⟩
    refine WA_done kr ?_
    refine X_then ?_
    refine W_cond (!((x1.1 == x2.1) && ((x1.2.1.toList == x2.2.1.toList) && ((x1.2.2.toList == x2.2.2.toList) && true)))) kr ?_ ?_
    ·intro hc
     rw [if_pos hc] at hr
     refine W_sr (WO_seg 1 [(4, .bool false)] kr kr ?_)
     refine WO_et rfl (W_ret ?_)
     refine X_block_ret ?_
     refine X_then_ret ?_
     obtain rfl := Option.some.inj hr
     have ho := hBu1 _ rfl
     subst ho
     have hr := hrKu1
     dsimp only at hr
     refine X_then_ret ?_
     refine X_block_ret ?_
     refine X_then_ret ?_
     obtain rfl := Option.some.inj hr
     refine X_ret [.tmp 4] [.bool false] rfl (ResAll.cons (ResAt.tmp kr) ResAll.nil) ?_
     exact ⟨m2, rfl, hm, st⟩
    ·intro hc
     rw [if_neg (not_true hc)] at hr
     refine W_skip ?_
     refine X_block ?_
     refine X_then ?_
     refine W_region ?_
     refine WO_seg 2 [(13, .int .i64 (IntKind.wrap .i64 (s1 + 1)))] kr kr ?_
     refine WO_end rfl ?_
     obtain rfl := Option.some.inj hr
     have hL := hSu1 _ rfl
     exact X_env _ kr (X_round k1 (Nat.lt_succ_self _) ⟨IntKind.wrap .i64 (s1 + 1), m2, hL, rfl, hm, st, r1, r2⟩)
   ·intro hc
    rw [if_neg (not_true hc)] at hr
    refine W_exit ?_
    refine X_then_exit ?_
    obtain rfl := Option.some.inj hr
    have ho := hBu1 _ rfl
    refine X_then_exit ?_
    exact X_env _ kr (K0_u1 _ _ ⟨(), m2, ho, rfl, hm, st⟩)
def level_Finer (N : Nat) (p0 : Int) (p1 : Int) : Option (Bool) :=
 ((level_known N p0).bind fun y1 => if y1 = true then ((level_known N p1).bind fun y2 => if y2 = true then ((idx ([0, 1, 2, 3] : List Int) p0).bind fun x1 => (idx ([0, 1, 2, 3] : List Int) p1).bind fun x2 => some (decide (x1 < x2))) else (some false)) else (some false) : Option (Bool)).bind fun o1 => some o1
set_option maxHeartbeats 4000000 in
set_option maxRecDepth 100000 in
theorem level_Finer_ok {N : Nat} {m : Mem} {own : List Piece} {w : World} {p0 : Int} {p1 : Int} {r : Bool} (st : St m (own) w) (hr : level_Finer N p0 p1 = some r) : Calls Tryd.prog 13 #[.int .i64 p0, .int .i64 p1] w fun e w' => ∃ (m' : Mem), e = .returned (.bool r) ∧ m.le m' ∧ St m' (own) w' := by
 unfold level_Finer at hr
 have hm := m.le_refl
 refine W_calls Tryd.func13 rfl Tryd.ntmps13 [(0, .int .i64 p0), (1, .int .i64 p1)] kr rfl ?_
 refine W_sr (WO_seg 1 [] kr kr ?_)
 refine WO_et rfl (W_sr ?_)
 refine WO_seg 1 [(6, .agg #[.int .i64 0, .int .i64 1, .int .i64 2, .int .i64 3])] kr kr ?_
 refine WO_one rfl (One_alloc (d := 5) (e := 81) (.agg #[.int .i64 0, .int .i64 0, .int .i64 0, .int .i64 0]) kr rfl kr st ?_)
 clear st
 intro b1 w1 st
 refine WO_one rfl (One_store (t := 81) (x := (.tmp 5)) (y := (.tmp 6)) (v := .agg #[.int .i64 0, .int .i64 1, .int .i64 2, .int .i64 3]) (c' := #[.int .i64 0, .int .i64 1, .int .i64 2, .int .i64 3]) kr (ev (.pointer (some ⟨b1, 0, none⟩))) (ev (.agg #[.int .i64 0, .int .i64 1, .int .i64 2, .int .i64 3])) st kr kr ?_)
 clear st
 intro w2 st
 obtain ⟨m1, hle1, st, hb1⟩ := St.settle st
 have hm := Mem.le_trans hm hle1
 refine WO_et rfl (W_seq ?_)
 replace ⟨o1, hr, hrK⟩ := bindS hr
 refine W_cut .normal (fun L' w' => ∃ (m2 : Mem), L' = [(4, .bool o1)] ∧ m.le m2 ∧ St m2 (own) w') ?_ ?_
 ·clear hr st
  have hr := hrK
  clear hrK
  rintro _ w3 ⟨m2, rfl, hm, st⟩
  refine X_then ?_
  refine W_ret ?_
  obtain rfl := Option.some.inj hr
  refine X_ret [.tmp 4] [.bool o1] rfl (ResAll.cons (ResAt.tmp kr) ResAll.nil) ?_
  exact ⟨m2, rfl, hm, st⟩
 ·intro K
  clear hrK
  refine W_draw [(16, fun w' => Inv m1 w' ∧ True)] kr st ?_
  clear st
  intro w4 _ st
  have hmS1 := m1.le_refl
  refine ⟨⟨.inr ⟨Inv.anti st.inv hmS1, trivial⟩, trivial⟩, ?_⟩
  have hb1S := hb1
  refine WA_pure 0 7 (.int .i64 p0) kr rfl kr (.head _) (QP_then QP_body) ?_
  replace ⟨y1, hx1, hr⟩ := bindS hr
  refine WA_one 1 kr  (One_fn 8 37 #[.int .i64 p0] kr rfl ?_)
  refine (level_known_ok st hx1).mono ?_
  clear st
  rintro _ w5 ⟨m3, rfl, hle2, st⟩
  refine ⟨_, rfl, ?_⟩
  have hm := Mem.le_trans hm hle2
  have hb1 := hb1.mono hle2
  have hmS1 := Mem.le_trans hmS1 hle2
  refine ⟨⟨.inr ⟨Inv.anti st.inv hmS1, trivial⟩, trivial⟩, ?_⟩
  refine WA_pure 2 9 (.bool y1) kr rfl kr (.head _) (QP_then QP_body) ?_
  rcases bcases y1 with hc | hc
  ·rw [if_pos hc] at hr
   refine WA_fact (t := 9) (b := true) y1 kr hc ?_
   refine WA_pure 3 10 (.int .i64 p1) kr rfl kr (.head _) (QP_then QP_body) ?_
   replace ⟨y2, hx2, hr⟩ := bindS hr
   refine WA_one 4 kr  (One_fn 11 37 #[.int .i64 p1] kr rfl ?_)
   refine (level_known_ok st hx2).mono ?_
   clear st
   rintro _ w6 ⟨m4, rfl, hle3, st⟩
   refine ⟨_, rfl, ?_⟩
   have hm := Mem.le_trans hm hle3
   have hb1 := hb1.mono hle3
   have hmS1 := Mem.le_trans hmS1 hle3
   refine ⟨⟨.inr ⟨Inv.anti st.inv hmS1, trivial⟩, trivial⟩, ?_⟩
   refine WA_pure 5 12 (.bool y2) kr rfl kr (.head _) (QP_then QP_body) ?_
   refine WA_pure 6 13 (.bool y2) kr rfl kr (.head _) (QP_then QP_body) ?_
   rcases bcases y2 with hc | hc
   ·rw [if_pos hc] at hr
    refine WA_fact (t := 13) (b := true) y2 kr hc ?_
    refine WA_pure 7 14 (.int .i64 p0) kr rfl kr (.head _) (QP_then QP_body) ?_
    replace ⟨x1, hx3, hr⟩ := bindS hr
    have hq1 := MRow_elem (f := (fun x : Int => ([.int .i64 x] : List Value))) (k := 1) hb1S (fun _ => rfl) hx3
    refine WA_tabIndex (t := 81) (e := 3) (x := (.tmp 5)) (y := (.tmp 14)) (nn := 4) (k := 1) 8 15 (Int.toNat p0 * 1) (Nat.zero_add _).symm kr rfl kr (.head _) (QP_then QP_body) (ev (.pointer (some ⟨b1, 0, none⟩))) (ev (.int .i64 p0)) kr (tab_lt hx3).1 (tab_lt hx3).2 ?_
    have hq1S := hq1
    refine WA_load_row (t := 3) (x := (.tmp 15)) 9 16 (.int .i64 x1) kr rfl kr (.head _) (QP_then QP_body) (fun _ h => h.1) (ev (.pointer (some ⟨b1, Int.toNat p0 * 1, none⟩))) hq1S kr ?_
    refine WA_pure 10 17 (.int .i64 p1) kr rfl kr (.head _) (QP_then QP_body) ?_
    replace ⟨x2, hx4, hr⟩ := bindS hr
    have hq2 := MRow_elem (f := (fun x : Int => ([.int .i64 x] : List Value))) (k := 1) hb1S (fun _ => rfl) hx4
    refine WA_tabIndex (t := 81) (e := 3) (x := (.tmp 5)) (y := (.tmp 17)) (nn := 4) (k := 1) 11 18 (Int.toNat p1 * 1) (Nat.zero_add _).symm kr rfl kr (.head _) (QP_then QP_body) (ev (.pointer (some ⟨b1, 0, none⟩))) (ev (.int .i64 p1)) kr (tab_lt hx4).1 (tab_lt hx4).2 ?_
    have hq2S := hq2
    refine WA_load_row (t := 3) (x := (.tmp 18)) 12 19 (.int .i64 x2) kr rfl kr (.head _) (QP_then QP_body) (fun _ h => h.1) (ev (.pointer (some ⟨b1, Int.toNat p1 * 1, none⟩))) hq2S kr ?_
    refine WA_pure 13 20 (.bool (decide (x1 < x2))) kr rfl kr (.head _) (QP_then QP_body) ?_
    refine WA_pure 14 21 (.bool (decide (x1 < x2))) kr rfl kr (.head _) (QP_then QP_body) ?_
    refine WA_pure 15 4 (.bool (decide (x1 < x2))) kr rfl kr (.head _) (QP_then QP_body) ?_
    obtain rfl := Option.some.inj hr
    exact WA_done kr (X_env _ kr (K _ _ ⟨m4, rfl, hm, st⟩))
   ·rw [if_neg (not_true hc)] at hr
    refine WA_fact (t := 13) (b := false) y2 kr hc ?_
    refine WA_not 7 14 kr rfl kr (.head _) (QP_then QP_body) ?_
    refine WA_not 8 15 kr rfl kr (.head _) (QP_then QP_body) ?_
    refine WA_not 9 16 kr rfl kr (.head _) (QP_then QP_body) ?_
    refine WA_not 10 17 kr rfl kr (.head _) (QP_then QP_body) ?_
    refine WA_not 11 18 kr rfl kr (.head _) (QP_then QP_body) ?_
    refine WA_not 12 19 kr rfl kr (.head _) (QP_then QP_body) ?_
    refine WA_not 13 20 kr rfl kr (.head _) (QP_then QP_body) ?_
    refine WA_pure 14 21 (.bool false) kr rfl kr (.head _) (QP_then QP_body) ?_
    refine WA_pure 15 4 (.bool false) kr rfl kr (.head _) (QP_then QP_body) ?_
    obtain rfl := Option.some.inj hr
    exact WA_done kr (X_env _ kr (K _ _ ⟨m4, rfl, hm, st⟩))
  ·rw [if_neg (not_true hc)] at hr
   refine WA_fact (t := 9) (b := false) y1 kr hc ?_
   refine WA_not 3 10 kr rfl kr (.head _) (QP_then QP_body) ?_
   refine WA_not 4 11 kr rfl kr (.head _) (QP_then QP_body) ?_
   refine WA_pure 5 12 (.bool false) kr rfl kr (.head _) (QP_then QP_body) ?_
   refine WA_pure 6 13 (.bool false) kr rfl kr (.head _) (QP_then QP_body) ?_
   refine WA_not 7 14 kr rfl kr (.head _) (QP_then QP_body) ?_
   refine WA_not 8 15 kr rfl kr (.head _) (QP_then QP_body) ?_
   refine WA_not 9 16 kr rfl kr (.head _) (QP_then QP_body) ?_
   refine WA_not 10 17 kr rfl kr (.head _) (QP_then QP_body) ?_
   refine WA_not 11 18 kr rfl kr (.head _) (QP_then QP_body) ?_
   refine WA_not 12 19 kr rfl kr (.head _) (QP_then QP_body) ?_
   refine WA_not 13 20 kr rfl kr (.head _) (QP_then QP_body) ?_
   refine WA_pure 14 21 (.bool false) kr rfl kr (.head _) (QP_then QP_body) ?_
   refine WA_pure 15 4 (.bool false) kr rfl kr (.head _) (QP_then QP_body) ?_
   obtain rfl := Option.some.inj hr
   exact WA_done kr (X_env _ kr (K _ _ ⟨m3, rfl, hm, st⟩))
def testgateref12_Finer (N : Nat) (p0 : Int) (p1 : Int) : Option (Bool) :=
 (if (decide (p0 ≥ 1)) = true then (if (decide (p1 ≤ 3)) = true then (some (decide (p0 < p1))) else (some false)) else (some false) : Option (Bool)).bind fun o1 => some o1
set_option maxHeartbeats 4000000 in
set_option maxRecDepth 100000 in
theorem testgateref12_Finer_ok {N : Nat} {m : Mem} {own : List Piece} {w : World} {p0 : Int} {p1 : Int} {r : Bool} (st : St m (own) w) (hr : testgateref12_Finer N p0 p1 = some r) : Calls Tryd.prog 14 #[.int .i64 p0, .int .i64 p1] w fun e w' => ∃ (m' : Mem), e = .returned (.bool r) ∧ m.le m' ∧ St m' (own) w' := by
 unfold testgateref12_Finer at hr
 have hm := m.le_refl
 refine W_calls Tryd.func14 rfl Tryd.ntmps14 [(0, .int .i64 p0), (1, .int .i64 p1)] kr rfl ?_
 refine W_sr (WO_seg 1 [] kr kr ?_)
 refine WO_et rfl (W_sr ?_)
 replace ⟨o1, hr, hrK⟩ := bindS hr
 refine WO_cut (j := 12) (fun L' w' => ∃ (m1 : Mem), L' = [(4, .bool o1)] ∧ m.le m1 ∧ St m1 (own) w') ?_ ?_
 ·clear hr st
  have hr := hrK
  clear hrK
  rintro _ w1 ⟨m1, rfl, hm, st⟩
  refine WO_et rfl (W_ret ?_)
  obtain rfl := Option.some.inj hr
  refine X_ret [.tmp 4] [.bool o1] rfl (ResAll.cons (ResAt.tmp kr) ResAll.nil) ?_
  exact ⟨m1, rfl, hm, st⟩
 ·intro K
  clear hrK
  refine WO_seg 3 [(7, .bool (decide (p0 ≥ 1)))] kr kr ?_
  rcases bcases (decide (p0 ≥ 1)) with hc | hc
  ·rw [if_pos hc] at hr
   refine WO_fact (t := 7) (b := true) (decide (p0 ≥ 1)) kr hc ?_
   refine WO_seg 4 [(11, .bool (decide (p1 ≤ 3)))] kr kr ?_
   rcases bcases (decide (p1 ≤ 3)) with hc | hc
   ·rw [if_pos hc] at hr
    refine WO_fact (t := 11) (b := true) (decide (p1 ≤ 3)) kr hc ?_
    refine WO_seg 5 [(4, .bool (decide (p0 < p1)))] kr kr ?_
    obtain rfl := Option.some.inj hr
    exact WO_env _ kr (K _ _ ⟨m, rfl, hm, st⟩)
   ·rw [if_neg (not_true hc)] at hr
    refine WO_fact (t := 11) (b := false) (decide (p1 ≤ 3)) kr hc ?_
    refine WO_seg 5 [(4, .bool false)] kr kr ?_
    obtain rfl := Option.some.inj hr
    exact WO_env _ kr (K _ _ ⟨m, rfl, hm, st⟩)
  ·rw [if_neg (not_true hc)] at hr
   refine WO_fact (t := 7) (b := false) (decide (p0 ≥ 1)) kr hc ?_
   refine WO_seg 9 [(4, .bool false)] kr kr ?_
   obtain rfl := Option.some.inj hr
   exact WO_env _ kr (K _ _ ⟨m, rfl, hm, st⟩)
def testgatelaw12_awake (N : Nat) : Option (Bool) :=
 (level_Key N (1, (⟨#[112]⟩ : ByteArray), (⟨#[102]⟩ : ByteArray)) 2).bind fun y1 => (level_Keys N ([(1, (⟨#[112]⟩ : ByteArray), (⟨#[102]⟩ : ByteArray)), (2, (⟨#[112]⟩ : ByteArray), (⟨#[116]⟩ : ByteArray))]) 3).bind fun y2 => (if (y1.2 == 0) = true then (if (y2.2 == 0) = true then (if ((y1.1.1 == 6) && ((y1.1.2.1.toList == (⟨#[112]⟩ : ByteArray).toList) && ((y1.1.2.2.toList == (⟨#[]⟩ : ByteArray).toList) && true))) = true then (if ((List.length y2.1 : Int) == 1) = true then ((idx y2.1 0).bind fun x1 => if (x1.1 == 7) = true then ((level_Finer N 1 2).bind fun y3 => some y3) else (some false)) else (some false)) else (some false)) else (some false)) else (some false) : Option (Bool)).bind fun o1 => some o1
set_option maxHeartbeats 4000000 in
set_option maxRecDepth 100000 in
theorem testgatelaw12_awake_ok {N : Nat} {m : Mem} {own : List Piece} {w : World} {r : Bool} (st : St m (own) w) (hr : testgatelaw12_awake N = some r) : Calls Tryd.prog 17 #[] w fun e w' => ∃ (m' : Mem), e = .returned (.bool r) ∧ m.le m' ∧ St m' (own) w' := by
 unfold testgatelaw12_awake at hr
 have hm := m.le_refl
 refine W_calls Tryd.func17 rfl Tryd.ntmps17 [] kr rfl ?_
 refine W_sr (WO_seg 1 [] kr kr ?_)
 refine WO_et rfl (W_sr ?_)
 refine WO_seg 1 [(6, .agg #[.int .i64 1, .string (⟨#[112]⟩ : ByteArray), .string (⟨#[102]⟩ : ByteArray)])] kr kr ?_
 replace ⟨y1, hx1, hr⟩ := bindS hr
 refine WO_one rfl (One_fn 7 15 #[.agg #[.int .i64 1, .string (⟨#[112]⟩ : ByteArray), .string (⟨#[102]⟩ : ByteArray)], .int .i64 2] kr rfl ?_)
 refine (level_Key_ok st hx1).mono ?_
 clear st
 rintro _ w1 ⟨m1, rfl, hle1, st⟩
 refine ⟨_, rfl, ?_⟩
 have hm := Mem.le_trans hm hle1
 refine WO_seg 3 [(8, .agg #[.int .i64 y1.1.1, .string y1.1.2.1, .string y1.1.2.2]), (9, .int .i64 y1.2)] kr kr ?_
 refine WO_one rfl (One_alloc (d := 1) (e := 29) (.agg #[.int .i64 0, .string (⟨#[]⟩ : ByteArray), .string (⟨#[]⟩ : ByteArray)]) kr rfl kr st ?_)
 clear st
 intro b1 w2 st
 refine WO_one rfl (One_store (t := 29) (x := (.tmp 1)) (y := (.tmp 8)) (v := .agg #[.int .i64 y1.1.1, .string y1.1.2.1, .string y1.1.2.2]) (c' := #[.int .i64 y1.1.1, .string y1.1.2.1, .string y1.1.2.2]) kr (ev (.pointer (some ⟨b1, 0, none⟩))) (ev (.agg #[.int .i64 y1.1.1, .string y1.1.2.1, .string y1.1.2.2])) st kr kr ?_)
 clear st
 intro w3 st
 refine WO_seg 1 [(2, .int .i64 y1.2)] kr kr ?_
 refine WO_et rfl (W_sr ?_)
 refine WO_seg 2 [(11, .agg #[.int .i64 1, .string (⟨#[112]⟩ : ByteArray), .string (⟨#[102]⟩ : ByteArray)]), (12, .agg #[.int .i64 2, .string (⟨#[112]⟩ : ByteArray), .string (⟨#[116]⟩ : ByteArray)])] kr kr ?_
 refine WO_one rfl (One_buildSlice (d := 13) (t := 23) (e := 29) (len := 2) (parts := #[(0, (.tmp 11)), (1, (.tmp 12))]) (cPair (cInt .i64) (cPair cStr cStr)) (xs := [(1, (⟨#[112]⟩ : ByteArray), (⟨#[102]⟩ : ByteArray)), (2, (⟨#[112]⟩ : ByteArray), (⟨#[116]⟩ : ByteArray))]) [.int .i64 1, .string (⟨#[112]⟩ : ByteArray), .string (⟨#[102]⟩ : ByteArray), .int .i64 2, .string (⟨#[112]⟩ : ByteArray), .string (⟨#[116]⟩ : ByteArray)] kr rfl (fun _ => buildCells_run kr _) rfl rfl st ⟨[.int .i64 1, .string (⟨#[112]⟩ : ByteArray), .string (⟨#[102]⟩ : ByteArray)], _, rfl, ⟨_, _, rfl, rfl, ⟨_, _, rfl, rfl, rfl⟩⟩, ⟨[.int .i64 2, .string (⟨#[112]⟩ : ByteArray), .string (⟨#[116]⟩ : ByteArray)], _, rfl, ⟨_, _, rfl, rfl, ⟨_, _, rfl, rfl, rfl⟩⟩, rfl⟩⟩ ?_)
 clear st
 intro b2 m2 w4 hle2 st r1
 have hm := Mem.le_trans hm hle2
 replace ⟨y2, hx2, hr⟩ := bindS hr
 refine WO_one rfl (One_fn 14 10 #[.slice (some ⟨b2, 0, none⟩) (List.length ([(1, (⟨#[112]⟩ : ByteArray), (⟨#[102]⟩ : ByteArray)), (2, (⟨#[112]⟩ : ByteArray), (⟨#[116]⟩ : ByteArray))])) 2, .int .i64 3] kr rfl ?_)
 refine (level_Keys_ok st r1 hx2).mono ?_
 clear st
 rintro _ w5 ⟨a1, c1, m3, rfl, hle3, st, r2⟩
 refine ⟨_, rfl, ?_⟩
 have hm := Mem.le_trans hm hle3
 have r1 := r1.mono hle3
 refine WO_seg 5 [(3, .slice a1 (List.length y2.1) c1), (4, .int .i64 y2.2)] kr kr ?_
 refine WO_end rfl ?_
 have st := st.front1
 have st := st.tail
 refine X_then ?_
 refine W_sr ?_
 replace ⟨o1, hr, hrK⟩ := bindS hr
 refine WO_cut (j := 27) (fun L' w' => ∃ (m4 : Mem), L' = [(0, .bool o1)] ∧ m.le m4 ∧ St m4 (.blk b1 (.cells #[.int .i64 y1.1.1, .string y1.1.2.1, .string y1.1.2.2] 29 (0, 0)) :: .room a1 (List.length y2.1) c1 29 3 :: own) w') ?_ ?_
 ·clear hr st
  have hr := hrK
  clear hrK
  rintro _ w6 ⟨m4, rfl, hm, st⟩
  refine WO_et rfl (W_ret ?_)
  obtain rfl := Option.some.inj hr
  refine X_ret [.tmp 0] [.bool o1] rfl (ResAll.cons (ResAt.tmp kr) ResAll.nil) ?_
  have st := st.tail
  have st := st.tail
  exact ⟨m4, rfl, hm, st⟩
 ·intro K
  clear hrK
  refine WO_seg 3 [(19, .bool (y1.2 == 0))] kr kr ?_
  rcases bcases (y1.2 == 0) with hc | hc
  ·rw [if_pos hc] at hr
   refine WO_fact (t := 19) (b := true) (y1.2 == 0) kr hc ?_
   refine WO_seg 4 [(23, .bool (y2.2 == 0))] kr kr ?_
   rcases bcases (y2.2 == 0) with hc | hc
   ·rw [if_pos hc] at hr
    refine WO_fact (t := 23) (b := true) (y2.2 == 0) kr hc ?_
    refine WO_one rfl (One_load_own (d := 24) (t := 29) (x := (.tmp 1)) (.agg #[.int .i64 y1.1.1, .string y1.1.2.1, .string y1.1.2.2]) kr rfl (ev (.pointer (some ⟨b1, 0, none⟩))) st.tail.head kr ?_)
    refine WO_seg 1 [(25, .agg #[.int .i64 6, .string (⟨#[112]⟩ : ByteArray), .string (⟨#[]⟩ : ByteArray)])] kr kr ?_
    refine WO_one rfl (One_eqAgg (d := 26) (t := 29) (t2 := 29) (x := (.tmp 24)) (y := (.tmp 25)) (xs := #[.int .i64 y1.1.1, .string y1.1.2.1, .string y1.1.2.2]) (ys := #[.int .i64 6, .string (⟨#[112]⟩ : ByteArray), .string (⟨#[]⟩ : ByteArray)]) ((y1.1.1 == 6) && ((y1.1.2.1.toList == (⟨#[112]⟩ : ByteArray).toList) && ((y1.1.2.2.toList == (⟨#[]⟩ : ByteArray).toList) && true))) kr rfl (ev (.agg #[.int .i64 y1.1.1, .string y1.1.2.1, .string y1.1.2.2])) (ev (.agg #[.int .i64 6, .string (⟨#[112]⟩ : ByteArray), .string (⟨#[]⟩ : ByteArray)])) kr kr kr ?_)
    refine WO_seg 2 [(28, .bool ((y1.1.1 == 6) && ((y1.1.2.1.toList == (⟨#[112]⟩ : ByteArray).toList) && ((y1.1.2.2.toList == (⟨#[]⟩ : ByteArray).toList) && true))))] kr kr ?_
    rcases bcases ((y1.1.1 == 6) && ((y1.1.2.1.toList == (⟨#[112]⟩ : ByteArray).toList) && ((y1.1.2.2.toList == (⟨#[]⟩ : ByteArray).toList) && true))) with hc | hc
    ·rw [if_pos hc] at hr
     refine WO_fact (t := 28) (b := true) ((y1.1.1 == 6) && ((y1.1.2.1.toList == (⟨#[112]⟩ : ByteArray).toList) && ((y1.1.2.2.toList == (⟨#[]⟩ : ByteArray).toList) && true))) kr hc ?_
     refine WO_seg 5 [(33, .bool ((List.length y2.1 : Int) == 1))] kr kr ?_
     rcases bcases ((List.length y2.1 : Int) == 1) with hc | hc
     ·rw [if_pos hc] at hr
      refine WO_fact (t := 33) (b := true) ((List.length y2.1 : Int) == 1) kr hc ?_
      refine WO_seg 1 [(34, .slice a1 (List.length y2.1) c1)] kr kr ?_
      replace ⟨x1, hx3, hr⟩ := bindS hr
      refine WO_one rfl (One_index (d := 35) (t := 23) (e := 29) (x := (.tmp 34)) (y := (.const (.int .i64 0))) (cPair (cInt .i64) (cPair cStr cStr)) kr rfl (ev (.slice a1 (List.length y2.1) c1)) (ev (.int .i64 0)) kr r2 hx3 ?_)
      rintro b3 f1 cs1 ⟨_, _, rfl, rfl, ⟨_, _, rfl, rfl, rfl⟩⟩ hq1
      refine WO_seg 1 [(36, .pointer (some ⟨b3, f1, none⟩))] kr kr ?_
      refine WO_one rfl (One_load_row (d := 37) (t := 3) (x := (.tmp 36)) (.int .i64 x1.1) kr rfl (ev (.pointer (some ⟨b3, f1, none⟩))) st hq1 kr ?_)
      refine WO_seg 3 [(40, .bool (x1.1 == 7))] kr kr ?_
      rcases bcases (x1.1 == 7) with hc | hc
      ·rw [if_pos hc] at hr
       refine WO_fact (t := 40) (b := true) (x1.1 == 7) kr hc ?_
       replace ⟨y3, hx4, hr⟩ := bindS hr
       refine WO_one rfl (One_fn 41 13 #[.int .i64 1, .int .i64 2] kr rfl ?_)
       refine (level_Finer_ok st hx4).mono ?_
       clear st
       rintro _ w7 ⟨m5, rfl, hle4, st⟩
       refine ⟨_, rfl, ?_⟩
       have hm := Mem.le_trans hm hle4
       have r2 := r2.mono hle4
       have hq1 := hq1.mono hle4
       refine WO_seg 2 [(0, .bool y3)] kr kr ?_
       obtain rfl := Option.some.inj hr
       have st := st.front1
       exact WO_env _ kr (K _ _ ⟨m5, rfl, hm, st⟩)
      ·rw [if_neg (not_true hc)] at hr
       refine WO_fact (t := 40) (b := false) (x1.1 == 7) kr hc ?_
       refine WO_seg 3 [(0, .bool false)] kr kr ?_
       obtain rfl := Option.some.inj hr
       have st := st.front1
       exact WO_env _ kr (K _ _ ⟨m3, rfl, hm, st⟩)
     ·rw [if_neg (not_true hc)] at hr
      refine WO_fact (t := 33) (b := false) ((List.length y2.1 : Int) == 1) kr hc ?_
      refine WO_seg 10 [(0, .bool false)] kr kr ?_
      obtain rfl := Option.some.inj hr
      have st := st.front1
      exact WO_env _ kr (K _ _ ⟨m3, rfl, hm, st⟩)
    ·rw [if_neg (not_true hc)] at hr
     refine WO_fact (t := 28) (b := false) ((y1.1.1 == 6) && ((y1.1.2.1.toList == (⟨#[112]⟩ : ByteArray).toList) && ((y1.1.2.2.toList == (⟨#[]⟩ : ByteArray).toList) && true))) kr hc ?_
     refine WO_seg 15 [(0, .bool false)] kr kr ?_
     obtain rfl := Option.some.inj hr
     have st := st.front1
     exact WO_env _ kr (K _ _ ⟨m3, rfl, hm, st⟩)
   ·rw [if_neg (not_true hc)] at hr
    refine WO_fact (t := 23) (b := false) (y2.2 == 0) kr hc ?_
    refine WO_seg 20 [(0, .bool false)] kr kr ?_
    obtain rfl := Option.some.inj hr
    have st := st.front1
    exact WO_env _ kr (K _ _ ⟨m3, rfl, hm, st⟩)
  ·rw [if_neg (not_true hc)] at hr
   refine WO_fact (t := 19) (b := false) (y1.2 == 0) kr hc ?_
   refine WO_seg 24 [(0, .bool false)] kr kr ?_
   obtain rfl := Option.some.inj hr
   have st := st.front1
   exact WO_env _ kr (K _ _ ⟨m3, rfl, hm, st⟩)
def testgatelaw12_LevelKeys_L1 (N : Nat) (s1 : (List (Int × ByteArray × ByteArray)) × Int × List (Int) × Int) : Option (((List (Int × ByteArray × ByteArray)) × Int × List (Int) × Int) ⊕ (((List (Int × ByteArray × ByteArray)) × List (Int) × Int))) :=
 if (decide (s1.2.1 > 0)) = true then ((testgatemake_Key N (s1.2.2.1, s1.2.2.2)).bind fun y2 => (appendS 40 s1.1 ([(y2.2.1, y2.2.2.1, y2.2.2.2)])).bind fun l2 => some (.inl (l2, IntKind.wrap .i64 (s1.2.1 - 1), y2.1.1, y2.1.2))) else (some (.inr (s1.1, s1.2.2.1, s1.2.2.2)))
def testgatelaw12_LevelKeys_L3 (N : Nat) (x1 : Int) (l4 : List (Int × ByteArray × ByteArray)) (s3 : Int) : Option ((Int) ⊕ ((Unit) ⊕ (Bool))) :=
 if (decide (s3 < (List.length l4 : Int))) = true then ((idx l4 s3).bind fun x2 => (level_Key N (x2.1, x2.2.1, x2.2.2) x1).bind fun y11 => (testgateref12_Key N (x2.1, x2.2.1, x2.2.2) x1).bind fun y12 => (if (!((y11.1.1 == y12.1.1) && ((y11.1.2.1.toList == y12.1.2.1.toList) && ((y11.1.2.2.toList == y12.1.2.2.toList) && true)))) = true then (some true) else (some (y11.2 != y12.2)) : Option (Bool)).bind fun o7 => if o7 = true then (some (.inr (.inr (false)))) else (some (.inl (IntKind.wrap .i64 (s3 + 1))))) else (some (.inr (.inl ())))
def testgatelaw12_LevelKeys_L2 (N : Nat) (p2 : Int) (p3 : Int) (o1 : (List (Int × ByteArray × ByteArray))) (o3 : (List (Int × ByteArray × ByteArray))) (s2 : Int) : Option ((Int) ⊕ ((Unit) ⊕ (Bool))) :=
 if (decide (s2 < (List.length ([1, 2, 3, 0, 4, p2]) : Int))) = true then ((idx ([1, 2, 3, 0, 4, p2]) s2).bind fun x1 => (level_Keys N o3 x1).bind fun y4 => (testgateref12_Keys N o3 x1).bind fun y5 => (if (y4.2 != y5.2) = true then (some true) else ((testgateref11_Same N y4.1 y5.1).bind fun y6 => if (!y6) = true then (some true) else ((level_Finer N x1 p3).bind fun y7 => (testgateref12_Finer N x1 p3).bind fun y8 => if (!(y7 == y8)) = true then (some true) else ((level_Finer N x1 2).bind fun y9 => (testgateref12_Finer N x1 2).bind fun y10 => some (!(y9 == y10))))) : Option (Bool)).bind fun o5 => if o5 = true then (some (.inr (.inr (false)))) else ((appendS 40 o3 o1).bind fun l4 => (loopM (testgatelaw12_LevelKeys_L3 N x1 l4) N 0).bind fun out3 => (match out3 with | .inl o6 => some (.inl (IntKind.wrap .i64 (s2 + 1))) | .inr (z) => some (.inr (.inr (z)))))) else (some (.inr (.inl ())))
def testgatelaw12_LevelKeys (N : Nat) (p0 : List Int) (p1 : List (Int × ByteArray × ByteArray)) (p2 : Int) (p3 : Int) : Option (Bool) :=
 (if (decide ((List.length p1 : Int) > 5)) = true then ((subS p1 0 5).bind fun l1 => some l1) else (some p1) : Option ((List (Int × ByteArray × ByteArray)))).bind fun o1 => (testgatemake_Tape_Next N (p0, 0) 8).bind fun y1 => (loopM (testgatelaw12_LevelKeys_L1 N) N (([] : List (Int × ByteArray × ByteArray)), y1.2, y1.1.1, y1.1.2)).bind fun o2 => (testgatemake_Tape_Chance N (o2.2.1, o2.2.2) 1 4).bind fun y3 => (if y3.2 = true then ((appendS 40 o2.1 o1).bind fun l3 => some l3) else (some o2.1) : Option ((List (Int × ByteArray × ByteArray)))).bind fun o3 => (loopM (testgatelaw12_LevelKeys_L2 N p2 p3 o1 o3) N 0).bind fun out2 => (match out2 with | .inl o4 => (testgatelaw12_awake N).bind fun y13 => some y13 | .inr (z) => some z)
set_option maxHeartbeats 4000000 in
set_option maxRecDepth 100000 in
theorem testgatelaw12_LevelKeys_ok {N : Nat} {m : Mem} {own : List Piece} {w : World} {p0 : List Int} {p1 : List (Int × ByteArray × ByteArray)} {p2 : Int} {p3 : Int} {a1 : Option Addr} {c1 : Nat} {a2 : Option Addr} {c2 : Nat} {r : Bool} (st : St m (own) w) (r1 : RepS (cInt .i64) m a1 c1 p0) (r2 : RepS (cPair (cInt .i64) (cPair cStr cStr)) m a2 c2 p1) (hr : testgatelaw12_LevelKeys N p0 p1 p2 p3 = some r) : Calls Tryd.prog 3 #[.slice a1 (List.length p0) c1, .slice a2 (List.length p1) c2, .int .i64 p2, .int .i64 p3] w fun e w' => ∃ (m' : Mem), e = .returned (.bool r) ∧ m.le m' ∧ St m' (own) w' := by
 unfold testgatelaw12_LevelKeys at hr
 have hm := m.le_refl
 refine W_calls Tryd.func3 rfl Tryd.ntmps3 [(0, .slice a1 (List.length p0) c1), (1, .slice a2 (List.length p1) c2), (2, .int .i64 p2), (3, .int .i64 p3)] kr rfl ?_
 refine W_sr (WO_seg 1 [] kr kr ?_)
 refine WO_et rfl (W_sr ?_)
 refine WO_seg 2 [(25, .agg #[.slice a1 (List.length p0) c1, .int .i64 0])] kr kr ?_
 refine WO_one rfl (One_box_own (d := 26) (e := 26) (x := (.tmp 25)) (.agg #[.slice a1 (List.length p0) c1, .int .i64 0]) kr rfl kr st ?_)
 clear st
 intro b1 w1 st
 refine WO_seg 1 [(9, .pointer (some ⟨b1, 0, none⟩))] kr kr ?_
 refine WO_et rfl (W_seq ?_)
 refine W_sr (WO_seg 3 [(29, .bool (decide ((List.length p1 : Int) > 5)))] kr kr ?_)
 refine WO_et rfl ?_
 replace ⟨o1, hr, hrKu1⟩ := bindS hr
 refine W_cut .normal (fun L' w' => ∃ (a3 : Option Addr) (c3 : Nat) (m2 : Mem), L' = [(1, .slice a3 (List.length o1) c3), (2, .int .i64 p2), (3, .int .i64 p3), (9, .pointer (some ⟨b1, 0, none⟩))] ∧ m.le m2 ∧ St m2 (.blk b1 (.cells #[.slice a1 (List.length p0) c1, .int .i64 0] 26 (0, 0)) :: own) w' ∧ RepS (cPair (cInt .i64) (cPair cStr cStr)) m2 a3 c3 o1 ∧ RepS (cInt .i64) m2 a1 c1 p0) ?_ ?_
 ·clear hr st
  have hr := hrKu1
  clear hrKu1
  rintro _ w2 ⟨a3, c3, m2, rfl, hm, st, r3, r1⟩
  refine X_then ?_
  refine W_sr (WO_seg 1 [(10, .slice none (List.length ([] : List (Int × ByteArray × ByteArray))) 0)] kr kr ?_)
  refine WO_et rfl (W_seq ?_)
  refine W_sr (WO_seg 1 [(32, .pointer (some ⟨b1, 0, none⟩))] kr kr ?_)
  replace ⟨y1, hx2, hr⟩ := bindS hr
  refine WO_one rfl (One_fn 33 7 #[.pointer (some ⟨b1, 0, none⟩), .int .i64 8] kr rfl ?_)
  refine (testgatemake_Tape_Next_ok st r1 hx2).mono ?_
  clear st
  rintro _ w3 ⟨a5, c5, m3, rfl, hle2, st, r5⟩
  refine ⟨_, rfl, ?_⟩
  have hm := Mem.le_trans hm hle2
  have r3 := r3.mono hle2
  have r1 := r1.mono hle2
  refine WO_seg 1 [(11, .int .i64 y1.2)] kr kr ?_
  refine WO_et rfl (W_block ?_)
  replace ⟨out1, hr, hrKu2⟩ := bindS hr
  refine W_cut (.exit 0) (fun L' w' => ∃ (o2 : (List (Int × ByteArray × ByteArray)) × List (Int) × Int) (a6 : Option Addr) (c6 : Nat) (a7 : Option Addr) (c7 : Nat) (m4 : Mem), o2 = out1 ∧ L' = [(1, .slice a3 (List.length o1) c3), (2, .int .i64 p2), (3, .int .i64 p3), (9, .pointer (some ⟨b1, 0, none⟩)), (10, .slice a6 (List.length o2.1) c6)] ∧ m.le m4 ∧ St m4 (.blk b1 (.cells #[.slice a7 (List.length o2.2.1) c7, .int .i64 o2.2.2] 26 (0, 0)) :: .room a6 (List.length o2.1) c6 29 3 :: own) w' ∧ RepS (cPair (cInt .i64) (cPair cStr cStr)) m4 a3 c3 o1 ∧ RepS (cPair (cInt .i64) (cPair cStr cStr)) m4 a6 c6 o2.1 ∧ RepS (cInt .i64) m4 a7 c7 o2.2.1) ?_ ?_
  ·clear hr st
   rintro _ w4 ⟨o2, a6, c6, a7, c7, m4, rfl, rfl, hm, st, r3, r6, r7⟩
   have hr := hrKu2
   clear hrKu2
   refine X_block_eq ?_
   refine X_then ?_
   refine W_seq ?_
   refine W_sr (WO_seg 1 [(43, .pointer (some ⟨b1, 0, none⟩))] kr kr ?_)
   replace ⟨y3, hx5, hr⟩ := bindS hr
   refine WO_one rfl (One_fn 44 9 #[.pointer (some ⟨b1, 0, none⟩), .int .i64 1, .int .i64 4] kr rfl ?_)
   refine (testgatemake_Tape_Chance_ok st r7 hx5).mono ?_
   clear st
   rintro _ w9 ⟨a12, c12, m9, rfl, hle6, st, r13⟩
   refine ⟨_, rfl, ?_⟩
   have hm := Mem.le_trans hm hle6
   have r3 := r3.mono hle6
   have r6 := r6.mono hle6
   have r7 := r7.mono hle6
   refine WO_et rfl ?_
   replace ⟨o3, hr, hrKu3⟩ := bindS hr
   refine W_cut .normal (fun L' w' => ∃ (a13 : Option Addr) (c13 : Nat) (m10 : Mem), L' = [(1, .slice a3 (List.length o1) c3), (2, .int .i64 p2), (3, .int .i64 p3), (10, .slice a13 (List.length o3) c13)] ∧ m.le m10 ∧ St m10 (.blk b1 (.cells #[.slice a12 (List.length y3.1.1) c12, .int .i64 y3.1.2] 26 (0, 0)) :: .room a13 (List.length o3) c13 29 3 :: own) w' ∧ RepS (cPair (cInt .i64) (cPair cStr cStr)) m10 a3 c3 o1 ∧ RepS (cPair (cInt .i64) (cPair cStr cStr)) m10 a13 c13 o3 ∧ RepS (cInt .i64) m10 a12 c12 y3.1.1) ?_ ?_
   ·clear hr st
    have hr := hrKu3
    clear hrKu3
    rintro _ w10 ⟨a13, c13, m10, rfl, hm, st, r3, r14, r13⟩
    refine X_then ?_
    refine W_seq ?_
    refine W_sr (WO_seg 1 [(48, .int .i64 p2)] kr kr ?_)
    refine WO_one rfl (One_buildSlice (d := 49) (t := 22) (e := 3) (len := 6) (parts := #[(0, (.const (.int .i64 1))), (1, (.const (.int .i64 2))), (2, (.const (.int .i64 3))), (3, (.const (.int .i64 0))), (4, (.const (.int .i64 4))), (5, (.tmp 48))]) (cInt .i64) (xs := [1, 2, 3, 0, 4, p2]) [.int .i64 1, .int .i64 2, .int .i64 3, .int .i64 0, .int .i64 4, .int .i64 p2] kr rfl (fun _ => buildCells_run kr _) rfl rfl st ⟨[.int .i64 1], _, rfl, rfl, ⟨[.int .i64 2], _, rfl, rfl, ⟨[.int .i64 3], _, rfl, rfl, ⟨[.int .i64 0], _, rfl, rfl, ⟨[.int .i64 4], _, rfl, rfl, ⟨[.int .i64 p2], _, rfl, rfl, rfl⟩⟩⟩⟩⟩⟩ ?_)
    clear st
    intro b3 m12 w12 hle8 st r16
    have hm := Mem.le_trans hm hle8
    have r3 := r3.mono hle8
    have r14 := r14.mono hle8
    have r13 := r13.mono hle8
    refine WO_seg 2 [(50, .int .i64 (List.length ([1, 2, 3, 0, 4, p2]) : Int)), (51, .int .i64 0)] kr kr ?_
    refine WO_et rfl (W_block ?_)
    replace ⟨out2, hr, hrKu4⟩ := bindS hr
    refine W_cut (.exit 2) (fun L' w' => ∃ (o4 : Unit) (m13 : Mem), (.inl o4) = out2 ∧ L' = [] ∧ m.le m13 ∧ St m13 (.blk b1 (.cells #[.slice a12 (List.length y3.1.1) c12, .int .i64 y3.1.2] 26 (0, 0)) :: .room (some ⟨b3, 0, none⟩) (List.length ([1, 2, 3, 0, 4, p2])) 6 3 1 :: .room a13 (List.length o3) c13 29 3 :: own) w' ∧ RepS (cInt .i64) m13 a12 c12 y3.1.1) ?_ ?_
    ·clear hr st
     rintro _ w13 ⟨o4, m13, rfl, rfl, hm, st, r13⟩
     have hr := hrKu4
     clear hrKu4
     dsimp only at hr
     refine X_block_eq ?_
     refine X_then ?_
     refine W_sr ?_
     replace ⟨y13, hx19, hr⟩ := bindS hr
     refine WO_one rfl (One_fn 122 17 #[] kr rfl ?_)
     refine (testgatelaw12_awake_ok st hx19).mono ?_
     clear st
     rintro _ w35 ⟨m29, rfl, hle19, st⟩
     refine ⟨_, rfl, ?_⟩
     have hm := Mem.le_trans hm hle19
     have r13 := r13.mono hle19
     refine WO_seg 1 [(8, .bool y13)] kr kr ?_
     refine WO_end rfl ?_
     have st := st.front1
     have st := st.tail
     have st := st.front1
     have st := st.tail
     refine X_then ?_
     refine W_ret ?_
     obtain rfl := Option.some.inj hr
     refine X_ret [.tmp 8] [.bool y13] rfl (ResAll.cons (ResAt.tmp kr) ResAll.nil) ?_
     have st := st.tail
     exact ⟨m29, rfl, hm, st⟩
    intro K2_u4
    have st := st.front2.front1.front2
    refine W_env _ kr (W_loop (fun k2 L' w' => ∃ (s2 : Int) (m14 : Mem), loopM (testgatelaw12_LevelKeys_L2 N p2 p3 o1 o3) k2 s2 = some out2 ∧ L' = [(1, .slice a3 (List.length o1) c3), (3, .int .i64 p3), (10, .slice a13 (List.length o3) c13), (49, .slice (some ⟨b3, 0, none⟩) (List.length ([1, 2, 3, 0, 4, p2])) 6), (50, .int .i64 (List.length ([1, 2, 3, 0, 4, p2]) : Int)), (51, .int .i64 s2)] ∧ m.le m14 ∧ St m14 (.blk b1 (.cells #[.slice a12 (List.length y3.1.1) c12, .int .i64 y3.1.2] 26 (0, 0)) :: .room (some ⟨b3, 0, none⟩) (List.length ([1, 2, 3, 0, 4, p2])) 6 3 1 :: .room a13 (List.length o3) c13 29 3 :: own) w' ∧ RepS (cPair (cInt .i64) (cPair cStr cStr)) m14 a3 c3 o1 ∧ RepS (cPair (cInt .i64) (cPair cStr cStr)) m14 a13 c13 o3 ∧ RepS (cInt .i64) m14 (some ⟨b3, 0, none⟩) 6 ([1, 2, 3, 0, 4, p2]) ∧ RepS (cInt .i64) m14 a12 c12 y3.1.1) N ⟨0, m12, hr, rfl, hm, st, r3, r14, r16, r13⟩ ?_)
    clear st hr
    rintro k2 _ w14 ⟨s2, m14, hL, rfl, hm, st, r3, r14, r16, r13⟩
    rcases k2 with _ | k2
    ·exact loopM_zero hL
    ·obtain ⟨qu4, hr, hSu4, hBu4⟩ := loopM_succ hL
     clear hL
     unfold testgatelaw12_LevelKeys_L2 at hr
     refine W_sr (WO_seg 1 [(52, .bool (decide (s2 < (List.length ([1, 2, 3, 0, 4, p2]) : Int))))] kr kr ?_)
     refine WO_et rfl (W_seq ?_)
     refine W_cond (decide (s2 < (List.length ([1, 2, 3, 0, 4, p2]) : Int))) kr ?_ ?_
     ·intro hc
      rw [if_pos hc] at hr
      refine W_skip ?_
      refine X_then ?_
      refine W_seq ?_
      refine W_block ?_
      refine W_sr ?_
      replace ⟨x1, hx7, hr⟩ := bindS hr
      refine WO_one rfl (One_index (d := 53) (t := 22) (e := 3) (x := (.tmp 49)) (y := (.tmp 51)) (cInt .i64) kr rfl (ev (.slice (some ⟨b3, 0, none⟩) (List.length ([1, 2, 3, 0, 4, p2])) 6)) (ev (.int .i64 s2)) kr r16 hx7 ?_)
      rintro b4 f1 cs1 rfl hq1
      refine WO_one rfl (One_load_row (d := 54) (t := 3) (x := (.tmp 53)) (.int .i64 x1) kr rfl (ev (.pointer (some ⟨b4, f1, none⟩))) st hq1 kr ?_)
      refine WO_seg 1 [(13, .int .i64 x1)] kr kr ?_
      refine WO_et rfl (W_sr ?_)
      refine WO_seg 2 [(56, .slice a13 (List.length o3) c13), (57, .int .i64 x1)] kr kr ?_
      replace ⟨y4, hx8, hr⟩ := bindS hr
      refine WO_one rfl (One_fn 58 10 #[.slice a13 (List.length o3) c13, .int .i64 x1] kr rfl ?_)
      refine (level_Keys_ok st r14 hx8).mono ?_
      clear st
      rintro _ w15 ⟨a15, c15, m15, rfl, hle9, st, r17⟩
      refine ⟨_, rfl, ?_⟩
      have hm := Mem.le_trans hm hle9
      have r3 := r3.mono hle9
      have r14 := r14.mono hle9
      have r16 := r16.mono hle9
      have r13 := r13.mono hle9
      refine WO_seg 5 [(14, .slice a15 (List.length y4.1) c15), (15, .int .i64 y4.2)] kr kr ?_
      refine WO_et rfl (W_sr ?_)
      refine WO_seg 2 [(62, .slice a13 (List.length o3) c13), (63, .int .i64 x1)] kr kr ?_
      replace ⟨y5, hx9, hr⟩ := bindS hr
      refine WO_one rfl (One_fn 64 11 #[.slice a13 (List.length o3) c13, .int .i64 x1] kr rfl ?_)
      refine (testgateref12_Keys_ok st r14 hx9).mono ?_
      clear st
      rintro _ w16 ⟨a16, c16, m16, rfl, hle10, st, r18⟩
      refine ⟨_, rfl, ?_⟩
      have hm := Mem.le_trans hm hle10
      have r3 := r3.mono hle10
      have r14 := r14.mono hle10
      have r16 := r16.mono hle10
      have r17 := r17.mono hle10
      have r13 := r13.mono hle10
      refine WO_seg 5 [(16, .slice a16 (List.length y5.1) c16), (17, .int .i64 y5.2)] kr kr ?_
      refine WO_et rfl (W_seq ?_)
      refine W_sr ?_
      replace ⟨o5, hr, hrK⟩ := bindS hr
      refine WO_cut (j := 25) (fun L' w' => ∃ (m17 : Mem), L' = [(1, .slice a3 (List.length o1) c3), (3, .int .i64 p3), (10, .slice a13 (List.length o3) c13), (13, .int .i64 x1), (49, .slice (some ⟨b3, 0, none⟩) (List.length ([1, 2, 3, 0, 4, p2])) 6), (50, .int .i64 (List.length ([1, 2, 3, 0, 4, p2]) : Int)), (51, .int .i64 s2), (91, .bool o5)] ∧ m.le m17 ∧ St m17 (.blk b1 (.cells #[.slice a12 (List.length y3.1.1) c12, .int .i64 y3.1.2] 26 (0, 0)) :: .room a16 (List.length y5.1) c16 29 3 :: .room a15 (List.length y4.1) c15 29 3 :: .room (some ⟨b3, 0, none⟩) (List.length ([1, 2, 3, 0, 4, p2])) 6 3 1 :: .room a13 (List.length o3) c13 29 3 :: own) w' ∧ RepS (cPair (cInt .i64) (cPair cStr cStr)) m17 a3 c3 o1 ∧ RepS (cPair (cInt .i64) (cPair cStr cStr)) m17 a13 c13 o3 ∧ RepS (cInt .i64) m17 (some ⟨b3, 0, none⟩) 6 ([1, 2, 3, 0, 4, p2]) ∧ RepS (cInt .i64) m17 a12 c12 y3.1.1) ?_ ?_
      ·clear hr st
       have hr := hrK
       clear hrK
       rintro _ w17 ⟨m17, rfl, hm, st, r3, r14, r16, r13⟩
       refine WO_et rfl (W_cond o5 kr ?_ ?_)
       ·intro hc
        rw [if_pos hc] at hr
        refine W_sr (WO_seg 1 [(8, .bool false)] kr kr ?_)
        refine WO_end rfl ?_
        have st := st.front1
        have st := st.tail
        have st := st.front1
        have st := st.tail
        have st := st.front1
        have st := st.tail
        have st := st.front1
        have st := st.tail
        refine X_then ?_
        refine W_ret ?_
        refine X_then_ret ?_
        refine X_block_ret ?_
        refine X_then_ret ?_
        obtain rfl := Option.some.inj hr
        have ho := hBu4 _ rfl
        subst ho
        have hr := hrKu4
        dsimp only at hr
        refine X_then_ret ?_
        refine X_block_ret ?_
        refine X_then_ret ?_
        obtain rfl := Option.some.inj hr
        refine X_ret [.tmp 8] [.bool false] rfl (ResAll.cons (ResAt.tmp kr) ResAll.nil) ?_
        have st := st.tail
        exact ⟨m17, rfl, hm, st⟩
       ·intro hc
        rw [if_neg (not_true hc)] at hr
        refine W_skip ?_
        refine X_then ?_
        refine W_sr (WO_seg 2 [(92, .slice a13 (List.length o3) c13), (93, .slice a3 (List.length o1) c3)] kr kr ?_)
        have st := st.front4
        replace ⟨l4, hx15, hr⟩ := bindS hr
        refine WO_one rfl (One_appendL (d := 94) (t := 23) (u := 23) (e := 29) (by_ := 40) (x := (.tmp 92)) (y := (.tmp 93)) (cPair (cInt .i64) (cPair cStr cStr)) [.blk b1 (.cells #[.slice a12 (List.length y3.1.1) c12, .int .i64 y3.1.2] 26 (0, 0)), .room a16 (List.length y5.1) c16 29 3, .room a15 (List.length y4.1) c15 29 3, .room (some ⟨b3, 0, none⟩) (List.length ([1, 2, 3, 0, 4, p2])) 6 3 1] kr rfl (ev (.slice a13 (List.length o3) c13)) (ev (.slice a3 (List.length o1) c3)) st kr (.inl kr) r14 r3.src hx15 ?_)
        clear st
        intro R1 a17 c17 m23 w23 hle16 hR1 hB1 st r19
        have rL1 := r3
        have rL2 := r14
        have rL3 := r16
        have rL4 := r13
        have rL5 := hm
        have hlo1 := hle16
        have hm := Mem.le_trans hm hle16
        have r3 := r3.mono hle16
        have r14 := r14.mono hle16
        have r16 := r16.mono hle16
        have r13 := r13.mono hle16
        have st : St m23 (.room a17 (List.length l4) c17 29 3 :: .blk b1 (.cells #[.slice a12 (List.length y3.1.1) c12, .int .i64 y3.1.2] 26 (0, 0)) :: .room a16 (List.length y5.1) c16 29 3 :: .room a15 (List.length y4.1) c15 29 3 :: .room (some ⟨b3, 0, none⟩) (List.length ([1, 2, 3, 0, 4, p2])) 6 3 1 :: (R1 ++ own)) w23 := st
        refine WO_seg 2 [(95, .int .i64 (List.length l4 : Int)), (96, .int .i64 0)] kr kr ?_
        refine WO_end rfl ?_
        have st := st.front2
        have st := st.tail
        have st := st.front2
        have st := st.tail
        refine X_then ?_
        refine W_block ?_
        replace ⟨out3, hr, hrKu5⟩ := bindS hr
        refine W_cut (.exit 4) (fun L' w' => ∃ (o6 : Unit) (m24 : Mem), (.inl o6) = out3 ∧ L' = [(1, .slice a3 (List.length o1) c3), (3, .int .i64 p3), (10, .slice a13 (List.length o3) c13), (49, .slice (some ⟨b3, 0, none⟩) (List.length ([1, 2, 3, 0, 4, p2])) 6), (50, .int .i64 (List.length ([1, 2, 3, 0, 4, p2]) : Int)), (51, .int .i64 s2)] ∧ m.le m24 ∧ m17.le m24 ∧ St m24 (.blk b1 (.cells #[.slice a12 (List.length y3.1.1) c12, .int .i64 y3.1.2] 26 (0, 0)) :: .room a17 (List.length l4) c17 29 3 :: .room (some ⟨b3, 0, none⟩) (List.length ([1, 2, 3, 0, 4, p2])) 6 3 1 :: (R1 ++ own)) w' ∧ RepS (cPair (cInt .i64) (cPair cStr cStr)) m24 a3 c3 o1 ∧ RepS (cPair (cInt .i64) (cPair cStr cStr)) m24 a13 c13 o3 ∧ RepS (cInt .i64) m24 (some ⟨b3, 0, none⟩) 6 ([1, 2, 3, 0, 4, p2]) ∧ RepS (cInt .i64) m24 a12 c12 y3.1.1) ?_ ?_
        ·clear hr st
         rintro _ w24 ⟨o6, m24, rfl, rfl, hm, hlo1, st, r3, r14, r16, r13⟩
         have hr := hrKu5
         clear hrKu5
         dsimp only at hr
         refine X_block_eq ?_
         refine X_block ?_
         refine X_then ?_
         refine W_region ?_
         refine WO_seg 2 [(51, .int .i64 (IntKind.wrap .i64 (s2 + 1)))] kr kr ?_
         refine WO_end rfl ?_
         obtain rfl := Option.some.inj hr
         have hL := hSu4 _ rfl
         have st := st.front1
         have st := St.back [.blk b1 (.cells #[.slice a12 (List.length y3.1.1) c12, .int .i64 y3.1.2] 26 (0, 0)), .room (some ⟨b3, 0, none⟩) (List.length ([1, 2, 3, 0, 4, p2])) 6 3 1] hB1 hlo1 st hR1
         have st : St m17 (.room a13 (List.length o3) c13 29 3 :: .blk b1 (.cells #[.slice a12 (List.length y3.1.1) c12, .int .i64 y3.1.2] 26 (0, 0)) :: .room (some ⟨b3, 0, none⟩) (List.length ([1, 2, 3, 0, 4, p2])) 6 3 1 :: own) w24 := st
         have r3 := rL1
         have r14 := rL2
         have r16 := rL3
         have r13 := rL4
         have hm := rL5
         have st := st.front2.front2
         exact X_env _ kr (X_round k2 (Nat.lt_succ_self _) ⟨IntKind.wrap .i64 (s2 + 1), m17, hL, rfl, hm, st, r3, r14, r16, r13⟩)
        intro K4_u5
        have st := st.front2.front1.front2
        refine W_env _ kr (W_loop (fun k3 L' w' => ∃ (s3 : Int) (m25 : Mem), loopM (testgatelaw12_LevelKeys_L3 N x1 l4) k3 s3 = some out3 ∧ L' = [(1, .slice a3 (List.length o1) c3), (3, .int .i64 p3), (10, .slice a13 (List.length o3) c13), (13, .int .i64 x1), (49, .slice (some ⟨b3, 0, none⟩) (List.length ([1, 2, 3, 0, 4, p2])) 6), (50, .int .i64 (List.length ([1, 2, 3, 0, 4, p2]) : Int)), (51, .int .i64 s2), (94, .slice a17 (List.length l4) c17), (95, .int .i64 (List.length l4 : Int)), (96, .int .i64 s3)] ∧ m.le m25 ∧ m17.le m25 ∧ St m25 (.blk b1 (.cells #[.slice a12 (List.length y3.1.1) c12, .int .i64 y3.1.2] 26 (0, 0)) :: .room a17 (List.length l4) c17 29 3 :: .room (some ⟨b3, 0, none⟩) (List.length ([1, 2, 3, 0, 4, p2])) 6 3 1 :: (R1 ++ own)) w' ∧ RepS (cPair (cInt .i64) (cPair cStr cStr)) m25 a3 c3 o1 ∧ RepS (cPair (cInt .i64) (cPair cStr cStr)) m25 a13 c13 o3 ∧ RepS (cInt .i64) m25 (some ⟨b3, 0, none⟩) 6 ([1, 2, 3, 0, 4, p2]) ∧ RepS (cPair (cInt .i64) (cPair cStr cStr)) m25 a17 c17 l4 ∧ RepS (cInt .i64) m25 a12 c12 y3.1.1) N ⟨0, m23, hr, rfl, hm, hlo1, st, r3, r14, r16, r19, r13⟩ ?_)
        clear st hr
        rintro k3 _ w25 ⟨s3, m25, hL, rfl, hm, hlo1, st, r3, r14, r16, r19, r13⟩
        rcases k3 with _ | k3
        ·exact loopM_zero hL
        ·obtain ⟨qu5, hr, hSu5, hBu5⟩ := loopM_succ hL
         clear hL
         unfold testgatelaw12_LevelKeys_L3 at hr
         refine W_sr (WO_seg 1 [(97, .bool (decide (s3 < (List.length l4 : Int))))] kr kr ?_)
         refine WO_et rfl (W_seq ?_)
         refine W_cond (decide (s3 < (List.length l4 : Int))) kr ?_ ?_
         ·intro hc
          rw [if_pos hc] at hr
          refine W_skip ?_
          refine X_then ?_
          refine W_seq ?_
          refine W_block ?_
          refine W_sr ?_
          replace ⟨x2, hx16, hr⟩ := bindS hr
          refine WO_one rfl (One_index (d := 98) (t := 23) (e := 29) (x := (.tmp 94)) (y := (.tmp 96)) (cPair (cInt .i64) (cPair cStr cStr)) kr rfl (ev (.slice a17 (List.length l4) c17)) (ev (.int .i64 s3)) kr r19 hx16 ?_)
          rintro b5 f2 cs2 ⟨_, _, rfl, rfl, ⟨_, _, rfl, rfl, rfl⟩⟩ hq2
          refine WO_one rfl (One_load_row (d := 99) (t := 29) (x := (.tmp 98)) (.agg #[.int .i64 x2.1, .string x2.2.1, .string x2.2.2]) kr rfl (ev (.pointer (some ⟨b5, f2, none⟩))) st hq2 kr ?_)
          refine WO_one rfl (One_alloc (d := 19) (e := 29) (.agg #[.int .i64 0, .string (⟨#[]⟩ : ByteArray), .string (⟨#[]⟩ : ByteArray)]) kr rfl kr st ?_)
          clear st
          intro b6 w26 st
          refine WO_one rfl (One_store (t := 29) (x := (.tmp 19)) (y := (.tmp 99)) (v := .agg #[.int .i64 x2.1, .string x2.2.1, .string x2.2.2]) (c' := #[.int .i64 x2.1, .string x2.2.1, .string x2.2.2]) kr (ev (.pointer (some ⟨b6, 0, none⟩))) (ev (.agg #[.int .i64 x2.1, .string x2.2.1, .string x2.2.2])) st kr kr ?_)
          clear st
          intro w27 st
          refine WO_et rfl (W_sr ?_)
          refine WO_one rfl (One_load_own (d := 101) (t := 29) (x := (.tmp 19)) (.agg #[.int .i64 x2.1, .string x2.2.1, .string x2.2.2]) kr rfl (ev (.pointer (some ⟨b6, 0, none⟩))) st.head kr ?_)
          refine WO_seg 1 [(102, .int .i64 x1)] kr kr ?_
          replace ⟨y11, hx17, hr⟩ := bindS hr
          refine WO_one rfl (One_fn 103 15 #[.agg #[.int .i64 x2.1, .string x2.2.1, .string x2.2.2], .int .i64 x1] kr rfl ?_)
          refine (level_Key_ok st hx17).mono ?_
          clear st
          rintro _ w28 ⟨m26, rfl, hle17, st⟩
          refine ⟨_, rfl, ?_⟩
          have hm := Mem.le_trans hm hle17
          have r3 := r3.mono hle17
          have r14 := r14.mono hle17
          have r16 := r16.mono hle17
          have r19 := r19.mono hle17
          have r13 := r13.mono hle17
          have hlo1 := Mem.le_trans hlo1 hle17
          refine WO_seg 3 [(104, .agg #[.int .i64 y11.1.1, .string y11.1.2.1, .string y11.1.2.2]), (105, .int .i64 y11.2)] kr kr ?_
          refine WO_one rfl (One_alloc (d := 20) (e := 29) (.agg #[.int .i64 0, .string (⟨#[]⟩ : ByteArray), .string (⟨#[]⟩ : ByteArray)]) kr rfl kr st ?_)
          clear st
          intro b7 w29 st
          refine WO_one rfl (One_store (t := 29) (x := (.tmp 20)) (y := (.tmp 104)) (v := .agg #[.int .i64 y11.1.1, .string y11.1.2.1, .string y11.1.2.2]) (c' := #[.int .i64 y11.1.1, .string y11.1.2.1, .string y11.1.2.2]) kr (ev (.pointer (some ⟨b7, 0, none⟩))) (ev (.agg #[.int .i64 y11.1.1, .string y11.1.2.1, .string y11.1.2.2])) st kr kr ?_)
          clear st
          intro w30 st
          refine WO_seg 1 [(21, .int .i64 y11.2)] kr kr ?_
          refine WO_et rfl (W_sr ?_)
          refine WO_one rfl (One_load_own (d := 107) (t := 29) (x := (.tmp 19)) (.agg #[.int .i64 x2.1, .string x2.2.1, .string x2.2.2]) kr rfl (ev (.pointer (some ⟨b6, 0, none⟩))) st.tail.head kr ?_)
          refine WO_seg 1 [(108, .int .i64 x1)] kr kr ?_
          replace ⟨y12, hx18, hr⟩ := bindS hr
          refine WO_one rfl (One_fn 109 16 #[.agg #[.int .i64 x2.1, .string x2.2.1, .string x2.2.2], .int .i64 x1] kr rfl ?_)
          refine (testgateref12_Key_ok st hx18).mono ?_
          clear st
          rintro _ w31 ⟨m27, rfl, hle18, st⟩
          refine ⟨_, rfl, ?_⟩
          have hm := Mem.le_trans hm hle18
          have r3 := r3.mono hle18
          have r14 := r14.mono hle18
          have r16 := r16.mono hle18
          have r19 := r19.mono hle18
          have r13 := r13.mono hle18
          have hlo1 := Mem.le_trans hlo1 hle18
          refine WO_seg 3 [(110, .agg #[.int .i64 y12.1.1, .string y12.1.2.1, .string y12.1.2.2]), (111, .int .i64 y12.2)] kr kr ?_
          refine WO_one rfl (One_alloc (d := 22) (e := 29) (.agg #[.int .i64 0, .string (⟨#[]⟩ : ByteArray), .string (⟨#[]⟩ : ByteArray)]) kr rfl kr st ?_)
          clear st
          intro b8 w32 st
          refine WO_one rfl (One_store (t := 29) (x := (.tmp 22)) (y := (.tmp 110)) (v := .agg #[.int .i64 y12.1.1, .string y12.1.2.1, .string y12.1.2.2]) (c' := #[.int .i64 y12.1.1, .string y12.1.2.1, .string y12.1.2.2]) kr (ev (.pointer (some ⟨b8, 0, none⟩))) (ev (.agg #[.int .i64 y12.1.1, .string y12.1.2.1, .string y12.1.2.2])) st kr kr ?_)
          clear st
          intro w33 st
          refine WO_seg 1 [(23, .int .i64 y12.2)] kr kr ?_
          refine WO_et rfl (W_sr ?_)
          replace ⟨o7, hr, hrK⟩ := bindS hr
          refine WO_cut (j := 8) (fun L' w' => ∃ (m28 : Mem), L' = [(1, .slice a3 (List.length o1) c3), (3, .int .i64 p3), (10, .slice a13 (List.length o3) c13), (13, .int .i64 x1), (49, .slice (some ⟨b3, 0, none⟩) (List.length ([1, 2, 3, 0, 4, p2])) 6), (50, .int .i64 (List.length ([1, 2, 3, 0, 4, p2]) : Int)), (51, .int .i64 s2), (94, .slice a17 (List.length l4) c17), (95, .int .i64 (List.length l4 : Int)), (96, .int .i64 s3), (119, .bool o7)] ∧ m.le m28 ∧ m17.le m28 ∧ St m28 (.blk b8 (.cells #[.int .i64 y12.1.1, .string y12.1.2.1, .string y12.1.2.2] 29 (0, 0)) :: .blk b7 (.cells #[.int .i64 y11.1.1, .string y11.1.2.1, .string y11.1.2.2] 29 (0, 0)) :: .blk b6 (.cells #[.int .i64 x2.1, .string x2.2.1, .string x2.2.2] 29 (0, 0)) :: .blk b1 (.cells #[.slice a12 (List.length y3.1.1) c12, .int .i64 y3.1.2] 26 (0, 0)) :: .room a17 (List.length l4) c17 29 3 :: .room (some ⟨b3, 0, none⟩) (List.length ([1, 2, 3, 0, 4, p2])) 6 3 1 :: (R1 ++ own)) w' ∧ RepS (cPair (cInt .i64) (cPair cStr cStr)) m28 a3 c3 o1 ∧ RepS (cPair (cInt .i64) (cPair cStr cStr)) m28 a13 c13 o3 ∧ RepS (cInt .i64) m28 (some ⟨b3, 0, none⟩) 6 ([1, 2, 3, 0, 4, p2]) ∧ RepS (cPair (cInt .i64) (cPair cStr cStr)) m28 a17 c17 l4 ∧ RepS (cInt .i64) m28 a12 c12 y3.1.1) ?_ ?_
          ·clear hr st
           have hr := hrK
           clear hrK
           rintro _ w34 ⟨m28, rfl, hm, hlo1, st, r3, r14, r16, r19, r13⟩
           refine WO_et rfl (W_cond o7 kr ?_ ?_)
           ·intro hc
            rw [if_pos hc] at hr
            refine W_sr (WO_seg 1 [(8, .bool false)] kr kr ?_)
            refine WO_end rfl ?_
            have st := st.front5
            have st := st.tail
            refine X_then ?_
            refine W_ret ?_
            refine X_block_ret ?_
            refine X_then_ret ?_
            obtain rfl := Option.some.inj hr
            have ho := hBu5 _ rfl
            subst ho
            have hr := hrKu5
            dsimp only at hr
            refine X_then_ret ?_
            refine X_block_ret ?_
            refine X_block_ret ?_
            refine X_then_ret ?_
            obtain rfl := Option.some.inj hr
            have ho := hBu4 _ rfl
            subst ho
            have hr := hrKu4
            dsimp only at hr
            refine X_then_ret ?_
            refine X_block_ret ?_
            refine X_then_ret ?_
            obtain rfl := Option.some.inj hr
            refine X_ret [.tmp 8] [.bool false] rfl (ResAll.cons (ResAt.tmp kr) ResAll.nil) ?_
            have st : St m28 (.blk b8 (.cells #[.int .i64 y12.1.1, .string y12.1.2.1, .string y12.1.2.2] 29 (0, 0)) :: .blk b7 (.cells #[.int .i64 y11.1.1, .string y11.1.2.1, .string y11.1.2.2] 29 (0, 0)) :: .blk b6 (.cells #[.int .i64 x2.1, .string x2.2.1, .string x2.2.2] 29 (0, 0)) :: .blk b1 (.cells #[.slice a12 (List.length y3.1.1) c12, .int .i64 y3.1.2] 26 (0, 0)) :: .room a17 (List.length l4) c17 29 3 :: own) w34 := St.dropR (l := [.blk b8 (.cells #[.int .i64 y12.1.1, .string y12.1.2.1, .string y12.1.2.2] 29 (0, 0)), .blk b7 (.cells #[.int .i64 y11.1.1, .string y11.1.2.1, .string y11.1.2.2] 29 (0, 0)), .blk b6 (.cells #[.int .i64 x2.1, .string x2.2.1, .string x2.2.2] 29 (0, 0)), .blk b1 (.cells #[.slice a12 (List.length y3.1.1) c12, .int .i64 y3.1.2] 26 (0, 0)), .room a17 (List.length l4) c17 29 3]) st
            have st := st.tail
            have st := st.tail
            have st := st.tail
            have st := st.tail
            have st := st.tail
            exact ⟨m28, rfl, hm, st⟩
           ·intro hc
            rw [if_neg (not_true hc)] at hr
            refine W_skip ?_
            refine X_block ?_
            refine X_then ?_
            refine W_region ?_
            refine WO_seg 2 [(96, .int .i64 (IntKind.wrap .i64 (s3 + 1)))] kr kr ?_
            refine WO_end rfl ?_
            obtain rfl := Option.some.inj hr
            have hL := hSu5 _ rfl
            have st := st.tail
            have st := st.tail
            have st := st.tail
            have st := st.front2.front2.front2
            exact X_env _ kr (X_round k3 (Nat.lt_succ_self _) ⟨IntKind.wrap .i64 (s3 + 1), m28, hL, rfl, hm, hlo1, st, r3, r14, r16, r19, r13⟩)
          ·intro K
           clear hrK
           refine WO_one rfl (One_load_own (d := 112) (t := 29) (x := (.tmp 20)) (.agg #[.int .i64 y11.1.1, .string y11.1.2.1, .string y11.1.2.2]) kr rfl (ev (.pointer (some ⟨b7, 0, none⟩))) st.tail.head kr ?_)
           refine WO_one rfl (One_load_own (d := 113) (t := 29) (x := (.tmp 22)) (.agg #[.int .i64 y12.1.1, .string y12.1.2.1, .string y12.1.2.2]) kr rfl (ev (.pointer (some ⟨b8, 0, none⟩))) st.head kr ?_)
           refine WO_one rfl (One_neAgg (d := 114) (t := 29) (t2 := 29) (x := (.tmp 112)) (y := (.tmp 113)) (xs := #[.int .i64 y11.1.1, .string y11.1.2.1, .string y11.1.2.2]) (ys := #[.int .i64 y12.1.1, .string y12.1.2.1, .string y12.1.2.2]) ((y11.1.1 == y12.1.1) && ((y11.1.2.1.toList == y12.1.2.1.toList) && ((y11.1.2.2.toList == y12.1.2.2.toList) && true))) kr rfl (ev (.agg #[.int .i64 y11.1.1, .string y11.1.2.1, .string y11.1.2.2])) (ev (.agg #[.int .i64 y12.1.1, .string y12.1.2.1, .string y12.1.2.2])) kr kr kr ?_)
           refine WO_seg 1 [(115, .bool (!((y11.1.1 == y12.1.1) && ((y11.1.2.1.toList == y12.1.2.1.toList) && ((y11.1.2.2.toList == y12.1.2.2.toList) && true)))))] kr kr ?_
           rcases bcases (!((y11.1.1 == y12.1.1) && ((y11.1.2.1.toList == y12.1.2.1.toList) && ((y11.1.2.2.toList == y12.1.2.2.toList) && true)))) with hc | hc
           ·rw [if_pos hc] at hr
            refine WO_fact (t := 115) (b := true) (!((y11.1.1 == y12.1.1) && ((y11.1.2.1.toList == y12.1.2.1.toList) && ((y11.1.2.2.toList == y12.1.2.2.toList) && true)))) kr hc ?_
            refine WO_seg 4 [(119, .bool true)] kr kr ?_
            obtain rfl := Option.some.inj hr
            have st := st.front5.front5.front5.front5.front5.front5
            exact WO_env _ kr (K _ _ ⟨m27, rfl, hm, hlo1, st, r3, r14, r16, r19, r13⟩)
           ·rw [if_neg (not_true hc)] at hr
            refine WO_fact (t := 115) (b := false) (!((y11.1.1 == y12.1.1) && ((y11.1.2.1.toList == y12.1.2.1.toList) && ((y11.1.2.2.toList == y12.1.2.2.toList) && true)))) kr hc ?_
            refine WO_seg 4 [(119, .bool (y11.2 != y12.2))] kr kr ?_
            obtain rfl := Option.some.inj hr
            have st := st.front5.front5.front5.front5.front5.front5
            exact WO_env _ kr (K _ _ ⟨m27, rfl, hm, hlo1, st, r3, r14, r16, r19, r13⟩)
         ·intro hc
          rw [if_neg (not_true hc)] at hr
          refine W_exit ?_
          refine X_then_exit ?_
          obtain rfl := Option.some.inj hr
          have ho := hBu5 _ rfl
          have st := st.front2.front2.front2
          refine X_then_exit ?_
          exact X_env _ kr (K4_u5 _ _ ⟨(), m25, ho, rfl, hm, hlo1, st, r3, r14, r16, r13⟩)
      ·intro K
       clear hrK
       refine WO_seg 4 [(70, .bool (y4.2 != y5.2))] kr kr ?_
       rcases bcases (y4.2 != y5.2) with hc | hc
       ·rw [if_pos hc] at hr
        refine WO_fact (t := 70) (b := true) (y4.2 != y5.2) kr hc ?_
        refine WO_seg 21 [(91, .bool true)] kr kr ?_
        obtain rfl := Option.some.inj hr
        have st := st.front4.front4.front3.front3.front4
        exact WO_env _ kr (K _ _ ⟨m16, rfl, hm, st, r3, r14, r16, r13⟩)
       ·rw [if_neg (not_true hc)] at hr
        refine WO_fact (t := 70) (b := false) (y4.2 != y5.2) kr hc ?_
        refine WO_seg 2 [(71, .slice a15 (List.length y4.1) c15), (72, .slice a16 (List.length y5.1) c16)] kr kr ?_
        replace ⟨y6, hx10, hr⟩ := bindS hr
        refine WO_one rfl (One_fn 73 12 #[.slice a15 (List.length y4.1) c15, .slice a16 (List.length y5.1) c16] kr rfl ?_)
        refine (testgateref11_Same_ok st r17 r18 hx10).mono ?_
        clear st
        rintro _ w18 ⟨m18, rfl, hle11, st⟩
        refine ⟨_, rfl, ?_⟩
        have hm := Mem.le_trans hm hle11
        have r3 := r3.mono hle11
        have r14 := r14.mono hle11
        have r16 := r16.mono hle11
        have r17 := r17.mono hle11
        have r18 := r18.mono hle11
        have r13 := r13.mono hle11
        refine WO_seg 3 [(76, .bool (!y6))] kr kr ?_
        rcases bcases (!y6) with hc | hc
        ·rw [if_pos hc] at hr
         refine WO_fact (t := 76) (b := true) (!y6) kr hc ?_
         refine WO_seg 15 [(91, .bool true)] kr kr ?_
         obtain rfl := Option.some.inj hr
         have st := st.front4.front4.front3.front3.front4
         exact WO_env _ kr (K _ _ ⟨m18, rfl, hm, st, r3, r14, r16, r13⟩)
        ·rw [if_neg (not_true hc)] at hr
         refine WO_fact (t := 76) (b := false) (!y6) kr hc ?_
         refine WO_seg 2 [(77, .int .i64 x1), (78, .int .i64 p3)] kr kr ?_
         replace ⟨y7, hx11, hr⟩ := bindS hr
         refine WO_one rfl (One_fn 79 13 #[.int .i64 x1, .int .i64 p3] kr rfl ?_)
         refine (level_Finer_ok st hx11).mono ?_
         clear st
         rintro _ w19 ⟨m19, rfl, hle12, st⟩
         refine ⟨_, rfl, ?_⟩
         have hm := Mem.le_trans hm hle12
         have r3 := r3.mono hle12
         have r14 := r14.mono hle12
         have r16 := r16.mono hle12
         have r17 := r17.mono hle12
         have r18 := r18.mono hle12
         have r13 := r13.mono hle12
         refine WO_seg 2 [(80, .int .i64 x1), (81, .int .i64 p3)] kr kr ?_
         replace ⟨y8, hx12, hr⟩ := bindS hr
         refine WO_one rfl (One_fn 82 14 #[.int .i64 x1, .int .i64 p3] kr rfl ?_)
         refine (testgateref12_Finer_ok st hx12).mono ?_
         clear st
         rintro _ w20 ⟨m20, rfl, hle13, st⟩
         refine ⟨_, rfl, ?_⟩
         have hm := Mem.le_trans hm hle13
         have r3 := r3.mono hle13
         have r14 := r14.mono hle13
         have r16 := r16.mono hle13
         have r17 := r17.mono hle13
         have r18 := r18.mono hle13
         have r13 := r13.mono hle13
         refine WO_seg 3 [(85, .bool (!(y7 == y8)))] kr kr ?_
         rcases bcases (!(y7 == y8)) with hc | hc
         ·rw [if_pos hc] at hr
          refine WO_fact (t := 85) (b := true) (!(y7 == y8)) kr hc ?_
          refine WO_seg 6 [(91, .bool true)] kr kr ?_
          obtain rfl := Option.some.inj hr
          have st := st.front4.front4.front3.front3.front4
          exact WO_env _ kr (K _ _ ⟨m20, rfl, hm, st, r3, r14, r16, r13⟩)
         ·rw [if_neg (not_true hc)] at hr
          refine WO_fact (t := 85) (b := false) (!(y7 == y8)) kr hc ?_
          refine WO_seg 1 [(86, .int .i64 x1)] kr kr ?_
          replace ⟨y9, hx13, hr⟩ := bindS hr
          refine WO_one rfl (One_fn 87 13 #[.int .i64 x1, .int .i64 2] kr rfl ?_)
          refine (level_Finer_ok st hx13).mono ?_
          clear st
          rintro _ w21 ⟨m21, rfl, hle14, st⟩
          refine ⟨_, rfl, ?_⟩
          have hm := Mem.le_trans hm hle14
          have r3 := r3.mono hle14
          have r14 := r14.mono hle14
          have r16 := r16.mono hle14
          have r17 := r17.mono hle14
          have r18 := r18.mono hle14
          have r13 := r13.mono hle14
          refine WO_seg 1 [(88, .int .i64 x1)] kr kr ?_
          replace ⟨y10, hx14, hr⟩ := bindS hr
          refine WO_one rfl (One_fn 89 14 #[.int .i64 x1, .int .i64 2] kr rfl ?_)
          refine (testgateref12_Finer_ok st hx14).mono ?_
          clear st
          rintro _ w22 ⟨m22, rfl, hle15, st⟩
          refine ⟨_, rfl, ?_⟩
          have hm := Mem.le_trans hm hle15
          have r3 := r3.mono hle15
          have r14 := r14.mono hle15
          have r16 := r16.mono hle15
          have r17 := r17.mono hle15
          have r18 := r18.mono hle15
          have r13 := r13.mono hle15
          refine WO_seg 2 [(91, .bool (!(y9 == y10)))] kr kr ?_
          obtain rfl := Option.some.inj hr
          have st := st.front4.front4.front3.front3.front4
          exact WO_env _ kr (K _ _ ⟨m22, rfl, hm, st, r3, r14, r16, r13⟩)
     ·intro hc
      rw [if_neg (not_true hc)] at hr
      refine W_exit ?_
      refine X_then_exit ?_
      obtain rfl := Option.some.inj hr
      have ho := hBu4 _ rfl
      have st := st.front2.front2.front2
      refine X_then_exit ?_
      exact X_env _ kr (K2_u4 _ _ ⟨(), m14, ho, rfl, hm, st, r13⟩)
   ·intro Ku3
    clear hrKu3
    refine W_cond y3.2 kr ?_ ?_
    ·intro hc
     rw [if_pos hc] at hr
     refine W_region ?_
     refine WO_seg 2 [(45, .slice a6 (List.length o2.1) c6), (46, .slice a3 (List.length o1) c3)] kr kr ?_
     have st := st.front1
     replace ⟨l3, hx6, hr⟩ := bindS hr
     refine WO_one rfl (One_append (d := 47) (t := 23) (u := 23) (e := 29) (by_ := 40) (x := (.tmp 45)) (y := (.tmp 46)) (cPair (cInt .i64) (cPair cStr cStr)) kr rfl (ev (.slice a6 (List.length o2.1) c6)) (ev (.slice a3 (List.length o1) c3)) st kr (.inl kr) r6 r3.src hx6 ?_)
     clear st
     intro a14 c14 m11 w11 hle7 st r15
     have hm := Mem.le_trans hm hle7
     have r3 := r3.mono hle7
     have r6 := r6.mono hle7
     have r13 := r13.mono hle7
     refine WO_seg 1 [(10, .slice a14 (List.length l3) c14)] kr kr ?_
     refine WO_end rfl ?_
     obtain rfl := Option.some.inj hr
     have st := st.front1
     exact X_env _ kr (Ku3 _ _ ⟨a14, c14, m11, rfl, hm, st, r3, r15, r13⟩)
    ·intro hc
     rw [if_neg (not_true hc)] at hr
     refine W_skip ?_
     obtain rfl := Option.some.inj hr
     have st := st.front1.front1
     exact X_env _ kr (Ku3 _ _ ⟨a6, c6, m9, rfl, hm, st, r3, r6, r13⟩)
  intro K0_u2
  clear hrKu2
  have st := st.nilroom 29 3
  have st := st.front1
  refine W_env _ kr (W_loop (fun k1 L' w' => ∃ (s1 : (List (Int × ByteArray × ByteArray)) × Int × List (Int) × Int) (a8 : Option Addr) (c8 : Nat) (a9 : Option Addr) (c9 : Nat) (m5 : Mem), loopM (testgatelaw12_LevelKeys_L1 N) k1 s1 = some out1 ∧ L' = [(1, .slice a3 (List.length o1) c3), (2, .int .i64 p2), (3, .int .i64 p3), (9, .pointer (some ⟨b1, 0, none⟩)), (10, .slice a8 (List.length s1.1) c8), (11, .int .i64 s1.2.1)] ∧ m.le m5 ∧ St m5 (.blk b1 (.cells #[.slice a9 (List.length s1.2.2.1) c9, .int .i64 s1.2.2.2] 26 (0, 0)) :: .room a8 (List.length s1.1) c8 29 3 :: own) w' ∧ RepS (cPair (cInt .i64) (cPair cStr cStr)) m5 a3 c3 o1 ∧ RepS (cPair (cInt .i64) (cPair cStr cStr)) m5 a8 c8 s1.1 ∧ RepS (cInt .i64) m5 a9 c9 s1.2.2.1) N ⟨(([] : List (Int × ByteArray × ByteArray)), y1.2, y1.1.1, y1.1.2), none, 0, a5, c5, m3, hr, rfl, hm, st, r3, (RepS.nil _ _), r5⟩ ?_)
  clear st hr
  rintro k1 _ w5 ⟨s1, a8, c8, a9, c9, m5, hL, rfl, hm, st, r3, r8, r9⟩
  rcases k1 with _ | k1
  ·exact loopM_zero hL
  ·obtain ⟨qu2, hr, hSu2, hBu2⟩ := loopM_succ hL
   clear hL
   unfold testgatelaw12_LevelKeys_L1 at hr
   refine W_seq ?_
   refine W_sr (WO_seg 2 [(35, .bool (decide (s1.2.1 > 0)))] kr kr ?_)
   refine WO_et rfl (W_cond (decide (s1.2.1 > 0)) kr ?_ ?_)
   ·intro hc
    rw [if_pos hc] at hr
    refine W_skip ?_
    refine X_then ?_
    refine W_seq ?_
    refine W_block ?_
    refine W_region ?_
    refine WO_seg 2 [(38, .slice a8 (List.length s1.1) c8), (39, .pointer (some ⟨b1, 0, none⟩))] kr kr ?_
    replace ⟨y2, hx3, hr⟩ := bindS hr
    refine WO_one rfl (One_fn 40 8 #[.pointer (some ⟨b1, 0, none⟩)] kr rfl ?_)
    refine (testgatemake_Key_ok st r9 hx3).mono ?_
    clear st
    rintro _ w6 ⟨a10, c10, m6, rfl, hle3, st, r10⟩
    refine ⟨_, rfl, ?_⟩
    have hm := Mem.le_trans hm hle3
    have r3 := r3.mono hle3
    have r8 := r8.mono hle3
    have r9 := r9.mono hle3
    refine WO_one rfl (One_buildSlice (d := 41) (t := 23) (e := 29) (len := 1) (parts := #[(0, (.tmp 40))]) (cPair (cInt .i64) (cPair cStr cStr)) (xs := [(y2.2.1, y2.2.2.1, y2.2.2.2)]) [.int .i64 y2.2.1, .string y2.2.2.1, .string y2.2.2.2] kr rfl (fun _ => buildCells_run kr _) rfl rfl st ⟨[.int .i64 y2.2.1, .string y2.2.2.1, .string y2.2.2.2], _, rfl, ⟨_, _, rfl, rfl, ⟨_, _, rfl, rfl, rfl⟩⟩, rfl⟩ ?_)
    clear st
    intro b2 m7 w7 hle4 st r11
    have hm := Mem.le_trans hm hle4
    have r3 := r3.mono hle4
    have r8 := r8.mono hle4
    have r10 := r10.mono hle4
    have st := st.front2
    replace ⟨l2, hx4, hr⟩ := bindS hr
    refine WO_one rfl (One_append (d := 42) (t := 23) (u := 23) (e := 29) (by_ := 40) (x := (.tmp 38)) (y := (.tmp 41)) (cPair (cInt .i64) (cPair cStr cStr)) kr rfl (ev (.slice a8 (List.length s1.1) c8)) (ev (.slice (some ⟨b2, 0, none⟩) (List.length ([(y2.2.1, y2.2.2.1, y2.2.2.2)])) 1)) st kr (.inl kr) r8 r11.src hx4 ?_)
    clear st
    intro a11 c11 m8 w8 hle5 st r12
    have hm := Mem.le_trans hm hle5
    have r3 := r3.mono hle5
    have r8 := r8.mono hle5
    have r11 := r11.mono hle5
    have r10 := r10.mono hle5
    refine WO_seg 1 [(10, .slice a11 (List.length l2) c11)] kr kr ?_
    refine WO_end rfl ?_
    have st := st.front1
    have st := st.tail
    refine X_block ?_
    refine X_then ?_
    refine W_region ?_
    refine WO_seg 3 [(11, .int .i64 (IntKind.wrap .i64 (s1.2.1 - 1)))] kr kr ?_
    refine WO_end rfl ?_
    obtain rfl := Option.some.inj hr
    have hL := hSu2 _ rfl
    have st := st.front1
    exact X_env _ kr (X_round k1 (Nat.lt_succ_self _) ⟨(l2, IntKind.wrap .i64 (s1.2.1 - 1), y2.1.1, y2.1.2), a11, c11, a10, c10, m8, hL, rfl, hm, st, r3, r12, r10⟩)
   ·intro hc
    rw [if_neg (not_true hc)] at hr
    refine W_exit ?_
    refine X_then_exit ?_
    obtain rfl := Option.some.inj hr
    have ho := hBu2 _ rfl
    have st := st.front1.front1
    refine X_then_exit ?_
    exact X_env _ kr (K0_u2 _ _ ⟨(s1.1, s1.2.2.1, s1.2.2.2), a8, c8, a9, c9, m5, ho, rfl, hm, st, r3, r8, r9⟩)
 ·intro Ku1
  clear hrKu1
  refine W_cond (decide ((List.length p1 : Int) > 5)) kr ?_ ?_
  ·intro hc
   rw [if_pos hc] at hr
   refine W_region ?_
   refine WO_seg 1 [(30, .slice a2 (List.length p1) c2)] kr kr ?_
   replace ⟨l1, hx1, hr⟩ := bindS hr
   refine WO_one rfl (One_slice (d := 31) (t := 23) (e := 29) (x := (.tmp 30)) (lo := none) (hi := (some (.const (.int .i64 5)))) (cPair (cInt .i64) (cPair cStr cStr)) kr rfl (ev (.slice a2 (List.length p1) c2)) kr r2 (.inl ⟨rfl, rfl⟩) (.inr ⟨_, _, rfl, (ev (.int .i64 5))⟩) hx1 ?_)
   intro a4 c4 r4
   refine WO_seg 1 [(1, .slice a4 (List.length l1) c4)] kr kr ?_
   refine WO_end rfl ?_
   obtain rfl := Option.some.inj hr
   exact X_env _ kr (Ku1 _ _ ⟨a4, c4, m, rfl, hm, st, r4, r1⟩)
  ·intro hc
   rw [if_neg (not_true hc)] at hr
   refine W_skip ?_
   obtain rfl := Option.some.inj hr
   exact X_env _ kr (Ku1 _ _ ⟨a2, c2, m, rfl, hm, st, r2, r1⟩)
end Go.Proofs.YtgggihpbhmbjaaaDoor
