/- MADE BY gen.py: plain functions and the proofs that the Go functions compute them. No condition but those of each theorem. -/
import Derived.Test.YtgggihpbhmbjaaaGreatDoorProg
import Derived.Test.YtgggihpbhmbjaaaGreatDoorViewy3
import Derived.Test.YtgggihpbhmbjaaaGreatDoorMapDy3
import Derived.Test.YtgggihpbhmbjaaaGreatDoorLiny3
import Derived.Test.YtgggihpbhmbjaaaGreatDoorTConCy3
namespace Go.Proofs.YtgggihpbhmbjaaaGreatDoor
open Go Go.Dc
def internal_bytealg_CompareString (N : Nat) (p0 : ByteArray) (p1 : ByteArray) : Option (Int) :=
 some (cmpS p0 p1)
set_option maxHeartbeats 4000000 in
set_option maxRecDepth 100000 in
theorem internal_bytealg_CompareString_ok {N : Nat} {m : Mem} {own : List Piece} {w : World} {p0 : ByteArray} {p1 : ByteArray} {r : Int} (st : St m (own) w) (hr : internal_bytealg_CompareString N p0 p1 = some r) : Calls Tryz.prog 133 #[.string p0, .string p1] w fun e w' => ∃ (m' : Mem), e = .returned (.int .i64 r) ∧ m.le m' ∧ St m' (own) w' := by
 unfold internal_bytealg_CompareString at hr
 have hm := m.le_refl
 refine W_calls Tryz.func133 rfl Tryz.ntmps133 [(0, .string p0), (1, .string p1)] kr rfl ?_
 refine W_sr (WO_seg 1 [] kr kr ?_)
 refine WO_et rfl (W_sr ?_)
 refine WO_seg 2 [(5, .string p0), (6, .string p1)] kr kr ?_
 refine WO_one rfl (One_cmpStr (d := 7) (f := 167) (x := (.tmp 5)) (y := (.tmp 6)) (ts := #[9, 9]) kr rfl (ev (.string p0)) (ev (.string p1)) Tryz.func167 kr kr ?_)
 refine WO_seg 1 [(4, .int .i64 (cmpS p0 p1))] kr kr ?_
 refine WO_et rfl (W_ret ?_)
 obtain rfl := Option.some.inj hr
 refine X_ret [.tmp 4] [.int .i64 (cmpS p0 p1)] rfl (ResAll.cons (ResAt.tmp kr) ResAll.nil) ?_
 exact ⟨m, rfl, hm, st⟩
def strings_Compare (N : Nat) (p0 : ByteArray) (p1 : ByteArray) : Option (Int) :=
 (internal_bytealg_CompareString N p0 p1).bind fun y1 => some y1
set_option maxHeartbeats 4000000 in
set_option maxRecDepth 100000 in
theorem strings_Compare_ok {N : Nat} {m : Mem} {own : List Piece} {w : World} {p0 : ByteArray} {p1 : ByteArray} {r : Int} (st : St m (own) w) (hr : strings_Compare N p0 p1 = some r) : Calls Tryz.prog 80 #[.string p0, .string p1] w fun e w' => ∃ (m' : Mem), e = .returned (.int .i64 r) ∧ m.le m' ∧ St m' (own) w' := by
 unfold strings_Compare at hr
 have hm := m.le_refl
 refine W_calls Tryz.func80 rfl Tryz.ntmps80 [(0, .string p0), (1, .string p1)] kr rfl ?_
 refine W_sr (WO_seg 1 [] kr kr ?_)
 refine WO_et rfl (W_sr ?_)
 refine WO_seg 2 [(5, .string p0), (6, .string p1)] kr kr ?_
 replace ⟨y1, hx1, hr⟩ := bindS hr
 refine WO_one rfl (One_fn 7 133 #[.string p0, .string p1] kr rfl ?_)
 refine (internal_bytealg_CompareString_ok st hx1).mono ?_
 clear st
 rintro _ w1 ⟨m1, rfl, hle1, st⟩
 refine ⟨_, rfl, ?_⟩
 have hm := Mem.le_trans hm hle1
 refine WO_seg 1 [(4, .int .i64 y1)] kr kr ?_
 refine WO_et rfl (W_ret ?_)
 obtain rfl := Option.some.inj hr
 refine X_ret [.tmp 4] [.int .i64 y1] rfl (ResAll.cons (ResAt.tmp kr) ResAll.nil) ?_
 exact ⟨m1, rfl, hm, st⟩
def filediff_Apply_2 (N : Nat) (p0 : ByteArray × ByteArray) (p1 : ByteArray × ByteArray) : Option (Int) :=
 (strings_Compare N p0.1 p1.1).bind fun y1 => some y1
set_option maxHeartbeats 4000000 in
set_option maxRecDepth 100000 in
theorem filediff_Apply_2_ok {N : Nat} {m : Mem} {own : List Piece} {w : World} {p0 : ByteArray × ByteArray} {p1 : ByteArray × ByteArray} {r : Int} (st : St m (own) w) (hr : filediff_Apply_2 N p0 p1 = some r) : Calls Tryz.prog 90 #[.agg #[.string p0.1, .string p0.2], .agg #[.string p1.1, .string p1.2]] w fun e w' => ∃ (m' : Mem), e = .returned (.int .i64 r) ∧ m.le m' ∧ St m' (own) w' := by
 unfold filediff_Apply_2 at hr
 have hm := m.le_refl
 refine W_calls Tryz.func90 rfl Tryz.ntmps90 [(0, .agg #[.string p0.1, .string p0.2]), (1, .agg #[.string p1.1, .string p1.2])] kr rfl ?_
 refine W_sr (WO_one rfl (One_box (d := 2) (e := 74) (x := (.tmp 0)) (.agg #[.string p0.1, .string p0.2]) kr rfl kr st ?_))
 clear st
 intro b1 m1 w1 hle1 st hb1
 have hm := Mem.le_trans hm hle1
 refine WO_one rfl (One_box (d := 3) (e := 74) (x := (.tmp 1)) (.agg #[.string p1.1, .string p1.2]) kr rfl kr st ?_)
 clear st
 intro b2 m2 w2 hle2 st hb2
 have hm := Mem.le_trans hm hle2
 have hb1 := hb1.mono hle2
 refine WO_seg 1 [] kr kr ?_
 refine WO_et rfl (W_sr ?_)
 refine WO_seg 1 [(5, .pointer (some ⟨b1, 0, none⟩))] kr kr ?_
 refine WO_one rfl (One_load_row (d := 6) (t := 9) (x := (.tmp 5)) (.string p0.1) kr rfl (ev (.pointer (some ⟨b1, 0, none⟩))) st hb1 kr ?_)
 refine WO_seg 1 [(7, .pointer (some ⟨b2, 0, none⟩))] kr kr ?_
 refine WO_one rfl (One_load_row (d := 8) (t := 9) (x := (.tmp 7)) (.string p1.1) kr rfl (ev (.pointer (some ⟨b2, 0, none⟩))) st hb2 kr ?_)
 replace ⟨y1, hx1, hr⟩ := bindS hr
 refine WO_one rfl (One_fn 9 80 #[.string p0.1, .string p1.1] kr rfl ?_)
 refine (strings_Compare_ok st hx1).mono ?_
 clear st
 rintro _ w3 ⟨m3, rfl, hle3, st⟩
 refine ⟨_, rfl, ?_⟩
 have hm := Mem.le_trans hm hle3
 have hb1 := hb1.mono hle3
 have hb2 := hb2.mono hle3
 refine WO_seg 1 [(4, .int .i64 y1)] kr kr ?_
 refine WO_et rfl (W_ret ?_)
 obtain rfl := Option.some.inj hr
 refine X_ret [.tmp 4] [.int .i64 y1] rfl (ResAll.cons (ResAt.tmp kr) ResAll.nil) ?_
 exact ⟨m3, rfl, hm, st⟩
def sortLay89_ren : Go.Shelf.Ren := ⟨fun | 6 => 89 | 15 => 132 | 14 => 137 | 28 => 165 | 29 => 166 | 20 => 168 | 21 => 169 | 22 => 170 | 23 => 171 | 24 => 172 | 25 => 173 | 26 => 174 | 27 => 175 | 46 => 209 | 47 => 205 | 48 => 206 | 49 => 210 | 50 => 211 | 57 => 235 | n => n, fun | 22 => 23 | 24 => 74 | 25 => 140 | 3 => 3 | 39 => 179 | 0 => 0 | 53 => 217 | 55 => 219 | 4 => 4 | 46 => 211 | 45 => 210 | 50 => 175 | 5 => 5 | 9 => 9 | 66 => 245 | 70 => 249 | 76 => 266 | 77 => 267 | n => n, fun | n => n⟩
theorem sortLay89 : Go.Proofs.SlLaysF0.n6 Tryz.prog sortLay89_ren where
 mixed := kr
 f6 := ⟨Tryz.f89.name, kr, Tryz.func89.trans (congrArg some kr)⟩
 f14 := ⟨Tryz.f137.name, kr, Tryz.func137.trans (congrArg some kr)⟩
 f15 := Tryz.func132.trans (congrArg some kr)
 f20 := ⟨Tryz.f168.name, kr, Tryz.func168.trans (congrArg some kr)⟩
 f21 := ⟨Tryz.f169.name, kr, Tryz.func169.trans (congrArg some kr)⟩
 f22 := ⟨Tryz.f170.name, kr, Tryz.func170.trans (congrArg some kr)⟩
 f23 := ⟨Tryz.f171.name, kr, Tryz.func171.trans (congrArg some kr)⟩
 f24 := ⟨Tryz.f172.name, kr, Tryz.func172.trans (congrArg some kr)⟩
 f25 := ⟨Tryz.f173.name, kr, Tryz.func173.trans (congrArg some kr)⟩
 f26 := ⟨Tryz.f174.name, kr, Tryz.func174.trans (congrArg some kr)⟩
 f27 := ⟨Tryz.f175.name, kr, Tryz.func175.trans (congrArg some kr)⟩
 f28 := Tryz.func165.trans (congrArg some kr)
 f29 := Tryz.func166.trans (congrArg some kr)
 f46 := ⟨Tryz.f209.name, kr, Tryz.func209.trans (congrArg some kr)⟩
 f47 := Tryz.func205.trans (congrArg some kr)
 f48 := Tryz.func206.trans (congrArg some kr)
 f49 := ⟨Tryz.f210.name, kr, Tryz.func210.trans (congrArg some kr)⟩
 f50 := ⟨Tryz.f211.name, kr, Tryz.func211.trans (congrArg some kr)⟩
 f57 := ⟨Tryz.f235.name, kr, Tryz.func235.trans (congrArg some kr)⟩
 t0 := Tryz.underlying0
 a0 := Tryz.isAgg0
 z0 := Tryz.sizeOf0
 v0 := Tryz.zeroValue0
 t3 := Tryz.underlying3
 a3 := Tryz.isAgg3
 z3 := Tryz.sizeOf3
 v3 := Tryz.zeroValue3
 t4 := Tryz.underlying4
 a4 := Tryz.isAgg4
 z4 := Tryz.sizeOf4
 v4 := Tryz.zeroValue4
 t5 := Tryz.underlying5
 a5 := Tryz.isAgg5
 z5 := Tryz.sizeOf5
 v5 := Tryz.zeroValue5
 t9 := Tryz.underlying9
 a9 := Tryz.isAgg9
 z9 := Tryz.sizeOf9
 v9 := Tryz.zeroValue9
 t22 := Tryz.underlying23
 a22 := Tryz.isAgg23
 z22 := Tryz.sizeOf23
 v22 := Tryz.zeroValue23
 t25 := Tryz.underlying140
 a25 := Tryz.isAgg140
 z25 := Tryz.sizeOf140
 v25 := Tryz.zeroValue140
 t39 := Tryz.underlying179
 a39 := Tryz.isAgg179
 z39 := Tryz.sizeOf179
 v39 := Tryz.zeroValue179
 t45 := Tryz.underlying210
 a45 := Tryz.isAgg210
 z45 := Tryz.sizeOf210
 v45 := Tryz.zeroValue210
 t46 := Tryz.underlying211
 a46 := Tryz.isAgg211
 z46 := Tryz.sizeOf211
 v46 := Tryz.zeroValue211
 t50 := Tryz.underlying175
 a50 := Tryz.isAgg175
 z50 := Tryz.sizeOf175
 v50 := Tryz.zeroValue175
 t53 := Tryz.underlying217
 a53 := Tryz.isAgg217
 z53 := Tryz.sizeOf217
 v53 := Tryz.zeroValue217
 t55 := Tryz.underlying219
 a55 := Tryz.isAgg219
 z55 := Tryz.sizeOf219
 v55 := Tryz.zeroValue219
 t66 := Tryz.underlying245
 a66 := Tryz.isAgg245
 z66 := Tryz.sizeOf245
 v66 := Tryz.zeroValue245
 t70 := Tryz.underlying249
 a70 := Tryz.isAgg249
 z70 := Tryz.sizeOf249
 v70 := Tryz.zeroValue249
 t76 := Tryz.underlying266
 a76 := Tryz.isAgg266
 z76 := Tryz.sizeOf266
 v76 := Tryz.zeroValue266
 t77 := Tryz.underlying267
 a77 := Tryz.isAgg267
 z77 := Tryz.sizeOf267
 v77 := Tryz.zeroValue267
def cmpFile (x y : ByteArray × ByteArray) : Int := cmpS x.1 y.1
theorem cmpFile_swo : Go.Sort.SWO (Go.Proofs.ltOf cmpFile) := swo_pull cmpS_lin.swo fun x : ByteArray × ByteArray => x.1
theorem cmpFile_anti (x y : ByteArray × ByteArray) : cmpFile x y < 0 ↔ 0 < cmpFile y x := cmpS_lin.anti _ _
theorem filediff_Apply_2_T {N : Nat} (_ : 10 ≤ N) (x y : ByteArray × ByteArray) : filediff_Apply_2 N x y = some (cmpFile x y) := by
 simp [filediff_Apply_2, strings_Compare, internal_bytealg_CompareString, cmpFile]
def slices_SortFunc_api_File_api_File_S_filediff_Apply_2 (N : Nat) (l : List (ByteArray × ByteArray)) : Option (List (ByteArray × ByteArray)) := if 10 ≤ N ∧ l.length < 4611686018427387904 ∧ (∀ x ∈ l, ∀ y ∈ l, cmpFile x y = 0 → x = y) then some (l.mergeSort fun x y => !(Go.Proofs.ltOf cmpFile y x)) else none
theorem slices_SortFunc_api_File_api_File_len_filediff_Apply_2 {N : Nat} {l r : List (ByteArray × ByteArray)} (h : slices_SortFunc_api_File_api_File_S_filediff_Apply_2 N l = some r) : r.length = l.length := by
 unfold slices_SortFunc_api_File_api_File_S_filediff_Apply_2 at h
 split at h
 ·simp only [Option.some.injEq] at h; subst h; simp
 ·cases h
theorem slices_SortFunc_api_File_api_File_own_filediff_Apply_2 {N : Nat} {m : Mem} {own : List Piece} {w : World} {a : Option Addr} {nn cc : Nat} {T : List Value} {l r : List (ByteArray × ByteArray)} {e : TypeId} (st : St m (opc a (acellsM (fun x : ByteArray × ByteArray => ([.string x.1, .string x.2] : List Value)) l T) e :: own) w) (hs : OAS a nn cc 2 T) (hn : List.length l = nn) (h : slices_SortFunc_api_File_api_File_S_filediff_Apply_2 N l = some r) :
  Calls Tryz.prog 89 #[.slice a nn cc, .func (.func 90) #[] #[]] w fun e' w' => e' = .returned (.tuple #[]) ∧ St m (opc a (acellsM (fun x : ByteArray × ByteArray => ([.string x.1, .string x.2] : List Value)) r T) e :: own) w' := by
 unfold slices_SortFunc_api_File_api_File_S_filediff_Apply_2 at h
 split at h
 ·rename_i hb
  obtain ⟨hN, hlen, hties⟩ := hb
  simp only [Option.some.injEq] at h; subst h; subst hn
  exact Calls_sortKL (f := (fun x : ByteArray × ByteArray => ([.string x.1, .string x.2] : List Value))) (k := 2) sortLay89 Tryz.isAgg74 Tryz.sizeOf74 (fun _ => rfl) (fun _ _ hv => by simp only [List.mem_cons, List.not_mem_nil, or_false] at hv; rcases hv with rfl | rfl <;> rfl) cmpFile cmpFile_swo 90 (enters_of Tryz.func90 kr rfl) (fun x y W => by
   refine (filediff_Apply_2_ok (snap_st W) (filediff_Apply_2_T hN x y)).mono fun e' w' h => ?_
   obtain ⟨m', h1, h2, h3⟩ := h
   exact ⟨m', h1, h2, h3⟩) (fun x hx y hy h1 h2 => hties x hx y hy (by
    have a1 := cmpFile_anti y x
    simp only [Go.Proofs.ltOf, decide_eq_false_iff_not] at h1 h2
    have a2 := cmpFile_anti x y
    omega)) st hs hlen
 ·cases h
def filediff_Apply_L1 (N : Nat) (p1 : List (Int × ByteArray × ByteArray × ByteArray)) (s1 : Int) : Option ((Int) ⊕ ((Unit) ⊕ (Int))) :=
 if (decide (s1 < (List.length p1 : Int))) = true then ((idx p1 s1).bind fun x1 => (filediff_Apply_1 N (x1.1, x1.2.1, x1.2.2.1, x1.2.2.2)).bind fun y2 => if y2 = true then (some (.inr (.inr (s1)))) else (some (.inl (IntKind.wrap .i64 (s1 + 1))))) else (some (.inr (.inl ())))
def filediff_Apply_L2 (N : Nat) (p0 : (List (ByteArray × ByteArray))) (s2 : Int × (Option (List (ByteArray × ByteArray)))) : Option ((Int × (Option (List (ByteArray × ByteArray)))) ⊕ (((Option (List (ByteArray × ByteArray)))))) :=
 if (decide (s2.1 < (List.length p0 : Int))) = true then ((idx p0 s2.1).bind fun x2 => (msetQ s2.2 x2.1 x2.2).bind fun mp1 => some (.inl (IntKind.wrap .i64 (s2.1 + 1), mp1))) else (some (.inr s2.2))
def filediff_Apply_L3 (N : Nat) (p1 : List (Int × ByteArray × ByteArray × ByteArray)) (o4 : (Option (List (ByteArray × ByteArray)))) (s3 : Bool × Bool × Int × (Option (List (ByteArray × Bool))) × (Option (List (ByteArray × Bool)))) : Option ((Bool × Bool × Int × (Option (List (ByteArray × Bool))) × (Option (List (ByteArray × Bool)))) ⊕ ((Bool × Bool × (Option (List (ByteArray × Bool))) × (Option (List (ByteArray × Bool)))))) :=
 if (decide (s3.2.2.1 < (List.length p1 : Int))) = true then (((idx p1 s3.2.2.1).bind fun x3 => (filediff_taken N (x3.1, x3.2.1, x3.2.2.1, x3.2.2.2)).bind fun y3 => (if y3.2 = true then ((if s3.1 = true then (if s3.2.1 = true then (some (true, true)) else (some (true, !((mgetQ o4 y3.1).isSome)))) else (if s3.2.1 = true then (some (((mgetQ s3.2.2.2.2 y3.1).getD false), true)) else (some (((mgetQ s3.2.2.2.2 y3.1).getD false), !((mgetQ o4 y3.1).isSome)))) : Option (Bool × Bool)).bind fun o8 => (msetQ s3.2.2.2.2 y3.1 true).bind fun mp2 => some (o8.1, o8.2, mp2)) else (some (s3.1, s3.2.1, s3.2.2.2.2)) : Option (Bool × Bool × (Option (List (ByteArray × Bool))))).bind fun o7 => (filediff_put N (x3.1, x3.2.1, x3.2.2.1, x3.2.2.2)).bind fun y4 => if y4 = true then ((if o7.1 = true then (some true) else (some ((mgetQ s3.2.2.2.1 x3.2.1).getD false)) : Option (Bool)).bind fun o9 => (msetQ s3.2.2.2.1 x3.2.1 true).bind fun mp3 => some (o9, o7.2.1, mp3, o7.2.2)) else (some (o7.1, o7.2.1, s3.2.2.2.1, o7.2.2)) : Option (Bool × Bool × (Option (List (ByteArray × Bool))) × (Option (List (ByteArray × Bool))))).bind fun o6 => some (.inl (o6.1, o6.2.1, IntKind.wrap .i64 (s3.2.2.1 + 1), o6.2.2.1, o6.2.2.2))) else (some (.inr (s3.1, s3.2.1, s3.2.2.2.1, s3.2.2.2.2)))
def filediff_Apply_L4 (N : Nat) (z1 : Option (ByteArray × ByteArray)) (s4 : (Option (List (ByteArray × ByteArray)))) : Option (((Option (List (ByteArray × ByteArray)))) ⊕ (((Option (List (ByteArray × ByteArray)))))) :=
 (match z1 with | none => some (.inr s4) | some kv1 => (msetQ s4 kv1.1 kv1.2).bind fun mp4 => some (.inl mp4))
def filediff_Apply_L5 (N : Nat) (z2 : Option (ByteArray × Bool)) (s5 : (Option (List (ByteArray × ByteArray)))) : Option (((Option (List (ByteArray × ByteArray)))) ⊕ (((Option (List (ByteArray × ByteArray)))))) :=
 (match z2 with | none => some (.inr s5) | some kv2 => some (.inl (mdelQ s5 kv2.1)))
def filediff_Apply_L6 (N : Nat) (p1 : List (Int × ByteArray × ByteArray × ByteArray)) (o4 : (Option (List (ByteArray × ByteArray)))) (o5 : Bool × Bool × (Option (List (ByteArray × Bool))) × (Option (List (ByteArray × Bool)))) (s6 : Int × (Option (List (ByteArray × ByteArray)))) : Option ((Int × (Option (List (ByteArray × ByteArray)))) ⊕ (((Option (List (ByteArray × ByteArray)))) ⊕ (((List (ByteArray × ByteArray))) × Int))) :=
 if (decide (s6.1 < (List.length p1 : Int))) = true then (((idx p1 s6.1).bind fun x4 => (filediff_put N (x4.1, x4.2.1, x4.2.2.1, x4.2.2.2)).bind fun y5 => if (!y5) = true then (some (.inl s6.2)) else ((if ((mgetQ o4 x4.2.1).isSome) = true then (some (!((mgetQ o5.2.2.2 x4.2.1).getD false))) else (some false) : Option (Bool)).bind fun o14 => if o14 = true then (some (.inr (.inr (.inr ((([] : List (ByteArray × ByteArray)), 19)))))) else ((msetQ s6.2 x4.2.1 x4.2.2.2).bind fun mp5 => if (x4.1 == 4) = true then ((msetQ mp5 x4.2.1 ((mgetQ o4 x4.2.2.1).getD (⟨#[]⟩ : ByteArray))).bind fun mp6 => some (.inl mp6)) else (some (.inl mp5)))) : Option (((Option (List (ByteArray × ByteArray)))) ⊕ ((Int × (Option (List (ByteArray × ByteArray)))) ⊕ (((Option (List (ByteArray × ByteArray)))) ⊕ (((List (ByteArray × ByteArray))) × Int))))).bind fun qu12 => (match qu12 with | .inl o13 => some (.inl (IntKind.wrap .i64 (s6.1 + 1), o13)) | .inr z => some z)) else (some (.inr (.inl s6.2)))
def filediff_Apply_L7 (N : Nat) (z3 : Option (ByteArray × ByteArray)) (s7 : (List (ByteArray × ByteArray))) : Option (((List (ByteArray × ByteArray))) ⊕ (((List (ByteArray × ByteArray))))) :=
 (match z3 with | none => some (.inr s7) | some kv3 => (appendS 32 s7 ([(kv3.1, kv3.2)])).bind fun l1 => some (.inl l1))
def filediff_Apply (N : Nat) (p0 : (List (ByteArray × ByteArray))) (p1 : List (Int × ByteArray × ByteArray × ByteArray)) : Option (((List (ByteArray × ByteArray))) × Int) :=
 ((revision_Check N p0).bind fun y1 => if (y1 != 0) = true then (some true) else (((loopM (filediff_Apply_L1 N p1) N 0).bind fun out1 => (match out1 with | .inl o3 => some (-1) | .inr (z) => some z) : Option (Int)).bind fun o2 => some (decide (o2 ≥ 0))) : Option (Bool)).bind fun o1 => if o1 = true then (some (([] : List (ByteArray × ByteArray)), 1)) else ((loopM (filediff_Apply_L2 N p0) N (0, (some [] : Option (List (ByteArray × ByteArray))))).bind fun o4 => (loopM (filediff_Apply_L3 N p1 o4) N (false, false, 0, (some [] : Option (List (ByteArray × Bool))), (some [] : Option (List (ByteArray × Bool))))).bind fun o5 => if o5.1 = true then (some (([] : List (ByteArray × ByteArray)), 10)) else (if o5.2.1 = true then (some (([] : List (ByteArray × ByteArray)), 18)) else (mrangeK (filediff_Apply_L4 N) (Option.getD o4 []) (some [] : Option (List (ByteArray × ByteArray))) (fun o10 => mrangeK (filediff_Apply_L5 N) (Option.getD o5.2.2.2 []) o10 (fun o11 => (loopM (filediff_Apply_L6 N p1 o4 o5) N (0, o11)).bind fun out6 => (match out6 with | .inl o12 => mrangeK (filediff_Apply_L7 N) (Option.getD o12 []) ([] : List (ByteArray × ByteArray)) (fun o15 => (slices_SortFunc_api_File_api_File_S_filediff_Apply_2 N o15).bind fun y6 => (revision_Check N y6).bind fun y7 => if (y7 != 0) = true then (some (([] : List (ByteArray × ByteArray)), 1)) else (some (y6, 0))) | .inr (z) => some z))))))
set_option maxHeartbeats 4000000 in
set_option maxRecDepth 100000 in
theorem filediff_Apply_ok {N : Nat} {m : Mem} {own : List Piece} {w : World} {p0 : (List (ByteArray × ByteArray))} {p1 : List (Int × ByteArray × ByteArray × ByteArray)} {a1 : Option Addr} {c1 : Nat} {a2 : Option Addr} {c2 : Nat} {r : ((List (ByteArray × ByteArray))) × Int} (st : St m (own) w) (r1 : RepS (cPair cStr cStr) m a1 c1 p0) (r2 : RepS (cPair (cInt .i64) (cPair cStr (cPair cStr cStr))) m a2 c2 p1) (hr : filediff_Apply N p0 p1 = some r) : Calls Tryz.prog 30 #[.agg #[.slice a1 (List.length p0) c1], .slice a2 (List.length p1) c2] w fun e w' => ∃ (ra1 : Option Addr) (rc1 : Nat) (m' : Mem), e = .returned (.tuple #[.agg #[.slice ra1 (List.length r.1) rc1], .int .i64 r.2]) ∧ m.le m' ∧ St m' (.room ra1 (List.length r.1) rc1 74 2 :: own) w' ∧ RepS (cPair cStr cStr) m' ra1 rc1 r.1 := by
 unfold filediff_Apply at hr
 have hm := m.le_refl
 refine W_calls Tryz.func30 rfl Tryz.ntmps30 [(0, .agg #[.slice a1 (List.length p0) c1]), (1, .slice a2 (List.length p1) c2)] kr rfl ?_
 refine W_sr (WO_one rfl (One_box (d := 2) (e := 25) (x := (.tmp 0)) (.agg #[.slice a1 (List.length p0) c1]) kr rfl kr st ?_))
 clear st
 intro b1 m1 w1 hle1 st hb1
 have hm := Mem.le_trans hm hle1
 have r1 := r1.mono hle1
 have r2 := r2.mono hle1
 refine WO_one rfl (One_alloc (d := 4) (e := 25) (.agg #[.slice none 0 0]) kr rfl kr st ?_)
 clear st
 intro b2 w2 st
 refine WO_seg 1 [] kr kr ?_
 refine WO_et rfl (W_seq ?_)
 refine W_sr ?_
 replace ⟨o1, hr, hrK⟩ := bindS hr
 refine WO_cut (j := 7) (fun L' w' => ∃ (m2 : Mem), L' = [(1, .slice a2 (List.length p1) c2), (2, .pointer (some ⟨b1, 0, none⟩)), (4, .pointer (some ⟨b2, 0, none⟩)), (36, .bool o1)] ∧ m.le m2 ∧ St m2 (.blk b2 (.cells #[.slice none (List.length ([] : List (ByteArray × ByteArray))) 0] 25 (0, 0)) :: own) w' ∧ RepS (cPair (cInt .i64) (cPair cStr (cPair cStr cStr))) m2 a2 c2 p1 ∧ MRow m2 b1 0 [.slice a1 (List.length p0) c1] ∧ RepS (cPair cStr cStr) m2 a1 c1 p0) ?_ ?_
 ·clear hr st
  have hr := hrK
  clear hrK
  rintro _ w3 ⟨m2, rfl, hm, st, r2, hb1, r1⟩
  refine WO_et rfl (W_cond o1 kr ?_ ?_)
  ·intro hc
   rw [if_pos hc] at hr
   refine W_sr (WO_seg 1 [(37, .agg #[.slice none (List.length ([] : List (ByteArray × ByteArray))) 0])] kr kr ?_)
   refine WO_one rfl (One_store (t := 25) (x := (.tmp 4)) (y := (.tmp 37)) (v := .agg #[.slice none (List.length ([] : List (ByteArray × ByteArray))) 0]) (c' := #[.slice none (List.length ([] : List (ByteArray × ByteArray))) 0]) kr (ev (.pointer (some ⟨b2, 0, none⟩))) (ev (.agg #[.slice none (List.length ([] : List (ByteArray × ByteArray))) 0])) st kr kr ?_)
   clear st
   intro w9 st
   refine WO_seg 1 [(5, .int .i64 1)] kr kr ?_
   refine WO_et rfl (W_ret ?_)
   refine X_then_ret ?_
   obtain rfl := Option.some.inj hr
   refine X_ret [.cell 4 25, .tmp 5] [.agg #[.slice none (List.length ([] : List (ByteArray × ByteArray))) 0], .int .i64 1] rfl (ResAll.cons (ResAt.blk (v := .agg #[.slice none (List.length ([] : List (ByteArray × ByteArray))) 0]) (o := 0) kr st.head kr) (ResAll.cons (ResAt.tmp kr) ResAll.nil)) ?_
   have st := st.nilroom 74 2
   have st := st.front1
   have st := st.tail
   exact ⟨none, 0, m2, rfl, hm, st, (RepS.nil _ _)⟩
  ·intro hc
   rw [if_neg (not_true hc)] at hr
   refine W_skip ?_
   refine X_then ?_
   refine W_sr (WO_one rfl (One_makeMap (d := 38) (t := 136) kr rfl st ?_))
   clear st
   intro b4 w10 st
   refine WO_seg 1 [(6, .map (some b4))] kr kr ?_
   refine WO_et rfl (W_seq ?_)
   refine W_sr (WO_seg 1 [(39, .pointer (some ⟨b1, 0, none⟩))] kr kr ?_)
   refine WO_one rfl (One_load_row (d := 40) (t := 23) (x := (.tmp 39)) (.slice a1 (List.length p0) c1) kr rfl (ev (.pointer (some ⟨b1, 0, none⟩))) st hb1 kr ?_)
   refine WO_seg 2 [(41, .int .i64 (List.length p0 : Int)), (42, .int .i64 0)] kr kr ?_
   refine WO_et rfl (W_block ?_)
   replace ⟨out2, hr, hrKu3⟩ := bindS hr
   refine W_cut (.exit 0) (fun L' w' => ∃ (o4 : (Option (List (ByteArray × ByteArray)))) (es1 : Array MapEntry) (ck1 : Nat) (m8 : Mem), o4 = out2 ∧ L' = [(1, .slice a2 (List.length p1) c2), (4, .pointer (some ⟨b2, 0, none⟩)), (6, .map (some b4))] ∧ m.le m8 ∧ St m8 (.blk b2 (.cells #[.slice none (List.length ([] : List (ByteArray × ByteArray))) 0] 25 (0, 0)) :: mpiece (some b4) es1 ck1 :: own) w' ∧ RepS (cPair (cInt .i64) (cPair cStr (cPair cStr cStr))) m8 a2 c2 p1 ∧ MapQ (fun s : ByteArray => Value.string s) cStr false m8 (some b4) es1 ck1 o4) ?_ ?_
   ·clear hr st
    rintro _ w11 ⟨o4, es1, ck1, m8, rfl, rfl, hm, st, r2, r3⟩
    have hr := hrKu3
    clear hrKu3
    refine X_block_eq ?_
    refine X_then ?_
    refine W_sr (WO_one rfl (One_makeMap (d := 52) (t := 137) kr rfl st ?_))
    clear st
    intro b7 w16 st
    refine WO_one rfl (One_makeMap (d := 53) (t := 137) kr rfl st ?_)
    clear st
    intro b8 w17 st
    refine WO_seg 2 [(9, .map (some b7)), (10, .map (some b8))] kr kr ?_
    refine WO_et rfl (W_sr ?_)
    refine WO_seg 2 [(11, .bool false), (12, .bool false)] kr kr ?_
    refine WO_et rfl (W_seq ?_)
    refine W_sr (WO_seg 3 [(54, .slice a2 (List.length p1) c2), (55, .int .i64 (List.length p1 : Int)), (56, .int .i64 0)] kr kr ?_)
    refine WO_et rfl (W_block ?_)
    replace ⟨out3, hr, hrKu4⟩ := bindS hr
    refine W_cut (.exit 2) (fun L' w' => ∃ (o5 : Bool × Bool × (Option (List (ByteArray × Bool))) × (Option (List (ByteArray × Bool)))) (es4 : Array MapEntry) (ck4 : Nat) (es5 : Array MapEntry) (ck5 : Nat) (m10 : Mem), o5 = out3 ∧ L' = [(1, .slice a2 (List.length p1) c2), (4, .pointer (some ⟨b2, 0, none⟩)), (6, .map (some b4)), (9, .map (some b7)), (11, .bool o5.1), (12, .bool o5.2.1)] ∧ m.le m10 ∧ St m10 (.blk b2 (.cells #[.slice none (List.length ([] : List (ByteArray × ByteArray))) 0] 25 (0, 0)) :: mpiece (some b8) es4 ck4 :: mpiece (some b7) es5 ck5 :: mpiece (some b4) es1 ck1 :: own) w' ∧ RepS (cPair (cInt .i64) (cPair cStr (cPair cStr cStr))) m10 a2 c2 p1 ∧ MapQ (fun s : ByteArray => Value.string s) cBool false m10 (some b8) es4 ck4 o5.2.2.1 ∧ MapQ (fun s : ByteArray => Value.string s) cBool false m10 (some b7) es5 ck5 o5.2.2.2 ∧ MapQ (fun s : ByteArray => Value.string s) cStr false m10 (some b4) es1 ck1 o4) ?_ ?_
    ·clear hr st
     rintro _ w18 ⟨o5, es4, ck4, es5, ck5, m10, rfl, rfl, hm, st, r2, r6, r7, r3⟩
     have hr := hrKu4
     clear hrKu4
     refine X_block_eq ?_
     refine X_then ?_
     refine W_seq ?_
     refine W_block ?_
     refine W_sr (WO_seg 2 [(98, .bool o5.1)] kr kr ?_)
     refine WO_et rfl (W_cond o5.1 kr ?_ ?_)
     ·intro hc
      rw [if_pos hc] at hr
      refine W_sr (WO_seg 1 [(100, .agg #[.slice none (List.length ([] : List (ByteArray × ByteArray))) 0])] kr kr ?_)
      refine WO_one rfl (One_store (t := 25) (x := (.tmp 4)) (y := (.tmp 100)) (v := .agg #[.slice none (List.length ([] : List (ByteArray × ByteArray))) 0]) (c' := #[.slice none (List.length ([] : List (ByteArray × ByteArray))) 0]) kr (ev (.pointer (some ⟨b2, 0, none⟩))) (ev (.agg #[.slice none (List.length ([] : List (ByteArray × ByteArray))) 0])) st kr kr ?_)
      clear st
      intro w30 st
      refine WO_seg 1 [(5, .int .i64 10)] kr kr ?_
      refine WO_et rfl (W_ret ?_)
      refine X_block_ret ?_
      refine X_then_ret ?_
      obtain rfl := Option.some.inj hr
      refine X_ret [.cell 4 25, .tmp 5] [.agg #[.slice none (List.length ([] : List (ByteArray × ByteArray))) 0], .int .i64 10] rfl (ResAll.cons (ResAt.blk (v := .agg #[.slice none (List.length ([] : List (ByteArray × ByteArray))) 0]) (o := 0) kr st.head kr) (ResAll.cons (ResAt.tmp kr) ResAll.nil)) ?_
      have st := st.nilroom 74 2
      have st := st.front1
      have st := st.tail
      have st := st.front1
      have st := st.tail
      have st := st.front1
      have st := st.tail
      have st := st.front1
      have st := st.tail
      exact ⟨none, 0, m10, rfl, hm, st, (RepS.nil _ _)⟩
     ·intro hc
      rw [if_neg (not_true hc)] at hr
      refine W_sr (WO_seg 2 [(101, .bool o5.2.1)] kr kr ?_)
      refine WO_et rfl (W_cond o5.2.1 kr ?_ ?_)
      ·intro hc
       rw [if_pos hc] at hr
       refine W_sr (WO_seg 1 [(103, .agg #[.slice none (List.length ([] : List (ByteArray × ByteArray))) 0])] kr kr ?_)
       refine WO_one rfl (One_store (t := 25) (x := (.tmp 4)) (y := (.tmp 103)) (v := .agg #[.slice none (List.length ([] : List (ByteArray × ByteArray))) 0]) (c' := #[.slice none (List.length ([] : List (ByteArray × ByteArray))) 0]) kr (ev (.pointer (some ⟨b2, 0, none⟩))) (ev (.agg #[.slice none (List.length ([] : List (ByteArray × ByteArray))) 0])) st kr kr ?_)
       clear st
       intro w31 st
       refine WO_seg 1 [(5, .int .i64 18)] kr kr ?_
       refine WO_et rfl (W_ret ?_)
       refine X_block_ret ?_
       refine X_then_ret ?_
       obtain rfl := Option.some.inj hr
       refine X_ret [.cell 4 25, .tmp 5] [.agg #[.slice none (List.length ([] : List (ByteArray × ByteArray))) 0], .int .i64 18] rfl (ResAll.cons (ResAt.blk (v := .agg #[.slice none (List.length ([] : List (ByteArray × ByteArray))) 0]) (o := 0) kr st.head kr) (ResAll.cons (ResAt.tmp kr) ResAll.nil)) ?_
       have st := st.nilroom 74 2
       have st := st.front1
       have st := st.tail
       have st := st.front1
       have st := st.tail
       have st := st.front1
       have st := st.tail
       have st := st.front1
       have st := st.tail
       exact ⟨none, 0, m10, rfl, hm, st, (RepS.nil _ _)⟩
      ·intro hc
       rw [if_neg (not_true hc)] at hr
       refine W_skip ?_
       refine X_block ?_
       refine X_then ?_
       refine W_sr (WO_one rfl (One_makeMap (d := 104) (t := 136) kr rfl st ?_))
       clear st
       intro b11 w32 st
       refine WO_seg 1 [(19, .map (some b11))] kr kr ?_
       refine WO_et rfl (W_seq ?_)
       refine W_sr (WO_seg 1 [(105, .map (some b4))] kr kr ?_)
       have st := st.front4
       refine WO_one rfl (One_range (ek := (fun s : ByteArray => Value.string s)) (c := cStr) (agg := false) (d := 106) (t := 136) (kt := 9) (et := 9) (x := (.tmp 105)) kr rfl (ev (.map (some b4))) kr st r3 ?_)
       clear st
       intro b12 w33 st hi1
       refine WO_et rfl (W_block ?_)
       obtain ⟨PKu9, hPKu9, hr⟩ := LoopP.start hr
       refine W_cut (.exit 5) (fun L' w' => ∃ (o10 : (Option (List (ByteArray × ByteArray)))) (es13 : Array MapEntry) (ck13 : Nat) (sn1 : Array Nat) (rem1 : List (ByteArray × ByteArray)) (m18 : Mem), PKu9 o10 ∧ L' = [(1, .slice a2 (List.length p1) c2), (4, .pointer (some ⟨b2, 0, none⟩)), (6, .map (some b4)), (9, .map (some b7)), (19, .map (some b11))] ∧ m.le m18 ∧ St m18 (.blk b2 (.cells #[.slice none (List.length ([] : List (ByteArray × ByteArray))) 0] 25 (0, 0)) :: mpiece (some b4) es1 ck1 :: mpiece (some b11) es13 ck13 :: mpiece (some b8) es4 ck4 :: mpiece (some b7) es5 ck5 :: itpiece b12 (some b4) ck1 sn1 :: own) w' ∧ RepS (cPair (cInt .i64) (cPair cStr (cPair cStr cStr))) m18 a2 c2 p1 ∧ MapQ (fun s : ByteArray => Value.string s) cStr false m18 (some b4) es1 ck1 o4 ∧ MapQ (fun s : ByteArray => Value.string s) cStr false m18 (some b11) es13 ck13 o10 ∧ MapQ (fun s : ByteArray => Value.string s) cBool false m18 (some b8) es4 ck4 o5.2.2.1 ∧ MapQ (fun s : ByteArray => Value.string s) cBool false m18 (some b7) es5 ck5 o5.2.2.2 ∧ ItR (fun s : ByteArray => Value.string s) cStr false m18 es1 sn1 rem1) ?_ ?_
       ·clear hr st
        rintro _ w34 ⟨o10, es13, ck13, sn1, rem1, m18, hPou9, rfl, hm, st, r2, r3, r15, r6, r7, hi2⟩
        have hr := hPKu9 _ hPou9
        clear hPou9 hPKu9
        try dsimp only at hr
        refine X_block_eq ?_
        refine X_then ?_
        refine W_seq ?_
        refine W_sr (WO_seg 1 [(115, .map (some b7))] kr kr ?_)
        have st := st.front4
        refine WO_one rfl (One_range (ek := (fun s : ByteArray => Value.string s)) (c := cBool) (agg := false) (d := 116) (t := 137) (kt := 9) (et := 4) (x := (.tmp 115)) kr rfl (ev (.map (some b7))) kr st r7 ?_)
        clear st
        intro b13 w39 st hi5
        refine WO_end rfl ?_
        have st := st.front6
        have st := st.tail
        refine X_then ?_
        refine W_block ?_
        obtain ⟨PKu10, hPKu10, hr⟩ := LoopP.start hr
        refine W_cut (.exit 7) (fun L' w' => ∃ (o11 : (Option (List (ByteArray × ByteArray)))) (es16 : Array MapEntry) (ck16 : Nat) (sn4 : Array Nat) (rem4 : List (ByteArray × Bool)) (m20 : Mem), PKu10 o11 ∧ L' = [(1, .slice a2 (List.length p1) c2), (4, .pointer (some ⟨b2, 0, none⟩)), (6, .map (some b4)), (9, .map (some b7)), (19, .map (some b11))] ∧ m.le m20 ∧ St m20 (.blk b2 (.cells #[.slice none (List.length ([] : List (ByteArray × ByteArray))) 0] 25 (0, 0)) :: mpiece (some b7) es5 ck5 :: mpiece (some b4) es1 ck1 :: mpiece (some b11) es16 ck16 :: mpiece (some b8) es4 ck4 :: itpiece b13 (some b7) ck5 sn4 :: own) w' ∧ RepS (cPair (cInt .i64) (cPair cStr (cPair cStr cStr))) m20 a2 c2 p1 ∧ MapQ (fun s : ByteArray => Value.string s) cBool false m20 (some b7) es5 ck5 o5.2.2.2 ∧ MapQ (fun s : ByteArray => Value.string s) cStr false m20 (some b4) es1 ck1 o4 ∧ MapQ (fun s : ByteArray => Value.string s) cStr false m20 (some b11) es16 ck16 o11 ∧ MapQ (fun s : ByteArray => Value.string s) cBool false m20 (some b8) es4 ck4 o5.2.2.1 ∧ ItR (fun s : ByteArray => Value.string s) cBool false m20 es5 sn4 rem4) ?_ ?_
        ·clear hr st
         rintro _ w40 ⟨o11, es16, ck16, sn4, rem4, m20, hPou10, rfl, hm, st, r2, r7, r3, r18, r6, hi6⟩
         have hr := hPKu10 _ hPou10
         clear hPou10 hPKu10
         try dsimp only at hr
         refine X_block_eq ?_
         refine X_then ?_
         refine W_seq ?_
         refine W_sr (WO_seg 3 [(123, .slice a2 (List.length p1) c2), (124, .int .i64 (List.length p1 : Int)), (125, .int .i64 0)] kr kr ?_)
         refine WO_end rfl ?_
         have st := st.front5
         have st := st.tail
         refine X_then ?_
         refine W_block ?_
         replace ⟨out6, hr, hrKu11⟩ := bindS hr
         refine W_cut (.exit 9) (fun L' w' => ∃ (o12 : (Option (List (ByteArray × ByteArray)))) (es19 : Array MapEntry) (ck18 : Nat) (m22 : Mem), (.inl o12) = out6 ∧ L' = [(4, .pointer (some ⟨b2, 0, none⟩)), (19, .map (some b11))] ∧ m.le m22 ∧ St m22 (.blk b2 (.cells #[.slice none (List.length ([] : List (ByteArray × ByteArray))) 0] 25 (0, 0)) :: mpiece (some b7) es5 ck5 :: mpiece (some b4) es1 ck1 :: mpiece (some b11) es19 ck18 :: mpiece (some b8) es4 ck4 :: own) w' ∧ MapQ (fun s : ByteArray => Value.string s) cBool false m22 (some b7) es5 ck5 o5.2.2.2 ∧ MapQ (fun s : ByteArray => Value.string s) cStr false m22 (some b4) es1 ck1 o4 ∧ MapQ (fun s : ByteArray => Value.string s) cStr false m22 (some b11) es19 ck18 o12 ∧ MapQ (fun s : ByteArray => Value.string s) cBool false m22 (some b8) es4 ck4 o5.2.2.1) ?_ ?_
         ·clear hr st
          rintro _ w45 ⟨o12, es19, ck18, m22, rfl, rfl, hm, st, r7, r3, r21, r6⟩
          have hr := hrKu11
          clear hrKu11
          dsimp only at hr
          refine X_block_eq ?_
          refine X_then ?_
          refine W_sr (WO_one rfl (One_alloc (d := 27) (e := 25) (.agg #[.slice none 0 0]) kr rfl kr st ?_))
          clear st
          intro b16 w55 st
          refine WO_et rfl (W_seq ?_)
          refine W_sr (WO_seg 1 [(164, .map (some b11))] kr kr ?_)
          have st := st.front4
          refine WO_one rfl (One_range (ek := (fun s : ByteArray => Value.string s)) (c := cStr) (agg := false) (d := 165) (t := 136) (kt := 9) (et := 9) (x := (.tmp 164)) kr rfl (ev (.map (some b11))) kr st r21 ?_)
          clear st
          intro b17 w56 st hi9
          refine WO_et rfl (W_block ?_)
          have st := room_opc (f := (fun x : ByteArray × ByteArray => ([.string x.1, .string x.2] : List Value))) (st.nilroom 74 2)
          obtain ⟨PKu14, hPKu14, hr⟩ := LoopP.start hr
          refine W_cut (.exit 11) (fun L' w' => ∃ (o15 : (List (ByteArray × ByteArray))) (a3 : Option Addr) (c3 : Nat) (T1 : List Value) (sn7 : Array Nat) (rem7 : List (ByteArray × ByteArray)) (m27 : Mem), PKu14 o15 ∧ L' = [(4, .pointer (some ⟨b2, 0, none⟩)), (27, .pointer (some ⟨b16, 0, none⟩))] ∧ m.le m27 ∧ St m27 (.blk b16 (.cells #[.slice a3 (List.length o15) c3] 25 (0, 0)) :: .blk b2 (.cells #[.slice none (List.length ([] : List (ByteArray × ByteArray))) 0] 25 (0, 0)) :: mpiece (some b11) es19 ck18 :: mpiece (some b7) es5 ck5 :: mpiece (some b4) es1 ck1 :: mpiece (some b8) es4 ck4 :: opc a3 (acellsM (fun x : ByteArray × ByteArray => ([.string x.1, .string x.2] : List Value)) o15 T1) 74 :: itpiece b17 (some b11) ck18 sn7 :: own) w' ∧ MapQ (fun s : ByteArray => Value.string s) cStr false m27 (some b11) es19 ck18 o12 ∧ MapQ (fun s : ByteArray => Value.string s) cBool false m27 (some b7) es5 ck5 o5.2.2.2 ∧ MapQ (fun s : ByteArray => Value.string s) cStr false m27 (some b4) es1 ck1 o4 ∧ MapQ (fun s : ByteArray => Value.string s) cBool false m27 (some b8) es4 ck4 o5.2.2.1 ∧ OAS a3 (List.length o15) c3 2 T1 ∧ ItR (fun s : ByteArray => Value.string s) cStr false m27 es19 sn7 rem7) ?_ ?_
          ·clear hr st
           rintro _ w57 ⟨o15, a3, c3, T1, sn7, rem7, m27, hPou14, rfl, hm, st, r21, r7, r3, r6, hs1, hi10⟩
           have hr := hPKu14 _ hPou14
           clear hPou14 hPKu14
           try dsimp only at hr
           refine X_block_eq ?_
           refine X_then ?_
           refine W_sr (WO_seg 1 [(179, .pointer (some ⟨b16, 0, none⟩))] kr kr ?_)
           refine WO_one rfl (One_load_own (d := 180) (t := 23) (x := (.tmp 179)) (.slice a3 (List.length o15) c3) kr rfl (ev (.pointer (some ⟨b16, 0, none⟩))) st.head kr ?_)
           replace ⟨y6, hx23, hr⟩ := bindS hr
           have st := st.front6
           refine WO_one rfl (One_fn 181 89 #[.slice a3 (List.length o15) c3, .func (.func 90) #[] #[]] kr rfl ?_)
           refine (slices_SortFunc_api_File_api_File_own_filediff_Apply_2 st hs1 rfl hx23).mono ?_
           clear st
           rintro _ w64 ⟨rfl, st⟩
           refine ⟨_, rfl, ?_⟩
           have hn1 := ((slices_SortFunc_api_File_api_File_len_filediff_Apply_2 hx23).trans rfl)
           refine WO_end rfl ?_
           have st := st.front7
           have st := st.tail
           refine X_then ?_
           refine W_seq ?_
           refine W_sr (WO_one rfl (One_load_own (d := 182) (t := 25) (x := (.tmp 27)) (.agg #[.slice a3 (List.length o15) c3]) kr rfl (ev (.pointer (some ⟨b16, 0, none⟩))) st.tail.head kr ?_))
           obtain ⟨m31, hle9, st, r28⟩ := St.freezeM (c := (cPair cStr cStr)) (f := (fun x : ByteArray × ByteArray => ([.string x.1, .string x.2] : List Value))) st hs1 hn1 (fun _ => rfl) (fun _ x => ⟨_, _, rfl, rfl, rfl⟩)
           have hm := Mem.le_trans hm hle9
           have r21 := r21.mono hle9
           have r7 := r7.mono hle9
           have r3 := r3.mono hle9
           have r6 := r6.mono hle9
           have st : St m31 (.room a3 (List.length y6) c3 74 2 :: .blk b16 (.cells #[.slice a3 (List.length y6) c3] 25 (0, 0)) :: .blk b2 (.cells #[.slice none (List.length ([] : List (ByteArray × ByteArray))) 0] 25 (0, 0)) :: mpiece (some b11) es19 ck18 :: mpiece (some b7) es5 ck5 :: mpiece (some b4) es1 ck1 :: mpiece (some b8) es4 ck4 :: own) w64 := by (try simp only [hn1]); (try simp only [hn1] at st); exact st
           refine WO_env [(4, .pointer (some ⟨b2, 0, none⟩)), (27, .pointer (some ⟨b16, 0, none⟩)), (182, .agg #[.slice a3 (List.length y6) c3])] (by (try simp only [hn1]); kernel_rfl) ?_
           replace ⟨y7, hx24, hr⟩ := bindS hr
           refine WO_one rfl (One_fn 183 75 #[.agg #[.slice a3 (List.length y6) c3]] kr rfl ?_)
           refine (revision_Check_ok st r28 hx24).mono ?_
           clear st
           rintro _ w65 ⟨m32, rfl, hle10, st⟩
           refine ⟨_, rfl, ?_⟩
           have hm := Mem.le_trans hm hle10
           have r28 := r28.mono hle10
           have r21 := r21.mono hle10
           have r7 := r7.mono hle10
           have r3 := r3.mono hle10
           have r6 := r6.mono hle10
           refine WO_seg 1 [(184, .bool (y7 != 0))] kr kr ?_
           refine WO_et rfl (W_cond (y7 != 0) kr ?_ ?_)
           ·intro hc
            rw [if_pos hc] at hr
            refine W_sr (WO_seg 1 [(185, .agg #[.slice none (List.length ([] : List (ByteArray × ByteArray))) 0])] kr kr ?_)
            have st := st.front2
            refine WO_one rfl (One_store (t := 25) (x := (.tmp 4)) (y := (.tmp 185)) (v := .agg #[.slice none (List.length ([] : List (ByteArray × ByteArray))) 0]) (c' := #[.slice none (List.length ([] : List (ByteArray × ByteArray))) 0]) kr (ev (.pointer (some ⟨b2, 0, none⟩))) (ev (.agg #[.slice none (List.length ([] : List (ByteArray × ByteArray))) 0])) st kr kr ?_)
            clear st
            intro w66 st
            refine WO_seg 1 [(5, .int .i64 1)] kr kr ?_
            refine WO_et rfl (W_ret ?_)
            refine X_then_ret ?_
            obtain rfl := Option.some.inj hr
            refine X_ret [.cell 4 25, .tmp 5] [.agg #[.slice none (List.length ([] : List (ByteArray × ByteArray))) 0], .int .i64 1] rfl (ResAll.cons (ResAt.blk (v := .agg #[.slice none (List.length ([] : List (ByteArray × ByteArray))) 0]) (o := 0) kr st.head kr) (ResAll.cons (ResAt.tmp kr) ResAll.nil)) ?_
            have st := st.nilroom 74 2
            have st := st.front1
            have st := st.tail
            have st := st.front1
            have st := st.tail
            have st := st.front1
            have st := st.tail
            have st := st.front1
            have st := st.tail
            have st := st.front1
            have st := st.tail
            have st := st.front1
            have st := st.tail
            have st := st.front1
            have st := st.tail
            exact ⟨none, 0, m32, rfl, hm, st, (RepS.nil _ _)⟩
           ·intro hc
            rw [if_neg (not_true hc)] at hr
            refine W_skip ?_
            refine X_then ?_
            refine W_sr (WO_one rfl (One_load_own (d := 186) (t := 25) (x := (.tmp 27)) (.agg #[.slice a3 (List.length y6) c3]) kr rfl (ev (.pointer (some ⟨b16, 0, none⟩))) st.tail.head kr ?_))
            have st := st.front2
            refine WO_one rfl (One_store (t := 25) (x := (.tmp 4)) (y := (.tmp 186)) (v := .agg #[.slice a3 (List.length y6) c3]) (c' := #[.slice a3 (List.length y6) c3]) kr (ev (.pointer (some ⟨b2, 0, none⟩))) (ev (.agg #[.slice a3 (List.length y6) c3])) st kr kr ?_)
            clear st
            intro w67 st
            refine WO_seg 1 [(5, .int .i64 0)] kr kr ?_
            refine WO_et rfl (W_ret ?_)
            obtain rfl := Option.some.inj hr
            refine X_ret [.cell 4 25, .tmp 5] [.agg #[.slice a3 (List.length y6) c3], .int .i64 0] rfl (ResAll.cons (ResAt.blk (v := .agg #[.slice a3 (List.length y6) c3]) (o := 0) kr st.head kr) (ResAll.cons (ResAt.tmp kr) ResAll.nil)) ?_
            have st := st.tail
            have st := st.front1
            have st := st.tail
            have st := st.front1
            have st := st.tail
            have st := st.front1
            have st := st.tail
            have st := st.front1
            have st := st.tail
            have st := st.front1
            have st := st.tail
            exact ⟨a3, c3, m32, rfl, hm, st, r28⟩
          intro K11_u14
          have st := st.front1.front1.front7.front7.front7.front5.front7.front7
          refine W_env _ kr (W_loop (fun k7 L' w' => ∃ (s7 : (List (ByteArray × ByteArray))) (a4 : Option Addr) (c4 : Nat) (T2 : List Value) (sn8 : Array Nat) (rem8 : List (ByteArray × ByteArray)) (m28 : Mem), LoopP (filediff_Apply_L7 N) rem8 s7 PKu14 k7 ∧ L' = [(4, .pointer (some ⟨b2, 0, none⟩)), (27, .pointer (some ⟨b16, 0, none⟩)), (165, .pointer (some ⟨b17, 0, none⟩))] ∧ m.le m28 ∧ St m28 (.blk b16 (.cells #[.slice a4 (List.length s7) c4] 25 (0, 0)) :: .blk b2 (.cells #[.slice none (List.length ([] : List (ByteArray × ByteArray))) 0] 25 (0, 0)) :: mpiece (some b11) es19 ck18 :: mpiece (some b7) es5 ck5 :: mpiece (some b4) es1 ck1 :: mpiece (some b8) es4 ck4 :: opc a4 (acellsM (fun x : ByteArray × ByteArray => ([.string x.1, .string x.2] : List Value)) s7 T2) 74 :: itpiece b17 (some b11) ck18 sn8 :: own) w' ∧ MapQ (fun s : ByteArray => Value.string s) cStr false m28 (some b11) es19 ck18 o12 ∧ MapQ (fun s : ByteArray => Value.string s) cBool false m28 (some b7) es5 ck5 o5.2.2.2 ∧ MapQ (fun s : ByteArray => Value.string s) cStr false m28 (some b4) es1 ck1 o4 ∧ MapQ (fun s : ByteArray => Value.string s) cBool false m28 (some b8) es4 ck4 o5.2.2.1 ∧ OAS a4 (List.length s7) c4 2 T2 ∧ ItR (fun s : ByteArray => Value.string s) cStr false m28 es19 sn8 rem8) (List.length (Option.getD o12 []) + 1) ⟨([] : List (ByteArray × ByteArray)), none, 0, [], #[], (Option.getD o12 []), m22, hr, rfl, hm, st, r21, r7, r3, r6, (OAS.nil 2), hi9⟩ ?_)
          clear st hr
          rintro k7 _ w58 ⟨s7, a4, c4, T2, sn8, rem8, m28, hL, rfl, hm, st, r21, r7, r3, r6, hs2, hi11⟩
          rcases k7 with _ | k7
          ·exact LoopP.zero hL
          ·refine W_sr ?_
           have st := st.front2.front7
           refine WO_one rfl (One_next (ek := (fun s : ByteArray => Value.string s)) (c := cStr) (agg := false) (d := 166) (x := (.tmp 165)) kr rfl (ev (.pointer (some ⟨b17, 0, none⟩))) st r21 hi11 ?_ ?_)
           ·intro hx20 w59 st
            obtain ⟨qu14, hr, hSu14, hBu14⟩ := hL.nil hx20
            clear hL
            unfold filediff_Apply_L7 at hr
            dsimp only at hr
            refine WO_seg 1 [(167, .bool false)] kr kr ?_
            refine WO_et rfl (W_seq ?_)
            refine W_cond false kr (fun h => Bool.noConfusion h) ?_
            intro _
            refine W_exit ?_
            refine X_then_exit ?_
            obtain rfl := Option.some.inj hr
            have ho := hBu14 _ rfl
            have st := st.front7.front7.front7.front7.front5.front7.front7
            refine X_then_exit ?_
            exact X_env _ kr (K11_u14 _ _ ⟨s7, a4, c4, T2, sn8, rem8, m28, ho, rfl, hm, st, r21, r7, r3, r6, hs2, hi11⟩)
           ·rintro kv3 rem9 sn9 cs13 w60 hx21 rfl st hi12 he3
            obtain ⟨qu14, hr, hSu14, hBu14⟩ := hL.cons hx21
            clear hL
            unfold filediff_Apply_L7 at hr
            dsimp only at hr
            refine WO_seg 1 [(167, .bool true)] kr kr ?_
            refine WO_et rfl (W_seq ?_)
            refine W_cond true kr ?_ (fun h => Bool.noConfusion h)
            intro _
            refine W_skip ?_
            refine X_then ?_
            refine W_block ?_
            refine W_sr ?_
            have st := st.front1.front1
            refine WO_one rfl (One_entry (ek := (fun s : ByteArray => Value.string s)) (c := cStr) (agg := false) (d := 168) (x := (.tmp 165)) (K := .string kv3.1) (V := .string kv3.2) kr rfl (ev (.pointer (some ⟨b17, 0, none⟩))) st r21 he3 ?_)
            refine WO_seg 4 [(28, .string kv3.1), (29, .string kv3.2)] kr kr ?_
            refine WO_et rfl (W_region ?_)
            refine WO_seg 1 [(171, .pointer (some ⟨b16, 0, none⟩))] kr kr ?_
            refine WO_one rfl (One_load_own (d := 172) (t := 23) (x := (.tmp 171)) (.slice a4 (List.length s7) c4) kr rfl (ev (.pointer (some ⟨b16, 0, none⟩))) st.tail.tail.head kr ?_)
            refine WO_seg 3 [(175, .agg #[.string kv3.1, .string kv3.2])] kr kr ?_
            refine WO_one rfl (One_buildSlice (d := 176) (t := 23) (e := 74) (len := 1) (parts := #[(0, (.tmp 175))]) (cPair cStr cStr) (xs := [(kv3.1, kv3.2)]) [.string kv3.1, .string kv3.2] kr rfl (fun _ => buildCells_run kr _) rfl rfl st ⟨[.string kv3.1, .string kv3.2], _, rfl, ⟨_, _, rfl, rfl, rfl⟩, rfl⟩ ?_)
            clear st
            intro b18 m29 w61 hle7 st r26
            have hm := Mem.le_trans hm hle7
            have hi12 := hi12.mono hle7
            have r21 := r21.mono hle7
            have r7 := r7.mono hle7
            have r3 := r3.mono hle7
            have r6 := r6.mono hle7
            have st := st.front8
            replace ⟨l1, hx22, hr⟩ := bindS hr
            refine WO_one rfl (One_appendM (d := 177) (t := 23) (u := 23) (e := 74) (by_ := 32) (x := (.tmp 172)) (y := (.tmp 176)) (c := (cPair cStr cStr)) (f := (fun x : ByteArray × ByteArray => ([.string x.1, .string x.2] : List Value))) (l := s7) (fun _ _ _ h => by obtain ⟨_, _, rfl, rfl, rfl⟩ := h; rfl) (fun _ => rfl) kr rfl (ev (.slice a4 (List.length s7) c4)) (ev (.slice (some ⟨b18, 0, none⟩) (List.length ([(kv3.1, kv3.2)])) 1)) st hs2 rfl kr (.inl kr) r26.src hx22 ?_)
            clear st
            intro a5 c5 T3 w62 hs3 st
            refine WO_seg 1 [(178, .pointer (some ⟨b16, 0, none⟩))] kr kr ?_
            have st := st.front4
            refine WO_one rfl (One_store (t := 23) (x := (.tmp 178)) (y := (.tmp 177)) (v := .slice a5 (List.length l1) c5) (c' := #[.slice a5 (List.length l1) c5]) kr (ev (.pointer (some ⟨b16, 0, none⟩))) (ev (.slice a5 (List.length l1) c5)) st kr kr ?_)
            clear st
            intro w63 st
            refine WO_end rfl ?_
            have st := st.front2
            have st := st.tail
            refine X_block ?_
            obtain rfl := Option.some.inj hr
            have hL := hSu14 _ rfl
            have st := st.front2.front2.front7.front7.front7.front6.front7.front7
            exact X_env _ kr (X_round k7 (Nat.lt_succ_self _) ⟨l1, a5, c5, T3, sn9, rem9, m29, hL, rfl, hm, st, r21, r7, r3, r6, hs3, hi12⟩)
         intro K9_u11
         have st := st.front4.front4.front4.front4.front4
         refine W_env _ kr (W_loop (fun k6 L' w' => ∃ (s6 : Int × (Option (List (ByteArray × ByteArray)))) (es20 : Array MapEntry) (ck19 : Nat) (m23 : Mem), loopM (filediff_Apply_L6 N p1 o4 o5) k6 s6 = some out6 ∧ L' = [(4, .pointer (some ⟨b2, 0, none⟩)), (6, .map (some b4)), (9, .map (some b7)), (19, .map (some b11)), (123, .slice a2 (List.length p1) c2), (124, .int .i64 (List.length p1 : Int)), (125, .int .i64 s6.1)] ∧ m.le m23 ∧ St m23 (.blk b2 (.cells #[.slice none (List.length ([] : List (ByteArray × ByteArray))) 0] 25 (0, 0)) :: mpiece (some b7) es5 ck5 :: mpiece (some b4) es1 ck1 :: mpiece (some b11) es20 ck19 :: mpiece (some b8) es4 ck4 :: own) w' ∧ RepS (cPair (cInt .i64) (cPair cStr (cPair cStr cStr))) m23 a2 c2 p1 ∧ MapQ (fun s : ByteArray => Value.string s) cBool false m23 (some b7) es5 ck5 o5.2.2.2 ∧ MapQ (fun s : ByteArray => Value.string s) cStr false m23 (some b4) es1 ck1 o4 ∧ MapQ (fun s : ByteArray => Value.string s) cStr false m23 (some b11) es20 ck19 s6.2 ∧ MapQ (fun s : ByteArray => Value.string s) cBool false m23 (some b8) es4 ck4 o5.2.2.1) N ⟨(0, o11), es16, ck16, m20, hr, rfl, hm, st, r2, r7, r3, r18, r6⟩ ?_)
         clear st hr
         rintro k6 _ w46 ⟨s6, es20, ck19, m23, hL, rfl, hm, st, r2, r7, r3, r22, r6⟩
         rcases k6 with _ | k6
         ·exact loopM_zero hL
         ·obtain ⟨qu11, hr, hSu11, hBu11⟩ := loopM_succ hL
          clear hL
          unfold filediff_Apply_L6 at hr
          refine W_sr (WO_seg 1 [(126, .bool (decide (s6.1 < (List.length p1 : Int))))] kr kr ?_)
          refine WO_et rfl (W_seq ?_)
          refine W_cond (decide (s6.1 < (List.length p1 : Int))) kr ?_ ?_
          ·intro hc
           rw [if_pos hc] at hr
           refine W_skip ?_
           refine X_then ?_
           refine W_seq ?_
           replace ⟨qu12, hr, hrKu12⟩ := bindS hr
           refine W_cut .normal (fun L' w' => ∃ (o13 : (Option (List (ByteArray × ByteArray)))) (es21 : Array MapEntry) (ck20 : Nat) (m24 : Mem), (.inl o13 : ((Option (List (ByteArray × ByteArray)))) ⊕ ((Int × (Option (List (ByteArray × ByteArray)))) ⊕ (((Option (List (ByteArray × ByteArray)))) ⊕ (((List (ByteArray × ByteArray))) × Int)))) = qu12 ∧ L' = [(4, .pointer (some ⟨b2, 0, none⟩)), (6, .map (some b4)), (9, .map (some b7)), (19, .map (some b11)), (123, .slice a2 (List.length p1) c2), (124, .int .i64 (List.length p1 : Int)), (125, .int .i64 s6.1)] ∧ m.le m24 ∧ St m24 (.blk b2 (.cells #[.slice none (List.length ([] : List (ByteArray × ByteArray))) 0] 25 (0, 0)) :: mpiece (some b7) es5 ck5 :: mpiece (some b4) es1 ck1 :: mpiece (some b11) es21 ck20 :: mpiece (some b8) es4 ck4 :: own) w' ∧ RepS (cPair (cInt .i64) (cPair cStr (cPair cStr cStr))) m24 a2 c2 p1 ∧ MapQ (fun s : ByteArray => Value.string s) cBool false m24 (some b7) es5 ck5 o5.2.2.2 ∧ MapQ (fun s : ByteArray => Value.string s) cStr false m24 (some b4) es1 ck1 o4 ∧ MapQ (fun s : ByteArray => Value.string s) cStr false m24 (some b11) es21 ck20 o13 ∧ MapQ (fun s : ByteArray => Value.string s) cBool false m24 (some b8) es4 ck4 o5.2.2.1) ?_ ?_
           ·clear hr st
            rintro _ w47 ⟨o13, es21, ck20, m24, rfl, rfl, hm, st, r2, r7, r3, r23, r6⟩
            have hr := hrKu12
            clear hrKu12
            dsimp only at hr
            refine X_then ?_
            refine W_region ?_
            refine WO_seg 2 [(125, .int .i64 (IntKind.wrap .i64 (s6.1 + 1)))] kr kr ?_
            refine WO_end rfl ?_
            obtain rfl := Option.some.inj hr
            have hL := hSu11 _ rfl
            have st := st.front4.front4.front4.front4.front4
            exact X_env _ kr (X_round k6 (Nat.lt_succ_self _) ⟨(IntKind.wrap .i64 (s6.1 + 1), o13), es21, ck20, m24, hL, rfl, hm, st, r2, r7, r3, r23, r6⟩)
           ·intro Ku12
            refine W_block ?_
            refine W_sr ?_
            replace ⟨x4, hx16, hr⟩ := bindS hr
            refine WO_one rfl (One_index (d := 127) (t := 58) (e := 72) (x := (.tmp 123)) (y := (.tmp 125)) (cPair (cInt .i64) (cPair cStr (cPair cStr cStr))) kr rfl (ev (.slice a2 (List.length p1) c2)) (ev (.int .i64 s6.1)) kr r2 hx16 ?_)
            rintro b14 f4 cs9 ⟨_, _, rfl, rfl, ⟨_, _, rfl, rfl, ⟨_, _, rfl, rfl, rfl⟩⟩⟩ hq4
            refine WO_one rfl (One_load_row (d := 128) (t := 72) (x := (.tmp 127)) (.agg #[.int .i64 x4.1, .string x4.2.1, .string x4.2.2.1, .string x4.2.2.2]) kr rfl (ev (.pointer (some ⟨b14, f4, none⟩))) st hq4 kr ?_)
            refine WO_one rfl (One_alloc (d := 24) (e := 72) (.agg #[.int .i64 0, .string (⟨#[]⟩ : ByteArray), .string (⟨#[]⟩ : ByteArray), .string (⟨#[]⟩ : ByteArray)]) kr rfl kr st ?_)
            clear st
            intro b15 w48 st
            refine WO_one rfl (One_store (t := 72) (x := (.tmp 24)) (y := (.tmp 128)) (v := .agg #[.int .i64 x4.1, .string x4.2.1, .string x4.2.2.1, .string x4.2.2.2]) (c' := #[.int .i64 x4.1, .string x4.2.1, .string x4.2.2.1, .string x4.2.2.2]) kr (ev (.pointer (some ⟨b15, 0, none⟩))) (ev (.agg #[.int .i64 x4.1, .string x4.2.1, .string x4.2.2.1, .string x4.2.2.2])) st kr kr ?_)
            clear st
            intro w49 st
            refine WO_et rfl (W_seq ?_)
            refine W_sr (WO_one rfl (One_load_own (d := 129) (t := 72) (x := (.tmp 24)) (.agg #[.int .i64 x4.1, .string x4.2.1, .string x4.2.2.1, .string x4.2.2.2]) kr rfl (ev (.pointer (some ⟨b15, 0, none⟩))) st.head kr ?_))
            replace ⟨y5, hx17, hr⟩ := bindS hr
            refine WO_one rfl (One_fn 130 88 #[.agg #[.int .i64 x4.1, .string x4.2.1, .string x4.2.2.1, .string x4.2.2.2]] kr rfl ?_)
            refine (filediff_put_ok st hx17).mono ?_
            clear st
            rintro _ w50 ⟨m25, rfl, hle6, st⟩
            refine ⟨_, rfl, ?_⟩
            have hm := Mem.le_trans hm hle6
            have r2 := r2.mono hle6
            have r7 := r7.mono hle6
            have r3 := r3.mono hle6
            have r22 := r22.mono hle6
            have r6 := r6.mono hle6
            refine WO_seg 1 [(131, .bool (!y5))] kr kr ?_
            refine WO_et rfl (W_cond (!y5) kr ?_ ?_)
            ·intro hc
             rw [if_pos hc] at hr
             refine W_exit ?_
             refine X_then_exit ?_
             refine X_block_eq ?_
             have hqu12 := Option.some.inj hr
             have st := st.tail
             have st := st.front4.front4.front4.front4.front4
             exact X_env _ kr (Ku12 _ _ ⟨s6.2, es20, ck19, m25, hqu12, rfl, hm, st, r2, r7, r3, r22, r6⟩)
            ·intro hc
             rw [if_neg (not_true hc)] at hr
             refine W_skip ?_
             refine X_then ?_
             refine W_seq ?_
             refine W_sr (WO_seg 2 [(133, .map (some b4)), (134, .pointer (some ⟨b15, 1, none⟩))] kr kr ?_)
             refine WO_one rfl (One_load_own (d := 135) (t := 9) (x := (.tmp 134)) (.string x4.2.1) kr rfl (ev (.pointer (some ⟨b15, 1, none⟩))) st.head kr ?_)
             refine WO_one rfl (One_lookup (ek := (fun s : ByteArray => Value.string s)) (c := cStr) (agg := false) (k := x4.2.1) (zx := (⟨#[]⟩ : ByteArray)) (zcs := [.string (⟨#[]⟩ : ByteArray)]) (z := (.string (⟨#[]⟩ : ByteArray))) (kt := 9) (et := 9) (d := 136) (t := 136) (x := (.tmp 133)) (y := (.tmp 135)) (ok := true) kr rfl (ev (.map (some b4))) (ev (.string x4.2.1)) kr (keyStr kr) st.tail.tail.tail.head r3 rfl rfl ?_)
             rintro cs10 rfl
             refine WO_seg 5 [(26, .bool ((mgetQ o4 x4.2.1).isSome))] kr kr ?_
             refine WO_et rfl (W_sr ?_)
             replace ⟨o14, hr, hrK⟩ := bindS hr
             refine WO_cut (j := 8) (fun L' w' => ∃ (m26 : Mem), L' = [(4, .pointer (some ⟨b2, 0, none⟩)), (6, .map (some b4)), (9, .map (some b7)), (19, .map (some b11)), (24, .pointer (some ⟨b15, 0, none⟩)), (123, .slice a2 (List.length p1) c2), (124, .int .i64 (List.length p1 : Int)), (125, .int .i64 s6.1), (146, .bool o14)] ∧ m.le m26 ∧ St m26 (.blk b15 (.cells #[.int .i64 x4.1, .string x4.2.1, .string x4.2.2.1, .string x4.2.2.2] 72 (0, 0)) :: .blk b2 (.cells #[.slice none (List.length ([] : List (ByteArray × ByteArray))) 0] 25 (0, 0)) :: mpiece (some b7) es5 ck5 :: mpiece (some b4) es1 ck1 :: mpiece (some b11) es20 ck19 :: mpiece (some b8) es4 ck4 :: own) w' ∧ RepS (cPair (cInt .i64) (cPair cStr (cPair cStr cStr))) m26 a2 c2 p1 ∧ MapQ (fun s : ByteArray => Value.string s) cBool false m26 (some b7) es5 ck5 o5.2.2.2 ∧ MapQ (fun s : ByteArray => Value.string s) cStr false m26 (some b4) es1 ck1 o4 ∧ MapQ (fun s : ByteArray => Value.string s) cStr false m26 (some b11) es20 ck19 s6.2 ∧ MapQ (fun s : ByteArray => Value.string s) cBool false m26 (some b8) es4 ck4 o5.2.2.1) ?_ ?_
             ·clear hr st
              have hr := hrK
              clear hrK
              rintro _ w51 ⟨m26, rfl, hm, st, r2, r7, r3, r22, r6⟩
              refine WO_et rfl (W_cond o14 kr ?_ ?_)
              ·intro hc
               rw [if_pos hc] at hr
               refine W_sr (WO_seg 1 [(147, .agg #[.slice none (List.length ([] : List (ByteArray × ByteArray))) 0])] kr kr ?_)
               have st := st.front1
               refine WO_one rfl (One_store (t := 25) (x := (.tmp 4)) (y := (.tmp 147)) (v := .agg #[.slice none (List.length ([] : List (ByteArray × ByteArray))) 0]) (c' := #[.slice none (List.length ([] : List (ByteArray × ByteArray))) 0]) kr (ev (.pointer (some ⟨b2, 0, none⟩))) (ev (.agg #[.slice none (List.length ([] : List (ByteArray × ByteArray))) 0])) st kr kr ?_)
               clear st
               intro w52 st
               refine WO_seg 1 [(5, .int .i64 19)] kr kr ?_
               refine WO_et rfl (W_ret ?_)
               refine X_then_ret ?_
               refine X_block_ret ?_
               obtain rfl := Option.some.inj hr
               have hr := hrKu12
               try dsimp only at hr
               refine X_then_ret ?_
               obtain rfl := Option.some.inj hr
               have ho := hBu11 _ rfl
               subst ho
               have hr := hrKu11
               dsimp only at hr
               refine X_then_ret ?_
               refine X_block_ret ?_
               refine X_then_ret ?_
               obtain rfl := Option.some.inj hr
               refine X_ret [.cell 4 25, .tmp 5] [.agg #[.slice none (List.length ([] : List (ByteArray × ByteArray))) 0], .int .i64 19] rfl (ResAll.cons (ResAt.blk (v := .agg #[.slice none (List.length ([] : List (ByteArray × ByteArray))) 0]) (o := 0) kr st.head kr) (ResAll.cons (ResAt.tmp kr) ResAll.nil)) ?_
               have st := st.nilroom 74 2
               have st := st.front1
               have st := st.tail
               have st := st.front1
               have st := st.tail
               have st := st.front1
               have st := st.tail
               have st := st.front1
               have st := st.tail
               have st := st.front1
               have st := st.tail
               have st := st.front1
               have st := st.tail
               exact ⟨none, 0, m26, rfl, hm, st, (RepS.nil _ _)⟩
              ·intro hc
               rw [if_neg (not_true hc)] at hr
               refine W_skip ?_
               refine X_then ?_
               refine W_sr (WO_seg 2 [(148, .map (some b11)), (149, .pointer (some ⟨b15, 1, none⟩))] kr kr ?_)
               refine WO_one rfl (One_load_own (d := 150) (t := 9) (x := (.tmp 149)) (.string x4.2.1) kr rfl (ev (.pointer (some ⟨b15, 1, none⟩))) st.head kr ?_)
               refine WO_seg 1 [(151, .pointer (some ⟨b15, 3, none⟩))] kr kr ?_
               refine WO_one rfl (One_load_own (d := 152) (t := 9) (x := (.tmp 151)) (.string x4.2.2.2) kr rfl (ev (.pointer (some ⟨b15, 3, none⟩))) st.head kr ?_)
               have st := st.front4
               replace ⟨mp5, hx18, hr⟩ := bindS hr
               refine WO_one rfl (One_mapUpdate (ek := (fun s : ByteArray => Value.string s)) (c := cStr) (agg := false) (k := x4.2.1) (yv := x4.2.2.2) (cs := [.string x4.2.2.2]) (z := (.string (⟨#[]⟩ : ByteArray))) (v := (.string x4.2.2.2)) (kt := 9) (et := 9) (t := 136) (x := (.tmp 148)) (y := (.tmp 150)) (u := (.tmp 152)) kr (ev (.map (some b11))) (ev (.string x4.2.1)) (ev (.string x4.2.2.2)) kr (keyStr kr) st r22 rfl rfl hx18 ?_)
               clear st
               intro es22 ck21 w53 st r24
               refine WO_et rfl (W_sr ?_)
               refine WO_seg 1 [(153, .pointer (some ⟨b15, 0, none⟩))] kr kr ?_
               refine WO_one rfl (One_load_own (d := 154) (t := 3) (x := (.tmp 153)) (.int .i64 x4.1) kr rfl (ev (.pointer (some ⟨b15, 0, none⟩))) st.tail.head kr ?_)
               refine WO_seg 1 [(155, .bool (x4.1 == 4))] kr kr ?_
               refine WO_et rfl (W_cond (x4.1 == 4) kr ?_ ?_)
               ·intro hc
                rw [if_pos hc] at hr
                refine W_region ?_
                refine WO_seg 2 [(156, .map (some b11)), (157, .pointer (some ⟨b15, 1, none⟩))] kr kr ?_
                refine WO_one rfl (One_load_own (d := 158) (t := 9) (x := (.tmp 157)) (.string x4.2.1) kr rfl (ev (.pointer (some ⟨b15, 1, none⟩))) st.tail.head kr ?_)
                refine WO_seg 2 [(159, .map (some b4)), (160, .pointer (some ⟨b15, 2, none⟩))] kr kr ?_
                refine WO_one rfl (One_load_own (d := 161) (t := 9) (x := (.tmp 160)) (.string x4.2.2.1) kr rfl (ev (.pointer (some ⟨b15, 2, none⟩))) st.tail.head kr ?_)
                refine WO_one rfl (One_lookup (ek := (fun s : ByteArray => Value.string s)) (c := cStr) (agg := false) (k := x4.2.2.1) (zx := (⟨#[]⟩ : ByteArray)) (zcs := [.string (⟨#[]⟩ : ByteArray)]) (z := (.string (⟨#[]⟩ : ByteArray))) (kt := 9) (et := 9) (d := 162) (t := 136) (x := (.tmp 159)) (y := (.tmp 161)) (ok := false) kr rfl (ev (.map (some b4))) (ev (.string x4.2.2.1)) kr (keyStr kr) st.tail.tail.tail.tail.head r3 rfl rfl ?_)
                rintro cs12 rfl
                replace ⟨mp6, hx19, hr⟩ := bindS hr
                refine WO_one rfl (One_mapUpdate (ek := (fun s : ByteArray => Value.string s)) (c := cStr) (agg := false) (k := x4.2.1) (yv := ((mgetQ o4 x4.2.2.1).getD (⟨#[]⟩ : ByteArray))) (cs := [.string ((mgetQ o4 x4.2.2.1).getD (⟨#[]⟩ : ByteArray))]) (z := (.string (⟨#[]⟩ : ByteArray))) (v := (.string ((mgetQ o4 x4.2.2.1).getD (⟨#[]⟩ : ByteArray)))) (kt := 9) (et := 9) (t := 136) (x := (.tmp 156)) (y := (.tmp 158)) (u := (.tmp 162)) kr (ev (.map (some b11))) (ev (.string x4.2.1)) (ev (.string ((mgetQ o4 x4.2.2.1).getD (⟨#[]⟩ : ByteArray)))) kr (keyStr kr) st r24 rfl rfl hx19 ?_)
                clear st
                intro es23 ck22 w54 st r25
                refine WO_end rfl ?_
                refine X_block ?_
                have hqu12 := Option.some.inj hr
                have st := st.front1
                have st := st.tail
                have st := st.front4.front1.front4.front4.front4
                exact X_env _ kr (Ku12 _ _ ⟨mp6, es23, ck22, m26, hqu12, rfl, hm, st, r2, r7, r3, r25, r6⟩)
               ·intro hc
                rw [if_neg (not_true hc)] at hr
                refine W_skip ?_
                refine X_block ?_
                have hqu12 := Option.some.inj hr
                have st := st.front1
                have st := st.tail
                have st := st.front4.front1.front4.front4.front4
                exact X_env _ kr (Ku12 _ _ ⟨mp5, es22, ck21, m26, hqu12, rfl, hm, st, r2, r7, r3, r24, r6⟩)
             ·intro K
              clear hrK
              refine WO_seg 2 [(140, .bool ((mgetQ o4 x4.2.1).isSome))] kr kr ?_
              rcases bcases ((mgetQ o4 x4.2.1).isSome) with hc | hc
              ·rw [if_pos hc] at hr
               refine WO_fact (t := 140) (b := true) ((mgetQ o4 x4.2.1).isSome) kr hc ?_
               refine WO_seg 2 [(141, .map (some b7)), (142, .pointer (some ⟨b15, 1, none⟩))] kr kr ?_
               refine WO_one rfl (One_load_own (d := 143) (t := 9) (x := (.tmp 142)) (.string x4.2.1) kr rfl (ev (.pointer (some ⟨b15, 1, none⟩))) st.head kr ?_)
               refine WO_one rfl (One_lookup (ek := (fun s : ByteArray => Value.string s)) (c := cBool) (agg := false) (k := x4.2.1) (zx := false) (zcs := [.bool false]) (z := (.bool false)) (kt := 9) (et := 4) (d := 144) (t := 137) (x := (.tmp 141)) (y := (.tmp 143)) (ok := false) kr rfl (ev (.map (some b7))) (ev (.string x4.2.1)) kr (keyStr kr) st.tail.tail.head r7 rfl rfl ?_)
               rintro cs11 rfl
               refine WO_seg 2 [(146, .bool (!((mgetQ o5.2.2.2 x4.2.1).getD false)))] kr kr ?_
               obtain rfl := Option.some.inj hr
               have st := st.front5.front5.front5.front5.front5.front5
               exact WO_env _ kr (K _ _ ⟨m25, rfl, hm, st, r2, r7, r3, r22, r6⟩)
              ·rw [if_neg (not_true hc)] at hr
               refine WO_fact (t := 140) (b := false) ((mgetQ o4 x4.2.1).isSome) kr hc ?_
               refine WO_seg 6 [(146, .bool false)] kr kr ?_
               obtain rfl := Option.some.inj hr
               have st := st.front5.front5.front5.front5.front5.front5
               exact WO_env _ kr (K _ _ ⟨m25, rfl, hm, st, r2, r7, r3, r22, r6⟩)
          ·intro hc
           rw [if_neg (not_true hc)] at hr
           refine W_exit ?_
           refine X_then_exit ?_
           obtain rfl := Option.some.inj hr
           have ho := hBu11 _ rfl
           have st := st.front4.front4.front4.front4.front4
           refine X_then_exit ?_
           exact X_env _ kr (K9_u11 _ _ ⟨s6.2, es20, ck19, m23, ho, rfl, hm, st, r7, r3, r22, r6⟩)
        intro K7_u10
        have st := st.front5.front5.front5.front4.front5
        refine W_env _ kr (W_loop (fun k5 L' w' => ∃ (s5 : (Option (List (ByteArray × ByteArray)))) (es17 : Array MapEntry) (ck17 : Nat) (sn5 : Array Nat) (rem5 : List (ByteArray × Bool)) (m21 : Mem), LoopP (filediff_Apply_L5 N) rem5 s5 PKu10 k5 ∧ L' = [(1, .slice a2 (List.length p1) c2), (4, .pointer (some ⟨b2, 0, none⟩)), (6, .map (some b4)), (9, .map (some b7)), (19, .map (some b11)), (116, .pointer (some ⟨b13, 0, none⟩))] ∧ m.le m21 ∧ St m21 (.blk b2 (.cells #[.slice none (List.length ([] : List (ByteArray × ByteArray))) 0] 25 (0, 0)) :: mpiece (some b7) es5 ck5 :: mpiece (some b4) es1 ck1 :: mpiece (some b11) es17 ck17 :: mpiece (some b8) es4 ck4 :: itpiece b13 (some b7) ck5 sn5 :: own) w' ∧ RepS (cPair (cInt .i64) (cPair cStr (cPair cStr cStr))) m21 a2 c2 p1 ∧ MapQ (fun s : ByteArray => Value.string s) cBool false m21 (some b7) es5 ck5 o5.2.2.2 ∧ MapQ (fun s : ByteArray => Value.string s) cStr false m21 (some b4) es1 ck1 o4 ∧ MapQ (fun s : ByteArray => Value.string s) cStr false m21 (some b11) es17 ck17 s5 ∧ MapQ (fun s : ByteArray => Value.string s) cBool false m21 (some b8) es4 ck4 o5.2.2.1 ∧ ItR (fun s : ByteArray => Value.string s) cBool false m21 es5 sn5 rem5) (List.length (Option.getD o5.2.2.2 []) + 1) ⟨o10, es13, ck13, #[], (Option.getD o5.2.2.2 []), m18, hr, rfl, hm, st, r2, r7, r3, r15, r6, hi5⟩ ?_)
        clear st hr
        rintro k5 _ w41 ⟨s5, es17, ck17, sn5, rem5, m21, hL, rfl, hm, st, r2, r7, r3, r19, r6, hi7⟩
        rcases k5 with _ | k5
        ·exact LoopP.zero hL
        ·refine W_sr ?_
         have st := st.front1.front5
         refine WO_one rfl (One_next (ek := (fun s : ByteArray => Value.string s)) (c := cBool) (agg := false) (d := 117) (x := (.tmp 116)) kr rfl (ev (.pointer (some ⟨b13, 0, none⟩))) st r7 hi7 ?_ ?_)
         ·intro hx14 w42 st
          obtain ⟨qu10, hr, hSu10, hBu10⟩ := hL.nil hx14
          clear hL
          unfold filediff_Apply_L5 at hr
          dsimp only at hr
          refine WO_seg 1 [(118, .bool false)] kr kr ?_
          refine WO_et rfl (W_seq ?_)
          refine W_cond false kr (fun h => Bool.noConfusion h) ?_
          intro _
          refine W_exit ?_
          refine X_then_exit ?_
          obtain rfl := Option.some.inj hr
          have ho := hBu10 _ rfl
          have st := st.front5.front5.front5.front4.front5
          refine X_then_exit ?_
          exact X_env _ kr (K7_u10 _ _ ⟨s5, es17, ck17, sn5, rem5, m21, ho, rfl, hm, st, r2, r7, r3, r19, r6, hi7⟩)
         ·rintro kv2 rem6 sn6 cs8 w43 hx15 rfl st hi8 he2
          obtain ⟨qu10, hr, hSu10, hBu10⟩ := hL.cons hx15
          clear hL
          unfold filediff_Apply_L5 at hr
          dsimp only at hr
          refine WO_seg 1 [(118, .bool true)] kr kr ?_
          refine WO_et rfl (W_seq ?_)
          refine W_cond true kr ?_ (fun h => Bool.noConfusion h)
          intro _
          refine W_skip ?_
          refine X_then ?_
          refine W_block ?_
          refine W_sr ?_
          have st := st.front1.front1
          refine WO_one rfl (One_entry (ek := (fun s : ByteArray => Value.string s)) (c := cBool) (agg := false) (d := 119) (x := (.tmp 116)) (K := .string kv2.1) (V := .bool kv2.2) kr rfl (ev (.pointer (some ⟨b13, 0, none⟩))) st r7 he2 ?_)
          refine WO_seg 2 [(22, .string kv2.1)] kr kr ?_
          refine WO_et rfl (W_region ?_)
          refine WO_seg 2 [(121, .map (some b11)), (122, .string kv2.1)] kr kr ?_
          have st := st.front4
          refine WO_one rfl (One_delete (ek := (fun s : ByteArray => Value.string s)) (c := cStr) (agg := false) (k := kv2.1) (z := (.string (⟨#[]⟩ : ByteArray))) (kt := 9) (et := 9) (t := 136) (t2 := 9) (x := (.tmp 121)) (y := (.tmp 122)) kr (ev (.map (some b11))) (ev (.string kv2.1)) kr (keyStr kr) st r19 ?_)
          clear st
          intro es18 w44 st r20
          refine WO_end rfl ?_
          refine X_block ?_
          obtain rfl := Option.some.inj hr
          have hL := hSu10 _ rfl
          have st := st.front1.front5.front2.front5.front4.front5
          exact X_env _ kr (X_round k5 (Nat.lt_succ_self _) ⟨mdelQ s5 kv2.1, es18, ck17, sn6, rem6, m21, hL, rfl, hm, st, r2, r7, r3, r20, r6, hi8⟩)
       intro K5_u9
       have st := st.front5.front5.front4.front4.front5
       refine W_env _ kr (W_loop (fun k4 L' w' => ∃ (s4 : (Option (List (ByteArray × ByteArray)))) (es14 : Array MapEntry) (ck14 : Nat) (sn2 : Array Nat) (rem2 : List (ByteArray × ByteArray)) (m19 : Mem), LoopP (filediff_Apply_L4 N) rem2 s4 PKu9 k4 ∧ L' = [(1, .slice a2 (List.length p1) c2), (4, .pointer (some ⟨b2, 0, none⟩)), (6, .map (some b4)), (9, .map (some b7)), (19, .map (some b11)), (106, .pointer (some ⟨b12, 0, none⟩))] ∧ m.le m19 ∧ St m19 (.blk b2 (.cells #[.slice none (List.length ([] : List (ByteArray × ByteArray))) 0] 25 (0, 0)) :: mpiece (some b4) es1 ck1 :: mpiece (some b11) es14 ck14 :: mpiece (some b8) es4 ck4 :: mpiece (some b7) es5 ck5 :: itpiece b12 (some b4) ck1 sn2 :: own) w' ∧ RepS (cPair (cInt .i64) (cPair cStr (cPair cStr cStr))) m19 a2 c2 p1 ∧ MapQ (fun s : ByteArray => Value.string s) cStr false m19 (some b4) es1 ck1 o4 ∧ MapQ (fun s : ByteArray => Value.string s) cStr false m19 (some b11) es14 ck14 s4 ∧ MapQ (fun s : ByteArray => Value.string s) cBool false m19 (some b8) es4 ck4 o5.2.2.1 ∧ MapQ (fun s : ByteArray => Value.string s) cBool false m19 (some b7) es5 ck5 o5.2.2.2 ∧ ItR (fun s : ByteArray => Value.string s) cStr false m19 es1 sn2 rem2) (List.length (Option.getD o4 []) + 1) ⟨(some [] : Option (List (ByteArray × ByteArray))), #[], 0, #[], (Option.getD o4 []), m10, hr, rfl, hm, st, r2, r3, (MapQ.new (fun s : ByteArray => Value.string s) cStr false _ _), r6, r7, hi1⟩ ?_)
       clear st hr
       rintro k4 _ w35 ⟨s4, es14, ck14, sn2, rem2, m19, hL, rfl, hm, st, r2, r3, r16, r6, r7, hi3⟩
       rcases k4 with _ | k4
       ·exact LoopP.zero hL
       ·refine W_sr ?_
        have st := st.front1.front5
        refine WO_one rfl (One_next (ek := (fun s : ByteArray => Value.string s)) (c := cStr) (agg := false) (d := 107) (x := (.tmp 106)) kr rfl (ev (.pointer (some ⟨b12, 0, none⟩))) st r3 hi3 ?_ ?_)
        ·intro hx11 w36 st
         obtain ⟨qu9, hr, hSu9, hBu9⟩ := hL.nil hx11
         clear hL
         unfold filediff_Apply_L4 at hr
         dsimp only at hr
         refine WO_seg 1 [(108, .bool false)] kr kr ?_
         refine WO_et rfl (W_seq ?_)
         refine W_cond false kr (fun h => Bool.noConfusion h) ?_
         intro _
         refine W_exit ?_
         refine X_then_exit ?_
         obtain rfl := Option.some.inj hr
         have ho := hBu9 _ rfl
         have st := st.front5.front5.front5.front4.front5
         refine X_then_exit ?_
         exact X_env _ kr (K5_u9 _ _ ⟨s4, es14, ck14, sn2, rem2, m19, ho, rfl, hm, st, r2, r3, r16, r6, r7, hi3⟩)
        ·rintro kv1 rem3 sn3 cs7 w37 hx12 rfl st hi4 he1
         obtain ⟨qu9, hr, hSu9, hBu9⟩ := hL.cons hx12
         clear hL
         unfold filediff_Apply_L4 at hr
         dsimp only at hr
         refine WO_seg 1 [(108, .bool true)] kr kr ?_
         refine WO_et rfl (W_seq ?_)
         refine W_cond true kr ?_ (fun h => Bool.noConfusion h)
         intro _
         refine W_skip ?_
         refine X_then ?_
         refine W_block ?_
         refine W_sr ?_
         have st := st.front1.front1
         refine WO_one rfl (One_entry (ek := (fun s : ByteArray => Value.string s)) (c := cStr) (agg := false) (d := 109) (x := (.tmp 106)) (K := .string kv1.1) (V := .string kv1.2) kr rfl (ev (.pointer (some ⟨b12, 0, none⟩))) st r3 he1 ?_)
         refine WO_seg 4 [(20, .string kv1.1), (21, .string kv1.2)] kr kr ?_
         refine WO_et rfl (W_region ?_)
         refine WO_seg 3 [(112, .map (some b11)), (113, .string kv1.1), (114, .string kv1.2)] kr kr ?_
         have st := st.front3
         replace ⟨mp4, hx13, hr⟩ := bindS hr
         refine WO_one rfl (One_mapUpdate (ek := (fun s : ByteArray => Value.string s)) (c := cStr) (agg := false) (k := kv1.1) (yv := kv1.2) (cs := [.string kv1.2]) (z := (.string (⟨#[]⟩ : ByteArray))) (v := (.string kv1.2)) (kt := 9) (et := 9) (t := 136) (x := (.tmp 112)) (y := (.tmp 113)) (u := (.tmp 114)) kr (ev (.map (some b11))) (ev (.string kv1.1)) (ev (.string kv1.2)) kr (keyStr kr) st r16 rfl rfl hx13 ?_)
         clear st
         intro es15 ck15 w38 st r17
         refine WO_end rfl ?_
         refine X_block ?_
         obtain rfl := Option.some.inj hr
         have hL := hSu9 _ rfl
         have st := st.front1.front5.front5.front3.front4.front5
         exact X_env _ kr (X_round k4 (Nat.lt_succ_self _) ⟨mp4, es15, ck15, sn3, rem3, m19, hL, rfl, hm, st, r2, r3, r17, r6, r7, hi4⟩)
    intro K2_u4
    clear hrKu4
    have st := st.front3.front2.front2.front3
    refine W_env _ kr (W_loop (fun k3 L' w' => ∃ (s3 : Bool × Bool × Int × (Option (List (ByteArray × Bool))) × (Option (List (ByteArray × Bool)))) (es6 : Array MapEntry) (ck6 : Nat) (es7 : Array MapEntry) (ck7 : Nat) (m11 : Mem), loopM (filediff_Apply_L3 N p1 o4) k3 s3 = some out3 ∧ L' = [(1, .slice a2 (List.length p1) c2), (4, .pointer (some ⟨b2, 0, none⟩)), (6, .map (some b4)), (9, .map (some b7)), (10, .map (some b8)), (11, .bool s3.1), (12, .bool s3.2.1), (54, .slice a2 (List.length p1) c2), (55, .int .i64 (List.length p1 : Int)), (56, .int .i64 s3.2.2.1)] ∧ m.le m11 ∧ St m11 (.blk b2 (.cells #[.slice none (List.length ([] : List (ByteArray × ByteArray))) 0] 25 (0, 0)) :: mpiece (some b8) es6 ck6 :: mpiece (some b7) es7 ck7 :: mpiece (some b4) es1 ck1 :: own) w' ∧ RepS (cPair (cInt .i64) (cPair cStr (cPair cStr cStr))) m11 a2 c2 p1 ∧ MapQ (fun s : ByteArray => Value.string s) cBool false m11 (some b8) es6 ck6 s3.2.2.2.1 ∧ MapQ (fun s : ByteArray => Value.string s) cBool false m11 (some b7) es7 ck7 s3.2.2.2.2 ∧ MapQ (fun s : ByteArray => Value.string s) cStr false m11 (some b4) es1 ck1 o4) N ⟨(false, false, 0, (some [] : Option (List (ByteArray × Bool))), (some [] : Option (List (ByteArray × Bool)))), #[], 0, #[], 0, m8, hr, rfl, hm, st, r2, (MapQ.new (fun s : ByteArray => Value.string s) cBool false _ _), (MapQ.new (fun s : ByteArray => Value.string s) cBool false _ _), r3⟩ ?_)
    clear st hr
    rintro k3 _ w19 ⟨s3, es6, ck6, es7, ck7, m11, hL, rfl, hm, st, r2, r8, r9, r3⟩
    rcases k3 with _ | k3
    ·exact loopM_zero hL
    ·obtain ⟨qu4, hr, hSu4, hBu4⟩ := loopM_succ hL
     clear hL
     unfold filediff_Apply_L3 at hr
     refine W_sr (WO_seg 1 [(57, .bool (decide (s3.2.2.1 < (List.length p1 : Int))))] kr kr ?_)
     refine WO_et rfl (W_seq ?_)
     refine W_cond (decide (s3.2.2.1 < (List.length p1 : Int))) kr ?_ ?_
     ·intro hc
      rw [if_pos hc] at hr
      refine W_skip ?_
      refine X_then ?_
      refine W_seq ?_
      replace ⟨o6, hr, hrKu5⟩ := bindS hr
      refine W_cut .normal (fun L' w' => ∃ (es8 : Array MapEntry) (ck8 : Nat) (es9 : Array MapEntry) (ck9 : Nat) (m12 : Mem), L' = [(1, .slice a2 (List.length p1) c2), (4, .pointer (some ⟨b2, 0, none⟩)), (6, .map (some b4)), (9, .map (some b7)), (10, .map (some b8)), (11, .bool o6.1), (12, .bool o6.2.1), (54, .slice a2 (List.length p1) c2), (55, .int .i64 (List.length p1 : Int)), (56, .int .i64 s3.2.2.1)] ∧ m.le m12 ∧ St m12 (.blk b2 (.cells #[.slice none (List.length ([] : List (ByteArray × ByteArray))) 0] 25 (0, 0)) :: mpiece (some b8) es8 ck8 :: mpiece (some b7) es9 ck9 :: mpiece (some b4) es1 ck1 :: own) w' ∧ RepS (cPair (cInt .i64) (cPair cStr (cPair cStr cStr))) m12 a2 c2 p1 ∧ MapQ (fun s : ByteArray => Value.string s) cBool false m12 (some b8) es8 ck8 o6.2.2.1 ∧ MapQ (fun s : ByteArray => Value.string s) cBool false m12 (some b7) es9 ck9 o6.2.2.2 ∧ MapQ (fun s : ByteArray => Value.string s) cStr false m12 (some b4) es1 ck1 o4) ?_ ?_
      ·clear hr st
       have hr := hrKu5
       clear hrKu5
       rintro _ w20 ⟨es8, ck8, es9, ck9, m12, rfl, hm, st, r2, r10, r11, r3⟩
       refine X_then ?_
       refine W_region ?_
       refine WO_seg 2 [(56, .int .i64 (IntKind.wrap .i64 (s3.2.2.1 + 1)))] kr kr ?_
       refine WO_end rfl ?_
       obtain rfl := Option.some.inj hr
       have hL := hSu4 _ rfl
       have st := st.front3.front3.front3.front3
       exact X_env _ kr (X_round k3 (Nat.lt_succ_self _) ⟨(o6.1, o6.2.1, IntKind.wrap .i64 (s3.2.2.1 + 1), o6.2.2.1, o6.2.2.2), es8, ck8, es9, ck9, m12, hL, rfl, hm, st, r2, r10, r11, r3⟩)
      ·intro Ku5
       clear hrKu5
       refine W_block ?_
       refine W_sr ?_
       replace ⟨x3, hx6, hr⟩ := bindS hr
       refine WO_one rfl (One_index (d := 58) (t := 58) (e := 72) (x := (.tmp 54)) (y := (.tmp 56)) (cPair (cInt .i64) (cPair cStr (cPair cStr cStr))) kr rfl (ev (.slice a2 (List.length p1) c2)) (ev (.int .i64 s3.2.2.1)) kr r2 hx6 ?_)
       rintro b9 f3 cs3 ⟨_, _, rfl, rfl, ⟨_, _, rfl, rfl, ⟨_, _, rfl, rfl, rfl⟩⟩⟩ hq3
       refine WO_one rfl (One_load_row (d := 59) (t := 72) (x := (.tmp 58)) (.agg #[.int .i64 x3.1, .string x3.2.1, .string x3.2.2.1, .string x3.2.2.2]) kr rfl (ev (.pointer (some ⟨b9, f3, none⟩))) st hq3 kr ?_)
       refine WO_one rfl (One_alloc (d := 14) (e := 72) (.agg #[.int .i64 0, .string (⟨#[]⟩ : ByteArray), .string (⟨#[]⟩ : ByteArray), .string (⟨#[]⟩ : ByteArray)]) kr rfl kr st ?_)
       clear st
       intro b10 w21 st
       refine WO_one rfl (One_store (t := 72) (x := (.tmp 14)) (y := (.tmp 59)) (v := .agg #[.int .i64 x3.1, .string x3.2.1, .string x3.2.2.1, .string x3.2.2.2]) (c' := #[.int .i64 x3.1, .string x3.2.1, .string x3.2.2.1, .string x3.2.2.2]) kr (ev (.pointer (some ⟨b10, 0, none⟩))) (ev (.agg #[.int .i64 x3.1, .string x3.2.1, .string x3.2.2.1, .string x3.2.2.2])) st kr kr ?_)
       clear st
       intro w22 st
       refine WO_et rfl (W_seq ?_)
       refine W_sr (WO_one rfl (One_load_own (d := 61) (t := 72) (x := (.tmp 14)) (.agg #[.int .i64 x3.1, .string x3.2.1, .string x3.2.2.1, .string x3.2.2.2]) kr rfl (ev (.pointer (some ⟨b10, 0, none⟩))) st.head kr ?_))
       replace ⟨y3, hx7, hr⟩ := bindS hr
       refine WO_one rfl (One_fn 62 87 #[.agg #[.int .i64 x3.1, .string x3.2.1, .string x3.2.2.1, .string x3.2.2.2]] kr rfl ?_)
       refine (filediff_taken_ok st hx7).mono ?_
       clear st
       rintro _ w23 ⟨m13, rfl, hle4, st⟩
       refine ⟨_, rfl, ?_⟩
       have hm := Mem.le_trans hm hle4
       have r2 := r2.mono hle4
       have r8 := r8.mono hle4
       have r9 := r9.mono hle4
       have r3 := r3.mono hle4
       refine WO_seg 5 [(15, .string y3.1), (16, .bool y3.2)] kr kr ?_
       refine WO_et rfl (W_sr ?_)
       refine WO_seg 1 [(65, .bool y3.2)] kr kr ?_
       refine WO_et rfl ?_
       replace ⟨o7, hr, hrKu6⟩ := bindS hr
       refine W_cut .normal (fun L' w' => ∃ (es10 : Array MapEntry) (ck10 : Nat) (m14 : Mem), L' = [(1, .slice a2 (List.length p1) c2), (4, .pointer (some ⟨b2, 0, none⟩)), (6, .map (some b4)), (9, .map (some b7)), (10, .map (some b8)), (11, .bool o7.1), (12, .bool o7.2.1), (14, .pointer (some ⟨b10, 0, none⟩)), (54, .slice a2 (List.length p1) c2), (55, .int .i64 (List.length p1 : Int)), (56, .int .i64 s3.2.2.1)] ∧ m.le m14 ∧ St m14 (.blk b10 (.cells #[.int .i64 x3.1, .string x3.2.1, .string x3.2.2.1, .string x3.2.2.2] 72 (0, 0)) :: .blk b2 (.cells #[.slice none (List.length ([] : List (ByteArray × ByteArray))) 0] 25 (0, 0)) :: mpiece (some b8) es6 ck6 :: mpiece (some b7) es10 ck10 :: mpiece (some b4) es1 ck1 :: own) w' ∧ RepS (cPair (cInt .i64) (cPair cStr (cPair cStr cStr))) m14 a2 c2 p1 ∧ MapQ (fun s : ByteArray => Value.string s) cBool false m14 (some b8) es6 ck6 s3.2.2.2.1 ∧ MapQ (fun s : ByteArray => Value.string s) cBool false m14 (some b7) es10 ck10 o7.2.2 ∧ MapQ (fun s : ByteArray => Value.string s) cStr false m14 (some b4) es1 ck1 o4) ?_ ?_
       ·clear hr st
        have hr := hrKu6
        clear hrKu6
        rintro _ w24 ⟨es10, ck10, m14, rfl, hm, st, r2, r8, r12, r3⟩
        refine X_then ?_
        refine W_sr (WO_one rfl (One_load_own (d := 85) (t := 72) (x := (.tmp 14)) (.agg #[.int .i64 x3.1, .string x3.2.1, .string x3.2.2.1, .string x3.2.2.2]) kr rfl (ev (.pointer (some ⟨b10, 0, none⟩))) st.head kr ?_))
        replace ⟨y4, hx9, hr⟩ := bindS hr
        refine WO_one rfl (One_fn 86 88 #[.agg #[.int .i64 x3.1, .string x3.2.1, .string x3.2.2.1, .string x3.2.2.2]] kr rfl ?_)
        refine (filediff_put_ok st hx9).mono ?_
        clear st
        rintro _ w27 ⟨m16, rfl, hle5, st⟩
        refine ⟨_, rfl, ?_⟩
        have hm := Mem.le_trans hm hle5
        have r2 := r2.mono hle5
        have r8 := r8.mono hle5
        have r12 := r12.mono hle5
        have r3 := r3.mono hle5
        refine WO_et rfl (W_cond y4 kr ?_ ?_)
        ·intro hc
         rw [if_pos hc] at hr
         refine W_sr ?_
         replace ⟨o9, hr, hrK⟩ := bindS hr
         refine WO_cut (j := 8) (fun L' w' => ∃ (m17 : Mem), L' = [(1, .slice a2 (List.length p1) c2), (4, .pointer (some ⟨b2, 0, none⟩)), (6, .map (some b4)), (9, .map (some b7)), (10, .map (some b8)), (11, .bool o9), (12, .bool o7.2.1), (14, .pointer (some ⟨b10, 0, none⟩)), (54, .slice a2 (List.length p1) c2), (55, .int .i64 (List.length p1 : Int)), (56, .int .i64 s3.2.2.1)] ∧ m.le m17 ∧ St m17 (.blk b10 (.cells #[.int .i64 x3.1, .string x3.2.1, .string x3.2.2.1, .string x3.2.2.2] 72 (0, 0)) :: .blk b2 (.cells #[.slice none (List.length ([] : List (ByteArray × ByteArray))) 0] 25 (0, 0)) :: mpiece (some b8) es6 ck6 :: mpiece (some b7) es10 ck10 :: mpiece (some b4) es1 ck1 :: own) w' ∧ RepS (cPair (cInt .i64) (cPair cStr (cPair cStr cStr))) m17 a2 c2 p1 ∧ MapQ (fun s : ByteArray => Value.string s) cBool false m17 (some b8) es6 ck6 s3.2.2.2.1 ∧ MapQ (fun s : ByteArray => Value.string s) cBool false m17 (some b7) es10 ck10 o7.2.2 ∧ MapQ (fun s : ByteArray => Value.string s) cStr false m17 (some b4) es1 ck1 o4) ?_ ?_
         ·clear hr st
          have hr := hrK
          clear hrK
          rintro _ w28 ⟨m17, rfl, hm, st, r2, r8, r12, r3⟩
          refine WO_et rfl (W_region ?_)
          refine WO_seg 2 [(94, .map (some b8)), (95, .pointer (some ⟨b10, 1, none⟩))] kr kr ?_
          refine WO_one rfl (One_load_own (d := 96) (t := 9) (x := (.tmp 95)) (.string x3.2.1) kr rfl (ev (.pointer (some ⟨b10, 1, none⟩))) st.head kr ?_)
          have st := st.front2
          replace ⟨mp3, hx10, hr⟩ := bindS hr
          refine WO_one rfl (One_mapUpdate (ek := (fun s : ByteArray => Value.string s)) (c := cBool) (agg := false) (k := x3.2.1) (yv := true) (cs := [.bool true]) (z := (.bool false)) (v := (.bool true)) (kt := 9) (et := 4) (t := 137) (x := (.tmp 94)) (y := (.tmp 96)) (u := (.const (.bool true))) kr (ev (.map (some b8))) (ev (.string x3.2.1)) (ev (.bool true)) kr (keyStr kr) st r8 rfl rfl hx10 ?_)
          clear st
          intro es12 ck12 w29 st r14
          refine WO_end rfl ?_
          refine X_block ?_
          obtain rfl := Option.some.inj hr
          have st := st.front1
          have st := st.tail
          have st := st.front3.front3.front2.front3
          exact X_env _ kr (Ku5 _ _ ⟨es12, ck12, es10, ck10, m17, rfl, hm, st, r2, r14, r12, r3⟩)
         ·intro K
          clear hrK
          refine WO_seg 2 [(88, .bool o7.1)] kr kr ?_
          rcases bcases o7.1 with hc | hc
          ·rw [if_pos hc] at hr
           refine WO_fact (t := 88) (b := true) o7.1 kr hc ?_
           refine WO_seg 6 [(11, .bool true)] kr kr ?_
           obtain rfl := Option.some.inj hr
           have st := st.front4.front4.front4.front4.front4
           exact WO_env _ kr (K _ _ ⟨m16, rfl, hm, st, r2, r8, r12, r3⟩)
          ·rw [if_neg (not_true hc)] at hr
           refine WO_fact (t := 88) (b := false) o7.1 kr hc ?_
           refine WO_seg 2 [(89, .map (some b8)), (90, .pointer (some ⟨b10, 1, none⟩))] kr kr ?_
           refine WO_one rfl (One_load_own (d := 91) (t := 9) (x := (.tmp 90)) (.string x3.2.1) kr rfl (ev (.pointer (some ⟨b10, 1, none⟩))) st.head kr ?_)
           refine WO_one rfl (One_lookup (ek := (fun s : ByteArray => Value.string s)) (c := cBool) (agg := false) (k := x3.2.1) (zx := false) (zcs := [.bool false]) (z := (.bool false)) (kt := 9) (et := 4) (d := 92) (t := 137) (x := (.tmp 89)) (y := (.tmp 91)) (ok := false) kr rfl (ev (.map (some b8))) (ev (.string x3.2.1)) kr (keyStr kr) st.tail.tail.head r8 rfl rfl ?_)
           rintro cs6 rfl
           refine WO_seg 2 [(11, .bool ((mgetQ s3.2.2.2.1 x3.2.1).getD false))] kr kr ?_
           obtain rfl := Option.some.inj hr
           have st := st.front4.front4.front4.front4.front4
           exact WO_env _ kr (K _ _ ⟨m16, rfl, hm, st, r2, r8, r12, r3⟩)
        ·intro hc
         rw [if_neg (not_true hc)] at hr
         refine W_skip ?_
         refine X_block ?_
         obtain rfl := Option.some.inj hr
         have st := st.tail
         have st := st.front3.front3.front3.front3
         exact X_env _ kr (Ku5 _ _ ⟨es6, ck6, es10, ck10, m16, rfl, hm, st, r2, r8, r12, r3⟩)
       ·intro Ku6
        clear hrKu6
        refine W_cond y3.2 kr ?_ ?_
        ·intro hc
         rw [if_pos hc] at hr
         refine W_sr (WO_seg 2 [(67, .map (some b4)), (68, .string y3.1)] kr kr ?_)
         refine WO_one rfl (One_lookup (ek := (fun s : ByteArray => Value.string s)) (c := cStr) (agg := false) (k := y3.1) (zx := (⟨#[]⟩ : ByteArray)) (zcs := [.string (⟨#[]⟩ : ByteArray)]) (z := (.string (⟨#[]⟩ : ByteArray))) (kt := 9) (et := 9) (d := 69) (t := 136) (x := (.tmp 67)) (y := (.tmp 68)) (ok := true) kr rfl (ev (.map (some b4))) (ev (.string y3.1)) kr (keyStr kr) st.tail.tail.tail.tail.head r3 rfl rfl ?_)
         rintro cs4 rfl
         refine WO_seg 5 [(18, .bool ((mgetQ o4 y3.1).isSome))] kr kr ?_
         refine WO_et rfl (W_sr ?_)
         replace ⟨o8, hr, hrK⟩ := bindS hr
         refine WO_cut (j := 13) (fun L' w' => ∃ (m15 : Mem), L' = [(1, .slice a2 (List.length p1) c2), (4, .pointer (some ⟨b2, 0, none⟩)), (6, .map (some b4)), (9, .map (some b7)), (10, .map (some b8)), (11, .bool o8.1), (12, .bool o8.2), (14, .pointer (some ⟨b10, 0, none⟩)), (15, .string y3.1), (54, .slice a2 (List.length p1) c2), (55, .int .i64 (List.length p1 : Int)), (56, .int .i64 s3.2.2.1)] ∧ m.le m15 ∧ St m15 (.blk b10 (.cells #[.int .i64 x3.1, .string x3.2.1, .string x3.2.2.1, .string x3.2.2.2] 72 (0, 0)) :: .blk b2 (.cells #[.slice none (List.length ([] : List (ByteArray × ByteArray))) 0] 25 (0, 0)) :: mpiece (some b8) es6 ck6 :: mpiece (some b7) es7 ck7 :: mpiece (some b4) es1 ck1 :: own) w' ∧ RepS (cPair (cInt .i64) (cPair cStr (cPair cStr cStr))) m15 a2 c2 p1 ∧ MapQ (fun s : ByteArray => Value.string s) cBool false m15 (some b8) es6 ck6 s3.2.2.2.1 ∧ MapQ (fun s : ByteArray => Value.string s) cBool false m15 (some b7) es7 ck7 s3.2.2.2.2 ∧ MapQ (fun s : ByteArray => Value.string s) cStr false m15 (some b4) es1 ck1 o4) ?_ ?_
         ·clear hr st
          have hr := hrK
          clear hrK
          rintro _ w25 ⟨m15, rfl, hm, st, r2, r8, r9, r3⟩
          refine WO_et rfl (W_region ?_)
          refine WO_seg 2 [(83, .map (some b7)), (84, .string y3.1)] kr kr ?_
          have st := st.front3
          replace ⟨mp2, hx8, hr⟩ := bindS hr
          refine WO_one rfl (One_mapUpdate (ek := (fun s : ByteArray => Value.string s)) (c := cBool) (agg := false) (k := y3.1) (yv := true) (cs := [.bool true]) (z := (.bool false)) (v := (.bool true)) (kt := 9) (et := 4) (t := 137) (x := (.tmp 83)) (y := (.tmp 84)) (u := (.const (.bool true))) kr (ev (.map (some b7))) (ev (.string y3.1)) (ev (.bool true)) kr (keyStr kr) st r9 rfl rfl hx8 ?_)
          clear st
          intro es11 ck11 w26 st r13
          refine WO_end rfl ?_
          obtain rfl := Option.some.inj hr
          have st := st.front4.front1.front4.front4.front4
          exact X_env _ kr (Ku6 _ _ ⟨es11, ck11, m15, rfl, hm, st, r2, r8, r13, r3⟩)
         ·intro K
          clear hrK
          refine WO_seg 2 [(73, .bool s3.1)] kr kr ?_
          rcases bcases s3.1 with hc | hc
          ·rw [if_pos hc] at hr
           refine WO_fact (t := 73) (b := true) s3.1 kr hc ?_
           refine WO_seg 6 [(77, .bool true), (79, .bool s3.2.1)] kr kr ?_
           rcases bcases s3.2.1 with hc | hc
           ·rw [if_pos hc] at hr
            refine WO_fact (t := 79) (b := true) s3.2.1 kr hc ?_
            refine WO_seg 5 [(11, .bool true), (12, .bool true)] kr kr ?_
            obtain rfl := Option.some.inj hr
            have st := st.front4.front4.front4.front4.front4
            exact WO_env _ kr (K _ _ ⟨m13, rfl, hm, st, r2, r8, r9, r3⟩)
           ·rw [if_neg (not_true hc)] at hr
            refine WO_fact (t := 79) (b := false) s3.2.1 kr hc ?_
            refine WO_seg 5 [(11, .bool true), (12, .bool (!((mgetQ o4 y3.1).isSome)))] kr kr ?_
            obtain rfl := Option.some.inj hr
            have st := st.front4.front4.front4.front4.front4
            exact WO_env _ kr (K _ _ ⟨m13, rfl, hm, st, r2, r8, r9, r3⟩)
          ·rw [if_neg (not_true hc)] at hr
           refine WO_fact (t := 73) (b := false) s3.1 kr hc ?_
           refine WO_seg 2 [(74, .map (some b7)), (75, .string y3.1)] kr kr ?_
           refine WO_one rfl (One_lookup (ek := (fun s : ByteArray => Value.string s)) (c := cBool) (agg := false) (k := y3.1) (zx := false) (zcs := [.bool false]) (z := (.bool false)) (kt := 9) (et := 4) (d := 76) (t := 137) (x := (.tmp 74)) (y := (.tmp 75)) (ok := false) kr rfl (ev (.map (some b7))) (ev (.string y3.1)) kr (keyStr kr) st.tail.tail.tail.head r9 rfl rfl ?_)
           rintro cs5 rfl
           refine WO_seg 3 [(77, .bool ((mgetQ s3.2.2.2.2 y3.1).getD false)), (79, .bool s3.2.1)] kr kr ?_
           rcases bcases s3.2.1 with hc | hc
           ·rw [if_pos hc] at hr
            refine WO_fact (t := 79) (b := true) s3.2.1 kr hc ?_
            refine WO_seg 5 [(11, .bool ((mgetQ s3.2.2.2.2 y3.1).getD false)), (12, .bool true)] kr kr ?_
            obtain rfl := Option.some.inj hr
            have st := st.front4.front4.front4.front4.front4
            exact WO_env _ kr (K _ _ ⟨m13, rfl, hm, st, r2, r8, r9, r3⟩)
           ·rw [if_neg (not_true hc)] at hr
            refine WO_fact (t := 79) (b := false) s3.2.1 kr hc ?_
            refine WO_seg 5 [(11, .bool ((mgetQ s3.2.2.2.2 y3.1).getD false)), (12, .bool (!((mgetQ o4 y3.1).isSome)))] kr kr ?_
            obtain rfl := Option.some.inj hr
            have st := st.front4.front4.front4.front4.front4
            exact WO_env _ kr (K _ _ ⟨m13, rfl, hm, st, r2, r8, r9, r3⟩)
        ·intro hc
         rw [if_neg (not_true hc)] at hr
         refine W_skip ?_
         obtain rfl := Option.some.inj hr
         have st := st.front4.front4.front4.front4.front4
         exact X_env _ kr (Ku6 _ _ ⟨es7, ck7, m13, rfl, hm, st, r2, r8, r9, r3⟩)
     ·intro hc
      rw [if_neg (not_true hc)] at hr
      refine W_exit ?_
      refine X_then_exit ?_
      obtain rfl := Option.some.inj hr
      have ho := hBu4 _ rfl
      have st := st.front3.front3.front3.front3
      refine X_then_exit ?_
      exact X_env _ kr (K2_u4 _ _ ⟨(s3.1, s3.2.1, s3.2.2.2.1, s3.2.2.2.2), es6, ck6, es7, ck7, m11, ho, rfl, hm, st, r2, r8, r9, r3⟩)
   intro K0_u3
   clear hrKu3
   have st := st.front1
   refine W_env _ kr (W_loop (fun k2 L' w' => ∃ (s2 : Int × (Option (List (ByteArray × ByteArray)))) (es2 : Array MapEntry) (ck2 : Nat) (m9 : Mem), loopM (filediff_Apply_L2 N p0) k2 s2 = some out2 ∧ L' = [(1, .slice a2 (List.length p1) c2), (4, .pointer (some ⟨b2, 0, none⟩)), (6, .map (some b4)), (40, .slice a1 (List.length p0) c1), (41, .int .i64 (List.length p0 : Int)), (42, .int .i64 s2.1)] ∧ m.le m9 ∧ St m9 (.blk b2 (.cells #[.slice none (List.length ([] : List (ByteArray × ByteArray))) 0] 25 (0, 0)) :: mpiece (some b4) es2 ck2 :: own) w' ∧ RepS (cPair (cInt .i64) (cPair cStr (cPair cStr cStr))) m9 a2 c2 p1 ∧ RepS (cPair cStr cStr) m9 a1 c1 p0 ∧ MapQ (fun s : ByteArray => Value.string s) cStr false m9 (some b4) es2 ck2 s2.2) N ⟨(0, (some [] : Option (List (ByteArray × ByteArray)))), #[], 0, m2, hr, rfl, hm, st, r2, r1, (MapQ.new (fun s : ByteArray => Value.string s) cStr false _ _)⟩ ?_)
   clear st hr
   rintro k2 _ w12 ⟨s2, es2, ck2, m9, hL, rfl, hm, st, r2, r1, r4⟩
   rcases k2 with _ | k2
   ·exact loopM_zero hL
   ·obtain ⟨qu3, hr, hSu3, hBu3⟩ := loopM_succ hL
    clear hL
    unfold filediff_Apply_L2 at hr
    refine W_sr (WO_seg 1 [(43, .bool (decide (s2.1 < (List.length p0 : Int))))] kr kr ?_)
    refine WO_et rfl (W_seq ?_)
    refine W_cond (decide (s2.1 < (List.length p0 : Int))) kr ?_ ?_
    ·intro hc
     rw [if_pos hc] at hr
     refine W_skip ?_
     refine X_then ?_
     refine W_seq ?_
     refine W_block ?_
     refine W_sr ?_
     replace ⟨x2, hx4, hr⟩ := bindS hr
     refine WO_one rfl (One_index (d := 44) (t := 23) (e := 74) (x := (.tmp 40)) (y := (.tmp 42)) (cPair cStr cStr) kr rfl (ev (.slice a1 (List.length p0) c1)) (ev (.int .i64 s2.1)) kr r1 hx4 ?_)
     rintro b5 f2 cs2 ⟨_, _, rfl, rfl, rfl⟩ hq2
     refine WO_one rfl (One_load_row (d := 45) (t := 74) (x := (.tmp 44)) (.agg #[.string x2.1, .string x2.2]) kr rfl (ev (.pointer (some ⟨b5, f2, none⟩))) st hq2 kr ?_)
     refine WO_one rfl (One_alloc (d := 8) (e := 74) (.agg #[.string (⟨#[]⟩ : ByteArray), .string (⟨#[]⟩ : ByteArray)]) kr rfl kr st ?_)
     clear st
     intro b6 w13 st
     refine WO_one rfl (One_store (t := 74) (x := (.tmp 8)) (y := (.tmp 45)) (v := .agg #[.string x2.1, .string x2.2]) (c' := #[.string x2.1, .string x2.2]) kr (ev (.pointer (some ⟨b6, 0, none⟩))) (ev (.agg #[.string x2.1, .string x2.2])) st kr kr ?_)
     clear st
     intro w14 st
     refine WO_et rfl (W_region ?_)
     refine WO_seg 2 [(46, .map (some b4)), (47, .pointer (some ⟨b6, 0, none⟩))] kr kr ?_
     refine WO_one rfl (One_load_own (d := 48) (t := 9) (x := (.tmp 47)) (.string x2.1) kr rfl (ev (.pointer (some ⟨b6, 0, none⟩))) st.head kr ?_)
     refine WO_seg 1 [(49, .pointer (some ⟨b6, 1, none⟩))] kr kr ?_
     refine WO_one rfl (One_load_own (d := 50) (t := 9) (x := (.tmp 49)) (.string x2.2) kr rfl (ev (.pointer (some ⟨b6, 1, none⟩))) st.head kr ?_)
     have st := st.front2
     replace ⟨mp1, hx5, hr⟩ := bindS hr
     refine WO_one rfl (One_mapUpdate (ek := (fun s : ByteArray => Value.string s)) (c := cStr) (agg := false) (k := x2.1) (yv := x2.2) (cs := [.string x2.2]) (z := (.string (⟨#[]⟩ : ByteArray))) (v := (.string x2.2)) (kt := 9) (et := 9) (t := 136) (x := (.tmp 46)) (y := (.tmp 48)) (u := (.tmp 50)) kr (ev (.map (some b4))) (ev (.string x2.1)) (ev (.string x2.2)) kr (keyStr kr) st r4 rfl rfl hx5 ?_)
     clear st
     intro es3 ck3 w15 st r5
     refine WO_end rfl ?_
     refine X_block ?_
     refine X_then ?_
     refine W_region ?_
     refine WO_seg 2 [(42, .int .i64 (IntKind.wrap .i64 (s2.1 + 1)))] kr kr ?_
     refine WO_end rfl ?_
     obtain rfl := Option.some.inj hr
     have hL := hSu3 _ rfl
     have st := st.front1
     have st := st.tail
     have st := st.front1
     exact X_env _ kr (X_round k2 (Nat.lt_succ_self _) ⟨(IntKind.wrap .i64 (s2.1 + 1), mp1), es3, ck3, m9, hL, rfl, hm, st, r2, r1, r5⟩)
    ·intro hc
     rw [if_neg (not_true hc)] at hr
     refine W_exit ?_
     refine X_then_exit ?_
     obtain rfl := Option.some.inj hr
     have ho := hBu3 _ rfl
     have st := st.front1.front1
     refine X_then_exit ?_
     exact X_env _ kr (K0_u3 _ _ ⟨s2.2, es2, ck2, m9, ho, rfl, hm, st, r2, r4⟩)
 ·intro K
  clear hrK
  refine WO_one rfl (One_load_row (d := 30) (t := 25) (x := (.tmp 2)) (.agg #[.slice a1 (List.length p0) c1]) kr rfl (ev (.pointer (some ⟨b1, 0, none⟩))) st hb1 kr ?_)
  replace ⟨y1, hx1, hr⟩ := bindS hr
  refine WO_one rfl (One_fn 31 75 #[.agg #[.slice a1 (List.length p0) c1]] kr rfl ?_)
  refine (revision_Check_ok st r1 hx1).mono ?_
  clear st
  rintro _ w4 ⟨m3, rfl, hle2, st⟩
  refine ⟨_, rfl, ?_⟩
  have hm := Mem.le_trans hm hle2
  have r2 := r2.mono hle2
  have hb1 := hb1.mono hle2
  have r1 := r1.mono hle2
  refine WO_seg 2 [(33, .bool (y1 != 0))] kr kr ?_
  rcases bcases (y1 != 0) with hc | hc
  ·rw [if_pos hc] at hr
   refine WO_fact (t := 33) (b := true) (y1 != 0) kr hc ?_
   refine WO_seg 3 [(36, .bool true)] kr kr ?_
   obtain rfl := Option.some.inj hr
   exact WO_env _ kr (K _ _ ⟨m3, rfl, hm, st, r2, hb1, r1⟩)
  ·rw [if_neg (not_true hc)] at hr
   refine WO_fact (t := 33) (b := false) (y1 != 0) kr hc ?_
   refine WO_seg 1 [(34, .slice a2 (List.length p1) c2)] kr kr ?_
   refine WO_one rfl (One_fn 35 84 #[.slice a2 (List.length p1) c2, .func (.func 85) #[] #[]] kr rfl ?_)
   refine W_calls Tryz.func84 rfl Tryz.ntmps84 [(0, .slice a2 (List.length p1) c2), (1, .func (.func 85) #[] #[])] kr rfl ?_
   refine W_sr (WO_seg 1 [] kr kr ?_)
   refine WO_et rfl (W_sr ?_)
   refine WO_seg 2 [(5, .slice a2 (List.length p1) c2), (6, .func (.func 85) #[] #[])] kr kr ?_
   replace ⟨o2, hr, hrKu1⟩ := bindS hr
   refine WO_one rfl (One_fn 7 136 #[.slice a2 (List.length p1) c2, .func (.func 85) #[] #[]] kr rfl ?_)
   refine Calls_cut (fun v' w' => ∃ (m4 : Mem), v' = (.int .i64 o2) ∧ m.le m4 ∧ St m4 (.blk b2 (.cells #[.slice none (List.length ([] : List (ByteArray × ByteArray))) 0] 25 (0, 0)) :: own) w' ∧ RepS (cPair (cInt .i64) (cPair cStr (cPair cStr cStr))) m4 a2 c2 p1 ∧ MRow m4 b1 0 [.slice a1 (List.length p0) c1] ∧ RepS (cPair cStr cStr) m4 a1 c1 p0) ?_ ?_
   ·clear hr st
    have hr := hrKu1
    clear hrKu1
    rintro _ w5 ⟨m4, rfl, hm, st, r2, hb1, r1⟩
    refine ⟨_, rfl, ?_⟩
    refine WO_seg 2 [(4, .bool (decide (o2 ≥ 0)))] kr kr ?_
    refine WO_et rfl (W_ret ?_)
    refine X_ret [.tmp 4] [.bool (decide (o2 ≥ 0))] rfl (ResAll.cons (ResAt.tmp kr) ResAll.nil) ?_
    refine ⟨_, rfl, ?_⟩
    refine WO_seg 1 [(36, .bool (decide (o2 ≥ 0)))] kr kr ?_
    obtain rfl := Option.some.inj hr
    exact WO_env _ kr (K _ _ ⟨m4, rfl, hm, st, r2, hb1, r1⟩)
   ·clear hrKu1
    refine W_calls Tryz.func136 rfl Tryz.ntmps136 [(0, .slice a2 (List.length p1) c2), (1, .func (.func 85) #[] #[])] kr rfl ?_
    refine W_sr (WO_seg 1 [] kr kr ?_)
    refine WO_et rfl (W_seq ?_)
    refine W_sr (WO_seg 3 [(7, .int .i64 (List.length p1 : Int)), (8, .int .i64 0)] kr kr ?_)
    refine WO_et rfl (W_block ?_)
    replace ⟨out1, hr, hrKu2⟩ := bindS hr
    refine W_cut (.exit 0) (fun L' w' => ∃ (o3 : Unit) (m5 : Mem), (.inl o3) = out1 ∧ L' = [] ∧ m.le m5 ∧ St m5 (.blk b2 (.cells #[.slice none (List.length ([] : List (ByteArray × ByteArray))) 0] 25 (0, 0)) :: own) w' ∧ RepS (cPair (cInt .i64) (cPair cStr (cPair cStr cStr))) m5 a2 c2 p1 ∧ MRow m5 b1 0 [.slice a1 (List.length p0) c1] ∧ RepS (cPair cStr cStr) m5 a1 c1 p0) ?_ ?_
    ·clear hr st
     rintro _ w6 ⟨o3, m5, rfl, rfl, hm, st, r2, hb1, r1⟩
     have hr := hrKu2
     clear hrKu2
     dsimp only at hr
     refine X_block_eq ?_
     refine X_then ?_
     refine W_sr (WO_seg 1 [(4, .int .i64 (-1))] kr kr ?_)
     refine WO_et rfl (W_ret ?_)
     obtain rfl := Option.some.inj hr
     refine X_ret [.tmp 4] [.int .i64 (-1)] rfl (ResAll.cons (ResAt.tmp kr) ResAll.nil) ?_
     exact ⟨_, rfl, ⟨m5, rfl, hm, st, r2, hb1, r1⟩⟩
    intro K0_u2
    refine W_env _ kr (W_loop (fun k1 L' w' => ∃ (s1 : Int) (m6 : Mem), loopM (filediff_Apply_L1 N p1) k1 s1 = some out1 ∧ L' = [(0, .slice a2 (List.length p1) c2), (1, .func (.func 85) #[] #[]), (7, .int .i64 (List.length p1 : Int)), (8, .int .i64 s1)] ∧ m.le m6 ∧ St m6 (.blk b2 (.cells #[.slice none (List.length ([] : List (ByteArray × ByteArray))) 0] 25 (0, 0)) :: own) w' ∧ RepS (cPair (cInt .i64) (cPair cStr (cPair cStr cStr))) m6 a2 c2 p1 ∧ MRow m6 b1 0 [.slice a1 (List.length p0) c1] ∧ RepS (cPair cStr cStr) m6 a1 c1 p0) N ⟨0, m3, hr, rfl, hm, st, r2, hb1, r1⟩ ?_)
    clear st hr
    rintro k1 _ w7 ⟨s1, m6, hL, rfl, hm, st, r2, hb1, r1⟩
    rcases k1 with _ | k1
    ·exact loopM_zero hL
    ·obtain ⟨qu2, hr, hSu2, hBu2⟩ := loopM_succ hL
     clear hL
     unfold filediff_Apply_L1 at hr
     refine W_sr (WO_seg 1 [(9, .bool (decide (s1 < (List.length p1 : Int))))] kr kr ?_)
     refine WO_et rfl (W_seq ?_)
     refine W_cond (decide (s1 < (List.length p1 : Int))) kr ?_ ?_
     ·intro hc
      rw [if_pos hc] at hr
      refine W_skip ?_
      refine X_then ?_
      refine W_seq ?_
      refine W_block ?_
      refine W_sr (WO_seg 2 [(5, .int .i64 s1)] kr kr ?_)
      refine WO_et rfl (W_sr ?_)
      refine WO_seg 3 [(11, .func (.func 85) #[] #[]), (12, .slice a2 (List.length p1) c2), (13, .int .i64 s1)] kr kr ?_
      replace ⟨x1, hx2, hr⟩ := bindS hr
      refine WO_one rfl (One_index (d := 14) (t := 58) (e := 72) (x := (.tmp 12)) (y := (.tmp 13)) (cPair (cInt .i64) (cPair cStr (cPair cStr cStr))) kr rfl (ev (.slice a2 (List.length p1) c2)) (ev (.int .i64 s1)) kr r2 hx2 ?_)
      rintro b3 f1 cs1 ⟨_, _, rfl, rfl, ⟨_, _, rfl, rfl, ⟨_, _, rfl, rfl, rfl⟩⟩⟩ hq1
      refine WO_one rfl (One_load_row (d := 15) (t := 72) (x := (.tmp 14)) (.agg #[.int .i64 x1.1, .string x1.2.1, .string x1.2.2.1, .string x1.2.2.2]) kr rfl (ev (.pointer (some ⟨b3, f1, none⟩))) st hq1 kr ?_)
      replace ⟨y2, hx3, hr⟩ := bindS hr
      refine WO_one rfl (One_fn 16 85 #[.agg #[.int .i64 x1.1, .string x1.2.1, .string x1.2.2.1, .string x1.2.2.2]] kr rfl ?_)
      refine (filediff_Apply_1_ok st hx3).mono ?_
      clear st
      rintro _ w8 ⟨m7, rfl, hle3, st⟩
      refine ⟨_, rfl, ?_⟩
      have hm := Mem.le_trans hm hle3
      have r2 := r2.mono hle3
      have hq1 := hq1.mono hle3
      have hb1 := hb1.mono hle3
      have r1 := r1.mono hle3
      refine WO_et rfl (W_cond y2 kr ?_ ?_)
      ·intro hc
       rw [if_pos hc] at hr
       refine W_sr (WO_seg 2 [(4, .int .i64 s1)] kr kr ?_)
       refine WO_et rfl (W_ret ?_)
       refine X_block_ret ?_
       refine X_then_ret ?_
       obtain rfl := Option.some.inj hr
       have ho := hBu2 _ rfl
       subst ho
       have hr := hrKu2
       dsimp only at hr
       refine X_then_ret ?_
       refine X_block_ret ?_
       refine X_then_ret ?_
       obtain rfl := Option.some.inj hr
       refine X_ret [.tmp 4] [.int .i64 s1] rfl (ResAll.cons (ResAt.tmp kr) ResAll.nil) ?_
       exact ⟨_, rfl, ⟨m7, rfl, hm, st, r2, hb1, r1⟩⟩
      ·intro hc
       rw [if_neg (not_true hc)] at hr
       refine W_skip ?_
       refine X_block ?_
       refine X_then ?_
       refine W_region ?_
       refine WO_seg 2 [(8, .int .i64 (IntKind.wrap .i64 (s1 + 1)))] kr kr ?_
       refine WO_end rfl ?_
       obtain rfl := Option.some.inj hr
       have hL := hSu2 _ rfl
       exact X_env _ kr (X_round k1 (Nat.lt_succ_self _) ⟨IntKind.wrap .i64 (s1 + 1), m7, hL, rfl, hm, st, r2, hb1, r1⟩)
     ·intro hc
      rw [if_neg (not_true hc)] at hr
      refine W_exit ?_
      refine X_then_exit ?_
      obtain rfl := Option.some.inj hr
      have ho := hBu2 _ rfl
      refine X_then_exit ?_
      exact X_env _ kr (K0_u2 _ _ ⟨(), m6, ho, rfl, hm, st, r2, hb1, r1⟩)
def testgateref07_Same_L1 (N : Nat) (p0 : (List (ByteArray × ByteArray))) (p1 : (List (ByteArray × ByteArray))) (s1 : Int) : Option ((Int) ⊕ ((Unit) ⊕ (Bool))) :=
 if (decide (s1 < (List.length p0 : Int))) = true then ((idx p0 s1).bind fun x1 => (idx p1 s1).bind fun x2 => if (!((x1.1.toList == x2.1.toList) && ((x1.2.toList == x2.2.toList) && true))) = true then (some (.inr (.inr (false)))) else (some (.inl (IntKind.wrap .i64 (s1 + 1))))) else (some (.inr (.inl ())))
def testgateref07_Same (N : Nat) (p0 : (List (ByteArray × ByteArray))) (p1 : (List (ByteArray × ByteArray))) : Option (Bool) :=
 if ((List.length p0 : Int) != (List.length p1 : Int)) = true then (some false) else ((loopM (testgateref07_Same_L1 N p0 p1) N 0).bind fun out1 => (match out1 with | .inl o1 => some true | .inr (z) => some z))
set_option maxHeartbeats 4000000 in
set_option maxRecDepth 100000 in
theorem testgateref07_Same_ok {N : Nat} {m : Mem} {own : List Piece} {w : World} {p0 : (List (ByteArray × ByteArray))} {p1 : (List (ByteArray × ByteArray))} {a1 : Option Addr} {c1 : Nat} {a2 : Option Addr} {c2 : Nat} {r : Bool} (st : St m (own) w) (r1 : RepS (cPair cStr cStr) m a1 c1 p0) (r2 : RepS (cPair cStr cStr) m a2 c2 p1) (hr : testgateref07_Same N p0 p1 = some r) : Calls Tryz.prog 32 #[.agg #[.slice a1 (List.length p0) c1], .agg #[.slice a2 (List.length p1) c2]] w fun e w' => ∃ (m' : Mem), e = .returned (.bool r) ∧ m.le m' ∧ St m' (own) w' := by
 unfold testgateref07_Same at hr
 have hm := m.le_refl
 refine W_calls Tryz.func32 rfl Tryz.ntmps32 [(0, .agg #[.slice a1 (List.length p0) c1]), (1, .agg #[.slice a2 (List.length p1) c2])] kr rfl ?_
 refine W_sr (WO_one rfl (One_box (d := 2) (e := 25) (x := (.tmp 0)) (.agg #[.slice a1 (List.length p0) c1]) kr rfl kr st ?_))
 clear st
 intro b1 m1 w1 hle1 st hb1
 have hm := Mem.le_trans hm hle1
 have r1 := r1.mono hle1
 have r2 := r2.mono hle1
 refine WO_one rfl (One_box (d := 3) (e := 25) (x := (.tmp 1)) (.agg #[.slice a2 (List.length p1) c2]) kr rfl kr st ?_)
 clear st
 intro b2 m2 w2 hle2 st hb2
 have hm := Mem.le_trans hm hle2
 have r1 := r1.mono hle2
 have r2 := r2.mono hle2
 have hb1 := hb1.mono hle2
 refine WO_seg 1 [] kr kr ?_
 refine WO_et rfl (W_seq ?_)
 refine W_sr (WO_seg 1 [(6, .pointer (some ⟨b1, 0, none⟩))] kr kr ?_)
 refine WO_one rfl (One_load_row (d := 7) (t := 23) (x := (.tmp 6)) (.slice a1 (List.length p0) c1) kr rfl (ev (.pointer (some ⟨b1, 0, none⟩))) st hb1 kr ?_)
 refine WO_seg 2 [(8, .int .i64 (List.length p0 : Int)), (9, .pointer (some ⟨b2, 0, none⟩))] kr kr ?_
 refine WO_one rfl (One_load_row (d := 10) (t := 23) (x := (.tmp 9)) (.slice a2 (List.length p1) c2) kr rfl (ev (.pointer (some ⟨b2, 0, none⟩))) st hb2 kr ?_)
 refine WO_seg 2 [(12, .bool ((List.length p0 : Int) != (List.length p1 : Int)))] kr kr ?_
 refine WO_et rfl (W_cond ((List.length p0 : Int) != (List.length p1 : Int)) kr ?_ ?_)
 ·intro hc
  rw [if_pos hc] at hr
  refine W_sr (WO_seg 1 [(4, .bool false)] kr kr ?_)
  refine WO_et rfl (W_ret ?_)
  refine X_then_ret ?_
  obtain rfl := Option.some.inj hr
  refine X_ret [.tmp 4] [.bool false] rfl (ResAll.cons (ResAt.tmp kr) ResAll.nil) ?_
  exact ⟨m2, rfl, hm, st⟩
 ·intro hc
  rw [if_neg (not_true hc)] at hr
  refine W_skip ?_
  refine X_then ?_
  refine W_seq ?_
  refine W_sr (WO_seg 1 [(13, .pointer (some ⟨b1, 0, none⟩))] kr kr ?_)
  refine WO_one rfl (One_load_row (d := 14) (t := 23) (x := (.tmp 13)) (.slice a1 (List.length p0) c1) kr rfl (ev (.pointer (some ⟨b1, 0, none⟩))) st hb1 kr ?_)
  refine WO_seg 2 [(15, .int .i64 (List.length p0 : Int)), (16, .int .i64 0)] kr kr ?_
  refine WO_et rfl (W_block ?_)
  replace ⟨out1, hr, hrKu1⟩ := bindS hr
  refine W_cut (.exit 0) (fun L' w' => ∃ (o1 : Unit) (m3 : Mem), (.inl o1) = out1 ∧ L' = [] ∧ m.le m3 ∧ St m3 (own) w') ?_ ?_
  ·clear hr st
   rintro _ w3 ⟨o1, m3, rfl, rfl, hm, st⟩
   have hr := hrKu1
   clear hrKu1
   dsimp only at hr
   refine X_block_eq ?_
   refine X_then ?_
   refine W_sr (WO_seg 1 [(4, .bool true)] kr kr ?_)
   refine WO_et rfl (W_ret ?_)
   obtain rfl := Option.some.inj hr
   refine X_ret [.tmp 4] [.bool true] rfl (ResAll.cons (ResAt.tmp kr) ResAll.nil) ?_
   exact ⟨m3, rfl, hm, st⟩
  intro K0_u1
  refine W_env _ kr (W_loop (fun k1 L' w' => ∃ (s1 : Int) (m4 : Mem), loopM (testgateref07_Same_L1 N p0 p1) k1 s1 = some out1 ∧ L' = [(2, .pointer (some ⟨b1, 0, none⟩)), (3, .pointer (some ⟨b2, 0, none⟩)), (15, .int .i64 (List.length p0 : Int)), (16, .int .i64 s1)] ∧ m.le m4 ∧ St m4 (own) w' ∧ MRow m4 b1 0 [.slice a1 (List.length p0) c1] ∧ RepS (cPair cStr cStr) m4 a1 c1 p0 ∧ MRow m4 b2 0 [.slice a2 (List.length p1) c2] ∧ RepS (cPair cStr cStr) m4 a2 c2 p1) N ⟨0, m2, hr, rfl, hm, st, hb1, r1, hb2, r2⟩ ?_)
  clear st hr
  rintro k1 _ w4 ⟨s1, m4, hL, rfl, hm, st, hb1, r1, hb2, r2⟩
  rcases k1 with _ | k1
  ·exact loopM_zero hL
  ·obtain ⟨qu1, hr, hSu1, hBu1⟩ := loopM_succ hL
   clear hL
   unfold testgateref07_Same_L1 at hr
   refine W_sr (WO_seg 1 [(17, .bool (decide (s1 < (List.length p0 : Int))))] kr kr ?_)
   refine WO_et rfl (W_seq ?_)
   refine W_cond (decide (s1 < (List.length p0 : Int))) kr ?_ ?_
   ·intro hc
    rw [if_pos hc] at hr
    refine W_skip ?_
    refine X_then ?_
    refine W_seq ?_
    refine W_block ?_
    refine W_sr (WO_seg 2 [(5, .int .i64 s1)] kr kr ?_)
    refine WO_et rfl (W_seq ?_)
    refine W_draw [(11, fun w' => Inv m4 w' ∧ True)] kr st ?_
    clear st
    intro w5 _ st
    have hmS1 := m4.le_refl
    refine ⟨⟨.inr ⟨Inv.anti st.inv hmS1, trivial⟩, trivial⟩, ?_⟩
    refine WA_pure 0 19 (.pointer (some ⟨b1, 0, none⟩)) kr rfl kr (.head _) (QP_then (QP_block (QP_then (QP_then (QP_block (QP_then QP_body)))))) ?_
    refine WA_load_row (t := 23) (x := (.tmp 19)) 1 20 (.slice a1 (List.length p0) c1) kr rfl kr (.head _) (QP_then (QP_block (QP_then (QP_then (QP_block (QP_then QP_body)))))) (fun _ h => h.1) (ev (.pointer (some ⟨b1, 0, none⟩))) hb1 kr ?_
    refine WA_pure 2 21 (.int .i64 s1) kr rfl kr (.head _) (QP_then (QP_block (QP_then (QP_then (QP_block (QP_then QP_body)))))) ?_
    replace ⟨x1, hx1, hr⟩ := bindS hr
    refine WA_index (t := 23) (e := 74) (x := (.tmp 20)) (y := (.tmp 21)) 3 22 (cPair cStr cStr) kr rfl kr (.head _) (QP_then (QP_block (QP_then (QP_then (QP_block (QP_then QP_body)))))) (ev (.slice a1 (List.length p0) c1)) (ev (.int .i64 s1)) kr r1 hx1 ?_
    rintro b3 f1 cs1 ⟨_, _, rfl, rfl, rfl⟩ hq1
    refine WA_load_row (t := 74) (x := (.tmp 22)) 4 23 (.agg #[.string x1.1, .string x1.2]) kr rfl kr (.head _) (QP_then (QP_block (QP_then (QP_then (QP_block (QP_then QP_body)))))) (fun _ h => h.1) (ev (.pointer (some ⟨b3, f1, none⟩))) hq1 kr ?_
    refine WA_pure 5 24 (.pointer (some ⟨b2, 0, none⟩)) kr rfl kr (.head _) (QP_then (QP_block (QP_then (QP_then (QP_block (QP_then QP_body)))))) ?_
    refine WA_load_row (t := 23) (x := (.tmp 24)) 6 25 (.slice a2 (List.length p1) c2) kr rfl kr (.head _) (QP_then (QP_block (QP_then (QP_then (QP_block (QP_then QP_body)))))) (fun _ h => h.1) (ev (.pointer (some ⟨b2, 0, none⟩))) hb2 kr ?_
    refine WA_pure 7 26 (.int .i64 s1) kr rfl kr (.head _) (QP_then (QP_block (QP_then (QP_then (QP_block (QP_then QP_body)))))) ?_
    replace ⟨x2, hx2, hr⟩ := bindS hr
    refine WA_index (t := 23) (e := 74) (x := (.tmp 25)) (y := (.tmp 26)) 8 27 (cPair cStr cStr) kr rfl kr (.head _) (QP_then (QP_block (QP_then (QP_then (QP_block (QP_then QP_body)))))) (ev (.slice a2 (List.length p1) c2)) (ev (.int .i64 s1)) kr r2 hx2 ?_
    rintro b4 f2 cs2 ⟨_, _, rfl, rfl, rfl⟩ hq2
    refine WA_load_row (t := 74) (x := (.tmp 27)) 9 28 (.agg #[.string x2.1, .string x2.2]) kr rfl kr (.head _) (QP_then (QP_block (QP_then (QP_then (QP_block (QP_then QP_body)))))) (fun _ h => h.1) (ev (.pointer (some ⟨b4, f2, none⟩))) hq2 kr ?_
    refine WA_one 10 kr  (One_neAgg (d := 29) (t := 74) (t2 := 74) (x := (.tmp 23)) (y := (.tmp 28)) (xs := #[.string x1.1, .string x1.2]) (ys := #[.string x2.1, .string x2.2]) ((x1.1.toList == x2.1.toList) && ((x1.2.toList == x2.2.toList) && true)) kr rfl (ev (.agg #[.string x1.1, .string x1.2])) (ev (.agg #[.string x2.1, .string x2.2])) kr kr kr ?_)
    refine ⟨⟨.inr ⟨Inv.anti st.inv hmS1, trivial⟩, trivial⟩, ?_⟩
    refine WA_done kr ?_
    refine X_then ?_
    refine W_cond (!((x1.1.toList == x2.1.toList) && ((x1.2.toList == x2.2.toList) && true))) kr ?_ ?_
    ·intro hc
     rw [if_pos hc] at hr
     refine W_sr (WO_seg 1 [(4, .bool false)] kr kr ?_)
     refine WO_et rfl (W_ret ?_)
     refine X_block_ret ?_
     refine X_then_ret ?_
     obtain rfl := Option.some.inj hr
     have ho := hBu1 _ rfl
     subst ho
     have hr := hrKu1
     dsimp only at hr
     refine X_then_ret ?_
     refine X_block_ret ?_
     refine X_then_ret ?_
     obtain rfl := Option.some.inj hr
     refine X_ret [.tmp 4] [.bool false] rfl (ResAll.cons (ResAt.tmp kr) ResAll.nil) ?_
     exact ⟨m4, rfl, hm, st⟩
    ·intro hc
     rw [if_neg (not_true hc)] at hr
     refine W_skip ?_
     refine X_block ?_
     refine X_then ?_
     refine W_region ?_
     refine WO_seg 2 [(16, .int .i64 (IntKind.wrap .i64 (s1 + 1)))] kr kr ?_
     refine WO_end rfl ?_
     obtain rfl := Option.some.inj hr
     have hL := hSu1 _ rfl
     exact X_env _ kr (X_round k1 (Nat.lt_succ_self _) ⟨IntKind.wrap .i64 (s1 + 1), m4, hL, rfl, hm, st, hb1, r1, hb2, r2⟩)
   ·intro hc
    rw [if_neg (not_true hc)] at hr
    refine W_exit ?_
    refine X_then_exit ?_
    obtain rfl := Option.some.inj hr
    have ho := hBu1 _ rfl
    refine X_then_exit ?_
    exact X_env _ kr (K0_u1 _ _ ⟨(), m4, ho, rfl, hm, st⟩)
def revision_at_L1 (N : Nat) (p0 : (List (ByteArray × ByteArray))) (p1 : ByteArray) (s1 : Int × Int) : Option ((Int × Int) ⊕ ((Int))) :=
 if (decide (s1.1 < s1.2)) = true then ((idx p0 (IntKind.wrap .i64 (Int.fdiv (IntKind.wrap .u64 (IntKind.wrap .i64 (s1.1 + s1.2))) (2 ^ 1)))).bind fun x1 => if (!(!Op.bytesLess x1.1.toList p1.toList)) = true then (some (.inl (IntKind.wrap .i64 ((IntKind.wrap .i64 (Int.fdiv (IntKind.wrap .u64 (IntKind.wrap .i64 (s1.1 + s1.2))) (2 ^ 1))) + 1), s1.2))) else (some (.inl (s1.1, IntKind.wrap .i64 (Int.fdiv (IntKind.wrap .u64 (IntKind.wrap .i64 (s1.1 + s1.2))) (2 ^ 1)))))) else (some (.inr s1.1))
def revision_at (N : Nat) (p0 : (List (ByteArray × ByteArray))) (p1 : ByteArray) : Option (Int × Bool) :=
 ((loopM (revision_at_L1 N p0 p1) N (0, (List.length p0 : Int))).bind fun o2 => some o2 : Option (Int)).bind fun o1 => (if (decide (o1 < (List.length p0 : Int))) = true then ((idx p0 o1).bind fun x2 => some (x2.1.toList == p1.toList)) else (some false) : Option (Bool)).bind fun o3 => some (o1, o3)
set_option maxHeartbeats 4000000 in
set_option maxRecDepth 100000 in
theorem revision_at_ok {N : Nat} {m : Mem} {own : List Piece} {w : World} {p0 : (List (ByteArray × ByteArray))} {p1 : ByteArray} {a1 : Option Addr} {c1 : Nat} {r : Int × Bool} (st : St m (own) w) (r1 : RepS (cPair cStr cStr) m a1 c1 p0) (hr : revision_at N p0 p1 = some r) : Calls Tryz.prog 130 #[.agg #[.slice a1 (List.length p0) c1], .string p1] w fun e w' => ∃ (m' : Mem), e = .returned (.tuple #[.int .i64 r.1, .bool r.2]) ∧ m.le m' ∧ St m' (own) w' := by
 unfold revision_at at hr
 have hm := m.le_refl
 refine W_calls Tryz.func130 rfl Tryz.ntmps130 [(0, .agg #[.slice a1 (List.length p0) c1]), (1, .string p1)] kr rfl ?_
 refine W_sr (WO_one rfl (One_box_own (d := 2) (e := 25) (x := (.tmp 0)) (.agg #[.slice a1 (List.length p0) c1]) kr rfl kr st ?_))
 clear st
 intro b1 w1 st
 refine WO_one rfl (One_box_own (d := 3) (e := 9) (x := (.tmp 1)) (.string p1) kr rfl kr st ?_)
 clear st
 intro b2 w2 st
 refine WO_seg 2 [] kr kr ?_
 refine WO_et rfl (W_sr ?_)
 refine WO_seg 1 [(7, .pointer (some ⟨b1, 0, none⟩))] kr kr ?_
 refine WO_one rfl (One_load_own (d := 8) (t := 23) (x := (.tmp 7)) (.slice a1 (List.length p0) c1) kr rfl (ev (.pointer (some ⟨b1, 0, none⟩))) st.tail.head kr ?_)
 refine WO_seg 2 [(9, .int .i64 (List.length p0 : Int)), (10, .func (.func 156) #[] #[.pointer (some ⟨b1, 0, none⟩), .pointer (some ⟨b2, 0, none⟩)])] kr kr ?_
 replace ⟨o1, hr, hrKu1⟩ := bindS hr
 refine WO_one rfl (One_fn 11 110 #[.int .i64 (List.length p0 : Int), .func (.func 156) #[] #[.pointer (some ⟨b1, 0, none⟩), .pointer (some ⟨b2, 0, none⟩)]] kr rfl ?_)
 refine Calls_cut (fun v' w' => ∃ (m3 : Mem), v' = (.int .i64 o1) ∧ m.le m3 ∧ St m3 (.blk b2 (.cells #[.string p1] 9 (0, 0)) :: .blk b1 (.cells #[.slice a1 (List.length p0) c1] 25 (0, 0)) :: own) w' ∧ RepS (cPair cStr cStr) m3 a1 c1 p0) ?_ ?_
 ·clear hr st
  have hr := hrKu1
  clear hrKu1
  rintro _ w3 ⟨m3, rfl, hm, st, r1⟩
  refine ⟨_, rfl, ?_⟩
  refine WO_seg 1 [(6, .int .i64 o1)] kr kr ?_
  refine WO_et rfl (W_seq ?_)
  replace ⟨o3, hr, hrK⟩ := bindS hr
  refine W_cut .normal (fun L' w' => ∃ (m6 : Mem), L' = [(4, .int .i64 o1), (5, .bool o3)] ∧ m.le m6 ∧ St m6 (.blk b2 (.cells #[.string p1] 9 (0, 0)) :: .blk b1 (.cells #[.slice a1 (List.length p0) c1] 25 (0, 0)) :: own) w' ∧ RepS (cPair cStr cStr) m6 a1 c1 p0) ?_ ?_
  ·clear hr st
   have hr := hrK
   clear hrK
   rintro _ w7 ⟨m6, rfl, hm, st, r1⟩
   refine X_then ?_
   refine W_ret ?_
   obtain rfl := Option.some.inj hr
   refine X_ret [.tmp 4, .tmp 5] [.int .i64 o1, .bool o3] rfl (ResAll.cons (ResAt.tmp kr) (ResAll.cons (ResAt.tmp kr) ResAll.nil)) ?_
   have st := st.tail
   have st := st.tail
   exact ⟨m6, rfl, hm, st⟩
  ·intro K
   clear hrK
   refine W_draw [(18, fun w' => Inv m3 w' ∧ Piece.holds m3 w' (.blk b2 (.cells #[.string p1] 9 (0, 0))) ∧ Piece.holds m3 w' (.blk b1 (.cells #[.slice a1 (List.length p0) c1] 25 (0, 0))) ∧ True)] kr st ?_
   clear st
   intro w8 _ st
   have hmS2 := m3.le_refl
   refine ⟨⟨.inr ⟨Inv.anti st.inv hmS2, Piece.holds_anti st.head hmS2, Piece.holds_anti st.tail.head hmS2, trivial⟩, trivial⟩, ?_⟩
   refine WA_pure 0 12 (.int .i64 o1) kr rfl kr (.head _) (QP_then QP_body) ?_
   refine WA_pure 1 13 (.int .i64 o1) kr rfl kr (.head _) (QP_then QP_body) ?_
   refine WA_pure 2 14 (.pointer (some ⟨b1, 0, none⟩)) kr rfl kr (.head _) (QP_then QP_body) ?_
   refine WA_load_own (t := 23) (x := (.tmp 14)) 3 15 (.slice a1 (List.length p0) c1) kr rfl kr (.head _) (QP_then QP_body) (fun _ h => h.2.2.1) (ev (.pointer (some ⟨b1, 0, none⟩))) kr ?_
   refine WA_pure 4 16 (.int .i64 (List.length p0 : Int)) kr rfl kr (.head _) (QP_then QP_body) ?_
   refine WA_pure 5 17 (.bool (decide (o1 < (List.length p0 : Int)))) kr rfl kr (.head _) (QP_then QP_body) ?_
   refine WA_pure 6 18 (.bool (decide (o1 < (List.length p0 : Int)))) kr rfl kr (.head _) (QP_then QP_body) ?_
   rcases bcases (decide (o1 < (List.length p0 : Int))) with hc | hc
   ·rw [if_pos hc] at hr
    refine WA_fact (t := 18) (b := true) (decide (o1 < (List.length p0 : Int))) kr hc ?_
    refine WA_pure 7 19 (.pointer (some ⟨b1, 0, none⟩)) kr rfl kr (.head _) (QP_then QP_body) ?_
    refine WA_load_own (t := 23) (x := (.tmp 19)) 8 20 (.slice a1 (List.length p0) c1) kr rfl kr (.head _) (QP_then QP_body) (fun _ h => h.2.2.1) (ev (.pointer (some ⟨b1, 0, none⟩))) kr ?_
    refine WA_pure 9 21 (.int .i64 o1) kr rfl kr (.head _) (QP_then QP_body) ?_
    replace ⟨x2, hx2, hr⟩ := bindS hr
    refine WA_index (t := 23) (e := 74) (x := (.tmp 20)) (y := (.tmp 21)) 10 22 (cPair cStr cStr) kr rfl kr (.head _) (QP_then QP_body) (ev (.slice a1 (List.length p0) c1)) (ev (.int .i64 o1)) kr r1 hx2 ?_
    rintro b4 f2 cs2 ⟨_, _, rfl, rfl, rfl⟩ hq2
    refine WA_pure 11 23 (.pointer (some ⟨b4, f2, none⟩)) kr rfl kr (.head _) (QP_then QP_body) ?_
    refine WA_load_row (t := 9) (x := (.tmp 23)) 12 24 (.string x2.1) kr rfl kr (.head _) (QP_then QP_body) (fun _ h => h.1) (ev (.pointer (some ⟨b4, f2, none⟩))) hq2 kr ?_
    refine WA_load_own (t := 9) (x := (.tmp 3)) 13 25 (.string p1) kr rfl kr (.head _) (QP_then QP_body) (fun _ h => h.2.1) (ev (.pointer (some ⟨b2, 0, none⟩))) kr ?_
    refine WA_pure 14 26 (.bool (x2.1.toList == p1.toList)) kr rfl kr (.head _) (QP_then QP_body) ?_
    refine WA_pure 15 27 (.bool (x2.1.toList == p1.toList)) kr rfl kr (.head _) (QP_then QP_body) ?_
    refine WA_pure 16 4 (.int .i64 o1) kr rfl kr (.head _) (QP_then QP_body) ?_
    refine WA_pure 17 5 (.bool (x2.1.toList == p1.toList)) kr rfl kr (.head _) (QP_then QP_body) ?_
    obtain rfl := Option.some.inj hr
    have st := st.front1.front1
    exact WA_done kr (X_env _ kr (K _ _ ⟨m3, rfl, hm, st, r1⟩))
   ·rw [if_neg (not_true hc)] at hr
    refine WA_fact (t := 18) (b := false) (decide (o1 < (List.length p0 : Int))) kr hc ?_
    refine WA_not 7 19 kr rfl kr (.head _) (QP_then QP_body) ?_
    refine WA_not 8 20 kr rfl kr (.head _) (QP_then QP_body) ?_
    refine WA_not 9 21 kr rfl kr (.head _) (QP_then QP_body) ?_
    refine WA_not 10 22 kr rfl kr (.head _) (QP_then QP_body) ?_
    refine WA_not 11 23 kr rfl kr (.head _) (QP_then QP_body) ?_
    refine WA_not 12 24 kr rfl kr (.head _) (QP_then QP_body) ?_
    refine WA_not 13 25 kr rfl kr (.head _) (QP_then QP_body) ?_
    refine WA_not 14 26 kr rfl kr (.head _) (QP_then QP_body) ?_
    refine WA_pure 15 27 (.bool false) kr rfl kr (.head _) (QP_then QP_body) ?_
    refine WA_pure 16 4 (.int .i64 o1) kr rfl kr (.head _) (QP_then QP_body) ?_
    refine WA_pure 17 5 (.bool false) kr rfl kr (.head _) (QP_then QP_body) ?_
    obtain rfl := Option.some.inj hr
    have st := st.front1.front1
    exact WA_done kr (X_env _ kr (K _ _ ⟨m3, rfl, hm, st, r1⟩))
 ·clear hrKu1
  refine W_calls Tryz.func110 rfl Tryz.ntmps110 [(0, .int .i64 (List.length p0 : Int)), (1, .func (.func 156) #[] #[.pointer (some ⟨b1, 0, none⟩), .pointer (some ⟨b2, 0, none⟩)])] kr rfl ?_
  refine W_sr (WO_seg 1 [] kr kr ?_)
  refine WO_et rfl (W_sr ?_)
  refine WO_seg 3 [(5, .int .i64 0), (6, .int .i64 (List.length p0 : Int))] kr kr ?_
  refine WO_et rfl (W_seq ?_)
  refine W_block ?_
  replace ⟨out1, hr, hrKu2⟩ := bindS hr
  refine W_cut (.exit 0) (fun L' w' => ∃ (o2 : Int) (m4 : Mem), o2 = out1 ∧ L' = [(5, .int .i64 o2)] ∧ m.le m4 ∧ St m4 (.blk b2 (.cells #[.string p1] 9 (0, 0)) :: .blk b1 (.cells #[.slice a1 (List.length p0) c1] 25 (0, 0)) :: own) w' ∧ RepS (cPair cStr cStr) m4 a1 c1 p0) ?_ ?_
  ·clear hr st
   rintro _ w4 ⟨o2, m4, rfl, rfl, hm, st, r1⟩
   have hr := hrKu2
   clear hrKu2
   refine X_block_eq ?_
   refine X_then ?_
   refine W_sr (WO_seg 2 [(4, .int .i64 o2)] kr kr ?_)
   refine WO_et rfl (W_ret ?_)
   obtain rfl := Option.some.inj hr
   refine X_ret [.tmp 4] [.int .i64 o2] rfl (ResAll.cons (ResAt.tmp kr) ResAll.nil) ?_
   have st := st.front1.front1
   exact ⟨_, rfl, ⟨m4, rfl, hm, st, r1⟩⟩
  intro K0_u2
  clear hrKu2
  have st := st.front1.front1
  refine W_env _ kr (W_loop (fun k1 L' w' => ∃ (s1 : Int × Int) (m5 : Mem), loopM (revision_at_L1 N p0 p1) k1 s1 = some out1 ∧ L' = [(1, .func (.func 156) #[] #[.pointer (some ⟨b1, 0, none⟩), .pointer (some ⟨b2, 0, none⟩)]), (5, .int .i64 s1.1), (6, .int .i64 s1.2)] ∧ m.le m5 ∧ St m5 (.blk b2 (.cells #[.string p1] 9 (0, 0)) :: .blk b1 (.cells #[.slice a1 (List.length p0) c1] 25 (0, 0)) :: own) w' ∧ RepS (cPair cStr cStr) m5 a1 c1 p0) N ⟨(0, (List.length p0 : Int)), m, hr, rfl, hm, st, r1⟩ ?_)
  clear st hr
  rintro k1 _ w5 ⟨s1, m5, hL, rfl, hm, st, r1⟩
  rcases k1 with _ | k1
  ·exact loopM_zero hL
  ·obtain ⟨qu2, hr, hSu2, hBu2⟩ := loopM_succ hL
   clear hL
   unfold revision_at_L1 at hr
   refine W_seq ?_
   refine W_sr (WO_seg 3 [(11, .bool (decide (s1.1 < s1.2)))] kr kr ?_)
   refine WO_et rfl (W_cond (decide (s1.1 < s1.2)) kr ?_ ?_)
   ·intro hc
    rw [if_pos hc] at hr
    refine W_skip ?_
    refine X_then ?_
    refine W_block ?_
    refine W_sr (WO_seg 7 [(7, .int .i64 (IntKind.wrap .i64 (Int.fdiv (IntKind.wrap .u64 (IntKind.wrap .i64 (s1.1 + s1.2))) (2 ^ 1))))] kr kr ?_)
    refine WO_et rfl (W_sr ?_)
    refine WO_seg 2 [(18, .func (.func 156) #[] #[.pointer (some ⟨b1, 0, none⟩), .pointer (some ⟨b2, 0, none⟩)]), (19, .int .i64 (IntKind.wrap .i64 (Int.fdiv (IntKind.wrap .u64 (IntKind.wrap .i64 (s1.1 + s1.2))) (2 ^ 1))))] kr kr ?_
    refine WO_one rfl (One_fn 20 156 #[.int .i64 (IntKind.wrap .i64 (Int.fdiv (IntKind.wrap .u64 (IntKind.wrap .i64 (s1.1 + s1.2))) (2 ^ 1))), .pointer (some ⟨b1, 0, none⟩), .pointer (some ⟨b2, 0, none⟩)] kr rfl ?_)
    refine W_calls Tryz.func156 rfl Tryz.ntmps156 [(0, .int .i64 (IntKind.wrap .i64 (Int.fdiv (IntKind.wrap .u64 (IntKind.wrap .i64 (s1.1 + s1.2))) (2 ^ 1)))), (1, .pointer (some ⟨b1, 0, none⟩)), (2, .pointer (some ⟨b2, 0, none⟩))] kr rfl ?_
    refine W_sr (WO_seg 1 [] kr kr ?_)
    refine WO_et rfl (W_seq ?_)
    refine W_draw [(9, fun w' => Inv m5 w' ∧ Piece.holds m5 w' (.blk b2 (.cells #[.string p1] 9 (0, 0))) ∧ Piece.holds m5 w' (.blk b1 (.cells #[.slice a1 (List.length p0) c1] 25 (0, 0))) ∧ True)] kr st ?_
    clear st
    intro w6 _ st
    have hmS1 := m5.le_refl
    refine ⟨⟨.inr ⟨Inv.anti st.inv hmS1, Piece.holds_anti st.head hmS1, Piece.holds_anti st.tail.head hmS1, trivial⟩, trivial⟩, ?_⟩
    refine WA_pure 0 5 (.pointer (some ⟨b1, 0, none⟩)) kr rfl kr (.head _) (QP_then QP_body) ?_
    refine WA_load_own (t := 23) (x := (.tmp 5)) 1 6 (.slice a1 (List.length p0) c1) kr rfl kr (.head _) (QP_then QP_body) (fun _ h => h.2.2.1) (ev (.pointer (some ⟨b1, 0, none⟩))) kr ?_
    refine WA_pure 2 7 (.int .i64 (IntKind.wrap .i64 (Int.fdiv (IntKind.wrap .u64 (IntKind.wrap .i64 (s1.1 + s1.2))) (2 ^ 1)))) kr rfl kr (.head _) (QP_then QP_body) ?_
    replace ⟨x1, hx1, hr⟩ := bindS hr
    refine WA_index (t := 23) (e := 74) (x := (.tmp 6)) (y := (.tmp 7)) 3 8 (cPair cStr cStr) kr rfl kr (.head _) (QP_then QP_body) (ev (.slice a1 (List.length p0) c1)) (ev (.int .i64 (IntKind.wrap .i64 (Int.fdiv (IntKind.wrap .u64 (IntKind.wrap .i64 (s1.1 + s1.2))) (2 ^ 1))))) kr r1 hx1 ?_
    rintro b3 f1 cs1 ⟨_, _, rfl, rfl, rfl⟩ hq1
    refine WA_pure 4 9 (.pointer (some ⟨b3, f1, none⟩)) kr rfl kr (.head _) (QP_then QP_body) ?_
    refine WA_load_row (t := 9) (x := (.tmp 9)) 5 10 (.string x1.1) kr rfl kr (.head _) (QP_then QP_body) (fun _ h => h.1) (ev (.pointer (some ⟨b3, f1, none⟩))) hq1 kr ?_
    refine WA_load_own (t := 9) (x := (.tmp 2)) 6 11 (.string p1) kr rfl kr (.head _) (QP_then QP_body) (fun _ h => h.2.1) (ev (.pointer (some ⟨b2, 0, none⟩))) kr ?_
    refine WA_pure 7 12 (.bool (!Op.bytesLess x1.1.toList p1.toList)) kr rfl kr (.head _) (QP_then QP_body) ?_
    refine WA_pure 8 4 (.bool (!Op.bytesLess x1.1.toList p1.toList)) kr rfl kr (.head _) (QP_then QP_body) ?_
    refine WA_done kr ?_
    refine X_then ?_
    refine W_ret ?_
    refine X_ret [.tmp 4] [.bool (!Op.bytesLess x1.1.toList p1.toList)] rfl (ResAll.cons (ResAt.tmp kr) ResAll.nil) ?_
    refine ⟨_, rfl, ?_⟩
    refine WO_seg 1 [(21, .bool (!(!Op.bytesLess x1.1.toList p1.toList)))] kr kr ?_
    refine WO_et rfl (W_cond (!(!Op.bytesLess x1.1.toList p1.toList)) kr ?_ ?_)
    ·intro hc
     rw [if_pos hc] at hr
     refine W_region ?_
     refine WO_seg 3 [(5, .int .i64 (IntKind.wrap .i64 ((IntKind.wrap .i64 (Int.fdiv (IntKind.wrap .u64 (IntKind.wrap .i64 (s1.1 + s1.2))) (2 ^ 1))) + 1)))] kr kr ?_
     refine WO_end rfl ?_
     refine X_block ?_
     obtain rfl := Option.some.inj hr
     have hL := hSu2 _ rfl
     have st := st.front1.front1
     exact X_env _ kr (X_round k1 (Nat.lt_succ_self _) ⟨(IntKind.wrap .i64 ((IntKind.wrap .i64 (Int.fdiv (IntKind.wrap .u64 (IntKind.wrap .i64 (s1.1 + s1.2))) (2 ^ 1))) + 1), s1.2), m5, hL, rfl, hm, st, r1⟩)
    ·intro hc
     rw [if_neg (not_true hc)] at hr
     refine W_region ?_
     refine WO_seg 2 [(6, .int .i64 (IntKind.wrap .i64 (Int.fdiv (IntKind.wrap .u64 (IntKind.wrap .i64 (s1.1 + s1.2))) (2 ^ 1))))] kr kr ?_
     refine WO_end rfl ?_
     refine X_block ?_
     obtain rfl := Option.some.inj hr
     have hL := hSu2 _ rfl
     have st := st.front1.front1
     exact X_env _ kr (X_round k1 (Nat.lt_succ_self _) ⟨(s1.1, IntKind.wrap .i64 (Int.fdiv (IntKind.wrap .u64 (IntKind.wrap .i64 (s1.1 + s1.2))) (2 ^ 1))), m5, hL, rfl, hm, st, r1⟩)
   ·intro hc
    rw [if_neg (not_true hc)] at hr
    refine W_exit ?_
    refine X_then_exit ?_
    obtain rfl := Option.some.inj hr
    have ho := hBu2 _ rfl
    have st := st.front1.front1
    refine X_then_exit ?_
    exact X_env _ kr (K0_u2 _ _ ⟨s1.1, m5, ho, rfl, hm, st, r1⟩)
def revision_Find (N : Nat) (p0 : (List (ByteArray × ByteArray))) (p1 : ByteArray) : Option (ByteArray × Bool) :=
 (revision_Check N p0).bind fun y1 => if (y1 != 0) = true then (some ((⟨#[]⟩ : ByteArray), false)) else ((revision_at N p0 p1).bind fun y2 => if (!y2.2) = true then (some ((⟨#[]⟩ : ByteArray), false)) else ((idx p0 y2.1).bind fun x1 => some (x1.2, true)))
set_option maxHeartbeats 4000000 in
set_option maxRecDepth 100000 in
theorem revision_Find_ok {N : Nat} {m : Mem} {own : List Piece} {w : World} {p0 : (List (ByteArray × ByteArray))} {p1 : ByteArray} {a1 : Option Addr} {c1 : Nat} {r : ByteArray × Bool} (st : St m (own) w) (r1 : RepS (cPair cStr cStr) m a1 c1 p0) (hr : revision_Find N p0 p1 = some r) : Calls Tryz.prog 76 #[.agg #[.slice a1 (List.length p0) c1], .string p1] w fun e w' => ∃ (m' : Mem), e = .returned (.tuple #[.string r.1, .bool r.2]) ∧ m.le m' ∧ St m' (own) w' := by
 unfold revision_Find at hr
 have hm := m.le_refl
 refine W_calls Tryz.func76 rfl Tryz.ntmps76 [(0, .agg #[.slice a1 (List.length p0) c1]), (1, .string p1)] kr rfl ?_
 refine W_sr (WO_one rfl (One_box (d := 2) (e := 25) (x := (.tmp 0)) (.agg #[.slice a1 (List.length p0) c1]) kr rfl kr st ?_))
 clear st
 intro b1 m1 w1 hle1 st hb1
 have hm := Mem.le_trans hm hle1
 have r1 := r1.mono hle1
 refine WO_seg 2 [] kr kr ?_
 refine WO_et rfl (W_seq ?_)
 refine W_sr (WO_one rfl (One_load_row (d := 8) (t := 25) (x := (.tmp 2)) (.agg #[.slice a1 (List.length p0) c1]) kr rfl (ev (.pointer (some ⟨b1, 0, none⟩))) st hb1 kr ?_))
 replace ⟨y1, hx1, hr⟩ := bindS hr
 refine WO_one rfl (One_fn 9 75 #[.agg #[.slice a1 (List.length p0) c1]] kr rfl ?_)
 refine (revision_Check_ok st r1 hx1).mono ?_
 clear st
 rintro _ w2 ⟨m2, rfl, hle2, st⟩
 refine ⟨_, rfl, ?_⟩
 have hm := Mem.le_trans hm hle2
 have hb1 := hb1.mono hle2
 have r1 := r1.mono hle2
 refine WO_seg 1 [(10, .bool (y1 != 0))] kr kr ?_
 refine WO_et rfl (W_cond (y1 != 0) kr ?_ ?_)
 ·intro hc
  rw [if_pos hc] at hr
  refine W_sr (WO_seg 2 [(4, .string (⟨#[]⟩ : ByteArray)), (5, .bool false)] kr kr ?_)
  refine WO_et rfl (W_ret ?_)
  refine X_then_ret ?_
  obtain rfl := Option.some.inj hr
  refine X_ret [.tmp 4, .tmp 5] [.string (⟨#[]⟩ : ByteArray), .bool false] rfl (ResAll.cons (ResAt.tmp kr) (ResAll.cons (ResAt.tmp kr) ResAll.nil)) ?_
  exact ⟨m2, rfl, hm, st⟩
 ·intro hc
  rw [if_neg (not_true hc)] at hr
  refine W_skip ?_
  refine X_then ?_
  refine W_sr (WO_one rfl (One_load_row (d := 12) (t := 25) (x := (.tmp 2)) (.agg #[.slice a1 (List.length p0) c1]) kr rfl (ev (.pointer (some ⟨b1, 0, none⟩))) st hb1 kr ?_))
  refine WO_seg 1 [(13, .string p1)] kr kr ?_
  replace ⟨y2, hx2, hr⟩ := bindS hr
  refine WO_one rfl (One_fn 14 130 #[.agg #[.slice a1 (List.length p0) c1], .string p1] kr rfl ?_)
  refine (revision_at_ok st r1 hx2).mono ?_
  clear st
  rintro _ w3 ⟨m3, rfl, hle3, st⟩
  refine ⟨_, rfl, ?_⟩
  have hm := Mem.le_trans hm hle3
  have hb1 := hb1.mono hle3
  have r1 := r1.mono hle3
  refine WO_seg 5 [(6, .int .i64 y2.1), (7, .bool y2.2)] kr kr ?_
  refine WO_et rfl (W_seq ?_)
  refine W_sr (WO_seg 2 [(18, .bool (!y2.2))] kr kr ?_)
  refine WO_et rfl (W_cond (!y2.2) kr ?_ ?_)
  ·intro hc
   rw [if_pos hc] at hr
   refine W_sr (WO_seg 2 [(4, .string (⟨#[]⟩ : ByteArray)), (5, .bool false)] kr kr ?_)
   refine WO_et rfl (W_ret ?_)
   refine X_then_ret ?_
   obtain rfl := Option.some.inj hr
   refine X_ret [.tmp 4, .tmp 5] [.string (⟨#[]⟩ : ByteArray), .bool false] rfl (ResAll.cons (ResAt.tmp kr) (ResAll.cons (ResAt.tmp kr) ResAll.nil)) ?_
   exact ⟨m3, rfl, hm, st⟩
  ·intro hc
   rw [if_neg (not_true hc)] at hr
   refine W_skip ?_
   refine X_then ?_
   refine W_sr (WO_seg 1 [(19, .pointer (some ⟨b1, 0, none⟩))] kr kr ?_)
   refine WO_one rfl (One_load_row (d := 20) (t := 23) (x := (.tmp 19)) (.slice a1 (List.length p0) c1) kr rfl (ev (.pointer (some ⟨b1, 0, none⟩))) st hb1 kr ?_)
   refine WO_seg 1 [(21, .int .i64 y2.1)] kr kr ?_
   replace ⟨x1, hx3, hr⟩ := bindS hr
   refine WO_one rfl (One_index (d := 22) (t := 23) (e := 74) (x := (.tmp 20)) (y := (.tmp 21)) (cPair cStr cStr) kr rfl (ev (.slice a1 (List.length p0) c1)) (ev (.int .i64 y2.1)) kr r1 hx3 ?_)
   rintro b2 f1 cs1 ⟨_, _, rfl, rfl, rfl⟩ hq1
   refine WO_seg 1 [(23, .pointer (some ⟨b2, f1 + 1, none⟩))] kr kr ?_
   refine WO_one rfl (One_load_row (d := 24) (t := 9) (x := (.tmp 23)) (.string x1.2) kr rfl (ev (.pointer (some ⟨b2, f1 + 1, none⟩))) st (hq1.drop 1) kr ?_)
   refine WO_seg 2 [(4, .string x1.2), (5, .bool true)] kr kr ?_
   refine WO_et rfl (W_ret ?_)
   obtain rfl := Option.some.inj hr
   refine X_ret [.tmp 4, .tmp 5] [.string x1.2, .bool true] rfl (ResAll.cons (ResAt.tmp kr) (ResAll.cons (ResAt.tmp kr) ResAll.nil)) ?_
   exact ⟨m3, rfl, hm, st⟩
def cmp_isNaN_int (N : Nat) (p0 : Int) : Option (Bool) :=
 some (p0 != p0)
set_option maxHeartbeats 4000000 in
set_option maxRecDepth 100000 in
theorem cmp_isNaN_int_ok {N : Nat} {m : Mem} {own : List Piece} {w : World} {p0 : Int} {r : Bool} (st : St m (own) w) (hr : cmp_isNaN_int N p0 = some r) : Calls Tryz.prog 134 #[.int .i64 p0] w fun e w' => ∃ (m' : Mem), e = .returned (.bool r) ∧ m.le m' ∧ St m' (own) w' := by
 unfold cmp_isNaN_int at hr
 have hm := m.le_refl
 refine W_calls Tryz.func134 rfl Tryz.ntmps134 [(0, .int .i64 p0)] kr rfl ?_
 refine W_sr (WO_seg 1 [] kr kr ?_)
 refine WO_et rfl (W_sr ?_)
 refine WO_seg 4 [(2, .bool (p0 != p0))] kr kr ?_
 refine WO_et rfl (W_ret ?_)
 obtain rfl := Option.some.inj hr
 refine X_ret [.tmp 2] [.bool (p0 != p0)] rfl (ResAll.cons (ResAt.tmp kr) ResAll.nil) ?_
 exact ⟨m, rfl, hm, st⟩
def cmp_Compare_int (N : Nat) (p0 : Int) (p1 : Int) : Option (Int) :=
 (cmp_isNaN_int N p0).bind fun y1 => (cmp_isNaN_int N p1).bind fun y2 => if y1 = true then (if y2 = true then (some 0) else (some (-1))) else (if y2 = true then (some 1) else (if (decide (p0 < p1)) = true then (some (-1)) else (if (decide (p0 > p1)) = true then (some 1) else (some 0))))
set_option maxHeartbeats 4000000 in
set_option maxRecDepth 100000 in
theorem cmp_Compare_int_ok {N : Nat} {m : Mem} {own : List Piece} {w : World} {p0 : Int} {p1 : Int} {r : Int} (st : St m (own) w) (hr : cmp_Compare_int N p0 p1 = some r) : Calls Tryz.prog 81 #[.int .i64 p0, .int .i64 p1] w fun e w' => ∃ (m' : Mem), e = .returned (.int .i64 r) ∧ m.le m' ∧ St m' (own) w' := by
 unfold cmp_Compare_int at hr
 have hm := m.le_refl
 refine W_calls Tryz.func81 rfl Tryz.ntmps81 [(0, .int .i64 p0), (1, .int .i64 p1)] kr rfl ?_
 refine W_sr (WO_seg 1 [] kr kr ?_)
 refine WO_et rfl (W_sr ?_)
 refine WO_seg 1 [(7, .int .i64 p0)] kr kr ?_
 replace ⟨y1, hx1, hr⟩ := bindS hr
 refine WO_one rfl (One_fn 8 134 #[.int .i64 p0] kr rfl ?_)
 refine (cmp_isNaN_int_ok st hx1).mono ?_
 clear st
 rintro _ w1 ⟨m1, rfl, hle1, st⟩
 refine ⟨_, rfl, ?_⟩
 have hm := Mem.le_trans hm hle1
 refine WO_seg 1 [(5, .bool y1)] kr kr ?_
 refine WO_et rfl (W_sr ?_)
 refine WO_seg 1 [(9, .int .i64 p1)] kr kr ?_
 replace ⟨y2, hx2, hr⟩ := bindS hr
 refine WO_one rfl (One_fn 10 134 #[.int .i64 p1] kr rfl ?_)
 refine (cmp_isNaN_int_ok st hx2).mono ?_
 clear st
 rintro _ w2 ⟨m2, rfl, hle2, st⟩
 refine ⟨_, rfl, ?_⟩
 have hm := Mem.le_trans hm hle2
 refine WO_seg 1 [(6, .bool y2)] kr kr ?_
 refine WO_et rfl (W_seq ?_)
 refine W_sr (WO_seg 1 [(11, .bool y1)] kr kr ?_)
 refine WO_et rfl (W_cond y1 kr ?_ ?_)
 ·intro hc
  rw [if_pos hc] at hr
  refine W_seq ?_
  refine W_sr (WO_seg 1 [(12, .bool y2)] kr kr ?_)
  refine WO_et rfl (W_cond y2 kr ?_ ?_)
  ·intro hc
   rw [if_pos hc] at hr
   refine W_sr (WO_seg 1 [(4, .int .i64 0)] kr kr ?_)
   refine WO_et rfl (W_ret ?_)
   refine X_then_ret ?_
   refine X_then_ret ?_
   obtain rfl := Option.some.inj hr
   refine X_ret [.tmp 4] [.int .i64 0] rfl (ResAll.cons (ResAt.tmp kr) ResAll.nil) ?_
   exact ⟨m2, rfl, hm, st⟩
  ·intro hc
   rw [if_neg (not_true hc)] at hr
   refine W_skip ?_
   refine X_then ?_
   refine W_sr (WO_seg 1 [(4, .int .i64 (-1))] kr kr ?_)
   refine WO_et rfl (W_ret ?_)
   refine X_then_ret ?_
   obtain rfl := Option.some.inj hr
   refine X_ret [.tmp 4] [.int .i64 (-1)] rfl (ResAll.cons (ResAt.tmp kr) ResAll.nil) ?_
   exact ⟨m2, rfl, hm, st⟩
 ·intro hc
  rw [if_neg (not_true hc)] at hr
  refine W_skip ?_
  refine X_then ?_
  refine W_seq ?_
  refine W_sr (WO_seg 1 [(13, .bool y2)] kr kr ?_)
  refine WO_et rfl (W_cond y2 kr ?_ ?_)
  ·intro hc
   rw [if_pos hc] at hr
   refine W_sr (WO_seg 1 [(4, .int .i64 1)] kr kr ?_)
   refine WO_et rfl (W_ret ?_)
   refine X_then_ret ?_
   obtain rfl := Option.some.inj hr
   refine X_ret [.tmp 4] [.int .i64 1] rfl (ResAll.cons (ResAt.tmp kr) ResAll.nil) ?_
   exact ⟨m2, rfl, hm, st⟩
  ·intro hc
   rw [if_neg (not_true hc)] at hr
   refine W_skip ?_
   refine X_then ?_
   refine W_seq ?_
   refine W_sr (WO_seg 3 [(16, .bool (decide (p0 < p1)))] kr kr ?_)
   refine WO_et rfl (W_cond (decide (p0 < p1)) kr ?_ ?_)
   ·intro hc
    rw [if_pos hc] at hr
    refine W_sr (WO_seg 1 [(4, .int .i64 (-1))] kr kr ?_)
    refine WO_et rfl (W_ret ?_)
    refine X_then_ret ?_
    obtain rfl := Option.some.inj hr
    refine X_ret [.tmp 4] [.int .i64 (-1)] rfl (ResAll.cons (ResAt.tmp kr) ResAll.nil) ?_
    exact ⟨m2, rfl, hm, st⟩
   ·intro hc
    rw [if_neg (not_true hc)] at hr
    refine W_skip ?_
    refine X_then ?_
    refine W_seq ?_
    refine W_sr (WO_seg 3 [(19, .bool (decide (p0 > p1)))] kr kr ?_)
    refine WO_et rfl (W_cond (decide (p0 > p1)) kr ?_ ?_)
    ·intro hc
     rw [if_pos hc] at hr
     refine W_sr (WO_seg 1 [(4, .int .i64 1)] kr kr ?_)
     refine WO_et rfl (W_ret ?_)
     refine X_then_ret ?_
     obtain rfl := Option.some.inj hr
     refine X_ret [.tmp 4] [.int .i64 1] rfl (ResAll.cons (ResAt.tmp kr) ResAll.nil) ?_
     exact ⟨m2, rfl, hm, st⟩
    ·intro hc
     rw [if_neg (not_true hc)] at hr
     refine W_skip ?_
     refine X_then ?_
     refine W_sr (WO_seg 1 [(4, .int .i64 0)] kr kr ?_)
     refine WO_et rfl (W_ret ?_)
     obtain rfl := Option.some.inj hr
     refine X_ret [.tmp 4] [.int .i64 0] rfl (ResAll.cons (ResAt.tmp kr) ResAll.nil) ?_
     exact ⟨m2, rfl, hm, st⟩
def cmp_Or_int_L1 (N : Nat) (p0 : List Int) (s1 : Int) : Option ((Int) ⊕ ((Unit) ⊕ (Int))) :=
 if (decide (s1 < (List.length p0 : Int))) = true then ((idx p0 s1).bind fun x1 => if (x1 != 0) = true then (some (.inr (.inr (x1)))) else (some (.inl (IntKind.wrap .i64 (s1 + 1))))) else (some (.inr (.inl ())))
def cmp_Or_int (N : Nat) (p0 : List Int) : Option (Int) :=
 (loopM (cmp_Or_int_L1 N p0) N 0).bind fun out1 => (match out1 with | .inl o1 => some 0 | .inr (z) => some z)
set_option maxHeartbeats 4000000 in
set_option maxRecDepth 100000 in
theorem cmp_Or_int_ok {N : Nat} {m : Mem} {own : List Piece} {w : World} {p0 : List Int} {a1 : Option Addr} {c1 : Nat} {r : Int} (st : St m (own) w) (r1 : RepS (cInt .i64) m a1 c1 p0) (hr : cmp_Or_int N p0 = some r) : Calls Tryz.prog 79 #[.slice a1 (List.length p0) c1] w fun e w' => ∃ (m' : Mem), e = .returned (.int .i64 r) ∧ m.le m' ∧ St m' (own) w' := by
 unfold cmp_Or_int at hr
 have hm := m.le_refl
 refine W_calls Tryz.func79 rfl Tryz.ntmps79 [(0, .slice a1 (List.length p0) c1)] kr rfl ?_
 refine W_sr (WO_seg 1 [] kr kr ?_)
 refine WO_et rfl (W_sr ?_)
 refine WO_seg 1 [(3, .int .i64 0)] kr kr ?_
 refine WO_et rfl (W_seq ?_)
 refine W_sr (WO_seg 3 [(6, .slice a1 (List.length p0) c1), (7, .int .i64 (List.length p0 : Int)), (8, .int .i64 0)] kr kr ?_)
 refine WO_et rfl (W_block ?_)
 replace ⟨out1, hr, hrKu1⟩ := bindS hr
 refine W_cut (.exit 0) (fun L' w' => ∃ (o1 : Unit) (m1 : Mem), (.inl o1) = out1 ∧ L' = [(3, .int .i64 0)] ∧ m.le m1 ∧ St m1 (own) w') ?_ ?_
 ·clear hr st
  rintro _ w1 ⟨o1, m1, rfl, rfl, hm, st⟩
  have hr := hrKu1
  clear hrKu1
  dsimp only at hr
  refine X_block_eq ?_
  refine X_then ?_
  refine W_sr (WO_seg 2 [(2, .int .i64 0)] kr kr ?_)
  refine WO_et rfl (W_ret ?_)
  obtain rfl := Option.some.inj hr
  refine X_ret [.tmp 2] [.int .i64 0] rfl (ResAll.cons (ResAt.tmp kr) ResAll.nil) ?_
  exact ⟨m1, rfl, hm, st⟩
 intro K0_u1
 refine W_env _ kr (W_loop (fun k1 L' w' => ∃ (s1 : Int) (m2 : Mem), loopM (cmp_Or_int_L1 N p0) k1 s1 = some out1 ∧ L' = [(3, .int .i64 0), (6, .slice a1 (List.length p0) c1), (7, .int .i64 (List.length p0 : Int)), (8, .int .i64 s1)] ∧ m.le m2 ∧ St m2 (own) w' ∧ RepS (cInt .i64) m2 a1 c1 p0) N ⟨0, m, hr, rfl, hm, st, r1⟩ ?_)
 clear st hr
 rintro k1 _ w2 ⟨s1, m2, hL, rfl, hm, st, r1⟩
 rcases k1 with _ | k1
 ·exact loopM_zero hL
 ·obtain ⟨qu1, hr, hSu1, hBu1⟩ := loopM_succ hL
  clear hL
  unfold cmp_Or_int_L1 at hr
  refine W_sr (WO_seg 1 [(9, .bool (decide (s1 < (List.length p0 : Int))))] kr kr ?_)
  refine WO_et rfl (W_seq ?_)
  refine W_cond (decide (s1 < (List.length p0 : Int))) kr ?_ ?_
  ·intro hc
   rw [if_pos hc] at hr
   refine W_skip ?_
   refine X_then ?_
   refine W_seq ?_
   refine W_block ?_
   refine W_sr ?_
   replace ⟨x1, hx1, hr⟩ := bindS hr
   refine WO_one rfl (One_index (d := 10) (t := 22) (e := 3) (x := (.tmp 6)) (y := (.tmp 8)) (cInt .i64) kr rfl (ev (.slice a1 (List.length p0) c1)) (ev (.int .i64 s1)) kr r1 hx1 ?_)
   rintro b1 f1 cs1 rfl hq1
   refine WO_one rfl (One_load_row (d := 11) (t := 3) (x := (.tmp 10)) (.int .i64 x1) kr rfl (ev (.pointer (some ⟨b1, f1, none⟩))) st hq1 kr ?_)
   refine WO_seg 1 [(5, .int .i64 x1)] kr kr ?_
   refine WO_et rfl (W_sr ?_)
   refine WO_seg 3 [(14, .bool (x1 != 0))] kr kr ?_
   refine WO_et rfl (W_cond (x1 != 0) kr ?_ ?_)
   ·intro hc
    rw [if_pos hc] at hr
    refine W_sr (WO_seg 2 [(2, .int .i64 x1)] kr kr ?_)
    refine WO_et rfl (W_ret ?_)
    refine X_block_ret ?_
    refine X_then_ret ?_
    obtain rfl := Option.some.inj hr
    have ho := hBu1 _ rfl
    subst ho
    have hr := hrKu1
    dsimp only at hr
    refine X_then_ret ?_
    refine X_block_ret ?_
    refine X_then_ret ?_
    obtain rfl := Option.some.inj hr
    refine X_ret [.tmp 2] [.int .i64 x1] rfl (ResAll.cons (ResAt.tmp kr) ResAll.nil) ?_
    exact ⟨m2, rfl, hm, st⟩
   ·intro hc
    rw [if_neg (not_true hc)] at hr
    refine W_skip ?_
    refine X_block ?_
    refine X_then ?_
    refine W_region ?_
    refine WO_seg 2 [(8, .int .i64 (IntKind.wrap .i64 (s1 + 1)))] kr kr ?_
    refine WO_end rfl ?_
    obtain rfl := Option.some.inj hr
    have hL := hSu1 _ rfl
    exact X_env _ kr (X_round k1 (Nat.lt_succ_self _) ⟨IntKind.wrap .i64 (s1 + 1), m2, hL, rfl, hm, st, r1⟩)
  ·intro hc
   rw [if_neg (not_true hc)] at hr
   refine W_exit ?_
   refine X_then_exit ?_
   obtain rfl := Option.some.inj hr
   have ho := hBu1 _ rfl
   refine X_then_exit ?_
   exact X_env _ kr (K0_u1 _ _ ⟨(), m2, ho, rfl, hm, st⟩)
def filediff_Diff_1 (N : Nat) (p0 : Int × ByteArray × ByteArray × ByteArray) (p1 : Int × ByteArray × ByteArray × ByteArray) : Option (Int) :=
 (strings_Compare N p0.2.1 p1.2.1).bind fun y1 => (cmp_Compare_int N p0.1 p1.1).bind fun y2 => (cmp_Or_int N ([y1, y2])).bind fun y3 => some y3
set_option maxHeartbeats 4000000 in
set_option maxRecDepth 100000 in
theorem filediff_Diff_1_ok {N : Nat} {m : Mem} {own : List Piece} {w : World} {p0 : Int × ByteArray × ByteArray × ByteArray} {p1 : Int × ByteArray × ByteArray × ByteArray} {r : Int} (st : St m (own) w) (hr : filediff_Diff_1 N p0 p1 = some r) : Calls Tryz.prog 78 #[.agg #[.int .i64 p0.1, .string p0.2.1, .string p0.2.2.1, .string p0.2.2.2], .agg #[.int .i64 p1.1, .string p1.2.1, .string p1.2.2.1, .string p1.2.2.2]] w fun e w' => ∃ (m' : Mem), e = .returned (.int .i64 r) ∧ m.le m' ∧ St m' (own) w' := by
 unfold filediff_Diff_1 at hr
 have hm := m.le_refl
 refine W_calls Tryz.func78 rfl Tryz.ntmps78 [(0, .agg #[.int .i64 p0.1, .string p0.2.1, .string p0.2.2.1, .string p0.2.2.2]), (1, .agg #[.int .i64 p1.1, .string p1.2.1, .string p1.2.2.1, .string p1.2.2.2])] kr rfl ?_
 refine W_sr (WO_one rfl (One_box (d := 2) (e := 72) (x := (.tmp 0)) (.agg #[.int .i64 p0.1, .string p0.2.1, .string p0.2.2.1, .string p0.2.2.2]) kr rfl kr st ?_))
 clear st
 intro b1 m1 w1 hle1 st hb1
 have hm := Mem.le_trans hm hle1
 refine WO_one rfl (One_box (d := 3) (e := 72) (x := (.tmp 1)) (.agg #[.int .i64 p1.1, .string p1.2.1, .string p1.2.2.1, .string p1.2.2.2]) kr rfl kr st ?_)
 clear st
 intro b2 m2 w2 hle2 st hb2
 have hm := Mem.le_trans hm hle2
 have hb1 := hb1.mono hle2
 refine WO_seg 1 [] kr kr ?_
 refine WO_et rfl (W_seq ?_)
 refine W_draw [(13, fun w' => Inv m2 w' ∧ True)] kr st ?_
 clear st
 intro w3 _ st
 have hmS1 := m2.le_refl
 refine ⟨⟨.inr ⟨Inv.anti st.inv hmS1, trivial⟩, trivial⟩, ?_⟩
 refine WA_pure 0 5 (.pointer (some ⟨b1, 1, none⟩)) kr rfl kr (.head _) (QP_then QP_body) ?_
 refine WA_load_row (t := 9) (x := (.tmp 5)) 1 6 (.string p0.2.1) kr rfl kr (.head _) (QP_then QP_body) (fun _ h => h.1) (ev (.pointer (some ⟨b1, 1, none⟩))) (hb1.drop 1) kr ?_
 refine WA_pure 2 7 (.pointer (some ⟨b2, 1, none⟩)) kr rfl kr (.head _) (QP_then QP_body) ?_
 refine WA_load_row (t := 9) (x := (.tmp 7)) 3 8 (.string p1.2.1) kr rfl kr (.head _) (QP_then QP_body) (fun _ h => h.1) (ev (.pointer (some ⟨b2, 1, none⟩))) (hb2.drop 1) kr ?_
 refine WA_pure 5 10 (.pointer (some ⟨b1, 0, none⟩)) kr rfl kr (.head _) (QP_then QP_body) ?_
 refine WA_load_row (t := 3) (x := (.tmp 10)) 6 11 (.int .i64 p0.1) kr rfl kr (.head _) (QP_then QP_body) (fun _ h => h.1) (ev (.pointer (some ⟨b1, 0, none⟩))) hb1 kr ?_
 refine WA_pure 7 12 (.pointer (some ⟨b2, 0, none⟩)) kr rfl kr (.head _) (QP_then QP_body) ?_
 refine WA_load_row (t := 3) (x := (.tmp 12)) 8 13 (.int .i64 p1.1) kr rfl kr (.head _) (QP_then QP_body) (fun _ h => h.1) (ev (.pointer (some ⟨b2, 0, none⟩))) hb2 kr ?_
 replace ⟨y1, hx1, hr⟩ := bindS hr
 refine WA_one 4 kr  (One_fn 9 80 #[.string p0.2.1, .string p1.2.1] kr rfl ?_)
 refine (strings_Compare_ok st hx1).mono ?_
 clear st
 rintro _ w4 ⟨m3, rfl, hle3, st⟩
 refine ⟨_, rfl, ?_⟩
 have hm := Mem.le_trans hm hle3
 have hb1 := hb1.mono hle3
 have hb2 := hb2.mono hle3
 have hmS1 := Mem.le_trans hmS1 hle3
 refine ⟨⟨.inr ⟨Inv.anti st.inv hmS1, trivial⟩, trivial⟩, ?_⟩
 replace ⟨y2, hx2, hr⟩ := bindS hr
 refine WA_one 9 kr  (One_fn 14 81 #[.int .i64 p0.1, .int .i64 p1.1] kr rfl ?_)
 refine (cmp_Compare_int_ok st hx2).mono ?_
 clear st
 rintro _ w5 ⟨m4, rfl, hle4, st⟩
 refine ⟨_, rfl, ?_⟩
 have hm := Mem.le_trans hm hle4
 have hb1 := hb1.mono hle4
 have hb2 := hb2.mono hle4
 have hmS1 := Mem.le_trans hmS1 hle4
 refine ⟨⟨.inr ⟨Inv.anti st.inv hmS1, trivial⟩, trivial⟩, ?_⟩
 refine WA_one 10 kr  (One_buildSlice (d := 15) (t := 22) (e := 3) (len := 2) (parts := #[(0, (.tmp 9)), (1, (.tmp 14))]) (cInt .i64) (xs := [y1, y2]) [.int .i64 y1, .int .i64 y2] kr rfl (fun _ => buildCells_run kr _) rfl rfl st ⟨[.int .i64 y1], _, rfl, rfl, ⟨[.int .i64 y2], _, rfl, rfl, rfl⟩⟩ ?_)
 clear st
 intro b3 m5 w6 hle5 st r1
 have hm := Mem.le_trans hm hle5
 have hb1 := hb1.mono hle5
 have hb2 := hb2.mono hle5
 have hmS1 := Mem.le_trans hmS1 hle5
 refine ⟨⟨.inr ⟨Inv.anti st.inv hmS1, trivial⟩, trivial⟩, ?_⟩
 replace ⟨y3, hx3, hr⟩ := bindS hr
 refine WA_one 11 kr  (One_fn 16 79 #[.slice (some ⟨b3, 0, none⟩) (List.length ([y1, y2])) 2] kr rfl ?_)
 refine (cmp_Or_int_ok st r1 hx3).mono ?_
 clear st
 rintro _ w7 ⟨m6, rfl, hle6, st⟩
 refine ⟨_, rfl, ?_⟩
 have hm := Mem.le_trans hm hle6
 have hb1 := hb1.mono hle6
 have hb2 := hb2.mono hle6
 have r1 := r1.mono hle6
 have hmS1 := Mem.le_trans hmS1 hle6
 refine ⟨⟨.inr ⟨Inv.anti st.inv hmS1, trivial⟩, trivial⟩, ?_⟩
 refine WA_pure 12 4 (.int .i64 y3) kr rfl kr (.head _) (QP_then QP_body) ?_
 refine WA_done kr ?_
 have st := st.tail
 refine X_then ?_
 refine W_ret ?_
 obtain rfl := Option.some.inj hr
 refine X_ret [.tmp 4] [.int .i64 y3] rfl (ResAll.cons (ResAt.tmp kr) ResAll.nil) ?_
 exact ⟨m6, rfl, hm, st⟩
def sortLay77_ren : Go.Shelf.Ren := ⟨fun | 6 => 77 | 15 => 132 | 14 => 131 | 28 => 165 | 29 => 166 | 20 => 157 | 21 => 158 | 22 => 159 | 23 => 160 | 24 => 161 | 25 => 162 | 26 => 163 | 27 => 164 | 46 => 204 | 47 => 205 | 48 => 206 | 49 => 207 | 50 => 208 | 57 => 234 | n => n, fun | 22 => 58 | 24 => 72 | 25 => 131 | 3 => 3 | 39 => 179 | 0 => 0 | 53 => 217 | 55 => 219 | 4 => 4 | 46 => 211 | 45 => 210 | 50 => 175 | 5 => 5 | 9 => 9 | 66 => 245 | 70 => 249 | 76 => 266 | 77 => 267 | n => n, fun | n => n⟩
theorem sortLay77 : Go.Proofs.SlLaysF0.n6 Tryz.prog sortLay77_ren where
 mixed := kr
 f6 := ⟨Tryz.f77.name, kr, Tryz.func77.trans (congrArg some kr)⟩
 f14 := ⟨Tryz.f131.name, kr, Tryz.func131.trans (congrArg some kr)⟩
 f15 := Tryz.func132.trans (congrArg some kr)
 f20 := ⟨Tryz.f157.name, kr, Tryz.func157.trans (congrArg some kr)⟩
 f21 := ⟨Tryz.f158.name, kr, Tryz.func158.trans (congrArg some kr)⟩
 f22 := ⟨Tryz.f159.name, kr, Tryz.func159.trans (congrArg some kr)⟩
 f23 := ⟨Tryz.f160.name, kr, Tryz.func160.trans (congrArg some kr)⟩
 f24 := ⟨Tryz.f161.name, kr, Tryz.func161.trans (congrArg some kr)⟩
 f25 := ⟨Tryz.f162.name, kr, Tryz.func162.trans (congrArg some kr)⟩
 f26 := ⟨Tryz.f163.name, kr, Tryz.func163.trans (congrArg some kr)⟩
 f27 := ⟨Tryz.f164.name, kr, Tryz.func164.trans (congrArg some kr)⟩
 f28 := Tryz.func165.trans (congrArg some kr)
 f29 := Tryz.func166.trans (congrArg some kr)
 f46 := ⟨Tryz.f204.name, kr, Tryz.func204.trans (congrArg some kr)⟩
 f47 := Tryz.func205.trans (congrArg some kr)
 f48 := Tryz.func206.trans (congrArg some kr)
 f49 := ⟨Tryz.f207.name, kr, Tryz.func207.trans (congrArg some kr)⟩
 f50 := ⟨Tryz.f208.name, kr, Tryz.func208.trans (congrArg some kr)⟩
 f57 := ⟨Tryz.f234.name, kr, Tryz.func234.trans (congrArg some kr)⟩
 t0 := Tryz.underlying0
 a0 := Tryz.isAgg0
 z0 := Tryz.sizeOf0
 v0 := Tryz.zeroValue0
 t3 := Tryz.underlying3
 a3 := Tryz.isAgg3
 z3 := Tryz.sizeOf3
 v3 := Tryz.zeroValue3
 t4 := Tryz.underlying4
 a4 := Tryz.isAgg4
 z4 := Tryz.sizeOf4
 v4 := Tryz.zeroValue4
 t5 := Tryz.underlying5
 a5 := Tryz.isAgg5
 z5 := Tryz.sizeOf5
 v5 := Tryz.zeroValue5
 t9 := Tryz.underlying9
 a9 := Tryz.isAgg9
 z9 := Tryz.sizeOf9
 v9 := Tryz.zeroValue9
 t22 := Tryz.underlying58
 a22 := Tryz.isAgg58
 z22 := Tryz.sizeOf58
 v22 := Tryz.zeroValue58
 t25 := Tryz.underlying131
 a25 := Tryz.isAgg131
 z25 := Tryz.sizeOf131
 v25 := Tryz.zeroValue131
 t39 := Tryz.underlying179
 a39 := Tryz.isAgg179
 z39 := Tryz.sizeOf179
 v39 := Tryz.zeroValue179
 t45 := Tryz.underlying210
 a45 := Tryz.isAgg210
 z45 := Tryz.sizeOf210
 v45 := Tryz.zeroValue210
 t46 := Tryz.underlying211
 a46 := Tryz.isAgg211
 z46 := Tryz.sizeOf211
 v46 := Tryz.zeroValue211
 t50 := Tryz.underlying175
 a50 := Tryz.isAgg175
 z50 := Tryz.sizeOf175
 v50 := Tryz.zeroValue175
 t53 := Tryz.underlying217
 a53 := Tryz.isAgg217
 z53 := Tryz.sizeOf217
 v53 := Tryz.zeroValue217
 t55 := Tryz.underlying219
 a55 := Tryz.isAgg219
 z55 := Tryz.sizeOf219
 v55 := Tryz.zeroValue219
 t66 := Tryz.underlying245
 a66 := Tryz.isAgg245
 z66 := Tryz.sizeOf245
 v66 := Tryz.zeroValue245
 t70 := Tryz.underlying249
 a70 := Tryz.isAgg249
 z70 := Tryz.sizeOf249
 v70 := Tryz.zeroValue249
 t76 := Tryz.underlying266
 a76 := Tryz.isAgg266
 z76 := Tryz.sizeOf266
 v76 := Tryz.zeroValue266
 t77 := Tryz.underlying267
 a77 := Tryz.isAgg267
 z77 := Tryz.sizeOf267
 v77 := Tryz.zeroValue267
theorem cmp_CompareD_T {N : Nat} (x y : Int) : cmp_Compare_int N x y = some (cmpI x y) := by
 have h : ∀ z : Int, cmp_isNaN_int N z = some false := fun z => by simp [cmp_isNaN_int]
 simp only [cmp_Compare_int, h, Option.bind_some, cmpI]
 by_cases h1 : x < y
 ·simp [h1]
 ·by_cases h2 : x > y
  ·simp [h1, h2]
  ·simp [h1, h2]
theorem strings_CompareD_T {N : Nat} (x y : ByteArray) : strings_Compare N x y = some (cmpS x y) := by simp [strings_Compare, internal_bytealg_CompareString]
theorem cmp_OrD_T {N : Nat} (hN : 10 ≤ N) (a b : Int) : cmp_Or_int N [a, b] = some (if a ≠ 0 then a else b) := by
 obtain ⟨k, rfl⟩ : ∃ k, N = k + 3 := ⟨N - 3, by omega⟩
 have w1 : IntKind.wrap .i64 1 = 1 := by decide
 have w2 : IntKind.wrap .i64 2 = 2 := by decide
 have i0 : idx [a, b] 0 = some a := rfl
 have i1 : idx [a, b] 1 = some b := rfl
 simp only [cmp_Or_int, loopM, cmp_Or_int_L1, List.length_cons, List.length_nil, i0, Option.bind_some]
 by_cases ha : a = 0
 ·subst ha
  by_cases hb : b = 0
  ·subst hb; simp [w1, w2, i1]
  ·simp [w1, i1, hb]
 ·simp [ha]
def cmpChange (x y : Int × ByteArray × ByteArray × ByteArray) : Int := lexC cmpS cmpI (x.2.1, x.1) (y.2.1, y.1)
theorem cmpChange_swo : Go.Sort.SWO (Go.Proofs.ltOf cmpChange) := swo_pull (lexC_lin cmpS_lin cmpI_lin).swo fun x : Int × ByteArray × ByteArray × ByteArray => (x.2.1, x.1)
theorem cmpChange_anti (x y : Int × ByteArray × ByteArray × ByteArray) : cmpChange x y < 0 ↔ 0 < cmpChange y x := (lexC_lin cmpS_lin cmpI_lin).anti _ _
theorem filediff_Diff_1_T {N : Nat} (hN : 10 ≤ N) (x y : Int × ByteArray × ByteArray × ByteArray) : filediff_Diff_1 N x y = some (cmpChange x y) := by
 simp only [filediff_Diff_1, cmp_CompareD_T, strings_CompareD_T, cmp_OrD_T hN, Option.bind_some]
 rfl
def slices_SortFunc_api_Change_api_Change_S_filediff_Diff_1 (N : Nat) (l : List (Int × ByteArray × ByteArray × ByteArray)) : Option (List (Int × ByteArray × ByteArray × ByteArray)) := if 10 ≤ N ∧ l.length < 4611686018427387904 ∧ (∀ x ∈ l, ∀ y ∈ l, cmpChange x y = 0 → x = y) then some (l.mergeSort fun x y => !(Go.Proofs.ltOf cmpChange y x)) else none
theorem slices_SortFunc_api_Change_api_Change_len_filediff_Diff_1 {N : Nat} {l r : List (Int × ByteArray × ByteArray × ByteArray)} (h : slices_SortFunc_api_Change_api_Change_S_filediff_Diff_1 N l = some r) : r.length = l.length := by
 unfold slices_SortFunc_api_Change_api_Change_S_filediff_Diff_1 at h
 split at h
 ·simp only [Option.some.injEq] at h; subst h; simp
 ·cases h
theorem slices_SortFunc_api_Change_api_Change_own_filediff_Diff_1 {N : Nat} {m : Mem} {own : List Piece} {w : World} {a : Option Addr} {nn cc : Nat} {T : List Value} {l r : List (Int × ByteArray × ByteArray × ByteArray)} {e : TypeId} (st : St m (opc a (acellsM (fun x : Int × ByteArray × ByteArray × ByteArray => ([.int .i64 x.1, .string x.2.1, .string x.2.2.1, .string x.2.2.2] : List Value)) l T) e :: own) w) (hs : OAS a nn cc 4 T) (hn : List.length l = nn) (h : slices_SortFunc_api_Change_api_Change_S_filediff_Diff_1 N l = some r) :
  Calls Tryz.prog 77 #[.slice a nn cc, .func (.func 78) #[] #[]] w fun e' w' => e' = .returned (.tuple #[]) ∧ St m (opc a (acellsM (fun x : Int × ByteArray × ByteArray × ByteArray => ([.int .i64 x.1, .string x.2.1, .string x.2.2.1, .string x.2.2.2] : List Value)) r T) e :: own) w' := by
 unfold slices_SortFunc_api_Change_api_Change_S_filediff_Diff_1 at h
 split at h
 ·rename_i hb
  obtain ⟨hN, hlen, hties⟩ := hb
  simp only [Option.some.injEq] at h; subst h; subst hn
  exact Calls_sortKL (f := (fun x : Int × ByteArray × ByteArray × ByteArray => ([.int .i64 x.1, .string x.2.1, .string x.2.2.1, .string x.2.2.2] : List Value))) (k := 4) sortLay77 Tryz.isAgg72 Tryz.sizeOf72 (fun _ => rfl) (fun _ _ hv => by simp only [List.mem_cons, List.not_mem_nil, or_false] at hv; rcases hv with rfl | rfl | rfl | rfl <;> rfl) cmpChange cmpChange_swo 78 (enters_of Tryz.func78 kr rfl) (fun x y W => by
   refine (filediff_Diff_1_ok (snap_st W) (filediff_Diff_1_T hN x y)).mono fun e' w' h => ?_
   obtain ⟨m', h1, h2, h3⟩ := h
   exact ⟨m', h1, h2, h3⟩) (fun x hx y hy h1 h2 => hties x hx y hy (by
    have a1 := cmpChange_anti y x
    simp only [Go.Proofs.ltOf, decide_eq_false_iff_not] at h1 h2
    have a2 := cmpChange_anti x y
    omega)) st hs hlen
 ·cases h
end Go.Proofs.YtgggihpbhmbjaaaGreatDoor
