/- No condition but those of each theorem. -/
import Derived.Test.YtiblcebedkllpaaDoorProg
import Derived.WalkKit
import Derived.Deep.LoopGhost
import Derived.KernelRfl
import Derived.OrdersHeld
import Derived.OrdersIn
import Derived.LoopNIn
import Derived.Sort.LoopGhostIn
import Derived.Laws.AppendOwn
import Derived.RangeFuncLeaves
import Derived.RangeFuncRecord
import Derived.MapKept
import Derived.Maps.RangeRun
import Derived.ChangeKeysEq
import Derived.HandedShaped
import Derived.ChangeStays
import Derived.ChangeSame
import Derived.OpenShut
import Derived.WideShapes
import Derived.JoinedOf
import Derived.ReadAgain
import Derived.ChangeAt
import Derived.RowKit
import Derived.Lib.Overlaps
import Derived.WalkSmall
import Derived.Recover
import Derived.Lib.Bytealg
import Derived.Test.YtiblcebedkllpaaDoorK3d3
namespace Go.Proofs.YtiblcebedkllpaaDoor
section
open Go Go.Dc
set_option maxHeartbeats 4000000
set_option maxRecDepth 100000
variable {N c1 bp0 c2 c3 c4 : Nat} {m : Mem} {O : List Piece} {w : World} {a1 a2 a3 a4 : Option Addr}
def qHr (N : Nat) (x1 : Tf) (y3 : T1l × To) (s2 : Int × T1r) : Option (Int × T1r ⊕ T1r) :=
 if (decide (s2.1 < (List.length y3.1.2.2 : Int))) = true then ((idx y3.1.2.2 s2.1).bind fun x2 => ((qLy N x2.1 y3.1.1 x2.2.1).bind fun y4 => (if ((qAl s2.2 y4).isSome) = true then (some (((qAl s2.2 y4).getD ((⟨#[]⟩ : ByteArray), (⟨#[]⟩ : ByteArray), 0, (⟨#[]⟩ : ByteArray), 0, 0)).1, ((qAl s2.2 y4).getD ((⟨#[]⟩ : ByteArray), (⟨#[]⟩ : ByteArray), 0, (⟨#[]⟩ : ByteArray), 0, 0)).2.1, ((qAl s2.2 y4).getD ((⟨#[]⟩ : ByteArray), (⟨#[]⟩ : ByteArray), 0, (⟨#[]⟩ : ByteArray), 0, 0)).2.2.1, ((qAl s2.2 y4).getD ((⟨#[]⟩ : ByteArray), (⟨#[]⟩ : ByteArray), 0, (⟨#[]⟩ : ByteArray), 0, 0)).2.2.2.1, ((qAl s2.2 y4).getD ((⟨#[]⟩ : ByteArray), (⟨#[]⟩ : ByteArray), 0, (⟨#[]⟩ : ByteArray), 0, 0)).2.2.2.2.1, IntKind.wrap .i64 ((((qAl s2.2 y4).getD ((⟨#[]⟩ : ByteArray), (⟨#[]⟩ : ByteArray), 0, (⟨#[]⟩ : ByteArray), 0, 0)).2.2.2.2.2) + 1))) else (some (y3.1.1, x2.2.1, x2.1, x1.1, s2.1, 1)) : Option T1q).bind fun o6 => (qIb s2.2 y4 o6).bind fun mp2 => some mp2 : Option T1r).bind fun o5 => some (.inl (IntKind.wrap .i64 (s2.1 + 1), o5))) else (some (.inr s2.2))
def qHp (N : Nat) (p0 : Tg) (s1 : Int × T1t) : Option (Int × T1t ⊕ T1t) :=
 if (decide (s1.1 < (List.length p0 : Int))) = true then (((idx p0 s1.1).bind fun x1 => (qGw N x1.1).bind fun y2 => if (!y2) = true then (some s1.2) else ((qJv N x1.2).bind fun y3 => if (y3.2.2 != 0) = true then ((qEb 16 s1.2.1 ([x1.1])).bind fun l1 => some (l1, s1.2.2.1, s1.2.2.2)) else ((qIb s1.2.2.1 x1.1 y3.1).bind fun mp1 => (qBe (qHr N x1 y3) N (0, s1.2.2.2)).bind fun o4 => some (s1.2.1, mp1, o4))) : Option T1t).bind fun o3 => some (.inl (IntKind.wrap .i64 (s1.1 + 1), o3.1, o3.2.1, o3.2.2))) else (some (.inr s1.2))
def qLx (N : Nat) (p0 : Tg) : Option T1u :=
 ((qJs N p0).bind fun y1 => some (y1 == 0) : T9).bind fun o1 => if (!o1) = true then (some (p0, o1, (some [] : Option (List T1s)), ([] : T2), (some [] : T1r))) else ((qBe (qHp N p0) N (0, ([] : T2), (some [] : Option (List T1s)), (some [] : T1r))).bind fun o2 => some (p0, o1, o2.2.1, o2.1, o2.2.2))
theorem qPw {p0 : Tg} {r : T1u} (g : St m (O) w) (r1 : RepS C1 m a1 c1 p0) (i : qLx N p0 = some r) : Calls Tryd.prog 25 #[.agg #[vS a1 p0 c1]] w fun e w' => ∃ rb ra1 rc1, ∃ (rq2 : Ts), ∃ re2 rk2 ra3 rc3, ∃ (rq4 : Ts), ∃ re4 rk4 m', e = .returned (vP rb 0) ∧ m.le m' ∧ St m' (qBc rq2 re2 rk2 :: qBc rq4 re4 rk4 :: kB rb #[vS ra1 r.1 rc1, vB r.2.1, .map rq2, vS ra3 r.2.2.2.1 rc3, .map rq4] 66 :: O) w' ∧ RepS C1 m' ra1 rc1 r.1 ∧ MapQ (fun s : ByteArray => Value.string s) C6 true m' rq2 re2 rk2 r.2.2.1 ∧ RepS cStr m' ra3 rc3 r.2.2.2.1 ∧ MapQ qHt C7 true m' rq4 re4 rk4 r.2.2.2.2 := by
 unfold qLx at i;have q := m.le_refl;refine W_cA Tryd.func25 rfl Tryd.ntmps25 ?_;refine W_sr (qAb rfl (qIw 1 28 0 (.agg #[vS a1 p0 c1]) g fun b1 m1 w1 e1 g hb1 => ?_));have q := q.t e1;have r1 := r1.mono e1;refine qAa 1 [] (WO_e (qAq ?_));have ⟨o1, i, J⟩ := qAx i;refine qCf .normal (fun L' w' => ∃ b2 b3 b4 m2, L' = [(1, vP b1 0), (3, vP b4 0)] ∧ m.le m2 ∧ St m2 (kB b4 #[vS a1 p0 c1, vB o1, .map (some b2), vS none ([] : T2) 0, .map (some b3)] 66 :: qBc (some b2) #[] 0 :: qBc (some b3) #[] 0 :: O) w' ∧ MRow m2 b1 0 [vS a1 p0 c1] ∧ RepS C1 m2 a1 c1 p0) ?_ ?_
 ·have i := J;rintro _ w2 ⟨b2, b3, b4, m2, rfl, q, g, hb1, r1⟩;refine qAf (qAq (W_sr (qAa 3 [(21, vP b4 1)] (qAb rfl (qAk 22 4 21 1 (vB o1) g.h (qAa 1 [(23, vB (!o1))] (WO_e (W_if i ?_ ?_))))))))
  ·intro A i;refine W_sr (qAa 2 [(2, vP b4 0)] (WO_e (qAz (qAc ?_))));cases i;exact X_rt [2] [vP b4 0] ⟨b4, a1, c1, (some b2), #[], 0, none, 0, (some b3), #[], 0, m2, rfl, q, g.f2.f2, r1, (MapQ.new (fun s : ByteArray => Value.string s) C6 true _ _), (RepS.nil _ _), (MapQ.new qHt C7 true _ _)⟩
  ·intro A i;refine qAo (qAf (qAq (W_sr (qAa 1 [(25, vP b1 0)] (qFd 26 26 25 0 (vS a1 p0 c1) g hb1 (qAa 2 [(27, vI (p0.length : Int)), (28, vI 0)] (WO_e (qAy ?_))))))));have ⟨out1, i, j1⟩ := qAx i;refine qCf (.exit 0) (fun L' w' => ∃ (o2 : T1t), ∃ a2 c2 es1 ck1 es2 ck2 m5, o2 = out1 ∧ L' = [(3, vP b4 0)] ∧ m.le m5 ∧ St m5 (kB b4 #[vS a1 p0 c1, vB o1, .map (some b2), vS a2 o2.1 c2, .map (some b3)] 66 :: qBc (some b2) es1 ck1 :: qBc (some b3) es2 ck2 :: kR a2 o2.1 c2 9 1 :: O) w' ∧ RepS C1 m5 a1 c1 p0 ∧ RepS cStr m5 a2 c2 o2.1 ∧ MapQ (fun s : ByteArray => Value.string s) C6 true m5 (some b2) es1 ck1 o2.2.1 ∧ MapQ qHt C7 true m5 (some b3) es2 ck2 o2.2.2) ?_ ?_
   ·rintro _ w8 ⟨o2, a2, c2, es1, ck1, es2, ck2, m5, rfl, rfl, q, g, r1, r2, r3, r4⟩;have i := j1;refine qBj (qAf (W_sr (qAa 2 [(2, vP b4 0)] (WO_e (qAz ?_)))));cases i;exact X_rt [2] [vP b4 0] ⟨b4, a1, c1, (some b2), es1, ck1, a2, c2, (some b3), es2, ck2, m5, rfl, q, g.f3.t.f2.f2, r1, r3, r2, r4⟩
   intro K0_u1;have g := (g.nilroom 9 1).front3.front3.front3;refine qHn _ kr (qEm (fun k1 L' w' => ∃ (s1 : Int × T1t), ∃ a3 c3 es3 ck3 es4 ck4 m6, qBe (qHp N p0) k1 s1 = some out1 ∧ L' = [(3, vP b4 0), (26, vS a1 p0 c1), (27, vI (p0.length : Int)), (28, vI s1.1)] ∧ m.le m6 ∧ St m6 (kB b4 #[vS a1 p0 c1, vB o1, .map (some b2), vS a3 s1.2.1 c3, .map (some b3)] 66 :: qBc (some b2) es3 ck3 :: qBc (some b3) es4 ck4 :: kR a3 s1.2.1 c3 9 1 :: O) w' ∧ RepS C1 m6 a1 c1 p0 ∧ RepS cStr m6 a3 c3 s1.2.1 ∧ MapQ (fun s : ByteArray => Value.string s) C6 true m6 (some b2) es3 ck3 s1.2.2.1 ∧ MapQ qHt C7 true m6 (some b3) es4 ck4 s1.2.2.2) N ⟨(0, ([] : T2), (some [] : Option (List T1s)), (some [] : T1r)), none, 0, #[], 0, #[], 0, m2, i, rfl, q, g, r1, (RepS.nil _ _), (MapQ.new (fun s : ByteArray => Value.string s) C6 true _ _), (MapQ.new qHt C7 true _ _)⟩ ?_);rintro k1 _ w9 ⟨s1, a3, c3, es3, ck3, es4, ck4, m6, hL, rfl, q, g, r1, r5, r6, r7⟩;rcases k1 with _ | k1
   ·exact qBo hL
   ·obtain ⟨qu1, i, hSu1, hBu1⟩ := qBn hL;clear hL;unfold qHp at i;refine W_sr (qAa 1 [(29, vB (decide (s1.1 < (p0.length : Int))))] (WO_e (qAq (W_if i ?_ ?_))))
    ·intro A i;refine qAo (qAf (qAq ?_));have ⟨o3, i, j2⟩ := qAx i;refine qCf .normal (fun L' w' => ∃ a4 c4 es5 ck5 es6 ck6 m7, L' = [(3, vP b4 0), (26, vS a1 p0 c1), (27, vI (p0.length : Int)), (28, vI s1.1)] ∧ m.le m7 ∧ St m7 (kB b4 #[vS a1 p0 c1, vB o1, .map (some b2), vS a4 o3.1 c4, .map (some b3)] 66 :: qBc (some b2) es5 ck5 :: qBc (some b3) es6 ck6 :: kR a4 o3.1 c4 9 1 :: O) w' ∧ RepS C1 m7 a1 c1 p0 ∧ RepS cStr m7 a4 c4 o3.1 ∧ MapQ (fun s : ByteArray => Value.string s) C6 true m7 (some b2) es5 ck5 o3.2.1 ∧ MapQ qHt C7 true m7 (some b3) es6 ck6 o3.2.2) ?_ ?_
     ·have i := j2;rintro _ w10 ⟨a4, c4, es5, ck5, es6, ck6, m7, rfl, q, g, r1, r8, r9, r10⟩;refine qAf (qAp (qAa 2 [(28, vI (wr (s1.1 + 1)))] (qAs rfl ?_)));obtain rfl := sI i;have hL := hSu1 _ rfl;exact xE (qCm k1 (jE _) ⟨(wr (s1.1 + 1), o3.1, o3.2.1, o3.2.2), a4, c4, es5, ck5, es6, ck6, m7, hL, rfl, q, g.f3.f3.f3.f3, r1, r8, r9, r10⟩)
     ·intro Ku2;refine qAy (W_sr (qAb rfl (qGj 30 26 55 26 28 r1 i ?_)));rintro x1 i b8 f1 cs1 ⟨_, _, rfl, rfl, rfl⟩ hq1;refine qFd 31 55 30 f1 (.agg (V2 x1)) g hq1 (qAb rfl (qBy 5 55 (.agg #[vT eB, vT eB]) g fun b9 w11 g => (qAb rfl (qBa 55 5 31 (.agg (V2 x1)) g fun w12 g => (WO_e (qAq (W_sr (qAa 1 [(32, vP b9 0)] (qAb rfl (qAk 33 9 32 0 (vT x1.1) g.h (qAr 34 i (fun _ h => qNy g h) ?_)))))))))));rintro y2 i _ w13 ⟨m8, rfl, e4, g⟩;have q := q.t e4;have r1 := r1.mono e4;have r5 := r5.mono e4;have r6 := r6.mono e4;have r7 := r7.mono e4;refine qAa 1 [(35, vB (!y2))] (WO_e (W_if i ?_ ?_))
      ·intro A i;refine qDl (qAj (qBj ?_));cases i;exact xE (Ku2 _ _ ⟨a3, c3, es3, ck3, es4, ck4, m8, rfl, q, g.t.f3.f3.f3.f3, r1, r5, r6, r7⟩)
      ·intro A i;refine qAo (qAf (W_sr (qAa 1 [(37, vP b9 1)] (qAb rfl (qAk 38 9 37 1 (vT x1.2) g.h (qAr 39 i (fun _ h => qRd g h) ?_))))));rintro y3 i _ w14 ⟨a5, c5, a6, c6, m9, rfl, e5, g, r11, r12⟩;refine qAa 4 [(40, .agg (V9 y3.1 a5 c5 a6 c6)), (41, vI y3.2.1), (42, vI y3.2.2)] (qAb rfl (qBy 6 45 (.agg #[vT eB, .slice none 0 0, .slice none 0 0]) g fun b10 w15 g => (qAb rfl (qBa 45 6 40 (.agg (V9 y3.1 a5 c5 a6 c6)) g fun w16 g => (qAa 2 [(8, vI y3.2.2)] (WO_e (qAq (W_sr (qAa 2 [(44, vB (y3.2.2 != 0))] (WO_e (W_if i ?_ ?_)))))))))))
       ·intro A i;refine qAq (qEn [(12, fun w' => Inv m9 w' ∧ Piece.holds m9 w' (kB b9 (V2 x1) 55) ∧ True), (11, fun w' => Inv m9 w' ∧ Piece.holds m9 w' (kB b4 #[vS a1 p0 c1, vB o1, .map (some b2), vS a3 s1.2.1 c3, .map (some b3)] 66) ∧ True)] kr g fun w17 _ g => ?_);have hmS2 := m9.le_refl;refine ⟨⟨.inr ⟨Inv.anti g.inv hmS2, Piece.holds_anti g.t.t.t.h hmS2, trivial⟩, ⟨.inr ⟨Inv.anti g.inv hmS2, Piece.holds_anti g.t.t.t.t.h hmS2, trivial⟩, trivial⟩⟩, ?_⟩;refine qAv 0 45 (vP b4 0) (.head _) (qAv 1 46 (vP b4 0) (.head _) (qAv 2 47 (vP b4 0) (.head _) (qAv 3 48 (vP b4 3) (.head _) (qEq 31 48 4 49 3 (vS a3 s1.2.1 c3) (.tail _ (.head _)) (fun _ h => h.2.1) (qAv 5 50 (vP b9 0) (.head _) (qEq 9 50 6 51 0 (vT x1.1) (.head _) (fun _ h => h.2.1) (qBs 7 kr  (qAn (d := 52) (t := 31) (e := 9) (len := 1) (parts := #[(0, (.tmp 51))]) cStr (xs := [x1.1]) [vT x1.1] kr rfl (fun _ => qAm kr _) rfl rfl g ⟨[vT x1.1], _, rfl, rfl, rfl⟩ fun b11 m10 w18 e6 g r13 => ?_))))))));have hmS2 := Mem.le_trans hmS2 e6;refine ⟨⟨.inr ⟨Inv.anti g.inv hmS2, Piece.holds_anti g.t.t.t.t.h hmS2, trivial⟩, ⟨.inr ⟨Inv.anti g.inv hmS2, Piece.holds_anti g.t.t.t.t.t.h hmS2, trivial⟩, trivial⟩⟩, ?_⟩;refine qBs 8 kr  (qFy 53 31 31 9 16 49 52 g.f8 (.inl kr) ((r5.mono e5).mono e6) r13.src i fun l1 i a7 c7 m11 w19 e7 g r14 => ?_);have hmS2 := Mem.le_trans hmS2 e7
        refine ⟨⟨.inr ⟨Inv.anti g.inv hmS2, Piece.holds_anti g.t.t.t.t.t.h hmS2, trivial⟩, ⟨.inr ⟨Inv.anti g.inv hmS2, Piece.holds_anti g.t.t.t.t.t.t.h hmS2, trivial⟩, trivial⟩⟩, ?_⟩;refine qAv 9 54 (vP b4 0) (.head _) (qAv 10 55 (vP b4 3) (.head _) (qBs 11 kr  (qHq 31 55 53 3 (vS a7 l1 c7) #[vS a1 p0 c1, vB o1, .map (some b2), vS a7 l1 c7, .map (some b3)] g.f6 fun w20 g => (⟨⟨.inr ⟨Inv.anti g.inv hmS2, Piece.holds_anti g.t.t.t.t.t.t.h hmS2, trivial⟩, ⟨.inl rfl, trivial⟩⟩, ?_⟩))));refine qCc kr ?_;have g := g.f2.t;refine qAf (qDl (qAj (qBj ?_)));cases i;exact xE (Ku2 _ _ ⟨a7, c7, es3, ck3, es4, ck4, m11, rfl, ((q.t e5).t e6).t e7, g.f2.t.f2.t.f2.t.f2.t.f1.f3.f3.f3, ((r1.mono e5).mono e6).mono e7, r14, ((r6.mono e5).mono e6).mono e7, ((r7.mono e5).mono e6).mono e7⟩)
       ·intro A i;refine qAo (qAf (qAq (qEn [(8, fun w' => Inv m9 w' ∧ Piece.holds m9 w' (kB b10 (V9 y3.1 a5 c5 a6 c6) 45) ∧ Piece.holds m9 w' (kB b9 (V2 x1) 55) ∧ Piece.holds m9 w' (kB b4 #[vS a1 p0 c1, vB o1, .map (some b2), vS a3 s1.2.1 c3, .map (some b3)] 66) ∧ True)] kr g fun w21 _ g => ?_)));have hmS3 := m9.le_refl;refine ⟨⟨.inr ⟨Inv.anti g.inv hmS3, Piece.holds_anti g.h hmS3, Piece.holds_anti g.t.t.t.h hmS3, Piece.holds_anti g.t.t.t.t.h hmS3, trivial⟩, trivial⟩, ?_⟩;refine qAv 0 56 (vP b4 0) (.head _) (qAv 1 57 (vP b4 0) (.head _) (qAv 2 58 (vP b4 2) (.head _) (qEq 63 58 3 59 2 (.map (some b2)) (.head _) (fun _ h => h.2.2.2.1) (qAv 4 60 (vP b9 0) (.head _) (qEq 9 60 5 61 0 (vT x1.1) (.head _) (fun _ h => h.2.2.1) (qEq 45 6 6 62 0 (.agg (V9 y3.1 a5 c5 a6 c6)) (.head _) (fun _ h => h.2.1) ?_))))));have g := g.f5;have ⟨mp1, d6, i⟩ := qAx i
        refine qBs 7 kr  (qKk (ek := (fun s : ByteArray => Value.string s)) (c := C6) (agg := true) (k := x1.1) (yv := y3.1) (cs := [vT y3.1.1, vS a5 y3.1.2.1 c5, vS a6 y3.1.2.2 c6]) (z := (.agg #[vT eB, vS none ([] : T2) 0, vS none ([] : T1g) 0])) (v := (.agg (V9 y3.1 a5 c5 a6 c6))) (kt := 9) (et := 45) (t := 63) (x := (.tmp 59)) (y := (.tmp 61)) (u := (.tmp 62)) kr (ev (.map (some b2))) (ev (vT x1.1)) (ev (.agg (V9 y3.1 a5 c5 a6 c6))) kr (qWq kr) g (r6.mono e5) ⟨_, _, rfl, rfl, ⟨_, _, rfl, (qVh r11), (qVh r12)⟩⟩ rfl d6 fun es7 ck7 w22 g r15 => (⟨⟨.inr ⟨Inv.anti g.inv hmS3, Piece.holds_anti g.t.h hmS3, Piece.holds_anti g.t.t.t.t.h hmS3, Piece.holds_anti g.t.t.t.t.t.h hmS3, trivial⟩, trivial⟩, ?_⟩));refine qCc kr ?_;refine qAf (W_sr (qAa 1 [(63, vP b10 2)] (qAb rfl (qAk 64 43 63 2 (vS a6 y3.1.2.2 c6) g.t.h (qAa 2 [(65, vI (y3.1.2.2.length : Int)), (66, vI 0)] (WO_e (qAy ?_)))))));have ⟨out2, i, j3⟩ := qAx i
        refine qCf (.exit 2) (fun L' w' => ∃ (o4 : T1r), ∃ es8 ck8 m12, o4 = out2 ∧ L' = [(3, vP b4 0), (26, vS a1 p0 c1), (27, vI (p0.length : Int)), (28, vI s1.1)] ∧ m.le m12 ∧ St m12 (kB b10 (V9 y3.1 a5 c5 a6 c6) 45 :: kB b9 (V2 x1) 55 :: kB b4 #[vS a1 p0 c1, vB o1, .map (some b2), vS a3 s1.2.1 c3, .map (some b3)] 66 :: qBc (some b2) es7 ck7 :: qBc (some b3) es8 ck8 :: kR a5 y3.1.2.1 c5 9 1 :: kR a6 y3.1.2.2 c6 85 4 :: kR a3 s1.2.1 c3 9 1 :: O) w' ∧ RepS C1 m12 a1 c1 p0 ∧ RepS cStr m12 a5 c5 y3.1.2.1 ∧ RepS C5 m12 a6 c6 y3.1.2.2 ∧ RepS cStr m12 a3 c3 s1.2.1 ∧ MapQ (fun s : ByteArray => Value.string s) C6 true m12 (some b2) es7 ck7 mp1 ∧ MapQ qHt C7 true m12 (some b3) es8 ck8 o4) ?_ ?_
        ·rintro _ w23 ⟨o4, es8, ck8, m12, rfl, rfl, q, g, r1, r11, r12, r5, r15, r16⟩;have i := j3;refine qBj (qBi ?_);cases i;exact xE (Ku2 _ _ ⟨a3, c3, es7, ck7, es8, ck8, m12, rfl, q, g.t.t.f3.t.f3.t.f3.f3.f3.f3, r1, r5, r15, r16⟩)
        intro K2_u3;refine qHn _ kr (qEm (fun k2 L' w' => ∃ (s2 : Int × T1r), ∃ es9 ck9 m13, qBe (qHr N x1 y3) k2 s2 = some out2 ∧ L' = [(3, vP b4 0), (5, vP b9 0), (6, vP b10 0), (26, vS a1 p0 c1), (27, vI (p0.length : Int)), (28, vI s1.1), (64, vS a6 y3.1.2.2 c6), (65, vI (y3.1.2.2.length : Int)), (66, vI s2.1)] ∧ m.le m13 ∧ St m13 (kB b10 (V9 y3.1 a5 c5 a6 c6) 45 :: kB b9 (V2 x1) 55 :: kB b4 #[vS a1 p0 c1, vB o1, .map (some b2), vS a3 s1.2.1 c3, .map (some b3)] 66 :: qBc (some b2) es7 ck7 :: qBc (some b3) es9 ck9 :: kR a5 y3.1.2.1 c5 9 1 :: kR a6 y3.1.2.2 c6 85 4 :: kR a3 s1.2.1 c3 9 1 :: O) w' ∧ RepS C1 m13 a1 c1 p0 ∧ RepS C5 m13 a6 c6 y3.1.2.2 ∧ RepS cStr m13 a5 c5 y3.1.2.1 ∧ RepS cStr m13 a3 c3 s1.2.1 ∧ MapQ (fun s : ByteArray => Value.string s) C6 true m13 (some b2) es7 ck7 mp1 ∧ MapQ qHt C7 true m13 (some b3) es9 ck9 s2.2) N ⟨(0, s1.2.2.2), es4, ck4, m9, i, rfl, q.t e5, g.f7.f4.f4.f7.f4.f7.f7.f7, r1.mono e5, r12, r11, r5.mono e5, r15, r7.mono e5⟩ ?_);rintro k2 _ w24 ⟨s2, es9, ck9, m13, hL, rfl, q, g, r1, r12, r11, r5, r15, r17⟩;rcases k2 with _ | k2
        ·exact qBo hL
        ·obtain ⟨qu3, i, hSu3, hBu3⟩ := qBn hL;clear hL;unfold qHr at i;refine W_sr (qAa 1 [(67, vB (decide (s2.1 < (y3.1.2.2.length : Int))))] (WO_e (qAq (W_if i ?_ ?_))))
         ·intro A i;refine qAo (qAf (qAq (qAy (W_sr (qAa 1 [(68, vI s2.1)] (qAb rfl (qGj 69 43 85 64 66 r12 i ?_)))))));rintro x2 i b12 f2 cs2 ⟨_, _, rfl, rfl, ⟨_, _, rfl, rfl, ⟨_, _, rfl, ⟨a8, c8, rfl, r18⟩, ⟨a9, c9, rfl, r19⟩⟩⟩⟩ hq2;refine qFd 70 85 69 f2 (.agg (V8 x2 a8 c8 a9 c9)) g hq2 (qAb rfl (qBy 10 85 (.agg #[vI 0, vT eB, .slice none 0 0, .slice none 0 0]) g fun b13 w25 g => (qAa 1 [(9, vI s2.1)] (qAb rfl (qBa 85 10 70 (.agg (V8 x2 a8 c8 a9 c9)) g fun w26 g => (WO_e (qAp (qAa 2 [(71, vP b4 0), (72, vP b10 0)] (qAb rfl (qAk 73 9 72 0 (vT y3.1.1) g.t.h (qAa 1 [(74, vP b13 1)] (qAb rfl (qAk 75 9 74 1 (vT x2.2.1) g.h (qAa 1 [(76, vP b13 0)] (qAb rfl (qAk 77 3 76 0 (vI x2.1) g.h (qAa 1 [(78, vP b9 0)] (qAb rfl (qAk 79 9 78 0 (vT x1.1) g.t.t.h (qAa 2 [(81, .agg (Vb y3.1.1 x2.2.1 x2.1 x1.1 s2.1 1))] ?_))))))))))))))))))));have ⟨o5, i, j4⟩ := qAx i
          refine qAb rfl (qJl 82 42 #[vP b4 0, .agg (Vb y3.1.1 x2.2.1 x2.1 x1.1 s2.1 1)] kr rfl (qRb (fun v' w' => ∃ es10 ck10 m14, v' = (.tuple #[]) ∧ m.le m14 ∧ St m14 (kB b13 (V8 x2 a8 c8 a9 c9) 85 :: kB b10 (V9 y3.1 a5 c5 a6 c6) 45 :: kB b9 (V2 x1) 55 :: kB b4 #[vS a1 p0 c1, vB o1, .map (some b2), vS a3 s1.2.1 c3, .map (some b3)] 66 :: qBc (some b2) es7 ck7 :: qBc (some b3) es10 ck10 :: kR a5 y3.1.2.1 c5 9 1 :: kR a6 y3.1.2.2 c6 85 4 :: kR a3 s1.2.1 c3 9 1 :: O) w' ∧ RepS C1 m14 a1 c1 p0 ∧ RepS C5 m14 a6 c6 y3.1.2.2 ∧ RepS cStr m14 a8 c8 x2.2.2.1 ∧ RepS C4 m14 a9 c9 x2.2.2.2 ∧ RepS cStr m14 a5 c5 y3.1.2.1 ∧ RepS cStr m14 a3 c3 s1.2.1 ∧ MapQ (fun s : ByteArray => Value.string s) C6 true m14 (some b2) es7 ck7 mp1 ∧ MapQ qHt C7 true m14 (some b3) es10 ck10 o5) ?_ ?_))
          ·have i := j4;rintro _ w27 ⟨es10, ck10, m14, rfl, q, g, r1, r12, r18, r19, r11, r5, r15, r20⟩;refine ⟨_, rfl, ?_⟩;refine qAs rfl (qBi (qAf (qAp (qAa 2 [(66, vI (wr (s2.1 + 1)))] (qAs rfl ?_)))));obtain rfl := sI i;have hL := hSu3 _ rfl;exact xE (qCm k2 (jE _) ⟨(wr (s2.1 + 1), o5), es10, ck10, m14, hL, rfl, q, g.t.f7.f7.f7.f7.f7.f7.f7.f7, r1, r12, r11, r5, r15, r20⟩)
          ·refine W_cA Tryd.func42 rfl Tryd.ntmps42 ?_;refine W_sr (qAb rfl (qLr 3 37 1 (.agg (Vb y3.1.1 x2.2.1 x2.1 x1.1 s2.1 1)) g fun b14 w28 g => (WO_e (W_sr (qAa 1 [(7, vP b14 2)] (qAb rfl (qAk 8 3 7 2 (vI x2.1) g.h (qAa 1 [(9, vP b14 0)] (qAb rfl (qAk 10 9 9 0 (vT y3.1.1) g.h (qAa 1 [(11, vP b14 1)] (qAb rfl (qAk 12 9 11 1 (vT x2.2.1) g.h (qAr 13 i (fun _ h => qQh g h) ?_))))))))))))));rintro y4 i _ w29 ⟨m16, rfl, e9, g⟩;have q := q.t e9;have r1 := r1.mono e9;have r12 := r12.mono e9;have r18 := r18.mono e9;have r19 := r19.mono e9;have r11 := r11.mono e9;have r5 := r5.mono e9;have r15 := r15.mono e9;have r17 := r17.mono e9;refine qAb rfl (qBy 4 130 (.agg #[vI 0, vT eB, vT eB]) g fun b15 w30 g => (qAb rfl (qBa 130 4 13 (.agg (Va y4)) g fun w31 g => (WO_e (qAq (qAq (qEn [(12, fun w' => Inv m16 w' ∧ Piece.holds m16 w' (kB b15 (Va y4) 130) ∧ Piece.holds m16 w' (kB b4 #[vS a1 p0 c1, vB o1, .map (some b2), vS a3 s1.2.1 c3, .map (some b3)] 66) ∧ True)] kr g fun w32 _ g => ?_)))))));have hmS4 := m16.le_refl;refine ⟨⟨.inr ⟨Inv.anti g.inv hmS4, Piece.holds_anti g.h hmS4, Piece.holds_anti g.t.t.t.t.t.h hmS4, trivial⟩, trivial⟩, ?_⟩;refine qAv 0 15 (vP b4 0) (.head _) (qAv 1 16 (vP b4 0) (.head _) (qAv 2 17 (vP b4 4) (.head _) (qEq 64 17 3 18 4 (.map (some b3)) (.head _) (fun _ h => h.2.2.1) (qEq 130 4 4 19 0 (.agg (Va y4)) (.head _) (fun _ h => h.2.1) (qOq [5, 9] kr (by simp) (qPh ?_ ?_))))))
           ·refine qHv (ek := qHt) (c := C7) (agg := true) (k := y4) (zx := (eB, eB, 0, eB, 0, 0)) (zcs := [vT eB, vT eB, vI 0, vT eB, vI 0, vI 0]) (z := (.agg (Vb eB eB 0 eB 0 0))) (kt := 130) (et := 37) (d := 20) (t := 64) (x := (.tmp 18)) (y := (.tmp 19)) (ok := true) kr rfl (ev (.map (some b3))) (ev (.agg (Va y4))) kr (qSs kr kr (fun _ _ => kr) (fun _ _ => kr)) g.t.t.t.t.t.t.t.h r17 ⟨_, _, rfl, rfl, ⟨_, _, rfl, rfl, ⟨_, _, rfl, rfl, ⟨_, _, rfl, rfl, ⟨_, _, rfl, rfl, rfl⟩⟩⟩⟩⟩ rfl ?_;rintro cs3 ⟨_, _, rfl, rfl, ⟨_, _, rfl, rfl, ⟨_, _, rfl, rfl, ⟨_, _, rfl, rfl, ⟨_, _, rfl, rfl, rfl⟩⟩⟩⟩⟩;refine ⟨⟨.inr ⟨Inv.anti g.inv hmS4, Piece.holds_anti g.h hmS4, Piece.holds_anti g.t.t.t.t.t.h hmS4, trivial⟩, trivial⟩, ?_⟩
            refine qAv 6 14 (.tuple #[.agg (Vb (((qAl s2.2 y4).getD (eB, eB, 0, eB, 0, 0)).1) (((qAl s2.2 y4).getD (eB, eB, 0, eB, 0, 0)).2.1) (((qAl s2.2 y4).getD (eB, eB, 0, eB, 0, 0)).2.2.1) (((qAl s2.2 y4).getD (eB, eB, 0, eB, 0, 0)).2.2.2.1) (((qAl s2.2 y4).getD (eB, eB, 0, eB, 0, 0)).2.2.2.2.1) (((qAl s2.2 y4).getD (eB, eB, 0, eB, 0, 0)).2.2.2.2.2)), vB ((qAl s2.2 y4).isSome)]) (.head _) (qAv 7 21 (.agg (Vb (((qAl s2.2 y4).getD (eB, eB, 0, eB, 0, 0)).1) (((qAl s2.2 y4).getD (eB, eB, 0, eB, 0, 0)).2.1) (((qAl s2.2 y4).getD (eB, eB, 0, eB, 0, 0)).2.2.1) (((qAl s2.2 y4).getD (eB, eB, 0, eB, 0, 0)).2.2.2.1) (((qAl s2.2 y4).getD (eB, eB, 0, eB, 0, 0)).2.2.2.2.1) (((qAl s2.2 y4).getD (eB, eB, 0, eB, 0, 0)).2.2.2.2.2))) (.head _) (qAv 8 22 (vB ((qAl s2.2 y4).isSome)) (.head _) (qBs 9 kr  (qBy 5 37 (.agg (Vb eB eB 0 eB 0 0)) g fun b16 w33 g => (⟨⟨.inr ⟨Inv.anti g.inv hmS4, Piece.holds_anti g.t.h hmS4, Piece.holds_anti g.t.t.t.t.t.t.h hmS4, trivial⟩, trivial⟩, ?_⟩)))))
            refine qBs 10 kr  (qBa 37 5 21 (.agg (Vb (((qAl s2.2 y4).getD (eB, eB, 0, eB, 0, 0)).1) (((qAl s2.2 y4).getD (eB, eB, 0, eB, 0, 0)).2.1) (((qAl s2.2 y4).getD (eB, eB, 0, eB, 0, 0)).2.2.1) (((qAl s2.2 y4).getD (eB, eB, 0, eB, 0, 0)).2.2.2.1) (((qAl s2.2 y4).getD (eB, eB, 0, eB, 0, 0)).2.2.2.2.1) (((qAl s2.2 y4).getD (eB, eB, 0, eB, 0, 0)).2.2.2.2.2))) g fun w34 g => (⟨⟨.inr ⟨Inv.anti g.inv hmS4, Piece.holds_anti g.t.h hmS4, Piece.holds_anti g.t.t.t.t.t.t.h hmS4, trivial⟩, trivial⟩, ?_⟩));refine qAv 11 6 (vB ((qAl s2.2 y4).isSome)) (.head _) (qCc kr (qAf (W_sr (qAa 1 [(23, vB ((qAl s2.2 y4).isSome))] (WO_e ?_)))));have ⟨o6, i, j5⟩ := qAx i
            refine qCf .normal (fun L' w' => ∃ m17, L' = [(0, vP b4 0), (3, vP b14 0), (4, vP b15 0)] ∧ m.le m17 ∧ St m17 (kB b16 (Vb (((qAl s2.2 y4).getD (eB, eB, 0, eB, 0, 0)).1) (((qAl s2.2 y4).getD (eB, eB, 0, eB, 0, 0)).2.1) (((qAl s2.2 y4).getD (eB, eB, 0, eB, 0, 0)).2.2.1) (((qAl s2.2 y4).getD (eB, eB, 0, eB, 0, 0)).2.2.2.1) (((qAl s2.2 y4).getD (eB, eB, 0, eB, 0, 0)).2.2.2.2.1) (((qAl s2.2 y4).getD (eB, eB, 0, eB, 0, 0)).2.2.2.2.2)) 37 :: kB b15 (Va y4) 130 :: kB b14 (Vc o6) 37 :: kB b13 (V8 x2 a8 c8 a9 c9) 85 :: kB b10 (V9 y3.1 a5 c5 a6 c6) 45 :: kB b9 (V2 x1) 55 :: kB b4 #[vS a1 p0 c1, vB o1, .map (some b2), vS a3 s1.2.1 c3, .map (some b3)] 66 :: qBc (some b2) es7 ck7 :: qBc (some b3) es9 ck9 :: kR a5 y3.1.2.1 c5 9 1 :: kR a6 y3.1.2.2 c6 85 4 :: kR a3 s1.2.1 c3 9 1 :: O) w' ∧ RepS C1 m17 a1 c1 p0 ∧ RepS C5 m17 a6 c6 y3.1.2.2 ∧ RepS cStr m17 a8 c8 x2.2.2.1 ∧ RepS C4 m17 a9 c9 x2.2.2.2 ∧ RepS cStr m17 a5 c5 y3.1.2.1 ∧ RepS cStr m17 a3 c3 s1.2.1 ∧ MapQ (fun s : ByteArray => Value.string s) C6 true m17 (some b2) es7 ck7 mp1 ∧ MapQ qHt C7 true m17 (some b3) es9 ck9 s2.2) ?_ ?_
            ·have i := j5;rintro _ w35 ⟨m17, rfl, q, g, r1, r12, r18, r19, r11, r5, r15, r17⟩;refine qAf (qEn [(7, fun w' => Inv m17 w' ∧ Piece.holds m17 w' (kB b15 (Va y4) 130) ∧ Piece.holds m17 w' (kB b14 (Vc o6) 37) ∧ Piece.holds m17 w' (kB b4 #[vS a1 p0 c1, vB o1, .map (some b2), vS a3 s1.2.1 c3, .map (some b3)] 66) ∧ True)] kr g fun w38 _ g => ?_);have hmS5 := m17.le_refl;refine ⟨⟨.inr ⟨Inv.anti g.inv hmS5, Piece.holds_anti g.t.h hmS5, Piece.holds_anti g.t.t.h hmS5, Piece.holds_anti g.t.t.t.t.t.t.h hmS5, trivial⟩, trivial⟩, ?_⟩;refine qAv 0 29 (vP b4 0) (.head _) (qAv 1 30 (vP b4 0) (.head _) (qAv 2 31 (vP b4 4) (.head _) (qEq 64 31 3 32 4 (.map (some b3)) (.head _) (fun _ h => h.2.2.2.1) (qEq 130 4 4 33 0 (.agg (Va y4)) (.head _) (fun _ h => h.2.1) (qEq 37 3 5 34 0 (.agg (Vc o6)) (.head _) (fun _ h => h.2.2.1) ?_)))));have g := g.f8;have ⟨mp2, d9, i⟩ := qAx i
             refine qBs 6 kr  (qKk (ek := qHt) (c := C7) (agg := true) (k := y4) (yv := o6) (cs := [vT o6.1, vT o6.2.1, vI o6.2.2.1, vT o6.2.2.2.1, vI o6.2.2.2.2.1, vI o6.2.2.2.2.2]) (z := (.agg (Vb eB eB 0 eB 0 0))) (v := (.agg (Vc o6))) (kt := 130) (et := 37) (t := 64) (x := (.tmp 32)) (y := (.tmp 33)) (u := (.tmp 34)) kr (ev (.map (some b3))) (ev (.agg (Va y4))) (ev (.agg (Vc o6))) kr (qSs kr kr (fun _ _ => kr) (fun _ _ => kr)) g r17 ⟨_, _, rfl, rfl, ⟨_, _, rfl, rfl, ⟨_, _, rfl, rfl, ⟨_, _, rfl, rfl, ⟨_, _, rfl, rfl, rfl⟩⟩⟩⟩⟩ rfl d9 fun es11 ck11 w39 g r21 => (⟨⟨.inr ⟨Inv.anti g.inv hmS5, Piece.holds_anti g.t.t.h hmS5, Piece.holds_anti g.t.t.t.h hmS5, Piece.holds_anti g.t.t.t.t.t.t.t.h hmS5, trivial⟩, trivial⟩, ?_⟩));refine qCc kr ?_;cases i;exact qQu [] [] rfl ResAll.nil ⟨_, rfl, ⟨es11, ck11, m17, rfl, q, g.f1.t.f1.t.f1.t.f8.f8.f8.f3.f8.f8.f8.f8.f8, r1, r12, r18, r19, r11, r5, r15, r21⟩⟩
            ·intro Ku5;refine W_if i ?_ ?_
             ·intro A i
              refine W_sr (qAb rfl (qAk 24 37 5 0 (.agg (Vb (((qAl s2.2 y4).getD (eB, eB, 0, eB, 0, 0)).1) (((qAl s2.2 y4).getD (eB, eB, 0, eB, 0, 0)).2.1) (((qAl s2.2 y4).getD (eB, eB, 0, eB, 0, 0)).2.2.1) (((qAl s2.2 y4).getD (eB, eB, 0, eB, 0, 0)).2.2.2.1) (((qAl s2.2 y4).getD (eB, eB, 0, eB, 0, 0)).2.2.2.2.1) (((qAl s2.2 y4).getD (eB, eB, 0, eB, 0, 0)).2.2.2.2.2))) g.h (qAb rfl (qBa 37 3 24 (.agg (Vb (((qAl s2.2 y4).getD (eB, eB, 0, eB, 0, 0)).1) (((qAl s2.2 y4).getD (eB, eB, 0, eB, 0, 0)).2.1) (((qAl s2.2 y4).getD (eB, eB, 0, eB, 0, 0)).2.2.1) (((qAl s2.2 y4).getD (eB, eB, 0, eB, 0, 0)).2.2.2.1) (((qAl s2.2 y4).getD (eB, eB, 0, eB, 0, 0)).2.2.2.2.1) (((qAl s2.2 y4).getD (eB, eB, 0, eB, 0, 0)).2.2.2.2.2))) g.f2 fun w36 g => (WO_e (qAp (qAa 1 [(25, vP b14 5)] (qAb rfl (qAk 26 3 25 5 (vI (((qAl s2.2 y4).getD (eB, eB, 0, eB, 0, 0)).2.2.2.2.2)) g.h (qAa 2 [(27, vI (wr ((((qAl s2.2 y4).getD (eB, eB, 0, eB, 0, 0)).2.2.2.2.2) + 1))), (28, vP b14 5)] (qAb rfl (qHq 3 28 27 5 (vI (wr ((((qAl s2.2 y4).getD (eB, eB, 0, eB, 0, 0)).2.2.2.2.2) + 1))) (Vb (((qAl s2.2 y4).getD (eB, eB, 0, eB, 0, 0)).1) (((qAl s2.2 y4).getD (eB, eB, 0, eB, 0, 0)).2.1) (((qAl s2.2 y4).getD (eB, eB, 0, eB, 0, 0)).2.2.1) (((qAl s2.2 y4).getD (eB, eB, 0, eB, 0, 0)).2.2.2.1) (((qAl s2.2 y4).getD (eB, eB, 0, eB, 0, 0)).2.2.2.2.1) (wr ((((qAl s2.2 y4).getD (eB, eB, 0, eB, 0, 0)).2.2.2.2.2) + 1))) g fun w37 g => (qAs rfl ?_)))))))))))))
              cases i;exact xE (Ku5 _ _ ⟨m16, rfl, q, g.f11.f11.f11.f11.f11.f11.f11.f11.f11.f9.f11.f11, r1, r12, r18, r19, r11, r5, r15, r17⟩)
             ·intro A i;refine qAo ?_;cases i;exact xE (Ku5 _ _ ⟨m16, rfl, q, g.f11.f11.f11.f11.f11.f11.f11.f11.f11.f11.f11.f11, r1, r12, r18, r19, r11, r5, r15, r17⟩)
           ·refine qBy 5 37 (.agg (Vb eB eB 0 eB 0 0)) g fun b16 w33 g => ?_;refine ⟨⟨.inr ⟨Inv.anti g.inv hmS4, Piece.holds_anti g.t.h hmS4, Piece.holds_anti g.t.t.t.t.t.t.h hmS4, trivial⟩, trivial⟩, ?_⟩;refine qBs 5 kr  (qHv (ek := qHt) (c := C7) (agg := true) (k := y4) (zx := (eB, eB, 0, eB, 0, 0)) (zcs := [vT eB, vT eB, vI 0, vT eB, vI 0, vI 0]) (z := (.agg (Vb eB eB 0 eB 0 0))) (kt := 130) (et := 37) (d := 20) (t := 64) (x := (.tmp 18)) (y := (.tmp 19)) (ok := true) kr rfl (ev (.map (some b3))) (ev (.agg (Va y4))) kr (qSs kr kr (fun _ _ => kr) (fun _ _ => kr)) g.t.t.t.t.t.t.t.t.h r17 ⟨_, _, rfl, rfl, ⟨_, _, rfl, rfl, ⟨_, _, rfl, rfl, ⟨_, _, rfl, rfl, ⟨_, _, rfl, rfl, rfl⟩⟩⟩⟩⟩ rfl ?_);rintro cs3 ⟨_, _, rfl, rfl, ⟨_, _, rfl, rfl, ⟨_, _, rfl, rfl, ⟨_, _, rfl, rfl, ⟨_, _, rfl, rfl, rfl⟩⟩⟩⟩⟩;refine ⟨⟨.inr ⟨Inv.anti g.inv hmS4, Piece.holds_anti g.t.h hmS4, Piece.holds_anti g.t.t.t.t.t.t.h hmS4, trivial⟩, trivial⟩, ?_⟩
            refine qAv 6 14 (.tuple #[.agg (Vb (((qAl s2.2 y4).getD (eB, eB, 0, eB, 0, 0)).1) (((qAl s2.2 y4).getD (eB, eB, 0, eB, 0, 0)).2.1) (((qAl s2.2 y4).getD (eB, eB, 0, eB, 0, 0)).2.2.1) (((qAl s2.2 y4).getD (eB, eB, 0, eB, 0, 0)).2.2.2.1) (((qAl s2.2 y4).getD (eB, eB, 0, eB, 0, 0)).2.2.2.2.1) (((qAl s2.2 y4).getD (eB, eB, 0, eB, 0, 0)).2.2.2.2.2)), vB ((qAl s2.2 y4).isSome)]) (.head _) (qAv 7 21 (.agg (Vb (((qAl s2.2 y4).getD (eB, eB, 0, eB, 0, 0)).1) (((qAl s2.2 y4).getD (eB, eB, 0, eB, 0, 0)).2.1) (((qAl s2.2 y4).getD (eB, eB, 0, eB, 0, 0)).2.2.1) (((qAl s2.2 y4).getD (eB, eB, 0, eB, 0, 0)).2.2.2.1) (((qAl s2.2 y4).getD (eB, eB, 0, eB, 0, 0)).2.2.2.2.1) (((qAl s2.2 y4).getD (eB, eB, 0, eB, 0, 0)).2.2.2.2.2))) (.head _) (qAv 8 22 (vB ((qAl s2.2 y4).isSome)) (.head _) (qBs 10 kr  (qBa 37 5 21 (.agg (Vb (((qAl s2.2 y4).getD (eB, eB, 0, eB, 0, 0)).1) (((qAl s2.2 y4).getD (eB, eB, 0, eB, 0, 0)).2.1) (((qAl s2.2 y4).getD (eB, eB, 0, eB, 0, 0)).2.2.1) (((qAl s2.2 y4).getD (eB, eB, 0, eB, 0, 0)).2.2.2.1) (((qAl s2.2 y4).getD (eB, eB, 0, eB, 0, 0)).2.2.2.2.1) (((qAl s2.2 y4).getD (eB, eB, 0, eB, 0, 0)).2.2.2.2.2))) g fun w34 g => (⟨⟨.inr ⟨Inv.anti g.inv hmS4, Piece.holds_anti g.t.h hmS4, Piece.holds_anti g.t.t.t.t.t.t.h hmS4, trivial⟩, trivial⟩, ?_⟩)))));refine qAv 11 6 (vB ((qAl s2.2 y4).isSome)) (.head _) (qCc kr (qAf (W_sr (qAa 1 [(23, vB ((qAl s2.2 y4).isSome))] (WO_e ?_)))));have ⟨o6, i, j5⟩ := qAx i
            refine qCf .normal (fun L' w' => ∃ m17, L' = [(0, vP b4 0), (3, vP b14 0), (4, vP b15 0)] ∧ m.le m17 ∧ St m17 (kB b16 (Vb (((qAl s2.2 y4).getD (eB, eB, 0, eB, 0, 0)).1) (((qAl s2.2 y4).getD (eB, eB, 0, eB, 0, 0)).2.1) (((qAl s2.2 y4).getD (eB, eB, 0, eB, 0, 0)).2.2.1) (((qAl s2.2 y4).getD (eB, eB, 0, eB, 0, 0)).2.2.2.1) (((qAl s2.2 y4).getD (eB, eB, 0, eB, 0, 0)).2.2.2.2.1) (((qAl s2.2 y4).getD (eB, eB, 0, eB, 0, 0)).2.2.2.2.2)) 37 :: kB b15 (Va y4) 130 :: kB b14 (Vc o6) 37 :: kB b13 (V8 x2 a8 c8 a9 c9) 85 :: kB b10 (V9 y3.1 a5 c5 a6 c6) 45 :: kB b9 (V2 x1) 55 :: kB b4 #[vS a1 p0 c1, vB o1, .map (some b2), vS a3 s1.2.1 c3, .map (some b3)] 66 :: qBc (some b2) es7 ck7 :: qBc (some b3) es9 ck9 :: kR a5 y3.1.2.1 c5 9 1 :: kR a6 y3.1.2.2 c6 85 4 :: kR a3 s1.2.1 c3 9 1 :: O) w' ∧ RepS C1 m17 a1 c1 p0 ∧ RepS C5 m17 a6 c6 y3.1.2.2 ∧ RepS cStr m17 a8 c8 x2.2.2.1 ∧ RepS C4 m17 a9 c9 x2.2.2.2 ∧ RepS cStr m17 a5 c5 y3.1.2.1 ∧ RepS cStr m17 a3 c3 s1.2.1 ∧ MapQ (fun s : ByteArray => Value.string s) C6 true m17 (some b2) es7 ck7 mp1 ∧ MapQ qHt C7 true m17 (some b3) es9 ck9 s2.2) ?_ ?_
            ·have i := j5;rintro _ w35 ⟨m17, rfl, q, g, r1, r12, r18, r19, r11, r5, r15, r17⟩;refine qAf (qEn [(7, fun w' => Inv m17 w' ∧ Piece.holds m17 w' (kB b15 (Va y4) 130) ∧ Piece.holds m17 w' (kB b14 (Vc o6) 37) ∧ Piece.holds m17 w' (kB b4 #[vS a1 p0 c1, vB o1, .map (some b2), vS a3 s1.2.1 c3, .map (some b3)] 66) ∧ True)] kr g fun w38 _ g => ?_);have hmS5 := m17.le_refl;refine ⟨⟨.inr ⟨Inv.anti g.inv hmS5, Piece.holds_anti g.t.h hmS5, Piece.holds_anti g.t.t.h hmS5, Piece.holds_anti g.t.t.t.t.t.t.h hmS5, trivial⟩, trivial⟩, ?_⟩;refine qAv 0 29 (vP b4 0) (.head _) (qAv 1 30 (vP b4 0) (.head _) (qAv 2 31 (vP b4 4) (.head _) (qEq 64 31 3 32 4 (.map (some b3)) (.head _) (fun _ h => h.2.2.2.1) (qEq 130 4 4 33 0 (.agg (Va y4)) (.head _) (fun _ h => h.2.1) (qEq 37 3 5 34 0 (.agg (Vc o6)) (.head _) (fun _ h => h.2.2.1) ?_)))));have g := g.f8;have ⟨mp2, d9, i⟩ := qAx i
             refine qBs 6 kr  (qKk (ek := qHt) (c := C7) (agg := true) (k := y4) (yv := o6) (cs := [vT o6.1, vT o6.2.1, vI o6.2.2.1, vT o6.2.2.2.1, vI o6.2.2.2.2.1, vI o6.2.2.2.2.2]) (z := (.agg (Vb eB eB 0 eB 0 0))) (v := (.agg (Vc o6))) (kt := 130) (et := 37) (t := 64) (x := (.tmp 32)) (y := (.tmp 33)) (u := (.tmp 34)) kr (ev (.map (some b3))) (ev (.agg (Va y4))) (ev (.agg (Vc o6))) kr (qSs kr kr (fun _ _ => kr) (fun _ _ => kr)) g r17 ⟨_, _, rfl, rfl, ⟨_, _, rfl, rfl, ⟨_, _, rfl, rfl, ⟨_, _, rfl, rfl, ⟨_, _, rfl, rfl, rfl⟩⟩⟩⟩⟩ rfl d9 fun es11 ck11 w39 g r21 => (⟨⟨.inr ⟨Inv.anti g.inv hmS5, Piece.holds_anti g.t.t.h hmS5, Piece.holds_anti g.t.t.t.h hmS5, Piece.holds_anti g.t.t.t.t.t.t.t.h hmS5, trivial⟩, trivial⟩, ?_⟩));refine qCc kr ?_;cases i;exact qQu [] [] rfl ResAll.nil ⟨_, rfl, ⟨es11, ck11, m17, rfl, q, g.f1.t.f1.t.f1.t.f8.f8.f8.f3.f8.f8.f8.f8.f8, r1, r12, r18, r19, r11, r5, r15, r21⟩⟩
            ·intro Ku5;refine W_if i ?_ ?_
             ·intro A i
              refine W_sr (qAb rfl (qAk 24 37 5 0 (.agg (Vb (((qAl s2.2 y4).getD (eB, eB, 0, eB, 0, 0)).1) (((qAl s2.2 y4).getD (eB, eB, 0, eB, 0, 0)).2.1) (((qAl s2.2 y4).getD (eB, eB, 0, eB, 0, 0)).2.2.1) (((qAl s2.2 y4).getD (eB, eB, 0, eB, 0, 0)).2.2.2.1) (((qAl s2.2 y4).getD (eB, eB, 0, eB, 0, 0)).2.2.2.2.1) (((qAl s2.2 y4).getD (eB, eB, 0, eB, 0, 0)).2.2.2.2.2))) g.h (qAb rfl (qBa 37 3 24 (.agg (Vb (((qAl s2.2 y4).getD (eB, eB, 0, eB, 0, 0)).1) (((qAl s2.2 y4).getD (eB, eB, 0, eB, 0, 0)).2.1) (((qAl s2.2 y4).getD (eB, eB, 0, eB, 0, 0)).2.2.1) (((qAl s2.2 y4).getD (eB, eB, 0, eB, 0, 0)).2.2.2.1) (((qAl s2.2 y4).getD (eB, eB, 0, eB, 0, 0)).2.2.2.2.1) (((qAl s2.2 y4).getD (eB, eB, 0, eB, 0, 0)).2.2.2.2.2))) g.f2 fun w36 g => (WO_e (qAp (qAa 1 [(25, vP b14 5)] (qAb rfl (qAk 26 3 25 5 (vI (((qAl s2.2 y4).getD (eB, eB, 0, eB, 0, 0)).2.2.2.2.2)) g.h (qAa 2 [(27, vI (wr ((((qAl s2.2 y4).getD (eB, eB, 0, eB, 0, 0)).2.2.2.2.2) + 1))), (28, vP b14 5)] (qAb rfl (qHq 3 28 27 5 (vI (wr ((((qAl s2.2 y4).getD (eB, eB, 0, eB, 0, 0)).2.2.2.2.2) + 1))) (Vb (((qAl s2.2 y4).getD (eB, eB, 0, eB, 0, 0)).1) (((qAl s2.2 y4).getD (eB, eB, 0, eB, 0, 0)).2.1) (((qAl s2.2 y4).getD (eB, eB, 0, eB, 0, 0)).2.2.1) (((qAl s2.2 y4).getD (eB, eB, 0, eB, 0, 0)).2.2.2.1) (((qAl s2.2 y4).getD (eB, eB, 0, eB, 0, 0)).2.2.2.2.1) (wr ((((qAl s2.2 y4).getD (eB, eB, 0, eB, 0, 0)).2.2.2.2.2) + 1))) g fun w37 g => (qAs rfl ?_)))))))))))))
              cases i;exact xE (Ku5 _ _ ⟨m16, rfl, q, g.f11.f11.f11.f11.f11.f11.f11.f11.f11.f9.f11.f11, r1, r12, r18, r19, r11, r5, r15, r17⟩)
             ·intro A i;refine qAo ?_;cases i;exact xE (Ku5 _ _ ⟨m16, rfl, q, g.f11.f11.f11.f11.f11.f11.f11.f11.f11.f11.f11.f11, r1, r12, r18, r19, r11, r5, r15, r17⟩)
         ·intro A i;refine qDl (qAj ?_);cases i;have ho := hBu3 _ rfl;have g := g.f7.f7.f7.f7.f7.f7.f7.f7;refine qAj ?_;exact xE (K2_u3 _ _ ⟨s2.2, es9, ck9, m13, ho, rfl, q, g, r1, r11, r12, r5, r15, r17⟩)
    ·intro A i;refine qDl (qAj ?_);cases i;have ho := hBu1 _ rfl;have g := g.f3.f3.f3.f3;refine qAj ?_;exact xE (K0_u1 _ _ ⟨s1.2, a3, c3, es3, ck3, es4, ck4, m6, ho, rfl, q, g, r1, r5, r6, r7⟩)
 ·intro K;refine qEn [(9, fun w' => Inv m1 w' ∧ True)] kr g fun w3 _ g => ?_;have hmS1 := m1.le_refl;refine tA g hmS1 ?_;refine qPo 28 1 0 11 0 (.agg #[vS a1 p0 c1]) (.head _) (fun _ h => h.1) hb1 (qPo 28 1 1 12 0 (.agg #[vS a1 p0 c1]) (.head _) (fun _ h => h.1) hb1 (qOq [2, 4, 5] kr (by simp) (zAv ?_ ?_ ?_)))
  ·refine qFi 13 i (fun _ h => qGp g r1 h) ?_;rintro y1 i _ w4 ⟨m3, rfl, e2, g⟩;refine ⟨_, rfl, ?_⟩;have hmS1 := Mem.le_trans hmS1 e2;refine tA g hmS1 ?_;refine qAv 3 14 (vB (y1 == 0)) (.head _) (qOq [4, 5] kr (by simp) (qPh ?_ ?_))
   ·refine qDv (d := 15) (t := 63) kr rfl g fun b5 w5 g => ?_;refine tA g hmS1 ?_;refine qBs 5 kr  (qDv (d := 16) (t := 64) kr rfl g fun b6 w6 g => (tA g hmS1 (qAv 6 17 (.agg #[vS a1 p0 c1, vB (y1 == 0), .map (some b5), vS none ([] : T2) 0, .map (some b6)]) (.head _) (qBs 7 kr  (qLr 18 66 17 (.agg #[vS a1 p0 c1, vB (y1 == 0), .map (some b5), vS none ([] : T2) 0, .map (some b6)]) g fun b7 w7 g => (tA g hmS1 (qAv 8 3 (vP b7 0) (.head _) ?_)))))));have g := g.f1.f2;cases i;exact qCc kr (qOk _ kr (K _ _ ⟨b5, b6, b7, m3, rfl, q.t e2, g.f1.f1.f2, hb1.mono e2, r1.mono e2⟩))
   ·refine qDv (d := 16) (t := 64) kr rfl g fun b5 w5 g => ?_;refine tA g hmS1 ?_;refine qBs 4 kr  (qDv (d := 15) (t := 63) kr rfl g fun b6 w6 g => (tA g hmS1 (qAv 6 17 (.agg #[vS a1 p0 c1, vB (y1 == 0), .map (some b6), vS none ([] : T2) 0, .map (some b5)]) (.head _) (qBs 7 kr  (qLr 18 66 17 (.agg #[vS a1 p0 c1, vB (y1 == 0), .map (some b6), vS none ([] : T2) 0, .map (some b5)]) g fun b7 w7 g => (tA g hmS1 (qAv 8 3 (vP b7 0) (.head _) ?_)))))));have g := g.f2.f2;cases i;exact qCc kr (qOk _ kr (K _ _ ⟨b6, b5, b7, m3, rfl, q.t e2, g.f1.f1.f2, hb1.mono e2, r1.mono e2⟩))
  ·refine qDv (d := 15) (t := 63) kr rfl g fun b5 w4 g => ?_;refine tA g hmS1 ?_;refine qOq [2, 5] kr (by simp) (qPh ?_ ?_)
   ·refine qFi 13 i (fun _ h => qGp g r1 h) ?_;rintro y1 i _ w5 ⟨m3, rfl, e2, g⟩;refine ⟨_, rfl, ?_⟩;have hmS1 := Mem.le_trans hmS1 e2;refine tA g hmS1 ?_;refine qAv 3 14 (vB (y1 == 0)) (.head _) (qBs 5 kr  (qDv (d := 16) (t := 64) kr rfl g fun b6 w6 g => (tA g hmS1 (qAv 6 17 (.agg #[vS a1 p0 c1, vB (y1 == 0), .map (some b5), vS none ([] : T2) 0, .map (some b6)]) (.head _) (qBs 7 kr  (qLr 18 66 17 (.agg #[vS a1 p0 c1, vB (y1 == 0), .map (some b5), vS none ([] : T2) 0, .map (some b6)]) g fun b7 w7 g => (tA g hmS1 (qAv 8 3 (vP b7 0) (.head _) ?_))))))));have g := g.f1.f2;cases i;exact qCc kr (qOk _ kr (K _ _ ⟨b5, b6, b7, m3, rfl, q.t e2, g.f1.f1.f2, hb1.mono e2, r1.mono e2⟩))
   ·refine qDv (d := 16) (t := 64) kr rfl g fun b6 w5 g => ?_;refine tA g hmS1 ?_;refine qBs 2 kr (qFi 13 i (fun _ h => qGp g r1 h) ?_);rintro y1 i _ w6 ⟨m3, rfl, e2, g⟩;refine ⟨_, rfl, ?_⟩;have hmS1 := Mem.le_trans hmS1 e2;refine tA g hmS1 ?_;refine qAv 3 14 (vB (y1 == 0)) (.head _) (qAv 6 17 (.agg #[vS a1 p0 c1, vB (y1 == 0), .map (some b5), vS none ([] : T2) 0, .map (some b6)]) (.head _) (qBs 7 kr  (qLr 18 66 17 (.agg #[vS a1 p0 c1, vB (y1 == 0), .map (some b5), vS none ([] : T2) 0, .map (some b6)]) g fun b7 w7 g => (tA g hmS1 (qAv 8 3 (vP b7 0) (.head _) ?_)))));have g := g.f1.f2;cases i;exact qCc kr (qOk _ kr (K _ _ ⟨b5, b6, b7, m3, rfl, q.t e2, g.f1.f1.f2, hb1.mono e2, r1.mono e2⟩))
  ·refine qDv (d := 16) (t := 64) kr rfl g fun b5 w4 g => ?_;refine tA g hmS1 ?_;refine qOq [2, 4] kr (by simp) (qPh ?_ ?_)
   ·refine qFi 13 i (fun _ h => qGp g r1 h) ?_;rintro y1 i _ w5 ⟨m3, rfl, e2, g⟩;refine ⟨_, rfl, ?_⟩;have hmS1 := Mem.le_trans hmS1 e2;refine tA g hmS1 ?_;refine qAv 3 14 (vB (y1 == 0)) (.head _) (qBs 4 kr  (qDv (d := 15) (t := 63) kr rfl g fun b6 w6 g => (tA g hmS1 (qAv 6 17 (.agg #[vS a1 p0 c1, vB (y1 == 0), .map (some b6), vS none ([] : T2) 0, .map (some b5)]) (.head _) (qBs 7 kr  (qLr 18 66 17 (.agg #[vS a1 p0 c1, vB (y1 == 0), .map (some b6), vS none ([] : T2) 0, .map (some b5)]) g fun b7 w7 g => (tA g hmS1 (qAv 8 3 (vP b7 0) (.head _) ?_))))))));have g := g.f2.f2;cases i;exact qCc kr (qOk _ kr (K _ _ ⟨b6, b5, b7, m3, rfl, q.t e2, g.f1.f1.f2, hb1.mono e2, r1.mono e2⟩))
   ·refine qDv (d := 15) (t := 63) kr rfl g fun b6 w5 g => ?_;refine tA g hmS1 ?_;refine qBs 2 kr (qFi 13 i (fun _ h => qGp g r1 h) ?_);rintro y1 i _ w6 ⟨m3, rfl, e2, g⟩;refine ⟨_, rfl, ?_⟩;have hmS1 := Mem.le_trans hmS1 e2;refine tA g hmS1 ?_;refine qAv 3 14 (vB (y1 == 0)) (.head _) (qAv 6 17 (.agg #[vS a1 p0 c1, vB (y1 == 0), .map (some b6), vS none ([] : T2) 0, .map (some b5)]) (.head _) (qBs 7 kr  (qLr 18 66 17 (.agg #[vS a1 p0 c1, vB (y1 == 0), .map (some b6), vS none ([] : T2) 0, .map (some b5)]) g fun b7 w7 g => (tA g hmS1 (qAv 8 3 (vP b7 0) (.head _) ?_)))));have g := g.f2.f2;cases i;exact qCc kr (qOk _ kr (K _ _ ⟨b6, b5, b7, m3, rfl, q.t e2, g.f1.f1.f2, hb1.mono e2, r1.mono e2⟩))
def qEi (N : Nat) (p0 : T1u) (p1 : ByteArray) (s1 : Int) : Option (Int ⊕ Unit ⊕ T1 × Bool) :=
 if (decide (s1 < (List.length p0.1 : Int))) = true then ((idx p0.1 s1).bind fun x1 => if (x1.1.toList == p1.toList) = true then (some (.inr (.inr ((x1.2, true))))) else (some (.inl (IntKind.wrap .i64 (s1 + 1))))) else (some (.inr (.inl ())))
def qHd (N : Nat) (p0 : T1u) (p1 : ByteArray) : Option (T1 × Bool) :=
 (qBe (qEi N p0 p1) N 0).bind fun out1 => (match out1 with | .inl o1 => some ((⟨#[]⟩ : ByteArray), false) | .inr (z) => some z)
theorem qOo {p0 : T1u} {p1 : ByteArray} {q1 : Ts} {es1 : Array MapEntry} {ck1 : Nat} {q2 : Ts} {es2 : Array MapEntry} {ck2 : Nat} {r : T1 × Bool} (g : St m (qBc q1 es1 ck1 :: qBc q2 es2 ck2 :: kB bp0 #[vS a1 p0.1 c1, vB p0.2.1, .map q1, vS a2 p0.2.2.2.1 c2, .map q2] 66 :: O) w) (r1 : RepS C1 m a1 c1 p0.1) (r2 : MapQ (fun s : ByteArray => Value.string s) C6 true m q1 es1 ck1 p0.2.2.1) (r3 : RepS cStr m a2 c2 p0.2.2.2.1) (r4 : MapQ qHt C7 true m q2 es2 ck2 p0.2.2.2.2) (i : qHd N p0 p1 = some r) : Calls Tryd.prog 46 #[vP bp0 0, vT p1] w fun e w' => ∃ m', e = .returned (.tuple #[vT r.1, vB r.2]) ∧ m.le m' ∧ St m' (qBc q1 es1 ck1 :: qBc q2 es2 ck2 :: kB bp0 #[vS a1 p0.1 c1, vB p0.2.1, .map q1, vS a2 p0.2.2.2.1 c2, .map q2] 66 :: O) w' := by
 unfold qHd at i;have q := m.le_refl;refine W_cA Tryd.func46 rfl Tryd.ntmps46 ?_;refine W_sr (qAa 2 [] (WO_e (qAq (W_sr (qAa 4 [(11, vP bp0 0)] (qAb rfl (qAk 12 26 11 0 (vS a1 p0.1 c1) g.t.t.h (qAa 2 [(13, vI (p0.1.length : Int)), (14, vI 0)] (WO_e (qAy ?_))))))))));have ⟨out1, i, j1⟩ := qAx i;refine qCf (.exit 0) (fun L' w' => ∃ (o1 : Unit), ∃ m1, (.inl o1) = out1 ∧ L' = [] ∧ m.le m1 ∧ St m1 (kB bp0 #[vS a1 p0.1 c1, vB p0.2.1, .map q1, vS a2 p0.2.2.2.1 c2, .map q2] 66 :: qBc q1 es1 ck1 :: qBc q2 es2 ck2 :: O) w' ∧ RepS C1 m1 a1 c1 p0.1 ∧ RepS cStr m1 a2 c2 p0.2.2.2.1 ∧ MapQ (fun s : ByteArray => Value.string s) C6 true m1 q1 es1 ck1 p0.2.2.1 ∧ MapQ qHt C7 true m1 q2 es2 ck2 p0.2.2.2.2) ?_ ?_
 ·rintro _ w1 ⟨o1, m1, rfl, rfl, q, g, r1, r3, r2, r4⟩;have i := j1;refine qBj (qAf (W_sr (qAa 2 [(4, vT eB), (5, vB false)] (WO_e (qAz ?_)))));cases i;exact X_rt [4, 5] [vT eB, vB false] ⟨m1, rfl, q, g.f2.f2⟩
 intro K0_u1;refine qHn _ kr (qEm (fun k1 L' w' => ∃ (s1 : Int), ∃ m2, qBe (qEi N p0 p1) k1 s1 = some out1 ∧ L' = [(1, vT p1), (12, vS a1 p0.1 c1), (13, vI (p0.1.length : Int)), (14, vI s1)] ∧ m.le m2 ∧ St m2 (kB bp0 #[vS a1 p0.1 c1, vB p0.2.1, .map q1, vS a2 p0.2.2.2.1 c2, .map q2] 66 :: qBc q1 es1 ck1 :: qBc q2 es2 ck2 :: O) w' ∧ RepS C1 m2 a1 c1 p0.1 ∧ RepS cStr m2 a2 c2 p0.2.2.2.1 ∧ MapQ (fun s : ByteArray => Value.string s) C6 true m2 q1 es1 ck1 p0.2.2.1 ∧ MapQ qHt C7 true m2 q2 es2 ck2 p0.2.2.2.2) N ⟨0, m, i, rfl, q, g.f1.f1.f2, r1, r3, r2, r4⟩ ?_);rintro k1 _ w2 ⟨s1, m2, hL, rfl, q, g, r1, r3, r2, r4⟩;rcases k1 with _ | k1
 ·exact qBo hL
 ·obtain ⟨qu1, i, hSu1, hBu1⟩ := qBn hL;clear hL;unfold qEi at i;refine W_sr (qAa 1 [(15, vB (decide (s1 < (p0.1.length : Int))))] (WO_e (qAq (W_if i ?_ ?_))))
  ·intro A i;refine qAo (qAf (qAq (qAy (W_sr (qAb rfl (qGj 16 26 55 12 14 r1 i ?_))))));rintro x1 i b1 f1 cs1 ⟨_, _, rfl, rfl, rfl⟩ hq1;refine qFd 17 55 16 f1 (.agg (V2 x1)) g hq1 (qAb rfl (qBy 7 55 (.agg #[vT eB, vT eB]) g fun b2 w3 g => (qAb rfl (qBa 55 7 17 (.agg (V2 x1)) g fun w4 g => (WO_e (W_sr (qAa 1 [(18, vP b2 0)] (qAb rfl (qAk 19 9 18 0 (vT x1.1) g.h (qAa 2 [(21, vB (x1.1.toList == p1.toList))] (WO_e (W_if i ?_ ?_))))))))))))
   ·intro A i;refine W_sr (qAa 1 [(22, vP b2 1)] (qAb rfl (qAk 23 9 22 1 (vT x1.2) g.h (qAa 2 [(4, vT x1.2), (5, vB true)] (WO_e (qAz (qAg (qAc ?_))))))));cases i;have ho := hBu1 _ rfl;subst ho;have i := j1;refine qAc (qAg (qAc ?_));cases i;exact X_rt [4, 5] [vT x1.2, vB true] ⟨m2, rfl, q, g.t.f2.f2⟩
   ·intro A i;refine qAo (qBi (qAf (qAp (qAa 2 [(14, vI (wr (s1 + 1)))] (qAs rfl ?_)))));obtain rfl := sI i;have hL := hSu1 _ rfl;exact xE (qCm k1 (jE _) ⟨wr (s1 + 1), m2, hL, rfl, q, g.t.f2.f2.f2, r1, r3, r2, r4⟩)
  ·intro A i;refine qDl (qAj ?_);cases i;have ho := hBu1 _ rfl;have g := g.f2.f2.f2;refine qAj ?_;exact xE (K0_u1 _ _ ⟨(), m2, ho, rfl, q, g, r1, r3, r2, r4⟩)
def qFb (N : Nat) (p0 : T1u) (p1 : Int) (p2 : ByteArray) (p3 : ByteArray) : Option T1q :=
 if (!p0.2.1) = true then (some ((⟨#[]⟩ : ByteArray), (⟨#[]⟩ : ByteArray), 0, (⟨#[]⟩ : ByteArray), 0, 0)) else ((qLy N p1 p2 p3).bind fun y1 => if ((qAl p0.2.2.2.2 y1).isSome) = true then (some (((qAl p0.2.2.2.2 y1).getD ((⟨#[]⟩ : ByteArray), (⟨#[]⟩ : ByteArray), 0, (⟨#[]⟩ : ByteArray), 0, 0)).1, ((qAl p0.2.2.2.2 y1).getD ((⟨#[]⟩ : ByteArray), (⟨#[]⟩ : ByteArray), 0, (⟨#[]⟩ : ByteArray), 0, 0)).2.1, ((qAl p0.2.2.2.2 y1).getD ((⟨#[]⟩ : ByteArray), (⟨#[]⟩ : ByteArray), 0, (⟨#[]⟩ : ByteArray), 0, 0)).2.2.1, ((qAl p0.2.2.2.2 y1).getD ((⟨#[]⟩ : ByteArray), (⟨#[]⟩ : ByteArray), 0, (⟨#[]⟩ : ByteArray), 0, 0)).2.2.2.1, ((qAl p0.2.2.2.2 y1).getD ((⟨#[]⟩ : ByteArray), (⟨#[]⟩ : ByteArray), 0, (⟨#[]⟩ : ByteArray), 0, 0)).2.2.2.2.1, ((qAl p0.2.2.2.2 y1).getD ((⟨#[]⟩ : ByteArray), (⟨#[]⟩ : ByteArray), 0, (⟨#[]⟩ : ByteArray), 0, 0)).2.2.2.2.2)) else (some (y1.2.1, p3, p1, (⟨#[]⟩ : ByteArray), 0, 0)))
theorem qIl {p0 : T1u} {p1 : Int} {p2 : ByteArray} {p3 : ByteArray} {q1 : Ts} {es1 : Array MapEntry} {ck1 : Nat} {q2 : Ts} {es2 : Array MapEntry} {ck2 : Nat} {r : T1q} (g : St m (qBc q1 es1 ck1 :: qBc q2 es2 ck2 :: kB bp0 #[vS a1 p0.1 c1, vB p0.2.1, .map q1, vS a2 p0.2.2.2.1 c2, .map q2] 66 :: O) w) (r1 : RepS C1 m a1 c1 p0.1) (r2 : MapQ (fun s : ByteArray => Value.string s) C6 true m q1 es1 ck1 p0.2.2.1) (r3 : RepS cStr m a2 c2 p0.2.2.2.1) (r4 : MapQ qHt C7 true m q2 es2 ck2 p0.2.2.2.2) (i : qFb N p0 p1 p2 p3 = some r) : Calls Tryd.prog 47 #[vP bp0 0, vI p1, vT p2, vT p3] w fun e w' => ∃ m', e = .returned (.agg (Vc r)) ∧ m.le m' ∧ St m' (qBc q1 es1 ck1 :: qBc q2 es2 ck2 :: kB bp0 #[vS a1 p0.1 c1, vB p0.2.1, .map q1, vS a2 p0.2.2.2.1 c2, .map q2] 66 :: O) w' := by
 unfold qFb at i;have q := m.le_refl;refine W_cA Tryd.func47 rfl Tryd.ntmps47 ?_;refine W_sr (qAb rfl (qBy 8 37 (.agg (Vb eB eB 0 eB 0 0)) g fun b1 w1 g => (WO_e (qAq (W_sr (qAa 3 [(14, vP bp0 1)] (qAb rfl (qAk 15 4 14 1 (vB p0.2.1) g.t.t.t.h (qAa 1 [(16, vB (!p0.2.1))] (WO_e (W_if i ?_ ?_)))))))))))
 ·intro A i;refine W_sr (qAa 1 [(17, .agg (Vb eB eB 0 eB 0 0))] (qAb rfl (qBa 37 8 17 (.agg (Vb eB eB 0 eB 0 0)) g fun w2 g => (WO_e (qAz (qAc ?_))))));cases i;exact qGf [.cell 8 37] [.agg (Vb eB eB 0 eB 0 0)] rfl (ResAll.cons (ResAt.blk (v := .agg (Vb eB eB 0 eB 0 0)) (o := 0) kr g.h kr) ResAll.nil) ⟨m, rfl, q, g.t.f2.f2.f2⟩
 ·intro A i;refine qAo (qAf (W_sr (qAa 3 [(18, vI p1), (19, vT p2), (20, vT p3)] (qAr 21 i (fun _ h => qQh g h) ?_))));rintro y1 i _ w3 ⟨m1, rfl, e1, g⟩;have q := q.t e1;refine qAb rfl (qBy 9 130 (.agg #[vI 0, vT eB, vT eB]) g fun b2 w4 g => (qAb rfl (qBa 130 9 21 (.agg (Va y1)) g fun w5 g => (WO_e (qAq (qAq (qEn [(12, fun w' => Inv m1 w' ∧ Piece.holds m1 w' (kB b2 (Va y1) 130) ∧ Piece.holds m1 w' (kB bp0 #[vS a1 p0.1 c1, vB p0.2.1, .map q1, vS a2 p0.2.2.2.1 c2, .map q2] 66) ∧ True)] kr g fun w6 _ g => ?_)))))));have hmS1 := m1.le_refl;refine ⟨⟨.inr ⟨Inv.anti g.inv hmS1, Piece.holds_anti g.h hmS1, Piece.holds_anti g.t.t.t.t.h hmS1, trivial⟩, trivial⟩, ?_⟩;refine qAv 0 23 (vP bp0 0) (.head _) (qAv 1 24 (vP bp0 0) (.head _) (qAv 2 25 (vP bp0 4) (.head _) (qEq 64 25 3 26 4 (.map q2) (.head _) (fun _ h => h.2.2.1) (qEq 130 9 4 27 0 (.agg (Va y1)) (.head _) (fun _ h => h.2.1) (qOq [5, 9] kr (by simp) (qPh ?_ ?_))))))
  ·refine qHv (ek := qHt) (c := C7) (agg := true) (k := y1) (zx := (eB, eB, 0, eB, 0, 0)) (zcs := [vT eB, vT eB, vI 0, vT eB, vI 0, vI 0]) (z := (.agg (Vb eB eB 0 eB 0 0))) (kt := 130) (et := 37) (d := 28) (t := 64) (x := (.tmp 26)) (y := (.tmp 27)) (ok := true) kr rfl (ev (.map q2)) (ev (.agg (Va y1))) kr (qSs kr kr (fun _ _ => kr) (fun _ _ => kr)) g.t.t.t.h (r4.mono e1) ⟨_, _, rfl, rfl, ⟨_, _, rfl, rfl, ⟨_, _, rfl, rfl, ⟨_, _, rfl, rfl, ⟨_, _, rfl, rfl, rfl⟩⟩⟩⟩⟩ rfl ?_;rintro cs1 ⟨_, _, rfl, rfl, ⟨_, _, rfl, rfl, ⟨_, _, rfl, rfl, ⟨_, _, rfl, rfl, ⟨_, _, rfl, rfl, rfl⟩⟩⟩⟩⟩;refine ⟨⟨.inr ⟨Inv.anti g.inv hmS1, Piece.holds_anti g.h hmS1, Piece.holds_anti g.t.t.t.t.h hmS1, trivial⟩, trivial⟩, ?_⟩
   refine qAv 6 22 (.tuple #[.agg (Vb (((qAl p0.2.2.2.2 y1).getD (eB, eB, 0, eB, 0, 0)).1) (((qAl p0.2.2.2.2 y1).getD (eB, eB, 0, eB, 0, 0)).2.1) (((qAl p0.2.2.2.2 y1).getD (eB, eB, 0, eB, 0, 0)).2.2.1) (((qAl p0.2.2.2.2 y1).getD (eB, eB, 0, eB, 0, 0)).2.2.2.1) (((qAl p0.2.2.2.2 y1).getD (eB, eB, 0, eB, 0, 0)).2.2.2.2.1) (((qAl p0.2.2.2.2 y1).getD (eB, eB, 0, eB, 0, 0)).2.2.2.2.2)), vB ((qAl p0.2.2.2.2 y1).isSome)]) (.head _) (qAv 7 29 (.agg (Vb (((qAl p0.2.2.2.2 y1).getD (eB, eB, 0, eB, 0, 0)).1) (((qAl p0.2.2.2.2 y1).getD (eB, eB, 0, eB, 0, 0)).2.1) (((qAl p0.2.2.2.2 y1).getD (eB, eB, 0, eB, 0, 0)).2.2.1) (((qAl p0.2.2.2.2 y1).getD (eB, eB, 0, eB, 0, 0)).2.2.2.1) (((qAl p0.2.2.2.2 y1).getD (eB, eB, 0, eB, 0, 0)).2.2.2.2.1) (((qAl p0.2.2.2.2 y1).getD (eB, eB, 0, eB, 0, 0)).2.2.2.2.2))) (.head _) (qAv 8 30 (vB ((qAl p0.2.2.2.2 y1).isSome)) (.head _) (qBs 9 kr  (qBy 10 37 (.agg (Vb eB eB 0 eB 0 0)) g fun b3 w7 g => (⟨⟨.inr ⟨Inv.anti g.inv hmS1, Piece.holds_anti g.t.h hmS1, Piece.holds_anti g.t.t.t.t.t.h hmS1, trivial⟩, trivial⟩, ?_⟩)))))
   refine qBs 10 kr  (qBa 37 10 29 (.agg (Vb (((qAl p0.2.2.2.2 y1).getD (eB, eB, 0, eB, 0, 0)).1) (((qAl p0.2.2.2.2 y1).getD (eB, eB, 0, eB, 0, 0)).2.1) (((qAl p0.2.2.2.2 y1).getD (eB, eB, 0, eB, 0, 0)).2.2.1) (((qAl p0.2.2.2.2 y1).getD (eB, eB, 0, eB, 0, 0)).2.2.2.1) (((qAl p0.2.2.2.2 y1).getD (eB, eB, 0, eB, 0, 0)).2.2.2.2.1) (((qAl p0.2.2.2.2 y1).getD (eB, eB, 0, eB, 0, 0)).2.2.2.2.2))) g fun w8 g => (⟨⟨.inr ⟨Inv.anti g.inv hmS1, Piece.holds_anti g.t.h hmS1, Piece.holds_anti g.t.t.t.t.t.h hmS1, trivial⟩, trivial⟩, ?_⟩));refine qAv 11 11 (vB ((qAl p0.2.2.2.2 y1).isSome)) (.head _) (qCc kr (qAf (W_sr (qAa 1 [(31, vB ((qAl p0.2.2.2.2 y1).isSome))] (WO_e (W_if i ?_ ?_))))))
   ·intro A i;refine W_sr (qAb rfl (qAk 32 37 10 0 (.agg (Vb (((qAl p0.2.2.2.2 y1).getD (eB, eB, 0, eB, 0, 0)).1) (((qAl p0.2.2.2.2 y1).getD (eB, eB, 0, eB, 0, 0)).2.1) (((qAl p0.2.2.2.2 y1).getD (eB, eB, 0, eB, 0, 0)).2.2.1) (((qAl p0.2.2.2.2 y1).getD (eB, eB, 0, eB, 0, 0)).2.2.2.1) (((qAl p0.2.2.2.2 y1).getD (eB, eB, 0, eB, 0, 0)).2.2.2.2.1) (((qAl p0.2.2.2.2 y1).getD (eB, eB, 0, eB, 0, 0)).2.2.2.2.2))) g.h (qAb rfl (qBa 37 8 32 (.agg (Vb (((qAl p0.2.2.2.2 y1).getD (eB, eB, 0, eB, 0, 0)).1) (((qAl p0.2.2.2.2 y1).getD (eB, eB, 0, eB, 0, 0)).2.1) (((qAl p0.2.2.2.2 y1).getD (eB, eB, 0, eB, 0, 0)).2.2.1) (((qAl p0.2.2.2.2 y1).getD (eB, eB, 0, eB, 0, 0)).2.2.2.1) (((qAl p0.2.2.2.2 y1).getD (eB, eB, 0, eB, 0, 0)).2.2.2.2.1) (((qAl p0.2.2.2.2 y1).getD (eB, eB, 0, eB, 0, 0)).2.2.2.2.2))) g.f2 fun w9 g => (WO_e (qAz (qAc ?_)))))));obtain rfl := sI i
    exact qGf [.cell 8 37] [.agg (Vb (((qAl p0.2.2.2.2 y1).getD (eB, eB, 0, eB, 0, 0)).1) (((qAl p0.2.2.2.2 y1).getD (eB, eB, 0, eB, 0, 0)).2.1) (((qAl p0.2.2.2.2 y1).getD (eB, eB, 0, eB, 0, 0)).2.2.1) (((qAl p0.2.2.2.2 y1).getD (eB, eB, 0, eB, 0, 0)).2.2.2.1) (((qAl p0.2.2.2.2 y1).getD (eB, eB, 0, eB, 0, 0)).2.2.2.2.1) (((qAl p0.2.2.2.2 y1).getD (eB, eB, 0, eB, 0, 0)).2.2.2.2.2))] rfl (ResAll.cons (ResAt.blk (v := .agg (Vb (((qAl p0.2.2.2.2 y1).getD (eB, eB, 0, eB, 0, 0)).1) (((qAl p0.2.2.2.2 y1).getD (eB, eB, 0, eB, 0, 0)).2.1) (((qAl p0.2.2.2.2 y1).getD (eB, eB, 0, eB, 0, 0)).2.2.1) (((qAl p0.2.2.2.2 y1).getD (eB, eB, 0, eB, 0, 0)).2.2.2.1) (((qAl p0.2.2.2.2 y1).getD (eB, eB, 0, eB, 0, 0)).2.2.2.2.1) (((qAl p0.2.2.2.2 y1).getD (eB, eB, 0, eB, 0, 0)).2.2.2.2.2))) (o := 0) kr g.h kr) ResAll.nil) ⟨m1, rfl, q, g.t.t.t.f2.f2.f2⟩
   ·intro A i;refine qAo (qAf (W_sr (qAa 1 [(33, vP b2 1)] (qAb rfl (qAk 34 9 33 1 (vT y1.2.1) g.t.h (qAa 3 [(37, .agg (Vb y1.2.1 p3 p1 eB 0 0))] (qAb rfl (qBa 37 8 37 (.agg (Vb y1.2.1 p3 p1 eB 0 0)) g.f2 fun w10 g => (WO_e (qAz ?_))))))))));cases i;exact qGf [.cell 8 37] [.agg (Vb y1.2.1 p3 p1 eB 0 0)] rfl (ResAll.cons (ResAt.blk (v := .agg (Vb y1.2.1 p3 p1 eB 0 0)) (o := 0) kr g.h kr) ResAll.nil) ⟨m1, rfl, q, g.t.t.t.f2.f2.f2⟩
  ·refine qBy 10 37 (.agg (Vb eB eB 0 eB 0 0)) g fun b3 w7 g => ?_;refine ⟨⟨.inr ⟨Inv.anti g.inv hmS1, Piece.holds_anti g.t.h hmS1, Piece.holds_anti g.t.t.t.t.t.h hmS1, trivial⟩, trivial⟩, ?_⟩;refine qBs 5 kr  (qHv (ek := qHt) (c := C7) (agg := true) (k := y1) (zx := (eB, eB, 0, eB, 0, 0)) (zcs := [vT eB, vT eB, vI 0, vT eB, vI 0, vI 0]) (z := (.agg (Vb eB eB 0 eB 0 0))) (kt := 130) (et := 37) (d := 28) (t := 64) (x := (.tmp 26)) (y := (.tmp 27)) (ok := true) kr rfl (ev (.map q2)) (ev (.agg (Va y1))) kr (qSs kr kr (fun _ _ => kr) (fun _ _ => kr)) g.t.t.t.t.h (r4.mono e1) ⟨_, _, rfl, rfl, ⟨_, _, rfl, rfl, ⟨_, _, rfl, rfl, ⟨_, _, rfl, rfl, ⟨_, _, rfl, rfl, rfl⟩⟩⟩⟩⟩ rfl ?_);rintro cs1 ⟨_, _, rfl, rfl, ⟨_, _, rfl, rfl, ⟨_, _, rfl, rfl, ⟨_, _, rfl, rfl, ⟨_, _, rfl, rfl, rfl⟩⟩⟩⟩⟩;refine ⟨⟨.inr ⟨Inv.anti g.inv hmS1, Piece.holds_anti g.t.h hmS1, Piece.holds_anti g.t.t.t.t.t.h hmS1, trivial⟩, trivial⟩, ?_⟩
   refine qAv 6 22 (.tuple #[.agg (Vb (((qAl p0.2.2.2.2 y1).getD (eB, eB, 0, eB, 0, 0)).1) (((qAl p0.2.2.2.2 y1).getD (eB, eB, 0, eB, 0, 0)).2.1) (((qAl p0.2.2.2.2 y1).getD (eB, eB, 0, eB, 0, 0)).2.2.1) (((qAl p0.2.2.2.2 y1).getD (eB, eB, 0, eB, 0, 0)).2.2.2.1) (((qAl p0.2.2.2.2 y1).getD (eB, eB, 0, eB, 0, 0)).2.2.2.2.1) (((qAl p0.2.2.2.2 y1).getD (eB, eB, 0, eB, 0, 0)).2.2.2.2.2)), vB ((qAl p0.2.2.2.2 y1).isSome)]) (.head _) (qAv 7 29 (.agg (Vb (((qAl p0.2.2.2.2 y1).getD (eB, eB, 0, eB, 0, 0)).1) (((qAl p0.2.2.2.2 y1).getD (eB, eB, 0, eB, 0, 0)).2.1) (((qAl p0.2.2.2.2 y1).getD (eB, eB, 0, eB, 0, 0)).2.2.1) (((qAl p0.2.2.2.2 y1).getD (eB, eB, 0, eB, 0, 0)).2.2.2.1) (((qAl p0.2.2.2.2 y1).getD (eB, eB, 0, eB, 0, 0)).2.2.2.2.1) (((qAl p0.2.2.2.2 y1).getD (eB, eB, 0, eB, 0, 0)).2.2.2.2.2))) (.head _) (qAv 8 30 (vB ((qAl p0.2.2.2.2 y1).isSome)) (.head _) (qBs 10 kr  (qBa 37 10 29 (.agg (Vb (((qAl p0.2.2.2.2 y1).getD (eB, eB, 0, eB, 0, 0)).1) (((qAl p0.2.2.2.2 y1).getD (eB, eB, 0, eB, 0, 0)).2.1) (((qAl p0.2.2.2.2 y1).getD (eB, eB, 0, eB, 0, 0)).2.2.1) (((qAl p0.2.2.2.2 y1).getD (eB, eB, 0, eB, 0, 0)).2.2.2.1) (((qAl p0.2.2.2.2 y1).getD (eB, eB, 0, eB, 0, 0)).2.2.2.2.1) (((qAl p0.2.2.2.2 y1).getD (eB, eB, 0, eB, 0, 0)).2.2.2.2.2))) g fun w8 g => (⟨⟨.inr ⟨Inv.anti g.inv hmS1, Piece.holds_anti g.t.h hmS1, Piece.holds_anti g.t.t.t.t.t.h hmS1, trivial⟩, trivial⟩, ?_⟩)))))
   refine qAv 11 11 (vB ((qAl p0.2.2.2.2 y1).isSome)) (.head _) (qCc kr (qAf (W_sr (qAa 1 [(31, vB ((qAl p0.2.2.2.2 y1).isSome))] (WO_e (W_if i ?_ ?_))))))
   ·intro A i;refine W_sr (qAb rfl (qAk 32 37 10 0 (.agg (Vb (((qAl p0.2.2.2.2 y1).getD (eB, eB, 0, eB, 0, 0)).1) (((qAl p0.2.2.2.2 y1).getD (eB, eB, 0, eB, 0, 0)).2.1) (((qAl p0.2.2.2.2 y1).getD (eB, eB, 0, eB, 0, 0)).2.2.1) (((qAl p0.2.2.2.2 y1).getD (eB, eB, 0, eB, 0, 0)).2.2.2.1) (((qAl p0.2.2.2.2 y1).getD (eB, eB, 0, eB, 0, 0)).2.2.2.2.1) (((qAl p0.2.2.2.2 y1).getD (eB, eB, 0, eB, 0, 0)).2.2.2.2.2))) g.h (qAb rfl (qBa 37 8 32 (.agg (Vb (((qAl p0.2.2.2.2 y1).getD (eB, eB, 0, eB, 0, 0)).1) (((qAl p0.2.2.2.2 y1).getD (eB, eB, 0, eB, 0, 0)).2.1) (((qAl p0.2.2.2.2 y1).getD (eB, eB, 0, eB, 0, 0)).2.2.1) (((qAl p0.2.2.2.2 y1).getD (eB, eB, 0, eB, 0, 0)).2.2.2.1) (((qAl p0.2.2.2.2 y1).getD (eB, eB, 0, eB, 0, 0)).2.2.2.2.1) (((qAl p0.2.2.2.2 y1).getD (eB, eB, 0, eB, 0, 0)).2.2.2.2.2))) g.f2 fun w9 g => (WO_e (qAz (qAc ?_)))))));obtain rfl := sI i
    exact qGf [.cell 8 37] [.agg (Vb (((qAl p0.2.2.2.2 y1).getD (eB, eB, 0, eB, 0, 0)).1) (((qAl p0.2.2.2.2 y1).getD (eB, eB, 0, eB, 0, 0)).2.1) (((qAl p0.2.2.2.2 y1).getD (eB, eB, 0, eB, 0, 0)).2.2.1) (((qAl p0.2.2.2.2 y1).getD (eB, eB, 0, eB, 0, 0)).2.2.2.1) (((qAl p0.2.2.2.2 y1).getD (eB, eB, 0, eB, 0, 0)).2.2.2.2.1) (((qAl p0.2.2.2.2 y1).getD (eB, eB, 0, eB, 0, 0)).2.2.2.2.2))] rfl (ResAll.cons (ResAt.blk (v := .agg (Vb (((qAl p0.2.2.2.2 y1).getD (eB, eB, 0, eB, 0, 0)).1) (((qAl p0.2.2.2.2 y1).getD (eB, eB, 0, eB, 0, 0)).2.1) (((qAl p0.2.2.2.2 y1).getD (eB, eB, 0, eB, 0, 0)).2.2.1) (((qAl p0.2.2.2.2 y1).getD (eB, eB, 0, eB, 0, 0)).2.2.2.1) (((qAl p0.2.2.2.2 y1).getD (eB, eB, 0, eB, 0, 0)).2.2.2.2.1) (((qAl p0.2.2.2.2 y1).getD (eB, eB, 0, eB, 0, 0)).2.2.2.2.2))) (o := 0) kr g.h kr) ResAll.nil) ⟨m1, rfl, q, g.t.t.t.f2.f2.f2⟩
   ·intro A i;refine qAo (qAf (W_sr (qAa 1 [(33, vP b2 1)] (qAb rfl (qAk 34 9 33 1 (vT y1.2.1) g.t.h (qAa 3 [(37, .agg (Vb y1.2.1 p3 p1 eB 0 0))] (qAb rfl (qBa 37 8 37 (.agg (Vb y1.2.1 p3 p1 eB 0 0)) g.f2 fun w10 g => (WO_e (qAz ?_))))))))));cases i;exact qGf [.cell 8 37] [.agg (Vb y1.2.1 p3 p1 eB 0 0)] rfl (ResAll.cons (ResAt.blk (v := .agg (Vb y1.2.1 p3 p1 eB 0 0)) (o := 0) kr g.h kr) ResAll.nil) ⟨m1, rfl, q, g.t.t.t.f2.f2.f2⟩
def qJt (N : Nat) (p0 : T1u) (p1 : ByteArray) : Option T1x :=
 (qHd N p0 p1).bind fun y1 => if y1.2 = true then (some (1, ((⟨#[]⟩ : ByteArray), (⟨#[]⟩ : ByteArray), 0, (⟨#[]⟩ : ByteArray), 0, 0), [(4, p1, (⟨#[]⟩ : ByteArray))], 0)) else ((qEb 40 ([(4, p1, (⟨#[]⟩ : ByteArray))]) ([(3, p1, (⟨#[]⟩ : ByteArray))])).bind fun l1 => (qFb N p0 3 (⟨#[]⟩ : ByteArray) p1).bind fun y2 => if (y2.2.2.2.2.2 == 0) = true then (some (0, ((⟨#[]⟩ : ByteArray), (⟨#[]⟩ : ByteArray), 0, (⟨#[]⟩ : ByteArray), 0, 0), l1, 14)) else (if (decide (y2.2.2.2.2.2 > 1)) = true then (some (3, ((⟨#[]⟩ : ByteArray), (⟨#[]⟩ : ByteArray), 0, (⟨#[]⟩ : ByteArray), 0, 0), l1, 12)) else (some (2, y2, l1, 0))))
theorem qPl {p0 : T1u} {p1 : ByteArray} {q1 : Ts} {es1 : Array MapEntry} {ck1 : Nat} {q2 : Ts} {es2 : Array MapEntry} {ck2 : Nat} {r : T1x} (g : St m (qBc q1 es1 ck1 :: qBc q2 es2 ck2 :: kB bp0 #[vS a1 p0.1 c1, vB p0.2.1, .map q1, vS a2 p0.2.2.2.1 c2, .map q2] 66 :: O) w) (r1 : RepS C1 m a1 c1 p0.1) (r2 : MapQ (fun s : ByteArray => Value.string s) C6 true m q1 es1 ck1 p0.2.2.1) (r3 : RepS cStr m a2 c2 p0.2.2.2.1) (r4 : MapQ qHt C7 true m q2 es2 ck2 p0.2.2.2.2) (i : qJt N p0 p1 = some r) : Calls Tryd.prog 27 #[vP bp0 0, vT p1] w fun e w' => ∃ ra1 rc1 m', e = .returned (.tuple #[vI r.1, .agg (Vc r.2.1), vS ra1 r.2.2.1 rc1, vI r.2.2.2]) ∧ m.le m' ∧ St m' (kR ra1 r.2.2.1 rc1 70 3 :: qBc q1 es1 ck1 :: qBc q2 es2 ck2 :: kB bp0 #[vS a1 p0.1 c1, vB p0.2.1, .map q1, vS a2 p0.2.2.2.1 c2, .map q2] 66 :: O) w' ∧ RepS C8 m' ra1 rc1 r.2.2.1 := by
 unfold qJt at i;have q := m.le_refl;refine W_cA Tryd.func27 rfl Tryd.ntmps27 ?_;refine W_sr (qAa 1 [] (qAb rfl (qBy 5 37 (.agg (Vb eB eB 0 eB 0 0)) g fun b1 w1 g => (qAa 2 [] (WO_e (W_sr (qAa 2 [(12, .agg #[vI 4, vT p1, vT eB])] (qAb rfl (qAn (d := 13) (t := 38) (e := 70) (len := 1) (parts := #[(0, (.tmp 12))]) C8 (xs := [(4, p1, eB)]) [vI 4, vT p1, vT eB] kr rfl (fun _ => qAm kr _) rfl rfl g ⟨[vI 4, vT p1, vT eB], _, rfl, ⟨_, _, rfl, rfl, ⟨_, _, rfl, rfl, rfl⟩⟩, rfl⟩ fun b2 m1 w2 e1 g r5 => (qAa 1 [(6, vS (aP b2) ([(4, p1, eB)]) 1)] (WO_e (qAq (W_sr (qAa 2 [(15, vP bp0 0), (16, vT p1)] (qAr 17 i (fun _ h => qOo g.f4.f4.f4 (r1.mono e1) (r2.mono e1) (r3.mono e1) (r4.mono e1) h) ?_)))))))))))))));rintro y1 i _ w3 ⟨m2, rfl, e2, g⟩;refine qAa 5 [(9, vB y1.2)] (WO_e (W_sr (qAa 1 [(20, vB y1.2)] (WO_e (W_if i ?_ ?_)))))
 ·intro A i;refine W_sr (qAa 3 [(21, .agg (Vb eB eB 0 eB 0 0)), (22, vS (aP b2) ([(4, p1, eB)]) 1), (4, vI 1)] (qAb rfl (qBa 37 5 21 (.agg (Vb eB eB 0 eB 0 0)) g.f4 fun w4 g => (qAa 2 [(6, vS (aP b2) ([(4, p1, eB)]) 1), (7, vI 0)] (WO_e (qAz (qAc ?_)))))));cases i;exact qGf [.tmp 4, .cell 5 37, .tmp 6, .tmp 7] [vI 1, .agg (Vb eB eB 0 eB 0 0), vS (aP b2) ([(4, p1, eB)]) 1, vI 0] rfl (ResAll.cons (ResAt.tmp kr) (ResAll.cons (ResAt.blk (v := .agg (Vb eB eB 0 eB 0 0)) (o := 0) kr g.h kr) (ResAll.cons (ResAt.tmp kr) (ResAll.cons (ResAt.tmp kr) ResAll.nil)))) ⟨(aP b2), 1, m2, rfl, (q.t e1).t e2, g.t.f2.f2.f2.f3, r5.mono e2⟩
 ·intro A i;refine qAo (qAf (W_sr (qAa 3 [(23, vS (aP b2) ([(4, p1, eB)]) 1), (25, .agg #[vI 3, vT p1, vT eB])] (qAb rfl (qAn (d := 26) (t := 38) (e := 70) (len := 1) (parts := #[(0, (.tmp 25))]) C8 (xs := [(3, p1, eB)]) [vI 3, vT p1, vT eB] kr rfl (fun _ => qAm kr _) rfl rfl g ⟨[vI 3, vT p1, vT eB], _, rfl, ⟨_, _, rfl, rfl, ⟨_, _, rfl, rfl, rfl⟩⟩, rfl⟩ fun b3 m3 w5 e3 g r6 => (qAb rfl (qFy 27 38 38 70 40 23 26 g.f4 (.inl kr) ((r5.mono e2).mono e3) r6.src i fun l1 i a3 c3 m4 w6 e4 g r7 => (qAa 1 [(6, vS a3 l1 c3)] (qAs rfl ?_)))))))));have g := g.f1.t;refine qAf (W_sr (qAa 2 [(28, vP bp0 0), (29, vT p1)] (qAr 30 i (fun _ h => qIl g.f3.f3.f3 ((((r1.mono e1).mono e2).mono e3).mono e4) ((((r2.mono e1).mono e2).mono e3).mono e4) ((((r3.mono e1).mono e2).mono e3).mono e4) ((((r4.mono e1).mono e2).mono e3).mono e4) h) ?_)));rintro y2 i _ w7 ⟨m5, rfl, e5, g⟩;have q := ((((q.t e1).t e2).t e3).t e4).t e5;have r7 := r7.mono e5;refine qAb rfl (qBy 10 37 (.agg (Vb eB eB 0 eB 0 0)) g fun b4 w8 g => (qAb rfl (qBa 37 10 30 (.agg (Vc y2)) g fun w9 g => (WO_e (qAq (qAy (W_sr (qAa 1 [(32, vP b4 5)] (qAb rfl (qAk 33 3 32 5 (vI y2.2.2.2.2.2) g.h (qAa 2 [(31, vB (y2.2.2.2.2.2 == 0))] (WO_e (W_if i ?_ ?_)))))))))))))
  ·intro A i;refine W_sr (qAa 3 [(35, .agg (Vb eB eB 0 eB 0 0)), (36, vS a3 l1 c3), (4, vI 0)] (qAb rfl (qBa 37 5 35 (.agg (Vb eB eB 0 eB 0 0)) g.f5 fun w10 g => (qAa 2 [(6, vS a3 l1 c3), (7, vI 14)] (WO_e (qAz (qAg (qAc ?_))))))));obtain rfl := sI i;exact qGf [.tmp 4, .cell 5 37, .tmp 6, .tmp 7] [vI 0, .agg (Vb eB eB 0 eB 0 0), vS a3 l1 c3, vI 14] rfl (ResAll.cons (ResAt.tmp kr) (ResAll.cons (ResAt.blk (v := .agg (Vb eB eB 0 eB 0 0)) (o := 0) kr g.h kr) (ResAll.cons (ResAt.tmp kr) (ResAll.cons (ResAt.tmp kr) ResAll.nil)))) ⟨a3, c3, m5, rfl, q, g.t.t.f2.f2.f2.f3, r7⟩
  ·intro A i;refine W_sr (qAa 1 [(38, vP b4 5)] (qAb rfl (qAk 39 3 38 5 (vI y2.2.2.2.2.2) g.h (qAa 2 [(37, vB (decide (y2.2.2.2.2.2 > 1)))] (WO_e (W_if i ?_ ?_))))))
   ·intro A i;refine W_sr (qAa 3 [(41, .agg (Vb eB eB 0 eB 0 0)), (42, vS a3 l1 c3), (4, vI 3)] (qAb rfl (qBa 37 5 41 (.agg (Vb eB eB 0 eB 0 0)) g.f5 fun w11 g => (qAa 2 [(6, vS a3 l1 c3), (7, vI 12)] (WO_e (qAz (qAg (qAc ?_))))))));obtain rfl := sI i;exact qGf [.tmp 4, .cell 5 37, .tmp 6, .tmp 7] [vI 3, .agg (Vb eB eB 0 eB 0 0), vS a3 l1 c3, vI 12] rfl (ResAll.cons (ResAt.tmp kr) (ResAll.cons (ResAt.blk (v := .agg (Vb eB eB 0 eB 0 0)) (o := 0) kr g.h kr) (ResAll.cons (ResAt.tmp kr) (ResAll.cons (ResAt.tmp kr) ResAll.nil)))) ⟨a3, c3, m5, rfl, q, g.t.t.f2.f2.f2.f3, r7⟩
   ·intro A i;refine qAo (qBi (qAf (qAq (qEn [(6, fun w' => Inv m5 w' ∧ Piece.holds m5 w' (kB b4 (Vc y2) 37) ∧ True)] kr g fun w12 _ g => ?_))));have hmS1 := m5.le_refl;refine ⟨⟨.inr ⟨Inv.anti g.inv hmS1, Piece.holds_anti g.h hmS1, trivial⟩, trivial⟩, ?_⟩;refine qEq 37 10 0 43 0 (.agg (Vc y2)) (.head _) (fun _ h => h.2.1) (qAv 1 44 (vS a3 l1 c3) (.head _) (qAv 2 4 (vI 2) (.head _) (qBs 3 kr  (qBa 37 5 43 (.agg (Vc y2)) g.f5 fun w13 g => (⟨⟨.inr ⟨Inv.anti g.inv hmS1, Piece.holds_anti g.t.h hmS1, trivial⟩, trivial⟩, ?_⟩)))));refine qAv 4 6 (vS a3 l1 c3) (.head _) (qAv 5 7 (vI 0) (.head _) (qCc kr (qAf (qAz ?_))));obtain rfl := sI i;exact qGf [.tmp 4, .cell 5 37, .tmp 6, .tmp 7] [vI 2, .agg (Vc y2), vS a3 l1 c3, vI 0] rfl (ResAll.cons (ResAt.tmp kr) (ResAll.cons (ResAt.blk (v := .agg (Vc y2)) (o := 0) kr g.h kr) (ResAll.cons (ResAt.tmp kr) (ResAll.cons (ResAt.tmp kr) ResAll.nil)))) ⟨a3, c3, m5, rfl, q, g.t.t.f2.f2.f2.f3, r7⟩
def qIs (N : Nat) (p0 : Tg) (p1 : ByteArray) : Option T1x :=
 (qLx N p0).bind fun y1 => (if (!y1.2.1) = true then (some true) else ((qFm N p1).bind fun y2 => some (!y2)) : T9).bind fun o1 => if o1 = true then (some (0, ((⟨#[]⟩ : ByteArray), (⟨#[]⟩ : ByteArray), 0, (⟨#[]⟩ : ByteArray), 0, 0), ([] : T1v), 1)) else ((qJt N y1 p1).bind fun y3 => some (y3.1, y3.2.1, y3.2.2.1, y3.2.2.2))
theorem qNd {p0 : Tg} {p1 : ByteArray} {r : T1x} (g : St m (O) w) (r1 : RepS C1 m a1 c1 p0) (i : qIs N p0 p1 = some r) : Calls Tryd.prog 9 #[.agg #[vS a1 p0 c1], vT p1] w fun e w' => ∃ ra1 rc1 m', e = .returned (.tuple #[vI r.1, .agg (Vc r.2.1), vS ra1 r.2.2.1 rc1, vI r.2.2.2]) ∧ m.le m' ∧ St m' (kR ra1 r.2.2.1 rc1 70 3 :: O) w' ∧ RepS C8 m' ra1 rc1 r.2.2.1 := by
 unfold qIs at i;have q := m.le_refl;refine W_cA Tryd.func9 rfl Tryd.ntmps9 ?_;refine W_sr (qAb rfl (qIw 2 28 0 (.agg #[vS a1 p0 c1]) g fun b1 m1 w1 e1 g hb1 => (qAa 1 [] (qAb rfl (qBy 5 37 (.agg (Vb eB eB 0 eB 0 0)) g fun b2 w2 g => (qAa 2 [] (WO_e (W_sr (qFd 9 28 2 0 (.agg #[vS a1 p0 c1]) g hb1 (qAr 10 i (fun _ h => qPw g (r1.mono e1) h) ?_))))))))));rintro y1 i _ w3 ⟨b3, a2, c2, q1, es1, ck1, a3, c3, q2, es2, ck2, m2, rfl, e2, g, r2, r3, r4, r5⟩;refine qAa 1 [(8, vP b3 0)] (WO_e (qAq (W_sr ?_)));have ⟨o1, i, J⟩ := qAx i;refine qFx (j := 10) (fun L' w' => ∃ m3, L' = [(1, vT p1), (5, vP b2 0), (8, vP b3 0), (20, vB o1)] ∧ m.le m3 ∧ St m3 (kB b3 #[vS a2 y1.1 c2, vB y1.2.1, .map q1, vS a3 y1.2.2.2.1 c3, .map q2] 66 :: kB b2 (Vb eB eB 0 eB 0 0) 37 :: qBc q1 es1 ck1 :: qBc q2 es2 ck2 :: O) w' ∧ RepS C1 m3 a2 c2 y1.1 ∧ RepS cStr m3 a3 c3 y1.2.2.2.1 ∧ MapQ (fun s : ByteArray => Value.string s) C6 true m3 q1 es1 ck1 y1.2.2.1 ∧ MapQ qHt C7 true m3 q2 es2 ck2 y1.2.2.2.2) ?_ ?_
 ·have i := J;rintro _ w4 ⟨m3, rfl, q, g, r2, r4, r3, r5⟩;refine WO_e (W_if i ?_ ?_)
  ·intro A i;refine W_sr (qAa 2 [(21, .agg (Vb eB eB 0 eB 0 0)), (4, vI 0)] (qAb rfl (qBa 37 5 21 (.agg (Vb eB eB 0 eB 0 0)) g.f1 fun w6 g => (qAa 2 [(6, vS none ([] : T1v) 0), (7, vI 1)] (WO_e (qAz (qAc ?_)))))));cases i;refine qGf [.tmp 4, .cell 5 37, .tmp 6, .tmp 7] [vI 0, .agg (Vb eB eB 0 eB 0 0), vS none ([] : T1v) 0, vI 1] rfl (ResAll.cons (ResAt.tmp kr) (ResAll.cons (ResAt.blk (v := .agg (Vb eB eB 0 eB 0 0)) (o := 0) kr g.h kr) (ResAll.cons (ResAt.tmp kr) (ResAll.cons (ResAt.tmp kr) ResAll.nil)))) ?_;have g := (g.nilroom 70 3).front1;exact ⟨none, 0, m3, rfl, q, g.t.f1.t.f1.t.f1.t, (RepS.nil _ _)⟩
  ·intro A i;refine qAo (qAf (W_sr (qAa 2 [(22, vP b3 0), (23, vT p1)] (qAr 24 i (fun _ h => qPl g.f3.f3 r2 r3 r4 r5 h) ?_))));rintro y3 i _ w7 ⟨a4, c4, m5, rfl, e4, g, r6⟩;refine qAa 5 [(26, .agg (Vc y3.2.1)), (27, vS a4 y3.2.2.1 c4), (28, vI y3.2.2.2), (4, vI y3.1)] (qAb rfl (qBa 37 5 26 (.agg (Vc y3.2.1)) g.f4 fun w8 g => (qAa 2 [(6, vS a4 y3.2.2.1 c4), (7, vI y3.2.2.2)] (WO_e (qAz ?_)))));obtain rfl := sI i;exact qGf [.tmp 4, .cell 5 37, .tmp 6, .tmp 7] [vI y3.1, .agg (Vc y3.2.1), vS a4 y3.2.2.1 c4, vI y3.2.2.2] rfl (ResAll.cons (ResAt.tmp kr) (ResAll.cons (ResAt.blk (v := .agg (Vc y3.2.1)) (o := 0) kr g.h kr) (ResAll.cons (ResAt.tmp kr) (ResAll.cons (ResAt.tmp kr) ResAll.nil)))) ⟨a4, c4, m5, rfl, q.t e4, g.t.f1.t.f1.t.f1.t, r6⟩
 ·intro K;refine qAa 3 [(13, vP b3 1)] (qAb rfl (qAk 14 4 13 1 (vB y1.2.1) g.t.t.h (qAa 2 [(16, vB (!y1.2.1))] (qFh 16 i ?_ ?_))))
  ·intro A i;refine qAa 4 [(20, vB true)] ?_;cases i;exact qBp _ kr (K _ _ ⟨m2, rfl, (q.t e1).t e2, g.f1.f1.f3.f3, r2, r4, r3, r5⟩)
  ·intro A i;refine qAa 1 [(17, vT p1)] (qAr 18 i (fun _ h => qKf g h) ?_);rintro y2 i _ w5 ⟨m4, rfl, e3, g⟩;refine qAa 2 [(20, vB (!y2))] ?_;cases i;exact qBp _ kr (K _ _ ⟨m4, rfl, ((q.t e1).t e2).t e3, g.f1.f1.f3.f3, r2.mono e3, r4.mono e3, r3.mono e3, r5.mono e3⟩)
def qFl (N : Nat) (p0 : T1u) (p1 : T1l) (p2 : ByteArray) (s1 : Int × T1y) : Option (Int × T1y ⊕ T1y ⊕ T1 × T1 × Int × T1 × Int × Int × T1v × Nat) :=
 if (decide (s1.1 < (List.length p1.2.1 : Int))) = true then ((idx p1.2.1 s1.1).bind fun x1 => (qEb 40 s1.2.2.2.2.2.2.2 ([(1, x1, p2)])).bind fun l3 => (qFb N p0 1 x1 p2).bind fun y2 => if (decide (y2.2.2.2.2.2 > 0)) = true then (some (.inr (.inr ((y2.1, y2.2.1, y2.2.2.1, y2.2.2.2.1, y2.2.2.2.2.1, y2.2.2.2.2.2, l3, 1))))) else (some (.inl (IntKind.wrap .i64 (s1.1 + 1), y2.1, y2.2.1, y2.2.2.1, y2.2.2.2.1, y2.2.2.2.2.1, y2.2.2.2.2.2, l3)))) else (some (.inr (.inl s1.2)))
def qHh (N : Nat) (p0 : T1u) (p1 : T1l) (p2 : ByteArray) : Option T1w :=
 ((qEb 40 ([] : T1v) ([(1, p1.1, p2)])).bind fun l2 => (qFb N p0 1 p1.1 p2).bind fun y1 => if (decide (y1.2.2.2.2.2 > 0)) = true then (some (y1.1, y1.2.1, y1.2.2.1, y1.2.2.2.1, y1.2.2.2.2.1, y1.2.2.2.2.2, l2, 1)) else ((qBe (qFl N p0 p1 p2) N (0, y1.1, y1.2.1, y1.2.2.1, y1.2.2.2.1, y1.2.2.2.2.1, y1.2.2.2.2.2, l2)).bind fun out1 => (match out1 with | .inl o2 => some (o2.1, o2.2.1, o2.2.2.1, o2.2.2.2.1, o2.2.2.2.2.1, o2.2.2.2.2.2.1, o2.2.2.2.2.2.2, 0) | .inr (z) => some z)) : Option (T1 × T1 × Int × T1 × Int × Int × T1v × Nat)).bind fun o1 => if o1.2.2.2.2.2.2.2 = 0 then (if (o1.2.2.2.2.2.1 == 0) = true then (some (((⟨#[]⟩ : ByteArray), (⟨#[]⟩ : ByteArray), 0, (⟨#[]⟩ : ByteArray), 0, 0), o1.2.2.2.2.2.2.1, 11)) else (if (decide (o1.2.2.2.2.2.1 > 1)) = true then (some (((⟨#[]⟩ : ByteArray), (⟨#[]⟩ : ByteArray), 0, (⟨#[]⟩ : ByteArray), 0, 0), o1.2.2.2.2.2.2.1, 12)) else (some ((o1.1, o1.2.1, o1.2.2.1, o1.2.2.2.1, o1.2.2.2.2.1, o1.2.2.2.2.2.1), o1.2.2.2.2.2.2.1, 0)))) else (if o1.2.2.2.2.2.2.2 = 1 then (if (o1.2.2.2.2.2.1 == 0) = true then (some (((⟨#[]⟩ : ByteArray), (⟨#[]⟩ : ByteArray), 0, (⟨#[]⟩ : ByteArray), 0, 0), o1.2.2.2.2.2.2.1, 11)) else (if (decide (o1.2.2.2.2.2.1 > 1)) = true then (some (((⟨#[]⟩ : ByteArray), (⟨#[]⟩ : ByteArray), 0, (⟨#[]⟩ : ByteArray), 0, 0), o1.2.2.2.2.2.2.1, 12)) else (some ((o1.1, o1.2.1, o1.2.2.1, o1.2.2.2.1, o1.2.2.2.2.1, o1.2.2.2.2.2.1), o1.2.2.2.2.2.2.1, 0)))) else none)
theorem qPt {p0 : T1u} {p1 : T1l} {p2 : ByteArray} {q1 : Ts} {es1 : Array MapEntry} {ck1 : Nat} {q2 : Ts} {es2 : Array MapEntry} {ck2 : Nat} {r : T1w} (g : St m (qBc q1 es1 ck1 :: qBc q2 es2 ck2 :: kB bp0 #[vS a1 p0.1 c1, vB p0.2.1, .map q1, vS a2 p0.2.2.2.1 c2, .map q2] 66 :: O) w) (r1 : RepS C1 m a1 c1 p0.1) (r2 : MapQ (fun s : ByteArray => Value.string s) C6 true m q1 es1 ck1 p0.2.2.1) (r3 : RepS cStr m a2 c2 p0.2.2.2.1) (r4 : MapQ qHt C7 true m q2 es2 ck2 p0.2.2.2.2) (r5 : RepS cStr m a3 c3 p1.2.1) (r6 : RepS C5 m a4 c4 p1.2.2) (i : qHh N p0 p1 p2 = some r) : Calls Tryd.prog 29 #[vP bp0 0, .agg (V9 p1 a3 c3 a4 c4), vT p2] w fun e w' => ∃ ra1 rc1 m', e = .returned (.tuple #[.agg (Vc r.1), vS ra1 r.2.1 rc1, vI r.2.2]) ∧ m.le m' ∧ St m' (kR ra1 r.2.1 rc1 70 3 :: qBc q1 es1 ck1 :: qBc q2 es2 ck2 :: kB bp0 #[vS a1 p0.1 c1, vB p0.2.1, .map q1, vS a2 p0.2.2.2.1 c2, .map q2] 66 :: O) w' ∧ RepS C8 m' ra1 rc1 r.2.1 := by
 unfold qHh at i;have q := m.le_refl;refine zEb Tryd.func29 rfl Tryd.ntmps29 [(0, vP bp0 0), (1, .agg (V9 p1 a3 c3 a4 c4)), (2, vT p2)] kr rfl ?_;refine W_sr (qAb rfl (qIw 3 61 0 (vP bp0 0) g fun b1 m1 w1 e1 g hb1 => (qAb rfl (qIw 4 45 1 (.agg (V9 p1 a3 c3 a4 c4)) g fun b2 m2 w2 e2 g hb2 => (qAb rfl (qIw 5 9 2 (vT p2) g fun b3 m3 w3 e3 g hb3 => (qAb rfl (qBy 6 37 (.agg (Vb eB eB 0 eB 0 0)) g fun b4 w4 g => (qAa 2 [] (WO_e (zCy (W_sr (qAb rfl (qBy 9 38 (.slice none 0 0) g fun b5 w5 g => (WO_e (W_sr (qAb rfl (qBy 10 37 (.agg (Vb eB eB 0 eB 0 0)) g fun b6 w6 g => (WO_e (qAq (zBc (qAf (qAq (W_sr (qFd 12 45 4 0 (.agg (V9 p1 a3 c3 a4 c4)) g (hb2.mono e3) (qAb rfl (qJl 13 48 #[.agg (V9 p1 a3 c3 a4 c4)] kr rfl (W_cA Tryd.func48 rfl Tryd.ntmps48 (W_sr (qAb rfl (qLr 1 45 0 (.agg (V9 p1 a3 c3 a4 c4)) g fun b7 w7 g => (qAa 1 [] (WO_e (W_sr (qAa 2 [(2, .func (.func 74) #[] #[vP b7 0])] (WO_e (qAz (X_rt [2] [.func (.func 74) #[] #[vP b7 0]] (⟨_, rfl, ?_⟩)))))))))))))))))))))))))))))))))))))));refine WO_e (qAy (qYe (f := 74) (cap := #[vP b7 0]) [.exit 0] kr (qRk Tryd.func74 kr) g fun q3 l1 w8 hpq3 haq3 hbq3 htq3 g => ?_));have ⟨o1, i, j1⟩ := qAx i
 refine qRb (fun v' w' => ∃ a5 c5 m5, v' = (.tuple #[]) ∧ m.le m5 ∧ St m5 (kB b7 (V9 p1 a3 c3 a4 c4) 45 :: kB b6 (Vb o1.1 o1.2.1 o1.2.2.1 o1.2.2.2.1 o1.2.2.2.2.1 o1.2.2.2.2.2.1) 37 :: kB b5 #[vS a5 o1.2.2.2.2.2.2.1 c5] 38 :: kB b4 (Vb eB eB 0 eB 0 0) 37 :: kB bp0 #[vS a1 p0.1 c1, vB p0.2.1, .map q1, vS a2 p0.2.2.2.1 c2, .map q2] 66 :: qLt l1 q3 [.exit 0] o1.2.2.2.2.2.2.2 :: qBc q1 es1 ck1 :: qBc q2 es2 ck2 :: qWx q3.D :: kR a5 o1.2.2.2.2.2.2.1 c5 70 3 :: O) w' ∧ MRow m5 b1 0 [vP bp0 0] ∧ MRow m5 b3 0 [vT p2] ∧ RepS cStr m5 a3 c3 p1.2.1 ∧ RepS C5 m5 a4 c4 p1.2.2 ∧ RepS C8 m5 a5 c5 o1.2.2.2.2.2.2.1 ∧ RepS C1 m5 a1 c1 p0.1 ∧ RepS cStr m5 a2 c2 p0.2.2.2.1 ∧ MapQ (fun s : ByteArray => Value.string s) C6 true m5 q1 es1 ck1 p0.2.2.1 ∧ MapQ qHt C7 true m5 q2 es2 ck2 p0.2.2.2.2) ?_ ?_
 ·have i := j1;rintro _ w9 ⟨a5, c5, m5, rfl, q, g, hb1, hb3, r5, r6, r7, r1, r3, r2, r4⟩;refine ⟨_, rfl, ?_⟩;have g := g.f5
  by_cases hj1 : o1.2.2.2.2.2.2.2 = 0
  ·rw [if_pos hj1] at i;rw [hj1] at g;refine zAf 0 g rfl fun w28 g => ?_;refine qBi (qAf (qAq (qAy (W_sr (qAa 1 [(29, vP b6 5)] (qAb rfl (qAk 30 3 29 5 (vI o1.2.2.2.2.2.1) g.t.h (qAa 2 [(28, vB (o1.2.2.2.2.2.1 == 0))] (WO_e (W_if i ?_ ?_))))))))))
   ·intro A i;refine qAq (qEn [(5, fun w' => Inv m5 w' ∧ Piece.holds m5 w' (kB b5 #[vS a5 o1.2.2.2.2.2.2.1 c5] 38) ∧ True)] kr g fun w29 _ g => ?_);have hmS1 := m5.le_refl;refine ⟨⟨.inr ⟨Inv.anti g.inv hmS1, Piece.holds_anti g.t.t.h hmS1, trivial⟩, trivial⟩, ?_⟩;refine qAv 0 32 (.agg (Vb eB eB 0 eB 0 0)) (.head _) (qEq 38 9 1 33 0 (vS a5 o1.2.2.2.2.2.2.1 c5) (.head _) (fun _ h => h.2.1) (qBs 2 kr  (qBa 37 6 32 (.agg (Vb eB eB 0 eB 0 0)) g.f3 fun w30 g => (⟨⟨.inr ⟨Inv.anti g.inv hmS1, Piece.holds_anti g.t.t.t.h hmS1, trivial⟩, trivial⟩, ?_⟩))));refine qAv 3 7 (vS a5 o1.2.2.2.2.2.2.1 c5) (.head _) (qAv 4 8 (vI 11) (.head _) (qCc kr (qAf (qAz (qAg (qAc (qHc ?_)))))));cases i;refine qSr g.f7 fun w31 g => ?_;refine qSn [.cell 6 37, .tmp 7, .tmp 8] [.agg (Vb eB eB 0 eB 0 0), vS a5 o1.2.2.2.2.2.2.1 c5, vI 11] rfl (ResAll.cons (ResAt.blk (v := .agg (Vb eB eB 0 eB 0 0)) (o := 0) kr g.h kr) (ResAll.cons (ResAt.tmp kr) (ResAll.cons (ResAt.tmp kr) ResAll.nil))) ?_;exact ⟨a5, c5, m5, rfl, q, g.t.t.t.t.f2.f2.f3, r7⟩
   ·intro A i;refine W_sr (qAa 1 [(35, vP b6 5)] (qAb rfl (qAk 36 3 35 5 (vI o1.2.2.2.2.2.1) g.t.h (qAa 2 [(34, vB (decide (o1.2.2.2.2.2.1 > 1)))] (WO_e (W_if i ?_ ?_))))))
    ·intro A i;refine qAq (qEn [(5, fun w' => Inv m5 w' ∧ Piece.holds m5 w' (kB b5 #[vS a5 o1.2.2.2.2.2.2.1 c5] 38) ∧ True)] kr g fun w32 _ g => ?_);have hmS2 := m5.le_refl;refine ⟨⟨.inr ⟨Inv.anti g.inv hmS2, Piece.holds_anti g.t.t.h hmS2, trivial⟩, trivial⟩, ?_⟩;refine qAv 0 38 (.agg (Vb eB eB 0 eB 0 0)) (.head _) (qEq 38 9 1 39 0 (vS a5 o1.2.2.2.2.2.2.1 c5) (.head _) (fun _ h => h.2.1) (qBs 2 kr  (qBa 37 6 38 (.agg (Vb eB eB 0 eB 0 0)) g.f3 fun w33 g => (⟨⟨.inr ⟨Inv.anti g.inv hmS2, Piece.holds_anti g.t.t.t.h hmS2, trivial⟩, trivial⟩, ?_⟩))));refine qAv 3 7 (vS a5 o1.2.2.2.2.2.2.1 c5) (.head _) (qAv 4 8 (vI 12) (.head _) (qCc kr (qAf (qAz (qAg (qAc (qHc ?_)))))));cases i;refine qSr g.f7 fun w34 g => ?_;refine qSn [.cell 6 37, .tmp 7, .tmp 8] [.agg (Vb eB eB 0 eB 0 0), vS a5 o1.2.2.2.2.2.2.1 c5, vI 12] rfl (ResAll.cons (ResAt.blk (v := .agg (Vb eB eB 0 eB 0 0)) (o := 0) kr g.h kr) (ResAll.cons (ResAt.tmp kr) (ResAll.cons (ResAt.tmp kr) ResAll.nil))) ?_;exact ⟨a5, c5, m5, rfl, q, g.t.t.t.t.f2.f2.f3, r7⟩
    ·intro A i;refine qAo (qBi (qAf (qAq (qEn [(5, fun w' => Inv m5 w' ∧ Piece.holds m5 w' (kB b6 (Vb o1.1 o1.2.1 o1.2.2.1 o1.2.2.2.1 o1.2.2.2.2.1 o1.2.2.2.2.2.1) 37) ∧ Piece.holds m5 w' (kB b5 #[vS a5 o1.2.2.2.2.2.2.1 c5] 38) ∧ True)] kr g fun w35 _ g => ?_))));have hmS3 := m5.le_refl;refine ⟨⟨.inr ⟨Inv.anti g.inv hmS3, Piece.holds_anti g.t.h hmS3, Piece.holds_anti g.t.t.h hmS3, trivial⟩, trivial⟩, ?_⟩;refine qEq 37 10 0 40 0 (.agg (Vb o1.1 o1.2.1 o1.2.2.1 o1.2.2.2.1 o1.2.2.2.2.1 o1.2.2.2.2.2.1)) (.head _) (fun _ h => h.2.1) (qEq 38 9 1 41 0 (vS a5 o1.2.2.2.2.2.2.1 c5) (.head _) (fun _ h => h.2.2.1) (qBs 2 kr  (qBa 37 6 40 (.agg (Vb o1.1 o1.2.1 o1.2.2.1 o1.2.2.2.1 o1.2.2.2.2.1 o1.2.2.2.2.2.1)) g.f3 fun w36 g => (⟨⟨.inr ⟨Inv.anti g.inv hmS3, Piece.holds_anti g.t.t.h hmS3, Piece.holds_anti g.t.t.t.h hmS3, trivial⟩, trivial⟩, ?_⟩))));refine qAv 3 7 (vS a5 o1.2.2.2.2.2.2.1 c5) (.head _) (qAv 4 8 (vI 0) (.head _) (qCc kr (qAf (qAz (qHc ?_)))));obtain rfl := sI i;refine qSr g.f7 fun w37 g => ?_;refine qSn [.cell 6 37, .tmp 7, .tmp 8] [.agg (Vb o1.1 o1.2.1 o1.2.2.1 o1.2.2.2.1 o1.2.2.2.2.1 o1.2.2.2.2.2.1), vS a5 o1.2.2.2.2.2.2.1 c5, vI 0] rfl (ResAll.cons (ResAt.blk (v := .agg (Vb o1.1 o1.2.1 o1.2.2.1 o1.2.2.2.1 o1.2.2.2.2.1 o1.2.2.2.2.2.1)) (o := 0) kr g.h kr) (ResAll.cons (ResAt.tmp kr) (ResAll.cons (ResAt.tmp kr) ResAll.nil))) ?_;exact ⟨a5, c5, m5, rfl, q, g.t.t.t.t.f2.f2.f3, r7⟩
  ·rw [if_neg hj1] at i
   by_cases hj2 : o1.2.2.2.2.2.2.2 = 1
   ·rw [if_pos hj2] at i;rw [hj2] at g;refine zAa 1 g rfl fun w38 g => ?_;refine qDl (qBj (qAf (qAq (qAy (W_sr (qAa 1 [(29, vP b6 5)] (qAb rfl (qAk 30 3 29 5 (vI o1.2.2.2.2.2.1) g.t.h (qAa 2 [(28, vB (o1.2.2.2.2.2.1 == 0))] (WO_e (W_if i ?_ ?_)))))))))))
    ·intro A i;refine qAq (qEn [(5, fun w' => Inv m5 w' ∧ Piece.holds m5 w' (kB b5 #[vS a5 o1.2.2.2.2.2.2.1 c5] 38) ∧ True)] kr g fun w39 _ g => ?_);have hmS4 := m5.le_refl;refine ⟨⟨.inr ⟨Inv.anti g.inv hmS4, Piece.holds_anti g.t.t.h hmS4, trivial⟩, trivial⟩, ?_⟩;refine qAv 0 32 (.agg (Vb eB eB 0 eB 0 0)) (.head _) (qEq 38 9 1 33 0 (vS a5 o1.2.2.2.2.2.2.1 c5) (.head _) (fun _ h => h.2.1) (qBs 2 kr  (qBa 37 6 32 (.agg (Vb eB eB 0 eB 0 0)) g.f3 fun w40 g => (⟨⟨.inr ⟨Inv.anti g.inv hmS4, Piece.holds_anti g.t.t.t.h hmS4, trivial⟩, trivial⟩, ?_⟩))));refine qAv 3 7 (vS a5 o1.2.2.2.2.2.2.1 c5) (.head _) (qAv 4 8 (vI 11) (.head _) (qCc kr (qAf (qAz (qAg (qAc (qHc ?_)))))));cases i;refine qSr g.f7 fun w41 g => ?_;refine qSn [.cell 6 37, .tmp 7, .tmp 8] [.agg (Vb eB eB 0 eB 0 0), vS a5 o1.2.2.2.2.2.2.1 c5, vI 11] rfl (ResAll.cons (ResAt.blk (v := .agg (Vb eB eB 0 eB 0 0)) (o := 0) kr g.h kr) (ResAll.cons (ResAt.tmp kr) (ResAll.cons (ResAt.tmp kr) ResAll.nil))) ?_;exact ⟨a5, c5, m5, rfl, q, g.t.t.t.t.f2.f2.f3, r7⟩
    ·intro A i;refine W_sr (qAa 1 [(35, vP b6 5)] (qAb rfl (qAk 36 3 35 5 (vI o1.2.2.2.2.2.1) g.t.h (qAa 2 [(34, vB (decide (o1.2.2.2.2.2.1 > 1)))] (WO_e (W_if i ?_ ?_))))))
     ·intro A i;refine qAq (qEn [(5, fun w' => Inv m5 w' ∧ Piece.holds m5 w' (kB b5 #[vS a5 o1.2.2.2.2.2.2.1 c5] 38) ∧ True)] kr g fun w42 _ g => ?_);have hmS5 := m5.le_refl;refine ⟨⟨.inr ⟨Inv.anti g.inv hmS5, Piece.holds_anti g.t.t.h hmS5, trivial⟩, trivial⟩, ?_⟩;refine qAv 0 38 (.agg (Vb eB eB 0 eB 0 0)) (.head _) (qEq 38 9 1 39 0 (vS a5 o1.2.2.2.2.2.2.1 c5) (.head _) (fun _ h => h.2.1) (qBs 2 kr  (qBa 37 6 38 (.agg (Vb eB eB 0 eB 0 0)) g.f3 fun w43 g => (⟨⟨.inr ⟨Inv.anti g.inv hmS5, Piece.holds_anti g.t.t.t.h hmS5, trivial⟩, trivial⟩, ?_⟩))));refine qAv 3 7 (vS a5 o1.2.2.2.2.2.2.1 c5) (.head _) (qAv 4 8 (vI 12) (.head _) (qCc kr (qAf (qAz (qAg (qAc (qHc ?_)))))));cases i;refine qSr g.f7 fun w44 g => ?_;refine qSn [.cell 6 37, .tmp 7, .tmp 8] [.agg (Vb eB eB 0 eB 0 0), vS a5 o1.2.2.2.2.2.2.1 c5, vI 12] rfl (ResAll.cons (ResAt.blk (v := .agg (Vb eB eB 0 eB 0 0)) (o := 0) kr g.h kr) (ResAll.cons (ResAt.tmp kr) (ResAll.cons (ResAt.tmp kr) ResAll.nil))) ?_;exact ⟨a5, c5, m5, rfl, q, g.t.t.t.t.f2.f2.f3, r7⟩
     ·intro A i;refine qAo (qBi (qAf (qAq (qEn [(5, fun w' => Inv m5 w' ∧ Piece.holds m5 w' (kB b6 (Vb o1.1 o1.2.1 o1.2.2.1 o1.2.2.2.1 o1.2.2.2.2.1 o1.2.2.2.2.2.1) 37) ∧ Piece.holds m5 w' (kB b5 #[vS a5 o1.2.2.2.2.2.2.1 c5] 38) ∧ True)] kr g fun w45 _ g => ?_))));have hmS6 := m5.le_refl;refine ⟨⟨.inr ⟨Inv.anti g.inv hmS6, Piece.holds_anti g.t.h hmS6, Piece.holds_anti g.t.t.h hmS6, trivial⟩, trivial⟩, ?_⟩;refine qEq 37 10 0 40 0 (.agg (Vb o1.1 o1.2.1 o1.2.2.1 o1.2.2.2.1 o1.2.2.2.2.1 o1.2.2.2.2.2.1)) (.head _) (fun _ h => h.2.1) (qEq 38 9 1 41 0 (vS a5 o1.2.2.2.2.2.2.1 c5) (.head _) (fun _ h => h.2.2.1) (qBs 2 kr  (qBa 37 6 40 (.agg (Vb o1.1 o1.2.1 o1.2.2.1 o1.2.2.2.1 o1.2.2.2.2.1 o1.2.2.2.2.2.1)) g.f3 fun w46 g => (⟨⟨.inr ⟨Inv.anti g.inv hmS6, Piece.holds_anti g.t.t.h hmS6, Piece.holds_anti g.t.t.t.h hmS6, trivial⟩, trivial⟩, ?_⟩))));refine qAv 3 7 (vS a5 o1.2.2.2.2.2.2.1 c5) (.head _) (qAv 4 8 (vI 0) (.head _) (qCc kr (qAf (qAz (qHc ?_)))));obtain rfl := sI i;refine qSr g.f7 fun w47 g => ?_;refine qSn [.cell 6 37, .tmp 7, .tmp 8] [.agg (Vb o1.1 o1.2.1 o1.2.2.1 o1.2.2.2.1 o1.2.2.2.2.1 o1.2.2.2.2.2.1), vS a5 o1.2.2.2.2.2.2.1 c5, vI 0] rfl (ResAll.cons (ResAt.blk (v := .agg (Vb o1.1 o1.2.1 o1.2.2.1 o1.2.2.2.1 o1.2.2.2.2.1 o1.2.2.2.2.2.1)) (o := 0) kr g.h kr) (ResAll.cons (ResAt.tmp kr) (ResAll.cons (ResAt.tmp kr) ResAll.nil))) ?_;exact ⟨a5, c5, m5, rfl, q, g.t.t.t.t.f2.f2.f3, r7⟩
   ·rw [if_neg hj2] at i;cases i
 ·refine W_cA Tryd.func74 rfl Tryd.ntmps74 ?_;refine qAq (W_sr (qAa 2 [(5, .func (.yield l1) #[] #[]), (6, vP b7 0)] (qAb rfl (qAk 7 9 6 0 (vT p1.1) g.t.t.h (qAb rfl (qWd (d := 8) (l := l1) (x := (.tmp 5)) (xs := #[(.tmp 7)]) (ts := #[9]) [vT p1.1] kr rfl (ev (.func (.yield l1) #[] #[])) kr htq3 hpq3 haq3 hbq3 rfl kr g ?_))))));intro R1 hR1;refine qJb rfl ?_;refine qAa 1 [(11, vT p1.1)] (qAs rfl (zBa g fun w10 g => (qAy (qAq (qJb rfl (qAb rfl (qAk 15 38 9 0 (vS none ([] : T1v) 0) g.t.t.t.t.h (qAa 1 [(16, vT p1.1)] (qFd 17 9 5 0 (vT p2) g hb3 (qAa 1 [(18, .agg #[vI 1, vT p1.1, vT p2])] (qAb rfl (qAn (d := 19) (t := 38) (e := 70) (len := 1) (parts := #[(0, (.tmp 18))]) C8 (xs := [(1, p1.1, p2)]) [vI 1, vT p1.1, vT p2] kr rfl (fun _ => qAm kr _) rfl rfl g ⟨[vI 1, vT p1.1, vT p2], _, rfl, ⟨_, _, rfl, rfl, ⟨_, _, rfl, rfl, rfl⟩⟩, rfl⟩ fun b8 m6 w11 e5 g r8 => (qAb rfl (qFy 20 38 38 70 40 15 19 (g.nilroom 70 3) (.inl kr) (RepS.nil _ _) r8.src i fun l2 i a6 c6 m7 w12 e6 g r9 => ?_))))))))))))));have hb1 := (((hb1.mono e2).mono e3).mono e5).mono e6;have hb3 := (hb3.mono e5).mono e6;have r2 := ((((r2.mono e1).mono e2).mono e3).mono e5).mono e6;have r4 := ((((r4.mono e1).mono e2).mono e3).mono e5).mono e6;have r1 := ((((r1.mono e1).mono e2).mono e3).mono e5).mono e6;have r3 := ((((r3.mono e1).mono e2).mono e3).mono e5).mono e6
  refine qAb rfl (qBa 38 9 20 (vS a6 l2 c6) g.f6 fun w13 g => (qAs rfl ?_));have g := g.f2.t;refine qAf (qAq (qJb rfl (qFd 21 61 3 0 (vP bp0 0) g hb1 (qAa 1 [(22, vT p1.1)] (qFd 23 9 5 0 (vT p2) g hb3 (qAr 24 i (fun _ h => qIl g.f9.f9.f9 r1 r2 r3 r4 h) ?_))))));rintro y1 i _ w14 ⟨m8, rfl, e7, g⟩;refine qAb rfl (qBa 37 10 24 (.agg (Vc y1)) g.f8 fun w15 g => (WO_e (qAq (qJb rfl (qAa 1 [(25, vP b6 5)] (qAb rfl (qAk 26 3 25 5 (vI y1.2.2.2.2.2) g.h (qAa 1 [(27, vB (decide (y1.2.2.2.2.2 > 0)))] (WO_e (W_if i ?_ ?_))))))))))
  ·intro A i;refine qDl (qIv rfl (qZa [.exit 0] 0 rfl g.f6 fun w16 g => (hR1 false _ (qAa 1 [(9, vB true)] (WO_e (qMr true kr ?_ (fun h => Bool.noConfusion h)))))));intro _;refine qAz (qAc ?_);cases i;exact qGf [] [] rfl ResAll.nil ⟨_, rfl, ⟨a6, c6, m8, rfl, (((((q.t e1).t e2).t e3).t e5).t e6).t e7, g.f6.f7.f5.f5.f4.f6.f9.f8.f8.f9, hb1.mono e7, hb3.mono e7, (((((r5.mono e1).mono e2).mono e3).mono e5).mono e6).mono e7, (((((r6.mono e1).mono e2).mono e3).mono e5).mono e6).mono e7, r9.mono e7, r1.mono e7, r3.mono e7, r2.mono e7, r4.mono e7⟩⟩
  ·intro A i;refine qAo (qBi (qZb [.exit 0] g.f6 fun w17 g => (hR1 true _ (qAa 1 [(9, vB false)] (WO_e (qMr false kr (fun h => Bool.noConfusion h) ?_))))));intro _;refine qAo (qAf (W_sr (qAa 1 [(10, vP b7 1)] (qAb rfl (qAk 11 31 10 1 (vS a3 p1.2.1 c3) g.t.t.t.t.t.t.t.t.h (qAa 2 [(12, vI (p1.2.1.length : Int)), (13, vI 0)] (WO_e (qAy ?_))))))));have ⟨out1, i, j2⟩ := qAx i;refine qCf (.exit 0) (fun L' w' => ∃ (o2 : T1y), ∃ a7 c7 m9, (.inl o2) = out1 ∧ L' = [] ∧ m.le m9 ∧ St m9 (kB b6 (Vb o2.1 o2.2.1 o2.2.2.1 o2.2.2.2.1 o2.2.2.2.2.1 o2.2.2.2.2.2.1) 37 :: kB bp0 #[vS a1 p0.1 c1, vB p0.2.1, .map q1, vS a2 p0.2.2.2.1 c2, .map q2] 66 :: kB b5 #[vS a7 o2.2.2.2.2.2.2 c7] 38 :: kB b7 (V9 p1 a3 c3 a4 c4) 45 :: kB b4 (Vb eB eB 0 eB 0 0) 37 :: qLt l1 q3 [.exit 0] 0 :: qBc q1 es1 ck1 :: qBc q2 es2 ck2 :: qWx q3.D :: kR a7 o2.2.2.2.2.2.2 c7 70 3 :: O) w' ∧ MRow m9 b1 0 [vP bp0 0] ∧ MRow m9 b3 0 [vT p2] ∧ RepS C1 m9 a1 c1 p0.1 ∧ RepS cStr m9 a2 c2 p0.2.2.2.1 ∧ RepS C8 m9 a7 c7 o2.2.2.2.2.2.2 ∧ RepS cStr m9 a3 c3 p1.2.1 ∧ RepS C5 m9 a4 c4 p1.2.2 ∧ MapQ (fun s : ByteArray => Value.string s) C6 true m9 q1 es1 ck1 p0.2.2.1 ∧ MapQ qHt C7 true m9 q2 es2 ck2 p0.2.2.2.2) ?_ ?_
   ·rintro _ w18 ⟨o2, a7, c7, m9, rfl, rfl, q, g, hb1, hb3, r1, r3, r10, r5, r6, r2, r4⟩;have i := j2;refine qBj ?_;cases i;exact qQu [] [] rfl ResAll.nil ⟨_, rfl, ⟨a7, c7, m9, rfl, q, g.f9.f9.f9.f9.f9.f6.f9.f8.f8.f9, hb1, hb3, r5, r6, r10, r1, r3, r2, r4⟩⟩
   intro K0_u2;refine qHn _ kr (qEm (fun k1 L' w' => ∃ (s1 : Int × T1y), ∃ a8 c8 m10, qBe (qFl N p0 p1 p2) k1 s1 = some out1 ∧ L' = [(0, .func (.yield l1) #[] #[]), (11, vS a3 p1.2.1 c3), (12, vI (p1.2.1.length : Int)), (13, vI s1.1)] ∧ m.le m10 ∧ St m10 (kB b6 (Vb s1.2.1 s1.2.2.1 s1.2.2.2.1 s1.2.2.2.2.1 s1.2.2.2.2.2.1 s1.2.2.2.2.2.2.1) 37 :: kB bp0 #[vS a1 p0.1 c1, vB p0.2.1, .map q1, vS a2 p0.2.2.2.1 c2, .map q2] 66 :: kB b5 #[vS a8 s1.2.2.2.2.2.2.2 c8] 38 :: kB b7 (V9 p1 a3 c3 a4 c4) 45 :: kB b4 (Vb eB eB 0 eB 0 0) 37 :: qLt l1 q3 [.exit 0] 0 :: qBc q1 es1 ck1 :: qBc q2 es2 ck2 :: qWx q3.D :: kR a8 s1.2.2.2.2.2.2.2 c8 70 3 :: O) w' ∧ RepS cStr m10 a3 c3 p1.2.1 ∧ MRow m10 b1 0 [vP bp0 0] ∧ MRow m10 b3 0 [vT p2] ∧ RepS C1 m10 a1 c1 p0.1 ∧ RepS cStr m10 a2 c2 p0.2.2.2.1 ∧ RepS C8 m10 a8 c8 s1.2.2.2.2.2.2.2 ∧ RepS C5 m10 a4 c4 p1.2.2 ∧ MapQ (fun s : ByteArray => Value.string s) C6 true m10 q1 es1 ck1 p0.2.2.1 ∧ MapQ qHt C7 true m10 q2 es2 ck2 p0.2.2.2.2) N ⟨(0, y1.1, y1.2.1, y1.2.2.1, y1.2.2.2.1, y1.2.2.2.2.1, y1.2.2.2.2.2, l2), a6, c6, m8, i, rfl, (((((q.t e1).t e2).t e3).t e5).t e6).t e7, g.f6.f7.f5.f5.f4.f9.f9.f9.f9.f9, (((((r5.mono e1).mono e2).mono e3).mono e5).mono e6).mono e7, hb1.mono e7, hb3.mono e7, r1.mono e7, r3.mono e7, r9.mono e7, (((((r6.mono e1).mono e2).mono e3).mono e5).mono e6).mono e7, r2.mono e7, r4.mono e7⟩ ?_);rintro k1 _ w19 ⟨s1, a8, c8, m10, hL, rfl, q, g, r5, hb1, hb3, r1, r3, r11, r6, r2, r4⟩;rcases k1 with _ | k1
   ·exact qBo hL
   ·obtain ⟨qu2, i, hSu2, hBu2⟩ := qBn hL;clear hL;unfold qFl at i;refine W_sr (qAa 1 [(14, vB (decide (s1.1 < (p1.2.1.length : Int))))] (WO_e (qAq (W_if i ?_ ?_))))
    ·intro A i;refine qAo (qAf (qAq (qAy (W_sr (qAb rfl (qGj 15 31 9 11 13 r5 i ?_))))));rintro x1 i b9 f1 cs1 rfl hq1;refine qFd 16 9 15 f1 (vT x1) g hq1 (qAa 1 [(4, vT x1)] (WO_e (W_sr (qAa 2 [(17, .func (.yield l1) #[] #[]), (18, vT x1)] ?_))));have g := g.f5;refine qAb rfl (qWd (d := 19) (l := l1) (x := (.tmp 17)) (xs := #[(.tmp 18)]) (ts := #[9]) [vT x1] kr rfl (ev (.func (.yield l1) #[] #[])) kr htq3 hpq3 haq3 hbq3 rfl kr g ?_);intro R2 hR2;refine qJb rfl ?_;refine qAa 1 [(11, vT x1)] (qAs rfl (zBa g fun w20 g => (qAy (qAq (qJb rfl (qAb rfl (qAk 15 38 9 0 (vS a8 s1.2.2.2.2.2.2.2 c8) g.t.t.t.h (qAa 1 [(16, vT x1)] (qFd 17 9 5 0 (vT p2) g hb3 (qAa 1 [(18, .agg #[vI 1, vT x1, vT p2])] (qAb rfl (qAn (d := 19) (t := 38) (e := 70) (len := 1) (parts := #[(0, (.tmp 18))]) C8 (xs := [(1, x1, p2)]) [vI 1, vT x1, vT p2] kr rfl (fun _ => qAm kr _) rfl rfl g ⟨[vI 1, vT x1, vT p2], _, rfl, ⟨_, _, rfl, rfl, ⟨_, _, rfl, rfl, rfl⟩⟩, rfl⟩ fun b10 m11 w21 e8 g r12 => (qAb rfl (qFy 20 38 38 70 40 15 19 g.f10 (.inl kr) (r11.mono e8) r12.src i fun l3 i a9 c9 m12 w22 e9 g r13 => ?_))))))))))))));have hb1 := (hb1.mono e8).mono e9;have hb3 := (hb3.mono e8).mono e9;refine qAb rfl (qBa 38 9 20 (vS a9 l3 c9) g.f5 fun w23 g => (qAs rfl ?_));have g := g.f2.t
     refine qAf (qAq (qJb rfl (qFd 21 61 3 0 (vP bp0 0) g hb1 (qAa 1 [(22, vT x1)] (qFd 23 9 5 0 (vT p2) g hb3 (qAr 24 i (fun _ h => qIl g.f4.f8.f8 ((r1.mono e8).mono e9) ((r2.mono e8).mono e9) ((r3.mono e8).mono e9) ((r4.mono e8).mono e9) h) ?_))))));rintro y2 i _ w24 ⟨m13, rfl, e10, g⟩;have r5 := ((r5.mono e8).mono e9).mono e10;have r2 := ((r2.mono e8).mono e9).mono e10;have r4 := ((r4.mono e8).mono e9).mono e10;have r1 := ((r1.mono e8).mono e9).mono e10;have r3 := ((r3.mono e8).mono e9).mono e10;have r6 := ((r6.mono e8).mono e9).mono e10;refine qAb rfl (qBa 37 10 24 (.agg (Vc y2)) g.f6 fun w25 g => (WO_e (qAq (qJb rfl (qAa 1 [(25, vP b6 5)] (qAb rfl (qAk 26 3 25 5 (vI y2.2.2.2.2.2) g.h (qAa 1 [(27, vB (decide (y2.2.2.2.2.2 > 0)))] (WO_e (W_if i ?_ ?_))))))))))
     ·intro A i;refine qDl (qIv rfl (qZa [.exit 0] 0 rfl g.f6 fun w26 g => (hR2 false _ (qAa 1 [(20, vB true)] (WO_e (qMr true kr ?_ (fun h => Bool.noConfusion h)))))));intro _;refine qAz (qAg (qAc ?_));cases i;have ho := hBu2 _ rfl;subst ho;have i := j2;refine qAc (qAg ?_);cases i;exact qGf [] [] rfl ResAll.nil ⟨_, rfl, ⟨a9, c9, m13, rfl, ((q.t e8).t e9).t e10, g.f6.f9.f5.f5.f4.f6.f9.f8.f8.f9, hb1.mono e10, hb3.mono e10, r5, r6, r13.mono e10, r1, r3, r2, r4⟩⟩
     ·intro A i;refine qAo (qBi (qZb [.exit 0] g.f6 fun w27 g => (hR2 true _ (qAa 1 [(20, vB false)] (WO_e (qMr false kr (fun h => Bool.noConfusion h) ?_))))));intro _;refine qAo (qBi (qAf (qAp (qAa 2 [(13, vI (wr (s1.1 + 1)))] (qAs rfl ?_)))));obtain rfl := sI i;have hL := hSu2 _ rfl;exact xE (qCm k1 (jE _) ⟨(wr (s1.1 + 1), y2.1, y2.2.1, y2.2.2.1, y2.2.2.2.1, y2.2.2.2.2.1, y2.2.2.2.2.2, l3), a9, c9, m13, hL, rfl, ((q.t e8).t e9).t e10, g.f6.f9.f5.f5.f4.f9.f9.f9.f9.f9, r5, hb1.mono e10, hb3.mono e10, r1, r3, r13.mono e10, r6, r2, r4⟩)
    ·intro A i;refine qDl (qAj ?_);cases i;have ho := hBu2 _ rfl;have g := g.f9.f9.f9.f9.f9.f9.f9.f9.f9.f9;refine qAj ?_;exact xE (K0_u2 _ _ ⟨s1.2, a8, c8, m10, ho, rfl, q, g, hb1, hb3, r1, r3, r11, r5, r6, r2, r4⟩)
def qIu (N : Nat) (p0 : Tg) (p1 : T1l) (p2 : ByteArray) : Option T1w :=
 (qLx N p0).bind fun y1 => (if (!y1.2.1) = true then (some true) else ((qKn N p2).bind fun y2 => some (!y2)) : T9).bind fun o1 => if o1 = true then (some (((⟨#[]⟩ : ByteArray), (⟨#[]⟩ : ByteArray), 0, (⟨#[]⟩ : ByteArray), 0, 0), ([] : T1v), 1)) else ((qHh N y1 p1 p2).bind fun y3 => some (y3.1, y3.2.1, y3.2.2))
theorem qNl {p0 : Tg} {p1 : T1l} {p2 : ByteArray} {r : T1w} (g : St m (O) w) (r1 : RepS C1 m a1 c1 p0) (r2 : RepS cStr m a2 c2 p1.2.1) (r3 : RepS C5 m a3 c3 p1.2.2) (i : qIu N p0 p1 p2 = some r) : Calls Tryd.prog 10 #[.agg #[vS a1 p0 c1], .agg (V9 p1 a2 c2 a3 c3), vT p2] w fun e w' => ∃ ra1 rc1 m', e = .returned (.tuple #[.agg (Vc r.1), vS ra1 r.2.1 rc1, vI r.2.2]) ∧ m.le m' ∧ St m' (kR ra1 r.2.1 rc1 70 3 :: O) w' ∧ RepS C8 m' ra1 rc1 r.2.1 := by
 unfold qIu at i;have q := m.le_refl;refine W_cA Tryd.func10 rfl Tryd.ntmps10 ?_;refine W_sr (qAb rfl (qIw 3 28 0 (.agg #[vS a1 p0 c1]) g fun b1 m1 w1 e1 g hb1 => (qAb rfl (qIw 4 45 1 (.agg (V9 p1 a2 c2 a3 c3)) g fun b2 m2 w2 e2 g hb2 => (qAb rfl (qBy 6 37 (.agg (Vb eB eB 0 eB 0 0)) g fun b3 w3 g => (qAa 2 [] (WO_e (W_sr (qFd 10 28 3 0 (.agg #[vS a1 p0 c1]) g (hb1.mono e2) (qAr 11 i (fun _ h => qPw g ((r1.mono e1).mono e2) h) ?_)))))))))));rintro y1 i _ w4 ⟨b4, a4, c4, q1, es1, ck1, a5, c5, q2, es2, ck2, m3, rfl, e3, g, r4, r5, r6, r7⟩;refine qAa 1 [(9, vP b4 0)] (WO_e (qAq (W_sr ?_)));have ⟨o1, i, J⟩ := qAx i;refine qFx (j := 10) (fun L' w' => ∃ m4, L' = [(2, vT p2), (4, vP b2 0), (6, vP b3 0), (9, vP b4 0), (21, vB o1)] ∧ m.le m4 ∧ St m4 (kB b4 #[vS a4 y1.1 c4, vB y1.2.1, .map q1, vS a5 y1.2.2.2.1 c5, .map q2] 66 :: kB b3 (Vb eB eB 0 eB 0 0) 37 :: qBc q1 es1 ck1 :: qBc q2 es2 ck2 :: O) w' ∧ MRow m4 b2 0 [vT p1.1, vS a2 p1.2.1 c2, vS a3 p1.2.2 c3] ∧ RepS cStr m4 a2 c2 p1.2.1 ∧ RepS C5 m4 a3 c3 p1.2.2 ∧ RepS C1 m4 a4 c4 y1.1 ∧ RepS cStr m4 a5 c5 y1.2.2.2.1 ∧ MapQ (fun s : ByteArray => Value.string s) C6 true m4 q1 es1 ck1 y1.2.2.1 ∧ MapQ qHt C7 true m4 q2 es2 ck2 y1.2.2.2.2) ?_ ?_
 ·have i := J;rintro _ w5 ⟨m4, rfl, q, g, hb2, r2, r3, r4, r6, r5, r7⟩;refine WO_e (W_if i ?_ ?_)
  ·intro A i;refine W_sr (qAa 1 [(22, .agg (Vb eB eB 0 eB 0 0))] (qAb rfl (qBa 37 6 22 (.agg (Vb eB eB 0 eB 0 0)) g.f1 fun w7 g => (qAa 2 [(7, vS none ([] : T1v) 0), (8, vI 1)] (WO_e (qAz (qAc ?_)))))));cases i;refine qGf [.cell 6 37, .tmp 7, .tmp 8] [.agg (Vb eB eB 0 eB 0 0), vS none ([] : T1v) 0, vI 1] rfl (ResAll.cons (ResAt.blk (v := .agg (Vb eB eB 0 eB 0 0)) (o := 0) kr g.h kr) (ResAll.cons (ResAt.tmp kr) (ResAll.cons (ResAt.tmp kr) ResAll.nil))) ?_;have g := (g.nilroom 70 3).front1;exact ⟨none, 0, m4, rfl, q, g.t.f1.t.f1.t.f1.t, (RepS.nil _ _)⟩
  ·intro A i;refine qAo (qAf (W_sr (qAa 1 [(23, vP b4 0)] (qFd 24 45 4 0 (.agg (V9 p1 a2 c2 a3 c3)) g hb2 (qAa 1 [(25, vT p2)] (qAr 26 i (fun _ h => qPt g.f3.f3 r4 r5 r6 r7 r2 r3 h) ?_))))));rintro y3 i _ w8 ⟨a6, c6, m6, rfl, e5, g, r8⟩;refine qAa 3 [(27, .agg (Vc y3.1)), (28, vS a6 y3.2.1 c6), (29, vI y3.2.2)] (qAb rfl (qBa 37 6 27 (.agg (Vc y3.1)) g.f4 fun w9 g => (qAa 2 [(7, vS a6 y3.2.1 c6), (8, vI y3.2.2)] (WO_e (qAz ?_)))));obtain rfl := sI i;exact qGf [.cell 6 37, .tmp 7, .tmp 8] [.agg (Vc y3.1), vS a6 y3.2.1 c6, vI y3.2.2] rfl (ResAll.cons (ResAt.blk (v := .agg (Vc y3.1)) (o := 0) kr g.h kr) (ResAll.cons (ResAt.tmp kr) (ResAll.cons (ResAt.tmp kr) ResAll.nil))) ⟨a6, c6, m6, rfl, q.t e5, g.t.f1.t.f1.t.f1.t, r8⟩
 ·intro K;refine qAa 3 [(14, vP b4 1)] (qAb rfl (qAk 15 4 14 1 (vB y1.2.1) g.t.t.h (qAa 2 [(17, vB (!y1.2.1))] (qFh 17 i ?_ ?_))))
  ·intro A i;refine qAa 4 [(21, vB true)] ?_;cases i;exact qBp _ kr (K _ _ ⟨m3, rfl, ((q.t e1).t e2).t e3, g.f1.f1.f3.f3, hb2.mono e3, ((r2.mono e1).mono e2).mono e3, ((r3.mono e1).mono e2).mono e3, r4, r6, r5, r7⟩)
  ·intro A i;refine qAa 1 [(18, vT p2)] (qAr 19 i (fun _ h => qPd g h) ?_);rintro y2 i _ w6 ⟨m5, rfl, e4, g⟩;refine qAa 2 [(21, vB (!y2))] ?_;cases i;exact qBp _ kr (K _ _ ⟨m5, rfl, (((q.t e1).t e2).t e3).t e4, g.f1.f1.f3.f3, (hb2.mono e3).mono e4, (((r2.mono e1).mono e2).mono e3).mono e4, (((r3.mono e1).mono e2).mono e3).mono e4, r4.mono e4, r6.mono e4, r5.mono e4, r7.mono e4⟩)
end
section
open Go Go.Dc
set_option maxHeartbeats 4000000
set_option maxRecDepth 100000
variable {N c1 : Nat} {m : Mem} {O : List Piece} {w : World} {a1 : Option Addr}
def qFp (N : Nat) : T9 :=
 (qIu N ([((⟨#[97, 46, 115, 114, 99]⟩ : ByteArray), (⟨#[112, 97, 99, 107, 97, 103, 101, 32, 115, 59, 32, 102, 117, 110, 99, 32, 102, 40, 41, 32, 61, 32, 49, 59, 32, 103, 101, 110, 32, 34, 99, 34, 32, 61, 32, 50, 59]⟩ : ByteArray))]) ((⟨#[112]⟩ : ByteArray), [(⟨#[113]⟩ : ByteArray), (⟨#[115]⟩ : ByteArray)], ([] : T1g)) (⟨#[102]⟩ : ByteArray)).bind fun y1 => (qIs N ([((⟨#[97, 46, 115, 114, 99]⟩ : ByteArray), (⟨#[112, 97, 99, 107, 97, 103, 101, 32, 115, 59, 32, 102, 117, 110, 99, 32, 102, 40, 41, 32, 61, 32, 49, 59, 32, 103, 101, 110, 32, 34, 99, 34, 32, 61, 32, 50, 59]⟩ : ByteArray))]) (⟨#[99]⟩ : ByteArray)).bind fun y2 => (if (y1.2.2 == 0) = true then (if (y2.2.2.2 == 0) = true then (if (y1.1.1.toList == (⟨#[115]⟩ : ByteArray).toList) = true then (if ((List.length y1.2.1 : Int) == 3) = true then ((idx y1.2.1 2).bind fun x1 => if ((x1.1 == 1) && ((x1.2.1.toList == (⟨#[115]⟩ : ByteArray).toList) && ((x1.2.2.toList == (⟨#[102]⟩ : ByteArray).toList) && true))) = true then (if (y2.1 == 2) = true then (if (y2.2.1.2.2.1 == 3) = true then (some ((List.length y2.2.2.1 : Int) == 2)) else (some false)) else (some false)) else (some false)) else (some false)) else (some false)) else (some false)) else (some false) : T9).bind fun o1 => some o1
theorem qMx {r : Bool} (g : St m (O) w) (i : qFp N = some r) : Calls Tryd.prog 11 #[] w fun e w' => ∃ m', e = .returned (vB r) ∧ m.le m' ∧ St m' (O) w' := by
 unfold qFp at i;have q := m.le_refl;refine W_cA Tryd.func11 rfl Tryd.ntmps11 ?_;refine W_sr (qAa 1 [] (WO_e (W_sr (qAa 1 [(9, .agg #[vT ba, vT b1w])] (qAb rfl (qAn (d := 10) (t := 26) (e := 55) (len := 1) (parts := #[(0, (.tmp 9))]) C1 (xs := [(ba, b1w)]) [vT ba, vT b1w] kr rfl (fun _ => qAm kr _) rfl rfl g ⟨[vT ba, vT b1w], _, rfl, ⟨_, _, rfl, rfl, rfl⟩, rfl⟩ fun b1 m1 w1 e1 g r1 => (qAa 1 [(11, .agg #[.slice (aP b1) (List.length ([(ba, b1w)])) 1])] (qAb rfl (qBy 1 28 (.agg #[.slice none 0 0]) g fun b2 w2 g => (qAb rfl (qBa 28 1 11 (.agg #[.slice (aP b1) (List.length ([(ba, b1w)])) 1]) g fun w3 g => (WO_e (W_sr (qAb rfl (qAk 13 28 1 0 (.agg #[.slice (aP b1) (List.length ([(ba, b1w)])) 1]) g.h (qAb rfl (qAn (d := 14) (t := 31) (e := 9) (len := 2) (parts := #[(0, (.const (vT bf))), (1, (.const (vT bg)))]) cStr (xs := [bf, bg]) [vT bf, vT bg] kr rfl (fun _ => qAm kr _) rfl rfl g ⟨[vT bf], _, rfl, rfl, ⟨[vT bg], _, rfl, rfl, rfl⟩⟩ fun b3 m2 w4 e2 g r2 => ?_)))))))))))))))));have r1 := r1.mono e2;refine qAa 1 [(15, .agg #[vT be, .slice (aP b3) (List.length ([bf, bg])) 2, vS none ([] : T1g) 0])] (qAr 16 i (fun _ h => qNl g r1 r2 (RepS.nil _ _) h) ?_);rintro y1 i _ w5 ⟨a1, c1, m3, rfl, e3, g, r3⟩
 refine qAa 4 [(17, .agg (Vc y1.1)), (18, vS a1 y1.2.1 c1), (19, vI y1.2.2)] (qAb rfl (qBy 2 37 (.agg (Vb eB eB 0 eB 0 0)) g fun b4 w6 g => (qAb rfl (qBa 37 2 17 (.agg (Vc y1.1)) g fun w7 g => (qAa 2 [(3, vS a1 y1.2.1 c1), (4, vI y1.2.2)] (qAs rfl ?_))))));have g := g.f2.t;refine qAf (W_sr (qAb rfl (qAk 21 28 1 0 (.agg #[.slice (aP b1) (List.length ([(ba, b1w)])) 1]) g.t.t.h (qAr 22 i (fun _ h => qNd g (r1.mono e3) h) ?_))));rintro y2 i _ w8 ⟨a2, c2, m4, rfl, e4, g, r4⟩;have q := (((q.t e1).t e2).t e3).t e4;have r1 := (r1.mono e3).mono e4;refine qAa 5 [(23, vI y2.1), (24, .agg (Vc y2.2.1)), (25, vS a2 y2.2.2.1 c2), (26, vI y2.2.2.2)] (qAb rfl (qBy 6 37 (.agg (Vb eB eB 0 eB 0 0)) g fun b5 w9 g => (qAa 1 [(5, vI y2.1)] (qAb rfl (qBa 37 6 24 (.agg (Vc y2.2.1)) g fun w10 g => (qAa 2 [(7, vS a2 y2.2.2.1 c2), (8, vI y2.2.2.2)] (WO_e (W_sr ?_))))))));have ⟨o1, i, J⟩ := qAx i;refine qFx (j := 38) (fun L' w' => ∃ m5, L' = [(0, vB o1)] ∧ m.le m5 ∧ St m5 (kB b5 (Vc y2.2.1) 37 :: kB b4 (Vc y1.1) 37 :: kB b2 #[.slice (aP b1) (List.length ([(ba, b1w)])) 1] 28 :: kR a2 y2.2.2.1 c2 70 3 :: kR a1 y1.2.1 c1 70 3 :: .room (aP b1) (List.length ([(ba, b1w)])) 1 55 2 :: O) w' ∧ RepS C1 m5 (aP b1) 1 ([(ba, b1w)])) ?_ ?_
 ·have i := J;rintro _ w11 ⟨m5, rfl, q, g, r1⟩;refine WO_e (qAz ?_);obtain rfl := sI i;exact X_rt [0] [vB o1] ⟨m5, rfl, q, g.t.t.t.t.t.t⟩
 ·intro K;refine qAa 3 [(29, vB (y1.2.2 == 0))] (qFh 29 i ?_ ?_)
  ·intro A i;refine qAa 4 [(33, vB (y2.2.2.2 == 0))] (qFh 33 i ?_ ?_)
   ·intro A i;refine qAa 1 [(34, vP b4 0)] (qAb rfl (qAk 35 9 34 0 (vT y1.1.1) g.t.t.h (qAa 3 [(38, vB (y1.1.1.toList == bg.toList))] (qFh 38 i ?_ ?_))))
    ·intro A i;refine qAa 5 [(43, vB ((y1.2.1.length : Int) == 3))] (qFh 43 i ?_ ?_)
     ·intro A i;refine qAa 1 [(44, vS a1 y1.2.1 c1)] (qAb rfl (qGj 45 38 70 44 ((.const (vI 2))) (r3.mono e4) i ?_));rintro x1 i b6 f1 cs1 ⟨_, _, rfl, rfl, ⟨_, _, rfl, rfl, rfl⟩⟩ hq1;refine qFd 46 70 45 f1 (.agg (Va x1)) g hq1 (qAa 1 [(47, .agg #[vI 1, vT bg, vT bq])] (qAb rfl (zBh (d := 48) (t := 70) (t2 := 70) (x := (.tmp 46)) (y := (.tmp 47)) (xs := (Va x1)) (ys := #[vI 1, vT bg, vT bq]) ((x1.1 == 1) && ((x1.2.1.toList == bg.toList) && ((x1.2.2.toList == bq.toList) && true))) kr rfl (ev (.agg (Va x1))) (ev (.agg #[vI 1, vT bg, vT bq])) kr kr kr (qAa 2 [(50, vB ((x1.1 == 1) && ((x1.2.1.toList == bg.toList) && ((x1.2.2.toList == bq.toList) && true))))] (qFh 50 i ?_ ?_)))))
      ·intro A i;refine qAa 4 [(54, vB (y2.1 == 2))] (qFh 54 i ?_ ?_)
       ·intro A i;refine qAa 1 [(55, vP b5 2)] (qAb rfl (qAk 56 3 55 2 (vI y2.2.1.2.2.1) g.h (qAa 3 [(59, vB (y2.2.1.2.2.1 == 3))] (qFh 59 i ?_ ?_))))
        ·intro A i;refine qAa 5 [(0, vB ((y2.2.2.1.length : Int) == 2))] ?_;cases i;exact qBp _ kr (K _ _ ⟨m4, rfl, q, g.f5.f4.f3.f5.f5.f5, r1⟩)
        ·intro A i;refine qAa 5 [(0, vB false)] ?_;cases i;exact qBp _ kr (K _ _ ⟨m4, rfl, q, g.f5.f4.f3.f5.f5.f5, r1⟩)
       ·intro A i;refine qAa 10 [(0, vB false)] ?_;cases i;exact qBp _ kr (K _ _ ⟨m4, rfl, q, g.f5.f4.f3.f5.f5.f5, r1⟩)
      ·intro A i;refine qAa 14 [(0, vB false)] ?_;cases i;exact qBp _ kr (K _ _ ⟨m4, rfl, q, g.f5.f4.f3.f5.f5.f5, r1⟩)
     ·intro A i;refine qAa 21 [(0, vB false)] ?_;cases i;exact qBp _ kr (K _ _ ⟨m4, rfl, q, g.f5.f4.f3.f5.f5.f5, r1⟩)
    ·intro A i;refine qAa 26 [(0, vB false)] ?_;cases i;exact qBp _ kr (K _ _ ⟨m4, rfl, q, g.f5.f4.f3.f5.f5.f5, r1⟩)
   ·intro A i;refine qAa 31 [(0, vB false)] ?_;cases i;exact qBp _ kr (K _ _ ⟨m4, rfl, q, g.f5.f4.f3.f5.f5.f5, r1⟩)
  ·intro A i;refine qAa 35 [(0, vB false)] ?_;cases i;exact qBp _ kr (K _ _ ⟨m4, rfl, q, g.f5.f4.f3.f5.f5.f5, r1⟩)
def qDb (N : Nat) (p0 : T5) (p1 : ByteArray) : T9 :=
 (qEs N (p0, 0)).bind fun y1 => (if (decide ((ByteArray.size p1 : Int) > 50)) = true then ((subB p1 0 50).bind fun s1 => some s1) else (some p1) : Ta).bind fun o1 => (qBr N).bind fun y2 => (qAu N y1.1 y2).bind fun y3 => (qFn N y1.2 y3.2 o1).bind fun y4 => (qIs N y4.1 y3.2).bind fun y5 => (if (y4.2 != 0) = true then (some true) else (if (y5.1 != 1) = true then (some true) else (if (y5.2.2.2 != 0) = true then (some true) else (some ((List.length y5.2.2.1 : Int) != 1)))) : T9).bind fun o2 => if o2 = true then (some false) else ((qFn N y1.2 (⟨#[122, 122, 46, 115, 114, 99]⟩ : ByteArray) (⟨#[112, 97, 99, 107, 97, 103, 101, 32, 122, 122, 59, 32, 102, 117, 110, 99, 32, 102, 40, 41, 32, 61, 32, 49, 59]⟩ : ByteArray)).bind fun y6 => (qIu N y6.1 ((⟨#[122, 122]⟩ : ByteArray), [(⟨#[112]⟩ : ByteArray), (⟨#[113]⟩ : ByteArray)], ([] : T1g)) (⟨#[102]⟩ : ByteArray)).bind fun y7 => (if (y6.2 == 0) = true then (if (y7.2.2 == 0) = true then (if (y7.1.2.2.2.1.toList == (⟨#[122, 122, 46, 115, 114, 99]⟩ : ByteArray).toList) = true then (if ((List.length y7.2.1 : Int) == 1) = true then ((qFp N).bind fun y8 => some y8) else (some false)) else (some false)) else (some false)) else (some false) : T9).bind fun o3 => some o3)
theorem qJz {p0 : T5} {p1 : ByteArray} {r : Bool} (g : St m (O) w) (r1 : RepS (cInt .i64) m a1 c1 p0) (i : qDb N p0 p1 = some r) : Calls Tryd.prog 3 #[vS a1 p0 c1, vT p1] w fun e w' => ∃ m', e = .returned (vB r) ∧ m.le m' ∧ St m' (O) w' := by
 unfold qDb at i;have q := m.le_refl;refine W_cA Tryd.func3 rfl Tryd.ntmps3 ?_;refine W_sr (qAa 1 [] (WO_e (W_sr (qAa 2 [(18, .agg #[vS a1 p0 c1, vI 0])] (qAb rfl (qLr 19 25 18 (.agg #[vS a1 p0 c1, vI 0]) g fun b1 w1 g => (qAa 1 [(5, vP b1 0)] (WO_e (W_sr (qAa 1 [(20, vP b1 0)] (qAr 21 i (fun _ h => qLz (p0 := (p0, 0)) g r1 h) ?_)))))))))));rintro y1 i _ w2 ⟨a2, c2, a3, c3, m2, rfl, e2, g, r2, r3⟩;refine qAb rfl (qBy 6 28 (.agg #[.slice none 0 0]) g fun b2 w3 g => (qAb rfl (qBa 28 6 21 (.agg #[vS a3 y1.2 c3]) g fun w4 g => (WO_e (qAq (W_sr (qAa 3 [(24, vB (decide ((p1.size : Int) > 50)))] (WO_e ?_))))))));have ⟨o1, i, j1⟩ := qAx i;refine qCf .normal (fun L' w' => ∃ m3, L' = [(1, vT o1), (5, vP b1 0), (6, vP b2 0)] ∧ m.le m3 ∧ St m3 (kB b2 #[vS a3 y1.2 c3] 28 :: kB b1 (V1 y1.1 a2 c2) 25 :: kR a3 y1.2 c3 55 2 :: O) w' ∧ RepS C1 m3 a3 c3 y1.2 ∧ RepS (cInt .i64) m3 a2 c2 y1.1.1) ?_ ?_
 ·have i := j1;rintro _ w5 ⟨m3, rfl, q, g, r3, r2⟩;refine qAf (W_sr (qAa 1 [(27, vP b1 0)] (qAr 28 i (fun _ h => qEu g h) ?_)));rintro y2 i _ w6 ⟨a4, c4, m4, rfl, e3, g, r4⟩;refine qAr 29 i (fun _ h => qBb (p0 := y1.1) g.f2 (r2.mono e3) r4 h) ?_;rintro y3 i _ w7 ⟨a5, c5, m5, rfl, e4, g, r5⟩;refine qAa 1 [(7, vT y3.2)] (qAs rfl ?_);have g := g.f1.t;refine qAf (W_sr (qAb rfl (qAk 31 28 6 0 (.agg #[vS a3 y1.2 c3]) g.t.h (qAa 2 [(32, vT y3.2), (33, vT o1)] (qAr 34 i (fun _ h => qKe g ((r3.mono e3).mono e4) h) ?_)))));rintro y4 i _ w8 ⟨a6, c6, m6, rfl, e5, g, r6⟩;refine qAa 3 [(35, .agg #[vS a6 y4.1 c6]), (36, vI y4.2)] (qAb rfl (qBy 8 28 (.agg #[.slice none 0 0]) g fun b3 w9 g => (qAb rfl (qBa 28 8 35 (.agg #[vS a6 y4.1 c6]) g fun w10 g => (qAa 1 [(9, vI y4.2)] (WO_e (W_sr (qAb rfl (qAk 38 28 8 0 (.agg #[vS a6 y4.1 c6]) g.h (qAa 1 [(39, vT y3.2)] (qAr 40 i (fun _ h => qNd g r6 h) ?_)))))))))));rintro y5 i _ w11 ⟨a7, c7, m7, rfl, e6, g, r7⟩;have q := (((q.t e3).t e4).t e5).t e6;have r6 := r6.mono e6;have r5 := (r5.mono e5).mono e6;have r3 := (((r3.mono e3).mono e4).mono e5).mono e6
  refine qAa 5 [(41, vI y5.1), (42, .agg (Vc y5.2.1)), (43, vS a7 y5.2.2.1 c7), (44, vI y5.2.2.2)] (qAb rfl (qBy 11 37 (.agg (Vb eB eB 0 eB 0 0)) g fun b4 w12 g => (qAa 1 [(10, vI y5.1)] (qAb rfl (qBa 37 11 42 (.agg (Vc y5.2.1)) g fun w13 g => (qAa 2 [(12, vS a7 y5.2.2.1 c7), (13, vI y5.2.2.2)] (WO_e (qAq (W_sr ?_)))))))));have ⟨o2, i, J⟩ := qAx i;refine qFx (j := 15) (fun L' w' => ∃ m8, L' = [(6, vP b2 0), (59, vB o2)] ∧ m.le m8 ∧ St m8 (kB b4 (Vc y5.2.1) 37 :: kB b3 #[vS a6 y4.1 c6] 28 :: kB b1 (V1 y3.1 a5 c5) 25 :: kB b2 #[vS a3 y1.2 c3] 28 :: kR a7 y5.2.2.1 c7 70 3 :: kR a6 y4.1 c6 55 2 :: kR a3 y1.2 c3 55 2 :: O) w' ∧ RepS C1 m8 a6 c6 y4.1 ∧ RepS (cInt .i64) m8 a5 c5 y3.1.1 ∧ RepS C1 m8 a3 c3 y1.2) ?_ ?_
  ·have i := J;rintro _ w14 ⟨m8, rfl, q, g, r6, r5, r3⟩;refine WO_e (W_if i ?_ ?_)
   ·intro A i;refine W_sr (qAa 1 [(4, vB false)] (qAs rfl ?_));have g := g.f4.t;refine qAf (qAz (qAc ?_));cases i;exact X_rt [4] [vB false] ⟨m8, rfl, q, g.t.t.t.t.t.t⟩
   ·intro A i;refine qAo (qAf (W_sr (qAb rfl (qAk 61 28 6 0 (.agg #[vS a3 y1.2 c3]) g.t.t.t.h (qAr 62 i (fun _ h => qKe g r3 h) ?_)))));rintro y6 i _ w15 ⟨a8, c8, m9, rfl, e7, g, r8⟩;refine qAa 3 [(63, .agg #[vS a8 y6.1 c8]), (64, vI y6.2)] (qAb rfl (qBy 14 28 (.agg #[.slice none 0 0]) g fun b5 w16 g => (qAb rfl (qBa 28 14 63 (.agg #[vS a8 y6.1 c8]) g fun w17 g => (qAa 1 [(9, vI y6.2)] (qAs rfl ?_))))));have g := g.f6.t;refine qAf (W_sr (qAb rfl (qAk 66 28 14 0 (.agg #[vS a8 y6.1 c8]) g.h (qAb rfl (qAn (d := 67) (t := 31) (e := 9) (len := 2) (parts := #[(0, (.const (vT be))), (1, (.const (vT bf)))]) cStr (xs := [be, bf]) [vT be, vT bf] kr rfl (fun _ => qAm kr _) rfl rfl g ⟨[vT be], _, rfl, rfl, ⟨[vT bf], _, rfl, rfl, rfl⟩⟩ fun b6 m10 w18 e8 g r9 => (qAa 1 [(68, .agg #[vT (⟨#[122, 122]⟩ : ByteArray), .slice (aP b6) (List.length ([be, bf])) 2, vS none ([] : T1g) 0])] (qAr 69 i (fun _ h => qNl g (r8.mono e8) r9 (RepS.nil _ _) h) ?_)))))));rintro y7 i _ w19 ⟨a9, c9, m11, rfl, e9, g, r10⟩;have q := ((q.t e7).t e8).t e9;have r8 := (r8.mono e8).mono e9;have r6 := ((r6.mono e7).mono e8).mono e9;have r5 := ((r5.mono e7).mono e8).mono e9;have r3 := ((r3.mono e7).mono e8).mono e9
    refine qAa 4 [(70, .agg (Vc y7.1)), (71, vS a9 y7.2.1 c9), (72, vI y7.2.2)] (qAb rfl (qBy 15 37 (.agg (Vb eB eB 0 eB 0 0)) g fun b7 w20 g => (qAb rfl (qBa 37 15 70 (.agg (Vc y7.1)) g fun w21 g => (qAa 2 [(16, vS a9 y7.2.1 c9), (13, vI y7.2.2)] (qAs rfl ?_))))));have g := g.f2.t;refine qAf (W_sr ?_);have ⟨o3, i, J⟩ := qAx i;refine qFx (j := 20) (fun L' w' => ∃ m12, L' = [(4, vB o3)] ∧ m.le m12 ∧ St m12 (kB b7 (Vc y7.1) 37 :: kB b5 #[vS a8 y6.1 c8] 28 :: kB b4 (Vc y5.2.1) 37 :: kB b3 #[vS a6 y4.1 c6] 28 :: kB b1 (V1 y3.1 a5 c5) 25 :: kB b2 #[vS a3 y1.2 c3] 28 :: kR a9 y7.2.1 c9 70 3 :: kR a8 y6.1 c8 55 2 :: kR a6 y4.1 c6 55 2 :: kR a3 y1.2 c3 55 2 :: O) w' ∧ RepS C1 m12 a8 c8 y6.1 ∧ RepS C1 m12 a6 c6 y4.1 ∧ RepS (cInt .i64) m12 a5 c5 y3.1.1 ∧ RepS C1 m12 a3 c3 y1.2) ?_ ?_
    ·have i := J;rintro _ w22 ⟨m12, rfl, q, g, r8, r6, r5, r3⟩;refine WO_e (qAz ?_);obtain rfl := sI i;exact X_rt [4] [vB o3] ⟨m12, rfl, q, g.t.t.t.t.t.t.t.t.t.t⟩
    ·intro K;refine qAa 3 [(75, vB (y6.2 == 0))] (qFh 75 i ?_ ?_)
     ·intro A i;refine qAa 4 [(79, vB (y7.2.2 == 0))] (qFh 79 i ?_ ?_)
      ·intro A i;refine qAa 1 [(80, vP b7 3)] (qAb rfl (qAk 81 9 80 3 (vT y7.1.2.2.2.1) g.h (qAa 3 [(84, vB (y7.1.2.2.2.1.toList == (⟨#[122, 122, 46, 115, 114, 99]⟩ : ByteArray).toList))] (qFh 84 i ?_ ?_))))
       ·intro A i;refine qAa 5 [(89, vB ((y7.2.1.length : Int) == 1))] (qFh 89 i ?_ ?_)
        ·intro A i;refine qAr 90 i (fun _ h => qMx g h) ?_;rintro y8 i _ w23 ⟨m13, rfl, e10, g⟩;refine qAa 2 [(4, vB y8)] ?_;cases i;exact qBp _ kr (K _ _ ⟨m13, rfl, q.t e10, g.f9.f9.f5.f4.f9.f9.f9.f9.f9.f9, r8.mono e10, r6.mono e10, r5.mono e10, r3.mono e10⟩)
        ·intro A i;refine qAa 3 [(4, vB false)] ?_;cases i;exact qBp _ kr (K _ _ ⟨m11, rfl, q, g.f9.f9.f5.f4.f9.f9.f9.f9.f9.f9, r8, r6, r5, r3⟩)
       ·intro A i;refine qAa 8 [(4, vB false)] ?_;cases i;exact qBp _ kr (K _ _ ⟨m11, rfl, q, g.f9.f9.f5.f4.f9.f9.f9.f9.f9.f9, r8, r6, r5, r3⟩)
      ·intro A i;refine qAa 13 [(4, vB false)] ?_;cases i;exact qBp _ kr (K _ _ ⟨m11, rfl, q, g.f9.f9.f5.f4.f9.f9.f9.f9.f9.f9, r8, r6, r5, r3⟩)
     ·intro A i;refine qAa 17 [(4, vB false)] ?_;cases i;exact qBp _ kr (K _ _ ⟨m11, rfl, q, g.f9.f9.f5.f4.f9.f9.f9.f9.f9.f9, r8, r6, r5, r3⟩)
  ·intro K;refine qAa 3 [(47, vB (y4.2 != 0))] (qFh 47 i ?_ ?_)
   ·intro A i;refine qAa 12 [(59, vB true)] ?_;cases i;exact qBp _ kr (K _ _ ⟨m7, rfl, q, g.f6.f4.f3.f6.f6.f6.f6, r6, r5, r3⟩)
   ·intro A i;refine qAa 4 [(51, vB (y5.1 != 1))] (qFh 51 i ?_ ?_)
    ·intro A i;refine qAa 8 [(59, vB true)] ?_;cases i;exact qBp _ kr (K _ _ ⟨m7, rfl, q, g.f6.f4.f3.f6.f6.f6.f6, r6, r5, r3⟩)
    ·intro A i;refine qAa 4 [(55, vB (y5.2.2.2 != 0))] (qFh 55 i ?_ ?_)
     ·intro A i;refine qAa 4 [(59, vB true)] ?_;cases i;exact qBp _ kr (K _ _ ⟨m7, rfl, q, g.f6.f4.f3.f6.f6.f6.f6, r6, r5, r3⟩)
     ·intro A i;refine qAa 4 [(59, vB ((y5.2.2.1.length : Int) != 1))] ?_;cases i;exact qBp _ kr (K _ _ ⟨m7, rfl, q, g.f6.f4.f3.f6.f6.f6.f6, r6, r5, r3⟩)
 ·intro Ku1;refine W_if i ?_ ?_
  ·intro A i;refine qAp (qAa 1 [(25, vT p1)] ?_);have ⟨s1, d2, i⟩ := qAx i;refine qAb rfl (qDf (d := 26) (t := 9) (x := (.tmp 25)) (lo := none) (hi := (some (.const (vI 50)))) kr rfl (ev (vT p1)) kr (.inl ⟨rfl, rfl⟩) (.inr ⟨_, _, rfl, (ev (vI 50))⟩) d2 (qAa 1 [(1, vT s1)] (qAs rfl ?_)));cases i;exact xE (Ku1 _ _ ⟨m2, rfl, q.t e2, g.f1.f2.f2, r3, r2⟩)
  ·intro A i;refine qAo ?_;cases i;exact xE (Ku1 _ _ ⟨m2, rfl, q.t e2, g.f1.f2.f2, r3, r2⟩)
end
end Go.Proofs.YtiblcebedkllpaaDoor
section
namespace Go.Dc
theorem qTw {σ β : Type} {f : σ → Option (σ ⊕ β)} (st : Nat → σ) (k : Nat) (res : β) (step : ∀ i, i < k → f (st i) = some (.inl (st (i + 1)))) (stop : f (st k) = some (.inr res)) {N : Nat} (hN : k < N) : qBe f N (st 0) = some res := by
 have key : ∀ d i M, i + d = k → d < M → qBe f M (st i) = some res := by
  intro d
  induction d with
  | zero => intro i M h hM; obtain ⟨M', rfl⟩ : ∃ M', M = M' + 1 := ⟨M - 1, by omega⟩; simp only [gX] at h; subst h; simp [qBe, stop]
  | succ d ih =>
   intro i M h hM
   obtain ⟨M', rfl⟩ : ∃ M', M = M' + 1 := ⟨M - 1, by omega⟩
   have := ih (i + 1) M' (by omega) (by omega)
   simp [qBe, step i (by omega), this]
 exact key k 0 N (by omega) hN
section
variable {ν : Type}
theorem qXs {l : List (Int × ν)} {k c : Int} {v : ν} (h : c ≠ k) : mget (l.map fun p => if k = p.1 then (k, v) else p) c = mget l c := by
 induction l with
 | nil => rfl
 | cons p l ih =>
  simp only [jZ, mget]
  by_cases hk : k = p.1
  ·subst hk; rw [if_pos rfl, if_neg h, if_neg h, ih]
  ·rw [if_neg hk, ih]
theorem qXx {l : List (Int × ν)} {k : Int} {v : ν} (h : (mget l k).isSome = true) : mget (l.map fun p => if k = p.1 then (k, v) else p) k = some v := by
 induction l with
 | nil => cases h
 | cons p l ih =>
  simp only [jZ, mget] at h ⊢
  by_cases hk : k = p.1
  ·subst hk; simp
  ·rw [if_neg hk] at h ⊢
   rw [if_neg hk]
   exact ih h
theorem zCl {l : List (Int × ν)} {k : Int} {v : ν} (h : mget l k = none) (c : Int) : mget (mins l k v) c = if c = k then some v else mget l c := by
 induction l with
 | nil => rfl
 | cons p l ih =>
  simp only [mget] at h
  split at h
  ·cases h
  ·rename_i hk
   simp only [mins]
   split
   ·simp only [mget]
   ·simp only [mget, ih h]
    by_cases hc : c = k
    ·subst hc; simp [hk]
    ·simp [hc]
theorem zBj (l : List (Int × ν)) (k : Int) (v : ν) (c : Int) : mget (mset l k v) c = if c = k then some v else mget l c := by
 unfold mset
 split
 ·rename_i h
  split
  ·rename_i hc; subst hc; exact qXx h
  ·rename_i hc; exact qXs hc
 ·rename_i h
  exact zCl (by simpa using h) c
def Srt (l : List (Int × ν)) : Prop := (l.map (·.1)).Pairwise (· < ·)
theorem Srt.nil : Srt ([] : List (Int × ν)) := List.Pairwise.nil
theorem Srt.mins {l : List (Int × ν)} {k : Int} {v : ν} (hs : Srt l) (h : mget l k = none) : Srt (mins l k v) := by
 induction l with
 | nil => simp [Srt, Go.Dc.mins]
 | cons p l ih =>
  have hs' := hs
  simp only [Srt, jZ, jU] at hs
  simp only [mget] at h
  split at h
  ·cases h
  ·rename_i hk
   simp only [Go.Dc.mins]
   split
   ·rename_i hlt
    have hlt : k < p.1 := by simpa [KOrd.lt] using hlt
    refine jU.2 ⟨fun a ha => ?_, hs'⟩
    simp only [jZ, jI] at ha
    rcases ha with rfl | ha
    ·exact hlt
    ·exact Int.lt_trans hlt (hs.1 a ha)
   ·rename_i hlt
    have hlt : ¬ k < p.1 := by simpa [KOrd.lt] using hlt
    refine jU.2 ⟨fun a ha => ?_, ih hs.2 h⟩
    obtain ⟨q, hq, rfl⟩ := fD.1 ha
    rcases jI.1 ((qXb l k v).mem_iff.1 hq) with rfl | hq
    ·show p.1 < k; omega
    ·exact hs.1 _ (kL hq)
theorem Srt.mset {l : List (Int × ν)} (hs : Srt l) (k : Int) (v : ν) : Srt (mset l k v) := by
 unfold Go.Dc.mset
 split
 ·unfold Srt
  have : (l.map fun p => if k = p.1 then (k, v) else p).map (·.1) = l.map (·.1) := by
   rw [List.map_map]
   refine List.map_congr_left fun p _ => ?_
   simp only [Function.comp_apply]
   split
   ·rename_i h; exact h
   ·rfl
  rw [this]; exact hs
 ·rename_i h
  exact hs.mins (by simpa using h)
theorem Srt.out {l : List (Int × ν)} {c : Int} (h : ∀ a ∈ l.map (·.1), c < a) : mget l c = none := by
 rw [qRn]; intro hm; exact Int.lt_irrefl _ (h c hm)
theorem Srt.ext : ∀ {l k : List (Int × ν)}, Srt l → Srt k → (∀ c, mget l c = mget k c) → l = k
 | [], [], _, _, _ => rfl
 | [], q :: k, _, _, h => by have := h q.1; simp [mget] at this
 | p :: l, [], _, _, h => by have := h p.1; simp [mget] at this
 | p :: l, q :: k, hl, hk, h => by
  have hl' : (∀ a ∈ l.map (·.1), p.1 < a) ∧ Srt l := jU.1 hl
  have hk' : (∀ a ∈ k.map (·.1), q.1 < a) ∧ Srt k := jU.1 hk
  have h1 : p.1 = q.1 := by
   rcases Int.lt_trichotomy p.1 q.1 with hlt | he | hlt
   ·have := h p.1
    rw [Srt.out (l := q :: k) (c := p.1)] at this
    ·simp [mget] at this
    ·intro a ha
     rcases jI.1 ha with rfl | ha
     ·exact hlt
     ·exact Int.lt_trans hlt (hk'.1 a ha)
   ·exact he
   ·have := h q.1
    rw [Srt.out (l := p :: l) (c := q.1)] at this
    ·simp [mget] at this
    ·intro a ha
     rcases jI.1 ha with rfl | ha
     ·exact hlt
     ·exact Int.lt_trans hlt (hl'.1 a ha)
  have h2 : p.2 = q.2 := by have := h p.1; simpa [mget, h1] using this
  have h3 : l = k := by
   refine Srt.ext hl'.2 hk'.2 fun c => ?_
   by_cases hc : c = p.1
   ·rw [Srt.out (l := l) (fun a ha => hc ▸ hl'.1 a ha), Srt.out (l := k) (fun a ha => by rw [hc, h1]; exact hk'.1 a ha)]
   ·have := h c
    simpa [mget, hc, h1 ▸ hc] using this
  rw [h3, Prod.ext h1 h2]
def qLa (v : ν) (m : List (Int × ν)) (xs : List UInt8) : List (Int × ν) := xs.foldl (fun m x => mset m (x.toNat : Int) v) m
theorem qSy {v : ν} : ∀ {xs : List UInt8} {m : List (Int × ν)}, Srt m → Srt (qLa v m xs)
 | [], _, h => h
 | _ :: xs, _, h => qSy (xs := xs) (h.mset _ _)
theorem qTd {v : ν} (c : Int) : ∀ (xs : List UInt8) (m : List (Int × ν)), mget (qLa v m xs) c = if xs.any (fun x => decide ((x.toNat : Int) = c)) = true then some v else mget m c
 | [], m => by simp [qLa]
 | x :: xs, m => by
  have := qTd (v := v) c xs (mset m (x.toNat : Int) v)
  rw [show qLa v m (x :: xs) = qLa v (mset m (x.toNat : Int) v) xs from rfl, this, zBj]
  by_cases h1 : xs.any (fun x => decide ((x.toNat : Int) = c)) = true
  ·simp [h1]
  ·by_cases h2 : (x.toNat : Int) = c
   ·subst h2; simp [h1]
   ·have h3 : ¬ c = (x.toNat : Int) := fun e => h2 e.symm
    simp [h1, h2, h3]
end
end Go.Dc
namespace Go.Proofs.YtiblcebedkllpaaDoor
open Go Go.Dc
def allK : List (Int × ByteArray) := [(1, ⟨#[97, 98, 99, 100, 101, 102, 103, 104, 105, 106, 107, 108, 109, 110, 111, 112, 113, 114, 115, 116, 117, 118, 119, 120, 121, 122]⟩), (2, ⟨#[48, 49, 50, 51, 52, 53, 54, 55, 56, 57]⟩), (3, ⟨#[95]⟩), (4, ⟨#[46]⟩), (5, ⟨#[9, 10, 13, 32]⟩), (6, ⟨#[35]⟩), (7, ⟨#[34]⟩), (8, ⟨#[59, 44, 40, 41, 43, 45, 42, 47, 37, 60, 61]⟩)]
def kdL : List (Int × Int) := [(9, 5), (10, 5), (13, 5), (32, 5), (34, 7), (35, 6), (37, 8), (40, 8), (41, 8), (42, 8), (43, 8), (44, 8), (45, 8), (46, 4), (47, 8), (48, 2), (49, 2), (50, 2), (51, 2), (52, 2), (53, 2), (54, 2), (55, 2), (56, 2), (57, 2), (59, 8), (60, 8), (61, 8), (95, 3), (97, 1), (98, 1), (99, 1), (100, 1), (101, 1), (102, 1), (103, 1), (104, 1), (105, 1), (106, 1), (107, 1), (108, 1), (109, 1), (110, 1), (111, 1), (112, 1), (113, 1), (114, 1), (115, 1), (116, 1), (117, 1), (118, 1), (119, 1), (120, 1), (121, 1), (122, 1)]
def kdI (c : Int) : Int := (mget kdL c).getD 0
def inE (e : Int × ByteArray) (c : Int) : Bool := e.2.data.toList.any fun x => decide ((x.toNat : Int) = c)
def layK (m : List (Int × Int)) (k : List (Int × ByteArray)) : List (Int × Int) := k.foldl (fun m e => qLa e.1 m e.2.data.toList) m
theorem qZf : ∀ {k : List (Int × ByteArray)} {m : List (Int × Int)}, Srt m → Srt (layK m k)
 | [], _, h => h
 | _ :: k, _, h => qZf (k := k) (qSy h)
theorem qYu (c : Int) : ∀ (k : List (Int × ByteArray)) (m : List (Int × Int)), (∀ e ∈ k, inE e c = true → e.1 = kdI c) → (∀ v, mget m c = some v → v = kdI c) →
  mget (layK m k) c = if (k.any fun e => inE e c) = true then some (kdI c) else mget m c
 | [], m, _, _ => by simp [layK]
 | e :: k, m, h, hm => by
  have hg := qTd (v := e.1) c e.2.data.toList m
  have := qYu c k (qLa e.1 m e.2.data.toList) (fun e' he => h e' (jO _ he)) (fun v hv => by
   rw [hg] at hv
   split at hv
   ·rename_i hi
    rw [← jD hv]
    exact h e (jL ..) hi
   ·exact hm v hv)
  rw [show layK m (e :: k) = layK (qLa e.1 m e.2.data.toList) k from rfl, this, hg]
  by_cases h1 : (k.any fun e => inE e c) = true
  ·simp [h1]
  ·by_cases h2 : inE e c = true
   ·have := h e (jL ..) h2
    have h2' : (e.2.data.toList.any fun x => decide ((x.toNat : Int) = c)) = true := h2
    simp only [List.any_cons, h2, Bool.true_or, jP, h1, h2', this]
    simp
   ·have h2' : (e.2.data.toList.any fun x => decide ((x.toNat : Int) = c)) = false := by simpa [inE] using h2
    simp only [List.any_cons, h1, h2', Bool.or_false, jB, jM]
    simp [h2]
theorem qZh : (allK.all fun e => e.2.data.toList.all fun x => decide (e.1 = kdI (x.toNat : Int))) = true ∧ (kdL.all fun p => allK.any fun e => inE e p.1) = true := ⟨by kernel_rfl, by kernel_rfl⟩
theorem kd_in {e : Int × ByteArray} {c : Int} (he : e ∈ allK) (h : inE e c = true) : e.1 = kdI c := by
 have := jK.1 qZh.1 e he
 obtain ⟨x, hx, hc⟩ := gI.1 h
 have h2 := jK.1 this x hx
 have hc : (x.toNat : Int) = c := by simpa using hc
 subst hc
 simpa using h2
theorem zGc (c : Int) : mget kdL c = if (allK.any fun e => inE e c) = true then some (kdI c) else none := by
 cases h : mget kdL c with
 | none =>
  rw [if_neg]
  intro ha
  obtain ⟨e, he, hi⟩ := gI.1 ha
  have h1 := kd_in he hi
  have h0 : kdI c = 0 := by simp [kdI, h]
  have : (allK.all fun e => decide (e.1 ≠ 0)) = true := by kernel_rfl
  have := jK.1 this e he
  simp [h1, h0] at this
 | some v =>
  have hm : (c, v) ∈ kdL := (qUx (l := kdL) (by
   have : decide ((kdL.map (·.1)).Nodup) = true := by kernel_rfl
   simpa using this)).1 h
  have := jK.1 qZh.2 _ hm
  rw [if_pos this]
  simp [kdI, h]
theorem zFr : Srt kdL := by
 have : decide ((kdL.map (·.1)).Pairwise (· < ·)) = true := by kernel_rfl
 simpa [Srt] using this
theorem zCc {k : List (Int × ByteArray)} (h : k.Perm allK) : layK [] k = kdL := by
 refine Srt.ext (qZf Srt.nil) zFr fun c => ?_
 rw [qYu c k [] (fun e he hi => kd_in (h.mem_iff.1 he) hi) (fun v hv => by cases hv), zGc]
 have : (k.any fun e => inE e c) = (allK.any fun e => inE e c) := by
  rw [k7, gI, gI]
  exact ⟨fun ⟨e, he, hi⟩ => ⟨e, h.mem_iff.1 he, hi⟩, fun ⟨e, he, hi⟩ => ⟨e, h.mem_iff.2 he, hi⟩⟩
 rw [this]
 rfl
theorem zDr {N : Nat} {e : Int × ByteArray} (m : List (Int × Int)) (he : e.2.size ≤ 26) (hN : 30 < N) : qDt N (some e) (some m) = some (.inl (some (qLa e.1 m e.2.data.toList))) := by
 have hsz : e.2.data.toList.length = e.2.size := by simp
 have hb : bytesOf e.2 = some e.2.data.toList := by unfold bytesOf; rw [if_pos (by simp only [maxLen]; omega)]
 simp only [qDt, hb, j0]
 have key := qTw (f := qHg N e e.2.data.toList) (fun i => ((i : Int), some (qLa e.1 m (e.2.data.toList.take i)))) e.2.data.toList.length (some (qLa e.1 m e.2.data.toList)) (fun i hi => ?_) ?_ (N := N) (by omega)
 ·simp only [Int.natCast_zero, List.take_zero] at key
  rw [show qLa e.1 m [] = m from rfl] at key
  rw [key]; rfl
 ·simp only [qHg]
  rw [if_pos (by simpa using hi), qGl hi]
  simp only [j0, qIb, jY]
  rw [wi64 (by omega) (by omega), kJ hi]
  simp [qLa]
 ·simp only [qHg]
  rw [if_neg (by simp), List.take_length]
theorem qSp {N : Nat} (hN : 30 < N) : ∀ (k : List (Int × ByteArray)) (m : List (Int × Int)), (∀ e ∈ k, e.2.size ≤ 26) → qKq (qDt N) k (some m) = some (some (layK m k))
 | [], m, _ => by simp [qKq, qDt, layK]
 | e :: k, m, h => by
  have := qSp hN k (qLa e.1 m e.2.data.toList) (fun e' he => h e' (jO _ he))
  simp only [qKq, zDr m (h e (jL ..)) hN, j0, this]
  rfl
theorem qUs {N : Nat} (hN : 30 < N) : qIm N = some (some kdL) := by
 have h8 : ∀ e ∈ allK, e.2.size ≤ 26 := by
  have : (allK.all fun e => decide (e.2.size ≤ 26)) = true := by kernel_rfl
  intro e he
  simpa using jK.1 this e he
 have key : qPe (qDt N) allK (some []) = some (some kdL) := qVl fun k hk => by
  rw [qSp hN k [] (fun e he => h8 e (hk.mem_iff.1 he)), zCc hk]
 have h1 : qIm N = (qPe (qDt N) allK (some [])).bind fun o1 => some o1 := by kernel_rfl
 rw [h1, key]; rfl
end Go.Proofs.YtiblcebedkllpaaDoor
end
namespace Go.Proofs.YtiblcebedkllpaaDoor
section
open Go Go.Dc
theorem qCa (s : ByteArray) : s.data.toList.length = s.size := by simp
theorem qKr {s : ByteArray} {i : Nat} (h : i < s.data.toList.length) : idxB s (i : Int) = some (s.data.toList[i]) := by
 have h' : i < s.size := by simpa using h
 rw [qUw h']
 simp [ByteArray.getElem_eq_getElem_data]
def tw (p : UInt8 → Bool) (l : List UInt8) (a : Nat) : Nat := a + ((l.drop a).takeWhile p).length
section
variable {p : UInt8 → Bool} {l : List UInt8} {a : Nat}
theorem qOu (h : a ≤ l.length) : a ≤ tw p l a ∧ tw p l a ≤ l.length := by
 have := (f0 p (l := l.drop a)).length_le
 simp only [gT] at this
 unfold tw; omega
theorem qPp (h : a < l.length) (hb : p l[a] = true) : tw p l (a + 1) = tw p l a := by
 unfold tw
 rw [jH h, kX hb]
 simp only [jA]; omega
theorem qRi (h : a < l.length) (hb : p l[a] = false) : tw p l a = a := by
 unfold tw
 rw [jH h, gR (by simp [hb])]
 simp
theorem qZo (h : l.length ≤ a) : tw p l a = a := by
 unfold tw
 rw [jS h]; rfl
theorem zCe : ∀ (d a : Nat), a + d = l.length → ∀ h : tw p l a < l.length, p (l[tw p l a]'h) = false
 | 0, a, hd, h => by rw [qZo (by omega)] at h; omega
 | d + 1, a, hd, h => by
  have ha : a < l.length := by omega
  cases hb : p l[a] with
  | true =>
   have e := qPp ha hb
   have := zCe d (a + 1) (by omega) (by rw [e]; exact h)
   simpa only [e] using this
  | false =>
   have e := qRi ha hb
   simpa only [e] using hb
theorem zAu {β : Type} {f : Int → Option (Int ⊕ β)} (out : Nat → β) (go : ∀ i : Nat, ∀ h : i < l.length, p l[i] = true → f (i : Int) = some (.inl ((i : Int) + 1)))
  (no : ∀ i : Nat, ∀ h : i < l.length, p l[i] = false → f (i : Int) = some (.inr (out i))) (en : f (l.length : Int) = some (.inr (out l.length))) :
  ∀ (d a N : Nat), a + d = l.length → d < N → qBe f N (a : Int) = some (out (tw p l a))
 | d, a, 0, _, h => by omega
 | 0, a, N + 1, hd, h => by
  have : a = l.length := by omega
  subst this
  rw [qZo (jR _)]; simp [qBe, en]
 | d + 1, a, N + 1, hd, h => by
  have ha : a < l.length := by omega
  cases hb : p l[a] with
  | true =>
   have := zAu out go no en d (a + 1) N (by omega) (by omega)
   rw [qPp ha hb] at this
   simpa [qBe, go a ha hb] using this
  | false =>
   rw [qRi ha hb]; simp [qBe, no a ha hb]
end
def kd (c : UInt8) : Int := kdI (c.toNat : Int)
def inK (ks : List Int) (c : UInt8) : Bool := ks.any fun k => kd c == k
theorem qTg {N : Nat} {s : ByteArray} {ks : List Int} {i : Nat} (h : i < s.data.toList.length) (hk : ks.length ≤ 10) (hN : 10 < N) : qBe (qHb N s (some kdL) ks (i : Int)) N (false, 0) = some (inK ks (s.data.toList[i])) := by
 have key := qTw (f := qHb N s (some kdL) ks (i : Int)) (fun j => ((ks.take j).any (fun k => kd (s.data.toList[i]) == k), (j : Int))) ks.length (inK ks (s.data.toList[i])) (fun j hj => ?_) ?_ (N := N) (by omega)
 ·simpa using key
 ·simp only [qHb]
  rw [if_pos (by simpa using hj), qGl hj, qKr h]
  simp only [j0]
  rw [wi64 (by omega) (by omega), kJ hj, List.any_append]
  cases (ks.take j).any (fun k => kd (s.data.toList[i]) == k)
  ·simp [kd, kdI, qAl]
  ·simp
 ·simp only [qHb]
  rw [if_neg (by simp), List.take_length]
  rfl
theorem qQr {N : Nat} {s : ByteArray} {ks : List Int} {i : Nat} (hi : i ≤ s.data.toList.length) (hl : s.data.toList.length < 1000000) (hk : ks.length ≤ 10) (hN : s.data.toList.length + 10 < N) :
  qHf N s (i : Int) (some kdL) ks = some ((tw (inK ks) s.data.toList i : Nat) : Int) := by
 have hs := qCa s
 have key := zAu (f := qGz N s (some kdL) ks) (l := s.data.toList) (p := inK ks) (fun n => (n : Int)) (fun j hj hb => by
   simp only [qGz]
   rw [if_pos (by simp only [j9]; omega), qTg hj hk (by omega), hb]
   simp only [j0]
   rw [wi64 (by omega) (by omega)]
   rfl) (fun j hj hb => by
   simp only [qGz]
   rw [if_pos (by simp only [j9]; omega), qTg hj hk (by omega), hb]
   rfl) (by
   simp only [qGz]
   rw [if_neg (by simp only [j9]; omega)]) (s.data.toList.length - i) i N (by omega) (by omega)
 unfold qHf
 rw [key]
 rfl
end
section
open Go Go.Dc
theorem zCd (c : UInt8) : (qAl (some kdL) (c.toNat : Int)).getD 0 = kd c := rfl
theorem qIn {l : List UInt8} {i : Nat} (h : i < l.length) : l.getD i 0 = l[i] := by simp [kF, h]
theorem qZp {β : Type} {p : UInt8 → Bool} {l : List UInt8} {a0 : Nat} {f : Int → Option (Int ⊕ β)} (out : Nat → β) (go : ∀ i : Nat, ∀ h : i < l.length, p l[i] = true → f (i : Int) = some (.inl ((i : Int) + 1)))
  (no : ∀ i : Nat, ∀ h : i < l.length, a0 ≤ i → p l[i] = false → f (i : Int) = some (.inr (out i))) (en : f (l.length : Int) = some (.inr (out l.length))) :
  ∀ (d a N : Nat), a0 ≤ a → a + d = l.length → d < N → qBe f N (a : Int) = some (out (tw p l a))
 | d, a, 0, _, _, h => by omega
 | 0, a, N + 1, _, hd, h => by
  have : a = l.length := by omega
  subst this
  rw [qZo (jR _)]; simp [qBe, en]
 | d + 1, a, N + 1, h0, hd, h => by
  have ha : a < l.length := by omega
  cases hb : p l[a] with
  | true =>
   have := qZp out go no en d (a + 1) N (by omega) (by omega) (by omega)
   rw [qPp ha hb] at this
   simpa [qBe, go a ha hb] using this
  | false =>
   rw [qRi ha hb]; simp [qBe, no a ha h0 hb]
def numS (n : Int) (c : UInt8) : Int := if 9007199254740993 < 10 * n + ((c.toNat : Int) - 48) then 9007199254740993 else 10 * n + ((c.toNat : Int) - 48)
def numL (ds : List UInt8) : Int := ds.foldl numS 0
def qRy (c : UInt8) : Bool := decide (32 ≤ c.toNat) && decide (c.toNat ≤ 126) && c != 34
def zBn : Int × ByteArray × Int × Int := (0, ⟨#[]⟩, 0, 0)
def qVv (l : List UInt8) (i : Nat) : Nat := if l.getD i 0 = 61 ∧ l.getD (i + 1) 0 = 61 then i + 2 else i + 1
def tokP (s : ByteArray) (i : Nat) : (Int × ByteArray × Int × Int) × Int × Int :=
 if kd (s.data.toList.getD i 0) = 1 then
  if tw (inK [1, 2, 3]) s.data.toList i - i > 24 then (zBn, 0, 2) else ((1, s.extract i (tw (inK [1, 2, 3]) s.data.toList i), 0, 0), ((tw (inK [1, 2, 3]) s.data.toList i : Nat) : Int), 0)
 else if kd (s.data.toList.getD i 0) = 2 then
  if numL ((s.data.toList.drop i).takeWhile (inK [2])) > 9007199254740992 then (zBn, 0, 3) else ((2, ⟨#[]⟩, numL ((s.data.toList.drop i).takeWhile (inK [2])), 0), ((tw (inK [2]) s.data.toList i : Nat) : Int), 0)
 else if kd (s.data.toList.getD i 0) = 7 then
  if s.data.toList.getD (tw qRy s.data.toList (i + 1)) 0 = 34 then ((3, s.extract (i + 1) (tw qRy s.data.toList (i + 1)), 0, 0), ((tw qRy s.data.toList (i + 1) + 1 : Nat) : Int), 0) else (zBn, 0, 9)
 else if kd (s.data.toList.getD i 0) = 8 then
  ((4, s.extract i (qVv s.data.toList i), 0, 0), ((qVv s.data.toList i : Nat) : Int), 0)
 else (zBn, 0, 9)
theorem qYz : ∀ c : UInt8, kd c = 2 → 48 ≤ c.toNat ∧ c.toNat ≤ 57 := by
 have h : ((List.range 256).all fun n => !(decide (kd (UInt8.ofNat n) = 2)) || (decide (48 ≤ n) && decide (n ≤ 57))) = true := by kernel_rfl
 intro c hc
 have := jK.1 h c.toNat (gJ.2 c.toNat_lt)
 simpa [hc] using this
theorem qTt {s : ByteArray} {p : UInt8 → Bool} {i : Nat} : (s.extract i (tw p s.data.toList i)).data.toList = (s.data.toList.drop i).takeWhile p := by
 simp only [ByteArray.data_extract, gB]
 have h := List.prefix_iff_eq_take.1 (List.takeWhile_prefix p (l := s.data.toList.drop i))
 rw [kM, show tw p s.data.toList i - i = ((s.data.toList.drop i).takeWhile p).length by unfold tw; omega]
 exact h.symm
theorem qVf (l : List UInt8) (c : UInt8) : numL (l ++ [c]) = numS (numL l) c := by simp [numL]
theorem zAx {p : UInt8 → Bool} : ∀ {l : List UInt8} {c : UInt8}, c ∈ l.takeWhile p → p c = true
 | [], _, h => by simp at h
 | x :: l, c, h => by
  cases hx : p x with
  | true =>
   rw [kX hx] at h
   rcases jI.1 h with rfl | h
   ·exact hx
   ·exact zAx h
  | false => rw [gR (by simp [hx])] at h; cases h
theorem zDm {N : Nat} {ds : List UInt8} (hd : ∀ c ∈ ds, kd c = 2) (hl : ds.length < 1000000) (hN : ds.length < N) : qBe (qGi N ds) N (0, 0) = some (numL ds) := by
 have hb : ∀ j, j ≤ ds.length → 0 ≤ numL (ds.take j) ∧ numL (ds.take j) ≤ 9007199254740993 := by
  intro j
  induction j with
  | zero => intro _; simp [numL]
  | succ j ih =>
   intro hj
   have := ih (by omega)
   rw [kJ (by omega)]
   have hc := qYz _ (hd _ (kC (show j < ds.length by omega)))
   rw [qVf]
   unfold numS
   split <;> omega
 have key := qTw (f := qGi N ds) (fun j => (numL (ds.take j), (j : Int))) ds.length (numL ds) (fun j hj => ?_) ?_ (N := N) (by omega)
 ·exact key
 ·have hc := qYz _ (hd _ (kC hj))
  have h0 := hb j (by omega)
  simp only [qGi]
  rw [if_pos (by simpa using hj), qGl hj]
  simp only [j0]
  rw [wu8 (by omega) (by omega), wi64 (x := 10 * numL (ds.take j)) (by omega) (by omega), wi64 (x := ((ds[j]).toNat : Int) - 48) (by omega) (by omega), wi64 (x := (j : Int) + 1) (by omega) (by omega), wi64 (by omega) (by omega), kJ hj, qVf]
  rfl
 ·simp only [qGi]
  rw [if_neg (by simp), List.take_length]
theorem qLb {s : ByteArray} {i e : Nat} (h1 : i ≤ e) (h2 : e ≤ s.data.toList.length) : subB s (i : Int) (e : Int) = some (s.extract i e) := by
 have := qCa s
 rw [qNj (by omega) (by omega) (by omega)]
 simp
theorem zGd {N : Nat} {s : ByteArray} {i j : Nat} (hj : j < s.data.toList.length) (hl : s.data.toList.length < 1000000) (hb : qRy (s.data.toList[j]) = true) : qEo N s (i : Int) (j : Int) = some (.inl ((j : Int) + 1)) := by
 have hs := qCa s
 simp only [qRy, jN, j9, bne_iff_ne, ne_eq] at hb
 obtain ⟨⟨h1, h2⟩, h3⟩ := hb
 have h3' : ¬ ((s.data.toList[j]).toNat : Int) = 34 := fun e => h3 (UInt8.toNat_inj.1 (by show _ = 34; omega))
 simp only [qEo, qKr hj, j0]
 rw [if_pos (by simp only [j9]; omega), if_pos (by simp only [j9]; omega)]
 simp only [j0]
 rw [if_pos (by simp only [j9]; omega), if_neg (by simpa using h3'), wi64 (by omega) (by omega)]
theorem zFe {N : Nat} {s : ByteArray} {i j : Nat} (hi : i < s.data.toList.length) (hj : j < s.data.toList.length) (hl : s.data.toList.length < 1000000) (hij : i + 1 ≤ j) (hb : qRy (s.data.toList[j]) = false) :
  qEo N s (i : Int) (j : Int) = some (.inr (if s.data.toList.getD j 0 = 34 then (.inr ((3, s.extract (i + 1) j, 0, 0), ((j + 1 : Nat) : Int), 0)) else (.inl ()))) := by
 have hs := qCa s
 simp only [qEo, qKr hj, j0, qIn hj]
 rw [if_pos (by simp only [j9]; omega)]
 by_cases h34 : s.data.toList[j] = 34
 ·rw [h34]
  simp only [show ((34 : UInt8).toNat : Int) = 34 from rfl]
  rw [wi64 (x := (i : Int) + 1) (by omega) (by omega), wi64 (by omega) (by omega), ← Int.natCast_succ, qLb hij (by omega)]
  rfl
 ·have h3' : ¬ ((s.data.toList[j]).toNat : Int) = 34 := fun e => h34 (UInt8.toNat_inj.1 (by show _ = 34; omega))
  rw [if_neg h34]
  simp only [qRy, Bool.and_eq_false_iff, decide_eq_false_iff_not, bne_eq_false_iff_eq, h34, or_false] at hb
  by_cases h1 : 32 ≤ (s.data.toList[j]).toNat
  ·rw [if_pos (by simp only [j9]; omega)]
   simp only [j0]
   rw [if_neg (by simp only [j9]; omega)]
  ·rw [if_neg (by simp only [j9]; omega)]
   simp
theorem qRe {s : ByteArray} {i : Nat} (h1 : i ≤ s.data.toList.length) : subB s (i : Int) (s.size : Int) = some (s.extract i s.data.toList.length) := by
 have hs := qCa s
 rw [← qLb h1 (jR _), hs]
theorem qGv (x y : ByteArray) : (x.toList == y.toList) = decide (x = y) := by
 rw [k7]
 simp only [kA, j9]
 constructor
 ·intro h
  rw [ByteArray.toList_eq, ByteArray.toList_eq] at h
  exact Go.WideShapes.bytes_inj h
 ·rintro rfl; rfl
theorem zCq {N : Nat} {s : ByteArray} {i : Nat} (hi : i < s.data.toList.length) : qGt N (s.extract i s.data.toList.length) (⟨#[61, 61]⟩ : ByteArray) = some (decide (s.data.toList.getD i 0 = 61 ∧ s.data.toList.getD (i + 1) 0 = 61)) := by
 have hs := qCa s
 have hsz : (s.extract i s.data.toList.length).size = s.data.toList.length - i := by rw [ByteArray.size_extract]; omega
 simp only [qGt, qDg, hsz, show (⟨#[61, 61]⟩ : ByteArray).size = 2 from rfl]
 by_cases h : i + 1 < s.data.toList.length
 ·have hd : ((s.extract i s.data.toList.length).extract 0 2).data.toList = [s.data.toList[i], s.data.toList[i + 1]] := by
   simp only [ByteArray.data_extract, gB, kM, k0]
   rw [List.take_take, jH hi, jH h]
   have : min (2 - 0) (s.data.toList.length - i) = 2 := by omega
   rw [this]; rfl
  have hsub : subB (s.extract i s.data.toList.length) 0 ((2 : Nat) : Int) = some ((s.extract i s.data.toList.length).extract 0 2) := by
   have := qLb (s := s.extract i s.data.toList.length) (i := 0) (e := 2) (by omega) (by rw [qCa, hsz]; omega)
   simpa only [Int.natCast_zero] using this
  rw [if_pos (by simp only [j9]; omega), hsub]
  simp only [j0, qGv]
  rw [qIn hi, qIn h]
  generalize (s.extract i s.data.toList.length).extract 0 2 = X at hd
  refine congrArg some (decide_eq_decide.2 ?_)
  constructor
  ·intro e
   rw [e] at hd
   have hd' : [(61 : UInt8), 61] = [s.data.toList[i], s.data.toList[i + 1]] := hd
   simp only [jW, and_true] at hd'
   exact ⟨hd'.1.symm, hd'.2.symm⟩
  ·rintro ⟨e1, e2⟩
   apply Go.WideShapes.bytes_inj
   rw [hd, e1, e2]
 ·rw [if_neg (by simp only [j9]; omega)]
  have h0 : s.data.toList.getD (i + 1) 0 = 0 := by rw [kF, List.getElem?_eq_none (by omega)]; rfl
  rw [h0]
  simp
theorem zDk {N : Nat} {s : ByteArray} {i : Nat} (hi : i < s.data.toList.length) (hl : s.data.toList.length < 1000000) (hN : s.data.toList.length + 20 < N) : qKs N s (i : Int) (some kdL) = some (tokP s i) := by
 have hs := qCa s
 simp only [qKs, qKr hi, j0, zCd, tokP, qIn hi, kA]
 by_cases h1 : kd (s.data.toList[i]) = 1
 ·simp only [h1, jP]
  have hb := qOu (p := inK [1, 2, 3]) (l := s.data.toList) (a := i) (by omega)
  rw [qQr (by omega) hl (by simp) (by omega)]
  simp only [j0]
  rw [wi64 (by omega) (by omega), qLb hb.1 hb.2]
  by_cases h : tw (inK [1, 2, 3]) s.data.toList i - i > 24
  ·rw [if_pos (by simp only [j9]; omega), if_pos h]; rfl
  ·rw [if_neg (by simp only [j9]; omega), if_neg h]; rfl
 simp only [h1, jM]
 by_cases h2 : kd (s.data.toList[i]) = 2
 ·simp only [h2, jP]
  have hb := qOu (p := inK [2]) (l := s.data.toList) (a := i) (by omega)
  have hx := qCa (s.extract i (tw (inK [2]) s.data.toList i))
  have he := qTt (s := s) (p := inK [2]) (i := i)
  have hlen : ((s.data.toList.drop i).takeWhile (inK [2])).length ≤ s.data.toList.length := by
   have := (f0 (inK [2]) (l := s.data.toList.drop i)).length_le
   simp only [gT] at this; omega
  rw [qQr (by omega) hl (by simp) (by omega)]
  simp only [j0]
  rw [qLb hb.1 hb.2]
  simp only [j0]
  have hbo : bytesOf (s.extract i (tw (inK [2]) s.data.toList i)) = some ((s.data.toList.drop i).takeWhile (inK [2])) := by
   unfold bytesOf; rw [← he, if_pos]; rw [← hx, he]; simp only [maxLen]; omega
  rw [hbo]
  simp only [j0]
  rw [zDm (fun c hc => ?_) (by omega) (by omega)]
  ·simp only [j0, j9]
   split <;> rfl
  ·have := zAx hc
   simpa [inK] using this
 simp only [h2, jM]
 by_cases h7 : kd (s.data.toList[i]) = 7
 ·simp only [h7, jP]
  have key := qZp (a0 := i + 1) (f := qEo N s (i : Int)) (l := s.data.toList) (p := qRy) (fun e => if s.data.toList.getD e 0 = 34 then (.inr ((3, s.extract (i + 1) e, 0, 0), ((e + 1 : Nat) : Int), 0)) else (.inl ()))
   (fun j hj hb => zGd hj hl hb) (fun j hj h0 hb => zFe hi hj hl h0 hb) (by
    simp only [qEo]
    rw [if_neg (by simp only [j9]; omega), if_neg (by simp)]
    rfl) (s.data.toList.length - (i + 1)) (i + 1) N (jR _) (by omega) (by omega)
  rw [wi64 (x := (i : Int) + 1) (by omega) (by omega), ← Int.natCast_succ, key]
  simp only [j0]
  split
  ·rename_i h; split at h <;> simp_all [zBn]
  ·rename_i h; split at h <;> simp_all
 simp only [h7, jM]
 by_cases h8 : kd (s.data.toList[i]) = 8
 ·simp only [h8, jP]
  rw [qRe (by omega), wi64 (x := (i : Int) + 1) (by omega) (by omega)]
  simp only [j0]
  rw [zCq hi]
  simp only [j0, j9]
  by_cases h : s.data.toList.getD i 0 = 61 ∧ s.data.toList.getD (i + 1) 0 = 61
  ·have hlt : i + 1 < s.data.toList.length := by
    rcases gW (i + 1) s.data.toList.length with h' | h'
    ·exact h'
    ·have h0 : s.data.toList.getD (i + 1) 0 = 0 := by rw [kF, List.getElem?_eq_none h']; rfl
     rw [h0] at h; exact absurd h.2 (by decide)
   have hE : qVv s.data.toList i = i + 2 := by rw [qVv, if_pos h]
   rw [if_pos h, wi64 (by omega) (by omega), hE]
   simp only [j0]
   rw [show ((i : Int) + 1 + 1) = ((i + 2 : Nat) : Int) by omega, qLb (by omega) (by omega)]
   rfl
  ·have hE : qVv s.data.toList i = i + 1 := by rw [qVv, if_neg h]
   rw [if_neg h, hE]
   simp only [j0]
   rw [← Int.natCast_succ, qLb (by omega) (by omega)]
   rfl
 simp only [h8, jM]
 rfl
end
section
open Go Go.Dc
theorem zEt {p : UInt8 → Bool} {l : List UInt8} (h : ∀ c ∈ l, p c = true) : tw p l 0 = l.length := by
 unfold tw
 have : l.takeWhile p = l := by
  induction l with
  | nil => rfl
  | cons c l ih => rw [kX (h c (jL ..)), ih fun d hd => h d (jO _ hd)]
 simp [this]
end
section
open Go Go.Dc
abbrev Tok := Int × ByteArray × Int × Int
theorem qYs {ks : List Int} {k : Int} {c : UInt8} (hk : k ∈ ks) (h : kd c = k) : inK ks c = true := by
 unfold inK; exact gI.2 ⟨k, hk, by simp [h]⟩
theorem qVx {p : UInt8 → Bool} {l : List UInt8} {a : Nat} (h : a < l.length) (hp : p l[a] = true) : a < tw p l a := by
 rw [← qPp h hp]; have := (qOu (p := p) (l := l) (a := a + 1) (by omega)).1; omega
theorem qZl {l : List UInt8} {i : Nat} (h : l.getD i 0 ≠ 0) : i < l.length := by
 rcases gW i l.length with h' | h'
 ·exact h'
 ·exfalso; apply h; rw [kF, List.getElem?_eq_none h']; rfl
theorem qXh {s : ByteArray} {i : Nat} (hi : i < s.data.toList.length) (h : (tokP s i).2.2 = 0) : ∃ e : Nat, (tokP s i).2.1 = (e : Int) ∧ i < e ∧ e ≤ s.data.toList.length ∧
  (((tokP s i).1.1 = 1 ∨ (tokP s i).1.1 = 4) ∧ (tokP s i).1.2.1 = s.extract i e ∨ (tokP s i).1.1 = 2 ∧ (tokP s i).1.2.1 = ⟨#[]⟩ ∨ (tokP s i).1.1 = 3 ∧ (tokP s i).1.2.1.size + i < e) := by
 have hs := qCa s
 unfold tokP at h ⊢
 rw [qIn hi] at h ⊢
 by_cases h1 : kd (s.data.toList[i]) = 1
 ·rw [if_pos h1] at h ⊢
  split at h
  ·cases h
  ·rename_i h24
   rw [if_neg h24]
   have hb := qOu (p := inK [1, 2, 3]) (l := s.data.toList) (a := i) (by omega)
   exact ⟨_, rfl, qVx hi (qYs (by simp) h1), hb.2, .inl ⟨.inl rfl, rfl⟩⟩
 rw [if_neg h1] at h ⊢
 by_cases h2 : kd (s.data.toList[i]) = 2
 ·rw [if_pos h2] at h ⊢
  split at h
  ·cases h
  ·rename_i h24
   rw [if_neg h24]
   have hb := qOu (p := inK [2]) (l := s.data.toList) (a := i) (by omega)
   exact ⟨_, rfl, qVx hi (qYs (by simp) h2), hb.2, .inr (.inl ⟨rfl, rfl⟩)⟩
 rw [if_neg h2] at h ⊢
 by_cases h7 : kd (s.data.toList[i]) = 7
 ·rw [if_pos h7] at h ⊢
  split at h
  ·rename_i h24
   rw [if_pos h24]
   have hb := qOu (p := qRy) (l := s.data.toList) (a := i + 1) (by omega)
   have hlt : tw qRy s.data.toList (i + 1) < s.data.toList.length := qZl (by rw [h24]; decide)
   refine ⟨_, rfl, by omega, by omega, .inr (.inr ⟨rfl, ?_⟩)⟩
   simp only [ByteArray.size_extract]
   omega
  ·cases h
 rw [if_neg h7] at h ⊢
 by_cases h8 : kd (s.data.toList[i]) = 8
 ·rw [if_pos h8] at h ⊢
  refine ⟨_, rfl, ?_, ?_, .inl ⟨.inr rfl, rfl⟩⟩
  ·unfold qVv; split <;> omega
  ·unfold qVv
   split
   ·rename_i hh
    have : i + 1 < s.data.toList.length := qZl (by rw [hh.2]; decide)
    omega
   ·omega
 rw [if_neg h8] at h
 cases h
def qHy (c : UInt8) : Bool := c != 10
def tokG : Nat → ByteArray → Nat → (Int × Int) ⊕ List Tok
 | 0, _, _ => .inr []
 | k + 1, s, i =>
  if tw (inK [5]) s.data.toList i = s.data.toList.length then .inr [(5, ⟨#[]⟩, 0, (s.data.toList.length : Int))]
  else if kd (s.data.toList.getD (tw (inK [5]) s.data.toList i) 0) = 6 then tokG k s (tw qHy s.data.toList (tw (inK [5]) s.data.toList i))
  else if (tokP s (tw (inK [5]) s.data.toList i)).2.2 ≠ 0 then .inl ((tw (inK [5]) s.data.toList i : Nat), (tokP s (tw (inK [5]) s.data.toList i)).2.2)
  else match tokG k s (tokP s (tw (inK [5]) s.data.toList i)).2.1.toNat with
   | .inl x => .inl x
   | .inr r => .inr (((tokP s (tw (inK [5]) s.data.toList i)).1.1, (tokP s (tw (inK [5]) s.data.toList i)).1.2.1, (tokP s (tw (inK [5]) s.data.toList i)).1.2.2.1, ((tw (inK [5]) s.data.toList i : Nat) : Int)) :: r)
def zEj (acc : List Tok) : (Int × Int) ⊕ List Tok → List Tok × Int × Int
 | .inl x => ([], x.1, x.2)
 | .inr r => (acc ++ r, 0, 0)
def qFq (s : ByteArray) : List Tok × Int × Int := if s.data.toList.length > 16384 then ([], 0, 2) else zEj [] (tokG (s.data.toList.length + 1) s 0)
theorem zGw {s : ByteArray} {i : Nat} (hi : i ≤ s.data.toList.length) :
  (if ixB (s.extract i s.data.toList.length) 10 < 0 then ((s.data.toList.length - i : Nat) : Int) else ixB (s.extract i s.data.toList.length) 10) = ((tw qHy s.data.toList i - i : Nat) : Int) := by
 have hs := qCa s
 have hsz : (s.extract i s.data.toList.length).size = s.data.toList.length - i := by rw [ByteArray.size_extract]; omega
 have hb := qOu (p := qHy) (l := s.data.toList) (a := i) hi
 have hget : ∀ j, j < s.data.toList.length - i → (s.extract i s.data.toList.length)[j]! = s.data.toList.getD (i + j) 0 := by
  intro j hj
  have hj' : i + j < s.data.toList.length := by omega
  rw [qIn hj', getElem!_pos _ _ (by rw [hsz]; exact hj), ByteArray.getElem_extract]
  simp [ByteArray.getElem_eq_getElem_data]
 have hin : ∀ d a, a + d = s.data.toList.length → ∀ j, a ≤ j → j < tw qHy s.data.toList a → s.data.toList.getD j 0 ≠ 10 := by
  intro d
  induction d with
  | zero => intro a ha j h1 h2; rw [qZo (by omega)] at h2; omega
  | succ d ih =>
   intro a ha j h1 h2
   have hlt : a < s.data.toList.length := by omega
   cases hc : qHy (s.data.toList[a]) with
   | true =>
    rw [← qPp hlt hc] at h2
    rcases Nat.eq_or_lt_of_le h1 with rfl | h1
    ·rw [qIn hlt]; simpa [qHy] using hc
    ·exact ih (a + 1) (by omega) j h1 h2
   | false => rw [qRi hlt hc] at h2; omega
 have hin := hin (s.data.toList.length - i) i (by omega)
 unfold ixB
 rw [hsz]
 cases hf : (List.range (s.data.toList.length - i)).find? (fun j => (s.extract i s.data.toList.length)[j]! == (10 : Int).toNat.toUInt8) with
 | none =>
  rw [List.find?_eq_none] at hf
  simp only
  rw [if_pos (by omega)]
  have : ¬ tw qHy s.data.toList i < s.data.toList.length := by
   intro hlt
   have h1 := zCe (p := qHy) (l := s.data.toList) (s.data.toList.length - i) i (by omega) hlt
   have h2 := hf (tw qHy s.data.toList i - i) (gJ.2 (by omega))
   rw [hget _ (by omega), show i + (tw qHy s.data.toList i - i) = tw qHy s.data.toList i by omega, qIn hlt] at h2
   simp only [qHy, bne_eq_false_iff_eq] at h1
   rw [h1] at h2
   exact h2 (by decide)
  omega
 | some k =>
  have h1 := List.find?_some hf
  have hk : k < s.data.toList.length - i := gJ.1 (g9 hf)
  simp only
  rw [if_neg (by omega)]
  rw [hget k hk] at h1
  have h1 : s.data.toList.getD (i + k) 0 = 10 := by simpa using h1
  have h2 : ¬ i + k < tw qHy s.data.toList i := fun h => hin (i + k) (by omega) h h1
  have h3 : ¬ tw qHy s.data.toList i < i + k := by
   intro hlt
   have hlt' : tw qHy s.data.toList i < s.data.toList.length := by omega
   have h4 := zCe (p := qHy) (l := s.data.toList) (s.data.toList.length - i) i (by omega) hlt'
   have h5 := List.not_of_lt_findIdx (xs := List.range (s.data.toList.length - i)) (p := fun j => (s.extract i s.data.toList.length)[j]! == (10 : Int).toNat.toUInt8) (i := tw qHy s.data.toList i - i)
   have h6 := (List.find?_range_eq_some.1 hf).2.2 (tw qHy s.data.toList i - i) (by omega)
   rw [hget _ (by omega), show i + (tw qHy s.data.toList i - i) = tw qHy s.data.toList i by omega, qIn hlt'] at h6
   simp only [qHy, bne_eq_false_iff_eq] at h4
   rw [h4] at h6
   simp at h6
  omega
end
section
open Go Go.Dc
theorem qOp {N : Nat} {s : ByteArray} (hl : s.data.toList.length ≤ 16384) (hN : s.data.toList.length + 40 < N) : ∀ (k M i : Nat) (acc : List Tok), i ≤ s.data.toList.length → s.data.toList.length < i + k → k ≤ M → acc.length ≤ i →
  qBe (qGq N s (some kdL)) M (acc, (i : Int)) = some (zEj acc (tokG k s i))
 | 0, _, i, _, h1, h2, _, _ => by omega
 | k + 1, 0, _, _, _, _, h3, _ => by omega
 | k + 1, M + 1, i, acc, h1, h2, h3, h4 => by
  have hs := qCa s
  have hb := qOu (p := inK [5]) (l := s.data.toList) (a := i) h1
  simp only [qBe, tokG]
  have hstep : qGq N s (some kdL) (acc, (i : Int)) = if tw (inK [5]) s.data.toList i = s.data.toList.length then some (.inr (acc ++ [(5, ⟨#[]⟩, 0, (s.data.toList.length : Int))], 0, 0))
    else if kd (s.data.toList.getD (tw (inK [5]) s.data.toList i) 0) = 6 then some (.inl (acc, ((tw qHy s.data.toList (tw (inK [5]) s.data.toList i) : Nat) : Int)))
    else if (tokP s (tw (inK [5]) s.data.toList i)).2.2 ≠ 0 then some (.inr ([], (tw (inK [5]) s.data.toList i : Nat), (tokP s (tw (inK [5]) s.data.toList i)).2.2))
    else some (.inl (acc ++ [((tokP s (tw (inK [5]) s.data.toList i)).1.1, (tokP s (tw (inK [5]) s.data.toList i)).1.2.1, (tokP s (tw (inK [5]) s.data.toList i)).1.2.2.1, ((tw (inK [5]) s.data.toList i : Nat) : Int))], (tokP s (tw (inK [5]) s.data.toList i)).2.1)) := by
   simp only [qGq]
   rw [qQr h1 (by omega) (by simp) (by omega)]
   simp only [j0]
   generalize hE : tw (inK [5]) s.data.toList i = e at hb ⊢
   by_cases he : e = s.data.toList.length
   ·rw [if_pos he, if_pos (by rw [kA]; omega), qBv (by simp only [jA, jC]; omega) (by omega), he]
    rfl
   ·have hlt : e < s.data.toList.length := by omega
    rw [if_neg he, if_neg (by rw [kA]; omega), qKr hlt]
    simp only [j0, zCd, kA, qIn hlt]
    by_cases h6 : kd (s.data.toList[e]) = 6
    ·rw [if_pos h6, if_pos h6, qRe (by omega)]
     have hle := zGw (s := s) (i := e) (by omega)
     have hb2 := qOu (p := qHy) (l := s.data.toList) (a := e) (by omega)
     have hx : (if (decide (ixB (s.extract e s.data.toList.length) 10 < 0)) = true then (some (IntKind.wrap .i64 ((ByteArray.size s : Int) - (e : Int)))) else (some (ixB (s.extract e s.data.toList.length) 10)) : Option Int) = some ((tw qHy s.data.toList e - e : Nat) : Int) := by
      rw [← hle, wi64 (by omega) (by omega)]
      by_cases hi : ixB (s.extract e s.data.toList.length) 10 < 0
      ·rw [if_pos (by simpa using hi), if_pos hi]; congr 1; omega
      ·rw [if_neg (by simpa using hi), if_neg hi]
     simp only [j0, qHw, qCg]
     rw [hx]
     simp only [j0]
     rw [wi64 (by omega) (by omega)]
     congr 3; omega
    ·rw [if_neg h6, if_neg h6, zDk hlt (by omega) (by omega)]
     simp only [j0, bne_iff_ne]
     by_cases h0 : (tokP s e).2.2 ≠ 0
     ·rw [if_pos h0, if_pos h0]
     ·rw [if_neg h0, if_neg h0, qBv (by simp only [jA, jC]; omega) (by omega)]
      rfl
  rw [hstep]
  by_cases he : tw (inK [5]) s.data.toList i = s.data.toList.length
  ·rw [if_pos he, if_pos he]; rfl
  rw [if_neg he, if_neg he]
  have hlt : tw (inK [5]) s.data.toList i < s.data.toList.length := by omega
  by_cases h6 : kd (s.data.toList.getD (tw (inK [5]) s.data.toList i) 0) = 6
  ·rw [if_pos h6, if_pos h6]
   have hb2 := qOu (p := qHy) (l := s.data.toList) (a := tw (inK [5]) s.data.toList i) (by omega)
   have hpos := qVx (p := qHy) hlt (by
    rw [qIn hlt] at h6
    simp only [qHy, bne_iff_ne, ne_eq]
    intro e; rw [e] at h6; exact absurd h6 (by decide))
   exact qOp hl hN k M _ acc hb2.2 (by omega) (by omega) (by omega)
  rw [if_neg h6, if_neg h6]
  by_cases h0 : (tokP s (tw (inK [5]) s.data.toList i)).2.2 ≠ 0
  ·rw [if_pos h0, if_pos h0]; rfl
  rw [if_neg h0, if_neg h0]
  obtain ⟨e, he1, he2, he3, _⟩ := qXh hlt (by simpa using h0)
  rw [he1]
  simp only [j0, kE]
  rw [qOp hl hN k M e _ he3 (by omega) (by omega) (by simp; omega)]
  cases tokG k s e with
  | inl x => rfl
  | inr r => simp [zEj]
theorem zCm {N : Nat} {s : ByteArray} (hN : 20000 < N) : qJx N s = some (qFq s) := by
 have hs := qCa s
 unfold qJx qFq
 by_cases h : s.data.toList.length > 16384
 ·rw [if_pos (by simp only [j9]; omega), if_pos h]
 ·rw [if_neg (by simp only [j9]; omega), if_neg h, qUs (by omega)]
  have := qOp (N := N) (s := s) (by omega) (by omega) (s.data.toList.length + 1) N 0 [] (by omega) (by omega) (by omega) (by simp)
  simp only [j0]
  rw [show ((0 : Nat) : Int) = 0 from rfl] at this
  rw [this]
  rfl
def endT (t : Tok) : Int := t.2.2.2 + (t.2.1.size : Int) + (if t.1 = 2 then 1 else 0)
def zGt (s : ByteArray) : Int → List Tok → Prop
 | _, [] => True
 | e, t :: r => e ≤ t.2.2.2 ∧ t.2.2.2 + (t.2.1.size : Int) ≤ s.size ∧ (t.1 = 5 ↔ r = []) ∧ (t.1 = 1 ∨ t.1 = 4 → s.extract t.2.2.2.toNat (t.2.2.2 + (t.2.1.size : Int)).toNat = t.2.1 ∧ 0 < t.2.1.size) ∧ zGt s (endT t) r
theorem qPs {s : ByteArray} : ∀ (k i : Nat) (e : Int) (r : List Tok), i ≤ s.data.toList.length → s.data.toList.length < i + k → e ≤ i → tokG k s i = .inr r → zGt s e r ∧ r ≠ [] ∧ r.length ≤ s.data.toList.length + 1 - i
 | 0, i, e, r, h1, h2, h3, h4 => by omega
 | k + 1, i, e, r, h1, h2, h3, h4 => by
  have hs := qCa s
  have hb := qOu (p := inK [5]) (l := s.data.toList) (a := i) h1
  simp only [tokG] at h4
  generalize hE : tw (inK [5]) s.data.toList i = a at hb h4
  split at h4
  ·obtain rfl := (Sum.inr.inj h4).symm
   refine ⟨⟨by show e ≤ (s.data.toList.length : Int); omega, by show (s.data.toList.length : Int) + ((0 : Nat) : Int) ≤ _; omega, by simp, fun h => by simp at h, trivial⟩, by simp, by simp; omega⟩
  ·rename_i he
   have hlt : a < s.data.toList.length := by omega
   split at h4
   ·rename_i h6
    have hb2 := qOu (p := qHy) (l := s.data.toList) (a := a) (by omega)
    have hpos := qVx (p := qHy) hlt (by
     rw [qIn hlt] at h6
     simp only [qHy, bne_iff_ne, ne_eq]
     intro e; rw [e] at h6; exact absurd h6 (by decide))
    obtain ⟨g1, g2, g3⟩ := qPs k _ e r hb2.2 (by omega) (by omega) h4
    exact ⟨g1, g2, by omega⟩
   ·split at h4
    ·cases h4
    ·rename_i h0
     obtain ⟨b, hb1, hb2, hb3, hk⟩ := qXh hlt (by simpa using h0)
     rw [hb1, kE] at h4
     generalize (tokP s a).1 = t at h4 hk
     cases hG : tokG k s b with
     | inl x => rw [hG] at h4; cases h4
     | inr q =>
      rw [hG] at h4
      obtain rfl := (Sum.inr.inj h4).symm
      have hext : (s.extract a b).size = b - a := by rw [ByteArray.size_extract]; omega
      have hend : endT (t.1, t.2.1, t.2.2.1, (a : Int)) ≤ b ∧ (a : Int) + (t.2.1.size : Int) ≤ b ∧ t.1 ≠ 5 ∧ (t.1 = 1 ∨ t.1 = 4 → t.2.1 = s.extract a b) := by
       rcases hk with ⟨hk1, hk2⟩ | ⟨hk1, hk2⟩ | ⟨hk1, hk2⟩
       ·refine ⟨?_, ?_, by omega, fun _ => hk2⟩
        ·simp only [endT, hk2, hext]; rw [if_neg (by omega)]; omega
        ·rw [hk2, hext]; omega
       ·have : (⟨#[]⟩ : ByteArray).size = 0 := rfl
        refine ⟨?_, ?_, by omega, fun h => by omega⟩
        ·simp only [endT, hk2, this]; rw [if_pos hk1]; omega
        ·rw [hk2, this]; omega
       ·refine ⟨?_, by omega, by omega, fun h => by omega⟩
        simp only [endT]; rw [if_neg (by omega)]; omega
      obtain ⟨g1, g2, g3⟩ := qPs k b (endT (t.1, t.2.1, t.2.2.1, (a : Int))) q hb3 (by omega) hend.1 hG
      refine ⟨⟨by show e ≤ (a : Int); omega, ?_, ?_, ?_, g1⟩, by simp, by simp only [jA]; omega⟩
      ·show (a : Int) + (t.2.1.size : Int) ≤ _; omega
      ·exact ⟨fun h => absurd h hend.2.2.1, fun h => absurd h g2⟩
      ·intro h
       have := hend.2.2.2 h
       show s.extract (Int.toNat (a : Int)) ((a : Int) + (t.2.1.size : Int)).toNat = t.2.1 ∧ 0 < t.2.1.size
       rw [this, hext, kE, show ((a : Int) + ((b - a : Nat) : Int)).toNat = b by omega]
       exact ⟨rfl, by omega⟩
theorem qUr {s : ByteArray} : ∀ (k i : Nat) (x : Int × Int), i ≤ s.data.toList.length → s.data.toList.length < i + k → tokG k s i = .inl x → 0 ≤ x.1 ∧ x.1 ≤ s.size ∧ x.2 ≠ 0
 | 0, i, x, h1, h2, h4 => by omega
 | k + 1, i, x, h1, h2, h4 => by
  have hs := qCa s
  have hb := qOu (p := inK [5]) (l := s.data.toList) (a := i) h1
  simp only [tokG] at h4
  generalize hE : tw (inK [5]) s.data.toList i = a at hb h4
  split at h4
  ·cases h4
  ·rename_i he
   have hlt : a < s.data.toList.length := by omega
   split at h4
   ·rename_i h6
    have hb2 := qOu (p := qHy) (l := s.data.toList) (a := a) (by omega)
    have hpos := qVx (p := qHy) hlt (by
     rw [qIn hlt] at h6
     simp only [qHy, bne_iff_ne, ne_eq]
     intro e; rw [e] at h6; exact absurd h6 (by decide))
    exact qUr k _ x hb2.2 (by omega) h4
   ·split at h4
    ·rename_i h0
     obtain rfl := Sum.inl.inj h4
     exact ⟨by simp only; omega, by simp only; omega, h0⟩
    ·rename_i h0
     obtain ⟨b, hb1, hb2, hb3, hk⟩ := qXh hlt (by simpa using h0)
     rw [hb1, kE] at h4
     cases hG : tokG k s b with
     | inl y => rw [hG] at h4; obtain rfl := Sum.inl.inj h4; exact qUr k b y hb3 (by omega) hG
     | inr q => rw [hG] at h4; cases h4
end
section
open Go Go.Dc
theorem zAo {p : UInt8 → Bool} (h : ((List.range 256).all fun n => p (UInt8.ofNat n)) = true) (c : UInt8) : p c = true := by
 have := jK.1 h c.toNat (gJ.2 c.toNat_lt)
 simpa using this
theorem zCp {N : Nat} (c : UInt8) : qFf N (c.toNat : Int) = some (kd c == 1) := by
 have h := zAo (p := fun c => (decide (97 ≤ c.toNat) && decide (c.toNat ≤ 122)) == (kd c == 1)) (by kernel_rfl) c
 rw [kA] at h
 rw [← h]
 unfold qFf
 by_cases h1 : 97 ≤ c.toNat
 ·rw [if_pos (by simp only [j9]; omega)]
  simp only [h1, decide_true, Bool.true_and, j0]
  congr 1
  exact decide_eq_decide.2 (by omega)
 ·rw [if_neg (by simp only [j9]; omega)]
  simp [h1]
theorem zDg {N : Nat} (c : UInt8) : qEk N (c.toNat : Int) = some (inK [1, 2, 3] c) := by
 have h := zAo (p := fun c => (kd c == 1 || (decide (48 ≤ c.toNat) && decide (c.toNat ≤ 57) || decide (c.toNat = 95))) == inK [1, 2, 3] c) (by kernel_rfl) c
 rw [kA] at h
 rw [← h]
 unfold qEk
 rw [zCp]
 simp only [j0]
 cases kd c == 1
 ·have e95 : ((c.toNat : Int) == 95) = decide (c.toNat = 95) := by rw [k7, kA, j9]; omega
  simp only [jB, jM, Bool.false_or, e95]
  by_cases h1 : 48 ≤ c.toNat
  ·by_cases h2 : c.toNat ≤ 57
   ·rw [if_pos (by simp only [j9]; omega), if_pos (by simp only [j9]; omega)]; simp [h1, h2]
   ·rw [if_pos (by simp only [j9]; omega), if_neg (by simp only [j9]; omega)]; simp [h2]
  ·rw [if_neg (by simp only [j9]; omega)]; simp [h1]
 ·rfl
end
section
open Go Go.Dc
end
section
open Go Go.Dc
def qUq (s : ByteArray) : Bool := decide (1 ≤ s.data.toList.length ∧ s.data.toList.length ≤ 24 ∧ kd (s.data.toList.getD 0 0) = 1 ∧ tw (inK [1, 2, 3]) s.data.toList 0 = s.data.toList.length)
theorem qUg {s : ByteArray} (h : ¬ (1 ≤ s.data.toList.length ∧ s.data.toList.length ≤ 24 ∧ kd (s.data.toList.getD 0 0) = 1 ∧ tw (inK [1, 2, 3]) s.data.toList 0 = s.data.toList.length)) : false = qUq s := (gC h).symm
theorem zBw {N : Nat} {s : ByteArray} (hN : 100 < N) : qKn N s = some (qUq s) := by
 have hs := qCa s
 simp only [qKn, qUs (show 30 < N by omega), j0]
 by_cases h1 : 1 ≤ s.data.toList.length
 ·by_cases h2 : s.data.toList.length ≤ 24
  ·rw [if_pos (by simp only [j9]; omega), if_pos (by simp only [j9]; omega)]
   have hi := qKr (s := s) (i := 0) (by omega)
   rw [show ((0 : Nat) : Int) = 0 from rfl] at hi
   rw [hi]
   simp only [j0, zCd, kA]
   have hsp := qQr (N := N) (s := s) (ks := [1, 2, 3]) (i := 0) (by omega) (by omega) (by simp) (by omega)
   rw [show ((0 : Nat) : Int) = 0 from rfl] at hsp
   by_cases h3 : kd (s.data.toList[0]) = 1
   ·rw [if_pos h3, hsp]
    simp only [j0]
    congr 1
    rw [k7, kA, qUq, j9, qIn (by omega)]
    exact ⟨fun h => ⟨h1, h2, h3, by omega⟩, fun h => by have := h.2.2.2; omega⟩
   ·rw [if_neg h3]
    refine congrArg some (qUg fun h => ?_)
    rw [qIn (by omega)] at h
    exact h3 h.2.2.1
  ·rw [if_pos (by simp only [j9]; omega), if_neg (by simp only [j9]; omega)]
   exact congrArg some (qUg fun h => h2 h.2.1)
 ·rw [if_neg (by simp only [j9]; omega)]
  exact congrArg some (qUg fun h => h1 h.1)
end
section
open Go Go.Dc
def sp : List UInt8 → List (List UInt8)
 | [] => [[]]
 | c :: l => if c = 47 then [] :: sp l else match sp l with
  | [] => [[c]]
  | p :: q => (c :: p) :: q
theorem qZx : ∀ l : List UInt8, sp l ≠ []
 | [] => by simp [sp]
 | c :: l => by
  simp only [sp]
  split
  ·simp
  ·split <;> simp
theorem zBe : ∀ l : List UInt8, (sp l).length = l.count 47 + 1
 | [] => rfl
 | c :: l => by
  simp only [sp]
  split
  ·rename_i h; subst h; simp [zBe l]
  ·rename_i h
   have := zBe l
   split
   ·rename_i e; exact absurd e (qZx l)
   ·rename_i e
    rw [e] at this
    simp only [jA] at this ⊢
    rw [List.count_cons_of_ne h, ← this]
def qJy (c : UInt8) : Bool := c != 47
theorem zCh : ∀ l : List UInt8, sp l = if (l.takeWhile qJy).length = l.length then [l] else l.takeWhile qJy :: sp (l.drop ((l.takeWhile qJy).length + 1))
 | [] => rfl
 | c :: l => by
  have ih := zCh l
  by_cases h : c = 47
  ·subst h
   rw [gR (by decide)]
   simp [sp]
  ·have hc : qJy c = true := by simpa [qJy] using h
   rw [kX hc]
   simp only [sp, h, jM, ih, jA, Nat.add_right_cancel_iff, List.drop_succ_cons]
   by_cases he : (l.takeWhile qJy).length = l.length
   ·simp [he]
   ·simp [he]
def qSg : Nat → Nat → List UInt8 → Option (Nat × Nat)
 | a, b, [] => some (a, b)
 | a, b, c :: l => if c = 47 then (if b = 0 then none else qSg (a + 1) 0 l) else if inK [1, 2, 3, 4] c = true then (if b + 1 > 24 then none else qSg a (b + 1) l) else none
def partOk (p : List UInt8) : Prop := 1 ≤ p.length ∧ p.length ≤ 24 ∧ ∀ c ∈ p, inK [1, 2, 3, 4] c = true
theorem qRu : ∀ (l : List UInt8) (a b : Nat), b ≤ 24 → ((∃ x y, qSg a b l = some (x, y) ∧ 0 < y ∧ x ≤ 8) ↔
  ∃ p q, sp l = p :: q ∧ 1 ≤ b + p.length ∧ b + p.length ≤ 24 ∧ (∀ c ∈ p, inK [1, 2, 3, 4] c = true) ∧ (∀ r ∈ q, partOk r) ∧ a + q.length ≤ 8)
 | [], a, b, hb => by
  constructor
  ·rintro ⟨x, y, h, h1, h2⟩
   simp only [qSg, jG, Prod.mk.injEq] at h
   exact ⟨[], [], rfl, by simp; omega, by simpa using hb, by simp, by simp, by simp; omega⟩
  ·rintro ⟨p, q, h, h1, h2, _, _, h3⟩
   simp only [sp, jW] at h
   obtain ⟨rfl, rfl⟩ := h
   simp only [jC] at h1 h3
   exact ⟨a, b, rfl, by omega, by omega⟩
 | c :: l, a, b, hb => by
  by_cases hc : c = 47
  ·have hsp : sp (c :: l) = [] :: sp l := by simp [sp, hc]
   rw [hsp]
   simp only [qSg, hc, jP]
   by_cases h0 : b = 0
   ·subst h0
    simp only [jP]
    constructor
    ·rintro ⟨x, y, h, _⟩; cases h
    ·rintro ⟨p, q, h, h1, _⟩
     simp only [jW] at h
     rw [← h.1] at h1; simp at h1
   ·rw [if_neg h0]
    rw [qRu l (a + 1) 0 (by omega)]
    constructor
    ·rintro ⟨p, q, h, h1, h2, h3, h4, h5⟩
     refine ⟨[], sp l, rfl, by simp; omega, by simpa using hb, by simp, ?_, by rw [h]; simp only [jA]; omega⟩
     intro r hr
     rw [h] at hr
     rcases jI.1 hr with rfl | hr
     ·exact ⟨by omega, by omega, h3⟩
     ·exact h4 r hr
    ·rintro ⟨p, q, h, h1, h2, h3, h4, h5⟩
     simp only [jW] at h
     obtain ⟨rfl, rfl⟩ := h
     obtain ⟨p, q, hpq⟩ : ∃ p q, sp l = p :: q := by
      cases he : sp l with
      | nil => exact absurd he (qZx l)
      | cons p q => exact ⟨p, q, rfl⟩
     rw [hpq] at h4 h5
     obtain ⟨g1, g2, g3⟩ := h4 p (jL ..)
     exact ⟨p, q, hpq, by omega, by omega, g3, fun r hr => h4 r (jO _ hr), by simp only [jA] at h5; omega⟩
  ·obtain ⟨p0, q0, hpq⟩ : ∃ p q, sp l = p :: q := by
    cases he : sp l with
    | nil => exact absurd he (qZx l)
    | cons p q => exact ⟨p, q, rfl⟩
   have hsp : sp (c :: l) = (c :: p0) :: q0 := by simp only [sp, hc, jM, hpq]
   rw [hsp]
   simp only [qSg, hc, jM]
   by_cases hk : inK [1, 2, 3, 4] c = true
   ·rw [if_pos hk]
    by_cases h24 : b + 1 > 24
    ·rw [if_pos h24]
     constructor
     ·rintro ⟨x, y, h, _⟩; cases h
     ·rintro ⟨p, q, h, h1, h2, _⟩
      simp only [jW] at h
      rw [← h.1] at h2
      simp only [jA] at h2
      omega
    ·rw [if_neg h24, qRu l a (b + 1) (by omega)]
     constructor
     ·rintro ⟨p, q, h, h1, h2, h3, h4, h5⟩
      rw [hpq] at h
      simp only [jW] at h
      obtain ⟨rfl, rfl⟩ := h
      refine ⟨_, _, rfl, by simp only [jA]; omega, by simp only [jA]; omega, ?_, h4, h5⟩
      intro d hd
      rcases jI.1 hd with rfl | hd
      ·exact hk
      ·exact h3 d hd
     ·rintro ⟨p, q, h, h1, h2, h3, h4, h5⟩
      simp only [jW] at h
      obtain ⟨rfl, rfl⟩ := h
      simp only [jA] at h1 h2
      exact ⟨p0, q0, hpq, by omega, by omega, fun d hd => h3 d (jO _ hd), h4, h5⟩
   ·rw [if_neg hk]
    constructor
    ·rintro ⟨x, y, h, _⟩; cases h
    ·rintro ⟨p, q, h, h1, h2, h3, _⟩
     simp only [jW] at h
     rw [← h.1] at h3
     exact absurd (h3 c (jL ..)) hk
theorem inK4 {N : Nat} (c : UInt8) : ((qEk N (c.toNat : Int)).bind fun y1 => if y1 = true then (some true) else (some ((c.toNat : Int) == 46))) = some (inK [1, 2, 3, 4] c) := by
 have h := zAo (p := fun c => (inK [1, 2, 3] c || decide (c.toNat = 46)) == inK [1, 2, 3, 4] c) (by kernel_rfl) c
 rw [kA] at h
 rw [← h, zDg]
 simp only [j0]
 have e : ((c.toNat : Int) == 46) = decide (c.toNat = 46) := by rw [k7, kA, j9]; omega
 rw [e]
 cases inK [1, 2, 3] c <;> simp
theorem qNn {N : Nat} {s : ByteArray} (hl : s.data.toList.length < 1000000) : ∀ (d i M a b : Nat), i + d = s.data.toList.length → d < M → a ≤ i + 1 → b ≤ 24 →
  qBe (qDr N s) M ((a : Int), (b : Int), (i : Int)) = some (match qSg a b (s.data.toList.drop i) with | some z => .inl ((z.1 : Int), (z.2 : Int)) | none => .inr false)
 | d, i, 0, _, _, _, h, _, _ => by omega
 | 0, i, M + 1, a, b, h1, h2, h3, h4 => by
  have hs := qCa s
  simp only [qBe, qDr]
  rw [if_neg (by simp only [j9]; omega), jS (by omega)]
  rfl
 | d + 1, i, M + 1, a, b, h1, h2, h3, h4 => by
  have hs := qCa s
  have hi : i < s.data.toList.length := by omega
  simp only [qBe, qDr]
  rw [if_pos (by simp only [j9]; omega), jH hi, qKr hi]
  simp only [j0, inK4, kA, qSg]
  by_cases hc : s.data.toList[i] = 47
  ·rw [if_pos (show ((s.data.toList[i]).toNat : Int) = 47 by rw [hc]; rfl), if_pos hc]
   by_cases hb : b = 0
   ·rw [if_pos (show (b : Int) = 0 by omega), if_pos hb]
    rfl
   ·rw [if_neg (show ¬ (b : Int) = 0 by omega), if_neg hb, wi64 (x := (a : Int) + 1) (by omega) (by omega)]
    simp only [j0]
    rw [if_neg (by simp), wi64 (by omega) (by omega)]
    have := qNn (N := N) hl d (i + 1) M (a + 1) 0 (by omega) (by omega) (by omega) (by omega)
    exact this
  ·have hc' : ¬ ((s.data.toList[i]).toNat : Int) = 47 := fun h => hc (UInt8.toNat_inj.1 (by show _ = 47; omega))
   rw [if_neg hc', if_neg hc]
   by_cases hk : inK [1, 2, 3, 4] (s.data.toList[i]) = true
   ·rw [if_pos hk, if_pos hk, wi64 (x := (b : Int) + 1) (by omega) (by omega)]
    simp only [j0]
    by_cases h24 : b + 1 > 24
    ·rw [if_pos (by simp only [j9]; omega), if_pos h24]
     rfl
    ·rw [if_neg (by simp only [j9]; omega), if_neg h24, wi64 (by omega) (by omega)]
     have := qNn (N := N) hl d (i + 1) M a (b + 1) (by omega) (by omega) (by omega) (by omega)
     exact this
   ·rw [if_neg hk, if_neg hk]
    rfl
def qGu (l : List UInt8) : Bool := decide (l.length ≤ 80 ∧ (sp l).length ≤ 8 ∧ ∀ p ∈ sp l, 1 ≤ p.length ∧ p.length ≤ 24 ∧ ∀ c ∈ p, inK [1, 2, 3, 4] c = true)
theorem qVj (l : List UInt8) : qGu l = true ↔ l.length ≤ 80 ∧ ∃ x y, qSg 1 0 l = some (x, y) ∧ 0 < y ∧ x ≤ 8 := by
 rw [qRu l 1 0 (by omega)]
 simp only [qGu, j9]
 obtain ⟨p, q, hpq⟩ : ∃ p q, sp l = p :: q := by
  cases he : sp l with
  | nil => exact absurd he (qZx l)
  | cons p q => exact ⟨p, q, rfl⟩
 constructor
 ·rintro ⟨h1, h2, h3⟩
  rw [hpq] at h2 h3
  obtain ⟨g1, g2, g3⟩ := h3 p (jL ..)
  exact ⟨h1, p, q, hpq, by omega, by omega, g3, fun r hr => h3 r (jO _ hr), by simp only [jA] at h2; omega⟩
 ·rintro ⟨h1, p', q', h, h2, h3, h4, h5, h6⟩
  refine ⟨h1, by rw [h]; simp only [jA]; omega, ?_⟩
  intro r hr
  rw [h] at hr
  rcases jI.1 hr with rfl | hr
  ·exact ⟨by omega, by omega, h4⟩
  ·exact h5 r hr
theorem qTa {N : Nat} {s : ByteArray} (hN : 100 < N) : qDw N s = some (qGu s.data.toList) := by
 have hs := qCa s
 simp only [qDw]
 by_cases h80 : s.data.toList.length ≤ 80
 ·rw [if_neg (by simp only [j9]; omega)]
  have key := qNn (N := N) (s := s) (by omega) s.data.toList.length 0 N 1 0 (by omega) (by omega) (by omega) (by omega)
  rw [show ((0 : Nat) : Int) = 0 from rfl, show ((1 : Nat) : Int) = 1 from rfl, k0] at key
  rw [key]
  have hp := qVj s.data.toList
  cases hR : qSg 1 0 s.data.toList with
  | none =>
   simp only [j0]
   refine congrArg some ?_
   rw [k7, hp]
   constructor
   ·intro h; cases h
   ·rintro ⟨_, x, y, h, _⟩; rw [hR] at h; cases h
  | some z =>
   obtain ⟨x, y⟩ := z
   simp only [j0]
   by_cases hy : 0 < y
   ·rw [if_pos (by simp only [j9]; omega)]
    simp only [j0]
    refine congrArg some ?_
    rw [k7, hp, j9]
    constructor
    ·intro h; exact ⟨h80, x, y, hR, hy, by omega⟩
    ·rintro ⟨_, x', y', h, _, h2⟩; rw [hR] at h; simp only [jG, Prod.mk.injEq] at h; omega
   ·rw [if_neg (by simp only [j9]; omega)]
    simp only [j0]
    refine congrArg some ?_
    rw [k7, hp]
    constructor
    ·intro h; cases h
    ·rintro ⟨_, x', y', h, h1, _⟩; rw [hR] at h; simp only [jG, Prod.mk.injEq] at h; omega
 ·rw [if_pos (by simp only [j9]; omega)]
  refine congrArg some ?_
  rw [k7, qVj]
  exact ⟨fun h => (by cases h), fun h => absurd h.1 h80⟩
end
section
open Go Go.Dc
theorem tw_is {p : UInt8 → Bool} {l : List UInt8} {k : Nat} (hk : k < l.length) (h1 : ∀ j, ∀ h : j < l.length, j < k → p l[j] = true) (h2 : p l[k] = false) : tw p l 0 = k := by
 have key : ∀ d j, j + d = k → tw p l j = k := by
  intro d
  induction d with
  | zero =>
   intro j h
   have : j = k := by omega
   subst this
   exact qRi hk h2
  | succ d ih => intro j h; rw [← qPp (by omega) (h1 j (by omega) (by omega))]; exact ih (j + 1) (by omega)
 exact key k 0 (by omega)
theorem ix_eq (x : ByteArray) : ixB x 47 = if (x.data.toList.takeWhile qJy).length = x.data.toList.length then -1 else ((x.data.toList.takeWhile qJy).length : Int) := by
 have hs := qCa x
 have htw : tw qJy x.data.toList 0 = (x.data.toList.takeWhile qJy).length := by simp [tw]
 have hget : ∀ j, ∀ h : j < x.data.toList.length, x[j]! = x.data.toList[j] := by
  intro j hj
  rw [getElem!_pos x j (by omega)]
  simp [ByteArray.getElem_eq_getElem_data]
 have h47 : (47 : Int).toNat.toUInt8 = 47 := rfl
 rw [← htw]
 unfold ixB
 rw [h47, ← hs]
 cases hf : (List.range x.data.toList.length).find? (fun j => x[j]! == 47) with
 | none =>
  rw [List.find?_eq_none] at hf
  simp only
  rw [if_pos]
  refine zEt fun c hc => ?_
  obtain ⟨j, hj, rfl⟩ := List.getElem_of_mem hc
  have := hf j (gJ.2 hj)
  rw [hget j hj] at this
  simpa [qJy] using this
 | some k =>
  have h1 := List.find?_some hf
  have hk : k < x.data.toList.length := gJ.1 (g9 hf)
  rw [hget k hk] at h1
  have e : tw qJy x.data.toList 0 = k := by
   refine tw_is hk (fun j h hj => ?_) (by simpa [qJy] using h1)
   have := (List.find?_range_eq_some.1 hf).2.2 j hj
   rw [hget j h] at this
   simpa [qJy] using this
  simp only
  rw [e, if_neg (by omega)]
theorem zDq {N : Nat} (x : ByteArray) : qHx N x (⟨#[47]⟩ : ByteArray) = some (ixB x 47) := by
 have h1 : idxB (⟨#[47]⟩ : ByteArray) 0 = some 47 := by kernel_rfl
 simp only [qHx, qEc, qCg, show (⟨#[47]⟩ : ByteArray).size = 1 from rfl, qGv]
 rw [if_neg (by decide)]
 simp only [j0, j9]
 by_cases h : (⟨#[47]⟩ : ByteArray) = x
 ·have h0 : ixB (⟨#[47]⟩ : ByteArray) 47 = 0 := by kernel_rfl
  rw [if_pos h, ← h, h0]
  rfl
 ·rw [if_neg h, if_pos (by decide), h1]
  rfl
theorem cnt_eq (x : ByteArray) : cntB x 47 = ((x.data.toList.count 47 : Nat) : Int) := by
 unfold cntB
 rw [Go.Lib.foldl_data]
 have key : ∀ (l : List UInt8) (n : Int), l.foldl (fun n x => if x == (47 : Int).toNat.toUInt8 then n + 1 else n) n = n + ((l.count 47 : Nat) : Int) := by
  intro l
  induction l with
  | nil => intro n; simp
  | cons c l ih =>
   intro n
   rw [kN, ih, List.count_cons]
   have h47 : (47 : Int).toNat.toUInt8 = 47 := rfl
   rw [h47]
   by_cases h : (c == 47) = true
   ·simp only [h, jP]; omega
   ·simp only [h, jB, jM]; omega
 rw [key]
 omega
theorem zFi {α : Type} (l : List α) (k : Nat) (a b : α) : (l ++ List.replicate (k + 1) a).set l.length b = (l ++ [b]) ++ List.replicate k a := by
 rw [List.set_append_right _ _ (jR _)]
 simp [List.replicate_succ]
theorem qTb {N n : Nat} {s : ByteArray} (hn : n < 1000000000) (hns : n ≤ s.size + 1) (hs : s.size < 1000000000) : ∀ (r M : Nat) (x : ByteArray) (done : List ByteArray), (sp x.data.toList).length = r → done.length + r = n → r < M → x.size < 1000000000 →
  ∃ y D, qBe (qFo N s (⟨#[47]⟩ : ByteArray) 0 (n : Int)) M (x, (done.length : Int), done ++ List.replicate r (⟨#[]⟩ : ByteArray)) = some (y, ((n - 1 : Nat) : Int), D ++ [(⟨#[]⟩ : ByteArray)]) ∧ D.length = n - 1 ∧ D ++ [y] = done ++ (sp x.data.toList).map qMj
 | _, 0, _, _, _, _, h, _ => by omega
 | 0, _, x, _, h, _, _, _ => by exact absurd (List.length_eq_zero_iff.1 h) (qZx _)
 | r + 1, M + 1, x, done, h1, h2, h3, h4 => by
  have hxs := qCa x
  have hmin : (if IntKind.wrap .i64 ((s.size : Int) + 1) < (n : Int) then IntKind.wrap .i64 ((s.size : Int) + 1) else (n : Int)) = (n : Int) := by
   rw [wi64 (by omega) (by omega)]; split <;> omega
  have hstep := zCh x.data.toList
  simp only [qBe, qFo]
  rw [hmin, wi64 (x := (n : Int) - 1) (by omega) (by omega)]
  by_cases hlast : (x.data.toList.takeWhile qJy).length = x.data.toList.length
  ·rw [if_pos hlast] at hstep
   rw [hstep] at h1
   simp only [jA, jC] at h1
   have hr : r = 0 := by omega
   subst hr
   rw [if_neg (by simp only [j9]; omega)]
   refine ⟨x, done, ?_, by omega, ?_⟩
   ·simp only [j0]
    rw [show (n - 1 : Nat) = done.length by omega]
    rfl
   ·rw [hstep]; simp [qMj]
  ·rw [if_neg hlast] at hstep
   rw [hstep] at h1
   simp only [jA] at h1
   have hpos : 0 < (sp (x.data.toList.drop ((x.data.toList.takeWhile qJy).length + 1))).length := List.length_pos_iff.2 (qZx _)
   have hle : (x.data.toList.takeWhile qJy).length ≤ x.data.toList.length := (f0 _).length_le
   have hix := ix_eq x
   rw [if_neg hlast] at hix
   rw [if_pos (by simp only [j9]; omega), zDq, hix]
   simp only [j0, show (⟨#[47]⟩ : ByteArray).size = 1 from rfl]
   have he : (x.data.toList.takeWhile qJy) = x.data.toList.take (x.data.toList.takeWhile qJy).length := List.prefix_iff_eq_take.1 (List.takeWhile_prefix _)
   have hx1 : x.extract 0 (x.data.toList.takeWhile qJy).length = qMj (x.data.toList.takeWhile qJy) := by
    apply Go.WideShapes.bytes_inj
    simp only [ByteArray.data_extract, gB, kM, qMj, k0, Nat.sub_zero]
    exact he.symm
   have hx2 : (x.extract ((x.data.toList.takeWhile qJy).length + 1) x.data.toList.length).data.toList = x.data.toList.drop ((x.data.toList.takeWhile qJy).length + 1) := by
    simp only [ByteArray.data_extract, gB, kM]
    exact gZ (by simp only [gT]; omega)
   generalize hk : (x.data.toList.takeWhile qJy).length = k at *
   rw [if_neg (by simp only [j9]; omega), wi64 (x := (k : Int) + 0) (by omega) (by omega), Int.add_zero]
   have hsub0 : subB x 0 (k : Int) = some (x.extract 0 k) := by
    have := qLb (s := x) (i := 0) (e := k) (by omega) (by omega)
    simpa only [Int.natCast_zero] using this
   rw [hsub0]
   simp only [j0]
   rw [qGl (by simp), wi64 (x := (k : Int) + ((1 : Nat) : Int)) (by omega) (by omega), show ((k : Int) + ((1 : Nat) : Int)) = ((k + 1 : Nat) : Int) by omega, qRe (by omega)]
   simp only [j0, kE]
   rw [zFi, hx1, wi64 (by omega) (by omega)]
   have hxs2 := qCa (x.extract (k + 1) x.data.toList.length)
   rw [hx2, gT] at hxs2
   obtain ⟨y, D, g1, g2, g3⟩ := qTb (N := N) hn hns hs r M (x.extract (k + 1) x.data.toList.length) (done ++ [qMj (x.data.toList.takeWhile qJy)]) (by rw [hx2]; omega) (by simp; omega) (by omega) (by omega)
   refine ⟨y, D, ?_, g2, ?_⟩
   ·rw [← g1]; simp
   ·rw [g3, hx2, hstep]; simp
termination_by r => r
theorem zEp {N : Nat} {s : ByteArray} (hl : s.size < 100000000) (hN : 2 * s.size + 1000 < N) : qJa N s (⟨#[47]⟩ : ByteArray) = some ((sp s.data.toList).map qMj) := by
 have hs := qCa s
 have hlen := zBe s.data.toList
 have hc : s.data.toList.count 47 ≤ s.data.toList.length := List.count_le_length
 have h1 : idxB (⟨#[47]⟩ : ByteArray) 0 = some 47 := by kernel_rfl
 have hcount : qJg N s (⟨#[47]⟩ : ByteArray) = some ((s.data.toList.count 47 : Nat) : Int) := by
  simp only [qJg, show (⟨#[47]⟩ : ByteArray).size = 1 from rfl]
  rw [if_neg (by decide), if_pos (by decide), h1]
  simp only [j0]
  rw [← cnt_eq]; rfl
 simp only [qJa, qIj, qGv, hcount, j0]
 rw [if_neg (by decide), if_neg (by decide), if_pos (by decide)]
 simp only [j0]
 rw [wi64 (x := ((s.data.toList.count 47 : Nat) : Int) + 1) (by omega) (by omega), show ((s.data.toList.count 47 : Nat) : Int) + 1 = (((sp s.data.toList).length : Nat) : Int) by omega]
 generalize hn : (sp s.data.toList).length = n at *
 have hmin : (if IntKind.wrap .i64 ((s.size : Int) + 1) < (n : Int) then IntKind.wrap .i64 ((s.size : Int) + 1) else (n : Int)) = (n : Int) := by
  rw [wi64 (by omega) (by omega)]; split <;> omega
 rw [hmin]
 have hm : qXr 16 (⟨#[]⟩ : ByteArray) (n : Int) = some (List.replicate n (⟨#[]⟩ : ByteArray)) := by
  unfold qXr
  rw [if_pos (by simp only [maxLen]; omega), kE]
 rw [hm]
 simp only [j0]
 obtain ⟨y, D, g1, g2, g3⟩ := qTb (N := N) (n := n) (s := s) (by omega) (by omega) (by omega) n N s [] hn (by simp) (by omega) (by omega)
 simp only [jC, jV] at g1 g3
 rw [show ((0 : Nat) : Int) = 0 from rfl] at g1
 rw [g1]
 simp only [j0]
 rw [qGl (by simp; omega)]
 simp only [j0, kE]
 have hset : (D ++ [(⟨#[]⟩ : ByteArray)]).set (n - 1) y = D ++ [y] := by
  rw [← g2, List.set_append_right _ _ (jR _)]; simp
 rw [hset, g3, wi64 (by omega) (by omega), show ((n - 1 : Nat) : Int) + 1 = (n : Int) by omega, zBd (by omega) (by omega) (by rw [gE, hn]; omega)]
 simp only [j0, kE, Int.toNat_zero, k0]
 rw [gZ (by rw [gE, hn]; exact jR _)]
theorem zEu {p : UInt8 → Bool} {l : List UInt8} : tw p l 0 = l.length ↔ ∀ c ∈ l, p c = true := by
 constructor
 ·intro h c hc
  have h1 : (l.takeWhile p).length = l.length := by simpa [tw] using h
  have h2 := (List.takeWhile_prefix p (l := l)).eq_of_length h1
  rw [← h2] at hc
  exact zAx hc
 ·exact zEt
def qYg (x : ByteArray) : Bool := decide (1 ≤ x.data.toList.length ∧ x.data.toList.length ≤ 24 ∧ ∀ c ∈ x.data.toList, inK [1, 2, 3, 4] c = true)
theorem qWh (x : ByteArray) : qYg x = true ↔ 1 ≤ x.data.toList.length ∧ x.data.toList.length ≤ 24 ∧ ∀ c ∈ x.data.toList, inK [1, 2, 3, 4] c = true := decide_eq_true_iff
theorem zFz {N : Nat} {x : ByteArray} (hN : 100 < N) : (if (decide ((x.size : Int) < 1)) = true then (some true) else (if (decide ((x.size : Int) > 24)) = true then (some true) else ((qHf N x 0 (some kdL) ([1, 2, 3, 4])).bind fun y3 => some (y3 != (x.size : Int))))) = some (!qYg x) := by
 have hs := qCa x
 have hno : ∀ h : ¬ (1 ≤ x.data.toList.length ∧ x.data.toList.length ≤ 24 ∧ ∀ c ∈ x.data.toList, inK [1, 2, 3, 4] c = true), qYg x = false := fun h => gC h
 by_cases h1 : 1 ≤ x.data.toList.length
 ·rw [if_neg (by simp only [j9]; omega)]
  by_cases h2 : x.data.toList.length ≤ 24
  ·rw [if_neg (by simp only [j9]; omega)]
   have hsp := qQr (N := N) (s := x) (ks := [1, 2, 3, 4]) (i := 0) (by omega) (by omega) (by simp) (by omega)
   rw [show ((0 : Nat) : Int) = 0 from rfl] at hsp
   rw [hsp]
   simp only [j0]
   refine congrArg some ?_
   by_cases h3 : tw (inK [1, 2, 3, 4]) x.data.toList 0 = x.data.toList.length
   ·have : qYg x = true := k8 ⟨h1, h2, zEu.1 h3⟩
    rw [this, h3, hs]
    simp
   ·rw [hno fun h => h3 (zEu.2 h.2.2)]
    simp only [kS, bne_iff_ne, ne_eq]
    omega
  ·rw [if_pos (by simp only [j9]; omega), hno fun h => h2 h.2.1]
   rfl
 ·rw [if_pos (by simp only [j9]; omega), hno fun h => h1 h.1]
  rfl
theorem qWg {N : Nat} {L : List ByteArray} (hL : L.length < 1000) (hN : 100 < N) : ∀ (d j M : Nat), j + d = L.length → d < M → qBe (qHz N L (some kdL)) M (j : Int) = some (if (L.drop j).all qYg = true then .inl () else .inr false)
 | d, j, 0, _, h => by omega
 | 0, j, M + 1, h1, h2 => by
  simp only [qBe, qHz]
  rw [if_neg (by simp only [j9]; omega), jS (by omega)]
  rfl
 | d + 1, j, M + 1, h1, h2 => by
  have hj : j < L.length := by omega
  simp only [qBe, qHz]
  rw [if_pos (by simp only [j9]; omega), qGl hj]
  simp only [j0, zFz hN]
  rw [jH hj, List.all_cons]
  cases hp : qYg L[j] with
  | true =>
   rw [if_neg (by simp), wi64 (by omega) (by omega)]
   simp only [j0, Bool.true_and]
   exact qWg hL hN d (j + 1) M (by omega) (by omega)
  | false => simp
theorem qRq {N : Nat} {s : ByteArray} (hl : s.size < 100000000) (hN : 2 * s.size + 1000 < N) : qFm N s = some (qGu s.data.toList) := by
 have hs := qCa s
 have hno : ∀ h : ¬ (s.data.toList.length ≤ 80 ∧ (sp s.data.toList).length ≤ 8 ∧ ∀ p ∈ sp s.data.toList, 1 ≤ p.length ∧ p.length ≤ 24 ∧ ∀ c ∈ p, inK [1, 2, 3, 4] c = true), qGu s.data.toList = false := fun h => gC h
 simp only [qFm, zEp hl hN, j0, gE]
 by_cases h80 : s.data.toList.length ≤ 80
 ·rw [if_neg (by simp only [j9]; omega)]
  by_cases h8 : (sp s.data.toList).length ≤ 8
  ·have e8 : decide (((sp s.data.toList).length : Int) > 8) = false := gC (by omega)
   simp only [j0, e8, jB, jM, qUs (show 30 < N by omega)]
   have key := qWg (N := N) (L := (sp s.data.toList).map qMj) (by rw [gE]; omega) (by omega) _ 0 N (gK _) (by rw [gE]; omega)
   rw [show ((0 : Nat) : Int) = 0 from rfl, k0] at key
   rw [key]
   simp only [j0]
   by_cases hp : ((sp s.data.toList).map qMj).all qYg = true
   ·have : qGu s.data.toList = true := k8 ⟨h80, h8, fun p hp' => by
     have := (qWh _).1 (jK.1 hp (qMj p) (kL hp'))
     simpa [qMj] using this⟩
    rw [if_pos hp, this]
   ·rw [if_neg hp, hno fun h => hp (jK.2 fun x hx => by
     obtain ⟨p, hp', rfl⟩ := fD.1 hx
     exact (qWh _).2 (by simpa [qMj] using h.2.2 p hp'))]
  ·have e8 : decide (((sp s.data.toList).length : Int) > 8) = true := k8 (by omega)
   simp only [j0, e8, jP]
   rw [hno fun h => h8 h.2.1]
 ·rw [if_pos (by simp only [j9]; omega)]
  simp only [j0, jP]
  rw [hno fun h => h80 h.1]
end
section
open Go Go.Dc
def run {α τ β : Type} (step : τ → α → τ ⊕ β) (fin : τ → β) : List α → τ → β
 | [], t => fin t
 | x :: l, t => match step t x with
  | .inl t' => run step fin l t'
  | .inr b => b
theorem qVw {α τ σ β : Type} {L : List α} (enc : τ → Nat → σ) {f : σ → Option (σ ⊕ β)} (step : τ → α → τ ⊕ β) (fin : τ → β) (I : Nat → τ → Prop)
  (hstep : ∀ t i, ∀ hi : i < L.length, I i t → f (enc t i) = some (match step t L[i] with | .inl t' => .inl (enc t' (i + 1)) | .inr b => .inr b))
  (hinv : ∀ t i, ∀ hi : i < L.length, ∀ t', I i t → step t L[i] = .inl t' → I (i + 1) t')
  (hfin : ∀ t, I L.length t → f (enc t L.length) = some (.inr (fin t))) : ∀ (d i M : Nat) (t : τ), i + d = L.length → d < M → I i t → qBe f M (enc t i) = some (run step fin (L.drop i) t)
 | _, _, 0, _, _, h, _ => absurd h (kV _)
 | d, i, M + 1, t, h1, h2, h3 => by
  cases d with
  | zero =>
   have hi : i = L.length := by omega
   subst hi
   simp only [qBe, hfin t h3, j0, List.drop_length, run]
  | succ d =>
   have hi : i < L.length := by omega
   have hd : L.drop i = L[i] :: L.drop (i + 1) := (fA hi).symm
   simp only [qBe, hstep t i hi h3, j0]
   rw [hd]
   simp only [run]
   cases hs : step t L[i] with
   | inl t' =>
    simp only
    exact qVw enc step fin I hstep hinv hfin d (i + 1) M t' (by omega) (by omega) (hinv t i hi t' h3 hs)
   | inr b => rfl
theorem zAb {α τ σ β : Type} {L : List α} (enc : τ → Nat → σ) {f : σ → Option (σ ⊕ β)} (step : τ → α → τ ⊕ β) (fin : τ → β) (I : Nat → τ → Prop)
  (hstep : ∀ t i, ∀ hi : i < L.length, I i t → f (enc t i) = some (match step t L[i] with | .inl t' => .inl (enc t' (i + 1)) | .inr b => .inr b))
  (hinv : ∀ t i, ∀ hi : i < L.length, ∀ t', I i t → step t L[i] = .inl t' → I (i + 1) t')
  (hfin : ∀ t, I L.length t → f (enc t L.length) = some (.inr (fin t))) {M : Nat} {t : τ} (hM : L.length < M) (h0 : I 0 t) : qBe f M (enc t 0) = some (run step fin L t) := by
 have := qVw enc step fin I hstep hinv hfin L.length 0 M t (by omega) hM h0
 rw [k0] at this; exact this
theorem qYn {α τ β : Type} {step : τ → α → τ ⊕ β} {fin : τ → β} (g : τ → α → τ) (h : ∀ t x, step t x = .inl (g t x)) : ∀ (l : List α) (t : τ), run step fin l t = fin (l.foldl g t)
 | [], _ => rfl
 | x :: l, t => by simp only [run, h, kN]; exact qYn g h l _
theorem qSv {α : Type} {l : List α} {i : Nat} (h : i < l.length) : l.drop i = l[i] :: l.drop (i + 1) := (fA h).symm
end
section
open Go Go.Dc
abbrev File := ByteArray × ByteArray
def blt (a b : ByteArray) : Bool := Op.bytesLess a.toList b.toList
theorem qZv {a b : ByteArray} (h : a.toList = b.toList) : a = b := by
 have h1 : (a.toList == b.toList) = true := by rw [h]; exact beq_self_eq_true _
 rw [qGv] at h1
 exact kT h1
theorem qRv : ∀ a : List UInt8, Op.bytesLess a a = false
 | [] => rfl
 | x :: a => by simp [Op.bytesLess, qRv a]
theorem qSt : ∀ a b c : List UInt8, Op.bytesLess a b = true → Op.bytesLess b c = true → Op.bytesLess a c = true
 | _, _, [], _, h => by simp [Op.bytesLess] at h
 | _, [], _ :: _, h, _ => by simp [Op.bytesLess] at h
 | [], _ :: _, _ :: _, _, _ => rfl
 | x :: a, y :: b, z :: c, h1, h2 => by
  simp only [Op.bytesLess, Bool.or_eq_true, j9, jN, kA] at h1 h2 ⊢
  rcases h1 with h1 | ⟨rfl, h1⟩ <;> rcases h2 with h2 | ⟨rfl, h2⟩
  ·exact .inl (UInt8.lt_trans h1 h2)
  ·exact .inl h1
  ·exact .inl h2
  ·exact .inr ⟨rfl, qSt a b c h1 h2⟩
theorem qSi : ∀ a b : List UInt8, Op.bytesLess a b = true ∨ a = b ∨ Op.bytesLess b a = true
 | [], [] => .inr (.inl rfl)
 | [], _ :: _ => .inl rfl
 | _ :: _, [] => .inr (.inr rfl)
 | x :: a, y :: b => by
  simp only [Op.bytesLess, Bool.or_eq_true, j9, jN, kA, jW]
  rcases qSi a b with h | h | h
  ·rcases Nat.lt_trichotomy x.toNat y.toNat with g | g | g
   ·exact .inl (.inl (UInt8.lt_iff_toNat_lt.2 g))
   ·have g := UInt8.toNat_inj.1 g; exact .inl (.inr ⟨g, h⟩)
   ·exact .inr (.inr (.inl (UInt8.lt_iff_toNat_lt.2 g)))
  ·rcases Nat.lt_trichotomy x.toNat y.toNat with g | g | g
   ·exact .inl (.inl (UInt8.lt_iff_toNat_lt.2 g))
   ·have g := UInt8.toNat_inj.1 g; exact .inr (.inl ⟨g, h⟩)
   ·exact .inr (.inr (.inl (UInt8.lt_iff_toNat_lt.2 g)))
  ·rcases Nat.lt_trichotomy x.toNat y.toNat with g | g | g
   ·exact .inl (.inl (UInt8.lt_iff_toNat_lt.2 g))
   ·have g := UInt8.toNat_inj.1 g; exact .inr (.inr (.inr ⟨g.symm, h⟩))
   ·exact .inr (.inr (.inl (UInt8.lt_iff_toNat_lt.2 g)))
theorem qJo (a : ByteArray) : blt a a = false := qRv _
theorem qMd {a b c : ByteArray} (h1 : blt a b = true) (h2 : blt b c = true) : blt a c = true := qSt _ _ _ h1 h2
theorem qPb (a b : ByteArray) : blt a b = true ∨ a = b ∨ blt b a = true := by
 rcases qSi a.toList b.toList with h | h | h
 ·exact .inl h
 ·exact .inr (.inl (qZv h))
 ·exact .inr (.inr h)
theorem qWa {a b : ByteArray} (h : blt a b = true) : blt b a = false := by
 cases h2 : blt b a with
 | false => rfl
 | true => have := qMd h h2; rw [qJo] at this; cases this
theorem zEx {a b : ByteArray} (h : blt a b = true) : a ≠ b := by rintro rfl; rw [qJo] at h; cases h
def Asc (L : List File) : Prop := L.Pairwise fun f g => blt f.1 g.1 = true
def fget : List File → ByteArray → Option ByteArray
 | [], _ => none
 | f :: L, p => if f.1 = p then some f.2 else fget L p
def fput : List File → ByteArray → ByteArray → List File
 | [], p, b => [(p, b)]
 | f :: L, p, b => if blt p f.1 = true then (p, b) :: f :: L else if f.1 = p then (p, b) :: L else f :: fput L p b
def fdel (L : List File) (p : ByteArray) : List File := L.filter fun f => decide (f.1 ≠ p)
theorem qLi {L : List File} {p : ByteArray} (h : ∀ f ∈ L, blt p f.1 = true) : fget L p = none := by
 induction L with
 | nil => rfl
 | cons f L ih =>
  have h1 := h f (jL ..)
  simp only [fget]
  rw [if_neg (fun e => by rw [e, qJo] at h1; cases h1)]
  exact ih fun g hg => h g (jO _ hg)
theorem Asc.ext : ∀ {L K : List File}, Asc L → Asc K → (∀ p, fget L p = fget K p) → L = K
 | [], [], _, _, _ => rfl
 | [], f :: K, _, _, h => by have := h f.1; simp [fget] at this
 | f :: L, [], _, _, h => by have := h f.1; simp [fget] at this
 | f :: L, g :: K, hL, hK, h => by
  have hL' := jU.1 hL
  have hK' := jU.1 hK
  have e : f.1 = g.1 := by
   rcases qPb f.1 g.1 with hl | hl | hl
   ·have h1 := h f.1
    rw [qLi (L := g :: K) (fun x hx => by
     rcases jI.1 hx with rfl | hx
     ·exact hl
     ·exact qMd hl (hK'.1 x hx))] at h1
    simp [fget] at h1
   ·exact hl
   ·have h1 := h g.1
    rw [qLi (L := f :: L) (fun x hx => by
     rcases jI.1 hx with rfl | hx
     ·exact hl
     ·exact qMd hl (hL'.1 x hx))] at h1
    simp [fget] at h1
  have e2 : f.2 = g.2 := by have := h f.1; rw [e] at this; simpa [fget, e] using this
  have e3 : f = g := Prod.ext e e2
  subst e3
  congr 1
  refine Asc.ext hL'.2 hK'.2 fun p => ?_
  by_cases hp : f.1 = p
  ·subst hp
   rw [qLi hL'.1, qLi hK'.1]
  ·have := h p
   simpa [fget, hp] using this
theorem qOv {L : List File} {p b : ByteArray} {f : File} (h : f ∈ fput L p b) : f = (p, b) ∨ f ∈ L := by
 induction L with
 | nil => simp [fput] at h; exact .inl h
 | cons g L ih =>
  simp only [fput] at h
  split at h
  ·rcases jI.1 h with h | h
   ·exact .inl h
   ·exact .inr h
  ·split at h
   ·rcases jI.1 h with h | h
    ·exact .inl h
    ·exact .inr (jO _ h)
   ·rcases jI.1 h with h | h
    ·exact .inr (h ▸ jL ..)
    ·rcases ih h with h | h
     ·exact .inl h
     ·exact .inr (jO _ h)
theorem Asc.put {L : List File} (h : Asc L) (p b : ByteArray) : Asc (fput L p b) := by
 induction L with
 | nil => exact List.pairwise_singleton _ _
 | cons g L ih =>
  have h' := jU.1 h
  simp only [fput]
  split
  ·rename_i h1
   refine jU.2 ⟨fun x hx => ?_, h⟩
   rcases jI.1 hx with rfl | hx
   ·exact h1
   ·exact qMd h1 (h'.1 x hx)
  ·rename_i h1
   split
   ·rename_i h2
    exact jU.2 ⟨fun x hx => by have := h'.1 x hx; rw [h2] at this; exact this, h'.2⟩
   ·rename_i h2
    refine jU.2 ⟨fun x hx => ?_, ih h'.2⟩
    rcases qOv hx with rfl | hx
    ·rcases qPb g.1 p with h3 | h3 | h3
     ·exact h3
     ·exact absurd h3 h2
     ·exact absurd h3 h1
    ·exact h'.1 x hx
theorem qTv {L : List File} (h : Asc L) (p b q : ByteArray) : fget (fput L p b) q = if p = q then some b else fget L q := by
 induction L with
 | nil => simp [fput, fget]
 | cons g L ih =>
  have h' := jU.1 h
  simp only [fput]
  split
  ·simp [fget]
  ·rename_i h1
   split
   ·rename_i h2
    subst h2
    simp only [fget]
    split <;> simp
   ·rename_i h2
    simp only [fget, ih h'.2]
    by_cases hq : p = q
    ·subst hq; simp [h2]
    ·simp [hq]
theorem Asc.del {L : List File} (h : Asc L) (p : ByteArray) : Asc (fdel L p) := List.Pairwise.filter _ h
theorem qYy (L : List File) (p q : ByteArray) : fget (fdel L p) q = if p = q then none else fget L q := by
 induction L with
 | nil => simp [fdel, fget]
 | cons g L ih =>
  unfold fdel at ih ⊢
  rw [kH]
  by_cases hg : g.1 = p
  ·rw [if_neg (by simp [hg]), ih]
   by_cases hq : p = q
   ·simp [hq]
   ·simp only [fget, if_neg hq]
    rw [if_neg (fun e => hq (hg.symm.trans e))]
  ·rw [if_pos (by simp [hg])]
   simp only [fget, ih]
   by_cases hq : g.1 = q
   ·rw [if_pos hq, if_pos hq, if_neg (fun e => hg (hq.trans e.symm))]
   ·rw [if_neg hq, if_neg hq]
theorem qMp (L : List File) (p b : ByteArray) : (fput L p b).length ≤ L.length + 1 := by
 induction L with
 | nil => simp [fput]
 | cons g L ih =>
  simp only [fput]
  split
  ·simp
  ·split
   ·simp
   ·simp only [jA]; omega
def zEz (f : File) : Prop := qGu f.1.data.toList = true ∧ f.2.size ≤ 16384
def WF (L : List File) : Prop := L.length ≤ 64 ∧ Asc L ∧ ∀ f ∈ L, zEz f
theorem WF.put {L : List File} (h : WF L) {p b : ByteArray} (hp : qGu p.data.toList = true) (hb : b.size ≤ 16384) (hl : (fput L p b).length ≤ 64) : WF (fput L p b) :=
 ⟨hl, h.2.1.put p b, fun f hf => by
  rcases qOv hf with rfl | hf
  ·exact ⟨hp, hb⟩
  ·exact h.2.2 f hf⟩
theorem WF.del {L : List File} (h : WF L) (p : ByteArray) : WF (fdel L p) :=
 ⟨fC (List.length_filter_le _ _) h.1, h.2.1.del p, fun f hf => h.2.2 f ((gM.1 hf).1)⟩
def qXw (q : Option ByteArray) (p : ByteArray) : Bool := match q with
 | some x => blt p x
 | none => false
def qPa : Option ByteArray → List File → Int
 | _, [] => 0
 | q, f :: L =>
  if qGu f.1.data.toList = false then 6
  else if q = some f.1 then 10
  else if qXw q f.1 = true then 6
  else if 16384 < f.2.size then 2
  else qPa (some f.1) L
def qJd (L : List File) : Int := if 64 < L.length then 2 else qPa none L
theorem qWo : ∀ {L : List File} {q : Option ByteArray}, qPa q L = 0 ↔ Asc L ∧ (∀ f ∈ L, zEz f) ∧ ∀ x, q = some x → ∀ f ∈ L, blt x f.1 = true
 | [], q => by simp [qPa, Asc]
 | f :: L, q => by
  have ih := qWo (L := L) (q := some f.1)
  simp only [qPa]
  by_cases h1 : qGu f.1.data.toList = false
  ·rw [if_pos h1]
   refine ⟨fun h => by omega, fun h => ?_⟩
   have := (h.2.1 f (jL ..)).1; rw [h1] at this; cases this
  rw [if_neg h1]
  have h1 : qGu f.1.data.toList = true := by simpa using h1
  by_cases h2 : q = some f.1
  ·rw [if_pos h2]
   refine ⟨fun h => by omega, fun h => ?_⟩
   have := h.2.2 _ h2 f (jL ..); rw [qJo] at this; cases this
  rw [if_neg h2]
  by_cases h3 : qXw q f.1 = true
  ·rw [if_pos h3]
   refine ⟨fun h => by omega, fun h => ?_⟩
   cases q with
   | none => cases h3
   | some x => have := h.2.2 x rfl f (jL ..); rw [show qXw (some x) f.1 = blt f.1 x from rfl, qWa this] at h3; cases h3
  rw [if_neg h3]
  by_cases h4 : 16384 < f.2.size
  ·rw [if_pos h4]
   refine ⟨fun h => by omega, fun h => ?_⟩
   have := (h.2.1 f (jL ..)).2; omega
  rw [if_neg h4, ih]
  have hq : ∀ x, q = some x → blt x f.1 = true := fun x hx => by
   subst hx
   rcases qPb x f.1 with g | g | g
   ·exact g
   ·exact absurd (by rw [g]) h2
   ·exact absurd g h3
  constructor
  ·rintro ⟨a1, a2, a3⟩
   refine ⟨jU.2 ⟨a3 f.1 rfl, a1⟩, fun g hg => ?_, fun x hx g hg => ?_⟩
   ·rcases jI.1 hg with rfl | hg
    ·exact ⟨h1, by omega⟩
    ·exact a2 g hg
   ·rcases jI.1 hg with rfl | hg
    ·exact hq x hx
    ·exact qMd (hq x hx) (a3 f.1 rfl g hg)
  ·rintro ⟨a1, a2, a3⟩
   have a1 := jU.1 a1
   exact ⟨a1.2, fun g hg => a2 g (jO _ hg), fun x hx => by cases hx; exact a1.1⟩
theorem qJu {L : List File} : qJd L = 0 ↔ WF L := by
 unfold qJd WF
 by_cases h : 64 < L.length
 ·rw [if_pos h]; exact ⟨fun h => by omega, fun g => by omega⟩
 ·rw [if_neg h, qWo]
  exact ⟨fun g => ⟨by omega, g.1, g.2.1⟩, fun g => ⟨g.2.1, g.2.2, fun x hx => by cases hx⟩⟩
def resK (c : Int) : Unit ⊕ Int := if c = 0 then .inl () else .inr c
def qAt (L : List File) (i : Nat) : Option ByteArray := if i = 0 then none else (L[i - 1]?).map (·.1)
theorem qTp {L : List File} {f : Int → Option (Int ⊕ (Unit ⊕ Int))}
  (step : ∀ i : Nat, ∀ h : i < L.length, f (i : Int) = if qGu L[i].1.data.toList = false then some (.inr (.inr 6)) else if qAt L i = some L[i].1 then some (.inr (.inr 10)) else if qXw (qAt L i) L[i].1 = true then some (.inr (.inr 6)) else if 16384 < L[i].2.size then some (.inr (.inr 2)) else some (.inl ((i : Int) + 1)))
  (stop : f (L.length : Int) = some (.inr (.inl ()))) : ∀ (d i M : Nat), i + d = L.length → d < M → qBe f M (i : Int) = some (resK (qPa (qAt L i) (L.drop i)))
 | _, _, 0, _, h => by omega
 | 0, i, M + 1, hd, _ => by
  have : i = L.length := by omega
  subst this
  simp [qBe, stop, qPa, resK]
 | d + 1, i, M + 1, hd, hM => by
  have hi : i < L.length := by omega
  have ih := qTp step stop d (i + 1) M (by omega) (by omega)
  have e1 : (i : Int) + 1 = ((i + 1 : Nat) : Int) := by omega
  have e2 : qAt L (i + 1) = some L[i].1 := by simp [qAt, hi]
  simp only [qBe, step i hi]
  rw [jH hi]
  simp only [qPa]
  by_cases h1 : qGu L[i].1.data.toList = false
  ·rw [if_pos h1, if_pos h1]; rfl
  rw [if_neg h1, if_neg h1]
  by_cases h2 : qAt L i = some L[i].1
  ·rw [if_pos h2, if_pos h2]; rfl
  rw [if_neg h2, if_neg h2]
  by_cases h3 : qXw (qAt L i) L[i].1 = true
  ·rw [if_pos h3, if_pos h3]; rfl
  rw [if_neg h3, if_neg h3]
  by_cases h4 : 16384 < L[i].2.size
  ·rw [if_pos h4, if_pos h4]; rfl
  rw [if_neg h4, if_neg h4, e1]
  simp only [j0]
  rw [ih, e2]
theorem eqB (x y : ByteArray) : (x.toList == y.toList) = decide (x = y) := qGv x y
theorem qYl {N : Nat} {L : List File} {P : ByteArray → Option Bool} {f : Int → Option (Int ⊕ (Unit ⊕ Int))} (hP : ∀ g ∈ L, P g.1 = some (qGu g.1.data.toList))
  (hf : ∀ s1, f s1 = if (decide (s1 < (List.length L : Int))) = true then ((idx L s1).bind fun x1 => (P x1.1).bind fun y1 => if (!y1) = true then (some (.inr (.inr (6)))) else ((if (decide (s1 > 0)) = true then ((idx L (IntKind.wrap .i64 (s1 - 1))).bind fun x2 => some (x1.1.toList == x2.1.toList)) else (some false) : Option (Bool)).bind fun o2 => if o2 = true then (some (.inr (.inr (10)))) else ((if (decide (s1 > 0)) = true then ((idx L (IntKind.wrap .i64 (s1 - 1))).bind fun x3 => some (Op.bytesLess x1.1.toList x3.1.toList)) else (some false) : Option (Bool)).bind fun o3 => if o3 = true then (some (.inr (.inr (6)))) else (if (decide ((ByteArray.size x1.2 : Int) > 16384)) = true then (some (.inr (.inr (2)))) else (some (.inl (IntKind.wrap .i64 (s1 + 1)))))))) else (some (.inr (.inl ()))))
  (hN : 100 < N) : (if (decide ((List.length L : Int) > 64)) = true then (some 2) else ((qBe f N 0).bind fun out1 => (match out1 with | .inl _ => some 0 | .inr z => some z)) : Option Int) = some (qJd L) := by
 unfold qJd
 by_cases h : 64 < L.length
 ·rw [if_pos h, if_pos (by simp only [j9]; omega)]
 ·rw [if_neg h, if_neg (by simp only [j9]; omega)]
  have key := qTp (L := L) (f := f) (fun i hi => by
   rw [hf, if_pos (by simp only [j9]; omega), qGl hi]
   simp only [j0, hP _ (kC hi)]
   by_cases h1 : qGu L[i].1.data.toList = false
   ·rw [if_pos (by rw [h1]; rfl), if_pos h1]
   have h1' : qGu L[i].1.data.toList = true := by simpa using h1
   rw [if_neg (by rw [h1']; simp), if_neg h1]
   by_cases h0 : 0 < i
   ·have hi1 : i - 1 < L.length := by omega
    have ew : IntKind.wrap .i64 ((i : Int) - 1) = ((i - 1 : Nat) : Int) := by rw [wi64 (by omega) (by omega)]; omega
    have eq : qAt L i = some (L[i - 1]).1 := by simp [qAt, hi1]; omega
    rw [ew, qGl hi1, eq]
    have ed : decide ((i : Int) > 0) = true := by simp only [j9]; omega
    simp only [j0, eqB, ed, jP, j9, jG]
    by_cases h2 : L[i].1 = (L[i - 1]).1
    ·rw [if_pos h2, if_pos h2.symm]
    rw [if_neg h2, if_neg (show ¬ (L[i - 1]).1 = L[i].1 from fun e => h2 e.symm)]
    have el : qXw (some (L[i - 1]).1) L[i].1 = Op.bytesLess L[i].1.toList (L[i - 1]).1.toList := rfl
    rw [el]
    by_cases h3 : Op.bytesLess L[i].1.toList (L[i - 1]).1.toList = true
    ·rw [if_pos h3, if_pos h3]
    rw [if_neg h3, if_neg h3]
    by_cases h4 : 16384 < L[i].2.size
    ·rw [if_pos (by omega), if_pos h4]
    ·rw [if_neg (by omega), if_neg h4, wi64 (by omega) (by omega)]
   ·have h0 : i = 0 := by omega
    subst h0
    have ed : decide (((0 : Nat) : Int) > 0) = false := by decide
    have eq : qAt L 0 = none := rfl
    have el : qXw none (L[0]).1 = false := rfl
    simp only [ed, jB, jM, j0, eq, j9, reduceCtorEq, el]
    by_cases h4 : 16384 < L[0].2.size
    ·rw [if_pos (by omega), if_pos h4]
    ·rw [if_neg (by omega), if_neg h4, wi64 (by omega) (by omega)]) (by rw [hf, if_neg (by simp)]) L.length 0 N (by omega) (by omega)
  rw [show ((0 : Nat) : Int) = 0 from rfl] at key
  rw [key, k0]
  have eq : qAt L 0 = none := rfl
  rw [eq]
  simp only [j0, resK]
  by_cases hc : qPa none L = 0
  ·rw [if_pos hc, hc]
  ·rw [if_neg hc]
theorem zDj {N : Nat} {L : List File} (hP : ∀ g ∈ L, qFm N g.1 = some (qGu g.1.data.toList)) (hN : 100 < N) : qJs N L = some (qJd L) :=
 qYl (f := qIc N L) (P := qFm N) hP (fun _ => rfl) hN
theorem qXn {N : Nat} {L : List File} (hN : 100 < N) : qHa N L = some (qJd L) :=
 qYl (f := qFt N L) (P := qDw N) (fun _ _ => qTa hN) (fun _ => rfl) hN
end
section
open Go Go.Dc Go.Proofs
def qHk : ByteArray := ⟨#[]⟩
def zGn (o : Option ByteArray) : ByteArray × Bool := match o with
 | some b => (b, true)
 | none => (qHk, false)
abbrev qOm (N : Nat) (L : List File) : Prop := ∀ g ∈ L, qFm N g.1 = some (qGu g.1.data.toList)
def qIe (s : ByteArray) : Bool := qGu s.data.toList && decide (4 < s.size) && decide (s.extract (s.size - 4) s.size = (⟨#[46, 115, 114, 99]⟩ : ByteArray))
theorem qXi {N : Nat} {s : ByteArray} (hp : qFm N s = some (qGu s.data.toList)) : qGw N s = some (qIe s) := by
 simp only [qGw, hp, j0]
 unfold qIe
 cases hb : qGu s.data.toList with
 | false => simp
 | true =>
  have h80 : s.size ≤ 80 := by
   have : s.data.toList.length ≤ 80 := (kT hb).1
   have e := qCa s
   omega
  rw [if_pos rfl]
  by_cases h4 : 4 < s.size
  ·rw [if_pos (by simp only [j9]; omega)]
   have e4 : ByteArray.size (⟨#[46, 115, 114, 99]⟩ : ByteArray) = 4 := rfl
   simp only [qIa, qDe, e4]
   rw [if_pos (by simp only [j9]; omega), show IntKind.wrap .i64 ((s.size : Int) - ((4 : Nat) : Int)) = ((s.size - 4 : Nat) : Int) by rw [wi64 (by omega) (by omega)]; omega, qNj (by omega) (by omega) (by omega)]
   simp only [j0, kE, eqB, k8 h4, Bool.true_and]
  ·rw [if_neg (by simp only [j9]; omega), gC h4]; rfl
section
variable {κ ν : Type} [DecidableEq κ]
theorem qTq : ∀ (l : List (κ × ν)) (k : κ) (v : ν) (c : κ), mget (qMf l k v) c = if c = k then some v else mget l c
 | [], k, v, c => by simp [qMf, mget]
 | p :: l, k, v, c => by
  simp only [qMf]
  by_cases h : k = p.1
  ·rw [if_pos h]
   simp only [mget]
   by_cases h2 : c = k
   ·rw [if_pos h2, if_pos h2]
   ·rw [if_neg h2, if_neg h2, if_neg (by rw [← h]; exact h2)]
  ·rw [if_neg h]
   simp only [mget]
   rw [qTq l k v c]
   by_cases h2 : c = p.1
   ·rw [if_pos h2, if_neg (fun e => h (by rw [← e, h2])), if_pos h2]
   ·rw [if_neg h2, if_neg h2]
theorem zAk [KOrd κ] {l : List (κ × ν)} (hn : (l.map (·.1)).Nodup) (k : κ) (v : ν) (c : κ) : mget (mset l k v) c = if c = k then some v else mget l c := by
 rw [← qQx (qMb (.refl l) hn k v) (qJp hn k v) c, qTq]
theorem qYj [KOrd κ] {l : List (κ × ν)} (hn : (l.map (·.1)).Nodup) (k : κ) (v : ν) : ((mset l k v).map (·.1)).Nodup :=
 ((qMb (.refl l) hn k v).map _).nodup_iff.1 (qJp hn k v)
end
end
section
open Go Go.Dc
instance decMemB (s : ByteArray) (l : List ByteArray) : Decidable (s ∈ l) := @List.instDecidableMemOfLawfulBEq ByteArray instBEqOfDecidableEq inferInstance s l
abbrev Ex := Int × Int × Int × ByteArray × List Int
abbrev Dl := Int × ByteArray × List ByteArray × List Ex
abbrev Sr := ByteArray × List ByteArray × List Dl
abbrev Flt := Int × Int
abbrev Ps := Nat × List Ex
abbrev PM (α : Type) := Flt ⊕ (Ps × α)
def tkAt (ts : List Tok) (i : Nat) : Tok := ts.getD i (5, ⟨#[]⟩, 0, 0)
def qIx {α : Type} (t : Tok) (e : Int) : Flt ⊕ α := .inl (t.2.2.2, e)
def qCu {α β : Type} (x : Flt ⊕ α) (f : α → Flt ⊕ β) : Flt ⊕ β :=
 match x with
 | .inl z => .inl z
 | .inr a => f a
def isC (ts : List Tok) (k : Int) (s : ByteArray) (i : Nat) : Bool := (tkAt ts i).1 == k && decide ((tkAt ts i).2.1 = s)
def qJi (ts : List Tok) (s : ByteArray) (i : Nat) : Flt ⊕ Nat := if isC ts 4 s i then .inr (i + 1) else qIx (tkAt ts i) 9
def qQy (ts : List Tok) (s : ByteArray) (i : Nat) : Flt ⊕ Nat := if isC ts 1 s i then .inr (i + 1) else qIx (tkAt ts i) 9
def qOb (ts : List Tok) (k : Int) (i : Nat) : Flt ⊕ (Nat × Tok) := if (tkAt ts i).1 = k then .inr (i + 1, tkAt ts i) else qIx (tkAt ts i) 9
def qQk : ByteArray := ⟨#[112, 97, 99, 107, 97, 103, 101]⟩
def qUd : ByteArray := ⟨#[105, 109, 112, 111, 114, 116]⟩
def zEd : ByteArray := ⟨#[102, 117, 110, 99]⟩
def zEg : ByteArray := ⟨#[116, 101, 115, 116]⟩
def sGen : ByteArray := ⟨#[103, 101, 110]⟩
def sIf : ByteArray := ⟨#[105, 102]⟩
def zEm : ByteArray := ⟨#[116, 104, 101, 110]⟩
def zDf : ByteArray := ⟨#[101, 108, 115, 101]⟩
def qSc : ByteArray := ⟨#[114, 101, 97, 100]⟩
def qSh : ByteArray := ⟨#[115, 105, 122, 101]⟩
def sHas : ByteArray := ⟨#[104, 97, 115]⟩
def sEnv : ByteArray := ⟨#[101, 110, 118]⟩
def qVo : ByteArray := ⟨#[102, 108, 105, 112]⟩
def qSb : ByteArray := ⟨#[40]⟩
def qMe : ByteArray := ⟨#[41]⟩
def qTf : ByteArray := ⟨#[44]⟩
def qZt : ByteArray := ⟨#[59]⟩
def sEq : ByteArray := ⟨#[61]⟩
def zEq : ByteArray := ⟨#[45]⟩
def zFd : List ByteArray := [qQk, qUd, zEd, zEg, sGen, sIf, zEm, zDf, qSc, qSh, sHas, sEnv, qVo]
def resC (s : ByteArray) : Bool := decide (s ∈ zFd)
def qOt (ts : List Tok) (i : Nat) : Flt ⊕ (Nat × Tok) := qCu (qOb ts 1 i) fun p => if resC p.2.2.1 then qIx p.2 9 else .inr p
def qPu (ts : List Tok) (i : Nat) : Flt ⊕ (Nat × Tok) := qCu (qOb ts 3 i) fun p => if qGu p.2.2.1.data.toList then .inr p else qIx p.2 9
def zAp (ts : List Tok) (i : Nat) : Flt ⊕ (Nat × Tok) := qCu (qOb ts 3 i) fun p => if qUq p.2.2.1 then .inr p else qIx p.2 9
def qLq (t : Tok) (x : Ex) (p : Ps) : PM Nat := if p.2.length = 256 then qIx t 2 else .inr ((p.1, p.2 ++ [x]), p.2.length)
def opsC : List (Int × ByteArray) := [(1, ⟨#[43]⟩), (2, ⟨#[45]⟩), (3, ⟨#[42]⟩), (4, ⟨#[47]⟩), (5, ⟨#[37]⟩), (6, ⟨#[60]⟩), (7, ⟨#[61, 61]⟩)]
def levP (op : Int) : Nat := if op = 6 ∨ op = 7 then 1 else if op = 1 ∨ op = 2 then 2 else 3
def isOp (ts : List Tok) (level : Nat) (i : Nat) (o : Int × ByteArray) : Bool := isC ts 4 o.2 i && decide (levP o.1 = level)
def opC (ts : List Tok) (level : Nat) (i : Nat) : Int :=
 match opsC.find? (isOp ts level i) with
 | some o => o.1
 | none => 0
section
variable (ts : List Tok) (params : List ByteArray) (E : Ps → PM Nat)
def zCv : Nat → List Int → Ps → PM (List Int)
 | 0, _, p => qIx (tkAt ts p.1) 9
 | n + 1, l, p => qCu (E p) fun q =>
  if isC ts 4 qTf q.1.1 then zCv n (l ++ [(q.2 : Int)]) (q.1.1 + 1, q.1.2)
  else qCu (qJi ts qMe q.1.1) fun i => .inr ((i, q.1.2), l ++ [(q.2 : Int)])
def qJq (p : Ps) : PM (List Int) :=
 qCu (qJi ts qSb p.1) fun i => if isC ts 4 qMe i then .inr ((i + 1, p.2), []) else zCv ts E (ts.length + 1) [] (i, p.2)
def qMn (t : Tok) (p : Ps) : PM Nat :=
 qCu (qJi ts qSb p.1) fun i =>
 qCu (if t.2.1 = qSc then
   qCu (qPu ts i) fun a => qCu (qJi ts qTf a.1) fun i => qCu (E (i, p.2)) fun q => .inr (q.1, ((6, 0, 0, a.2.2.1, [(q.2 : Int)]) : Ex))
  else if t.2.1 = qSh then qCu (qPu ts i) fun a => .inr ((a.1, p.2), ((7, 0, 0, a.2.2.1, []) : Ex))
  else if t.2.1 = sHas then qCu (qPu ts i) fun a => .inr ((a.1, p.2), ((8, 0, 0, a.2.2.1, []) : Ex))
  else if t.2.1 = sEnv then qCu (zAp ts i) fun a => .inr ((a.1, p.2), ((9, 0, 0, a.2.2.1, []) : Ex))
  else qCu (qOb ts 2 i) fun a => if a.2.2.2.1 ≥ 64 then qIx a.2 9 else .inr ((a.1, p.2), ((10, a.2.2.2.1, 0, ⟨#[]⟩, []) : Ex))) fun q =>
 qCu (qJi ts qMe q.1.1) fun i => qLq t q.2 (i, q.1.2)
def qOs (p : Ps) : PM Nat :=
 let t := tkAt ts p.1
 if t.1 = 2 then qLq t (1, t.2.2.1, 0, ⟨#[]⟩, []) (p.1 + 1, p.2)
 else if isC ts 4 zEq p.1 then qCu (qOb ts 2 (p.1 + 1)) fun a => qLq t (1, IntKind.wrap .i64 (0 - a.2.2.2.1), 0, ⟨#[]⟩, []) (a.1, p.2)
 else if isC ts 4 qSb p.1 then qCu (E (p.1 + 1, p.2)) fun q => qCu (qJi ts qMe q.1.1) fun i => .inr ((i, q.1.2), q.2)
 else if t.1 ≠ 1 then qIx t 9
 else if t.2.1 ∈ [qSc, qSh, sHas, sEnv, qVo] then qMn ts E t (p.1 + 1, p.2)
 else if resC t.2.1 then qIx t 9
 else if isC ts 4 qSb (p.1 + 1) then qCu (qJq ts E (p.1 + 1, p.2)) fun q => qLq t (3, 0, 0, t.2.1, q.2) q.1
 else match params.findIdx? (fun x => decide (x = t.2.1)) with
  | some i => qLq t (2, (i : Int), 0, ⟨#[]⟩, []) (p.1 + 1, p.2)
  | none => qIx t 9
def zAg (level : Nat) (S : Ps → PM Nat) : Nat → Nat → Ps → PM Nat
 | 0, _, p => qIx (tkAt ts p.1) 9
 | n + 1, x, p =>
  if opC ts level p.1 = 0 then .inr (p, x)
  else qCu (S (p.1 + 1, p.2)) fun q => qCu (qLq (tkAt ts p.1) (4, 0, opC ts level p.1, ⟨#[]⟩, [(x : Int), (q.2 : Int)]) q.1) fun r =>
   if level = 1 then .inr r else zAg level S n r.2 r.1
def qTs (level : Nat) (S : Ps → PM Nat) (p : Ps) : PM Nat := qCu (S p) fun q => zAg ts level S (ts.length + 1) q.2 q.1
def zFh : Ps → PM Nat := qTs ts 3 (qOs ts params E)
def sumC : Ps → PM Nat := qTs ts 2 (zFh ts params E)
def qQo : Ps → PM Nat := qTs ts 1 (sumC ts params E)
end
def qIo (ts : List Tok) (params : List ByteArray) : Nat → Ps → PM Nat
 | 0, p => qIx (tkAt ts p.1) 2
 | k + 1, p =>
  if isC ts 1 sIf p.1 then
   qCu (qIo ts params k (p.1 + 1, p.2)) fun a => qCu (qQy ts zEm a.1.1) fun i =>
   qCu (qIo ts params k (i, a.1.2)) fun b => qCu (qQy ts zDf b.1.1) fun j =>
   qCu (qIo ts params k (j, b.1.2)) fun c => qLq (tkAt ts p.1) (5, 0, 0, ⟨#[]⟩, [(a.2 : Int), (b.2 : Int), (c.2 : Int)]) c.1
  else qQo ts params (qIo ts params k) p
def qQt (ts : List Tok) : Nat → List ByteArray → Nat → Flt ⊕ (Nat × List ByteArray)
 | 0, _, i => qIx (tkAt ts i) 9
 | n + 1, l, i => qCu (qOt ts i) fun a =>
  if l.length = 8 then qIx a.2 2
  else if a.2.2.1 ∈ l then qIx a.2 10
  else if isC ts 4 qTf a.1 then qQt ts n (l ++ [a.2.2.1]) (a.1 + 1)
  else qCu (qJi ts qMe a.1) fun j => .inr (j, l ++ [a.2.2.1])
def qIp (ts : List Tok) (i : Nat) : Flt ⊕ (Nat × List ByteArray) :=
 qCu (qJi ts qSb i) fun j => if isC ts 4 qMe j then .inr (j + 1, []) else qQt ts (ts.length + 1) [] j
def qKh (s : ByteArray) : Int := if s = zEd then 1 else if s = zEg then 2 else if s = sGen then 3 else 0
def qWm (ts : List Tok) (before : List Dl) (i : Nat) : Flt ⊕ (Nat × Dl) :=
 let t := tkAt ts i
 let k := qKh t.2.1
 if t.1 ≠ 1 ∨ k = 0 then qIx t 9
 else if before.length = 64 then qIx t 2
 else qCu (if k = 3 then qPu ts (i + 1) else qOt ts (i + 1)) fun a =>
  if before.any (fun d => d.1 == k && decide (d.2.1 = a.2.2.1)) then qIx a.2 10
  else qCu (if k = 1 then qIp ts a.1 else .inr (a.1, [])) fun b =>
   qCu (qJi ts sEq b.1) fun j => qCu (qIo ts b.2 32 (j, [])) fun c =>
   qCu (qJi ts qZt c.1.1) fun m => .inr (m, (k, a.2.2.1, b.2, c.1.2))
def qMo (ts : List Tok) (pkg : ByteArray) : Nat → List ByteArray → Nat → Flt ⊕ (Nat × List ByteArray)
 | 0, _, i => qIx (tkAt ts i) 9
 | n + 1, l, i =>
  if isC ts 1 qUd i then
   if l.length = 8 then qIx (tkAt ts i) 2
   else qCu (qOt ts (i + 1)) fun a =>
    if a.2.2.1 = pkg ∨ a.2.2.1 ∈ l then qIx a.2 10
    else qCu (qJi ts qZt a.1) fun j => qMo ts pkg n (l ++ [a.2.2.1]) j
  else .inr (i, l)
def qRf (ts : List Tok) : Nat → List Dl → Nat → Flt ⊕ List Dl
 | 0, _, i => qIx (tkAt ts i) 9
 | n + 1, l, i => if (tkAt ts i).1 = 5 then .inr l else qCu (qWm ts l i) fun a => qRf ts n (l ++ [a.2]) a.1
def qUp (ts : List Tok) : Flt ⊕ Sr :=
 qCu (qQy ts qQk 0) fun i => qCu (qOt ts i) fun a => qCu (qJi ts qZt a.1) fun j =>
 qCu (qMo ts a.2.2.1 (ts.length + 1) [] j) fun b => qCu (qRf ts (ts.length + 1) [] b.1) fun l => .inr (a.2.2.1, b.2, l)
def noSrc : Sr := (⟨#[]⟩, [], [])
def qHu (s : ByteArray) : Sr × Int × Int :=
 if (qFq s).2.2 ≠ 0 then (noSrc, (qFq s).2.1, (qFq s).2.2)
 else match qUp (qFq s).1 with
  | .inl z => (noSrc, z.1, z.2)
  | .inr f => (f, 0, 0)
end
section
open Go Go.Dc
def OkT (ts : List Tok) : Prop := ts ≠ [] ∧ ∀ i, i < ts.length → ((tkAt ts i).1 = 5 ↔ i + 1 = ts.length)
theorem qBm {α β : Type} {x : Flt ⊕ α} {f : α → Flt ⊕ β} {b : β} (h : qCu x f = .inr b) : ∃ a, x = .inr a ∧ f a = .inr b := by
 cases x with
 | inl z => cases h
 | inr a => exact ⟨a, rfl, h⟩
section
variable {ts : List Tok} {params : List ByteArray} {E S : Ps → PM Nat}
theorem OkT.next (h : OkT ts) {i : Nat} (hi : i < ts.length) (hk : (tkAt ts i).1 ≠ 5) : i + 1 < ts.length := by
 have h3 : ¬ i + 1 = ts.length := fun e => hk ((h.2 i hi).2 e)
 omega
theorem qUy {k : Int} {s : ByteArray} {i : Nat} (h : isC ts k s i = true) : (tkAt ts i).1 = k := by
 simp only [isC, jN, kA] at h; exact h.1
theorem qGn (h : OkT ts) {k : Int} {s : ByteArray} {i : Nat} (hi : i < ts.length) (hk : k ≠ 5) (h1 : isC ts k s i = true) : i + 1 < ts.length := h.next hi (by rw [qUy h1]; exact hk)
theorem qFg (h : OkT ts) {s : ByteArray} {i j : Nat} (hi : i < ts.length) (h1 : qJi ts s i = .inr j) : j = i + 1 ∧ j < ts.length ∧ isC ts 4 s i = true := by
 unfold qJi at h1
 split at h1
 ·rename_i h2
  obtain rfl := Sum.inr.inj h1
  exact ⟨rfl, qGn h hi (by decide) h2, h2⟩
 ·cases h1
theorem qNt (h : OkT ts) {s : ByteArray} {i j : Nat} (hi : i < ts.length) (h1 : qQy ts s i = .inr j) : j = i + 1 ∧ j < ts.length ∧ isC ts 1 s i = true := by
 unfold qQy at h1
 split at h1
 ·rename_i h2
  obtain rfl := Sum.inr.inj h1
  exact ⟨rfl, qGn h hi (by decide) h2, h2⟩
 ·cases h1
theorem qMi (h : OkT ts) {k : Int} (hk : k ≠ 5) {i : Nat} {a : Nat × Tok} (hi : i < ts.length) (h1 : qOb ts k i = .inr a) : a = (i + 1, tkAt ts i) ∧ i + 1 < ts.length ∧ (tkAt ts i).1 = k := by
 unfold qOb at h1
 split at h1
 ·rename_i h2
  obtain rfl := Sum.inr.inj h1
  exact ⟨rfl, h.next hi (by rw [h2]; exact hk), h2⟩
 ·cases h1
theorem qLd (h : OkT ts) {i : Nat} {a : Nat × Tok} (hi : i < ts.length) (h1 : qOt ts i = .inr a) : a = (i + 1, tkAt ts i) ∧ i + 1 < ts.length ∧ (tkAt ts i).1 = 1 ∧ resC (tkAt ts i).2.1 = false := by
 obtain ⟨b, hb, h2⟩ := qBm h1
 obtain ⟨rfl, g1, g2⟩ := qMi h (by decide) hi hb
 split at h2
 ·cases h2
 ·rename_i g3
  obtain rfl := Sum.inr.inj h2
  exact ⟨rfl, g1, g2, by simpa using g3⟩
theorem qLh (h : OkT ts) {i : Nat} {a : Nat × Tok} (hi : i < ts.length) (h1 : qPu ts i = .inr a) : a = (i + 1, tkAt ts i) ∧ i + 1 < ts.length ∧ (tkAt ts i).1 = 3 ∧ qGu (tkAt ts i).2.1.data.toList = true := by
 obtain ⟨b, hb, h2⟩ := qBm h1
 obtain ⟨rfl, g1, g2⟩ := qMi h (by decide) hi hb
 split at h2
 ·rename_i g3
  obtain rfl := Sum.inr.inj h2
  exact ⟨rfl, g1, g2, g3⟩
 ·cases h2
theorem zBp (h : OkT ts) {i : Nat} {a : Nat × Tok} (hi : i < ts.length) (h1 : zAp ts i = .inr a) : a = (i + 1, tkAt ts i) ∧ i + 1 < ts.length ∧ (tkAt ts i).1 = 3 ∧ qUq (tkAt ts i).2.1 = true := by
 obtain ⟨b, hb, h2⟩ := qBm h1
 obtain ⟨rfl, g1, g2⟩ := qMi h (by decide) hi hb
 split at h2
 ·rename_i g3
  obtain rfl := Sum.inr.inj h2
  exact ⟨rfl, g1, g2, g3⟩
 ·cases h2
theorem zDy {t : Tok} {x : Ex} {p q : Ps} {i : Nat} (h : qLq t x p = .inr (q, i)) : q = (p.1, p.2 ++ [x]) ∧ i = p.2.length ∧ p.2.length ≠ 256 := by
 unfold qLq at h
 split at h
 ·cases h
 ·rename_i h1
  obtain ⟨rfl, rfl⟩ := Prod.mk.inj (Sum.inr.inj h)
  exact ⟨rfl, rfl, h1⟩
def Fwd (ts : List Tok) (p q : Ps) : Prop := p.1 < q.1 ∧ q.1 < ts.length ∧ p.2.length ≤ q.2.length ∧ q.2.length ≤ 256
def Adv (ts : List Tok) (S : Ps → PM Nat) : Prop := ∀ (p q : Ps) (x : Nat), p.1 < ts.length → p.2.length ≤ 256 → S p = .inr (q, x) → Fwd ts p q ∧ x < q.2.length
theorem qKy {t : Tok} {x : Ex} {p r q : Ps} {i : Nat} (hp : p.1 < r.1) (hr : r.1 < ts.length) (hl : p.2.length ≤ r.2.length) (h256 : r.2.length ≤ 256) (h : qLq t x r = .inr (q, i)) : Fwd ts p q ∧ i < q.2.length := by
 obtain ⟨rfl, rfl, g⟩ := zDy h
 refine ⟨⟨hp, hr, ?_, ?_⟩, ?_⟩ <;> simp only [jJ, jA, jC] <;> omega
theorem qVt (h : OkT ts) (hE : Adv ts E) : ∀ (n : Nat) (l : List Int) (p q : Ps) (x : List Int), p.1 < ts.length → p.2.length ≤ 256 → zCv ts E n l p = .inr (q, x) → Fwd ts p q
 | 0, _, _, _, _, _, _, h1 => by cases h1
 | n + 1, l, p, q, x, hp, hb, h1 => by
  obtain ⟨a, ha, h2⟩ := qBm (show qCu (E p) _ = _ from h1)
  obtain ⟨⟨f1, f2, f3, f4⟩, f5⟩ := hE p a.1 a.2 hp hb ha
  split at h2
  ·rename_i hc
   have g := qGn h f2 (by decide) hc
   obtain ⟨k1, k2, k3, k4⟩ := qVt h hE n _ (a.1.1 + 1, a.1.2) q x g f4 h2
   exact ⟨by simp only at k1; omega, k2, by simp only at k3; omega, k4⟩
  ·obtain ⟨j, hj, h3⟩ := qBm h2
   obtain ⟨rfl, g1, -⟩ := qFg h f2 hj
   obtain ⟨rfl, -⟩ := Prod.mk.inj (Sum.inr.inj h3)
   exact ⟨by simp only; omega, g1, f3, f4⟩
theorem qOh (h : OkT ts) (hE : Adv ts E) {p q : Ps} {x : List Int} (hp : p.1 < ts.length) (hb : p.2.length ≤ 256) (h1 : qJq ts E p = .inr (q, x)) : Fwd ts p q := by
 obtain ⟨i, hi, h2⟩ := qBm h1
 obtain ⟨rfl, g1, -⟩ := qFg h hp hi
 split at h2
 ·rename_i hc
  obtain ⟨rfl, -⟩ := Prod.mk.inj (Sum.inr.inj h2)
  exact ⟨by simp only; omega, qGn h g1 (by decide) hc, jR _, hb⟩
 ·obtain ⟨k1, k2, k3, k4⟩ := qVt h hE _ _ (p.1 + 1, p.2) q x g1 hb h2
  exact ⟨by simp only at k1; omega, k2, k3, k4⟩
theorem qWl (h : OkT ts) (hE : Adv ts E) {t : Tok} {p q : Ps} {x : Nat} (hp : p.1 < ts.length) (hb : p.2.length ≤ 256) (h1 : qMn ts E t p = .inr (q, x)) : Fwd ts p q ∧ x < q.2.length := by
 obtain ⟨i, hi, h2⟩ := qBm h1
 obtain ⟨rfl, g1, -⟩ := qFg h hp hi
 obtain ⟨a, ha, h3⟩ := qBm h2
 obtain ⟨j, hj, h4⟩ := qBm h3
 have key : Fwd ts (p.1 + 1, p.2) a.1 := by
  split at ha
  ·obtain ⟨b, hb1, hb2⟩ := qBm ha
   obtain ⟨rfl, k1, -⟩ := qLh h g1 hb1
   obtain ⟨c, hc1, hc2⟩ := qBm hb2
   obtain ⟨rfl, k2, -⟩ := qFg h k1 hc1
   obtain ⟨d, hd1, hd2⟩ := qBm hc2
   obtain ⟨⟨f1, f2, f3, f4⟩, -⟩ := hE (p.1 + 1 + 1 + 1, p.2) d.1 d.2 k2 hb hd1
   obtain rfl := Sum.inr.inj hd2
   exact ⟨by simp only at f1 ⊢; omega, f2, f3, f4⟩
  ·split at ha
   ·obtain ⟨b, hb1, hb2⟩ := qBm ha
    obtain ⟨rfl, k1, -⟩ := qLh h g1 hb1
    obtain rfl := Sum.inr.inj hb2
    exact ⟨by simp only; omega, k1, jR _, hb⟩
   ·split at ha
    ·obtain ⟨b, hb1, hb2⟩ := qBm ha
     obtain ⟨rfl, k1, -⟩ := qLh h g1 hb1
     obtain rfl := Sum.inr.inj hb2
     exact ⟨by simp only; omega, k1, jR _, hb⟩
    ·split at ha
     ·obtain ⟨b, hb1, hb2⟩ := qBm ha
      obtain ⟨rfl, k1, -⟩ := zBp h g1 hb1
      obtain rfl := Sum.inr.inj hb2
      exact ⟨by simp only; omega, k1, jR _, hb⟩
     ·obtain ⟨b, hb1, hb2⟩ := qBm ha
      obtain ⟨rfl, k1, -⟩ := qMi h (by decide) g1 hb1
      split at hb2
      ·cases hb2
      ·obtain rfl := Sum.inr.inj hb2
       exact ⟨by simp only; omega, k1, jR _, hb⟩
 obtain ⟨f1, f2, f3, f4⟩ := key
 obtain ⟨rfl, g2, -⟩ := qFg h f2 hj
 exact qKy (r := (a.1.1 + 1, a.1.2)) (by simp only at f1 ⊢; omega) g2 f3 f4 h4
theorem qQz (h : OkT ts) (hE : Adv ts E) : Adv ts (qOs ts params E) := by
 intro p q x hp hb h1
 unfold qOs at h1
 dsimp only at h1
 split at h1
 ·rename_i hk
  exact qKy (r := (p.1 + 1, p.2)) (by simp only; omega) (h.next hp (by rw [hk]; decide)) (jR _) hb h1
 split at h1
 ·rename_i hc
  have g := qGn h hp (by decide) hc
  obtain ⟨a, ha, h2⟩ := qBm h1
  obtain ⟨rfl, g1, -⟩ := qMi h (by decide) g ha
  exact qKy (r := (p.1 + 1 + 1, p.2)) (by simp only; omega) g1 (jR _) hb h2
 split at h1
 ·rename_i hc
  have g := qGn h hp (by decide) hc
  obtain ⟨a, ha, h2⟩ := qBm h1
  obtain ⟨⟨f1, f2, f3, f4⟩, f5⟩ := hE (p.1 + 1, p.2) a.1 a.2 g hb ha
  obtain ⟨j, hj, h3⟩ := qBm h2
  obtain ⟨rfl, g1, -⟩ := qFg h f2 hj
  obtain ⟨rfl, rfl⟩ := Prod.mk.inj (Sum.inr.inj h3)
  exact ⟨⟨by simp only at f1 ⊢; omega, g1, f3, f4⟩, f5⟩
 split at h1
 ·cases h1
 rename_i hk
 have g := h.next hp (show (tkAt ts p.1).1 ≠ 5 by simp only [ne_eq, Decidable.not_not] at hk; rw [hk]; decide)
 split at h1
 ·obtain ⟨⟨f1, f2, f3, f4⟩, f5⟩ := qWl h hE (p := (p.1 + 1, p.2)) g hb h1
  exact ⟨⟨by simp only at f1; omega, f2, f3, f4⟩, f5⟩
 split at h1
 ·cases h1
 split at h1
 ·obtain ⟨a, ha, h2⟩ := qBm h1
  obtain ⟨f1, f2, f3, f4⟩ := qOh h hE (p := (p.1 + 1, p.2)) g hb ha
  exact qKy (by simp only at f1; omega) f2 f3 f4 h2
 split at h1
 ·exact qKy (r := (p.1 + 1, p.2)) (by simp only; omega) g (jR _) hb h1
 ·cases h1
theorem qWk (h : OkT ts) {level : Nat} (hS : Adv ts S) : ∀ (n x : Nat) (p q : Ps) (y : Nat), p.1 < ts.length → p.2.length ≤ 256 → x < p.2.length → zAg ts level S n x p = .inr (q, y) → p.1 ≤ q.1 ∧ q.1 < ts.length ∧ p.2.length ≤ q.2.length ∧ q.2.length ≤ 256 ∧ y < q.2.length
 | 0, _, _, _, _, _, _, _, h1 => by cases h1
 | n + 1, x, p, q, y, hp, hb, hx, h1 => by
  unfold zAg at h1
  split at h1
  ·obtain ⟨rfl, rfl⟩ := Prod.mk.inj (Sum.inr.inj h1)
   exact ⟨jR _, hp, jR _, hb, hx⟩
  ·rename_i hop
   have hk : (tkAt ts p.1).1 ≠ 5 := by
    intro hk
    apply hop
    unfold opC
    have : opsC.find? (isOp ts level p.1) = none := by
     rw [List.find?_eq_none]
     intro o _ ho
     simp only [isOp, jN] at ho
     have := qUy ho.1
     omega
    rw [this]
   have g := h.next hp hk
   obtain ⟨a, ha, h2⟩ := qBm h1
   obtain ⟨⟨f1, f2, f3, f4⟩, f5⟩ := hS (p.1 + 1, p.2) a.1 a.2 g hb ha
   obtain ⟨r, hr, h3⟩ := qBm h2
   obtain ⟨⟨k1, k2, k3, k4⟩, k5⟩ := qKy (ts := ts) (p := p) (by simp only at f1; omega) f2 f3 f4 hr
   split at h3
   ·obtain ⟨rfl, rfl⟩ := Prod.mk.inj (Sum.inr.inj h3)
    exact ⟨by omega, k2, k3, k4, k5⟩
   ·obtain ⟨j1, j2, j3, j4, j5⟩ := qWk h hS n _ _ q y k2 k4 k5 h3
    exact ⟨by omega, j2, by omega, j4, j5⟩
theorem qMc (h : OkT ts) {level : Nat} (hS : Adv ts S) : Adv ts (qTs ts level S) := by
 intro p q x hp hb h1
 obtain ⟨a, ha, h2⟩ := qBm h1
 obtain ⟨⟨f1, f2, f3, f4⟩, f5⟩ := hS p a.1 a.2 hp hb ha
 obtain ⟨j1, j2, j3, j4, j5⟩ := qWk h hS _ _ _ q x f2 f4 f5 h2
 exact ⟨⟨by omega, j2, by omega, j4⟩, j5⟩
theorem qKw (h : OkT ts) : ∀ k, Adv ts (qIo ts params k)
 | 0 => fun _ _ _ _ _ h1 => by cases h1
 | k + 1 => by
  intro p q x hp hb h1
  unfold qIo at h1
  split at h1
  ·rename_i hc
   have g := qGn h hp (by decide) hc
   obtain ⟨a, ha, h2⟩ := qBm h1
   obtain ⟨⟨a1, a2, a3, a4⟩, -⟩ := qKw h k (p.1 + 1, p.2) a.1 a.2 g hb ha
   obtain ⟨i, hi, h3⟩ := qBm h2
   obtain ⟨rfl, g1, -⟩ := qNt h a2 hi
   obtain ⟨b, hb1, h4⟩ := qBm h3
   obtain ⟨⟨b1, b2, b3, b4⟩, -⟩ := qKw h k (a.1.1 + 1, a.1.2) b.1 b.2 g1 a4 hb1
   obtain ⟨j, hj, h5⟩ := qBm h4
   obtain ⟨rfl, g2, -⟩ := qNt h b2 hj
   obtain ⟨c, hc1, h6⟩ := qBm h5
   obtain ⟨⟨c1, c2, c3, c4⟩, -⟩ := qKw h k (b.1.1 + 1, b.1.2) c.1 c.2 g2 b4 hc1
   simp only at a1 a3 b1 b3 c1 c3
   exact qKy (by omega) c2 (by omega) c4 h6
  ·exact qMc h (qMc h (qMc h (qQz h (qKw h k)))) p q x hp hb h1
end
end
section
open Go Go.Dc
theorem idx_tk {ts : List Tok} {i : Nat} (hi : i < ts.length) : idx ts (i : Int) = some (tkAt ts i) := by
 rw [qGl hi]
 simp [tkAt, kF, hi]
theorem qMs {i : Nat} (h : i < 1000000) : IntKind.wrap .i64 ((i : Int) + 1) = ((i + 1 : Nat) : Int) := by rw [wi64 (by omega) (by omega)]; omega
section
variable {N : Nat} {ts : List Tok} {pr : List ByteArray} {b : List Ex} {i : Nat}
theorem qIi (hi : i < ts.length) : qBl N (ts, (i : Int), pr, b) = some ((ts, (i : Int), pr, b), tkAt ts i) := by
 simp only [qBl, idx_tk hi, j0]
theorem zAm (hi : i < ts.length) (k : Int) (s : ByteArray) : qCy N (ts, (i : Int), pr, b) k s = some ((ts, (i : Int), pr, b), isC ts k s i) := by
 simp only [qCy, qIi hi, j0, qGv, isC]
 cases h : (tkAt ts i).1 == k <;> simp [h]
theorem qXm (hi : i < ts.length) (hl : ts.length < 1000000) (s : ByteArray) : qDz N (ts, (i : Int), pr, b) s = some (Sum.map id (fun j : Nat => (ts, (j : Int), pr, b)) (qQy ts s i)) := by
 simp only [qDz, zAm hi, qIi hi, j0, qBh, qQy]
 cases h : isC ts 1 s i
 ·simp [qIx]
 ·simp [qMs (show i < 1000000 by omega)]
theorem qKc (hi : i < ts.length) (hl : ts.length < 1000000) (s : ByteArray) : qBg N (ts, (i : Int), pr, b) s = some (Sum.map id (fun j : Nat => (ts, (j : Int), pr, b)) (qJi ts s i)) := by
 simp only [qBg, zAm hi, qIi hi, j0, qBh, qJi]
 cases h : isC ts 4 s i
 ·simp [qIx]
 ·simp [qMs (show i < 1000000 by omega)]
theorem qLw (hi : i < ts.length) (hl : ts.length < 1000000) (s : ByteArray) : qCh N (ts, (i : Int), pr, b) s = some (if isC ts 4 s i then ((ts, ((i + 1 : Nat) : Int), pr, b), true) else ((ts, (i : Int), pr, b), false)) := by
 simp only [qCh, zAm hi, j0]
 cases h : isC ts 4 s i
 ·simp
 ·simp [qMs (show i < 1000000 by omega)]
theorem qRo (hi : i < ts.length) (hl : ts.length < 1000000) {k : Int} (hk : k ≠ 5) : qCo N (ts, (i : Int), pr, b) k = some (Sum.map id (fun a : Nat × Tok => ((ts, (a.1 : Int), pr, b), a.2)) (qOb ts k i)) := by
 simp only [qCo, qIi hi, j0, qBh, qOb]
 have h5 : (k != 5) = true := by simpa using hk
 by_cases h : (tkAt ts i).1 = k
 ·have h1 : ((tkAt ts i).1 != k) = false := by simp [h]
  simp only [h1, h5, jB, jM, jP, j0, if_pos h, qMs (show i < 1000000 by omega), jQ]
 ·have h1 : ((tkAt ts i).1 != k) = true := by simp [h]
  simp only [h1, jP, j0, if_neg h, qIx, Sum.map_inl, id]
theorem orS (a b : Bool) : (if a = true then some a else some b) = some (a || b) := by
 cases a <;> simp
theorem someB (b : Bool) : (if b = true then some true else some false) = some b := by cases b <;> simp
theorem qRr (s : ByteArray) : qGr N s = some (resC s) := by
 simp only [qGr, qGv, resC, zFd, qQk, qUd, zEd, zEg, sGen, sIf, zEm, zDf, qSc, qSh, sHas, sEnv, qVo, jI, kY, or_false]
 simp only [orS, j0, someB, jG]
 simp only [Bool.decide_or]
theorem qVa (hi : i < ts.length) (hl : ts.length < 1000000) : qCq N (ts, (i : Int), pr, b) = some (Sum.map id (fun a : Nat × Tok => ((ts, (a.1 : Int), pr, b), a.2)) (qOt ts i)) := by
 simp only [qCq, qRo hi hl (show (1 : Int) ≠ 5 by decide), j0, qBh, qOt]
 cases h : qOb ts 1 i with
 | inl z => simp [qCu]
 | inr a =>
  simp only [jQ, qRr, j0, qCu]
  cases h2 : resC a.2.2.1 <;> simp [qIx]
theorem qUt (hi : i < ts.length) (hl : ts.length < 1000000) (hN : 300000 < N) (ht : ∀ j, (tkAt ts j).2.1.size < 100000) : qCp N (ts, (i : Int), pr, b) = some (Sum.map id (fun a : Nat × Tok => ((ts, (a.1 : Int), pr, b), a.2)) (qPu ts i)) := by
 simp only [qCp, qRo hi hl (show (3 : Int) ≠ 5 by decide), j0, qBh, qPu]
 cases h : qOb ts 3 i with
 | inl z => simp [qCu]
 | inr a =>
  have h3 : a.2 = tkAt ts i := by
   unfold qOb at h
   split at h
   ·rw [← Sum.inr.inj h]
   ·cases h
  have hs := ht i
  rw [← h3] at hs
  simp only [jQ, qRq (N := N) (s := a.2.2.1) (by omega) (by omega), j0, qCu]
  cases h2 : qGu a.2.2.1.data.toList <;> simp [qIx]
theorem qOn (t : Tok) (x : Ex) (hb : b.length ≤ 256) (n : Nat) : qCd N (ts, (n : Int), pr, b) t x = some (Sum.map id (fun q : Ps × Nat => ((ts, (q.1.1 : Int), pr, q.1.2), (q.2 : Int))) (qLq t x (n, b))) := by
 simp only [qCd, qBh, j0, qLq]
 by_cases h : b.length = 256
 ·simp [h, qIx]
 ·have h1 : ((b.length : Int) == 256) = false := by simp; omega
  have hw : IntKind.wrap .i64 (((b.length + 1 : Nat) : Int) - 1) = (b.length : Int) := by rw [wi64 (by omega) (by omega)]; omega
  simp only [h1, jB, jM, j0, if_neg h, jQ]
  rw [qBv (by simp only [jA, jC]; omega) (by omega)]
  simp only [j0, jJ, jA, jC, gK, hw]
end
end
section
open Go Go.Dc
theorem qTi {N : Nat} {s : ByteArray} {l : List ByteArray} (hl : l.length < 1000000) : ∀ (d i M : Nat), i + d = l.length → d < M →
  qBe (qCj N l s) M (i : Int) = some (match (l.drop i).findIdx? (fun x => decide (x = s)) with | some j => .inr (((i + j : Nat) : Int)) | none => .inl ())
 | d, i, 0, _, h => by omega
 | 0, i, M + 1, h, _ => by
  have : l.drop i = [] := jS (by omega)
  simp only [qBe, qCj, this, List.findIdx?_nil]
  rw [if_neg (by simp only [j9]; omega)]
  rfl
 | d + 1, i, M + 1, h, hM => by
  have hi : i < l.length := by omega
  have ih := qTi (N := N) (s := s) hl d (i + 1) M (by omega) (by omega)
  simp only [qBe, qCj]
  rw [if_pos (by simp only [j9]; omega), qGl hi, jH hi, List.findIdx?_cons]
  simp only [j0, qGv, j9]
  by_cases hs : l[i] = s
  ·rw [if_pos hs.symm, if_pos hs]; simp
  ·rw [if_neg (fun e => hs e.symm), if_neg hs]
   simp only [j0, qMs (show i < 1000000 by omega), ih]
   cases (l.drop (i + 1)).findIdx? (fun x => decide (x = s)) with
   | none => rfl
   | some j => simp only [jY]; congr 2; omega
theorem qZm {N : Nat} {s : ByteArray} {l : List ByteArray} (hl : l.length < 1000000) (hN : l.length < N) :
  qCl N l s = some (match l.findIdx? (fun x => decide (x = s)) with | some j => (j : Int) | none => -1) := by
 have h := qTi (N := N) (s := s) hl l.length 0 N (by omega) hN
 simp only [k0, gK] at h
 simp only [qCl]
 rw [show (0 : Int) = ((0 : Nat) : Int) from rfl, h]
 simp only [j0]
 cases l.findIdx? (fun x => decide (x = s)) <;> rfl
theorem qXo {s : ByteArray} {l : List ByteArray} : (l.findIdx? (fun x => decide (x = s))).isSome = decide (s ∈ l) := by
 rw [List.findIdx?_isSome]
 rw [k7]
 simp only [gI, j9]
 exact ⟨fun ⟨x, h1, h2⟩ => h2 ▸ h1, fun h => ⟨s, h, rfl⟩⟩
theorem qRc {N : Nat} {s : ByteArray} {l : List ByteArray} (hl : l.length < 1000000) (hN : l.length < N) :
  qCi N l s = some (decide (s ∈ l)) := by
 simp only [qCi, qZm hl hN, j0, ← qXo]
 cases l.findIdx? (fun x => decide (x = s)) with
 | none => rfl
 | some j => simp only [Option.isSome_some]; rw [k8 (show (j : Int) ≥ 0 by omega)]
theorem zCa {α : Type} {g : α → Bool} {l k : List α} (hu : ∀ a ∈ l, ∀ b ∈ l, g a = true → g b = true → a = b) (hp : k.Perm l) : k.find? g = l.find? g := by
 cases h : l.find? g with
 | none =>
  rw [List.find?_eq_none] at h ⊢
  exact fun x hx => h x (hp.mem_iff.1 hx)
 | some a =>
  have ha := g9 h
  have hg := List.find?_some h
  cases h2 : k.find? g with
  | none => exact absurd hg (by simpa using List.find?_eq_none.1 h2 a (hp.mem_iff.2 ha))
  | some b => rw [hu b (hp.mem_iff.1 (g9 h2)) a ha (List.find?_some h2) hg]
theorem zEa : ∀ a ∈ opsC, ∀ b ∈ opsC, a.2 = b.2 → a = b := by
 have h : (opsC.all fun a => opsC.all fun b => !(decide (a.2 = b.2)) || decide (a = b)) = true := by kernel_rfl
 intro a ha b hb e
 have := jK.1 (jK.1 h a ha) b hb
 simpa [e] using this
section
variable {N : Nat} {ts : List Tok} {pr : List ByteArray} {b : List Ex} {i : Nat}
theorem zDi (op : Int) : qIg N op = some ((levP op : Nat) : Int) := by
 by_cases h1 : op = 6
 ·subst h1; rfl
 by_cases h2 : op = 7
 ·subst h2; rfl
 by_cases h3 : op = 1
 ·subst h3; rfl
 by_cases h4 : op = 2
 ·subst h4; rfl
 simp [qIg, levP, h1, h2, h3, h4]
theorem zDa (level : Nat) {t : Tok} (ht : t = tkAt ts i) : ∀ k : List (Int × ByteArray), qKq (qCb N (level : Int) ((ts, (i : Int), pr, b), t)) k () =
  some (match k.find? (isOp ts level i) with | some o => .inr ((ts, (i : Int), pr, b), o.1) | none => .inl ())
 | [] => rfl
 | o :: k => by
  have key : qCb N (level : Int) ((ts, (i : Int), pr, b), t) (some o) () = some (if isOp ts level i o then .inr (.inr ((ts, (i : Int), pr, b), o.1)) else .inl ()) := by
   subst ht
   simp only [qCb, zDi, j0, qGv, isOp, isC]
   have hc : (((levP o.1 : Nat) : Int) == (level : Int)) = decide (levP o.1 = level) := by
    rw [k7]; simp only [kA, j9]; omega
   rw [hc]
   by_cases h1 : (tkAt ts i).1 = 4 <;> by_cases h2 : (tkAt ts i).2.1 = o.2 <;> by_cases h3 : levP o.1 = level <;> simp [h1, h2, h3]
  simp only [qKq, key, j0, List.find?_cons]
  cases h : isOp ts level i o with
  | true => rfl
  | false => exact zDa level ht k
theorem zDt : qLf N = some (some opsC) := by kernel_rfl
theorem qYh (hi : i < ts.length) (level : Nat) : qEg N (ts, (i : Int), pr, b) (level : Int) = some ((ts, (i : Int), pr, b), opC ts level i) := by
 simp only [qEg, qIi hi, zDt, j0, isQ, jY, Option.getD_some]
 have hu : ∀ a ∈ opsC, ∀ b ∈ opsC, isOp ts level i a = true → isOp ts level i b = true → a = b := by
  intro a ha b hb h1 h2
  simp only [isOp, isC, jN, j9] at h1 h2
  exact zEa a ha b hb (h1.1.2.symm.trans h2.1.2)
 have key := qVl (f := qCb N (level : Int) ((ts, (i : Int), pr, b), tkAt ts i)) (l := opsC) (s := ()) fun k hk => by
  rw [zDa level rfl k, zCa hu hk]
 rw [key]
 unfold opC
 cases opsC.find? (isOp ts level i) <;> rfl
end
end
section
open Go Go.Dc
abbrev StT := List Tok × Int × List ByteArray × List Ex
def stP (ts : List Tok) (pr : List ByteArray) (p : Ps) : StT := (ts, (p.1 : Int), pr, p.2)
def outP (ts : List Tok) (pr : List ByteArray) : PM Nat → Flt ⊕ (StT × Int) := Sum.map id fun q => (stP ts pr q.1, (q.2 : Int))
def outL (ts : List Tok) (pr : List ByteArray) : PM (List Int) → Flt ⊕ (StT × List Int) := Sum.map id fun q => (stP ts pr q.1, q.2)
section
variable {N : Nat} {ts : List Tok} {pr : List ByteArray} {E S : Ps → PM Nat} {d : Int}
variable {r1 : StT → Tok → Int → Option (Flt ⊕ (StT × Int))} {r2 : StT → Int → Option (Flt ⊕ (StT × List Int))} {r3 : StT → Int → Option (Flt ⊕ (StT × Int))} {r4 : StT → Int → Int → Option (Flt ⊕ (StT × Int))} {r5 : StT → Int → Option (Flt ⊕ (StT × Int))}
theorem qXe (hok : OkT ts) (hl : ts.length < 1000000) (hA : Adv ts E) (hE : ∀ p : Ps, p.1 < ts.length → p.2.length ≤ 256 → r5 (stP ts pr p) (IntKind.wrap .i64 (d + 1)) = some (outP ts pr (E p))) :
  ∀ (n M : Nat) (l : List Int) (p : Ps), p.1 < ts.length → p.2.length ≤ 256 → l.length ≤ p.1 → ts.length < p.1 + n → ts.length < p.1 + M →
  ((qBe (qDc N r5 d) M (l, ts, (p.1 : Int), pr, p.2)).bind fun out1 => (match out1 with | .inl o1 => (qBg N (o1.2.1, o1.2.2.1, o1.2.2.2.1, o1.2.2.2.2) (⟨#[41]⟩ : ByteArray)).bind fun y7 => (match y7 with | .inl z3 => some (.inl z3) | .inr y8 => some (.inr ((y8.1, y8.2.1, y8.2.2.1, y8.2.2.2), o1.1))) | .inr (z) => some z)) = some (outL ts pr (zCv ts E n l p))
 | 0, M, l, p, hp, _, _, h, _ => by omega
 | n + 1, 0, l, p, hp, _, _, _, h => by omega
 | n + 1, M + 1, l, p, hp, hb, hll, hn, hM => by
  have hEp := hE p hp hb
  simp only [stP] at hEp
  simp only [qBe, qDc, zCv, hEp, j0]
  cases hq : E p with
  | inl z => simp only [outP, Sum.map_inl, id, qCu, outL, j0]
  | inr q =>
   obtain ⟨⟨f1, f2, f3, f4⟩, f5⟩ := hA p q.1 q.2 hp hb hq
   simp only [outP, jQ, qCu, stP]
   rw [qBv (by simp only [jA, jC]; omega) (by omega)]
   simp only [j0, qLw f2 hl, qTf]
   rcases qKp (isC ts 4 ⟨#[44]⟩ q.1.1) with hc | hc
   ·have g := qGn hok f2 (by decide) hc
    have ih := qXe hok hl hA hE n M (l ++ [(q.2 : Int)]) (q.1.1 + 1, q.1.2) g f4 (by simp only [jJ, jA, jC]; omega) (by simp only; omega) (by simp only; omega)
    simp only [hc, jP, kZ, jB, jM, j0]
    exact ih
   ·simp only [hc, jB, jM, kS, jP, j0, qKc f2 hl, qMe]
    cases qJi ts ⟨#[41]⟩ q.1.1 with
    | inl z => rfl
    | inr j => rfl
theorem qXv (hok : OkT ts) (hl : ts.length < 1000000) (hN : ts.length < N) (hA : Adv ts E) (hE : ∀ p : Ps, p.1 < ts.length → p.2.length ≤ 256 → r5 (stP ts pr p) (IntKind.wrap .i64 (d + 1)) = some (outP ts pr (E p)))
  (p : Ps) (hp : p.1 < ts.length) (hb : p.2.length ≤ 256) : qDk N r1 r2 r3 r4 r5 (stP ts pr p) d = some (outL ts pr (qJq ts E p)) := by
 simp only [qDk, stP, qKc hp hl, j0, qJq, qSb]
 cases h : qJi ts ⟨#[40]⟩ p.1 with
 | inl z => rfl
 | inr i =>
  obtain ⟨rfl, g, -⟩ := qFg hok hp h
  simp only [jQ, qCu, qLw g hl, j0, qMe]
  rcases qKp (isC ts 4 ⟨#[41]⟩ (p.1 + 1)) with hc | hc
  ·simp only [hc, jP]; rfl
  ·simp only [hc, jB, jM]
   exact qXe hok hl hA hE (ts.length + 1) N [] (p.1 + 1, p.2) g hb (by simp) (by simp only; omega) (by simp only; omega)
theorem zBk (hok : OkT ts) (hl : ts.length < 1000000) (hN : 300000 < N) (ht : ∀ j, (tkAt ts j).2.1.size < 100000) (hA : Adv ts E) (hE : ∀ p : Ps, p.1 < ts.length → p.2.length ≤ 256 → r5 (stP ts pr p) (IntKind.wrap .i64 (d + 1)) = some (outP ts pr (E p)))
  (t : Tok) (p : Ps) (hp : p.1 < ts.length) (hb : p.2.length ≤ 256) : qDy N r1 r2 r3 r4 r5 (stP ts pr p) t d = some (outP ts pr (qMn ts E t p)) := by
 have fin : ∀ (o1 : Int × Int × ByteArray × List Int × StT) (q : Ps) (x : Ex), o1.2.2.2.2 = stP ts pr q → x = (o1.1, o1.2.1, 0, o1.2.2.1, o1.2.2.2.1) → q.1 < ts.length → q.2.length ≤ 256 →
   ((qBg N (o1.2.2.2.2.1, o1.2.2.2.2.2.1, o1.2.2.2.2.2.2.1, o1.2.2.2.2.2.2.2) (⟨#[41]⟩ : ByteArray)).bind fun y22 => (match y22 with | .inl z11 => some (.inl z11) | .inr y23 => (qCd N (y23.1, y23.2.1, y23.2.2.1, y23.2.2.2) (t.1, t.2.1, t.2.2.1, t.2.2.2) (o1.1, o1.2.1, 0, o1.2.2.1, o1.2.2.2.1)).bind fun y24 => (match y24 with | .inl z12 => some (.inl z12) | .inr y25 => some (.inr ((y25.1.1, y25.1.2.1, y25.1.2.2.1, y25.1.2.2.2), y25.2))))) =
   some (outP ts pr (qCu (qJi ts qMe q.1) fun i => qLq t x (i, q.2))) := by
  intro o1 q x ho hx hq hqb
  subst hx
  rw [ho]
  simp only [stP, qKc hq hl, j0, qMe]
  cases hj : qJi ts ⟨#[41]⟩ q.1 with
  | inl z => rfl
  | inr j =>
   simp only [jQ, qCu, qOn _ _ hqb, j0]
   cases qLq t (o1.1, o1.2.1, 0, o1.2.2.1, o1.2.2.2.1) (j, q.2) <;> rfl
 simp only [qDy, stP, qKc hp hl, j0, qMn, qSb]
 cases h : qJi ts ⟨#[40]⟩ p.1 with
 | inl z => rfl
 | inr i =>
  obtain ⟨rfl, g, -⟩ := qFg hok hp h
  simp only [jQ, qCu, qGv, j9]
  by_cases k1 : t.2.1 = qSc
  ·rw [if_pos (show t.2.1 = (⟨#[114, 101, 97, 100]⟩ : ByteArray) from k1), if_pos k1]
   simp only [qUt g hl hN ht, j0]
   cases h1 : qPu ts (p.1 + 1) with
   | inl z => rfl
   | inr a =>
    obtain ⟨rfl, g1, -⟩ := qLh hok g h1
    simp only [jQ, qKc g1 hl, j0, qTf]
    cases h2 : qJi ts ⟨#[44]⟩ (p.1 + 1 + 1) with
    | inl z => rfl
    | inr j =>
     obtain ⟨rfl, g2, -⟩ := qFg hok g1 h2
     have hEp := hE (p.1 + 1 + 1 + 1, p.2) g2 hb
     simp only [stP] at hEp
     simp only [jQ, hEp, j0]
     cases h3 : E (p.1 + 1 + 1 + 1, p.2) with
     | inl z => rfl
     | inr q =>
      obtain ⟨⟨f1, f2, f3, f4⟩, f5⟩ := hA (p.1 + 1 + 1 + 1, p.2) q.1 q.2 g2 hb h3
      exact fin (6, 0, (tkAt ts (p.1 + 1)).2.1, [(q.2 : Int)], ts, (q.1.1 : Int), pr, q.1.2) q.1 _ rfl rfl f2 f4
  rw [if_neg (show ¬ t.2.1 = (⟨#[114, 101, 97, 100]⟩ : ByteArray) from k1), if_neg k1]
  by_cases k2 : t.2.1 = qSh
  ·rw [if_pos (show t.2.1 = (⟨#[115, 105, 122, 101]⟩ : ByteArray) from k2), if_pos k2]
   simp only [qUt g hl hN ht, j0]
   cases h1 : qPu ts (p.1 + 1) with
   | inl z => rfl
   | inr a =>
    obtain ⟨rfl, g1, -⟩ := qLh hok g h1
    exact fin (7, 0, (tkAt ts (p.1 + 1)).2.1, [], ts, ((p.1 + 1 + 1 : Nat) : Int), pr, p.2) (p.1 + 1 + 1, p.2) _ rfl rfl g1 hb
  rw [if_neg (show ¬ t.2.1 = (⟨#[115, 105, 122, 101]⟩ : ByteArray) from k2), if_neg k2]
  by_cases k3 : t.2.1 = sHas
  ·rw [if_pos (show t.2.1 = (⟨#[104, 97, 115]⟩ : ByteArray) from k3), if_pos k3]
   simp only [qUt g hl hN ht, j0]
   cases h1 : qPu ts (p.1 + 1) with
   | inl z => rfl
   | inr a =>
    obtain ⟨rfl, g1, -⟩ := qLh hok g h1
    exact fin (8, 0, (tkAt ts (p.1 + 1)).2.1, [], ts, ((p.1 + 1 + 1 : Nat) : Int), pr, p.2) (p.1 + 1 + 1, p.2) _ rfl rfl g1 hb
  rw [if_neg (show ¬ t.2.1 = (⟨#[104, 97, 115]⟩ : ByteArray) from k3), if_neg k3]
  by_cases k4 : t.2.1 = sEnv
  ·rw [if_pos (show t.2.1 = (⟨#[101, 110, 118]⟩ : ByteArray) from k4), if_pos k4]
   simp only [qRo g hl (show (3 : Int) ≠ 5 by decide), j0, zAp]
   cases h1 : qOb ts 3 (p.1 + 1) with
   | inl z => rfl
   | inr a =>
    obtain ⟨rfl, g1, -⟩ := qMi hok (by decide) g h1
    simp only [jQ, zBw (N := N) (by omega), j0, qCu, qBh]
    cases h2 : qUq (tkAt ts (p.1 + 1)).2.1 with
    | false => rfl
    | true => exact fin (9, 0, (tkAt ts (p.1 + 1)).2.1, [], ts, ((p.1 + 1 + 1 : Nat) : Int), pr, p.2) (p.1 + 1 + 1, p.2) _ rfl rfl g1 hb
  ·rw [if_neg (show ¬ t.2.1 = (⟨#[101, 110, 118]⟩ : ByteArray) from k4), if_neg k4]
   simp only [qRo g hl (show (2 : Int) ≠ 5 by decide), j0]
   cases h1 : qOb ts 2 (p.1 + 1) with
   | inl z => rfl
   | inr a =>
    obtain ⟨rfl, g1, -⟩ := qMi hok (by decide) g h1
    simp only [jQ, qBh, j0]
    by_cases h2 : (tkAt ts (p.1 + 1)).2.2.1 ≥ 64
    ·simp only [if_pos h2, j0]; rfl
    ·simp only [if_neg h2, j0]
     exact fin (10, (tkAt ts (p.1 + 1)).2.2.1, ⟨#[]⟩, [], ts, ((p.1 + 1 + 1 : Nat) : Int), pr, p.2) (p.1 + 1 + 1, p.2) _ rfl rfl g1 hb
end
end
section
open Go Go.Dc
section
variable {N : Nat} {ts : List Tok} {pr : List ByteArray} {E S : Ps → PM Nat} {d : Int}
variable {r1 : StT → Tok → Int → Option (Flt ⊕ (StT × Int))} {r2 : StT → Int → Option (Flt ⊕ (StT × List Int))} {r3 : StT → Int → Option (Flt ⊕ (StT × Int))} {r4 : StT → Int → Int → Option (Flt ⊕ (StT × Int))} {r5 : StT → Int → Option (Flt ⊕ (StT × Int))}
theorem kw_mem (x : ByteArray) : (decide (x = (⟨#[114, 101, 97, 100]⟩ : ByteArray)) || (decide (x = (⟨#[115, 105, 122, 101]⟩ : ByteArray)) || (decide (x = (⟨#[104, 97, 115]⟩ : ByteArray)) || (decide (x = (⟨#[101, 110, 118]⟩ : ByteArray)) || decide (x = (⟨#[102, 108, 105, 112]⟩ : ByteArray)))))) = decide (x ∈ [qSc, qSh, sHas, sEnv, qVo]) := by
 simp only [qSc, qSh, sHas, sEnv, qVo, jI, kY, or_false, Bool.decide_or]
theorem zEi (hok : OkT ts) (hl : ts.length < 1000000) (hpr : pr.length < 1000) (hN : 300000 < N) (hA : Adv ts E) (hE : ∀ p : Ps, p.1 < ts.length → p.2.length ≤ 256 → r5 (stP ts pr p) (IntKind.wrap .i64 (d + 1)) = some (outP ts pr (E p)))
  (h1 : ∀ (t : Tok) (p : Ps), p.1 < ts.length → p.2.length ≤ 256 → r1 (stP ts pr p) t d = some (outP ts pr (qMn ts E t p)))
  (h2 : ∀ p : Ps, p.1 < ts.length → p.2.length ≤ 256 → r2 (stP ts pr p) d = some (outL ts pr (qJq ts E p)))
  (p : Ps) (hp : p.1 < ts.length) (hb : p.2.length ≤ 256) : qEf N r1 r2 r3 r4 r5 (stP ts pr p) d = some (outP ts pr (qOs ts pr E p)) := by
 have hw := qMs (show p.1 < 1000000 by omega)
 simp only [qEf, stP, qIi hp, j0, qOs]
 by_cases k1 : (tkAt ts p.1).1 = 2
 ·rw [if_pos (show ((tkAt ts p.1).1 == 2) = true by simpa using k1), if_pos k1, hw]
  simp only [qOn _ _ hb, j0]
  cases qLq (tkAt ts p.1) (1, (tkAt ts p.1).2.2.1, 0, ⟨#[]⟩, []) (p.1 + 1, p.2) <;> rfl
 rw [if_neg (show ¬ ((tkAt ts p.1).1 == 2) = true by simpa using k1), if_neg k1]
 simp only [qLw hp hl, j0]
 rcases qKp (isC ts 4 zEq p.1) with c1 | c1
 ·have c1' : isC ts 4 ⟨#[45]⟩ p.1 = true := c1
  have g := qGn hok hp (by decide) c1
  simp only [c1, c1', jP, qRo g hl (show (2 : Int) ≠ 5 by decide), j0]
  cases h : qOb ts 2 (p.1 + 1) with
  | inl z => rfl
  | inr a =>
   simp only [jQ, qCu, qOn _ _ hb, j0]
   cases qLq (tkAt ts p.1) (1, IntKind.wrap .i64 (0 - a.2.2.2.1), 0, ⟨#[]⟩, []) (a.1, p.2) <;> rfl
 have c1' : isC ts 4 ⟨#[45]⟩ p.1 = false := c1
 simp only [c1, c1', jB, jM, qLw hp hl, j0]
 rcases qKp (isC ts 4 qSb p.1) with c2 | c2
 ·have c2' : isC ts 4 ⟨#[40]⟩ p.1 = true := c2
  have g := qGn hok hp (by decide) c2
  have hEp := hE (p.1 + 1, p.2) g hb
  simp only [stP] at hEp
  simp only [c2, c2', jP, hEp, j0]
  cases h : E (p.1 + 1, p.2) with
  | inl z => rfl
  | inr q =>
   obtain ⟨⟨f1, f2, f3, f4⟩, f5⟩ := hA (p.1 + 1, p.2) q.1 q.2 g hb h
   simp only [outP, jQ, qCu, stP, qKc f2 hl, j0, qMe]
   cases qJi ts ⟨#[41]⟩ q.1.1 <;> rfl
 have c2' : isC ts 4 ⟨#[40]⟩ p.1 = false := c2
 simp only [c2, c2', jB, jM, qBh, j0]
 by_cases k2 : (tkAt ts p.1).1 = 1
 rotate_left
 ·rw [if_pos (show ((tkAt ts p.1).1 != 1) = true by simpa using k2), if_pos k2]; rfl
 rw [if_neg (show ¬ ((tkAt ts p.1).1 != 1) = true by simpa using k2), if_neg (show ¬ (tkAt ts p.1).1 ≠ 1 by simpa using k2)]
 have g := hok.next hp (show (tkAt ts p.1).1 ≠ 5 by rw [k2]; decide)
 simp only [j0, qGv, orS, kw_mem, hw]
 by_cases k3 : (tkAt ts p.1).2.1 ∈ [qSc, qSh, sHas, sEnv, qVo]
 ·rw [if_pos (show decide ((tkAt ts p.1).2.1 ∈ [qSc, qSh, sHas, sEnv, qVo]) = true from k8 k3), if_pos k3]
  have h1p := h1 (tkAt ts p.1) (p.1 + 1, p.2) g hb
  simp only [stP] at h1p
  simp only [h1p, j0]
  cases qMn ts E (tkAt ts p.1) (p.1 + 1, p.2) <;> rfl
 rw [if_neg (show ¬ decide ((tkAt ts p.1).2.1 ∈ [qSc, qSh, sHas, sEnv, qVo]) = true by simpa using k3), if_neg k3]
 simp only [qRr, j0]
 rcases qKp (resC (tkAt ts p.1).2.1) with c3 | c3
 ·simp only [c3, jP, j0]; rfl
 simp only [c3, jB, jM, j0, zAm g]
 rcases qKp (isC ts 4 qSb (p.1 + 1)) with c4 | c4
 ·have c4' : isC ts 4 ⟨#[40]⟩ (p.1 + 1) = true := c4
  have h2p := h2 (p.1 + 1, p.2) g hb
  simp only [stP] at h2p
  simp only [c4, c4', jP, h2p, j0]
  cases h : qJq ts E (p.1 + 1, p.2) with
  | inl z => rfl
  | inr q =>
   obtain ⟨f1, f2, f3, f4⟩ := qOh hok hA (p := (p.1 + 1, p.2)) g hb h
   simp only [outL, jQ, qCu, stP, qOn _ _ f4, j0]
   cases qLq (tkAt ts p.1) (3, 0, 0, (tkAt ts p.1).2.1, q.2) (q.1.1, q.1.2) <;> rfl
 have c4' : isC ts 4 ⟨#[40]⟩ (p.1 + 1) = false := c4
 simp only [c4, c4', jB, jM, qZm (N := N) (l := pr) (s := (tkAt ts p.1).2.1) (by omega) (by omega), j0]
 cases pr.findIdx? (fun x => decide (x = (tkAt ts p.1).2.1)) with
 | none => rfl
 | some j =>
  simp only [j9]
  rw [if_neg (by omega)]
  simp only [j0, qOn _ _ hb]
  cases qLq (tkAt ts p.1) (2, (j : Int), 0, ⟨#[]⟩, []) (p.1 + 1, p.2) <;> rfl
theorem zDw (h3 : ∀ p : Ps, p.1 < ts.length → p.2.length ≤ 256 → r3 (stP ts pr p) d = some (outP ts pr (S p))) (p : Ps) (hp : p.1 < ts.length) (hb : p.2.length ≤ 256) :
  qCn N r1 r2 r3 r4 r5 (stP ts pr p) 4 d = some (outP ts pr (S p)) := by
 have h3p := h3 p hp hb
 simp only [stP] at h3p
 simp only [qCn, stP, h3p, j0]
 cases S p <;> rfl
theorem qWu (hok : OkT ts) (hl : ts.length < 1000000) (hS : Adv ts S) {L : Nat} (hL : L < 4) (h4 : ∀ p : Ps, p.1 < ts.length → p.2.length ≤ 256 → r4 (stP ts pr p) ((L : Int) + 1) d = some (outP ts pr (S p))) :
  ∀ (n M x : Nat) (p : Ps), p.1 < ts.length → p.2.length ≤ 256 → x < p.2.length → ts.length < p.1 + n → ts.length < p.1 + M →
  qBe (qDx N r4 (L : Int) d) M ((x : Int), ts, (p.1 : Int), pr, p.2) = some (outP ts pr (zAg ts L S n x p))
 | 0, M, x, p, hp, _, _, h, _ => by omega
 | n + 1, 0, x, p, hp, _, _, _, h => by omega
 | n + 1, M + 1, x, p, hp, hb, hx, hn, hM => by
  have hw := qMs (show p.1 < 1000000 by omega)
  have hwL : IntKind.wrap .i64 ((L : Int) + 1) = (L : Int) + 1 := wi64 (by omega) (by omega)
  simp only [qBe, qDx, zAg, qYh hp, j0]
  by_cases k1 : opC ts L p.1 = 0
  ·rw [if_pos (show (opC ts L p.1 == 0) = true by simpa using k1), if_pos k1]; rfl
  rw [if_neg (show ¬ (opC ts L p.1 == 0) = true by simpa using k1), if_neg k1]
  have hk : (tkAt ts p.1).1 ≠ 5 := by
   intro hk
   apply k1
   unfold opC
   have : opsC.find? (isOp ts L p.1) = none := by
    rw [List.find?_eq_none]
    intro o _ ho
    simp only [isOp, jN] at ho
    have := qUy ho.1
    omega
   rw [this]
  have g := hok.next hp hk
  have h4p := h4 (p.1 + 1, p.2) g hb
  simp only [stP] at h4p
  simp only [qIi hp, j0, hw, hwL, h4p]
  cases h : S (p.1 + 1, p.2) with
  | inl z => rfl
  | inr q =>
   obtain ⟨⟨f1, f2, f3, f4⟩, f5⟩ := hS (p.1 + 1, p.2) q.1 q.2 g hb h
   simp only [outP, jQ, qCu, stP, qOn _ _ f4, j0]
   cases hn2 : qLq (tkAt ts p.1) (4, 0, opC ts L p.1, ⟨#[]⟩, [(x : Int), (q.2 : Int)]) (q.1.1, q.1.2) with
   | inl z => rfl
   | inr r =>
    obtain ⟨⟨k1, k2, k3, k4⟩, k5⟩ := qKy (ts := ts) (p := p) (r := (q.1.1, q.1.2)) (by simp only at f1 ⊢; omega) f2 f3 f4 hn2
    simp only [jQ]
    by_cases k6 : L = 1
    ·subst k6
     rfl
    ·rw [if_neg (show ¬ ((L : Int) == 1) = true by simp; omega), if_neg k6]
     simp only [j0]
     exact qWu hok hl hS hL h4 n M r.2 r.1 k2 k4 k5 (by omega) (by omega)
theorem qUc (hok : OkT ts) (hl : ts.length < 1000000) (hN : 1000001 < N) (hS : Adv ts S) {L : Nat} (hL : L < 4) (h4 : ∀ p : Ps, p.1 < ts.length → p.2.length ≤ 256 → r4 (stP ts pr p) ((L : Int) + 1) d = some (outP ts pr (S p)))
  (p : Ps) (hp : p.1 < ts.length) (hb : p.2.length ≤ 256) : qCn N r1 r2 r3 r4 r5 (stP ts pr p) (L : Int) d = some (outP ts pr (qTs ts L S p)) := by
 have hwL : IntKind.wrap .i64 ((L : Int) + 1) = (L : Int) + 1 := wi64 (by omega) (by omega)
 have h4p := h4 p hp hb
 simp only [stP] at h4p
 simp only [qCn, stP, qTs, hwL, h4p, j0]
 rw [if_neg (show ¬ ((L : Int) == 4) = true by simp; omega)]
 cases h : S p with
 | inl z => rfl
 | inr q =>
  obtain ⟨⟨f1, f2, f3, f4⟩, f5⟩ := hS p q.1 q.2 hp hb h
  simp only [outP, jQ, qCu, stP]
  rw [qWu hok hl hS hL h4 (ts.length + 1) N q.2 q.1 f2 f4 f5 (by omega) (by omega)]
  rfl
theorem expr_B {k : Nat} (hok : OkT ts) (hl : ts.length < 1000000) (hd : d + k = 32) (hk : k < 33) (hA : Adv ts (qIo ts pr k)) (hE : ∀ p : Ps, p.1 < ts.length → p.2.length ≤ 256 → r5 (stP ts pr p) (IntKind.wrap .i64 (d + 1)) = some (outP ts pr (qIo ts pr k p)))
  (h4 : ∀ p : Ps, p.1 < ts.length → p.2.length ≤ 256 → r4 (stP ts pr p) 1 d = some (outP ts pr (qQo ts pr (qIo ts pr k) p)))
  (p : Ps) (hp : p.1 < ts.length) (hb : p.2.length ≤ 256) : qDd N r1 r2 r3 r4 r5 (stP ts pr p) d = some (outP ts pr (qIo ts pr (k + 1) p)) := by
 have hw := qMs (show p.1 < 1000000 by omega)
 simp only [qDd, stP, qIi hp, j0, qIo]
 rw [if_neg (show ¬ decide (d > 32) = true by simp only [j9]; omega)]
 simp only [j0, zAm hp]
 rcases qKp (isC ts 1 sIf p.1) with c1 | c1
 rotate_left
 ·have c1' : isC ts 1 ⟨#[105, 102]⟩ p.1 = false := c1
  have h4p := h4 p hp hb
  simp only [stP] at h4p
  simp only [c1, c1', kS, jP, jB, jM, h4p, j0]
  cases qQo ts pr (qIo ts pr k) p <;> rfl
 have c1' : isC ts 1 ⟨#[105, 102]⟩ p.1 = true := c1
 have g := qGn hok hp (by decide) c1
 have hEa := hE (p.1 + 1, p.2) g hb
 simp only [stP] at hEa
 simp only [c1, c1', kZ, jP, jB, jM, hw, hEa, j0]
 cases ha : qIo ts pr k (p.1 + 1, p.2) with
 | inl z => rfl
 | inr a =>
  obtain ⟨⟨a1, a2, a3, a4⟩, a5⟩ := hA (p.1 + 1, p.2) a.1 a.2 g hb ha
  simp only [outP, jQ, qCu, stP, qXm a2 hl, j0, zEm]
  cases hi : qQy ts ⟨#[116, 104, 101, 110]⟩ a.1.1 with
  | inl z => rfl
  | inr i =>
   obtain ⟨rfl, g1, -⟩ := qNt hok a2 hi
   have hEb := hE (a.1.1 + 1, a.1.2) g1 a4
   simp only [stP] at hEb
   simp only [jQ, hEb, j0]
   cases hb1 : qIo ts pr k (a.1.1 + 1, a.1.2) with
   | inl z => rfl
   | inr b =>
    obtain ⟨⟨b1, b2, b3, b4⟩, b5⟩ := hA (a.1.1 + 1, a.1.2) b.1 b.2 g1 a4 hb1
    simp only [outP, jQ, qCu, stP, qXm b2 hl, j0, zDf]
    cases hj : qQy ts ⟨#[101, 108, 115, 101]⟩ b.1.1 with
    | inl z => rfl
    | inr j =>
     obtain ⟨rfl, g2, -⟩ := qNt hok b2 hj
     have hEc := hE (b.1.1 + 1, b.1.2) g2 b4
     simp only [stP] at hEc
     simp only [jQ, hEc, j0]
     cases hc1 : qIo ts pr k (b.1.1 + 1, b.1.2) with
     | inl z => rfl
     | inr c =>
      obtain ⟨⟨c1, c2, c3, c4⟩, c5⟩ := hA (b.1.1 + 1, b.1.2) c.1 c.2 g2 b4 hc1
      simp only [outP, jQ, qCu, stP, qOn _ _ c4, j0]
      cases qLq (tkAt ts p.1) (5, 0, 0, ⟨#[]⟩, [(a.2 : Int), (b.2 : Int), (c.2 : Int)]) (c.1.1, c.1.2) <;> rfl
theorem zGr (hd : d > 32) (p : Ps) (hp : p.1 < ts.length) : qDd N r1 r2 r3 r4 r5 (stP ts pr p) d = some (outP ts pr (qIo ts pr 0 p)) := by
 simp only [qDd, stP, qIi hp, j0, qIo]
 rw [if_pos (show decide (d > 32) = true by simpa using hd)]
 rfl
theorem zBx (hok : OkT ts) (hl : ts.length < 1000000) (hpr : pr.length < 1000) (hN : 1000001 < N) (ht : ∀ j, (tkAt ts j).2.1.size < 100000) : ∀ (k D : Nat), k ≤ 32 → 7 * k + 1 ≤ D → ∀ p : Ps, p.1 < ts.length → p.2.length ≤ 256 →
  (qAd N D).2.2.2.2 (stP ts pr p) (33 - (k : Int)) = some (outP ts pr (qIo ts pr k p))
 | 0, 0, _, h, _, _, _ => by omega
 | 0, D + 1, _, _, p, hp, _ => by simp only [qAd]; exact zGr (by omega) p hp
 | k + 1, D, hk, hD, p, hp, hb => by
  have hA := qKw (ts := ts) (params := pr) hok k
  have hF := qQz (params := pr) hok hA
  have hT : Adv ts (zFh ts pr (qIo ts pr k)) := qMc hok hF
  have hS : Adv ts (sumC ts pr (qIo ts pr k)) := qMc hok hT
  have hE : ∀ D, 7 * k + 1 ≤ D → ∀ p : Ps, p.1 < ts.length → p.2.length ≤ 256 → (qAd N D).2.2.2.2 (stP ts pr p) (IntKind.wrap .i64 (32 - (k : Int) + 1)) = some (outP ts pr (qIo ts pr k p)) := by
   intro D hD p hp hb
   rw [wi64 (by omega) (by omega), show 32 - (k : Int) + 1 = 33 - (k : Int) by omega]
   exact zBx hok hl hpr hN ht k D (by omega) hD p hp hb
  have h1 : ∀ D, 7 * k + 2 ≤ D → ∀ (t : Tok) (p : Ps), p.1 < ts.length → p.2.length ≤ 256 → (qAd N D).1 (stP ts pr p) t (32 - (k : Int)) = some (outP ts pr (qMn ts (qIo ts pr k) t p)) := by
   intro D hD t p hp hb
   obtain ⟨D', rfl⟩ : ∃ D', D = D' + 1 := ⟨D - 1, by omega⟩
   simp only [qAd]
   exact zBk hok hl (by omega) ht hA (hE D' (by omega)) t p hp hb
  have h2 : ∀ D, 7 * k + 2 ≤ D → ∀ p : Ps, p.1 < ts.length → p.2.length ≤ 256 → (qAd N D).2.1 (stP ts pr p) (32 - (k : Int)) = some (outL ts pr (qJq ts (qIo ts pr k) p)) := by
   intro D hD p hp hb
   obtain ⟨D', rfl⟩ : ∃ D', D = D' + 1 := ⟨D - 1, by omega⟩
   simp only [qAd]
   exact qXv hok hl (by omega) hA (hE D' (by omega)) p hp hb
  have h3 : ∀ D, 7 * k + 3 ≤ D → ∀ p : Ps, p.1 < ts.length → p.2.length ≤ 256 → (qAd N D).2.2.1 (stP ts pr p) (32 - (k : Int)) = some (outP ts pr (qOs ts pr (qIo ts pr k) p)) := by
   intro D hD p hp hb
   obtain ⟨D', rfl⟩ : ∃ D', D = D' + 1 := ⟨D - 1, by omega⟩
   simp only [qAd]
   exact zEi hok hl hpr (by omega) hA (hE D' (by omega)) (h1 D' (by omega)) (h2 D' (by omega)) p hp hb
  have b4 : ∀ D, 7 * k + 4 ≤ D → ∀ p : Ps, p.1 < ts.length → p.2.length ≤ 256 → (qAd N D).2.2.2.1 (stP ts pr p) 4 (32 - (k : Int)) = some (outP ts pr (qOs ts pr (qIo ts pr k) p)) := by
   intro D hD p hp hb
   obtain ⟨D', rfl⟩ : ∃ D', D = D' + 1 := ⟨D - 1, by omega⟩
   simp only [qAd]
   exact zDw (h3 D' (by omega)) p hp hb
  have b3 : ∀ D, 7 * k + 5 ≤ D → ∀ p : Ps, p.1 < ts.length → p.2.length ≤ 256 → (qAd N D).2.2.2.1 (stP ts pr p) 3 (32 - (k : Int)) = some (outP ts pr (zFh ts pr (qIo ts pr k) p)) := by
   intro D hD p hp hb
   obtain ⟨D', rfl⟩ : ∃ D', D = D' + 1 := ⟨D - 1, by omega⟩
   simp only [qAd]
   exact qUc hok hl hN hF (L := 3) (by omega) (b4 D' (by omega)) p hp hb
  have b2 : ∀ D, 7 * k + 6 ≤ D → ∀ p : Ps, p.1 < ts.length → p.2.length ≤ 256 → (qAd N D).2.2.2.1 (stP ts pr p) 2 (32 - (k : Int)) = some (outP ts pr (sumC ts pr (qIo ts pr k) p)) := by
   intro D hD p hp hb
   obtain ⟨D', rfl⟩ : ∃ D', D = D' + 1 := ⟨D - 1, by omega⟩
   simp only [qAd]
   exact qUc hok hl hN hT (L := 2) (by omega) (b3 D' (by omega)) p hp hb
  have b1 : ∀ D, 7 * k + 7 ≤ D → ∀ p : Ps, p.1 < ts.length → p.2.length ≤ 256 → (qAd N D).2.2.2.1 (stP ts pr p) 1 (32 - (k : Int)) = some (outP ts pr (qQo ts pr (qIo ts pr k) p)) := by
   intro D hD p hp hb
   obtain ⟨D', rfl⟩ : ∃ D', D = D' + 1 := ⟨D - 1, by omega⟩
   simp only [qAd]
   exact qUc hok hl hN hS (L := 1) (by omega) (b2 D' (by omega)) p hp hb
  obtain ⟨D', rfl⟩ : ∃ D', D = D' + 1 := ⟨D - 1, by omega⟩
  rw [show (33 : Int) - ((k + 1 : Nat) : Int) = 32 - (k : Int) by omega]
  simp only [qAd]
  exact expr_B hok hl (by omega) (by omega) hA (hE D' (by omega)) (b1 D' (by omega)) p hp hb
theorem zGm (hok : OkT ts) (hl : ts.length < 1000000) (hpr : pr.length < 1000) (hN : 1000001 < N) (ht : ∀ j, (tkAt ts j).2.1.size < 100000) (p : Ps) (hp : p.1 < ts.length) (hb : p.2.length ≤ 256) :
  qIz N (ts, (p.1 : Int), pr, p.2) 1 = some (outP ts pr (qIo ts pr 32 p)) := by
 have := zBx hok hl hpr hN ht 32 N (by omega) (by omega) p hp hb
 exact this
end
end
section
open Go Go.Dc
section
variable {N : Nat} {ts : List Tok} {pr : List ByteArray} {b : List Ex}
theorem qRa (h : OkT ts) : ∀ (n : Nat) (l : List ByteArray) (i : Nat) (a : Nat × List ByteArray), i < ts.length → l.length ≤ 8 → qQt ts n l i = .inr a → i < a.1 ∧ a.1 < ts.length ∧ a.2.length ≤ 8
 | 0, _, _, _, _, _, h1 => by cases h1
 | n + 1, l, i, a, hi, hl, h1 => by
  obtain ⟨x, hx, h2⟩ := qBm (show qCu (qOt ts i) _ = _ from h1)
  obtain ⟨rfl, g1, -⟩ := qLd h hi hx
  split at h2
  ·cases h2
  rename_i k1
  split at h2
  ·cases h2
  split at h2
  ·rename_i k3
   have g2 := qGn h g1 (by decide) k3
   obtain ⟨j1, j2, j3⟩ := qRa h n _ _ a g2 (by simp only [jJ, jA, jC]; omega) h2
   exact ⟨by omega, j2, j3⟩
  ·obtain ⟨j, hj, h3⟩ := qBm h2
   obtain ⟨rfl, g2, -⟩ := qFg h g1 hj
   obtain rfl := Sum.inr.inj h3
   exact ⟨by simp only; omega, g2, by simp only [jJ, jA, jC]; omega⟩
theorem qNf (h : OkT ts) {i : Nat} {a : Nat × List ByteArray} (hi : i < ts.length) (h1 : qIp ts i = .inr a) : i < a.1 ∧ a.1 < ts.length ∧ a.2.length ≤ 8 := by
 obtain ⟨j, hj, h2⟩ := qBm h1
 obtain ⟨rfl, g, -⟩ := qFg h hi hj
 split at h2
 ·rename_i k
  obtain rfl := Sum.inr.inj h2
  exact ⟨by simp only; omega, qGn h g (by decide) k, by simp⟩
 ·obtain ⟨j1, j2, j3⟩ := qRa h _ _ _ a g (by simp) h2
  exact ⟨by omega, j2, j3⟩
theorem qRp (hok : OkT ts) (hl : ts.length < 1000000) (hN : 1000000 < N) : ∀ (n M : Nat) (l : List ByteArray) (i : Nat), i < ts.length → l.length ≤ 8 → ts.length < i + n → ts.length < i + M →
  ((qBe (qCv N) M (l, ts, (i : Int), pr, b)).bind fun out1 => (match out1 with | .inl o1 => (qBg N (o1.2.1, o1.2.2.1, o1.2.2.2.1, o1.2.2.2.2) (⟨#[41]⟩ : ByteArray)).bind fun y12 => (match y12 with | .inl z5 => some (.inl z5) | .inr y13 => some (.inr ((y13.1, y13.2.1, y13.2.2.1, y13.2.2.2), o1.1))) | .inr (z) => some z)) = some (Sum.map id (fun a : Nat × List ByteArray => ((ts, (a.1 : Int), pr, b), a.2)) (qQt ts n l i))
 | 0, M, l, i, hi, _, h, _ => by omega
 | n + 1, 0, l, i, hi, _, _, h => by omega
 | n + 1, M + 1, l, i, hi, hll, hn, hM => by
  simp only [qBe, qCv, qQt, qVa hi hl, j0]
  cases hx : qOt ts i with
  | inl z => rfl
  | inr x =>
   obtain ⟨rfl, g1, -⟩ := qLd hok hi hx
   simp only [jQ, qCu, qBh, j0]
   by_cases k1 : l.length = 8
   ·rw [if_pos (show ((l.length : Int) == 8) = true by simp; omega), if_pos k1]; rfl
   rw [if_neg (show ¬ ((l.length : Int) == 8) = true by simp; omega), if_neg k1]
   simp only [j0, qRc (N := N) (l := l) (s := (tkAt ts i).2.1) (by omega) (by omega)]
   by_cases k2 : (tkAt ts i).2.1 ∈ l
   ·rw [if_pos (k8 k2), if_pos k2]; rfl
   rw [if_neg (show ¬ decide ((tkAt ts i).2.1 ∈ l) = true by simpa using k2), if_neg k2]
   simp only [j0]
   rw [qBv (by simp only [jA, jC]; omega) (by omega)]
   simp only [j0, qLw g1 hl, qTf]
   rcases qKp (isC ts 4 ⟨#[44]⟩ (i + 1)) with hc | hc
   ·have g := qGn hok g1 (by decide) hc
    simp only [hc, jP, kZ, jB, jM, j0]
    exact qRp hok hl hN n M _ (i + 1 + 1) g (by simp only [jJ, jA, jC]; omega) (by omega) (by omega)
   ·simp only [hc, jB, jM, kS, jP, j0, qKc g1 hl, qMe]
    cases qJi ts ⟨#[41]⟩ (i + 1) <;> rfl
theorem qUm (hok : OkT ts) (hl : ts.length < 1000000) (hN : 1000000 < N) {i : Nat} (hi : i < ts.length) :
  qCt N (ts, (i : Int), pr, b) = some (Sum.map id (fun a : Nat × List ByteArray => ((ts, (a.1 : Int), pr, b), a.2)) (qIp ts i)) := by
 simp only [qCt, qKc hi hl, j0, qIp, qSb]
 cases h : qJi ts ⟨#[40]⟩ i with
 | inl z => rfl
 | inr j =>
  obtain ⟨rfl, g, -⟩ := qFg hok hi h
  simp only [jQ, qCu, qLw g hl, j0, qMe]
  rcases qKp (isC ts 4 ⟨#[41]⟩ (i + 1)) with hc | hc
  ·simp only [hc, jP]; rfl
  ·simp only [hc, jB, jM]
   exact qRp hok hl hN (ts.length + 1) N [] (i + 1) g (by simp) (by omega) (by omega)
def qZn : List (ByteArray × Int) := [(⟨#[102, 117, 110, 99]⟩, 1), (⟨#[103, 101, 110]⟩, 3), (⟨#[116, 101, 115, 116]⟩, 2)]
theorem zEn : ((qIb (some [] : Option (List (ByteArray × Int))) (⟨#[102, 117, 110, 99]⟩ : ByteArray) 1).bind fun mp1 => (qIb mp1 (⟨#[116, 101, 115, 116]⟩ : ByteArray) 2).bind fun mp2 => qIb mp2 (⟨#[103, 101, 110]⟩ : ByteArray) 3) = some (some qZn) := by kernel_rfl
theorem qYv (s : ByteArray) : ((qAl (some qZn) s).getD 0) = qKh s := by
 simp only [qAl, qZn, j0, mget, qKh, zEd, zEg, sGen]
 by_cases h1 : s = ⟨#[102, 117, 110, 99]⟩
 ·simp [h1]
 by_cases h2 : s = ⟨#[116, 101, 115, 116]⟩
 ·subst h2; rfl
 by_cases h3 : s = ⟨#[103, 101, 110]⟩
 ·subst h3; rfl
 simp [h1, h2, h3]
theorem qSl {before : List Dl} {y1 : StT × Tok} {o4 : List Tok × Int × List ByteArray × List Ex × Int × ByteArray × Int × Int} (hl : before.length ≤ 64) : ∀ (d i M : Nat), i + d = before.length → d < M →
  ((qBe (qDp N before (some qZn) y1 o4) M (i : Int)).bind fun out1 => (match out1 with | .inl o6 => some (-1) | .inr (z) => some z) : Option Int) = some (match (before.drop i).findIdx? (fun d => d.1 == qKh y1.2.2.1 && decide (d.2.1 = o4.2.2.2.2.2.1)) with | some j => ((i + j : Nat) : Int) | none => -1)
 | d, i, 0, _, h => by omega
 | 0, i, M + 1, h, _ => by
  have : before.drop i = [] := jS (by omega)
  simp only [qBe, qDp, this, List.findIdx?_nil]
  rw [if_neg (by simp only [j9]; omega)]
  rfl
 | d + 1, i, M + 1, h, hM => by
  have hi : i < before.length := by omega
  have ih := qSl (y1 := y1) (o4 := o4) hl d (i + 1) M (by omega) (by omega)
  simp only [qBe, qDp]
  rw [if_pos (by simp only [j9]; omega), qGl hi, jH hi, List.findIdx?_cons]
  simp only [j0, qGv, qYv]
  by_cases k1 : (before[i].1 == qKh y1.2.2.1) = true
  ·by_cases k2 : before[i].2.1 = o4.2.2.2.2.2.1
   ·simp [k1, k2]
   ·simp only [k1, k2, jP, decide_false, j0, jB, jM, qMs (show i < 1000000 by omega), Bool.and_false]
    rw [ih]
    cases (before.drop (i + 1)).findIdx? (fun d => d.1 == qKh y1.2.2.1 && decide (d.2.1 = o4.2.2.2.2.2.1)) with
    | none => rfl
    | some j => simp only [jY]; rw [show i + 1 + j = i + (j + 1) by omega]
  ·simp only [k1, jB, jM, j0, qMs (show i < 1000000 by omega), Bool.false_and]
   rw [ih]
   cases (before.drop (i + 1)).findIdx? (fun d => d.1 == qKh y1.2.2.1 && decide (d.2.1 = o4.2.2.2.2.2.1)) with
   | none => rfl
   | some j => simp only [jY]; rw [show i + 1 + j = i + (j + 1) by omega]
theorem qRt (h : OkT ts) {before : List Dl} {i : Nat} {a : Nat × Dl} (hi : i < ts.length) (h1 : qWm ts before i = .inr a) : i < a.1 ∧ a.1 < ts.length ∧ before.length ≠ 64 := by
 unfold qWm at h1
 dsimp only at h1
 split at h1
 ·cases h1
 rename_i k1
 split at h1
 ·cases h1
 rename_i k2
 have g := h.next hi (show (tkAt ts i).1 ≠ 5 by intro e; apply k1; left; rw [e]; decide)
 obtain ⟨x, hx, h2⟩ := qBm h1
 have gx : x.1 = i + 1 + 1 ∧ x.1 < ts.length := by
  split at hx
  ·obtain ⟨rfl, g1, -⟩ := qLh h g hx; exact ⟨rfl, g1⟩
  ·obtain ⟨rfl, g1, -⟩ := qLd h g hx; exact ⟨rfl, g1⟩
 split at h2
 ·cases h2
 obtain ⟨y, hy, h3⟩ := qBm h2
 have gy : x.1 ≤ y.1 ∧ y.1 < ts.length := by
  split at hy
  ·obtain ⟨g1, g2, -⟩ := qNf h gx.2 hy; exact ⟨by omega, g2⟩
  ·obtain rfl := Sum.inr.inj hy; exact ⟨jR _, gx.2⟩
 obtain ⟨j, hj, h4⟩ := qBm h3
 obtain ⟨rfl, g3, -⟩ := qFg h gy.2 hj
 obtain ⟨c, hc, h5⟩ := qBm h4
 obtain ⟨⟨f1, f2, f3, f4⟩, -⟩ := qKw h 32 (y.1 + 1, []) c.1 c.2 g3 (by simp) hc
 obtain ⟨m, hm, h6⟩ := qBm h5
 obtain ⟨rfl, g4, -⟩ := qFg h f2 hm
 obtain rfl := Sum.inr.inj h6
 exact ⟨by simp only at f1 ⊢; omega, g4, k2⟩
theorem zGf {before : List Dl} {f : Dl → Bool} : (decide ((match before.findIdx? f with | some j => ((0 + j : Nat) : Int) | none => -1) ≥ 0)) = before.any f := by
 have := List.findIdx?_isSome (xs := before) (p := f)
 rw [← this]
 cases before.findIdx? f with
 | none => rfl
 | some j => simp only [Option.isSome_some]; exact k8 (by omega)
end
end
section
open Go Go.Dc
section
variable {N : Nat} {ts : List Tok} {pr : List ByteArray} {b : List Ex}
theorem zFq (hok : OkT ts) (hl : ts.length < 1000000) (hN : 1000001 < N) (ht : ∀ j, (tkAt ts j).2.1.size < 100000) {before : List Dl} (hb : before.length ≤ 64) {i : Nat} (hi : i < ts.length) :
  qGe N (ts, (i : Int), pr, b) before = some (Sum.map id (fun a : Nat × Dl => ((ts, (a.1 : Int), a.2.2.2.1, a.2.2.2.2), a.2)) (qWm ts before i)) := by
 have hw := qMs (show i < 1000000 by omega)
 unfold qGe
 obtain ⟨mp1, hm1, hm⟩ := jF.1 zEn
 obtain ⟨mp2, hm2, hm3⟩ := jF.1 hm
 rw [hm1]; simp only [j0]
 rw [hm2]; simp only [j0]
 rw [hm3]; simp only [j0, qIi hi, qYv, qBh, qWm]
 by_cases k1 : (tkAt ts i).1 ≠ 1 ∨ qKh (tkAt ts i).2.1 = 0
 ·rw [if_pos k1]
  have : ((if ((tkAt ts i).1 != 1) = true then some true else some (qKh (tkAt ts i).2.1 == 0)) : Option Bool) = some true := by
   rcases k1 with h | h
   ·simp [h]
   ·simp [h]
  rw [this]; rfl
 rw [if_neg k1]
 have k1a : (tkAt ts i).1 = 1 := by
  apply Decidable.byContradiction
  intro h; exact k1 (.inl h)
 have k1b : ¬ qKh (tkAt ts i).2.1 = 0 := fun h => k1 (.inr h)
 have : ((if ((tkAt ts i).1 != 1) = true then some true else some (qKh (tkAt ts i).2.1 == 0)) : Option Bool) = some false := by simp [k1a, k1b]
 rw [this]
 simp only [j0, jB, jM]
 by_cases k2 : before.length = 64
 ·rw [if_pos (show ((before.length : Int) == 64) = true by simp; omega), if_pos k2]; rfl
 rw [if_neg (show ¬ ((before.length : Int) == 64) = true by simp; omega), if_neg k2]
 have g := hok.next hi (show (tkAt ts i).1 ≠ 5 by rw [k1a]; decide)
 simp only [j0, hw]
 have hx : (if (qKh (tkAt ts i).2.1 == 3) = true then ((qCp N (ts, ((i + 1 : Nat) : Int), pr, b)).bind fun y6 => (match y6 with | .inl z3 => some (.inr (.inl z3)) | .inr y7 => some (.inl (y7.1.1, y7.1.2.1, y7.1.2.2.1, y7.1.2.2.2, y7.2.1, y7.2.2.1, y7.2.2.2.1, y7.2.2.2.2)))) else ((qCq N (ts, ((i + 1 : Nat) : Int), pr, b)).bind fun y8 => (match y8 with | .inl z4 => some (.inr (.inl z4)) | .inr y9 => some (.inl (y9.1.1, y9.1.2.1, y9.1.2.2.1, y9.1.2.2.2, y9.2.1, y9.2.2.1, y9.2.2.2.1, y9.2.2.2.2)))) : Option ((List Tok × Int × List ByteArray × List Ex × Int × ByteArray × Int × Int) ⊕ (Flt ⊕ (StT × Dl)))) =
   some (match (if qKh (tkAt ts i).2.1 = 3 then qPu ts (i + 1) else qOt ts (i + 1)) with | .inl z => .inr (.inl z) | .inr a => .inl (ts, (a.1 : Int), pr, b, a.2.1, a.2.2.1, a.2.2.2.1, a.2.2.2.2)) := by
  by_cases k3 : qKh (tkAt ts i).2.1 = 3
  ·rw [if_pos (show (qKh (tkAt ts i).2.1 == 3) = true by simpa using k3), if_pos k3, qUt g hl (by omega) ht]
   cases qPu ts (i + 1) <;> rfl
  ·rw [if_neg (show ¬ (qKh (tkAt ts i).2.1 == 3) = true by simpa using k3), if_neg k3, qVa g hl]
   cases qOt ts (i + 1) <;> rfl
 refine Eq.trans (congrArg (fun z => Option.bind z _) hx) ?_
 simp only [j0]
 cases hX : (if qKh (tkAt ts i).2.1 = 3 then qPu ts (i + 1) else qOt ts (i + 1)) with
 | inl z => rfl
 | inr x =>
  have gx : x.1 = i + 1 + 1 ∧ x.1 < ts.length := by
   split at hX
   ·obtain ⟨rfl, g1, -⟩ := qLh hok g hX; exact ⟨rfl, g1⟩
   ·obtain ⟨rfl, g1, -⟩ := qLd hok g hX; exact ⟨rfl, g1⟩
  simp only [qCu]
  have hT := qSl (N := N) (before := before) (y1 := ((ts, (i : Int), pr, b), tkAt ts i)) (o4 := (ts, (x.1 : Int), pr, b, x.2.1, x.2.2.1, x.2.2.2.1, x.2.2.2.2)) hb before.length 0 N (by omega) (by omega)
  simp only [k0] at hT
  refine Eq.trans (congrArg (fun z => Option.bind z _) hT) ?_
  simp only [j0, zGf]
  rcases qKp (before.any fun d => d.1 == qKh (tkAt ts i).2.1 && decide (d.2.1 = x.2.2.1)) with k4 | k4
  ·simp only [k4, jP]; rfl
  simp only [k4, jB, jM, j0]
  have hp : (if (qKh (tkAt ts i).2.1 == 1) = true then ((qCt N (ts, (x.1 : Int), pr, b)).bind fun y12 => (match y12 with | .inl z6 => some (.inr (.inl z6)) | .inr y13 => some (.inl (y13.2, y13.1.1, y13.1.2.1, y13.1.2.2.1, y13.1.2.2.2)))) else (some (.inl (([] : List (ByteArray)), ts, (x.1 : Int), pr, b))) : Option ((List ByteArray × StT) ⊕ (Flt ⊕ (StT × Dl)))) =
    some (match (if qKh (tkAt ts i).2.1 = 1 then qIp ts x.1 else .inr (x.1, [])) with | .inl z => .inr (.inl z) | .inr a => .inl (a.2, ts, (a.1 : Int), pr, b)) := by
   by_cases k5 : qKh (tkAt ts i).2.1 = 1
   ·rw [if_pos (show (qKh (tkAt ts i).2.1 == 1) = true by simpa using k5), if_pos k5, qUm hok hl (by omega) gx.2]
    cases qIp ts x.1 <;> rfl
   ·rw [if_neg (show ¬ (qKh (tkAt ts i).2.1 == 1) = true by simpa using k5), if_neg k5]
  refine Eq.trans (congrArg (fun z => Option.bind z _) hp) ?_
  simp only [j0]
  cases hY : (if qKh (tkAt ts i).2.1 = 1 then qIp ts x.1 else .inr (x.1, []) : Flt ⊕ (Nat × List ByteArray)) with
  | inl z => rfl
  | inr y =>
   have gy : x.1 ≤ y.1 ∧ y.1 < ts.length ∧ y.2.length ≤ 8 := by
    split at hY
    ·obtain ⟨g1, g2, g3⟩ := qNf hok gx.2 hY; exact ⟨by omega, g2, g3⟩
    ·obtain rfl := Sum.inr.inj hY; exact ⟨jR _, gx.2, by simp⟩
   simp only [qKc gy.2.1 hl, j0, sEq]
   cases hj : qJi ts ⟨#[61]⟩ y.1 with
   | inl z => rfl
   | inr j =>
    obtain ⟨rfl, g3, -⟩ := qFg hok gy.2.1 hj
    have he := zGm (N := N) (pr := y.2) hok hl (by omega) hN ht (y.1 + 1, []) g3 (by simp)
    simp only at he
    simp only [jQ, he, j0]
    cases hc : qIo ts y.2 32 (y.1 + 1, []) with
    | inl z => rfl
    | inr c =>
     obtain ⟨⟨f1, f2, f3, f4⟩, -⟩ := qKw hok 32 (y.1 + 1, []) c.1 c.2 g3 (by simp) hc
     simp only [outP, jQ, stP, qKc f2 hl, j0, qZt]
     cases qJi ts ⟨#[59]⟩ c.1.1 <;> rfl
theorem qPx (hok : OkT ts) (hl : ts.length < 1000000) (hN : 1000000 < N) {y4 : StT × Tok} : ∀ (n M : Nat) (l : List ByteArray) (i : Nat), i < ts.length → l.length ≤ 8 → ts.length < i + n → ts.length < i + M →
  qBe (qEt N y4) M (ts, (i : Int), pr, b, l) = some (match qMo ts y4.2.2.1 n l i with | .inl z => .inr (.inl z) | .inr a => .inl (ts, (a.1 : Int), pr, b, a.2))
 | 0, M, l, i, hi, _, h, _ => by omega
 | n + 1, 0, l, i, hi, _, _, h => by omega
 | n + 1, M + 1, l, i, hi, hll, hn, hM => by
  have hw := qMs (show i < 1000000 by omega)
  simp only [qBe, qEt, qMo, zAm hi, j0, qUd]
  rcases qKp (isC ts 1 ⟨#[105, 109, 112, 111, 114, 116]⟩ i) with k1 | k1
  rotate_left
  ·simp only [k1, jB, jM, j0]
  have g := qGn hok hi (by decide) k1
  simp only [k1, jP]
  by_cases k2 : l.length = 8
  ·rw [if_pos (show ((l.length : Int) == 8) = true by simp; omega), if_pos k2]
   simp only [qIi hi, j0, qBh]; rfl
  rw [if_neg (show ¬ ((l.length : Int) == 8) = true by simp; omega), if_neg k2]
  simp only [j0, hw, qVa g hl]
  cases hx : qOt ts (i + 1) with
  | inl z => rfl
  | inr x =>
   obtain ⟨rfl, g1, -⟩ := qLd hok g hx
   simp only [jQ, qCu, qBh, j0, qGv, qRc (N := N) (l := l) (s := (tkAt ts (i + 1)).2.1) (by omega) (by omega)]
   by_cases k3 : (tkAt ts (i + 1)).2.1 = y4.2.2.1 ∨ (tkAt ts (i + 1)).2.1 ∈ l
   ·rw [if_pos k3]
    have : ((if decide ((tkAt ts (i + 1)).2.1 = y4.2.2.1) = true then some true else some (decide ((tkAt ts (i + 1)).2.1 ∈ l))) : Option Bool) = some true := by
     rcases k3 with h | h
     ·rw [if_pos (k8 h)]
     ·rw [k8 h]; split <;> rfl
    rw [this]; rfl
   rw [if_neg k3]
   have : ((if decide ((tkAt ts (i + 1)).2.1 = y4.2.2.1) = true then some true else some (decide ((tkAt ts (i + 1)).2.1 ∈ l))) : Option Bool) = some false := by
    rw [if_neg (by simp only [j9]; exact fun h => k3 (.inl h)), gC (fun h => k3 (.inr h))]
   rw [this]
   simp only [j0, jB, jM]
   rw [qBv (by simp only [jA, jC]; omega) (by omega)]
   simp only [j0, qKc g1 hl, qZt]
   cases hj : qJi ts ⟨#[59]⟩ (i + 1 + 1) with
   | inl z => rfl
   | inr j =>
    obtain ⟨rfl, g2, -⟩ := qFg hok g1 hj
    exact qPx hok hl hN n M _ (i + 1 + 1 + 1) g2 (by simp only [jJ, jA, jC]; omega) (by omega) (by omega)
theorem qNe (h : OkT ts) {pkg : ByteArray} : ∀ (n : Nat) (l : List ByteArray) (i : Nat) (a : Nat × List ByteArray), i < ts.length → l.length ≤ 8 → qMo ts pkg n l i = .inr a → i ≤ a.1 ∧ a.1 < ts.length ∧ a.2.length ≤ 8
 | 0, _, _, _, _, _, h1 => by cases h1
 | n + 1, l, i, a, hi, hl, h1 => by
  unfold qMo at h1
  split at h1
  ·rename_i k
   have g := qGn h hi (by decide) k
   split at h1
   ·cases h1
   rename_i k2
   obtain ⟨x, hx, h2⟩ := qBm h1
   obtain ⟨rfl, g1, -⟩ := qLd h g hx
   split at h2
   ·cases h2
   obtain ⟨j, hj, h3⟩ := qBm h2
   obtain ⟨rfl, g2, -⟩ := qFg h g1 hj
   obtain ⟨j1, j2, j3⟩ := qNe h n _ _ a g2 (by simp only [jJ, jA, jC]; omega) h3
   exact ⟨by omega, j2, j3⟩
  ·obtain rfl := Sum.inr.inj h1
   exact ⟨jR _, hi, hl⟩
theorem qTh (hok : OkT ts) (hl : ts.length < 1000000) (hN : 1000001 < N) (ht : ∀ j, (tkAt ts j).2.1.size < 100000) : ∀ (n M : Nat) (l : List Dl) (i : Nat) (pr : List ByteArray) (b : List Ex), i < ts.length → l.length ≤ 64 → ts.length < i + n → ts.length < i + M →
  match qRf ts n l i with
  | .inl z => qBe (qCk N) M (ts, (i : Int), pr, b, l) = some (.inr (.inl z))
  | .inr a => ∃ i' pr' b', qBe (qCk N) M (ts, (i : Int), pr, b, l) = some (.inl (ts, i', pr', b', a))
 | 0, M, l, i, _, _, hi, _, h, _ => by omega
 | n + 1, 0, l, i, _, _, hi, _, _, h => by omega
 | n + 1, M + 1, l, i, pr, b, hi, hll, hn, hM => by
  have e1 : qBe (qCk N) (M + 1) (ts, (i : Int), pr, b, l) = (if (tkAt ts i).1 = 5 then some (.inl (ts, (i : Int), pr, b, l)) else
    match qWm ts l i with
    | .inl z => some (.inr (.inl z))
    | .inr a => qBe (qCk N) M (ts, (a.1 : Int), a.2.2.2.1, a.2.2.2.2, l ++ [a.2])) := by
   simp only [qBe, qCk, qIi hi, j0, zFq hok hl hN ht hll hi]
   by_cases k1 : (tkAt ts i).1 = 5
   ·rw [if_neg (show ¬ ((tkAt ts i).1 != 5) = true by simpa using k1), if_pos k1]; rfl
   ·rw [if_pos (show ((tkAt ts i).1 != 5) = true by simpa using k1), if_neg k1]
    cases hd : qWm ts l i with
    | inl z => rfl
    | inr a =>
     obtain ⟨g1, g2, g3⟩ := qRt hok hi hd
     simp only [jQ]
     rw [qBv (by simp only [jA, jC]; omega) (by omega)]
     rfl
  rw [e1]
  simp only [qRf]
  by_cases k1 : (tkAt ts i).1 = 5
  ·simp only [if_pos k1]; exact ⟨_, _, _, rfl⟩
  ·simp only [if_neg k1]
   cases hd : qWm ts l i with
   | inl z => rfl
   | inr a =>
    obtain ⟨g1, g2, g3⟩ := qRt hok hi hd
    exact qTh hok hl hN ht n M (l ++ [a.2]) a.1 _ _ g2 (by simp only [jJ, jA, jC]; omega) (by omega) (by omega)
theorem zFj (hok : OkT ts) (hl : ts.length < 1000000) (hN : 1000001 < N) (ht : ∀ j, (tkAt ts j).2.1.size < 100000) :
  match qUp ts with
  | .inl z => qEz N (ts, 0, pr, b) = some (.inl z)
  | .inr f => ∃ i' pr' b', qEz N (ts, 0, pr, b) = some (.inr ((ts, i', pr', b'), f)) := by
 have h0 : 0 < ts.length := List.length_pos_iff.2 hok.1
 simp only [qEz, qUp]
 rw [show (0 : Int) = ((0 : Nat) : Int) from rfl]
 simp only [qXm h0 hl, j0, qQk]
 cases h1 : qQy ts ⟨#[112, 97, 99, 107, 97, 103, 101]⟩ 0 with
 | inl z => rfl
 | inr i =>
  obtain ⟨rfl, g1, -⟩ := qNt hok h0 h1
  simp only [jQ, qCu, qVa g1 hl, j0]
  cases h2 : qOt ts (0 + 1) with
  | inl z => rfl
  | inr x =>
   obtain ⟨rfl, g2, -⟩ := qLd hok g1 h2
   simp only [jQ, qKc g2 hl, j0, qZt]
   cases h3 : qJi ts ⟨#[59]⟩ (0 + 1 + 1) with
   | inl z => rfl
   | inr j =>
    obtain ⟨rfl, g3, -⟩ := qFg hok g2 h3
    simp only [jQ, qPx hok hl (by omega : 1000000 < N) (ts.length + 1) N [] (0 + 1 + 1 + 1) g3 (by simp) (by omega) (by omega), j0]
    cases h4 : qMo ts (tkAt ts (0 + 1)).2.1 (ts.length + 1) [] (0 + 1 + 1 + 1) with
    | inl z => rfl
    | inr y =>
     obtain ⟨k1, k2, k3⟩ := qNe hok _ _ _ y g3 (by simp) h4
     have hd := qTh (N := N) hok hl hN ht (ts.length + 1) N [] y.1 pr b k2 (by simp) (by omega) (by omega)
     simp only []
     cases h5 : qRf ts (ts.length + 1) [] y.1 with
     | inl z =>
      rw [h5] at hd
      simp only [hd, j0]
     | inr l =>
      rw [h5] at hd
      obtain ⟨i', pr', b', hd⟩ := hd
      refine ⟨i', pr', b', ?_⟩
      simp only [hd, j0]
end
theorem qYm {s : ByteArray} : ∀ (l : List Tok) (e : Int), 0 ≤ e → zGt s e l → ∀ i, i < l.length → ((tkAt l i).1 = 5 ↔ i + 1 = l.length) ∧ ((tkAt l i).2.1.size : Int) ≤ s.size ∧ 0 ≤ (tkAt l i).2.2.2
 | [], _, _, _, i, hi => by simp at hi
 | t :: r, e, he, h, i, hi => by
  obtain ⟨h1, h2, h3, h4, h5⟩ := h
  have hend : 0 ≤ endT t := by unfold endT; split <;> omega
  cases i with
  | zero =>
   refine ⟨?_, ?_, ?_⟩
   ·show t.1 = 5 ↔ 0 + 1 = r.length + 1
    rw [h3, ← List.length_eq_zero_iff]; omega
   ·show ((t.2.1.size : Nat) : Int) ≤ s.size
    omega
   ·show 0 ≤ t.2.2.2
    omega
  | succ i =>
   have := qYm r _ hend h5 i (by simpa using hi)
   have e : tkAt (t :: r) (i + 1) = tkAt r i := by simp [tkAt]
   rw [e, jA]
   exact ⟨⟨fun h => by have := this.1.1 h; omega, fun h => this.1.2 (by omega)⟩, this.2⟩
theorem qSx {s : ByteArray} (h : (qFq s).2.2 = 0) : OkT (qFq s).1 ∧ (qFq s).1.length ≤ 16385 ∧ ∀ j, (tkAt (qFq s).1 j).2.1.size < 100000 := by
 unfold qFq at h ⊢
 split at h
 ·simp at h
 rename_i hs
 rw [if_neg hs]
 cases hG : tokG (s.data.toList.length + 1) s 0 with
 | inl x =>
  obtain ⟨_, _, h3⟩ := qUr _ 0 x (by omega) (by omega) hG
  rw [hG] at h
  exact absurd h h3
 | inr r =>
  obtain ⟨g1, g2, g3⟩ := qPs _ 0 0 r (by omega) (by omega) (by omega) hG
  simp only [zEj, jV]
  have hc := qYm r 0 (by omega) g1
  refine ⟨⟨g2, fun i hi => (hc i hi).1⟩, by omega, fun j => ?_⟩
  rcases gW j r.length with hj | hj
  ·have := (hc j hj).2.1
   have hs2 := qCa s
   omega
  ·have e : tkAt r j = (5, ⟨#[]⟩, 0, 0) := by simp [tkAt, kF, List.getElem?_eq_none hj]
   rw [e]; decide
theorem zDe {N : Nat} (s : ByteArray) (hN : 1000001 < N) : qJv N s = some (qHu s) := by
 simp only [qJv, zCm (N := N) (by omega), j0, qHu]
 by_cases h : (qFq s).2.2 = 0
 ·rw [if_neg (show ¬ ((qFq s).2.2 != 0) = true by simpa using h), if_neg (show ¬ (qFq s).2.2 ≠ 0 by simpa using h)]
  obtain ⟨h1, h2, h3⟩ := qSx h
  have hf := zFj (N := N) (pr := []) (b := []) h1 (by omega) hN h3
  cases hF : qUp (qFq s).1 with
  | inl z =>
   rw [hF] at hf
   simp only [hf, j0]; rfl
  | inr f =>
   rw [hF] at hf
   obtain ⟨i', pr', b', hf⟩ := hf
   simp only [hf, j0]
 ·rw [if_pos (show ((qFq s).2.2 != 0) = true by simpa using h), if_pos h]; rfl
end
end Go.Proofs.YtiblcebedkllpaaDoor
