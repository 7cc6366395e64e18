/- No condition but those of each theorem. -/
import Derived.Test.YtiblcebedkllpaaGreatDoorProg
import Derived.WalkKit
import Derived.Deep.LoopGhost
import Derived.KernelRfl
import Derived.OrdersHeld
import Derived.OrdersIn
import Derived.LoopNIn
import Derived.Sort.LoopGhostIn
import Derived.Laws.AppendOwn
import Derived.RangeFuncLeaves
import Derived.RangeFuncRecord
import Derived.MapKept
import Derived.Maps.RangeRun
import Derived.ChangeKeysEq
import Derived.HandedShaped
import Derived.ChangeStays
import Derived.ChangeSame
import Derived.OpenShut
import Derived.WideShapes
import Derived.JoinedOf
import Derived.ReadAgain
import Derived.ChangeAt
import Derived.RowKit
import Derived.Lib.Overlaps
import Derived.WalkSmall
import Derived.Recover
import Derived.Lib.Bytealg
import Derived.Test.YtiblcebedkllpaaGreatDoorK4d1
namespace Go.Proofs.YtiblcebedkllpaaGreatDoor
section
open Go Go.Dc
set_option maxHeartbeats 4000000
set_option maxRecDepth 100000
variable {N c1 bp0 c2 : Nat} {m : Mem} {O : List Piece} {w : World} {a1 a2 : Option Addr}
def qId (N : Nat) (p0 : Th) (p1 : Int) (p2 : ByteArray) (p3 : ByteArray) : Option T1u :=
 (qHi N p0).bind fun y1 => if (y1 != 0) = true then (some ((⟨#[]⟩ : ByteArray), (⟨#[]⟩ : ByteArray), 0, (⟨#[]⟩ : ByteArray), 0, 0)) else ((qJi N p0).bind fun y2 => (qIm N y2 p1 p2 p3).bind fun y3 => some y3)
theorem qNq {p0 : Th} {p1 : Int} {p2 : ByteArray} {p3 : ByteArray} {r : T1u} (g : St m (O) w) (r1 : RepS C1 m a1 c1 p0) (i : qId N p0 p1 p2 p3 = some r) : Calls Tryz.prog 21 #[.agg #[vS a1 p0 c1], vI p1, vT p2, vT p3] w fun e w' => ∃ m', e = .returned (.agg (Vf r)) ∧ m.le m' ∧ St m' (O) w' := by
 unfold qId at i;have q := m.le_refl;refine W_cA Tryz.func21 rfl Tryz.ntmps21 ?_;refine W_sr (qAb rfl (qKr 4 25 0 (.agg #[vS a1 p0 c1]) g fun b1 m1 w1 e1 g hb1 => (qAb rfl (qCr 8 39 (.agg (Ve eB eB 0 eB 0 0)) g fun b2 w2 g => (WO_e (qAu (W_sr (qGh 9 25 4 0 (.agg #[vS a1 p0 c1]) g hb1 (qAm 10 i (fun _ h => qKn g (r1.mono e1) h) ?_)))))))));rintro y1 i _ w3 ⟨m2, rfl, e2, g⟩;refine qAa 1 [(11, vB (y1 != 0))] (WO_e (W_if i ?_ ?_))
 ·intro A i;refine W_sr (qAa 1 [(12, .agg (Ve eB eB 0 eB 0 0))] (qAb rfl (qBm 39 8 12 (.agg (Ve eB eB 0 eB 0 0)) g fun w4 g => (WO_e (qBh (qAc ?_))))));cases i;exact qGj [.cell 8 39] [.agg (Ve eB eB 0 eB 0 0)] rfl (ResAll.cons (ResAt.blk (v := .agg (Ve eB eB 0 eB 0 0)) (o := 0) kr g.h kr) ResAll.nil) ⟨m2, rfl, (q.t e1).t e2, g.t⟩
 ·intro A i;refine qAp (qAd (W_sr (qGh 13 25 4 0 (.agg #[vS a1 p0 c1]) g (hb1.mono e2) (qAm 14 i (fun _ h => qRn g ((r1.mono e1).mono e2) h) ?_))));rintro y2 i _ w5 ⟨a2, c2, a3, c3, m3, rfl, e3, g, r2, r3⟩;refine qAa 3 [(15, vI p1), (16, vT p2), (17, vT p3)] (qAm 18 i (fun _ h => qQn g r2 r3 h) ?_);rintro y3 i _ w6 ⟨m4, rfl, e4, g⟩;refine qAb rfl (qBm 39 8 18 (.agg (Vf y3)) g.f2 fun w7 g => (qAy rfl ?_));have g := g.f1.t.f1.t;refine qAd (qBh ?_);obtain rfl := sI i;exact qGj [.cell 8 39] [.agg (Vf y3)] rfl (ResAll.cons (ResAt.blk (v := .agg (Vf y3)) (o := 0) kr g.h kr) ResAll.nil) ⟨m4, rfl, (((q.t e1).t e2).t e3).t e4, g.t⟩
def qHo (N : Nat) (p0 : T1y) (p1 : ByteArray) (s1 : Int) : Option (Int ⊕ Unit ⊕ T22) :=
 if (decide (s1 < (List.length p0.1 : Int))) = true then ((idx p0.1 s1).bind fun x1 => if (x1.1.toList == p1.toList) = true then (some (.inr (.inr ((x1.2, true))))) else (some (.inl (IntKind.wrap .i64 (s1 + 1))))) else (some (.inr (.inl ())))
def qKg (N : Nat) (p0 : T1y) (p1 : ByteArray) : Option T22 :=
 (qAz (qHo N p0 p1) N 0).bind fun out1 => (match out1 with | .inl o1 => some ((⟨#[]⟩ : ByteArray), false) | .inr (z) => some z)
theorem qTh {p0 : T1y} {p1 : ByteArray} {q1 : Tr} {es1 : Array MapEntry} {ck1 : Nat} {q2 : Tr} {es2 : Array MapEntry} {ck2 : Nat} {r : T22} (g : St m (qCa q1 es1 ck1 :: qCa q2 es2 ck2 :: kB bp0 #[vS a1 p0.1 c1, vB p0.2.1, .map q1, vS a2 p0.2.2.2.1 c2, .map q2] 109 :: O) w) (r1 : RepS C1 m a1 c1 p0.1) (r2 : MapQ (fun s : ByteArray => Value.string s) C6 true m q1 es1 ck1 p0.2.2.1) (r3 : RepS cStr m a2 c2 p0.2.2.2.1) (r4 : MapQ qKz C7 true m q2 es2 ck2 p0.2.2.2.2) (i : qKg N p0 p1 = some r) : Calls Tryz.prog 136 #[vP bp0 0, vT p1] w fun e w' => ∃ m', e = .returned (.tuple #[vT r.1, vB r.2]) ∧ m.le m' ∧ St m' (qCa q1 es1 ck1 :: qCa q2 es2 ck2 :: kB bp0 #[vS a1 p0.1 c1, vB p0.2.1, .map q1, vS a2 p0.2.2.2.1 c2, .map q2] 109 :: O) w' := by
 unfold qKg at i;have q := m.le_refl;refine W_cA Tryz.func136 rfl Tryz.ntmps136 ?_;refine W_sr (qAa 2 [] (WO_e (qAu (W_sr (qAa 4 [(11, vP bp0 0)] (qAb rfl (qAn 12 23 11 0 (vS a1 p0.1 c1) g.t.t.h (qAa 2 [(13, vI (p0.1.length : Int)), (14, vI 0)] (WO_e (qBb ?_))))))))));have ⟨out1, i, j1⟩ := qBd i;refine qCk (.exit 0) (fun L' w' => ∃ (o1 : Unit), ∃ m1, (.inl o1) = out1 ∧ L' = [] ∧ m.le m1 ∧ St m1 (kB bp0 #[vS a1 p0.1 c1, vB p0.2.1, .map q1, vS a2 p0.2.2.2.1 c2, .map q2] 109 :: qCa q1 es1 ck1 :: qCa q2 es2 ck2 :: O) w' ∧ RepS C1 m1 a1 c1 p0.1 ∧ RepS cStr m1 a2 c2 p0.2.2.2.1 ∧ MapQ (fun s : ByteArray => Value.string s) C6 true m1 q1 es1 ck1 p0.2.2.1 ∧ MapQ qKz C7 true m1 q2 es2 ck2 p0.2.2.2.2) ?_ ?_
 ·rintro _ w1 ⟨o1, m1, rfl, rfl, q, g, r1, r3, r2, r4⟩;have i := j1;refine qBn (qAd (W_sr (qAa 2 [(4, vT eB), (5, vB false)] (WO_e (qBh ?_)))));cases i;exact X_rt [4, 5] [vT eB, vB false] ⟨m1, rfl, q, g.f2.f2⟩
 intro K0_u1;refine qGx _ kr (qDw (fun k1 L' w' => ∃ (s1 : Int), ∃ m2, qAz (qHo N p0 p1) k1 s1 = some out1 ∧ L' = [(1, vT p1), (12, vS a1 p0.1 c1), (13, vI (p0.1.length : Int)), (14, vI s1)] ∧ m.le m2 ∧ St m2 (kB bp0 #[vS a1 p0.1 c1, vB p0.2.1, .map q1, vS a2 p0.2.2.2.1 c2, .map q2] 109 :: qCa q1 es1 ck1 :: qCa q2 es2 ck2 :: O) w' ∧ RepS C1 m2 a1 c1 p0.1 ∧ RepS cStr m2 a2 c2 p0.2.2.2.1 ∧ MapQ (fun s : ByteArray => Value.string s) C6 true m2 q1 es1 ck1 p0.2.2.1 ∧ MapQ qKz C7 true m2 q2 es2 ck2 p0.2.2.2.2) N ⟨0, m, i, rfl, q, g.f1.f1.f2, r1, r3, r2, r4⟩ ?_);rintro k1 _ w2 ⟨s1, m2, hL, rfl, q, g, r1, r3, r2, r4⟩;rcases k1 with _ | k1
 ·exact qBr hL
 ·obtain ⟨qu1, i, hSu1, hBu1⟩ := qBs hL;clear hL;unfold qHo at i;refine W_sr (qAa 1 [(15, vB (decide (s1 < (p0.1.length : Int))))] (WO_e (qAu (W_if i ?_ ?_))))
  ·intro A i;refine qAp (qAd (qAu (qBb (W_sr (qAb rfl (qGs 16 23 101 12 14 r1 i ?_))))));rintro x1 i b1 f1 cs1 ⟨_, _, rfl, rfl, rfl⟩ hq1;refine qGh 17 101 16 f1 (.agg (V2 x1)) g hq1 (qAb rfl (qCr 7 101 (.agg #[vT eB, vT eB]) g fun b2 w3 g => (qAb rfl (qBm 101 7 17 (.agg (V2 x1)) g fun w4 g => (WO_e (W_sr (qAa 1 [(18, vP b2 0)] (qAb rfl (qAn 19 9 18 0 (vT x1.1) g.h (qAa 2 [(21, vB (x1.1.toList == p1.toList))] (WO_e (W_if i ?_ ?_))))))))))))
   ·intro A i;refine W_sr (qAa 1 [(22, vP b2 1)] (qAb rfl (qAn 23 9 22 1 (vT x1.2) g.h (qAa 2 [(4, vT x1.2), (5, vB true)] (WO_e (qBh (qAg (qAc ?_))))))));cases i;have ho := hBu1 _ rfl;subst ho;have i := j1;refine qAc (qAg (qAc ?_));cases i;exact X_rt [4, 5] [vT x1.2, vB true] ⟨m2, rfl, q, g.t.f2.f2⟩
   ·intro A i;refine qAp (qBq (qAd (qAq (qAa 2 [(14, vI (wr (s1 + 1)))] (qAy rfl ?_)))));obtain rfl := sI i;have hL := hSu1 _ rfl;exact xE (qCw k1 (jG _) ⟨wr (s1 + 1), m2, hL, rfl, q, g.t.f2.f2.f2, r1, r3, r2, r4⟩)
  ·intro A i;refine qDh (qAi ?_);cases i;have ho := hBu1 _ rfl;have g := g.f2.f2.f2;refine qAi ?_;exact xE (K0_u1 _ _ ⟨(), m2, ho, rfl, q, g, r1, r3, r2, r4⟩)
def qNi (N : Nat) (p0 : T1y) (p1 : ByteArray) : Option T2n :=
 (qKg N p0 p1).bind fun y1 => if y1.2 = true then (some (1, ((⟨#[]⟩ : ByteArray), (⟨#[]⟩ : ByteArray), 0, (⟨#[]⟩ : ByteArray), 0, 0), [(4, p1, (⟨#[]⟩ : ByteArray))], 0)) else ((qDx 40 ([(4, p1, (⟨#[]⟩ : ByteArray))]) ([(3, p1, (⟨#[]⟩ : ByteArray))])).bind fun l1 => (qIe N p0 3 (⟨#[]⟩ : ByteArray) p1).bind fun y2 => if (y2.2.2.2.2.2 == 0) = true then (some (0, ((⟨#[]⟩ : ByteArray), (⟨#[]⟩ : ByteArray), 0, (⟨#[]⟩ : ByteArray), 0, 0), l1, 14)) else (if (decide (y2.2.2.2.2.2 > 1)) = true then (some (3, ((⟨#[]⟩ : ByteArray), (⟨#[]⟩ : ByteArray), 0, (⟨#[]⟩ : ByteArray), 0, 0), l1, 12)) else (some (2, y2, l1, 0))))
theorem qUu {p0 : T1y} {p1 : ByteArray} {q1 : Tr} {es1 : Array MapEntry} {ck1 : Nat} {q2 : Tr} {es2 : Array MapEntry} {ck2 : Nat} {r : T2n} (g : St m (qCa q1 es1 ck1 :: qCa q2 es2 ck2 :: kB bp0 #[vS a1 p0.1 c1, vB p0.2.1, .map q1, vS a2 p0.2.2.2.1 c2, .map q2] 109 :: O) w) (r1 : RepS C1 m a1 c1 p0.1) (r2 : MapQ (fun s : ByteArray => Value.string s) C6 true m q1 es1 ck1 p0.2.2.1) (r3 : RepS cStr m a2 c2 p0.2.2.2.1) (r4 : MapQ qKz C7 true m q2 es2 ck2 p0.2.2.2.2) (i : qNi N p0 p1 = some r) : Calls Tryz.prog 69 #[vP bp0 0, vT p1] w fun e w' => ∃ ra1 rc1 m', e = .returned (.tuple #[vI r.1, .agg (Vf r.2.1), vS ra1 r.2.2.1 rc1, vI r.2.2.2]) ∧ m.le m' ∧ St m' (kR ra1 r.2.2.1 rc1 51 3 :: qCa q1 es1 ck1 :: qCa q2 es2 ck2 :: kB bp0 #[vS a1 p0.1 c1, vB p0.2.1, .map q1, vS a2 p0.2.2.2.1 c2, .map q2] 109 :: O) w' ∧ RepS C8 m' ra1 rc1 r.2.2.1 := by
 unfold qNi at i;have q := m.le_refl;refine W_cA Tryz.func69 rfl Tryz.ntmps69 ?_;refine W_sr (qAa 1 [] (qAb rfl (qCr 5 39 (.agg (Ve eB eB 0 eB 0 0)) g fun b1 w1 g => (qAa 2 [] (WO_e (W_sr (qAa 2 [(12, .agg #[vI 4, vT p1, vT eB])] (qAb rfl (qAr (d := 13) (t := 40) (e := 51) (len := 1) (parts := #[(0, (.tmp 12))]) C8 (xs := [(4, p1, eB)]) [vI 4, vT p1, vT eB] kr rfl (fun _ => qAs kr _) rfl rfl g ⟨[vI 4, vT p1, vT eB], _, rfl, ⟨_, _, rfl, rfl, ⟨_, _, rfl, rfl, rfl⟩⟩, rfl⟩ fun b2 m1 w2 e1 g r5 => (qAa 1 [(6, vS (aP b2) ([(4, p1, eB)]) 1)] (WO_e (qAu (W_sr (qAa 2 [(15, vP bp0 0), (16, vT p1)] (qAm 17 i (fun _ h => qTh g.f4.f4.f4 (r1.mono e1) (r2.mono e1) (r3.mono e1) (r4.mono e1) h) ?_)))))))))))))));rintro y1 i _ w3 ⟨m2, rfl, e2, g⟩;refine qAa 5 [(9, vB y1.2)] (WO_e (W_sr (qAa 1 [(20, vB y1.2)] (WO_e (W_if i ?_ ?_)))))
 ·intro A i;refine W_sr (qAa 3 [(21, .agg (Ve eB eB 0 eB 0 0)), (22, vS (aP b2) ([(4, p1, eB)]) 1), (4, vI 1)] (qAb rfl (qBm 39 5 21 (.agg (Ve eB eB 0 eB 0 0)) g.f4 fun w4 g => (qAa 2 [(6, vS (aP b2) ([(4, p1, eB)]) 1), (7, vI 0)] (WO_e (qBh (qAc ?_)))))));cases i;exact qGj [.tmp 4, .cell 5 39, .tmp 6, .tmp 7] [vI 1, .agg (Ve eB eB 0 eB 0 0), vS (aP b2) ([(4, p1, eB)]) 1, vI 0] rfl (ResAll.cons (ResAt.tmp kr) (ResAll.cons (ResAt.blk (v := .agg (Ve eB eB 0 eB 0 0)) (o := 0) kr g.h kr) (ResAll.cons (ResAt.tmp kr) (ResAll.cons (ResAt.tmp kr) ResAll.nil)))) ⟨(aP b2), 1, m2, rfl, (q.t e1).t e2, g.t.f2.f2.f2.f3, r5.mono e2⟩
 ·intro A i;refine qAp (qAd (W_sr (qAa 3 [(23, vS (aP b2) ([(4, p1, eB)]) 1), (25, .agg #[vI 3, vT p1, vT eB])] (qAb rfl (qAr (d := 26) (t := 40) (e := 51) (len := 1) (parts := #[(0, (.tmp 25))]) C8 (xs := [(3, p1, eB)]) [vI 3, vT p1, vT eB] kr rfl (fun _ => qAs kr _) rfl rfl g ⟨[vI 3, vT p1, vT eB], _, rfl, ⟨_, _, rfl, rfl, ⟨_, _, rfl, rfl, rfl⟩⟩, rfl⟩ fun b3 m3 w5 e3 g r6 => (qAb rfl (qFw 27 40 40 51 40 23 26 g.f4 (.inl kr) ((r5.mono e2).mono e3) r6.src i fun l1 i a3 c3 m4 w6 e4 g r7 => (qAa 1 [(6, vS a3 l1 c3)] (qAy rfl ?_)))))))));have g := g.f1.t;refine qAd (W_sr (qAa 2 [(28, vP bp0 0), (29, vT p1)] (qAm 30 i (fun _ h => qLx g.f3.f3.f3 ((((r1.mono e1).mono e2).mono e3).mono e4) ((((r2.mono e1).mono e2).mono e3).mono e4) ((((r3.mono e1).mono e2).mono e3).mono e4) ((((r4.mono e1).mono e2).mono e3).mono e4) h) ?_)));rintro y2 i _ w7 ⟨m5, rfl, e5, g⟩;have q := ((((q.t e1).t e2).t e3).t e4).t e5;have r7 := r7.mono e5;refine qAb rfl (qCr 10 39 (.agg (Ve eB eB 0 eB 0 0)) g fun b4 w8 g => (qAb rfl (qBm 39 10 30 (.agg (Vf y2)) g fun w9 g => (WO_e (qAu (qBb (W_sr (qAa 1 [(32, vP b4 5)] (qAb rfl (qAn 33 3 32 5 (vI y2.2.2.2.2.2) g.h (qAa 2 [(31, vB (y2.2.2.2.2.2 == 0))] (WO_e (W_if i ?_ ?_)))))))))))))
  ·intro A i;refine W_sr (qAa 3 [(35, .agg (Ve eB eB 0 eB 0 0)), (36, vS a3 l1 c3), (4, vI 0)] (qAb rfl (qBm 39 5 35 (.agg (Ve eB eB 0 eB 0 0)) g.f5 fun w10 g => (qAa 2 [(6, vS a3 l1 c3), (7, vI 14)] (WO_e (qBh (qAg (qAc ?_))))))));obtain rfl := sI i;exact qGj [.tmp 4, .cell 5 39, .tmp 6, .tmp 7] [vI 0, .agg (Ve eB eB 0 eB 0 0), vS a3 l1 c3, vI 14] rfl (ResAll.cons (ResAt.tmp kr) (ResAll.cons (ResAt.blk (v := .agg (Ve eB eB 0 eB 0 0)) (o := 0) kr g.h kr) (ResAll.cons (ResAt.tmp kr) (ResAll.cons (ResAt.tmp kr) ResAll.nil)))) ⟨a3, c3, m5, rfl, q, g.t.t.f2.f2.f2.f3, r7⟩
  ·intro A i;refine W_sr (qAa 1 [(38, vP b4 5)] (qAb rfl (qAn 39 3 38 5 (vI y2.2.2.2.2.2) g.h (qAa 2 [(37, vB (decide (y2.2.2.2.2.2 > 1)))] (WO_e (W_if i ?_ ?_))))))
   ·intro A i;refine W_sr (qAa 3 [(41, .agg (Ve eB eB 0 eB 0 0)), (42, vS a3 l1 c3), (4, vI 3)] (qAb rfl (qBm 39 5 41 (.agg (Ve eB eB 0 eB 0 0)) g.f5 fun w11 g => (qAa 2 [(6, vS a3 l1 c3), (7, vI 12)] (WO_e (qBh (qAg (qAc ?_))))))));obtain rfl := sI i;exact qGj [.tmp 4, .cell 5 39, .tmp 6, .tmp 7] [vI 3, .agg (Ve eB eB 0 eB 0 0), vS a3 l1 c3, vI 12] rfl (ResAll.cons (ResAt.tmp kr) (ResAll.cons (ResAt.blk (v := .agg (Ve eB eB 0 eB 0 0)) (o := 0) kr g.h kr) (ResAll.cons (ResAt.tmp kr) (ResAll.cons (ResAt.tmp kr) ResAll.nil)))) ⟨a3, c3, m5, rfl, q, g.t.t.f2.f2.f2.f3, r7⟩
   ·intro A i;refine qAp (qBq (qAd (qAu (qFo [(6, fun w' => Inv m5 w' ∧ Piece.holds m5 w' (kB b4 (Vf y2) 39) ∧ True)] kr g fun w12 _ g => ?_))));have hmS1 := m5.le_refl;refine ⟨⟨.inr ⟨Inv.anti g.inv hmS1, Piece.holds_anti g.h hmS1, trivial⟩, trivial⟩, ?_⟩;refine qFf 39 10 0 43 0 (.agg (Vf y2)) (.head _) (fun _ h => h.2.1) (qBf 1 44 (vS a3 l1 c3) (.head _) (qBf 2 4 (vI 2) (.head _) (qBy 3 kr  (qBm 39 5 43 (.agg (Vf y2)) g.f5 fun w13 g => (⟨⟨.inr ⟨Inv.anti g.inv hmS1, Piece.holds_anti g.t.h hmS1, trivial⟩, trivial⟩, ?_⟩)))));refine qBf 4 6 (vS a3 l1 c3) (.head _) (qBf 5 7 (vI 0) (.head _) (qCu kr (qAd (qBh ?_))));obtain rfl := sI i;exact qGj [.tmp 4, .cell 5 39, .tmp 6, .tmp 7] [vI 2, .agg (Vf y2), vS a3 l1 c3, vI 0] rfl (ResAll.cons (ResAt.tmp kr) (ResAll.cons (ResAt.blk (v := .agg (Vf y2)) (o := 0) kr g.h kr) (ResAll.cons (ResAt.tmp kr) (ResAll.cons (ResAt.tmp kr) ResAll.nil)))) ⟨a3, c3, m5, rfl, q, g.t.t.f2.f2.f2.f3, r7⟩
def qNl (N : Nat) (p0 : Th) (p1 : ByteArray) : Option T2n :=
 (qQb N p0).bind fun y1 => (if (!y1.2.1) = true then (some true) else ((qIr N p1).bind fun y2 => some (!y2)) : Ta).bind fun o1 => if o1 = true then (some (0, ((⟨#[]⟩ : ByteArray), (⟨#[]⟩ : ByteArray), 0, (⟨#[]⟩ : ByteArray), 0, 0), ([] : T1z), 1)) else ((qNi N y1 p1).bind fun y3 => some (y3.1, y3.2.1, y3.2.2.1, y3.2.2.2))
theorem qXu {p0 : Th} {p1 : ByteArray} {r : T2n} (g : St m (O) w) (r1 : RepS C1 m a1 c1 p0) (i : qNl N p0 p1 = some r) : Calls Tryz.prog 17 #[.agg #[vS a1 p0 c1], vT p1] w fun e w' => ∃ ra1 rc1 m', e = .returned (.tuple #[vI r.1, .agg (Vf r.2.1), vS ra1 r.2.2.1 rc1, vI r.2.2.2]) ∧ m.le m' ∧ St m' (kR ra1 r.2.2.1 rc1 51 3 :: O) w' ∧ RepS C8 m' ra1 rc1 r.2.2.1 := by
 unfold qNl at i;have q := m.le_refl;refine W_cA Tryz.func17 rfl Tryz.ntmps17 ?_;refine W_sr (qAb rfl (qKr 2 25 0 (.agg #[vS a1 p0 c1]) g fun b1 m1 w1 e1 g hb1 => (qAa 1 [] (qAb rfl (qCr 5 39 (.agg (Ve eB eB 0 eB 0 0)) g fun b2 w2 g => (qAa 2 [] (WO_e (W_sr (qGh 9 25 2 0 (.agg #[vS a1 p0 c1]) g hb1 (qAm 10 i (fun _ h => qUz g (r1.mono e1) h) ?_))))))))));rintro y1 i _ w3 ⟨b3, a2, c2, q1, es1, ck1, a3, c3, q2, es2, ck2, m2, rfl, e2, g, r2, r3, r4, r5⟩;refine qAa 1 [(8, vP b3 0)] (WO_e (qAu (W_sr ?_)));have ⟨o1, i, J⟩ := qBd i;refine qEa (j := 10) (fun L' w' => ∃ m3, L' = [(1, vT p1), (5, vP b2 0), (8, vP b3 0), (20, vB o1)] ∧ m.le m3 ∧ St m3 (kB b3 #[vS a2 y1.1 c2, vB y1.2.1, .map q1, vS a3 y1.2.2.2.1 c3, .map q2] 109 :: kB b2 (Ve eB eB 0 eB 0 0) 39 :: qCa q1 es1 ck1 :: qCa q2 es2 ck2 :: O) w' ∧ RepS C1 m3 a2 c2 y1.1 ∧ RepS cStr m3 a3 c3 y1.2.2.2.1 ∧ MapQ (fun s : ByteArray => Value.string s) C6 true m3 q1 es1 ck1 y1.2.2.1 ∧ MapQ qKz C7 true m3 q2 es2 ck2 y1.2.2.2.2) ?_ ?_
 ·have i := J;rintro _ w4 ⟨m3, rfl, q, g, r2, r4, r3, r5⟩;refine WO_e (W_if i ?_ ?_)
  ·intro A i;refine W_sr (qAa 2 [(21, .agg (Ve eB eB 0 eB 0 0)), (4, vI 0)] (qAb rfl (qBm 39 5 21 (.agg (Ve eB eB 0 eB 0 0)) g.f1 fun w6 g => (qAa 2 [(6, vS none ([] : T1z) 0), (7, vI 1)] (WO_e (qBh (qAc ?_)))))));cases i;refine qGj [.tmp 4, .cell 5 39, .tmp 6, .tmp 7] [vI 0, .agg (Ve eB eB 0 eB 0 0), vS none ([] : T1z) 0, vI 1] rfl (ResAll.cons (ResAt.tmp kr) (ResAll.cons (ResAt.blk (v := .agg (Ve eB eB 0 eB 0 0)) (o := 0) kr g.h kr) (ResAll.cons (ResAt.tmp kr) (ResAll.cons (ResAt.tmp kr) ResAll.nil)))) ?_;have g := (g.nilroom 51 3).front1;exact ⟨none, 0, m3, rfl, q, g.t.f1.t.f1.t.f1.t, (RepS.nil _ _)⟩
  ·intro A i;refine qAp (qAd (W_sr (qAa 2 [(22, vP b3 0), (23, vT p1)] (qAm 24 i (fun _ h => qUu g.f3.f3 r2 r3 r4 r5 h) ?_))));rintro y3 i _ w7 ⟨a4, c4, m5, rfl, e4, g, r6⟩;refine qAa 5 [(26, .agg (Vf y3.2.1)), (27, vS a4 y3.2.2.1 c4), (28, vI y3.2.2.2), (4, vI y3.1)] (qAb rfl (qBm 39 5 26 (.agg (Vf y3.2.1)) g.f4 fun w8 g => (qAa 2 [(6, vS a4 y3.2.2.1 c4), (7, vI y3.2.2.2)] (WO_e (qBh ?_)))));obtain rfl := sI i;exact qGj [.tmp 4, .cell 5 39, .tmp 6, .tmp 7] [vI y3.1, .agg (Vf y3.2.1), vS a4 y3.2.2.1 c4, vI y3.2.2.2] rfl (ResAll.cons (ResAt.tmp kr) (ResAll.cons (ResAt.blk (v := .agg (Vf y3.2.1)) (o := 0) kr g.h kr) (ResAll.cons (ResAt.tmp kr) (ResAll.cons (ResAt.tmp kr) ResAll.nil)))) ⟨a4, c4, m5, rfl, q.t e4, g.t.f1.t.f1.t.f1.t, r6⟩
 ·intro K;refine qAa 3 [(13, vP b3 1)] (qAb rfl (qAn 14 4 13 1 (vB y1.2.1) g.t.t.h (qAa 2 [(16, vB (!y1.2.1))] (qDk 16 i ?_ ?_))))
  ·intro A i;refine qAa 4 [(20, vB true)] ?_;cases i;exact qBj _ kr (K _ _ ⟨m2, rfl, (q.t e1).t e2, g.f1.f1.f3.f3, r2, r4, r3, r5⟩)
  ·intro A i;refine qAa 1 [(17, vT p1)] (qAm 18 i (fun _ h => qOi g h) ?_);rintro y2 i _ w5 ⟨m4, rfl, e3, g⟩;refine qAa 2 [(20, vB (!y2))] ?_;cases i;exact qBj _ kr (K _ _ ⟨m4, rfl, ((q.t e1).t e2).t e3, g.f1.f1.f3.f3, r2.mono e3, r4.mono e3, r3.mono e3, r5.mono e3⟩)
def qHm (N : Nat) : Ta :=
 (qMc N ([((⟨#[97, 46, 115, 114, 99]⟩ : ByteArray), (⟨#[112, 97, 99, 107, 97, 103, 101, 32, 115, 59, 32, 102, 117, 110, 99, 32, 102, 40, 41, 32, 61, 32, 49, 59, 32, 103, 101, 110, 32, 34, 99, 34, 32, 61, 32, 50, 59]⟩ : ByteArray))]) ((⟨#[112]⟩ : ByteArray), [(⟨#[113]⟩ : ByteArray), (⟨#[115]⟩ : ByteArray)], ([] : T1j)) (⟨#[102]⟩ : ByteArray)).bind fun y1 => (qNl N ([((⟨#[97, 46, 115, 114, 99]⟩ : ByteArray), (⟨#[112, 97, 99, 107, 97, 103, 101, 32, 115, 59, 32, 102, 117, 110, 99, 32, 102, 40, 41, 32, 61, 32, 49, 59, 32, 103, 101, 110, 32, 34, 99, 34, 32, 61, 32, 50, 59]⟩ : ByteArray))]) (⟨#[99]⟩ : ByteArray)).bind fun y2 => (if (y1.2.2 == 0) = true then (if (y2.2.2.2 == 0) = true then (if (y1.1.1.toList == (⟨#[115]⟩ : ByteArray).toList) = true then (if ((List.length y1.2.1 : Int) == 3) = true then ((idx y1.2.1 2).bind fun x1 => if ((x1.1 == 1) && ((x1.2.1.toList == (⟨#[115]⟩ : ByteArray).toList) && ((x1.2.2.toList == (⟨#[102]⟩ : ByteArray).toList) && true))) = true then (if (y2.1 == 2) = true then (if (y2.2.1.2.2.1 == 3) = true then (some ((List.length y2.2.2.1 : Int) == 2)) else (some false)) else (some false)) else (some false)) else (some false)) else (some false)) else (some false)) else (some false) : Ta).bind fun o1 => some o1
theorem qMt {r : Bool} (g : St m (O) w) (i : qHm N = some r) : Calls Tryz.prog 19 #[] w fun e w' => ∃ m', e = .returned (vB r) ∧ m.le m' ∧ St m' (O) w' := by
 unfold qHm at i;have q := m.le_refl;refine W_cA Tryz.func19 rfl Tryz.ntmps19 ?_;refine W_sr (qAa 1 [] (WO_e (W_sr (qAa 1 [(9, .agg #[vT ba, vT b22])] (qAb rfl (qAr (d := 10) (t := 23) (e := 101) (len := 1) (parts := #[(0, (.tmp 9))]) C1 (xs := [(ba, b22)]) [vT ba, vT b22] kr rfl (fun _ => qAs kr _) rfl rfl g ⟨[vT ba, vT b22], _, rfl, ⟨_, _, rfl, rfl, rfl⟩, rfl⟩ fun b1 m1 w1 e1 g r1 => (qAa 1 [(11, .agg #[.slice (aP b1) (List.length ([(ba, b22)])) 1])] (qAb rfl (qCr 1 25 (.agg #[.slice none 0 0]) g fun b2 w2 g => (qAb rfl (qBm 25 1 11 (.agg #[.slice (aP b1) (List.length ([(ba, b22)])) 1]) g fun w3 g => (WO_e (W_sr (qAb rfl (qAn 13 25 1 0 (.agg #[.slice (aP b1) (List.length ([(ba, b22)])) 1]) g.h (qAb rfl (qAr (d := 14) (t := 33) (e := 9) (len := 2) (parts := #[(0, (.const (vT bf))), (1, (.const (vT bg)))]) cStr (xs := [bf, bg]) [vT bf, vT bg] kr rfl (fun _ => qAs kr _) rfl rfl g ⟨[vT bf], _, rfl, rfl, ⟨[vT bg], _, rfl, rfl, rfl⟩⟩ fun b3 m2 w4 e2 g r2 => ?_)))))))))))))))));have r1 := r1.mono e2;refine qAa 1 [(15, .agg #[vT be, .slice (aP b3) (List.length ([bf, bg])) 2, vS none ([] : T1j) 0])] (qAm 16 i (fun _ h => qRh g r1 r2 (RepS.nil _ _) h) ?_);rintro y1 i _ w5 ⟨a1, c1, m3, rfl, e3, g, r3⟩
 refine qAa 4 [(17, .agg (Vf y1.1)), (18, vS a1 y1.2.1 c1), (19, vI y1.2.2)] (qAb rfl (qCr 2 39 (.agg (Ve eB eB 0 eB 0 0)) g fun b4 w6 g => (qAb rfl (qBm 39 2 17 (.agg (Vf y1.1)) g fun w7 g => (qAa 2 [(3, vS a1 y1.2.1 c1), (4, vI y1.2.2)] (qAy rfl ?_))))));have g := g.f2.t;refine qAd (W_sr (qAb rfl (qAn 21 25 1 0 (.agg #[.slice (aP b1) (List.length ([(ba, b22)])) 1]) g.t.t.h (qAm 22 i (fun _ h => qXu g (r1.mono e3) h) ?_))));rintro y2 i _ w8 ⟨a2, c2, m4, rfl, e4, g, r4⟩;have q := (((q.t e1).t e2).t e3).t e4;have r1 := (r1.mono e3).mono e4;refine qAa 5 [(23, vI y2.1), (24, .agg (Vf y2.2.1)), (25, vS a2 y2.2.2.1 c2), (26, vI y2.2.2.2)] (qAb rfl (qCr 6 39 (.agg (Ve eB eB 0 eB 0 0)) g fun b5 w9 g => (qAa 1 [(5, vI y2.1)] (qAb rfl (qBm 39 6 24 (.agg (Vf y2.2.1)) g fun w10 g => (qAa 2 [(7, vS a2 y2.2.2.1 c2), (8, vI y2.2.2.2)] (WO_e (W_sr ?_))))))));have ⟨o1, i, J⟩ := qBd i;refine qEa (j := 38) (fun L' w' => ∃ m5, L' = [(0, vB o1)] ∧ m.le m5 ∧ St m5 (kB b5 (Vf y2.2.1) 39 :: kB b4 (Vf y1.1) 39 :: kB b2 #[.slice (aP b1) (List.length ([(ba, b22)])) 1] 25 :: kR a2 y2.2.2.1 c2 51 3 :: kR a1 y1.2.1 c1 51 3 :: .room (aP b1) (List.length ([(ba, b22)])) 1 101 2 :: O) w' ∧ RepS C1 m5 (aP b1) 1 ([(ba, b22)])) ?_ ?_
 ·have i := J;rintro _ w11 ⟨m5, rfl, q, g, r1⟩;refine WO_e (qBh ?_);obtain rfl := sI i;exact X_rt [0] [vB o1] ⟨m5, rfl, q, g.t.t.t.t.t.t⟩
 ·intro K;refine qAa 3 [(29, vB (y1.2.2 == 0))] (qDk 29 i ?_ ?_)
  ·intro A i;refine qAa 4 [(33, vB (y2.2.2.2 == 0))] (qDk 33 i ?_ ?_)
   ·intro A i;refine qAa 1 [(34, vP b4 0)] (qAb rfl (qAn 35 9 34 0 (vT y1.1.1) g.t.t.h (qAa 3 [(38, vB (y1.1.1.toList == bg.toList))] (qDk 38 i ?_ ?_))))
    ·intro A i;refine qAa 5 [(43, vB ((y1.2.1.length : Int) == 3))] (qDk 43 i ?_ ?_)
     ·intro A i;refine qAa 1 [(44, vS a1 y1.2.1 c1)] (qAb rfl (qGs 45 40 51 44 ((.const (vI 2))) (r3.mono e4) i ?_));rintro x1 i b6 f1 cs1 ⟨_, _, rfl, rfl, ⟨_, _, rfl, rfl, rfl⟩⟩ hq1;refine qGh 46 51 45 f1 (.agg (Vc x1)) g hq1 (qAa 1 [(47, .agg #[vI 1, vT bg, vT bq])] (qAb rfl (zBf (d := 48) (t := 51) (t2 := 51) (x := (.tmp 46)) (y := (.tmp 47)) (xs := (Vc x1)) (ys := #[vI 1, vT bg, vT bq]) ((x1.1 == 1) && ((x1.2.1.toList == bg.toList) && ((x1.2.2.toList == bq.toList) && true))) kr rfl (ev (.agg (Vc x1))) (ev (.agg #[vI 1, vT bg, vT bq])) kr kr kr (qAa 2 [(50, vB ((x1.1 == 1) && ((x1.2.1.toList == bg.toList) && ((x1.2.2.toList == bq.toList) && true))))] (qDk 50 i ?_ ?_)))))
      ·intro A i;refine qAa 4 [(54, vB (y2.1 == 2))] (qDk 54 i ?_ ?_)
       ·intro A i;refine qAa 1 [(55, vP b5 2)] (qAb rfl (qAn 56 3 55 2 (vI y2.2.1.2.2.1) g.h (qAa 3 [(59, vB (y2.2.1.2.2.1 == 3))] (qDk 59 i ?_ ?_))))
        ·intro A i;refine qAa 5 [(0, vB ((y2.2.2.1.length : Int) == 2))] ?_;cases i;exact qBj _ kr (K _ _ ⟨m4, rfl, q, g.f5.f4.f3.f5.f5.f5, r1⟩)
        ·intro A i;refine qAa 5 [(0, vB false)] ?_;cases i;exact qBj _ kr (K _ _ ⟨m4, rfl, q, g.f5.f4.f3.f5.f5.f5, r1⟩)
       ·intro A i;refine qAa 10 [(0, vB false)] ?_;cases i;exact qBj _ kr (K _ _ ⟨m4, rfl, q, g.f5.f4.f3.f5.f5.f5, r1⟩)
      ·intro A i;refine qAa 14 [(0, vB false)] ?_;cases i;exact qBj _ kr (K _ _ ⟨m4, rfl, q, g.f5.f4.f3.f5.f5.f5, r1⟩)
     ·intro A i;refine qAa 21 [(0, vB false)] ?_;cases i;exact qBj _ kr (K _ _ ⟨m4, rfl, q, g.f5.f4.f3.f5.f5.f5, r1⟩)
    ·intro A i;refine qAa 26 [(0, vB false)] ?_;cases i;exact qBj _ kr (K _ _ ⟨m4, rfl, q, g.f5.f4.f3.f5.f5.f5, r1⟩)
   ·intro A i;refine qAa 31 [(0, vB false)] ?_;cases i;exact qBj _ kr (K _ _ ⟨m4, rfl, q, g.f5.f4.f3.f5.f5.f5, r1⟩)
  ·intro A i;refine qAa 35 [(0, vB false)] ?_;cases i;exact qBj _ kr (K _ _ ⟨m4, rfl, q, g.f5.f4.f3.f5.f5.f5, r1⟩)
def qDb (N : Nat) (y1 : Tm) (y4 : T7) (y5 : T21) (s1 : Int) : T9 :=
 if (decide (s1 < (List.length y5.2.1 : Int))) = true then ((idx y5.2.1 s1).bind fun x1 => (qId N y1.2 1 x1.2.1 x1.2.2).bind fun y6 => (if (!(x1.2.2.toList == y4.2.toList)) = true then (some true) else (if (!(s1 == (IntKind.wrap .i64 ((List.length y5.2.1 : Int) - 1)))) = true then (if (y6.2.2.2.2.2 != 0) = true then (some true) else (if (s1 == (IntKind.wrap .i64 ((List.length y5.2.1 : Int) - 1))) = true then (if (!((y5.2.2 == 0) == (y6.2.2.2.2.2 == 1))) = true then (some true) else (if (s1 == (IntKind.wrap .i64 ((List.length y5.2.1 : Int) - 1))) = true then (some (!((y5.2.2 == 12) == (decide (y6.2.2.2.2.2 > 1))))) else (some false))) else (if (s1 == (IntKind.wrap .i64 ((List.length y5.2.1 : Int) - 1))) = true then (some (!((y5.2.2 == 12) == (decide (y6.2.2.2.2.2 > 1))))) else (some false)))) else (if (s1 == (IntKind.wrap .i64 ((List.length y5.2.1 : Int) - 1))) = true then (if (!((y5.2.2 == 0) == (y6.2.2.2.2.2 == 1))) = true then (some true) else (if (s1 == (IntKind.wrap .i64 ((List.length y5.2.1 : Int) - 1))) = true then (some (!((y5.2.2 == 12) == (decide (y6.2.2.2.2.2 > 1))))) else (some false))) else (if (s1 == (IntKind.wrap .i64 ((List.length y5.2.1 : Int) - 1))) = true then (some (!((y5.2.2 == 12) == (decide (y6.2.2.2.2.2 > 1))))) else (some false)))) : Ta).bind fun o3 => if o3 = true then (some (.inr (.inr (false)))) else (some (.inl (IntKind.wrap .i64 (s1 + 1))))) else (some (.inr (.inl ())))
def qEl (N : Nat) (p0 : T5) : Ta :=
 (qHr N (p0, 0)).bind fun y1 => (qBo N y1.1 ([(⟨#[112]⟩ : ByteArray), (⟨#[113]⟩ : ByteArray)])).bind fun y2 => (qCt N).bind fun y3 => (qBo N y2.1 y3).bind fun y4 => (qMc N y1.2 (y2.2, [(⟨#[115]⟩ : ByteArray)], ([] : T1j)) y4.2).bind fun y5 => (if (decide ((List.length y5.2.1 : Int) < 1)) = true then (some true) else (some (decide ((List.length y5.2.1 : Int) > 2))) : Ta).bind fun o1 => if o1 = true then (some false) else ((qAz (qDb N y1 y4 y5) N 0).bind fun out1 => (match out1 with | .inl o2 => (if (y5.2.2 != 0) = true then ((qHm N).bind fun y7 => some y7) else ((idx y5.2.1 (IntKind.wrap .i64 ((List.length y5.2.1 : Int) - 1))).bind fun x2 => (qId N y1.2 1 x2.2.1 y4.2).bind fun y8 => if ((y5.1.1.toList == y8.1.toList) && ((y5.1.2.1.toList == y8.2.1.toList) && ((y5.1.2.2.1 == y8.2.2.1) && ((y5.1.2.2.2.1.toList == y8.2.2.2.1.toList) && ((y5.1.2.2.2.2.1 == y8.2.2.2.2.1) && ((y5.1.2.2.2.2.2 == y8.2.2.2.2.2) && true)))))) = true then ((qHm N).bind fun y9 => some y9) else (some false)) : Ta).bind fun o4 => some o4 | .inr (z) => some z))
theorem qNc {p0 : T5} {r : Bool} (g : St m (O) w) (r1 : RepS (cInt .i64) m a1 c1 p0) (i : qEl N p0 = some r) : Calls Tryz.prog 4 #[vS a1 p0 c1] w fun e w' => ∃ m', e = .returned (vB r) ∧ m.le m' ∧ St m' (O) w' := by
 unfold qEl at i;have q := m.le_refl;refine W_cA Tryz.func4 rfl Tryz.ntmps4 ?_;refine W_sr (qAa 1 [] (WO_e (W_sr (qAa 2 [(15, .agg #[vS a1 p0 c1, vI 0])] (qAb rfl (qPd 16 28 15 (.agg #[vS a1 p0 c1, vI 0]) g fun b1 w1 g => (qAa 1 [(3, vP b1 0)] (WO_e (W_sr (qAa 1 [(17, vP b1 0)] (qAm 18 i (fun _ h => qPy (p0 := (p0, 0)) g r1 h) ?_)))))))))));rintro y1 i _ w2 ⟨a2, c2, a3, c3, m2, rfl, e2, g, r2, r3⟩;refine qAb rfl (qCr 4 25 (.agg #[.slice none 0 0]) g fun b2 w3 g => (qAb rfl (qBm 25 4 18 (.agg #[vS a3 y1.2 c3]) g fun w4 g => (WO_e (W_sr (qAa 1 [(19, vP b1 0)] (qAb rfl (qAr (d := 20) (t := 33) (e := 9) (len := 2) (parts := #[(0, (.const (vT be))), (1, (.const (vT bf)))]) cStr (xs := [be, bf]) [vT be, vT bf] kr rfl (fun _ => qAs kr _) rfl rfl g ⟨[vT be], _, rfl, rfl, ⟨[vT bf], _, rfl, rfl, rfl⟩⟩ fun b3 m3 w5 e3 g r4 => (qAm 21 i (fun _ h => qBv (p0 := y1.1) g.f3 (r2.mono e3) r4 h) ?_)))))))));rintro y2 i _ w6 ⟨a4, c4, m4, rfl, e4, g, r5⟩
 refine qAb rfl (qAr (d := 22) (t := 33) (e := 9) (len := 1) (parts := #[(0, (.const (vT bg)))]) cStr (xs := [bg]) [vT bg] kr rfl (fun _ => qAs kr _) rfl rfl g ⟨[vT bg], _, rfl, rfl, rfl⟩ fun b4 m5 w7 e5 g r6 => (qAa 1 [(23, .agg #[vT y2.2, .slice (aP b4) (List.length ([bg])) 1, vS none ([] : T1j) 0])] (qAb rfl (qCr 5 36 (.agg #[vT eB, .slice none 0 0, .slice none 0 0]) g fun b5 w8 g => (qAb rfl (qBm 36 5 23 (.agg #[vT y2.2, .slice (aP b4) (List.length ([bg])) 1, vS none ([] : T1j) 0]) g fun w9 g => (qAy rfl ?_)))))));have g := g.f3.t;refine qAd (W_sr (qAa 1 [(24, vP b1 0)] (qAm 25 i (fun _ h => qJo g h) ?_)));rintro y3 i _ w10 ⟨a5, c5, m6, rfl, e6, g, r7⟩;refine qAm 26 i (fun _ h => qBv (p0 := y2.1) g.f3 ((r5.mono e5).mono e6) r7 h) ?_;rintro y4 i _ w11 ⟨a6, c6, m7, rfl, e7, g, r8⟩;have r6 := (r6.mono e6).mono e7;have r3 := ((((r3.mono e3).mono e4).mono e5).mono e6).mono e7;refine qAa 1 [(6, vT y4.2)] (qAy rfl ?_);have g := g.f1.t;refine qAd (W_sr (qAb rfl (qAn 28 25 4 0 (.agg #[vS a3 y1.2 c3]) g.t.t.t.h (qAb rfl (qAn 29 36 5 0 (.agg #[vT y2.2, .slice (aP b4) (List.length ([bg])) 1, vS none ([] : T1j) 0]) g.t.h (qAa 1 [(30, vT y4.2)] (qAm 31 i (fun _ h => qRh g r3 r6 (RepS.nil _ _) h) ?_)))))));rintro y5 i _ w12 ⟨a7, c7, m8, rfl, e8, g, r9⟩
 refine qAa 4 [(32, .agg (Vf y5.1)), (33, vS a7 y5.2.1 c7), (34, vI y5.2.2)] (qAb rfl (qCr 7 39 (.agg (Ve eB eB 0 eB 0 0)) g fun b6 w13 g => (qAb rfl (qBm 39 7 32 (.agg (Vf y5.1)) g fun w14 g => (qAa 2 [(8, vS a7 y5.2.1 c7), (9, vI y5.2.2)] (WO_e (qAu (W_sr ?_))))))));have ⟨o1, i, J⟩ := qBd i;refine qEa (j := 8) (fun L' w' => ∃ m9, L' = [(4, vP b2 0), (6, vT y4.2), (7, vP b6 0), (8, vS a7 y5.2.1 c7), (9, vI y5.2.2), (42, vB o1)] ∧ m.le m9 ∧ St m9 (kB b6 (Vf y5.1) 39 :: kB b1 (V1 y4.1 a6 c6) 28 :: kB b5 #[vT y2.2, .slice (aP b4) (List.length ([bg])) 1, vS none ([] : T1j) 0] 36 :: kB b2 #[vS a3 y1.2 c3] 25 :: kR a7 y5.2.1 c7 51 3 :: .room (aP b4) (List.length ([bg])) 1 9 1 :: kR a3 y1.2 c3 101 2 :: O) w' ∧ RepS C8 m9 a7 c7 y5.2.1 ∧ RepS (cInt .i64) m9 a6 c6 y4.1.1 ∧ RepS cStr m9 (aP b4) 1 ([bg]) ∧ RepS C1 m9 a3 c3 y1.2) ?_ ?_
 ·have i := J;rintro _ w15 ⟨m9, rfl, q, g, r9, r8, r6, r3⟩;refine WO_e (W_if i ?_ ?_)
  ·intro A i;refine W_sr (qAa 1 [(2, vB false)] (qAy rfl ?_));have g := g.f4.t;refine qAd (qBh (qAc ?_));cases i;exact X_rt [2] [vB false] ⟨m9, rfl, q, g.t.t.t.t.t.t⟩
  ·intro A i;refine qAp (qAd (qAu (W_sr (qAa 3 [(43, vS a7 y5.2.1 c7), (44, vI (y5.2.1.length : Int)), (45, vI 0)] (WO_e (qBb ?_))))));have ⟨out1, i, j1⟩ := qBd i;refine qCk (.exit 0) (fun L' w' => ∃ (o2 : Unit), ∃ m10, (.inl o2) = out1 ∧ L' = [(4, vP b2 0), (6, vT y4.2), (7, vP b6 0), (8, vS a7 y5.2.1 c7), (9, vI y5.2.2)] ∧ m.le m10 ∧ St m10 (kB b6 (Vf y5.1) 39 :: kB b1 (V1 y4.1 a6 c6) 28 :: kB b5 #[vT y2.2, .slice (aP b4) (List.length ([bg])) 1, vS none ([] : T1j) 0] 36 :: kB b2 #[vS a3 y1.2 c3] 25 :: kR a7 y5.2.1 c7 51 3 :: .room (aP b4) (List.length ([bg])) 1 9 1 :: kR a3 y1.2 c3 101 2 :: O) w' ∧ RepS C8 m10 a7 c7 y5.2.1 ∧ RepS (cInt .i64) m10 a6 c6 y4.1.1 ∧ RepS cStr m10 (aP b4) 1 ([bg]) ∧ RepS C1 m10 a3 c3 y1.2) ?_ ?_
   ·rintro _ w16 ⟨o2, m10, rfl, rfl, q, g, r9, r8, r6, r3⟩;have i := j1;refine qBn (qAd (qAu ?_));have ⟨o4, i, J⟩ := qBd i;refine qCk .normal (fun L' w' => ∃ m14, L' = [(2, vB o4)] ∧ m.le m14 ∧ St m14 (kB b6 (Vf y5.1) 39 :: kB b1 (V1 y4.1 a6 c6) 28 :: kB b5 #[vT y2.2, .slice (aP b4) (List.length ([bg])) 1, vS none ([] : T1j) 0] 36 :: kB b2 #[vS a3 y1.2 c3] 25 :: kR a7 y5.2.1 c7 51 3 :: .room (aP b4) (List.length ([bg])) 1 9 1 :: kR a3 y1.2 c3 101 2 :: O) w' ∧ RepS (cInt .i64) m14 a6 c6 y4.1.1 ∧ RepS cStr m14 (aP b4) 1 ([bg]) ∧ RepS C1 m14 a3 c3 y1.2) ?_ ?_
    ·have i := J;rintro _ w22 ⟨m14, rfl, q, g, r8, r6, r3⟩;refine qAd (qBh ?_);obtain rfl := sI i;exact X_rt [2] [vB o4] ⟨m14, rfl, q, g.t.t.t.t.t.t.t⟩
    ·intro K;refine qFo [(20, fun w' => Inv m10 w' ∧ Piece.holds m10 w' (kB b6 (Vf y5.1) 39) ∧ Piece.holds m10 w' (kB b2 #[vS a3 y1.2 c3] 25) ∧ True)] kr g fun w23 _ g => ?_;have hmS1 := m10.le_refl;refine ⟨⟨.inr ⟨Inv.anti g.inv hmS1, Piece.holds_anti g.h hmS1, Piece.holds_anti g.t.t.t.h hmS1, trivial⟩, trivial⟩, ?_⟩;refine qBf 0 95 (vI y5.2.2) (.head _) (qBf 1 96 (vB (y5.2.2 != 0)) (.head _) (qBf 2 97 (vB (y5.2.2 != 0)) (.head _) ?_));rcases qDt (y5.2.2 != 0) with A | A
     ·rw [if_pos A] at i;refine qNy (t := 97) (b := true) (y5.2.2 != 0) kr A ?_;refine qHx 3 98 (.head _) (qHx 4 99 (.head _) (qHx 5 100 (.head _) (qHx 6 101 (.head _) (qHx 7 102 (.head _) (qHx 8 103 (.head _) (qHx 9 104 (.head _) (qHx 10 105 (.head _) (qHx 11 106 (.head _) (qHx 12 107 (.head _) (qHx 13 108 (.head _) (qHx 14 109 (.head _) (qBf 15 110 (vB true) (.head _) (qBf 16 111 (vB true) (.head _) (qBy 17 kr (qGp 112 i (fun _ h => qMt g h) ?_)))))))))))))));rintro y7 i _ w24 ⟨m15, rfl, e10, g⟩;refine ⟨_, rfl, ?_⟩;have hmS1 := Mem.le_trans hmS1 e10;refine ⟨⟨.inr ⟨Inv.anti g.inv hmS1, Piece.holds_anti g.h hmS1, Piece.holds_anti g.t.t.t.h hmS1, trivial⟩, trivial⟩, ?_⟩;refine qBf 18 113 (vB y7) (.head _) (qBf 19 2 (vB y7) (.head _) ?_);cases i;exact qCu kr (qQz _ kr (K _ _ ⟨m15, rfl, q.t e10, g.f6.f6.f6.f6.f6.f6.f6, r8.mono e10, r6.mono e10, r3.mono e10⟩))
     ·rw [if_neg (not_true A)] at i;refine qNy (t := 97) (b := false) (y5.2.2 != 0) kr A ?_;refine qFf 39 7 3 98 0 (.agg (Vf y5.1)) (.head _) (fun _ h => h.2.1) (qFf 25 4 4 99 0 (.agg #[vS a3 y1.2 c3]) (.head _) (fun _ h => h.2.2.1) (qBf 5 100 (vS a7 y5.2.1 c7) (.head _) (qBf 6 101 (vS a7 y5.2.1 c7) (.head _) (qBf 7 102 (vI (y5.2.1.length : Int)) (.head _) (qBf 8 103 (vI (wr ((y5.2.1.length : Int) - 1))) (.head _) ?_)))));have ⟨x2, d9, i⟩ := qBd i;refine qOf (t := 40) (e := 51) (x := (.tmp 100)) (y := (.tmp 103)) 9 104 C8 kr rfl kr (.head _) (qGy qPm) (ev (vS a7 y5.2.1 c7)) (ev (vI (wr ((y5.2.1.length : Int) - 1)))) kr r9 d9 ?_;rintro b9 f2 cs2 ⟨_, _, rfl, rfl, ⟨_, _, rfl, rfl, rfl⟩⟩ hq2;refine qBf 10 105 (.pointer (some ⟨b9, f2 + 1, none⟩)) (.head _) (qQx 9 105 11 106 (f2 + 1) (vT x2.2.1) (.head _) (fun _ h => h.1) (hq2.drop 1) (qBf 12 107 (vT y4.2) (.head _) (qBy 13 kr (qGp 108 i (fun _ h => qNq g r3 h) ?_))));rintro y8 i _ w25 ⟨m16, rfl, e11, g⟩;refine ⟨_, rfl, ?_⟩;have r3 := r3.mono e11;have r8 := r8.mono e11;have r6 := r6.mono e11;have hmS1 := Mem.le_trans hmS1 e11;refine ⟨⟨.inr ⟨Inv.anti g.inv hmS1, Piece.holds_anti g.h hmS1, Piece.holds_anti g.t.t.t.h hmS1, trivial⟩, trivial⟩, ?_⟩
      refine qBy 14 kr  (zBf (d := 109) (t := 39) (t2 := 39) (x := (.tmp 98)) (y := (.tmp 108)) (xs := (Vf y5.1)) (ys := (Vf y8)) ((y5.1.1.toList == y8.1.toList) && ((y5.1.2.1.toList == y8.2.1.toList) && ((y5.1.2.2.1 == y8.2.2.1) && ((y5.1.2.2.2.1.toList == y8.2.2.2.1.toList) && ((y5.1.2.2.2.2.1 == y8.2.2.2.2.1) && ((y5.1.2.2.2.2.2 == y8.2.2.2.2.2) && true)))))) kr rfl (ev (.agg (Vf y5.1))) (ev (.agg (Vf y8))) kr kr kr (⟨⟨.inr ⟨Inv.anti g.inv hmS1, Piece.holds_anti g.h hmS1, Piece.holds_anti g.t.t.t.h hmS1, trivial⟩, trivial⟩, ?_⟩));refine qBf 15 110 (vB ((y5.1.1.toList == y8.1.toList) && ((y5.1.2.1.toList == y8.2.1.toList) && ((y5.1.2.2.1 == y8.2.2.1) && ((y5.1.2.2.2.1.toList == y8.2.2.2.1.toList) && ((y5.1.2.2.2.2.1 == y8.2.2.2.2.1) && ((y5.1.2.2.2.2.2 == y8.2.2.2.2.2) && true))))))) (.head _) (qBf 16 111 (vB ((y5.1.1.toList == y8.1.toList) && ((y5.1.2.1.toList == y8.2.1.toList) && ((y5.1.2.2.1 == y8.2.2.1) && ((y5.1.2.2.2.1.toList == y8.2.2.2.1.toList) && ((y5.1.2.2.2.2.1 == y8.2.2.2.2.1) && ((y5.1.2.2.2.2.2 == y8.2.2.2.2.2) && true))))))) (.head _) ?_);rcases qDt ((y5.1.1.toList == y8.1.toList) && ((y5.1.2.1.toList == y8.2.1.toList) && ((y5.1.2.2.1 == y8.2.2.1) && ((y5.1.2.2.2.1.toList == y8.2.2.2.1.toList) && ((y5.1.2.2.2.2.1 == y8.2.2.2.2.1) && ((y5.1.2.2.2.2.2 == y8.2.2.2.2.2) && true)))))) with A | A
      ·rw [if_pos A] at i;refine qNy (t := 111) (b := true) ((y5.1.1.toList == y8.1.toList) && ((y5.1.2.1.toList == y8.2.1.toList) && ((y5.1.2.2.1 == y8.2.2.1) && ((y5.1.2.2.2.1.toList == y8.2.2.2.1.toList) && ((y5.1.2.2.2.2.1 == y8.2.2.2.2.1) && ((y5.1.2.2.2.2.2 == y8.2.2.2.2.2) && true)))))) kr A ?_;refine qBy 17 kr (qGp 112 i (fun _ h => qMt g h) ?_);rintro y9 i _ w26 ⟨m17, rfl, e12, g⟩;refine ⟨_, rfl, ?_⟩;have hmS1 := Mem.le_trans hmS1 e12;refine ⟨⟨.inr ⟨Inv.anti g.inv hmS1, Piece.holds_anti g.h hmS1, Piece.holds_anti g.t.t.t.h hmS1, trivial⟩, trivial⟩, ?_⟩;refine qBf 18 113 (vB y9) (.head _) (qBf 19 2 (vB y9) (.head _) ?_);cases i;exact qCu kr (qQz _ kr (K _ _ ⟨m17, rfl, (q.t e11).t e12, g.f6.f6.f6.f6.f6.f6.f6, r8.mono e12, r6.mono e12, r3.mono e12⟩))
      ·rw [if_neg (not_true A)] at i;refine qNy (t := 111) (b := false) ((y5.1.1.toList == y8.1.toList) && ((y5.1.2.1.toList == y8.2.1.toList) && ((y5.1.2.2.1 == y8.2.2.1) && ((y5.1.2.2.2.1.toList == y8.2.2.2.1.toList) && ((y5.1.2.2.2.2.1 == y8.2.2.2.2.1) && ((y5.1.2.2.2.2.2 == y8.2.2.2.2.2) && true)))))) kr A ?_;refine qHx 17 112 (.head _) (qBf 18 113 (vB false) (.head _) (qBf 19 2 (vB false) (.head _) ?_));cases i;exact qCu kr (qQz _ kr (K _ _ ⟨m16, rfl, q.t e11, g.f6.f6.f6.f6.f6.f6.f6, r8, r6, r3⟩))
   intro K0_u1;refine qGx _ kr (qDw (fun k1 L' w' => ∃ (s1 : Int), ∃ m11, qAz (qDb N y1 y4 y5) k1 s1 = some out1 ∧ L' = [(4, vP b2 0), (6, vT y4.2), (7, vP b6 0), (8, vS a7 y5.2.1 c7), (9, vI y5.2.2), (43, vS a7 y5.2.1 c7), (44, vI (y5.2.1.length : Int)), (45, vI s1)] ∧ m.le m11 ∧ St m11 (kB b6 (Vf y5.1) 39 :: kB b1 (V1 y4.1 a6 c6) 28 :: kB b5 #[vT y2.2, .slice (aP b4) (List.length ([bg])) 1, vS none ([] : T1j) 0] 36 :: kB b2 #[vS a3 y1.2 c3] 25 :: kR a7 y5.2.1 c7 51 3 :: .room (aP b4) (List.length ([bg])) 1 9 1 :: kR a3 y1.2 c3 101 2 :: O) w' ∧ RepS C8 m11 a7 c7 y5.2.1 ∧ RepS (cInt .i64) m11 a6 c6 y4.1.1 ∧ RepS cStr m11 (aP b4) 1 ([bg]) ∧ RepS C1 m11 a3 c3 y1.2) N ⟨0, m9, i, rfl, q, g.f6.f6.f6.f6.f6.f6.f6, r9, r8, r6, r3⟩ ?_);rintro k1 _ w17 ⟨s1, m11, hL, rfl, q, g, r9, r8, r6, r3⟩;rcases k1 with _ | k1
   ·exact qBr hL
   ·obtain ⟨qu1, i, hSu1, hBu1⟩ := qBs hL;clear hL;unfold qDb at i;refine W_sr (qAa 1 [(46, vB (decide (s1 < (y5.2.1.length : Int))))] (WO_e (qAu (W_if i ?_ ?_))))
    ·intro A i;refine qAp (qAd (qAu (qBb (W_sr (qAa 1 [(47, vI s1)] (qAb rfl (qGs 48 40 51 43 45 r9 i ?_)))))));rintro x1 i b7 f1 cs1 ⟨_, _, rfl, rfl, ⟨_, _, rfl, rfl, rfl⟩⟩ hq1;refine qGh 49 51 48 f1 (.agg (Vc x1)) g hq1 (qAb rfl (qCr 11 51 (.agg #[vI 0, vT eB, vT eB]) g fun b8 w18 g => (qAa 1 [(10, vI s1)] (qAb rfl (qBm 51 11 49 (.agg (Vc x1)) g fun w19 g => (WO_e (W_sr (qAb rfl (qAn 50 25 4 0 (.agg #[vS a3 y1.2 c3]) g.t.t.t.t.h (qAa 1 [(51, vP b8 1)] (qAb rfl (qAn 52 9 51 1 (vT x1.2.1) g.h (qAa 1 [(53, vP b8 2)] (qAb rfl (qAn 54 9 53 2 (vT x1.2.2) g.h (qAm 55 i (fun _ h => qNq g r3 h) ?_))))))))))))))));rintro y6 i _ w20 ⟨m12, rfl, e9, g⟩;have q := q.t e9;have r9 := r9.mono e9;have r3 := r3.mono e9;have r8 := r8.mono e9;have r6 := r6.mono e9;refine qAa 2 [(12, vI y6.2.2.2.2.2)] (WO_e (W_sr (qAa 6 [(13, vB (s1 == (wr ((y5.2.1.length : Int) - 1))))] (WO_e (W_sr ?_)))));have ⟨o3, i, J⟩ := qBd i
     refine qEa (j := 32) (fun L' w' => ∃ m13, L' = [(4, vP b2 0), (6, vT y4.2), (7, vP b6 0), (8, vS a7 y5.2.1 c7), (9, vI y5.2.2), (43, vS a7 y5.2.1 c7), (44, vI (y5.2.1.length : Int)), (45, vI s1), (93, vB o3)] ∧ m.le m13 ∧ St m13 (kB b8 (Vc x1) 51 :: kB b6 (Vf y5.1) 39 :: kB b1 (V1 y4.1 a6 c6) 28 :: kB b5 #[vT y2.2, .slice (aP b4) (List.length ([bg])) 1, vS none ([] : T1j) 0] 36 :: kB b2 #[vS a3 y1.2 c3] 25 :: kR a7 y5.2.1 c7 51 3 :: .room (aP b4) (List.length ([bg])) 1 9 1 :: kR a3 y1.2 c3 101 2 :: O) w' ∧ RepS C8 m13 a7 c7 y5.2.1 ∧ RepS (cInt .i64) m13 a6 c6 y4.1.1 ∧ RepS cStr m13 (aP b4) 1 ([bg]) ∧ RepS C1 m13 a3 c3 y1.2) ?_ ?_
     ·have i := J;rintro _ w21 ⟨m13, rfl, q, g, r9, r8, r6, r3⟩;refine WO_e (W_if i ?_ ?_)
      ·intro A i;refine W_sr (qAa 1 [(2, vB false)] (qAy rfl ?_));have g := g.f5.t;refine qAd (qBh (qAg (qAc ?_)));cases i;have ho := hBu1 _ rfl;subst ho;have i := j1;refine qAc (qAg (qAc ?_));cases i;exact X_rt [2] [vB false] ⟨m13, rfl, q, g.t.t.t.t.t.t.t⟩
      ·intro A i;refine qAp (qBq (qAd (qAq (qAa 2 [(45, vI (wr (s1 + 1)))] (qAy rfl ?_)))));obtain rfl := sI i;have hL := hSu1 _ rfl;exact xE (qCw k1 (jG _) ⟨wr (s1 + 1), m13, hL, rfl, q, g.t.f6.f6.f6.f6.f6.f6.f6, r9, r8, r6, r3⟩)
     ·intro K;refine qAa 1 [(62, vP b8 2)] (qAb rfl (qAn 63 9 62 2 (vT x1.2.2) g.h (qAa 3 [(66, vB (!(x1.2.2.toList == y4.2.toList)))] (qDk 66 i ?_ ?_))))
      ·intro A i;refine qAa 27 [(93, vB true)] ?_;cases i;exact qBj _ kr (K _ _ ⟨m12, rfl, q, g.f7.f7.f7.f7.f7.f7.f7.f7, r9, r8, r6, r3⟩)
      ·intro A i;refine qAa 3 [(69, vB (!(s1 == (wr ((y5.2.1.length : Int) - 1)))))] (qDk 69 i ?_ ?_)
       ·intro A i;refine qAa 5 [(74, vB (y6.2.2.2.2.2 != 0))] (qDk 74 i ?_ ?_)
        ·intro A i;refine qAa 19 [(93, vB true)] ?_;cases i;exact qBj _ kr (K _ _ ⟨m12, rfl, q, g.f7.f7.f7.f7.f7.f7.f7.f7, r9, r8, r6, r3⟩)
        ·intro A i;refine qAa 2 [(76, vB (s1 == (wr ((y5.2.1.length : Int) - 1))))] (qDk 76 i ?_ ?_)
         ·intro A i;refine qAa 8 [(84, vB (!((y5.2.2 == 0) == (y6.2.2.2.2.2 == 1))))] (qDk 84 i ?_ ?_)
          ·intro A i;refine qAa 9 [(93, vB true)] ?_;cases i;exact qBj _ kr (K _ _ ⟨m12, rfl, q, g.f7.f7.f7.f7.f7.f7.f7.f7, r9, r8, r6, r3⟩)
          ·intro A i;refine qAa 2 [(86, vB (s1 == (wr ((y5.2.1.length : Int) - 1))))] (qDk 86 i ?_ ?_)
           ·intro A i;refine qAa 7 [(93, vB (!((y5.2.2 == 12) == (decide (y6.2.2.2.2.2 > 1)))))] ?_;cases i;exact qBj _ kr (K _ _ ⟨m12, rfl, q, g.f7.f7.f7.f7.f7.f7.f7.f7, r9, r8, r6, r3⟩)
           ·intro A i;refine qAa 7 [(93, vB false)] ?_;cases i;exact qBj _ kr (K _ _ ⟨m12, rfl, q, g.f7.f7.f7.f7.f7.f7.f7.f7, r9, r8, r6, r3⟩)
         ·intro A i;refine qAa 10 [(84, vB false), (86, vB (s1 == (wr ((y5.2.1.length : Int) - 1))))] (qDk 86 i ?_ ?_)
          ·intro A i;refine qAa 7 [(93, vB (!((y5.2.2 == 12) == (decide (y6.2.2.2.2.2 > 1)))))] ?_;cases i;exact qBj _ kr (K _ _ ⟨m12, rfl, q, g.f7.f7.f7.f7.f7.f7.f7.f7, r9, r8, r6, r3⟩)
          ·intro A i;refine qAa 7 [(93, vB false)] ?_;cases i;exact qBj _ kr (K _ _ ⟨m12, rfl, q, g.f7.f7.f7.f7.f7.f7.f7.f7, r9, r8, r6, r3⟩)
       ·intro A i;refine qAa 7 [(74, vB false), (76, vB (s1 == (wr ((y5.2.1.length : Int) - 1))))] (qDk 76 i ?_ ?_)
        ·intro A i;refine qAa 8 [(84, vB (!((y5.2.2 == 0) == (y6.2.2.2.2.2 == 1))))] (qDk 84 i ?_ ?_)
         ·intro A i;refine qAa 9 [(93, vB true)] ?_;cases i;exact qBj _ kr (K _ _ ⟨m12, rfl, q, g.f7.f7.f7.f7.f7.f7.f7.f7, r9, r8, r6, r3⟩)
         ·intro A i;refine qAa 2 [(86, vB (s1 == (wr ((y5.2.1.length : Int) - 1))))] (qDk 86 i ?_ ?_)
          ·intro A i;refine qAa 7 [(93, vB (!((y5.2.2 == 12) == (decide (y6.2.2.2.2.2 > 1)))))] ?_;cases i;exact qBj _ kr (K _ _ ⟨m12, rfl, q, g.f7.f7.f7.f7.f7.f7.f7.f7, r9, r8, r6, r3⟩)
          ·intro A i;refine qAa 7 [(93, vB false)] ?_;cases i;exact qBj _ kr (K _ _ ⟨m12, rfl, q, g.f7.f7.f7.f7.f7.f7.f7.f7, r9, r8, r6, r3⟩)
        ·intro A i;refine qAa 10 [(84, vB false), (86, vB (s1 == (wr ((y5.2.1.length : Int) - 1))))] (qDk 86 i ?_ ?_)
         ·intro A i;refine qAa 7 [(93, vB (!((y5.2.2 == 12) == (decide (y6.2.2.2.2.2 > 1)))))] ?_;cases i;exact qBj _ kr (K _ _ ⟨m12, rfl, q, g.f7.f7.f7.f7.f7.f7.f7.f7, r9, r8, r6, r3⟩)
         ·intro A i;refine qAa 7 [(93, vB false)] ?_;cases i;exact qBj _ kr (K _ _ ⟨m12, rfl, q, g.f7.f7.f7.f7.f7.f7.f7.f7, r9, r8, r6, r3⟩)
    ·intro A i;refine qDh (qAi ?_);cases i;have ho := hBu1 _ rfl;have g := g.f6.f6.f6.f6.f6.f6.f6;refine qAi ?_;exact xE (K0_u1 _ _ ⟨(), m11, ho, rfl, q, g, r9, r8, r6, r3⟩)
 ·intro K;refine qAa 4 [(38, vB (decide ((y5.2.1.length : Int) < 1)))] (qDk 38 i ?_ ?_)
  ·intro A i;refine qAa 4 [(42, vB true)] ?_;cases i;exact qBj _ kr (K _ _ ⟨m8, rfl, ((((((q.t e2).t e3).t e4).t e5).t e6).t e7).t e8, g.f6.f5.f3.f6.f6.f6.f6, r9, r8.mono e8, r6.mono e8, r3.mono e8⟩)
  ·intro A i;refine qAa 4 [(42, vB (decide ((y5.2.1.length : Int) > 2)))] ?_;cases i;exact qBj _ kr (K _ _ ⟨m8, rfl, ((((((q.t e2).t e3).t e4).t e5).t e6).t e7).t e8, g.f6.f5.f3.f6.f6.f6.f6, r9, r8.mono e8, r6.mono e8, r3.mono e8⟩)
end
end Go.Proofs.YtiblcebedkllpaaGreatDoor
section
namespace Go.Dc
theorem zAz {σ β : Type} {f : σ → Option (σ ⊕ β)} (st : Nat → σ) (k : Nat) (res : β) (step : ∀ i, i < k → f (st i) = some (.inl (st (i + 1)))) (stop : f (st k) = some (.inr res)) {N : Nat} (hN : k < N) : qAz f N (st 0) = some res := by
 have key : ∀ d i M, i + d = k → d < M → qAz f M (st i) = some res := by
  intro d
  induction d with
  | zero => intro i M h hM; obtain ⟨M', rfl⟩ : ∃ M', M = M' + 1 := ⟨M - 1, by omega⟩; simp only [gU] at h; subst h; simp [qAz, stop]
  | succ d ih =>
   intro i M h hM
   obtain ⟨M', rfl⟩ : ∃ M', M = M' + 1 := ⟨M - 1, by omega⟩
   have := ih (i + 1) M' (by omega) (by omega)
   simp [qAz, step i (by omega), this]
 exact key k 0 N (by omega) hN
section
variable {ν : Type}
theorem zDu {l : List (Int × ν)} {k c : Int} {v : ν} (h : c ≠ k) : mget (l.map fun p => if k = p.1 then (k, v) else p) c = mget l c := by
 induction l with
 | nil => rfl
 | cons p l ih =>
  simp only [kE, mget]
  by_cases hk : k = p.1
  ·subst hk; rw [if_pos rfl, if_neg h, if_neg h, ih]
  ·rw [if_neg hk, ih]
theorem zEp {l : List (Int × ν)} {k : Int} {v : ν} (h : (mget l k).isSome = true) : mget (l.map fun p => if k = p.1 then (k, v) else p) k = some v := by
 induction l with
 | nil => cases h
 | cons p l ih =>
  simp only [kE, mget] at h ⊢
  by_cases hk : k = p.1
  ·subst hk; simp
  ·rw [if_neg hk] at h ⊢
   rw [if_neg hk]
   exact ih h
theorem zJn {l : List (Int × ν)} {k : Int} {v : ν} (h : mget l k = none) (c : Int) : mget (mins l k v) c = if c = k then some v else mget l c := by
 induction l with
 | nil => rfl
 | cons p l ih =>
  simp only [mget] at h
  split at h
  ·cases h
  ·rename_i hk
   simp only [mins]
   split
   ·simp only [mget]
   ·simp only [mget, ih h]
    by_cases hc : c = k
    ·subst hc; simp [hk]
    ·simp [hc]
theorem zIn (l : List (Int × ν)) (k : Int) (v : ν) (c : Int) : mget (mset l k v) c = if c = k then some v else mget l c := by
 unfold mset
 split
 ·rename_i h
  split
  ·rename_i hc; subst hc; exact zEp h
  ·rename_i hc; exact zDu hc
 ·rename_i h
  exact zJn (by simpa using h) c
def Srt (l : List (Int × ν)) : Prop := (l.map (·.1)).Pairwise (· < ·)
theorem Srt.nil : Srt ([] : List (Int × ν)) := List.Pairwise.nil
theorem Srt.mins {l : List (Int × ν)} {k : Int} {v : ν} (hs : Srt l) (h : mget l k = none) : Srt (mins l k v) := by
 induction l with
 | nil => simp [Srt, Go.Dc.mins]
 | cons p l ih =>
  have hs' := hs
  simp only [Srt, kE, k8] at hs
  simp only [mget] at h
  split at h
  ·cases h
  ·rename_i hk
   simp only [Go.Dc.mins]
   split
   ·rename_i hlt
    have hlt : k < p.1 := by simpa [KOrd.lt] using hlt
    refine k8.2 ⟨fun a ha => ?_, hs'⟩
    simp only [kE, jO] at ha
    rcases ha with rfl | ha
    ·exact hlt
    ·exact Int.lt_trans hlt (hs.1 a ha)
   ·rename_i hlt
    have hlt : ¬ k < p.1 := by simpa [KOrd.lt] using hlt
    refine k8.2 ⟨fun a ha => ?_, ih hs.2 h⟩
    obtain ⟨q, hq, rfl⟩ := fJ.1 ha
    rcases jO.1 ((zCd l k v).mem_iff.1 hq) with rfl | hq
    ·show p.1 < k; omega
    ·exact hs.1 _ (kS hq)
theorem Srt.mset {l : List (Int × ν)} (hs : Srt l) (k : Int) (v : ν) : Srt (mset l k v) := by
 unfold Go.Dc.mset
 split
 ·unfold Srt
  have : (l.map fun p => if k = p.1 then (k, v) else p).map (·.1) = l.map (·.1) := by
   rw [List.map_map]
   refine List.map_congr_left fun p _ => ?_
   simp only [Function.comp_apply]
   split
   ·rename_i h; exact h
   ·rfl
  rw [this]; exact hs
 ·rename_i h
  exact hs.mins (by simpa using h)
theorem Srt.out {l : List (Int × ν)} {c : Int} (h : ∀ a ∈ l.map (·.1), c < a) : mget l c = none := by
 rw [qWf]; intro hm; exact Int.lt_irrefl _ (h c hm)
theorem Srt.ext : ∀ {l k : List (Int × ν)}, Srt l → Srt k → (∀ c, mget l c = mget k c) → l = k
 | [], [], _, _, _ => rfl
 | [], q :: k, _, _, h => by have := h q.1; simp [mget] at this
 | p :: l, [], _, _, h => by have := h p.1; simp [mget] at this
 | p :: l, q :: k, hl, hk, h => by
  have hl' : (∀ a ∈ l.map (·.1), p.1 < a) ∧ Srt l := k8.1 hl
  have hk' : (∀ a ∈ k.map (·.1), q.1 < a) ∧ Srt k := k8.1 hk
  have h1 : p.1 = q.1 := by
   rcases Int.lt_trichotomy p.1 q.1 with hlt | he | hlt
   ·have := h p.1
    rw [Srt.out (l := q :: k) (c := p.1)] at this
    ·simp [mget] at this
    ·intro a ha
     rcases jO.1 ha with rfl | ha
     ·exact hlt
     ·exact Int.lt_trans hlt (hk'.1 a ha)
   ·exact he
   ·have := h q.1
    rw [Srt.out (l := p :: l) (c := q.1)] at this
    ·simp [mget] at this
    ·intro a ha
     rcases jO.1 ha with rfl | ha
     ·exact hlt
     ·exact Int.lt_trans hlt (hl'.1 a ha)
  have h2 : p.2 = q.2 := by have := h p.1; simpa [mget, h1] using this
  have h3 : l = k := by
   refine Srt.ext hl'.2 hk'.2 fun c => ?_
   by_cases hc : c = p.1
   ·rw [Srt.out (l := l) (fun a ha => hc ▸ hl'.1 a ha), Srt.out (l := k) (fun a ha => by rw [hc, h1]; exact hk'.1 a ha)]
   ·have := h c
    simpa [mget, hc, h1 ▸ hc] using this
  rw [h3, Prod.ext h1 h2]
def qPh (v : ν) (m : List (Int × ν)) (xs : List UInt8) : List (Int × ν) := xs.foldl (fun m x => mset m (x.toNat : Int) v) m
theorem qYw {v : ν} : ∀ {xs : List UInt8} {m : List (Int × ν)}, Srt m → Srt (qPh v m xs)
 | [], _, h => h
 | _ :: xs, _, h => qYw (xs := xs) (h.mset _ _)
theorem qZb {v : ν} (c : Int) : ∀ (xs : List UInt8) (m : List (Int × ν)), mget (qPh v m xs) c = if xs.any (fun x => decide ((x.toNat : Int) = c)) = true then some v else mget m c
 | [], m => by simp [qPh]
 | x :: xs, m => by
  have := qZb (v := v) c xs (mset m (x.toNat : Int) v)
  rw [show qPh v m (x :: xs) = qPh v (mset m (x.toNat : Int) v) xs from rfl, this, zIn]
  by_cases h1 : xs.any (fun x => decide ((x.toNat : Int) = c)) = true
  ·simp [h1]
  ·by_cases h2 : (x.toNat : Int) = c
   ·subst h2; simp [h1]
   ·have h3 : ¬ c = (x.toNat : Int) := fun e => h2 e.symm
    simp [h1, h2, h3]
end
end Go.Dc
namespace Go.Proofs.YtiblcebedkllpaaGreatDoor
open Go Go.Dc
def allK : List (Int × ByteArray) := [(1, ⟨#[97, 98, 99, 100, 101, 102, 103, 104, 105, 106, 107, 108, 109, 110, 111, 112, 113, 114, 115, 116, 117, 118, 119, 120, 121, 122]⟩), (2, ⟨#[48, 49, 50, 51, 52, 53, 54, 55, 56, 57]⟩), (3, ⟨#[95]⟩), (4, ⟨#[46]⟩), (5, ⟨#[9, 10, 13, 32]⟩), (6, ⟨#[35]⟩), (7, ⟨#[34]⟩), (8, ⟨#[59, 44, 40, 41, 43, 45, 42, 47, 37, 60, 61]⟩)]
def kdL : List (Int × Int) := [(9, 5), (10, 5), (13, 5), (32, 5), (34, 7), (35, 6), (37, 8), (40, 8), (41, 8), (42, 8), (43, 8), (44, 8), (45, 8), (46, 4), (47, 8), (48, 2), (49, 2), (50, 2), (51, 2), (52, 2), (53, 2), (54, 2), (55, 2), (56, 2), (57, 2), (59, 8), (60, 8), (61, 8), (95, 3), (97, 1), (98, 1), (99, 1), (100, 1), (101, 1), (102, 1), (103, 1), (104, 1), (105, 1), (106, 1), (107, 1), (108, 1), (109, 1), (110, 1), (111, 1), (112, 1), (113, 1), (114, 1), (115, 1), (116, 1), (117, 1), (118, 1), (119, 1), (120, 1), (121, 1), (122, 1)]
def kdI (c : Int) : Int := (mget kdL c).getD 0
def inE (e : Int × ByteArray) (c : Int) : Bool := e.2.data.toList.any fun x => decide ((x.toNat : Int) = c)
def layK (m : List (Int × Int)) (k : List (Int × ByteArray)) : List (Int × Int) := k.foldl (fun m e => qPh e.1 m e.2.data.toList) m
theorem zFs : ∀ {k : List (Int × ByteArray)} {m : List (Int × Int)}, Srt m → Srt (layK m k)
 | [], _, h => h
 | _ :: k, _, h => zFs (k := k) (qYw h)
theorem zFu (c : Int) : ∀ (k : List (Int × ByteArray)) (m : List (Int × Int)), (∀ e ∈ k, inE e c = true → e.1 = kdI c) → (∀ v, mget m c = some v → v = kdI c) →
  mget (layK m k) c = if (k.any fun e => inE e c) = true then some (kdI c) else mget m c
 | [], m, _, _ => by simp [layK]
 | e :: k, m, h, hm => by
  have hg := qZb (v := e.1) c e.2.data.toList m
  have := zFu c k (qPh e.1 m e.2.data.toList) (fun e' he => h e' (jY _ he)) (fun v hv => by
   rw [hg] at hv
   split at hv
   ·rename_i hi
    rw [← jF hv]
    exact h e (jT ..) hi
   ·exact hm v hv)
  rw [show layK m (e :: k) = layK (qPh e.1 m e.2.data.toList) k from rfl, this, hg]
  by_cases h1 : (k.any fun e => inE e c) = true
  ·simp [h1]
  ·by_cases h2 : inE e c = true
   ·have := h e (jT ..) h2
    have h2' : (e.2.data.toList.any fun x => decide ((x.toNat : Int) = c)) = true := h2
    simp only [List.any_cons, h2, Bool.true_or, jH, h1, h2', this]
    simp
   ·have h2' : (e.2.data.toList.any fun x => decide ((x.toNat : Int) = c)) = false := by simpa [inE] using h2
    simp only [List.any_cons, h1, h2', Bool.or_false, jB, jE]
    simp [h2]
theorem zFr : (allK.all fun e => e.2.data.toList.all fun x => decide (e.1 = kdI (x.toNat : Int))) = true ∧ (kdL.all fun p => allK.any fun e => inE e p.1) = true := ⟨by kernel_rfl, by kernel_rfl⟩
theorem kd_in {e : Int × ByteArray} {c : Int} (he : e ∈ allK) (h : inE e c = true) : e.1 = kdI c := by
 have := jS.1 zFr.1 e he
 obtain ⟨x, hx, hc⟩ := gQ.1 h
 have h2 := jS.1 this x hx
 have hc : (x.toNat : Int) = c := by simpa using hc
 subst hc
 simpa using h2
theorem zMd (c : Int) : mget kdL c = if (allK.any fun e => inE e c) = true then some (kdI c) else none := by
 cases h : mget kdL c with
 | none =>
  rw [if_neg]
  intro ha
  obtain ⟨e, he, hi⟩ := gQ.1 ha
  have h1 := kd_in he hi
  have h0 : kdI c = 0 := by simp [kdI, h]
  have : (allK.all fun e => decide (e.1 ≠ 0)) = true := by kernel_rfl
  have := jS.1 this e he
  simp [h1, h0] at this
 | some v =>
  have hm : (c, v) ∈ kdL := (qZz (l := kdL) (by
   have : decide ((kdL.map (·.1)).Nodup) = true := by kernel_rfl
   simpa using this)).1 h
  have := jS.1 zFr.2 _ hm
  rw [if_pos this]
  simp [kdI, h]
theorem zMb : Srt kdL := by
 have : decide ((kdL.map (·.1)).Pairwise (· < ·)) = true := by kernel_rfl
 simpa [Srt] using this
theorem zHx {k : List (Int × ByteArray)} (h : k.Perm allK) : layK [] k = kdL := by
 refine Srt.ext (zFs Srt.nil) zMb fun c => ?_
 rw [zFu c k [] (fun e he hi => kd_in (h.mem_iff.1 he) hi) (fun v hv => by cases hv), zMd]
 have : (k.any fun e => inE e c) = (allK.any fun e => inE e c) := by
  rw [jR, gQ, gQ]
  exact ⟨fun ⟨e, he, hi⟩ => ⟨e, h.mem_iff.1 he, hi⟩, fun ⟨e, he, hi⟩ => ⟨e, h.mem_iff.2 he, hi⟩⟩
 rw [this]
 rfl
theorem zKj {N : Nat} {e : Int × ByteArray} (m : List (Int × Int)) (he : e.2.size ≤ 26) (hN : 30 < N) : qGk N (some e) (some m) = some (.inl (some (qPh e.1 m e.2.data.toList))) := by
 have hsz : e.2.data.toList.length = e.2.size := by simp
 have hb : bytesOf e.2 = some e.2.data.toList := by unfold bytesOf; rw [if_pos (by simp only [maxLen]; omega)]
 simp only [qGk, hb, j0]
 have key := zAz (f := qKl N e e.2.data.toList) (fun i => ((i : Int), some (qPh e.1 m (e.2.data.toList.take i)))) e.2.data.toList.length (some (qPh e.1 m e.2.data.toList)) (fun i hi => ?_) ?_ (N := N) (by omega)
 ·simp only [Int.natCast_zero, List.take_zero] at key
  rw [show qPh e.1 m [] = m from rfl] at key
  rw [key]; rfl
 ·simp only [qKl]
  rw [if_pos (by simpa using hi), qFt hi]
  simp only [j0, qLl, kC]
  rw [wi64 (by omega) (by omega), kO hi]
  simp [qPh]
 ·simp only [qKl]
  rw [if_neg (by simp), List.take_length]
theorem qYt {N : Nat} (hN : 30 < N) : ∀ (k : List (Int × ByteArray)) (m : List (Int × Int)), (∀ e ∈ k, e.2.size ≤ 26) → qOr (qGk N) k (some m) = some (some (layK m k))
 | [], m, _ => by simp [qOr, qGk, layK]
 | e :: k, m, h => by
  have := qYt hN k (qPh e.1 m e.2.data.toList) (fun e' he => h e' (jY _ he))
  simp only [qOr, zKj m (h e (jT ..)) hN, j0, this]
  rfl
theorem qZs {N : Nat} (hN : 30 < N) : qLu N = some (some kdL) := by
 have h8 : ∀ e ∈ allK, e.2.size ≤ 26 := by
  have : (allK.all fun e => decide (e.2.size ≤ 26)) = true := by kernel_rfl
  intro e he
  simpa using jS.1 this e he
 have key : qTt (qGk N) allK (some []) = some (some kdL) := zCh fun k hk => by
  rw [qYt hN k [] (fun e he => h8 e (hk.mem_iff.1 he)), zHx hk]
 have h1 : qLu N = (qTt (qGk N) allK (some [])).bind fun o1 => some o1 := by kernel_rfl
 rw [h1, key]; rfl
end Go.Proofs.YtiblcebedkllpaaGreatDoor
end
namespace Go.Proofs.YtiblcebedkllpaaGreatDoor
section
open Go Go.Dc
theorem qCi (s : ByteArray) : s.data.toList.length = s.size := by simp
theorem qFb {s : ByteArray} {i : Nat} (h : i < s.data.toList.length) : idxB s (i : Int) = some (s.data.toList[i]) := by
 have h' : i < s.size := by simpa using h
 rw [qZp h']
 simp [ByteArray.getElem_eq_getElem_data]
def tw (p : UInt8 → Bool) (l : List UInt8) (a : Nat) : Nat := a + ((l.drop a).takeWhile p).length
section
variable {p : UInt8 → Bool} {l : List UInt8} {a : Nat}
theorem qQs (h : a ≤ l.length) : a ≤ tw p l a ∧ tw p l a ≤ l.length := by
 have := (fE p (l := l.drop a)).length_le
 simp only [gZ] at this
 unfold tw; omega
theorem qRq (h : a < l.length) (hb : p l[a] = true) : tw p l (a + 1) = tw p l a := by
 unfold tw
 rw [jI h, kP hb]
 simp only [jC]; omega
theorem qRt (h : a < l.length) (hb : p l[a] = false) : tw p l a = a := by
 unfold tw
 rw [jI h, gA (by simp [hb])]
 simp
theorem qYf (h : l.length ≤ a) : tw p l a = a := by
 unfold tw
 rw [jN h]; rfl
theorem zHw : ∀ (d a : Nat), a + d = l.length → ∀ h : tw p l a < l.length, p (l[tw p l a]'h) = false
 | 0, a, hd, h => by rw [qYf (by omega)] at h; omega
 | d + 1, a, hd, h => by
  have ha : a < l.length := by omega
  cases hb : p l[a] with
  | true =>
   have e := qRq ha hb
   have := zHw d (a + 1) (by omega) (by rw [e]; exact h)
   simpa only [e] using this
  | false =>
   have e := qRt ha hb
   simpa only [e] using hb
theorem qUh {β : Type} {f : Int → Option (Int ⊕ β)} (out : Nat → β) (go : ∀ i : Nat, ∀ h : i < l.length, p l[i] = true → f (i : Int) = some (.inl ((i : Int) + 1)))
  (no : ∀ i : Nat, ∀ h : i < l.length, p l[i] = false → f (i : Int) = some (.inr (out i))) (en : f (l.length : Int) = some (.inr (out l.length))) :
  ∀ (d a N : Nat), a + d = l.length → d < N → qAz f N (a : Int) = some (out (tw p l a))
 | d, a, 0, _, h => by omega
 | 0, a, N + 1, hd, h => by
  have : a = l.length := by omega
  subst this
  rw [qYf (jW _)]; simp [qAz, en]
 | d + 1, a, N + 1, hd, h => by
  have ha : a < l.length := by omega
  cases hb : p l[a] with
  | true =>
   have := qUh out go no en d (a + 1) N (by omega) (by omega)
   rw [qRq ha hb] at this
   simpa [qAz, go a ha hb] using this
  | false =>
   rw [qRt ha hb]; simp [qAz, no a ha hb]
end
def kd (c : UInt8) : Int := kdI (c.toNat : Int)
def inK (ks : List Int) (c : UInt8) : Bool := ks.any fun k => kd c == k
theorem qZa {N : Nat} {s : ByteArray} {ks : List Int} {i : Nat} (h : i < s.data.toList.length) (hk : ks.length ≤ 10) (hN : 10 < N) : qAz (qKf N s (some kdL) ks (i : Int)) N (false, 0) = some (inK ks (s.data.toList[i])) := by
 have key := zAz (f := qKf N s (some kdL) ks (i : Int)) (fun j => ((ks.take j).any (fun k => kd (s.data.toList[i]) == k), (j : Int))) ks.length (inK ks (s.data.toList[i])) (fun j hj => ?_) ?_ (N := N) (by omega)
 ·simpa using key
 ·simp only [qKf]
  rw [if_pos (by simpa using hj), qFt hj, qFb h]
  simp only [j0]
  rw [wi64 (by omega) (by omega), kO hj, List.any_append]
  cases (ks.take j).any (fun k => kd (s.data.toList[i]) == k)
  ·simp [kd, kdI, qBc]
  ·simp
 ·simp only [qKf]
  rw [if_neg (by simp), List.take_length]
  rfl
theorem qWz {N : Nat} {s : ByteArray} {ks : List Int} {i : Nat} (hi : i ≤ s.data.toList.length) (hl : s.data.toList.length < 1000000) (hk : ks.length ≤ 10) (hN : s.data.toList.length + 10 < N) :
  qKi N s (i : Int) (some kdL) ks = some ((tw (inK ks) s.data.toList i : Nat) : Int) := by
 have hs := qCi s
 have key := qUh (f := qKa N s (some kdL) ks) (l := s.data.toList) (p := inK ks) (fun n => (n : Int)) (fun j hj hb => by
   simp only [qKa]
   rw [if_pos (by simp only [jA]; omega), qZa hj hk (by omega), hb]
   simp only [j0]
   rw [wi64 (by omega) (by omega)]
   rfl) (fun j hj hb => by
   simp only [qKa]
   rw [if_pos (by simp only [jA]; omega), qZa hj hk (by omega), hb]
   rfl) (by
   simp only [qKa]
   rw [if_neg (by simp only [jA]; omega)]) (s.data.toList.length - i) i N (by omega) (by omega)
 unfold qKi
 rw [key]
 rfl
end
section
open Go Go.Dc
theorem zIc (c : UInt8) : (qBc (some kdL) (c.toNat : Int)).getD 0 = kd c := rfl
theorem qHn {l : List UInt8} {i : Nat} (h : i < l.length) : l.getD i 0 = l[i] := by simp [kJ, h]
theorem zFe {β : Type} {p : UInt8 → Bool} {l : List UInt8} {a0 : Nat} {f : Int → Option (Int ⊕ β)} (out : Nat → β) (go : ∀ i : Nat, ∀ h : i < l.length, p l[i] = true → f (i : Int) = some (.inl ((i : Int) + 1)))
  (no : ∀ i : Nat, ∀ h : i < l.length, a0 ≤ i → p l[i] = false → f (i : Int) = some (.inr (out i))) (en : f (l.length : Int) = some (.inr (out l.length))) :
  ∀ (d a N : Nat), a0 ≤ a → a + d = l.length → d < N → qAz f N (a : Int) = some (out (tw p l a))
 | d, a, 0, _, _, h => by omega
 | 0, a, N + 1, _, hd, h => by
  have : a = l.length := by omega
  subst this
  rw [qYf (jW _)]; simp [qAz, en]
 | d + 1, a, N + 1, h0, hd, h => by
  have ha : a < l.length := by omega
  cases hb : p l[a] with
  | true =>
   have := zFe out go no en d (a + 1) N (by omega) (by omega) (by omega)
   rw [qRq ha hb] at this
   simpa [qAz, go a ha hb] using this
  | false =>
   rw [qRt ha hb]; simp [qAz, no a ha h0 hb]
def numS (n : Int) (c : UInt8) : Int := if 9007199254740993 < 10 * n + ((c.toNat : Int) - 48) then 9007199254740993 else 10 * n + ((c.toNat : Int) - 48)
def numL (ds : List UInt8) : Int := ds.foldl numS 0
def qSl (c : UInt8) : Bool := decide (32 ≤ c.toNat) && decide (c.toNat ≤ 126) && c != 34
def zDg : Int × ByteArray × Int × Int := (0, ⟨#[]⟩, 0, 0)
def qVp (l : List UInt8) (i : Nat) : Nat := if l.getD i 0 = 61 ∧ l.getD (i + 1) 0 = 61 then i + 2 else i + 1
def tokP (s : ByteArray) (i : Nat) : (Int × ByteArray × Int × Int) × Int × Int :=
 if kd (s.data.toList.getD i 0) = 1 then
  if tw (inK [1, 2, 3]) s.data.toList i - i > 24 then (zDg, 0, 2) else ((1, s.extract i (tw (inK [1, 2, 3]) s.data.toList i), 0, 0), ((tw (inK [1, 2, 3]) s.data.toList i : Nat) : Int), 0)
 else if kd (s.data.toList.getD i 0) = 2 then
  if numL ((s.data.toList.drop i).takeWhile (inK [2])) > 9007199254740992 then (zDg, 0, 3) else ((2, ⟨#[]⟩, numL ((s.data.toList.drop i).takeWhile (inK [2])), 0), ((tw (inK [2]) s.data.toList i : Nat) : Int), 0)
 else if kd (s.data.toList.getD i 0) = 7 then
  if s.data.toList.getD (tw qSl s.data.toList (i + 1)) 0 = 34 then ((3, s.extract (i + 1) (tw qSl s.data.toList (i + 1)), 0, 0), ((tw qSl s.data.toList (i + 1) + 1 : Nat) : Int), 0) else (zDg, 0, 9)
 else if kd (s.data.toList.getD i 0) = 8 then
  ((4, s.extract i (qVp s.data.toList i), 0, 0), ((qVp s.data.toList i : Nat) : Int), 0)
 else (zDg, 0, 9)
theorem zAm : ∀ c : UInt8, kd c = 2 → 48 ≤ c.toNat ∧ c.toNat ≤ 57 := by
 have h : ((List.range 256).all fun n => !(decide (kd (UInt8.ofNat n) = 2)) || (decide (48 ≤ n) && decide (n ≤ 57))) = true := by kernel_rfl
 intro c hc
 have := jS.1 h c.toNat (gS.2 c.toNat_lt)
 simpa [hc] using this
theorem qZr {s : ByteArray} {p : UInt8 → Bool} {i : Nat} : (s.extract i (tw p s.data.toList i)).data.toList = (s.data.toList.drop i).takeWhile p := by
 simp only [ByteArray.data_extract, gF]
 have h := List.prefix_iff_eq_take.1 (List.takeWhile_prefix p (l := s.data.toList.drop i))
 rw [kT, show tw p s.data.toList i - i = ((s.data.toList.drop i).takeWhile p).length by unfold tw; omega]
 exact h.symm
theorem qXt (l : List UInt8) (c : UInt8) : numL (l ++ [c]) = numS (numL l) c := by simp [numL]
theorem zFb {p : UInt8 → Bool} : ∀ {l : List UInt8} {c : UInt8}, c ∈ l.takeWhile p → p c = true
 | [], _, h => by simp at h
 | x :: l, c, h => by
  cases hx : p x with
  | true =>
   rw [kP hx] at h
   rcases jO.1 h with rfl | h
   ·exact hx
   ·exact zFb h
  | false => rw [gA (by simp [hx])] at h; cases h
theorem zKh {N : Nat} {ds : List UInt8} (hd : ∀ c ∈ ds, kd c = 2) (hl : ds.length < 1000000) (hN : ds.length < N) : qAz (qJn N ds) N (0, 0) = some (numL ds) := by
 have hb : ∀ j, j ≤ ds.length → 0 ≤ numL (ds.take j) ∧ numL (ds.take j) ≤ 9007199254740993 := by
  intro j
  induction j with
  | zero => intro _; simp [numL]
  | succ j ih =>
   intro hj
   have := ih (by omega)
   rw [kO (by omega)]
   have hc := zAm _ (hd _ (kG (show j < ds.length by omega)))
   rw [qXt]
   unfold numS
   split <;> omega
 have key := zAz (f := qJn N ds) (fun j => (numL (ds.take j), (j : Int))) ds.length (numL ds) (fun j hj => ?_) ?_ (N := N) (by omega)
 ·exact key
 ·have hc := zAm _ (hd _ (kG hj))
  have h0 := hb j (by omega)
  simp only [qJn]
  rw [if_pos (by simpa using hj), qFt hj]
  simp only [j0]
  rw [wu8 (by omega) (by omega), wi64 (x := 10 * numL (ds.take j)) (by omega) (by omega), wi64 (x := ((ds[j]).toNat : Int) - 48) (by omega) (by omega), wi64 (x := (j : Int) + 1) (by omega) (by omega), wi64 (by omega) (by omega), kO hj, qXt]
  rfl
 ·simp only [qJn]
  rw [if_neg (by simp), List.take_length]
theorem qMj {s : ByteArray} {i e : Nat} (h1 : i ≤ e) (h2 : e ≤ s.data.toList.length) : subB s (i : Int) (e : Int) = some (s.extract i e) := by
 have := qCi s
 rw [qRk (by omega) (by omega) (by omega)]
 simp
theorem zMt {N : Nat} {s : ByteArray} {i j : Nat} (hj : j < s.data.toList.length) (hl : s.data.toList.length < 1000000) (hb : qSl (s.data.toList[j]) = true) : qHq N s (i : Int) (j : Int) = some (.inl ((j : Int) + 1)) := by
 have hs := qCi s
 simp only [qSl, jP, jA, gG, ne_eq] at hb
 obtain ⟨⟨h1, h2⟩, h3⟩ := hb
 have h3' : ¬ ((s.data.toList[j]).toNat : Int) = 34 := fun e => h3 (UInt8.toNat_inj.1 (by show _ = 34; omega))
 simp only [qHq, qFb hj, j0]
 rw [if_pos (by simp only [jA]; omega), if_pos (by simp only [jA]; omega)]
 simp only [j0]
 rw [if_pos (by simp only [jA]; omega), if_neg (by simpa using h3'), wi64 (by omega) (by omega)]
theorem zMe {N : Nat} {s : ByteArray} {i j : Nat} (hi : i < s.data.toList.length) (hj : j < s.data.toList.length) (hl : s.data.toList.length < 1000000) (hij : i + 1 ≤ j) (hb : qSl (s.data.toList[j]) = false) :
  qHq N s (i : Int) (j : Int) = some (.inr (if s.data.toList.getD j 0 = 34 then (.inr ((3, s.extract (i + 1) j, 0, 0), ((j + 1 : Nat) : Int), 0)) else (.inl ()))) := by
 have hs := qCi s
 simp only [qHq, qFb hj, j0, qHn hj]
 rw [if_pos (by simp only [jA]; omega)]
 by_cases h34 : s.data.toList[j] = 34
 ·rw [h34]
  simp only [show ((34 : UInt8).toNat : Int) = 34 from rfl]
  rw [wi64 (x := (i : Int) + 1) (by omega) (by omega), wi64 (by omega) (by omega), ← kL, qMj hij (by omega)]
  rfl
 ·have h3' : ¬ ((s.data.toList[j]).toNat : Int) = 34 := fun e => h34 (UInt8.toNat_inj.1 (by show _ = 34; omega))
  rw [if_neg h34]
  simp only [qSl, Bool.and_eq_false_iff, decide_eq_false_iff_not, bne_eq_false_iff_eq, h34, or_false] at hb
  by_cases h1 : 32 ≤ (s.data.toList[j]).toNat
  ·rw [if_pos (by simp only [jA]; omega)]
   simp only [j0]
   rw [if_neg (by simp only [jA]; omega)]
  ·rw [if_neg (by simp only [jA]; omega)]
   simp
theorem qXl {s : ByteArray} {i : Nat} (h1 : i ≤ s.data.toList.length) : subB s (i : Int) (s.size : Int) = some (s.extract i s.data.toList.length) := by
 have hs := qCi s
 rw [← qMj h1 (jW _), hs]
theorem qDz (x y : ByteArray) : (x.toList == y.toList) = decide (x = y) := by
 rw [jR]
 simp only [jV, jA]
 constructor
 ·intro h
  rw [ByteArray.toList_eq, ByteArray.toList_eq] at h
  exact Go.WideShapes.bytes_inj h
 ·rintro rfl; rfl
theorem zJa {N : Nat} {s : ByteArray} {i : Nat} (hi : i < s.data.toList.length) : qJs N (s.extract i s.data.toList.length) (⟨#[61, 61]⟩ : ByteArray) = some (decide (s.data.toList.getD i 0 = 61 ∧ s.data.toList.getD (i + 1) 0 = 61)) := by
 have hs := qCi s
 have hsz : (s.extract i s.data.toList.length).size = s.data.toList.length - i := by rw [ByteArray.size_extract]; omega
 simp only [qJs, qFl, hsz, show (⟨#[61, 61]⟩ : ByteArray).size = 2 from rfl]
 by_cases h : i + 1 < s.data.toList.length
 ·have hd : ((s.extract i s.data.toList.length).extract 0 2).data.toList = [s.data.toList[i], s.data.toList[i + 1]] := by
   simp only [ByteArray.data_extract, gF, kT, jZ]
   rw [List.take_take, jI hi, jI h]
   have : min (2 - 0) (s.data.toList.length - i) = 2 := by omega
   rw [this]; rfl
  have hsub : subB (s.extract i s.data.toList.length) 0 ((2 : Nat) : Int) = some ((s.extract i s.data.toList.length).extract 0 2) := by
   have := qMj (s := s.extract i s.data.toList.length) (i := 0) (e := 2) (by omega) (by rw [qCi, hsz]; omega)
   simpa only [Int.natCast_zero] using this
  rw [if_pos (by simp only [jA]; omega), hsub]
  simp only [j0, qDz]
  rw [qHn hi, qHn h]
  generalize (s.extract i s.data.toList.length).extract 0 2 = X at hd
  refine congrArg some (decide_eq_decide.2 ?_)
  constructor
  ·intro e
   rw [e] at hd
   have hd' : [(61 : UInt8), 61] = [s.data.toList[i], s.data.toList[i + 1]] := hd
   simp only [k9, and_true] at hd'
   exact ⟨hd'.1.symm, hd'.2.symm⟩
  ·rintro ⟨e1, e2⟩
   apply Go.WideShapes.bytes_inj
   rw [hd, e1, e2]
 ·rw [if_neg (by simp only [jA]; omega)]
  have h0 : s.data.toList.getD (i + 1) 0 = 0 := by rw [kJ, List.getElem?_eq_none (by omega)]; rfl
  rw [h0]
  simp
theorem zKw {N : Nat} {s : ByteArray} {i : Nat} (hi : i < s.data.toList.length) (hl : s.data.toList.length < 1000000) (hN : s.data.toList.length + 20 < N) : qOt N s (i : Int) (some kdL) = some (tokP s i) := by
 have hs := qCi s
 simp only [qOt, qFb hi, j0, zIc, tokP, qHn hi, jV]
 by_cases h1 : kd (s.data.toList[i]) = 1
 ·simp only [h1, jH]
  have hb := qQs (p := inK [1, 2, 3]) (l := s.data.toList) (a := i) (by omega)
  rw [qWz (by omega) hl (by simp) (by omega)]
  simp only [j0]
  rw [wi64 (by omega) (by omega), qMj hb.1 hb.2]
  by_cases h : tw (inK [1, 2, 3]) s.data.toList i - i > 24
  ·rw [if_pos (by simp only [jA]; omega), if_pos h]; rfl
  ·rw [if_neg (by simp only [jA]; omega), if_neg h]; rfl
 simp only [h1, jE]
 by_cases h2 : kd (s.data.toList[i]) = 2
 ·simp only [h2, jH]
  have hb := qQs (p := inK [2]) (l := s.data.toList) (a := i) (by omega)
  have hx := qCi (s.extract i (tw (inK [2]) s.data.toList i))
  have he := qZr (s := s) (p := inK [2]) (i := i)
  have hlen : ((s.data.toList.drop i).takeWhile (inK [2])).length ≤ s.data.toList.length := by
   have := (fE (inK [2]) (l := s.data.toList.drop i)).length_le
   simp only [gZ] at this; omega
  rw [qWz (by omega) hl (by simp) (by omega)]
  simp only [j0]
  rw [qMj hb.1 hb.2]
  simp only [j0]
  have hbo : bytesOf (s.extract i (tw (inK [2]) s.data.toList i)) = some ((s.data.toList.drop i).takeWhile (inK [2])) := by
   unfold bytesOf; rw [← he, if_pos]; rw [← hx, he]; simp only [maxLen]; omega
  rw [hbo]
  simp only [j0]
  rw [zKh (fun c hc => ?_) (by omega) (by omega)]
  ·simp only [j0, jA]
   split <;> rfl
  ·have := zFb hc
   simpa [inK] using this
 simp only [h2, jE]
 by_cases h7 : kd (s.data.toList[i]) = 7
 ·simp only [h7, jH]
  have key := zFe (a0 := i + 1) (f := qHq N s (i : Int)) (l := s.data.toList) (p := qSl) (fun e => if s.data.toList.getD e 0 = 34 then (.inr ((3, s.extract (i + 1) e, 0, 0), ((e + 1 : Nat) : Int), 0)) else (.inl ()))
   (fun j hj hb => zMt hj hl hb) (fun j hj h0 hb => zMe hi hj hl h0 hb) (by
    simp only [qHq]
    rw [if_neg (by simp only [jA]; omega), if_neg (by simp)]
    rfl) (s.data.toList.length - (i + 1)) (i + 1) N (jW _) (by omega) (by omega)
  rw [wi64 (x := (i : Int) + 1) (by omega) (by omega), ← kL, key]
  simp only [j0]
  split
  ·rename_i h; split at h <;> simp_all [zDg]
  ·rename_i h; split at h <;> simp_all
 simp only [h7, jE]
 by_cases h8 : kd (s.data.toList[i]) = 8
 ·simp only [h8, jH]
  rw [qXl (by omega), wi64 (x := (i : Int) + 1) (by omega) (by omega)]
  simp only [j0]
  rw [zJa hi]
  simp only [j0, jA]
  by_cases h : s.data.toList.getD i 0 = 61 ∧ s.data.toList.getD (i + 1) 0 = 61
  ·have hlt : i + 1 < s.data.toList.length := by
    rcases fA (i + 1) s.data.toList.length with h' | h'
    ·exact h'
    ·have h0 : s.data.toList.getD (i + 1) 0 = 0 := by rw [kJ, List.getElem?_eq_none h']; rfl
     rw [h0] at h; exact absurd h.2 (by decide)
   have hE : qVp s.data.toList i = i + 2 := by rw [qVp, if_pos h]
   rw [if_pos h, wi64 (by omega) (by omega), hE]
   simp only [j0]
   rw [show ((i : Int) + 1 + 1) = ((i + 2 : Nat) : Int) by omega, qMj (by omega) (by omega)]
   rfl
  ·have hE : qVp s.data.toList i = i + 1 := by rw [qVp, if_neg h]
   rw [if_neg h, hE]
   simp only [j0]
   rw [← kL, qMj (by omega) (by omega)]
   rfl
 simp only [h8, jE]
 rfl
end
section
open Go Go.Dc
theorem zLr {p : UInt8 → Bool} {l : List UInt8} (h : ∀ c ∈ l, p c = true) : tw p l 0 = l.length := by
 unfold tw
 have : l.takeWhile p = l := by
  induction l with
  | nil => rfl
  | cons c l ih => rw [kP (h c (jT ..)), ih fun d hd => h d (jY _ hd)]
 simp [this]
end
section
open Go Go.Dc
abbrev Tok := Int × ByteArray × Int × Int
theorem zEw {ks : List Int} {k : Int} {c : UInt8} (hk : k ∈ ks) (h : kd c = k) : inK ks c = true := by
 unfold inK; exact gQ.2 ⟨k, hk, by simp [h]⟩
theorem qWe {p : UInt8 → Bool} {l : List UInt8} {a : Nat} (h : a < l.length) (hp : p l[a] = true) : a < tw p l a := by
 rw [← qRq h hp]; have := (qQs (p := p) (l := l) (a := a + 1) (by omega)).1; omega
theorem qTz {l : List UInt8} {i : Nat} (h : l.getD i 0 ≠ 0) : i < l.length := by
 rcases fA i l.length with h' | h'
 ·exact h'
 ·exfalso; apply h; rw [kJ, List.getElem?_eq_none h']; rfl
theorem zAa {s : ByteArray} {i : Nat} (hi : i < s.data.toList.length) (h : (tokP s i).2.2 = 0) : ∃ e : Nat, (tokP s i).2.1 = (e : Int) ∧ i < e ∧ e ≤ s.data.toList.length ∧
  (((tokP s i).1.1 = 1 ∨ (tokP s i).1.1 = 4) ∧ (tokP s i).1.2.1 = s.extract i e ∨ (tokP s i).1.1 = 2 ∧ (tokP s i).1.2.1 = ⟨#[]⟩ ∨ (tokP s i).1.1 = 3 ∧ (tokP s i).1.2.1.size + i < e) := by
 have hs := qCi s
 unfold tokP at h ⊢
 rw [qHn hi] at h ⊢
 by_cases h1 : kd (s.data.toList[i]) = 1
 ·rw [if_pos h1] at h ⊢
  split at h
  ·cases h
  ·rename_i h24
   rw [if_neg h24]
   have hb := qQs (p := inK [1, 2, 3]) (l := s.data.toList) (a := i) (by omega)
   exact ⟨_, rfl, qWe hi (zEw (by simp) h1), hb.2, .inl ⟨.inl rfl, rfl⟩⟩
 rw [if_neg h1] at h ⊢
 by_cases h2 : kd (s.data.toList[i]) = 2
 ·rw [if_pos h2] at h ⊢
  split at h
  ·cases h
  ·rename_i h24
   rw [if_neg h24]
   have hb := qQs (p := inK [2]) (l := s.data.toList) (a := i) (by omega)
   exact ⟨_, rfl, qWe hi (zEw (by simp) h2), hb.2, .inr (.inl ⟨rfl, rfl⟩)⟩
 rw [if_neg h2] at h ⊢
 by_cases h7 : kd (s.data.toList[i]) = 7
 ·rw [if_pos h7] at h ⊢
  split at h
  ·rename_i h24
   rw [if_pos h24]
   have hb := qQs (p := qSl) (l := s.data.toList) (a := i + 1) (by omega)
   have hlt : tw qSl s.data.toList (i + 1) < s.data.toList.length := qTz (by rw [h24]; decide)
   refine ⟨_, rfl, by omega, by omega, .inr (.inr ⟨rfl, ?_⟩)⟩
   simp only [ByteArray.size_extract]
   omega
  ·cases h
 rw [if_neg h7] at h ⊢
 by_cases h8 : kd (s.data.toList[i]) = 8
 ·rw [if_pos h8] at h ⊢
  refine ⟨_, rfl, ?_, ?_, .inl ⟨.inr rfl, rfl⟩⟩
  ·unfold qVp; split <;> omega
  ·unfold qVp
   split
   ·rename_i hh
    have : i + 1 < s.data.toList.length := qTz (by rw [hh.2]; decide)
    omega
   ·omega
 rw [if_neg h8] at h
 cases h
def qIq (c : UInt8) : Bool := c != 10
def tokG : Nat → ByteArray → Nat → (Int × Int) ⊕ List Tok
 | 0, _, _ => .inr []
 | k + 1, s, i =>
  if tw (inK [5]) s.data.toList i = s.data.toList.length then .inr [(5, ⟨#[]⟩, 0, (s.data.toList.length : Int))]
  else if kd (s.data.toList.getD (tw (inK [5]) s.data.toList i) 0) = 6 then tokG k s (tw qIq s.data.toList (tw (inK [5]) s.data.toList i))
  else if (tokP s (tw (inK [5]) s.data.toList i)).2.2 ≠ 0 then .inl ((tw (inK [5]) s.data.toList i : Nat), (tokP s (tw (inK [5]) s.data.toList i)).2.2)
  else match tokG k s (tokP s (tw (inK [5]) s.data.toList i)).2.1.toNat with
   | .inl x => .inl x
   | .inr r => .inr (((tokP s (tw (inK [5]) s.data.toList i)).1.1, (tokP s (tw (inK [5]) s.data.toList i)).1.2.1, (tokP s (tw (inK [5]) s.data.toList i)).1.2.2.1, ((tw (inK [5]) s.data.toList i : Nat) : Int)) :: r)
def zAy (acc : List Tok) : (Int × Int) ⊕ List Tok → List Tok × Int × Int
 | .inl x => ([], x.1, x.2)
 | .inr r => (acc ++ r, 0, 0)
def qHk (s : ByteArray) : List Tok × Int × Int := if s.data.toList.length > 16384 then ([], 0, 2) else zAy [] (tokG (s.data.toList.length + 1) s 0)
theorem zMv {s : ByteArray} {i : Nat} (hi : i ≤ s.data.toList.length) :
  (if ixB (s.extract i s.data.toList.length) 10 < 0 then ((s.data.toList.length - i : Nat) : Int) else ixB (s.extract i s.data.toList.length) 10) = ((tw qIq s.data.toList i - i : Nat) : Int) := by
 have hs := qCi s
 have hsz : (s.extract i s.data.toList.length).size = s.data.toList.length - i := by rw [ByteArray.size_extract]; omega
 have hb := qQs (p := qIq) (l := s.data.toList) (a := i) hi
 have hget : ∀ j, j < s.data.toList.length - i → (s.extract i s.data.toList.length)[j]! = s.data.toList.getD (i + j) 0 := by
  intro j hj
  have hj' : i + j < s.data.toList.length := by omega
  rw [qHn hj', getElem!_pos _ _ (by rw [hsz]; exact hj), ByteArray.getElem_extract]
  simp [ByteArray.getElem_eq_getElem_data]
 have hin : ∀ d a, a + d = s.data.toList.length → ∀ j, a ≤ j → j < tw qIq s.data.toList a → s.data.toList.getD j 0 ≠ 10 := by
  intro d
  induction d with
  | zero => intro a ha j h1 h2; rw [qYf (by omega)] at h2; omega
  | succ d ih =>
   intro a ha j h1 h2
   have hlt : a < s.data.toList.length := by omega
   cases hc : qIq (s.data.toList[a]) with
   | true =>
    rw [← qRq hlt hc] at h2
    rcases Nat.eq_or_lt_of_le h1 with rfl | h1
    ·rw [qHn hlt]; simpa [qIq] using hc
    ·exact ih (a + 1) (by omega) j h1 h2
   | false => rw [qRt hlt hc] at h2; omega
 have hin := hin (s.data.toList.length - i) i (by omega)
 unfold ixB
 rw [hsz]
 cases hf : (List.range (s.data.toList.length - i)).find? (fun j => (s.extract i s.data.toList.length)[j]! == (10 : Int).toNat.toUInt8) with
 | none =>
  rw [List.find?_eq_none] at hf
  simp only
  rw [if_pos (by omega)]
  have : ¬ tw qIq s.data.toList i < s.data.toList.length := by
   intro hlt
   have h1 := zHw (p := qIq) (l := s.data.toList) (s.data.toList.length - i) i (by omega) hlt
   have h2 := hf (tw qIq s.data.toList i - i) (gS.2 (by omega))
   rw [hget _ (by omega), show i + (tw qIq s.data.toList i - i) = tw qIq s.data.toList i by omega, qHn hlt] at h2
   simp only [qIq, bne_eq_false_iff_eq] at h1
   rw [h1] at h2
   exact h2 (by decide)
  omega
 | some k =>
  have h1 := List.find?_some hf
  have hk : k < s.data.toList.length - i := gS.1 (gD hf)
  simp only
  rw [if_neg (by omega)]
  rw [hget k hk] at h1
  have h1 : s.data.toList.getD (i + k) 0 = 10 := by simpa using h1
  have h2 : ¬ i + k < tw qIq s.data.toList i := fun h => hin (i + k) (by omega) h h1
  have h3 : ¬ tw qIq s.data.toList i < i + k := by
   intro hlt
   have hlt' : tw qIq s.data.toList i < s.data.toList.length := by omega
   have h4 := zHw (p := qIq) (l := s.data.toList) (s.data.toList.length - i) i (by omega) hlt'
   have h5 := List.not_of_lt_findIdx (xs := List.range (s.data.toList.length - i)) (p := fun j => (s.extract i s.data.toList.length)[j]! == (10 : Int).toNat.toUInt8) (i := tw qIq s.data.toList i - i)
   have h6 := (List.find?_range_eq_some.1 hf).2.2 (tw qIq s.data.toList i - i) (by omega)
   rw [hget _ (by omega), show i + (tw qIq s.data.toList i - i) = tw qIq s.data.toList i by omega, qHn hlt'] at h6
   simp only [qIq, bne_eq_false_iff_eq] at h4
   rw [h4] at h6
   simp at h6
  omega
end
section
open Go Go.Dc
theorem qTj {N : Nat} {s : ByteArray} (hl : s.data.toList.length ≤ 16384) (hN : s.data.toList.length + 40 < N) : ∀ (k M i : Nat) (acc : List Tok), i ≤ s.data.toList.length → s.data.toList.length < i + k → k ≤ M → acc.length ≤ i →
  qAz (qJu N s (some kdL)) M (acc, (i : Int)) = some (zAy acc (tokG k s i))
 | 0, _, i, _, h1, h2, _, _ => by omega
 | k + 1, 0, _, _, _, _, h3, _ => by omega
 | k + 1, M + 1, i, acc, h1, h2, h3, h4 => by
  have hs := qCi s
  have hb := qQs (p := inK [5]) (l := s.data.toList) (a := i) h1
  simp only [qAz, tokG]
  have hstep : qJu N s (some kdL) (acc, (i : Int)) = if tw (inK [5]) s.data.toList i = s.data.toList.length then some (.inr (acc ++ [(5, ⟨#[]⟩, 0, (s.data.toList.length : Int))], 0, 0))
    else if kd (s.data.toList.getD (tw (inK [5]) s.data.toList i) 0) = 6 then some (.inl (acc, ((tw qIq s.data.toList (tw (inK [5]) s.data.toList i) : Nat) : Int)))
    else if (tokP s (tw (inK [5]) s.data.toList i)).2.2 ≠ 0 then some (.inr ([], (tw (inK [5]) s.data.toList i : Nat), (tokP s (tw (inK [5]) s.data.toList i)).2.2))
    else some (.inl (acc ++ [((tokP s (tw (inK [5]) s.data.toList i)).1.1, (tokP s (tw (inK [5]) s.data.toList i)).1.2.1, (tokP s (tw (inK [5]) s.data.toList i)).1.2.2.1, ((tw (inK [5]) s.data.toList i : Nat) : Int))], (tokP s (tw (inK [5]) s.data.toList i)).2.1)) := by
   simp only [qJu]
   rw [qWz h1 (by omega) (by simp) (by omega)]
   simp only [j0]
   generalize hE : tw (inK [5]) s.data.toList i = e at hb ⊢
   by_cases he : e = s.data.toList.length
   ·rw [if_pos he, if_pos (by rw [jV]; omega), qCh (by simp only [jC, jD]; omega) (by omega), he]
    rfl
   ·have hlt : e < s.data.toList.length := by omega
    rw [if_neg he, if_neg (by rw [jV]; omega), qFb hlt]
    simp only [j0, zIc, jV, qHn hlt]
    by_cases h6 : kd (s.data.toList[e]) = 6
    ·rw [if_pos h6, if_pos h6, qXl (by omega)]
     have hle := zMv (s := s) (i := e) (by omega)
     have hb2 := qQs (p := qIq) (l := s.data.toList) (a := e) (by omega)
     have hx : (if (decide (ixB (s.extract e s.data.toList.length) 10 < 0)) = true then (some (IntKind.wrap .i64 ((ByteArray.size s : Int) - (e : Int)))) else (some (ixB (s.extract e s.data.toList.length) 10)) : Option Int) = some ((tw qIq s.data.toList e - e : Nat) : Int) := by
      rw [← hle, wi64 (by omega) (by omega)]
      by_cases hi : ixB (s.extract e s.data.toList.length) 10 < 0
      ·rw [if_pos (by simpa using hi), if_pos hi]; congr 1; omega
      ·rw [if_neg (by simpa using hi), if_neg hi]
     simp only [j0, qLj, qDo]
     rw [hx]
     simp only [j0]
     rw [wi64 (by omega) (by omega)]
     congr 3; omega
    ·rw [if_neg h6, if_neg h6, zKw hlt (by omega) (by omega)]
     simp only [j0, gG]
     by_cases h0 : (tokP s e).2.2 ≠ 0
     ·rw [if_pos h0, if_pos h0]
     ·rw [if_neg h0, if_neg h0, qCh (by simp only [jC, jD]; omega) (by omega)]
      rfl
  rw [hstep]
  by_cases he : tw (inK [5]) s.data.toList i = s.data.toList.length
  ·rw [if_pos he, if_pos he]; rfl
  rw [if_neg he, if_neg he]
  have hlt : tw (inK [5]) s.data.toList i < s.data.toList.length := by omega
  by_cases h6 : kd (s.data.toList.getD (tw (inK [5]) s.data.toList i) 0) = 6
  ·rw [if_pos h6, if_pos h6]
   have hb2 := qQs (p := qIq) (l := s.data.toList) (a := tw (inK [5]) s.data.toList i) (by omega)
   have hpos := qWe (p := qIq) hlt (by
    rw [qHn hlt] at h6
    simp only [qIq, gG, ne_eq]
    intro e; rw [e] at h6; exact absurd h6 (by decide))
   exact qTj hl hN k M _ acc hb2.2 (by omega) (by omega) (by omega)
  rw [if_neg h6, if_neg h6]
  by_cases h0 : (tokP s (tw (inK [5]) s.data.toList i)).2.2 ≠ 0
  ·rw [if_pos h0, if_pos h0]; rfl
  rw [if_neg h0, if_neg h0]
  obtain ⟨e, he1, he2, he3, _⟩ := zAa hlt (by simpa using h0)
  rw [he1]
  simp only [j0, kH]
  rw [qTj hl hN k M e _ he3 (by omega) (by omega) (by simp; omega)]
  cases tokG k s e with
  | inl x => rfl
  | inr r => simp [zAy]
theorem zHy {N : Nat} {s : ByteArray} (hN : 20000 < N) : qNk N s = some (qHk s) := by
 have hs := qCi s
 unfold qNk qHk
 by_cases h : s.data.toList.length > 16384
 ·rw [if_pos (by simp only [jA]; omega), if_pos h]
 ·rw [if_neg (by simp only [jA]; omega), if_neg h, qZs (by omega)]
  have := qTj (N := N) (s := s) (by omega) (by omega) (s.data.toList.length + 1) N 0 [] (by omega) (by omega) (by omega) (by simp)
  simp only [j0]
  rw [show ((0 : Nat) : Int) = 0 from rfl] at this
  rw [this]
  rfl
def endT (t : Tok) : Int := t.2.2.2 + (t.2.1.size : Int) + (if t.1 = 2 then 1 else 0)
def zNo (s : ByteArray) : Int → List Tok → Prop
 | _, [] => True
 | e, t :: r => e ≤ t.2.2.2 ∧ t.2.2.2 + (t.2.1.size : Int) ≤ s.size ∧ (t.1 = 5 ↔ r = []) ∧ (t.1 = 1 ∨ t.1 = 4 → s.extract t.2.2.2.toNat (t.2.2.2 + (t.2.1.size : Int)).toNat = t.2.1 ∧ 0 < t.2.1.size) ∧ zNo s (endT t) r
theorem qUw {s : ByteArray} : ∀ (k i : Nat) (e : Int) (r : List Tok), i ≤ s.data.toList.length → s.data.toList.length < i + k → e ≤ i → tokG k s i = .inr r → zNo s e r ∧ r ≠ [] ∧ r.length ≤ s.data.toList.length + 1 - i
 | 0, i, e, r, h1, h2, h3, h4 => by omega
 | k + 1, i, e, r, h1, h2, h3, h4 => by
  have hs := qCi s
  have hb := qQs (p := inK [5]) (l := s.data.toList) (a := i) h1
  simp only [tokG] at h4
  generalize hE : tw (inK [5]) s.data.toList i = a at hb h4
  split at h4
  ·obtain rfl := (Sum.inr.inj h4).symm
   refine ⟨⟨by show e ≤ (s.data.toList.length : Int); omega, by show (s.data.toList.length : Int) + ((0 : Nat) : Int) ≤ _; omega, by simp, fun h => by simp at h, trivial⟩, by simp, by simp; omega⟩
  ·rename_i he
   have hlt : a < s.data.toList.length := by omega
   split at h4
   ·rename_i h6
    have hb2 := qQs (p := qIq) (l := s.data.toList) (a := a) (by omega)
    have hpos := qWe (p := qIq) hlt (by
     rw [qHn hlt] at h6
     simp only [qIq, gG, ne_eq]
     intro e; rw [e] at h6; exact absurd h6 (by decide))
    obtain ⟨g1, g2, g3⟩ := qUw k _ e r hb2.2 (by omega) (by omega) h4
    exact ⟨g1, g2, by omega⟩
   ·split at h4
    ·cases h4
    ·rename_i h0
     obtain ⟨b, hb1, hb2, hb3, hk⟩ := zAa hlt (by simpa using h0)
     rw [hb1, kH] at h4
     generalize (tokP s a).1 = t at h4 hk
     cases hG : tokG k s b with
     | inl x => rw [hG] at h4; cases h4
     | inr q =>
      rw [hG] at h4
      obtain rfl := (Sum.inr.inj h4).symm
      have hext : (s.extract a b).size = b - a := by rw [ByteArray.size_extract]; omega
      have hend : endT (t.1, t.2.1, t.2.2.1, (a : Int)) ≤ b ∧ (a : Int) + (t.2.1.size : Int) ≤ b ∧ t.1 ≠ 5 ∧ (t.1 = 1 ∨ t.1 = 4 → t.2.1 = s.extract a b) := by
       rcases hk with ⟨hk1, hk2⟩ | ⟨hk1, hk2⟩ | ⟨hk1, hk2⟩
       ·refine ⟨?_, ?_, by omega, fun _ => hk2⟩
        ·simp only [endT, hk2, hext]; rw [if_neg (by omega)]; omega
        ·rw [hk2, hext]; omega
       ·have : (⟨#[]⟩ : ByteArray).size = 0 := rfl
        refine ⟨?_, ?_, by omega, fun h => by omega⟩
        ·simp only [endT, hk2, this]; rw [if_pos hk1]; omega
        ·rw [hk2, this]; omega
       ·refine ⟨?_, by omega, by omega, fun h => by omega⟩
        simp only [endT]; rw [if_neg (by omega)]; omega
      obtain ⟨g1, g2, g3⟩ := qUw k b (endT (t.1, t.2.1, t.2.2.1, (a : Int))) q hb3 (by omega) hend.1 hG
      refine ⟨⟨by show e ≤ (a : Int); omega, ?_, ?_, ?_, g1⟩, by simp, by simp only [jC]; omega⟩
      ·show (a : Int) + (t.2.1.size : Int) ≤ _; omega
      ·exact ⟨fun h => absurd h hend.2.2.1, fun h => absurd h g2⟩
      ·intro h
       have := hend.2.2.2 h
       show s.extract (Int.toNat (a : Int)) ((a : Int) + (t.2.1.size : Int)).toNat = t.2.1 ∧ 0 < t.2.1.size
       rw [this, hext, kH, show ((a : Int) + ((b - a : Nat) : Int)).toNat = b by omega]
       exact ⟨rfl, by omega⟩
theorem qZy {s : ByteArray} : ∀ (k i : Nat) (x : Int × Int), i ≤ s.data.toList.length → s.data.toList.length < i + k → tokG k s i = .inl x → 0 ≤ x.1 ∧ x.1 ≤ s.size ∧ x.2 ≠ 0
 | 0, i, x, h1, h2, h4 => by omega
 | k + 1, i, x, h1, h2, h4 => by
  have hs := qCi s
  have hb := qQs (p := inK [5]) (l := s.data.toList) (a := i) h1
  simp only [tokG] at h4
  generalize hE : tw (inK [5]) s.data.toList i = a at hb h4
  split at h4
  ·cases h4
  ·rename_i he
   have hlt : a < s.data.toList.length := by omega
   split at h4
   ·rename_i h6
    have hb2 := qQs (p := qIq) (l := s.data.toList) (a := a) (by omega)
    have hpos := qWe (p := qIq) hlt (by
     rw [qHn hlt] at h6
     simp only [qIq, gG, ne_eq]
     intro e; rw [e] at h6; exact absurd h6 (by decide))
    exact qZy k _ x hb2.2 (by omega) h4
   ·split at h4
    ·rename_i h0
     obtain rfl := Sum.inl.inj h4
     exact ⟨by simp only; omega, by simp only; omega, h0⟩
    ·rename_i h0
     obtain ⟨b, hb1, hb2, hb3, hk⟩ := zAa hlt (by simpa using h0)
     rw [hb1, kH] at h4
     cases hG : tokG k s b with
     | inl y => rw [hG] at h4; obtain rfl := Sum.inl.inj h4; exact qZy k b y hb3 (by omega) hG
     | inr q => rw [hG] at h4; cases h4
end
section
open Go Go.Dc
theorem qVl {p : UInt8 → Bool} (h : ((List.range 256).all fun n => p (UInt8.ofNat n)) = true) (c : UInt8) : p c = true := by
 have := jS.1 h c.toNat (gS.2 c.toNat_lt)
 simpa using this
theorem qWj {N : Nat} (c : UInt8) : qFj N (c.toNat : Int) = some (kd c == 1) := by
 have h := qVl (p := fun c => (decide (97 ≤ c.toNat) && decide (c.toNat ≤ 122)) == (kd c == 1)) (by kernel_rfl) c
 rw [jV] at h
 rw [← h]
 unfold qFj
 by_cases h1 : 97 ≤ c.toNat
 ·rw [if_pos (by simp only [jA]; omega)]
  simp only [h1, decide_true, fK, j0]
  congr 1
  exact decide_eq_decide.2 (by omega)
 ·rw [if_neg (by simp only [jA]; omega)]
  simp [h1]
theorem qTm {N : Nat} (c : UInt8) : qEy N (c.toNat : Int) = some (inK [1, 2, 3] c) := by
 have h := qVl (p := fun c => (kd c == 1 || (decide (48 ≤ c.toNat) && decide (c.toNat ≤ 57) || decide (c.toNat = 95))) == inK [1, 2, 3] c) (by kernel_rfl) c
 rw [jV] at h
 rw [← h]
 unfold qEy
 rw [qWj]
 simp only [j0]
 cases kd c == 1
 ·have e95 : ((c.toNat : Int) == 95) = decide (c.toNat = 95) := by rw [jR, jV, jA]; omega
  simp only [jB, jE, fL, e95]
  by_cases h1 : 48 ≤ c.toNat
  ·by_cases h2 : c.toNat ≤ 57
   ·rw [if_pos (by simp only [jA]; omega), if_pos (by simp only [jA]; omega)]; simp [h1, h2]
   ·rw [if_pos (by simp only [jA]; omega), if_neg (by simp only [jA]; omega)]; simp [h2]
  ·rw [if_neg (by simp only [jA]; omega)]; simp [h1]
 ·rfl
theorem qXn (c : UInt8) : kd c = 2 ↔ 48 ≤ c.toNat ∧ c.toNat ≤ 57 := by
 have h := qVl (p := fun c => (kd c == 2) == (decide (48 ≤ c.toNat) && decide (c.toNat ≤ 57))) (by kernel_rfl) c
 rw [jV, jR] at h
 simpa using h
theorem zDf (c : UInt8) : kd c = 7 ↔ c = 34 := by
 have h := qVl (p := fun c => (kd c == 7) == (c == 34)) (by kernel_rfl) c
 rw [jV, jR] at h
 simpa using h
def signs : List UInt8 := [59, 44, 40, 41, 43, 45, 42, 47, 37, 60, 61]
theorem zFz (c : UInt8) : kd c = 8 ↔ signs.contains c = true := by
 have h := qVl (p := fun c => (kd c == 8) == signs.contains c) (by kernel_rfl) c
 rw [jV, jR] at h
 simpa using h
theorem zJo (c : UInt8) : inK [5] c = true ↔ c.toNat = 32 ∨ c.toNat = 9 ∨ c.toNat = 10 ∨ c.toNat = 13 := by
 have h := qVl (p := fun c => inK [5] c == (decide (c.toNat = 32) || (decide (c.toNat = 9) || (decide (c.toNat = 10) || decide (c.toNat = 13))))) (by kernel_rfl) c
 rw [jV, jR] at h
 simpa using h
theorem zDj (c : UInt8) : kd c = 6 ↔ c.toNat = 35 := by
 have h := qVl (p := fun c => (kd c == 6) == decide (c.toNat = 35)) (by kernel_rfl) c
 rw [jV, jR] at h
 simpa using h
def numR (n : Int) (c : UInt8) : Int := if n ≤ 9007199254740992 then n * 10 + ((c.toNat : Int) - 48) else n
theorem zJf (l : List UInt8) (c : UInt8) : (l ++ [c]).foldl numR 0 = numR (l.foldl numR 0) c := by simp
theorem zKa : ∀ (n : Nat) (ds : List UInt8), ds.length = n → (∀ c ∈ ds, kd c = 2) → 0 ≤ ds.foldl numR 0 ∧ ds.foldl numR 0 ≤ 90071992547409930 ∧ numL ds = if ds.foldl numR 0 > 9007199254740992 then 9007199254740993 else ds.foldl numR 0
 | 0, ds, h, _ => by obtain rfl := fC.1 h; simp [numL]
 | n + 1, ds, h, hd => by
  obtain ⟨l, c, rfl⟩ : ∃ l c, ds = l ++ [c] := by
   rcases List.eq_nil_or_concat ds with e | ⟨l, c, e⟩
   ·rw [e] at h; cases h
   ·exact ⟨l, c, by simpa using e⟩
  obtain ⟨h1, h2, h3⟩ := zKa n l (by simpa using h) (fun c hc => hd c (kW _ hc))
  have hc := zAm c (hd c (by simp))
  rw [zJf, qXt]
  by_cases hu : l.foldl numR 0 ≤ 9007199254740992
  ·rw [if_neg (by omega)] at h3
   rw [h3]
   generalize l.foldl numR 0 = u at h1 h2 hu
   have e1 : numR u c = u * 10 + ((c.toNat : Int) - 48) := if_pos hu
   rw [e1]
   unfold numS
   refine ⟨by omega, by omega, ?_⟩
   by_cases h4 : 9007199254740993 < 10 * u + ((c.toNat : Int) - 48)
   ·rw [if_pos h4, if_pos (by omega)]
   ·rw [if_neg h4]
    by_cases h5 : u * 10 + ((c.toNat : Int) - 48) > 9007199254740992
    ·rw [if_pos h5]; omega
    ·rw [if_neg h5]; omega
  ·rw [if_pos (by omega)] at h3
   rw [h3]
   generalize l.foldl numR 0 = u at h1 h2 hu
   have e1 : numR u c = u := if_neg hu
   have e2 : numS 9007199254740993 c = 9007199254740993 := if_pos (by omega)
   rw [e1, e2, if_pos (by omega)]
   exact ⟨h1, h2, rfl⟩
theorem inK2 (c : UInt8) : inK [2] c = decide (48 ≤ c.toNat ∧ c.toNat ≤ 57) := by
 rw [jR, jA, ← qXn]; simp [inK]
theorem qWh {N : Nat} {s : ByteArray} : ∀ (d i M : Nat) (n : Int), i + d = s.data.toList.length → s.data.toList.length < 1000000 → d < M → 0 ≤ n → n ≤ 90071992547409930 →
  qAz (qFp N s) M ((i : Int), n) = some (((tw (inK [2]) s.data.toList i : Nat) : Int), ((s.data.toList.drop i).takeWhile (inK [2])).foldl numR n)
 | d, i, 0, n, _, _, h, _, _ => by omega
 | 0, i, M + 1, n, h1, hl, h2, h3, h4 => by
  have hs := qCi s
  rw [qYf (by omega), jN (by omega)]
  simp only [qAz, qFp]
  rw [if_neg (by simp only [jA]; omega)]
  rfl
 | d + 1, i, M + 1, n, h1, hl, h2, h3, h4 => by
  have hs := qCi s
  have hi : i < s.data.toList.length := by omega
  simp only [qAz, qFp]
  rw [if_pos (by simp only [jA]; omega), qFb hi]
  simp only [j0]
  have hc : (if decide (((s.data.toList[i]).toNat : Int) ≥ 48) = true then some (decide (((s.data.toList[i]).toNat : Int) ≤ 57)) else some false) = some (inK [2] (s.data.toList[i])) := by
   rw [inK2]
   by_cases h48 : 48 ≤ (s.data.toList[i]).toNat
   ·rw [if_pos (by simp only [jA]; omega)]; congr 1; exact decide_eq_decide.2 (by omega)
   ·rw [if_neg (by simp only [jA]; omega)]; congr 1; exact (jQ (by omega)).symm
  rw [hc]
  simp only [j0]
  rw [jI hi]
  cases hb : inK [2] (s.data.toList[i]) with
  | false =>
   rw [qRt hi hb, gA (by rw [hb]; exact kM)]
   rfl
  | true =>
   have hd : 48 ≤ (s.data.toList[i]).toNat ∧ (s.data.toList[i]).toNat ≤ 57 := by rw [inK2] at hb; simpa using hb
   rw [← qRq hi hb, kP hb, kI, if_pos rfl]
   have hn : (if decide (n ≤ 9007199254740992) = true then some (IntKind.wrap .i64 (IntKind.wrap .i64 (n * 10) + IntKind.wrap .i64 (IntKind.wrap .u8 (((s.data.toList[i]).toNat : Int) - 48)))) else some n) = some (numR n (s.data.toList[i])) := by
    unfold numR
    by_cases hn : n ≤ 9007199254740992
    ·rw [if_pos (by simpa using hn), if_pos hn, wu8 (by omega) (by omega), wi64 (x := n * 10) (by omega) (by omega), wi64 (x := ((s.data.toList[i]).toNat : Int) - 48) (by omega) (by omega), wi64 (by omega) (by omega)]
    ·rw [if_neg (by simpa using hn), if_neg hn]
   rw [hn]
   simp only [j0]
   rw [wi64 (by omega) (by omega), ← kL]
   exact qWh d (i + 1) M _ (by omega) hl (by omega) (by unfold numR; split <;> omega) (by unfold numR; split <;> omega)
theorem zFw (c : UInt8) : (if decide ((c.toNat : Int) ≥ 32) = true then (if decide ((c.toNat : Int) ≤ 126) = true then some ((c.toNat : Int) != 34) else some false) else some false) = some (qSl c) := by
 unfold qSl
 by_cases h1 : 32 ≤ c.toNat
 ·rw [if_pos (by simp only [jA]; omega)]
  by_cases h2 : c.toNat ≤ 126
  ·rw [if_pos (by simp only [jA]; omega)]
   simp only [h1, h2, decide_true, fK]
   congr 1
   rw [jR, gG, gG]
   exact ⟨fun h e => h (by rw [e]; rfl), fun h e => h (UInt8.toNat_inj.1 (by show _ = 34; omega))⟩
  ·rw [if_neg (by simp only [jA]; omega)]; simp [h2]
 ·rw [if_neg (by simp only [jA]; omega)]; simp [h1]
theorem zCw {N : Nat} {s : ByteArray} (d i M : Nat) (h1 : i + d = s.data.toList.length) (hl : s.data.toList.length < 1000000) (h2 : d < M) : qAz (qDy N s) M (i : Int) = some ((tw qSl s.data.toList i : Nat) : Int) := by
 have hs := qCi s
 refine qUh (f := qDy N s) (l := s.data.toList) (p := qSl) (fun e => (e : Int)) (fun j hj hb => ?_) (fun j hj hb => ?_) ?_ d i M h1 h2
 ·simp only [qDy]
  rw [if_pos (by simp only [jA]; omega), qFb hj]
  simp only [j0, zFw, hb]
  rw [if_pos trivial, wi64 (by omega) (by omega)]
 ·simp only [qDy]
  rw [if_pos (by simp only [jA]; omega), qFb hj]
  simp only [j0, zFw, hb]
  rfl
 ·simp only [qDy]
  rw [if_neg (by simp only [jA]; omega)]
  rfl
theorem zLq {N : Nat} {s : ByteArray} {p1 s6 : Int} : qHe N s p1 s6 = if (decide (s6 < (signs.length : Int))) = true then ((idx signs s6).bind fun x12 => (idxB s p1).bind fun x13 => if ((x13.toNat : Int) == (x12.toNat : Int)) = true then ((subB s p1 (IntKind.wrap .i64 (p1 + 1))).bind fun s7 => some (.inr (.inr (((4, s7, 0, p1), IntKind.wrap .i64 (p1 + 1), 0))))) else (some (.inl (IntKind.wrap .i64 (s6 + 1))))) else (some (.inr (.inl ()))) := rfl
theorem qVj {N : Nat} {s : ByteArray} {i : Nat} (hi : i < s.data.toList.length) (hl : s.data.toList.length < 1000000) : ∀ (d j M : Nat), j + d = signs.length → d < M →
  qAz (qHe N s (i : Int)) M (j : Int) = some (if (signs.drop j).contains (s.data.toList[i]) = true then .inr ((4, s.extract i (i + 1), 0, (i : Int)), ((i + 1 : Nat) : Int), 0) else .inl ())
 | d, j, 0, _, h => by omega
 | 0, j, M + 1, h1, h2 => by
  simp only [qAz, zLq]
  rw [if_neg (by simp only [jA]; omega), jN (by omega)]
  rfl
 | d + 1, j, M + 1, h1, h2 => by
  have hj : j < signs.length := by omega
  have hls : signs.length = 11 := rfl
  simp only [qAz, zLq]
  rw [if_pos (by simp only [jA]; omega), qFt hj, qFb hi, jI hj]
  simp only [j0, List.contains_cons]
  by_cases he : s.data.toList[i] = signs[j]
  ·rw [if_pos (by rw [he]; exact gB _), wi64 (x := (i : Int) + 1) (by omega) (by omega), ← kL, qMj (by omega) (by omega)]
   simp only [j0]
   rw [if_pos (by rw [he]; simp)]
  ·have hne : ¬ ((s.data.toList[i]).toNat : Int) = ((signs[j]).toNat : Int) := fun h => he (UInt8.toNat_inj.1 (by omega))
   have hne2 : (s.data.toList[i] == signs[j]) = false := beq_eq_false_iff_ne.2 he
   rw [if_neg (by simpa using hne), wi64 (by omega) (by omega), ← kL]
   simp only [j0, hne2, fL]
   exact qVj hi hl d (j + 1) M (by omega) (by omega)
def refP (s : ByteArray) (i : Nat) : (Int × ByteArray × Int × Int) × Int × Int :=
 if (tokP s i).2.2 = 0 then (((tokP s i).1.1, (tokP s i).1.2.1, (tokP s i).1.2.2.1, (i : Int)), (tokP s i).2.1, 0) else tokP s i
theorem zDm {N : Nat} {s : ByteArray} {i : Nat} (hi : i < s.data.toList.length) (hl : s.data.toList.length < 1000000) (hN : s.data.toList.length + 20 < N) : qIw N s (i : Int) = some (refP s i) := by
 have hs := qCi s
 simp only [qIw, qFb hi, j0, qWj, refP, tokP, qHn hi, jV]
 by_cases h1 : kd (s.data.toList[i]) = 1
 ·simp only [h1, jH]
  have hb := qQs (p := inK [1, 2, 3]) (l := s.data.toList) (a := i) (by omega)
  have key := qUh (f := qEh N s) (l := s.data.toList) (p := inK [1, 2, 3]) (fun e => (e : Int)) (fun j hj hb => by
   simp only [qEh]
   rw [if_pos (by simp only [jA]; omega), qFb hj]
   simp only [j0, qTm, hb]
   rw [if_pos trivial, wi64 (by omega) (by omega)]) (fun j hj hb => by
   simp only [qEh]
   rw [if_pos (by simp only [jA]; omega), qFb hj]
   simp only [j0, qTm, hb]
   rfl) (by
   simp only [qEh]
   rw [if_neg (by simp only [jA]; omega)]
   rfl) (s.data.toList.length - i) i N (by omega) (by omega)
  rw [key]
  simp only [j0]
  rw [wi64 (by omega) (by omega), qMj hb.1 hb.2]
  by_cases h : tw (inK [1, 2, 3]) s.data.toList i - i > 24
  ·rw [if_pos (by simp only [jA]; omega), if_pos h]; rfl
  ·rw [if_neg (by simp only [jA]; omega), if_neg h]; rfl
 simp only [h1, jE]
 by_cases h2 : kd (s.data.toList[i]) = 2
 ·simp only [h2, jH]
  have hd := (qXn _).1 h2
  rw [if_pos (by simp only [jA]; omega)]
  simp only [j0]
  obtain ⟨n1, n2, n3⟩ := zKa _ _ rfl (fun c (hc : c ∈ (s.data.toList.drop i).takeWhile (inK [2])) => by simpa [inK] using zFb hc)
  rw [if_pos (by simp only [jA]; omega), qWh (s.data.toList.length - i) i N 0 (by omega) hl (by omega) (by omega) (by omega), n3]
  simp only [j0, jA]
  generalize ((s.data.toList.drop i).takeWhile (inK [2])).foldl numR 0 = u at n1 n2
  by_cases h4 : u > 9007199254740992
  ·simp [h4, zDg]
  ·simp [h4]
 simp only [h2, jE]
 have hnd : ¬ (48 ≤ (s.data.toList[i]).toNat ∧ (s.data.toList[i]).toNat ≤ 57) := fun h => h2 ((qXn _).2 h)
 have hdig : (if decide (((s.data.toList[i]).toNat : Int) ≥ 48) = true then some (decide (((s.data.toList[i]).toNat : Int) ≤ 57)) else some false) = some false := by
  by_cases h48 : 48 ≤ (s.data.toList[i]).toNat
  ·rw [if_pos (by simp only [jA]; omega)]; congr 1; rw [decide_eq_false_iff_not]; omega
  ·rw [if_neg (by simp only [jA]; omega)]
 rw [hdig]
 simp only [j0, jB, jE]
 by_cases h7 : kd (s.data.toList[i]) = 7
 ·have hc : s.data.toList[i] = 34 := (zDf _).1 h7
  simp only [h7, jH]
  rw [if_pos (by rw [hc]; rfl), wi64 (x := (i : Int) + 1) (by omega) (by omega), ← kL]
  have hb := qQs (p := qSl) (l := s.data.toList) (a := i + 1) (by omega)
  rw [zCw (s.data.toList.length - (i + 1)) (i + 1) N (by omega) hl (by omega)]
  simp only [j0]
  generalize tw qSl s.data.toList (i + 1) = e at hb
  by_cases he : e = s.data.toList.length
  ·rw [if_pos (by omega)]
   have : ¬ s.data.toList.getD e 0 = 34 := fun h => by have := qTz (l := s.data.toList) (i := e) (by rw [h]; decide); omega
   rw [if_neg this]
   rfl
  ·have hlt : e < s.data.toList.length := by omega
   rw [if_neg (by omega), qFb hlt, qHn hlt]
   simp only [j0]
   by_cases h34 : s.data.toList[e] = 34
   ·rw [if_pos h34, if_neg (by rw [h34]; decide), qMj hb.1 hb.2]
    simp only [j0, jH]
    rw [wi64 (by omega) (by omega), ← kL]
   ·have h34' : ¬ ((s.data.toList[e]).toNat : Int) = 34 := fun h => h34 (UInt8.toNat_inj.1 (by show _ = 34; omega))
    rw [if_neg h34, if_pos (by simpa using h34')]
    simp [zDg]
 have h34' : ¬ ((s.data.toList[i]).toNat : Int) = 34 := fun h => h7 ((zDf _).2 (UInt8.toNat_inj.1 (by show _ = 34; omega)))
 simp only [h7, jE, h34']
 have ho : (if ((s.data.toList[i]).toNat : Int) = 61 then (if decide (IntKind.wrap .i64 ((i : Int) + 1) < (s.size : Int)) = true then ((idxB s (IntKind.wrap .i64 ((i : Int) + 1))).bind fun x11 => some ((x11.toNat : Int) == 61)) else some false) else some false) = some (decide (s.data.toList.getD i 0 = 61 ∧ s.data.toList.getD (i + 1) 0 = 61)) := by
  rw [qHn hi]
  by_cases h61 : s.data.toList[i] = 61
  ·rw [if_pos (by rw [h61]; rfl), wi64 (by omega) (by omega), ← kL]
   by_cases hlt : i + 1 < s.data.toList.length
   ·rw [if_pos (by simp only [jA]; omega), qFb hlt, qHn hlt]
    simp only [j0]
    congr 1
    rw [jR, jV, jA]
    exact ⟨fun h => ⟨h61, UInt8.toNat_inj.1 (by show _ = 61; omega)⟩, fun h => by rw [h.2]; rfl⟩
   ·rw [if_neg (by simp only [jA]; omega)]
    congr 1
    refine (jQ fun h => ?_).symm
    have := qTz (l := s.data.toList) (i := i + 1) (by rw [h.2]; decide)
    omega
  ·rw [if_neg (fun h => h61 (UInt8.toNat_inj.1 (by show _ = 61; omega)))]
   congr 1
   exact (jQ fun h => h61 h.1).symm
 rw [ho]
 simp only [j0, jA]
 by_cases h61 : s.data.toList.getD i 0 = 61 ∧ s.data.toList.getD (i + 1) 0 = 61
 ·have hlt : i + 1 < s.data.toList.length := qTz (by rw [h61.2]; decide)
  have h8 : kd (s.data.toList[i]) = 8 := by rw [← qHn hi, h61.1]; kernel_rfl
  have hE : qVp s.data.toList i = i + 2 := by rw [qVp, if_pos h61]
  have hx : s.extract i (i + 2) = (⟨#[61, 61]⟩ : ByteArray) := by
   apply Go.WideShapes.bytes_inj
   simp only [ByteArray.data_extract, gF, kT]
   rw [jI hi, jI hlt, ← qHn hi, ← qHn hlt, h61.1, h61.2, show i + 2 - i = 2 by omega]
   rfl
  simp only [h61, and_self, jH, h8, hE, hx]
  rw [wi64 (by omega) (by omega)]
  simp
 ·have hE : qVp s.data.toList i = i + 1 := by rw [qVp, if_neg h61]
  have key := qVj (N := N) hi hl 11 0 N rfl (by omega)
  rw [show ((0 : Nat) : Int) = 0 from rfl] at key
  rw [if_neg h61, key]
  by_cases h8 : kd (s.data.toList[i]) = 8
  ·have := (zFz _).1 h8
   simp only [h8, jH, jZ, this, j0, hE]
  ·have : ¬ signs.contains (s.data.toList[i]) = true := fun h => h8 ((zFz _).2 h)
   simp only [h8, jE, jZ, this, j0]
   simp [zDg]
end
section
open Go Go.Dc
def qNh : Nat → List UInt8 → Nat → Nat
 | 0, _, i => i
 | k + 1, l, i =>
  if tw (inK [5]) l i = l.length then l.length
  else if kd (l.getD (tw (inK [5]) l i) 0) = 6 then qNh k l (tw qIq l (tw (inK [5]) l i))
  else tw (inK [5]) l i
theorem zHe {N : Nat} {s : ByteArray} {i : Nat} (hi : i ≤ s.data.toList.length) (hl : s.data.toList.length < 1000000) (hN : s.data.toList.length + 10 < N) : qAz (qEd N s) N (i : Int) = some ((tw qIq s.data.toList i : Nat) : Int) := by
 have hs := qCi s
 have hn : ∀ c : UInt8, ((c.toNat : Int) != 10) = qIq c := fun c => by
  rw [jR, gG, qIq, gG]
  exact ⟨fun h e => h (by rw [e]; rfl), fun h e => h (UInt8.toNat_inj.1 (by show _ = 10; omega))⟩
 refine qUh (f := qEd N s) (l := s.data.toList) (p := qIq) (fun e => (e : Int)) (fun j hj hb => ?_) (fun j hj hb => ?_) ?_ (s.data.toList.length - i) i N (by omega) (by omega)
 ·simp only [qEd]
  rw [if_pos (by simp only [jA]; omega), qFb hj]
  simp only [j0, hn, hb]
  rw [if_pos trivial, wi64 (by omega) (by omega)]
 ·simp only [qEd]
  rw [if_pos (by simp only [jA]; omega), qFb hj]
  simp only [j0, hn, hb]
  rfl
 ·simp only [qEd]
  rw [if_neg (by simp only [jA]; omega)]
  rfl
theorem zGg {s : ByteArray} {i : Nat} (hi : i < s.data.toList.length) : ((idxB s (i : Int)).bind fun x1 => if ((x1.toNat : Int) == 32) = true then (some true) else ((idxB s (i : Int)).bind fun x2 => if ((x2.toNat : Int) == 9) = true then (some true) else ((idxB s (i : Int)).bind fun x3 => if ((x3.toNat : Int) == 10) = true then (some true) else ((idxB s (i : Int)).bind fun x4 => some ((x4.toNat : Int) == 13))))) = some (inK [5] (s.data.toList[i])) := by
 simp only [qFb hi, j0, jV]
 generalize s.data.toList[i] = c
 have hb := zJo c
 by_cases h1 : (c.toNat : Int) = 32
 ·rw [if_pos h1, hb.2 (by omega)]
 rw [if_neg h1]
 by_cases h2 : (c.toNat : Int) = 9
 ·rw [if_pos h2, hb.2 (by omega)]
 rw [if_neg h2]
 by_cases h3 : (c.toNat : Int) = 10
 ·rw [if_pos h3, hb.2 (by omega)]
 rw [if_neg h3]
 congr 1
 rw [jR, jV, hb]
 omega
theorem zGu {N : Nat} {s : ByteArray} {i : Nat} (hi : i < s.data.toList.length) (hl : s.data.toList.length < 1000000) (hN : s.data.toList.length + 10 < N) :
  qEz N s (i : Int) = some (if inK [5] (s.data.toList[i]) = true then .inl (((i + 1 : Nat)) : Int) else if kd (s.data.toList[i]) = 6 then .inl ((tw qIq s.data.toList i : Nat) : Int) else .inr (.inr (i : Int))) := by
 have hs := qCi s
 simp only [qEz]
 rw [if_pos (by simp only [jA]; omega), zGg hi]
 simp only [j0]
 by_cases h5 : inK [5] (s.data.toList[i]) = true
 ·rw [if_pos h5, if_pos h5, wi64 (by omega) (by omega), ← kL]
 ·rw [if_neg h5, if_neg h5, qFb hi]
  simp only [j0, jV]
  have hc := zDj (s.data.toList[i])
  by_cases h6 : kd (s.data.toList[i]) = 6
  ·rw [if_pos (by have := hc.1 h6; omega), if_pos h6, zHe (by omega) hl hN]
   rfl
  ·rw [if_neg (fun h => h6 (hc.2 (by omega))), if_neg h6]
theorem qXr {N : Nat} {s : ByteArray} (hl : s.data.toList.length < 1000000) (hN : s.data.toList.length + 10 < N) : ∀ (d i k M : Nat), i + d = s.data.toList.length → d < k → d < M → ∃ z, qAz (qEz N s) M (i : Int) = some z ∧ (z = .inl ((qNh k s.data.toList i : Nat) : Int) ∨ z = .inr ((qNh k s.data.toList i : Nat) : Int))
 | d, i, k, 0, _, _, h => by omega
 | d, i, 0, M, _, h, _ => by omega
 | 0, i, k + 1, M + 1, h1, h2, h3 => by
  have hs := qCi s
  refine ⟨.inl ((s.data.toList.length : Nat) : Int), ?_, .inl ?_⟩
  ·simp only [qAz, qEz]
   rw [if_neg (by simp only [jA]; omega)]
   simp only [j0]
   congr 2; omega
  ·simp only [qNh]
   rw [qYf (by omega), if_pos (by omega)]
 | d + 1, i, k + 1, M + 1, h1, h2, h3 => by
  have hs := qCi s
  have hi : i < s.data.toList.length := by omega
  simp only [qAz]
  rw [zGu hi hl hN]
  simp only [j0]
  cases h5 : inK [5] (s.data.toList[i]) with
  | true =>
   rw [if_pos rfl]
   have := qXr hl hN d (i + 1) (k + 1) M (by omega) (by omega) (by omega)
   simp only [qNh, qRq hi h5] at this ⊢
   exact this
  | false =>
   rw [if_neg kM]
   by_cases h6 : kd (s.data.toList[i]) = 6
   ·have hsk : qNh (k + 1) s.data.toList i = qNh k s.data.toList (tw qIq s.data.toList i) := by
     simp only [qNh, qRt hi h5, qHn hi, h6, jH]
     rw [if_neg (by omega)]
    rw [hsk, if_pos h6]
    have hb2 := qQs (p := qIq) (l := s.data.toList) (a := i) (by omega)
    have hpos := qWe (p := qIq) hi (by
     simp only [qIq, gG, ne_eq]
     intro e; rw [e] at h6; exact absurd h6 (by decide))
    exact qXr hl hN (s.data.toList.length - tw qIq s.data.toList i) _ k M (by omega) (by omega) (by omega)
   ·have hsk : qNh (k + 1) s.data.toList i = i := by
     simp only [qNh, qRt hi h5, qHn hi, h6, jE]
     rw [if_neg (by omega)]
    rw [hsk, if_neg h6]
    exact ⟨_, rfl, .inr rfl⟩
theorem zJg {N : Nat} {s : ByteArray} {i k : Nat} (hi : i ≤ s.data.toList.length) (hl : s.data.toList.length < 1000000) (hN : s.data.toList.length + 10 < N) (hk : s.data.toList.length < i + k) : qIc N s (i : Int) = some ((qNh k s.data.toList i : Nat) : Int) := by
 obtain ⟨z, h1, h2⟩ := qXr hl hN (s.data.toList.length - i) i k N (by omega) (by omega) (by omega)
 unfold qIc
 rw [h1]
 rcases h2 with rfl | rfl <;> rfl
theorem zDd {s : ByteArray} : ∀ (k i : Nat), i ≤ s.data.toList.length → s.data.toList.length < i + k → i ≤ qNh k s.data.toList i ∧ qNh k s.data.toList i ≤ s.data.toList.length ∧
  (qNh k s.data.toList i = s.data.toList.length → tokG k s i = .inr [(5, ⟨#[]⟩, 0, (s.data.toList.length : Int))]) ∧
  (qNh k s.data.toList i < s.data.toList.length → ∃ k', (∀ b, qNh k s.data.toList i < b → s.data.toList.length < b + k') ∧ tokG k s i =
   if (tokP s (qNh k s.data.toList i)).2.2 ≠ 0 then .inl ((qNh k s.data.toList i : Nat), (tokP s (qNh k s.data.toList i)).2.2)
   else match tokG k' s (tokP s (qNh k s.data.toList i)).2.1.toNat with
    | .inl x => .inl x
    | .inr r => .inr (((tokP s (qNh k s.data.toList i)).1.1, (tokP s (qNh k s.data.toList i)).1.2.1, (tokP s (qNh k s.data.toList i)).1.2.2.1, ((qNh k s.data.toList i : Nat) : Int)) :: r))
 | 0, i, h1, h2 => by omega
 | k + 1, i, h1, h2 => by
  have hb := qQs (p := inK [5]) (l := s.data.toList) (a := i) h1
  simp only [qNh, tokG]
  by_cases he : tw (inK [5]) s.data.toList i = s.data.toList.length
  ·simp only [he, jH]
   exact ⟨h1, jW _, fun _ => trivial, fun h => absurd h (Nat.lt_irrefl _)⟩
  simp only [he, jE]
  have hlt : tw (inK [5]) s.data.toList i < s.data.toList.length := by omega
  by_cases h6 : kd (s.data.toList.getD (tw (inK [5]) s.data.toList i) 0) = 6
  ·simp only [h6, jH]
   have hb2 := qQs (p := qIq) (l := s.data.toList) (a := tw (inK [5]) s.data.toList i) (by omega)
   have hpos := qWe (p := qIq) hlt (by
    rw [qHn hlt] at h6
    simp only [qIq, gG, ne_eq]
    intro e; rw [e] at h6; exact absurd h6 (by decide))
   obtain ⟨g1, g2, g3, g4⟩ := zDd k (tw qIq s.data.toList (tw (inK [5]) s.data.toList i)) hb2.2 (by omega)
   exact ⟨by omega, g2, g3, g4⟩
  ·simp only [h6, jE]
   exact ⟨hb.1, hb.2, fun h => absurd h he, fun _ => ⟨k, fun b hb' => by omega, rfl⟩⟩
theorem qSu {N : Nat} {s : ByteArray} (hl : s.data.toList.length ≤ 16384) (hN : s.data.toList.length + 40 < N) : ∀ (d i k M : Nat) (acc : List Tok), i + d = s.data.toList.length → d < M → s.data.toList.length < i + k → acc.length ≤ i →
  ∃ z, qAz (qGo N s) M (acc, ((qNh k s.data.toList i : Nat) : Int)) = some z ∧ ((∃ o, z = .inl o ∧ o.length ≤ s.data.toList.length ∧ zAy acc (tokG k s i) = (o ++ [(5, ⟨#[]⟩, 0, (s.size : Int))], 0, 0)) ∨ z = .inr (zAy acc (tokG k s i)))
 | d, i, k, 0, acc, _, h, _, _ => by omega
 | d, i, k, M + 1, acc, h1, h2, h3, h4 => by
  have hs := qCi s
  obtain ⟨g1, g2, g3, g4⟩ := zDd (s := s) k i (by omega) h3
  generalize hA : qNh k s.data.toList i = a at g1 g2 g3 g4
  simp only [qAz, qGo]
  by_cases he : a = s.data.toList.length
  ·refine ⟨.inl acc, ?_, .inl ⟨acc, rfl, by omega, ?_⟩⟩
   ·rw [if_neg (by simp only [jA]; omega)]
    rfl
   ·rw [g3 he, ← hs]; rfl
  ·have hlt : a < s.data.toList.length := by omega
   obtain ⟨k', g5, g6⟩ := g4 hlt
   rw [if_pos (by simp only [jA]; omega), zDm hlt (by omega) (by omega)]
   simp only [j0, refP]
   by_cases h0 : (tokP s a).2.2 = 0
   ·obtain ⟨e, he1, he2, he3, _⟩ := zAa hlt h0
    rw [if_pos h0]
    simp only [fG, jB, jE]
    rw [qCh (by simp only [jC, jD]; omega) (by omega), he1]
    simp only [j0]
    rw [zJg (k := k') he3 (by omega) (by omega) (g5 e he2)]
    simp only [j0]
    obtain ⟨z, hz1, hz2⟩ := qSu hl hN (s.data.toList.length - e) e k' M (acc ++ [((tokP s a).1.1, (tokP s a).1.2.1, (tokP s a).1.2.2.1, (a : Int))]) (by omega) (by omega) (g5 e he2) (by simp; omega)
    have hj : zAy acc (tokG k s i) = zAy (acc ++ [((tokP s a).1.1, (tokP s a).1.2.1, (tokP s a).1.2.2.1, (a : Int))]) (tokG k' s e) := by
     rw [g6, if_neg (by simp [h0]), he1, kH]
     cases tokG k' s e with
     | inl x => rfl
     | inr r => simp [zAy]
    rw [hj]
    exact ⟨z, hz1, hz2⟩
   ·rw [if_neg h0]
    have hb : ((tokP s a).2.2 != 0) = true := by simpa using h0
    simp only [hb, jH, j0]
    refine ⟨_, rfl, .inr ?_⟩
    rw [g6, if_pos h0]
    rfl
theorem zCg {N : Nat} {s : ByteArray} (hN : 20000 < N) : qIl N s = some (qHk s) := by
 have hs := qCi s
 unfold qIl qHk
 by_cases h : s.data.toList.length > 16384
 ·rw [if_pos (by simp only [jA]; omega), if_pos h]
 ·rw [if_neg (by simp only [jA]; omega), if_neg h]
  have h1 := zJg (N := N) (s := s) (i := 0) (k := s.data.toList.length + 1) (by omega) (by omega) (by omega) (by omega)
  rw [show ((0 : Nat) : Int) = 0 from rfl] at h1
  rw [h1]
  simp only [j0]
  obtain ⟨z, hz1, hz2⟩ := qSu (N := N) (s := s) (by omega) (by omega) s.data.toList.length 0 (s.data.toList.length + 1) N [] (by omega) (by omega) (by omega) (by simp)
  rw [hz1]
  rcases hz2 with ⟨o, rfl, ho, hj⟩ | rfl
  ·simp only [j0]
   rw [qCh (by simp only [jC, jD]; omega) (by omega), hj]
   rfl
  ·rfl
end
section
open Go Go.Dc
def qUj (s : ByteArray) : Bool := decide (1 ≤ s.data.toList.length ∧ s.data.toList.length ≤ 24 ∧ kd (s.data.toList.getD 0 0) = 1 ∧ tw (inK [1, 2, 3]) s.data.toList 0 = s.data.toList.length)
theorem qQt {s : ByteArray} (h : ¬ (1 ≤ s.data.toList.length ∧ s.data.toList.length ≤ 24 ∧ kd (s.data.toList.getD 0 0) = 1 ∧ tw (inK [1, 2, 3]) s.data.toList 0 = s.data.toList.length)) : false = qUj s := (jQ h).symm
theorem zHt {s : ByteArray} (h : 1 ≤ s.data.toList.length ∧ s.data.toList.length ≤ 24 ∧ kd (s.data.toList.getD 0 0) = 1 ∧ tw (inK [1, 2, 3]) s.data.toList 0 = s.data.toList.length) : true = qUj s := (jM h).symm
theorem zHl {N : Nat} {s : ByteArray} (hN : 100 < N) : qOm N s = some (qUj s) := by
 have hs := qCi s
 simp only [qOm, qZs (show 30 < N by omega), j0]
 by_cases h1 : 1 ≤ s.data.toList.length
 ·by_cases h2 : s.data.toList.length ≤ 24
  ·rw [if_pos (by simp only [jA]; omega), if_pos (by simp only [jA]; omega)]
   have hi := qFb (s := s) (i := 0) (by omega)
   rw [show ((0 : Nat) : Int) = 0 from rfl] at hi
   rw [hi]
   simp only [j0, zIc, jV]
   have hsp := qWz (N := N) (s := s) (ks := [1, 2, 3]) (i := 0) (by omega) (by omega) (by simp) (by omega)
   rw [show ((0 : Nat) : Int) = 0 from rfl] at hsp
   by_cases h3 : kd (s.data.toList[0]) = 1
   ·rw [if_pos h3, hsp]
    simp only [j0]
    congr 1
    rw [jR, jV, qUj, jA, qHn (by omega)]
    exact ⟨fun h => ⟨h1, h2, h3, by omega⟩, fun h => by have := h.2.2.2; omega⟩
   ·rw [if_neg h3]
    refine congrArg some (qQt fun h => ?_)
    rw [qHn (by omega)] at h
    exact h3 h.2.2.1
  ·rw [if_pos (by simp only [jA]; omega), if_neg (by simp only [jA]; omega)]
   exact congrArg some (qQt fun h => h2 h.2.1)
 ·rw [if_neg (by simp only [jA]; omega)]
  exact congrArg some (qQt fun h => h1 h.1)
theorem zGy {N : Nat} {s : ByteArray} (hN : 100 < N) : qHz N s = some (qUj s) := by
 have hs := qCi s
 simp only [qHz]
 by_cases h1 : 1 ≤ s.data.toList.length
 ·by_cases h2 : s.data.toList.length ≤ 24
  ·rw [if_neg (by simp only [jA]; omega), if_neg (by simp only [jA]; omega)]
   have hi := qFb (s := s) (i := 0) (by omega)
   rw [show ((0 : Nat) : Int) = 0 from rfl] at hi
   rw [hi]
   simp only [j0, qWj]
   by_cases h3 : kd (s.data.toList[0]) = 1
   ·rw [h3, if_neg (by simp)]
    have key := qUh (f := qEu N s) (l := s.data.toList) (p := inK [1, 2, 3]) (fun e => if e = s.data.toList.length then .inl () else .inr false) (fun j hj hb => by
     simp only [qEu]
     rw [if_pos (by simp only [jA]; omega), qFb hj]
     simp only [j0, qTm, hb]
     rw [wi64 (by omega) (by omega)]
     rfl) (fun j hj hb => by
     simp only [qEu]
     rw [if_pos (by simp only [jA]; omega), qFb hj]
     simp only [j0, qTm, hb]
     rw [if_neg (show ¬ j = s.data.toList.length by omega)]
     rfl) (by
     simp only [qEu]
     rw [if_neg (by simp only [jA]; omega)]
     simp) s.data.toList.length 0 N (by omega) (by omega)
    rw [show ((0 : Nat) : Int) = 0 from rfl] at key
    rw [key]
    simp only [j0]
    by_cases h4 : tw (inK [1, 2, 3]) s.data.toList 0 = s.data.toList.length
    ·rw [if_pos h4]
     exact congrArg some (zHt ⟨h1, h2, by rw [qHn (by omega)]; exact h3, h4⟩)
    ·rw [if_neg h4]
     exact congrArg some (qQt fun h => h4 h.2.2.2)
   ·rw [if_pos (by rw [Bool.not_eq_true', beq_eq_false_iff_ne]; exact h3)]
    refine congrArg some (qQt fun h => ?_)
    rw [qHn (by omega)] at h
    exact h3 h.2.2.1
  ·rw [if_neg (by simp only [jA]; omega), if_pos (by simp only [jA]; omega)]
   simp only [j0, jH]
   exact congrArg some (qQt fun h => h2 h.2.1)
 ·rw [if_pos (by simp only [jA]; omega)]
  simp only [j0, jH]
  exact congrArg some (qQt fun h => h1 h.1)
end
section
open Go Go.Dc
def sp : List UInt8 → List (List UInt8)
 | [] => [[]]
 | c :: l => if c = 47 then [] :: sp l else match sp l with
  | [] => [[c]]
  | p :: q => (c :: p) :: q
theorem zGt : ∀ l : List UInt8, sp l ≠ []
 | [] => by simp [sp]
 | c :: l => by
  simp only [sp]
  split
  ·simp
  ·split <;> simp
theorem zJt : ∀ l : List UInt8, (sp l).length = l.count 47 + 1
 | [] => rfl
 | c :: l => by
  simp only [sp]
  split
  ·rename_i h; subst h; simp [zJt l]
  ·rename_i h
   have := zJt l
   split
   ·rename_i e; exact absurd e (zGt l)
   ·rename_i e
    rw [e] at this
    simp only [jC] at this ⊢
    rw [List.count_cons_of_ne h, ← this]
def qNw (c : UInt8) : Bool := c != 47
theorem zJx : ∀ l : List UInt8, sp l = if (l.takeWhile qNw).length = l.length then [l] else l.takeWhile qNw :: sp (l.drop ((l.takeWhile qNw).length + 1))
 | [] => rfl
 | c :: l => by
  have ih := zJx l
  by_cases h : c = 47
  ·subst h
   rw [gA (by decide)]
   simp [sp]
  ·have hc : qNw c = true := by simpa [qNw] using h
   rw [kP hc]
   simp only [sp, h, jE, ih, jC, Nat.add_right_cancel_iff, List.drop_succ_cons]
   by_cases he : (l.takeWhile qNw).length = l.length
   ·simp [he]
   ·simp [he]
def qXx : Nat → Nat → List UInt8 → Option (Nat × Nat)
 | a, b, [] => some (a, b)
 | a, b, c :: l => if c = 47 then (if b = 0 then none else qXx (a + 1) 0 l) else if inK [1, 2, 3, 4] c = true then (if b + 1 > 24 then none else qXx a (b + 1) l) else none
def partOk (p : List UInt8) : Prop := 1 ≤ p.length ∧ p.length ≤ 24 ∧ ∀ c ∈ p, inK [1, 2, 3, 4] c = true
theorem qWv : ∀ (l : List UInt8) (a b : Nat), b ≤ 24 → ((∃ x y, qXx a b l = some (x, y) ∧ 0 < y ∧ x ≤ 8) ↔
  ∃ p q, sp l = p :: q ∧ 1 ≤ b + p.length ∧ b + p.length ≤ 24 ∧ (∀ c ∈ p, inK [1, 2, 3, 4] c = true) ∧ (∀ r ∈ q, partOk r) ∧ a + q.length ≤ 8)
 | [], a, b, hb => by
  constructor
  ·rintro ⟨x, y, h, h1, h2⟩
   simp only [qXx, jK, Prod.mk.injEq] at h
   exact ⟨[], [], rfl, by simp; omega, by simpa using hb, by simp, by simp, by simp; omega⟩
  ·rintro ⟨p, q, h, h1, h2, _, _, h3⟩
   simp only [sp, k9] at h
   obtain ⟨rfl, rfl⟩ := h
   simp only [jD] at h1 h3
   exact ⟨a, b, rfl, by omega, by omega⟩
 | c :: l, a, b, hb => by
  by_cases hc : c = 47
  ·have hsp : sp (c :: l) = [] :: sp l := by simp [sp, hc]
   rw [hsp]
   simp only [qXx, hc, jH]
   by_cases h0 : b = 0
   ·subst h0
    simp only [jH]
    constructor
    ·rintro ⟨x, y, h, _⟩; cases h
    ·rintro ⟨p, q, h, h1, _⟩
     simp only [k9] at h
     rw [← h.1] at h1; simp at h1
   ·rw [if_neg h0]
    rw [qWv l (a + 1) 0 (by omega)]
    constructor
    ·rintro ⟨p, q, h, h1, h2, h3, h4, h5⟩
     refine ⟨[], sp l, rfl, by simp; omega, by simpa using hb, by simp, ?_, by rw [h]; simp only [jC]; omega⟩
     intro r hr
     rw [h] at hr
     rcases jO.1 hr with rfl | hr
     ·exact ⟨by omega, by omega, h3⟩
     ·exact h4 r hr
    ·rintro ⟨p, q, h, h1, h2, h3, h4, h5⟩
     simp only [k9] at h
     obtain ⟨rfl, rfl⟩ := h
     obtain ⟨p, q, hpq⟩ : ∃ p q, sp l = p :: q := by
      cases he : sp l with
      | nil => exact absurd he (zGt l)
      | cons p q => exact ⟨p, q, rfl⟩
     rw [hpq] at h4 h5
     obtain ⟨g1, g2, g3⟩ := h4 p (jT ..)
     exact ⟨p, q, hpq, by omega, by omega, g3, fun r hr => h4 r (jY _ hr), by simp only [jC] at h5; omega⟩
  ·obtain ⟨p0, q0, hpq⟩ : ∃ p q, sp l = p :: q := by
    cases he : sp l with
    | nil => exact absurd he (zGt l)
    | cons p q => exact ⟨p, q, rfl⟩
   have hsp : sp (c :: l) = (c :: p0) :: q0 := by simp only [sp, hc, jE, hpq]
   rw [hsp]
   simp only [qXx, hc, jE]
   by_cases hk : inK [1, 2, 3, 4] c = true
   ·rw [if_pos hk]
    by_cases h24 : b + 1 > 24
    ·rw [if_pos h24]
     constructor
     ·rintro ⟨x, y, h, _⟩; cases h
     ·rintro ⟨p, q, h, h1, h2, _⟩
      simp only [k9] at h
      rw [← h.1] at h2
      simp only [jC] at h2
      omega
    ·rw [if_neg h24, qWv l a (b + 1) (by omega)]
     constructor
     ·rintro ⟨p, q, h, h1, h2, h3, h4, h5⟩
      rw [hpq] at h
      simp only [k9] at h
      obtain ⟨rfl, rfl⟩ := h
      refine ⟨_, _, rfl, by simp only [jC]; omega, by simp only [jC]; omega, ?_, h4, h5⟩
      intro d hd
      rcases jO.1 hd with rfl | hd
      ·exact hk
      ·exact h3 d hd
     ·rintro ⟨p, q, h, h1, h2, h3, h4, h5⟩
      simp only [k9] at h
      obtain ⟨rfl, rfl⟩ := h
      simp only [jC] at h1 h2
      exact ⟨p0, q0, hpq, by omega, by omega, fun d hd => h3 d (jY _ hd), h4, h5⟩
   ·rw [if_neg hk]
    constructor
    ·rintro ⟨x, y, h, _⟩; cases h
    ·rintro ⟨p, q, h, h1, h2, h3, _⟩
     simp only [k9] at h
     rw [← h.1] at h3
     exact absurd (h3 c (jT ..)) hk
theorem inK4 {N : Nat} (c : UInt8) : ((qEy N (c.toNat : Int)).bind fun y1 => if y1 = true then (some true) else (some ((c.toNat : Int) == 46))) = some (inK [1, 2, 3, 4] c) := by
 have h := qVl (p := fun c => (inK [1, 2, 3] c || decide (c.toNat = 46)) == inK [1, 2, 3, 4] c) (by kernel_rfl) c
 rw [jV] at h
 rw [← h, qTm]
 simp only [j0]
 have e : ((c.toNat : Int) == 46) = decide (c.toNat = 46) := by rw [jR, jV, jA]; omega
 rw [e]
 cases inK [1, 2, 3] c <;> simp
theorem qRu {N : Nat} {s : ByteArray} (hl : s.data.toList.length < 1000000) : ∀ (d i M a b : Nat), i + d = s.data.toList.length → d < M → a ≤ i + 1 → b ≤ 24 →
  qAz (qGa N s) M ((a : Int), (b : Int), (i : Int)) = some (match qXx a b (s.data.toList.drop i) with | some z => .inl ((z.1 : Int), (z.2 : Int)) | none => .inr false)
 | d, i, 0, _, _, _, h, _, _ => by omega
 | 0, i, M + 1, a, b, h1, h2, h3, h4 => by
  have hs := qCi s
  simp only [qAz, qGa]
  rw [if_neg (by simp only [jA]; omega), jN (by omega)]
  rfl
 | d + 1, i, M + 1, a, b, h1, h2, h3, h4 => by
  have hs := qCi s
  have hi : i < s.data.toList.length := by omega
  simp only [qAz, qGa]
  rw [if_pos (by simp only [jA]; omega), jI hi, qFb hi]
  simp only [j0, inK4, jV, qXx]
  by_cases hc : s.data.toList[i] = 47
  ·rw [if_pos (show ((s.data.toList[i]).toNat : Int) = 47 by rw [hc]; rfl), if_pos hc]
   by_cases hb : b = 0
   ·rw [if_pos (show (b : Int) = 0 by omega), if_pos hb]
    rfl
   ·rw [if_neg (show ¬ (b : Int) = 0 by omega), if_neg hb, wi64 (x := (a : Int) + 1) (by omega) (by omega)]
    simp only [j0]
    rw [if_neg (by simp), wi64 (by omega) (by omega)]
    have := qRu (N := N) hl d (i + 1) M (a + 1) 0 (by omega) (by omega) (by omega) (by omega)
    exact this
  ·have hc' : ¬ ((s.data.toList[i]).toNat : Int) = 47 := fun h => hc (UInt8.toNat_inj.1 (by show _ = 47; omega))
   rw [if_neg hc', if_neg hc]
   by_cases hk : inK [1, 2, 3, 4] (s.data.toList[i]) = true
   ·rw [if_pos hk, if_pos hk, wi64 (x := (b : Int) + 1) (by omega) (by omega)]
    simp only [j0]
    by_cases h24 : b + 1 > 24
    ·rw [if_pos (by simp only [jA]; omega), if_pos h24]
     rfl
    ·rw [if_neg (by simp only [jA]; omega), if_neg h24, wi64 (by omega) (by omega)]
     have := qRu (N := N) hl d (i + 1) M a (b + 1) (by omega) (by omega) (by omega) (by omega)
     exact this
   ·rw [if_neg hk, if_neg hk]
    rfl
def qKx (l : List UInt8) : Bool := decide (l.length ≤ 80 ∧ (sp l).length ≤ 8 ∧ ∀ p ∈ sp l, 1 ≤ p.length ∧ p.length ≤ 24 ∧ ∀ c ∈ p, inK [1, 2, 3, 4] c = true)
theorem zCl (l : List UInt8) : qKx l = true ↔ l.length ≤ 80 ∧ ∃ x y, qXx 1 0 l = some (x, y) ∧ 0 < y ∧ x ≤ 8 := by
 rw [qWv l 1 0 (by omega)]
 simp only [qKx, jA]
 obtain ⟨p, q, hpq⟩ : ∃ p q, sp l = p :: q := by
  cases he : sp l with
  | nil => exact absurd he (zGt l)
  | cons p q => exact ⟨p, q, rfl⟩
 constructor
 ·rintro ⟨h1, h2, h3⟩
  rw [hpq] at h2 h3
  obtain ⟨g1, g2, g3⟩ := h3 p (jT ..)
  exact ⟨h1, p, q, hpq, by omega, by omega, g3, fun r hr => h3 r (jY _ hr), by simp only [jC] at h2; omega⟩
 ·rintro ⟨h1, p', q', h, h2, h3, h4, h5, h6⟩
  refine ⟨h1, by rw [h]; simp only [jC]; omega, ?_⟩
  intro r hr
  rw [h] at hr
  rcases jO.1 hr with rfl | hr
  ·exact ⟨by omega, by omega, h4⟩
  ·exact h5 r hr
theorem qUk {N : Nat} {s : ByteArray} (hN : 100 < N) : qFm N s = some (qKx s.data.toList) := by
 have hs := qCi s
 simp only [qFm]
 by_cases h80 : s.data.toList.length ≤ 80
 ·rw [if_neg (by simp only [jA]; omega)]
  have key := qRu (N := N) (s := s) (by omega) s.data.toList.length 0 N 1 0 (by omega) (by omega) (by omega) (by omega)
  rw [show ((0 : Nat) : Int) = 0 from rfl, show ((1 : Nat) : Int) = 1 from rfl, jZ] at key
  rw [key]
  have hp := zCl s.data.toList
  cases hR : qXx 1 0 s.data.toList with
  | none =>
   simp only [j0]
   refine congrArg some ?_
   rw [jR, hp]
   constructor
   ·intro h; cases h
   ·rintro ⟨_, x, y, h, _⟩; rw [hR] at h; cases h
  | some z =>
   obtain ⟨x, y⟩ := z
   simp only [j0]
   by_cases hy : 0 < y
   ·rw [if_pos (by simp only [jA]; omega)]
    simp only [j0]
    refine congrArg some ?_
    rw [jR, hp, jA]
    constructor
    ·intro h; exact ⟨h80, x, y, hR, hy, by omega⟩
    ·rintro ⟨_, x', y', h, _, h2⟩; rw [hR] at h; simp only [jK, Prod.mk.injEq] at h; omega
   ·rw [if_neg (by simp only [jA]; omega)]
    simp only [j0]
    refine congrArg some ?_
    rw [jR, hp]
    constructor
    ·intro h; cases h
    ·rintro ⟨_, x', y', h, h1, _⟩; rw [hR] at h; simp only [jK, Prod.mk.injEq] at h; omega
 ·rw [if_pos (by simp only [jA]; omega)]
  refine congrArg some ?_
  rw [jR, zCl]
  exact ⟨fun h => (by cases h), fun h => absurd h.1 h80⟩
end
section
open Go Go.Dc
theorem tw_is {p : UInt8 → Bool} {l : List UInt8} {k : Nat} (hk : k < l.length) (h1 : ∀ j, ∀ h : j < l.length, j < k → p l[j] = true) (h2 : p l[k] = false) : tw p l 0 = k := by
 have key : ∀ d j, j + d = k → tw p l j = k := by
  intro d
  induction d with
  | zero =>
   intro j h
   have : j = k := by omega
   subst this
   exact qRt hk h2
  | succ d ih => intro j h; rw [← qRq (by omega) (h1 j (by omega) (by omega))]; exact ih (j + 1) (by omega)
 exact key k 0 (by omega)
theorem ix_eq (x : ByteArray) : ixB x 47 = if (x.data.toList.takeWhile qNw).length = x.data.toList.length then -1 else ((x.data.toList.takeWhile qNw).length : Int) := by
 have hs := qCi x
 have htw : tw qNw x.data.toList 0 = (x.data.toList.takeWhile qNw).length := by simp [tw]
 have hget : ∀ j, ∀ h : j < x.data.toList.length, x[j]! = x.data.toList[j] := by
  intro j hj
  rw [getElem!_pos x j (by omega)]
  simp [ByteArray.getElem_eq_getElem_data]
 have h47 : (47 : Int).toNat.toUInt8 = 47 := rfl
 rw [← htw]
 unfold ixB
 rw [h47, ← hs]
 cases hf : (List.range x.data.toList.length).find? (fun j => x[j]! == 47) with
 | none =>
  rw [List.find?_eq_none] at hf
  simp only
  rw [if_pos]
  refine zLr fun c hc => ?_
  obtain ⟨j, hj, rfl⟩ := List.getElem_of_mem hc
  have := hf j (gS.2 hj)
  rw [hget j hj] at this
  simpa [qNw] using this
 | some k =>
  have h1 := List.find?_some hf
  have hk : k < x.data.toList.length := gS.1 (gD hf)
  rw [hget k hk] at h1
  have e : tw qNw x.data.toList 0 = k := by
   refine tw_is hk (fun j h hj => ?_) (by simpa [qNw] using h1)
   have := (List.find?_range_eq_some.1 hf).2.2 j hj
   rw [hget j h] at this
   simpa [qNw] using this
  simp only
  rw [e, if_neg (by omega)]
theorem zKk {N : Nat} (x : ByteArray) : qLh N x (⟨#[47]⟩ : ByteArray) = some (ixB x 47) := by
 have h1 : idxB (⟨#[47]⟩ : ByteArray) 0 = some 47 := by kernel_rfl
 simp only [qLh, qGz, qDo, show (⟨#[47]⟩ : ByteArray).size = 1 from rfl, qDz]
 rw [if_neg (by decide)]
 simp only [j0, jA]
 by_cases h : (⟨#[47]⟩ : ByteArray) = x
 ·have h0 : ixB (⟨#[47]⟩ : ByteArray) 47 = 0 := by kernel_rfl
  rw [if_pos h, ← h, h0]
  rfl
 ·rw [if_neg h, if_pos (by decide), h1]
  rfl
theorem cnt_eq (x : ByteArray) : cntB x 47 = ((x.data.toList.count 47 : Nat) : Int) := by
 unfold cntB
 rw [Go.Lib.foldl_data]
 have key : ∀ (l : List UInt8) (n : Int), l.foldl (fun n x => if x == (47 : Int).toNat.toUInt8 then n + 1 else n) n = n + ((l.count 47 : Nat) : Int) := by
  intro l
  induction l with
  | nil => intro n; simp
  | cons c l ih =>
   intro n
   rw [kI, ih, List.count_cons]
   have h47 : (47 : Int).toNat.toUInt8 = 47 := rfl
   rw [h47]
   by_cases h : (c == 47) = true
   ·simp only [h, jH]; omega
   ·simp only [h, jB, jE]; omega
 rw [key]
 omega
theorem zMl {α : Type} (l : List α) (k : Nat) (a b : α) : (l ++ List.replicate (k + 1) a).set l.length b = (l ++ [b]) ++ List.replicate k a := by
 rw [List.set_append_right _ _ (jW _)]
 simp [List.replicate_succ]
theorem qYl {N n : Nat} {s : ByteArray} (hn : n < 1000000000) (hns : n ≤ s.size + 1) (hs : s.size < 1000000000) : ∀ (r M : Nat) (x : ByteArray) (done : List ByteArray), (sp x.data.toList).length = r → done.length + r = n → r < M → x.size < 1000000000 →
  ∃ y D, qAz (qIt N s (⟨#[47]⟩ : ByteArray) 0 (n : Int)) M (x, (done.length : Int), done ++ List.replicate r (⟨#[]⟩ : ByteArray)) = some (y, ((n - 1 : Nat) : Int), D ++ [(⟨#[]⟩ : ByteArray)]) ∧ D.length = n - 1 ∧ D ++ [y] = done ++ (sp x.data.toList).map qQr
 | _, 0, _, _, _, _, h, _ => by omega
 | 0, _, x, _, h, _, _, _ => by exact absurd (fC.1 h) (zGt _)
 | r + 1, M + 1, x, done, h1, h2, h3, h4 => by
  have hxs := qCi x
  have hmin : (if IntKind.wrap .i64 ((s.size : Int) + 1) < (n : Int) then IntKind.wrap .i64 ((s.size : Int) + 1) else (n : Int)) = (n : Int) := by
   rw [wi64 (by omega) (by omega)]; split <;> omega
  have hstep := zJx x.data.toList
  simp only [qAz, qIt]
  rw [hmin, wi64 (x := (n : Int) - 1) (by omega) (by omega)]
  by_cases hlast : (x.data.toList.takeWhile qNw).length = x.data.toList.length
  ·rw [if_pos hlast] at hstep
   rw [hstep] at h1
   simp only [jC, jD] at h1
   have hr : r = 0 := by omega
   subst hr
   rw [if_neg (by simp only [jA]; omega)]
   refine ⟨x, done, ?_, by omega, ?_⟩
   ·simp only [j0]
    rw [show (n - 1 : Nat) = done.length by omega]
    rfl
   ·rw [hstep]; simp [qQr]
  ·rw [if_neg hlast] at hstep
   rw [hstep] at h1
   simp only [jC] at h1
   have hpos : 0 < (sp (x.data.toList.drop ((x.data.toList.takeWhile qNw).length + 1))).length := gM.2 (zGt _)
   have hle : (x.data.toList.takeWhile qNw).length ≤ x.data.toList.length := (fE _).length_le
   have hix := ix_eq x
   rw [if_neg hlast] at hix
   rw [if_pos (by simp only [jA]; omega), zKk, hix]
   simp only [j0, show (⟨#[47]⟩ : ByteArray).size = 1 from rfl]
   have he : (x.data.toList.takeWhile qNw) = x.data.toList.take (x.data.toList.takeWhile qNw).length := List.prefix_iff_eq_take.1 (List.takeWhile_prefix _)
   have hx1 : x.extract 0 (x.data.toList.takeWhile qNw).length = qQr (x.data.toList.takeWhile qNw) := by
    apply Go.WideShapes.bytes_inj
    simp only [ByteArray.data_extract, gF, kT, qQr, jZ, Nat.sub_zero]
    exact he.symm
   have hx2 : (x.extract ((x.data.toList.takeWhile qNw).length + 1) x.data.toList.length).data.toList = x.data.toList.drop ((x.data.toList.takeWhile qNw).length + 1) := by
    simp only [ByteArray.data_extract, gF, kT]
    exact fD (by simp only [gZ]; omega)
   generalize hk : (x.data.toList.takeWhile qNw).length = k at *
   rw [if_neg (by simp only [jA]; omega), wi64 (x := (k : Int) + 0) (by omega) (by omega), Int.add_zero]
   have hsub0 : subB x 0 (k : Int) = some (x.extract 0 k) := by
    have := qMj (s := x) (i := 0) (e := k) (by omega) (by omega)
    simpa only [Int.natCast_zero] using this
   rw [hsub0]
   simp only [j0]
   rw [qFt (by simp), wi64 (x := (k : Int) + ((1 : Nat) : Int)) (by omega) (by omega), show ((k : Int) + ((1 : Nat) : Int)) = ((k + 1 : Nat) : Int) by omega, qXl (by omega)]
   simp only [j0, kH]
   rw [zMl, hx1, wi64 (by omega) (by omega)]
   have hxs2 := qCi (x.extract (k + 1) x.data.toList.length)
   rw [hx2, gZ] at hxs2
   obtain ⟨y, D, g1, g2, g3⟩ := qYl (N := N) hn hns hs r M (x.extract (k + 1) x.data.toList.length) (done ++ [qQr (x.data.toList.takeWhile qNw)]) (by rw [hx2]; omega) (by simp; omega) (by omega) (by omega)
   refine ⟨y, D, ?_, g2, ?_⟩
   ·rw [← g1]; simp
   ·rw [g3, hx2, hstep]; simp
termination_by r => r
theorem zKm {N : Nat} {s : ByteArray} (hl : s.size < 100000000) (hN : 2 * s.size + 1000 < N) : qMm N s (⟨#[47]⟩ : ByteArray) = some ((sp s.data.toList).map qQr) := by
 have hs := qCi s
 have hlen := zJt s.data.toList
 have hc : s.data.toList.count 47 ≤ s.data.toList.length := List.count_le_length
 have h1 : idxB (⟨#[47]⟩ : ByteArray) 0 = some 47 := by kernel_rfl
 have hcount : qMo N s (⟨#[47]⟩ : ByteArray) = some ((s.data.toList.count 47 : Nat) : Int) := by
  simp only [qMo, show (⟨#[47]⟩ : ByteArray).size = 1 from rfl]
  rw [if_neg (by decide), if_pos (by decide), h1]
  simp only [j0]
  rw [← cnt_eq]; rfl
 simp only [qMm, qLr, qDz, hcount, j0]
 rw [if_neg (by decide), if_neg (by decide), if_pos (by decide)]
 simp only [j0]
 rw [wi64 (x := ((s.data.toList.count 47 : Nat) : Int) + 1) (by omega) (by omega), show ((s.data.toList.count 47 : Nat) : Int) + 1 = (((sp s.data.toList).length : Nat) : Int) by omega]
 generalize hn : (sp s.data.toList).length = n at *
 have hmin : (if IntKind.wrap .i64 ((s.size : Int) + 1) < (n : Int) then IntKind.wrap .i64 ((s.size : Int) + 1) else (n : Int)) = (n : Int) := by
  rw [wi64 (by omega) (by omega)]; split <;> omega
 rw [hmin]
 have hm : zEk 16 (⟨#[]⟩ : ByteArray) (n : Int) = some (List.replicate n (⟨#[]⟩ : ByteArray)) := by
  unfold zEk
  rw [if_pos (by simp only [maxLen]; omega), kH]
 rw [hm]
 simp only [j0]
 obtain ⟨y, D, g1, g2, g3⟩ := qYl (N := N) (n := n) (s := s) (by omega) (by omega) (by omega) n N s [] hn (by simp) (by omega) (by omega)
 simp only [jD, kD] at g1 g3
 rw [show ((0 : Nat) : Int) = 0 from rfl] at g1
 rw [g1]
 simp only [j0]
 rw [qFt (by simp; omega)]
 simp only [j0, kH]
 have hset : (D ++ [(⟨#[]⟩ : ByteArray)]).set (n - 1) y = D ++ [y] := by
  rw [← g2, List.set_append_right _ _ (jW _)]; simp
 rw [hset, g3, wi64 (by omega) (by omega), show ((n - 1 : Nat) : Int) + 1 = (n : Int) by omega, zHz (by omega) (by omega) (by rw [gI, hn]; omega)]
 simp only [j0, kH, Int.toNat_zero, jZ]
 rw [fD (by rw [gI, hn]; exact jW _)]
theorem zLo {p : UInt8 → Bool} {l : List UInt8} : tw p l 0 = l.length ↔ ∀ c ∈ l, p c = true := by
 constructor
 ·intro h c hc
  have h1 : (l.takeWhile p).length = l.length := by simpa [tw] using h
  have h2 := (List.takeWhile_prefix p (l := l)).eq_of_length h1
  rw [← h2] at hc
  exact zFb hc
 ·exact zLr
def zEl (x : ByteArray) : Bool := decide (1 ≤ x.data.toList.length ∧ x.data.toList.length ≤ 24 ∧ ∀ c ∈ x.data.toList, inK [1, 2, 3, 4] c = true)
theorem zBc (x : ByteArray) : zEl x = true ↔ 1 ≤ x.data.toList.length ∧ x.data.toList.length ≤ 24 ∧ ∀ c ∈ x.data.toList, inK [1, 2, 3, 4] c = true := decide_eq_true_iff
theorem zNh {N : Nat} {x : ByteArray} (hN : 100 < N) : (if (decide ((x.size : Int) < 1)) = true then (some true) else (if (decide ((x.size : Int) > 24)) = true then (some true) else ((qKi N x 0 (some kdL) ([1, 2, 3, 4])).bind fun y3 => some (y3 != (x.size : Int))))) = some (!zEl x) := by
 have hs := qCi x
 have hno : ∀ h : ¬ (1 ≤ x.data.toList.length ∧ x.data.toList.length ≤ 24 ∧ ∀ c ∈ x.data.toList, inK [1, 2, 3, 4] c = true), zEl x = false := fun h => jQ h
 by_cases h1 : 1 ≤ x.data.toList.length
 ·rw [if_neg (by simp only [jA]; omega)]
  by_cases h2 : x.data.toList.length ≤ 24
  ·rw [if_neg (by simp only [jA]; omega)]
   have hsp := qWz (N := N) (s := x) (ks := [1, 2, 3, 4]) (i := 0) (by omega) (by omega) (by simp) (by omega)
   rw [show ((0 : Nat) : Int) = 0 from rfl] at hsp
   rw [hsp]
   simp only [j0]
   refine congrArg some ?_
   by_cases h3 : tw (inK [1, 2, 3, 4]) x.data.toList 0 = x.data.toList.length
   ·have : zEl x = true := jM ⟨h1, h2, zLo.1 h3⟩
    rw [this, h3, hs]
    simp
   ·rw [hno fun h => h3 (zLo.2 h.2.2)]
    simp only [jU, gG, ne_eq]
    omega
  ·rw [if_pos (by simp only [jA]; omega), hno fun h => h2 h.2.1]
   rfl
 ·rw [if_pos (by simp only [jA]; omega), hno fun h => h1 h.1]
  rfl
theorem zBl {N : Nat} {L : List ByteArray} (hL : L.length < 1000) (hN : 100 < N) : ∀ (d j M : Nat), j + d = L.length → d < M → qAz (qLk N L (some kdL)) M (j : Int) = some (if (L.drop j).all zEl = true then .inl () else .inr false)
 | d, j, 0, _, h => by omega
 | 0, j, M + 1, h1, h2 => by
  simp only [qAz, qLk]
  rw [if_neg (by simp only [jA]; omega), jN (by omega)]
  rfl
 | d + 1, j, M + 1, h1, h2 => by
  have hj : j < L.length := by omega
  simp only [qAz, qLk]
  rw [if_pos (by simp only [jA]; omega), qFt hj]
  simp only [j0, zNh hN]
  rw [jI hj, List.all_cons]
  cases hp : zEl L[j] with
  | true =>
   rw [if_neg (by simp), wi64 (by omega) (by omega)]
   simp only [j0, fK]
   exact zBl hL hN d (j + 1) M (by omega) (by omega)
  | false => simp
theorem zAo {N : Nat} {s : ByteArray} (hl : s.size < 100000000) (hN : 2 * s.size + 1000 < N) : qIr N s = some (qKx s.data.toList) := by
 have hs := qCi s
 have hno : ∀ h : ¬ (s.data.toList.length ≤ 80 ∧ (sp s.data.toList).length ≤ 8 ∧ ∀ p ∈ sp s.data.toList, 1 ≤ p.length ∧ p.length ≤ 24 ∧ ∀ c ∈ p, inK [1, 2, 3, 4] c = true), qKx s.data.toList = false := fun h => jQ h
 simp only [qIr, zKm hl hN, j0, gI]
 by_cases h80 : s.data.toList.length ≤ 80
 ·rw [if_neg (by simp only [jA]; omega)]
  by_cases h8 : (sp s.data.toList).length ≤ 8
  ·have e8 : decide (((sp s.data.toList).length : Int) > 8) = false := jQ (by omega)
   simp only [j0, e8, jB, jE, qZs (show 30 < N by omega)]
   have key := zBl (N := N) (L := (sp s.data.toList).map qQr) (by rw [gI]; omega) (by omega) _ 0 N (gC _) (by rw [gI]; omega)
   rw [show ((0 : Nat) : Int) = 0 from rfl, jZ] at key
   rw [key]
   simp only [j0]
   by_cases hp : ((sp s.data.toList).map qQr).all zEl = true
   ·have : qKx s.data.toList = true := jM ⟨h80, h8, fun p hp' => by
     have := (zBc _).1 (jS.1 hp (qQr p) (kS hp'))
     simpa [qQr] using this⟩
    rw [if_pos hp, this]
   ·rw [if_neg hp, hno fun h => hp (jS.2 fun x hx => by
     obtain ⟨p, hp', rfl⟩ := fJ.1 hx
     exact (zBc _).2 (by simpa [qQr] using h.2.2 p hp'))]
  ·have e8 : decide (((sp s.data.toList).length : Int) > 8) = true := jM (by omega)
   simp only [j0, e8, jH]
   rw [hno fun h => h8 h.2.1]
 ·rw [if_pos (by simp only [jA]; omega)]
  simp only [j0, jH]
  rw [hno fun h => h80 h.1]
end
section
open Go Go.Dc
def run {α τ β : Type} (step : τ → α → τ ⊕ β) (fin : τ → β) : List α → τ → β
 | [], t => fin t
 | x :: l, t => match step t x with
  | .inl t' => run step fin l t'
  | .inr b => b
theorem zBs {α τ σ β : Type} {L : List α} (enc : τ → Nat → σ) {f : σ → Option (σ ⊕ β)} (step : τ → α → τ ⊕ β) (fin : τ → β) (I : Nat → τ → Prop)
  (hstep : ∀ t i, ∀ hi : i < L.length, I i t → f (enc t i) = some (match step t L[i] with | .inl t' => .inl (enc t' (i + 1)) | .inr b => .inr b))
  (hinv : ∀ t i, ∀ hi : i < L.length, ∀ t', I i t → step t L[i] = .inl t' → I (i + 1) t')
  (hfin : ∀ t, I L.length t → f (enc t L.length) = some (.inr (fin t))) : ∀ (d i M : Nat) (t : τ), i + d = L.length → d < M → I i t → qAz f M (enc t i) = some (run step fin (L.drop i) t)
 | _, _, 0, _, _, h, _ => absurd h (kU _)
 | d, i, M + 1, t, h1, h2, h3 => by
  cases d with
  | zero =>
   have hi : i = L.length := by omega
   subst hi
   simp only [qAz, hfin t h3, j0, List.drop_length, run]
  | succ d =>
   have hi : i < L.length := by omega
   have hd : L.drop i = L[i] :: L.drop (i + 1) := (fF hi).symm
   simp only [qAz, hstep t i hi h3, j0]
   rw [hd]
   simp only [run]
   cases hs : step t L[i] with
   | inl t' =>
    simp only
    exact zBs enc step fin I hstep hinv hfin d (i + 1) M t' (by omega) (by omega) (hinv t i hi t' h3 hs)
   | inr b => rfl
theorem qYr {α τ σ β : Type} {L : List α} (enc : τ → Nat → σ) {f : σ → Option (σ ⊕ β)} (step : τ → α → τ ⊕ β) (fin : τ → β) (I : Nat → τ → Prop)
  (hstep : ∀ t i, ∀ hi : i < L.length, I i t → f (enc t i) = some (match step t L[i] with | .inl t' => .inl (enc t' (i + 1)) | .inr b => .inr b))
  (hinv : ∀ t i, ∀ hi : i < L.length, ∀ t', I i t → step t L[i] = .inl t' → I (i + 1) t')
  (hfin : ∀ t, I L.length t → f (enc t L.length) = some (.inr (fin t))) {M : Nat} {t : τ} (hM : L.length < M) (h0 : I 0 t) : qAz f M (enc t 0) = some (run step fin L t) := by
 have := zBs enc step fin I hstep hinv hfin L.length 0 M t (by omega) hM h0
 rw [jZ] at this; exact this
theorem qZq {α τ β : Type} {step : τ → α → τ ⊕ β} {fin : τ → β} (g : τ → α → τ) (h : ∀ t x, step t x = .inl (g t x)) : ∀ (l : List α) (t : τ), run step fin l t = fin (l.foldl g t)
 | [], _ => rfl
 | x :: l, t => by simp only [run, h, kI]; exact qZq g h l _
theorem qUp {α : Type} {l : List α} {i : Nat} (h : i < l.length) : l.drop i = l[i] :: l.drop (i + 1) := (fF h).symm
end
section
open Go Go.Dc
abbrev File := ByteArray × ByteArray
def blt (a b : ByteArray) : Bool := Op.bytesLess a.toList b.toList
theorem zGh {a b : ByteArray} (h : a.toList = b.toList) : a = b := by
 have h1 : (a.toList == b.toList) = true := by rw [h]; exact gB _
 rw [qDz] at h1
 exact kX h1
theorem qXc : ∀ a : List UInt8, Op.bytesLess a a = false
 | [] => rfl
 | x :: a => by simp [Op.bytesLess, qXc a]
theorem qZe : ∀ a b c : List UInt8, Op.bytesLess a b = true → Op.bytesLess b c = true → Op.bytesLess a c = true
 | _, _, [], _, h => by simp [Op.bytesLess] at h
 | _, [], _ :: _, h, _ => by simp [Op.bytesLess] at h
 | [], _ :: _, _ :: _, _, _ => rfl
 | x :: a, y :: b, z :: c, h1, h2 => by
  simp only [Op.bytesLess, Bool.or_eq_true, jA, jP, jV] at h1 h2 ⊢
  rcases h1 with h1 | ⟨rfl, h1⟩ <;> rcases h2 with h2 | ⟨rfl, h2⟩
  ·exact .inl (UInt8.lt_trans h1 h2)
  ·exact .inl h1
  ·exact .inl h2
  ·exact .inr ⟨rfl, qZe a b c h1 h2⟩
theorem qYn : ∀ a b : List UInt8, Op.bytesLess a b = true ∨ a = b ∨ Op.bytesLess b a = true
 | [], [] => .inr (.inl rfl)
 | [], _ :: _ => .inl rfl
 | _ :: _, [] => .inr (.inr rfl)
 | x :: a, y :: b => by
  simp only [Op.bytesLess, Bool.or_eq_true, jA, jP, jV, k9]
  rcases qYn a b with h | h | h
  ·rcases Nat.lt_trichotomy x.toNat y.toNat with g | g | g
   ·exact .inl (.inl (UInt8.lt_iff_toNat_lt.2 g))
   ·have g := UInt8.toNat_inj.1 g; exact .inl (.inr ⟨g, h⟩)
   ·exact .inr (.inr (.inl (UInt8.lt_iff_toNat_lt.2 g)))
  ·rcases Nat.lt_trichotomy x.toNat y.toNat with g | g | g
   ·exact .inl (.inl (UInt8.lt_iff_toNat_lt.2 g))
   ·have g := UInt8.toNat_inj.1 g; exact .inr (.inl ⟨g, h⟩)
   ·exact .inr (.inr (.inl (UInt8.lt_iff_toNat_lt.2 g)))
  ·rcases Nat.lt_trichotomy x.toNat y.toNat with g | g | g
   ·exact .inl (.inl (UInt8.lt_iff_toNat_lt.2 g))
   ·have g := UInt8.toNat_inj.1 g; exact .inr (.inr (.inr ⟨g.symm, h⟩))
   ·exact .inr (.inr (.inl (UInt8.lt_iff_toNat_lt.2 g)))
theorem qMy (a : ByteArray) : blt a a = false := qXc _
theorem qPv {a b c : ByteArray} (h1 : blt a b = true) (h2 : blt b c = true) : blt a c = true := qZe _ _ _ h1 h2
theorem qTu (a b : ByteArray) : blt a b = true ∨ a = b ∨ blt b a = true := by
 rcases qYn a.toList b.toList with h | h | h
 ·exact .inl h
 ·exact .inr (.inl (zGh h))
 ·exact .inr (.inr h)
theorem zCp {a b : ByteArray} (h : blt a b = true) : blt b a = false := by
 cases h2 : blt b a with
 | false => rfl
 | true => have := qPv h h2; rw [qMy] at this; cases this
theorem zJc {a b : ByteArray} (h : blt a b = true) : a ≠ b := by rintro rfl; rw [qMy] at h; cases h
def Asc (L : List File) : Prop := L.Pairwise fun f g => blt f.1 g.1 = true
def fget : List File → ByteArray → Option ByteArray
 | [], _ => none
 | f :: L, p => if f.1 = p then some f.2 else fget L p
def fput : List File → ByteArray → ByteArray → List File
 | [], p, b => [(p, b)]
 | f :: L, p, b => if blt p f.1 = true then (p, b) :: f :: L else if f.1 = p then (p, b) :: L else f :: fput L p b
theorem qPb {L : List File} {p : ByteArray} (h : ∀ f ∈ L, blt p f.1 = true) : fget L p = none := by
 induction L with
 | nil => rfl
 | cons f L ih =>
  have h1 := h f (jT ..)
  simp only [fget]
  rw [if_neg (fun e => by rw [e, qMy] at h1; cases h1)]
  exact ih fun g hg => h g (jY _ hg)
theorem zEm {L : List File} (ha : Asc L) {f : File} (h : f ∈ L) : fget L f.1 = some f.2 := by
 induction L with
 | nil => cases h
 | cons g L ih =>
  have h2 := k8.1 ha
  rcases jO.1 h with rfl | h
  ·simp [fget]
  ·simp only [fget]
   rw [if_neg (zJc (h2.1 f h)), ih h2.2 h]
theorem Asc.ext : ∀ {L K : List File}, Asc L → Asc K → (∀ p, fget L p = fget K p) → L = K
 | [], [], _, _, _ => rfl
 | [], f :: K, _, _, h => by have := h f.1; simp [fget] at this
 | f :: L, [], _, _, h => by have := h f.1; simp [fget] at this
 | f :: L, g :: K, hL, hK, h => by
  have hL' := k8.1 hL
  have hK' := k8.1 hK
  have e : f.1 = g.1 := by
   rcases qTu f.1 g.1 with hl | hl | hl
   ·have h1 := h f.1
    rw [qPb (L := g :: K) (fun x hx => by
     rcases jO.1 hx with rfl | hx
     ·exact hl
     ·exact qPv hl (hK'.1 x hx))] at h1
    simp [fget] at h1
   ·exact hl
   ·have h1 := h g.1
    rw [qPb (L := f :: L) (fun x hx => by
     rcases jO.1 hx with rfl | hx
     ·exact hl
     ·exact qPv hl (hL'.1 x hx))] at h1
    simp [fget] at h1
  have e2 : f.2 = g.2 := by have := h f.1; rw [e] at this; simpa [fget, e] using this
  have e3 : f = g := Prod.ext e e2
  subst e3
  congr 1
  refine Asc.ext hL'.2 hK'.2 fun p => ?_
  by_cases hp : f.1 = p
  ·subst hp
   rw [qPb hL'.1, qPb hK'.1]
  ·have := h p
   simpa [fget, hp] using this
theorem qVu {L : List File} {p b : ByteArray} {f : File} (h : f ∈ fput L p b) : f = (p, b) ∨ f ∈ L := by
 induction L with
 | nil => simp [fput] at h; exact .inl h
 | cons g L ih =>
  simp only [fput] at h
  split at h
  ·rcases jO.1 h with h | h
   ·exact .inl h
   ·exact .inr h
  ·split at h
   ·rcases jO.1 h with h | h
    ·exact .inl h
    ·exact .inr (jY _ h)
   ·rcases jO.1 h with h | h
    ·exact .inr (h ▸ jT ..)
    ·rcases ih h with h | h
     ·exact .inl h
     ·exact .inr (jY _ h)
theorem Asc.put {L : List File} (h : Asc L) (p b : ByteArray) : Asc (fput L p b) := by
 induction L with
 | nil => exact List.pairwise_singleton _ _
 | cons g L ih =>
  have h' := k8.1 h
  simp only [fput]
  split
  ·rename_i h1
   refine k8.2 ⟨fun x hx => ?_, h⟩
   rcases jO.1 hx with rfl | hx
   ·exact h1
   ·exact qPv h1 (h'.1 x hx)
  ·rename_i h1
   split
   ·rename_i h2
    exact k8.2 ⟨fun x hx => by have := h'.1 x hx; rw [h2] at this; exact this, h'.2⟩
   ·rename_i h2
    refine k8.2 ⟨fun x hx => ?_, ih h'.2⟩
    rcases qVu hx with rfl | hx
    ·rcases qTu g.1 p with h3 | h3 | h3
     ·exact h3
     ·exact absurd h3 h2
     ·exact absurd h3 h1
    ·exact h'.1 x hx
theorem qWo (L : List File) (p b : ByteArray) : (fput L p b).length ≤ L.length + 1 := by
 induction L with
 | nil => simp [fput]
 | cons g L ih =>
  simp only [fput]
  split
  ·simp
  ·split
   ·simp
   ·simp only [jC]; omega
def zLs (f : File) : Prop := qKx f.1.data.toList = true ∧ f.2.size ≤ 16384
def WF (L : List File) : Prop := L.length ≤ 64 ∧ Asc L ∧ ∀ f ∈ L, zLs f
theorem WF.put {L : List File} (h : WF L) {p b : ByteArray} (hp : qKx p.data.toList = true) (hb : b.size ≤ 16384) (hl : (fput L p b).length ≤ 64) : WF (fput L p b) :=
 ⟨hl, h.2.1.put p b, fun f hf => by
  rcases qVu hf with rfl | hf
  ·exact ⟨hp, hb⟩
  ·exact h.2.2 f hf⟩
def zEq (q : Option ByteArray) (p : ByteArray) : Bool := match q with
 | some x => blt p x
 | none => false
def qUb : Option ByteArray → List File → Int
 | _, [] => 0
 | q, f :: L =>
  if qKx f.1.data.toList = false then 6
  else if q = some f.1 then 10
  else if zEq q f.1 = true then 6
  else if 16384 < f.2.size then 2
  else qUb (some f.1) L
def qKs (L : List File) : Int := if 64 < L.length then 2 else qUb none L
theorem zDa : ∀ {L : List File} {q : Option ByteArray}, qUb q L = 0 ↔ Asc L ∧ (∀ f ∈ L, zLs f) ∧ ∀ x, q = some x → ∀ f ∈ L, blt x f.1 = true
 | [], q => by simp [qUb, Asc]
 | f :: L, q => by
  have ih := zDa (L := L) (q := some f.1)
  simp only [qUb]
  by_cases h1 : qKx f.1.data.toList = false
  ·rw [if_pos h1]
   refine ⟨fun h => by omega, fun h => ?_⟩
   have := (h.2.1 f (jT ..)).1; rw [h1] at this; cases this
  rw [if_neg h1]
  have h1 : qKx f.1.data.toList = true := by simpa using h1
  by_cases h2 : q = some f.1
  ·rw [if_pos h2]
   refine ⟨fun h => by omega, fun h => ?_⟩
   have := h.2.2 _ h2 f (jT ..); rw [qMy] at this; cases this
  rw [if_neg h2]
  by_cases h3 : zEq q f.1 = true
  ·rw [if_pos h3]
   refine ⟨fun h => by omega, fun h => ?_⟩
   cases q with
   | none => cases h3
   | some x => have := h.2.2 x rfl f (jT ..); rw [show zEq (some x) f.1 = blt f.1 x from rfl, zCp this] at h3; cases h3
  rw [if_neg h3]
  by_cases h4 : 16384 < f.2.size
  ·rw [if_pos h4]
   refine ⟨fun h => by omega, fun h => ?_⟩
   have := (h.2.1 f (jT ..)).2; omega
  rw [if_neg h4, ih]
  have hq : ∀ x, q = some x → blt x f.1 = true := fun x hx => by
   subst hx
   rcases qTu x f.1 with g | g | g
   ·exact g
   ·exact absurd (by rw [g]) h2
   ·exact absurd g h3
  constructor
  ·rintro ⟨a1, a2, a3⟩
   refine ⟨k8.2 ⟨a3 f.1 rfl, a1⟩, fun g hg => ?_, fun x hx g hg => ?_⟩
   ·rcases jO.1 hg with rfl | hg
    ·exact ⟨h1, by omega⟩
    ·exact a2 g hg
   ·rcases jO.1 hg with rfl | hg
    ·exact hq x hx
    ·exact qPv (hq x hx) (a3 f.1 rfl g hg)
  ·rintro ⟨a1, a2, a3⟩
   have a1 := k8.1 a1
   exact ⟨a1.2, fun g hg => a2 g (jY _ hg), fun x hx => by cases hx; exact a1.1⟩
theorem qNp {L : List File} : qKs L = 0 ↔ WF L := by
 unfold qKs WF
 by_cases h : 64 < L.length
 ·rw [if_pos h]; exact ⟨fun h => by omega, fun g => by omega⟩
 ·rw [if_neg h, zDa]
  exact ⟨fun g => ⟨by omega, g.1, g.2.1⟩, fun g => ⟨g.2.1, g.2.2, fun x hx => by cases hx⟩⟩
def resK (c : Int) : Unit ⊕ Int := if c = 0 then .inl () else .inr c
def qAt (L : List File) (i : Nat) : Option ByteArray := if i = 0 then none else (L[i - 1]?).map (·.1)
theorem qYm {L : List File} {f : Int → Option (Int ⊕ (Unit ⊕ Int))}
  (step : ∀ i : Nat, ∀ h : i < L.length, f (i : Int) = if qKx L[i].1.data.toList = false then some (.inr (.inr 6)) else if qAt L i = some L[i].1 then some (.inr (.inr 10)) else if zEq (qAt L i) L[i].1 = true then some (.inr (.inr 6)) else if 16384 < L[i].2.size then some (.inr (.inr 2)) else some (.inl ((i : Int) + 1)))
  (stop : f (L.length : Int) = some (.inr (.inl ()))) : ∀ (d i M : Nat), i + d = L.length → d < M → qAz f M (i : Int) = some (resK (qUb (qAt L i) (L.drop i)))
 | _, _, 0, _, h => by omega
 | 0, i, M + 1, hd, _ => by
  have : i = L.length := by omega
  subst this
  simp [qAz, stop, qUb, resK]
 | d + 1, i, M + 1, hd, hM => by
  have hi : i < L.length := by omega
  have ih := qYm step stop d (i + 1) M (by omega) (by omega)
  have e1 : (i : Int) + 1 = ((i + 1 : Nat) : Int) := by omega
  have e2 : qAt L (i + 1) = some L[i].1 := by simp [qAt, hi]
  simp only [qAz, step i hi]
  rw [jI hi]
  simp only [qUb]
  by_cases h1 : qKx L[i].1.data.toList = false
  ·rw [if_pos h1, if_pos h1]; rfl
  rw [if_neg h1, if_neg h1]
  by_cases h2 : qAt L i = some L[i].1
  ·rw [if_pos h2, if_pos h2]; rfl
  rw [if_neg h2, if_neg h2]
  by_cases h3 : zEq (qAt L i) L[i].1 = true
  ·rw [if_pos h3, if_pos h3]; rfl
  rw [if_neg h3, if_neg h3]
  by_cases h4 : 16384 < L[i].2.size
  ·rw [if_pos h4, if_pos h4]; rfl
  rw [if_neg h4, if_neg h4, e1]
  simp only [j0]
  rw [ih, e2]
theorem eqB (x y : ByteArray) : (x.toList == y.toList) = decide (x = y) := qDz x y
theorem zGc {N : Nat} {L : List File} {P : ByteArray → Option Bool} {f : Int → Option (Int ⊕ (Unit ⊕ Int))} (hP : ∀ g ∈ L, P g.1 = some (qKx g.1.data.toList))
  (hf : ∀ s1, f s1 = if (decide (s1 < (List.length L : Int))) = true then ((idx L s1).bind fun x1 => (P x1.1).bind fun y1 => if (!y1) = true then (some (.inr (.inr (6)))) else ((if (decide (s1 > 0)) = true then ((idx L (IntKind.wrap .i64 (s1 - 1))).bind fun x2 => some (x1.1.toList == x2.1.toList)) else (some false) : Option (Bool)).bind fun o2 => if o2 = true then (some (.inr (.inr (10)))) else ((if (decide (s1 > 0)) = true then ((idx L (IntKind.wrap .i64 (s1 - 1))).bind fun x3 => some (Op.bytesLess x1.1.toList x3.1.toList)) else (some false) : Option (Bool)).bind fun o3 => if o3 = true then (some (.inr (.inr (6)))) else (if (decide ((ByteArray.size x1.2 : Int) > 16384)) = true then (some (.inr (.inr (2)))) else (some (.inl (IntKind.wrap .i64 (s1 + 1)))))))) else (some (.inr (.inl ()))))
  (hN : 100 < N) : (if (decide ((List.length L : Int) > 64)) = true then (some 2) else ((qAz f N 0).bind fun out1 => (match out1 with | .inl _ => some 0 | .inr z => some z)) : Option Int) = some (qKs L) := by
 unfold qKs
 by_cases h : 64 < L.length
 ·rw [if_pos h, if_pos (by simp only [jA]; omega)]
 ·rw [if_neg h, if_neg (by simp only [jA]; omega)]
  have key := qYm (L := L) (f := f) (fun i hi => by
   rw [hf, if_pos (by simp only [jA]; omega), qFt hi]
   simp only [j0, hP _ (kG hi)]
   by_cases h1 : qKx L[i].1.data.toList = false
   ·rw [if_pos (by rw [h1]; rfl), if_pos h1]
   have h1' : qKx L[i].1.data.toList = true := by simpa using h1
   rw [if_neg (by rw [h1']; simp), if_neg h1]
   by_cases h0 : 0 < i
   ·have hi1 : i - 1 < L.length := by omega
    have ew : IntKind.wrap .i64 ((i : Int) - 1) = ((i - 1 : Nat) : Int) := by rw [wi64 (by omega) (by omega)]; omega
    have eq : qAt L i = some (L[i - 1]).1 := by simp [qAt, hi1]; omega
    rw [ew, qFt hi1, eq]
    have ed : decide ((i : Int) > 0) = true := by simp only [jA]; omega
    simp only [j0, eqB, ed, jH, jA, jK]
    by_cases h2 : L[i].1 = (L[i - 1]).1
    ·rw [if_pos h2, if_pos h2.symm]
    rw [if_neg h2, if_neg (show ¬ (L[i - 1]).1 = L[i].1 from fun e => h2 e.symm)]
    have el : zEq (some (L[i - 1]).1) L[i].1 = Op.bytesLess L[i].1.toList (L[i - 1]).1.toList := rfl
    rw [el]
    by_cases h3 : Op.bytesLess L[i].1.toList (L[i - 1]).1.toList = true
    ·rw [if_pos h3, if_pos h3]
    rw [if_neg h3, if_neg h3]
    by_cases h4 : 16384 < L[i].2.size
    ·rw [if_pos (by omega), if_pos h4]
    ·rw [if_neg (by omega), if_neg h4, wi64 (by omega) (by omega)]
   ·have h0 : i = 0 := by omega
    subst h0
    have ed : decide (((0 : Nat) : Int) > 0) = false := by decide
    have eq : qAt L 0 = none := rfl
    have el : zEq none (L[0]).1 = false := rfl
    simp only [ed, jB, jE, j0, eq, jA, reduceCtorEq, el]
    by_cases h4 : 16384 < L[0].2.size
    ·rw [if_pos (by omega), if_pos h4]
    ·rw [if_neg (by omega), if_neg h4, wi64 (by omega) (by omega)]) (by rw [hf, if_neg (by simp)]) L.length 0 N (by omega) (by omega)
  rw [show ((0 : Nat) : Int) = 0 from rfl] at key
  rw [key, jZ]
  have eq : qAt L 0 = none := rfl
  rw [eq]
  simp only [j0, resK]
  by_cases hc : qUb none L = 0
  ·rw [if_pos hc, hc]
  ·rw [if_neg hc]
theorem zLg {N : Nat} {L : List File} (hP : ∀ g ∈ L, qIr N g.1 = some (qKx g.1.data.toList)) (hN : 100 < N) : qNj N L = some (qKs L) :=
 zGc (f := qLg N L) (P := qIr N) hP (fun _ => rfl) hN
theorem qTa {N : Nat} {L : List File} (hN : 100 < N) : qHi N L = some (qKs L) :=
 zGc (f := qIy N L) (P := qFm N) (fun _ _ => qUk hN) (fun _ => rfl) hN
end
section
open Go Go.Dc Go.Proofs
def qLe : ByteArray := ⟨#[]⟩
def zIm (o : Option ByteArray) : ByteArray × Bool := match o with
 | some b => (b, true)
 | none => (qLe, false)
def zLy (L : List File) (p : ByteArray) : ByteArray × Bool := if qKs L = 0 then zIm (fget L p) else (qLe, false)
abbrev qSz (N : Nat) (L : List File) : Prop := ∀ g ∈ L, qIr N g.1 = some (qKx g.1.data.toList)
theorem qVg {N : Nat} {L : List File} {p : ByteArray} (hl : L.length < 1000000) : ∀ (d i M : Nat), i + d = L.length → d < M → qAz (qGc N L p) M (i : Int) = some (match fget (L.drop i) p with | some b => .inr (b, true) | none => .inl ())
 | _, _, 0, _, h => by omega
 | 0, i, M + 1, hd, _ => by
  simp only [qAz, qGc]
  rw [if_neg (by simp only [jA]; omega), jN (by omega)]
  rfl
 | d + 1, i, M + 1, hd, hM => by
  have hi : i < L.length := by omega
  simp only [qAz, qGc]
  rw [if_pos (by simp only [jA]; omega), qFt hi, jI hi]
  simp only [j0, eqB, jA, fget]
  by_cases he : (L[i]).1 = p
  ·rw [if_pos he, if_pos he]; rfl
  ·rw [if_neg he, if_neg he, wi64 (by omega) (by omega)]
   have e1 : (i : Int) + 1 = ((i + 1 : Nat) : Int) := by omega
   simp only [j0]
   rw [e1, qVg hl d (i + 1) M (by omega) (by omega)]
theorem zGp {N : Nat} {L : List File} (p : ByteArray) (hN : 100 < N) : qJe N L p = some (zLy L p) := by
 simp only [qJe, qTa hN, j0]
 unfold zLy
 by_cases hc : qKs L = 0
 ·rw [if_neg (by simp [hc]), if_pos hc]
  have hw := (qNp.1 hc).1
  have := qVg (N := N) (L := L) (p := p) (by omega) L.length 0 N (by omega) (by omega)
  rw [show ((0 : Nat) : Int) = 0 from rfl, jZ] at this
  rw [this]
  cases fget L p <;> rfl
 ·rw [if_pos (by simpa using hc), if_neg hc]; rfl
def qIi (s : ByteArray) : Bool := qKx s.data.toList && decide (4 < s.size) && decide (s.extract (s.size - 4) s.size = (⟨#[46, 115, 114, 99]⟩ : ByteArray))
theorem zDo {N : Nat} {s : ByteArray} (hp : qIr N s = some (qKx s.data.toList)) : qJt N s = some (qIi s) := by
 simp only [qJt, hp, j0]
 unfold qIi
 cases hb : qKx s.data.toList with
 | false => simp
 | true =>
  have h80 : s.size ≤ 80 := by
   have : s.data.toList.length ≤ 80 := (kX hb).1
   have e := qCi s
   omega
  rw [if_pos rfl]
  by_cases h4 : 4 < s.size
  ·rw [if_pos (by simp only [jA]; omega)]
   have e4 : ByteArray.size (⟨#[46, 115, 114, 99]⟩ : ByteArray) = 4 := rfl
   simp only [qLi, qFn, e4]
   rw [if_pos (by simp only [jA]; omega), show IntKind.wrap .i64 ((s.size : Int) - ((4 : Nat) : Int)) = ((s.size - 4 : Nat) : Int) by rw [wi64 (by omega) (by omega)]; omega, qRk (by omega) (by omega) (by omega)]
   simp only [j0, kH, eqB, jM h4, fK]
  ·rw [if_neg (by simp only [jA]; omega), jQ h4]; rfl
theorem qXz {N : Nat} {s : ByteArray} (hN : 100 < N) : qHd N s = some (qIi s) := by
 simp only [qHd, qUk hN, j0]
 unfold qIi
 cases hb : qKx s.data.toList with
 | false => simp
 | true =>
  have h80 : s.size ≤ 80 := by
   have : s.data.toList.length ≤ 80 := (kX hb).1
   have e := qCi s
   omega
  rw [if_pos rfl]
  by_cases h4 : 4 < s.size
  ·rw [if_pos (by simp only [jA]; omega), show IntKind.wrap .i64 ((s.size : Int) - 4) = ((s.size - 4 : Nat) : Int) by rw [wi64 (by omega) (by omega)]; omega, qRk (by omega) (by omega) (by omega)]
   simp only [j0, kH, eqB, jM h4, fK]
  ·rw [if_neg (by simp only [jA]; omega), jQ h4]; rfl
section
variable {κ ν : Type} [DecidableEq κ]
theorem qYd : ∀ (l : List (κ × ν)) (k : κ) (v : ν) (c : κ), mget (qQo l k v) c = if c = k then some v else mget l c
 | [], k, v, c => by simp [qQo, mget]
 | p :: l, k, v, c => by
  simp only [qQo]
  by_cases h : k = p.1
  ·rw [if_pos h]
   simp only [mget]
   by_cases h2 : c = k
   ·rw [if_pos h2, if_pos h2]
   ·rw [if_neg h2, if_neg h2, if_neg (by rw [← h]; exact h2)]
  ·rw [if_neg h]
   simp only [mget]
   rw [qYd l k v c]
   by_cases h2 : c = p.1
   ·rw [if_pos h2, if_neg (fun e => h (by rw [← e, h2])), if_pos h2]
   ·rw [if_neg h2, if_neg h2]
theorem zGz [KOrd κ] {l : List (κ × ν)} (hn : (l.map (·.1)).Nodup) (k : κ) (v : ν) (c : κ) : mget (mset l k v) c = if c = k then some v else mget l c := by
 rw [← qXp (qPu (.refl l) hn k v) (qNg hn k v) c, qYd]
theorem zEv [KOrd κ] {l : List (κ × ν)} (hn : (l.map (·.1)).Nodup) (k : κ) (v : ν) : ((mset l k v).map (·.1)).Nodup :=
 ((qPu (.refl l) hn k v).map _).nodup_iff.1 (qNg hn k v)
end
end
section
open Go Go.Dc
instance decMemB (s : ByteArray) (l : List ByteArray) : Decidable (s ∈ l) := @List.instDecidableMemOfLawfulBEq ByteArray instBEqOfDecidableEq inferInstance s l
abbrev Ex := Int × Int × Int × ByteArray × List Int
abbrev Dl := Int × ByteArray × List ByteArray × List Ex
abbrev Sr := ByteArray × List ByteArray × List Dl
abbrev Flt := Int × Int
abbrev Ps := Nat × List Ex
abbrev PM (α : Type) := Flt ⊕ (Ps × α)
def tkAt (ts : List Tok) (i : Nat) : Tok := ts.getD i (5, ⟨#[]⟩, 0, 0)
def qGi {α : Type} (t : Tok) (e : Int) : Flt ⊕ α := .inl (t.2.2.2, e)
def qCc {α β : Type} (x : Flt ⊕ α) (f : α → Flt ⊕ β) : Flt ⊕ β :=
 match x with
 | .inl z => .inl z
 | .inr a => f a
def isC (ts : List Tok) (k : Int) (s : ByteArray) (i : Nat) : Bool := (tkAt ts i).1 == k && decide ((tkAt ts i).2.1 = s)
def qEr (ts : List Tok) (s : ByteArray) (i : Nat) : Flt ⊕ Nat := if isC ts 4 s i then .inr (i + 1) else qGi (tkAt ts i) 9
def qUc (ts : List Tok) (s : ByteArray) (i : Nat) : Flt ⊕ Nat := if isC ts 1 s i then .inr (i + 1) else qGi (tkAt ts i) 9
def qMz (ts : List Tok) (k : Int) (i : Nat) : Flt ⊕ (Nat × Tok) := if (tkAt ts i).1 = k then .inr (i + 1, tkAt ts i) else qGi (tkAt ts i) 9
def qTx : ByteArray := ⟨#[112, 97, 99, 107, 97, 103, 101]⟩
def qTb : ByteArray := ⟨#[105, 109, 112, 111, 114, 116]⟩
def zIt : ByteArray := ⟨#[102, 117, 110, 99]⟩
def zJj : ByteArray := ⟨#[116, 101, 115, 116]⟩
def sGen : ByteArray := ⟨#[103, 101, 110]⟩
def sIf : ByteArray := ⟨#[105, 102]⟩
def zHs : ByteArray := ⟨#[116, 104, 101, 110]⟩
def zHg : ByteArray := ⟨#[101, 108, 115, 101]⟩
def qRg : ByteArray := ⟨#[114, 101, 97, 100]⟩
def qSc : ByteArray := ⟨#[115, 105, 122, 101]⟩
def sHas : ByteArray := ⟨#[104, 97, 115]⟩
def sEnv : ByteArray := ⟨#[101, 110, 118]⟩
def qSy : ByteArray := ⟨#[102, 108, 105, 112]⟩
def qQa : ByteArray := ⟨#[40]⟩
def qIh : ByteArray := ⟨#[41]⟩
def qOb : ByteArray := ⟨#[44]⟩
def qTy : ByteArray := ⟨#[59]⟩
def sEq : ByteArray := ⟨#[61]⟩
def zJb : ByteArray := ⟨#[45]⟩
def wordsR : List ByteArray := [qTx, qTb, zIt, zJj, sGen, sIf, zHs, zHg, qRg, qSc, sHas, sEnv, qSy]
def resC (s : ByteArray) : Bool := decide (s ∈ wordsR)
def qMv (ts : List Tok) (i : Nat) : Flt ⊕ (Nat × Tok) := qCc (qMz ts 1 i) fun p => if resC p.2.2.1 then qGi p.2 9 else .inr p
def qOs (ts : List Tok) (i : Nat) : Flt ⊕ (Nat × Tok) := qCc (qMz ts 3 i) fun p => if qKx p.2.2.1.data.toList then .inr p else qGi p.2 9
def qVi (ts : List Tok) (i : Nat) : Flt ⊕ (Nat × Tok) := qCc (qMz ts 3 i) fun p => if qUj p.2.2.1 then .inr p else qGi p.2 9
def qLm (t : Tok) (x : Ex) (p : Ps) : PM Nat := if p.2.length = 256 then qGi t 2 else .inr ((p.1, p.2 ++ [x]), p.2.length)
def opsC : List (Int × ByteArray) := [(1, ⟨#[43]⟩), (2, ⟨#[45]⟩), (3, ⟨#[42]⟩), (4, ⟨#[47]⟩), (5, ⟨#[37]⟩), (6, ⟨#[60]⟩), (7, ⟨#[61, 61]⟩)]
def levP (op : Int) : Nat := if op = 6 ∨ op = 7 then 1 else if op = 1 ∨ op = 2 then 2 else 3
def isOp (ts : List Tok) (level : Nat) (i : Nat) (o : Int × ByteArray) : Bool := isC ts 4 o.2 i && decide (levP o.1 = level)
def opC (ts : List Tok) (level : Nat) (i : Nat) : Int :=
 match opsC.find? (isOp ts level i) with
 | some o => o.1
 | none => 0
section
variable (ts : List Tok) (params : List ByteArray) (E : Ps → PM Nat)
def zAq : Nat → List Int → Ps → PM (List Int)
 | 0, _, p => qGi (tkAt ts p.1) 9
 | n + 1, l, p => qCc (E p) fun q =>
  if isC ts 4 qOb q.1.1 then zAq n (l ++ [(q.2 : Int)]) (q.1.1 + 1, q.1.2)
  else qCc (qEr ts qIh q.1.1) fun i => .inr ((i, q.1.2), l ++ [(q.2 : Int)])
def qMb (p : Ps) : PM (List Int) :=
 qCc (qEr ts qQa p.1) fun i => if isC ts 4 qIh i then .inr ((i + 1, p.2), []) else zAq ts E (ts.length + 1) [] (i, p.2)
def qLs (t : Tok) (p : Ps) : PM Nat :=
 qCc (qEr ts qQa p.1) fun i =>
 qCc (if t.2.1 = qRg then
   qCc (qOs ts i) fun a => qCc (qEr ts qOb a.1) fun i => qCc (E (i, p.2)) fun q => .inr (q.1, ((6, 0, 0, a.2.2.1, [(q.2 : Int)]) : Ex))
  else if t.2.1 = qSc then qCc (qOs ts i) fun a => .inr ((a.1, p.2), ((7, 0, 0, a.2.2.1, []) : Ex))
  else if t.2.1 = sHas then qCc (qOs ts i) fun a => .inr ((a.1, p.2), ((8, 0, 0, a.2.2.1, []) : Ex))
  else if t.2.1 = sEnv then qCc (qVi ts i) fun a => .inr ((a.1, p.2), ((9, 0, 0, a.2.2.1, []) : Ex))
  else qCc (qMz ts 2 i) fun a => if a.2.2.2.1 ≥ 64 then qGi a.2 9 else .inr ((a.1, p.2), ((10, a.2.2.2.1, 0, ⟨#[]⟩, []) : Ex))) fun q =>
 qCc (qEr ts qIh q.1.1) fun i => qLm t q.2 (i, q.1.2)
def qPr (p : Ps) : PM Nat :=
 let t := tkAt ts p.1
 if t.1 = 2 then qLm t (1, t.2.2.1, 0, ⟨#[]⟩, []) (p.1 + 1, p.2)
 else if isC ts 4 zJb p.1 then qCc (qMz ts 2 (p.1 + 1)) fun a => qLm t (1, IntKind.wrap .i64 (0 - a.2.2.2.1), 0, ⟨#[]⟩, []) (a.1, p.2)
 else if isC ts 4 qQa p.1 then qCc (E (p.1 + 1, p.2)) fun q => qCc (qEr ts qIh q.1.1) fun i => .inr ((i, q.1.2), q.2)
 else if t.1 ≠ 1 then qGi t 9
 else if t.2.1 ∈ [qRg, qSc, sHas, sEnv, qSy] then qLs ts E t (p.1 + 1, p.2)
 else if resC t.2.1 then qGi t 9
 else if isC ts 4 qQa (p.1 + 1) then qCc (qMb ts E (p.1 + 1, p.2)) fun q => qLm t (3, 0, 0, t.2.1, q.2) q.1
 else match params.findIdx? (fun x => decide (x = t.2.1)) with
  | some i => qLm t (2, (i : Int), 0, ⟨#[]⟩, []) (p.1 + 1, p.2)
  | none => qGi t 9
def qSo (level : Nat) (S : Ps → PM Nat) : Nat → Nat → Ps → PM Nat
 | 0, _, p => qGi (tkAt ts p.1) 9
 | n + 1, x, p =>
  if opC ts level p.1 = 0 then .inr (p, x)
  else qCc (S (p.1 + 1, p.2)) fun q => qCc (qLm (tkAt ts p.1) (4, 0, opC ts level p.1, ⟨#[]⟩, [(x : Int), (q.2 : Int)]) q.1) fun r =>
   if level = 1 then .inr r else qSo level S n r.2 r.1
def qSa (level : Nat) (S : Ps → PM Nat) (p : Ps) : PM Nat := qCc (S p) fun q => qSo ts level S (ts.length + 1) q.2 q.1
def zHf : Ps → PM Nat := qSa ts 3 (qPr ts params E)
def sumC : Ps → PM Nat := qSa ts 2 (zHf ts params E)
def qTv : Ps → PM Nat := qSa ts 1 (sumC ts params E)
end
def qGw (ts : List Tok) (params : List ByteArray) : Nat → Ps → PM Nat
 | 0, p => qGi (tkAt ts p.1) 2
 | k + 1, p =>
  if isC ts 1 sIf p.1 then
   qCc (qGw ts params k (p.1 + 1, p.2)) fun a => qCc (qUc ts zHs a.1.1) fun i =>
   qCc (qGw ts params k (i, a.1.2)) fun b => qCc (qUc ts zHg b.1.1) fun j =>
   qCc (qGw ts params k (j, b.1.2)) fun c => qLm (tkAt ts p.1) (5, 0, 0, ⟨#[]⟩, [(a.2 : Int), (b.2 : Int), (c.2 : Int)]) c.1
  else qTv ts params (qGw ts params k) p
def qPq (ts : List Tok) : Nat → List ByteArray → Nat → Flt ⊕ (Nat × List ByteArray)
 | 0, _, i => qGi (tkAt ts i) 9
 | n + 1, l, i => qCc (qMv ts i) fun a =>
  if l.length = 8 then qGi a.2 2
  else if a.2.2.1 ∈ l then qGi a.2 10
  else if isC ts 4 qOb a.1 then qPq ts n (l ++ [a.2.2.1]) (a.1 + 1)
  else qCc (qEr ts qIh a.1) fun j => .inr (j, l ++ [a.2.2.1])
def qIf (ts : List Tok) (i : Nat) : Flt ⊕ (Nat × List ByteArray) :=
 qCc (qEr ts qQa i) fun j => if isC ts 4 qIh j then .inr (j + 1, []) else qPq ts (ts.length + 1) [] j
def qNb (s : ByteArray) : Int := if s = zIt then 1 else if s = zJj then 2 else if s = sGen then 3 else 0
def qRc (ts : List Tok) (before : List Dl) (i : Nat) : Flt ⊕ (Nat × Dl) :=
 let t := tkAt ts i
 let k := qNb t.2.1
 if t.1 ≠ 1 ∨ k = 0 then qGi t 9
 else if before.length = 64 then qGi t 2
 else qCc (if k = 3 then qOs ts (i + 1) else qMv ts (i + 1)) fun a =>
  if before.any (fun d => d.1 == k && decide (d.2.1 = a.2.2.1)) then qGi a.2 10
  else qCc (if k = 1 then qIf ts a.1 else .inr (a.1, [])) fun b =>
   qCc (qEr ts sEq b.1) fun j => qCc (qGw ts b.2 32 (j, [])) fun c =>
   qCc (qEr ts qTy c.1.1) fun m => .inr (m, (k, a.2.2.1, b.2, c.1.2))
def qKt (ts : List Tok) (pkg : ByteArray) : Nat → List ByteArray → Nat → Flt ⊕ (Nat × List ByteArray)
 | 0, _, i => qGi (tkAt ts i) 9
 | n + 1, l, i =>
  if isC ts 1 qTb i then
   if l.length = 8 then qGi (tkAt ts i) 2
   else qCc (qMv ts (i + 1)) fun a =>
    if a.2.2.1 = pkg ∨ a.2.2.1 ∈ l then qGi a.2 10
    else qCc (qEr ts qTy a.1) fun j => qKt ts pkg n (l ++ [a.2.2.1]) j
  else .inr (i, l)
def qSt (ts : List Tok) : Nat → List Dl → Nat → Flt ⊕ List Dl
 | 0, _, i => qGi (tkAt ts i) 9
 | n + 1, l, i => if (tkAt ts i).1 = 5 then .inr l else qCc (qRc ts l i) fun a => qSt ts n (l ++ [a.2]) a.1
def qZx (ts : List Tok) : Flt ⊕ Sr :=
 qCc (qUc ts qTx 0) fun i => qCc (qMv ts i) fun a => qCc (qEr ts qTy a.1) fun j =>
 qCc (qKt ts a.2.2.1 (ts.length + 1) [] j) fun b => qCc (qSt ts (ts.length + 1) [] b.1) fun l => .inr (a.2.2.1, b.2, l)
def qVr : Sr := (⟨#[]⟩, [], [])
def qJy (s : ByteArray) : Sr × Int × Int :=
 if (qHk s).2.2 ≠ 0 then (qVr, (qHk s).2.1, (qHk s).2.2)
 else match qZx (qHk s).1 with
  | .inl z => (qVr, z.1, z.2)
  | .inr f => (f, 0, 0)
end
section
open Go Go.Dc
def OkT (ts : List Tok) : Prop := ts ≠ [] ∧ ∀ i, i < ts.length → ((tkAt ts i).1 = 5 ↔ i + 1 = ts.length)
theorem qDa {α β : Type} {x : Flt ⊕ α} {f : α → Flt ⊕ β} {b : β} (h : qCc x f = .inr b) : ∃ a, x = .inr a ∧ f a = .inr b := by
 cases x with
 | inl z => cases h
 | inr a => exact ⟨a, rfl, h⟩
section
variable {ts : List Tok} {params : List ByteArray} {E S : Ps → PM Nat}
theorem OkT.next (h : OkT ts) {i : Nat} (hi : i < ts.length) (hk : (tkAt ts i).1 ≠ 5) : i + 1 < ts.length := by
 have h3 : ¬ i + 1 = ts.length := fun e => hk ((h.2 i hi).2 e)
 omega
theorem qVx {k : Int} {s : ByteArray} {i : Nat} (h : isC ts k s i = true) : (tkAt ts i).1 = k := by
 simp only [isC, jP, jV] at h; exact h.1
theorem qEt (h : OkT ts) {k : Int} {s : ByteArray} {i : Nat} (hi : i < ts.length) (hk : k ≠ 5) (h1 : isC ts k s i = true) : i + 1 < ts.length := h.next hi (by rw [qVx h1]; exact hk)
theorem qEs (h : OkT ts) {s : ByteArray} {i j : Nat} (hi : i < ts.length) (h1 : qEr ts s i = .inr j) : j = i + 1 ∧ j < ts.length ∧ isC ts 4 s i = true := by
 unfold qEr at h1
 split at h1
 ·rename_i h2
  obtain rfl := Sum.inr.inj h1
  exact ⟨rfl, qEt h hi (by decide) h2, h2⟩
 ·cases h1
theorem qSf (h : OkT ts) {s : ByteArray} {i j : Nat} (hi : i < ts.length) (h1 : qUc ts s i = .inr j) : j = i + 1 ∧ j < ts.length ∧ isC ts 1 s i = true := by
 unfold qUc at h1
 split at h1
 ·rename_i h2
  obtain rfl := Sum.inr.inj h1
  exact ⟨rfl, qEt h hi (by decide) h2, h2⟩
 ·cases h1
theorem qOc (h : OkT ts) {k : Int} (hk : k ≠ 5) {i : Nat} {a : Nat × Tok} (hi : i < ts.length) (h1 : qMz ts k i = .inr a) : a = (i + 1, tkAt ts i) ∧ i + 1 < ts.length ∧ (tkAt ts i).1 = k := by
 unfold qMz at h1
 split at h1
 ·rename_i h2
  obtain rfl := Sum.inr.inj h1
  exact ⟨rfl, h.next hi (by rw [h2]; exact hk), h2⟩
 ·cases h1
theorem qLt (h : OkT ts) {i : Nat} {a : Nat × Tok} (hi : i < ts.length) (h1 : qMv ts i = .inr a) : a = (i + 1, tkAt ts i) ∧ i + 1 < ts.length ∧ (tkAt ts i).1 = 1 ∧ resC (tkAt ts i).2.1 = false := by
 obtain ⟨b, hb, h2⟩ := qDa h1
 obtain ⟨rfl, g1, g2⟩ := qOc h (by decide) hi hb
 split at h2
 ·cases h2
 ·rename_i g3
  obtain rfl := Sum.inr.inj h2
  exact ⟨rfl, g1, g2, by simpa using g3⟩
theorem qMd (h : OkT ts) {i : Nat} {a : Nat × Tok} (hi : i < ts.length) (h1 : qOs ts i = .inr a) : a = (i + 1, tkAt ts i) ∧ i + 1 < ts.length ∧ (tkAt ts i).1 = 3 ∧ qKx (tkAt ts i).2.1.data.toList = true := by
 obtain ⟨b, hb, h2⟩ := qDa h1
 obtain ⟨rfl, g1, g2⟩ := qOc h (by decide) hi hb
 split at h2
 ·rename_i g3
  obtain rfl := Sum.inr.inj h2
  exact ⟨rfl, g1, g2, g3⟩
 ·cases h2
theorem zCb (h : OkT ts) {i : Nat} {a : Nat × Tok} (hi : i < ts.length) (h1 : qVi ts i = .inr a) : a = (i + 1, tkAt ts i) ∧ i + 1 < ts.length ∧ (tkAt ts i).1 = 3 ∧ qUj (tkAt ts i).2.1 = true := by
 obtain ⟨b, hb, h2⟩ := qDa h1
 obtain ⟨rfl, g1, g2⟩ := qOc h (by decide) hi hb
 split at h2
 ·rename_i g3
  obtain rfl := Sum.inr.inj h2
  exact ⟨rfl, g1, g2, g3⟩
 ·cases h2
theorem zLi {t : Tok} {x : Ex} {p q : Ps} {i : Nat} (h : qLm t x p = .inr (q, i)) : q = (p.1, p.2 ++ [x]) ∧ i = p.2.length ∧ p.2.length ≠ 256 := by
 unfold qLm at h
 split at h
 ·cases h
 ·rename_i h1
  obtain ⟨rfl, rfl⟩ := Prod.mk.inj (Sum.inr.inj h)
  exact ⟨rfl, rfl, h1⟩
def Fwd (ts : List Tok) (p q : Ps) : Prop := p.1 < q.1 ∧ q.1 < ts.length ∧ p.2.length ≤ q.2.length ∧ q.2.length ≤ 256
def Adv (ts : List Tok) (S : Ps → PM Nat) : Prop := ∀ (p q : Ps) (x : Nat), p.1 < ts.length → p.2.length ≤ 256 → S p = .inr (q, x) → Fwd ts p q ∧ x < q.2.length
theorem qOk {t : Tok} {x : Ex} {p r q : Ps} {i : Nat} (hp : p.1 < r.1) (hr : r.1 < ts.length) (hl : p.2.length ≤ r.2.length) (h256 : r.2.length ≤ 256) (h : qLm t x r = .inr (q, i)) : Fwd ts p q ∧ i < q.2.length := by
 obtain ⟨rfl, rfl, g⟩ := zLi h
 refine ⟨⟨hp, hr, ?_, ?_⟩, ?_⟩ <;> simp only [jL, jC, jD] <;> omega
theorem qWw (h : OkT ts) (hE : Adv ts E) : ∀ (n : Nat) (l : List Int) (p q : Ps) (x : List Int), p.1 < ts.length → p.2.length ≤ 256 → zAq ts E n l p = .inr (q, x) → Fwd ts p q
 | 0, _, _, _, _, _, _, h1 => by cases h1
 | n + 1, l, p, q, x, hp, hb, h1 => by
  obtain ⟨a, ha, h2⟩ := qDa (show qCc (E p) _ = _ from h1)
  obtain ⟨⟨f1, f2, f3, f4⟩, f5⟩ := hE p a.1 a.2 hp hb ha
  split at h2
  ·rename_i hc
   have g := qEt h f2 (by decide) hc
   obtain ⟨k1, k2, k3, k4⟩ := qWw h hE n _ (a.1.1 + 1, a.1.2) q x g f4 h2
   exact ⟨by simp only at k1; omega, k2, by simp only at k3; omega, k4⟩
  ·obtain ⟨j, hj, h3⟩ := qDa h2
   obtain ⟨rfl, g1, -⟩ := qEs h f2 hj
   obtain ⟨rfl, -⟩ := Prod.mk.inj (Sum.inr.inj h3)
   exact ⟨by simp only; omega, g1, f3, f4⟩
theorem qSw (h : OkT ts) (hE : Adv ts E) {p q : Ps} {x : List Int} (hp : p.1 < ts.length) (hb : p.2.length ≤ 256) (h1 : qMb ts E p = .inr (q, x)) : Fwd ts p q := by
 obtain ⟨i, hi, h2⟩ := qDa h1
 obtain ⟨rfl, g1, -⟩ := qEs h hp hi
 split at h2
 ·rename_i hc
  obtain ⟨rfl, -⟩ := Prod.mk.inj (Sum.inr.inj h2)
  exact ⟨by simp only; omega, qEt h g1 (by decide) hc, jW _, hb⟩
 ·obtain ⟨k1, k2, k3, k4⟩ := qWw h hE _ _ (p.1 + 1, p.2) q x g1 hb h2
  exact ⟨by simp only at k1; omega, k2, k3, k4⟩
theorem zCz (h : OkT ts) (hE : Adv ts E) {t : Tok} {p q : Ps} {x : Nat} (hp : p.1 < ts.length) (hb : p.2.length ≤ 256) (h1 : qLs ts E t p = .inr (q, x)) : Fwd ts p q ∧ x < q.2.length := by
 obtain ⟨i, hi, h2⟩ := qDa h1
 obtain ⟨rfl, g1, -⟩ := qEs h hp hi
 obtain ⟨a, ha, h3⟩ := qDa h2
 obtain ⟨j, hj, h4⟩ := qDa h3
 have key : Fwd ts (p.1 + 1, p.2) a.1 := by
  split at ha
  ·obtain ⟨b, hb1, hb2⟩ := qDa ha
   obtain ⟨rfl, k1, -⟩ := qMd h g1 hb1
   obtain ⟨c, hc1, hc2⟩ := qDa hb2
   obtain ⟨rfl, k2, -⟩ := qEs h k1 hc1
   obtain ⟨d, hd1, hd2⟩ := qDa hc2
   obtain ⟨⟨f1, f2, f3, f4⟩, -⟩ := hE (p.1 + 1 + 1 + 1, p.2) d.1 d.2 k2 hb hd1
   obtain rfl := Sum.inr.inj hd2
   exact ⟨by simp only at f1 ⊢; omega, f2, f3, f4⟩
  ·split at ha
   ·obtain ⟨b, hb1, hb2⟩ := qDa ha
    obtain ⟨rfl, k1, -⟩ := qMd h g1 hb1
    obtain rfl := Sum.inr.inj hb2
    exact ⟨by simp only; omega, k1, jW _, hb⟩
   ·split at ha
    ·obtain ⟨b, hb1, hb2⟩ := qDa ha
     obtain ⟨rfl, k1, -⟩ := qMd h g1 hb1
     obtain rfl := Sum.inr.inj hb2
     exact ⟨by simp only; omega, k1, jW _, hb⟩
    ·split at ha
     ·obtain ⟨b, hb1, hb2⟩ := qDa ha
      obtain ⟨rfl, k1, -⟩ := zCb h g1 hb1
      obtain rfl := Sum.inr.inj hb2
      exact ⟨by simp only; omega, k1, jW _, hb⟩
     ·obtain ⟨b, hb1, hb2⟩ := qDa ha
      obtain ⟨rfl, k1, -⟩ := qOc h (by decide) g1 hb1
      split at hb2
      ·cases hb2
      ·obtain rfl := Sum.inr.inj hb2
       exact ⟨by simp only; omega, k1, jW _, hb⟩
 obtain ⟨f1, f2, f3, f4⟩ := key
 obtain ⟨rfl, g2, -⟩ := qEs h f2 hj
 exact qOk (r := (a.1.1 + 1, a.1.2)) (by simp only at f1 ⊢; omega) g2 f3 f4 h4
theorem qTk (h : OkT ts) (hE : Adv ts E) : Adv ts (qPr ts params E) := by
 intro p q x hp hb h1
 unfold qPr at h1
 dsimp only at h1
 split at h1
 ·rename_i hk
  exact qOk (r := (p.1 + 1, p.2)) (by simp only; omega) (h.next hp (by rw [hk]; decide)) (jW _) hb h1
 split at h1
 ·rename_i hc
  have g := qEt h hp (by decide) hc
  obtain ⟨a, ha, h2⟩ := qDa h1
  obtain ⟨rfl, g1, -⟩ := qOc h (by decide) g ha
  exact qOk (r := (p.1 + 1 + 1, p.2)) (by simp only; omega) g1 (jW _) hb h2
 split at h1
 ·rename_i hc
  have g := qEt h hp (by decide) hc
  obtain ⟨a, ha, h2⟩ := qDa h1
  obtain ⟨⟨f1, f2, f3, f4⟩, f5⟩ := hE (p.1 + 1, p.2) a.1 a.2 g hb ha
  obtain ⟨j, hj, h3⟩ := qDa h2
  obtain ⟨rfl, g1, -⟩ := qEs h f2 hj
  obtain ⟨rfl, rfl⟩ := Prod.mk.inj (Sum.inr.inj h3)
  exact ⟨⟨by simp only at f1 ⊢; omega, g1, f3, f4⟩, f5⟩
 split at h1
 ·cases h1
 rename_i hk
 have g := h.next hp (show (tkAt ts p.1).1 ≠ 5 by simp only [ne_eq, Decidable.not_not] at hk; rw [hk]; decide)
 split at h1
 ·obtain ⟨⟨f1, f2, f3, f4⟩, f5⟩ := zCz h hE (p := (p.1 + 1, p.2)) g hb h1
  exact ⟨⟨by simp only at f1; omega, f2, f3, f4⟩, f5⟩
 split at h1
 ·cases h1
 split at h1
 ·obtain ⟨a, ha, h2⟩ := qDa h1
  obtain ⟨f1, f2, f3, f4⟩ := qSw h hE (p := (p.1 + 1, p.2)) g hb ha
  exact qOk (by simp only at f1; omega) f2 f3 f4 h2
 split at h1
 ·exact qOk (r := (p.1 + 1, p.2)) (by simp only; omega) g (jW _) hb h1
 ·cases h1
theorem zCk (h : OkT ts) {level : Nat} (hS : Adv ts S) : ∀ (n x : Nat) (p q : Ps) (y : Nat), p.1 < ts.length → p.2.length ≤ 256 → x < p.2.length → qSo ts level S n x p = .inr (q, y) → p.1 ≤ q.1 ∧ q.1 < ts.length ∧ p.2.length ≤ q.2.length ∧ q.2.length ≤ 256 ∧ y < q.2.length
 | 0, _, _, _, _, _, _, _, h1 => by cases h1
 | n + 1, x, p, q, y, hp, hb, hx, h1 => by
  unfold qSo at h1
  split at h1
  ·obtain ⟨rfl, rfl⟩ := Prod.mk.inj (Sum.inr.inj h1)
   exact ⟨jW _, hp, jW _, hb, hx⟩
  ·rename_i hop
   have hk : (tkAt ts p.1).1 ≠ 5 := by
    intro hk
    apply hop
    unfold opC
    have : opsC.find? (isOp ts level p.1) = none := by
     rw [List.find?_eq_none]
     intro o _ ho
     simp only [isOp, jP] at ho
     have := qVx ho.1
     omega
    rw [this]
   have g := h.next hp hk
   obtain ⟨a, ha, h2⟩ := qDa h1
   obtain ⟨⟨f1, f2, f3, f4⟩, f5⟩ := hS (p.1 + 1, p.2) a.1 a.2 g hb ha
   obtain ⟨r, hr, h3⟩ := qDa h2
   obtain ⟨⟨k1, k2, k3, k4⟩, k5⟩ := qOk (ts := ts) (p := p) (by simp only at f1; omega) f2 f3 f4 hr
   split at h3
   ·obtain ⟨rfl, rfl⟩ := Prod.mk.inj (Sum.inr.inj h3)
    exact ⟨by omega, k2, k3, k4, k5⟩
   ·obtain ⟨j1, j2, j3, j4, j5⟩ := zCk h hS n _ _ q y k2 k4 k5 h3
    exact ⟨by omega, j2, by omega, j4, j5⟩
theorem qNa (h : OkT ts) {level : Nat} (hS : Adv ts S) : Adv ts (qSa ts level S) := by
 intro p q x hp hb h1
 obtain ⟨a, ha, h2⟩ := qDa h1
 obtain ⟨⟨f1, f2, f3, f4⟩, f5⟩ := hS p a.1 a.2 hp hb ha
 obtain ⟨j1, j2, j3, j4, j5⟩ := zCk h hS _ _ _ q x f2 f4 f5 h2
 exact ⟨⟨by omega, j2, by omega, j4⟩, j5⟩
theorem qMl (h : OkT ts) : ∀ k, Adv ts (qGw ts params k)
 | 0 => fun _ _ _ _ _ h1 => by cases h1
 | k + 1 => by
  intro p q x hp hb h1
  unfold qGw at h1
  split at h1
  ·rename_i hc
   have g := qEt h hp (by decide) hc
   obtain ⟨a, ha, h2⟩ := qDa h1
   obtain ⟨⟨a1, a2, a3, a4⟩, -⟩ := qMl h k (p.1 + 1, p.2) a.1 a.2 g hb ha
   obtain ⟨i, hi, h3⟩ := qDa h2
   obtain ⟨rfl, g1, -⟩ := qSf h a2 hi
   obtain ⟨b, hb1, h4⟩ := qDa h3
   obtain ⟨⟨b1, b2, b3, b4⟩, -⟩ := qMl h k (a.1.1 + 1, a.1.2) b.1 b.2 g1 a4 hb1
   obtain ⟨j, hj, h5⟩ := qDa h4
   obtain ⟨rfl, g2, -⟩ := qSf h b2 hj
   obtain ⟨c, hc1, h6⟩ := qDa h5
   obtain ⟨⟨c1, c2, c3, c4⟩, -⟩ := qMl h k (b.1.1 + 1, b.1.2) c.1 c.2 g2 b4 hc1
   simp only at a1 a3 b1 b3 c1 c3
   exact qOk (by omega) c2 (by omega) c4 h6
  ·exact qNa h (qNa h (qNa h (qTk h (qMl h k)))) p q x hp hb h1
end
end
section
open Go Go.Dc
theorem zLw {ts : List Tok} {i : Nat} (hi : i < ts.length) : idx ts (i : Int) = some (tkAt ts i) := by
 rw [qFt hi]
 simp [tkAt, kJ, hi]
theorem qKu {i : Nat} (h : i < 1000000) : IntKind.wrap .i64 ((i : Int) + 1) = ((i + 1 : Nat) : Int) := by rw [wi64 (by omega) (by omega)]; omega
section
variable {N : Nat} {ts : List Tok} {pr : List ByteArray} {b : List Ex} {i : Nat}
theorem qLq (hi : i < ts.length) : qCs N (ts, (i : Int), pr, b) = some ((ts, (i : Int), pr, b), tkAt ts i) := by
 simp only [qCs, zLw hi, j0]
theorem zGm (hi : i < ts.length) (k : Int) (s : ByteArray) : qFd N (ts, (i : Int), pr, b) k s = some ((ts, (i : Int), pr, b), isC ts k s i) := by
 simp only [qFd, qLq hi, j0, qDz, isC]
 cases h : (tkAt ts i).1 == k <;> simp [h]
theorem zDi (hi : i < ts.length) (hl : ts.length < 1000000) (s : ByteArray) : qGm N (ts, (i : Int), pr, b) s = some (Sum.map id (fun j : Nat => (ts, (j : Int), pr, b)) (qUc ts s i)) := by
 simp only [qGm, zGm hi, qLq hi, j0, qCl, qUc]
 cases h : isC ts 1 s i
 ·simp [qGi]
 ·simp [qKu (show i < 1000000 by omega)]
theorem qNz (hi : i < ts.length) (hl : ts.length < 1000000) (s : ByteArray) : qCe N (ts, (i : Int), pr, b) s = some (Sum.map id (fun j : Nat => (ts, (j : Int), pr, b)) (qEr ts s i)) := by
 simp only [qCe, zGm hi, qLq hi, j0, qCl, qEr]
 cases h : isC ts 4 s i
 ·simp [qGi]
 ·simp [qKu (show i < 1000000 by omega)]
theorem qQe (hi : i < ts.length) (hl : ts.length < 1000000) (s : ByteArray) : qDp N (ts, (i : Int), pr, b) s = some (if isC ts 4 s i then ((ts, ((i + 1 : Nat) : Int), pr, b), true) else ((ts, (i : Int), pr, b), false)) := by
 simp only [qDp, zGm hi, j0]
 cases h : isC ts 4 s i
 ·simp
 ·simp [qKu (show i < 1000000 by omega)]
theorem qXh (hi : i < ts.length) (hl : ts.length < 1000000) {k : Int} (hk : k ≠ 5) : qEm N (ts, (i : Int), pr, b) k = some (Sum.map id (fun a : Nat × Tok => ((ts, (a.1 : Int), pr, b), a.2)) (qMz ts k i)) := by
 simp only [qEm, qLq hi, j0, qCl, qMz]
 have h5 : (k != 5) = true := by simpa using hk
 by_cases h : (tkAt ts i).1 = k
 ·have h1 : ((tkAt ts i).1 != k) = false := by simp [h]
  simp only [h1, h5, jB, jE, jH, j0, if_pos h, qKu (show i < 1000000 by omega), jX]
 ·have h1 : ((tkAt ts i).1 != k) = true := by simp [h]
  simp only [h1, jH, j0, if_neg h, qGi, Sum.map_inl, id]
theorem orS (a b : Bool) : (if a = true then some a else some b) = some (a || b) := by
 cases a <;> simp
theorem someB (b : Bool) : (if b = true then some true else some false) = some b := by cases b <;> simp
theorem qXm (s : ByteArray) : qJv N s = some (resC s) := by
 simp only [qJv, qDz, resC, wordsR, qTx, qTb, zIt, zJj, sGen, sIf, zHs, zHg, qRg, qSc, sHas, sEnv, qSy, jO, gO, or_false]
 simp only [orS, j0, someB, jK]
 simp only [Bool.decide_or]
theorem zAe (hi : i < ts.length) (hl : ts.length < 1000000) : qEj N (ts, (i : Int), pr, b) = some (Sum.map id (fun a : Nat × Tok => ((ts, (a.1 : Int), pr, b), a.2)) (qMv ts i)) := by
 simp only [qEj, qXh hi hl (show (1 : Int) ≠ 5 by decide), j0, qCl, qMv]
 cases h : qMz ts 1 i with
 | inl z => simp [qCc]
 | inr a =>
  simp only [jX, qXm, j0, qCc]
  cases h2 : resC a.2.2.1 <;> simp [qGi]
theorem zAr (hi : i < ts.length) (hl : ts.length < 1000000) (hN : 300000 < N) (ht : ∀ j, (tkAt ts j).2.1.size < 100000) : qEk N (ts, (i : Int), pr, b) = some (Sum.map id (fun a : Nat × Tok => ((ts, (a.1 : Int), pr, b), a.2)) (qOs ts i)) := by
 simp only [qEk, qXh hi hl (show (3 : Int) ≠ 5 by decide), j0, qCl, qOs]
 cases h : qMz ts 3 i with
 | inl z => simp [qCc]
 | inr a =>
  have h3 : a.2 = tkAt ts i := by
   unfold qMz at h
   split at h
   ·rw [← Sum.inr.inj h]
   ·cases h
  have hs := ht i
  rw [← h3] at hs
  simp only [jX, zAo (N := N) (s := a.2.2.1) (by omega) (by omega), j0, qCc]
  cases h2 : qKx a.2.2.1.data.toList <;> simp [qGi]
theorem qTd (t : Tok) (x : Ex) (hb : b.length ≤ 256) (n : Nat) : qDl N (ts, (n : Int), pr, b) t x = some (Sum.map id (fun q : Ps × Nat => ((ts, (q.1.1 : Int), pr, q.1.2), (q.2 : Int))) (qLm t x (n, b))) := by
 simp only [qDl, qCl, j0, qLm]
 by_cases h : b.length = 256
 ·simp [h, qGi]
 ·have h1 : ((b.length : Int) == 256) = false := by simp; omega
  have hw : IntKind.wrap .i64 (((b.length + 1 : Nat) : Int) - 1) = (b.length : Int) := by rw [wi64 (by omega) (by omega)]; omega
  simp only [h1, jB, jE, j0, if_neg h, jX]
  rw [qCh (by simp only [jC, jD]; omega) (by omega)]
  simp only [j0, jL, jC, jD, gC, hw]
end
end
section
open Go Go.Dc
theorem qZd {N : Nat} {s : ByteArray} {l : List ByteArray} (hl : l.length < 1000000) : ∀ (d i M : Nat), i + d = l.length → d < M →
  qAz (qDs N l s) M (i : Int) = some (match (l.drop i).findIdx? (fun x => decide (x = s)) with | some j => .inr (((i + j : Nat) : Int)) | none => .inl ())
 | d, i, 0, _, h => by omega
 | 0, i, M + 1, h, _ => by
  have : l.drop i = [] := jN (by omega)
  simp only [qAz, qDs, this, List.findIdx?_nil]
  rw [if_neg (by simp only [jA]; omega)]
  rfl
 | d + 1, i, M + 1, h, hM => by
  have hi : i < l.length := by omega
  have ih := qZd (N := N) (s := s) hl d (i + 1) M (by omega) (by omega)
  simp only [qAz, qDs]
  rw [if_pos (by simp only [jA]; omega), qFt hi, jI hi, List.findIdx?_cons]
  simp only [j0, qDz, jA]
  by_cases hs : l[i] = s
  ·rw [if_pos hs.symm, if_pos hs]; simp
  ·rw [if_neg (fun e => hs e.symm), if_neg hs]
   simp only [j0, qKu (show i < 1000000 by omega), ih]
   cases (l.drop (i + 1)).findIdx? (fun x => decide (x = s)) with
   | none => rfl
   | some j => simp only [kC]; congr 2; omega
theorem zFp {N : Nat} {s : ByteArray} {l : List ByteArray} (hl : l.length < 1000000) (hN : l.length < N) :
  qEe N l s = some (match l.findIdx? (fun x => decide (x = s)) with | some j => (j : Int) | none => -1) := by
 have h := qZd (N := N) (s := s) hl l.length 0 N (by omega) hN
 simp only [jZ, gC] at h
 simp only [qEe]
 rw [show (0 : Int) = ((0 : Nat) : Int) from rfl, h]
 simp only [j0]
 cases l.findIdx? (fun x => decide (x = s)) <;> rfl
theorem zEt {s : ByteArray} {l : List ByteArray} : (l.findIdx? (fun x => decide (x = s))).isSome = decide (s ∈ l) := by
 rw [List.findIdx?_isSome]
 rw [jR]
 simp only [gQ, jA]
 exact ⟨fun ⟨x, h1, h2⟩ => h2 ▸ h1, fun h => ⟨s, h, rfl⟩⟩
theorem qXa {N : Nat} {s : ByteArray} {l : List ByteArray} (hl : l.length < 1000000) (hN : l.length < N) :
  qDr N l s = some (decide (s ∈ l)) := by
 simp only [qDr, zFp hl hN, j0, ← zEt]
 cases l.findIdx? (fun x => decide (x = s)) with
 | none => rfl
 | some j => simp only [Option.isSome_some]; rw [jM (show (j : Int) ≥ 0 by omega)]
theorem zIy {α : Type} {g : α → Bool} {l k : List α} (hu : ∀ a ∈ l, ∀ b ∈ l, g a = true → g b = true → a = b) (hp : k.Perm l) : k.find? g = l.find? g := by
 cases h : l.find? g with
 | none =>
  rw [List.find?_eq_none] at h ⊢
  exact fun x hx => h x (hp.mem_iff.1 hx)
 | some a =>
  have ha := gD h
  have hg := List.find?_some h
  cases h2 : k.find? g with
  | none => exact absurd hg (by simpa using List.find?_eq_none.1 h2 a (hp.mem_iff.2 ha))
  | some b => rw [hu b (hp.mem_iff.1 (gD h2)) a ha (List.find?_some h2) hg]
theorem zKx : ∀ a ∈ opsC, ∀ b ∈ opsC, a.2 = b.2 → a = b := by
 have h : (opsC.all fun a => opsC.all fun b => !(decide (a.2 = b.2)) || decide (a = b)) = true := by kernel_rfl
 intro a ha b hb e
 have := jS.1 (jS.1 h a ha) b hb
 simpa [e] using this
section
variable {N : Nat} {ts : List Tok} {pr : List ByteArray} {b : List Ex} {i : Nat}
theorem zKp (op : Int) : qLo N op = some ((levP op : Nat) : Int) := by
 by_cases h1 : op = 6
 ·subst h1; rfl
 by_cases h2 : op = 7
 ·subst h2; rfl
 by_cases h3 : op = 1
 ·subst h3; rfl
 by_cases h4 : op = 2
 ·subst h4; rfl
 simp [qLo, levP, h1, h2, h3, h4]
theorem zHi (level : Nat) {t : Tok} (ht : t = tkAt ts i) : ∀ k : List (Int × ByteArray), qOr (qDj N (level : Int) ((ts, (i : Int), pr, b), t)) k () =
  some (match k.find? (isOp ts level i) with | some o => .inr ((ts, (i : Int), pr, b), o.1) | none => .inl ())
 | [] => rfl
 | o :: k => by
  have key : qDj N (level : Int) ((ts, (i : Int), pr, b), t) (some o) () = some (if isOp ts level i o then .inr (.inr ((ts, (i : Int), pr, b), o.1)) else .inl ()) := by
   subst ht
   simp only [qDj, zKp, j0, qDz, isOp, isC]
   have hc : (((levP o.1 : Nat) : Int) == (level : Int)) = decide (levP o.1 = level) := by
    rw [jR]; simp only [jV, jA]; omega
   rw [hc]
   by_cases h1 : (tkAt ts i).1 = 4 <;> by_cases h2 : (tkAt ts i).2.1 = o.2 <;> by_cases h3 : levP o.1 = level <;> simp [h1, h2, h3]
  simp only [qOr, key, j0, List.find?_cons]
  cases h : isOp ts level i o with
  | true => rfl
  | false => exact zHi level ht k
theorem zKo : qOz N = some (some opsC) := by kernel_rfl
theorem zEc (hi : i < ts.length) (level : Nat) : qHg N (ts, (i : Int), pr, b) (level : Int) = some ((ts, (i : Int), pr, b), opC ts level i) := by
 simp only [qHg, qLq hi, zKo, j0, isQ, kC, Option.getD_some]
 have hu : ∀ a ∈ opsC, ∀ b ∈ opsC, isOp ts level i a = true → isOp ts level i b = true → a = b := by
  intro a ha b hb h1 h2
  simp only [isOp, isC, jP, jA] at h1 h2
  exact zKx a ha b hb (h1.1.2.symm.trans h2.1.2)
 have key := zCh (f := qDj N (level : Int) ((ts, (i : Int), pr, b), tkAt ts i)) (l := opsC) (s := ()) fun k hk => by
  rw [zHi level rfl k, zIy hu hk]
 rw [key]
 unfold opC
 cases opsC.find? (isOp ts level i) <;> rfl
end
end
section
open Go Go.Dc
abbrev StT := List Tok × Int × List ByteArray × List Ex
def stP (ts : List Tok) (pr : List ByteArray) (p : Ps) : StT := (ts, (p.1 : Int), pr, p.2)
def outP (ts : List Tok) (pr : List ByteArray) : PM Nat → Flt ⊕ (StT × Int) := Sum.map id fun q => (stP ts pr q.1, (q.2 : Int))
def outL (ts : List Tok) (pr : List ByteArray) : PM (List Int) → Flt ⊕ (StT × List Int) := Sum.map id fun q => (stP ts pr q.1, q.2)
section
variable {N : Nat} {ts : List Tok} {pr : List ByteArray} {E S : Ps → PM Nat} {d : Int}
variable {r1 : StT → Tok → Int → Option (Flt ⊕ (StT × Int))} {r2 : StT → Int → Option (Flt ⊕ (StT × List Int))} {r3 : StT → Int → Option (Flt ⊕ (StT × Int))} {r4 : StT → Int → Int → Option (Flt ⊕ (StT × Int))} {r5 : StT → Int → Option (Flt ⊕ (StT × Int))}
theorem zCy (hok : OkT ts) (hl : ts.length < 1000000) (hA : Adv ts E) (hE : ∀ p : Ps, p.1 < ts.length → p.2.length ≤ 256 → r5 (stP ts pr p) (IntKind.wrap .i64 (d + 1)) = some (outP ts pr (E p))) :
  ∀ (n M : Nat) (l : List Int) (p : Ps), p.1 < ts.length → p.2.length ≤ 256 → l.length ≤ p.1 → ts.length < p.1 + n → ts.length < p.1 + M →
  ((qAz (qFg N r5 d) M (l, ts, (p.1 : Int), pr, p.2)).bind fun out1 => (match out1 with | .inl o1 => (qCe N (o1.2.1, o1.2.2.1, o1.2.2.2.1, o1.2.2.2.2) (⟨#[41]⟩ : ByteArray)).bind fun y7 => (match y7 with | .inl z3 => some (.inl z3) | .inr y8 => some (.inr ((y8.1, y8.2.1, y8.2.2.1, y8.2.2.2), o1.1))) | .inr (z) => some z)) = some (outL ts pr (zAq ts E n l p))
 | 0, M, l, p, hp, _, _, h, _ => by omega
 | n + 1, 0, l, p, hp, _, _, _, h => by omega
 | n + 1, M + 1, l, p, hp, hb, hll, hn, hM => by
  have hEp := hE p hp hb
  simp only [stP] at hEp
  simp only [qAz, qFg, zAq, hEp, j0]
  cases hq : E p with
  | inl z => simp only [outP, Sum.map_inl, id, qCc, outL, j0]
  | inr q =>
   obtain ⟨⟨f1, f2, f3, f4⟩, f5⟩ := hA p q.1 q.2 hp hb hq
   simp only [outP, jX, qCc, stP]
   rw [qCh (by simp only [jC, jD]; omega) (by omega)]
   simp only [j0, qQe f2 hl, qOb]
   rcases qDt (isC ts 4 ⟨#[44]⟩ q.1.1) with hc | hc
   ·have g := qEt hok f2 (by decide) hc
    have ih := zCy hok hl hA hE n M (l ++ [(q.2 : Int)]) (q.1.1 + 1, q.1.2) g f4 (by simp only [jL, jC, jD]; omega) (by simp only; omega) (by simp only; omega)
    simp only [hc, jH, k7, jB, jE, j0]
    exact ih
   ·simp only [hc, jB, jE, jU, jH, j0, qNz f2 hl, qIh]
    cases qEr ts ⟨#[41]⟩ q.1.1 with
    | inl z => rfl
    | inr j => rfl
theorem zEi (hok : OkT ts) (hl : ts.length < 1000000) (hN : ts.length < N) (hA : Adv ts E) (hE : ∀ p : Ps, p.1 < ts.length → p.2.length ≤ 256 → r5 (stP ts pr p) (IntKind.wrap .i64 (d + 1)) = some (outP ts pr (E p)))
  (p : Ps) (hp : p.1 < ts.length) (hb : p.2.length ≤ 256) : qFu N r1 r2 r3 r4 r5 (stP ts pr p) d = some (outL ts pr (qMb ts E p)) := by
 simp only [qFu, stP, qNz hp hl, j0, qMb, qQa]
 cases h : qEr ts ⟨#[40]⟩ p.1 with
 | inl z => rfl
 | inr i =>
  obtain ⟨rfl, g, -⟩ := qEs hok hp h
  simp only [jX, qCc, qQe g hl, j0, qIh]
  rcases qDt (isC ts 4 ⟨#[41]⟩ (p.1 + 1)) with hc | hc
  ·simp only [hc, jH]; rfl
  ·simp only [hc, jB, jE]
   exact zCy hok hl hA hE (ts.length + 1) N [] (p.1 + 1, p.2) g hb (by simp) (by simp only; omega) (by simp only; omega)
theorem zIs (hok : OkT ts) (hl : ts.length < 1000000) (hN : 300000 < N) (ht : ∀ j, (tkAt ts j).2.1.size < 100000) (hA : Adv ts E) (hE : ∀ p : Ps, p.1 < ts.length → p.2.length ≤ 256 → r5 (stP ts pr p) (IntKind.wrap .i64 (d + 1)) = some (outP ts pr (E p)))
  (t : Tok) (p : Ps) (hp : p.1 < ts.length) (hb : p.2.length ≤ 256) : qGu N r1 r2 r3 r4 r5 (stP ts pr p) t d = some (outP ts pr (qLs ts E t p)) := by
 have fin : ∀ (o1 : Int × Int × ByteArray × List Int × StT) (q : Ps) (x : Ex), o1.2.2.2.2 = stP ts pr q → x = (o1.1, o1.2.1, 0, o1.2.2.1, o1.2.2.2.1) → q.1 < ts.length → q.2.length ≤ 256 →
   ((qCe N (o1.2.2.2.2.1, o1.2.2.2.2.2.1, o1.2.2.2.2.2.2.1, o1.2.2.2.2.2.2.2) (⟨#[41]⟩ : ByteArray)).bind fun y22 => (match y22 with | .inl z11 => some (.inl z11) | .inr y23 => (qDl N (y23.1, y23.2.1, y23.2.2.1, y23.2.2.2) (t.1, t.2.1, t.2.2.1, t.2.2.2) (o1.1, o1.2.1, 0, o1.2.2.1, o1.2.2.2.1)).bind fun y24 => (match y24 with | .inl z12 => some (.inl z12) | .inr y25 => some (.inr ((y25.1.1, y25.1.2.1, y25.1.2.2.1, y25.1.2.2.2), y25.2))))) =
   some (outP ts pr (qCc (qEr ts qIh q.1) fun i => qLm t x (i, q.2))) := by
  intro o1 q x ho hx hq hqb
  subst hx
  rw [ho]
  simp only [stP, qNz hq hl, j0, qIh]
  cases hj : qEr ts ⟨#[41]⟩ q.1 with
  | inl z => rfl
  | inr j =>
   simp only [jX, qCc, qTd _ _ hqb, j0]
   cases qLm t (o1.1, o1.2.1, 0, o1.2.2.1, o1.2.2.2.1) (j, q.2) <;> rfl
 simp only [qGu, stP, qNz hp hl, j0, qLs, qQa]
 cases h : qEr ts ⟨#[40]⟩ p.1 with
 | inl z => rfl
 | inr i =>
  obtain ⟨rfl, g, -⟩ := qEs hok hp h
  simp only [jX, qCc, qDz, jA]
  by_cases k1 : t.2.1 = qRg
  ·rw [if_pos (show t.2.1 = (⟨#[114, 101, 97, 100]⟩ : ByteArray) from k1), if_pos k1]
   simp only [zAr g hl hN ht, j0]
   cases h1 : qOs ts (p.1 + 1) with
   | inl z => rfl
   | inr a =>
    obtain ⟨rfl, g1, -⟩ := qMd hok g h1
    simp only [jX, qNz g1 hl, j0, qOb]
    cases h2 : qEr ts ⟨#[44]⟩ (p.1 + 1 + 1) with
    | inl z => rfl
    | inr j =>
     obtain ⟨rfl, g2, -⟩ := qEs hok g1 h2
     have hEp := hE (p.1 + 1 + 1 + 1, p.2) g2 hb
     simp only [stP] at hEp
     simp only [jX, hEp, j0]
     cases h3 : E (p.1 + 1 + 1 + 1, p.2) with
     | inl z => rfl
     | inr q =>
      obtain ⟨⟨f1, f2, f3, f4⟩, f5⟩ := hA (p.1 + 1 + 1 + 1, p.2) q.1 q.2 g2 hb h3
      exact fin (6, 0, (tkAt ts (p.1 + 1)).2.1, [(q.2 : Int)], ts, (q.1.1 : Int), pr, q.1.2) q.1 _ rfl rfl f2 f4
  rw [if_neg (show ¬ t.2.1 = (⟨#[114, 101, 97, 100]⟩ : ByteArray) from k1), if_neg k1]
  by_cases k2 : t.2.1 = qSc
  ·rw [if_pos (show t.2.1 = (⟨#[115, 105, 122, 101]⟩ : ByteArray) from k2), if_pos k2]
   simp only [zAr g hl hN ht, j0]
   cases h1 : qOs ts (p.1 + 1) with
   | inl z => rfl
   | inr a =>
    obtain ⟨rfl, g1, -⟩ := qMd hok g h1
    exact fin (7, 0, (tkAt ts (p.1 + 1)).2.1, [], ts, ((p.1 + 1 + 1 : Nat) : Int), pr, p.2) (p.1 + 1 + 1, p.2) _ rfl rfl g1 hb
  rw [if_neg (show ¬ t.2.1 = (⟨#[115, 105, 122, 101]⟩ : ByteArray) from k2), if_neg k2]
  by_cases k3 : t.2.1 = sHas
  ·rw [if_pos (show t.2.1 = (⟨#[104, 97, 115]⟩ : ByteArray) from k3), if_pos k3]
   simp only [zAr g hl hN ht, j0]
   cases h1 : qOs ts (p.1 + 1) with
   | inl z => rfl
   | inr a =>
    obtain ⟨rfl, g1, -⟩ := qMd hok g h1
    exact fin (8, 0, (tkAt ts (p.1 + 1)).2.1, [], ts, ((p.1 + 1 + 1 : Nat) : Int), pr, p.2) (p.1 + 1 + 1, p.2) _ rfl rfl g1 hb
  rw [if_neg (show ¬ t.2.1 = (⟨#[104, 97, 115]⟩ : ByteArray) from k3), if_neg k3]
  by_cases k4 : t.2.1 = sEnv
  ·rw [if_pos (show t.2.1 = (⟨#[101, 110, 118]⟩ : ByteArray) from k4), if_pos k4]
   simp only [qXh g hl (show (3 : Int) ≠ 5 by decide), j0, qVi]
   cases h1 : qMz ts 3 (p.1 + 1) with
   | inl z => rfl
   | inr a =>
    obtain ⟨rfl, g1, -⟩ := qOc hok (by decide) g h1
    simp only [jX, zHl (N := N) (by omega), j0, qCc, qCl]
    cases h2 : qUj (tkAt ts (p.1 + 1)).2.1 with
    | false => rfl
    | true => exact fin (9, 0, (tkAt ts (p.1 + 1)).2.1, [], ts, ((p.1 + 1 + 1 : Nat) : Int), pr, p.2) (p.1 + 1 + 1, p.2) _ rfl rfl g1 hb
  ·rw [if_neg (show ¬ t.2.1 = (⟨#[101, 110, 118]⟩ : ByteArray) from k4), if_neg k4]
   simp only [qXh g hl (show (2 : Int) ≠ 5 by decide), j0]
   cases h1 : qMz ts 2 (p.1 + 1) with
   | inl z => rfl
   | inr a =>
    obtain ⟨rfl, g1, -⟩ := qOc hok (by decide) g h1
    simp only [jX, qCl, j0]
    by_cases h2 : (tkAt ts (p.1 + 1)).2.2.1 ≥ 64
    ·simp only [if_pos h2, j0]; rfl
    ·simp only [if_neg h2, j0]
     exact fin (10, (tkAt ts (p.1 + 1)).2.2.1, ⟨#[]⟩, [], ts, ((p.1 + 1 + 1 : Nat) : Int), pr, p.2) (p.1 + 1 + 1, p.2) _ rfl rfl g1 hb
end
end
section
open Go Go.Dc
section
variable {N : Nat} {ts : List Tok} {pr : List ByteArray} {E S : Ps → PM Nat} {d : Int}
variable {r1 : StT → Tok → Int → Option (Flt ⊕ (StT × Int))} {r2 : StT → Int → Option (Flt ⊕ (StT × List Int))} {r3 : StT → Int → Option (Flt ⊕ (StT × Int))} {r4 : StT → Int → Int → Option (Flt ⊕ (StT × Int))} {r5 : StT → Int → Option (Flt ⊕ (StT × Int))}
theorem kw_mem (x : ByteArray) : (decide (x = (⟨#[114, 101, 97, 100]⟩ : ByteArray)) || (decide (x = (⟨#[115, 105, 122, 101]⟩ : ByteArray)) || (decide (x = (⟨#[104, 97, 115]⟩ : ByteArray)) || (decide (x = (⟨#[101, 110, 118]⟩ : ByteArray)) || decide (x = (⟨#[102, 108, 105, 112]⟩ : ByteArray)))))) = decide (x ∈ [qRg, qSc, sHas, sEnv, qSy]) := by
 simp only [qRg, qSc, sHas, sEnv, qSy, jO, gO, or_false, Bool.decide_or]
theorem zKs (hok : OkT ts) (hl : ts.length < 1000000) (hpr : pr.length < 1000) (hN : 300000 < N) (hA : Adv ts E) (hE : ∀ p : Ps, p.1 < ts.length → p.2.length ≤ 256 → r5 (stP ts pr p) (IntKind.wrap .i64 (d + 1)) = some (outP ts pr (E p)))
  (h1 : ∀ (t : Tok) (p : Ps), p.1 < ts.length → p.2.length ≤ 256 → r1 (stP ts pr p) t d = some (outP ts pr (qLs ts E t p)))
  (h2 : ∀ p : Ps, p.1 < ts.length → p.2.length ≤ 256 → r2 (stP ts pr p) d = some (outL ts pr (qMb ts E p)))
  (p : Ps) (hp : p.1 < ts.length) (hb : p.2.length ≤ 256) : qHc N r1 r2 r3 r4 r5 (stP ts pr p) d = some (outP ts pr (qPr ts pr E p)) := by
 have hw := qKu (show p.1 < 1000000 by omega)
 simp only [qHc, stP, qLq hp, j0, qPr]
 by_cases k1 : (tkAt ts p.1).1 = 2
 ·rw [if_pos (show ((tkAt ts p.1).1 == 2) = true by simpa using k1), if_pos k1, hw]
  simp only [qTd _ _ hb, j0]
  cases qLm (tkAt ts p.1) (1, (tkAt ts p.1).2.2.1, 0, ⟨#[]⟩, []) (p.1 + 1, p.2) <;> rfl
 rw [if_neg (show ¬ ((tkAt ts p.1).1 == 2) = true by simpa using k1), if_neg k1]
 simp only [qQe hp hl, j0]
 rcases qDt (isC ts 4 zJb p.1) with c1 | c1
 ·have c1' : isC ts 4 ⟨#[45]⟩ p.1 = true := c1
  have g := qEt hok hp (by decide) c1
  simp only [c1, c1', jH, qXh g hl (show (2 : Int) ≠ 5 by decide), j0]
  cases h : qMz ts 2 (p.1 + 1) with
  | inl z => rfl
  | inr a =>
   simp only [jX, qCc, qTd _ _ hb, j0]
   cases qLm (tkAt ts p.1) (1, IntKind.wrap .i64 (0 - a.2.2.2.1), 0, ⟨#[]⟩, []) (a.1, p.2) <;> rfl
 have c1' : isC ts 4 ⟨#[45]⟩ p.1 = false := c1
 simp only [c1, c1', jB, jE, qQe hp hl, j0]
 rcases qDt (isC ts 4 qQa p.1) with c2 | c2
 ·have c2' : isC ts 4 ⟨#[40]⟩ p.1 = true := c2
  have g := qEt hok hp (by decide) c2
  have hEp := hE (p.1 + 1, p.2) g hb
  simp only [stP] at hEp
  simp only [c2, c2', jH, hEp, j0]
  cases h : E (p.1 + 1, p.2) with
  | inl z => rfl
  | inr q =>
   obtain ⟨⟨f1, f2, f3, f4⟩, f5⟩ := hA (p.1 + 1, p.2) q.1 q.2 g hb h
   simp only [outP, jX, qCc, stP, qNz f2 hl, j0, qIh]
   cases qEr ts ⟨#[41]⟩ q.1.1 <;> rfl
 have c2' : isC ts 4 ⟨#[40]⟩ p.1 = false := c2
 simp only [c2, c2', jB, jE, qCl, j0]
 by_cases k2 : (tkAt ts p.1).1 = 1
 rotate_left
 ·rw [if_pos (show ((tkAt ts p.1).1 != 1) = true by simpa using k2), if_pos k2]; rfl
 rw [if_neg (show ¬ ((tkAt ts p.1).1 != 1) = true by simpa using k2), if_neg (show ¬ (tkAt ts p.1).1 ≠ 1 by simpa using k2)]
 have g := hok.next hp (show (tkAt ts p.1).1 ≠ 5 by rw [k2]; decide)
 simp only [j0, qDz, orS, kw_mem, hw]
 by_cases k3 : (tkAt ts p.1).2.1 ∈ [qRg, qSc, sHas, sEnv, qSy]
 ·rw [if_pos (show decide ((tkAt ts p.1).2.1 ∈ [qRg, qSc, sHas, sEnv, qSy]) = true from jM k3), if_pos k3]
  have h1p := h1 (tkAt ts p.1) (p.1 + 1, p.2) g hb
  simp only [stP] at h1p
  simp only [h1p, j0]
  cases qLs ts E (tkAt ts p.1) (p.1 + 1, p.2) <;> rfl
 rw [if_neg (show ¬ decide ((tkAt ts p.1).2.1 ∈ [qRg, qSc, sHas, sEnv, qSy]) = true by simpa using k3), if_neg k3]
 simp only [qXm, j0]
 rcases qDt (resC (tkAt ts p.1).2.1) with c3 | c3
 ·simp only [c3, jH, j0]; rfl
 simp only [c3, jB, jE, j0, zGm g]
 rcases qDt (isC ts 4 qQa (p.1 + 1)) with c4 | c4
 ·have c4' : isC ts 4 ⟨#[40]⟩ (p.1 + 1) = true := c4
  have h2p := h2 (p.1 + 1, p.2) g hb
  simp only [stP] at h2p
  simp only [c4, c4', jH, h2p, j0]
  cases h : qMb ts E (p.1 + 1, p.2) with
  | inl z => rfl
  | inr q =>
   obtain ⟨f1, f2, f3, f4⟩ := qSw hok hA (p := (p.1 + 1, p.2)) g hb h
   simp only [outL, jX, qCc, stP, qTd _ _ f4, j0]
   cases qLm (tkAt ts p.1) (3, 0, 0, (tkAt ts p.1).2.1, q.2) (q.1.1, q.1.2) <;> rfl
 have c4' : isC ts 4 ⟨#[40]⟩ (p.1 + 1) = false := c4
 simp only [c4, c4', jB, jE, zFp (N := N) (l := pr) (s := (tkAt ts p.1).2.1) (by omega) (by omega), j0]
 cases pr.findIdx? (fun x => decide (x = (tkAt ts p.1).2.1)) with
 | none => rfl
 | some j =>
  simp only [jA]
  rw [if_neg (by omega)]
  simp only [j0, qTd _ _ hb]
  cases qLm (tkAt ts p.1) (2, (j : Int), 0, ⟨#[]⟩, []) (p.1 + 1, p.2) <;> rfl
theorem zKg (h3 : ∀ p : Ps, p.1 < ts.length → p.2.length ≤ 256 → r3 (stP ts pr p) d = some (outP ts pr (S p))) (p : Ps) (hp : p.1 < ts.length) (hb : p.2.length ≤ 256) :
  qEi N r1 r2 r3 r4 r5 (stP ts pr p) 4 d = some (outP ts pr (S p)) := by
 have h3p := h3 p hp hb
 simp only [stP] at h3p
 simp only [qEi, stP, h3p, j0]
 cases S p <;> rfl
theorem zBx (hok : OkT ts) (hl : ts.length < 1000000) (hS : Adv ts S) {L : Nat} (hL : L < 4) (h4 : ∀ p : Ps, p.1 < ts.length → p.2.length ≤ 256 → r4 (stP ts pr p) ((L : Int) + 1) d = some (outP ts pr (S p))) :
  ∀ (n M x : Nat) (p : Ps), p.1 < ts.length → p.2.length ≤ 256 → x < p.2.length → ts.length < p.1 + n → ts.length < p.1 + M →
  qAz (qGq N r4 (L : Int) d) M ((x : Int), ts, (p.1 : Int), pr, p.2) = some (outP ts pr (qSo ts L S n x p))
 | 0, M, x, p, hp, _, _, h, _ => by omega
 | n + 1, 0, x, p, hp, _, _, _, h => by omega
 | n + 1, M + 1, x, p, hp, hb, hx, hn, hM => by
  have hw := qKu (show p.1 < 1000000 by omega)
  have hwL : IntKind.wrap .i64 ((L : Int) + 1) = (L : Int) + 1 := wi64 (by omega) (by omega)
  simp only [qAz, qGq, qSo, zEc hp, j0]
  by_cases k1 : opC ts L p.1 = 0
  ·rw [if_pos (show (opC ts L p.1 == 0) = true by simpa using k1), if_pos k1]; rfl
  rw [if_neg (show ¬ (opC ts L p.1 == 0) = true by simpa using k1), if_neg k1]
  have hk : (tkAt ts p.1).1 ≠ 5 := by
   intro hk
   apply k1
   unfold opC
   have : opsC.find? (isOp ts L p.1) = none := by
    rw [List.find?_eq_none]
    intro o _ ho
    simp only [isOp, jP] at ho
    have := qVx ho.1
    omega
   rw [this]
  have g := hok.next hp hk
  have h4p := h4 (p.1 + 1, p.2) g hb
  simp only [stP] at h4p
  simp only [qLq hp, j0, hw, hwL, h4p]
  cases h : S (p.1 + 1, p.2) with
  | inl z => rfl
  | inr q =>
   obtain ⟨⟨f1, f2, f3, f4⟩, f5⟩ := hS (p.1 + 1, p.2) q.1 q.2 g hb h
   simp only [outP, jX, qCc, stP, qTd _ _ f4, j0]
   cases hn2 : qLm (tkAt ts p.1) (4, 0, opC ts L p.1, ⟨#[]⟩, [(x : Int), (q.2 : Int)]) (q.1.1, q.1.2) with
   | inl z => rfl
   | inr r =>
    obtain ⟨⟨k1, k2, k3, k4⟩, k5⟩ := qOk (ts := ts) (p := p) (r := (q.1.1, q.1.2)) (by simp only at f1 ⊢; omega) f2 f3 f4 hn2
    simp only [jX]
    by_cases k6 : L = 1
    ·subst k6
     rfl
    ·rw [if_neg (show ¬ ((L : Int) == 1) = true by simp; omega), if_neg k6]
     simp only [j0]
     exact zBx hok hl hS hL h4 n M r.2 r.1 k2 k4 k5 (by omega) (by omega)
theorem zAb (hok : OkT ts) (hl : ts.length < 1000000) (hN : 1000001 < N) (hS : Adv ts S) {L : Nat} (hL : L < 4) (h4 : ∀ p : Ps, p.1 < ts.length → p.2.length ≤ 256 → r4 (stP ts pr p) ((L : Int) + 1) d = some (outP ts pr (S p)))
  (p : Ps) (hp : p.1 < ts.length) (hb : p.2.length ≤ 256) : qEi N r1 r2 r3 r4 r5 (stP ts pr p) (L : Int) d = some (outP ts pr (qSa ts L S p)) := by
 have hwL : IntKind.wrap .i64 ((L : Int) + 1) = (L : Int) + 1 := wi64 (by omega) (by omega)
 have h4p := h4 p hp hb
 simp only [stP] at h4p
 simp only [qEi, stP, qSa, hwL, h4p, j0]
 rw [if_neg (show ¬ ((L : Int) == 4) = true by simp; omega)]
 cases h : S p with
 | inl z => rfl
 | inr q =>
  obtain ⟨⟨f1, f2, f3, f4⟩, f5⟩ := hS p q.1 q.2 hp hb h
  simp only [outP, jX, qCc, stP]
  rw [zBx hok hl hS hL h4 (ts.length + 1) N q.2 q.1 f2 f4 f5 (by omega) (by omega)]
  rfl
theorem expr_B {k : Nat} (hok : OkT ts) (hl : ts.length < 1000000) (hd : d + k = 32) (hk : k < 33) (hA : Adv ts (qGw ts pr k)) (hE : ∀ p : Ps, p.1 < ts.length → p.2.length ≤ 256 → r5 (stP ts pr p) (IntKind.wrap .i64 (d + 1)) = some (outP ts pr (qGw ts pr k p)))
  (h4 : ∀ p : Ps, p.1 < ts.length → p.2.length ≤ 256 → r4 (stP ts pr p) 1 d = some (outP ts pr (qTv ts pr (qGw ts pr k) p)))
  (p : Ps) (hp : p.1 < ts.length) (hb : p.2.length ≤ 256) : qFi N r1 r2 r3 r4 r5 (stP ts pr p) d = some (outP ts pr (qGw ts pr (k + 1) p)) := by
 have hw := qKu (show p.1 < 1000000 by omega)
 simp only [qFi, stP, qLq hp, j0, qGw]
 rw [if_neg (show ¬ decide (d > 32) = true by simp only [jA]; omega)]
 simp only [j0, zGm hp]
 rcases qDt (isC ts 1 sIf p.1) with c1 | c1
 rotate_left
 ·have c1' : isC ts 1 ⟨#[105, 102]⟩ p.1 = false := c1
  have h4p := h4 p hp hb
  simp only [stP] at h4p
  simp only [c1, c1', jU, jH, jB, jE, h4p, j0]
  cases qTv ts pr (qGw ts pr k) p <;> rfl
 have c1' : isC ts 1 ⟨#[105, 102]⟩ p.1 = true := c1
 have g := qEt hok hp (by decide) c1
 have hEa := hE (p.1 + 1, p.2) g hb
 simp only [stP] at hEa
 simp only [c1, c1', k7, jH, jB, jE, hw, hEa, j0]
 cases ha : qGw ts pr k (p.1 + 1, p.2) with
 | inl z => rfl
 | inr a =>
  obtain ⟨⟨a1, a2, a3, a4⟩, a5⟩ := hA (p.1 + 1, p.2) a.1 a.2 g hb ha
  simp only [outP, jX, qCc, stP, zDi a2 hl, j0, zHs]
  cases hi : qUc ts ⟨#[116, 104, 101, 110]⟩ a.1.1 with
  | inl z => rfl
  | inr i =>
   obtain ⟨rfl, g1, -⟩ := qSf hok a2 hi
   have hEb := hE (a.1.1 + 1, a.1.2) g1 a4
   simp only [stP] at hEb
   simp only [jX, hEb, j0]
   cases hb1 : qGw ts pr k (a.1.1 + 1, a.1.2) with
   | inl z => rfl
   | inr b =>
    obtain ⟨⟨b1, b2, b3, b4⟩, b5⟩ := hA (a.1.1 + 1, a.1.2) b.1 b.2 g1 a4 hb1
    simp only [outP, jX, qCc, stP, zDi b2 hl, j0, zHg]
    cases hj : qUc ts ⟨#[101, 108, 115, 101]⟩ b.1.1 with
    | inl z => rfl
    | inr j =>
     obtain ⟨rfl, g2, -⟩ := qSf hok b2 hj
     have hEc := hE (b.1.1 + 1, b.1.2) g2 b4
     simp only [stP] at hEc
     simp only [jX, hEc, j0]
     cases hc1 : qGw ts pr k (b.1.1 + 1, b.1.2) with
     | inl z => rfl
     | inr c =>
      obtain ⟨⟨c1, c2, c3, c4⟩, c5⟩ := hA (b.1.1 + 1, b.1.2) c.1 c.2 g2 b4 hc1
      simp only [outP, jX, qCc, stP, qTd _ _ c4, j0]
      cases qLm (tkAt ts p.1) (5, 0, 0, ⟨#[]⟩, [(a.2 : Int), (b.2 : Int), (c.2 : Int)]) (c.1.1, c.1.2) <;> rfl
theorem zMp (hd : d > 32) (p : Ps) (hp : p.1 < ts.length) : qFi N r1 r2 r3 r4 r5 (stP ts pr p) d = some (outP ts pr (qGw ts pr 0 p)) := by
 simp only [qFi, stP, qLq hp, j0, qGw]
 rw [if_pos (show decide (d > 32) = true by simpa using hd)]
 rfl
theorem zIu (hok : OkT ts) (hl : ts.length < 1000000) (hpr : pr.length < 1000) (hN : 1000001 < N) (ht : ∀ j, (tkAt ts j).2.1.size < 100000) : ∀ (k D : Nat), k ≤ 32 → 7 * k + 1 ≤ D → ∀ p : Ps, p.1 < ts.length → p.2.length ≤ 256 →
  (qAf N D).2.2.2.2 (stP ts pr p) (33 - (k : Int)) = some (outP ts pr (qGw ts pr k p))
 | 0, 0, _, h, _, _, _ => by omega
 | 0, D + 1, _, _, p, hp, _ => by simp only [qAf]; exact zMp (by omega) p hp
 | k + 1, D, hk, hD, p, hp, hb => by
  have hA := qMl (ts := ts) (params := pr) hok k
  have hF := qTk (params := pr) hok hA
  have hT : Adv ts (zHf ts pr (qGw ts pr k)) := qNa hok hF
  have hS : Adv ts (sumC ts pr (qGw ts pr k)) := qNa hok hT
  have hE : ∀ D, 7 * k + 1 ≤ D → ∀ p : Ps, p.1 < ts.length → p.2.length ≤ 256 → (qAf N D).2.2.2.2 (stP ts pr p) (IntKind.wrap .i64 (32 - (k : Int) + 1)) = some (outP ts pr (qGw ts pr k p)) := by
   intro D hD p hp hb
   rw [wi64 (by omega) (by omega), show 32 - (k : Int) + 1 = 33 - (k : Int) by omega]
   exact zIu hok hl hpr hN ht k D (by omega) hD p hp hb
  have h1 : ∀ D, 7 * k + 2 ≤ D → ∀ (t : Tok) (p : Ps), p.1 < ts.length → p.2.length ≤ 256 → (qAf N D).1 (stP ts pr p) t (32 - (k : Int)) = some (outP ts pr (qLs ts (qGw ts pr k) t p)) := by
   intro D hD t p hp hb
   obtain ⟨D', rfl⟩ : ∃ D', D = D' + 1 := ⟨D - 1, by omega⟩
   simp only [qAf]
   exact zIs hok hl (by omega) ht hA (hE D' (by omega)) t p hp hb
  have h2 : ∀ D, 7 * k + 2 ≤ D → ∀ p : Ps, p.1 < ts.length → p.2.length ≤ 256 → (qAf N D).2.1 (stP ts pr p) (32 - (k : Int)) = some (outL ts pr (qMb ts (qGw ts pr k) p)) := by
   intro D hD p hp hb
   obtain ⟨D', rfl⟩ : ∃ D', D = D' + 1 := ⟨D - 1, by omega⟩
   simp only [qAf]
   exact zEi hok hl (by omega) hA (hE D' (by omega)) p hp hb
  have h3 : ∀ D, 7 * k + 3 ≤ D → ∀ p : Ps, p.1 < ts.length → p.2.length ≤ 256 → (qAf N D).2.2.1 (stP ts pr p) (32 - (k : Int)) = some (outP ts pr (qPr ts pr (qGw ts pr k) p)) := by
   intro D hD p hp hb
   obtain ⟨D', rfl⟩ : ∃ D', D = D' + 1 := ⟨D - 1, by omega⟩
   simp only [qAf]
   exact zKs hok hl hpr (by omega) hA (hE D' (by omega)) (h1 D' (by omega)) (h2 D' (by omega)) p hp hb
  have b4 : ∀ D, 7 * k + 4 ≤ D → ∀ p : Ps, p.1 < ts.length → p.2.length ≤ 256 → (qAf N D).2.2.2.1 (stP ts pr p) 4 (32 - (k : Int)) = some (outP ts pr (qPr ts pr (qGw ts pr k) p)) := by
   intro D hD p hp hb
   obtain ⟨D', rfl⟩ : ∃ D', D = D' + 1 := ⟨D - 1, by omega⟩
   simp only [qAf]
   exact zKg (h3 D' (by omega)) p hp hb
  have b3 : ∀ D, 7 * k + 5 ≤ D → ∀ p : Ps, p.1 < ts.length → p.2.length ≤ 256 → (qAf N D).2.2.2.1 (stP ts pr p) 3 (32 - (k : Int)) = some (outP ts pr (zHf ts pr (qGw ts pr k) p)) := by
   intro D hD p hp hb
   obtain ⟨D', rfl⟩ : ∃ D', D = D' + 1 := ⟨D - 1, by omega⟩
   simp only [qAf]
   exact zAb hok hl hN hF (L := 3) (by omega) (b4 D' (by omega)) p hp hb
  have b2 : ∀ D, 7 * k + 6 ≤ D → ∀ p : Ps, p.1 < ts.length → p.2.length ≤ 256 → (qAf N D).2.2.2.1 (stP ts pr p) 2 (32 - (k : Int)) = some (outP ts pr (sumC ts pr (qGw ts pr k) p)) := by
   intro D hD p hp hb
   obtain ⟨D', rfl⟩ : ∃ D', D = D' + 1 := ⟨D - 1, by omega⟩
   simp only [qAf]
   exact zAb hok hl hN hT (L := 2) (by omega) (b3 D' (by omega)) p hp hb
  have b1 : ∀ D, 7 * k + 7 ≤ D → ∀ p : Ps, p.1 < ts.length → p.2.length ≤ 256 → (qAf N D).2.2.2.1 (stP ts pr p) 1 (32 - (k : Int)) = some (outP ts pr (qTv ts pr (qGw ts pr k) p)) := by
   intro D hD p hp hb
   obtain ⟨D', rfl⟩ : ∃ D', D = D' + 1 := ⟨D - 1, by omega⟩
   simp only [qAf]
   exact zAb hok hl hN hS (L := 1) (by omega) (b2 D' (by omega)) p hp hb
  obtain ⟨D', rfl⟩ : ∃ D', D = D' + 1 := ⟨D - 1, by omega⟩
  rw [show (33 : Int) - ((k + 1 : Nat) : Int) = 32 - (k : Int) by omega]
  simp only [qAf]
  exact expr_B hok hl (by omega) (by omega) hA (hE D' (by omega)) (b1 D' (by omega)) p hp hb
theorem zLx (hok : OkT ts) (hl : ts.length < 1000000) (hpr : pr.length < 1000) (hN : 1000001 < N) (ht : ∀ j, (tkAt ts j).2.1.size < 100000) (p : Ps) (hp : p.1 < ts.length) (hb : p.2.length ≤ 256) :
  qMf N (ts, (p.1 : Int), pr, p.2) 1 = some (outP ts pr (qGw ts pr 32 p)) := by
 have := zIu hok hl hpr hN ht 32 N (by omega) (by omega) p hp hb
 exact this
end
end
section
open Go Go.Dc
section
variable {N : Nat} {ts : List Tok} {pr : List ByteArray} {b : List Ex}
theorem qSx (h : OkT ts) : ∀ (n : Nat) (l : List ByteArray) (i : Nat) (a : Nat × List ByteArray), i < ts.length → l.length ≤ 8 → qPq ts n l i = .inr a → i < a.1 ∧ a.1 < ts.length ∧ a.2.length ≤ 8
 | 0, _, _, _, _, _, h1 => by cases h1
 | n + 1, l, i, a, hi, hl, h1 => by
  obtain ⟨x, hx, h2⟩ := qDa (show qCc (qMv ts i) _ = _ from h1)
  obtain ⟨rfl, g1, -⟩ := qLt h hi hx
  split at h2
  ·cases h2
  rename_i k1
  split at h2
  ·cases h2
  split at h2
  ·rename_i k3
   have g2 := qEt h g1 (by decide) k3
   obtain ⟨j1, j2, j3⟩ := qSx h n _ _ a g2 (by simp only [jL, jC, jD]; omega) h2
   exact ⟨by omega, j2, j3⟩
  ·obtain ⟨j, hj, h3⟩ := qDa h2
   obtain ⟨rfl, g2, -⟩ := qEs h g1 hj
   obtain rfl := Sum.inr.inj h3
   exact ⟨by simp only; omega, g2, by simp only [jL, jC, jD]; omega⟩
theorem qSb (h : OkT ts) {i : Nat} {a : Nat × List ByteArray} (hi : i < ts.length) (h1 : qIf ts i = .inr a) : i < a.1 ∧ a.1 < ts.length ∧ a.2.length ≤ 8 := by
 obtain ⟨j, hj, h2⟩ := qDa h1
 obtain ⟨rfl, g, -⟩ := qEs h hi hj
 split at h2
 ·rename_i k
  obtain rfl := Sum.inr.inj h2
  exact ⟨by simp only; omega, qEt h g (by decide) k, by simp⟩
 ·obtain ⟨j1, j2, j3⟩ := qSx h _ _ _ a g (by simp) h2
  exact ⟨by omega, j2, j3⟩
theorem qWl (hok : OkT ts) (hl : ts.length < 1000000) (hN : 1000000 < N) : ∀ (n M : Nat) (l : List ByteArray) (i : Nat), i < ts.length → l.length ≤ 8 → ts.length < i + n → ts.length < i + M →
  ((qAz (qEw N) M (l, ts, (i : Int), pr, b)).bind fun out1 => (match out1 with | .inl o1 => (qCe N (o1.2.1, o1.2.2.1, o1.2.2.2.1, o1.2.2.2.2) (⟨#[41]⟩ : ByteArray)).bind fun y12 => (match y12 with | .inl z5 => some (.inl z5) | .inr y13 => some (.inr ((y13.1, y13.2.1, y13.2.2.1, y13.2.2.2), o1.1))) | .inr (z) => some z)) = some (Sum.map id (fun a : Nat × List ByteArray => ((ts, (a.1 : Int), pr, b), a.2)) (qPq ts n l i))
 | 0, M, l, i, hi, _, h, _ => by omega
 | n + 1, 0, l, i, hi, _, _, h => by omega
 | n + 1, M + 1, l, i, hi, hll, hn, hM => by
  simp only [qAz, qEw, qPq, zAe hi hl, j0]
  cases hx : qMv ts i with
  | inl z => rfl
  | inr x =>
   obtain ⟨rfl, g1, -⟩ := qLt hok hi hx
   simp only [jX, qCc, qCl, j0]
   by_cases k1 : l.length = 8
   ·rw [if_pos (show ((l.length : Int) == 8) = true by simp; omega), if_pos k1]; rfl
   rw [if_neg (show ¬ ((l.length : Int) == 8) = true by simp; omega), if_neg k1]
   simp only [j0, qXa (N := N) (l := l) (s := (tkAt ts i).2.1) (by omega) (by omega)]
   by_cases k2 : (tkAt ts i).2.1 ∈ l
   ·rw [if_pos (jM k2), if_pos k2]; rfl
   rw [if_neg (show ¬ decide ((tkAt ts i).2.1 ∈ l) = true by simpa using k2), if_neg k2]
   simp only [j0]
   rw [qCh (by simp only [jC, jD]; omega) (by omega)]
   simp only [j0, qQe g1 hl, qOb]
   rcases qDt (isC ts 4 ⟨#[44]⟩ (i + 1)) with hc | hc
   ·have g := qEt hok g1 (by decide) hc
    simp only [hc, jH, k7, jB, jE, j0]
    exact qWl hok hl hN n M _ (i + 1 + 1) g (by simp only [jL, jC, jD]; omega) (by omega) (by omega)
   ·simp only [hc, jB, jE, jU, jH, j0, qNz g1 hl, qIh]
    cases qEr ts ⟨#[41]⟩ (i + 1) <;> rfl
theorem zAv (hok : OkT ts) (hl : ts.length < 1000000) (hN : 1000000 < N) {i : Nat} (hi : i < ts.length) :
  qEq N (ts, (i : Int), pr, b) = some (Sum.map id (fun a : Nat × List ByteArray => ((ts, (a.1 : Int), pr, b), a.2)) (qIf ts i)) := by
 simp only [qEq, qNz hi hl, j0, qIf, qQa]
 cases h : qEr ts ⟨#[40]⟩ i with
 | inl z => rfl
 | inr j =>
  obtain ⟨rfl, g, -⟩ := qEs hok hi h
  simp only [jX, qCc, qQe g hl, j0, qIh]
  rcases qDt (isC ts 4 ⟨#[41]⟩ (i + 1)) with hc | hc
  ·simp only [hc, jH]; rfl
  ·simp only [hc, jB, jE]
   exact qWl hok hl hN (ts.length + 1) N [] (i + 1) g (by simp) (by omega) (by omega)
def zFy : List (ByteArray × Int) := [(⟨#[102, 117, 110, 99]⟩, 1), (⟨#[103, 101, 110]⟩, 3), (⟨#[116, 101, 115, 116]⟩, 2)]
theorem zKe : ((qLl (some [] : Option (List (ByteArray × Int))) (⟨#[102, 117, 110, 99]⟩ : ByteArray) 1).bind fun mp1 => (qLl mp1 (⟨#[116, 101, 115, 116]⟩ : ByteArray) 2).bind fun mp2 => qLl mp2 (⟨#[103, 101, 110]⟩ : ByteArray) 3) = some (some zFy) := by kernel_rfl
theorem zEx (s : ByteArray) : ((qBc (some zFy) s).getD 0) = qNb s := by
 simp only [qBc, zFy, j0, mget, qNb, zIt, zJj, sGen]
 by_cases h1 : s = ⟨#[102, 117, 110, 99]⟩
 ·simp [h1]
 by_cases h2 : s = ⟨#[116, 101, 115, 116]⟩
 ·subst h2; rfl
 by_cases h3 : s = ⟨#[103, 101, 110]⟩
 ·subst h3; rfl
 simp [h1, h2, h3]
theorem qYo {before : List Dl} {y1 : StT × Tok} {o4 : List Tok × Int × List ByteArray × List Ex × Int × ByteArray × Int × Int} (hl : before.length ≤ 64) : ∀ (d i M : Nat), i + d = before.length → d < M →
  ((qAz (qGd N before (some zFy) y1 o4) M (i : Int)).bind fun out1 => (match out1 with | .inl o6 => some (-1) | .inr (z) => some z) : Option Int) = some (match (before.drop i).findIdx? (fun d => d.1 == qNb y1.2.2.1 && decide (d.2.1 = o4.2.2.2.2.2.1)) with | some j => ((i + j : Nat) : Int) | none => -1)
 | d, i, 0, _, h => by omega
 | 0, i, M + 1, h, _ => by
  have : before.drop i = [] := jN (by omega)
  simp only [qAz, qGd, this, List.findIdx?_nil]
  rw [if_neg (by simp only [jA]; omega)]
  rfl
 | d + 1, i, M + 1, h, hM => by
  have hi : i < before.length := by omega
  have ih := qYo (y1 := y1) (o4 := o4) hl d (i + 1) M (by omega) (by omega)
  simp only [qAz, qGd]
  rw [if_pos (by simp only [jA]; omega), qFt hi, jI hi, List.findIdx?_cons]
  simp only [j0, qDz, zEx]
  by_cases k1 : (before[i].1 == qNb y1.2.2.1) = true
  ·by_cases k2 : before[i].2.1 = o4.2.2.2.2.2.1
   ·simp [k1, k2]
   ·simp only [k1, k2, jH, decide_false, j0, jB, jE, qKu (show i < 1000000 by omega), Bool.and_false]
    rw [ih]
    cases (before.drop (i + 1)).findIdx? (fun d => d.1 == qNb y1.2.2.1 && decide (d.2.1 = o4.2.2.2.2.2.1)) with
    | none => rfl
    | some j => simp only [kC]; rw [show i + 1 + j = i + (j + 1) by omega]
  ·simp only [k1, jB, jE, j0, qKu (show i < 1000000 by omega), Bool.false_and]
   rw [ih]
   cases (before.drop (i + 1)).findIdx? (fun d => d.1 == qNb y1.2.2.1 && decide (d.2.1 = o4.2.2.2.2.2.1)) with
   | none => rfl
   | some j => simp only [kC]; rw [show i + 1 + j = i + (j + 1) by omega]
theorem qTs (h : OkT ts) {before : List Dl} {i : Nat} {a : Nat × Dl} (hi : i < ts.length) (h1 : qRc ts before i = .inr a) : i < a.1 ∧ a.1 < ts.length ∧ before.length ≠ 64 := by
 unfold qRc at h1
 dsimp only at h1
 split at h1
 ·cases h1
 rename_i k1
 split at h1
 ·cases h1
 rename_i k2
 have g := h.next hi (show (tkAt ts i).1 ≠ 5 by intro e; apply k1; left; rw [e]; decide)
 obtain ⟨x, hx, h2⟩ := qDa h1
 have gx : x.1 = i + 1 + 1 ∧ x.1 < ts.length := by
  split at hx
  ·obtain ⟨rfl, g1, -⟩ := qMd h g hx; exact ⟨rfl, g1⟩
  ·obtain ⟨rfl, g1, -⟩ := qLt h g hx; exact ⟨rfl, g1⟩
 split at h2
 ·cases h2
 obtain ⟨y, hy, h3⟩ := qDa h2
 have gy : x.1 ≤ y.1 ∧ y.1 < ts.length := by
  split at hy
  ·obtain ⟨g1, g2, -⟩ := qSb h gx.2 hy; exact ⟨by omega, g2⟩
  ·obtain rfl := Sum.inr.inj hy; exact ⟨jW _, gx.2⟩
 obtain ⟨j, hj, h4⟩ := qDa h3
 obtain ⟨rfl, g3, -⟩ := qEs h gy.2 hj
 obtain ⟨c, hc, h5⟩ := qDa h4
 obtain ⟨⟨f1, f2, f3, f4⟩, -⟩ := qMl h 32 (y.1 + 1, []) c.1 c.2 g3 (by simp) hc
 obtain ⟨m, hm, h6⟩ := qDa h5
 obtain ⟨rfl, g4, -⟩ := qEs h f2 hm
 obtain rfl := Sum.inr.inj h6
 exact ⟨by simp only at f1 ⊢; omega, g4, k2⟩
theorem zNd {before : List Dl} {f : Dl → Bool} : (decide ((match before.findIdx? f with | some j => ((0 + j : Nat) : Int) | none => -1) ≥ 0)) = before.any f := by
 have := List.findIdx?_isSome (xs := before) (p := f)
 rw [← this]
 cases before.findIdx? f with
 | none => rfl
 | some j => simp only [Option.isSome_some]; exact jM (by omega)
end
end
section
open Go Go.Dc
section
variable {N : Nat} {ts : List Tok} {pr : List ByteArray} {b : List Ex}
theorem zMh (hok : OkT ts) (hl : ts.length < 1000000) (hN : 1000001 < N) (ht : ∀ j, (tkAt ts j).2.1.size < 100000) {before : List Dl} (hb : before.length ≤ 64) {i : Nat} (hi : i < ts.length) :
  qJj N (ts, (i : Int), pr, b) before = some (Sum.map id (fun a : Nat × Dl => ((ts, (a.1 : Int), a.2.2.2.1, a.2.2.2.2), a.2)) (qRc ts before i)) := by
 have hw := qKu (show i < 1000000 by omega)
 unfold qJj
 obtain ⟨mp1, hm1, hm⟩ := jJ.1 zKe
 obtain ⟨mp2, hm2, hm3⟩ := jJ.1 hm
 rw [hm1]; simp only [j0]
 rw [hm2]; simp only [j0]
 rw [hm3]; simp only [j0, qLq hi, zEx, qCl, qRc]
 by_cases k1 : (tkAt ts i).1 ≠ 1 ∨ qNb (tkAt ts i).2.1 = 0
 ·rw [if_pos k1]
  have : ((if ((tkAt ts i).1 != 1) = true then some true else some (qNb (tkAt ts i).2.1 == 0)) : Option Bool) = some true := by
   rcases k1 with h | h
   ·simp [h]
   ·simp [h]
  rw [this]; rfl
 rw [if_neg k1]
 have k1a : (tkAt ts i).1 = 1 := by
  apply Decidable.byContradiction
  intro h; exact k1 (.inl h)
 have k1b : ¬ qNb (tkAt ts i).2.1 = 0 := fun h => k1 (.inr h)
 have : ((if ((tkAt ts i).1 != 1) = true then some true else some (qNb (tkAt ts i).2.1 == 0)) : Option Bool) = some false := by simp [k1a, k1b]
 rw [this]
 simp only [j0, jB, jE]
 by_cases k2 : before.length = 64
 ·rw [if_pos (show ((before.length : Int) == 64) = true by simp; omega), if_pos k2]; rfl
 rw [if_neg (show ¬ ((before.length : Int) == 64) = true by simp; omega), if_neg k2]
 have g := hok.next hi (show (tkAt ts i).1 ≠ 5 by rw [k1a]; decide)
 simp only [j0, hw]
 have hx : (if (qNb (tkAt ts i).2.1 == 3) = true then ((qEk N (ts, ((i + 1 : Nat) : Int), pr, b)).bind fun y6 => (match y6 with | .inl z3 => some (.inr (.inl z3)) | .inr y7 => some (.inl (y7.1.1, y7.1.2.1, y7.1.2.2.1, y7.1.2.2.2, y7.2.1, y7.2.2.1, y7.2.2.2.1, y7.2.2.2.2)))) else ((qEj N (ts, ((i + 1 : Nat) : Int), pr, b)).bind fun y8 => (match y8 with | .inl z4 => some (.inr (.inl z4)) | .inr y9 => some (.inl (y9.1.1, y9.1.2.1, y9.1.2.2.1, y9.1.2.2.2, y9.2.1, y9.2.2.1, y9.2.2.2.1, y9.2.2.2.2)))) : Option ((List Tok × Int × List ByteArray × List Ex × Int × ByteArray × Int × Int) ⊕ (Flt ⊕ (StT × Dl)))) =
   some (match (if qNb (tkAt ts i).2.1 = 3 then qOs ts (i + 1) else qMv ts (i + 1)) with | .inl z => .inr (.inl z) | .inr a => .inl (ts, (a.1 : Int), pr, b, a.2.1, a.2.2.1, a.2.2.2.1, a.2.2.2.2)) := by
  by_cases k3 : qNb (tkAt ts i).2.1 = 3
  ·rw [if_pos (show (qNb (tkAt ts i).2.1 == 3) = true by simpa using k3), if_pos k3, zAr g hl (by omega) ht]
   cases qOs ts (i + 1) <;> rfl
  ·rw [if_neg (show ¬ (qNb (tkAt ts i).2.1 == 3) = true by simpa using k3), if_neg k3, zAe g hl]
   cases qMv ts (i + 1) <;> rfl
 refine Eq.trans (congrArg (fun z => Option.bind z _) hx) ?_
 simp only [j0]
 cases hX : (if qNb (tkAt ts i).2.1 = 3 then qOs ts (i + 1) else qMv ts (i + 1)) with
 | inl z => rfl
 | inr x =>
  have gx : x.1 = i + 1 + 1 ∧ x.1 < ts.length := by
   split at hX
   ·obtain ⟨rfl, g1, -⟩ := qMd hok g hX; exact ⟨rfl, g1⟩
   ·obtain ⟨rfl, g1, -⟩ := qLt hok g hX; exact ⟨rfl, g1⟩
  simp only [qCc]
  have hT := qYo (N := N) (before := before) (y1 := ((ts, (i : Int), pr, b), tkAt ts i)) (o4 := (ts, (x.1 : Int), pr, b, x.2.1, x.2.2.1, x.2.2.2.1, x.2.2.2.2)) hb before.length 0 N (by omega) (by omega)
  simp only [jZ] at hT
  refine Eq.trans (congrArg (fun z => Option.bind z _) hT) ?_
  simp only [j0, zNd]
  rcases qDt (before.any fun d => d.1 == qNb (tkAt ts i).2.1 && decide (d.2.1 = x.2.2.1)) with k4 | k4
  ·simp only [k4, jH]; rfl
  simp only [k4, jB, jE, j0]
  have hp : (if (qNb (tkAt ts i).2.1 == 1) = true then ((qEq N (ts, (x.1 : Int), pr, b)).bind fun y12 => (match y12 with | .inl z6 => some (.inr (.inl z6)) | .inr y13 => some (.inl (y13.2, y13.1.1, y13.1.2.1, y13.1.2.2.1, y13.1.2.2.2)))) else (some (.inl (([] : List (ByteArray)), ts, (x.1 : Int), pr, b))) : Option ((List ByteArray × StT) ⊕ (Flt ⊕ (StT × Dl)))) =
    some (match (if qNb (tkAt ts i).2.1 = 1 then qIf ts x.1 else .inr (x.1, [])) with | .inl z => .inr (.inl z) | .inr a => .inl (a.2, ts, (a.1 : Int), pr, b)) := by
   by_cases k5 : qNb (tkAt ts i).2.1 = 1
   ·rw [if_pos (show (qNb (tkAt ts i).2.1 == 1) = true by simpa using k5), if_pos k5, zAv hok hl (by omega) gx.2]
    cases qIf ts x.1 <;> rfl
   ·rw [if_neg (show ¬ (qNb (tkAt ts i).2.1 == 1) = true by simpa using k5), if_neg k5]
  refine Eq.trans (congrArg (fun z => Option.bind z _) hp) ?_
  simp only [j0]
  cases hY : (if qNb (tkAt ts i).2.1 = 1 then qIf ts x.1 else .inr (x.1, []) : Flt ⊕ (Nat × List ByteArray)) with
  | inl z => rfl
  | inr y =>
   have gy : x.1 ≤ y.1 ∧ y.1 < ts.length ∧ y.2.length ≤ 8 := by
    split at hY
    ·obtain ⟨g1, g2, g3⟩ := qSb hok gx.2 hY; exact ⟨by omega, g2, g3⟩
    ·obtain rfl := Sum.inr.inj hY; exact ⟨jW _, gx.2, by simp⟩
   simp only [qNz gy.2.1 hl, j0, sEq]
   cases hj : qEr ts ⟨#[61]⟩ y.1 with
   | inl z => rfl
   | inr j =>
    obtain ⟨rfl, g3, -⟩ := qEs hok gy.2.1 hj
    have he := zLx (N := N) (pr := y.2) hok hl (by omega) hN ht (y.1 + 1, []) g3 (by simp)
    simp only at he
    simp only [jX, he, j0]
    cases hc : qGw ts y.2 32 (y.1 + 1, []) with
    | inl z => rfl
    | inr c =>
     obtain ⟨⟨f1, f2, f3, f4⟩, -⟩ := qMl hok 32 (y.1 + 1, []) c.1 c.2 g3 (by simp) hc
     simp only [outP, jX, stP, qNz f2 hl, j0, qTy]
     cases qEr ts ⟨#[59]⟩ c.1.1 <;> rfl
theorem qVm (hok : OkT ts) (hl : ts.length < 1000000) (hN : 1000000 < N) {y4 : StT × Tok} : ∀ (n M : Nat) (l : List ByteArray) (i : Nat), i < ts.length → l.length ≤ 8 → ts.length < i + n → ts.length < i + M →
  qAz (qHs N y4) M (ts, (i : Int), pr, b, l) = some (match qKt ts y4.2.2.1 n l i with | .inl z => .inr (.inl z) | .inr a => .inl (ts, (a.1 : Int), pr, b, a.2))
 | 0, M, l, i, hi, _, h, _ => by omega
 | n + 1, 0, l, i, hi, _, _, h => by omega
 | n + 1, M + 1, l, i, hi, hll, hn, hM => by
  have hw := qKu (show i < 1000000 by omega)
  simp only [qAz, qHs, qKt, zGm hi, j0, qTb]
  rcases qDt (isC ts 1 ⟨#[105, 109, 112, 111, 114, 116]⟩ i) with k1 | k1
  rotate_left
  ·simp only [k1, jB, jE, j0]
  have g := qEt hok hi (by decide) k1
  simp only [k1, jH]
  by_cases k2 : l.length = 8
  ·rw [if_pos (show ((l.length : Int) == 8) = true by simp; omega), if_pos k2]
   simp only [qLq hi, j0, qCl]; rfl
  rw [if_neg (show ¬ ((l.length : Int) == 8) = true by simp; omega), if_neg k2]
  simp only [j0, hw, zAe g hl]
  cases hx : qMv ts (i + 1) with
  | inl z => rfl
  | inr x =>
   obtain ⟨rfl, g1, -⟩ := qLt hok g hx
   simp only [jX, qCc, qCl, j0, qDz, qXa (N := N) (l := l) (s := (tkAt ts (i + 1)).2.1) (by omega) (by omega)]
   by_cases k3 : (tkAt ts (i + 1)).2.1 = y4.2.2.1 ∨ (tkAt ts (i + 1)).2.1 ∈ l
   ·rw [if_pos k3]
    have : ((if decide ((tkAt ts (i + 1)).2.1 = y4.2.2.1) = true then some true else some (decide ((tkAt ts (i + 1)).2.1 ∈ l))) : Option Bool) = some true := by
     rcases k3 with h | h
     ·rw [if_pos (jM h)]
     ·rw [jM h]; split <;> rfl
    rw [this]; rfl
   rw [if_neg k3]
   have : ((if decide ((tkAt ts (i + 1)).2.1 = y4.2.2.1) = true then some true else some (decide ((tkAt ts (i + 1)).2.1 ∈ l))) : Option Bool) = some false := by
    rw [if_neg (by simp only [jA]; exact fun h => k3 (.inl h)), jQ (fun h => k3 (.inr h))]
   rw [this]
   simp only [j0, jB, jE]
   rw [qCh (by simp only [jC, jD]; omega) (by omega)]
   simp only [j0, qNz g1 hl, qTy]
   cases hj : qEr ts ⟨#[59]⟩ (i + 1 + 1) with
   | inl z => rfl
   | inr j =>
    obtain ⟨rfl, g2, -⟩ := qEs hok g1 hj
    exact qVm hok hl hN n M _ (i + 1 + 1 + 1) g2 (by simp only [jL, jC, jD]; omega) (by omega) (by omega)
theorem qPc (h : OkT ts) {pkg : ByteArray} : ∀ (n : Nat) (l : List ByteArray) (i : Nat) (a : Nat × List ByteArray), i < ts.length → l.length ≤ 8 → qKt ts pkg n l i = .inr a → i ≤ a.1 ∧ a.1 < ts.length ∧ a.2.length ≤ 8
 | 0, _, _, _, _, _, h1 => by cases h1
 | n + 1, l, i, a, hi, hl, h1 => by
  unfold qKt at h1
  split at h1
  ·rename_i k
   have g := qEt h hi (by decide) k
   split at h1
   ·cases h1
   rename_i k2
   obtain ⟨x, hx, h2⟩ := qDa h1
   obtain ⟨rfl, g1, -⟩ := qLt h g hx
   split at h2
   ·cases h2
   obtain ⟨j, hj, h3⟩ := qDa h2
   obtain ⟨rfl, g2, -⟩ := qEs h g1 hj
   obtain ⟨j1, j2, j3⟩ := qPc h n _ _ a g2 (by simp only [jL, jC, jD]; omega) h3
   exact ⟨by omega, j2, j3⟩
  ·obtain rfl := Sum.inr.inj h1
   exact ⟨jW _, hi, hl⟩
theorem qYx (hok : OkT ts) (hl : ts.length < 1000000) (hN : 1000001 < N) (ht : ∀ j, (tkAt ts j).2.1.size < 100000) : ∀ (n M : Nat) (l : List Dl) (i : Nat) (pr : List ByteArray) (b : List Ex), i < ts.length → l.length ≤ 64 → ts.length < i + n → ts.length < i + M →
  match qSt ts n l i with
  | .inl z => qAz (qEc N) M (ts, (i : Int), pr, b, l) = some (.inr (.inl z))
  | .inr a => ∃ i' pr' b', qAz (qEc N) M (ts, (i : Int), pr, b, l) = some (.inl (ts, i', pr', b', a))
 | 0, M, l, i, _, _, hi, _, h, _ => by omega
 | n + 1, 0, l, i, _, _, hi, _, _, h => by omega
 | n + 1, M + 1, l, i, pr, b, hi, hll, hn, hM => by
  have e1 : qAz (qEc N) (M + 1) (ts, (i : Int), pr, b, l) = (if (tkAt ts i).1 = 5 then some (.inl (ts, (i : Int), pr, b, l)) else
    match qRc ts l i with
    | .inl z => some (.inr (.inl z))
    | .inr a => qAz (qEc N) M (ts, (a.1 : Int), a.2.2.2.1, a.2.2.2.2, l ++ [a.2])) := by
   simp only [qAz, qEc, qLq hi, j0, zMh hok hl hN ht hll hi]
   by_cases k1 : (tkAt ts i).1 = 5
   ·rw [if_neg (show ¬ ((tkAt ts i).1 != 5) = true by simpa using k1), if_pos k1]; rfl
   ·rw [if_pos (show ((tkAt ts i).1 != 5) = true by simpa using k1), if_neg k1]
    cases hd : qRc ts l i with
    | inl z => rfl
    | inr a =>
     obtain ⟨g1, g2, g3⟩ := qTs hok hi hd
     simp only [jX]
     rw [qCh (by simp only [jC, jD]; omega) (by omega)]
     rfl
  rw [e1]
  simp only [qSt]
  by_cases k1 : (tkAt ts i).1 = 5
  ·simp only [if_pos k1]; exact ⟨_, _, _, rfl⟩
  ·simp only [if_neg k1]
   cases hd : qRc ts l i with
   | inl z => rfl
   | inr a =>
    obtain ⟨g1, g2, g3⟩ := qTs hok hi hd
    exact qYx hok hl hN ht n M (l ++ [a.2]) a.1 _ _ g2 (by simp only [jL, jC, jD]; omega) (by omega) (by omega)
theorem zMs (hok : OkT ts) (hl : ts.length < 1000000) (hN : 1000001 < N) (ht : ∀ j, (tkAt ts j).2.1.size < 100000) :
  match qZx ts with
  | .inl z => qIb N (ts, 0, pr, b) = some (.inl z)
  | .inr f => ∃ i' pr' b', qIb N (ts, 0, pr, b) = some (.inr ((ts, i', pr', b'), f)) := by
 have h0 : 0 < ts.length := gM.2 hok.1
 simp only [qIb, qZx]
 rw [show (0 : Int) = ((0 : Nat) : Int) from rfl]
 simp only [zDi h0 hl, j0, qTx]
 cases h1 : qUc ts ⟨#[112, 97, 99, 107, 97, 103, 101]⟩ 0 with
 | inl z => rfl
 | inr i =>
  obtain ⟨rfl, g1, -⟩ := qSf hok h0 h1
  simp only [jX, qCc, zAe g1 hl, j0]
  cases h2 : qMv ts (0 + 1) with
  | inl z => rfl
  | inr x =>
   obtain ⟨rfl, g2, -⟩ := qLt hok g1 h2
   simp only [jX, qNz g2 hl, j0, qTy]
   cases h3 : qEr ts ⟨#[59]⟩ (0 + 1 + 1) with
   | inl z => rfl
   | inr j =>
    obtain ⟨rfl, g3, -⟩ := qEs hok g2 h3
    simp only [jX, qVm hok hl (by omega : 1000000 < N) (ts.length + 1) N [] (0 + 1 + 1 + 1) g3 (by simp) (by omega) (by omega), j0]
    cases h4 : qKt ts (tkAt ts (0 + 1)).2.1 (ts.length + 1) [] (0 + 1 + 1 + 1) with
    | inl z => rfl
    | inr y =>
     obtain ⟨k1, k2, k3⟩ := qPc hok _ _ _ y g3 (by simp) h4
     have hd := qYx (N := N) hok hl hN ht (ts.length + 1) N [] y.1 pr b k2 (by simp) (by omega) (by omega)
     simp only []
     cases h5 : qSt ts (ts.length + 1) [] y.1 with
     | inl z =>
      rw [h5] at hd
      simp only [hd, j0]
     | inr l =>
      rw [h5] at hd
      obtain ⟨i', pr', b', hd⟩ := hd
      refine ⟨i', pr', b', ?_⟩
      simp only [hd, j0]
end
theorem zFj {s : ByteArray} : ∀ (l : List Tok) (e : Int), 0 ≤ e → zNo s e l → ∀ i, i < l.length → ((tkAt l i).1 = 5 ↔ i + 1 = l.length) ∧ ((tkAt l i).2.1.size : Int) ≤ s.size ∧ 0 ≤ (tkAt l i).2.2.2
 | [], _, _, _, i, hi => by simp at hi
 | t :: r, e, he, h, i, hi => by
  obtain ⟨h1, h2, h3, h4, h5⟩ := h
  have hend : 0 ≤ endT t := by unfold endT; split <;> omega
  cases i with
  | zero =>
   refine ⟨?_, ?_, ?_⟩
   ·show t.1 = 5 ↔ 0 + 1 = r.length + 1
    rw [h3, ← fC]; omega
   ·show ((t.2.1.size : Nat) : Int) ≤ s.size
    omega
   ·show 0 ≤ t.2.2.2
    omega
  | succ i =>
   have := zFj r _ hend h5 i (by simpa using hi)
   have e : tkAt (t :: r) (i + 1) = tkAt r i := by simp [tkAt]
   rw [e, jC]
   exact ⟨⟨fun h => by have := this.1.1 h; omega, fun h => this.1.2 (by omega)⟩, this.2⟩
theorem qUr {s : ByteArray} (h : (qHk s).2.2 = 0) : OkT (qHk s).1 ∧ (qHk s).1.length ≤ 16385 ∧ ∀ j, (tkAt (qHk s).1 j).2.1.size < 100000 := by
 unfold qHk at h ⊢
 split at h
 ·simp at h
 rename_i hs
 rw [if_neg hs]
 cases hG : tokG (s.data.toList.length + 1) s 0 with
 | inl x =>
  obtain ⟨_, _, h3⟩ := qZy _ 0 x (by omega) (by omega) hG
  rw [hG] at h
  exact absurd h h3
 | inr r =>
  obtain ⟨g1, g2, g3⟩ := qUw _ 0 0 r (by omega) (by omega) (by omega) hG
  simp only [zAy, kD]
  have hc := zFj r 0 (by omega) g1
  refine ⟨⟨g2, fun i hi => (hc i hi).1⟩, by omega, fun j => ?_⟩
  rcases fA j r.length with hj | hj
  ·have := (hc j hj).2.1
   have hs2 := qCi s
   omega
  ·have e : tkAt r j = (5, ⟨#[]⟩, 0, 0) := by simp [tkAt, kJ, List.getElem?_eq_none hj]
   rw [e]; decide
theorem zLh {N : Nat} (s : ByteArray) (hN : 1000001 < N) : qNr N s = some (qJy s) := by
 simp only [qNr, zHy (N := N) (by omega), j0, qJy]
 by_cases h : (qHk s).2.2 = 0
 ·rw [if_neg (show ¬ ((qHk s).2.2 != 0) = true by simpa using h), if_neg (show ¬ (qHk s).2.2 ≠ 0 by simpa using h)]
  obtain ⟨h1, h2, h3⟩ := qUr h
  have hf := zMs (N := N) (pr := []) (b := []) h1 (by omega) hN h3
  cases hF : qZx (qHk s).1 with
  | inl z =>
   rw [hF] at hf
   simp only [hf, j0]; rfl
  | inr f =>
   rw [hF] at hf
   obtain ⟨i', pr', b', hf⟩ := hf
   simp only [hf, j0]
 ·rw [if_pos (show ((qHk s).2.2 != 0) = true by simpa using h), if_pos h]; rfl
end
section
open Go Go.Dc
abbrev RT := List Tok × Int × Int × Int × List ByteArray × List Ex × List Int
def gR (ts : List Tok) (pr : List ByteArray) (p : Ps) : RT := (ts, (p.1 : Int), 0, 0, pr, p.2, [])
def bR (ts : List Tok) (z : Flt) (i : Nat) (pr : List ByteArray) (b : List Ex) : RT := (ts, (i : Int), z.1, z.2, pr, b, [])
section
variable {N : Nat} {ts : List Tok} {pr : List ByteArray} {b : List Ex} {i : Nat} {z : Flt}
theorem rnow {st : Int × Int × List ByteArray × List Ex × List Int} (hi : i < ts.length) : qAk N (ts, (i : Int), st.1, st.2.1, st.2.2.1, st.2.2.2.1, st.2.2.2.2) = some ((ts, (i : Int), st.1, st.2.1, st.2.2.1, st.2.2.2.1, st.2.2.2.2), tkAt ts i) := by
 simp only [qAk, zLw hi, j0]
theorem qJq (p : Ps) (hi : p.1 < ts.length) : qAk N (gR ts pr p) = some (gR ts pr p, tkAt ts p.1) := rnow (st := (0, 0, pr, p.2, [])) hi
theorem qPg (hi : i < ts.length) : qAk N (bR ts z i pr b) = some (bR ts z i pr b, tkAt ts i) := rnow (st := (z.1, z.2, pr, b, [])) hi
theorem qLw (p : Ps) (hi : p.1 < ts.length) (hl : ts.length < 1000000) (s : ByteArray) : qBk N (gR ts pr p) s = some (if isC ts 1 s p.1 then (gR ts pr (p.1 + 1, p.2), true) else (gR ts pr p, false)) := by
 have h0 : qAk N (ts, (p.1 : Int), 0, 0, pr, p.2, []) = some ((ts, (p.1 : Int), 0, 0, pr, p.2, []), tkAt ts p.1) := qJq p hi
 simp only [qBk, gR, h0, j0, qDz, isC, gB, jH]
 by_cases h1 : (tkAt ts p.1).1 = 1 <;> by_cases h2 : (tkAt ts p.1).2.1 = s <;> simp [h1, h2, qKu (show p.1 < 1000000 by omega)]
theorem zDx (hz : z.2 ≠ 0) (s : ByteArray) : qBk N (bR ts z i pr b) s = some (bR ts z i pr b, false) := by
 simp [qBk, bR, hz]
theorem qKo (p : Ps) (hi : p.1 < ts.length) (hl : ts.length < 1000000) (s : ByteArray) : qBl N (gR ts pr p) s = some (if isC ts 4 s p.1 then (gR ts pr (p.1 + 1, p.2), true) else (gR ts pr p, false)) := by
 have h0 : qAk N (ts, (p.1 : Int), 0, 0, pr, p.2, []) = some ((ts, (p.1 : Int), 0, 0, pr, p.2, []), tkAt ts p.1) := qJq p hi
 simp only [qBl, gR, h0, j0, qDz, isC, gB, jH]
 by_cases h1 : (tkAt ts p.1).1 = 4 <;> by_cases h2 : (tkAt ts p.1).2.1 = s <;> simp [h1, h2, qKu (show p.1 < 1000000 by omega)]
theorem zAf (hz : z.2 ≠ 0) (s : ByteArray) : qBl N (bR ts z i pr b) s = some (bR ts z i pr b, false) := by
 simp [qBl, bR, hz]
theorem qKb (p : Ps) (a e : Int) : qAl N (gR ts pr p) a e = some (bR ts (a, e) p.1 pr p.2) := by
 simp [qAl, gR, bR]
theorem qNd (hz : z.2 ≠ 0) (a e : Int) : qAl N (bR ts z i pr b) a e = some (bR ts z i pr b) := by
 simp [qAl, bR, hz]
theorem qNf (p : Ps) (hi : p.1 < ts.length) (hl : ts.length < 1000000) (s : ByteArray) : qAh N (gR ts pr p) s = some (match qEr ts s p.1 with | .inl z => bR ts z p.1 pr p.2 | .inr j => gR ts pr (j, p.2)) := by
 have h1 := qKo (N := N) (pr := pr) p hi hl s
 have h2 := qJq (N := N) (pr := pr) p hi
 have h3 := qKb (N := N) (ts := ts) (pr := pr) p (tkAt ts p.1).2.2.2 9
 simp only [gR] at h1 h2 h3
 simp only [qAh, gR, h1, j0, qEr]
 rcases qDt (isC ts 4 s p.1) with h | h
 ·simp only [h, jH, k7, jB, jE]
 ·simp only [h, jH, jU, jB, jE, h2, j0, h3, qGi]
theorem qMk (hz : z.2 ≠ 0) (hi : i < ts.length) (s : ByteArray) : qAh N (bR ts z i pr b) s = some (bR ts z i pr b) := by
 have h1 := zAf (N := N) (ts := ts) (i := i) (pr := pr) (b := b) hz s
 have h2 := qPg (N := N) (ts := ts) (i := i) (pr := pr) (b := b) (z := z) hi
 have h3 := qNd (N := N) (ts := ts) (i := i) (pr := pr) (b := b) hz (tkAt ts i).2.2.2 9
 simp only [bR] at h1 h2 h3
 simp only [qAh, bR, h1, j0, jU, jH, h2, h3]
theorem zBy {s : ByteArray} : ∀ (d k M : Nat), k + d = wordsR.length → d < M → qAz (qDu N s) M (k : Int) = some (if s ∈ wordsR.drop k then .inr true else .inl ())
 | d, k, 0, _, h => by omega
 | 0, k, M + 1, h, _ => by
  have : wordsR.drop k = [] := jN (by omega)
  simp only [qAz, qDu, this]
  rw [if_neg (by simp only [jA]; have : wordsR.length = 13 := rfl; simp only [jC, jD]; omega)]
  rfl
 | d + 1, k, M + 1, h, hM => by
  have hk : k < wordsR.length := by omega
  have ih := zBy (s := s) d (k + 1) M (by omega) (by omega)
  simp only [qAz]
  have e : qDu N s (k : Int) = some (if s = wordsR[k] then .inr (.inr true) else .inl (((k + 1 : Nat) : Int))) := by
   have h13 : wordsR.length = 13 := rfl
   have hx : idx ([(⟨#[112, 97, 99, 107, 97, 103, 101]⟩ : ByteArray), (⟨#[105, 109, 112, 111, 114, 116]⟩ : ByteArray), (⟨#[102, 117, 110, 99]⟩ : ByteArray), (⟨#[116, 101, 115, 116]⟩ : ByteArray), (⟨#[103, 101, 110]⟩ : ByteArray), (⟨#[105, 102]⟩ : ByteArray), (⟨#[116, 104, 101, 110]⟩ : ByteArray), (⟨#[101, 108, 115, 101]⟩ : ByteArray), (⟨#[114, 101, 97, 100]⟩ : ByteArray), (⟨#[115, 105, 122, 101]⟩ : ByteArray), (⟨#[104, 97, 115]⟩ : ByteArray), (⟨#[101, 110, 118]⟩ : ByteArray), (⟨#[102, 108, 105, 112]⟩ : ByteArray)]) (k : Int) = some wordsR[k] := qFt (l := wordsR) hk
   simp only [qDu]
   rw [if_pos (by simp only [jA, jC, jD]; omega), hx]
   simp only [j0, qDz, jA, qKu (show k < 1000000 by omega)]
   split <;> rfl
  rw [e, jI hk]
  simp only [j0, jO]
  by_cases hs : s = wordsR[k]
  ·rw [if_pos hs, if_pos (.inl hs)]
  ·rw [if_neg hs]
   simp only [ih]
   by_cases h2 : s ∈ wordsR.drop (k + 1)
   ·rw [if_pos h2, if_pos (.inr h2)]
   ·rw [if_neg h2, if_neg (fun h => h.elim hs h2)]
theorem rres (hN : 100 < N) (s : ByteArray) : qHa N s = some (resC s) := by
 have h := zBy (N := N) (s := s) 13 0 N rfl (by omega)
 simp only [jZ] at h
 simp only [qHa]
 rw [show (0 : Int) = ((0 : Nat) : Int) from rfl, h]
 simp only [resC, j0]
 by_cases h2 : s ∈ wordsR
 ·rw [if_pos h2, jM h2]
 ·rw [if_neg h2, jQ h2]
theorem qUv (p : Ps) (hi : p.1 < ts.length) (hl : ts.length < 1000000) (hN : 100 < N) : qBg N (gR ts pr p) = some (match qMv ts p.1 with | .inl z => (bR ts z p.1 pr p.2, ⟨#[]⟩) | .inr a => (gR ts pr (a.1, p.2), a.2.2.1)) := by
 have h2 := qJq (N := N) (pr := pr) p hi
 have h3 := qKb (N := N) (ts := ts) (pr := pr) p (tkAt ts p.1).2.2.2 9
 simp only [gR] at h2 h3
 simp only [qBg, gR, h2, j0, rres hN, qMv, qMz, fG, jB, jE]
 by_cases k1 : (tkAt ts p.1).1 = 1
 ·have k1' : ((tkAt ts p.1).1 != 1) = false := by simp [k1]
  simp only [k1', jB, jE, j0, if_pos k1, qCc]
  rcases qDt (resC (tkAt ts p.1).2.1) with k2 | k2
  ·simp only [k2, jH, h3, j0, qGi]
  ·simp only [k2, jB, jE, qKu (show p.1 < 1000000 by omega)]
 ·have k1' : ((tkAt ts p.1).1 != 1) = true := by simp [k1]
  simp only [k1', jH, j0, if_neg k1, qCc, h3, qGi]
theorem qZo (hz : z.2 ≠ 0) (hi : i < ts.length) : qBg N (bR ts z i pr b) = some (bR ts z i pr b, ⟨#[]⟩) := by
 have h2 := qPg (N := N) (ts := ts) (i := i) (pr := pr) (b := b) (z := z) hi
 have h3 := qNd (N := N) (ts := ts) (i := i) (pr := pr) (b := b) hz (tkAt ts i).2.2.2 9
 have hz' : (z.2 != 0) = true := by simpa using hz
 simp only [bR] at h2 h3
 simp only [qBg, bR, h2, j0, hz', jH, h3]
theorem qWd (p : Ps) (hi : p.1 < ts.length) (hl : ts.length < 1000000) : qCq N (gR ts pr p) = some (match qMz ts 2 p.1 with | .inl z => (bR ts z p.1 pr p.2, 0) | .inr a => (gR ts pr (a.1, p.2), a.2.2.2.1)) := by
 have h2 := qJq (N := N) (pr := pr) p hi
 have h3 := qKb (N := N) (ts := ts) (pr := pr) p (tkAt ts p.1).2.2.2 9
 simp only [gR] at h2 h3
 simp only [qCq, gR, h2, j0, qMz, fG, jB, jE]
 by_cases k1 : (tkAt ts p.1).1 = 2
 ·have k1' : ((tkAt ts p.1).1 != 2) = false := by simp [k1]
  simp only [k1', jB, jE, if_pos k1, qKu (show p.1 < 1000000 by omega)]
 ·have k1' : ((tkAt ts p.1).1 != 2) = true := by simp [k1]
  simp only [k1', jH, if_neg k1, h3, j0, qGi]
theorem zHj (hz : z.2 ≠ 0) (hi : i < ts.length) : qCq N (bR ts z i pr b) = some (bR ts z i pr b, 0) := by
 have h2 := qPg (N := N) (ts := ts) (i := i) (pr := pr) (b := b) (z := z) hi
 have h3 := qNd (N := N) (ts := ts) (i := i) (pr := pr) (b := b) hz (tkAt ts i).2.2.2 9
 have hz' : (z.2 != 0) = true := by simpa using hz
 simp only [bR] at h2 h3
 simp only [qCq, bR, h2, j0, hz', jH, h3]
theorem zJz (t : Tok) (x : Ex) (p : Ps) (hb : p.2.length ≤ 256) : ∃ v, qAo N (gR ts pr p) x t.2.2.2 = some (match qLm t x p with | .inl z => (bR ts z p.1 pr p.2, v) | .inr q => (gR ts pr q.1, (q.2 : Int))) := by
 refine ⟨IntKind.wrap .i64 ((p.2.length : Int) - 1), ?_⟩
 have h3 := qKb (N := N) (ts := ts) (pr := pr) p t.2.2.2 2
 simp only [gR] at h3
 simp only [qAo, gR, gB, jH, j0, qLm]
 by_cases k1 : p.2.length = 256
 ·have k1' : ((p.2.length : Int) == 256) = true := by simp; omega
  simp only [k1', jH, h3, j0, bR]
  simp [k1, qGi]
 ·have k1' : ((p.2.length : Int) == 256) = false := by simp; omega
  have hw : IntKind.wrap .i64 (((p.2.length + 1 : Nat) : Int) - 1) = (p.2.length : Int) := by rw [wi64 (by omega) (by omega)]; omega
  simp only [k1', jB, jE, j0, if_neg k1, gB, jH]
  rw [qCh (by simp only [jC, jD]; omega) (by omega)]
  simp only [j0, jL, jC, jD, gC, hw]
theorem zIp (hz : z.2 ≠ 0) (x : Ex) (a : Int) : ∃ v, qAo N (bR ts z i pr b) x a = some (bR ts z i pr b, v) := by
 refine ⟨IntKind.wrap .i64 ((b.length : Int) - 1), ?_⟩
 have hz' : (z.2 == 0) = false := by simpa using hz
 simp only [qAo, bR, hz', jB, jE, j0]
end
end
section
open Go Go.Dc
section
variable {N : Nat} {ts : List Tok} {pr : List ByteArray} {b : List Ex} {i : Nat} {z : Flt}
theorem zDn (p : Ps) (hi : p.1 < ts.length) (hl : ts.length < 1000000) (hN : 100 < N) (pth : Bool) : qBu N (gR ts pr p) pth = some (match (if pth = true then qOs ts p.1 else qVi ts p.1) with | .inl z => (bR ts z p.1 pr p.2, ⟨#[]⟩) | .inr a => (gR ts pr (a.1, p.2), a.2.2.1)) := by
 have h2 := qJq (N := N) (pr := pr) p hi
 have h3 := qKb (N := N) (ts := ts) (pr := pr) p (tkAt ts p.1).2.2.2 9
 simp only [gR] at h2 h3
 simp only [qBu, gR, h2, j0, qUk hN, zGy hN, qOs, qVi, qMz, fG, jB, jE]
 by_cases k1 : (tkAt ts p.1).1 = 3
 ·have k1' : ((tkAt ts p.1).1 != 3) = false := by simp [k1]
  simp only [k1', jB, jE, j0, if_pos k1, qCc]
  cases pth with
  | true =>
   simp only [jH, k7, jB, jE]
   rcases qDt (qKx (tkAt ts p.1).2.1.data.toList) with k2 | k2
   ·simp only [k2, k7, jB, jE, j0, jH, qKu (show p.1 < 1000000 by omega)]
   ·simp only [k2, jU, jB, jE, j0, jH, h3, qGi]
  | false =>
   simp only [jH, jU, jB, jE]
   rcases qDt (qUj (tkAt ts p.1).2.1) with k2 | k2
   ·simp only [k2, k7, jB, jE, j0, jH, qKu (show p.1 < 1000000 by omega)]
   ·simp only [k2, jU, jB, jE, j0, jH, h3, qGi]
 ·have k1' : ((tkAt ts p.1).1 != 3) = true := by simp [k1]
  simp only [k1', jH, j0, if_neg k1, qCc, h3, qGi]
  cases pth <;> rfl
theorem zDs (hz : z.2 ≠ 0) (hi : i < ts.length) (pth : Bool) : qBu N (bR ts z i pr b) pth = some (bR ts z i pr b, ⟨#[]⟩) := by
 have h2 := qPg (N := N) (ts := ts) (i := i) (pr := pr) (b := b) (z := z) hi
 have h3 := qNd (N := N) (ts := ts) (i := i) (pr := pr) (b := b) hz (tkAt ts i).2.2.2 9
 have hz' : (z.2 != 0) = true := by simpa using hz
 simp only [bR] at h2 h3
 simp only [qBu, bR, h2, j0, hz', jH, h3]
theorem zCq {s : ByteArray} {l : List ByteArray} (hl : l.length < 1000000) : ∀ (d i M : Nat), i + d = l.length → d < M →
  qAz (qGv N l s) M (i : Int) = some (if s ∈ l.drop i then .inr true else .inl ())
 | d, i, 0, _, h => by omega
 | 0, i, M + 1, h, _ => by
  have : l.drop i = [] := jN (by omega)
  simp only [qAz, qGv, this]
  rw [if_neg (by simp only [jA]; omega)]
  rfl
 | d + 1, i, M + 1, h, hM => by
  have hi : i < l.length := by omega
  have ih := zCq (s := s) hl d (i + 1) M (by omega) (by omega)
  simp only [qAz, qGv]
  rw [if_pos (by simp only [jA]; omega), qFt hi, jI hi]
  simp only [j0, qDz, jA, jO]
  by_cases hs : l[i] = s
  ·rw [if_pos hs, if_pos (.inl hs.symm)]; rfl
  ·rw [if_neg hs]
   simp only [j0, qKu (show i < 1000000 by omega), ih]
   by_cases h2 : s ∈ l.drop (i + 1)
   ·rw [if_pos h2, if_pos (.inr h2)]
   ·rw [if_neg h2, if_neg (fun h => h.elim (fun e => hs e.symm) h2)]
theorem rhas {s : ByteArray} {l : List ByteArray} (hl : l.length < 1000000) (hN : l.length < N) : qDf N l s = some (decide (s ∈ l)) := by
 have h := zCq (N := N) (s := s) hl l.length 0 N (by omega) hN
 simp only [jZ] at h
 simp only [qDf]
 rw [show (0 : Int) = ((0 : Nat) : Int) from rfl, h]
 simp only [j0]
 by_cases h2 : s ∈ l
 ·rw [if_pos h2, jM h2]
 ·rw [if_neg h2, jQ h2]
theorem andS (a b : Bool) : (if a = true then some b else some false) = some (a && b) := by cases a <;> rfl
theorem qWi {s : ByteArray} {k : Int} {f : Sr} (hl : f.2.2.length < 1000000) : ∀ (d i M : Nat), i + d = f.2.2.length → d < M →
  qAz (qFr N f k s) M (i : Int) = some (if (f.2.2.drop i).any (fun d => d.1 == k && decide (d.2.1 = s)) = true then .inr true else .inl ())
 | d, i, 0, _, h => by omega
 | 0, i, M + 1, h, _ => by
  have : f.2.2.drop i = [] := jN (by omega)
  simp only [qAz, qFr, this]
  rw [if_neg (by simp only [jA]; omega)]
  rfl
 | d + 1, i, M + 1, h, hM => by
  have hi : i < f.2.2.length := by omega
  have ih := qWi (s := s) (k := k) hl d (i + 1) M (by omega) (by omega)
  simp only [qAz, qFr]
  rw [if_pos (by simp only [jA]; omega), qFt hi, jI hi, List.any_cons]
  simp only [j0, qDz, qKu (show i < 1000000 by omega), andS]
  rcases qDt (f.2.2[i].1 == k && decide (f.2.2[i].2.1 = s)) with h1 | h1
  ·simp only [h1, jH, j0, Bool.true_or]
  ·simp only [h1, jB, jE, j0, ih, fL]
theorem rtaken {s : ByteArray} {k : Int} {f : Sr} (hl : f.2.2.length < 1000000) (hN : f.2.2.length < N) : qFc N f k s = some (f.2.2.any fun d => d.1 == k && decide (d.2.1 = s)) := by
 have h := qWi (N := N) (s := s) (k := k) hl f.2.2.length 0 N (by omega) hN
 simp only [jZ] at h
 simp only [qFc]
 rw [show (0 : Int) = ((0 : Nat) : Int) from rfl, h]
 simp only [j0]
 rcases qDt (f.2.2.any fun d => d.1 == k && decide (d.2.1 = s)) with h2 | h2
 ·rw [if_pos h2, h2]
 ·rw [if_neg (by rw [h2]; decide), h2]
theorem op_3 : opC ts 3 i = if isC ts 4 ⟨#[42]⟩ i = true then 3 else if isC ts 4 ⟨#[47]⟩ i = true then 4 else if isC ts 4 ⟨#[37]⟩ i = true then 5 else 0 := by
 unfold opC opsC
 simp only [List.find?, isOp, levP]
 rcases qDt (isC ts 4 ⟨#[42]⟩ i) with h1 | h1 <;> rcases qDt (isC ts 4 ⟨#[47]⟩ i) with h2 | h2 <;> rcases qDt (isC ts 4 ⟨#[37]⟩ i) with h3 | h3 <;> simp [h1, h2, h3]
theorem op_2 : opC ts 2 i = if isC ts 4 ⟨#[43]⟩ i = true then 1 else if isC ts 4 ⟨#[45]⟩ i = true then 2 else 0 := by
 unfold opC opsC
 simp only [List.find?, isOp, levP]
 rcases qDt (isC ts 4 ⟨#[43]⟩ i) with h1 | h1 <;> rcases qDt (isC ts 4 ⟨#[45]⟩ i) with h2 | h2 <;> simp [h1, h2]
theorem op_1 : opC ts 1 i = if isC ts 4 ⟨#[60]⟩ i = true then 6 else if isC ts 4 ⟨#[61, 61]⟩ i = true then 7 else 0 := by
 unfold opC opsC
 simp only [List.find?, isOp, levP]
 rcases qDt (isC ts 4 ⟨#[60]⟩ i) with h1 | h1 <;> rcases qDt (isC ts 4 ⟨#[61, 61]⟩ i) with h2 | h2 <;> simp [h1, h2]
theorem qUf {α : Type} {t : Tok} {e : Int} (he : e ≠ 0) (h : (qGi t e : Flt ⊕ α) = .inl z) : z.2 ≠ 0 := by
 obtain rfl := Sum.inl.inj h; exact he
theorem qLv {s : ByteArray} (h : qEr ts s i = .inl z) : z.2 ≠ 0 := by
 unfold qEr at h; split at h
 ·cases h
 ·exact qUf (by decide) h
theorem qWu {k : Int} (h : qMz ts k i = .inl z) : z.2 ≠ 0 := by
 unfold qMz at h; split at h
 ·cases h
 ·exact qUf (by decide) h
theorem zEe {α β : Type} {x : Flt ⊕ α} {f : α → Flt ⊕ β} (h : qCc x f = .inl z) : x = .inl z ∨ ∃ a, x = .inr a ∧ f a = .inl z := by
 cases x with
 | inl y => obtain rfl := Sum.inl.inj h; exact .inl rfl
 | inr a => exact .inr ⟨a, rfl, h⟩
theorem zAi (h : qMv ts i = .inl z) : z.2 ≠ 0 := by
 rcases zEe h with h | ⟨a, _, h⟩
 ·exact qWu h
 ·split at h
  ·exact qUf (by decide) h
  ·cases h
theorem zAu (h : qOs ts i = .inl z) : z.2 ≠ 0 := by
 rcases zEe h with h | ⟨a, _, h⟩
 ·exact qWu h
 ·split at h
  ·cases h
  ·exact qUf (by decide) h
theorem zLj (h : qVi ts i = .inl z) : z.2 ≠ 0 := by
 rcases zEe h with h | ⟨a, _, h⟩
 ·exact qWu h
 ·split at h
  ·cases h
  ·exact qUf (by decide) h
theorem zDk {t : Tok} {x : Ex} {p : Ps} (h : qLm t x p = .inl z) : z.2 ≠ 0 := by
 unfold qLm at h; split at h
 ·exact qUf (by decide) h
 ·cases h
end
end
section
open Go Go.Dc
def Bad (ts : List Tok) (z : Flt) (st : RT) : Prop := z.2 ≠ 0 ∧ ∃ (i : Nat) (pr : List ByteArray) (b : List Ex), i < ts.length ∧ st = bR ts z i pr b
def relR (ts : List Tok) (pr : List ByteArray) (r : PM Nat) (o : RT × Int) : Prop :=
 match r with
 | .inl z => Bad ts z o.1
 | .inr q => o = (gR ts pr q.1, (q.2 : Int))
section
variable {N : Nat} {ts : List Tok} {pr : List ByteArray} {E S : Ps → PM Nat} {d : Int}
variable {r1 r2 r3 r4 : RT → Int → Option (RT × Int)}
theorem qNe {z : Flt} {i : Nat} {pr' : List ByteArray} {b : List Ex} {v : Int} (hz : z.2 ≠ 0) (hi : i < ts.length) : relR ts pr (.inl z) (bR ts z i pr' b, v) := ⟨hz, i, pr', b, hi, rfl⟩
theorem qQu (t : Tok) (x : Ex) (p : Ps) (hp : p.1 < ts.length) (hb : p.2.length ≤ 256) : ∃ o, qAo N (gR ts pr p) x t.2.2.2 = some o ∧ relR ts pr (qLm t x p) o := by
 obtain ⟨v, h⟩ := zJz (N := N) (ts := ts) (pr := pr) t x p hb
 cases hn : qLm t x p with
 | inl z => rw [hn] at h; exact ⟨_, h, qNe (zDk hn) hp⟩
 | inr q => rw [hn] at h; exact ⟨_, h, rfl⟩
theorem qSg {z : Flt} {i : Nat} {pr' : List ByteArray} {b : List Ex} (hz : z.2 ≠ 0) (hi : i < ts.length) (x : Ex) (a : Int) : ∃ o, qAo N (bR ts z i pr' b) x a = some o ∧ relR ts pr (.inl z) o := by
 obtain ⟨v, h⟩ := zIp (N := N) (ts := ts) (pr := pr') (b := b) (i := i) hz x a
 exact ⟨_, h, qNe hz hi⟩
theorem qWk (t : Tok) (x : Ex) (p : Ps) (hok : OkT ts) (hl : ts.length < 1000000) (hp : p.1 < ts.length) (hb : p.2.length ≤ 256) : ∃ o,
  ((qAh N (gR ts pr p) (⟨#[41]⟩ : ByteArray)).bind fun y => qAo N y x t.2.2.2) = some o ∧ relR ts pr (qCc (qEr ts qIh p.1) fun i => qLm t x (i, p.2)) o := by
 have e := qNf (N := N) (pr := pr) p hp hl ⟨#[41]⟩
 simp only [e, j0, qIh]
 cases h : qEr ts ⟨#[41]⟩ p.1 with
 | inl z => exact qSg (qLv h) hp x _
 | inr j =>
  obtain ⟨rfl, g, -⟩ := qEs hok hp h
  exact qQu t x (p.1 + 1, p.2) g hb
theorem qOo {z : Flt} {i : Nat} {pr' : List ByteArray} {b : List Ex} (hz : z.2 ≠ 0) (hi : i < ts.length) (x : Ex) (a : Int) : ∃ o,
  ((qAh N (bR ts z i pr' b) (⟨#[41]⟩ : ByteArray)).bind fun y => qAo N y x a) = some o ∧ relR ts pr (.inl z) o := by
 simp only [qMk hz hi, j0]
 exact qSg hz hi x a
variable (hEg : ∀ p : Ps, p.1 < ts.length → p.2.length ≤ 256 → ∃ o, r4 (gR ts pr p) (IntKind.wrap .i64 (d + 1)) = some o ∧ relR ts pr (E p) o)
variable (hEb : ∀ (z : Flt) (i : Nat) (pr' : List ByteArray) (b : List Ex), z.2 ≠ 0 → i < ts.length → ∃ v, r4 (bR ts z i pr' b) (IntKind.wrap .i64 (d + 1)) = some (bR ts z i pr' b, v))
def zFa (ts : List Tok) (E : Ps → PM Nat) (n : Nat) (l : List Int) (p : Ps) : PM (List Int) :=
 if isC ts 4 qOb p.1 then zAq ts E n l (p.1 + 1, p.2) else qCc (qEr ts qIh p.1) fun i => .inr ((i, p.2), l)
theorem qVz (n : Nat) (l : List Int) (p : Ps) : zAq ts E (n + 1) l p = qCc (E p) fun q => zFa ts E n (l ++ [(q.2 : Int)]) q.1 := rfl
def relL (ts : List Tok) (pr : List ByteArray) (r : PM (List Int)) (o : List Int × RT) : Prop :=
 match r with
 | .inl z => Bad ts z o.2
 | .inr q => o = (q.2, gR ts pr q.1)
theorem qXq {z : Flt} {i : Nat} {pr' : List ByteArray} {b : List Ex} (hz : z.2 ≠ 0) (M : Nat) (l : List Int) : qAz (qCn N r4 d) (M + 1) (l, bR ts z i pr' b) = some (l, bR ts z i pr' b) := by
 have hz' : (z.2 == 0) = false := by simpa using hz
 simp only [qAz, qCn, bR, hz', jB, jE, j0]
include hEg hEb in
theorem qYe (hok : OkT ts) (hl : ts.length < 1000000) (hA : Adv ts E) : ∀ (n M : Nat) (l : List Int) (p : Ps), l ≠ [] → p.1 < ts.length → p.2.length ≤ 256 → l.length ≤ p.1 → ts.length < p.1 + n → ts.length + 2 < p.1 + M →
  ∃ o, qAz (qCn N r4 d) M (l, gR ts pr p) = some o ∧ relL ts pr (zFa ts E n l p) o
 | 0, M, l, p, _, hp, _, _, h, _ => by omega
 | n + 1, 0, l, p, _, hp, _, _, _, h => by omega
 | n + 1, M + 1, l, p, hne, hp, hb, hll, hn, hM => by
  have hs := qKo (N := N) (pr := pr) p hp hl ⟨#[41]⟩
  have hpos : decide ((l.length : Int) > 0) = true := by
   have := gM.2 hne
   exact jM (by omega)
  have g0 : ((gR ts pr p).2.2.2.1 == 0) = true := rfl
  simp only [qAz, qCn, Prod.eta, g0, jH, hs, j0]
  rcases qDt (isC ts 4 ⟨#[41]⟩ p.1) with c1 | c1
  ·simp only [c1, jH, k7, jB, jE]
   refine ⟨_, rfl, ?_⟩
   have c2 : isC ts 4 qOb p.1 = false := by
    simp only [isC, jP, jA] at c1
    simp [isC, c1.2, qOb]
   have c3 : qEr ts qIh p.1 = .inr (p.1 + 1) := by simp [qEr, qIh, c1]
   simp only [zFa, c2, jB, jE, c3, qCc]
   rfl
  ·simp only [c1, jB, jE, jU, jH, hpos, Prod.eta, qNf p hp hl, j0]
   have hcc : isC ts 4 qOb p.1 = isC ts 4 ⟨#[44]⟩ p.1 := rfl
   simp only [zFa, hcc, qEr]
   rcases qDt (isC ts 4 ⟨#[44]⟩ p.1) with c2 | c2
   ·have g := qEt hok hp (by decide) c2
    simp only [c2, jH]
    obtain ⟨o, ho, hr⟩ := hEg (p.1 + 1, p.2) g hb
    simp only [ho, j0]
    cases hE : E (p.1 + 1, p.2) with
    | inl z =>
     rw [hE] at hr
     obtain ⟨hz, i, pr', b, hi, ho1⟩ := hr
     rw [qCh (by simp only [jC, jD]; omega) (by omega)]
     simp only [j0, ho1]
     cases M with
     | zero => omega
     | succ M =>
      refine ⟨_, qXq hz M _, ?_⟩
      rw [qVz, hE]
      exact ⟨hz, i, pr', b, hi, rfl⟩
    | inr q =>
     rw [hE] at hr
     obtain ⟨⟨f1, f2, f3, f4⟩, f5⟩ := hA (p.1 + 1, p.2) q.1 q.2 g hb hE
     simp only at f1
     rw [qCh (by simp only [jC, jD]; omega) (by omega)]
     have hr' : o = (gR ts pr q.1, (q.2 : Int)) := hr
     simp only [j0, hr']
     rw [qVz, hE]
     exact qYe hok hl hA n M (l ++ [(q.2 : Int)]) q.1 (by simp) f2 f4 (by simp only [jL, jC, jD]; omega) (by omega) (by omega)
   ·simp only [c2, jB, jE]
    have c3 : isC ts 4 qIh p.1 = false := c1
    simp only [c3, jB, jE, qGi, qCc]
    obtain ⟨v, hv⟩ := hEb ((tkAt ts p.1).2.2.2, 9) p.1 pr p.2 (show (9 : Int) ≠ 0 by decide) hp
    simp only [hv, j0]
    rw [qCh (by simp only [jC, jD]; omega) (by omega)]
    simp only [j0]
    cases M with
    | zero => omega
    | succ M => exact ⟨_, qXq (z := ((tkAt ts p.1).2.2.2, 9)) (show (9 : Int) ≠ 0 by decide) M _, show (9 : Int) ≠ 0 by decide, p.1, pr, p.2, hp, rfl⟩
include hEg hEb in
theorem rargs (hok : OkT ts) (hl : ts.length < 1000000) (hN : 1000002 < N) (hA : Adv ts E) (p : Ps) (hp : p.1 < ts.length) (hb : p.2.length ≤ 256) :
  ∃ o, qAz (qCn N r4 d) N ([], gR ts pr p) = some o ∧ relL ts pr (if isC ts 4 qIh p.1 then .inr ((p.1 + 1, p.2), []) else zAq ts E (ts.length + 1) [] p) o := by
 obtain ⟨M, rfl⟩ : ∃ M, N = M + 1 := ⟨N - 1, by omega⟩
 have hs := qKo (N := M + 1) (pr := pr) p hp hl ⟨#[41]⟩
 have g0 : ((gR ts pr p).2.2.2.1 == 0) = true := rfl
 have hnil : decide ((([] : List Int).length : Int) > 0) = false := rfl
 simp only [qAz, qCn, Prod.eta, g0, jH, hs, j0, qIh]
 rcases qDt (isC ts 4 ⟨#[41]⟩ p.1) with c1 | c1
 ·simp only [c1, jH, k7, jB, jE]
  exact ⟨_, rfl, rfl⟩
 ·simp only [c1, jB, jE, jU, jH, hnil, Prod.eta, j0]
  obtain ⟨o, ho, hr⟩ := hEg p hp hb
  simp only [ho, j0]
  cases hE : E p with
  | inl z =>
   rw [hE] at hr
   obtain ⟨hz, i, pr', b, hi, ho1⟩ := hr
   rw [qCh (by simp) (by omega)]
   simp only [j0, ho1]
   cases M with
   | zero => omega
   | succ M =>
    refine ⟨_, qXq hz M _, ?_⟩
    rw [qVz, hE]
    exact ⟨hz, i, pr', b, hi, rfl⟩
  | inr q =>
   rw [hE] at hr
   obtain ⟨⟨f1, f2, f3, f4⟩, f5⟩ := hA p q.1 q.2 hp hb hE
   rw [qCh (by simp) (by omega)]
   have hr' : o = (gR ts pr q.1, (q.2 : Int)) := hr
   simp only [j0, hr']
   rw [qVz, hE]
   exact qYe hEg hEb hok hl hA ts.length M ([] ++ [(q.2 : Int)]) q.1 (by simp) f2 f4 (by simp only [jL, jC, jD]; omega) (by omega) (by omega)
end
end
section
open Go Go.Dc
section
variable {N : Nat} {ts : List Tok} {pr : List ByteArray} {E S : Ps → PM Nat} {d : Int}
variable {r1 r2 r3 r4 : RT → Int → Option (RT × Int)}
theorem zFk {y1 : RT × Tok} {y31 : RT × ByteArray} {p : Ps} (hpr : pr.length < 1000) : ∀ (k i M : Nat), i + k = pr.length → k < M →
  qAz (qCm N y1 y31 (gR ts pr p, false)) M (i : Int) = (match (pr.drop i).findIdx? (fun x => decide (x = y31.2)) with
   | some j => (qAo N (gR ts pr p) (2, ((i + j : Nat) : Int), 0, ⟨#[]⟩, []) y1.2.2.2.2).bind fun y => some (.inr y)
   | none => some (.inl ()))
 | k, i, 0, _, h => by omega
 | 0, i, M + 1, h, _ => by
  have : pr.drop i = [] := jN (by omega)
  have c : decide ((i : Int) < ((gR ts pr p).2.2.2.2.1.length : Int)) = false := jQ (by simp only [gR]; omega)
  simp only [qAz, qCm, this, List.findIdx?_nil, c, jB, jE, j0]
 | k + 1, i, M + 1, h, hM => by
  have hi : i < pr.length := by omega
  have ih := zFk (y1 := y1) (y31 := y31) (p := p) hpr k (i + 1) M (by omega) (by omega)
  have c : decide ((i : Int) < ((gR ts pr p).2.2.2.2.1.length : Int)) = true := jM (by simp only [gR]; omega)
  have x : idx (gR ts pr p).2.2.2.2.1 (i : Int) = some pr[i] := qFt hi
  have g0 : ((gR ts pr p).2.2.2.1 == 0) = true := rfl
  rw [jI hi, List.findIdx?_cons]
  simp only [qAz, qCm, g0, Prod.eta, c, x, jH, j0, qDz, jA]
  by_cases hs : pr[i] = y31.2
  ·simp only [if_pos hs, jH, j0, gU]
   cases qAo N (gR ts pr p) (2, (i : Int), 0, ⟨#[]⟩, []) y1.2.2.2.2 <;> rfl
  ·simp only [if_neg hs, j0, jB, jE, qKu (show i < 1000000 by omega), ih]
   cases (pr.drop (i + 1)).findIdx? (fun x => decide (x = y31.2)) with
   | none => rfl
   | some j => simp only [kC]; rw [show i + 1 + j = i + (j + 1) by omega]
theorem zAp {y1 : RT × Tok} {y31 : RT × ByteArray} {z : Flt} {j : Nat} {pr' : List ByteArray} {b : List Ex} (hz : z.2 ≠ 0) (hpr : pr'.length < 1000) : ∀ (k i M : Nat), i + k = pr'.length → k < M →
  qAz (qCm N y1 y31 (bR ts z j pr' b, false)) M (i : Int) = some (.inl ())
 | k, i, 0, _, h => by omega
 | 0, i, M + 1, h, _ => by
  have c : decide ((i : Int) < ((bR ts z j pr' b).2.2.2.2.1.length : Int)) = false := jQ (by simp only [bR]; omega)
  simp only [qAz, qCm, c, jB, jE, j0]
 | k + 1, i, M + 1, h, hM => by
  have hi : i < pr'.length := by omega
  have ih := zAp (y1 := y1) (y31 := y31) (j := j) (b := b) hz hpr k (i + 1) M (by omega) (by omega)
  have c : decide ((i : Int) < ((bR ts z j pr' b).2.2.2.2.1.length : Int)) = true := jM (by simp only [bR]; omega)
  have x : idx (bR ts z j pr' b).2.2.2.2.1 (i : Int) = some pr'[i] := qFt hi
  have g0 : ((bR ts z j pr' b).2.2.2.1 == 0) = false := by simpa [bR] using hz
  simp only [qAz, qCm, g0, Prod.eta, c, x, jH, j0, qDz, jA]
  have : ((if pr'[i] = y31.2 then some false else some false) : Option Bool) = some false := by split <;> rfl
  simp only [this, j0, jB, jE, qKu (show i < 1000000 by omega), ih]
variable (hEg : ∀ p : Ps, p.1 < ts.length → p.2.length ≤ 256 → ∃ o, r4 (gR ts pr p) (IntKind.wrap .i64 (d + 1)) = some o ∧ relR ts pr (E p) o)
variable (hEb : ∀ (z : Flt) (i : Nat) (pr' : List ByteArray) (b : List Ex), z.2 ≠ 0 → i < ts.length → ∃ v, r4 (bR ts z i pr' b) (IntKind.wrap .i64 (d + 1)) = some (bR ts z i pr' b, v))
include hEg hEb in
theorem zNe (hok : OkT ts) (hl : ts.length < 1000000) (hN : 100 < N) (hA : Adv ts E) (t : Tok) (p : Ps) (hp : p.1 < ts.length) (hb : p.2.length ≤ 256) : ∃ o,
  ((qAh N (gR ts pr p) (⟨#[40]⟩ : ByteArray)).bind fun y11 => (qBu N y11 true).bind fun y12 => (qAh N y12.1 (⟨#[44]⟩ : ByteArray)).bind fun y13 => (r4 y13 (IntKind.wrap .i64 (d + 1))).bind fun y14 => (qAh N y14.1 (⟨#[41]⟩ : ByteArray)).bind fun y15 => qAo N y15 (6, 0, 0, y12.2, [y14.2]) t.2.2.2) = some o ∧
  relR ts pr (qCc (qEr ts qQa p.1) fun i => qCc (qCc (qOs ts i) fun a => qCc (qEr ts qOb a.1) fun i => qCc (E (i, p.2)) fun q => (.inr (q.1, ((6, 0, 0, a.2.2.1, [(q.2 : Int)]) : Ex)) : Flt ⊕ (Ps × Ex))) fun q => qCc (qEr ts qIh q.1.1) fun i => qLm t q.2 (i, q.1.2)) o := by
 have bad : ∀ {z : Flt} {i : Nat} {pr' : List ByteArray} {b : List Ex} (x : ByteArray), z.2 ≠ 0 → i < ts.length → ∃ o, ((r4 (bR ts z i pr' b) (IntKind.wrap .i64 (d + 1))).bind fun y14 => (qAh N y14.1 (⟨#[41]⟩ : ByteArray)).bind fun y15 => qAo N y15 (6, 0, 0, x, [y14.2]) t.2.2.2) = some o ∧ relR ts pr (.inl z) o := by
  intro z i pr' b x hz hi
  obtain ⟨v, hv⟩ := hEb z i pr' b hz hi
  simp only [hv, j0]
  exact qOo hz hi _ _
 simp only [qNf p hp hl, j0, qQa]
 cases h1 : qEr ts ⟨#[40]⟩ p.1 with
 | inl z =>
  simp only [zDs (qLv h1) hp, qMk (qLv h1) hp, j0]
  exact bad _ (qLv h1) hp
 | inr i =>
  obtain ⟨rfl, g1, -⟩ := qEs hok hp h1
  simp only [zDn (p.1 + 1, p.2) g1 hl hN, j0, jH, qCc]
  cases h2 : qOs ts (p.1 + 1) with
  | inl z =>
   simp only [qMk (zAu h2) g1, j0]
   exact bad _ (zAu h2) g1
  | inr a =>
   obtain ⟨rfl, g2, -⟩ := qMd hok g1 h2
   simp only [qNf (p.1 + 1 + 1, p.2) g2 hl, j0, qOb]
   cases h3 : qEr ts ⟨#[44]⟩ (p.1 + 1 + 1) with
   | inl z => exact bad _ (qLv h3) g2
   | inr j =>
    obtain ⟨rfl, g3, -⟩ := qEs hok g2 h3
    obtain ⟨o, ho, hr⟩ := hEg (p.1 + 1 + 1 + 1, p.2) g3 hb
    simp only [ho, j0]
    cases h4 : E (p.1 + 1 + 1 + 1, p.2) with
    | inl z =>
     rw [h4] at hr
     obtain ⟨hz, i, pr', b, hi, ho1⟩ := hr
     simp only [ho1]
     exact qOo hz hi _ _
    | inr q =>
     rw [h4] at hr
     obtain ⟨⟨f1, f2, f3, f4⟩, f5⟩ := hA (p.1 + 1 + 1 + 1, p.2) q.1 q.2 g3 hb h4
     have hr' : o = (gR ts pr q.1, (q.2 : Int)) := hr
     simp only [hr']
     exact qWk t _ q.1 hok hl f2 f4
theorem zHv (hok : OkT ts) (hl : ts.length < 1000000) (hN : 100 < N) (k : Int) (pth : Bool) (t : Tok) (p : Ps) (hp : p.1 < ts.length) (hb : p.2.length ≤ 256) : ∃ o,
  ((qAh N (gR ts pr p) (⟨#[40]⟩ : ByteArray)).bind fun y20 => (qBu N y20 pth).bind fun y21 => (qAh N y21.1 (⟨#[41]⟩ : ByteArray)).bind fun y22 => qAo N y22 (k, 0, 0, y21.2, []) t.2.2.2) = some o ∧
  relR ts pr (qCc (qEr ts qQa p.1) fun i => qCc (qCc (if pth = true then qOs ts i else qVi ts i) fun a => (.inr ((a.1, p.2), ((k, 0, 0, a.2.2.1, []) : Ex)) : Flt ⊕ (Ps × Ex))) fun q => qCc (qEr ts qIh q.1.1) fun i => qLm t q.2 (i, q.1.2)) o := by
 simp only [qNf p hp hl, j0, qQa]
 cases h1 : qEr ts ⟨#[40]⟩ p.1 with
 | inl z =>
  simp only [zDs (qLv h1) hp, j0]
  exact qOo (qLv h1) hp _ _
 | inr i =>
  obtain ⟨rfl, g1, -⟩ := qEs hok hp h1
  simp only [zDn (p.1 + 1, p.2) g1 hl hN, j0, qCc]
  cases h2 : (if pth = true then qOs ts (p.1 + 1) else qVi ts (p.1 + 1)) with
  | inl z =>
   have hz : z.2 ≠ 0 := by
    split at h2
    ·exact zAu h2
    ·exact zLj h2
   exact qOo hz g1 _ _
  | inr a =>
   have g2 : a = (p.1 + 1 + 1, tkAt ts (p.1 + 1)) ∧ p.1 + 1 + 1 < ts.length := by
    split at h2
    ·obtain ⟨e, g2, -⟩ := qMd hok g1 h2; exact ⟨e, g2⟩
    ·obtain ⟨e, g2, -⟩ := zCb hok g1 h2; exact ⟨e, g2⟩
   obtain ⟨rfl, g2⟩ := g2
   exact qWk t _ (p.1 + 1 + 1, p.2) hok hl g2 hb
theorem zNj (hok : OkT ts) (hl : ts.length < 1000000) (t : Tok) (p : Ps) (hp : p.1 < ts.length) (hb : p.2.length ≤ 256) : ∃ o,
  ((qAh N (gR ts pr p) (⟨#[40]⟩ : ByteArray)).bind fun y25 => (qAk N y25).bind fun y26 => (qCq N y26.1).bind fun y27 => (if (decide (y27.2 ≥ 64)) = true then ((qAl N y27.1 y26.2.2.2.2 9).bind fun y28 => some y28) else (some y27.1) : Option RT).bind fun o3 => (qAh N o3 (⟨#[41]⟩ : ByteArray)).bind fun y29 => qAo N y29 (10, y27.2, 0, ⟨#[]⟩, []) t.2.2.2) = some o ∧
  relR ts pr (qCc (qEr ts qQa p.1) fun i => qCc (qCc (qMz ts 2 i) fun a => if a.2.2.2.1 ≥ 64 then qGi a.2 9 else (.inr ((a.1, p.2), ((10, a.2.2.2.1, 0, ⟨#[]⟩, []) : Ex)) : Flt ⊕ (Ps × Ex))) fun q => qCc (qEr ts qIh q.1.1) fun i => qLm t q.2 (i, q.1.2)) o := by
 have h64 : ¬ decide ((0 : Int) ≥ 64) = true := by decide
 simp only [qNf p hp hl, j0, qQa]
 cases h1 : qEr ts ⟨#[40]⟩ p.1 with
 | inl z =>
  simp only [qPg hp, zHj (qLv h1) hp, j0, if_neg h64]
  exact qOo (qLv h1) hp _ _
 | inr i =>
  obtain ⟨rfl, g1, -⟩ := qEs hok hp h1
  simp only [qJq (p.1 + 1, p.2) g1, qWd (p.1 + 1, p.2) g1 hl, j0, qCc]
  cases h2 : qMz ts 2 (p.1 + 1) with
  | inl z =>
   simp only [if_neg h64, j0]
   exact qOo (qWu h2) g1 _ _
  | inr a =>
   obtain ⟨rfl, g2, -⟩ := qOc hok (by decide) g1 h2
   by_cases k : (tkAt ts (p.1 + 1)).2.2.1 ≥ 64
   ·simp only [if_pos k, jA, jH, qKb, j0]
    exact qOo (show (9 : Int) ≠ 0 by decide) g2 _ _
   ·simp only [if_neg k, jA, j0]
    exact qWk t _ (p.1 + 1 + 1, p.2) hok hl g2 hb
end
end
section
open Go Go.Dc
section
variable {N : Nat} {ts : List Tok} {pr : List ByteArray} {E S : Ps → PM Nat} {d : Int}
variable {r1 r2 r3 r4 : RT → Int → Option (RT × Int)}
theorem zFh {s : ByteArray} {i : Nat} (h : (tkAt ts i).1 = 1) : isC ts 1 s i = decide ((tkAt ts i).2.1 = s) := by simp [isC, h]
theorem zLv {k : Int} {s : ByteArray} {i : Nat} (h : (tkAt ts i).1 ≠ k) : isC ts k s i = false := by simp [isC, h]
theorem obs {α : Type} (x : Option α) : (x.bind fun y => some y) = x := by cases x <;> rfl
theorem zIe {z : Flt} {i : Nat} {pr' : List ByteArray} {b : List Ex} (hz : z.2 ≠ 0) (hi : i < ts.length) : qDg N r1 r2 r3 r4 (bR ts z i pr' b) d = some (bR ts z i pr' b, 0) := by
 have g0 : ((bR ts z i pr' b).2.2.2.1 != 0) = true := by simpa [bR] using hz
 simp only [qDg, Prod.eta, qPg hi, j0, g0, jH]
variable (hEg : ∀ p : Ps, p.1 < ts.length → p.2.length ≤ 256 → ∃ o, r4 (gR ts pr p) (IntKind.wrap .i64 (d + 1)) = some o ∧ relR ts pr (E p) o)
variable (hEb : ∀ (z : Flt) (i : Nat) (pr' : List ByteArray) (b : List Ex), z.2 ≠ 0 → i < ts.length → ∃ v, r4 (bR ts z i pr' b) (IntKind.wrap .i64 (d + 1)) = some (bR ts z i pr' b, v))
include hEg hEb in
theorem zMu (hok : OkT ts) (hl : ts.length < 1000000) (hpr : pr.length < 1000) (hN : 1000002 < N) (hA : Adv ts E) (p : Ps) (hp : p.1 < ts.length) (hb : p.2.length ≤ 256) :
  ∃ o, qDg N r1 r2 r3 r4 (gR ts pr p) d = some o ∧ relR ts pr (qPr ts pr E p) o := by
 have g0 : ((gR ts pr p).2.2.2.1 != 0) = false := rfl
 simp only [qDg, Prod.eta, qJq p hp, j0, g0, jB, jE]
 unfold qPr
 dsimp only
 by_cases k1 : (tkAt ts p.1).1 = 2
 ·have k1' : ((tkAt ts p.1).1 == 2) = true := by simpa using k1
  have g := hok.next hp (show (tkAt ts p.1).1 ≠ 5 by rw [k1]; decide)
  rw [if_pos k1]
  simp only [k1', jH, qWd p hp hl, qMz, if_pos k1, j0]
  obtain ⟨o, ho, hr⟩ := qQu (N := N) (pr := pr) (tkAt ts p.1) (1, (tkAt ts p.1).2.2.1, 0, ⟨#[]⟩, []) (p.1 + 1, p.2) g hb
  simp only [ho, j0]
  exact ⟨_, rfl, hr⟩
 have k1' : ((tkAt ts p.1).1 == 2) = false := by simpa using k1
 rw [if_neg k1]
 simp only [k1', jB, jE, qKo p hp hl, j0]
 rcases qDt (isC ts 4 zJb p.1) with c1 | c1
 ·have c1' : isC ts 4 ⟨#[45]⟩ p.1 = true := c1
  have g := qEt hok hp (by decide) c1
  simp only [c1, c1', jH, qWd (p.1 + 1, p.2) g hl, j0]
  cases h : qMz ts 2 (p.1 + 1) with
  | inl z =>
   obtain ⟨o, ho, hr⟩ := qSg (N := N) (pr := pr) (pr' := pr) (b := p.2) (qWu h) g (1, IntKind.wrap .i64 (0 - 0), 0, ⟨#[]⟩, []) (tkAt ts p.1).2.2.2
   simp only [ho, j0]
   exact ⟨_, rfl, hr⟩
  | inr a =>
   obtain ⟨rfl, g2, -⟩ := qOc hok (by decide) g h
   obtain ⟨o, ho, hr⟩ := qQu (N := N) (pr := pr) (tkAt ts p.1) (1, IntKind.wrap .i64 (0 - (tkAt ts (p.1 + 1)).2.2.1), 0, ⟨#[]⟩, []) (p.1 + 1 + 1, p.2) g2 hb
   simp only [ho, j0, qCc]
   exact ⟨_, rfl, hr⟩
 have c1' : isC ts 4 ⟨#[45]⟩ p.1 = false := c1
 simp only [c1, c1', jB, jE, qKo p hp hl, j0]
 rcases qDt (isC ts 4 qQa p.1) with c2 | c2
 ·have c2' : isC ts 4 ⟨#[40]⟩ p.1 = true := c2
  have g := qEt hok hp (by decide) c2
  obtain ⟨o, ho, hr⟩ := hEg (p.1 + 1, p.2) g hb
  simp only [c2, c2', jH, ho, j0]
  cases h : E (p.1 + 1, p.2) with
  | inl z =>
   rw [h] at hr
   obtain ⟨hz, i, pr', b, hi, ho1⟩ := hr
   simp only [ho1, qMk hz hi, j0, qCc]
   exact ⟨_, rfl, qNe hz hi⟩
  | inr q =>
   rw [h] at hr
   obtain ⟨⟨f1, f2, f3, f4⟩, f5⟩ := hA (p.1 + 1, p.2) q.1 q.2 g hb h
   have hr' : o = (gR ts pr q.1, (q.2 : Int)) := hr
   simp only [hr', qNf q.1 f2 hl, j0, qCc, qIh]
   cases hj : qEr ts ⟨#[41]⟩ q.1.1 with
   | inl z => exact ⟨_, rfl, qNe (qLv hj) f2⟩
   | inr j => exact ⟨_, rfl, rfl⟩
 have c2' : isC ts 4 ⟨#[40]⟩ p.1 = false := c2
 simp only [c2, c2', jB, jE, qLw p hp hl, j0]
 by_cases k2 : (tkAt ts p.1).1 = 1
 rotate_left
 ·-- no name
  rw [if_pos k2]
  have n : ∀ s, isC ts 1 s p.1 = false := fun s => zLv k2
  have hname : qMv ts p.1 = .inl ((tkAt ts p.1).2.2.2, 9) := by simp [qMv, qMz, k2, qCc, qGi]
  simp only [n, jB, jE, qLw p hp hl, j0, qUv p hp hl (by omega : 100 < N), hname]
  have hz : (((tkAt ts p.1).2.2.2, (9 : Int)) : Flt).2 ≠ 0 := show (9 : Int) ≠ 0 by decide
  have hp0 := zAp (N := N) (ts := ts) (y1 := (gR ts pr p, tkAt ts p.1)) (y31 := (bR ts ((tkAt ts p.1).2.2.2, 9) p.1 pr p.2, (⟨#[]⟩ : ByteArray))) (j := p.1) (pr' := pr) (b := p.2) hz hpr pr.length 0 N (by omega) (by omega)
  rw [show ((0 : Nat) : Int) = 0 from rfl] at hp0
  simp only [zAf hz, j0, jU, jH, hp0, qNd hz]
  exact ⟨_, rfl, qNe hz hp⟩
 rw [if_neg (show ¬ (tkAt ts p.1).1 ≠ 1 by simpa using k2)]
 have g := hok.next hp (show (tkAt ts p.1).1 ≠ 5 by rw [k2]; decide)
 have n : ∀ s, isC ts 1 s p.1 = decide ((tkAt ts p.1).2.1 = s) := fun s => zFh k2
 simp only [n, qLw p hp hl, j0]
 by_cases w1 : (tkAt ts p.1).2.1 = qRg
 ·rw [if_pos (show (tkAt ts p.1).2.1 ∈ [qRg, qSc, sHas, sEnv, qSy] by rw [w1]; simp)]
  have w1' : decide ((tkAt ts p.1).2.1 = (⟨#[114, 101, 97, 100]⟩ : ByteArray)) = true := jM w1
  simp only [w1', jH]
  obtain ⟨o, ho, hr⟩ := zNe (N := N) hEg hEb hok hl (by omega) hA (tkAt ts p.1) (p.1 + 1, p.2) g hb
  refine ⟨o, Eq.trans ?_ ho, ?_⟩
  ·simp only [obs]
  ·simp only [qLs, if_pos w1]
   exact hr
 have w1' : decide ((tkAt ts p.1).2.1 = (⟨#[114, 101, 97, 100]⟩ : ByteArray)) = false := jQ w1
 simp only [w1', jB, jE, qLw p hp hl, j0, n]
 by_cases w2 : (tkAt ts p.1).2.1 = qSc
 ·rw [if_pos (show (tkAt ts p.1).2.1 ∈ [qRg, qSc, sHas, sEnv, qSy] by rw [w2]; simp)]
  have w2' : decide ((tkAt ts p.1).2.1 = (⟨#[115, 105, 122, 101]⟩ : ByteArray)) = true := jM w2
  have wx : ((tkAt ts p.1).2.1.toList == (⟨#[104, 97, 115]⟩ : ByteArray).toList) = false := by rw [qDz, w2]; decide
  have wy : ((tkAt ts p.1).2.1.toList == (⟨#[101, 110, 118]⟩ : ByteArray).toList) = false := by rw [qDz, w2]; decide
  simp only [w2', jH, j0, wx, wy, jB, jE]
  obtain ⟨o, ho, hr⟩ := zHv (N := N) (pr := pr) hok hl (by omega) 7 true (tkAt ts p.1) (p.1 + 1, p.2) g hb
  refine ⟨o, Eq.trans ?_ ho, ?_⟩
  ·simp only [obs]; rfl
  ·simp only [qLs, if_neg w1, if_pos w2]
   exact hr
 have w2' : decide ((tkAt ts p.1).2.1 = (⟨#[115, 105, 122, 101]⟩ : ByteArray)) = false := jQ w2
 simp only [w2', jB, jE, qLw p hp hl, j0, n]
 by_cases w3 : (tkAt ts p.1).2.1 = sHas
 ·rw [if_pos (show (tkAt ts p.1).2.1 ∈ [qRg, qSc, sHas, sEnv, qSy] by rw [w3]; simp)]
  have w3' : decide ((tkAt ts p.1).2.1 = (⟨#[104, 97, 115]⟩ : ByteArray)) = true := jM w3
  have wx : ((tkAt ts p.1).2.1.toList == (⟨#[104, 97, 115]⟩ : ByteArray).toList) = true := by rw [qDz, w3']
  simp only [w3', jH, j0, wx]
  obtain ⟨o, ho, hr⟩ := zHv (N := N) (pr := pr) hok hl (by omega) 8 true (tkAt ts p.1) (p.1 + 1, p.2) g hb
  refine ⟨o, Eq.trans ?_ ho, ?_⟩
  ·simp only [obs]; rfl
  ·simp only [qLs, if_neg w1, if_neg w2, if_pos w3]
   exact hr
 have w3' : decide ((tkAt ts p.1).2.1 = (⟨#[104, 97, 115]⟩ : ByteArray)) = false := jQ w3
 simp only [w3', jB, jE, qLw p hp hl, j0, n]
 by_cases w4 : (tkAt ts p.1).2.1 = sEnv
 ·rw [if_pos (show (tkAt ts p.1).2.1 ∈ [qRg, qSc, sHas, sEnv, qSy] by rw [w4]; simp)]
  have w4' : decide ((tkAt ts p.1).2.1 = (⟨#[101, 110, 118]⟩ : ByteArray)) = true := jM w4
  have wx : ((tkAt ts p.1).2.1.toList == (⟨#[104, 97, 115]⟩ : ByteArray).toList) = false := by rw [qDz, w4]; decide
  have wy : ((tkAt ts p.1).2.1.toList == (⟨#[101, 110, 118]⟩ : ByteArray).toList) = true := by rw [qDz, w4']
  simp only [w4', jH, j0, wx, wy, jB, jE]
  obtain ⟨o, ho, hr⟩ := zHv (N := N) (pr := pr) hok hl (by omega) 9 false (tkAt ts p.1) (p.1 + 1, p.2) g hb
  refine ⟨o, Eq.trans ?_ ho, ?_⟩
  ·simp only [obs]; rfl
  ·simp only [qLs, if_neg w1, if_neg w2, if_neg w3, if_pos w4]
   exact hr
 have w4' : decide ((tkAt ts p.1).2.1 = (⟨#[101, 110, 118]⟩ : ByteArray)) = false := jQ w4
 simp only [w4', jB, jE, qLw p hp hl, j0, n]
 by_cases w5 : (tkAt ts p.1).2.1 = qSy
 ·rw [if_pos (show (tkAt ts p.1).2.1 ∈ [qRg, qSc, sHas, sEnv, qSy] by rw [w5]; simp)]
  have w5' : decide ((tkAt ts p.1).2.1 = (⟨#[102, 108, 105, 112]⟩ : ByteArray)) = true := jM w5
  simp only [w5', jH]
  obtain ⟨o, ho, hr⟩ := zNj (N := N) (pr := pr) hok hl (tkAt ts p.1) (p.1 + 1, p.2) g hb
  refine ⟨o, Eq.trans ?_ ho, ?_⟩
  ·simp only [obs]
  ·simp only [qLs, if_neg w1, if_neg w2, if_neg w3, if_neg w4]
   exact hr
 have w5' : decide ((tkAt ts p.1).2.1 = (⟨#[102, 108, 105, 112]⟩ : ByteArray)) = false := jQ w5
 rw [if_neg (show ¬ (tkAt ts p.1).2.1 ∈ [qRg, qSc, sHas, sEnv, qSy] by simp [w1, w2, w3, w4, w5])]
 simp only [w5', jB, jE, qUv p hp hl (by omega : 100 < N), j0, qMv, qMz, if_pos k2, qCc]
 rcases qDt (resC (tkAt ts p.1).2.1) with c3 | c3
 ·simp only [c3, jH, qGi]
  have hz : (((tkAt ts p.1).2.2.2, (9 : Int)) : Flt).2 ≠ 0 := show (9 : Int) ≠ 0 by decide
  have hp0 := zAp (N := N) (ts := ts) (y1 := (gR ts pr p, tkAt ts p.1)) (y31 := (bR ts ((tkAt ts p.1).2.2.2, 9) p.1 pr p.2, (⟨#[]⟩ : ByteArray))) (j := p.1) (pr' := pr) (b := p.2) hz hpr pr.length 0 N (by omega) (by omega)
  rw [show ((0 : Nat) : Int) = 0 from rfl] at hp0
  simp only [zAf hz, j0, jU, jH, hp0, qNd hz]
  exact ⟨_, rfl, qNe hz hp⟩
 simp only [c3, jB, jE, qKo (p.1 + 1, p.2) g hl, j0]
 rcases qDt (isC ts 4 qQa (p.1 + 1)) with c4 | c4
 ·have c4' : isC ts 4 ⟨#[40]⟩ (p.1 + 1) = true := c4
  have g2 := qEt hok g (by decide) c4
  simp only [c4, c4', jH, k7, jB, jE]
  have hs : qEr ts qQa (p.1 + 1) = .inr (p.1 + 1 + 1) := by simp [qEr, c4]
  simp only [qMb, hs, qCc]
  obtain ⟨o, ho, hr⟩ := rargs (N := N) hEg hEb hok hl (by omega) hA (p.1 + 1 + 1, p.2) g2 hb
  simp only [ho, j0]
  cases ha : (if isC ts 4 qIh (p.1 + 1 + 1) = true then .inr ((p.1 + 1 + 1 + 1, p.2), []) else zAq ts E (ts.length + 1) [] (p.1 + 1 + 1, p.2) : PM (List Int)) with
  | inl z =>
   rw [ha] at hr
   obtain ⟨hz, i, pr', b, hi, ho1⟩ := hr
   simp only [ho1]
   obtain ⟨o2, ho2, hr2⟩ := qSg (N := N) (pr := pr) (pr' := pr') (b := b) hz hi (3, 0, 0, (tkAt ts p.1).2.1, o.1) (tkAt ts p.1).2.2.2
   simp only [ho2, j0]
   exact ⟨_, rfl, hr2⟩
  | inr q =>
   rw [ha] at hr
   have hr' : o = (q.2, gR ts pr q.1) := hr
   have hq : q.1.1 < ts.length ∧ q.1.2.length ≤ 256 := by
    split at ha
    ·rename_i hc
     obtain rfl := Sum.inr.inj ha
     exact ⟨qEt hok g2 (by decide) hc, hb⟩
    ·obtain ⟨f1, f2, f3, f4⟩ := qWw hok hA _ _ (p.1 + 1 + 1, p.2) q.1 q.2 g2 hb ha
     exact ⟨f2, f4⟩
   simp only [hr']
   obtain ⟨o2, ho2, hr2⟩ := qQu (N := N) (pr := pr) (tkAt ts p.1) (3, 0, 0, (tkAt ts p.1).2.1, q.2) q.1 hq.1 hq.2
   simp only [ho2, j0]
   exact ⟨_, rfl, hr2⟩
 have c4' : isC ts 4 ⟨#[40]⟩ (p.1 + 1) = false := c4
 simp only [c4, c4', jB, jE, jU, jH]
 have hp0 := zFk (N := N) (ts := ts) (pr := pr) (y1 := (gR ts pr p, tkAt ts p.1)) (y31 := (gR ts pr (p.1 + 1, p.2), (tkAt ts p.1).2.1)) (p := (p.1 + 1, p.2)) hpr pr.length 0 N (by omega) (by omega)
 rw [show ((0 : Nat) : Int) = 0 from rfl] at hp0
 simp only [hp0, jZ, gC]
 cases hi : pr.findIdx? (fun x => decide (x = (tkAt ts p.1).2.1)) with
 | none =>
  simp only [j0, qKb]
  exact ⟨_, rfl, qNe (show (9 : Int) ≠ 0 by decide) g⟩
 | some j =>
  obtain ⟨o2, ho2, hr2⟩ := qQu (N := N) (pr := pr) (tkAt ts p.1) (2, (j : Int), 0, ⟨#[]⟩, []) (p.1 + 1, p.2) g hb
  simp only [ho2, j0]
  exact ⟨_, rfl, hr2⟩
end
end
end Go.Proofs.YtiblcebedkllpaaGreatDoor
