/- No condition but those of each theorem. -/
import Derived.Test.YtiblcebedkllpaaGreatDoorProg
import Derived.WalkKit
import Derived.Deep.LoopGhost
import Derived.KernelRfl
import Derived.OrdersHeld
import Derived.OrdersIn
import Derived.LoopNIn
import Derived.Sort.LoopGhostIn
import Derived.Laws.AppendOwn
import Derived.RangeFuncLeaves
import Derived.RangeFuncRecord
import Derived.MapKept
import Derived.Maps.RangeRun
import Derived.ChangeKeysEq
import Derived.HandedShaped
import Derived.ChangeStays
import Derived.ChangeSame
import Derived.OpenShut
import Derived.WideShapes
import Derived.JoinedOf
import Derived.ReadAgain
import Derived.ChangeAt
import Derived.RowKit
import Derived.Lib.Overlaps
import Derived.WalkSmall
import Derived.Recover
import Derived.Lib.Bytealg
import Derived.Test.YtiblcebedkllpaaGreatDoorK5d1
namespace Go.Proofs.YtiblcebedkllpaaGreatDoor
section
open Go Go.Dc
section
variable {N : Nat} {ts : List Tok} {pr : List ByteArray} {E S : Ps → PM Nat} {d : Int}
variable {r r1 r2 r3 r4 : RT → Int → Option (RT × Int)}
theorem zIj {L i : Nat} (h : opC ts L i ≠ 0) : (tkAt ts i).1 = 4 := by
 apply Decidable.byContradiction
 intro hk
 apply h
 unfold opC
 have : opsC.find? (isOp ts L i) = none := by
  rw [List.find?_eq_none]
  intro o _ ho
  simp only [isOp, jP] at ho
  exact hk (qVx ho.1)
 rw [this]
theorem rmore {f : Int × RT → Option ((Int × RT) ⊕ (Int × RT))} {L : Nat} (hok : OkT ts) (hS : Adv ts S)
  (hSg : ∀ p : Ps, p.1 < ts.length → p.2.length ≤ 256 → ∃ o, r (gR ts pr p) d = some o ∧ relR ts pr (S p) o)
  (hSb : ∀ (z : Flt) (i : Nat) (pr' : List ByteArray) (b : List Ex), z.2 ≠ 0 → i < ts.length → ∃ v, r (bR ts z i pr' b) d = some (bR ts z i pr' b, v))
  (hfb : ∀ (z : Flt) (i : Nat) (pr' : List ByteArray) (b : List Ex) (v : Int), z.2 ≠ 0 → f (v, bR ts z i pr' b) = some (.inr (v, bR ts z i pr' b)))
  {n M x : Nat} {p : Ps} (hp : p.1 < ts.length) (hb : p.2.length ≤ 256) (hM : 0 < M) (hL : L ≠ 1) (hop : opC ts L p.1 ≠ 0)
  (ih : ∀ (x : Nat) (q : Ps), q.1 < ts.length → p.1 < q.1 → q.2.length ≤ 256 → x < q.2.length → ∃ o, qAz f M ((x : Int), gR ts pr q) = some o ∧ relR ts pr (qSo ts L S n x q) (o.2, o.1)) :
  ∃ o, ((r (gR ts pr (p.1 + 1, p.2)) d).bind fun y6 => (qAo N y6.1 (4, 0, opC ts L p.1, ⟨#[]⟩, [(x : Int), y6.2]) (tkAt ts p.1).2.2.2).bind fun y7 => qAz f M (y7.2, y7.1)) = some o ∧ relR ts pr (qSo ts L S (n + 1) x p) (o.2, o.1) := by
 have g := hok.next hp (show (tkAt ts p.1).1 ≠ 5 by rw [zIj hop]; decide)
 obtain ⟨o, ho, hr⟩ := hSg (p.1 + 1, p.2) g hb
 obtain ⟨M', rfl⟩ : ∃ M', M = M' + 1 := ⟨M - 1, by omega⟩
 have bad : ∀ (z : Flt) (i : Nat) (pr' : List ByteArray) (b : List Ex) (v : Int), z.2 ≠ 0 → qAz f (M' + 1) (v, bR ts z i pr' b) = some (v, bR ts z i pr' b) := by
  intro z i pr' b v hz
  simp only [qAz, hfb z i pr' b v hz, j0]
 simp only [ho, j0, qSo]
 rw [if_neg hop]
 cases h : S (p.1 + 1, p.2) with
 | inl z =>
  rw [h] at hr
  obtain ⟨hz, i, pr', b, hi, ho1⟩ := hr
  simp only [ho1, qCc]
  obtain ⟨v, hv⟩ := zIp (N := N) (ts := ts) (pr := pr') (b := b) (i := i) hz (4, 0, opC ts L p.1, ⟨#[]⟩, [(x : Int), o.2]) (tkAt ts p.1).2.2.2
  simp only [hv, j0, bad _ _ _ _ _ hz]
  exact ⟨_, rfl, qNe hz hi⟩
 | inr q =>
  rw [h] at hr
  obtain ⟨⟨f1, f2, f3, f4⟩, f5⟩ := hS (p.1 + 1, p.2) q.1 q.2 g hb h
  have hr' : o = (gR ts pr q.1, (q.2 : Int)) := hr
  simp only [hr', qCc]
  obtain ⟨v, hv⟩ := zJz (N := N) (ts := ts) (pr := pr) (tkAt ts p.1) (4, 0, opC ts L p.1, ⟨#[]⟩, [(x : Int), (q.2 : Int)]) q.1 f4
  simp only [hv, j0]
  cases hn : qLm (tkAt ts p.1) (4, 0, opC ts L p.1, ⟨#[]⟩, [(x : Int), (q.2 : Int)]) q.1 with
  | inl z =>
   simp only [bad _ _ _ _ _ (zDk hn)]
   exact ⟨_, rfl, qNe (zDk hn) f2⟩
  | inr s =>
   obtain ⟨⟨k1, k2, k3, k4⟩, k5⟩ := qOk (ts := ts) (p := p) (r := q.1) (by simp only at f1; omega) f2 f3 f4 hn
   simp only [if_neg hL]
   exact ih s.2 s.1 k2 k1 k4 k5
theorem rstop {L n x : Nat} {p : Ps} (hop : opC ts L p.1 = 0) : relR ts pr (qSo ts L S (n + 1) x p) (gR ts pr p, (x : Int)) := by
 simp only [qSo]
 rw [if_pos hop]
 rfl
theorem zAd (z : Flt) (i : Nat) (pr' : List ByteArray) (b : List Ex) (v : Int) (hz : z.2 ≠ 0) : qCf N r d (v, bR ts z i pr' b) = some (.inr (v, bR ts z i pr' b)) := by
 have g0 : ((bR ts z i pr' b).2.2.2.1 == 0) = false := by simpa [bR] using hz
 simp only [qCf, g0, jB, jE, Prod.eta]
theorem zEo (z : Flt) (i : Nat) (pr' : List ByteArray) (b : List Ex) (v : Int) (hz : z.2 ≠ 0) : qCo N r d (v, bR ts z i pr' b) = some (.inr (v, bR ts z i pr' b)) := by
 have g0 : ((bR ts z i pr' b).2.2.2.1 == 0) = false := by simpa [bR] using hz
 simp only [qCo, g0, jB, jE, Prod.eta]
theorem qYv (hok : OkT ts) (hl : ts.length < 1000000) (hS : Adv ts S)
  (hSg : ∀ p : Ps, p.1 < ts.length → p.2.length ≤ 256 → ∃ o, r (gR ts pr p) d = some o ∧ relR ts pr (S p) o)
  (hSb : ∀ (z : Flt) (i : Nat) (pr' : List ByteArray) (b : List Ex), z.2 ≠ 0 → i < ts.length → ∃ v, r (bR ts z i pr' b) d = some (bR ts z i pr' b, v)) :
  ∀ (n M x : Nat) (p : Ps), p.1 < ts.length → p.2.length ≤ 256 → x < p.2.length → ts.length < p.1 + n → ts.length + 1 < p.1 + M →
  ∃ o, qAz (qCf N r d) M ((x : Int), gR ts pr p) = some o ∧ relR ts pr (qSo ts 3 S n x p) (o.2, o.1)
 | 0, M, x, p, hp, _, _, h, _ => by omega
 | n + 1, 0, x, p, hp, _, _, _, h => by omega
 | n + 1, M + 1, x, p, hp, hb, hx, hn, hM => by
  have g0 : ((gR ts pr p).2.2.2.1 == 0) = true := rfl
  have ih : ∀ (x : Nat) (q : Ps), q.1 < ts.length → p.1 < q.1 → q.2.length ≤ 256 → x < q.2.length → ∃ o, qAz (qCf N r d) M ((x : Int), gR ts pr q) = some o ∧ relR ts pr (qSo ts 3 S n x q) (o.2, o.1) :=
   fun x q h1 h2 h3 h4 => qYv hok hl hS hSg hSb n M x q h1 h3 h4 (by omega) (by omega)
  have go := fun hop => rmore (N := N) (n := n) (x := x) hok hS hSg hSb (zAd (N := N) (r := r) (d := d)) hp hb (show 0 < M by omega) (show 3 ≠ 1 by decide) hop ih
  have h3 := op_3 (ts := ts) (i := p.1)
  rcases qDt (isC ts 4 ⟨#[42]⟩ p.1) with c1 | c1
  ·simp only [c1, jH] at h3
   obtain ⟨o, ho, hr⟩ := go (by rw [h3]; decide)
   refine ⟨o, Eq.trans ?_ ho, hr⟩
   simp only [qAz, qCf, Prod.eta, g0, jH, qJq p hp, qKo p hp hl, j0, c1, h3]
   cases r (gR ts pr (p.1 + 1, p.2)) d with
   | none => rfl
   | some y => simp only [j0]; cases qAo N y.1 (4, 0, 3, ⟨#[]⟩, [(x : Int), y.2]) (tkAt ts p.1).2.2.2 <;> rfl
  rcases qDt (isC ts 4 ⟨#[47]⟩ p.1) with c2 | c2
  ·simp only [c1, c2, jH, jB, jE] at h3
   obtain ⟨o, ho, hr⟩ := go (by rw [h3]; decide)
   refine ⟨o, Eq.trans ?_ ho, hr⟩
   simp only [qAz, qCf, Prod.eta, g0, jH, qJq p hp, qKo p hp hl, j0, c1, c2, h3, jB, jE]
   cases r (gR ts pr (p.1 + 1, p.2)) d with
   | none => rfl
   | some y => simp only [j0]; cases qAo N y.1 (4, 0, 4, ⟨#[]⟩, [(x : Int), y.2]) (tkAt ts p.1).2.2.2 <;> rfl
  rcases qDt (isC ts 4 ⟨#[37]⟩ p.1) with c3 | c3
  ·simp only [c1, c2, c3, jH, jB, jE] at h3
   obtain ⟨o, ho, hr⟩ := go (by rw [h3]; decide)
   refine ⟨o, Eq.trans ?_ ho, hr⟩
   simp only [qAz, qCf, Prod.eta, g0, jH, qJq p hp, qKo p hp hl, j0, c1, c2, c3, h3, jB, jE]
   cases r (gR ts pr (p.1 + 1, p.2)) d with
   | none => rfl
   | some y => simp only [j0]; cases qAo N y.1 (4, 0, 5, ⟨#[]⟩, [(x : Int), y.2]) (tkAt ts p.1).2.2.2 <;> rfl
  simp only [c1, c2, c3, jB, jE] at h3
  simp only [qAz, qCf, Prod.eta, g0, jH, qJq p hp, qKo p hp hl, j0, c1, c2, c3, jB, jE]
  exact ⟨_, rfl, rstop h3⟩
theorem zBk (hok : OkT ts) (hl : ts.length < 1000000) (hS : Adv ts S)
  (hSg : ∀ p : Ps, p.1 < ts.length → p.2.length ≤ 256 → ∃ o, r (gR ts pr p) d = some o ∧ relR ts pr (S p) o)
  (hSb : ∀ (z : Flt) (i : Nat) (pr' : List ByteArray) (b : List Ex), z.2 ≠ 0 → i < ts.length → ∃ v, r (bR ts z i pr' b) d = some (bR ts z i pr' b, v)) :
  ∀ (n M x : Nat) (p : Ps), p.1 < ts.length → p.2.length ≤ 256 → x < p.2.length → ts.length < p.1 + n → ts.length + 1 < p.1 + M →
  ∃ o, qAz (qCo N r d) M ((x : Int), gR ts pr p) = some o ∧ relR ts pr (qSo ts 2 S n x p) (o.2, o.1)
 | 0, M, x, p, hp, _, _, h, _ => by omega
 | n + 1, 0, x, p, hp, _, _, _, h => by omega
 | n + 1, M + 1, x, p, hp, hb, hx, hn, hM => by
  have g0 : ((gR ts pr p).2.2.2.1 == 0) = true := rfl
  have ih : ∀ (x : Nat) (q : Ps), q.1 < ts.length → p.1 < q.1 → q.2.length ≤ 256 → x < q.2.length → ∃ o, qAz (qCo N r d) M ((x : Int), gR ts pr q) = some o ∧ relR ts pr (qSo ts 2 S n x q) (o.2, o.1) :=
   fun x q h1 h2 h3 h4 => zBk hok hl hS hSg hSb n M x q h1 h3 h4 (by omega) (by omega)
  have go := fun hop => rmore (N := N) (n := n) (x := x) hok hS hSg hSb (zEo (N := N) (r := r) (d := d)) hp hb (show 0 < M by omega) (show 2 ≠ 1 by decide) hop ih
  have h3 := op_2 (ts := ts) (i := p.1)
  rcases qDt (isC ts 4 ⟨#[43]⟩ p.1) with c1 | c1
  ·simp only [c1, jH] at h3
   obtain ⟨o, ho, hr⟩ := go (by rw [h3]; decide)
   refine ⟨o, Eq.trans ?_ ho, hr⟩
   simp only [qAz, qCo, Prod.eta, g0, jH, qJq p hp, qKo p hp hl, j0, c1, h3]
   cases r (gR ts pr (p.1 + 1, p.2)) d with
   | none => rfl
   | some y => simp only [j0]; cases qAo N y.1 (4, 0, 1, ⟨#[]⟩, [(x : Int), y.2]) (tkAt ts p.1).2.2.2 <;> rfl
  rcases qDt (isC ts 4 ⟨#[45]⟩ p.1) with c2 | c2
  ·simp only [c1, c2, jH, jB, jE] at h3
   obtain ⟨o, ho, hr⟩ := go (by rw [h3]; decide)
   refine ⟨o, Eq.trans ?_ ho, hr⟩
   simp only [qAz, qCo, Prod.eta, g0, jH, qJq p hp, qKo p hp hl, j0, c1, c2, h3, jB, jE]
   cases r (gR ts pr (p.1 + 1, p.2)) d with
   | none => rfl
   | some y => simp only [j0]; cases qAo N y.1 (4, 0, 2, ⟨#[]⟩, [(x : Int), y.2]) (tkAt ts p.1).2.2.2 <;> rfl
  simp only [c1, c2, jB, jE] at h3
  simp only [qAz, qCo, Prod.eta, g0, jH, qJq p hp, qKo p hp hl, j0, c1, c2, jB, jE]
  exact ⟨_, rfl, rstop h3⟩
theorem rterm (hok : OkT ts) (hl : ts.length < 1000000) (hN : 1000002 < N) (hS : Adv ts S)
  (h1 : ∀ p : Ps, p.1 < ts.length → p.2.length ≤ 256 → ∃ o, r1 (gR ts pr p) d = some o ∧ relR ts pr (S p) o)
  (h1b : ∀ (z : Flt) (i : Nat) (pr' : List ByteArray) (b : List Ex), z.2 ≠ 0 → i < ts.length → ∃ v, r1 (bR ts z i pr' b) d = some (bR ts z i pr' b, v))
  (p : Ps) (hp : p.1 < ts.length) (hb : p.2.length ≤ 256) : ∃ o, qDm N r1 r2 r3 r4 (gR ts pr p) d = some o ∧ relR ts pr (qSa ts 3 S p) o := by
 obtain ⟨o, ho, hr⟩ := h1 p hp hb
 simp only [qDm, Prod.eta, ho, j0, qSa]
 cases h : S p with
 | inl z =>
  rw [h] at hr
  obtain ⟨hz, i, pr', b, hi, ho1⟩ := hr
  obtain ⟨M, rfl⟩ : ∃ M, N = M + 1 := ⟨N - 1, by omega⟩
  simp only [ho1, qCc, qAz, zAd z i pr' b _ hz, j0]
  exact ⟨_, rfl, qNe hz hi⟩
 | inr q =>
  rw [h] at hr
  obtain ⟨⟨f1, f2, f3, f4⟩, f5⟩ := hS p q.1 q.2 hp hb h
  have hr' : o = (gR ts pr q.1, (q.2 : Int)) := hr
  obtain ⟨o2, ho2, hr2⟩ := qYv (N := N) hok hl hS h1 h1b (ts.length + 1) N q.2 q.1 f2 f4 f5 (by omega) (by omega)
  simp only [hr', qCc, ho2, j0]
  exact ⟨_, rfl, hr2⟩
theorem zMk (h1b : ∀ (z : Flt) (i : Nat) (pr' : List ByteArray) (b : List Ex), z.2 ≠ 0 → i < ts.length → ∃ v, r1 (bR ts z i pr' b) d = some (bR ts z i pr' b, v)) (hN : 0 < N)
  (z : Flt) (i : Nat) (pr' : List ByteArray) (b : List Ex) (hz : z.2 ≠ 0) (hi : i < ts.length) : ∃ v, qDm N r1 r2 r3 r4 (bR ts z i pr' b) d = some (bR ts z i pr' b, v) := by
 obtain ⟨v, hv⟩ := h1b z i pr' b hz hi
 obtain ⟨M, rfl⟩ : ∃ M, N = M + 1 := ⟨N - 1, by omega⟩
 simp only [qDm, Prod.eta, hv, j0, qAz, zAd z i pr' b _ hz]
 exact ⟨_, rfl⟩
theorem rsum (hok : OkT ts) (hl : ts.length < 1000000) (hN : 1000002 < N) (hS : Adv ts S)
  (h2 : ∀ p : Ps, p.1 < ts.length → p.2.length ≤ 256 → ∃ o, r2 (gR ts pr p) d = some o ∧ relR ts pr (S p) o)
  (h2b : ∀ (z : Flt) (i : Nat) (pr' : List ByteArray) (b : List Ex), z.2 ≠ 0 → i < ts.length → ∃ v, r2 (bR ts z i pr' b) d = some (bR ts z i pr' b, v))
  (p : Ps) (hp : p.1 < ts.length) (hb : p.2.length ≤ 256) : ∃ o, qDq N r1 r2 r3 r4 (gR ts pr p) d = some o ∧ relR ts pr (qSa ts 2 S p) o := by
 obtain ⟨o, ho, hr⟩ := h2 p hp hb
 simp only [qDq, Prod.eta, ho, j0, qSa]
 cases h : S p with
 | inl z =>
  rw [h] at hr
  obtain ⟨hz, i, pr', b, hi, ho1⟩ := hr
  obtain ⟨M, rfl⟩ : ∃ M, N = M + 1 := ⟨N - 1, by omega⟩
  simp only [ho1, qCc, qAz, zEo z i pr' b _ hz, j0]
  exact ⟨_, rfl, qNe hz hi⟩
 | inr q =>
  rw [h] at hr
  obtain ⟨⟨f1, f2, f3, f4⟩, f5⟩ := hS p q.1 q.2 hp hb h
  have hr' : o = (gR ts pr q.1, (q.2 : Int)) := hr
  obtain ⟨o2, ho2, hr2⟩ := zBk (N := N) hok hl hS h2 h2b (ts.length + 1) N q.2 q.1 f2 f4 f5 (by omega) (by omega)
  simp only [hr', qCc, ho2, j0]
  exact ⟨_, rfl, hr2⟩
theorem rsum_b (h2b : ∀ (z : Flt) (i : Nat) (pr' : List ByteArray) (b : List Ex), z.2 ≠ 0 → i < ts.length → ∃ v, r2 (bR ts z i pr' b) d = some (bR ts z i pr' b, v)) (hN : 0 < N)
  (z : Flt) (i : Nat) (pr' : List ByteArray) (b : List Ex) (hz : z.2 ≠ 0) (hi : i < ts.length) : ∃ v, qDq N r1 r2 r3 r4 (bR ts z i pr' b) d = some (bR ts z i pr' b, v) := by
 obtain ⟨v, hv⟩ := h2b z i pr' b hz hi
 obtain ⟨M, rfl⟩ : ∃ M, N = M + 1 := ⟨N - 1, by omega⟩
 simp only [qDq, Prod.eta, hv, j0, qAz, zEo z i pr' b _ hz]
 exact ⟨_, rfl⟩
theorem zNk (z : Flt) (i : Nat) (pr' : List ByteArray) (b : List Ex) (hz : z.2 ≠ 0) (hi : i < ts.length) : qCx N r1 r2 r3 r4 (bR ts z i pr' b) d = some (bR ts z i pr' b, 0) := by
 have g0 : ((bR ts z i pr' b).2.2.2.1 != 0) = true := by simpa [bR] using hz
 simp only [qCx, Prod.eta, qPg hi, j0, qNd hz]
 have : ((if decide (d > 32) = true then some (bR ts z i pr' b) else some (bR ts z i pr' b)) : Option RT) = some (bR ts z i pr' b) := by split <;> rfl
 simp only [this, j0, g0, jH]
theorem zMy (hd : d > 32) (p : Ps) (hp : p.1 < ts.length) : ∃ o, qCx N r1 r2 r3 r4 (gR ts pr p) d = some o ∧ relR ts pr (qGw ts pr 0 p) o := by
 have hd' : decide (d > 32) = true := by simpa using hd
 simp only [qCx, Prod.eta, qJq p hp, j0, hd', jH, qKb]
 have g0 : ((bR ts ((tkAt ts p.1).2.2.2, 2) p.1 pr p.2).2.2.2.1 != 0) = true := by rfl
 simp only [g0, jH]
 exact ⟨_, rfl, qNe (show (2 : Int) ≠ 0 by decide) hp⟩
theorem rexpr {k : Nat} (hok : OkT ts) (hl : ts.length < 1000000) (hd : d + k = 32) (hA : Adv ts (qGw ts pr k)) (hS : Adv ts (sumC ts pr (qGw ts pr k)))
  (hEg : ∀ p : Ps, p.1 < ts.length → p.2.length ≤ 256 → ∃ o, r4 (gR ts pr p) (IntKind.wrap .i64 (d + 1)) = some o ∧ relR ts pr (qGw ts pr k p) o)
  (hEb : ∀ (z : Flt) (i : Nat) (pr' : List ByteArray) (b : List Ex), z.2 ≠ 0 → i < ts.length → ∃ v, r4 (bR ts z i pr' b) (IntKind.wrap .i64 (d + 1)) = some (bR ts z i pr' b, v))
  (h3 : ∀ p : Ps, p.1 < ts.length → p.2.length ≤ 256 → ∃ o, r3 (gR ts pr p) d = some o ∧ relR ts pr (sumC ts pr (qGw ts pr k) p) o)
  (h3b : ∀ (z : Flt) (i : Nat) (pr' : List ByteArray) (b : List Ex), z.2 ≠ 0 → i < ts.length → ∃ v, r3 (bR ts z i pr' b) d = some (bR ts z i pr' b, v))
  (p : Ps) (hp : p.1 < ts.length) (hb : p.2.length ≤ 256) : ∃ o, qCx N r1 r2 r3 r4 (gR ts pr p) d = some o ∧ relR ts pr (qGw ts pr (k + 1) p) o := by
 have hd' : decide (d > 32) = false := jQ (by omega)
 have g0 : ((gR ts pr p).2.2.2.1 != 0) = false := rfl
 simp only [qCx, Prod.eta, qJq p hp, j0, hd', jB, jE, g0, qLw p hp hl, qGw]
 rcases qDt (isC ts 1 sIf p.1) with c1 | c1
 rotate_left
 ·have c1' : isC ts 1 ⟨#[105, 102]⟩ p.1 = false := c1
  simp only [c1, c1', jB, jE]
  obtain ⟨o, ho, hr⟩ := h3 p hp hb
  simp only [ho, j0, qTv, qSa]
  cases h : sumC ts pr (qGw ts pr k) p with
  | inl z =>
   rw [h] at hr
   obtain ⟨hz, i, pr', b, hi, ho1⟩ := hr
   simp only [ho1, qPg hi, zAf hz, j0, jB, jE, qCc]
   exact ⟨_, rfl, qNe hz hi⟩
  | inr q =>
   rw [h] at hr
   obtain ⟨⟨f1, f2, f3, f4⟩, f5⟩ := hS p q.1 q.2 hp hb h
   have hr' : o = (gR ts pr q.1, (q.2 : Int)) := hr
   simp only [hr', qJq q.1 f2, qKo q.1 f2 hl, j0, qCc, qSo]
   have go : ∀ op, op ≠ 0 → opC ts 1 q.1.1 = op → ∃ o, ((r3 (gR ts pr (q.1.1 + 1, q.1.2)) d).bind fun y18 => (qAo N y18.1 (4, 0, op, ⟨#[]⟩, [(q.2 : Int), y18.2]) (tkAt ts q.1.1).2.2.2).bind fun y19 => some y19) = some o ∧
     relR ts pr (if opC ts 1 q.1.1 = 0 then .inr (q.1, q.2) else qCc (sumC ts pr (qGw ts pr k) (q.1.1 + 1, q.1.2)) fun a => qCc (qLm (tkAt ts q.1.1) (4, 0, opC ts 1 q.1.1, ⟨#[]⟩, [(q.2 : Int), (a.2 : Int)]) a.1) fun r => .inr r) o := by
    intro op hne hop
    have g := hok.next f2 (show (tkAt ts q.1.1).1 ≠ 5 by rw [zIj (L := 1) (by rw [hop]; exact hne)]; decide)
    obtain ⟨o2, ho2, hr2⟩ := h3 (q.1.1 + 1, q.1.2) g f4
    rw [hop, if_neg hne]
    simp only [ho2, j0, obs]
    cases h2 : sumC ts pr (qGw ts pr k) (q.1.1 + 1, q.1.2) with
    | inl z =>
     rw [h2] at hr2
     obtain ⟨hz, i, pr', b, hi, ho1⟩ := hr2
     simp only [ho1, qCc]
     exact qSg hz hi _ _
    | inr a =>
     rw [h2] at hr2
     obtain ⟨⟨j1, j2, j3, j4⟩, j5⟩ := hS (q.1.1 + 1, q.1.2) a.1 a.2 g f4 h2
     have hr2' : o2 = (gR ts pr a.1, (a.2 : Int)) := hr2
     simp only [hr2', qCc]
     obtain ⟨o3, ho3, hr3⟩ := qQu (N := N) (pr := pr) (tkAt ts q.1.1) (4, 0, op, ⟨#[]⟩, [(q.2 : Int), (a.2 : Int)]) a.1 j2 j4
     refine ⟨o3, ho3, ?_⟩
     cases hn : qLm (tkAt ts q.1.1) (4, 0, op, ⟨#[]⟩, [(q.2 : Int), (a.2 : Int)]) a.1 <;> rw [hn] at hr3 <;> exact hr3
   have h1 := op_1 (ts := ts) (i := q.1.1)
   rcases qDt (isC ts 4 ⟨#[60]⟩ q.1.1) with c2 | c2
   ·simp only [c2, jH] at h1
    obtain ⟨o4, ho4, hr4⟩ := go 6 (by decide) h1
    simp only [c2, jH, j0]
    exact ⟨o4, ho4, by simpa only [qCc] using hr4⟩
   rcases qDt (isC ts 4 ⟨#[61, 61]⟩ q.1.1) with c3 | c3
   ·simp only [c2, c3, jH, jB, jE] at h1
    obtain ⟨o4, ho4, hr4⟩ := go 7 (by decide) h1
    simp only [c2, c3, jH, j0, jB, jE, qKo q.1 f2 hl]
    exact ⟨o4, ho4, by simpa only [qCc] using hr4⟩
   ·simp only [c2, c3, jB, jE] at h1
    simp only [c2, c3, j0, jB, jE, qKo q.1 f2 hl]
    rw [if_pos h1]
    exact ⟨_, rfl, rfl⟩
 have c1' : isC ts 1 ⟨#[105, 102]⟩ p.1 = true := c1
 have g := qEt hok hp (by decide) c1
 simp only [c1, c1', jH]
 -- behind an error
 have badN : ∀ {z : Flt} {i : Nat} {pr' : List ByteArray} {b : List Ex} (x y w : Int), z.2 ≠ 0 → i < ts.length → ∃ o, ((qAo N (bR ts z i pr' b) (5, 0, 0, ⟨#[]⟩, [x, y, w]) (tkAt ts p.1).2.2.2).bind fun y13 => some y13) = some o ∧ relR ts pr (.inl z) o := by
  intro z i pr' b x y w hz hi
  simp only [obs]
  exact qSg hz hi _ _
 have nf : ∀ b : Bool, (if (!b) = true then (0 : Nat) else 1) = if b = true then 1 else 0 := by intro b; cases b <;> rfl
 obtain ⟨oa, hoa, hra⟩ := hEg (p.1 + 1, p.2) g hb
 simp only [hoa, j0]
 cases ha : qGw ts pr k (p.1 + 1, p.2) with
 | inl z =>
  rw [ha] at hra
  obtain ⟨hz, i, pr', b, hi, ho1⟩ := hra
  obtain ⟨v, hv⟩ := hEb z i pr' b hz hi
  simp only [ho1, zDx hz, j0, jU, jH, qPg hi, qNd hz, hv, qCc]
  exact badN _ _ _ hz hi
 | inr a =>
  rw [ha] at hra
  obtain ⟨⟨a1, a2, a3, a4⟩, a5⟩ := hA (p.1 + 1, p.2) a.1 a.2 g hb ha
  have hra' : oa = (gR ts pr a.1, (a.2 : Int)) := hra
  have hth : qUc ts zHs a.1.1 = if isC ts 1 ⟨#[116, 104, 101, 110]⟩ a.1.1 = true then .inr (a.1.1 + 1) else qGi (tkAt ts a.1.1) 9 := rfl
  simp only [hra', qLw a.1 a2 hl, j0, qCc, hth]
  rcases qDt (isC ts 1 ⟨#[116, 104, 101, 110]⟩ a.1.1) with c2 | c2
  rotate_left
  ·have hz : (((tkAt ts a.1.1).2.2.2, (9 : Int)) : Flt).2 ≠ 0 := show (9 : Int) ≠ 0 by decide
   obtain ⟨v, hv⟩ := hEb ((tkAt ts a.1.1).2.2.2, 9) a.1.1 pr a.1.2 hz a2
   simp only [c2, jB, jE, jU, jH, qJq a.1 a2, qKb, j0, hv, zDx hz, qPg a2, qNd hz, qGi]
   exact badN _ _ _ hz a2
  have g1 := qEt hok a2 (by decide) c2
  obtain ⟨ob, hob, hrb⟩ := hEg (a.1.1 + 1, a.1.2) g1 a4
  simp only [c2, jH, k7, jB, jE, j0, hob]
  cases hb1 : qGw ts pr k (a.1.1 + 1, a.1.2) with
  | inl z =>
   rw [hb1] at hrb
   obtain ⟨hz, i, pr', b, hi, ho1⟩ := hrb
   obtain ⟨v, hv⟩ := hEb z i pr' b hz hi
   simp only [ho1, zDx hz, j0, jU, jH, qPg hi, qNd hz, hv]
   exact badN _ _ _ hz hi
  | inr b =>
   rw [hb1] at hrb
   obtain ⟨⟨b1, b2, b3, b4⟩, b5⟩ := hA (a.1.1 + 1, a.1.2) b.1 b.2 g1 a4 hb1
   have hrb' : ob = (gR ts pr b.1, (b.2 : Int)) := hrb
   have hel : qUc ts zHg b.1.1 = if isC ts 1 ⟨#[101, 108, 115, 101]⟩ b.1.1 = true then .inr (b.1.1 + 1) else qGi (tkAt ts b.1.1) 9 := rfl
   simp only [hrb', qLw b.1 b2 hl, j0, hel]
   rcases qDt (isC ts 1 ⟨#[101, 108, 115, 101]⟩ b.1.1) with c3 | c3
   rotate_left
   ·have hz : (((tkAt ts b.1.1).2.2.2, (9 : Int)) : Flt).2 ≠ 0 := show (9 : Int) ≠ 0 by decide
    obtain ⟨v, hv⟩ := hEb ((tkAt ts b.1.1).2.2.2, 9) b.1.1 pr b.1.2 hz b2
    simp only [c3, jB, jE, jU, jH, qJq b.1 b2, qKb, j0, hv, qGi]
    exact badN _ _ _ hz b2
   have g2 := qEt hok b2 (by decide) c3
   obtain ⟨oc, hoc, hrc⟩ := hEg (b.1.1 + 1, b.1.2) g2 b4
   simp only [c3, jH, k7, jB, jE, j0, hoc]
   cases hc1 : qGw ts pr k (b.1.1 + 1, b.1.2) with
   | inl z =>
    rw [hc1] at hrc
    obtain ⟨hz, i, pr', b', hi, ho1⟩ := hrc
    simp only [ho1]
    exact badN _ _ _ hz hi
   | inr c =>
    rw [hc1] at hrc
    obtain ⟨⟨c1, c2, c3, c4⟩, c5⟩ := hA (b.1.1 + 1, b.1.2) c.1 c.2 g2 b4 hc1
    have hrc' : oc = (gR ts pr c.1, (c.2 : Int)) := hrc
    simp only [hrc', obs]
    exact qQu (N := N) (pr := pr) (tkAt ts p.1) (5, 0, 0, ⟨#[]⟩, [(a.2 : Int), (b.2 : Int), (c.2 : Int)]) c.1 c2 c4
end
end
section
open Go Go.Dc
section
variable {N : Nat} {ts : List Tok} {pr : List ByteArray}
theorem zAj (D : Nat) (hD : 1 ≤ D) (d : Int) (z : Flt) (i : Nat) (pr' : List ByteArray) (b : List Ex) (hz : z.2 ≠ 0) (hi : i < ts.length) : ∃ v, (qAe N D).2.2.2 (bR ts z i pr' b) d = some (bR ts z i pr' b, v) := by
 obtain ⟨D', rfl⟩ : ∃ D', D = D' + 1 := ⟨D - 1, by omega⟩
 simp only [qAe]
 exact ⟨_, zNk z i pr' b hz hi⟩
theorem qZj (D : Nat) (hD : 1 ≤ D) (d : Int) (z : Flt) (i : Nat) (pr' : List ByteArray) (b : List Ex) (hz : z.2 ≠ 0) (hi : i < ts.length) : ∃ v, (qAe N D).1 (bR ts z i pr' b) d = some (bR ts z i pr' b, v) := by
 obtain ⟨D', rfl⟩ : ∃ D', D = D' + 1 := ⟨D - 1, by omega⟩
 simp only [qAe]
 exact ⟨_, zIe hz hi⟩
theorem zFq (hN : 0 < N) (D : Nat) (hD : 2 ≤ D) (d : Int) (z : Flt) (i : Nat) (pr' : List ByteArray) (b : List Ex) (hz : z.2 ≠ 0) (hi : i < ts.length) : ∃ v, (qAe N D).2.1 (bR ts z i pr' b) d = some (bR ts z i pr' b, v) := by
 obtain ⟨D', rfl⟩ : ∃ D', D = D' + 1 := ⟨D - 1, by omega⟩
 simp only [qAe]
 exact zMk (fun z i pr' b hz hi => qZj D' (by omega) d z i pr' b hz hi) hN z i pr' b hz hi
theorem zNa (hN : 0 < N) (D : Nat) (hD : 3 ≤ D) (d : Int) (z : Flt) (i : Nat) (pr' : List ByteArray) (b : List Ex) (hz : z.2 ≠ 0) (hi : i < ts.length) : ∃ v, (qAe N D).2.2.1 (bR ts z i pr' b) d = some (bR ts z i pr' b, v) := by
 obtain ⟨D', rfl⟩ : ∃ D', D = D' + 1 := ⟨D - 1, by omega⟩
 simp only [qAe]
 exact rsum_b (fun z i pr' b hz hi => zFq hN D' (by omega) d z i pr' b hz hi) hN z i pr' b hz hi
theorem zKc (hok : OkT ts) (hl : ts.length < 1000000) (hpr : pr.length < 1000) (hN : 1000002 < N) : ∀ (k D : Nat), k ≤ 32 → 4 * k + 1 ≤ D → ∀ p : Ps, p.1 < ts.length → p.2.length ≤ 256 →
  ∃ o, (qAe N D).2.2.2 (gR ts pr p) (33 - (k : Int)) = some o ∧ relR ts pr (qGw ts pr k p) o
 | 0, 0, _, h, _, _, _ => by omega
 | 0, D + 1, _, _, p, hp, _ => by simp only [qAe]; exact zMy (by omega) p hp
 | k + 1, D, hk, hD, p, hp, hb => by
  have hA := qMl (ts := ts) (params := pr) hok k
  have hF := qTk (params := pr) hok hA
  have hT : Adv ts (zHf ts pr (qGw ts pr k)) := qNa hok hF
  have hS : Adv ts (sumC ts pr (qGw ts pr k)) := qNa hok hT
  have hE : ∀ D, 4 * k + 1 ≤ D → ∀ p : Ps, p.1 < ts.length → p.2.length ≤ 256 → ∃ o, (qAe N D).2.2.2 (gR ts pr p) (IntKind.wrap .i64 (32 - (k : Int) + 1)) = some o ∧ relR ts pr (qGw ts pr k p) o := by
   intro D hD p hp hb
   rw [wi64 (by omega) (by omega), show 32 - (k : Int) + 1 = 33 - (k : Int) by omega]
   exact zKc hok hl hpr hN k D (by omega) hD p hp hb
  have h1 : ∀ D, 4 * k + 2 ≤ D → ∀ p : Ps, p.1 < ts.length → p.2.length ≤ 256 → ∃ o, (qAe N D).1 (gR ts pr p) (32 - (k : Int)) = some o ∧ relR ts pr (qPr ts pr (qGw ts pr k) p) o := by
   intro D hD p hp hb
   obtain ⟨D', rfl⟩ : ∃ D', D = D' + 1 := ⟨D - 1, by omega⟩
   simp only [qAe]
   exact zMu (hE D' (by omega)) (fun z i pr' b hz hi => zAj D' (by omega) _ z i pr' b hz hi) hok hl hpr hN hA p hp hb
  have h2 : ∀ D, 4 * k + 3 ≤ D → ∀ p : Ps, p.1 < ts.length → p.2.length ≤ 256 → ∃ o, (qAe N D).2.1 (gR ts pr p) (32 - (k : Int)) = some o ∧ relR ts pr (zHf ts pr (qGw ts pr k) p) o := by
   intro D hD p hp hb
   obtain ⟨D', rfl⟩ : ∃ D', D = D' + 1 := ⟨D - 1, by omega⟩
   simp only [qAe]
   exact rterm hok hl hN hF (h1 D' (by omega)) (fun z i pr' b hz hi => qZj D' (by omega) _ z i pr' b hz hi) p hp hb
  have h3 : ∀ D, 4 * k + 4 ≤ D → ∀ p : Ps, p.1 < ts.length → p.2.length ≤ 256 → ∃ o, (qAe N D).2.2.1 (gR ts pr p) (32 - (k : Int)) = some o ∧ relR ts pr (sumC ts pr (qGw ts pr k) p) o := by
   intro D hD p hp hb
   obtain ⟨D', rfl⟩ : ∃ D', D = D' + 1 := ⟨D - 1, by omega⟩
   simp only [qAe]
   exact rsum hok hl hN hT (h2 D' (by omega)) (fun z i pr' b hz hi => zFq (by omega) D' (by omega) _ z i pr' b hz hi) p hp hb
  obtain ⟨D', rfl⟩ : ∃ D', D = D' + 1 := ⟨D - 1, by omega⟩
  rw [show (33 : Int) - ((k + 1 : Nat) : Int) = 32 - (k : Int) by omega]
  simp only [qAe]
  exact rexpr hok hl (by omega) hA hS (hE D' (by omega)) (fun z i pr' b hz hi => zAj D' (by omega) _ z i pr' b hz hi) (h3 D' (by omega)) (fun z i pr' b hz hi => zNa (by omega) D' (by omega) _ z i pr' b hz hi) p hp hb
theorem zKz (hok : OkT ts) (hl : ts.length < 1000000) (hpr : pr.length < 1000) (hN : 1000002 < N) (p : Ps) (hp : p.1 < ts.length) (hb : p.2.length ≤ 256) :
 ∃ o, qDi N (gR ts pr p) 1 = some o ∧ relR ts pr (qGw ts pr 32 p) o := zKc hok hl hpr hN 32 N (by omega) (by omega) p hp hb
theorem qXg (hN : 1 ≤ N) (z : Flt) (i : Nat) (pr' : List ByteArray) (b : List Ex) (hz : z.2 ≠ 0) (hi : i < ts.length) : ∃ v, qDi N (bR ts z i pr' b) 1 = some (bR ts z i pr' b, v) := zAj N hN 1 z i pr' b hz hi
abbrev RL := List Tok × Int × Int × Int × List ByteArray × List Ex × List Int × List ByteArray
def addL (st : RT) (l : List ByteArray) : RL := (st.1, st.2.1, st.2.2.1, st.2.2.2.1, st.2.2.2.2.1, st.2.2.2.2.2.1, st.2.2.2.2.2.2, l)
def zBw (ts : List Tok) (n : Nat) (l : List ByteArray) (i : Nat) : Flt ⊕ (Nat × List ByteArray) :=
 if isC ts 4 qOb i then qPq ts n l (i + 1) else qCc (qEr ts qIh i) fun j => .inr (j, l)
theorem zGf (n : Nat) (l : List ByteArray) (i : Nat) : qPq ts (n + 1) l i = qCc (qMv ts i) fun a => if l.length = 8 then qGi a.2 2 else if a.2.2.1 ∈ l then qGi a.2 10 else zBw ts n (l ++ [a.2.2.1]) a.1 := rfl
def relP (ts : List Tok) (pr : List ByteArray) (b : List Ex) (r : Flt ⊕ (Nat × List ByteArray)) (o : RL) : Prop :=
 match r with
 | .inl z => ∃ st l, Bad ts z st ∧ o = addL st l
 | .inr q => o = addL (gR ts pr (q.1, b)) q.2
theorem qOv {z : Flt} {i : Nat} {pr' : List ByteArray} {b : List Ex} (hz : z.2 ≠ 0) (M : Nat) (l : List ByteArray) : qAz (qBa N) (M + 1) (addL (bR ts z i pr' b) l) = some (addL (bR ts z i pr' b) l) := by
 have hz' : ((addL (bR ts z i pr' b) l).2.2.2.1 == 0) = false := by simpa [bR, addL] using hz
 simp only [qAz, qBa, hz', jB, jE, j0]
theorem qYq (hl : ts.length < 1000000) (hN : 1000002 < N) {i : Nat} {b : List Ex} {l : List ByteArray} (hi : i < ts.length) (hl8 : l.length ≤ 8) {G : RL → Option RL} {n : Nat}
  (hbad : ∀ (z : Flt) (i : Nat) (pr' : List ByteArray) (b : List Ex) (l : List ByteArray), z.2 ≠ 0 → G (addL (bR ts z i pr' b) l) = some (addL (bR ts z i pr' b) l))
  (hok : OkT ts)
  (ih : ∀ (s : ByteArray), i + 1 < ts.length → l.length < 8 → ∃ o, G (addL (gR ts pr (i + 1, b)) (l ++ [s])) = some o ∧ relP ts pr b (zBw ts n (l ++ [s]) (i + 1)) o) :
  ∃ o, ((qAk N (gR ts pr (i, b))).bind fun y15 => (qBg N y15.1).bind fun y16 => (if ((l.length : Int) == 8) = true then ((qAl N y16.1 y15.2.2.2.2 2).bind fun y17 => some y17) else (some y16.1) : Option RT).bind fun o10 => (qDf N l y16.2).bind fun y18 => (if y18 = true then ((qAl N o10 y15.2.2.2.2 10).bind fun y19 => some y19) else (some o10) : Option RT).bind fun o11 => (qDx 16 l ([y16.2])).bind fun l1 => G (addL o11 l1)) = some o ∧
   relP ts pr b (qPq ts (n + 1) l i) o := by
 rw [zGf]
 simp only [qJq (i, b) hi, j0, qUv (i, b) hi hl (by omega : 100 < N), obs]
 have happ : ∀ s : ByteArray, qDx 16 l [s] = some (l ++ [s]) := fun s => qCh (by simp only [jC, jD]; omega) (by omega)
 have hhas : ∀ s, qDf N l s = some (decide (s ∈ l)) := fun s => rhas (by omega) (by omega)
 -- behind an error
 have hb2 : ∀ (z : Flt) (i : Nat) (pr' : List ByteArray) (b' : List Ex) (s : ByteArray) (a : Int), z.2 ≠ 0 → i < ts.length → ∃ o, ((qDf N l s).bind fun y18 => (if y18 = true then qAl N (bR ts z i pr' b') a 10 else (some (bR ts z i pr' b')) : Option RT).bind fun o11 => (qDx 16 l ([s])).bind fun l1 => G (addL o11 l1)) = some o ∧ relP ts pr b (.inl z) o := by
  intro z i pr' b' s a hz hi
  simp only [hhas, j0, qNd hz]
  have : ((if decide (s ∈ l) = true then some (bR ts z i pr' b') else some (bR ts z i pr' b')) : Option RT) = some (bR ts z i pr' b') := by split <;> rfl
  simp only [this, j0, happ, hbad _ _ _ _ _ hz]
  exact ⟨_, rfl, bR ts z i pr' b', _, ⟨hz, i, pr', b', hi, rfl⟩, rfl⟩
 cases hx : qMv ts i with
 | inl z =>
  have hz := zAi hx
  have : ((if ((l.length : Int) == 8) = true then qAl N (bR ts z i pr b) (tkAt ts i).2.2.2 2 else some (bR ts z i pr b)) : Option RT) = some (bR ts z i pr b) := by
   rw [qNd hz]; split <;> rfl
  simp only [this, j0, qCc]
  exact hb2 z i pr b _ _ hz hi
 | inr x =>
  obtain ⟨rfl, g1, -⟩ := qLt hok hi hx
  simp only [qCc]
  by_cases k1 : l.length = 8
  ·have k1' : ((l.length : Int) == 8) = true := by simp; omega
   rw [if_pos k1]
   simp only [k1', jH, qKb, j0, qGi]
   exact hb2 _ _ _ _ _ _ (show (2 : Int) ≠ 0 by decide) g1
  have k1' : ((l.length : Int) == 8) = false := by simp; omega
  rw [if_neg k1]
  simp only [k1', jB, jE, j0, hhas]
  by_cases k2 : (tkAt ts i).2.1 ∈ l
  ·rw [if_pos k2]
   simp only [jM k2, jH, qKb, j0, happ, qGi]
   refine ⟨_, hbad _ _ _ _ _ (show (10 : Int) ≠ 0 by decide), bR ts ((tkAt ts i).2.2.2, 10) (i + 1) pr b, _, ⟨show (10 : Int) ≠ 0 by decide, i + 1, pr, b, g1, rfl⟩, rfl⟩
  ·rw [if_neg k2]
   simp only [jQ k2, jB, jE, j0, happ]
   exact ih _ g1 (by omega)
theorem zEh (hN : 1000002 < N) {b : List Ex} {l : List ByteArray} (hl8 : l.length ≤ 8) {G : RL → Option RL}
  (hbad : ∀ (z : Flt) (i : Nat) (pr' : List ByteArray) (b : List Ex) (l : List ByteArray), z.2 ≠ 0 → G (addL (bR ts z i pr' b) l) = some (addL (bR ts z i pr' b) l))
  {z : Flt} {i : Nat} {pr' : List ByteArray} {b' : List Ex} (hz : z.2 ≠ 0) (hi : i < ts.length) :
  ∃ o, ((qAk N (bR ts z i pr' b')).bind fun y15 => (qBg N y15.1).bind fun y16 => (if ((l.length : Int) == 8) = true then ((qAl N y16.1 y15.2.2.2.2 2).bind fun y17 => some y17) else (some y16.1) : Option RT).bind fun o10 => (qDf N l y16.2).bind fun y18 => (if y18 = true then ((qAl N o10 y15.2.2.2.2 10).bind fun y19 => some y19) else (some o10) : Option RT).bind fun o11 => (qDx 16 l ([y16.2])).bind fun l1 => G (addL o11 l1)) = some o ∧
   relP ts pr b (.inl z) o := by
 have happ : ∀ s : ByteArray, qDx 16 l [s] = some (l ++ [s]) := fun s => qCh (by simp only [jC, jD]; omega) (by omega)
 have hhas : ∀ s, qDf N l s = some (decide (s ∈ l)) := fun s => rhas (by omega) (by omega)
 have e3 : ((if ((l.length : Int) == 8) = true then some (bR ts z i pr' b') else some (bR ts z i pr' b')) : Option RT) = some (bR ts z i pr' b') := by split <;> rfl
 have e4 : ((if decide ((⟨#[]⟩ : ByteArray) ∈ l) = true then some (bR ts z i pr' b') else some (bR ts z i pr' b')) : Option RT) = some (bR ts z i pr' b') := by split <;> rfl
 simp only [qPg hi, j0, qZo hz hi, obs, qNd hz, e3, hhas, e4, happ, hbad _ _ _ _ _ hz]
 exact ⟨_, rfl, bR ts z i pr' b', _, ⟨hz, i, pr', b', hi, rfl⟩, rfl⟩
theorem qVb (hok : OkT ts) (hl : ts.length < 1000000) (hN : 1000002 < N) {b : List Ex} : ∀ (n M : Nat) (l : List ByteArray) (i : Nat), l ≠ [] → i < ts.length → l.length ≤ 8 → ts.length < i + n → ts.length + 2 < i + M →
  ∃ o, qAz (qBa N) M (addL (gR ts pr (i, b)) l) = some o ∧ relP ts pr b (zBw ts n l i) o
 | 0, M, l, i, _, hi, _, h, _ => by omega
 | n + 1, 0, l, i, _, hi, _, _, h => by omega
 | n + 1, M + 1, l, i, hne, hi, hl8, hn, hM => by
  have hs := qKo (N := N) (pr := pr) (i, b) hi hl ⟨#[41]⟩
  have hpos : decide ((l.length : Int) > 0) = true := by
   have := gM.2 hne
   exact jM (by omega)
  have g0 : ((addL (gR ts pr (i, b)) l).2.2.2.1 == 0) = true := rfl
  have e1 : ∀ st : RT, ∀ l, ((addL st l).1, (addL st l).2.1, (addL st l).2.2.1, (addL st l).2.2.2.1, (addL st l).2.2.2.2.1, (addL st l).2.2.2.2.2.1, (addL st l).2.2.2.2.2.2.1) = st := fun _ _ => rfl
  have e2 : ∀ st : RT, ∀ l, (addL st l).2.2.2.2.2.2.2 = l := fun _ _ => rfl
  simp only [qAz, qBa, g0, jH, e1, e2, hs, j0, hpos]
  rcases qDt (isC ts 4 ⟨#[41]⟩ i) with c1 | c1
  ·simp only [c1, jH, k7, jB, jE]
   refine ⟨_, rfl, ?_⟩
   have c2 : isC ts 4 qOb i = false := by
    simp only [isC, jP, jA] at c1
    simp [isC, c1.2, qOb]
   have c3 : qEr ts qIh i = .inr (i + 1) := by simp [qEr, qIh, c1]
   simp only [zBw, c2, jB, jE, c3, qCc]
   rfl
  ·have hcc : isC ts 4 qOb i = isC ts 4 ⟨#[44]⟩ i := rfl
   simp only [c1, jB, jE, jU, jH, Prod.eta, qNf (i, b) hi hl, j0, zBw, hcc, qEr]
   rcases qDt (isC ts 4 ⟨#[44]⟩ i) with c2 | c2
   ·have g := qEt hok hi (by decide) c2
    simp only [c2, jH]
    obtain ⟨o, ho, hr⟩ := qYq (N := N) (pr := pr) (b := b) (l := l) (n := n) (G := qAz (qBa N) M) hl hN g hl8 (fun z i pr' b l hz => by
     obtain ⟨M', rfl⟩ : ∃ M', M = M' + 1 := ⟨M - 1, by omega⟩
     exact qOv hz M' l) hok (fun s g2 g3 => qVb hok hl hN n M (l ++ [s]) (i + 1 + 1) (by simp) g2 (by simp only [jL, jC, jD]; omega) (by omega) (by omega))
    refine ⟨o, Eq.trans ?_ ho, hr⟩
    simp only [kY, j0]
    rfl
   ·have c1' : isC ts 4 qIh i = false := c1
    simp only [c2, c1', jB, jE, qGi, qCc]
    obtain ⟨o, ho, hr⟩ := zEh (N := N) (pr := pr) (b := b) (l := l) (z := ((tkAt ts i).2.2.2, 9)) (i := i) (pr' := pr) (b' := b) (G := qAz (qBa N) M) hN hl8 (fun z i pr' b l hz => by
     obtain ⟨M', rfl⟩ : ∃ M', M = M' + 1 := ⟨M - 1, by omega⟩
     exact qOv hz M' l) (show (9 : Int) ≠ 0 by decide) hi
    refine ⟨o, Eq.trans ?_ ho, hr⟩
    simp only [kY, j0]
    rfl
theorem zNl (hok : OkT ts) (hl : ts.length < 1000000) (hN : 1000005 < N) {b : List Ex} (i : Nat) (hi : i < ts.length) :
  ∃ o, qAz (qBa N) N (addL (gR ts pr (i, b)) []) = some o ∧ relP ts pr b (if isC ts 4 qIh i then .inr (i + 1, []) else qPq ts (ts.length + 1) [] i) o := by
 obtain ⟨M, hM⟩ : ∃ M, N = M + 1 := ⟨N - 1, by omega⟩
 have hs := qKo (N := N) (pr := pr) (i, b) hi hl ⟨#[41]⟩
 have g0 : ((addL (gR ts pr (i, b)) []).2.2.2.1 == 0) = true := rfl
 have hnil : decide ((([] : List ByteArray).length : Int) > 0) = false := rfl
 have e1 : ∀ st : RT, ∀ l, ((addL st l).1, (addL st l).2.1, (addL st l).2.2.1, (addL st l).2.2.2.1, (addL st l).2.2.2.2.1, (addL st l).2.2.2.2.2.1, (addL st l).2.2.2.2.2.2.1) = st := fun _ _ => rfl
 have e2 : ∀ st : RT, ∀ l, (addL st l).2.2.2.2.2.2.2 = l := fun _ _ => rfl
 have e0 : qAz (qBa N) N (addL (gR ts pr (i, b)) []) = qAz (qBa N) (M + 1) (addL (gR ts pr (i, b)) []) := by rw [← hM]
 rw [e0]
 simp only [qAz, qBa, g0, jH, e1, e2, hs, j0, hnil, qIh]
 rcases qDt (isC ts 4 ⟨#[41]⟩ i) with c1 | c1
 ·simp only [c1, jH, k7, jB, jE]
  exact ⟨_, rfl, rfl⟩
 ·simp only [c1, jB, jE, jU, jH, Prod.eta, j0]
  obtain ⟨o, ho, hr⟩ := qYq (N := N) (pr := pr) (b := b) (l := []) (n := ts.length) (G := qAz (qBa N) M) hl (by omega) hi (by simp) (fun z i pr' b l hz => by
   obtain ⟨M', rfl⟩ : ∃ M', M = M' + 1 := ⟨M - 1, by omega⟩
   exact qOv hz M' l) hok (fun s g2 g3 => qVb hok hl (by omega) ts.length M ([] ++ [s]) (i + 1) (by simp) g2 (by simp) (by omega) (by omega))
  refine ⟨o, Eq.trans ?_ ho, hr⟩
  simp only [kY, j0]
  rfl
end
end
section
open Go Go.Dc
section
variable {N : Nat} {ts : List Tok} {pr : List ByteArray}
def relD (ts : List Tok) (r : Flt ⊕ (Nat × Dl)) (o : RT × Dl) : Prop :=
 match r with
 | .inl z => Bad ts z o.1
 | .inr a => o = (gR ts a.2.2.2.1 (a.1, a.2.2.2.2), a.2)
def qPt (N : Nat) (st : RT) (k : Int) (nm : ByteArray) : Option (RT × Dl) :=
 ((if (k == 1) = true then ((qAh N st (⟨#[40]⟩ : ByteArray)).bind fun y12 => qAz (qBa N) N (addL y12 [])) else (some (addL st [])) : Option RL)).bind fun o6 =>
 (qAh N (o6.1, o6.2.1, o6.2.2.1, o6.2.2.2.1, o6.2.2.2.2.2.2.2, o6.2.2.2.2.2.1, o6.2.2.2.2.2.2.1) (⟨#[61]⟩ : ByteArray)).bind fun y20 =>
 (qDi N y20 1).bind fun y21 => (qAh N y21.1 (⟨#[59]⟩ : ByteArray)).bind fun y22 => some (y22, (k, nm, o6.2.2.2.2.2.2.2, y22.2.2.2.2.2.1))
theorem qXs (hN : 1000005 < N) {z : Flt} {i : Nat} {b : List Ex} (hz : z.2 ≠ 0) (hi : i < ts.length) (k : Int) (nm : ByteArray) : ∃ o, qPt N (bR ts z i pr b) k nm = some o ∧ Bad ts z o.1 := by
 have tail : ∀ (i : Nat) (pr : List ByteArray) (b : List Ex) (l : List ByteArray), i < ts.length → ∃ o, ((qAh N ((addL (bR ts z i pr b) l).1, (addL (bR ts z i pr b) l).2.1, (addL (bR ts z i pr b) l).2.2.1, (addL (bR ts z i pr b) l).2.2.2.1, (addL (bR ts z i pr b) l).2.2.2.2.2.2.2, (addL (bR ts z i pr b) l).2.2.2.2.2.1, (addL (bR ts z i pr b) l).2.2.2.2.2.2.1) (⟨#[61]⟩ : ByteArray)).bind fun y20 =>
   (qDi N y20 1).bind fun y21 => (qAh N y21.1 (⟨#[59]⟩ : ByteArray)).bind fun y22 => some (y22, (k, nm, (addL (bR ts z i pr b) l).2.2.2.2.2.2.2, y22.2.2.2.2.2.1))) = some o ∧ Bad ts z o.1 := by
  intro i pr b l hi
  have e : ((addL (bR ts z i pr b) l).1, (addL (bR ts z i pr b) l).2.1, (addL (bR ts z i pr b) l).2.2.1, (addL (bR ts z i pr b) l).2.2.2.1, (addL (bR ts z i pr b) l).2.2.2.2.2.2.2, (addL (bR ts z i pr b) l).2.2.2.2.2.1, (addL (bR ts z i pr b) l).2.2.2.2.2.2.1) = bR ts z i l b := rfl
  obtain ⟨v, hv⟩ := qXg (N := N) (by omega) z i l b hz hi
  simp only [e, qMk hz hi, j0, hv]
  exact ⟨_, rfl, hz, i, l, b, hi, rfl⟩
 obtain ⟨M, hM⟩ : ∃ M, N = M + 1 := ⟨N - 1, by omega⟩
 have hb : qAz (qBa N) N (addL (bR ts z i pr b) []) = some (addL (bR ts z i pr b) []) := by
  have e0 : qAz (qBa N) N (addL (bR ts z i pr b) []) = qAz (qBa N) (M + 1) (addL (bR ts z i pr b) []) := by rw [← hM]
  rw [e0]; exact qOv hz M []
 unfold qPt
 rcases qDt (k == 1) with c | c
 ·simp only [c, jH, qMk hz hi, j0, hb]
  exact tail i pr b [] hi
 ·simp only [c, jB, jE, j0]
  exact tail i pr b [] hi
theorem zIz (hok : OkT ts) (hl : ts.length < 1000000) (hN : 1000005 < N) (i : Nat) (hi : i < ts.length) (k : Int) (nm : ByteArray) : ∃ o, qPt N (gR ts pr (i, [])) k nm = some o ∧
  relD ts (qCc (if k = 1 then qIf ts i else .inr (i, [])) fun bq => qCc (qEr ts sEq bq.1) fun j => qCc (qGw ts bq.2 32 (j, [])) fun c => qCc (qEr ts qTy c.1.1) fun m => .inr (m, (k, nm, bq.2, c.1.2))) o := by
 have badt : ∀ (z : Flt) (st : RT) (l : List ByteArray), Bad ts z st → ∃ o, ((qAh N ((addL st l).1, (addL st l).2.1, (addL st l).2.2.1, (addL st l).2.2.2.1, (addL st l).2.2.2.2.2.2.2, (addL st l).2.2.2.2.2.1, (addL st l).2.2.2.2.2.2.1) (⟨#[61]⟩ : ByteArray)).bind fun y20 =>
   (qDi N y20 1).bind fun y21 => (qAh N y21.1 (⟨#[59]⟩ : ByteArray)).bind fun y22 => some (y22, (k, nm, (addL st l).2.2.2.2.2.2.2, y22.2.2.2.2.2.1))) = some o ∧ Bad ts z o.1 := by
  rintro z st l ⟨hz, i, pr, b, hi, rfl⟩
  have e : ((addL (bR ts z i pr b) l).1, (addL (bR ts z i pr b) l).2.1, (addL (bR ts z i pr b) l).2.2.1, (addL (bR ts z i pr b) l).2.2.2.1, (addL (bR ts z i pr b) l).2.2.2.2.2.2.2, (addL (bR ts z i pr b) l).2.2.2.2.2.1, (addL (bR ts z i pr b) l).2.2.2.2.2.2.1) = bR ts z i l b := rfl
  obtain ⟨v, hv⟩ := qXg (N := N) (by omega) z i l b hz hi
  simp only [e, qMk hz hi, j0, hv]
  exact ⟨_, rfl, hz, i, l, b, hi, rfl⟩
 have goodt : ∀ (q : Nat × List ByteArray), q.1 < ts.length → q.2.length ≤ 8 → ∃ o, ((qAh N ((addL (gR ts pr (q.1, [])) q.2).1, (addL (gR ts pr (q.1, [])) q.2).2.1, (addL (gR ts pr (q.1, [])) q.2).2.2.1, (addL (gR ts pr (q.1, [])) q.2).2.2.2.1, (addL (gR ts pr (q.1, [])) q.2).2.2.2.2.2.2.2, (addL (gR ts pr (q.1, [])) q.2).2.2.2.2.2.1, (addL (gR ts pr (q.1, [])) q.2).2.2.2.2.2.2.1) (⟨#[61]⟩ : ByteArray)).bind fun y20 =>
   (qDi N y20 1).bind fun y21 => (qAh N y21.1 (⟨#[59]⟩ : ByteArray)).bind fun y22 => some (y22, (k, nm, (addL (gR ts pr (q.1, [])) q.2).2.2.2.2.2.2.2, y22.2.2.2.2.2.1))) = some o ∧
   relD ts (qCc (qEr ts sEq q.1) fun j => qCc (qGw ts q.2 32 (j, [])) fun c => qCc (qEr ts qTy c.1.1) fun m => .inr (m, (k, nm, q.2, c.1.2))) o := by
  intro q hq hq8
  have e : ((addL (gR ts pr (q.1, [])) q.2).1, (addL (gR ts pr (q.1, [])) q.2).2.1, (addL (gR ts pr (q.1, [])) q.2).2.2.1, (addL (gR ts pr (q.1, [])) q.2).2.2.2.1, (addL (gR ts pr (q.1, [])) q.2).2.2.2.2.2.2.2, (addL (gR ts pr (q.1, [])) q.2).2.2.2.2.2.1, (addL (gR ts pr (q.1, [])) q.2).2.2.2.2.2.2.1) = gR ts q.2 (q.1, []) := rfl
  have e2 : (addL (gR ts pr (q.1, [])) q.2).2.2.2.2.2.2.2 = q.2 := rfl
  rw [e]
  simp only [e2, qNf (q.1, []) hq hl, j0, sEq]
  cases hj : qEr ts ⟨#[61]⟩ q.1 with
  | inl z =>
   have hz := qLv hj
   obtain ⟨v, hv⟩ := qXg (N := N) (by omega) z q.1 q.2 [] hz hq
   simp only [hv, j0, qMk hz hq, qCc]
   exact ⟨_, rfl, hz, q.1, q.2, [], hq, rfl⟩
  | inr j =>
   obtain ⟨rfl, g3, -⟩ := qEs hok hq hj
   obtain ⟨o, ho, hr⟩ := zKz (N := N) (pr := q.2) hok hl (by omega) (by omega) (q.1 + 1, []) g3 (by simp)
   simp only [ho, j0, qCc]
   cases hc : qGw ts q.2 32 (q.1 + 1, []) with
   | inl z =>
    rw [hc] at hr
    obtain ⟨hz, i, pr', b, hi, ho1⟩ := hr
    simp only [ho1, qMk hz hi, j0]
    exact ⟨_, rfl, hz, i, pr', b, hi, rfl⟩
   | inr c =>
    rw [hc] at hr
    obtain ⟨⟨f1, f2, f3, f4⟩, -⟩ := qMl hok 32 (q.1 + 1, []) c.1 c.2 g3 (by simp) hc
    have hr' : o = (gR ts q.2 c.1, (c.2 : Int)) := hr
    simp only [hr', qNf c.1 f2 hl, j0, qTy]
    cases hm : qEr ts ⟨#[59]⟩ c.1.1 with
    | inl z => exact ⟨_, rfl, qLv hm, c.1.1, q.2, c.1.2, f2, rfl⟩
    | inr m => exact ⟨_, rfl, rfl⟩
 unfold qPt
 by_cases c : k = 1
 ·have c' : (k == 1) = true := by simpa using c
  simp only [c', jH, qNf (i, []) hi hl, j0, if_pos c, qIf, qQa]
  cases h1 : qEr ts ⟨#[40]⟩ i with
  | inl z =>
   have hz := qLv h1
   obtain ⟨M, hM⟩ : ∃ M, N = M + 1 := ⟨N - 1, by omega⟩
   have hb : qAz (qBa N) N (addL (bR ts z i pr []) []) = some (addL (bR ts z i pr []) []) := by
    have e0 : qAz (qBa N) N (addL (bR ts z i pr []) []) = qAz (qBa N) (M + 1) (addL (bR ts z i pr []) []) := by rw [← hM]
    rw [e0]; exact qOv hz M []
   simp only [hb, j0, qCc]
   exact badt z _ [] ⟨hz, i, pr, [], hi, rfl⟩
  | inr j =>
   obtain ⟨rfl, g1, -⟩ := qEs hok hi h1
   obtain ⟨o, ho, hr⟩ := zNl (N := N) (pr := pr) (b := []) hok hl hN (i + 1) g1
   simp only [ho, j0, qCc]
   cases hP : (if isC ts 4 qIh (i + 1) = true then .inr (i + 1 + 1, []) else qPq ts (ts.length + 1) [] (i + 1) : Flt ⊕ (Nat × List ByteArray)) with
   | inl z =>
    rw [hP] at hr
    obtain ⟨st, l, hbad, rfl⟩ := hr
    exact badt z st l hbad
   | inr q =>
    rw [hP] at hr
    have hr' : o = addL (gR ts pr (q.1, [])) q.2 := hr
    have hq : q.1 < ts.length ∧ q.2.length ≤ 8 := by
     split at hP
     ·rename_i hc
      obtain rfl := Sum.inr.inj hP
      exact ⟨qEt hok g1 (by decide) hc, by simp⟩
     ·obtain ⟨_, f2, f3⟩ := qSx hok _ _ _ q g1 (by simp) hP
      exact ⟨f2, f3⟩
    rw [hr']
    exact goodt q hq.1 hq.2
 ·have c' : (k == 1) = false := by simpa using c
  simp only [c', jB, jE, j0, if_neg c]
  exact goodt (i, []) hi (by simp)
def qTp (N : Nat) (f : Sr) (t : Tok) (st : RT) (k : Int) : Option (RT × Dl) :=
 ((if ((List.length f.2.2 : Int) == 64) = true then qAl N st t.2.2.2 2 else some st) : Option RT).bind fun o2 => (qAk N o2).bind fun y7 =>
 ((if (k == 3) = true then qBu N y7.1 true else qBg N y7.1) : Option (RT × ByteArray)).bind fun o3 =>
 ((if (o3.1.2.2.2.1 == 0) = true then qFc N f k o3.2 else some false) : Option Bool).bind fun o4 =>
 ((if o4 = true then qAl N o3.1 y7.2.2.2.2 10 else some o3.1) : Option RT).bind fun o5 => qPt N o5 k o3.2
theorem zGo (hN : 1000005 < N) {f : Sr} {t : Tok} {z : Flt} {i : Nat} {b : List Ex} (hz : z.2 ≠ 0) (hi : i < ts.length) (k : Int) : ∃ o,
  ((qAk N (bR ts z i pr b)).bind fun y7 => ((if (k == 3) = true then qBu N y7.1 true else qBg N y7.1) : Option (RT × ByteArray)).bind fun o3 =>
   ((if (o3.1.2.2.2.1 == 0) = true then qFc N f k o3.2 else some false) : Option Bool).bind fun o4 =>
   ((if o4 = true then qAl N o3.1 y7.2.2.2.2 10 else some o3.1) : Option RT).bind fun o5 => qPt N o5 k o3.2) = some o ∧ Bad ts z o.1 := by
 have hz' : ((bR ts z i pr b).2.2.2.1 == 0) = false := by simpa [bR] using hz
 have e : ((if (k == 3) = true then qBu N (bR ts z i pr b) true else qBg N (bR ts z i pr b)) : Option (RT × ByteArray)) = some (bR ts z i pr b, ⟨#[]⟩) := by
  rw [zDs hz hi, qZo hz hi]; split <;> rfl
 simp only [qPg hi, j0, e, hz', jB, jE]
 exact qXs hN hz hi k _
theorem zGk (hok : OkT ts) (hl : ts.length < 1000000) (hN : 1000005 < N) {f : Sr} (hf : f.2.2.length ≤ 64) (t : Tok) (i : Nat) (hi : i < ts.length) (k : Int) : ∃ o, qTp N f t (gR ts pr (i, [])) k = some o ∧
  relD ts (if f.2.2.length = 64 then qGi t 2 else qCc (if k = 3 then qOs ts i else qMv ts i) fun a =>
   if f.2.2.any (fun d => d.1 == k && decide (d.2.1 = a.2.2.1)) then qGi a.2 10
   else qCc (if k = 1 then qIf ts a.1 else .inr (a.1, [])) fun b =>
    qCc (qEr ts sEq b.1) fun j => qCc (qGw ts b.2 32 (j, [])) fun c =>
    qCc (qEr ts qTy c.1.1) fun m => .inr (m, (k, a.2.2.1, b.2, c.1.2))) o := by
 unfold qTp
 by_cases k1 : f.2.2.length = 64
 ·have k1' : ((f.2.2.length : Int) == 64) = true := by simp; omega
  rw [if_pos k1]
  simp only [k1', jH, qKb, j0, qGi]
  exact zGo (t := t) hN (show (2 : Int) ≠ 0 by decide) hi k
 have k1' : ((f.2.2.length : Int) == 64) = false := by simp; omega
 rw [if_neg k1]
 simp only [k1', jB, jE, j0, qJq (i, []) hi]
 have e : ((if (k == 3) = true then qBu N (gR ts pr (i, [])) true else qBg N (gR ts pr (i, []))) : Option (RT × ByteArray)) =
   some (match (if k = 3 then qOs ts i else qMv ts i) with | .inl z => (bR ts z i pr [], ⟨#[]⟩) | .inr a => (gR ts pr (a.1, []), a.2.2.1)) := by
  by_cases k3 : k = 3
  ·have k3' : (k == 3) = true := by simpa using k3
   rw [if_pos k3', if_pos k3, zDn (i, []) hi hl (by omega)]; rfl
  ·have k3' : (k == 3) = false := by simpa using k3
   rw [if_neg (by rw [k3']; decide), if_neg k3, qUv (i, []) hi hl (by omega)]; rfl
 rw [e]
 simp only [j0]
 cases hX : (if k = 3 then qOs ts i else qMv ts i) with
 | inl z =>
  have hz : z.2 ≠ 0 := by
   split at hX
   ·exact zAu hX
   ·exact zAi hX
  have hz' : ((bR ts z i pr []).2.2.2.1 == 0) = false := by simpa [bR] using hz
  simp only [hz', jB, jE, j0, qCc]
  exact qXs hN hz hi k _
 | inr a =>
  have ga : a = (i + 1, tkAt ts i) ∧ i + 1 < ts.length := by
   split at hX
   ·obtain ⟨e, g1, -⟩ := qMd hok hi hX; exact ⟨e, g1⟩
   ·obtain ⟨e, g1, -⟩ := qLt hok hi hX; exact ⟨e, g1⟩
  obtain ⟨rfl, g1⟩ := ga
  have g0 : ((gR ts pr (i + 1, [])).2.2.2.1 == 0) = true := rfl
  simp only [g0, jH, rtaken (N := N) (f := f) (k := k) (s := (tkAt ts i).2.1) (by omega) (by omega), j0]
  rw [show qCc (Sum.inr (i + 1, tkAt ts i)) (fun a : Nat × Tok => if f.2.2.any (fun d => d.1 == k && decide (d.2.1 = a.2.2.1)) = true then qGi a.2 10
   else qCc (if k = 1 then qIf ts a.1 else .inr (a.1, [])) fun b =>
    qCc (qEr ts sEq b.1) fun j => qCc (qGw ts b.2 32 (j, [])) fun c =>
    qCc (qEr ts qTy c.1.1) fun m => (.inr (m, (k, a.2.2.1, b.2, c.1.2)) : Flt ⊕ (Nat × Dl))) = (if f.2.2.any (fun d => d.1 == k && decide (d.2.1 = (tkAt ts i).2.1)) = true then qGi (tkAt ts i) 10
   else qCc (if k = 1 then qIf ts (i + 1) else .inr (i + 1, [])) fun b =>
    qCc (qEr ts sEq b.1) fun j => qCc (qGw ts b.2 32 (j, [])) fun c =>
    qCc (qEr ts qTy c.1.1) fun m => (.inr (m, (k, (tkAt ts i).2.1, b.2, c.1.2)) : Flt ⊕ (Nat × Dl))) from rfl]
  rcases qDt (f.2.2.any fun d => d.1 == k && decide (d.2.1 = (tkAt ts i).2.1)) with k4 | k4
  ·rw [if_pos k4]
   simp only [k4, jH, qKb, j0, qGi]
   exact qXs hN (show (10 : Int) ≠ 0 by decide) g1 k _
  ·rw [if_neg (by rw [k4]; decide)]
   simp only [k4, jB, jE, j0]
   exact zIz hok hl hN (i + 1) g1 k _
end
end
section
open Go Go.Dc
section
variable {N : Nat} {ts : List Tok} {pr : List ByteArray}
abbrev RN := List Tok × Int × Int × Int × List ByteArray × List Ex × List Int × ByteArray
def addN (st : RT) (l : ByteArray) : RN := (st.1, st.2.1, st.2.2.1, st.2.2.2.1, st.2.2.2.2.1, st.2.2.2.2.2.1, st.2.2.2.2.2.2, l)
theorem rdecl (hok : OkT ts) (hl : ts.length < 1000000) (hN : 1000005 < N) {f : Sr} (hf : f.2.2.length ≤ 64) (i : Nat) (b : List Ex) (hi : i < ts.length) : ∃ o, qFv N (gR ts pr (i, b)) f = some o ∧ relD ts (qRc ts f.2.2 i) o := by
 have e0 : ((gR ts pr (i, b)).1, (gR ts pr (i, b)).2.1, (gR ts pr (i, b)).2.2.1, (gR ts pr (i, b)).2.2.2.1, ([] : List ByteArray), ([] : List Ex), (gR ts pr (i, b)).2.2.2.2.2.2) = gR ts [] (i, []) := rfl
 have rest : ∀ (st : RT) (k : Int), (((if ((List.length f.2.2 : Int) == 64) = true then ((qAl N st (tkAt ts i).2.2.2 2).bind fun y6 => some y6) else (some st)) : Option RT).bind fun o2 => (qAk N o2).bind fun y7 => ((if (k == 3) = true then ((qBu N y7.1 true).bind fun y8 => some (addN y8.1 y8.2)) else ((qBg N y7.1).bind fun y9 => some (addN y9.1 y9.2))) : Option RN).bind fun o3 => ((if (o3.2.2.2.1 == 0) = true then ((qFc N f k o3.2.2.2.2.2.2.2).bind fun y10 => some y10) else (some false)) : Option Bool).bind fun o4 => ((if o4 = true then ((qAl N (o3.1, o3.2.1, o3.2.2.1, o3.2.2.2.1, o3.2.2.2.2.1, o3.2.2.2.2.2.1, o3.2.2.2.2.2.2.1) y7.2.2.2.2 10).bind fun y11 => some y11) else (some (o3.1, o3.2.1, o3.2.2.1, o3.2.2.2.1, o3.2.2.2.2.1, o3.2.2.2.2.2.1, o3.2.2.2.2.2.2.1))) : Option RT).bind fun o5 => qPt N o5 k o3.2.2.2.2.2.2.2) = qTp N f (tkAt ts i) st k := by
  intro st k
  unfold qTp
  simp only [obs]
  refine congrArg _ (funext fun o2 => congrArg _ (funext fun y7 => ?_))
  rcases qDt (k == 3) with c | c <;> simp only [c, jH, jB, jE, kY, j0] <;> rfl
 have fin : ∀ (k : Int), k ≠ 0 → qNb (tkAt ts i).2.1 = k → (tkAt ts i).1 = 1 → ∃ o, qTp N f (tkAt ts i) (gR ts [] (i + 1, [])) k = some o ∧ relD ts (qRc ts f.2.2 i) o := by
  intro k hk0 hk h1
  have g := hok.next hi (show (tkAt ts i).1 ≠ 5 by rw [h1]; decide)
  obtain ⟨o, ho, hr⟩ := zGk (N := N) (pr := []) hok hl hN hf (tkAt ts i) (i + 1) g k
  refine ⟨o, ho, ?_⟩
  unfold qRc
  dsimp only
  rw [hk, if_neg (by rintro (h | h); exact h h1; exact hk0 h)]
  exact hr
 simp only [qFv, e0, qJq (i, []) hi, j0, Prod.eta, qLw (i, []) hi hl]
 by_cases h1 : (tkAt ts i).1 = 1
 ·have n : ∀ s, isC ts 1 s i = decide ((tkAt ts i).2.1 = s) := fun s => zFh h1
  simp only [n]
  by_cases w1 : (tkAt ts i).2.1 = (⟨#[102, 117, 110, 99]⟩ : ByteArray)
  ·simp only [jM w1, jH, j0]
   obtain ⟨o, ho, hr⟩ := fin 1 (by decide) (by rw [w1]; rfl) h1
   refine ⟨o, Eq.trans ?_ ho, hr⟩
   refine Eq.trans ?_ (rest (gR ts [] (i + 1, [])) 1)
   simp only [obs, qPt]
   rfl
  simp only [jQ w1, jB, jE, j0, qLw (i, []) hi hl, n, Prod.eta]
  by_cases w2 : (tkAt ts i).2.1 = (⟨#[116, 101, 115, 116]⟩ : ByteArray)
  ·simp only [jM w2, jH, j0]
   obtain ⟨o, ho, hr⟩ := fin 2 (by decide) (by rw [w2]; rfl) h1
   refine ⟨o, Eq.trans ?_ ho, hr⟩
   refine Eq.trans ?_ (rest (gR ts [] (i + 1, [])) 2)
   simp only [obs, qPt]
   rfl
  simp only [jQ w2, jB, jE, j0, qLw (i, []) hi hl, n, Prod.eta]
  by_cases w3 : (tkAt ts i).2.1 = (⟨#[103, 101, 110]⟩ : ByteArray)
  ·simp only [jM w3, jH, j0]
   obtain ⟨o, ho, hr⟩ := fin 3 (by decide) (by rw [w3]; rfl) h1
   refine ⟨o, Eq.trans ?_ ho, hr⟩
   refine Eq.trans ?_ (rest (gR ts [] (i + 1, [])) 3)
   simp only [obs, qPt]
   rfl
  simp only [jQ w3, jB, jE, j0, qKb, Prod.eta]
  refine ⟨_, rfl, ?_⟩
  have hk : qNb (tkAt ts i).2.1 = 0 := by
   unfold qNb
   rw [if_neg (show ¬ (tkAt ts i).2.1 = zIt from w1), if_neg (show ¬ (tkAt ts i).2.1 = zJj from w2), if_neg (show ¬ (tkAt ts i).2.1 = sGen from w3)]
  unfold qRc
  dsimp only
  rw [if_pos (.inr hk)]
  exact ⟨show (9 : Int) ≠ 0 by decide, i, [], [], hi, rfl⟩
 ·have n : ∀ s, isC ts 1 s i = false := fun s => zLv h1
  simp only [n, jB, jE, j0, qLw (i, []) hi hl, qKb, Prod.eta]
  refine ⟨_, rfl, ?_⟩
  unfold qRc
  dsimp only
  rw [if_pos (.inl h1)]
  exact ⟨show (9 : Int) ≠ 0 by decide, i, [], [], hi, rfl⟩
def relI (ts : List Tok) (pr : List ByteArray) (b : List Ex) (r : Flt ⊕ (Nat × List ByteArray)) (o : RL) : Prop :=
 match r with
 | .inl z => ∃ st l, Bad ts z st ∧ o = addL st l
 | .inr q => o = addL (gR ts pr (q.1, b)) q.2
theorem qVd {y5 : RT × ByteArray} {z : Flt} {i : Nat} {pr' : List ByteArray} {b : List Ex} (hz : z.2 ≠ 0) (M : Nat) (l : List ByteArray) : qAz (qBx N y5) (M + 1) (addL (bR ts z i pr' b) l) = some (addL (bR ts z i pr' b) l) := by
 have hz' : ((addL (bR ts z i pr' b) l).2.2.2.1 == 0) = false := by simpa [bR, addL] using hz
 simp only [qAz, qBx, hz', jB, jE, j0]
theorem qTw (hok : OkT ts) (hl : ts.length < 1000000) (hN : 1000005 < N) {y5 : RT × ByteArray} {b : List Ex} : ∀ (n M : Nat) (l : List ByteArray) (i : Nat), i < ts.length → l.length ≤ 8 → ts.length < i + n → ts.length + 2 < i + M →
  ∃ o, qAz (qBx N y5) M (addL (gR ts pr (i, b)) l) = some o ∧ relI ts pr b (qKt ts y5.2 n l i) o
 | 0, M, l, i, hi, _, h, _ => by omega
 | n + 1, 0, l, i, hi, _, _, h => by omega
 | n + 1, M + 1, l, i, hi, hl8, hn, hM => by
  have g0 : ((addL (gR ts pr (i, b)) l).2.2.2.1 == 0) = true := rfl
  have e1 : ∀ st : RT, ∀ l, ((addL st l).1, (addL st l).2.1, (addL st l).2.2.1, (addL st l).2.2.2.1, (addL st l).2.2.2.2.1, (addL st l).2.2.2.2.2.1, (addL st l).2.2.2.2.2.2.1) = st := fun _ _ => rfl
  have e2 : ∀ st : RT, ∀ l, (addL st l).2.2.2.2.2.2.2 = l := fun _ _ => rfl
  have happ : ∀ s : ByteArray, qDx 16 l [s] = some (l ++ [s]) := fun s => qCh (by simp only [jC, jD]; omega) (by omega)
  have hhas : ∀ s, qDf N l s = some (decide (s ∈ l)) := fun s => rhas (by omega) (by omega)
  have bad : ∀ (z : Flt) (i : Nat) (pr' : List ByteArray) (b' : List Ex) (l : List ByteArray), z.2 ≠ 0 → i < ts.length → ∃ o, qAz (qBx N y5) M (addL (bR ts z i pr' b') l) = some o ∧ relI ts pr b (.inl z) o := by
   intro z i pr' b' l hz hi
   obtain ⟨M', rfl⟩ : ∃ M', M = M' + 1 := ⟨M - 1, by omega⟩
   exact ⟨_, qVd hz M' l, _, _, ⟨hz, i, pr', b', hi, rfl⟩, rfl⟩
  -- from the import's name on, behind an error
  have badn : ∀ (z : Flt) (i : Nat) (pr' : List ByteArray) (b' : List Ex), z.2 ≠ 0 → i < ts.length → ∃ o, ((qAk N (bR ts z i pr' b')).bind fun y11 => (qBg N y11.1).bind fun y12 => ((if (y12.1.2.2.2.1 == 0) = true then (if (y12.2.toList == y5.2.toList) = true then (some true) else (qDf N l y12.2)) else (some false)) : Option Bool).bind fun o5 => ((if o5 = true then qAl N y12.1 y11.2.2.2.2 10 else some y12.1) : Option RT).bind fun o6 => (qAh N o6 (⟨#[59]⟩ : ByteArray)).bind fun y15 => (qDx 16 l ([y12.2])).bind fun l1 => qAz (qBx N y5) M (addL y15 l1)) = some o ∧ relI ts pr b (.inl z) o := by
   intro z i pr' b' hz hi
   have hz' : ((bR ts z i pr' b').2.2.2.1 == 0) = false := by simpa [bR] using hz
   simp only [qPg hi, qZo hz hi, j0, hz', jB, jE, qMk hz hi, happ]
   exact bad z i pr' b' _ hz hi
  -- the step
  have step : qAz (qBx N y5) (M + 1) (addL (gR ts pr (i, b)) l) = (if isC ts 1 qTb i = true then
    ((if ((l.length : Int) == 8) = true then some (bR ts ((tkAt ts i).2.2.2, 2) (i + 1) pr b) else some (gR ts pr (i + 1, b))) : Option RT).bind fun st => ((qAk N st).bind fun y11 => (qBg N y11.1).bind fun y12 => ((if (y12.1.2.2.2.1 == 0) = true then (if (y12.2.toList == y5.2.toList) = true then (some true) else (qDf N l y12.2)) else (some false)) : Option Bool).bind fun o5 => ((if o5 = true then qAl N y12.1 y11.2.2.2.2 10 else some y12.1) : Option RT).bind fun o6 => (qAh N o6 (⟨#[59]⟩ : ByteArray)).bind fun y15 => (qDx 16 l ([y12.2])).bind fun l1 => qAz (qBx N y5) M (addL y15 l1))
    else some (addL (gR ts pr (i, b)) l)) := by
   have hk : isC ts 1 qTb i = ((tkAt ts i).1 == 1 && decide ((tkAt ts i).2.1 = (⟨#[105, 109, 112, 111, 114, 116]⟩ : ByteArray))) := rfl
   have hw := qKu (show i < 1000000 by omega)
   simp only [qAz, qBx, g0, jH, e1, e2, qJq (i, b) hi, j0, Prod.eta, qDz, hk]
   rcases qDt ((tkAt ts i).1 == 1) with c1 | c1
   rotate_left
   ·simp only [c1, jB, jE, j0, Bool.false_and]
    rfl
   rcases qDt (decide ((tkAt ts i).2.1 = (⟨#[105, 109, 112, 111, 114, 116]⟩ : ByteArray))) with c2 | c2
   rotate_left
   ·simp only [c1, c2, jB, jE, jH, j0, Bool.and_false]
    rfl
   simp only [c1, c2, jH, j0, Bool.and_true]
   rcases qDt ((l.length : Int) == 8) with c3 | c3
   ·simp only [c3, jH, j0, qJq (i, b) hi, qKb, obs]
    have e3 : ((bR ts ((tkAt ts i).2.2.2, 2) i pr b).1, IntKind.wrap .i64 ((bR ts ((tkAt ts i).2.2.2, 2) i pr b).2.1 + 1), (bR ts ((tkAt ts i).2.2.2, 2) i pr b).2.2.1, (bR ts ((tkAt ts i).2.2.2, 2) i pr b).2.2.2.1, (bR ts ((tkAt ts i).2.2.2, 2) i pr b).2.2.2.2.1, (bR ts ((tkAt ts i).2.2.2, 2) i pr b).2.2.2.2.2.1, (bR ts ((tkAt ts i).2.2.2, 2) i pr b).2.2.2.2.2.2) = bR ts ((tkAt ts i).2.2.2, 2) (i + 1) pr b := by
     show (ts, IntKind.wrap .i64 ((i : Int) + 1), (tkAt ts i).2.2.2, (2 : Int), pr, b, ([] : List Int)) = _
     rw [hw]; rfl
    rw [e3]
    simp only [kY, j0]
    rfl
   ·simp only [c3, jB, jE, j0, obs]
    have e3 : ((gR ts pr (i, b)).1, IntKind.wrap .i64 ((gR ts pr (i, b)).2.1 + 1), (gR ts pr (i, b)).2.2.1, (gR ts pr (i, b)).2.2.2.1, (gR ts pr (i, b)).2.2.2.2.1, (gR ts pr (i, b)).2.2.2.2.2.1, (gR ts pr (i, b)).2.2.2.2.2.2) = gR ts pr (i + 1, b) := by
     show (ts, IntKind.wrap .i64 ((i : Int) + 1), (0 : Int), (0 : Int), pr, b, ([] : List Int)) = _
     rw [hw]; rfl
    rw [e3]
    simp only [kY, j0]
    rfl
  rw [step]
  simp only [qKt]
  rcases qDt (isC ts 1 qTb i) with c1 | c1
  rotate_left
  ·simp only [c1, jB, jE]
   exact ⟨_, rfl, rfl⟩
  have g := qEt hok hi (by decide) c1
  simp only [c1, jH]
  by_cases k2 : l.length = 8
  ·have k2' : ((l.length : Int) == 8) = true := by simp; omega
   rw [if_pos k2]
   simp only [k2', jH, j0, qGi]
   exact badn _ _ _ _ (show (2 : Int) ≠ 0 by decide) g
  have k2' : ((l.length : Int) == 8) = false := by simp; omega
  rw [if_neg k2]
  simp only [k2', jB, jE, j0, qJq (i + 1, b) g, qUv (i + 1, b) g hl (by omega : 100 < N)]
  cases hx : qMv ts (i + 1) with
  | inl z =>
   have hz := zAi hx
   have hz' : ((bR ts z (i + 1) pr b).2.2.2.1 == 0) = false := by simpa [bR] using hz
   simp only [hz', jB, jE, j0, qMk hz g, happ, qCc]
   exact bad _ _ _ _ _ hz g
  | inr x =>
   obtain ⟨rfl, g1, -⟩ := qLt hok g hx
   have g00 : ((gR ts pr (i + 1 + 1, b)).2.2.2.1 == 0) = true := rfl
   simp only [g00, jH, qDz, hhas, qCc]
   by_cases k3 : (tkAt ts (i + 1)).2.1 = y5.2 ∨ (tkAt ts (i + 1)).2.1 ∈ l
   ·rw [if_pos k3]
    have : ((if decide ((tkAt ts (i + 1)).2.1 = y5.2) = true then some true else some (decide ((tkAt ts (i + 1)).2.1 ∈ l))) : Option Bool) = some true := by
     rcases k3 with h | h
     ·rw [if_pos (jM h)]
     ·rw [jM h]; split <;> rfl
    rw [this]
    simp only [j0, jH, qKb, happ, qGi]
    have hz : (((tkAt ts (i + 1)).2.2.2, (10 : Int)) : Flt).2 ≠ 0 := show (10 : Int) ≠ 0 by decide
    simp only [qMk hz g1, j0]
    exact bad _ _ _ _ _ hz g1
   rw [if_neg k3]
   have : ((if decide ((tkAt ts (i + 1)).2.1 = y5.2) = true then some true else some (decide ((tkAt ts (i + 1)).2.1 ∈ l))) : Option Bool) = some false := by
    rw [if_neg (by simp only [jA]; exact fun h => k3 (.inl h)), jQ (fun h => k3 (.inr h))]
   rw [this]
   simp only [j0, jB, jE, qNf (i + 1 + 1, b) g1 hl, happ, qTy]
   cases hj : qEr ts ⟨#[59]⟩ (i + 1 + 1) with
   | inl z => exact bad _ _ _ _ _ (qLv hj) g1
   | inr j =>
    obtain ⟨rfl, g2, -⟩ := qEs hok g1 hj
    exact qTw hok hl hN n M _ (i + 1 + 1 + 1) g2 (by simp only [jL, jC, jD]; omega) (by omega) (by omega)
end
end
section
open Go Go.Dc
section
variable {N : Nat} {ts : List Tok} {pr : List ByteArray}
abbrev RD := List Tok × Int × Int × Int × List ByteArray × List Ex × List Int × List Dl
def addD (st : RT) (l : List Dl) : RD := (st.1, st.2.1, st.2.2.1, st.2.2.2.1, st.2.2.2.2.1, st.2.2.2.2.2.1, st.2.2.2.2.2.2, l)
def relS (ts : List Tok) (r : Flt ⊕ List Dl) (o : RD) : Prop :=
 match r with
 | .inl z => ∃ st l, Bad ts z st ∧ o = addD st l
 | .inr a => ∃ pr p, o = addD (gR ts pr p) a
theorem qYk {y5 : RT × ByteArray} {o2 : RL} {z : Flt} {i : Nat} {pr' : List ByteArray} {b : List Ex} (hz : z.2 ≠ 0) (M : Nat) (l : List Dl) : qAz (qCj N y5 o2) (M + 1) (addD (bR ts z i pr' b) l) = some (addD (bR ts z i pr' b) l) := by
 have hz' : ((addD (bR ts z i pr' b) l).2.2.2.1 == 0) = false := by simpa [bR, addD] using hz
 simp only [qAz, qCj, hz', jB, jE, j0]
theorem qWc (hok : OkT ts) (hl : ts.length < 1000000) (hN : 1000005 < N) {y5 : RT × ByteArray} {o2 : RL} : ∀ (n M : Nat) (l : List Dl) (i : Nat) (pr : List ByteArray) (b : List Ex), i < ts.length → l.length ≤ 64 → ts.length < i + n → ts.length + 2 < i + M →
  ∃ o, qAz (qCj N y5 o2) M (addD (gR ts pr (i, b)) l) = some o ∧ relS ts (qSt ts n l i) o
 | 0, M, l, i, _, _, hi, _, h, _ => by omega
 | n + 1, 0, l, i, _, _, hi, _, _, h => by omega
 | n + 1, M + 1, l, i, pr, b, hi, hl64, hn, hM => by
  have g0 : ((addD (gR ts pr (i, b)) l).2.2.2.1 == 0) = true := rfl
  have e1 : ∀ st : RT, ∀ l, ((addD st l).1, (addD st l).2.1, (addD st l).2.2.1, (addD st l).2.2.2.1, (addD st l).2.2.2.2.1, (addD st l).2.2.2.2.2.1, (addD st l).2.2.2.2.2.2.1) = st := fun _ _ => rfl
  have e2 : ∀ st : RT, ∀ l, (addD st l).2.2.2.2.2.2.2 = l := fun _ _ => rfl
  simp only [qAz, qCj, g0, jH, e1, e2, qJq (i, b) hi, j0, Prod.eta, qSt]
  by_cases k1 : (tkAt ts i).1 = 5
  ·have k1' : ((tkAt ts i).1 != 5) = false := by simp [k1]
   rw [if_pos k1]
   simp only [k1', jB, jE, j0]
   exact ⟨_, rfl, pr, (i, b), rfl⟩
  have k1' : ((tkAt ts i).1 != 5) = true := by simp [k1]
  rw [if_neg k1]
  simp only [k1', jH]
  obtain ⟨o, ho, hr⟩ := rdecl (N := N) (pr := pr) (f := (y5.2, o2.2.2.2.2.2.2.2, l)) hok hl hN hl64 i b hi
  simp only [ho, j0]
  rw [qCh (by simp only [jC, jD]; omega) (by omega)]
  simp only [j0]
  cases hd : qRc ts l i with
  | inl z =>
   rw [show qRc ts (y5.2, o2.2.2.2.2.2.2.2, l).2.2 i = qRc ts l i from rfl, hd] at hr
   obtain ⟨hz, j, pr', b', hj, ho1⟩ := hr
   obtain ⟨M', rfl⟩ : ∃ M', M = M' + 1 := ⟨M - 1, by omega⟩
   rw [ho1]
   exact ⟨_, qYk hz M' _, _, _, ⟨hz, j, pr', b', hj, rfl⟩, rfl⟩
  | inr a =>
   rw [show qRc ts (y5.2, o2.2.2.2.2.2.2.2, l).2.2 i = qRc ts l i from rfl, hd] at hr
   obtain ⟨g1, g2, g3⟩ := qTs hok hi hd
   have hr' : o = (gR ts a.2.2.2.1 (a.1, a.2.2.2.2), a.2) := hr
   rw [hr']
   exact qWc hok hl hN n M (l ++ [a.2]) a.1 _ _ g2 (by simp only [jL, jC, jD]; omega) (by omega) (by omega)
theorem rfile (hok : OkT ts) (hl : ts.length < 1000000) (hN : 1000005 < N) :
  ((qBk N (ts, 0, 0, 0, [], [], []) (⟨#[112, 97, 99, 107, 97, 103, 101]⟩ : ByteArray)).bind fun y2 => ((if (!y2.2) = true then ((qAk N y2.1).bind fun y3 => qAl N y3.1 y3.2.2.2.2 9) else (some y2.1)) : Option RT).bind fun o1 => (qBg N o1).bind fun y5 => (qAh N y5.1 (⟨#[59]⟩ : ByteArray)).bind fun y6 => (qAz (qBx N y5) N (addL y6 [])).bind fun o2 => (qAz (qCj N y5 o2) N (o2.1, o2.2.1, o2.2.2.1, o2.2.2.2.1, o2.2.2.2.2.1, o2.2.2.2.2.2.1, o2.2.2.2.2.2.2.1, [])).bind fun o7 => if (o7.2.2.2.1 != 0) = true then (some (qVr, o7.2.2.1, o7.2.2.2.1)) else (some (((y5.2, o2.2.2.2.2.2.2.2, o7.2.2.2.2.2.2.2) : Sr), (0 : Int), (0 : Int)))) = some (match qZx ts with | .inl z => (qVr, z.1, z.2) | .inr f => (f, 0, 0)) := by
 have h0 : 0 < ts.length := gM.2 hok.1
 obtain ⟨M, hM⟩ : ∃ M, N = M + 1 := ⟨N - 1, by omega⟩
 have e0 : ((ts, (0 : Int), (0 : Int), (0 : Int), [], [], []) : RT) = gR ts [] (0, []) := rfl
 -- the loops behind an error
 have badD : ∀ (y5 : RT × ByteArray) (o2 : RL) (z : Flt) (st : RT), Bad ts z st → ((qAz (qCj N y5 o2) N (addD st [])).bind fun o7 => if (o7.2.2.2.1 != 0) = true then (some (qVr, o7.2.2.1, o7.2.2.2.1)) else (some (((y5.2, o2.2.2.2.2.2.2.2, o7.2.2.2.2.2.2.2) : Sr), (0 : Int), (0 : Int)))) = some (qVr, z.1, z.2) := by
  rintro y5 o2 z st ⟨hz, i, pr', b, hi, rfl⟩
  have hb : qAz (qCj N y5 o2) N (addD (bR ts z i pr' b) []) = some (addD (bR ts z i pr' b) []) := by
   have e : qAz (qCj N y5 o2) N (addD (bR ts z i pr' b) []) = qAz (qCj N y5 o2) (M + 1) (addD (bR ts z i pr' b) []) := by rw [← hM]
   rw [e]; exact qYk hz M []
  have hz' : ((addD (bR ts z i pr' b) []).2.2.2.1 != 0) = true := by simpa [bR, addD] using hz
  rw [hb]
  simp only [j0, hz', jH]
  rfl
 have badI : ∀ (y5 : RT × ByteArray) (z : Flt) (i : Nat) (pr' : List ByteArray) (b : List Ex), z.2 ≠ 0 → i < ts.length → ((qAz (qBx N y5) N (addL (bR ts z i pr' b) [])).bind fun o2 => (qAz (qCj N y5 o2) N (o2.1, o2.2.1, o2.2.2.1, o2.2.2.2.1, o2.2.2.2.2.1, o2.2.2.2.2.2.1, o2.2.2.2.2.2.2.1, [])).bind fun o7 => if (o7.2.2.2.1 != 0) = true then (some (qVr, o7.2.2.1, o7.2.2.2.1)) else (some (((y5.2, o2.2.2.2.2.2.2.2, o7.2.2.2.2.2.2.2) : Sr), (0 : Int), (0 : Int)))) = some (qVr, z.1, z.2) := by
  intro y5 z i pr' b hz hi
  have hb : qAz (qBx N y5) N (addL (bR ts z i pr' b) []) = some (addL (bR ts z i pr' b) []) := by
   have e : qAz (qBx N y5) N (addL (bR ts z i pr' b) []) = qAz (qBx N y5) (M + 1) (addL (bR ts z i pr' b) []) := by rw [← hM]
   rw [e]; exact qVd hz M []
  rw [hb]
  simp only [j0]
  exact badD y5 (addL (bR ts z i pr' b) []) z (bR ts z i pr' b) ⟨hz, i, pr', b, hi, rfl⟩
 have bad : ∀ (z : Flt) (i : Nat) (pr' : List ByteArray) (b : List Ex), z.2 ≠ 0 → i < ts.length → ((qBg N (bR ts z i pr' b)).bind fun y5 => (qAh N y5.1 (⟨#[59]⟩ : ByteArray)).bind fun y6 => (qAz (qBx N y5) N (addL y6 [])).bind fun o2 => (qAz (qCj N y5 o2) N (o2.1, o2.2.1, o2.2.2.1, o2.2.2.2.1, o2.2.2.2.2.1, o2.2.2.2.2.2.1, o2.2.2.2.2.2.2.1, [])).bind fun o7 => if (o7.2.2.2.1 != 0) = true then (some (qVr, o7.2.2.1, o7.2.2.2.1)) else (some (((y5.2, o2.2.2.2.2.2.2.2, o7.2.2.2.2.2.2.2) : Sr), (0 : Int), (0 : Int)))) = some (qVr, z.1, z.2) := by
  intro z i pr' b hz hi
  simp only [qZo hz hi, qMk hz hi, j0]
  exact badI _ z i pr' b hz hi
 rw [e0]
 simp only [qLw (0, []) h0 hl, j0, qZx, qUc, qTx]
 rcases qDt (isC ts 1 ⟨#[112, 97, 99, 107, 97, 103, 101]⟩ 0) with c1 | c1
 rotate_left
 ·simp only [c1, jB, jE, jU, jH, qJq (0, []) h0, qKb, j0, qGi, qCc]
  exact bad _ _ _ _ (show (9 : Int) ≠ 0 by decide) h0
 have g1 := qEt hok h0 (by decide) c1
 simp only [c1, jH, k7, jB, jE, j0, qUv (0 + 1, []) g1 hl (by omega : 100 < N), qCc]
 cases h2 : qMv ts (0 + 1) with
 | inl z =>
  have hz := zAi h2
  simp only [qMk hz g1, j0]
  exact badI _ z _ _ _ hz g1
 | inr x =>
  obtain ⟨rfl, g2, -⟩ := qLt hok g1 h2
  simp only [qNf (0 + 1 + 1, []) g2 hl, j0, qTy]
  cases h3 : qEr ts ⟨#[59]⟩ (0 + 1 + 1) with
  | inl z => exact badI _ z _ _ _ (qLv h3) g2
  | inr j =>
   obtain ⟨rfl, g3, -⟩ := qEs hok g2 h3
   obtain ⟨o, ho, hr⟩ := qTw (N := N) (pr := []) (b := []) (y5 := (gR ts [] (0 + 1 + 1, []), (tkAt ts (0 + 1)).2.1)) hok hl hN (ts.length + 1) N [] (0 + 1 + 1 + 1) g3 (by simp) (by omega) (by omega)
   simp only [ho, j0]
   cases h4 : qKt ts (tkAt ts (0 + 1)).2.1 (ts.length + 1) [] (0 + 1 + 1 + 1) with
   | inl z =>
    rw [show qKt ts ((gR ts [] (0 + 1 + 1, []), (tkAt ts (0 + 1)).2.1) : RT × ByteArray).2 (ts.length + 1) [] (0 + 1 + 1 + 1) = qKt ts (tkAt ts (0 + 1)).2.1 (ts.length + 1) [] (0 + 1 + 1 + 1) from rfl, h4] at hr
    obtain ⟨st, l, hbad, rfl⟩ := hr
    exact badD _ (addL st l) z st hbad
   | inr y =>
    rw [show qKt ts ((gR ts [] (0 + 1 + 1, []), (tkAt ts (0 + 1)).2.1) : RT × ByteArray).2 (ts.length + 1) [] (0 + 1 + 1 + 1) = qKt ts (tkAt ts (0 + 1)).2.1 (ts.length + 1) [] (0 + 1 + 1 + 1) from rfl, h4] at hr
    have hr' : o = addL (gR ts [] (y.1, [])) y.2 := hr
    obtain ⟨k1, k2, k3⟩ := qPc hok _ _ _ y g3 (by simp) h4
    obtain ⟨o2, ho2, hr2⟩ := qWc (N := N) (y5 := (gR ts [] (0 + 1 + 1, []), (tkAt ts (0 + 1)).2.1)) (o2 := o) hok hl hN (ts.length + 1) N [] y.1 [] [] k2 (by simp) (by omega) (by omega)
    have e3 : (o.1, o.2.1, o.2.2.1, o.2.2.2.1, o.2.2.2.2.1, o.2.2.2.2.2.1, o.2.2.2.2.2.2.1, ([] : List Dl)) = addD (gR ts [] (y.1, [])) [] := by rw [hr']; rfl
    rw [e3, ho2]
    simp only [j0]
    cases h5 : qSt ts (ts.length + 1) [] y.1 with
    | inl z =>
     rw [h5] at hr2
     obtain ⟨st, l, ⟨hz, i, pr', b, hi, rfl⟩, rfl⟩ := hr2
     have hz' : ((addD (bR ts z i pr' b) l).2.2.2.1 != 0) = true := by simpa [bR, addD] using hz
     simp only [hz', jH]
     rfl
    | inr l =>
     rw [h5] at hr2
     obtain ⟨pr', p', rfl⟩ := hr2
     have hz' : ((addD (gR ts pr' p') l).2.2.2.1 != 0) = false := rfl
     simp only [hz', jB, jE]
     rw [hr']
     rfl
end
theorem zEg {N : Nat} (s : ByteArray) (hN : 1000005 < N) : qIx N s = some (qJy s) := by
 simp only [qIx, zCg (N := N) (by omega), j0, qJy]
 by_cases h : (qHk s).2.2 = 0
 ·rw [if_neg (show ¬ ((qHk s).2.2 != 0) = true by simpa using h), if_neg (show ¬ (qHk s).2.2 ≠ 0 by simpa using h)]
  obtain ⟨h1, h2, h3⟩ := qUr h
  have hf := rfile (N := N) h1 (by omega) hN
  refine Eq.trans ?_ (Eq.trans hf ?_)
  ·simp only [Prod.eta, obs]; rfl
  ·cases qZx (qHk s).1 <;> rfl
 ·rw [if_pos (show ((qHk s).2.2 != 0) = true by simpa using h), if_pos h]; rfl
end
section
open Go Go.Dc Go.Proofs
def qVo {α τ : Type} (g : Nat → τ → α → τ) : Nat → τ → List α → τ
 | _, t, [] => t
 | i, t, x :: l => qVo g (i + 1) (g i t x) l
theorem qUe {α τ σ β : Type} {L : List α} (enc : τ → Nat → σ) {f : σ → Option (σ ⊕ β)} (g : Nat → τ → α → τ) (fin : τ → β)
  (hstep : ∀ t i, ∀ hi : i < L.length, f (enc t i) = some (.inl (enc (g i t L[i]) (i + 1))))
  (hfin : ∀ t, f (enc t L.length) = some (.inr (fin t))) : ∀ (d i M : Nat) (t : τ), i + d = L.length → d < M → qAz f M (enc t i) = some (fin (qVo g i t (L.drop i)))
 | _, _, 0, _, _, h => absurd h (kU _)
 | 0, i, M + 1, t, h1, h2 => by
  have hi : i = L.length := by omega
  subst hi
  simp only [qAz, hfin t, j0, List.drop_length, qVo]
 | d + 1, i, M + 1, t, h1, h2 => by
  have hi : i < L.length := by omega
  simp only [qAz, hstep t i hi, j0]
  rw [qUp hi]
  exact qUe enc g fin hstep hfin d (i + 1) M _ (by omega) (by omega)
abbrev Ent := ByteArray × ByteArray × Int × ByteArray × Int × Int
abbrev K3 := Int × ByteArray × ByteArray
abbrev Occ := ByteArray × ByteArray × Int × ByteArray × Int
def keyC (kind : Int) (pkg name : ByteArray) : K3 := (kind, if kind = 3 then qLe else pkg, name)
def okey (o : Occ) : K3 := keyC o.2.2.1 o.1 o.2.1
def qPf (M : List (K3 × Ent)) (o : Occ) : List (K3 × Ent) :=
 mset M (okey o) (match mget M (okey o) with
  | some x => (x.1, x.2.1, x.2.2.1, x.2.2.2.1, x.2.2.2.2.1, IntKind.wrap .i64 (x.2.2.2.2.2 + 1))
  | none => (o.1, o.2.1, o.2.2.1, o.2.2.2.1, o.2.2.2.2, 1))
def qQc (path pkg : ByteArray) : Nat → List Dl → List Occ
 | _, [] => []
 | i, d :: l => (pkg, d.2.1, d.1, path, (i : Int)) :: qQc path pkg (i + 1) l
def qVq (f : File) : Bool := qIi f.1 && decide ((qJy f.2).2.2 = 0)
def qKm (L : List File) : List (ByteArray × Sr) := (L.filter qVq).map fun f => (f.1, (qJy f.2).1)
def qMx (L : List File) : List ByteArray := (L.filter fun f => qIi f.1 && !decide ((qJy f.2).2.2 = 0)).map (·.1)
def qTi (l : List (ByteArray × Sr)) : List Occ := l.flatMap fun x => qQc x.1 x.2.1 0 x.2.2.2
abbrev Wld := List File × Bool × Option (List (ByteArray × Sr)) × List ByteArray × Option (List (K3 × Ent))
def qKv (L : List File) : Wld :=
 if qKs L = 0 then (L, true, some ((qKm L).foldl (fun S x => mset S x.1 x.2) []), qMx L, some ((qTi (qKm L)).foldl qPf [])) else (L, false, some [], [], some [])
theorem qZf (path pkg : ByteArray) : ∀ (l : List Dl) (i : Nat) (M : List (K3 × Ent)),
  qVo (fun i M (d : Dl) => qPf M (pkg, d.2.1, d.1, path, (i : Int))) i M l = (qQc path pkg i l).foldl qPf M
 | [], _, _ => rfl
 | d :: l, i, M => by simp only [qVo, qQc, kI]; exact qZf path pkg l (i + 1) _
theorem qVf {N : Nat} (a : Int) (b c : ByteArray) : qQg N a b c = some (keyC a b c) := by
 unfold qQg keyC
 by_cases h : a = 3
 ·rw [if_pos (by simp [h]), if_pos h]; rfl
 ·rw [if_neg (by simp [h]), if_neg h]; rfl
theorem zGe {N : Nat} {x : File} {y : Sr × Int × Int} (hl : y.1.2.2.length < 1000) (hN : 1000 < N) (M : List (K3 × Ent)) :
  qAz (qLc N x y) N (0, some M) = some (some ((qQc x.1 y.1.1 0 y.1.2.2).foldl qPf M)) := by
 have := qUe (L := y.1.2.2) (fun (M : List (K3 × Ent)) i => ((i : Int), some M)) (f := qLc N x y)
  (fun i M (d : Dl) => qPf M (y.1.1, d.2.1, d.1, x.1, (i : Int))) (fun M => some M) (by
   intro M i hi
   simp only [qLc]
   rw [if_pos (by simp only [jA]; omega), qFt hi]
   simp only [j0, qVf]
   have e1 : ∀ k : K3, ((k.1, k.2.1, k.2.2) : K3) = k := fun _ => rfl
   have ew : IntKind.wrap .i64 ((i : Int) + 1) = ((i + 1 : Nat) : Int) := by rw [wi64 (by omega) (by omega)]; omega
   simp only [e1, qBc, qLl, j0, kC, ew]
   unfold qPf okey
   simp only
   cases h : mget M (keyC (y.1.2.2[i]).1 y.1.1 (y.1.2.2[i]).2.1) with
   | none => rw [if_neg (by simp)]; rfl
   | some v => rw [if_pos (show (some v : Option Ent).isSome = true from rfl)]; rfl) (by
   intro M
   simp only [qLc]
   rw [if_neg (by simp)]) y.1.2.2.length 0 N M (by omega) (by omega)
 rw [jZ, qZf] at this
 exact this
theorem qZi {ts : List Tok} (h : OkT ts) : ∀ (n : Nat) (l : List Dl) (i : Nat) {r : List Dl}, l.length ≤ 64 → i < ts.length → qSt ts n l i = .inr r → r.length ≤ 64
 | 0, _, _, _, _, _, h1 => by cases h1
 | n + 1, l, i, r, hl, hi, h1 => by
  unfold qSt at h1
  split at h1
  ·cases h1; exact hl
  obtain ⟨x, hx, h2⟩ := qDa h1
  obtain ⟨-, g2, g3⟩ := qTs h hi hx
  exact qZi h n _ _ (by simp; omega) g2 h2
theorem qUo {s : ByteArray} : (qJy s).1.2.2.length ≤ 64 := by
 unfold qJy
 by_cases h0 : (qHk s).2.2 = 0
 ·rw [if_neg (not_not_intro h0)]
  obtain ⟨hok, hlen, hsz⟩ := qUr h0
  have hpos : 0 < (qHk s).1.length := by
   cases h : (qHk s).1 with
   | nil => exact absurd h hok.1
   | cons a l => exact Nat.succ_pos _
  cases hf : qZx (qHk s).1 with
  | inl z => exact gK _
  | inr f =>
   simp only
   unfold qZx at hf
   obtain ⟨i, h1, hf⟩ := qDa hf
   obtain ⟨rfl, g1, -⟩ := qSf hok hpos h1
   obtain ⟨a, h2, hf⟩ := qDa hf
   obtain ⟨rfl, g2, -⟩ := qLt hok g1 h2
   obtain ⟨j, h3, hf⟩ := qDa hf
   obtain ⟨rfl, g3, -⟩ := qEs hok g2 h3
   obtain ⟨b, h4, hf⟩ := qDa hf
   obtain ⟨-, k2, -⟩ := qPc hok _ _ _ b g3 (by simp) h4
   obtain ⟨l, h5, hf⟩ := qDa hf
   have := qZi hok _ _ _ (by simp) k2 h5
   cases hf
   exact this
 ·rw [if_pos h0]; exact gK _
def newF (t : List ByteArray × List (ByteArray × Sr) × List (K3 × Ent)) (f : File) : List ByteArray × List (ByteArray × Sr) × List (K3 × Ent) :=
 if qIi f.1 = false then t
 else if (qJy f.2).2.2 = 0 then (t.1, mset t.2.1 f.1 (qJy f.2).1, (qQc f.1 (qJy f.2).1.1 0 (qJy f.2).1.2.2).foldl qPf t.2.2)
 else (t.1 ++ [f.1], t.2)
theorem qTl : ∀ (L : List File) (B : List ByteArray) (S : List (ByteArray × Sr)) (M : List (K3 × Ent)),
  L.foldl newF (B, S, M) = (B ++ qMx L, (qKm L).foldl (fun S x => mset S x.1 x.2) S, (qTi (qKm L)).foldl qPf M)
 | [], B, S, M => by simp [qMx, qKm, qTi]
 | f :: L, B, S, M => by
  rw [kI]
  by_cases h1 : qIi f.1 = true
  ·by_cases h2 : (qJy f.2).2.2 = 0
   ·have e : newF (B, S, M) f = (B, mset S f.1 (qJy f.2).1, (qQc f.1 (qJy f.2).1.1 0 (qJy f.2).1.2.2).foldl qPf M) := by
     unfold newF; rw [if_neg (by simp [h1]), if_pos h2]
    have el : qKm (f :: L) = (f.1, (qJy f.2).1) :: qKm L := by
     unfold qKm; rw [kN, if_pos (show qVq f = true by simp [qVq, h1, h2])]; rfl
    have eb : qMx (f :: L) = qMx L := by
     unfold qMx; rw [kN, if_neg (by simp [h2])]
    rw [e, qTl L, el, eb]
    simp only [kI, qTi, List.flatMap_cons, fH]
   ·have e : newF (B, S, M) f = (B ++ [f.1], S, M) := by
     unfold newF; rw [if_neg (by simp [h1]), if_neg h2]
    have el : qKm (f :: L) = qKm L := by
     unfold qKm; rw [kN, if_neg (by simp [qVq, h2])]
    have eb : qMx (f :: L) = f.1 :: qMx L := by
     unfold qMx; rw [kN, if_pos (by simp [h1, h2])]; rfl
    rw [e, qTl L, el, eb]
    simp
  ·have h1 : qIi f.1 = false := by simpa using h1
   have e : newF (B, S, M) f = (B, S, M) := by unfold newF; rw [if_pos h1]
   have el : qKm (f :: L) = qKm L := by
    unfold qKm; rw [kN, if_neg (by simp [qVq, h1])]
   have eb : qMx (f :: L) = qMx L := by
    unfold qMx; rw [kN, if_neg (by simp [h1])]
   rw [e, qTl L, el, eb]
theorem zGs {N : Nat} {L : List File} (hP : qSz N L) (hl : L.length ≤ 64) (hN : 1000001 < N) :
  qAz (qLa N L) N (0, [], some [], some []) = some (qMx L, some ((qKm L).foldl (fun S x => mset S x.1 x.2) []), some ((qTi (qKm L)).foldl qPf [])) := by
 have h := qYr (L := L) (fun (t : List ByteArray × List (ByteArray × Sr) × List (K3 × Ent)) (i : Nat) => ((i : Int), t.1, some t.2.1, some t.2.2)) (f := qLa N L)
  (fun t f => .inl (newF t f)) (fun t => (t.1, some t.2.1, some t.2.2)) (fun i t => t.1.length ≤ i) (by
   intro t i hi hI
   simp only [qLa]
   rw [if_pos (by simp only [jA]; omega), qFt hi]
   have ew : IntKind.wrap .i64 ((i : Int) + 1) = ((i + 1 : Nat) : Int) := by rw [wi64 (by omega) (by omega)]; omega
   have hs := zDo (N := N) (hP _ (kG hi))
   simp only [j0, hs, zLh _ hN, ew]
   unfold newF
   by_cases h1 : qIi (L[i]).1 = true
   ·by_cases h2 : (qJy (L[i]).2).2.2 = 0
    ·rw [if_neg (by simp [h1]), if_neg (by simp [h2]), if_neg (by simp [h1]), if_pos h2, zGe (by have := qUo (s := (L[i]).2); omega) (by omega)]
     simp only [qLl, kC, j0]
    ·rw [if_neg (by simp [h1]), if_pos (by simpa using h2), if_neg (by simp [h1]), if_neg h2, qCh (by simp only [jC, jD]; omega) (by omega)]
     simp only [j0]
   ·have h1 : qIi (L[i]).1 = false := by simpa using h1
    rw [if_pos (by simp [h1]), if_pos h1]
    simp only [j0]) (by
   intro t i hi t' hI h
   cases h
   unfold newF
   split
   ·omega
   ·split
    ·exact Nat.le_succ_of_le hI
    ·simp only [jL, jC, jD]; omega) (by
   intro t hI
   simp only [qLa]
   rw [if_neg (by simp)]) (M := N) (t := ([], [], [])) (by omega) (gK _)
 rw [show ((0 : Nat) : Int) = 0 from rfl] at h
 rw [h, qZq newF (fun _ _ => rfl), qTl]
 simp only [kD]
theorem zLp {N : Nat} {L : List File} (hP : qSz N L) (hN : 1000001 < N) : qQb N L = some (qKv L) := by
 simp only [qQb, zLg hP (show 100 < N by omega), j0]
 unfold qKv
 by_cases hc : qKs L = 0
 ·rw [if_neg (by simp [hc]), if_pos hc, zGs hP (qNp.1 hc).1 hN]
  simp only [j0, hc]; rfl
 ·rw [if_pos (by simpa using hc), if_neg hc]
  simp only [show (qKs L == 0) = false by simpa using hc]
def seeE (kind : Int) (pkg name : ByteArray) (e : Ent) (o : Occ) : Ent :=
 if okey o = keyC kind pkg name then (if e.2.2.2.2.2 = 0 then (o.1, name, kind, o.2.2.2.1, o.2.2.2.2, 1) else (e.1, e.2.1, e.2.2.1, e.2.2.2.1, e.2.2.2.2.1, e.2.2.2.2.2 + 1)) else e
def noE (kind : Int) (pkg name : ByteArray) : Ent := (if kind = 3 then qLe else pkg, name, kind, qLe, 0, 0)
def entE (O : List Occ) (kind : Int) (pkg name : ByteArray) : Ent := O.foldl (seeE kind pkg name) (noE kind pkg name)
theorem zAk {k k' : Int} {p p' n n' : ByteArray} (h : keyC k p n = keyC k' p' n') : k = k' ∧ n = n' ∧ (k = 3 ∨ p = p') := by
 simp only [keyC, Prod.mk.injEq] at h
 obtain ⟨rfl, h2, h3⟩ := h
 refine ⟨rfl, h3, ?_⟩
 by_cases h : k = 3
 ·exact .inl h
 ·rw [if_neg h, if_neg h] at h2; exact .inr h2
def MapE (M : List (K3 × Ent)) (O : List Occ) : Prop :=
 (M.map (·.1)).Nodup ∧ ∀ kind pkg name, mget M (keyC kind pkg name) = if (entE O kind pkg name).2.2.2.2.2 = 0 then none else some (entE O kind pkg name)
theorem qUg (kind : Int) (pkg name : ByteArray) : ∀ (O : List Occ), 0 ≤ (entE O kind pkg name).2.2.2.2.2 ∧ (entE O kind pkg name).2.2.2.2.2 ≤ O.length ∧ ((entE O kind pkg name).2.2.2.2.2 = 0 → entE O kind pkg name = noE kind pkg name) := by
 suffices h : ∀ (O : List Occ) (e : Ent) (b : Nat), 0 ≤ e.2.2.2.2.2 ∧ e.2.2.2.2.2 ≤ b ∧ (e.2.2.2.2.2 = 0 → e = noE kind pkg name) →
   0 ≤ (O.foldl (seeE kind pkg name) e).2.2.2.2.2 ∧ (O.foldl (seeE kind pkg name) e).2.2.2.2.2 ≤ (b + O.length : Nat) ∧ ((O.foldl (seeE kind pkg name) e).2.2.2.2.2 = 0 → O.foldl (seeE kind pkg name) e = noE kind pkg name) by
  intro O
  have := h O (noE kind pkg name) 0 ⟨Int.le_refl _, Int.le_refl _, fun _ => rfl⟩
  rw [gC] at this
  exact this
 intro O
 induction O with
 | nil => intro e b h; exact h
 | cons o O ih =>
  intro e b h
  rw [kI]
  have := ih (seeE kind pkg name e o) (b + 1) (by
   unfold seeE
   split
   ·split
    ·exact ⟨(by show (0 : Int) ≤ 1; decide), by show (1 : Int) ≤ _; omega, fun h => by simp at h⟩
    ·rename_i hc
     refine ⟨by show (0 : Int) ≤ e.2.2.2.2.2 + 1; omega, by show e.2.2.2.2.2 + 1 ≤ _; omega, fun h1 => ?_⟩
     have h1 : e.2.2.2.2.2 + 1 = 0 := h1
     omega
   ·exact ⟨h.1, by omega, h.2.2⟩)
  rw [jC, show b + (O.length + 1) = b + 1 + O.length by omega]
  exact this
theorem MapE.step {M : List (K3 × Ent)} {O : List Occ} (h : MapE M O) (hO : O.length < 1000000) (o : Occ) : MapE (qPf M o) (O ++ [o]) := by
 refine ⟨zEv h.1 _ _, fun kind pkg name => ?_⟩
 have hb := qUg kind pkg name O
 have hE : entE (O ++ [o]) kind pkg name = seeE kind pkg name (entE O kind pkg name) o := by
  unfold entE; rw [fH]; rfl
 unfold qPf
 rw [zGz h.1, hE]
 by_cases hk : keyC kind pkg name = okey o
 ·rw [if_pos hk, ← hk, h.2 kind pkg name]
  unfold seeE
  rw [if_pos hk.symm]
  obtain ⟨e1, e2, e3⟩ := zAk hk
  by_cases hc : (entE O kind pkg name).2.2.2.2.2 = 0
  ·rw [if_pos hc, if_pos hc, if_neg (show ¬ (1 : Int) = 0 by decide), ← e1, ← e2]
  ·rw [if_neg hc, if_neg hc, if_neg (show ¬ (entE O kind pkg name).2.2.2.2.2 + 1 = 0 by omega)]
   simp only [wi64 (show -9223372036854775808 ≤ (entE O kind pkg name).2.2.2.2.2 + 1 by omega) (by omega)]
 ·have hs : seeE kind pkg name (entE O kind pkg name) o = entE O kind pkg name := by unfold seeE; rw [if_neg (fun e => hk e.symm)]
  rw [if_neg hk, h.2 kind pkg name, hs]
theorem MapE.fold {O : List Occ} (hO : O.length < 1000000) : MapE (O.foldl qPf []) O := by
 suffices h : ∀ (K : List Occ) (M : List (K3 × Ent)) (J : List Occ), J.length + K.length < 1000000 → MapE M J → MapE (K.foldl qPf M) (J ++ K) by
  have := h O [] [] (by simpa using hO) ⟨List.nodup_nil, fun kind pkg name => by rw [show (entE [] kind pkg name).2.2.2.2.2 = 0 from rfl, if_pos rfl]; rfl⟩
  exact this
 intro K
 induction K with
 | nil => intro M J _ h; rw [List.append_nil]; exact h
 | cons o K ih =>
  intro M J hl h
  rw [kI, show J ++ o :: K = (J ++ [o]) ++ K by simp]
  simp only [jC] at hl
  exact ih _ _ (by simp; omega) (h.step (by omega) o)
theorem zCu (path pkg : ByteArray) : ∀ (l : List Dl) (i : Nat), (qQc path pkg i l).length = l.length
 | [], _ => rfl
 | _ :: l, i => by simp only [qQc, jC, zCu path pkg l]
theorem zBe {L : List File} {x : ByteArray × Sr} (h : x ∈ qKm L) : ∃ f ∈ L, qVq f = true ∧ x = (f.1, (qJy f.2).1) := by
 unfold qKm at h
 obtain ⟨f, hf, rfl⟩ := fJ.1 h
 exact ⟨f, (List.mem_filter.1 hf).1, (List.mem_filter.1 hf).2, rfl⟩
theorem zBi (L : List File) : (qKm L).length ≤ L.length := by
 unfold qKm; rw [gI]; exact List.length_filter_le _ _
theorem zBm : ∀ (l : List (ByteArray × Sr)), (∀ x ∈ l, x.2.2.2.length ≤ 64) → (qTi l).length ≤ 64 * l.length
 | [], _ => jW _
 | x :: l, h => by
  have := zBm l fun y hy => h y (jY _ hy)
  have := h x (jT ..)
  unfold qTi at *
  rw [List.flatMap_cons, jL, zCu, jC]
  omega
theorem zHq {L : List File} (hl : L.length ≤ 64) : (qTi (qKm L)).length < 1000000 := by
 have := zBm (qKm L) fun x hx => by
  obtain ⟨f, _, _, rfl⟩ := zBe hx
  exact qUo
 have := zBi L
 omega
def qXe : Ent := (qLe, qLe, 0, qLe, 0, 0)
def qJm (L : List File) (kind : Int) (pkg name : ByteArray) : Ent := if qKs L = 0 then entE (qTi (qKm L)) kind pkg name else qXe
theorem zAh {N : Nat} {L : List File} (kind : Int) (pkg name : ByteArray) : qIe N (qKv L) kind pkg name = some (qJm L kind pkg name) := by
 unfold qIe qKv qJm
 by_cases hc : qKs L = 0
 ·simp only [if_pos hc]
  rw [if_neg (by simp)]
  simp only [qVf, j0]
  have e1 : ∀ k : K3, ((k.1, k.2.1, k.2.2) : K3) = k := fun _ => rfl
  simp only [e1, qBc, j0]
  have hM := (MapE.fold (zHq (qNp.1 hc).1)).2 kind pkg name
  have hb := qUg kind pkg name (qTi (qKm L))
  rw [hM]
  by_cases h0 : (entE (qTi (qKm L)) kind pkg name).2.2.2.2.2 = 0
  ·rw [if_pos h0, if_neg (by simp), hb.2.2 h0]; rfl
  ·rw [if_neg h0, if_pos (show (some (entE (qTi (qKm L)) kind pkg name)).isSome = true from rfl)]; rfl
 ·simp only [if_neg hc]
  rw [if_pos (show (!false) = true from rfl)]; rfl
end
section
open Go Go.Dc Go.Proofs
theorem qTg {α τ σ β : Type} {L : List α} (enc : τ → Nat → σ) {f : σ → Option (σ ⊕ β)} (g : Nat → τ → α → τ) (fin : τ → β) (I : Nat → τ → Prop)
  (hstep : ∀ t i, ∀ hi : i < L.length, I i t → f (enc t i) = some (.inl (enc (g i t L[i]) (i + 1))) ∧ I (i + 1) (g i t L[i]))
  (hfin : ∀ t, I L.length t → f (enc t L.length) = some (.inr (fin t))) : ∀ (d i M : Nat) (t : τ), i + d = L.length → d < M → I i t → qAz f M (enc t i) = some (fin (qVo g i t (L.drop i))) ∧ I L.length (qVo g i t (L.drop i))
 | _, _, 0, _, _, h, _ => absurd h (kU _)
 | 0, i, M + 1, t, h1, h2, h3 => by
  have hi : i = L.length := by omega
  subst hi
  simp only [qAz, hfin t h3, j0, List.drop_length, qVo]
  exact ⟨trivial, h3⟩
 | d + 1, i, M + 1, t, h1, h2, h3 => by
  have hi : i < L.length := by omega
  obtain ⟨k1, k2⟩ := hstep t i hi h3
  simp only [qAz, k1, j0]
  rw [qUp hi]
  exact qTg enc g fin I hstep hfin d (i + 1) M _ (by omega) (by omega) k2
def srcP (L : List File) (p : ByteArray) : Sr × Bool := match (if qKs L = 0 then fget L p else none) with
 | some b => if qIi p = true then ((qJy b).1, decide ((qJy b).2.2 = 0)) else (qVr, false)
 | none => (qVr, false)
theorem zBz {N : Nat} {L : List File} {p : ByteArray} (hN : 1000005 < N) : qIk N L p = some (srcP L p) := by
 simp only [qIk, zGp p (show 100 < N by omega), j0, qXz (show 100 < N by omega), zEg _ hN]
 unfold srcP zLy
 by_cases hc : qKs L = 0
 ·rw [if_pos hc, if_pos hc]
  cases hg : fget L p with
  | none => rfl
  | some b =>
   simp only [zIm]
   by_cases hs : qIi p = true
   ·rw [if_pos hs, hs]
    simp only [k7, jB, jE, j0]
    congr 2
   ·have hs' : qIi p = false := by simpa using hs
    rw [if_neg hs, hs']
    rfl
 ·rw [if_neg hc, if_neg hc]; rfl
theorem zKu {L : List File} (hc : qKs L = 0) {f : File} (hf : f ∈ L) : (srcP L f.1).2 = qVq f ∧ (qVq f = true → (srcP L f.1).1 = (qJy f.2).1) := by
 unfold srcP
 rw [if_pos hc, zEm (qNp.1 hc).2.1 hf]
 simp only [qVq]
 by_cases hs : qIi f.1 = true
 ·rw [if_pos hs, hs]; exact ⟨by simp, fun _ => rfl⟩
 ·rw [if_neg hs]
  have hs' : qIi f.1 = false := by simpa using hs
  rw [hs']; exact ⟨rfl, fun h => by simp at h⟩
def zAl (t : List ByteArray × List Sr) (f : File) : List ByteArray × List Sr := if qVq f = true then (t.1 ++ [f.1], t.2 ++ [(qJy f.2).1]) else t
theorem qUd : ∀ (L : List File) (P : List ByteArray) (S : List Sr), L.foldl zAl (P, S) = (P ++ (qKm L).map (·.1), S ++ (qKm L).map (·.2))
 | [], P, S => by simp [qKm]
 | f :: L, P, S => by
  rw [kI]
  by_cases h : qVq f = true
  ·have el : qKm (f :: L) = (f.1, (qJy f.2).1) :: qKm L := by unfold qKm; rw [kN, if_pos h]; rfl
   rw [show zAl (P, S) f = (P ++ [f.1], S ++ [(qJy f.2).1]) by unfold zAl; rw [if_pos h], qUd L, el]
   simp
  ·have el : qKm (f :: L) = qKm L := by unfold qKm; rw [kN, if_neg h]
   rw [show zAl (P, S) f = (P, S) by unfold zAl; rw [if_neg h], qUd L, el]
def zDb (L : List File) : List (ByteArray × Sr) := if qKs L = 0 then qKm L else []
theorem zGi {N : Nat} {L : List File} (hN : 1000005 < N) : qJi N L = some ((zDb L).map (·.1), (zDb L).map (·.2)) := by
 simp only [qJi, qTa (show 100 < N by omega), j0]
 unfold zDb
 by_cases hc : qKs L = 0
 ·rw [if_neg (by simp [hc]), if_pos hc]
  have hl := (qNp.1 hc).1
  have h := qYr (L := L) (fun (t : List ByteArray × List Sr) (i : Nat) => ((i : Int), t.1, t.2)) (f := qFz N L)
   (fun t f => .inl (zAl t f)) (fun t => (t.1, t.2)) (fun i t => t.1.length ≤ i ∧ t.2.length ≤ i) (by
    intro t i hi hI
    simp only [qFz]
    rw [if_pos (by simp only [jA]; omega), qFt hi]
    have ew : IntKind.wrap .i64 ((i : Int) + 1) = ((i + 1 : Nat) : Int) := by rw [wi64 (by omega) (by omega)]; omega
    have hs := zKu hc (kG hi)
    simp only [j0, zBz hN, ew, hs.1]
    unfold zAl
    by_cases h1 : qVq L[i] = true
    ·rw [if_pos h1, if_pos h1, qCh (by simp only [jC, jD]; omega) (by omega)]
     simp only [j0]
     rw [qCh (by simp only [jC, jD]; omega) (by omega)]
     simp only [j0, hs.2 h1]
    ·rw [if_neg h1, if_neg h1]; rfl) (by
    intro t i hi t' hI h
    cases h
    unfold zAl
    split
    ·simp only [jL, jC, jD]; omega
    ·omega) (by
    intro t hI
    simp only [qFz]
    rw [if_neg (by simp)]) (M := N) (t := ([], [])) (by omega) ⟨gK _, gK _⟩
  rw [show ((0 : Nat) : Int) = 0 from rfl] at h
  rw [h, qZq zAl (fun _ _ => rfl), qUd]
  simp only [kD, j0]
 ·rw [if_pos (by simpa using hc), if_neg hc]; rfl
theorem qZc (kind : Int) (pkg name path p : ByteArray) : ∀ (l : List Dl) (i : Nat) (e : Ent),
  qVo (fun i e (d : Dl) => seeE kind pkg name e (p, d.2.1, d.1, path, (i : Int))) i e l = (qQc path p i l).foldl (seeE kind pkg name) e
 | [], _, _ => rfl
 | d :: l, i, e => by simp only [qVo, qQc, kI]; exact qZc kind pkg name path p l (i + 1) _
theorem skipE {kind : Int} {pkg name path p : ByteArray} (hk : kind ≠ 3) (hp : p ≠ pkg) : ∀ (l : List Dl) (i : Nat) (e : Ent), (qQc path p i l).foldl (seeE kind pkg name) e = e
 | [], _, _ => rfl
 | d :: l, i, e => by
  have : seeE kind pkg name e (p, d.2.1, d.1, path, (i : Int)) = e := by
   unfold seeE
   rw [if_neg]
   intro h
   obtain ⟨e1, e2, e3⟩ := zAk h
   rcases e3 with e3 | e3
   ·exact hk (by rw [← e1]; exact e3)
   ·exact hp e3
  simp only [qQc, kI, this]
  exact skipE hk hp l (i + 1) e
def EntI (kind : Int) (name : ByteArray) (b : Nat) (e : Ent) : Prop := e.2.1 = name ∧ e.2.2.1 = kind ∧ 0 ≤ e.2.2.2.2.2 ∧ e.2.2.2.2.2 ≤ (b : Int)
theorem EntI.see {kind : Int} {pkg name : ByteArray} {b : Nat} {e : Ent} (h : EntI kind name b e) (o : Occ) : EntI kind name (b + 1) (seeE kind pkg name e o) := by
 obtain ⟨h1, h2, h3, h4⟩ := h
 unfold seeE
 split
 ·split
  ·exact ⟨rfl, rfl, (by show (0 : Int) ≤ 1; decide), (by show (1 : Int) ≤ _; omega)⟩
  ·exact ⟨h1, h2, (by show (0 : Int) ≤ e.2.2.2.2.2 + 1; omega), (by show e.2.2.2.2.2 + 1 ≤ _; omega)⟩
 ·exact ⟨h1, h2, h3, by omega⟩
theorem zEs {N : Nat} {P : List ByteArray × List Sr} {kind : Int} {pkg name path : ByteArray} {s1 : Int × ByteArray × ByteArray × Int × Int} {x : Sr} (hx : idx P.1 s1.1 = some path) (hpk : kind = 3 ∨ x.1 = pkg)
  (hl : x.2.2.length ≤ 64) (hN : 1000 < N) {b : Nat} (hb : b < 1000000) {e : Ent} (hI : EntI kind name b e) :
  qAz (qEg N P kind name s1 x) N (0, e.1, e.2.2.2.1, e.2.2.2.2.1, e.2.2.2.2.2) = some (((qQc path x.1 0 x.2.2).foldl (seeE kind pkg name) e).1, ((qQc path x.1 0 x.2.2).foldl (seeE kind pkg name) e).2.2.2.1, ((qQc path x.1 0 x.2.2).foldl (seeE kind pkg name) e).2.2.2.2.1, ((qQc path x.1 0 x.2.2).foldl (seeE kind pkg name) e).2.2.2.2.2)
  ∧ EntI kind name (b + 64) ((qQc path x.1 0 x.2.2).foldl (seeE kind pkg name) e) := by
 have := qTg (L := x.2.2) (fun (e : Ent) (i : Nat) => ((i : Int), e.1, e.2.2.2.1, e.2.2.2.2.1, e.2.2.2.2.2)) (f := qEg N P kind name s1 x)
  (fun i e (d : Dl) => seeE kind pkg name e (x.1, d.2.1, d.1, path, (i : Int))) (fun e => (e.1, e.2.2.2.1, e.2.2.2.2.1, e.2.2.2.2.2)) (fun i e => EntI kind name (b + i) e) (by
   intro e i hi hI
   refine ⟨?_, hI.see _⟩
   obtain ⟨h1, h2, h3, h4⟩ := hI
   simp only [qEg]
   rw [if_pos (by simp only [jA]; omega), qFt hi]
   have ew : IntKind.wrap .i64 ((i : Int) + 1) = ((i + 1 : Nat) : Int) := by rw [wi64 (by omega) (by omega)]; omega
   have ec : IntKind.wrap .i64 (e.2.2.2.2.2 + 1) = e.2.2.2.2.2 + 1 := wi64 (by omega) (by omega)
   simp only [j0, ew, ec, eqB, hx]
   have hkey : okey (x.1, (x.2.2[i]).2.1, (x.2.2[i]).1, path, (i : Int)) = keyC kind pkg name ↔ (x.2.2[i]).1 = kind ∧ (x.2.2[i]).2.1 = name := by
    constructor
    ·intro h; obtain ⟨e1, e2, -⟩ := zAk h; exact ⟨e1, e2⟩
    ·rintro ⟨e1, e2⟩
     unfold okey keyC
     simp only [e1, e2]
     rcases hpk with rfl | rfl
     ·rfl
     ·rfl
   unfold seeE
   by_cases hk : (x.2.2[i]).1 = kind
   ·rw [if_pos (show ((x.2.2[i]).1 == kind) = true by simp [hk])]
    simp only [j0, jA]
    by_cases hn : (x.2.2[i]).2.1 = name
    ·rw [if_pos hn, if_pos (hkey.2 ⟨hk, hn⟩)]
     by_cases hc : e.2.2.2.2.2 = 0
     ·rw [if_pos (by simp [hc]), if_pos hc, hc]; rfl
     ·rw [if_neg (show ¬ (e.2.2.2.2.2 + 1 == 1) = true by rw [jV]; omega), if_neg hc]; rfl
    ·rw [if_neg hn, if_neg (fun h => hn (hkey.1 h).2)]; rfl
   ·rw [if_neg (show ¬ ((x.2.2[i]).1 == kind) = true by simp [hk])]
    simp only [j0, jB, jE]
    rw [if_neg (fun h => hk (hkey.1 h).1)]) (by
   intro e _
   simp only [qEg]
   rw [if_neg (by simp)]) x.2.2.length 0 N e (by omega) (by omega) hI
 rw [jZ, qZc] at this
 refine ⟨this.1, ?_⟩
 obtain ⟨h1, h2, h3, h4⟩ := this.2
 exact ⟨h1, h2, h3, by omega⟩
theorem qWr (kind : Int) (pkg name : ByteArray) : ∀ (l : List (ByteArray × Sr)) (i : Nat) (e : Ent),
  qVo (fun _ e (x : ByteArray × Sr) => (qQc x.1 x.2.1 0 x.2.2.2).foldl (seeE kind pkg name) e) i e l = (qTi l).foldl (seeE kind pkg name) e
 | [], _, _ => rfl
 | x :: l, i, e => by
  simp only [qVo, qTi, List.flatMap_cons, fH]
  exact qWr kind pkg name l (i + 1) _
theorem zIi {N : Nat} {l : List (ByteArray × Sr)} (kind : Int) (pkg name : ByteArray) (hl : l.length ≤ 64) (hd : ∀ x ∈ l, x.2.2.2.length ≤ 64) (hN : 1000 < N) :
  qIm N (l.map (·.1), l.map (·.2)) kind pkg name = some (entE (qTi l) kind pkg name) := by
 unfold qIm
 have h := qTg (L := l) (fun (e : Ent) (i : Nat) => ((i : Int), e.1, e.2.2.2.1, e.2.2.2.2.1, e.2.2.2.2.2)) (f := qEf N (l.map (·.1), l.map (·.2)) kind pkg name)
  (fun _ e (x : ByteArray × Sr) => (qQc x.1 x.2.1 0 x.2.2.2).foldl (seeE kind pkg name) e) (fun e => (e.1, e.2.2.2.1, e.2.2.2.2.1, e.2.2.2.2.2)) (fun i e => EntI kind name (64 * i) e) (by
   intro e i hi hI
   have hi1 : i < (l.map (·.1)).length := by simpa using hi
   have hi2 : i < (l.map (·.2)).length := by simpa using hi
   have ew : IntKind.wrap .i64 ((i : Int) + 1) = ((i + 1 : Nat) : Int) := by rw [wi64 (by omega) (by omega)]; omega
   have ex : idx (l.map (·.1)) (i : Int) = some (l[i]).1 := by rw [qFt hi1]; simp
   simp only [qEf]
   rw [if_pos (by simp only [jA]; omega), qFt hi2]
   simp only [j0, ew, List.getElem_map, eqB]
   by_cases hs : kind ≠ 3 ∧ (l[i]).2.1 ≠ pkg
   ·rw [if_pos (show (kind != 3) = true by simp [hs.1])]
    simp only [j0]
    rw [if_pos (by simp [hs.2]), skipE hs.1 hs.2]
    refine ⟨rfl, ?_⟩
    obtain ⟨h1, h2, h3, h4⟩ := hI
    exact ⟨h1, h2, h3, by omega⟩
   ·have hpk : kind = 3 ∨ (l[i]).2.1 = pkg := by
     by_cases h : kind = 3
     ·exact .inl h
     ·exact .inr (Decidable.byContradiction fun h2 => hs ⟨h, h2⟩)
    have hloop := zEs (N := N) (P := (l.map (·.1), l.map (·.2))) (s1 := ((i : Int), e.1, e.2.2.2.1, e.2.2.2.2.1, e.2.2.2.2.2)) (x := (l[i]).2) (path := (l[i]).1) (pkg := pkg) ex hpk (hd _ (kG hi)) hN (b := 64 * i) (by omega) hI
    have hsk : (if (kind != 3) = true then some (!decide ((l[i]).2.1 = pkg)) else some false : Option Bool) = some false := by
     rcases hpk with h | h
     ·rw [if_neg (by simp [h])]
     ·by_cases hk : kind = 3
      ·rw [if_neg (by simp [hk])]
      ·rw [if_pos (by simp [hk]), jM h]; rfl
    rw [hsk]
    simp only [j0, jB, jE, hloop.1]
    refine ⟨trivial, ?_⟩
    rw [show 64 * (i + 1) = 64 * i + 64 by omega]
    exact hloop.2) (by
   intro e _
   simp only [qEf]
   rw [if_neg (by simp)]) l.length 0 N (noE kind pkg name) (by omega) (by omega) ⟨rfl, rfl, Int.le_refl _, Int.le_refl _⟩
 rw [jZ, qWr] at h
 have e0 : (if (kind == 3) = true then some (⟨#[]⟩ : ByteArray) else some pkg) = some (noE kind pkg name).1 := by
  unfold noE
  by_cases h : kind = 3
  ·rw [if_pos (by simp [h]), if_pos h]; rfl
  ·rw [if_neg (by simp [h]), if_neg h]
 rw [e0]
 simp only [j0]
 refine Eq.trans (congrArg (fun z => Option.bind z _) (show qAz (qEf N (l.map (·.1), l.map (·.2)) kind pkg name) N (0, (noE kind pkg name).1, (⟨#[]⟩ : ByteArray), 0, 0) = _ from h.1)) ?_
 have h1 := h.2.1
 have h2 := h.2.2.1
 unfold entE
 simp only [j0]
 exact congrArg some (Prod.ext rfl (Prod.ext h1.symm (Prod.ext h2.symm rfl)))
theorem zFt (L : List File) : (zDb L).length ≤ 64 ∧ ∀ x ∈ zDb L, x.2.2.2.length ≤ 64 := by
 unfold zDb
 by_cases hc : qKs L = 0
 ·rw [if_pos hc]
  refine ⟨fI (zBi L) (qNp.1 hc).1, fun x hx => ?_⟩
  obtain ⟨f, _, _, rfl⟩ := zBe hx
  exact qUo
 ·rw [if_neg hc]; exact ⟨gK _, fun x hx => by cases hx⟩
theorem qWx {N : Nat} {L : List File} (kind : Int) (pkg name : ByteArray) (hN : 1000005 < N) : qId N L kind pkg name = some (qJm L kind pkg name) := by
 simp only [qId, qTa (show 100 < N by omega), j0]
 unfold qJm
 by_cases hc : qKs L = 0
 ·rw [if_neg (by simp [hc]), if_pos hc, zGi hN]
  simp only [j0]
  rw [zIi kind pkg name (zFt L).1 (zFt L).2 (by omega)]
  simp only [j0]
  rw [show zDb L = qKm L by unfold zDb; rw [if_pos hc]]
 ·rw [if_pos (by simpa using hc), if_neg hc]; rfl
end
section
open Go Go.Dc Go.Proofs
def qWt (E : ByteArray → Ent) (name : ByteArray) : List ByteArray → List K3 → Ent × List K3 × Int
 | [], acc => (qXe, acc, 11)
 | p :: l, acc =>
  if (E p).2.2.2.2.2 = 0 then qWt E name l (acc ++ [(1, p, name)])
  else if 1 < (E p).2.2.2.2.2 then (qXe, acc ++ [(1, p, name)], 12)
  else (E p, acc ++ [(1, p, name)], 0)
def zEa (L : List File) (pkg : ByteArray) (imps : List ByteArray) (name : ByteArray) : Ent × List K3 × Int :=
 if qKs L = 0 ∧ qUj name = true then qWt (fun p => qJm L 1 p name) name (pkg :: imps) [] else (qXe, [], 1)
def zNp (L : List File) (path : ByteArray) : Int × Ent × List K3 × Int :=
 if qKs L = 0 ∧ qKx path.data.toList = true then
  (match fget L path with
  | some _ => (1, qXe, [(4, path, qLe)], 0)
  | none => if (qJm L 3 qLe path).2.2.2.2.2 = 0 then (0, qXe, [(4, path, qLe), (3, path, qLe)], 14)
   else if 1 < (qJm L 3 qLe path).2.2.2.2.2 then (3, qXe, [(4, path, qLe), (3, path, qLe)], 12)
   else (2, qJm L 3 qLe path, [(4, path, qLe), (3, path, qLe)], 0))
 else (0, qXe, [], 1)
theorem zCi (L : List File) (kind : Int) (pkg name : ByteArray) : 0 ≤ (qJm L kind pkg name).2.2.2.2.2 := by
 unfold qJm
 split
 ·exact (qUg kind pkg name _).1
 ·exact Int.le_refl _
def wres (E : ByteArray → Ent) (name : ByteArray) (x : Ent) (acc : List K3) : List ByteArray → Ent × List K3 × Nat
 | [] => (x, acc, 0)
 | p :: l => if (E p).2.2.2.2.2 > 0 then (E p, acc ++ [(1, p, name)], 1) else wres E name (E p) (acc ++ [(1, p, name)]) l
def wfin (r : Ent × List K3 × Nat) : Ent × List K3 × Int :=
 if r.1.2.2.2.2.2 = 0 then (qXe, r.2.1, 11) else if 1 < r.1.2.2.2.2.2 then (qXe, r.2.1, 12) else (r.1, r.2.1, 0)
theorem zEy {E : ByteArray → Ent} (hE : ∀ p, 0 ≤ (E p).2.2.2.2.2) (name : ByteArray) : ∀ (l : List ByteArray) (x : Ent) (acc : List K3), x.2.2.2.2.2 = 0 → wfin (wres E name x acc l) = qWt E name l acc
 | [], x, acc, hx => by unfold wres wfin qWt; rw [if_pos hx]
 | p :: l, x, acc, hx => by
  unfold wres qWt
  have h := hE p
  by_cases h0 : (E p).2.2.2.2.2 = 0
  ·rw [if_neg (by omega), if_pos h0]; exact zEy hE name l _ _ h0
  ·rw [if_pos (by omega), if_neg h0]
   unfold wfin
   simp only
   rw [if_neg h0]
theorem zCv {E : ByteArray → Ent} (name : ByteArray) : ∀ (l : List ByteArray) (x : Ent) (acc : List K3), (wres E name x acc l).2.2 = 0 ∨ (wres E name x acc l).2.2 = 1
 | [], x, acc => .inl rfl
 | p :: l, x, acc => by
  unfold wres
  split
  ·exact .inr rfl
  ·exact zCv name l _ _
theorem qYa {N : Nat} {L : List File} {f : Sr} {name : ByteArray} (hl : f.2.1.length < 1000) : ∀ (d i M : Nat) (x : Ent) (acc : List K3), i + d = f.2.1.length → d < M → acc.length ≤ i + 1 →
  qAz (qIs N (qKv L) f name) M ((i : Int), x.1, x.2.1, x.2.2.1, x.2.2.2.1, x.2.2.2.2.1, x.2.2.2.2.2, acc) =
  some (match (wres (fun p => qJm L 1 p name) name x acc (f.2.1.drop i)).2.2 with
   | 0 => .inl ((wres (fun p => qJm L 1 p name) name x acc (f.2.1.drop i)).1.1, (wres (fun p => qJm L 1 p name) name x acc (f.2.1.drop i)).1.2.1, (wres (fun p => qJm L 1 p name) name x acc (f.2.1.drop i)).1.2.2.1, (wres (fun p => qJm L 1 p name) name x acc (f.2.1.drop i)).1.2.2.2.1, (wres (fun p => qJm L 1 p name) name x acc (f.2.1.drop i)).1.2.2.2.2.1, (wres (fun p => qJm L 1 p name) name x acc (f.2.1.drop i)).1.2.2.2.2.2, (wres (fun p => qJm L 1 p name) name x acc (f.2.1.drop i)).2.1)
   | n + 1 => .inr ((wres (fun p => qJm L 1 p name) name x acc (f.2.1.drop i)).1.1, (wres (fun p => qJm L 1 p name) name x acc (f.2.1.drop i)).1.2.1, (wres (fun p => qJm L 1 p name) name x acc (f.2.1.drop i)).1.2.2.1, (wres (fun p => qJm L 1 p name) name x acc (f.2.1.drop i)).1.2.2.2.1, (wres (fun p => qJm L 1 p name) name x acc (f.2.1.drop i)).1.2.2.2.2.1, (wres (fun p => qJm L 1 p name) name x acc (f.2.1.drop i)).1.2.2.2.2.2, (wres (fun p => qJm L 1 p name) name x acc (f.2.1.drop i)).2.1, n + 1))
 | _, _, 0, _, _, _, h, _ => absurd h (kU _)
 | 0, i, M + 1, x, acc, h1, h2, h3 => by
  simp only [qAz, qIs]
  rw [if_neg (by simp only [jA]; omega), jN (by omega)]
  rfl
 | d + 1, i, M + 1, x, acc, h1, h2, h3 => by
  have hi : i < f.2.1.length := by omega
  simp only [qAz, qIs]
  rw [if_pos (by simp only [jA]; omega), qFt hi, qUp hi]
  have ew : IntKind.wrap .i64 ((i : Int) + 1) = ((i + 1 : Nat) : Int) := by rw [wi64 (by omega) (by omega)]; omega
  simp only [j0, ew]
  rw [qCh (by simp only [jC, jD]; omega) (by omega)]
  simp only [j0]
  have eW : ∀ w : Wld, (w.1, w.2.1, w.2.2.1, w.2.2.2.1, w.2.2.2.2) = w := fun _ => rfl
  simp only [eW, zAh, j0, wres]
  by_cases h : (qJm L 1 (f.2.1[i]) name).2.2.2.2.2 > 0
  ·rw [if_pos (jM h), if_pos h]
   rfl
  ·rw [if_neg (by simpa using h), if_neg h]
   simp only [j0]
   exact qYa hl d (i + 1) M _ _ (by omega) (by omega) (by simp; omega)
theorem zIx {N : Nat} {L : List File} {f : Sr} {name : ByteArray} (hl : f.2.1.length < 1000) (hN : 1000 < N) : qKj N (qKv L) f name = some (qWt (fun p => qJm L 1 p name) name (f.1 :: f.2.1) []) := by
 rw [← zEy (fun p => zCi L 1 p name) name (f.1 :: f.2.1) qXe [] rfl]
 unfold qKj
 rw [qCh (by simp only [jC, jD]; omega) (by omega)]
 have eW : ∀ w : Wld, (w.1, w.2.1, w.2.2.1, w.2.2.2.1, w.2.2.2.2) = w := fun _ => rfl
 simp only [j0, eW, zAh, wres, kD]
 have fin : ∀ (r : Ent × List K3 × Nat), (r.2.2 = 0 ∨ r.2.2 = 1) →
   (if r.2.2 = 0 then (if (r.1.2.2.2.2.2 == 0) = true then some (((⟨#[]⟩ : ByteArray), (⟨#[]⟩ : ByteArray), (0 : Int), (⟨#[]⟩ : ByteArray), (0 : Int), (0 : Int)), r.2.1, (11 : Int)) else (if (decide (r.1.2.2.2.2.2 > 1)) = true then some (((⟨#[]⟩ : ByteArray), (⟨#[]⟩ : ByteArray), (0 : Int), (⟨#[]⟩ : ByteArray), (0 : Int), (0 : Int)), r.2.1, (12 : Int)) else some (r.1, r.2.1, (0 : Int))))
    else (if r.2.2 = 1 then (if (r.1.2.2.2.2.2 == 0) = true then some (((⟨#[]⟩ : ByteArray), (⟨#[]⟩ : ByteArray), (0 : Int), (⟨#[]⟩ : ByteArray), (0 : Int), (0 : Int)), r.2.1, (11 : Int)) else (if (decide (r.1.2.2.2.2.2 > 1)) = true then some (((⟨#[]⟩ : ByteArray), (⟨#[]⟩ : ByteArray), (0 : Int), (⟨#[]⟩ : ByteArray), (0 : Int), (0 : Int)), r.2.1, (12 : Int)) else some (r.1, r.2.1, (0 : Int)))) else none)) = some (wfin r) := by
  intro r hr
  have key : (if (r.1.2.2.2.2.2 == 0) = true then some (((⟨#[]⟩ : ByteArray), (⟨#[]⟩ : ByteArray), (0 : Int), (⟨#[]⟩ : ByteArray), (0 : Int), (0 : Int)), r.2.1, (11 : Int)) else (if (decide (r.1.2.2.2.2.2 > 1)) = true then some (((⟨#[]⟩ : ByteArray), (⟨#[]⟩ : ByteArray), (0 : Int), (⟨#[]⟩ : ByteArray), (0 : Int), (0 : Int)), r.2.1, (12 : Int)) else some (r.1, r.2.1, (0 : Int)))) = some (wfin r) := by
   unfold wfin
   by_cases h0 : r.1.2.2.2.2.2 = 0
   ·rw [if_pos (by simp [h0]), if_pos h0]; rfl
   ·rw [if_neg (by simp [h0]), if_neg h0]
    by_cases h1 : 1 < r.1.2.2.2.2.2
    ·rw [if_pos (jM h1), if_pos h1]; rfl
    ·rw [if_neg (by simpa using h1), if_neg h1]
  rcases hr with hr | hr
  ·rw [if_pos hr]; exact key
  ·rw [if_neg (by omega), if_pos hr]; exact key
 by_cases h : (qJm L 1 f.1 name).2.2.2.2.2 > 0
 ·rw [if_pos (jM h), if_pos h]
  exact fin (qJm L 1 f.1 name, [(1, f.1, name)], 1) (.inr rfl)
 ·rw [if_neg (by simpa using h), if_neg h]
  have hlp := qYa (N := N) (L := L) (f := f) (name := name) hl f.2.1.length 0 N (qJm L 1 f.1 name) [(1, f.1, name)] (by omega) (by omega) (by simp)
  rw [show ((0 : Nat) : Int) = 0 from rfl, jZ] at hlp
  rw [hlp]
  have hm := zCv (E := fun p => qJm L 1 p name) name f.2.1 (qJm L 1 f.1 name) [(1, f.1, name)]
  have hf := fin _ hm
  revert hf
  generalize wres (fun p => qJm L 1 p name) name (qJm L 1 f.1 name) [(1, f.1, name)] f.2.1 = r at hm ⊢
  obtain ⟨r1, r2, r3⟩ := r
  intro hf
  rcases hm with hm | hm
  ·have hm : r3 = 0 := hm
   subst hm
   exact hf
  ·have hm : r3 = 1 := hm
   subst hm
   exact hf
theorem zIk {N : Nat} {L : List File} {f : Sr} {name : ByteArray} (hP : qSz N L) (hl : f.2.1.length < 1000) (hN : 1000001 < N) : qMc N L f name = some (zEa L f.1 f.2.1 name) := by
 simp only [qMc, zLp hP hN, j0]
 have eW : ∀ w : Wld, (w.1, w.2.1, w.2.2.1, w.2.2.2.1, w.2.2.2.2) = w := fun _ => rfl
 unfold zEa
 by_cases hc : qKs L = 0
 ·have e1 : (qKv L).2.1 = true := by unfold qKv; rw [if_pos hc]
  rw [if_neg (show ¬ (!(qKv L).2.1) = true by rw [e1]; decide), zHl (show 100 < N by omega)]
  simp only [hc, j0, true_and]
  by_cases hn : qUj name = true
  ·rw [if_neg (by simp [hn]), if_pos hn]
   refine Eq.trans (congrArg (fun z => Option.bind z _) (show qKj N (qKv L) f name = _ from zIx hl (by omega))) ?_
   rfl
  ·rw [if_pos (by simpa using hn), if_neg hn]; rfl
 ·have e1 : (qKv L).2.1 = false := by unfold qKv; rw [if_neg hc]
  rw [if_pos (show (!(qKv L).2.1) = true by rw [e1]; rfl), if_neg (fun h => hc h.1)]; rfl
theorem qYs {N : Nat} {w : Wld} {p : ByteArray} (hl : w.1.length < 1000000) : ∀ (d i M : Nat), i + d = w.1.length → d < M → qAz (qHo N w p) M (i : Int) = some (match fget (w.1.drop i) p with | some b => .inr (b, true) | none => .inl ())
 | _, _, 0, _, h => by omega
 | 0, i, M + 1, hd, _ => by
  simp only [qAz, qHo]
  rw [if_neg (by simp only [jA]; omega), jN (by omega)]
  rfl
 | d + 1, i, M + 1, hd, hM => by
  have hi : i < w.1.length := by omega
  simp only [qAz, qHo]
  rw [if_pos (by simp only [jA]; omega), qFt hi, jI hi]
  simp only [j0, eqB, jA, fget]
  by_cases he : (w.1[i]).1 = p
  ·rw [if_pos he, if_pos he]; rfl
  ·rw [if_neg he, if_neg he, wi64 (by omega) (by omega)]
   have e1 : (i : Int) + 1 = ((i + 1 : Nat) : Int) := by omega
   simp only [j0]
   rw [e1, qYs hl d (i + 1) M (by omega) (by omega)]
theorem zLa {N : Nat} {L : List File} (p : ByteArray) (hl : L.length ≤ 64) (hN : 100 < N) : qKg N (qKv L) p = some (zIm (fget L p)) := by
 have e : (qKv L).1 = L := by unfold qKv; split <;> rfl
 have := qYs (N := N) (w := qKv L) (p := p) (by rw [e]; omega) (qKv L).1.length 0 N (by omega) (by rw [e]; omega)
 rw [show ((0 : Nat) : Int) = 0 from rfl, jZ, e] at this
 simp only [qKg, this, j0]
 cases fget L p <;> rfl
theorem zNf {N : Nat} {L : List File} {path : ByteArray} (hP : qSz N L) (hp : qIr N path = some (qKx path.data.toList)) (hN : 1000001 < N) : qNl N L path = some (zNp L path) := by
 simp only [qNl, zLp hP hN, j0]
 have eW : ∀ w : Wld, (w.1, w.2.1, w.2.2.1, w.2.2.2.1, w.2.2.2.2) = w := fun _ => rfl
 unfold zNp
 by_cases hc : qKs L = 0
 ·have e1 : (qKv L).2.1 = true := by unfold qKv; rw [if_pos hc]
  rw [if_neg (show ¬ (!(qKv L).2.1) = true by rw [e1]; decide), hp]
  simp only [hc, j0, true_and]
  by_cases hn : qKx path.data.toList = true
  ·rw [if_neg (by simp [hn]), if_pos hn]
   simp only [eW, qNi, zLa path (qNp.1 hc).1 (show 100 < N by omega), j0]
   cases hg : fget L path with
   | some b => simp only [zIm]; rfl
   | none =>
    simp only [zIm, jB, jE]
    rw [qCh (by simp only [jC, jD]; omega) (by omega)]
    simp only [j0, zAh]
    have e : (⟨#[]⟩ : ByteArray) = qLe := rfl
    rw [e]
    by_cases h0 : (qJm L 3 qLe path).2.2.2.2.2 = 0
    ·rw [if_pos (by simp [h0]), if_pos h0]; rfl
    ·rw [if_neg (by simp [h0]), if_neg h0]
     by_cases h1 : 1 < (qJm L 3 qLe path).2.2.2.2.2
     ·rw [if_pos (jM h1), if_pos h1]; rfl
     ·rw [if_neg (by simpa using h1), if_neg h1]; rfl
  ·rw [if_pos (by simpa using hn), if_neg hn]; rfl
 ·have e1 : (qKv L).2.1 = false := by unfold qKv; rw [if_neg hc]
  rw [if_pos (show (!(qKv L).2.1) = true by rw [e1]; rfl), if_neg (fun h => hc h.1)]; rfl
end
section
open Go Go.Dc
def Ok {α : Type} (x : Option α) (Q : α → Prop) : Prop := ∃ a, x = some a ∧ Q a
section
variable {α β γ : Type} {Q : β → Prop}
theorem Ok.mk {a : β} (h : Q a) : Ok (some a) Q := ⟨a, rfl, h⟩
theorem Ok.bind {x : Option α} {P : α → Prop} {f : α → Option β} (h : Ok x P) (k : ∀ a, P a → Ok (f a) Q) : Ok (x.bind f) Q := by
 obtain ⟨a, rfl, ha⟩ := h
 exact k a ha
theorem Ok.mono {x : Option β} {P : β → Prop} (h : Ok x P) (k : ∀ a, P a → Q a) : Ok x Q := by
 obtain ⟨a, e, ha⟩ := h
 exact ⟨a, e, k a ha⟩
theorem Ok.assoc {x : Option α} {g : α → Option γ} {f : γ → Option β} (h : Ok (x.bind fun a => (g a).bind f) Q) : Ok ((x.bind g).bind f) Q := by
 rw [kY]; exact h
theorem Ok.ite {c : Prop} [Decidable c] {x y : Option β} (h1 : c → Ok x Q) (h2 : ¬ c → Ok y Q) : Ok (if c then x else y) Q := by
 by_cases h : c
 ·rw [if_pos h]; exact h1 h
 ·rw [if_neg h]; exact h2 h
theorem Ok.iteb {c : Prop} [Decidable c] {x y : Option α} {f : α → Option β} (h1 : c → Ok (x.bind f) Q) (h2 : ¬ c → Ok (y.bind f) Q) : Ok ((if c then x else y).bind f) Q := by
 by_cases h : c
 ·rw [if_pos h]; exact h1 h
 ·rw [if_neg h]; exact h2 h
theorem Ok.tt [Decidable (true = true)] {x y : Option β} (h : Ok x Q) : Ok (if true = true then x else y) Q := by rw [if_pos rfl]; exact h
theorem Ok.ff [Decidable (false = true)] {x y : Option β} (h : Ok y Q) : Ok (if false = true then x else y) Q := by rw [if_neg kM]; exact h
theorem Ok.ttb [Decidable (true = true)] {x y : Option α} {f : α → Option β} (h : Ok (x.bind f) Q) : Ok ((if true = true then x else y).bind f) Q := by rw [if_pos rfl]; exact h
theorem Ok.ffb [Decidable (false = true)] {x y : Option α} {f : α → Option β} (h : Ok (y.bind f) Q) : Ok ((if false = true then x else y).bind f) Q := by rw [if_neg kM]; exact h
theorem Ok.someb {a : α} {f : α → Option β} (h : Ok (f a) Q) : Ok ((some a).bind f) Q := h
theorem Ok.mapb {a : α} {g : α → γ} {f : γ → Option β} (h : Ok (f (g a)) Q) : Ok (((some a).map g).bind f) Q := h
theorem Ok.cat {x y : ByteArray} {f : ByteArray → Option β} (hs : x.size + y.size ≤ 1000000000) (h : ∀ s : ByteArray, s.size = x.size + y.size → Ok (f s) Q) : Ok ((catB x y).bind f) Q := by
 unfold catB
 rw [if_pos (by simp only [maxLen]; omega)]
 exact h _ (by simp)
theorem Ok.app {b : Nat} {l k : List α} {f : List α → Option β} (hs : (l.length + k.length) * b ≤ 140737488355328) (hb : 0 < b) (h : Ok (f (l ++ k)) Q) : Ok ((qDx b l k).bind f) Q := by
 rw [qCh hs hb]; exact h
theorem Ok.loop {σ : Type} {f : σ → Option (σ ⊕ α)} {g : α → Option β} {s : σ} {N : Nat} (I : σ → Prop) (μ : σ → Nat) (R : α → Prop)
  (h : ∀ s, I s → Ok (f s) fun r => match r with | .inl s' => I s' ∧ μ s' < μ s | .inr b => R b) (hs : I s) (hN : μ s < N) (k : ∀ b, R b → Ok (g b) Q) : Ok ((qAz f N s).bind g) Q := by
 obtain ⟨b, h1, h2⟩ := zFi I μ R (fun s hs => by
  obtain ⟨r, h1, h2⟩ := h s hs
  cases r with
  | inl s' => exact .inr ⟨s', h1, h2.1, h2.2⟩
  | inr b => exact .inl ⟨b, h1, h2⟩) N s hs hN
 rw [h1]; exact k b h2
end
theorem qTc (a : Array UInt8) : (⟨a⟩ : ByteArray).size = a.size := rfl
theorem zLc {N : Nat} {v n : Int} (hn : n ≤ 9223372036854775807) : ∃ r, qJw N v n = some r ∧ 0 ≤ r ∧ (1 ≤ n → r < n) := by
 simp only [qJw]
 by_cases h : n ≤ 1
 ·exact ⟨0, by simp [h], by omega, by omega⟩
 ·have hne : n ≠ 0 := by omega
  have h1 := Int.tmod_lt_of_pos v (show 0 < n by omega)
  have h2 := Int.lt_tmod_of_pos v (show 0 < n by omega)
  simp only [h, decide_false, jB, jE, remS, hne, j0]
  by_cases h3 : Int.tmod v n < 0
  ·refine ⟨Int.tmod v n + n, ?_, by omega, by omega⟩
   simp only [h3, decide_true, jH, j0]
   rw [wi64 (by omega) (by omega)]
  ·exact ⟨Int.tmod v n, by simp only [h3, decide_false, jB, jE, j0], by omega, by omega⟩
theorem qWa {N : Nat} {l : List Int} {a n : Int} (h0 : 0 ≤ a) (h1 : a < 4611686018427387904) (hn : n ≤ 9223372036854775807) : ∃ r, qCd N (l, a) n = some ((l, a + 1), r) ∧ 0 ≤ r ∧ (1 ≤ n → r < n) := by
 simp only [qCd]
 have hv : ∃ v, (if (decide (a < (List.length l : Int))) = true then ((idx l a).bind fun x1 => some x1) else (some (Int.tmod (IntKind.wrap .i64 (a * 7)) 11)) : Option Int) = some v := by
  by_cases h : a < (l.length : Int)
  ·exact ⟨_, by simp only [h, decide_true, jH]; rw [zAs h0 (by omega)]; rfl⟩
  ·exact ⟨_, by simp only [h, decide_false, jB, jE]; rfl⟩
 obtain ⟨v, hv⟩ := hv
 obtain ⟨r, hr, h2, h3⟩ := zLc (N := N) (v := v) hn
 exact ⟨r, by simp only [hv, j0, hr]; rw [wi64 (by omega) (by omega)], h2, h3⟩
section
variable {β : Type} {Q : β → Prop} {N : Nat} {l : List Int} {a : Int}
theorem Ok.next {n : Int} {f : (List Int × Int) × Int → Option β} (h0 : 0 ≤ a) (h1 : a < 4611686018427387904) (hn : 1 ≤ n) (hn2 : n ≤ 1000000) (h : ∀ r, 0 ≤ r → r < n → Ok (f ((l, a + 1), r)) Q) : Ok ((qCd N (l, a) n).bind f) Q := by
 obtain ⟨r, hr, g1, g2⟩ := qWa (N := N) (l := l) h0 h1 (show n ≤ 9223372036854775807 by omega)
 rw [hr]; exact h r g1 (g2 hn)
theorem Ok.chance {n m : Int} {f : (List Int × Int) × Bool → Option β} (h0 : 0 ≤ a) (h1 : a < 4611686018427387904) (hn : 1 ≤ m) (hn2 : m ≤ 1000000) (h : ∀ r, Ok (f ((l, a + 1), r)) Q) : Ok ((qCb N (l, a) n m).bind f) Q := by
 obtain ⟨r, hr, g1, g2⟩ := qWa (N := N) (l := l) h0 h1 (show m ≤ 9223372036854775807 by omega)
 simp only [qCb, hr, j0]
 exact h _
theorem Ok.one {L : List ByteArray} {f : (List Int × Int) × ByteArray → Option β} (h0 : 0 ≤ a) (h1 : a < 4611686018427387904) (hL : 0 < L.length) (hL2 : L.length < 1000) (h : ∀ x ∈ L, Ok (f ((l, a + 1), x)) Q) : Ok ((qBo N (l, a) L).bind f) Q := by
 obtain ⟨r, hr, g1, g2⟩ := qWa (N := N) (l := l) h0 h1 (show (L.length : Int) ≤ 9223372036854775807 by omega)
 have g2 := g2 (by omega)
 have hlt : r.toNat < L.length := by omega
 simp only [qBo]
 rw [if_neg (by rw [jV]; omega), hr]
 simp only [j0]
 rw [zAs g1 hlt]
 exact h _ (kG hlt)
theorem Ok.oneP {L : List ByteArray} {f : (List Int × Int) × ByteArray → Option β} (h0 : 0 ≤ a) (h1 : a < 4611686018427387904) (hc : decide ((List.length L : Int) > 0) = true) (hL2 : L.length < 1000) (hL3 : ∀ x ∈ L, x.size ≤ 12) (h : ∀ x : ByteArray, x.size ≤ 12 → Ok (f ((l, a + 1), x)) Q) : Ok ((qBo N (l, a) L).bind f) Q :=
 Ok.one h0 h1 (by have := kX hc; omega) hL2 fun x hx => h x (hL3 x hx)
theorem Ok.oneS {L : List ByteArray} {f : (List Int × Int) × ByteArray → Option β} (h0 : 0 ≤ a) (h1 : a < 4611686018427387904) (hL : (decide (0 < L.length) && decide (L.length < 1000) && L.all fun x => decide (x.size ≤ 12)) = true) (h : ∀ x : ByteArray, x.size ≤ 12 → Ok (f ((l, a + 1), x)) Q) : Ok ((qBo N (l, a) L).bind f) Q := by
 simp only [jP, jA] at hL
 exact Ok.one h0 h1 hL.1.1 hL.1.2 fun x hx => h x (by simpa using jS.1 hL.2 x hx)
theorem Ok.pick {L : List Int} {f : (List Int × Int) × Int → Option β} (h0 : 0 ≤ a) (h1 : a < 4611686018427387904) (hL : 0 < L.length) (hL2 : L.length < 1000) (h : ∀ x ∈ L, Ok (f ((l, a + 1), x)) Q) : Ok ((qDn N (l, a) L).bind f) Q := by
 obtain ⟨r, hr, g1, g2⟩ := qWa (N := N) (l := l) h0 h1 (show (L.length : Int) ≤ 9223372036854775807 by omega)
 have g2 := g2 (by omega)
 have hlt : r.toNat < L.length := by omega
 simp only [qDn]
 rw [if_neg (by rw [jV]; omega), hr]
 simp only [j0]
 rw [zAs g1 hlt]
 exact h _ (kG hlt)
theorem Ok.pickS {L : List Int} {f : (List Int × Int) × Int → Option β} (h0 : 0 ≤ a) (h1 : a < 4611686018427387904) (hL : (decide (0 < L.length) && decide (L.length < 1000) && L.all fun x => decide (0 ≤ x ∧ x ≤ 9007199254740992)) = true) (h : ∀ x : Int, 0 ≤ x → x ≤ 9007199254740992 → Ok (f ((l, a + 1), x)) Q) : Ok ((qDn N (l, a) L).bind f) Q := by
 simp only [jP, jA] at hL
 exact Ok.pick h0 h1 hL.1.1 hL.1.2 fun x hx => by
  have := jS.1 hL.2 x hx
  simp only [jA] at this
  exact h x this.1 this.2
theorem zBb : ∀ (k D : Nat) (x : Int), k < D → k ≤ 100 → 0 ≤ x → x < 10 ^ (k + 1) → x ≤ 9223372036854775806 → Ok (qHv N D x) fun s => s.size ≤ k + 1
 | _, 0, _, h, _, _, _, _ => absurd h (kU _)
 | k, D + 1, x, hk, hk9, h0, h1, h2 => by
  show Ok (qHy N (qHv N D) x) _
  unfold qHy
  have hsz : ByteArray.size (⟨#[48, 49, 50, 51, 52, 53, 54, 55, 56, 57]⟩ : ByteArray) = 10 := rfl
  by_cases hx : x < 10
  ·rw [if_pos (by simpa using hx), wi64 (by omega) (by omega), qRk h0 (by omega) (by omega)]
   refine Ok.mk ?_
   simp only [ByteArray.size_extract, hsz]; omega
  ·rw [if_neg (by simpa using hx)]
   obtain ⟨k, rfl⟩ : ∃ k', k = k' + 1 := by
    cases k with
    | zero => simp at h1; omega
    | succ k => exact ⟨k, rfl⟩
   obtain ⟨D, rfl⟩ : ∃ D', D = D' + 1 := ⟨D - 1, by omega⟩
   have e1 : Int.tdiv x 10 = x / 10 := Int.tdiv_eq_ediv_of_nonneg h0
   have e2 : Int.tmod x 10 = x % 10 := Int.tmod_eq_emod_of_nonneg h0
   have hp : (10 : Int) ^ (k + 1 + 1) = 10 * 10 ^ (k + 1) := by rw [Int.pow_succ]; omega
   rw [e1, e2, wi64 (by omega) (by omega)]
   refine Ok.bind (zBb k (D + 1) (x / 10) (by omega) (by omega) (by omega) (by omega) (by omega)) fun s hs => ?_
   refine Ok.bind (zBb 0 (D + 1) (x % 10) (by omega) (by omega) (by omega) (by simp; omega) (by omega)) fun t ht => ?_
   exact Ok.cat (by omega) fun u hu => Ok.mk (by omega)
theorem zIw {x : Int} (h0 : 0 ≤ x) (h1 : x ≤ 9007199254740992) (hN : 100 < N) : Ok (qIv N x) fun s => s.size ≤ 16 :=
 zBb 15 N x (by omega) (by omega) h0 (by rw [show (10 : Int) ^ (15 + 1) = 10000000000000000 from by kernel_rfl]; omega) (by omega)
theorem Ok.digits {x : Int} {f : ByteArray → Option β} (h0 : 0 ≤ x) (h1 : x ≤ 9007199254740992) (hN : 100 < N) (h : ∀ s : ByteArray, s.size ≤ 16 → Ok (f s) Q) : Ok ((qIv N x).bind f) Q := Ok.bind (zIw h0 h1 hN) h
end
def qQi : Nat → Nat
 | 0 => 8
 | d + 1 => 3 * qQi d + 8
def qTn : Nat → Nat
 | 0 => 22
 | d + 1 => 3 * qTn d + 20
theorem zFg : ∀ d, 22 ≤ qTn d
 | 0 => jW _
 | d + 1 => by have := zFg d; simp only [qTn]; omega
section
variable {N : Nat} {l : List Int}
def qXo (N : Nat) (l : List Int) (E : (List Int × Int) → Int → List ByteArray → Option ((List Int × Int) × ByteArray)) (d : Nat) (ps : List ByteArray) : Prop :=
 ∀ a : Int, 0 ≤ a → a + qQi d < 2000000000000000000 → Ok (E (l, a) (d : Int) ps) fun y => ∃ a' s, y = ((l, a'), s) ∧ a ≤ a' ∧ a' ≤ a + qQi d ∧ s.size ≤ qTn d
theorem Ok.expr {β : Type} {Q : β → Prop} {E : (List Int × Int) → Int → List ByteArray → Option ((List Int × Int) × ByteArray)} {d : Nat} {ps : List ByteArray} (hE : qXo N l E d ps) {a : Int} {f : (List Int × Int) × ByteArray → Option β} (h0 : 0 ≤ a) (h1 : a + qQi d < 2000000000000000000)
  (h : ∀ (a' : Int) (s : ByteArray), a ≤ a' → a' ≤ a + qQi d → s.size ≤ qTn d → Ok (f ((l, a'), s)) Q) : Ok ((E (l, a) (d : Int) ps).bind f) Q :=
 Ok.bind (hE a h0 h1) fun y hy => by
  obtain ⟨a', s, rfl, g1, g2, g3⟩ := hy
  exact h a' s g1 g2 g3
theorem qYz (d : Nat) (hd : d ≤ 5) : qQi d ≤ 10000 ∧ qTn d ≤ 20000 := by
 match d, hd with
 | 0, _ => decide
 | 1, _ => decide
 | 2, _ => decide
 | 3, _ => decide
 | 4, _ => decide
 | 5, _ => decide
set_option maxHeartbeats 4000000 in
theorem zIv {E : (List Int × Int) → Int → List ByteArray → Option ((List Int × Int) × ByteArray)} {d : Nat} {ps : List ByteArray} (hd : d = 0) (hps : ps.length < 1000) (hps2 : ∀ x ∈ ps, x.size ≤ 12) (hN : 100 < N) : qXo N l (qFx N E) d ps := by
 subst hd
 intro a h0 h1
 have hc : qQi 0 = 8 := rfl
 have hz : qTn 0 = 22 := rfl
 simp only [qFx, hc, hz, qEo, qHf]
 rw [if_pos (show decide (((0 : Nat) : Int) ≤ 0) = true by decide)]
 repeat' first
  | with_reducible apply Ok.tt
  | with_reducible apply Ok.ff
  | with_reducible apply Ok.ttb
  | with_reducible apply Ok.ffb
  | with_reducible apply Ok.assoc
  | ((with_reducible apply Ok.iteb) <;> intro _)
  | ((with_reducible apply Ok.ite) <;> intro _)
  | with_reducible apply Ok.someb
  | with_reducible apply Ok.mapb
  | ((with_reducible refine Ok.mk ⟨_, _, rfl, ?_, ?_, ?_⟩) <;> omega)
  | ((with_reducible refine Ok.next ?_ ?_ ?_ ?_ (fun _ _ _ => ?_)) <;> try omega)
  | ((with_reducible refine Ok.chance ?_ ?_ ?_ ?_ (fun _ => ?_)) <;> try omega)
  | ((with_reducible refine Ok.pickS ?_ ?_ (by decide) (fun _ _ _ => ?_)) <;> try omega)
  | ((with_reducible refine Ok.oneP ?_ ?_ (by assumption) hps hps2 (fun _ _ => ?_)) <;> try omega)
  | ((with_reducible refine Ok.oneS ?_ ?_ (by decide) (fun _ _ => ?_)) <;> try omega)
  | ((with_reducible refine Ok.digits ?_ ?_ hN (fun _ _ => ?_)) <;> try omega)
  | ((with_reducible refine Ok.cat ?_ (fun _ h => ?_)) <;> simp only [qTc, k0, jC, jD, Nat.reduceAdd] at * <;> try omega)
  | ((with_reducible refine Ok.cat ?_ (fun _ _ => ?_)) <;> try omega)
  | (apply Ok.iteb <;> intro _)
  | dsimp only
 all_goals omega
theorem Ok.pick01 {β : Type} {Q : β → Prop} {a : Int} {f : (List Int × Int) × Int → Option β} (h0 : 0 ≤ a) (h1 : a < 4611686018427387904) (h : ∀ x : Int, x = 0 ∨ x = 1 → Ok (f ((l, a + 1), x)) Q) : Ok ((qDn N (l, a) [0, 0, 0, 1]).bind f) Q :=
 Ok.pick h0 h1 (by decide) (by decide) fun x hx => h x (by simp at hx; omega)
theorem Ok.exprloop {β : Type} {Q : β → Prop} {E : (List Int × Int) → Int → List ByteArray → Option ((List Int × Int) × ByteArray)} {d : Nat} {ps : List ByteArray} (hE : qXo N l E d ps) (hd : d ≤ 5) {p1 : Int} (hp : IntKind.wrap .i64 (p1 - 1) = (d : Int)) {s : ByteArray} {n a : Int} {f : ByteArray × List Int × Int → Option β}
  (hn : n = 0 ∨ n = 1) (h0 : 0 ≤ a) (h1 : a + qQi d < 2000000000000000000) (hs : s.size ≤ 100000000) (hN : 100 < N) (h : ∀ (s' : ByteArray) (a' : Int), a ≤ a' → a' ≤ a + qQi d → s'.size ≤ s.size + qTn d + 2 → Ok (f (s', l, a')) Q) : Ok ((qAz (qIj N E p1 ps) N (s, n, l, a)).bind f) Q := by
 have hsm := qYz d hd
 refine Ok.loop (fun st => ∃ s' n' a', st = (s', n', l, a') ∧ ((n' = n ∧ a' = a ∧ s' = s) ∨ (n' = 0 ∧ a ≤ a' ∧ a' ≤ a + qQi d ∧ s'.size ≤ s.size + qTn d + 2))) (fun st => st.2.1.toNat) (fun b => ∃ s' a', b = (s', l, a') ∧ a ≤ a' ∧ a' ≤ a + qQi d ∧ s'.size ≤ s.size + qTn d + 2) ?_ ⟨s, n, a, rfl, .inl ⟨rfl, rfl, rfl⟩⟩ (by simp only; omega) ?_
 ·rintro _ ⟨s', n', a', rfl, hc⟩
  simp only [qIj]
  by_cases hn0 : n' > 0
  ·rw [if_pos (by simpa using hn0), hp]
   have hc : n' = n ∧ a' = a ∧ s' = s := hc.resolve_right fun h => by omega
   obtain ⟨rfl, rfl, rfl⟩ := hc
   refine Ok.expr hE h0 h1 fun a2 t g1 g2 g3 => ?_
   refine Ok.cat (by simp only [qTc, k0, jC, jD, Nat.reduceAdd]; omega) fun u hu => ?_
   simp only [qTc, k0, jC, jD, Nat.reduceAdd] at hu
   refine Ok.cat (by omega) fun v hv => ?_
   refine Ok.mk ⟨⟨v, _, a2, rfl, .inr ⟨by rw [wi64 (by omega) (by omega)]; omega, g1, g2, by omega⟩⟩, ?_⟩
   simp only
   rw [wi64 (by omega) (by omega)]
   omega
  ·rw [if_neg (by simpa using hn0)]
   refine Ok.mk ⟨s', a', rfl, ?_⟩
   rcases hc with ⟨_, rfl, rfl⟩ | ⟨_, g1, g2, g3⟩
   ·omega
   ·exact ⟨g1, g2, g3⟩
 ·rintro _ ⟨s', a', rfl, g1, g2, g3⟩
  exact h s' a' g1 g2 g3
set_option maxHeartbeats 8000000 in
theorem zJr {E : (List Int × Int) → Int → List ByteArray → Option ((List Int × Int) × ByteArray)} {d : Nat} {ps : List ByteArray} (hE : qXo N l E d ps) (hd : d ≤ 4) (hps : ps.length < 1000) (hps2 : ∀ x ∈ ps, x.size ≤ 12) (hN : 100 < N) : qXo N l (qFx N E) (d + 1) ps := by
 intro a h0 h1
 have hc : qQi (d + 1) = 3 * qQi d + 8 := rfl
 have hz : qTn (d + 1) = 3 * qTn d + 20 := rfl
 have hge := zFg d
 have hsm := qYz d (by omega)
 have hw : IntKind.wrap .i64 (((d + 1 : Nat) : Int) - 1) = (d : Int) := by rw [wi64 (by omega) (by omega)]; omega
 simp only [qFx, hc, hz, qEo, qHf, qCt, hw]
 repeat' first
  | with_reducible apply Ok.tt
  | with_reducible apply Ok.ff
  | with_reducible apply Ok.ttb
  | with_reducible apply Ok.ffb
  | with_reducible apply Ok.assoc
  | ((with_reducible apply Ok.iteb) <;> intro _)
  | ((with_reducible apply Ok.ite) <;> intro _)
  | with_reducible apply Ok.someb
  | with_reducible apply Ok.mapb
  | ((with_reducible refine Ok.mk ⟨_, _, rfl, ?_, ?_, ?_⟩) <;> omega)
  | ((with_reducible refine Ok.next ?_ ?_ ?_ ?_ (fun _ _ _ => ?_)) <;> try omega)
  | ((with_reducible refine Ok.chance ?_ ?_ ?_ ?_ (fun _ => ?_)) <;> try omega)
  | ((with_reducible refine Ok.pick01 ?_ ?_ (fun _ _ => ?_)) <;> try omega)
  | ((with_reducible refine Ok.exprloop hE (by omega) hw (by assumption) ?_ ?_ ?_ hN (fun _ _ _ _ _ => ?_)) <;> try omega)
  | ((with_reducible refine Ok.expr hE ?_ ?_ (fun _ _ _ _ _ => ?_)) <;> try omega)
  | ((with_reducible refine Ok.pickS ?_ ?_ (by decide) (fun _ _ _ => ?_)) <;> try omega)
  | ((with_reducible refine Ok.oneP ?_ ?_ (by assumption) hps hps2 (fun _ _ => ?_)) <;> try omega)
  | ((with_reducible refine Ok.oneS ?_ ?_ (by decide) (fun _ _ => ?_)) <;> try omega)
  | ((with_reducible refine Ok.digits ?_ ?_ hN (fun _ _ => ?_)) <;> try omega)
  | ((with_reducible refine Ok.cat ?_ (fun _ h => ?_)) <;> simp only [qTc, k0, jC, jD, Nat.reduceAdd] at * <;> try omega)
  | ((with_reducible refine Ok.cat ?_ (fun _ _ => ?_)) <;> try omega)
  | (apply Ok.iteb <;> intro _)
  | dsimp only
 all_goals omega
theorem zLn : ∀ (d D : Nat) (ps : List ByteArray), d < D → d ≤ 5 → ps.length < 1000 → (∀ x ∈ ps, x.size ≤ 12) → 100 < N → qXo N l (qIu N D) d ps
 | _, 0, _, h, _, _, _, _ => absurd h (kU _)
 | 0, D + 1, ps, _, _, h1, h2, hN => zIv (E := qIu N D) rfl h1 h2 hN
 | d + 1, D + 1, ps, h, hd, h1, h2, hN => zJr (zLn d D ps (by omega) (by omega) h1 h2 hN) (by omega) h1 h2 hN
theorem zHp {d : Nat} {ps : List ByteArray} (hd : d ≤ 5) (h1 : ps.length < 1000) (h2 : ∀ x ∈ ps, x.size ≤ 12) (hN : 100 < N) : qXo N l (qHl N) d ps := zLn d N ps (by omega) hd h1 h2 hN
theorem Ok.expr3 {β : Type} {Q : β → Prop} {ps : List ByteArray} {a : Int} {f : (List Int × Int) × ByteArray → Option β} (hN : 100 < N) (h0 : 0 ≤ a) (h1 : a + 10000 < 2000000000000000000) (hps : ps.length ≤ 2 ∧ ∀ x ∈ ps, x.size ≤ 12)
  (h : ∀ (a' : Int) (s : ByteArray), a ≤ a' → a' ≤ a + 10000 → s.size ≤ 854 → Ok (f ((l, a'), s)) Q) : Ok ((qHl N (l, a) 3 ps).bind f) Q :=
 Ok.expr (d := 3) (zHp (by omega) (by omega) hps.2 hN) h0 (by have : qQi 3 = 320 := rfl; have : qQi 2 = 104 := rfl; omega) fun a' s g1 g2 g3 => h a' s g1 (by have : qQi 3 = 320 := rfl; omega) (by have : qTn 3 = 854 := rfl; omega)
theorem Ok.expr2 {β : Type} {Q : β → Prop} {ps : List ByteArray} {a : Int} {f : (List Int × Int) × ByteArray → Option β} (hN : 100 < N) (h0 : 0 ≤ a) (h1 : a + 10000 < 2000000000000000000) (hps : ps.length ≤ 2 ∧ ∀ x ∈ ps, x.size ≤ 12)
  (h : ∀ (a' : Int) (s : ByteArray), a ≤ a' → a' ≤ a + 10000 → s.size ≤ 854 → Ok (f ((l, a'), s)) Q) : Ok ((qHl N (l, a) 2 ps).bind f) Q :=
 Ok.expr (d := 2) (zHp (by omega) (by omega) hps.2 hN) h0 (by have : qQi 3 = 320 := rfl; have : qQi 2 = 104 := rfl; omega) fun a' s g1 g2 g3 => h a' s g1 (by have : qQi 2 = 104 := rfl; omega) (by have : qTn 2 = 278 := rfl; omega)
set_option maxHeartbeats 8000000 in
theorem zMr {a : Int} (hN : 100 < N) (h0 : 0 ≤ a) (h1 : a < 1000000000000000000) : Ok (qIo N (l, a)) fun y => ∃ a' s, y = ((l, a'), s) ∧ a ≤ a' ∧ a' ≤ a + 10010 ∧ s.size ≤ 890 := by
 simp only [qIo, qKq, qEo, qCt]
 repeat' first
  | with_reducible apply Ok.tt
  | with_reducible apply Ok.ff
  | with_reducible apply Ok.ttb
  | with_reducible apply Ok.ffb
  | with_reducible apply Ok.assoc
  | ((with_reducible apply Ok.iteb) <;> intro _)
  | ((with_reducible apply Ok.ite) <;> intro _)
  | with_reducible apply Ok.someb
  | with_reducible apply Ok.mapb
  | ((with_reducible refine Ok.mk ⟨_, _, rfl, ?_, ?_, ?_⟩) <;> omega)
  | ((with_reducible refine Ok.next ?_ ?_ ?_ ?_ (fun _ _ _ => ?_)) <;> try omega)
  | ((with_reducible refine Ok.chance ?_ ?_ ?_ ?_ (fun _ => ?_)) <;> try omega)
  | ((with_reducible refine Ok.expr3 hN ?_ ?_ ?_ (fun _ _ _ _ _ => ?_)) <;> first | omega | exact ⟨by decide, by decide⟩ | skip)
  | ((with_reducible refine Ok.expr2 hN ?_ ?_ ?_ (fun _ _ _ _ _ => ?_)) <;> first | omega | exact ⟨by decide, by decide⟩ | skip)
  | (with_reducible refine Ok.app (by simp) (by decide) ?_)
  | ((with_reducible refine Ok.pickS ?_ ?_ (by decide) (fun _ _ _ => ?_)) <;> try omega)
  | ((with_reducible refine Ok.oneS ?_ ?_ (by decide) (fun _ _ => ?_)) <;> try omega)
  | ((with_reducible refine Ok.digits ?_ ?_ hN (fun _ _ => ?_)) <;> try omega)
  | ((with_reducible refine Ok.cat ?_ (fun _ h => ?_)) <;> simp only [qTc, k0, jC, jD, Nat.reduceAdd] at * <;> try omega)
  | ((with_reducible refine Ok.cat ?_ (fun _ _ => ?_)) <;> try omega)
  | (apply Ok.iteb <;> intro _)
  | dsimp only
 all_goals omega
theorem Has_ok {L : List ByteArray} {x : ByteArray} (hL : L.length < 1000000) (hN : L.length < N) : Ok (qIg N L x) fun _ => True := by
 unfold qIg
 refine Ok.loop (fun st => ∃ j : Nat, st = (j : Int) ∧ j ≤ L.length) (fun st => L.length - st.toNat) (fun _ => True) ?_ ⟨0, rfl, gK _⟩ (by show L.length - (0 : Int).toNat < N; omega) ?_
 ·rintro _ ⟨j, rfl, hj⟩
  simp only [qKd]
  by_cases h : j < L.length
  ·rw [if_pos (by simpa using h), qFt h]
   simp only [j0]
   refine Ok.ite (fun _ => Ok.mk trivial) fun _ => Ok.mk ⟨⟨j + 1, by rw [wi64 (by omega) (by omega)]; omega, by omega⟩, ?_⟩
   rw [wi64 (by omega) (by omega)]; omega
  ·rw [if_neg (by simpa using h)]; exact Ok.mk trivial
 ·intro b _
  cases b <;> exact Ok.mk trivial
theorem Ok.has {β : Type} {Q : β → Prop} {L : List ByteArray} {x : ByteArray} {f : Bool → Option β} (hL : L.length < 1000000) (hN : L.length < N) (h : ∀ b, Ok (f b) Q) : Ok ((qIg N L x).bind f) Q := Ok.bind (Has_ok hL hN) fun b _ => h b
theorem Ok.decl {β : Type} {Q : β → Prop} {a : Int} {f : (List Int × Int) × ByteArray → Option β} (hN : 100 < N) (h0 : 0 ≤ a) (h1 : a < 1000000000000000000)
  (h : ∀ (a' : Int) (s : ByteArray), a ≤ a' → a' ≤ a + 10010 → s.size ≤ 890 → Ok (f ((l, a'), s)) Q) : Ok ((qIo N (l, a)).bind f) Q :=
 Ok.bind (zMr hN h0 h1) fun y hy => by
  obtain ⟨a', s, rfl, g1, g2, g3⟩ := hy
  exact h a' s g1 g2 g3
theorem zNg {β : Type} {Q : β → Prop} {y : (List Int × Int) × ByteArray} {f : ByteArray → Option β} (hs : y.2.size ≤ 890) (hN : 3000 < N) (h : ∀ s : ByteArray, Ok (f s) Q) : Ok ((qAz (qHb N y) N (y.2, 0)).bind f) Q := by
 refine Ok.loop (fun st => ∃ j : Nat, st.2 = (j : Int) ∧ j ≤ y.2.size) (fun st => y.2.size - st.2.toNat) (fun _ => True) ?_ ⟨0, rfl, gK _⟩ (by simp only; omega) (fun b _ => h b)
 rintro ⟨s, _⟩ ⟨j, rfl, hj⟩
 simp only [qHb]
 by_cases hlt : j < y.2.size
 ·rw [if_pos (by simpa using hlt), qZp hlt]
  simp only [j0]
  refine Ok.bind (P := fun _ => True) (Ok.ite (fun _ => Ok.mk trivial) fun _ => Ok.mk trivial) fun b _ => ?_
  refine Ok.ite (fun _ => ?_) fun _ => ?_
  ·rw [qRk (by omega) (by omega) (by omega)]; exact Ok.mk trivial
  ·refine Ok.mk ⟨⟨j + 1, by simp only; rw [wi64 (by omega) (by omega)]; omega, by omega⟩, ?_⟩
   simp only; rw [wi64 (by omega) (by omega)]; omega
 ·rw [if_neg (by simpa using hlt)]; exact Ok.mk trivial
theorem zIb {a : Int} {pk : ByteArray} (hN : 3000 < N) (h0 : 0 ≤ a) (h1 : a < 100000000000000000) (hp : pk.size ≤ 12) : Ok (qHj N (l, a) pk) fun y => ∃ a' s, y = ((l, a'), s) ∧ a ≤ a' ∧ a' ≤ a + 100000 ∧ s.size ≤ 4700 := by
 simp only [qHj]
 refine Ok.cat (by simp only [qTc, k0, jC, jD, Nat.reduceAdd]; omega) fun s1 e1 => ?_
 simp only [qTc, k0, jC, jD, Nat.reduceAdd] at e1
 refine Ok.cat (by simp only [qTc, k0, jC, jD, Nat.reduceAdd]; omega) fun s2 e2 => ?_
 simp only [qTc, k0, jC, jD, Nat.reduceAdd] at e2
 refine Ok.chance h0 (by omega) (by omega) (by omega) fun c => ?_
 refine Ok.bind (P := fun s : ByteArray => s.size ≤ 60) (Ok.ite (fun _ => Ok.cat (by simp only [qTc, k0, jC, jD, Nat.reduceAdd]; omega) fun s3 e3 => Ok.mk (by simp only [qTc, k0, jC, jD, Nat.reduceAdd] at e3; omega)) fun _ => Ok.mk (by omega)) fun o1 e3 => ?_
 dsimp only
 refine Ok.next (by omega) (by omega) (by omega) (by omega) fun r g1 g2 => ?_
 dsimp only
 -- imports
 refine Ok.loop (fun st => ∃ s L n a', st = (s, L, n, l, a') ∧ 0 ≤ n ∧ n ≤ 2 ∧ (L.length : Int) + n ≤ 2 ∧ (s.size : Int) ≤ 60 + 30 * (2 - n) ∧ a ≤ a' ∧ a' ≤ a + 10 + (2 - n)) (fun st => st.2.2.1.toNat) (fun b => ∃ s a', b = (s, l, a') ∧ s.size ≤ 120 ∧ a ≤ a' ∧ a' ≤ a + 20) ?_ ⟨o1, [], r, a + 1 + 1, rfl, g1, by omega, by simp only [jD]; omega, by omega, by omega, by omega⟩ (by simp only; omega) ?_
 ·rintro _ ⟨s, L, n, a', rfl, k1, k2, k3, k4, k5, k6⟩
  simp only [qJa, qGe]
  by_cases hn : n > 0
  ·rw [if_pos (by simpa using hn)]
   refine Ok.assoc (Ok.someb ?_)
   refine Ok.assoc (Ok.oneS (by omega) (by omega) (by decide) fun x hx => ?_)
   dsimp only
   refine Ok.assoc (Ok.bind (P := fun _ => True) (Ok.ite (fun _ => Ok.has (by omega) (by omega) fun b => Ok.mk trivial) fun _ => Ok.mk trivial) fun o4 _ => ?_)
   refine Ok.iteb (fun _ => ?_) fun _ => ?_
   ·refine Ok.assoc (Ok.app (by simp only [jC, jD]; omega) (by decide) ?_)
    refine Ok.assoc (Ok.cat (by simp only [qTc, k0, jC, jD, Nat.reduceAdd]; omega) fun t1 f1 => ?_)
    simp only [qTc, k0, jC, jD, Nat.reduceAdd] at f1
    refine Ok.assoc (Ok.cat (by simp only [qTc, k0, jC, jD, Nat.reduceAdd]; omega) fun t2 f2 => ?_)
    simp only [qTc, k0, jC, jD, Nat.reduceAdd] at f2
    refine Ok.assoc (Ok.cat (by omega) fun t3 f3 => Ok.someb (Ok.mk ?_))
    dsimp only
    rw [wi64 (by omega) (by omega)]
    exact ⟨⟨t3, _, _, _, rfl, by omega, by omega, by simp only [jL, jC, jD]; omega, by omega, by omega, by omega⟩, by omega⟩
   ·refine Ok.someb (Ok.mk ?_)
    dsimp only
    rw [wi64 (by omega) (by omega)]
    exact ⟨⟨s, _, _, _, rfl, by omega, by omega, by omega, by omega, by omega, by omega⟩, by omega⟩
  ·rw [if_neg (by simpa using hn)]
   exact Ok.mk ⟨s, a', rfl, by omega, k5, by omega⟩
 rintro _ ⟨s, b1, rfl, q1, q2, q3⟩
 dsimp only
 refine Ok.next (by omega) (by omega) (by omega) (by omega) fun r2 g3 g4 => ?_
 dsimp only
 -- declarations
 refine Ok.loop (fun st => ∃ s L n a', st = (s, L, n, l, a') ∧ 0 ≤ n ∧ n ≤ 5 ∧ (L.length : Int) + n ≤ 5 ∧ (s.size : Int) ≤ 120 + 890 * (5 - n) ∧ a ≤ a' ∧ a' ≤ a + 100 + 10020 * (5 - n)) (fun st => st.2.2.1.toNat) (fun b => ∃ s a', b = (s, l, a') ∧ s.size ≤ 4580 ∧ a ≤ a' ∧ a' ≤ a + 60000) ?_ ⟨s, [], _, b1 + 1, rfl, by rw [wi64 (by omega) (by omega)]; omega, by rw [wi64 (by omega) (by omega)]; omega, by rw [wi64 (by omega) (by omega)]; simp only [jD]; omega, by rw [wi64 (by omega) (by omega)]; omega, by omega, by rw [wi64 (by omega) (by omega)]; omega⟩ (by simp only; rw [wi64 (by omega) (by omega)]; omega) ?_
 ·rintro _ ⟨s, L, n, a', rfl, k1, k2, k3, k4, k5, k6⟩
  simp only [qJb]
  by_cases hn : n > 0
  ·rw [if_pos (by simpa using hn)]
   refine Ok.assoc (Ok.decl (by omega) (by omega) (by omega) fun a2 d v1 v2 v3 => ?_)
   refine Ok.assoc (zNg (y := ((l, a2), d)) v3 hN fun hd => ?_)
   dsimp only
   refine Ok.assoc (Ok.bind (P := fun o : Bool × List Int × Int => o.2.1 = l ∧ a2 ≤ o.2.2 ∧ o.2.2 ≤ a2 + 1) (Ok.has (by omega) (by omega) fun b => Ok.ite (fun _ => Ok.mk ⟨rfl, by simp only; omega, by simp only; omega⟩) fun _ => Ok.chance (by omega) (by omega) (by omega) (by omega) fun c => Ok.mk ⟨rfl, by simp only; omega, by simp only; omega⟩) fun o9 h9 => ?_)
   obtain ⟨b9, l9, a9⟩ := o9
   obtain ⟨rfl, w1, w2⟩ := h9
   dsimp only at w1 w2 ⊢
   refine Ok.iteb (fun _ => ?_) fun _ => ?_
   ·refine Ok.assoc (Ok.app (by simp only [jC, jD]; omega) (by decide) ?_)
    refine Ok.assoc (Ok.cat (by omega) fun t3 f3 => Ok.someb (Ok.mk ?_))
    dsimp only
    rw [wi64 (by omega) (by omega)]
    exact ⟨⟨t3, _, _, _, rfl, by omega, by omega, by simp only [jL, jC, jD]; omega, by omega, by omega, by omega⟩, by omega⟩
   ·refine Ok.someb (Ok.mk ?_)
    dsimp only
    rw [wi64 (by omega) (by omega)]
    exact ⟨⟨s, _, _, _, rfl, by omega, by omega, by omega, by omega, by omega, by omega⟩, by omega⟩
  ·rw [if_neg (by simpa using hn)]
   exact Ok.mk ⟨s, a', rfl, by omega, k5, by omega⟩
 rintro _ ⟨s, b2, rfl, u1, u2, u3⟩
 dsimp only
 refine Ok.chance (by omega) (by omega) (by omega) (by omega) fun c => ?_
 dsimp only
 refine Ok.iteb (fun _ => ?_) fun _ => ?_
 ·refine Ok.assoc (Ok.oneS (by omega) (by omega) (by decide) fun x hx => ?_)
  dsimp only
  refine Ok.assoc (Ok.cat (by omega) fun t f1 => Ok.someb (Ok.mk ?_))
  dsimp only
  refine ⟨_, _, rfl, ?_, ?_, ?_⟩ <;> omega
 ·refine Ok.someb (Ok.mk ?_)
  dsimp only
  refine ⟨_, _, rfl, ?_, ?_, ?_⟩ <;> omega
end
end
section
open Go Go.Dc
theorem qOq {N : Nat} {L : List File} {p b : ByteArray} (hl : L.length < 1000000) (ha : Asc L) : ∀ (d i M : Nat) (done : Bool) (acc : List File), i + d = L.length → d < M → acc.length ≤ i + done.toNat → (done = true → ∀ f ∈ L.drop i, f.1 ≠ p) →
  Ok (qAz (qFq N L (p, b)) M (done, (i : Int), acc)) fun o => o.2.length ≤ L.length + 1 ∧ (if o.1 = true then o.2 else o.2 ++ [(p, b)]) = acc ++ (if done = true then L.drop i else fput (L.drop i) p b)
 | _, _, 0, _, _, _, h, _, _ => by omega
 | 0, i, M + 1, done, acc, hd, _, hacc, _ => by
  refine ⟨(done, acc), ?_, by simp only; cases done <;> simp only [Bool.toNat_true, Bool.toNat_false] at hacc <;> omega, ?_⟩
  ·simp only [qAz, qFq]
   rw [if_neg (by simp only [jA]; omega)]
   rfl
  ·rw [jN (by omega)]
   cases done <;> simp [fput]
 | d + 1, i, M + 1, done, acc, hd, hM, hacc, hno => by
  have hi : i < L.length := by omega
  have e1 : (i : Int) + 1 = ((i + 1 : Nat) : Int) := by omega
  have hgt : ∀ f ∈ L.drop (i + 1), blt (L[i]).1 f.1 = true := by
   have := (k8.1 (by rw [← jI hi]; exact List.Pairwise.sublist (List.drop_sublist _ _) ha : Asc (L[i] :: L.drop (i + 1)))).1
   exact this
  simp only [qAz, qFq]
  rw [if_pos (by simp only [jA]; omega), qFt hi, wi64 (by omega) (by omega), e1]
  rw [jI hi] at hno ⊢
  simp only [j0, eqB]
  cases done with
  | true =>
   simp only [Bool.toNat_true] at hacc
   have hne := hno rfl _ (jT ..)
   have ih := qOq (N := N) (p := p) (b := b) hl ha d (i + 1) M true (acc ++ [((L[i]).1, (L[i]).2)]) (by omega) (by omega) (by simp; omega) (fun h f hf => hno rfl f (jY _ hf))
   simp only [k7, jB, jE, j0]
   rw [if_pos (by simp [hne]), qCh (by simp only [jC, jD]; omega) (by omega)]
   simp only [j0]
   refine ih.mono fun o ho => ⟨ho.1, ?_⟩
   rw [ho.2]; simp only [jH, gW, gP, kD]
  | false =>
   simp only [Bool.toNat_false] at hacc
   simp only [jU, jH, j0]
   rcases qTu p (L[i]).1 with h | h | h
   ·have h' : Op.bytesLess p.toList (L[i]).1.toList = true := h
    have hne : (L[i]).1 ≠ p := fun e => zJc h e.symm
    have ih := qOq (N := N) (p := p) (b := b) hl ha d (i + 1) M true ((acc ++ [(p, b)]) ++ [((L[i]).1, (L[i]).2)]) (by omega) (by omega) (by simp; omega) (fun _ f hf e => by
     have := qPv h (hgt f hf); rw [e, qMy] at this; cases this)
    rw [h', Bool.true_or, if_pos rfl, qCh (by simp only [jC, jD]; omega) (by omega)]
    simp only [j0]
    rw [if_pos (by simp [hne]), qCh (by simp only [jL, jC, jD]; omega) (by omega)]
    simp only [j0]
    refine ih.mono fun o ho => ⟨ho.1, ?_⟩
    have g3 : fput (L[i] :: L.drop (i + 1)) p b = (p, b) :: L[i] :: L.drop (i + 1) := by rw [fput, if_pos h]
    rw [ho.2, g3]; simp only [jH, gW, gP, kD, jB, jE]
   ·have ih := qOq (N := N) (p := p) (b := b) hl ha d (i + 1) M true (acc ++ [(p, b)]) (by omega) (by omega) (by simp; omega) (fun _ f hf e => by
     have := hgt f hf; rw [← h, e, qMy] at this; cases this)
    rw [jM h, Bool.or_true, if_pos rfl, qCh (by simp only [jC, jD]; omega) (by omega)]
    simp only [j0]
    rw [if_neg (by simp [h])]
    simp only [j0]
    refine ih.mono fun o ho => ⟨ho.1, ?_⟩
    have g3 : fput (L[i] :: L.drop (i + 1)) p b = (p, b) :: L.drop (i + 1) := by rw [fput, if_neg (by rw [h, qMy]; simp), if_pos h.symm]
    rw [ho.2, g3]; simp only [jH, gW, gP, kD, jB, jE]
   ·have hne : (L[i]).1 ≠ p := zJc h
    have h' : Op.bytesLess p.toList (L[i]).1.toList = false := zCp h
    have ih := qOq (N := N) (p := p) (b := b) hl ha d (i + 1) M false (acc ++ [((L[i]).1, (L[i]).2)]) (by omega) (by omega) (by simp; omega) (fun h => by cases h)
    rw [h', jQ (fun e => hne e.symm), Bool.or_false, if_neg (by simp)]
    simp only [j0]
    rw [if_pos (by simp [hne]), qCh (by simp only [jC, jD]; omega) (by omega)]
    simp only [j0]
    refine ih.mono fun o ho => ⟨ho.1, ?_⟩
    have g3 : fput (L[i] :: L.drop (i + 1)) p b = L[i] :: fput (L.drop (i + 1)) p b := by rw [fput, if_neg (by rw [show blt p (L[i]).1 = false from h']; simp), if_neg hne]
    rw [ho.2, g3]; simp only [gW, gP, kD, jB, jE]
theorem zCf {N : Nat} {L : List File} (p b : ByteArray) (hl : L.length < 1000000) (ha : Asc L) (hN : L.length < N) : qEv N L (p, b) = some (fput L p b) := by
 obtain ⟨o, h1, h2, h3⟩ := qOq (N := N) (p := p) (b := b) hl ha L.length 0 N false [] (by omega) hN (by simp) (fun h => by cases h)
 simp only [qEv]
 rw [show ((0 : Nat) : Int) = 0 from rfl] at h1
 rw [h1]
 simp only [jZ, kD, jB, jE] at h3
 simp only [j0]
 cases ho : o.1 with
 | true => rw [ho] at h3; simp only [jH] at h3; simp [h3]
 | false =>
  rw [ho] at h3
  simp only [jB, jE] at h3
  simp only [jU, jH]
  rw [qCh (by simp only [jC, jD]; omega) (by omega), h3]
  rfl
def srcL : List ByteArray := [(⟨#[97, 46, 115, 114, 99]⟩ : ByteArray), (⟨#[98, 46, 115, 114, 99]⟩ : ByteArray), (⟨#[100, 47, 99, 46, 115, 114, 99]⟩ : ByteArray), (⟨#[120, 46, 115, 114, 99]⟩ : ByteArray)]
def datL : List ByteArray := [(⟨#[97, 46, 100, 97, 116]⟩ : ByteArray), (⟨#[100, 47, 98, 46, 100, 97, 116]⟩ : ByteArray), (⟨#[99]⟩ : ByteArray)]
theorem zNm : (srcL.all fun p => qKx p.data.toList) = true := by kernel_rfl
theorem zMw : (datL.all fun p => qKx p.data.toList) = true := by kernel_rfl
def Made (L : List File) : Prop := Asc L ∧ ∀ f ∈ L, f.1 ∈ srcL ++ datL ∧ f.2.size ≤ 4700
theorem Made.put {L : List File} (h : Made L) {p b : ByteArray} (hp : p ∈ srcL ++ datL) (hb : b.size ≤ 4700) : Made (fput L p b) :=
 ⟨h.1.put p b, fun f hf => by
  rcases qVu hf with rfl | hf
  ·exact ⟨hp, hb⟩
  ·exact h.2 f hf⟩
theorem Made.path {L : List File} (h : Made L) {f : File} (hf : f ∈ L) : qKx f.1.data.toList = true := by
 rcases gV.1 (h.2 f hf).1 with h | h
 ·exact jS.1 zNm _ h
 ·exact jS.1 zMw _ h
theorem zKr {N : Nat} {y1 : List ByteArray} {s1 : Int × (List (ByteArray × ByteArray)) × List (Int) × Int} : qGb N y1 s1 =
 if (decide (s1.1 < (List.length y1 : Int))) = true then (((idx y1 s1.1).bind fun x1 => (qCb N (s1.2.2.1, s1.2.2.2) 3 4).bind fun y2 => if y2.2 = true then ((qGe N).bind fun y3 => (qBo N (y2.1.1, y2.1.2) y3).bind fun y4 => (qHj N (y4.1.1, y4.1.2) y4.2).bind fun y5 => (qEv N s1.2.1 (x1, y5.2)).bind fun y6 => some (y6, y5.1.1, y5.1.2)) else (some (s1.2.1, y2.1.1, y2.1.2)) : Option ((List (ByteArray × ByteArray)) × List (Int) × Int)).bind fun o2 => some (.inl (IntKind.wrap .i64 (s1.1 + 1), o2.1, o2.2.1, o2.2.2))) else (some (.inr (s1.2.1, s1.2.2.1, s1.2.2.2))) := rfl
theorem zLk {N : Nat} {s2 : Int × (List (ByteArray × ByteArray)) × List (Int) × Int} : qIa N s2 =
 if (decide (s2.1 < (List.length datL : Int))) = true then (((idx datL s2.1).bind fun x2 => (qCb N (s2.2.2.1, s2.2.2.2) 1 3).bind fun y7 => if y7.2 = true then ((qIp N (y7.1.1, y7.1.2)).bind fun y8 => (qEv N s2.2.1 (x2, y8.2)).bind fun y9 => some (y9, y8.1.1, y8.1.2)) else (some (s2.2.1, y7.1.1, y7.1.2)) : Option ((List (ByteArray × ByteArray)) × List (Int) × Int)).bind fun o4 => some (.inl (IntKind.wrap .i64 (s2.1 + 1), o4.1, o4.2.1, o4.2.2))) else (some (.inr (s2.2.1, s2.2.2.1, s2.2.2.2))) := rfl
theorem zGd (l : List UInt8) : (qQr l).size = l.length := by simp [qQr, ByteArray.size]
theorem zMj {N : Nat} {l : List Int} {a : Int} (hN : 100 < N) (h0 : 0 ≤ a) (h1 : a < 1000000000000000000) : Ok (qIp N (l, a)) fun y => ∃ a' s, y = ((l, a'), s) ∧ a ≤ a' ∧ a' ≤ a + 10 ∧ s.size ≤ 10 := by
 simp only [qIp]
 refine Ok.next (by omega) (by omega) (by omega) (by omega) fun r g1 g2 => ?_
 dsimp only
 simp only [qIz]
 refine Ok.assoc ?_
 refine Ok.loop (fun st => ∃ L n a', st = (L, n, l, a') ∧ 0 ≤ n ∧ n ≤ r ∧ (L.length : Int) = n ∧ a ≤ a' ∧ a' ≤ a + 1 + n) (fun st => (r - st.2.1).toNat) (fun b => ∃ L a', b = (L, l, a') ∧ L.length ≤ 4 ∧ a ≤ a' ∧ a' ≤ a + 5) ?_ ⟨[], 0, a + 1, rfl, by omega, by omega, rfl, by omega, by omega⟩ (by dsimp only; omega) ?_
 ·rintro _ ⟨L, n, a', rfl, k1, k2, k3, k4, k5⟩
  have h5 : ByteArray.size (⟨#[97, 98, 0, 255, 48]⟩ : ByteArray) = 5 := rfl
  simp only [qHp, h5]
  by_cases hn : n < r
  ·rw [if_pos (by simpa using hn)]
   refine Ok.next (by omega) (by omega) (by omega) (by omega) fun q v1 v2 => ?_
   dsimp only
   have hq : q.toNat < ByteArray.size (⟨#[97, 98, 0, 255, 48]⟩ : ByteArray) := by rw [h5]; omega
   have hx : idxB (⟨#[97, 98, 0, 255, 48]⟩ : ByteArray) q = some ((⟨#[97, 98, 0, 255, 48]⟩ : ByteArray)[q.toNat]) := by
    have := qZp hq
    rw [Int.toNat_of_nonneg v1] at this
    exact this
   rw [hx]
   refine Ok.someb (Ok.app (by simp only [jC, jD]; omega) (by decide) (Ok.mk ?_))
   dsimp only
   rw [wi64 (by omega) (by omega)]
   exact ⟨⟨_, _, _, rfl, by omega, by omega, by simp only [jL, jC, jD]; omega, by omega, by omega⟩, by omega⟩
  ·rw [if_neg (by simpa using hn)]
   exact Ok.mk ⟨L, a', rfl, by omega, by omega, by omega⟩
 ·rintro _ ⟨L, a', rfl, v1, v2, v3⟩
  refine Ok.someb (Ok.mk ?_)
  dsimp only
  refine ⟨_, _, rfl, ?_, ?_, ?_⟩
  ·omega
  ·omega
  ·rw [zGd]; omega
theorem zDw {N : Nat} {l : List Int} {a : Int} (hN : 3000 < N) (h0 : 0 ≤ a) (h1 : a < 10000000000000000) : Ok (qHr N (l, a)) fun y => ∃ a' L, y = ((l, a'), L) ∧ a ≤ a' ∧ a' ≤ a + 1000000 ∧ Made L ∧ L.length ≤ 7 := by
 simp only [qHr, qJr]
 refine Ok.someb ?_
 show Ok ((qAz (qGb N srcL) N (0, [], l, a)).bind _) _
 refine Ok.loop (fun st => ∃ (n : Nat) (L : List File) (a' : Int), st = ((n : Int), L, l, a') ∧ n ≤ 4 ∧ L.length ≤ n ∧ Made L ∧ a ≤ a' ∧ a' ≤ a + 100010 * n) (fun st => 4 - st.1.toNat) (fun b => ∃ L a', b = (L, l, a') ∧ L.length ≤ 4 ∧ Made L ∧ a ≤ a' ∧ a' ≤ a + 500000) ?_ ⟨0, [], a, rfl, by omega, by simp, ⟨List.Pairwise.nil, by simp⟩, by omega, by omega⟩ (by dsimp only; omega) ?_
 ·rintro _ ⟨n, L, a', rfl, k1, k2, k3, k4, k5⟩
  rw [zKr]
  have hlen : srcL.length = 4 := rfl
  dsimp only
  by_cases hn : n < 4
  ·rw [if_pos (by simp only [jA, hlen]; omega), qFt (l := srcL) (by omega)]
   refine Ok.assoc (Ok.someb ?_)
   refine Ok.assoc (Ok.chance (by omega) (by omega) (by omega) (by omega) fun c => ?_)
   dsimp only
   refine Ok.iteb (fun _ => ?_) fun _ => ?_
   ·refine Ok.assoc (Ok.someb ?_)
    refine Ok.assoc (Ok.oneS (by omega) (by omega) (by decide) fun x hx => ?_)
    dsimp only
    refine Ok.assoc (Ok.bind (zIb hN (by omega) (by omega) hx) ?_)
    rintro _ ⟨a2, s, rfl, v1, v2, v3⟩
    dsimp only
    rw [zCf _ _ (by omega) k3.1 (by omega)]
    refine Ok.assoc (Ok.someb (Ok.someb (Ok.mk ?_)))
    dsimp only
    have hf := qWo L (srcL[n]) s
    refine ⟨⟨n + 1, _, _, by rw [wi64 (by omega) (by omega)]; rfl, by omega, by omega, k3.put (kW _ (kG _)) v3, by omega, by omega⟩, ?_⟩
    rw [wi64 (by omega) (by omega)]; omega
   ·refine Ok.someb (Ok.mk ?_)
    dsimp only
    refine ⟨⟨n + 1, _, _, by rw [wi64 (by omega) (by omega)]; rfl, by omega, by omega, k3, by omega, by omega⟩, ?_⟩
    rw [wi64 (by omega) (by omega)]; omega
  ·rw [if_neg (by simp only [jA, hlen]; omega)]
   exact Ok.mk ⟨L, a', rfl, by omega, k3, by omega, by omega⟩
 rintro _ ⟨L1, a1, rfl, u1, u2, u3, u4⟩
 dsimp only
 refine Ok.loop (fun st => ∃ (n : Nat) (L : List File) (a' : Int), st = ((n : Int), L, l, a') ∧ n ≤ 3 ∧ L.length ≤ 4 + n ∧ Made L ∧ a ≤ a' ∧ a' ≤ a + 500000 + 20 * n) (fun st => 3 - st.1.toNat) (fun b => ∃ L a', b = (L, l, a') ∧ L.length ≤ 7 ∧ Made L ∧ a ≤ a' ∧ a' ≤ a + 600000) ?_ ⟨0, L1, a1, rfl, by omega, by omega, u2, by omega, by omega⟩ (by dsimp only; omega) ?_
 ·rintro _ ⟨n, L, a', rfl, k1, k2, k3, k4, k5⟩
  rw [zLk]
  have hlen : datL.length = 3 := rfl
  dsimp only
  by_cases hn : n < 3
  ·rw [if_pos (by simp only [jA, hlen]; omega), qFt (l := datL) (by omega)]
   refine Ok.assoc (Ok.someb ?_)
   refine Ok.assoc (Ok.chance (by omega) (by omega) (by omega) (by omega) fun c => ?_)
   dsimp only
   refine Ok.iteb (fun _ => ?_) fun _ => ?_
   ·refine Ok.assoc (Ok.bind (zMj (by omega) (by omega) (by omega)) ?_)
    rintro _ ⟨a2, s, rfl, v1, v2, v3⟩
    dsimp only
    rw [zCf _ _ (by omega) k3.1 (by omega)]
    refine Ok.assoc (Ok.someb (Ok.someb (Ok.mk ?_)))
    dsimp only
    have hf := qWo L (datL[n]) s
    refine ⟨⟨n + 1, _, _, by rw [wi64 (by omega) (by omega)]; rfl, by omega, by omega, k3.put (List.mem_append_right _ (kG _)) (by omega), by omega, by omega⟩, ?_⟩
    rw [wi64 (by omega) (by omega)]; omega
   ·refine Ok.someb (Ok.mk ?_)
    dsimp only
    refine ⟨⟨n + 1, _, _, by rw [wi64 (by omega) (by omega)]; rfl, by omega, by omega, k3, by omega, by omega⟩, ?_⟩
    rw [wi64 (by omega) (by omega)]; omega
  ·rw [if_neg (by simp only [jA, hlen]; omega)]
   exact Ok.mk ⟨L, a', rfl, by omega, k3, by omega, by omega⟩
 rintro _ ⟨L2, a2, rfl, w1, w2, w3, w4⟩
 refine Ok.mk ?_
 exact ⟨a2, L2, rfl, by omega, by omega, w2, w1⟩
theorem Made.wf {L : List File} (h : Made L) (hl : L.length ≤ 64) : WF L := ⟨hl, h.1, fun f hf => ⟨h.path hf, fI (h.2 f hf).2 (by decide)⟩⟩
end
section
open Go Go.Dc
def MadeE (K : Nat) (L : List File) : Prop := Asc L ∧ ∀ f ∈ L, qKx f.1.data.toList = true ∧ f.2.size ≤ K
theorem Made.e {L : List File} (h : Made L) : MadeE 4700 L := ⟨h.1, fun f hf => ⟨h.path hf, (h.2 f hf).2⟩⟩
theorem MadeE.put {K : Nat} {L : List File} (h : MadeE K L) {p b : ByteArray} (hp : qKx p.data.toList = true) (hb : b.size ≤ K) : MadeE K (fput L p b) :=
 ⟨h.1.put p b, fun f hf => by
  rcases qVu hf with rfl | hf
  ·exact ⟨hp, hb⟩
  ·exact h.2 f hf⟩
theorem MadeE.more {K K' : Nat} {L : List File} (h : MadeE K L) (hk : K ≤ K') : MadeE K' L := ⟨h.1, fun f hf => ⟨(h.2 f hf).1, fI (h.2 f hf).2 hk⟩⟩
theorem MadeE.wf {K : Nat} {L : List File} (h : MadeE K L) (hk : K ≤ 16384) (hl : L.length ≤ 64) : WF L := ⟨hl, h.1, fun f hf => ⟨(h.2 f hf).1, fI (h.2 f hf).2 hk⟩⟩
section
variable {N : Nat} {l : List Int} {a : Int} {K : Nat} {L : List File}
end
end
section
open Go Go.Dc Go.Proofs
def wR : List File := [((⟨#[97, 46, 115, 114, 99]⟩ : ByteArray), (⟨#[112, 97, 99, 107, 97, 103, 101, 32, 115, 59, 32, 102, 117, 110, 99, 32, 102, 40, 41, 32, 61, 32, 49, 59, 32, 103, 101, 110, 32, 34, 99, 34, 32, 61, 32, 50, 59]⟩ : ByteArray))]
theorem zNi : zEa wR (⟨#[112]⟩ : ByteArray) [(⟨#[113]⟩ : ByteArray), (⟨#[115]⟩ : ByteArray)] (⟨#[102]⟩ : ByteArray) = (((⟨#[115]⟩ : ByteArray), (⟨#[102]⟩ : ByteArray), 1, (⟨#[97, 46, 115, 114, 99]⟩ : ByteArray), 0, 1), [(1, (⟨#[112]⟩ : ByteArray), (⟨#[102]⟩ : ByteArray)), (1, (⟨#[113]⟩ : ByteArray), (⟨#[102]⟩ : ByteArray)), (1, (⟨#[115]⟩ : ByteArray), (⟨#[102]⟩ : ByteArray))], 0) := by kernel_rfl
theorem zMm : zNp wR (⟨#[99]⟩ : ByteArray) = (2, ((⟨#[115]⟩ : ByteArray), (⟨#[99]⟩ : ByteArray), 3, (⟨#[97, 46, 115, 114, 99]⟩ : ByteArray), 1, 1), [(4, (⟨#[99]⟩ : ByteArray), qLe), (3, (⟨#[99]⟩ : ByteArray), qLe)], 0) := by kernel_rfl
theorem zDv {N : Nat} {L : List File} (h : ∀ f ∈ L, f.1.size ≤ 1048576) (hN : 3000000 < N) : qSz N L := fun g hg => zAo (by have := h g hg; omega) (by have := h g hg; omega)
theorem zHm {p : ByteArray} (h : qKx p.data.toList = true) : p.size ≤ 80 := by
 have : p.data.toList.length ≤ 80 := (kX h).1
 have e := qCi p
 omega
theorem zGx {N K : Nat} {L : List File} (h : MadeE K L) (hN : 10000 < N) : qSz N L := fun g hg => by
 have := zHm (h.2 g hg).1
 exact zAo (by omega) (by omega)
theorem zCt {N : Nat} (hN : 3000000 < N) : qHm N = some true := by
 have hP : qSz N wR := zDv (fun f hf => by
  rw [List.mem_singleton.1 hf]; decide) hN
 have h1 := zIk (N := N) (L := wR) (f := ((⟨#[112]⟩ : ByteArray), [(⟨#[113]⟩ : ByteArray), (⟨#[115]⟩ : ByteArray)], [])) (name := (⟨#[102]⟩ : ByteArray)) hP (by decide) (by omega)
 have h2 := zNf (N := N) (L := wR) (path := (⟨#[99]⟩ : ByteArray)) hP (zAo (by decide) (show 2 * 1 + 1000 < N by omega)) (by omega)
 rw [show zEa wR _ _ _ = _ from zNi] at h1
 rw [zMm] at h2
 unfold qHm
 refine Eq.trans (congrArg (fun z => Option.bind z _) h1) ?_
 simp only [j0]
 refine Eq.trans (congrArg (fun z => Option.bind z _) h2) ?_
 kernel_rfl
def Dec (E : ByteArray → Ent) (name : ByteArray) (r : Ent × List K3 × Int) : Prop :=
 (1 ≤ r.2.1.length ∧ r.2.1.length ≤ 2) ∧ ∀ i, ∀ h : i < r.2.1.length, (r.2.1[i]).2.2 = name ∧ (i + 1 ≠ r.2.1.length → (E (r.2.1[i]).2.1).2.2.2.2.2 = 0) ∧
  (i + 1 = r.2.1.length → (r.2.2 = 0 ↔ (E (r.2.1[i]).2.1).2.2.2.2.2 = 1) ∧ (r.2.2 = 12 ↔ 1 < (E (r.2.1[i]).2.1).2.2.2.2.2) ∧ (r.2.2 = 0 → r.1 = E (r.2.1[i]).2.1))
theorem dec1 {E : ByteArray → Ent} {name p : ByteArray} {x : Ent} {e : Int} (h : (e = 0 ↔ (E p).2.2.2.2.2 = 1) ∧ (e = 12 ↔ 1 < (E p).2.2.2.2.2) ∧ (e = 0 → x = E p)) : Dec E name (x, [(1, p, name)], e) :=
 ⟨⟨jW _, (by show 1 ≤ 2; decide)⟩, fun i hi => by
  have hi : i = 0 := by simpa using hi
  subst hi
  exact ⟨rfl, fun h => absurd rfl h, fun _ => h⟩⟩
theorem dec2 {E : ByteArray → Ent} {name p q : ByteArray} {x : Ent} {e : Int} (h0 : (E p).2.2.2.2.2 = 0) (h : (e = 0 ↔ (E q).2.2.2.2.2 = 1) ∧ (e = 12 ↔ 1 < (E q).2.2.2.2.2) ∧ (e = 0 → x = E q)) : Dec E name (x, [(1, p, name), (1, q, name)], e) :=
 ⟨⟨by simp, jW _⟩, fun i hi => by
  have hi : i < 2 := hi
  rcases (by omega : i = 0 ∨ i = 1) with rfl | rfl
  ·exact ⟨rfl, fun _ => h0, fun h => absurd h (by simp)⟩
  ·exact ⟨rfl, fun h => absurd rfl h, fun _ => h⟩⟩
theorem zKn {E : ByteArray → Ent} (hE : ∀ p, 0 ≤ (E p).2.2.2.2.2) (name p q : ByteArray) : Dec E name (qWt E name [p, q] []) := by
 have hp := hE p
 have hq := hE q
 simp only [qWt, kD, List.singleton_append]
 by_cases h0 : (E p).2.2.2.2.2 = 0
 ·rw [if_pos h0]
  by_cases h1 : (E q).2.2.2.2.2 = 0
  ·rw [if_pos h1]
   exact dec2 h0 ⟨⟨fun h => absurd h (by decide), fun h => by omega⟩, ⟨fun h => absurd h (by decide), fun h => by omega⟩, fun h => absurd h (by decide)⟩
  ·rw [if_neg h1]
   by_cases h2 : 1 < (E q).2.2.2.2.2
   ·rw [if_pos h2]
    exact dec2 h0 ⟨⟨fun h => absurd h (by decide), fun h => by omega⟩, ⟨fun _ => h2, fun _ => rfl⟩, fun h => absurd h (by decide)⟩
   ·rw [if_neg h2]
    exact dec2 h0 ⟨⟨fun _ => by omega, fun _ => rfl⟩, ⟨fun h => absurd h (by decide), fun h => absurd h h2⟩, fun _ => rfl⟩
 ·rw [if_neg h0]
  by_cases h2 : 1 < (E p).2.2.2.2.2
  ·rw [if_pos h2]
   exact dec1 ⟨⟨fun h => absurd h (by decide), fun h => by omega⟩, ⟨fun _ => h2, fun _ => rfl⟩, fun h => absurd h (by decide)⟩
  ·rw [if_neg h2]
   exact dec1 ⟨⟨fun _ => by omega, fun _ => rfl⟩, ⟨fun h => absurd h (by decide), fun h => absurd h h2⟩, fun _ => rfl⟩
theorem zCx {N : Nat} {L : List File} {y1 : (List Int × Int) × List File} {y4 : (List Int × Int) × ByteArray} {r : Ent × List K3 × Int} (hL : y1.2 = L) (hd : Dec (fun p => qJm L 1 p y4.2) y4.2 r) (hN : 1000005 < N) :
  qAz (qDb N y1 y4 r) N 0 = some (.inl ()) := by
 obtain ⟨hl, hd⟩ := hd
 have := qUe (L := r.2.1) (fun (_ : Unit) (i : Nat) => (i : Int)) (f := qDb N y1 y4 r) (fun _ _ _ => ()) (fun _ => (.inl () : Unit ⊕ Bool)) (by
  intro _ i hi
  obtain ⟨g1, g2, g3⟩ := hd i hi
  simp only [qDb]
  rw [if_pos (by simp only [jA]; omega), qFt hi]
  have ew : IntKind.wrap .i64 ((i : Int) + 1) = ((i + 1 : Nat) : Int) := by rw [wi64 (by omega) (by omega)]; omega
  have ew2 : IntKind.wrap .i64 ((r.2.1.length : Int) - 1) = ((r.2.1.length - 1 : Nat) : Int) := by rw [wi64 (by omega) (by omega)]; omega
  simp only [j0, qWx _ _ _ hN, hL, ew, ew2, eqB, g1, decide_true, k7, jB, jE]
  by_cases hlast : i + 1 = r.2.1.length
  ·have e1 : ((i : Int) == ((r.2.1.length - 1 : Nat) : Int)) = true := by rw [jV]; omega
   obtain ⟨g3, g4, -⟩ := g3 hlast
   have g3' : ((r.2.2 == 0) == ((qJm L 1 (r.2.1[i]).2.1 y4.2).2.2.2.2.2 == 1)) = true := by
    rw [jV, jR, jV, jV]; exact g3
   have g4' : ((r.2.2 == 12) == (decide ((qJm L 1 (r.2.1[i]).2.1 y4.2).2.2.2.2.2 > 1))) = true := by
    rw [jV, jR, jV, jA]; exact g4
   simp only [e1, g3', g4', k7, jB, jE, jH, j0]
  ·have e1 : ((i : Int) == ((r.2.1.length - 1 : Nat) : Int)) = false := by rw [beq_eq_false_iff_ne]; omega
   have e2 : ((qJm L 1 (r.2.1[i]).2.1 y4.2).2.2.2.2.2 != 0) = false := by rw [bne_eq_false_iff_eq]; exact g2 hlast
   simp only [e1, e2, jU, jB, jE, jH, j0]) (by
  intro _
  simp only [qDb]
  rw [if_neg (by simp)]) r.2.1.length 0 N () (by omega) (by omega)
 exact this
theorem zKf : ((qCt 0).getD []).all qUj = true := by kernel_rfl
theorem testgatelaw09_ResolveDecides_true (l : List Int) (_gl : l.length * 8 ≤ reachBytes ∧ ∀ x ∈ l, (Lit.int .i64 x).wf = true) : ∃ N, qEl N l = some true := by
 refine ⟨4000000, ?_⟩
 have key : Ok (qEl 4000000 l) fun b => b = true := by
  unfold qEl
  refine Ok.bind (zDw (l := l) (a := 0) (by decide) (by decide) (by decide)) ?_
  rintro _ ⟨a1, L, rfl, u1, u2, u3, u4⟩
  dsimp only
  refine Ok.one (by omega) (by omega) (by decide) (by decide) fun pkg hpkg => ?_
  dsimp only
  have hF : qCt 4000000 = qCt 0 := rfl
  rw [hF]
  cases hf : qCt 0 with
  | none => simp [qCt] at hf
  | some F =>
   have hn := zKf
   rw [hf] at hn
   have hFl : F.length = 4 := by
    have := congrArg (fun o : Option (List ByteArray) => (o.getD []).length) hf
    exact this.symm
   simp only [j0]
   refine Ok.one (by omega) (by omega) (by omega) (by omega) fun name hname => ?_
   have hnm : qUj name = true := jS.1 hn name hname
   have hw : WF L := u3.wf (by omega)
   have hc := qNp.2 hw
   dsimp only
   have hcall := zIk (N := 4000000) (L := L) (f := (pkg, [(⟨#[115]⟩ : ByteArray)], [])) (name := name) (zGx u3.e (by decide)) (show 1 < 1000 by decide) (by decide)
   have hd := zKn (fun p => zCi L 1 p name) name pkg (⟨#[115]⟩ : ByteArray)
   have hcp : zEa L pkg [(⟨#[115]⟩ : ByteArray)] name = qWt (fun p => qJm L 1 p name) name [pkg, (⟨#[115]⟩ : ByteArray)] [] := by unfold zEa; rw [if_pos ⟨hc, hnm⟩]
   rw [show zEa L _ _ name = _ from hcp] at hcall
   refine Ok.bind (P := fun y => y = qWt (fun p => qJm L 1 p name) name [pkg, (⟨#[115]⟩ : ByteArray)] []) ⟨_, hcall, rfl⟩ ?_
   rintro _ rfl
   generalize qWt (fun p => qJm L 1 p name) name [pkg, (⟨#[115]⟩ : ByteArray)] [] = r at hd
   obtain ⟨⟨k1, k2⟩, k3⟩ := id hd
   rw [if_neg (show ¬ decide ((List.length r.2.1 : Int) < 1) = true by simp only [jA]; omega)]
   simp only [j0]
   rw [if_neg (show ¬ decide ((List.length r.2.1 : Int) > 2) = true by simp only [jA]; omega)]
   refine Ok.bind (P := fun o => o = .inl ()) ⟨_, zCx (y1 := ((l, a1), L)) (y4 := ((l, a1 + 1 + 1), name)) rfl hd (by decide), rfl⟩ ?_
   rintro _ rfl
   dsimp only
   by_cases h0 : r.2.2 = 0
   ·have hi : r.2.1.length - 1 < r.2.1.length := by omega
    have ew2 : IntKind.wrap .i64 ((r.2.1.length : Int) - 1) = ((r.2.1.length - 1 : Nat) : Int) := by rw [wi64 (by omega) (by omega)]; omega
    obtain ⟨-, -, g3⟩ := k3 _ hi
    obtain ⟨-, -, g5⟩ := g3 (by omega)
    rw [if_neg (by simp [h0]), ew2, qFt hi]
    simp only [j0, qWx _ _ _ (show 1000005 < 4000000 by decide)]
    rw [if_pos (by rw [g5 h0]; simp), zCt (by decide)]
    exact Ok.mk rfl
   ·rw [if_pos (by simpa using h0), zCt (by decide)]
    exact Ok.mk rfl
 obtain ⟨b, h1, rfl⟩ := key
 exact h1
end
end Go.Proofs.YtiblcebedkllpaaGreatDoor
