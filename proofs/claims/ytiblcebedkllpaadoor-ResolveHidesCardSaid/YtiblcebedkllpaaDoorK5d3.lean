/- No condition but those of each theorem. -/
import Derived.Test.YtiblcebedkllpaaDoorProg
import Derived.WalkKit
import Derived.Deep.LoopGhost
import Derived.KernelRfl
import Derived.OrdersHeld
import Derived.OrdersIn
import Derived.LoopNIn
import Derived.Sort.LoopGhostIn
import Derived.Laws.AppendOwn
import Derived.RangeFuncLeaves
import Derived.RangeFuncRecord
import Derived.MapKept
import Derived.Maps.RangeRun
import Derived.ChangeKeysEq
import Derived.HandedShaped
import Derived.ChangeStays
import Derived.ChangeSame
import Derived.OpenShut
import Derived.WideShapes
import Derived.JoinedOf
import Derived.ReadAgain
import Derived.ChangeAt
import Derived.RowKit
import Derived.Lib.Overlaps
import Derived.WalkSmall
import Derived.Recover
import Derived.Lib.Bytealg
import Derived.Test.YtiblcebedkllpaaDoorK4d3
namespace Go.Proofs.YtiblcebedkllpaaDoor
section
open Go Go.Dc Go.Proofs
def zCi {α τ : Type} (g : Nat → τ → α → τ) : Nat → τ → List α → τ
 | _, t, [] => t
 | i, t, x :: l => zCi g (i + 1) (g i t x) l
theorem qSw {α τ σ β : Type} {L : List α} (enc : τ → Nat → σ) {f : σ → Option (σ ⊕ β)} (g : Nat → τ → α → τ) (fin : τ → β)
  (hstep : ∀ t i, ∀ hi : i < L.length, f (enc t i) = some (.inl (enc (g i t L[i]) (i + 1))))
  (hfin : ∀ t, f (enc t L.length) = some (.inr (fin t))) : ∀ (d i M : Nat) (t : τ), i + d = L.length → d < M → qBe f M (enc t i) = some (fin (zCi g i t (L.drop i)))
 | _, _, 0, _, _, h => absurd h (kV _)
 | 0, i, M + 1, t, h1, h2 => by
  have hi : i = L.length := by omega
  subst hi
  simp only [qBe, hfin t, j0, List.drop_length, zCi]
 | d + 1, i, M + 1, t, h1, h2 => by
  have hi : i < L.length := by omega
  simp only [qBe, hstep t i hi, j0]
  rw [qSv hi]
  exact qSw enc g fin hstep hfin d (i + 1) M _ (by omega) (by omega)
abbrev Ent := ByteArray × ByteArray × Int × ByteArray × Int × Int
abbrev K3 := Int × ByteArray × ByteArray
abbrev Occ := ByteArray × ByteArray × Int × ByteArray × Int
def keyC (kind : Int) (pkg name : ByteArray) : K3 := (kind, if kind = 3 then qHk else pkg, name)
def okey (o : Occ) : K3 := keyC o.2.2.1 o.1 o.2.1
def qKd (M : List (K3 × Ent)) (o : Occ) : List (K3 × Ent) :=
 mset M (okey o) (match mget M (okey o) with
  | some x => (x.1, x.2.1, x.2.2.1, x.2.2.2.1, x.2.2.2.2.1, IntKind.wrap .i64 (x.2.2.2.2.2 + 1))
  | none => (o.1, o.2.1, o.2.2.1, o.2.2.2.1, o.2.2.2.2, 1))
def qSf (path pkg : ByteArray) : Nat → List Dl → List Occ
 | _, [] => []
 | i, d :: l => (pkg, d.2.1, d.1, path, (i : Int)) :: qSf path pkg (i + 1) l
def qSd (f : File) : Bool := qIe f.1 && decide ((qHu f.2).2.2 = 0)
def qHi (L : List File) : List (ByteArray × Sr) := (L.filter qSd).map fun f => (f.1, (qHu f.2).1)
def qJn (L : List File) : List ByteArray := (L.filter fun f => qIe f.1 && !decide ((qHu f.2).2.2 = 0)).map (·.1)
def qKj (l : List (ByteArray × Sr)) : List Occ := l.flatMap fun x => qSf x.1 x.2.1 0 x.2.2.2
abbrev Wld := List File × Bool × Option (List (ByteArray × Sr)) × List ByteArray × Option (List (K3 × Ent))
def qHm (L : List File) : Wld :=
 if qJd L = 0 then (L, true, some ((qHi L).foldl (fun S x => mset S x.1 x.2) []), qJn L, some ((qKj (qHi L)).foldl qKd [])) else (L, false, some [], [], some [])
theorem qTl (path pkg : ByteArray) : ∀ (l : List Dl) (i : Nat) (M : List (K3 × Ent)),
  zCi (fun i M (d : Dl) => qKd M (pkg, d.2.1, d.1, path, (i : Int))) i M l = (qSf path pkg i l).foldl qKd M
 | [], _, _ => rfl
 | d :: l, i, M => by simp only [zCi, qSf, kN]; exact qTl path pkg l (i + 1) _
theorem qQa {N : Nat} (a : Int) (b c : ByteArray) : qLy N a b c = some (keyC a b c) := by
 unfold qLy keyC
 by_cases h : a = 3
 ·rw [if_pos (by simp [h]), if_pos h]; rfl
 ·rw [if_neg (by simp [h]), if_neg h]; rfl
theorem zAd {N : Nat} {x : File} {y : Sr × Int × Int} (hl : y.1.2.2.length < 1000) (hN : 1000 < N) (M : List (K3 × Ent)) :
  qBe (qHr N x y) N (0, some M) = some (some ((qSf x.1 y.1.1 0 y.1.2.2).foldl qKd M)) := by
 have := qSw (L := y.1.2.2) (fun (M : List (K3 × Ent)) i => ((i : Int), some M)) (f := qHr N x y)
  (fun i M (d : Dl) => qKd M (y.1.1, d.2.1, d.1, x.1, (i : Int))) (fun M => some M) (by
   intro M i hi
   simp only [qHr]
   rw [if_pos (by simp only [j9]; omega), qGl hi]
   simp only [j0, qQa]
   have ew : IntKind.wrap .i64 ((i : Int) + 1) = ((i + 1 : Nat) : Int) := by rw [wi64 (by omega) (by omega)]; omega
   simp only [ew]
   by_cases h : (qAl (some M) (keyC (y.1.2.2[i]).1 y.1.1 (y.1.2.2[i]).2.1)).isSome = true
   ·rw [if_pos h]
    unfold qKd okey
    simp only [qAl, qIb, j0, jY] at h ⊢
    obtain ⟨v, hv⟩ := Option.isSome_iff_exists.1 h
    rw [hv]; rfl
   ·rw [if_neg h]
    unfold qKd okey
    simp only [qAl, qIb, j0, jY] at h ⊢
    rw [show mget M (keyC (y.1.2.2[i]).1 y.1.1 (y.1.2.2[i]).2.1) = none by simpa using h]) (by
   intro M
   simp only [qHr]
   rw [if_neg (by simp)]) y.1.2.2.length 0 N M (by omega) (by omega)
 rw [k0, qTl] at this
 exact this
theorem qTm {ts : List Tok} (h : OkT ts) : ∀ (n : Nat) (l : List Dl) (i : Nat) {r : List Dl}, l.length ≤ 64 → i < ts.length → qRf ts n l i = .inr r → r.length ≤ 64
 | 0, _, _, _, _, _, h1 => by cases h1
 | n + 1, l, i, r, hl, hi, h1 => by
  unfold qRf at h1
  split at h1
  ·cases h1; exact hl
  obtain ⟨x, hx, h2⟩ := qBm h1
  obtain ⟨-, g2, g3⟩ := qRt h hi hx
  exact qTm h n _ _ (by simp; omega) g2 h2
theorem qSj {s : ByteArray} : (qHu s).1.2.2.length ≤ 64 := by
 unfold qHu
 by_cases h0 : (qFq s).2.2 = 0
 ·rw [if_neg (not_not_intro h0)]
  obtain ⟨hok, hlen, hsz⟩ := qSx h0
  have hpos : 0 < (qFq s).1.length := by
   cases h : (qFq s).1 with
   | nil => exact absurd h hok.1
   | cons a l => exact Nat.succ_pos _
  cases hf : qUp (qFq s).1 with
  | inl z => exact gU _
  | inr f =>
   simp only
   unfold qUp at hf
   obtain ⟨i, h1, hf⟩ := qBm hf
   obtain ⟨rfl, g1, -⟩ := qNt hok hpos h1
   obtain ⟨a, h2, hf⟩ := qBm hf
   obtain ⟨rfl, g2, -⟩ := qLd hok g1 h2
   obtain ⟨j, h3, hf⟩ := qBm hf
   obtain ⟨rfl, g3, -⟩ := qFg hok g2 h3
   obtain ⟨b, h4, hf⟩ := qBm hf
   obtain ⟨-, k2, -⟩ := qNe hok _ _ _ b g3 (by simp) h4
   obtain ⟨l, h5, hf⟩ := qBm hf
   have := qTm hok _ _ _ (by simp) k2 h5
   cases hf
   exact this
 ·rw [if_pos h0]; exact gU _
def newF (t : List ByteArray × List (ByteArray × Sr) × List (K3 × Ent)) (f : File) : List ByteArray × List (ByteArray × Sr) × List (K3 × Ent) :=
 if qIe f.1 = false then t
 else if (qHu f.2).2.2 = 0 then (t.1, mset t.2.1 f.1 (qHu f.2).1, (qSf f.1 (qHu f.2).1.1 0 (qHu f.2).1.2.2).foldl qKd t.2.2)
 else (t.1 ++ [f.1], t.2)
theorem qOx : ∀ (L : List File) (B : List ByteArray) (S : List (ByteArray × Sr)) (M : List (K3 × Ent)),
  L.foldl newF (B, S, M) = (B ++ qJn L, (qHi L).foldl (fun S x => mset S x.1 x.2) S, (qKj (qHi L)).foldl qKd M)
 | [], B, S, M => by simp [qJn, qHi, qKj]
 | f :: L, B, S, M => by
  rw [kN]
  by_cases h1 : qIe f.1 = true
  ·by_cases h2 : (qHu f.2).2.2 = 0
   ·have e : newF (B, S, M) f = (B, mset S f.1 (qHu f.2).1, (qSf f.1 (qHu f.2).1.1 0 (qHu f.2).1.2.2).foldl qKd M) := by
     unfold newF; rw [if_neg (by simp [h1]), if_pos h2]
    have el : qHi (f :: L) = (f.1, (qHu f.2).1) :: qHi L := by
     unfold qHi; rw [kH, if_pos (show qSd f = true by simp [qSd, h1, h2])]; rfl
    have eb : qJn (f :: L) = qJn L := by
     unfold qJn; rw [kH, if_neg (by simp [h2])]
    rw [e, qOx L, el, eb]
    simp only [kN, qKj, List.flatMap_cons, gP]
   ·have e : newF (B, S, M) f = (B ++ [f.1], S, M) := by
     unfold newF; rw [if_neg (by simp [h1]), if_neg h2]
    have el : qHi (f :: L) = qHi L := by
     unfold qHi; rw [kH, if_neg (by simp [qSd, h2])]
    have eb : qJn (f :: L) = f.1 :: qJn L := by
     unfold qJn; rw [kH, if_pos (by simp [h1, h2])]; rfl
    rw [e, qOx L, el, eb]
    simp
  ·have h1 : qIe f.1 = false := by simpa using h1
   have e : newF (B, S, M) f = (B, S, M) := by unfold newF; rw [if_pos h1]
   have el : qHi (f :: L) = qHi L := by
    unfold qHi; rw [kH, if_neg (by simp [qSd, h1])]
   have eb : qJn (f :: L) = qJn L := by
    unfold qJn; rw [kH, if_neg (by simp [h1])]
   rw [e, qOx L, el, eb]
theorem zAc {N : Nat} {L : List File} (hP : qOm N L) (hl : L.length ≤ 64) (hN : 1000001 < N) :
  qBe (qHp N L) N (0, [], some [], some []) = some (qJn L, some ((qHi L).foldl (fun S x => mset S x.1 x.2) []), some ((qKj (qHi L)).foldl qKd [])) := by
 have h := zAb (L := L) (fun (t : List ByteArray × List (ByteArray × Sr) × List (K3 × Ent)) (i : Nat) => ((i : Int), t.1, some t.2.1, some t.2.2)) (f := qHp N L)
  (fun t f => .inl (newF t f)) (fun t => (t.1, some t.2.1, some t.2.2)) (fun i t => t.1.length ≤ i) (by
   intro t i hi hI
   simp only [qHp]
   rw [if_pos (by simp only [j9]; omega), qGl hi]
   have ew : IntKind.wrap .i64 ((i : Int) + 1) = ((i + 1 : Nat) : Int) := by rw [wi64 (by omega) (by omega)]; omega
   have hs := qXi (N := N) (hP _ (kC hi))
   simp only [j0, hs, zDe _ hN, ew]
   unfold newF
   by_cases h1 : qIe (L[i]).1 = true
   ·by_cases h2 : (qHu (L[i]).2).2.2 = 0
    ·rw [if_neg (by simp [h1]), if_neg (by simp [h2]), if_neg (by simp [h1]), if_pos h2, zAd (by have := qSj (s := (L[i]).2); omega) (by omega)]
     simp only [qIb, jY, j0]
    ·rw [if_neg (by simp [h1]), if_pos (by simpa using h2), if_neg (by simp [h1]), if_neg h2, qBv (by simp only [jA, jC]; omega) (by omega)]
     simp only [j0]
   ·have h1 : qIe (L[i]).1 = false := by simpa using h1
    rw [if_pos (by simp [h1]), if_pos h1]
    simp only [j0]) (by
   intro t i hi t' hI h
   cases h
   unfold newF
   split
   ·omega
   ·split
    ·exact Nat.le_succ_of_le hI
    ·simp only [jJ, jA, jC]; omega) (by
   intro t hI
   simp only [qHp]
   rw [if_neg (by simp)]) (M := N) (t := ([], [], [])) (by omega) (gU _)
 rw [show ((0 : Nat) : Int) = 0 from rfl] at h
 rw [h, qYn newF (fun _ _ => rfl), qOx]
 simp only [jV]
theorem zEw {N : Nat} {L : List File} (hP : qOm N L) (hN : 1000001 < N) : qLx N L = some (qHm L) := by
 simp only [qLx, zDj hP (show 100 < N by omega), j0]
 unfold qHm
 by_cases hc : qJd L = 0
 ·rw [if_neg (by simp [hc]), if_pos hc, zAc hP (qJu.1 hc).1 hN]
  simp only [j0, hc]; rfl
 ·rw [if_pos (by simpa using hc), if_neg hc]
  simp only [show (qJd L == 0) = false by simpa using hc]
def seeE (kind : Int) (pkg name : ByteArray) (e : Ent) (o : Occ) : Ent :=
 if okey o = keyC kind pkg name then (if e.2.2.2.2.2 = 0 then (o.1, name, kind, o.2.2.2.1, o.2.2.2.2, 1) else (e.1, e.2.1, e.2.2.1, e.2.2.2.1, e.2.2.2.2.1, e.2.2.2.2.2 + 1)) else e
def noE (kind : Int) (pkg name : ByteArray) : Ent := (if kind = 3 then qHk else pkg, name, kind, qHk, 0, 0)
def entE (O : List Occ) (kind : Int) (pkg name : ByteArray) : Ent := O.foldl (seeE kind pkg name) (noE kind pkg name)
theorem qYo {k k' : Int} {p p' n n' : ByteArray} (h : keyC k p n = keyC k' p' n') : k = k' ∧ n = n' ∧ (k = 3 ∨ p = p') := by
 simp only [keyC, Prod.mk.injEq] at h
 obtain ⟨rfl, h2, h3⟩ := h
 refine ⟨rfl, h3, ?_⟩
 by_cases h : k = 3
 ·exact .inl h
 ·rw [if_neg h, if_neg h] at h2; exact .inr h2
def MapE (M : List (K3 × Ent)) (O : List Occ) : Prop :=
 (M.map (·.1)).Nodup ∧ ∀ kind pkg name, mget M (keyC kind pkg name) = if (entE O kind pkg name).2.2.2.2.2 = 0 then none else some (entE O kind pkg name)
theorem qPm (kind : Int) (pkg name : ByteArray) : ∀ (O : List Occ), 0 ≤ (entE O kind pkg name).2.2.2.2.2 ∧ (entE O kind pkg name).2.2.2.2.2 ≤ O.length ∧ ((entE O kind pkg name).2.2.2.2.2 = 0 → entE O kind pkg name = noE kind pkg name) := by
 suffices h : ∀ (O : List Occ) (e : Ent) (b : Nat), 0 ≤ e.2.2.2.2.2 ∧ e.2.2.2.2.2 ≤ b ∧ (e.2.2.2.2.2 = 0 → e = noE kind pkg name) →
   0 ≤ (O.foldl (seeE kind pkg name) e).2.2.2.2.2 ∧ (O.foldl (seeE kind pkg name) e).2.2.2.2.2 ≤ (b + O.length : Nat) ∧ ((O.foldl (seeE kind pkg name) e).2.2.2.2.2 = 0 → O.foldl (seeE kind pkg name) e = noE kind pkg name) by
  intro O
  have := h O (noE kind pkg name) 0 ⟨Int.le_refl _, Int.le_refl _, fun _ => rfl⟩
  rw [gK] at this
  exact this
 intro O
 induction O with
 | nil => intro e b h; exact h
 | cons o O ih =>
  intro e b h
  rw [kN]
  have := ih (seeE kind pkg name e o) (b + 1) (by
   unfold seeE
   split
   ·split
    ·exact ⟨(by show (0 : Int) ≤ 1; decide), by show (1 : Int) ≤ _; omega, fun h => by simp at h⟩
    ·rename_i hc
     refine ⟨by show (0 : Int) ≤ e.2.2.2.2.2 + 1; omega, by show e.2.2.2.2.2 + 1 ≤ _; omega, fun h1 => ?_⟩
     have h1 : e.2.2.2.2.2 + 1 = 0 := h1
     omega
   ·exact ⟨h.1, by omega, h.2.2⟩)
  rw [jA, show b + (O.length + 1) = b + 1 + O.length by omega]
  exact this
theorem MapE.step {M : List (K3 × Ent)} {O : List Occ} (h : MapE M O) (hO : O.length < 1000000) (o : Occ) : MapE (qKd M o) (O ++ [o]) := by
 refine ⟨qYj h.1 _ _, fun kind pkg name => ?_⟩
 have hb := qPm kind pkg name O
 have hE : entE (O ++ [o]) kind pkg name = seeE kind pkg name (entE O kind pkg name) o := by
  unfold entE; rw [gP]; rfl
 unfold qKd
 rw [zAk h.1, hE]
 by_cases hk : keyC kind pkg name = okey o
 ·rw [if_pos hk, ← hk, h.2 kind pkg name]
  unfold seeE
  rw [if_pos hk.symm]
  obtain ⟨e1, e2, e3⟩ := qYo hk
  by_cases hc : (entE O kind pkg name).2.2.2.2.2 = 0
  ·rw [if_pos hc, if_pos hc, if_neg (show ¬ (1 : Int) = 0 by decide), ← e1, ← e2]
  ·rw [if_neg hc, if_neg hc, if_neg (show ¬ (entE O kind pkg name).2.2.2.2.2 + 1 = 0 by omega)]
   simp only [wi64 (show -9223372036854775808 ≤ (entE O kind pkg name).2.2.2.2.2 + 1 by omega) (by omega)]
 ·have hs : seeE kind pkg name (entE O kind pkg name) o = entE O kind pkg name := by unfold seeE; rw [if_neg (fun e => hk e.symm)]
  rw [if_neg hk, h.2 kind pkg name, hs]
theorem MapE.fold {O : List Occ} (hO : O.length < 1000000) : MapE (O.foldl qKd []) O := by
 suffices h : ∀ (K : List Occ) (M : List (K3 × Ent)) (J : List Occ), J.length + K.length < 1000000 → MapE M J → MapE (K.foldl qKd M) (J ++ K) by
  have := h O [] [] (by simpa using hO) ⟨List.nodup_nil, fun kind pkg name => by rw [show (entE [] kind pkg name).2.2.2.2.2 = 0 from rfl, if_pos rfl]; rfl⟩
  exact this
 intro K
 induction K with
 | nil => intro M J _ h; rw [List.append_nil]; exact h
 | cons o K ih =>
  intro M J hl h
  rw [kN, show J ++ o :: K = (J ++ [o]) ++ K by simp]
  simp only [jA] at hl
  exact ih _ _ (by simp; omega) (h.step (by omega) o)
theorem qWe (path pkg : ByteArray) : ∀ (l : List Dl) (i : Nat), (qSf path pkg i l).length = l.length
 | [], _ => rfl
 | _ :: l, i => by simp only [qSf, jA, qWe path pkg l]
theorem qVg {L : List File} {x : ByteArray × Sr} (h : x ∈ qHi L) : ∃ f ∈ L, qSd f = true ∧ x = (f.1, (qHu f.2).1) := by
 unfold qHi at h
 obtain ⟨f, hf, rfl⟩ := fD.1 h
 exact ⟨f, (gM.1 hf).1, (gM.1 hf).2, rfl⟩
theorem zBl (L : List File) : (qHi L).length ≤ L.length := by
 unfold qHi; rw [gE]; exact List.length_filter_le _ _
theorem qVy : ∀ (l : List (ByteArray × Sr)), (∀ x ∈ l, x.2.2.2.length ≤ 64) → (qKj l).length ≤ 64 * l.length
 | [], _ => jR _
 | x :: l, h => by
  have := qVy l fun y hy => h y (jO _ hy)
  have := h x (jL ..)
  unfold qKj at *
  rw [List.flatMap_cons, jJ, qWe, jA]
  omega
theorem zDc {L : List File} (hl : L.length ≤ 64) : (qKj (qHi L)).length < 1000000 := by
 have := qVy (qHi L) fun x hx => by
  obtain ⟨f, _, _, rfl⟩ := qVg hx
  exact qSj
 have := zBl L
 omega
def qPn : Ent := (qHk, qHk, 0, qHk, 0, 0)
def qHo (L : List File) (kind : Int) (pkg name : ByteArray) : Ent := if qJd L = 0 then entE (qKj (qHi L)) kind pkg name else qPn
theorem qTx {N : Nat} {L : List File} (kind : Int) (pkg name : ByteArray) : qFb N (qHm L) kind pkg name = some (qHo L kind pkg name) := by
 unfold qFb qHm qHo
 by_cases hc : qJd L = 0
 ·simp only [if_pos hc]
  rw [if_neg (by simp)]
  simp only [qQa, j0]
  have hM := (MapE.fold (zDc (qJu.1 hc).1)).2 kind pkg name
  have hb := qPm kind pkg name (qKj (qHi L))
  generalize hq : qAl (some ((qKj (qHi L)).foldl qKd [])) (keyC kind pkg name) = q
  have hq : q = if (entE (qKj (qHi L)) kind pkg name).2.2.2.2.2 = 0 then none else some (entE (qKj (qHi L)) kind pkg name) := hq.symm.trans hM
  by_cases h0 : (entE (qKj (qHi L)) kind pkg name).2.2.2.2.2 = 0
  ·rw [if_pos h0] at hq
   subst hq
   rw [if_neg (by simp), hb.2.2 h0]; rfl
  ·rw [if_neg h0] at hq
   subst hq
   rw [if_pos (show (some (entE (qKj (qHi L)) kind pkg name)).isSome = true from rfl)]; rfl
 ·simp only [if_neg hc]
  rw [if_pos (show (!false) = true from rfl)]; rfl
end
section
open Go Go.Dc Go.Proofs
end
section
open Go Go.Dc Go.Proofs
def qXp (E : ByteArray → Ent) (name : ByteArray) : List ByteArray → List K3 → Ent × List K3 × Int
 | [], acc => (qPn, acc, 11)
 | p :: l, acc =>
  if (E p).2.2.2.2.2 = 0 then qXp E name l (acc ++ [(1, p, name)])
  else if 1 < (E p).2.2.2.2.2 then (qPn, acc ++ [(1, p, name)], 12)
  else (E p, acc ++ [(1, p, name)], 0)
def qZs (L : List File) (pkg : ByteArray) (imps : List ByteArray) (name : ByteArray) : Ent × List K3 × Int :=
 if qJd L = 0 ∧ qUq name = true then qXp (fun p => qHo L 1 p name) name (pkg :: imps) [] else (qPn, [], 1)
def zBt (L : List File) (path : ByteArray) : Int × Ent × List K3 × Int :=
 if qJd L = 0 ∧ qGu path.data.toList = true then
  (match fget L path with
  | some _ => (1, qPn, [(4, path, qHk)], 0)
  | none => if (qHo L 3 qHk path).2.2.2.2.2 = 0 then (0, qPn, [(4, path, qHk), (3, path, qHk)], 14)
   else if 1 < (qHo L 3 qHk path).2.2.2.2.2 then (3, qPn, [(4, path, qHk), (3, path, qHk)], 12)
   else (2, qHo L 3 qHk path, [(4, path, qHk), (3, path, qHk)], 0))
 else (0, qPn, [], 1)
theorem zBr (L : List File) (kind : Int) (pkg name : ByteArray) : 0 ≤ (qHo L kind pkg name).2.2.2.2.2 := by
 unfold qHo
 split
 ·exact (qPm kind pkg name _).1
 ·exact Int.le_refl _
def wres (E : ByteArray → Ent) (name : ByteArray) (x : Ent) (acc : List K3) : List ByteArray → Ent × List K3 × Nat
 | [] => (x, acc, 0)
 | p :: l => if (E p).2.2.2.2.2 > 0 then (E p, acc ++ [(1, p, name)], 1) else wres E name (E p) (acc ++ [(1, p, name)]) l
def wfin (r : Ent × List K3 × Nat) : Ent × List K3 × Int :=
 if r.1.2.2.2.2.2 = 0 then (qPn, r.2.1, 11) else if 1 < r.1.2.2.2.2.2 then (qPn, r.2.1, 12) else (r.1, r.2.1, 0)
theorem qYp {E : ByteArray → Ent} (hE : ∀ p, 0 ≤ (E p).2.2.2.2.2) (name : ByteArray) : ∀ (l : List ByteArray) (x : Ent) (acc : List K3), x.2.2.2.2.2 = 0 → wfin (wres E name x acc l) = qXp E name l acc
 | [], x, acc, hx => by unfold wres wfin qXp; rw [if_pos hx]
 | p :: l, x, acc, hx => by
  unfold wres qXp
  have h := hE p
  by_cases h0 : (E p).2.2.2.2.2 = 0
  ·rw [if_neg (by omega), if_pos h0]; exact qYp hE name l _ _ h0
  ·rw [if_pos (by omega), if_neg h0]
   unfold wfin
   simp only
   rw [if_neg h0]
theorem qXa {E : ByteArray → Ent} (name : ByteArray) : ∀ (l : List ByteArray) (x : Ent) (acc : List K3), (wres E name x acc l).2.2 = 0 ∨ (wres E name x acc l).2.2 = 1
 | [], x, acc => .inl rfl
 | p :: l, x, acc => by
  unfold wres
  split
  ·exact .inr rfl
  ·exact qXa name l _ _
theorem qSm {N : Nat} {L : List File} {f : Sr} {name : ByteArray} (hl : f.2.1.length < 1000) : ∀ (d i M : Nat) (x : Ent) (acc : List K3), i + d = f.2.1.length → d < M → acc.length ≤ i + 1 →
  qBe (qFl N (qHm L) f name) M ((i : Int), x.1, x.2.1, x.2.2.1, x.2.2.2.1, x.2.2.2.2.1, x.2.2.2.2.2, acc) =
  some (match (wres (fun p => qHo L 1 p name) name x acc (f.2.1.drop i)).2.2 with
   | 0 => .inl ((wres (fun p => qHo L 1 p name) name x acc (f.2.1.drop i)).1.1, (wres (fun p => qHo L 1 p name) name x acc (f.2.1.drop i)).1.2.1, (wres (fun p => qHo L 1 p name) name x acc (f.2.1.drop i)).1.2.2.1, (wres (fun p => qHo L 1 p name) name x acc (f.2.1.drop i)).1.2.2.2.1, (wres (fun p => qHo L 1 p name) name x acc (f.2.1.drop i)).1.2.2.2.2.1, (wres (fun p => qHo L 1 p name) name x acc (f.2.1.drop i)).1.2.2.2.2.2, (wres (fun p => qHo L 1 p name) name x acc (f.2.1.drop i)).2.1)
   | n + 1 => .inr ((wres (fun p => qHo L 1 p name) name x acc (f.2.1.drop i)).1.1, (wres (fun p => qHo L 1 p name) name x acc (f.2.1.drop i)).1.2.1, (wres (fun p => qHo L 1 p name) name x acc (f.2.1.drop i)).1.2.2.1, (wres (fun p => qHo L 1 p name) name x acc (f.2.1.drop i)).1.2.2.2.1, (wres (fun p => qHo L 1 p name) name x acc (f.2.1.drop i)).1.2.2.2.2.1, (wres (fun p => qHo L 1 p name) name x acc (f.2.1.drop i)).1.2.2.2.2.2, (wres (fun p => qHo L 1 p name) name x acc (f.2.1.drop i)).2.1, n + 1))
 | _, _, 0, _, _, _, h, _ => absurd h (kV _)
 | 0, i, M + 1, x, acc, h1, h2, h3 => by
  simp only [qBe, qFl]
  rw [if_neg (by simp only [j9]; omega), jS (by omega)]
  rfl
 | d + 1, i, M + 1, x, acc, h1, h2, h3 => by
  have hi : i < f.2.1.length := by omega
  simp only [qBe, qFl]
  rw [if_pos (by simp only [j9]; omega), qGl hi, qSv hi]
  have ew : IntKind.wrap .i64 ((i : Int) + 1) = ((i + 1 : Nat) : Int) := by rw [wi64 (by omega) (by omega)]; omega
  simp only [j0, ew]
  rw [qBv (by simp only [jA, jC]; omega) (by omega)]
  simp only [j0]
  have eW : ∀ w : Wld, (w.1, w.2.1, w.2.2.1, w.2.2.2.1, w.2.2.2.2) = w := fun _ => rfl
  simp only [eW, qTx, j0, wres]
  by_cases h : (qHo L 1 (f.2.1[i]) name).2.2.2.2.2 > 0
  ·rw [if_pos (k8 h), if_pos h]
   rfl
  ·rw [if_neg (by simpa using h), if_neg h]
   simp only [j0]
   exact qSm hl d (i + 1) M _ _ (by omega) (by omega) (by simp; omega)
theorem zCr {N : Nat} {L : List File} {f : Sr} {name : ByteArray} (hl : f.2.1.length < 1000) (hN : 1000 < N) : qHh N (qHm L) f name = some (qXp (fun p => qHo L 1 p name) name (f.1 :: f.2.1) []) := by
 rw [← qYp (fun p => zBr L 1 p name) name (f.1 :: f.2.1) qPn [] rfl]
 unfold qHh
 rw [qBv (by simp only [jA, jC]; omega) (by omega)]
 have eW : ∀ w : Wld, (w.1, w.2.1, w.2.2.1, w.2.2.2.1, w.2.2.2.2) = w := fun _ => rfl
 simp only [j0, eW, qTx, wres, jV]
 have fin : ∀ (r : Ent × List K3 × Nat), (r.2.2 = 0 ∨ r.2.2 = 1) →
   (if r.2.2 = 0 then (if (r.1.2.2.2.2.2 == 0) = true then some (((⟨#[]⟩ : ByteArray), (⟨#[]⟩ : ByteArray), (0 : Int), (⟨#[]⟩ : ByteArray), (0 : Int), (0 : Int)), r.2.1, (11 : Int)) else (if (decide (r.1.2.2.2.2.2 > 1)) = true then some (((⟨#[]⟩ : ByteArray), (⟨#[]⟩ : ByteArray), (0 : Int), (⟨#[]⟩ : ByteArray), (0 : Int), (0 : Int)), r.2.1, (12 : Int)) else some (r.1, r.2.1, (0 : Int))))
    else (if r.2.2 = 1 then (if (r.1.2.2.2.2.2 == 0) = true then some (((⟨#[]⟩ : ByteArray), (⟨#[]⟩ : ByteArray), (0 : Int), (⟨#[]⟩ : ByteArray), (0 : Int), (0 : Int)), r.2.1, (11 : Int)) else (if (decide (r.1.2.2.2.2.2 > 1)) = true then some (((⟨#[]⟩ : ByteArray), (⟨#[]⟩ : ByteArray), (0 : Int), (⟨#[]⟩ : ByteArray), (0 : Int), (0 : Int)), r.2.1, (12 : Int)) else some (r.1, r.2.1, (0 : Int)))) else none)) = some (wfin r) := by
  intro r hr
  have key : (if (r.1.2.2.2.2.2 == 0) = true then some (((⟨#[]⟩ : ByteArray), (⟨#[]⟩ : ByteArray), (0 : Int), (⟨#[]⟩ : ByteArray), (0 : Int), (0 : Int)), r.2.1, (11 : Int)) else (if (decide (r.1.2.2.2.2.2 > 1)) = true then some (((⟨#[]⟩ : ByteArray), (⟨#[]⟩ : ByteArray), (0 : Int), (⟨#[]⟩ : ByteArray), (0 : Int), (0 : Int)), r.2.1, (12 : Int)) else some (r.1, r.2.1, (0 : Int)))) = some (wfin r) := by
   unfold wfin
   by_cases h0 : r.1.2.2.2.2.2 = 0
   ·rw [if_pos (by simp [h0]), if_pos h0]; rfl
   ·rw [if_neg (by simp [h0]), if_neg h0]
    by_cases h1 : 1 < r.1.2.2.2.2.2
    ·rw [if_pos (k8 h1), if_pos h1]; rfl
    ·rw [if_neg (by simpa using h1), if_neg h1]
  rcases hr with hr | hr
  ·rw [if_pos hr]; exact key
  ·rw [if_neg (by omega), if_pos hr]; exact key
 by_cases h : (qHo L 1 f.1 name).2.2.2.2.2 > 0
 ·rw [if_pos (k8 h), if_pos h]
  exact fin (qHo L 1 f.1 name, [(1, f.1, name)], 1) (.inr rfl)
 ·rw [if_neg (by simpa using h), if_neg h]
  have hlp := qSm (N := N) (L := L) (f := f) (name := name) hl f.2.1.length 0 N (qHo L 1 f.1 name) [(1, f.1, name)] (by omega) (by omega) (by simp)
  rw [show ((0 : Nat) : Int) = 0 from rfl, k0] at hlp
  rw [hlp]
  have hm := qXa (E := fun p => qHo L 1 p name) name f.2.1 (qHo L 1 f.1 name) [(1, f.1, name)]
  have hf := fin _ hm
  revert hf
  generalize wres (fun p => qHo L 1 p name) name (qHo L 1 f.1 name) [(1, f.1, name)] f.2.1 = r at hm ⊢
  obtain ⟨r1, r2, r3⟩ := r
  intro hf
  rcases hm with hm | hm
  ·have hm : r3 = 0 := hm
   subst hm
   exact hf
  ·have hm : r3 = 1 := hm
   subst hm
   exact hf
theorem zBi {N : Nat} {L : List File} {f : Sr} {name : ByteArray} (hP : qOm N L) (hl : f.2.1.length < 1000) (hN : 1000001 < N) : qIu N L f name = some (qZs L f.1 f.2.1 name) := by
 simp only [qIu, zEw hP hN, j0]
 have eW : ∀ w : Wld, (w.1, w.2.1, w.2.2.1, w.2.2.2.1, w.2.2.2.2) = w := fun _ => rfl
 unfold qZs
 by_cases hc : qJd L = 0
 ·have e1 : (qHm L).2.1 = true := by unfold qHm; rw [if_pos hc]
  rw [if_neg (show ¬ (!(qHm L).2.1) = true by rw [e1]; decide), zBw (show 100 < N by omega)]
  simp only [hc, j0, true_and]
  by_cases hn : qUq name = true
  ·rw [if_neg (by simp [hn]), if_pos hn]
   refine Eq.trans (congrArg (fun z => Option.bind z _) (show qHh N (qHm L) f name = _ from zCr hl (by omega))) ?_
   rfl
  ·rw [if_pos (by simpa using hn), if_neg hn]; rfl
 ·have e1 : (qHm L).2.1 = false := by unfold qHm; rw [if_neg hc]
  rw [if_pos (show (!(qHm L).2.1) = true by rw [e1]; rfl), if_neg (fun h => hc h.1)]; rfl
theorem qSz {N : Nat} {w : Wld} {p : ByteArray} (hl : w.1.length < 1000000) : ∀ (d i M : Nat), i + d = w.1.length → d < M → qBe (qEi N w p) M (i : Int) = some (match fget (w.1.drop i) p with | some b => .inr (b, true) | none => .inl ())
 | _, _, 0, _, h => by omega
 | 0, i, M + 1, hd, _ => by
  simp only [qBe, qEi]
  rw [if_neg (by simp only [j9]; omega), jS (by omega)]
  rfl
 | d + 1, i, M + 1, hd, hM => by
  have hi : i < w.1.length := by omega
  simp only [qBe, qEi]
  rw [if_pos (by simp only [j9]; omega), qGl hi, jH hi]
  simp only [j0, eqB, j9, fget]
  by_cases he : (w.1[i]).1 = p
  ·rw [if_pos he, if_pos he]; rfl
  ·rw [if_neg he, if_neg he, wi64 (by omega) (by omega)]
   have e1 : (i : Int) + 1 = ((i + 1 : Nat) : Int) := by omega
   simp only [j0]
   rw [e1, qSz hl d (i + 1) M (by omega) (by omega)]
theorem zDz {N : Nat} {L : List File} (p : ByteArray) (hl : L.length ≤ 64) (hN : 100 < N) : qHd N (qHm L) p = some (zGn (fget L p)) := by
 have e : (qHm L).1 = L := by unfold qHm; split <;> rfl
 have := qSz (N := N) (w := qHm L) (p := p) (by rw [e]; omega) (qHm L).1.length 0 N (by omega) (by rw [e]; omega)
 rw [show ((0 : Nat) : Int) = 0 from rfl, k0, e] at this
 simp only [qHd, this, j0]
 cases fget L p <;> rfl
theorem zAy {N : Nat} {L : List File} {path : ByteArray} (hP : qOm N L) (hp : qFm N path = some (qGu path.data.toList)) (hN : 1000001 < N) : qIs N L path = some (zBt L path) := by
 simp only [qIs, zEw hP hN, j0]
 have eW : ∀ w : Wld, (w.1, w.2.1, w.2.2.1, w.2.2.2.1, w.2.2.2.2) = w := fun _ => rfl
 unfold zBt
 by_cases hc : qJd L = 0
 ·have e1 : (qHm L).2.1 = true := by unfold qHm; rw [if_pos hc]
  rw [if_neg (show ¬ (!(qHm L).2.1) = true by rw [e1]; decide), hp]
  simp only [hc, j0, true_and]
  by_cases hn : qGu path.data.toList = true
  ·rw [if_neg (by simp [hn]), if_pos hn]
   simp only [eW, qJt, zDz path (qJu.1 hc).1 (show 100 < N by omega), j0]
   cases hg : fget L path with
   | some b => simp only [zGn]; rfl
   | none =>
    simp only [zGn, jB, jM]
    rw [qBv (by simp only [jA, jC]; omega) (by omega)]
    simp only [j0, qTx]
    have e : (⟨#[]⟩ : ByteArray) = qHk := rfl
    rw [e]
    by_cases h0 : (qHo L 3 qHk path).2.2.2.2.2 = 0
    ·rw [if_pos (by simp [h0]), if_pos h0]; rfl
    ·rw [if_neg (by simp [h0]), if_neg h0]
     by_cases h1 : 1 < (qHo L 3 qHk path).2.2.2.2.2
     ·rw [if_pos (k8 h1), if_pos h1]; rfl
     ·rw [if_neg (by simpa using h1), if_neg h1]; rfl
  ·rw [if_pos (by simpa using hn), if_neg hn]; rfl
 ·have e1 : (qHm L).2.1 = false := by unfold qHm; rw [if_neg hc]
  rw [if_pos (show (!(qHm L).2.1) = true by rw [e1]; rfl), if_neg (fun h => hc h.1)]; rfl
end
section
open Go Go.Dc
def Ok {α : Type} (x : Option α) (Q : α → Prop) : Prop := ∃ a, x = some a ∧ Q a
section
variable {α β γ : Type} {Q : β → Prop}
theorem Ok.mk {a : β} (h : Q a) : Ok (some a) Q := ⟨a, rfl, h⟩
theorem Ok.bind {x : Option α} {P : α → Prop} {f : α → Option β} (h : Ok x P) (k : ∀ a, P a → Ok (f a) Q) : Ok (x.bind f) Q := by
 obtain ⟨a, rfl, ha⟩ := h
 exact k a ha
theorem Ok.mono {x : Option β} {P : β → Prop} (h : Ok x P) (k : ∀ a, P a → Q a) : Ok x Q := by
 obtain ⟨a, e, ha⟩ := h
 exact ⟨a, e, k a ha⟩
theorem Ok.assoc {x : Option α} {g : α → Option γ} {f : γ → Option β} (h : Ok (x.bind fun a => (g a).bind f) Q) : Ok ((x.bind g).bind f) Q := by
 rw [Option.bind_assoc]; exact h
theorem Ok.ite {c : Prop} [Decidable c] {x y : Option β} (h1 : c → Ok x Q) (h2 : ¬ c → Ok y Q) : Ok (if c then x else y) Q := by
 by_cases h : c
 ·rw [if_pos h]; exact h1 h
 ·rw [if_neg h]; exact h2 h
theorem Ok.iteb {c : Prop} [Decidable c] {x y : Option α} {f : α → Option β} (h1 : c → Ok (x.bind f) Q) (h2 : ¬ c → Ok (y.bind f) Q) : Ok ((if c then x else y).bind f) Q := by
 by_cases h : c
 ·rw [if_pos h]; exact h1 h
 ·rw [if_neg h]; exact h2 h
theorem Ok.tt [Decidable (true = true)] {x y : Option β} (h : Ok x Q) : Ok (if true = true then x else y) Q := by rw [if_pos rfl]; exact h
theorem Ok.ff [Decidable (false = true)] {x y : Option β} (h : Ok y Q) : Ok (if false = true then x else y) Q := by rw [if_neg kO]; exact h
theorem Ok.ttb [Decidable (true = true)] {x y : Option α} {f : α → Option β} (h : Ok (x.bind f) Q) : Ok ((if true = true then x else y).bind f) Q := by rw [if_pos rfl]; exact h
theorem Ok.ffb [Decidable (false = true)] {x y : Option α} {f : α → Option β} (h : Ok (y.bind f) Q) : Ok ((if false = true then x else y).bind f) Q := by rw [if_neg kO]; exact h
theorem Ok.someb {a : α} {f : α → Option β} (h : Ok (f a) Q) : Ok ((some a).bind f) Q := h
theorem Ok.mapb {a : α} {g : α → γ} {f : γ → Option β} (h : Ok (f (g a)) Q) : Ok (((some a).map g).bind f) Q := h
theorem Ok.cat {x y : ByteArray} {f : ByteArray → Option β} (hs : x.size + y.size ≤ 1000000000) (h : ∀ s : ByteArray, s.size = x.size + y.size → Ok (f s) Q) : Ok ((catB x y).bind f) Q := by
 unfold catB
 rw [if_pos (by simp only [maxLen]; omega)]
 exact h _ (by simp)
theorem Ok.app {b : Nat} {l k : List α} {f : List α → Option β} (hs : (l.length + k.length) * b ≤ 140737488355328) (hb : 0 < b) (h : Ok (f (l ++ k)) Q) : Ok ((qEb b l k).bind f) Q := by
 rw [qBv hs hb]; exact h
theorem Ok.loop {σ : Type} {f : σ → Option (σ ⊕ α)} {g : α → Option β} {s : σ} {N : Nat} (I : σ → Prop) (μ : σ → Nat) (R : α → Prop)
  (h : ∀ s, I s → Ok (f s) fun r => match r with | .inl s' => I s' ∧ μ s' < μ s | .inr b => R b) (hs : I s) (hN : μ s < N) (k : ∀ b, R b → Ok (g b) Q) : Ok ((qBe f N s).bind g) Q := by
 obtain ⟨b, h1, h2⟩ := qZe I μ R (fun s hs => by
  obtain ⟨r, h1, h2⟩ := h s hs
  cases r with
  | inl s' => exact .inr ⟨s', h1, h2.1, h2.2⟩
  | inr b => exact .inl ⟨b, h1, h2⟩) N s hs hN
 rw [h1]; exact k b h2
end
theorem qOl (a : Array UInt8) : (⟨a⟩ : ByteArray).size = a.size := rfl
theorem zDx {N : Nat} {v n : Int} (hn : n ≤ 9223372036854775807) : ∃ r, qGs N v n = some r ∧ 0 ≤ r ∧ (1 ≤ n → r < n) := by
 simp only [qGs]
 by_cases h : n ≤ 1
 ·exact ⟨0, by simp [h], by omega, by omega⟩
 ·have hne : n ≠ 0 := by omega
  have h1 := Int.tmod_lt_of_pos v (show 0 < n by omega)
  have h2 := Int.lt_tmod_of_pos v (show 0 < n by omega)
  simp only [h, decide_false, jB, jM, remS, hne, j0]
  by_cases h3 : Int.tmod v n < 0
  ·refine ⟨Int.tmod v n + n, ?_, by omega, by omega⟩
   simp only [h3, decide_true, jP, j0]
   rw [wi64 (by omega) (by omega)]
  ·exact ⟨Int.tmod v n, by simp only [h3, decide_false, jB, jM, j0], by omega, by omega⟩
theorem qQl {N : Nat} {l : List Int} {a n : Int} (h0 : 0 ≤ a) (h1 : a < 4611686018427387904) (hn : n ≤ 9223372036854775807) : ∃ r, qBf N (l, a) n = some ((l, a + 1), r) ∧ 0 ≤ r ∧ (1 ≤ n → r < n) := by
 simp only [qBf]
 have hv : ∃ v, (if (decide (a < (List.length l : Int))) = true then ((idx l a).bind fun x1 => some x1) else (some (Int.tmod (IntKind.wrap .i64 (a * 7)) 11)) : Option Int) = some v := by
  by_cases h : a < (l.length : Int)
  ·exact ⟨_, by simp only [h, decide_true, jP]; rw [qUa h0 (by omega)]; rfl⟩
  ·exact ⟨_, by simp only [h, decide_false, jB, jM]; rfl⟩
 obtain ⟨v, hv⟩ := hv
 obtain ⟨r, hr, h2, h3⟩ := zDx (N := N) (v := v) hn
 exact ⟨r, by simp only [hv, j0, hr]; rw [wi64 (by omega) (by omega)], h2, h3⟩
section
variable {β : Type} {Q : β → Prop} {N : Nat} {l : List Int} {a : Int}
theorem Ok.next {n : Int} {f : (List Int × Int) × Int → Option β} (h0 : 0 ≤ a) (h1 : a < 4611686018427387904) (hn : 1 ≤ n) (hn2 : n ≤ 1000000) (h : ∀ r, 0 ≤ r → r < n → Ok (f ((l, a + 1), r)) Q) : Ok ((qBf N (l, a) n).bind f) Q := by
 obtain ⟨r, hr, g1, g2⟩ := qQl (N := N) (l := l) h0 h1 (show n ≤ 9223372036854775807 by omega)
 rw [hr]; exact h r g1 (g2 hn)
theorem Ok.chance {n m : Int} {f : (List Int × Int) × Bool → Option β} (h0 : 0 ≤ a) (h1 : a < 4611686018427387904) (hn : 1 ≤ m) (hn2 : m ≤ 1000000) (h : ∀ r, Ok (f ((l, a + 1), r)) Q) : Ok ((qBd N (l, a) n m).bind f) Q := by
 obtain ⟨r, hr, g1, g2⟩ := qQl (N := N) (l := l) h0 h1 (show m ≤ 9223372036854775807 by omega)
 simp only [qBd, hr, j0]
 exact h _
theorem Ok.one {L : List ByteArray} {f : (List Int × Int) × ByteArray → Option β} (h0 : 0 ≤ a) (h1 : a < 4611686018427387904) (hL : 0 < L.length) (hL2 : L.length < 1000) (h : ∀ x ∈ L, Ok (f ((l, a + 1), x)) Q) : Ok ((qAu N (l, a) L).bind f) Q := by
 obtain ⟨r, hr, g1, g2⟩ := qQl (N := N) (l := l) h0 h1 (show (L.length : Int) ≤ 9223372036854775807 by omega)
 have g2 := g2 (by omega)
 have hlt : r.toNat < L.length := by omega
 simp only [qAu]
 rw [if_neg (by rw [kA]; omega), hr]
 simp only [j0]
 rw [qUa g1 hlt]
 exact h _ (kC hlt)
theorem Ok.oneP {L : List ByteArray} {f : (List Int × Int) × ByteArray → Option β} (h0 : 0 ≤ a) (h1 : a < 4611686018427387904) (hc : decide ((List.length L : Int) > 0) = true) (hL2 : L.length < 1000) (hL3 : ∀ x ∈ L, x.size ≤ 12) (h : ∀ x : ByteArray, x.size ≤ 12 → Ok (f ((l, a + 1), x)) Q) : Ok ((qAu N (l, a) L).bind f) Q :=
 Ok.one h0 h1 (by have := kT hc; omega) hL2 fun x hx => h x (hL3 x hx)
theorem Ok.oneS {L : List ByteArray} {f : (List Int × Int) × ByteArray → Option β} (h0 : 0 ≤ a) (h1 : a < 4611686018427387904) (hL : (decide (0 < L.length) && decide (L.length < 1000) && L.all fun x => decide (x.size ≤ 12)) = true) (h : ∀ x : ByteArray, x.size ≤ 12 → Ok (f ((l, a + 1), x)) Q) : Ok ((qAu N (l, a) L).bind f) Q := by
 simp only [jN, j9] at hL
 exact Ok.one h0 h1 hL.1.1 hL.1.2 fun x hx => h x (by simpa using jK.1 hL.2 x hx)
theorem Ok.pick {L : List Int} {f : (List Int × Int) × Int → Option β} (h0 : 0 ≤ a) (h1 : a < 4611686018427387904) (hL : 0 < L.length) (hL2 : L.length < 1000) (h : ∀ x ∈ L, Ok (f ((l, a + 1), x)) Q) : Ok ((qCe N (l, a) L).bind f) Q := by
 obtain ⟨r, hr, g1, g2⟩ := qQl (N := N) (l := l) h0 h1 (show (L.length : Int) ≤ 9223372036854775807 by omega)
 have g2 := g2 (by omega)
 have hlt : r.toNat < L.length := by omega
 simp only [qCe]
 rw [if_neg (by rw [kA]; omega), hr]
 simp only [j0]
 rw [qUa g1 hlt]
 exact h _ (kC hlt)
theorem Ok.pickS {L : List Int} {f : (List Int × Int) × Int → Option β} (h0 : 0 ≤ a) (h1 : a < 4611686018427387904) (hL : (decide (0 < L.length) && decide (L.length < 1000) && L.all fun x => decide (0 ≤ x ∧ x ≤ 9007199254740992)) = true) (h : ∀ x : Int, 0 ≤ x → x ≤ 9007199254740992 → Ok (f ((l, a + 1), x)) Q) : Ok ((qCe N (l, a) L).bind f) Q := by
 simp only [jN, j9] at hL
 exact Ok.pick h0 h1 hL.1.1 hL.1.2 fun x hx => by
  have := jK.1 hL.2 x hx
  simp only [j9] at this
  exact h x this.1 this.2
theorem qTy : ∀ (k D : Nat) (x : Int), k < D → k ≤ 100 → 0 ≤ x → x < 10 ^ (k + 1) → x ≤ 9223372036854775806 → Ok (qEw N D x) fun s => s.size ≤ k + 1
 | _, 0, _, h, _, _, _, _ => absurd h (kV _)
 | k, D + 1, x, hk, hk9, h0, h1, h2 => by
  show Ok (qEv N (qEw N D) x) _
  unfold qEv
  have hsz : ByteArray.size (⟨#[48, 49, 50, 51, 52, 53, 54, 55, 56, 57]⟩ : ByteArray) = 10 := rfl
  by_cases hx : x < 10
  ·rw [if_pos (by simpa using hx), wi64 (by omega) (by omega), qNj h0 (by omega) (by omega)]
   refine Ok.mk ?_
   simp only [ByteArray.size_extract, hsz]; omega
  ·rw [if_neg (by simpa using hx)]
   obtain ⟨k, rfl⟩ : ∃ k', k = k' + 1 := by
    cases k with
    | zero => simp at h1; omega
    | succ k => exact ⟨k, rfl⟩
   obtain ⟨D, rfl⟩ : ∃ D', D = D' + 1 := ⟨D - 1, by omega⟩
   have e1 : Int.tdiv x 10 = x / 10 := Int.tdiv_eq_ediv_of_nonneg h0
   have e2 : Int.tmod x 10 = x % 10 := Int.tmod_eq_emod_of_nonneg h0
   have hp : (10 : Int) ^ (k + 1 + 1) = 10 * 10 ^ (k + 1) := by rw [Int.pow_succ]; omega
   rw [e1, e2, wi64 (by omega) (by omega)]
   refine Ok.bind (qTy k (D + 1) (x / 10) (by omega) (by omega) (by omega) (by omega) (by omega)) fun s hs => ?_
   refine Ok.bind (qTy 0 (D + 1) (x % 10) (by omega) (by omega) (by omega) (by simp; omega) (by omega)) fun t ht => ?_
   exact Ok.cat (by omega) fun u hu => Ok.mk (by omega)
theorem zBy {x : Int} (h0 : 0 ≤ x) (h1 : x ≤ 9007199254740992) (hN : 100 < N) : Ok (qFr N x) fun s => s.size ≤ 16 :=
 qTy 15 N x (by omega) (by omega) h0 (by rw [show (10 : Int) ^ (15 + 1) = 10000000000000000 from by kernel_rfl]; omega) (by omega)
theorem Ok.digits {x : Int} {f : ByteArray → Option β} (h0 : 0 ≤ x) (h1 : x ≤ 9007199254740992) (hN : 100 < N) (h : ∀ s : ByteArray, s.size ≤ 16 → Ok (f s) Q) : Ok ((qFr N x).bind f) Q := Ok.bind (zBy h0 h1 hN) h
end
def qMl : Nat → Nat
 | 0 => 8
 | d + 1 => 3 * qMl d + 8
def qPc : Nat → Nat
 | 0 => 22
 | d + 1 => 3 * qPc d + 20
theorem qYr : ∀ d, 22 ≤ qPc d
 | 0 => jR _
 | d + 1 => by have := qYr d; simp only [qPc]; omega
section
variable {N : Nat} {l : List Int}
def qQw (N : Nat) (l : List Int) (E : (List Int × Int) → Int → List ByteArray → Option ((List Int × Int) × ByteArray)) (d : Nat) (ps : List ByteArray) : Prop :=
 ∀ a : Int, 0 ≤ a → a + qMl d < 2000000000000000000 → Ok (E (l, a) (d : Int) ps) fun y => ∃ a' s, y = ((l, a'), s) ∧ a ≤ a' ∧ a' ≤ a + qMl d ∧ s.size ≤ qPc d
theorem Ok.expr {β : Type} {Q : β → Prop} {E : (List Int × Int) → Int → List ByteArray → Option ((List Int × Int) × ByteArray)} {d : Nat} {ps : List ByteArray} (hE : qQw N l E d ps) {a : Int} {f : (List Int × Int) × ByteArray → Option β} (h0 : 0 ≤ a) (h1 : a + qMl d < 2000000000000000000)
  (h : ∀ (a' : Int) (s : ByteArray), a ≤ a' → a' ≤ a + qMl d → s.size ≤ qPc d → Ok (f ((l, a'), s)) Q) : Ok ((E (l, a) (d : Int) ps).bind f) Q :=
 Ok.bind (hE a h0 h1) fun y hy => by
  obtain ⟨a', s, rfl, g1, g2, g3⟩ := hy
  exact h a' s g1 g2 g3
theorem qTk (d : Nat) (hd : d ≤ 5) : qMl d ≤ 10000 ∧ qPc d ≤ 20000 := by
 match d, hd with
 | 0, _ => decide
 | 1, _ => decide
 | 2, _ => decide
 | 3, _ => decide
 | 4, _ => decide
 | 5, _ => decide
set_option maxHeartbeats 4000000 in
theorem zBm {E : (List Int × Int) → Int → List ByteArray → Option ((List Int × Int) × ByteArray)} {d : Nat} {ps : List ByteArray} (hd : d = 0) (hps : ps.length < 1000) (hps2 : ∀ x ∈ ps, x.size ≤ 12) (hN : 100 < N) : qQw N l (qDm N E) d ps := by
 subst hd
 intro a h0 h1
 have hc : qMl 0 = 8 := rfl
 have hz : qPc 0 = 22 := rfl
 simp only [qDm, hc, hz, qBr, qEd]
 rw [if_pos (show decide (((0 : Nat) : Int) ≤ 0) = true by decide)]
 repeat' first
  | with_reducible apply Ok.tt
  | with_reducible apply Ok.ff
  | with_reducible apply Ok.ttb
  | with_reducible apply Ok.ffb
  | with_reducible apply Ok.assoc
  | ((with_reducible apply Ok.iteb) <;> intro _)
  | ((with_reducible apply Ok.ite) <;> intro _)
  | with_reducible apply Ok.someb
  | with_reducible apply Ok.mapb
  | ((with_reducible refine Ok.mk ⟨_, _, rfl, ?_, ?_, ?_⟩) <;> omega)
  | ((with_reducible refine Ok.next ?_ ?_ ?_ ?_ (fun _ _ _ => ?_)) <;> try omega)
  | ((with_reducible refine Ok.chance ?_ ?_ ?_ ?_ (fun _ => ?_)) <;> try omega)
  | ((with_reducible refine Ok.pickS ?_ ?_ (by decide) (fun _ _ _ => ?_)) <;> try omega)
  | ((with_reducible refine Ok.oneP ?_ ?_ (by assumption) hps hps2 (fun _ _ => ?_)) <;> try omega)
  | ((with_reducible refine Ok.oneS ?_ ?_ (by decide) (fun _ _ => ?_)) <;> try omega)
  | ((with_reducible refine Ok.digits ?_ ?_ hN (fun _ _ => ?_)) <;> try omega)
  | ((with_reducible refine Ok.cat ?_ (fun _ h => ?_)) <;> simp only [qOl, jT, jA, jC, Nat.reduceAdd] at * <;> try omega)
  | ((with_reducible refine Ok.cat ?_ (fun _ _ => ?_)) <;> try omega)
  | (apply Ok.iteb <;> intro _)
  | dsimp only
 all_goals omega
theorem Ok.pick01 {β : Type} {Q : β → Prop} {a : Int} {f : (List Int × Int) × Int → Option β} (h0 : 0 ≤ a) (h1 : a < 4611686018427387904) (h : ∀ x : Int, x = 0 ∨ x = 1 → Ok (f ((l, a + 1), x)) Q) : Ok ((qCe N (l, a) [0, 0, 0, 1]).bind f) Q :=
 Ok.pick h0 h1 (by decide) (by decide) fun x hx => h x (by simp at hx; omega)
theorem Ok.exprloop {β : Type} {Q : β → Prop} {E : (List Int × Int) → Int → List ByteArray → Option ((List Int × Int) × ByteArray)} {d : Nat} {ps : List ByteArray} (hE : qQw N l E d ps) (hd : d ≤ 5) {p1 : Int} (hp : IntKind.wrap .i64 (p1 - 1) = (d : Int)) {s : ByteArray} {n a : Int} {f : ByteArray × List Int × Int → Option β}
  (hn : n = 0 ∨ n = 1) (h0 : 0 ≤ a) (h1 : a + qMl d < 2000000000000000000) (hs : s.size ≤ 100000000) (hN : 100 < N) (h : ∀ (s' : ByteArray) (a' : Int), a ≤ a' → a' ≤ a + qMl d → s'.size ≤ s.size + qPc d + 2 → Ok (f (s', l, a')) Q) : Ok ((qBe (qFe N E p1 ps) N (s, n, l, a)).bind f) Q := by
 have hsm := qTk d hd
 refine Ok.loop (fun st => ∃ s' n' a', st = (s', n', l, a') ∧ ((n' = n ∧ a' = a ∧ s' = s) ∨ (n' = 0 ∧ a ≤ a' ∧ a' ≤ a + qMl d ∧ s'.size ≤ s.size + qPc d + 2))) (fun st => st.2.1.toNat) (fun b => ∃ s' a', b = (s', l, a') ∧ a ≤ a' ∧ a' ≤ a + qMl d ∧ s'.size ≤ s.size + qPc d + 2) ?_ ⟨s, n, a, rfl, .inl ⟨rfl, rfl, rfl⟩⟩ (by simp only; omega) ?_
 ·rintro _ ⟨s', n', a', rfl, hc⟩
  simp only [qFe]
  by_cases hn0 : n' > 0
  ·rw [if_pos (by simpa using hn0), hp]
   have hc : n' = n ∧ a' = a ∧ s' = s := hc.resolve_right fun h => by omega
   obtain ⟨rfl, rfl, rfl⟩ := hc
   refine Ok.expr hE h0 h1 fun a2 t g1 g2 g3 => ?_
   refine Ok.cat (by simp only [qOl, jT, jA, jC, Nat.reduceAdd]; omega) fun u hu => ?_
   simp only [qOl, jT, jA, jC, Nat.reduceAdd] at hu
   refine Ok.cat (by omega) fun v hv => ?_
   refine Ok.mk ⟨⟨v, _, a2, rfl, .inr ⟨by rw [wi64 (by omega) (by omega)]; omega, g1, g2, by omega⟩⟩, ?_⟩
   simp only
   rw [wi64 (by omega) (by omega)]
   omega
  ·rw [if_neg (by simpa using hn0)]
   refine Ok.mk ⟨s', a', rfl, ?_⟩
   rcases hc with ⟨_, rfl, rfl⟩ | ⟨_, g1, g2, g3⟩
   ·omega
   ·exact ⟨g1, g2, g3⟩
 ·rintro _ ⟨s', a', rfl, g1, g2, g3⟩
  exact h s' a' g1 g2 g3
set_option maxHeartbeats 8000000 in
theorem zCj {E : (List Int × Int) → Int → List ByteArray → Option ((List Int × Int) × ByteArray)} {d : Nat} {ps : List ByteArray} (hE : qQw N l E d ps) (hd : d ≤ 4) (hps : ps.length < 1000) (hps2 : ∀ x ∈ ps, x.size ≤ 12) (hN : 100 < N) : qQw N l (qDm N E) (d + 1) ps := by
 intro a h0 h1
 have hc : qMl (d + 1) = 3 * qMl d + 8 := rfl
 have hz : qPc (d + 1) = 3 * qPc d + 20 := rfl
 have hge := qYr d
 have hsm := qTk d (by omega)
 have hw : IntKind.wrap .i64 (((d + 1 : Nat) : Int) - 1) = (d : Int) := by rw [wi64 (by omega) (by omega)]; omega
 simp only [qDm, hc, hz, qBr, qEd, qDj, hw]
 repeat' first
  | with_reducible apply Ok.tt
  | with_reducible apply Ok.ff
  | with_reducible apply Ok.ttb
  | with_reducible apply Ok.ffb
  | with_reducible apply Ok.assoc
  | ((with_reducible apply Ok.iteb) <;> intro _)
  | ((with_reducible apply Ok.ite) <;> intro _)
  | with_reducible apply Ok.someb
  | with_reducible apply Ok.mapb
  | ((with_reducible refine Ok.mk ⟨_, _, rfl, ?_, ?_, ?_⟩) <;> omega)
  | ((with_reducible refine Ok.next ?_ ?_ ?_ ?_ (fun _ _ _ => ?_)) <;> try omega)
  | ((with_reducible refine Ok.chance ?_ ?_ ?_ ?_ (fun _ => ?_)) <;> try omega)
  | ((with_reducible refine Ok.pick01 ?_ ?_ (fun _ _ => ?_)) <;> try omega)
  | ((with_reducible refine Ok.exprloop hE (by omega) hw (by assumption) ?_ ?_ ?_ hN (fun _ _ _ _ _ => ?_)) <;> try omega)
  | ((with_reducible refine Ok.expr hE ?_ ?_ (fun _ _ _ _ _ => ?_)) <;> try omega)
  | ((with_reducible refine Ok.pickS ?_ ?_ (by decide) (fun _ _ _ => ?_)) <;> try omega)
  | ((with_reducible refine Ok.oneP ?_ ?_ (by assumption) hps hps2 (fun _ _ => ?_)) <;> try omega)
  | ((with_reducible refine Ok.oneS ?_ ?_ (by decide) (fun _ _ => ?_)) <;> try omega)
  | ((with_reducible refine Ok.digits ?_ ?_ hN (fun _ _ => ?_)) <;> try omega)
  | ((with_reducible refine Ok.cat ?_ (fun _ h => ?_)) <;> simp only [qOl, jT, jA, jC, Nat.reduceAdd] at * <;> try omega)
  | ((with_reducible refine Ok.cat ?_ (fun _ _ => ?_)) <;> try omega)
  | (apply Ok.iteb <;> intro _)
  | dsimp only
 all_goals omega
theorem zEr : ∀ (d D : Nat) (ps : List ByteArray), d < D → d ≤ 5 → ps.length < 1000 → (∀ x ∈ ps, x.size ≤ 12) → 100 < N → qQw N l (qFs N D) d ps
 | _, 0, _, h, _, _, _, _ => absurd h (kV _)
 | 0, D + 1, ps, _, _, h1, h2, hN => zBm (E := qFs N D) rfl h1 h2 hN
 | d + 1, D + 1, ps, h, hd, h1, h2, hN => zCj (zEr d D ps (by omega) (by omega) h1 h2 hN) (by omega) h1 h2 hN
theorem zAs {d : Nat} {ps : List ByteArray} (hd : d ≤ 5) (h1 : ps.length < 1000) (h2 : ∀ x ∈ ps, x.size ≤ 12) (hN : 100 < N) : qQw N l (qEj N) d ps := zEr d N ps (by omega) hd h1 h2 hN
theorem Ok.expr3 {β : Type} {Q : β → Prop} {ps : List ByteArray} {a : Int} {f : (List Int × Int) × ByteArray → Option β} (hN : 100 < N) (h0 : 0 ≤ a) (h1 : a + 10000 < 2000000000000000000) (hps : ps.length ≤ 2 ∧ ∀ x ∈ ps, x.size ≤ 12)
  (h : ∀ (a' : Int) (s : ByteArray), a ≤ a' → a' ≤ a + 10000 → s.size ≤ 854 → Ok (f ((l, a'), s)) Q) : Ok ((qEj N (l, a) 3 ps).bind f) Q :=
 Ok.expr (d := 3) (zAs (by omega) (by omega) hps.2 hN) h0 (by have : qMl 3 = 320 := rfl; have : qMl 2 = 104 := rfl; omega) fun a' s g1 g2 g3 => h a' s g1 (by have : qMl 3 = 320 := rfl; omega) (by have : qPc 3 = 854 := rfl; omega)
theorem Ok.expr2 {β : Type} {Q : β → Prop} {ps : List ByteArray} {a : Int} {f : (List Int × Int) × ByteArray → Option β} (hN : 100 < N) (h0 : 0 ≤ a) (h1 : a + 10000 < 2000000000000000000) (hps : ps.length ≤ 2 ∧ ∀ x ∈ ps, x.size ≤ 12)
  (h : ∀ (a' : Int) (s : ByteArray), a ≤ a' → a' ≤ a + 10000 → s.size ≤ 854 → Ok (f ((l, a'), s)) Q) : Ok ((qEj N (l, a) 2 ps).bind f) Q :=
 Ok.expr (d := 2) (zAs (by omega) (by omega) hps.2 hN) h0 (by have : qMl 3 = 320 := rfl; have : qMl 2 = 104 := rfl; omega) fun a' s g1 g2 g3 => h a' s g1 (by have : qMl 2 = 104 := rfl; omega) (by have : qPc 2 = 278 := rfl; omega)
set_option maxHeartbeats 8000000 in
theorem zFf {a : Int} (hN : 100 < N) (h0 : 0 ≤ a) (h1 : a < 1000000000000000000) : Ok (qFj N (l, a)) fun y => ∃ a' s, y = ((l, a'), s) ∧ a ≤ a' ∧ a' ≤ a + 10010 ∧ s.size ≤ 890 := by
 simp only [qFj, qHj, qBr, qDj]
 repeat' first
  | with_reducible apply Ok.tt
  | with_reducible apply Ok.ff
  | with_reducible apply Ok.ttb
  | with_reducible apply Ok.ffb
  | with_reducible apply Ok.assoc
  | ((with_reducible apply Ok.iteb) <;> intro _)
  | ((with_reducible apply Ok.ite) <;> intro _)
  | with_reducible apply Ok.someb
  | with_reducible apply Ok.mapb
  | ((with_reducible refine Ok.mk ⟨_, _, rfl, ?_, ?_, ?_⟩) <;> omega)
  | ((with_reducible refine Ok.next ?_ ?_ ?_ ?_ (fun _ _ _ => ?_)) <;> try omega)
  | ((with_reducible refine Ok.chance ?_ ?_ ?_ ?_ (fun _ => ?_)) <;> try omega)
  | ((with_reducible refine Ok.expr3 hN ?_ ?_ ?_ (fun _ _ _ _ _ => ?_)) <;> first | omega | exact ⟨by decide, by decide⟩ | skip)
  | ((with_reducible refine Ok.expr2 hN ?_ ?_ ?_ (fun _ _ _ _ _ => ?_)) <;> first | omega | exact ⟨by decide, by decide⟩ | skip)
  | (with_reducible refine Ok.app (by simp) (by decide) ?_)
  | ((with_reducible refine Ok.pickS ?_ ?_ (by decide) (fun _ _ _ => ?_)) <;> try omega)
  | ((with_reducible refine Ok.oneS ?_ ?_ (by decide) (fun _ _ => ?_)) <;> try omega)
  | ((with_reducible refine Ok.digits ?_ ?_ hN (fun _ _ => ?_)) <;> try omega)
  | ((with_reducible refine Ok.cat ?_ (fun _ h => ?_)) <;> simp only [qOl, jT, jA, jC, Nat.reduceAdd] at * <;> try omega)
  | ((with_reducible refine Ok.cat ?_ (fun _ _ => ?_)) <;> try omega)
  | (apply Ok.iteb <;> intro _)
  | dsimp only
 all_goals omega
theorem Has_ok {L : List ByteArray} {x : ByteArray} (hL : L.length < 1000000) (hN : L.length < N) : Ok (qFc N L x) fun _ => True := by
 unfold qFc
 refine Ok.loop (fun st => ∃ j : Nat, st = (j : Int) ∧ j ≤ L.length) (fun st => L.length - st.toNat) (fun _ => True) ?_ ⟨0, rfl, gU _⟩ (by show L.length - (0 : Int).toNat < N; omega) ?_
 ·rintro _ ⟨j, rfl, hj⟩
  simp only [qGy]
  by_cases h : j < L.length
  ·rw [if_pos (by simpa using h), qGl h]
   simp only [j0]
   refine Ok.ite (fun _ => Ok.mk trivial) fun _ => Ok.mk ⟨⟨j + 1, by rw [wi64 (by omega) (by omega)]; omega, by omega⟩, ?_⟩
   rw [wi64 (by omega) (by omega)]; omega
  ·rw [if_neg (by simpa using h)]; exact Ok.mk trivial
 ·intro b _
  cases b <;> exact Ok.mk trivial
theorem Ok.has {β : Type} {Q : β → Prop} {L : List ByteArray} {x : ByteArray} {f : Bool → Option β} (hL : L.length < 1000000) (hN : L.length < N) (h : ∀ b, Ok (f b) Q) : Ok ((qFc N L x).bind f) Q := Ok.bind (Has_ok hL hN) fun b _ => h b
theorem Ok.decl {β : Type} {Q : β → Prop} {a : Int} {f : (List Int × Int) × ByteArray → Option β} (hN : 100 < N) (h0 : 0 ≤ a) (h1 : a < 1000000000000000000)
  (h : ∀ (a' : Int) (s : ByteArray), a ≤ a' → a' ≤ a + 10010 → s.size ≤ 890 → Ok (f ((l, a'), s)) Q) : Ok ((qFj N (l, a)).bind f) Q :=
 Ok.bind (zFf hN h0 h1) fun y hy => by
  obtain ⟨a', s, rfl, g1, g2, g3⟩ := hy
  exact h a' s g1 g2 g3
theorem zFy {β : Type} {Q : β → Prop} {y : (List Int × Int) × ByteArray} {f : ByteArray → Option β} (hs : y.2.size ≤ 890) (hN : 3000 < N) (h : ∀ s : ByteArray, Ok (f s) Q) : Ok ((qBe (qEe N y) N (y.2, 0)).bind f) Q := by
 refine Ok.loop (fun st => ∃ j : Nat, st.2 = (j : Int) ∧ j ≤ y.2.size) (fun st => y.2.size - st.2.toNat) (fun _ => True) ?_ ⟨0, rfl, gU _⟩ (by simp only; omega) (fun b _ => h b)
 rintro ⟨s, _⟩ ⟨j, rfl, hj⟩
 simp only [qEe]
 by_cases hlt : j < y.2.size
 ·rw [if_pos (by simpa using hlt), qUw hlt]
  simp only [j0]
  refine Ok.bind (P := fun _ => True) (Ok.ite (fun _ => Ok.mk trivial) fun _ => Ok.mk trivial) fun b _ => ?_
  refine Ok.ite (fun _ => ?_) fun _ => ?_
  ·rw [qNj (by omega) (by omega) (by omega)]; exact Ok.mk trivial
  ·refine Ok.mk ⟨⟨j + 1, by simp only; rw [wi64 (by omega) (by omega)]; omega, by omega⟩, ?_⟩
   simp only; rw [wi64 (by omega) (by omega)]; omega
 ·rw [if_neg (by simpa using hlt)]; exact Ok.mk trivial
end
end
section
open Go Go.Dc
theorem qKt {N : Nat} {L : List File} {p b : ByteArray} (hl : L.length < 1000000) (ha : Asc L) : ∀ (d i M : Nat) (done : Bool) (acc : List File), i + d = L.length → d < M → acc.length ≤ i + done.toNat → (done = true → ∀ f ∈ L.drop i, f.1 ≠ p) →
  Ok (qBe (qDi N L (p, b)) M (done, (i : Int), acc)) fun o => o.2.length ≤ L.length + 1 ∧ (if o.1 = true then o.2 else o.2 ++ [(p, b)]) = acc ++ (if done = true then L.drop i else fput (L.drop i) p b)
 | _, _, 0, _, _, _, h, _, _ => by omega
 | 0, i, M + 1, done, acc, hd, _, hacc, _ => by
  refine ⟨(done, acc), ?_, by simp only; cases done <;> simp only [Bool.toNat_true, fE] at hacc <;> omega, ?_⟩
  ·simp only [qBe, qDi]
   rw [if_neg (by simp only [j9]; omega)]
   rfl
  ·rw [jS (by omega)]
   cases done <;> simp [fput]
 | d + 1, i, M + 1, done, acc, hd, hM, hacc, hno => by
  have hi : i < L.length := by omega
  have e1 : (i : Int) + 1 = ((i + 1 : Nat) : Int) := by omega
  have hgt : ∀ f ∈ L.drop (i + 1), blt (L[i]).1 f.1 = true := by
   have := (jU.1 (by rw [← jH hi]; exact List.Pairwise.sublist (List.drop_sublist _ _) ha : Asc (L[i] :: L.drop (i + 1)))).1
   exact this
  simp only [qBe, qDi]
  rw [if_pos (by simp only [j9]; omega), qGl hi, wi64 (by omega) (by omega), e1]
  rw [jH hi] at hno ⊢
  simp only [j0, eqB]
  cases done with
  | true =>
   simp only [Bool.toNat_true] at hacc
   have hne := hno rfl _ (jL ..)
   have ih := qKt (N := N) (p := p) (b := b) hl ha d (i + 1) M true (acc ++ [((L[i]).1, (L[i]).2)]) (by omega) (by omega) (by simp; omega) (fun h f hf => hno rfl f (jO _ hf))
   simp only [kZ, jB, jM, j0]
   rw [if_pos (by simp [hne]), qBv (by simp only [jA, jC]; omega) (by omega)]
   simp only [j0]
   refine ih.mono fun o ho => ⟨ho.1, ?_⟩
   rw [ho.2]; simp only [jP, kD, kI, jV]
  | false =>
   simp only [fE] at hacc
   simp only [kS, jP, j0]
   rcases qPb p (L[i]).1 with h | h | h
   ·have h' : Op.bytesLess p.toList (L[i]).1.toList = true := h
    have hne : (L[i]).1 ≠ p := fun e => zEx h e.symm
    have ih := qKt (N := N) (p := p) (b := b) hl ha d (i + 1) M true ((acc ++ [(p, b)]) ++ [((L[i]).1, (L[i]).2)]) (by omega) (by omega) (by simp; omega) (fun _ f hf e => by
     have := qMd h (hgt f hf); rw [e, qJo] at this; cases this)
    rw [h', Bool.true_or, if_pos rfl, qBv (by simp only [jA, jC]; omega) (by omega)]
    simp only [j0]
    rw [if_pos (by simp [hne]), qBv (by simp only [jJ, jA, jC]; omega) (by omega)]
    simp only [j0]
    refine ih.mono fun o ho => ⟨ho.1, ?_⟩
    have g3 : fput (L[i] :: L.drop (i + 1)) p b = (p, b) :: L[i] :: L.drop (i + 1) := by rw [fput, if_pos h]
    rw [ho.2, g3]; simp only [jP, kD, kI, jV, jB, jM]
   ·have ih := qKt (N := N) (p := p) (b := b) hl ha d (i + 1) M true (acc ++ [(p, b)]) (by omega) (by omega) (by simp; omega) (fun _ f hf e => by
     have := hgt f hf; rw [← h, e, qJo] at this; cases this)
    rw [k8 h, Bool.or_true, if_pos rfl, qBv (by simp only [jA, jC]; omega) (by omega)]
    simp only [j0]
    rw [if_neg (by simp [h])]
    simp only [j0]
    refine ih.mono fun o ho => ⟨ho.1, ?_⟩
    have g3 : fput (L[i] :: L.drop (i + 1)) p b = (p, b) :: L.drop (i + 1) := by rw [fput, if_neg (by rw [h, qJo]; simp), if_pos h.symm]
    rw [ho.2, g3]; simp only [jP, kD, kI, jV, jB, jM]
   ·have hne : (L[i]).1 ≠ p := zEx h
    have h' : Op.bytesLess p.toList (L[i]).1.toList = false := qWa h
    have ih := qKt (N := N) (p := p) (b := b) hl ha d (i + 1) M false (acc ++ [((L[i]).1, (L[i]).2)]) (by omega) (by omega) (by simp; omega) (fun h => by cases h)
    rw [h', gC (fun e => hne e.symm), Bool.or_false, if_neg (by simp)]
    simp only [j0]
    rw [if_pos (by simp [hne]), qBv (by simp only [jA, jC]; omega) (by omega)]
    simp only [j0]
    refine ih.mono fun o ho => ⟨ho.1, ?_⟩
    have g3 : fput (L[i] :: L.drop (i + 1)) p b = L[i] :: fput (L.drop (i + 1)) p b := by rw [fput, if_neg (by rw [show blt p (L[i]).1 = false from h']; simp), if_neg hne]
    rw [ho.2, g3]; simp only [kD, kI, jV, jB, jM]
theorem qVp {N : Nat} {L : List File} (p b : ByteArray) (hl : L.length < 1000000) (ha : Asc L) (hN : L.length < N) : qCx N L (p, b) = some (fput L p b) := by
 obtain ⟨o, h1, h2, h3⟩ := qKt (N := N) (p := p) (b := b) hl ha L.length 0 N false [] (by omega) hN (by simp) (fun h => by cases h)
 simp only [qCx]
 rw [show ((0 : Nat) : Int) = 0 from rfl] at h1
 rw [h1]
 simp only [k0, jV, jB, jM] at h3
 simp only [j0]
 cases ho : o.1 with
 | true => rw [ho] at h3; simp only [jP] at h3; simp [h3]
 | false =>
  rw [ho] at h3
  simp only [jB, jM] at h3
  simp only [kS, jP]
  rw [qBv (by simp only [jA, jC]; omega) (by omega), h3]
  rfl
def srcL : List ByteArray := [(⟨#[97, 46, 115, 114, 99]⟩ : ByteArray), (⟨#[98, 46, 115, 114, 99]⟩ : ByteArray), (⟨#[100, 47, 99, 46, 115, 114, 99]⟩ : ByteArray), (⟨#[120, 46, 115, 114, 99]⟩ : ByteArray)]
def datL : List ByteArray := [(⟨#[97, 46, 100, 97, 116]⟩ : ByteArray), (⟨#[100, 47, 98, 46, 100, 97, 116]⟩ : ByteArray), (⟨#[99]⟩ : ByteArray)]
theorem zFs : (srcL.all fun p => qGu p.data.toList) = true := by kernel_rfl
theorem zGl : (datL.all fun p => qGu p.data.toList) = true := by kernel_rfl
def Made (L : List File) : Prop := Asc L ∧ ∀ f ∈ L, f.1 ∈ srcL ++ datL ∧ f.2.size ≤ 4700
theorem Made.put {L : List File} (h : Made L) {p b : ByteArray} (hp : p ∈ srcL ++ datL) (hb : b.size ≤ 4700) : Made (fput L p b) :=
 ⟨h.1.put p b, fun f hf => by
  rcases qOv hf with rfl | hf
  ·exact ⟨hp, hb⟩
  ·exact h.2 f hf⟩
theorem Made.path {L : List File} (h : Made L) {f : File} (hf : f ∈ L) : qGu f.1.data.toList = true := by
 rcases gO.1 (h.2 f hf).1 with h | h
 ·exact jK.1 zFs _ h
 ·exact jK.1 zGl _ h
theorem zEc {N : Nat} {y1 : List ByteArray} {s1 : Int × (List (ByteArray × ByteArray)) × List (Int) × Int} : qDn N y1 s1 =
 if (decide (s1.1 < (List.length y1 : Int))) = true then (((idx y1 s1.1).bind fun x1 => (qBd N (s1.2.2.1, s1.2.2.2) 3 4).bind fun y2 => if y2.2 = true then ((qDq N).bind fun y3 => (qAu N (y2.1.1, y2.1.2) y3).bind fun y4 => (qEh N (y4.1.1, y4.1.2) y4.2).bind fun y5 => (qCx N s1.2.1 (x1, y5.2)).bind fun y6 => some (y6, y5.1.1, y5.1.2)) else (some (s1.2.1, y2.1.1, y2.1.2)) : Option ((List (ByteArray × ByteArray)) × List (Int) × Int)).bind fun o2 => some (.inl (IntKind.wrap .i64 (s1.1 + 1), o2.1, o2.2.1, o2.2.2))) else (some (.inr (s1.2.1, s1.2.2.1, s1.2.2.2))) := rfl
theorem zDh {N : Nat} {s2 : Int × (List (ByteArray × ByteArray)) × List (Int) × Int} : qFa N s2 =
 if (decide (s2.1 < (List.length datL : Int))) = true then (((idx datL s2.1).bind fun x2 => (qBd N (s2.2.2.1, s2.2.2.2) 1 3).bind fun y7 => if y7.2 = true then ((qFk N (y7.1.1, y7.1.2)).bind fun y8 => (qCx N s2.2.1 (x2, y8.2)).bind fun y9 => some (y9, y8.1.1, y8.1.2)) else (some (s2.2.1, y7.1.1, y7.1.2)) : Option ((List (ByteArray × ByteArray)) × List (Int) × Int)).bind fun o4 => some (.inl (IntKind.wrap .i64 (s2.1 + 1), o4.1, o4.2.1, o4.2.2))) else (some (.inr (s2.2.1, s2.2.2.1, s2.2.2.2))) := rfl
theorem qZr (l : List UInt8) : (qMj l).size = l.length := by simp [qMj, ByteArray.size]
theorem zGx {N : Nat} {l : List Int} {a : Int} (hN : 100 < N) (h0 : 0 ≤ a) (h1 : a < 1000000000000000000) : Ok (qFk N (l, a)) fun y => ∃ a' s, y = ((l, a'), s) ∧ a ≤ a' ∧ a' ≤ a + 10 ∧ s.size ≤ 10 := by
 simp only [qFk]
 refine Ok.next (by omega) (by omega) (by omega) (by omega) fun r g1 g2 => ?_
 dsimp only
 simp only [qFv]
 refine Ok.assoc ?_
 refine Ok.loop (fun st => ∃ L n a', st = (L, n, l, a') ∧ 0 ≤ n ∧ n ≤ r ∧ (L.length : Int) = n ∧ a ≤ a' ∧ a' ≤ a + 1 + n) (fun st => (r - st.2.1).toNat) (fun b => ∃ L a', b = (L, l, a') ∧ L.length ≤ 4 ∧ a ≤ a' ∧ a' ≤ a + 5) ?_ ⟨[], 0, a + 1, rfl, by omega, by omega, rfl, by omega, by omega⟩ (by dsimp only; omega) ?_
 ·rintro _ ⟨L, n, a', rfl, k1, k2, k3, k4, k5⟩
  have h5 : ByteArray.size (⟨#[97, 98, 0, 255, 48]⟩ : ByteArray) = 5 := rfl
  simp only [qEp, h5]
  by_cases hn : n < r
  ·rw [if_pos (by simpa using hn)]
   refine Ok.next (by omega) (by omega) (by omega) (by omega) fun q v1 v2 => ?_
   dsimp only
   have hq : q.toNat < ByteArray.size (⟨#[97, 98, 0, 255, 48]⟩ : ByteArray) := by rw [h5]; omega
   have hx : idxB (⟨#[97, 98, 0, 255, 48]⟩ : ByteArray) q = some ((⟨#[97, 98, 0, 255, 48]⟩ : ByteArray)[q.toNat]) := by
    have := qUw hq
    rw [Int.toNat_of_nonneg v1] at this
    exact this
   rw [hx]
   refine Ok.someb (Ok.app (by simp only [jA, jC]; omega) (by decide) (Ok.mk ?_))
   dsimp only
   rw [wi64 (by omega) (by omega)]
   exact ⟨⟨_, _, _, rfl, by omega, by omega, by simp only [jJ, jA, jC]; omega, by omega, by omega⟩, by omega⟩
  ·rw [if_neg (by simpa using hn)]
   exact Ok.mk ⟨L, a', rfl, by omega, by omega, by omega⟩
 ·rintro _ ⟨L, a', rfl, v1, v2, v3⟩
  refine Ok.someb (Ok.mk ?_)
  dsimp only
  refine ⟨_, _, rfl, ?_, ?_, ?_⟩
  ·omega
  ·omega
  ·rw [qZr]; omega
theorem Made.wf {L : List File} (h : Made L) (hl : L.length ≤ 64) : WF L := ⟨hl, h.1, fun f hf => ⟨h.path hf, fC (h.2 f hf).2 (by decide)⟩⟩
end
section
open Go Go.Dc
def MadeE (K : Nat) (L : List File) : Prop := Asc L ∧ ∀ f ∈ L, qGu f.1.data.toList = true ∧ f.2.size ≤ K
theorem Made.e {L : List File} (h : Made L) : MadeE 4700 L := ⟨h.1, fun f hf => ⟨h.path hf, (h.2 f hf).2⟩⟩
theorem MadeE.put {K : Nat} {L : List File} (h : MadeE K L) {p b : ByteArray} (hp : qGu p.data.toList = true) (hb : b.size ≤ K) : MadeE K (fput L p b) :=
 ⟨h.1.put p b, fun f hf => by
  rcases qOv hf with rfl | hf
  ·exact ⟨hp, hb⟩
  ·exact h.2 f hf⟩
theorem MadeE.del {K : Nat} {L : List File} (h : MadeE K L) (p : ByteArray) : MadeE K (fdel L p) := ⟨h.1.del p, fun f hf => h.2 f (gM.1 hf).1⟩
theorem MadeE.more {K K' : Nat} {L : List File} (h : MadeE K L) (hk : K ≤ K') : MadeE K' L := ⟨h.1, fun f hf => ⟨(h.2 f hf).1, fC (h.2 f hf).2 hk⟩⟩
theorem MadeE.wf {K : Nat} {L : List File} (h : MadeE K L) (hk : K ≤ 16384) (hl : L.length ≤ 64) : WF L := ⟨hl, h.1, fun f hf => ⟨(h.2 f hf).1, fC (h.2 f hf).2 hk⟩⟩
section
variable {N : Nat} {l : List Int} {a : Int} {K : Nat} {L : List File}
end
end
section
open Go Go.Dc Go.Proofs
def wR : List File := [((⟨#[97, 46, 115, 114, 99]⟩ : ByteArray), (⟨#[112, 97, 99, 107, 97, 103, 101, 32, 115, 59, 32, 102, 117, 110, 99, 32, 102, 40, 41, 32, 61, 32, 49, 59, 32, 103, 101, 110, 32, 34, 99, 34, 32, 61, 32, 50, 59]⟩ : ByteArray))]
theorem zFv : qZs wR (⟨#[112]⟩ : ByteArray) [(⟨#[113]⟩ : ByteArray), (⟨#[115]⟩ : ByteArray)] (⟨#[102]⟩ : ByteArray) = (((⟨#[115]⟩ : ByteArray), (⟨#[102]⟩ : ByteArray), 1, (⟨#[97, 46, 115, 114, 99]⟩ : ByteArray), 0, 1), [(1, (⟨#[112]⟩ : ByteArray), (⟨#[102]⟩ : ByteArray)), (1, (⟨#[113]⟩ : ByteArray), (⟨#[102]⟩ : ByteArray)), (1, (⟨#[115]⟩ : ByteArray), (⟨#[102]⟩ : ByteArray))], 0) := by kernel_rfl
theorem zFg : zBt wR (⟨#[99]⟩ : ByteArray) = (2, ((⟨#[115]⟩ : ByteArray), (⟨#[99]⟩ : ByteArray), 3, (⟨#[97, 46, 115, 114, 99]⟩ : ByteArray), 1, 1), [(4, (⟨#[99]⟩ : ByteArray), qHk), (3, (⟨#[99]⟩ : ByteArray), qHk)], 0) := by kernel_rfl
theorem qYi {N : Nat} {L : List File} (h : ∀ f ∈ L, f.1.size ≤ 1048576) (hN : 3000000 < N) : qOm N L := fun g hg => qRq (by have := h g hg; omega) (by have := h g hg; omega)
theorem qWw {p : ByteArray} (h : qGu p.data.toList = true) : p.size ≤ 80 := by
 have : p.data.toList.length ≤ 80 := (kT h).1
 have e := qCa p
 omega
theorem qTo {N K : Nat} {L : List File} (h : MadeE K L) (hN : 10000 < N) : qOm N L := fun g hg => by
 have := qWw (h.2 g hg).1
 exact qRq (by omega) (by omega)
theorem zBu {N : Nat} (hN : 3000000 < N) : qFp N = some true := by
 have hP : qOm N wR := qYi (fun f hf => by
  rw [List.mem_singleton.1 hf]; decide) hN
 have h1 := zBi (N := N) (L := wR) (f := ((⟨#[112]⟩ : ByteArray), [(⟨#[113]⟩ : ByteArray), (⟨#[115]⟩ : ByteArray)], [])) (name := (⟨#[102]⟩ : ByteArray)) hP (by decide) (by omega)
 have h2 := zAy (N := N) (L := wR) (path := (⟨#[99]⟩ : ByteArray)) hP (qRq (by decide) (show 2 * 1 + 1000 < N by omega)) (by omega)
 rw [show qZs wR _ _ _ = _ from zFv] at h1
 rw [zFg] at h2
 unfold qFp
 refine Eq.trans (congrArg (fun z => Option.bind z _) h1) ?_
 simp only [j0]
 refine Eq.trans (congrArg (fun z => Option.bind z _) h2) ?_
 kernel_rfl
end
section
open Go Go.Dc
def hdB (pk : ByteArray) : List UInt8 := (((⟨#[112, 97, 99, 107, 97, 103, 101, 32]⟩ : ByteArray) ++ pk) ++ (⟨#[59, 10]⟩ : ByteArray)).data.toList
def comB (pk : ByteArray) : List UInt8 := ((⟨#[35, 32, 97, 32, 99, 111, 109, 109, 101, 110, 116, 10]⟩ : ByteArray) ++ (((⟨#[112, 97, 99, 107, 97, 103, 101, 32]⟩ : ByteArray) ++ pk) ++ (⟨#[59, 10]⟩ : ByteArray))).data.toList
def Beg (pk s : ByteArray) : Prop := (∃ R, s.data.toList = hdB pk ++ R) ∨ (∃ R, s.data.toList = comB pk ++ R)
theorem Beg.app {pk s x t : ByteArray} (h : Beg pk s) (e : t = s ++ x) : Beg pk t := by
 have e : t.data.toList = s.data.toList ++ x.data.toList := by rw [e]; simp
 rcases h with ⟨R, h⟩ | ⟨R, h⟩
 ·exact .inl ⟨R ++ x.data.toList, by rw [e, h, kD]⟩
 ·exact .inr ⟨R ++ x.data.toList, by rw [e, h, kD]⟩
theorem Ok.catE {β : Type} {Q : β → Prop} {x y : ByteArray} {f : ByteArray → Option β} (hs : x.size + y.size ≤ 1000000000) (h : ∀ s : ByteArray, s.size = x.size + y.size → s = x ++ y → Ok (f s) Q) : Ok ((catB x y).bind f) Q := by
 unfold catB
 rw [if_pos (by simp only [maxLen]; omega)]
 exact h _ (by simp) rfl
section
variable {N : Nat} {l : List Int}
theorem zAj {a : Int} {pk : ByteArray} (hN : 3000 < N) (h0 : 0 ≤ a) (h1 : a < 100000000000000000) (hp : pk.size ≤ 12) : Ok (qEh N (l, a) pk) fun y => ∃ a' s, y = ((l, a'), s) ∧ a ≤ a' ∧ a' ≤ a + 100000 ∧ s.size ≤ 4700 ∧ Beg pk s := by
 simp only [qEh]
 refine Ok.catE (by simp only [qOl, jT, jA, jC, Nat.reduceAdd]; omega) fun s1 e1 b1 => ?_
 simp only [qOl, jT, jA, jC, Nat.reduceAdd] at e1
 refine Ok.catE (by simp only [qOl, jT, jA, jC, Nat.reduceAdd]; omega) fun s2 e2 b2 => ?_
 simp only [qOl, jT, jA, jC, Nat.reduceAdd] at e2
 refine Ok.chance h0 (by omega) (by omega) (by omega) fun c => ?_
 refine Ok.bind (P := fun s : ByteArray => s.size ≤ 60 ∧ Beg pk s) (Ok.ite (fun _ => Ok.catE (by simp only [qOl, jT, jA, jC, Nat.reduceAdd]; omega) fun s3 e3 b3 => Ok.mk ⟨by simp only [qOl, jT, jA, jC, Nat.reduceAdd] at e3; omega, .inr ⟨[], by rw [b3, List.append_nil, b2, b1]; rfl⟩⟩) fun _ => Ok.mk ⟨by omega, .inl ⟨[], by rw [List.append_nil, b2, b1]; rfl⟩⟩) fun o1 e3 => ?_
 obtain ⟨e3, b3⟩ := e3
 dsimp only
 refine Ok.next (by omega) (by omega) (by omega) (by omega) fun r g1 g2 => ?_
 dsimp only
 -- imports
 refine Ok.loop (fun st => ∃ s L n a', st = (s, L, n, l, a') ∧ Beg pk s ∧ 0 ≤ n ∧ n ≤ 2 ∧ (L.length : Int) + n ≤ 2 ∧ (s.size : Int) ≤ 60 + 30 * (2 - n) ∧ a ≤ a' ∧ a' ≤ a + 10 + (2 - n)) (fun st => st.2.2.1.toNat) (fun b => ∃ s a', b = (s, l, a') ∧ Beg pk s ∧ s.size ≤ 120 ∧ a ≤ a' ∧ a' ≤ a + 20) ?_ ⟨o1, [], r, a + 1 + 1, rfl, b3, g1, by omega, by simp only [jC]; omega, by omega, by omega, by omega⟩ (by simp only; omega) ?_
 ·rintro _ ⟨s, L, n, a', rfl, bs, k1, k2, k3, k4, k5, k6⟩
  simp only [qFu, qDq]
  by_cases hn : n > 0
  ·rw [if_pos (by simpa using hn)]
   refine Ok.assoc (Ok.someb ?_)
   refine Ok.assoc (Ok.oneS (by omega) (by omega) (by decide) fun x hx => ?_)
   dsimp only
   refine Ok.assoc (Ok.bind (P := fun _ => True) (Ok.ite (fun _ => Ok.has (by omega) (by omega) fun b => Ok.mk trivial) fun _ => Ok.mk trivial) fun o4 _ => ?_)
   refine Ok.iteb (fun _ => ?_) fun _ => ?_
   ·refine Ok.assoc (Ok.app (by simp only [jA, jC]; omega) (by decide) ?_)
    refine Ok.assoc (Ok.cat (by simp only [qOl, jT, jA, jC, Nat.reduceAdd]; omega) fun t1 f1 => ?_)
    simp only [qOl, jT, jA, jC, Nat.reduceAdd] at f1
    refine Ok.assoc (Ok.cat (by simp only [qOl, jT, jA, jC, Nat.reduceAdd]; omega) fun t2 f2 => ?_)
    simp only [qOl, jT, jA, jC, Nat.reduceAdd] at f2
    refine Ok.assoc (Ok.catE (by omega) fun t3 f3 b3 => Ok.someb (Ok.mk ?_))
    dsimp only
    rw [wi64 (by omega) (by omega)]
    exact ⟨⟨t3, _, _, _, rfl, bs.app b3, by omega, by omega, by simp only [jJ, jA, jC]; omega, by omega, by omega, by omega⟩, by omega⟩
   ·refine Ok.someb (Ok.mk ?_)
    dsimp only
    rw [wi64 (by omega) (by omega)]
    exact ⟨⟨s, _, _, _, rfl, bs, by omega, by omega, by omega, by omega, by omega, by omega⟩, by omega⟩
  ·rw [if_neg (by simpa using hn)]
   exact Ok.mk ⟨s, a', rfl, bs, by omega, k5, by omega⟩
 rintro _ ⟨s, bb, rfl, bS, q1, q2, q3⟩
 dsimp only
 refine Ok.next (by omega) (by omega) (by omega) (by omega) fun r2 g3 g4 => ?_
 dsimp only
 -- declarations
 refine Ok.loop (fun st => ∃ s L n a', st = (s, L, n, l, a') ∧ Beg pk s ∧ 0 ≤ n ∧ n ≤ 5 ∧ (L.length : Int) + n ≤ 5 ∧ (s.size : Int) ≤ 120 + 890 * (5 - n) ∧ a ≤ a' ∧ a' ≤ a + 100 + 10020 * (5 - n)) (fun st => st.2.2.1.toNat) (fun b => ∃ s a', b = (s, l, a') ∧ Beg pk s ∧ s.size ≤ 4580 ∧ a ≤ a' ∧ a' ≤ a + 60000) ?_ ⟨s, [], _, bb + 1, rfl, bS, by rw [wi64 (by omega) (by omega)]; omega, by rw [wi64 (by omega) (by omega)]; omega, by rw [wi64 (by omega) (by omega)]; simp only [jC]; omega, by rw [wi64 (by omega) (by omega)]; omega, by omega, by rw [wi64 (by omega) (by omega)]; omega⟩ (by simp only; rw [wi64 (by omega) (by omega)]; omega) ?_
 ·rintro _ ⟨s, L, n, a', rfl, bs, k1, k2, k3, k4, k5, k6⟩
  simp only [qFw]
  by_cases hn : n > 0
  ·rw [if_pos (by simpa using hn)]
   refine Ok.assoc (Ok.decl (by omega) (by omega) (by omega) fun a2 d v1 v2 v3 => ?_)
   refine Ok.assoc (zFy (y := ((l, a2), d)) v3 hN fun hd => ?_)
   dsimp only
   refine Ok.assoc (Ok.bind (P := fun o : Bool × List Int × Int => o.2.1 = l ∧ a2 ≤ o.2.2 ∧ o.2.2 ≤ a2 + 1) (Ok.has (by omega) (by omega) fun b => Ok.ite (fun _ => Ok.mk ⟨rfl, by simp only; omega, by simp only; omega⟩) fun _ => Ok.chance (by omega) (by omega) (by omega) (by omega) fun c => Ok.mk ⟨rfl, by simp only; omega, by simp only; omega⟩) fun o9 h9 => ?_)
   obtain ⟨b9, l9, a9⟩ := o9
   obtain ⟨rfl, w1, w2⟩ := h9
   dsimp only at w1 w2 ⊢
   refine Ok.iteb (fun _ => ?_) fun _ => ?_
   ·refine Ok.assoc (Ok.app (by simp only [jA, jC]; omega) (by decide) ?_)
    refine Ok.assoc (Ok.catE (by omega) fun t3 f3 b3 => Ok.someb (Ok.mk ?_))
    dsimp only
    rw [wi64 (by omega) (by omega)]
    exact ⟨⟨t3, _, _, _, rfl, bs.app b3, by omega, by omega, by simp only [jJ, jA, jC]; omega, by omega, by omega, by omega⟩, by omega⟩
   ·refine Ok.someb (Ok.mk ?_)
    dsimp only
    rw [wi64 (by omega) (by omega)]
    exact ⟨⟨s, _, _, _, rfl, bs, by omega, by omega, by omega, by omega, by omega, by omega⟩, by omega⟩
  ·rw [if_neg (by simpa using hn)]
   exact Ok.mk ⟨s, a', rfl, bs, by omega, k5, by omega⟩
 rintro _ ⟨s, b2, rfl, bT, u1, u2, u3⟩
 dsimp only
 refine Ok.chance (by omega) (by omega) (by omega) (by omega) fun c => ?_
 dsimp only
 refine Ok.iteb (fun _ => ?_) fun _ => ?_
 ·refine Ok.assoc (Ok.oneS (by omega) (by omega) (by decide) fun x hx => ?_)
  dsimp only
  refine Ok.assoc (Ok.catE (by omega) fun t f1 b1 => Ok.someb (Ok.mk ?_))
  dsimp only
  exact ⟨_, _, rfl, by omega, by omega, by omega, bT.app b1⟩
 ·refine Ok.someb (Ok.mk ?_)
  dsimp only
  exact ⟨_, _, rfl, by omega, by omega, by omega, bT⟩
end
end
section
open Go Go.Dc
theorem zFb {s : ByteArray} {i j : Nat} {r : List UInt8} (h : (s.data.toList.drop i).take (j - i) = r) : s.extract i j = ⟨⟨r⟩⟩ :=
 ByteArray.ext (Array.ext' (by simp only [ByteArray.data_extract, gB, kM]; exact h))
theorem qQm {s : ByteArray} {k i j e : Nat} (h1 : tw (inK [5]) s.data.toList i = j) (h2 : j ≠ s.data.toList.length) (h3 : kd (s.data.toList.getD j 0) = 1) (h4 : tw (inK [1, 2, 3]) s.data.toList j = e) (h5 : e - j ≤ 24)
  {ts : List Tok} (h : tokG (k + 1) s i = .inr ts) : ∃ r, ts = (1, s.extract j e, 0, (j : Int)) :: r ∧ tokG k s e = .inr r := by
 unfold tokG at h
 rw [h1, if_neg h2, if_neg (by rw [h3]; decide)] at h
 have et : tokP s j = ((1, s.extract j e, 0, 0), (e : Int), 0) := by
  unfold tokP; rw [if_pos h3, h4, if_neg (by omega)]
 rw [et] at h
 simp only [ne_eq, not_true_eq_false, jM, kE] at h
 cases ht : tokG k s e with
 | inl x => rw [ht] at h; cases h
 | inr r => rw [ht] at h; cases h; exact ⟨r, rfl, rfl⟩
theorem zGp {s : ByteArray} {k i j e : Nat} (h1 : tw (inK [5]) s.data.toList i = j) (h2 : j ≠ s.data.toList.length) (h3 : kd (s.data.toList.getD j 0) = 6) (h4 : tw qHy s.data.toList j = e) : tokG (k + 1) s i = tokG k s e := by
 rw [tokG, h1, if_neg h2, if_pos h3, h4]
def pkgL : List ByteArray := [(⟨#[112]⟩ : ByteArray), (⟨#[113]⟩ : ByteArray), (⟨#[115]⟩ : ByteArray)]
theorem hd_tok {c : UInt8} (hc : c = 112 ∨ c = 113 ∨ c = 115) {s : ByteArray} {R : List UInt8} (hl : s.data.toList = 112 :: 97 :: 99 :: 107 :: 97 :: 103 :: 101 :: 32 :: c :: 59 :: 10 :: R) {k : Nat} {ts : List Tok} (h : tokG (k + 1 + 1) s 0 = .inr ts) : (tkAt ts 1).2.1 = ⟨#[c]⟩ := by
 have hn : s.data.toList.length = R.length + 11 := by rw [hl]; rfl
 obtain ⟨r, rfl, g⟩ := qQm (j := 0) (e := 7) (by rw [hl]; rfl) (by omega) (by rw [hl]; rfl) (by rw [hl]; rfl) (by decide) h
 have h5 : tw (inK [1, 2, 3]) s.data.toList 8 = 9 := by rw [hl]; rcases hc with rfl | rfl | rfl <;> rfl
 have h6 : tw (inK [5]) s.data.toList 7 = 8 := by rw [hl]; rcases hc with rfl | rfl | rfl <;> rfl
 have h7 : kd (s.data.toList.getD 8 0) = 1 := by rw [hl]; rcases hc with rfl | rfl | rfl <;> rfl
 obtain ⟨r, rfl, -⟩ := qQm (j := 8) (e := 9) h6 (by omega) h7 h5 (by decide) g
 show s.extract 8 9 = _
 exact zFb (by rw [hl]; rfl)
theorem zGa {c : UInt8} (hc : c = 112 ∨ c = 113 ∨ c = 115) {s : ByteArray} {R : List UInt8} (hl : s.data.toList = 35 :: 32 :: 97 :: 32 :: 99 :: 111 :: 109 :: 109 :: 101 :: 110 :: 116 :: 10 :: 112 :: 97 :: 99 :: 107 :: 97 :: 103 :: 101 :: 32 :: c :: 59 :: 10 :: R) {k : Nat} {ts : List Tok} (h : tokG (k + 1 + 1 + 1) s 0 = .inr ts) : (tkAt ts 1).2.1 = ⟨#[c]⟩ := by
 have hn : s.data.toList.length = R.length + 23 := by rw [hl]; rfl
 rw [zGp (j := 0) (e := 11) (by rw [hl]; rfl) (by omega) (by rw [hl]; rfl) (by rw [hl]; rfl)] at h
 obtain ⟨r, rfl, g⟩ := qQm (j := 12) (e := 19) (by rw [hl]; rfl) (by omega) (by rw [hl]; rfl) (by rw [hl]; rfl) (by decide) h
 have h5 : tw (inK [1, 2, 3]) s.data.toList 20 = 21 := by rw [hl]; rcases hc with rfl | rfl | rfl <;> rfl
 have h6 : tw (inK [5]) s.data.toList 19 = 20 := by rw [hl]; rcases hc with rfl | rfl | rfl <;> rfl
 have h7 : kd (s.data.toList.getD 20 0) = 1 := by rw [hl]; rcases hc with rfl | rfl | rfl <;> rfl
 obtain ⟨r, rfl, -⟩ := qQm (j := 20) (e := 21) h6 (by omega) h7 h5 (by decide) g
 show s.extract 20 21 = _
 exact zFb (by rw [hl]; rfl)
theorem zGk {pk s : ByteArray} (hp : pk ∈ pkgL) (hb : Beg pk s) {k : Nat} {ts : List Tok} (h : tokG (k + 3) s 0 = .inr ts) : (tkAt ts 1).2.1 = pk := by
 obtain ⟨c, hc, rfl⟩ : ∃ c : UInt8, (c = 112 ∨ c = 113 ∨ c = 115) ∧ pk = ⟨#[c]⟩ := by
  simp only [pkgL, jI, kY, or_false] at hp
  rcases hp with rfl | rfl | rfl
  ·exact ⟨112, .inl rfl, rfl⟩
  ·exact ⟨113, .inr (.inl rfl), rfl⟩
  ·exact ⟨115, .inr (.inr rfl), rfl⟩
 rcases hb with ⟨R, hb⟩ | ⟨R, hb⟩
 ·have e : hdB ⟨#[c]⟩ = [112, 97, 99, 107, 97, 103, 101, 32, c, 59, 10] := by simp [hdB]
  rw [e] at hb
  exact hd_tok (k := k + 1) hc hb h
 ·have e : comB ⟨#[c]⟩ = [35, 32, 97, 32, 99, 111, 109, 109, 101, 110, 116, 10, 112, 97, 99, 107, 97, 103, 101, 32, c, 59, 10] := by simp [comB]
  rw [e] at hb
  exact zGa hc hb h
theorem zGq {pk s : ByteArray} (hb : Beg pk s) : 2 ≤ s.data.toList.length := by
 rcases hb with ⟨R, hb⟩ | ⟨R, hb⟩ <;> rw [hb] <;> simp [hdB, comB] <;> omega
def zzB : ByteArray := ⟨#[122, 122]⟩
theorem zEl {ts : List Tok} {f : Sr} (h : qUp ts = .inr f) : f.1 = (tkAt ts 1).2.1 := by
 unfold qUp at h
 obtain ⟨i, h1, g1⟩ := qBm h
 obtain ⟨a, h2, g2⟩ := qBm g1
 obtain ⟨j, -, g3⟩ := qBm g2
 obtain ⟨b, -, g4⟩ := qBm g3
 obtain ⟨l, -, g5⟩ := qBm g4
 clear h g1 g2 g3 g4
 have hi : i = 1 := by
  unfold qQy at h1
  split at h1
  ·cases h1; rfl
  ·cases h1
 subst hi
 have ha : a.2 = tkAt ts 1 := by
  unfold qOt at h2
  obtain ⟨x, h3, h4⟩ := qBm h2
  have hx : x.2 = tkAt ts 1 := by
   unfold qOb at h3
   split at h3
   ·cases h3; rfl
   ·cases h3
  split at h4
  ·cases h4
  ·cases h4; exact hx
 cases g5
 show a.2.2.1 = _
 rw [ha]
theorem zGi {pk s : ByteArray} (hp : pk ∈ pkgL) (hb : Beg pk s) : (qHu s).1.1 ≠ zzB := by
 have he : (⟨#[]⟩ : ByteArray) ≠ zzB := by decide
 have hpz : pk ≠ zzB := by
  intro e; subst e; revert hp; decide
 have key : (tkAt (qFq s).1 1).2.1 ≠ zzB := by
  unfold qFq
  split
  ·exact he
  ·cases h : tokG (s.data.toList.length + 1) s 0 with
   | inl x => exact he
   | inr r =>
    obtain ⟨k, hk⟩ : ∃ k, s.data.toList.length + 1 = k + 3 := ⟨s.data.toList.length - 2, by have := zGq hb; omega⟩
    rw [hk] at h
    have := zGk hp hb h
    show (tkAt r 1).2.1 ≠ _
    rw [this]; exact hpz
 unfold qHu
 split
 ·exact he
 ·cases hf : qUp (qFq s).1 with
  | inl z => exact he
  | inr f => show f.1 ≠ _; rw [zEl hf]; exact key
end
section
open Go Go.Dc
def MadeB (L : List File) : Prop := Made L ∧ ∀ f ∈ L, f.1 ∈ datL ∨ ∃ pk ∈ pkgL, Beg pk f.2
theorem MadeB.put {L : List File} (h : MadeB L) {p b : ByteArray} (hp : p ∈ srcL ++ datL) (hb : b.size ≤ 4700) (hg : p ∈ datL ∨ ∃ pk ∈ pkgL, Beg pk b) : MadeB (fput L p b) :=
 ⟨h.1.put hp hb, fun f hf => by
  rcases qOv hf with rfl | hf
  ·exact hg
  ·exact h.2 f hf⟩
theorem zEo {x : ByteArray} (h : x ∈ pkgL) : x.size ≤ 12 := by
 have h2 : (pkgL.all fun x => decide (x.size ≤ 12)) = true := by decide
 exact kT (jK.1 h2 x h)
theorem qVr {N : Nat} {l : List Int} {a : Int} (hN : 3000 < N) (h0 : 0 ≤ a) (h1 : a < 10000000000000000) : Ok (qEs N (l, a)) fun y => ∃ a' L, y = ((l, a'), L) ∧ a ≤ a' ∧ a' ≤ a + 1000000 ∧ MadeB L ∧ L.length ≤ 7 := by
 simp only [qEs, qGo]
 refine Ok.someb ?_
 show Ok ((qBe (qDn N srcL) N (0, [], l, a)).bind _) _
 refine Ok.loop (fun st => ∃ (n : Nat) (L : List File) (a' : Int), st = ((n : Int), L, l, a') ∧ n ≤ 4 ∧ L.length ≤ n ∧ MadeB L ∧ a ≤ a' ∧ a' ≤ a + 100010 * n) (fun st => 4 - st.1.toNat) (fun b => ∃ L a', b = (L, l, a') ∧ L.length ≤ 4 ∧ MadeB L ∧ a ≤ a' ∧ a' ≤ a + 500000) ?_ ⟨0, [], a, rfl, by omega, by simp, ⟨⟨List.Pairwise.nil, by simp⟩, by simp⟩, by omega, by omega⟩ (by dsimp only; omega) ?_
 ·rintro _ ⟨n, L, a', rfl, k1, k2, k3, k4, k5⟩
  rw [zEc]
  have hlen : srcL.length = 4 := rfl
  dsimp only
  by_cases hn : n < 4
  ·rw [if_pos (by simp only [j9, hlen]; omega), qGl (l := srcL) (by omega)]
   refine Ok.assoc (Ok.someb ?_)
   refine Ok.assoc (Ok.chance (by omega) (by omega) (by omega) (by omega) fun c => ?_)
   dsimp only
   refine Ok.iteb (fun _ => ?_) fun _ => ?_
   ·refine Ok.assoc (Ok.someb ?_)
    refine Ok.assoc (Ok.one (by omega) (by omega) (by decide) (by decide) fun x hx => ?_)
    dsimp only
    refine Ok.assoc (Ok.bind (zAj hN (by omega) (by omega) (zEo hx)) ?_)
    rintro _ ⟨a2, s, rfl, v1, v2, v3, v4⟩
    dsimp only
    rw [qVp _ _ (by omega) k3.1.1 (by omega)]
    refine Ok.assoc (Ok.someb (Ok.someb (Ok.mk ?_)))
    dsimp only
    have hf := qMp L (srcL[n]) s
    refine ⟨⟨n + 1, _, _, by rw [wi64 (by omega) (by omega)]; rfl, by omega, by omega, k3.put (kQ _ (kC _)) v3 (.inr ⟨_, hx, v4⟩), by omega, by omega⟩, ?_⟩
    rw [wi64 (by omega) (by omega)]; omega
   ·refine Ok.someb (Ok.mk ?_)
    dsimp only
    refine ⟨⟨n + 1, _, _, by rw [wi64 (by omega) (by omega)]; rfl, by omega, by omega, k3, by omega, by omega⟩, ?_⟩
    rw [wi64 (by omega) (by omega)]; omega
  ·rw [if_neg (by simp only [j9, hlen]; omega)]
   exact Ok.mk ⟨L, a', rfl, by omega, k3, by omega, by omega⟩
 rintro _ ⟨L1, a1, rfl, u1, u2, u3, u4⟩
 dsimp only
 refine Ok.loop (fun st => ∃ (n : Nat) (L : List File) (a' : Int), st = ((n : Int), L, l, a') ∧ n ≤ 3 ∧ L.length ≤ 4 + n ∧ MadeB L ∧ a ≤ a' ∧ a' ≤ a + 500000 + 20 * n) (fun st => 3 - st.1.toNat) (fun b => ∃ L a', b = (L, l, a') ∧ L.length ≤ 7 ∧ MadeB L ∧ a ≤ a' ∧ a' ≤ a + 600000) ?_ ⟨0, L1, a1, rfl, by omega, by omega, u2, by omega, by omega⟩ (by dsimp only; omega) ?_
 ·rintro _ ⟨n, L, a', rfl, k1, k2, k3, k4, k5⟩
  rw [zDh]
  have hlen : datL.length = 3 := rfl
  dsimp only
  by_cases hn : n < 3
  ·rw [if_pos (by simp only [j9, hlen]; omega), qGl (l := datL) (by omega)]
   refine Ok.assoc (Ok.someb ?_)
   refine Ok.assoc (Ok.chance (by omega) (by omega) (by omega) (by omega) fun c => ?_)
   dsimp only
   refine Ok.iteb (fun _ => ?_) fun _ => ?_
   ·refine Ok.assoc (Ok.bind (zGx (by omega) (by omega) (by omega)) ?_)
    rintro _ ⟨a2, s, rfl, v1, v2, v3⟩
    dsimp only
    rw [qVp _ _ (by omega) k3.1.1 (by omega)]
    refine Ok.assoc (Ok.someb (Ok.someb (Ok.mk ?_)))
    dsimp only
    have hf := qMp L (datL[n]) s
    refine ⟨⟨n + 1, _, _, by rw [wi64 (by omega) (by omega)]; rfl, by omega, by omega, k3.put (gN _ (kC _)) (by omega) (.inl (kC _)), by omega, by omega⟩, ?_⟩
    rw [wi64 (by omega) (by omega)]; omega
   ·refine Ok.someb (Ok.mk ?_)
    dsimp only
    refine ⟨⟨n + 1, _, _, by rw [wi64 (by omega) (by omega)]; rfl, by omega, by omega, k3, by omega, by omega⟩, ?_⟩
    rw [wi64 (by omega) (by omega)]; omega
  ·rw [if_neg (by simp only [j9, hlen]; omega)]
   exact Ok.mk ⟨L, a', rfl, by omega, k3, by omega, by omega⟩
 rintro _ ⟨L2, a2, rfl, w1, w2, w3, w4⟩
 refine Ok.mk ?_
 exact ⟨a2, L2, rfl, by omega, by omega, w2, w1⟩
end
section
open Go Go.Dc
theorem qNo {N : Nat} {L : List File} {p : ByteArray} (hl : L.length < 1000000) : ∀ (d i M : Nat) (acc : List File), i + d = L.length → d < M → acc.length ≤ i → qBe (qCs N L p) M ((i : Int), acc) = some (acc ++ fdel (L.drop i) p)
 | _, _, 0, _, _, h, _ => by omega
 | 0, i, M + 1, acc, hd, _, _ => by
  simp only [qBe, qCs]
  rw [if_neg (by simp only [j9]; omega), jS (by omega)]
  simp [fdel]
 | d + 1, i, M + 1, acc, hd, hM, hacc => by
  have hi : i < L.length := by omega
  simp only [qBe, qCs]
  rw [if_pos (by simp only [j9]; omega), qGl hi, jH hi]
  have e1 : (i : Int) + 1 = ((i + 1 : Nat) : Int) := by omega
  simp only [j0, eqB]
  unfold fdel
  rw [kH, wi64 (by omega) (by omega), e1]
  by_cases he : (L[i]).1 = p
  ·rw [if_neg (by simp [he]), if_neg (by simp [he])]
   simp only [j0]
   exact qNo hl d (i + 1) M acc (by omega) (by omega) (by omega)
  ·rw [if_pos (by simp [he]), if_pos (by simp [he]), qBv (by simp only [jA, jC]; omega) (by omega)]
   simp only [j0]
   rw [qNo hl d (i + 1) M _ (by omega) (by omega) (by simp; omega)]
   simp [fdel]
theorem zAh {N : Nat} {L : List File} (p : ByteArray) (hl : L.length < 1000000) (hN : L.length < N) : qEy N L p = some (fdel L p) := by
 have := qNo (N := N) (L := L) (p := p) hl L.length 0 N [] (by omega) hN (gU _)
 rw [show ((0 : Nat) : Int) = 0 from rfl, k0, jV] at this
 simp only [qEy, this, j0]
theorem qOz {N : Nat} {L : List File} {p b : ByteArray} (hl : L.length < 1000000) : ∀ (d i M : Nat) (done : Bool) (acc : List File), i + d = L.length → d < M → acc.length ≤ i + done.toNat → (done = false → fget (L.drop i) p = none) →
  ∃ o : Bool × List File, qBe (qDs N L (p, b)) M (done, (i : Int), acc) = some o ∧ o.2.length ≤ L.length + 1 ∧ (if o.1 = true then o.2 else o.2 ++ [(p, b)]) = acc ++ (if done = true then L.drop i else fput (L.drop i) p b)
 | _, _, 0, _, _, _, h, _, _ => by omega
 | 0, i, M + 1, done, acc, hd, _, hacc, _ => by
  refine ⟨(done, acc), ?_, by simp only; cases done <;> simp only [Bool.toNat_true, fE] at hacc <;> omega, ?_⟩
  ·simp only [qBe, qDs]
   rw [if_neg (by simp only [j9]; omega)]
   rfl
  ·rw [jS (by omega)]
   cases done <;> simp [fput]
 | d + 1, i, M + 1, done, acc, hd, hM, hacc, hno => by
  have hi : i < L.length := by omega
  have e1 : (i : Int) + 1 = ((i + 1 : Nat) : Int) := by omega
  simp only [qBe, qDs]
  rw [if_pos (by simp only [j9]; omega), qGl hi, wi64 (by omega) (by omega), e1]
  rw [jH hi] at hno ⊢
  simp only [j0]
  cases done with
  | true =>
   simp only [Bool.toNat_true] at hacc
   obtain ⟨o, h1, h2, h3⟩ := qOz (N := N) (p := p) (b := b) hl d (i + 1) M true (acc ++ [((L[i]).1, (L[i]).2)]) (by omega) (by omega) (by simp; omega) (fun h => by cases h)
   refine ⟨o, ?_, h2, ?_⟩
   ·simp only [kZ, jB, jM, j0]
    rw [qBv (by simp only [jA, jC]; omega) (by omega)]
    simp only [j0]
    exact h1
   ·rw [h3]; simp only [jP, kD, kI, jV]
  | false =>
   simp only [fE] at hacc
   have hno := hno rfl
   simp only [fget] at hno
   have hne : ¬ (L[i]).1 = p := by intro h; rw [if_pos h] at hno; cases hno
   rw [if_neg hne] at hno
   simp only [kS, jP, j0]
   by_cases hb : blt p (L[i]).1 = true
   ·have hb' : Op.bytesLess p.toList (L[i]).1.toList = true := hb
    obtain ⟨o, h1, h2, h3⟩ := qOz (N := N) (p := p) (b := b) hl d (i + 1) M true ((acc ++ [(p, b)]) ++ [((L[i]).1, (L[i]).2)]) (by omega) (by omega) (by simp; omega) (fun h => by cases h)
    refine ⟨o, ?_, h2, ?_⟩
    ·rw [hb', if_pos rfl, qBv (by simp only [jA, jC]; omega) (by omega)]
     simp only [j0]
     rw [qBv (by simp only [jJ, jA, jC]; omega) (by omega)]
     simp only [j0]
     exact h1
    ·have g3 : fput (L[i] :: L.drop (i + 1)) p b = (p, b) :: L[i] :: L.drop (i + 1) := by rw [fput, if_pos hb]
     rw [h3, g3]; simp only [jP, kD, kI, jV, jB, jM]
   ·have hb' : Op.bytesLess p.toList (L[i]).1.toList = false := by
     cases hq : Op.bytesLess p.toList (L[i]).1.toList with
     | false => rfl
     | true => exact absurd hq hb
    obtain ⟨o, h1, h2, h3⟩ := qOz (N := N) (p := p) (b := b) hl d (i + 1) M false (acc ++ [((L[i]).1, (L[i]).2)]) (by omega) (by omega) (by simp; omega) (fun _ => hno)
    refine ⟨o, ?_, h2, ?_⟩
    ·rw [hb', if_neg (by simp)]
     simp only [j0]
     rw [qBv (by simp only [jA, jC]; omega) (by omega)]
     simp only [j0]
     exact h1
    ·have g3 : fput (L[i] :: L.drop (i + 1)) p b = L[i] :: fput (L.drop (i + 1)) p b := by rw [fput, if_neg hb, if_neg hne]
     rw [h3, g3]; simp only [kD, kI, jV, jB, jM]
theorem zFu {N : Nat} {L : List File} (p b : ByteArray) (hl : L.length < 1000000) (hN : L.length < N) (hno : fget L p = none) : qGa N L (p, b) = some (fput L p b) := by
 obtain ⟨o, h1, h2, h3⟩ := qOz (N := N) (L := L) (p := p) (b := b) hl L.length 0 N false [] (by omega) hN (by simp) (fun _ => by rw [k0]; exact hno)
 simp only [qGa]
 rw [show ((0 : Nat) : Int) = 0 from rfl] at h1
 rw [h1]
 simp only [k0, jV, jB, jM] at h3
 simp only [j0]
 cases ho : o.1 with
 | true => rw [ho] at h3; simp only [jP] at h3; simp [h3]
 | false =>
  rw [ho] at h3
  simp only [jB, jM] at h3
  simp only [kS, jP]
  rw [qBv (by simp only [jA, jC]; omega) (by omega), h3]
  rfl
theorem zDo {L : List File} (ha : Asc L) (p b : ByteArray) : fput (fdel L p) p b = fput L p b :=
 Asc.ext ((ha.del p).put p b) (ha.put p b) fun q => by
  rw [qTv (ha.del p), qTv ha, qYy]
  by_cases h : p = q
  ·rw [if_pos h, if_pos h]
  ·rw [if_neg h, if_neg h, if_neg h]
theorem qUi (L : List File) (p : ByteArray) : fget (fdel L p) p = none := by rw [qYy, if_pos rfl]
def putP (L : List File) (p b : ByteArray) : List File × Int :=
 if qJd L ≠ 0 then ([], qJd L) else if qGu p.data.toList = false then ([], 6) else if 16384 < b.size ∨ 64 < (fput L p b).length then ([], 2) else (fput L p b, 0)
theorem qXc {N : Nat} {L : List File} (p b : ByteArray) (hN : 100 < N) : qFn N L p b = some (putP L p b) := by
 simp only [qFn, qXn hN, j0]
 unfold putP
 by_cases hc : qJd L = 0
 ·have hw := qJu.1 hc
  have hlen := hw.1
  rw [if_neg (by simp [hc]), if_neg (by simp [hc]), qTa hN]
  simp only [j0]
  by_cases hb : qGu p.data.toList = false
  ·rw [if_pos (by simp [hb]), if_pos hb]
  have hb' : qGu p.data.toList = true := by simpa using hb
  rw [if_neg (by simp [hb']), if_neg hb, zAh p (by omega) (by omega)]
  simp only [j0]
  have hdl := List.length_filter_le (fun f : File => decide (f.1 ≠ p)) L
  have hdl : (fdel L p).length ≤ L.length := hdl
  rw [zFu p b (by omega) (by omega) (qUi L p), zDo hw.2.1]
  simp only [j0]
  by_cases h16 : 16384 < b.size
  ·rw [if_pos (by simp only [j9]; omega), if_pos (.inl h16)]
   rfl
  rw [if_neg (by simp only [j9]; omega)]
  simp only [j0, j9]
  by_cases h64 : 64 < (fput L p b).length
  ·rw [if_pos (by omega), if_pos (.inr h64)]
  ·rw [if_neg (by omega), if_neg (by omega)]
 ·rw [if_pos (by simpa using hc), if_pos hc]
end
section
open Go Go.Dc Go.Proofs
theorem qVq {path pkg : ByteArray} {o : Occ} : ∀ (l : List Dl) (i : Nat), o ∈ qSf path pkg i l → o.1 = pkg
 | [], _, h => by cases h
 | d :: l, i, h => by
  rcases jI.1 h with rfl | h
  ·rfl
  ·exact qVq l _ h
theorem qXd {L : List File} {o : Occ} (h : o ∈ qKj (qHi L)) : ∃ f ∈ L, qSd f = true ∧ o.1 = (qHu f.2).1.1 := by
 unfold qKj at h
 obtain ⟨x, hx, h⟩ := List.mem_flatMap.1 h
 obtain ⟨f, hf, hg, rfl⟩ := qVg hx
 exact ⟨f, hf, hg, qVq _ _ h⟩
def fB : ByteArray := ⟨#[102]⟩
theorem qYt {O : List Occ} (h : ∀ o ∈ O, o.1 ≠ zzB) (e : Ent) : O.foldl (seeE 1 zzB fB) e = e := by
 induction O generalizing e with
 | nil => rfl
 | cons o O ih =>
  have h1 : seeE 1 zzB fB e o = e := by
   unfold seeE
   rw [if_neg]
   intro hk
   obtain ⟨e1, -, e3⟩ := qYo (show keyC o.2.2.1 o.1 o.2.1 = keyC 1 zzB fB from hk)
   rcases e3 with e3 | e3
   ·rw [e1] at e3; exact absurd e3 (by decide)
   ·exact h o (jL ..) e3
  rw [kN, h1]
  exact ih (fun o ho => h o (jO _ ho)) e
theorem qSq {p b : ByteArray} : ∀ {L : List File}, (∀ f ∈ L, f.1 ≠ p) → ∃ A B, L = A ++ B ∧ fput L p b = A ++ (p, b) :: B
 | [], _ => ⟨[], [], rfl, rfl⟩
 | f :: L, h => by
  unfold fput
  by_cases h1 : blt p f.1 = true
  ·rw [if_pos h1]; exact ⟨[], f :: L, rfl, rfl⟩
  ·rw [if_neg h1, if_neg (h f (jL ..))]
   obtain ⟨A, B, e1, e2⟩ := qSq (p := p) (b := b) (L := L) fun g hg => h g (jO _ hg)
   exact ⟨f :: A, B, by rw [e1]; rfl, by rw [e2]; rfl⟩
theorem qWy (A B : List File) : qHi (A ++ B) = qHi A ++ qHi B := by unfold qHi; rw [List.filter_append, List.map_append]
theorem qWn (A B : List (ByteArray × Sr)) : qKj (A ++ B) = qKj A ++ qKj B := by unfold qKj; exact List.flatMap_append
def zzP : ByteArray := ⟨#[122, 122, 46, 115, 114, 99]⟩
def zzS : ByteArray := ⟨#[112, 97, 99, 107, 97, 103, 101, 32, 122, 122, 59, 32, 102, 117, 110, 99, 32, 102, 40, 41, 32, 61, 32, 49, 59]⟩
theorem zGb : qKj (qHi [(zzP, zzS)]) = [(zzB, fB, 1, zzP, 0)] := by kernel_rfl
theorem zGu {L : List File} (hz : ∀ f ∈ L, f.1 ≠ zzP) (h : ∀ f ∈ L, qSd f = true → (qHu f.2).1.1 ≠ zzB) (hc : qJd (fput L zzP zzS) = 0) : qHo (fput L zzP zzS) 1 zzB fB = (zzB, fB, 1, zzP, 0, 1) := by
 unfold qHo
 rw [if_pos hc]
 obtain ⟨A, B, rfl, e⟩ := qSq (b := zzS) hz
 rw [e, qWy, show (zzP, zzS) :: B = [(zzP, zzS)] ++ B from rfl, qWy, qWn, qWn, zGb]
 unfold entE
 rw [gP, gP]
 have hA : ∀ o ∈ qKj (qHi A), o.1 ≠ zzB := fun o ho => by
  obtain ⟨f, hf, hg, e⟩ := qXd ho
  rw [e]; exact h f (kQ _ hf) hg
 have hB : ∀ o ∈ qKj (qHi B), o.1 ≠ zzB := fun o ho => by
  obtain ⟨f, hf, hg, e⟩ := qXd ho
  rw [e]; exact h f (gN _ hf) hg
 rw [qYt hA, qYt hB]
 decide
theorem zGs : (datL.all fun p => !(qIe p)) = true := by kernel_rfl
theorem zz_no : ((srcL ++ datL).all fun p => !(decide (p = zzP))) = true := by kernel_rfl
theorem MadeB.good {L : List File} (h : MadeB L) : (∀ f ∈ L, f.1 ≠ zzP) ∧ ∀ f ∈ L, qSd f = true → (qHu f.2).1.1 ≠ zzB := by
 refine ⟨fun f hf e => ?_, fun f hf hg => ?_⟩
 ·have := jK.1 zz_no _ (h.1.2 f hf).1
  rw [e] at this
  exact absurd this (by decide)
 ·rcases h.2 f hf with h | ⟨pk, hp, hb⟩
  ·have := jK.1 zGs _ h
   unfold qSd at hg
   simp only [jN] at hg
   rw [hg.1] at this
   cases this
  ·exact zGi hp hb
theorem zEv {L : List File} {p b : ByteArray} (hw : WF L) (hl : L.length < 64) (hp : qGu p.data.toList = true) (hb : b.size ≤ 16384) : putP L p b = (fput L p b, 0) := by
 have hf := qMp L p b
 unfold putP
 rw [if_neg (by rw [qJu.2 hw]; simp), if_neg (by simp [hp]), if_neg (by omega)]
theorem zFa {L : List File} {p b : ByteArray} (hw : WF L) (hl : L.length < 64) (hp : qGu p.data.toList = true) (hb : b.size ≤ 16384) : WF (fput L p b) := hw.put hp hb (by have := qMp L p b; omega)
theorem qYc : ((qBr 0).getD []).all (fun p => qGu p.data.toList) = true := by kernel_rfl
theorem zFo : qUq fB = true := by kernel_rfl
theorem qUf : qGu zzP.data.toList = true := by kernel_rfl
theorem testgatelaw09_ResolveHides_true (l : List Int) (_gl : l.length * 8 ≤ reachBytes ∧ ∀ x ∈ l, (Lit.int .i64 x).wf = true) (bytes : ByteArray) (_gb : bytes.size ≤ reachBytes) : ∃ N, qDb N l bytes = some true := by
 refine ⟨4000000, ?_⟩
 have key : Ok (qDb 4000000 l bytes) fun b => b = true := by
  unfold qDb
  refine Ok.bind (qVr (l := l) (a := 0) (by decide) (by decide) (by decide)) ?_
  rintro _ ⟨a1, L, rfl, u1, u2, u3, u4⟩
  dsimp only
  refine Ok.bind (P := fun b : ByteArray => b.size ≤ 50) ?_ fun b hb => ?_
  ·refine Ok.ite (fun h => ?_) fun h => Ok.mk (by simp only [j9] at h; omega)
   simp only [j9] at h
   rw [qNj (by omega) (by omega) (by omega)]
   exact Ok.mk (by simp only [ByteArray.size_extract]; omega)
  have hF : qBr 4000000 = qBr 0 := rfl
  rw [hF]
  cases hf : qBr 0 with
  | none => simp [qBr] at hf
  | some F =>
   have hn := qYc
   rw [hf] at hn
   have hFl : F.length = 5 := by
    have := congrArg (fun o : Option (List ByteArray) => (o.getD []).length) hf
    exact this.symm
   simp only [j0]
   refine Ok.one (by omega) (by omega) (by omega) (by omega) fun p hp => ?_
   have hpp : qGu p.data.toList = true := jK.1 hn p hp
   have hps := qWw hpp
   dsimp only
   have hw : WF L := u3.1.wf (by omega)
   refine Ok.bind (P := fun y => y = (fput L p b, 0)) ⟨_, (qXc p b (by decide)).trans (congrArg some (zEv hw (by omega) hpp (by omega))), rfl⟩ ?_
   rintro _ rfl
   dsimp only
   have hw2 := zFa (p := p) (b := b) hw (by omega) hpp (by omega)
   have hE : MadeE 4700 (fput L p b) := u3.1.e.put hpp (by omega)
   have hd := zAy (N := 4000000) (L := fput L p b) (path := p) (qTo hE (by decide)) (qRq (by omega) (by omega)) (by decide)
   have hdp : zBt (fput L p b) p = (1, qPn, [(4, p, qHk)], 0) := by
    unfold zBt
    rw [if_pos ⟨qJu.2 hw2, hpp⟩, qTv hw.2.1, if_pos rfl]
   refine Ok.bind (P := fun y => y = (1, qPn, [(4, p, qHk)], 0)) ⟨_, hd.trans (congrArg some hdp), rfl⟩ ?_
   rintro _ rfl
   dsimp only
   refine Ok.bind (P := fun o => o = false) ⟨false, rfl, rfl⟩ ?_
   rintro _ rfl
   rw [if_neg kO]
   obtain ⟨z1, z2⟩ := u3.good
   have hw3 := zFa (p := zzP) (b := zzS) hw (by omega) qUf (by decide)
   refine Ok.bind (P := fun y => y = (fput L zzP zzS, 0)) ⟨_, (qXc zzP zzS (by decide)).trans (congrArg some (zEv hw (by omega) qUf (by decide))), rfl⟩ ?_
   rintro _ rfl
   dsimp only
   have hE3 : MadeE 4700 (fput L zzP zzS) := u3.1.e.put qUf (by decide)
   have hcall := zBi (N := 4000000) (L := fput L zzP zzS) (f := (zzB, [(⟨#[112]⟩ : ByteArray), (⟨#[113]⟩ : ByteArray)], [])) (name := fB) (qTo hE3 (by decide)) (show 2 < 1000 by decide) (by decide)
   have hcp : qZs (fput L zzP zzS) zzB [(⟨#[112]⟩ : ByteArray), (⟨#[113]⟩ : ByteArray)] fB = ((zzB, fB, 1, zzP, 0, 1), [(1, zzB, fB)], 0) := by
    unfold qZs
    rw [if_pos ⟨qJu.2 hw3, zFo⟩]
    unfold qXp
    rw [zGu z1 z2 (qJu.2 hw3), if_neg (by decide), if_neg (by decide)]
    rfl
   refine Ok.bind (P := fun y => y = ((zzB, fB, 1, zzP, 0, 1), [(1, zzB, fB)], 0)) ⟨_, Eq.trans hcall (congrArg some hcp), rfl⟩ ?_
   rintro _ rfl
   dsimp only
   refine Ok.bind (P := fun o => o = true) ?_ fun o ho => Ok.mk ho
   rw [if_pos (by decide), if_pos (by decide), if_pos (show (zzP.toList == (⟨#[122, 122, 46, 115, 114, 99]⟩ : ByteArray).toList) = true from beq_self_eq_true zzP.toList), if_pos (by simp), zBu (by decide)]
   exact Ok.mk rfl
 obtain ⟨b, h1, rfl⟩ := key
 exact h1
end
end Go.Proofs.YtiblcebedkllpaaDoor
