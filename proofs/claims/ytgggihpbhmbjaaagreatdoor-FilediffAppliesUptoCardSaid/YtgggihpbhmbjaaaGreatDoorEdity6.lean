/- Edited revisions. No condition. -/
import Derived.Test.YtgggihpbhmbjaaaGreatDoorMakey6
import Derived.Test.YtgggihpbhmbjaaaGreatDoorRuny6
namespace Go.Proofs.YtgggihpbhmbjaaaGreatDoor
open Go Go.Dc
def MadeE (K : Nat) (L : List File) : Prop := Asc L ∧ ∀ f ∈ L, qIp f.1.data.toList = true ∧ f.2.size ≤ K
theorem Made.e {L : List File} (h : Made L) : MadeE 4700 L := ⟨h.1, fun f hf => ⟨h.path hf, (h.2 f hf).2⟩⟩
theorem MadeE.put {K : Nat} {L : List File} (h : MadeE K L) {p b : ByteArray} (hp : qIp p.data.toList = true) (hb : b.size ≤ K) : MadeE K (fput L p b) :=
 ⟨h.1.put p b, fun f hf => by
  rcases fput_mem hf with rfl | hf
  ·exact ⟨hp, hb⟩
  ·exact h.2 f hf⟩
theorem MadeE.del {K : Nat} {L : List File} (h : MadeE K L) (p : ByteArray) : MadeE K (fdel L p) := ⟨h.1.del p, fun f hf => h.2 f (List.mem_filter.1 hf).1⟩
theorem MadeE.more {K K' : Nat} {L : List File} (h : MadeE K L) (hk : K ≤ K') : MadeE K' L := ⟨h.1, fun f hf => ⟨(h.2 f hf).1, Nat.le_trans (h.2 f hf).2 hk⟩⟩
theorem MadeE.wf {K : Nat} {L : List File} (h : MadeE K L) (hk : K ≤ 16384) (hl : L.length ≤ 64) : WF L := ⟨hl, h.1, fun f hf => ⟨(h.2 f hf).1, Nat.le_trans (h.2 f hf).2 hk⟩⟩
theorem remove_eq {N : Nat} {L : List File} {p : ByteArray} (hl : L.length < 1000000) (hN : L.length < N) : qFc N L p = some (fdel L p) := by
 have h := qIb (L := L) (fun (t : List File) i => ((i : Int), t)) (f := qDs N L p) (fun t f => (.inl (if decide (f.1 ≠ p) = true then t ++ [f] else t) : List File ⊕ List File)) (fun t => t) (fun i t => t.length ≤ i) (fun t i hi ht => by
   have hc : ((i : Int) < (L.length : Int)) := by omega
   have w : IntKind.wrap .i64 ((i : Int) + 1) = ((i + 1 : Nat) : Int) := by rw [wi64 (by omega) (by omega)]; omega
   simp only [qDs, hc, decide_true, if_true, qCe hi, Option.bind_some, w, eqB]
   by_cases hp : L[i].1 = p
   ·simp [hp]
   ·simp only [hp, decide_false, Bool.not_false, if_true, ne_eq, not_false_eq_true, decide_true]
    rw [qCn (by simp only [List.length_cons, List.length_nil]; omega) (by decide)]
    rfl) (fun t i hi t' ht hs => by
   simp only [Sum.inl.injEq] at hs
   subst hs
   split
   ·simp only [List.length_append, List.length_cons, List.length_nil]; omega
   ·omega) (fun t _ => by
   have hc : ¬ ((L.length : Int) < (L.length : Int)) := by omega
   simp only [qDs, hc, decide_false, Bool.false_eq_true, if_false]) (t := []) hN (Nat.zero_le _)
 rw [show ((0 : Nat) : Int) = 0 from rfl] at h
 have hr := run_fold (step := fun (t : List File) (f : File) => (.inl (if decide (f.1 ≠ p) = true then t ++ [f] else t) : List File ⊕ List File)) (fin := fun t => t) (fun (t : List File) (f : File) => if decide (f.1 ≠ p) = true then t ++ [f] else t) (fun _ _ => rfl) L []
 unfold qFc
 rw [h, hr]
 simp only [Option.bind_some]
 congr 1
 have : ∀ (a t : List File), a.foldl (fun t f => if decide (f.1 ≠ p) = true then t ++ [f] else t) t = t ++ fdel a p := by
  intro a
  induction a with
  | nil => intro t; simp [fdel]
  | cons x a ih =>
   intro t
   rw [List.foldl_cons, ih]
   unfold fdel
   rw [List.filter_cons]
   split <;> simp
 rw [this]; rfl
theorem fdel_le (L : List File) (p : ByteArray) : (fdel L p).length ≤ L.length := List.length_filter_le _ _
def Good (l : List Int) (a : Int) (K : Nat) (L : List File) (z : (List Int × Int) × List File) : Prop := ∃ a' L', z = ((l, a'), L') ∧ a ≤ a' ∧ a' ≤ a + 200000 ∧ MadeE (K + 900) L' ∧ L'.length ≤ L.length + 1
section
variable {N : Nat} {l : List Int} {a : Int} {K : Nat} {L : List File}
theorem edit_scan {f : Int → Option (Int ⊕ (Unit ⊕ ((List Int × Int) × List File)))} {Q : (List Int × Int) × List File → Prop} {p : ByteArray} (hl : L.length ≤ 100) (hN : 200 < N)
  (hf : ∀ j, ∀ hj : j < L.length, L[j].1 = p → Ok (f (j : Int)) fun r => ∃ z, r = .inr (.inr z) ∧ Q z) (hn : ∀ j, ∀ hj : j < L.length, ¬ L[j].1 = p → f (j : Int) = some (.inl ((j + 1 : Nat) : Int))) (he : f (L.length : Int) = some (.inr (.inl ()))) :
  Ok (qBf f N 0) fun o => o = .inl () ∨ ∃ z, o = .inr z ∧ Q z := by
 obtain ⟨b, h1, h2⟩ := loopM_ex (f := f) (fun s => ∃ j : Nat, s = (j : Int) ∧ j ≤ L.length) (fun s => L.length - s.toNat) (fun o => o = .inl () ∨ ∃ z, o = .inr z ∧ Q z) (fun s hs => by
  obtain ⟨j, rfl, hj⟩ := hs
  by_cases hlt : j < L.length
  ·by_cases hp : L[j].1 = p
   ·obtain ⟨r, h1, z, rfl, h2⟩ := hf j hlt hp
    exact .inl ⟨_, h1, .inr ⟨z, rfl, h2⟩⟩
   ·exact .inr ⟨_, hn j hlt hp, ⟨j + 1, rfl, hlt⟩, by simp only [Int.toNat_natCast]; omega⟩
  ·have : j = L.length := by omega
   subst this
   exact .inl ⟨_, he, .inl rfl⟩) N 0 ⟨0, rfl, Nat.zero_le _⟩ (by simp only [Int.toNat_zero]; omega)
 exact ⟨b, h1, h2⟩
theorem digit3 (M : Nat) : qCj (M + 1) 0 = some (⟨#[48]⟩ : ByteArray) ∧ qCj (M + 1) 1 = some (⟨#[49]⟩ : ByteArray) ∧ qCj (M + 1) 2 = some (⟨#[50]⟩ : ByteArray) := ⟨by kernel_rfl, by kernel_rfl, by kernel_rfl⟩
theorem catB_lit {x y z : ByteArray} (h : x ++ y = z) (hs : x.size + y.size ≤ 1000) : catB x y = some z := by
 unfold catB
 rw [if_pos (by simp only [maxLen]; omega), h]
theorem zpath {x : Int} (h0 : 0 ≤ x) (h1 : x < 3) {M : Nat} : ∃ s t p : ByteArray, qCj (M + 1) x = some s ∧ catB (⟨#[122]⟩ : ByteArray) s = some t ∧ catB t (⟨#[46, 115, 114, 99]⟩ : ByteArray) = some p ∧ qIp p.data.toList = true := by
 obtain ⟨d0, d1, d2⟩ := digit3 M
 have hx : x = 0 ∨ x = 1 ∨ x = 2 := by omega
 rcases hx with rfl | rfl | rfl
 ·exact ⟨_, ⟨#[122, 48]⟩, ⟨#[122, 48, 46, 115, 114, 99]⟩, d0, catB_lit (by decide +kernel) (by decide), catB_lit (by decide +kernel) (by decide), by kernel_rfl⟩
 ·exact ⟨_, ⟨#[122, 49]⟩, ⟨#[122, 49, 46, 115, 114, 99]⟩, d1, catB_lit (by decide +kernel) (by decide), catB_lit (by decide +kernel) (by decide), by kernel_rfl⟩
 ·exact ⟨_, ⟨#[122, 50]⟩, ⟨#[122, 50, 46, 115, 114, 99]⟩, d2, catB_lit (by decide +kernel) (by decide), catB_lit (by decide +kernel) (by decide), by kernel_rfl⟩
theorem src_path {p : ByteArray} (h : p ∈ srcL) : qIp p.data.toList = true := List.all_eq_true.1 srcL_ok p h
theorem dat_path {p : ByteArray} (h : p ∈ datL) : qIp p.data.toList = true := List.all_eq_true.1 datL_ok p h
theorem Edit_ok (hN : 3000 < N) (h0 : 0 ≤ a) (h1 : a < 10000000000000000) (hL : MadeE K L) (hK : 4700 ≤ K) (hK2 : K ≤ 100000) (hlen : L.length ≤ 100) : Ok (qHo N (l, a) L) (Good l a K L) := by
 obtain ⟨M, rfl⟩ : ∃ M, N = M + 1 := ⟨N - 1, by omega⟩
 have hL9 : MadeE (K + 900) L := hL.more (by omega)
 have hput : ∀ (a' : Int) {p b : ByteArray}, a ≤ a' → a' ≤ a + 200000 → qIp p.data.toList = true → b.size ≤ K + 900 → Good l a K L ((l, a'), fput L p b) := fun a' {p b} g1 g2 hp hb =>
  ⟨a', _, rfl, g1, g2, hL9.put hp hb, qLo L p b⟩
 unfold qHo qEt
 refine Ok.someb (Ok.one h0 (by omega) (by decide) (by decide) fun p hp => ?_)
 have hpp := src_path hp
 refine Ok.next (by dsimp only; omega) (by dsimp only; omega) (by decide) (by decide) fun r r0 r1 => ?_
 dsimp only
 refine Ok.bind (P := fun q => q = .inl () ∨ ∃ z, q = .inr z ∧ Good l a K L z) ?_ ?_
 ·refine Ok.ite (fun _ => ?_) fun _ => Ok.ite (fun _ => ?_) fun _ => Ok.ite (fun _ => ?_) fun _ => Ok.ite (fun _ => ?_) fun _ => Ok.ite (fun _ => ?_) fun _ => Ok.ite (fun _ => ?_) fun _ => Ok.mk (.inl rfl)
  ·refine Ok.one (by omega) (by omega) (by decide) (by decide) fun q hq => ?_
   have hq : q ∈ datL := hq
   dsimp only
   refine Ok.bind (data_ok (by omega) (by omega) (by omega)) ?_
   rintro _ ⟨a2, s, rfl, v1, v2, v3⟩
   dsimp only
   rw [qJs _ _ (by omega) hL.1 (by omega)]
   exact Ok.mk (.inr ⟨_, rfl, hput a2 (by omega) (by omega) (dat_path hq) (by omega)⟩)
  ·refine Ok.one (by omega) (by omega) (by decide) (by decide) fun q hq => ?_
   dsimp only
   rw [remove_eq (by omega) (by omega)]
   exact Ok.mk (.inr ⟨_, rfl, _, _, rfl, by omega, by omega, hL9.del q, by have := fdel_le L q; omega⟩)
  ·refine Ok.someb (Ok.oneS (by omega) (by omega) (by decide) fun q hq => ?_)
   refine Ok.bind (Source_ok (by omega) (by dsimp only; omega) (by dsimp only; omega) hq) ?_
   rintro _ ⟨a2, s, rfl, v1, v2, v3⟩
   dsimp only at v1 v2 ⊢
   rw [qJs _ _ (by omega) hL.1 (by omega)]
   exact Ok.mk (.inr ⟨_, rfl, hput a2 (by omega) (by omega) hpp (by omega)⟩)
  ·refine Ok.bind (edit_scan (L := L) (p := p) (Q := Good l a K L) hlen (by omega) (fun j hj hjp => ?_) (fun j hj hjp => ?_) ?_) ?_
   ·have hc : ((j : Int) < (L.length : Int)) := by omega
    simp only [qEs, hc, decide_true, if_true, qCe hj, Option.bind_some, eqB, hjp]
    rw [remove_eq (by omega) (by omega)]
    refine Ok.someb (Ok.next (by omega) (by omega) (by decide) (by decide) fun x x0 x1 => ?_)
    obtain ⟨s, t, q, e1, e2, e3, e4⟩ := zpath x0 x1 (M := M)
    simp only [e1, e2, e3, Option.bind_some]
    have hd := fdel_le L p
    rw [qJs _ _ (by omega) (hL.1.del p) (by omega)]
    refine Ok.mk ⟨_, rfl, _, _, rfl, by omega, by omega, (hL9.del p).put e4 (by have := (hL.2 L[j] (List.getElem_mem hj)).2; omega), ?_⟩
    have := qLo (fdel L p) q L[j].2
    omega
   ·have hc : ((j : Int) < (L.length : Int)) := by omega
    have w : IntKind.wrap .i64 ((j : Int) + 1) = ((j + 1 : Nat) : Int) := by rw [wi64 (by omega) (by omega)]; omega
    simp only [qEs, hc, decide_true, if_true, qCe hj, Option.bind_some, eqB, hjp, decide_false, Bool.false_eq_true, if_false, w]
   ·have hc : ¬ ((L.length : Int) < (L.length : Int)) := by omega
    simp only [qEs, hc, decide_false, Bool.false_eq_true, if_false]
   ·rintro o (rfl | ⟨z, rfl, hz⟩)
    ·exact Ok.mk (.inl rfl)
    ·exact Ok.mk (.inr ⟨z, rfl, hz⟩)
  ·refine Ok.bind (edit_scan (L := L) (p := p) (Q := Good l a K L) hlen (by omega) (fun j hj hjp => ?_) (fun j hj hjp => ?_) ?_) ?_
   ·have hc : ((j : Int) < (L.length : Int)) := by omega
    have hsz := (hL.2 L[j] (List.getElem_mem hj)).2
    simp only [qEq, hc, decide_true, if_true, qCe hj, Option.bind_some, eqB, hjp]
    refine Ok.next (by omega) (by omega) (by decide) (by decide) fun x x0 x1 => ?_
    refine Ok.digits (by omega) (by omega) (by omega) fun s hs => ?_
    refine Ok.cat (by simp only [qMf, List.size_toArray, List.length_cons, List.length_nil]; omega) fun s5 h5 => ?_
    simp only [qMf, List.size_toArray, List.length_cons, List.length_nil] at h5
    refine Ok.cat (by simp only [qMf, List.size_toArray, List.length_cons, List.length_nil]; omega) fun s6 h6 => ?_
    simp only [qMf, List.size_toArray, List.length_cons, List.length_nil] at h6
    refine Ok.cat (by omega) fun s7 h7 => ?_
    rw [qJs _ _ (by omega) hL.1 (by omega)]
    exact Ok.mk ⟨_, rfl, hput _ (by first | omega | (dsimp only; omega)) (by first | omega | (dsimp only; omega)) hpp (by omega)⟩
   ·have hc : ((j : Int) < (L.length : Int)) := by omega
    have w : IntKind.wrap .i64 ((j : Int) + 1) = ((j + 1 : Nat) : Int) := by rw [wi64 (by omega) (by omega)]; omega
    simp only [qEq, hc, decide_true, if_true, qCe hj, Option.bind_some, eqB, hjp, decide_false, Bool.false_eq_true, if_false, w]
   ·have hc : ¬ ((L.length : Int) < (L.length : Int)) := by omega
    simp only [qEq, hc, decide_false, Bool.false_eq_true, if_false]
   ·rintro o (rfl | ⟨z, rfl, hz⟩)
    ·exact Ok.mk (.inl rfl)
    ·exact Ok.mk (.inr ⟨z, rfl, hz⟩)
  ·refine Ok.bind (edit_scan (L := L) (p := p) (Q := Good l a K L) hlen (by omega) (fun j hj hjp => ?_) (fun j hj hjp => ?_) ?_) ?_
   ·have hc : ((j : Int) < (L.length : Int)) := by omega
    have hsz := (hL.2 L[j] (List.getElem_mem hj)).2
    simp only [qEp, hc, decide_true, if_true, qCe hj, Option.bind_some, eqB, hjp]
    refine Ok.cat (by simp only [qMf, List.size_toArray, List.length_cons, List.length_nil]; omega) fun s5 h5 => ?_
    simp only [qMf, List.size_toArray, List.length_cons, List.length_nil] at h5
    rw [qJs _ _ (by omega) hL.1 (by omega)]
    exact Ok.mk ⟨_, rfl, hput _ (by first | omega | (dsimp only; omega)) (by first | omega | (dsimp only; omega)) hpp (by omega)⟩
   ·have hc : ((j : Int) < (L.length : Int)) := by omega
    have w : IntKind.wrap .i64 ((j : Int) + 1) = ((j + 1 : Nat) : Int) := by rw [wi64 (by omega) (by omega)]; omega
    simp only [qEp, hc, decide_true, if_true, qCe hj, Option.bind_some, eqB, hjp, decide_false, Bool.false_eq_true, if_false, w]
   ·have hc : ¬ ((L.length : Int) < (L.length : Int)) := by omega
    simp only [qEp, hc, decide_false, Bool.false_eq_true, if_false]
   ·rintro o (rfl | ⟨z, rfl, hz⟩)
    ·exact Ok.mk (.inl rfl)
    ·exact Ok.mk (.inr ⟨z, rfl, hz⟩)
 ·rintro q (rfl | ⟨z, rfl, hz⟩)
  ·dsimp only
   refine Ok.bind (edit_scan (L := L) (p := p) (Q := Good l a K L) hlen (by omega) (fun j hj hjp => ?_) (fun j hj hjp => ?_) ?_) ?_
   ·have hc : ((j : Int) < (L.length : Int)) := by omega
    have hsz := (hL.2 L[j] (List.getElem_mem hj)).2
    simp only [qEr, hc, decide_true, if_true, qCe hj, Option.bind_some, eqB, hjp]
    refine Ok.decl (by omega) (by omega) (by omega) fun a2 s g1 g2 g3 => ?_
    dsimp only
    refine Ok.cat (by omega) fun s5 h5 => ?_
    rw [qJs _ _ (by omega) hL.1 (by omega)]
    exact Ok.mk ⟨_, rfl, hput a2 (by omega) (by omega) hpp (by omega)⟩
   ·have hc : ((j : Int) < (L.length : Int)) := by omega
    have w : IntKind.wrap .i64 ((j : Int) + 1) = ((j + 1 : Nat) : Int) := by rw [wi64 (by omega) (by omega)]; omega
    simp only [qEr, hc, decide_true, if_true, qCe hj, Option.bind_some, eqB, hjp, decide_false, Bool.false_eq_true, if_false, w]
   ·have hc : ¬ ((L.length : Int) < (L.length : Int)) := by omega
    simp only [qEr, hc, decide_false, Bool.false_eq_true, if_false]
   ·rintro o (rfl | ⟨z, rfl, hz⟩)
    ·dsimp only
     refine Ok.someb (Ok.oneS (by omega) (by omega) (by decide) fun q hq => ?_)
     refine Ok.bind (Source_ok (by omega) (by dsimp only; omega) (by dsimp only; omega) hq) ?_
     rintro _ ⟨a2, s, rfl, v1, v2, v3⟩
     dsimp only at v1 v2 ⊢
     rw [qJs _ _ (by omega) hL.1 (by omega)]
     exact Ok.mk (hput a2 (by omega) (by omega) hpp (by omega))
    ·exact Ok.mk hz
  ·exact Ok.mk hz
end
end Go.Proofs.YtgggihpbhmbjaaaGreatDoor
