/- Filediff: Invert, the sanity check, two revisions. No condition. -/
import Derived.Test.YtgggihpbhmbjaaaGreatDoorFdGy6
import Derived.Test.YtgggihpbhmbjaaaGreatDoorEdity6
namespace Go.Proofs.YtgggihpbhmbjaaaGreatDoor
open Go Go.Dc Go.Sort Go.Proofs
def invertP (a : List File) (l : List Chg) : List Chg × Int := if (qKc a l).2 ≠ 0 then ([], (qKc a l).2) else diffP (qKc a l).1 a
theorem Invert_eq {N : Nat} {a : List File} {l : List Chg} (hl : l.length < 100000) (hPa : qJv N a) (hPf : qJv N (qKe a l)) (hN : 2000 + l.length < N) : qEn N a l = some (invertP a l) := by
 unfold qEn invertP
 rw [Apply_eq hl hPa hPf (by omega)]
 simp only [Option.bind_some]
 by_cases h : (qKc a l).2 = 0
 ·have e : (qKc a l).1 = qKe a l ∨ (qKc a l).1 = [] := by
   unfold qKc
   repeat' split
   all_goals first | exact .inr rfl | exact .inl rfl
  have hP : qJv N (qKc a l).1 := by
   rcases e with e | e
   ·rw [e]; exact hPf
   ·rw [e]; intro g hg; cases hg
  simp only [h, bne_self_eq_false, Bool.false_eq_true, if_false, ne_eq, not_true_eq_false]
  rw [Diff_eq hP hPa (by omega)]
  rfl
 ·have : ((qKc a l).2 != 0) = true := by simpa using h
  simp only [this, if_true, ne_eq, h, not_false_eq_true]
theorem refInvert_eq {N : Nat} {a : List File} {l : List Chg} (hl : l.length < 100000) (hN : 2000 + l.length < N) : qEu N a l = some (invertP a l) := by
 unfold qEu invertP
 rw [refApply_eq hl (by omega)]
 simp only [Option.bind_some]
 by_cases h : (qKc a l).2 = 0
 ·simp only [h, bne_self_eq_false, Bool.false_eq_true, if_false, ne_eq, not_true_eq_false]
  rw [refDiff_eq (by omega)]
  rfl
 ·have : ((qKc a l).2 != 0) = true := by simpa using h
  simp only [this, if_true, ne_eq, h, not_false_eq_true]
theorem chgEq (x : Chg) : ((x.1 == x.1) && ((x.2.1.toList == x.2.1.toList) && ((x.2.2.1.toList == x.2.2.1.toList) && ((x.2.2.2.toList == x.2.2.2.toList) && true)))) = true := by simp
theorem sameC_loop {N : Nat} {L : List Chg} (hl : L.length < 1000000) : ∀ (d i M : Nat), i + d = L.length → d < M → qBf (qEa N L L) M (i : Int) = some (.inl ())
 | _, _, 0, _, h => absurd h (Nat.not_lt_zero _)
 | d, i, M + 1, h1, h2 => by
  simp only [qBf, qEa]
  cases d with
  | zero =>
   have hc : ¬ ((i : Int) < (L.length : Int)) := by omega
   simp only [hc, decide_false, Bool.false_eq_true, if_false, Option.bind_some]
  | succ d =>
   have hi : i < L.length := by omega
   have hc : ((i : Int) < (L.length : Int)) := by omega
   simp only [hc, decide_true, if_true, qCe hi, Option.bind_some, chgEq, Bool.not_true, Bool.false_eq_true, if_false, wi1 (show i < 1000000 by omega)]
   exact sameC_loop hl d (i + 1) M (by omega) (by omega)
theorem sameC_refl {N : Nat} {L : List Chg} (hl : L.length < 1000000) (hN : L.length < N) : qFu N L L = some true := by
 have h1 : qBf (qEa N L L) N 0 = some (.inl ()) := sameC_loop hl L.length 0 N (by omega) hN
 simp only [qFu, bne_self_eq_false, Bool.false_eq_true, if_false, h1, Option.bind_some]
theorem diffP_len (a b : List File) : (diffP a b).1.length ≤ 200 := by
 unfold diffP
 split
 ·rename_i h
  have := diffL_len (qHp.1 h.1).1 (qHp.1 h.2).1
  simpa [sortC] using this
 ·simp
theorem PAsc.dist {L : List Chg} (h : PAsc L) : PDist L := List.pairwise_map.2 (h.imp fun h e => by rw [e] at h; exact cS_irr _ h)
theorem sortC_self {L : List Chg} (h : PAsc L) : sortC L = L := (sortC_asc h.dist).ext h fun z => sortC_mem
def wA : List File := [((⟨#[97]⟩ : ByteArray), (⟨#[49]⟩ : ByteArray))]
def wB : List File := [((⟨#[98]⟩ : ByteArray), (⟨#[49]⟩ : ByteArray)), ((⟨#[99]⟩ : ByteArray), (⟨#[50]⟩ : ByteArray))]
def wD : List Chg := [(4, (⟨#[98]⟩ : ByteArray), (⟨#[97]⟩ : ByteArray), qEj), (1, (⟨#[99]⟩ : ByteArray), qEj, (⟨#[50]⟩ : ByteArray))]
def wE : List Chg := [(4, (⟨#[97]⟩ : ByteArray), (⟨#[98]⟩ : ByteArray), qEj), (2, (⟨#[99]⟩ : ByteArray), qEj, qEj)]
theorem wA_ok : qGf wA = 0 := by kernel_rfl
theorem wB_ok : qGf wB = 0 := by kernel_rfl
theorem pasc2 {x y : Chg} (h : blt x.2.1 y.2.1 = true) : PAsc [x, y] := by
 simp only [PAsc, List.pairwise_cons, List.mem_cons, List.not_mem_nil, or_false, forall_eq, false_imp_iff, implies_true, List.Pairwise.nil, and_self, and_true]
 exact blt_iff.1 h
theorem wDiff : diffP wA wB = (wD, 0) := by
 have h : diffL wA wB = wD := by kernel_rfl
 have hp : PAsc wD := pasc2 (by kernel_rfl)
 unfold diffP
 rw [if_pos ⟨wA_ok, wB_ok⟩, h, sortC_self hp]
theorem wBack : diffP wB wA = (wE, 0) := by
 have h : (diffL wB wA) = wE := by kernel_rfl
 have hp : PAsc wE := pasc2 (by kernel_rfl)
 unfold diffP
 rw [if_pos ⟨wB_ok, wA_ok⟩, h, sortC_self hp]
theorem wApply : qKc wA wD = (wB, 0) := by kernel_rfl
theorem qNh {N : Nat} {L : List File} (h : ∀ f ∈ L, f.1.size ≤ 1048576) (hN : 3000000 < N) : qJv N L := fun g hg => Path_eq (by have := h g hg; omega) (by have := h g hg; omega)
theorem path_small' {p : ByteArray} (h : qIp p.data.toList = true) : p.size ≤ 80 := by
 have h := of_decide_eq_true h
 have := h.1
 simpa using this
theorem fd_awake {N : Nat} (hN : 3000000 < N) : qGm N = some true := by
 have hwA : qJv N wA := qNh (fun f hf => by simp only [wA, List.mem_cons, List.not_mem_nil, or_false] at hf; subst hf; decide) hN
 have hwB : qJv N wB := qNh (fun f hf => by simp only [wB, List.mem_cons, List.not_mem_nil, or_false] at hf; rcases hf with rfl | rfl <;> decide) hN
 have hApp : qKe wA wD = wB := by kernel_rfl
 have h1 : qHi N wA wB = some (wD, 0) := by rw [Diff_eq hwA hwB (by omega), wDiff]
 have h2 : qEk N wA wD = some (wB, 0) := by rw [Apply_eq (by simp [wD]) hwA (by rw [hApp]; exact hwB) (by simp only [wD, List.length_cons, List.length_nil]; omega), wApply]
 have h3 : qEn N wA wD = some (wE, 0) := by
  rw [Invert_eq (by simp [wD]) hwA (by rw [hApp]; exact hwB) (by simp only [wD, List.length_cons, List.length_nil]; omega)]
  unfold invertP
  rw [wApply]
  simp only [ne_eq, not_true_eq_false, if_false]
  rw [wBack]
 have h4 : qDp N wB wB = some true := by rw [refSame_eq (by simp [wB]) (by simp only [wB, List.length_cons, List.length_nil]; omega)]; simp
 unfold qGm
 rw [show qHi N ([((⟨#[97]⟩ : ByteArray), (⟨#[49]⟩ : ByteArray))]) ([((⟨#[98]⟩ : ByteArray), (⟨#[49]⟩ : ByteArray)), ((⟨#[99]⟩ : ByteArray), (⟨#[50]⟩ : ByteArray))]) = _ from h1]
 simp only [Option.bind_some]
 rw [show qEk N ([((⟨#[97]⟩ : ByteArray), (⟨#[49]⟩ : ByteArray))]) wD = _ from h2, show qEn N ([((⟨#[97]⟩ : ByteArray), (⟨#[49]⟩ : ByteArray))]) wD = _ from h3]
 simp only [Option.bind_some]
 rw [show qDp N wB ([((⟨#[98]⟩ : ByteArray), (⟨#[49]⟩ : ByteArray)), ((⟨#[99]⟩ : ByteArray), (⟨#[50]⟩ : ByteArray))]) = _ from h4]
 refine Eq.trans (b := some true) ?_ rfl
 kernel_rfl
theorem two_ok {N : Nat} {l : List Int} (hN : 3000 < N) : Ok (qHn N (l, 0)) fun y => ∃ a' A B, y = ((l, a'), A, B) ∧ 0 ≤ a' ∧ a' ≤ 10000000 ∧ MadeE 8300 A ∧ MadeE 8300 B ∧ A.length ≤ 11 ∧ B.length ≤ 11 := by
 unfold qHn
 refine Ok.bind (Revision_ok (l := l) (a := 0) hN (by decide) (by decide)) ?_
 rintro _ ⟨a1, A, rfl, u1, u2, u3, u4⟩
 dsimp only
 refine Ok.next (by omega) (by omega) (by decide) (by decide) fun r r0 r1 => ?_
 dsimp only
 refine Ok.loop (fun st => ∃ (n : Nat) (L : List File) (a' : Int), st = ((n : Int), l, a', L) ∧ n ≤ 4 ∧ MadeE (8300 - 900 * n) L ∧ L.length ≤ 11 - n ∧ 0 ≤ a' ∧ a' ≤ 1000002 + 200000 * (4 - n)) (fun st => st.1.toNat) (fun b => ∃ L a', b = (l, a', L) ∧ MadeE 8300 L ∧ L.length ≤ 11 ∧ 0 ≤ a' ∧ a' ≤ 2000000) ?_ ⟨r.toNat, A, a1 + 1, by rw [Int.toNat_of_nonneg r0], by omega, u3.e.more (by omega), by omega, by omega, by omega⟩ (by dsimp only; omega) ?_
 ·rintro _ ⟨n, L, a', rfl, k1, k2, k3, k4, k5⟩
  unfold qHk
  dsimp only
  by_cases hn : 0 < n
  ·rw [if_pos (by simpa using hn)]
   refine Ok.bind (Edit_ok (K := 8300 - 900 * n) (by omega) k4 (by omega) k2 (by omega) (by omega) (by omega)) ?_
   rintro _ ⟨a2, L2, rfl, v1, v2, v3, v4⟩
   have w : IntKind.wrap .i64 ((n : Int) - 1) = ((n - 1 : Nat) : Int) := by rw [wi64 (by omega) (by omega)]; omega
   refine Ok.mk ⟨⟨n - 1, L2, a2, by rw [w], by omega, ?_, by omega, by omega, by omega⟩, by rw [w]; simp only [Int.toNat_natCast]; omega⟩
   rw [show 8300 - 900 * (n - 1) = 8300 - 900 * n + 900 by omega]; exact v3
  ·rw [if_neg (by simpa using hn)]
   have : n = 0 := by omega
   subst this
   exact Ok.mk ⟨L, a', rfl, k2, by omega, k4, by omega⟩
 ·rintro _ ⟨L, a2, rfl, w1, w2, w3, w4⟩
  dsimp only
  refine Ok.chance (by omega) (by omega) (by decide) (by decide) fun c => ?_
  dsimp only
  refine Ok.iteb (fun _ => ?_) fun _ => ?_
  ·refine Ok.assoc (Ok.bind (Revision_ok (l := l) (a := a2 + 1) hN (by omega) (by omega)) ?_)
   rintro _ ⟨a3, B, rfl, q1, q2, q3, q4⟩
   exact Ok.someb (Ok.mk ⟨a3, A, B, rfl, by omega, by omega, u3.e.more (by decide), q3.e.more (by decide), by omega, by omega⟩)
  ·exact Ok.someb (Ok.mk ⟨a2 + 1, A, L, rfl, by omega, by omega, u3.e.more (by decide), w1, by omega, by omega⟩)
end Go.Proofs.YtgggihpbhmbjaaaGreatDoor
