/- Paths: the lexer's and the reference's. No condition. -/
import Derived.Test.YtgggihpbhmbjaaaGreatDoorPthRy6
namespace Go.Proofs.YtgggihpbhmbjaaaGreatDoor
open Go Go.Dc
def sp : List UInt8 → List (List UInt8)
 | [] => [[]]
 | c :: l => if c = 47 then [] :: sp l else match sp l with
  | [] => [[c]]
  | p :: q => (c :: p) :: q
theorem sp_ne : ∀ l : List UInt8, sp l ≠ []
 | [] => by simp [sp]
 | c :: l => by
  simp only [sp]
  split
  ·simp
  ·split <;> simp
theorem sp_len : ∀ l : List UInt8, (sp l).length = l.count 47 + 1
 | [] => rfl
 | c :: l => by
  simp only [sp]
  split
  ·rename_i h; subst h; simp [sp_len l]
  ·rename_i h
   have := sp_len l
   split
   ·rename_i e; exact absurd e (sp_ne l)
   ·rename_i e
    rw [e] at this
    simp only [List.length_cons] at this ⊢
    rw [List.count_cons_of_ne h, ← this]
def qKu (c : UInt8) : Bool := c != 47
theorem sp_step : ∀ l : List UInt8, sp l = if (l.takeWhile qKu).length = l.length then [l] else l.takeWhile qKu :: sp (l.drop ((l.takeWhile qKu).length + 1))
 | [] => rfl
 | c :: l => by
  have ih := sp_step l
  by_cases h : c = 47
  ·subst h
   rw [List.takeWhile_cons_of_neg (by decide)]
   simp [sp]
  ·have hc : qKu c = true := by simpa [qKu] using h
   rw [List.takeWhile_cons_of_pos hc]
   simp only [sp, h, if_false, ih, List.length_cons, Nat.add_right_cancel_iff, List.drop_succ_cons]
   by_cases he : (l.takeWhile qKu).length = l.length
   ·simp [he]
   ·simp [he]
def pathR : Nat → Nat → List UInt8 → Option (Nat × Nat)
 | a, b, [] => some (a, b)
 | a, b, c :: l => if c = 47 then (if b = 0 then none else pathR (a + 1) 0 l) else if inK [1, 2, 3, 4] c = true then (if b + 1 > 24 then none else pathR a (b + 1) l) else none
def partOk (p : List UInt8) : Prop := 1 ≤ p.length ∧ p.length ≤ 24 ∧ ∀ c ∈ p, inK [1, 2, 3, 4] c = true
theorem pathR_iff : ∀ (l : List UInt8) (a b : Nat), b ≤ 24 → ((∃ x y, pathR a b l = some (x, y) ∧ 0 < y ∧ x ≤ 8) ↔
  ∃ p q, sp l = p :: q ∧ 1 ≤ b + p.length ∧ b + p.length ≤ 24 ∧ (∀ c ∈ p, inK [1, 2, 3, 4] c = true) ∧ (∀ r ∈ q, partOk r) ∧ a + q.length ≤ 8)
 | [], a, b, hb => by
  constructor
  ·rintro ⟨x, y, h, h1, h2⟩
   simp only [pathR, Option.some.injEq, Prod.mk.injEq] at h
   exact ⟨[], [], rfl, by simp; omega, by simpa using hb, by simp, by simp, by simp; omega⟩
  ·rintro ⟨p, q, h, h1, h2, _, _, h3⟩
   simp only [sp, List.cons.injEq] at h
   obtain ⟨rfl, rfl⟩ := h
   simp only [List.length_nil] at h1 h3
   exact ⟨a, b, rfl, by omega, by omega⟩
 | c :: l, a, b, hb => by
  by_cases hc : c = 47
  ·have hsp : sp (c :: l) = [] :: sp l := by simp [sp, hc]
   rw [hsp]
   simp only [pathR, hc, if_true]
   by_cases h0 : b = 0
   ·subst h0
    simp only [if_true]
    constructor
    ·rintro ⟨x, y, h, _⟩; cases h
    ·rintro ⟨p, q, h, h1, _⟩
     simp only [List.cons.injEq] at h
     rw [← h.1] at h1; simp at h1
   ·rw [if_neg h0]
    rw [pathR_iff l (a + 1) 0 (by omega)]
    constructor
    ·rintro ⟨p, q, h, h1, h2, h3, h4, h5⟩
     refine ⟨[], sp l, rfl, by simp; omega, by simpa using hb, by simp, ?_, by rw [h]; simp only [List.length_cons]; omega⟩
     intro r hr
     rw [h] at hr
     rcases List.mem_cons.1 hr with rfl | hr
     ·exact ⟨by omega, by omega, h3⟩
     ·exact h4 r hr
    ·rintro ⟨p, q, h, h1, h2, h3, h4, h5⟩
     simp only [List.cons.injEq] at h
     obtain ⟨rfl, rfl⟩ := h
     obtain ⟨p, q, hpq⟩ : ∃ p q, sp l = p :: q := by
      cases he : sp l with
      | nil => exact absurd he (sp_ne l)
      | cons p q => exact ⟨p, q, rfl⟩
     rw [hpq] at h4 h5
     obtain ⟨g1, g2, g3⟩ := h4 p (List.mem_cons_self ..)
     exact ⟨p, q, hpq, by omega, by omega, g3, fun r hr => h4 r (List.mem_cons_of_mem _ hr), by simp only [List.length_cons] at h5; omega⟩
  ·obtain ⟨p0, q0, hpq⟩ : ∃ p q, sp l = p :: q := by
    cases he : sp l with
    | nil => exact absurd he (sp_ne l)
    | cons p q => exact ⟨p, q, rfl⟩
   have hsp : sp (c :: l) = (c :: p0) :: q0 := by simp only [sp, hc, if_false, hpq]
   rw [hsp]
   simp only [pathR, hc, if_false]
   by_cases hk : inK [1, 2, 3, 4] c = true
   ·rw [if_pos hk]
    by_cases h24 : b + 1 > 24
    ·rw [if_pos h24]
     constructor
     ·rintro ⟨x, y, h, _⟩; cases h
     ·rintro ⟨p, q, h, h1, h2, _⟩
      simp only [List.cons.injEq] at h
      rw [← h.1] at h2
      simp only [List.length_cons] at h2
      omega
    ·rw [if_neg h24, pathR_iff l a (b + 1) (by omega)]
     constructor
     ·rintro ⟨p, q, h, h1, h2, h3, h4, h5⟩
      rw [hpq] at h
      simp only [List.cons.injEq] at h
      obtain ⟨rfl, rfl⟩ := h
      refine ⟨_, _, rfl, by simp only [List.length_cons]; omega, by simp only [List.length_cons]; omega, ?_, h4, h5⟩
      intro d hd
      rcases List.mem_cons.1 hd with rfl | hd
      ·exact hk
      ·exact h3 d hd
     ·rintro ⟨p, q, h, h1, h2, h3, h4, h5⟩
      simp only [List.cons.injEq] at h
      obtain ⟨rfl, rfl⟩ := h
      simp only [List.length_cons] at h1 h2
      exact ⟨p0, q0, hpq, by omega, by omega, fun d hd => h3 d (List.mem_cons_of_mem _ hd), h4, h5⟩
   ·rw [if_neg hk]
    constructor
    ·rintro ⟨x, y, h, _⟩; cases h
    ·rintro ⟨p, q, h, h1, h2, h3, _⟩
     simp only [List.cons.injEq] at h
     rw [← h.1] at h3
     exact absurd (h3 c (List.mem_cons_self ..)) hk
theorem inK4 {N : Nat} (c : UInt8) : ((qFh N (c.toNat : Int)).bind fun y1 => if y1 = true then (some true) else (some ((c.toNat : Int) == 46))) = some (inK [1, 2, 3, 4] c) := by
 have h := all256 (p := fun c => (inK [1, 2, 3] c || decide (c.toNat = 46)) == inK [1, 2, 3, 4] c) (by kernel_rfl) c
 rw [beq_iff_eq] at h
 rw [← h, inner_eq]
 simp only [Option.bind_some]
 have e : ((c.toNat : Int) == 46) = decide (c.toNat = 46) := by rw [Bool.eq_iff_iff, beq_iff_eq, decide_eq_true_eq]; omega
 rw [e]
 cases inK [1, 2, 3] c <;> simp
theorem refpath_loop {N : Nat} {s : ByteArray} (hl : s.data.toList.length < 1000000) : ∀ (d i M a b : Nat), i + d = s.data.toList.length → d < M → a ≤ i + 1 → b ≤ 24 →
  qBf (qEh N s) M ((a : Int), (b : Int), (i : Int)) = some (match pathR a b (s.data.toList.drop i) with | some z => .inl ((z.1 : Int), (z.2 : Int)) | none => .inr false)
 | d, i, 0, _, _, _, h, _, _ => by omega
 | 0, i, M + 1, a, b, h1, h2, h3, h4 => by
  have hs := qGu s
  simp only [qBf, qEh]
  rw [if_neg (by simp only [decide_eq_true_eq]; omega), List.drop_eq_nil_of_le (by omega)]
  rfl
 | d + 1, i, M + 1, a, b, h1, h2, h3, h4 => by
  have hs := qGu s
  have hi : i < s.data.toList.length := by omega
  simp only [qBf, qEh]
  rw [if_pos (by simp only [decide_eq_true_eq]; omega), List.drop_eq_getElem_cons hi, idxB_list hi]
  simp only [Option.bind_some, inK4, beq_iff_eq, pathR]
  by_cases hc : s.data.toList[i] = 47
  ·rw [if_pos (show ((s.data.toList[i]).toNat : Int) = 47 by rw [hc]; rfl), if_pos hc]
   by_cases hb : b = 0
   ·rw [if_pos (show (b : Int) = 0 by omega), if_pos hb]
    rfl
   ·rw [if_neg (show ¬ (b : Int) = 0 by omega), if_neg hb, wi64 (x := (a : Int) + 1) (by omega) (by omega)]
    simp only [Option.bind_some]
    rw [if_neg (by simp), wi64 (by omega) (by omega)]
    have := refpath_loop (N := N) hl d (i + 1) M (a + 1) 0 (by omega) (by omega) (by omega) (by omega)
    exact this
  ·have hc' : ¬ ((s.data.toList[i]).toNat : Int) = 47 := fun h => hc (UInt8.toNat_inj.1 (by show _ = 47; omega))
   rw [if_neg hc', if_neg hc]
   by_cases hk : inK [1, 2, 3, 4] (s.data.toList[i]) = true
   ·rw [if_pos hk, if_pos hk, wi64 (x := (b : Int) + 1) (by omega) (by omega)]
    simp only [Option.bind_some]
    by_cases h24 : b + 1 > 24
    ·rw [if_pos (by simp only [decide_eq_true_eq]; omega), if_pos h24]
     rfl
    ·rw [if_neg (by simp only [decide_eq_true_eq]; omega), if_neg h24, wi64 (by omega) (by omega)]
     have := refpath_loop (N := N) hl d (i + 1) M a (b + 1) (by omega) (by omega) (by omega) (by omega)
     exact this
   ·rw [if_neg hk, if_neg hk]
    rfl
def qIp (l : List UInt8) : Bool := decide (l.length ≤ 80 ∧ (sp l).length ≤ 8 ∧ ∀ p ∈ sp l, 1 ≤ p.length ∧ p.length ≤ 24 ∧ ∀ c ∈ p, inK [1, 2, 3, 4] c = true)
theorem pathB_iff (l : List UInt8) : qIp l = true ↔ l.length ≤ 80 ∧ ∃ x y, pathR 1 0 l = some (x, y) ∧ 0 < y ∧ x ≤ 8 := by
 rw [pathR_iff l 1 0 (by omega)]
 simp only [qIp, decide_eq_true_eq]
 obtain ⟨p, q, hpq⟩ : ∃ p q, sp l = p :: q := by
  cases he : sp l with
  | nil => exact absurd he (sp_ne l)
  | cons p q => exact ⟨p, q, rfl⟩
 constructor
 ·rintro ⟨h1, h2, h3⟩
  rw [hpq] at h2 h3
  obtain ⟨g1, g2, g3⟩ := h3 p (List.mem_cons_self ..)
  exact ⟨h1, p, q, hpq, by omega, by omega, g3, fun r hr => h3 r (List.mem_cons_of_mem _ hr), by simp only [List.length_cons] at h2; omega⟩
 ·rintro ⟨h1, p', q', h, h2, h3, h4, h5, h6⟩
  refine ⟨h1, by rw [h]; simp only [List.length_cons]; omega, ?_⟩
  intro r hr
  rw [h] at hr
  rcases List.mem_cons.1 hr with rfl | hr
  ·exact ⟨by omega, by omega, h4⟩
  ·exact h5 r hr
theorem refPath_eq {N : Nat} {s : ByteArray} (hN : 100 < N) : qEm N s = some (qIp s.data.toList) := by
 have hs := qGu s
 simp only [qEm]
 by_cases h80 : s.data.toList.length ≤ 80
 ·rw [if_neg (by simp only [decide_eq_true_eq]; omega)]
  have key := refpath_loop (N := N) (s := s) (by omega) s.data.toList.length 0 N 1 0 (by omega) (by omega) (by omega) (by omega)
  rw [show ((0 : Nat) : Int) = 0 from rfl, show ((1 : Nat) : Int) = 1 from rfl, List.drop_zero] at key
  rw [key]
  have hp := pathB_iff s.data.toList
  cases hR : pathR 1 0 s.data.toList with
  | none =>
   simp only [Option.bind_some]
   refine congrArg some ?_
   rw [Bool.eq_iff_iff, hp]
   constructor
   ·intro h; cases h
   ·rintro ⟨_, x, y, h, _⟩; rw [hR] at h; cases h
  | some z =>
   obtain ⟨x, y⟩ := z
   simp only [Option.bind_some]
   by_cases hy : 0 < y
   ·rw [if_pos (by simp only [decide_eq_true_eq]; omega)]
    simp only [Option.bind_some]
    refine congrArg some ?_
    rw [Bool.eq_iff_iff, hp, decide_eq_true_eq]
    constructor
    ·intro h; exact ⟨h80, x, y, hR, hy, by omega⟩
    ·rintro ⟨_, x', y', h, _, h2⟩; rw [hR] at h; simp only [Option.some.injEq, Prod.mk.injEq] at h; omega
   ·rw [if_neg (by simp only [decide_eq_true_eq]; omega)]
    simp only [Option.bind_some]
    refine congrArg some ?_
    rw [Bool.eq_iff_iff, hp]
    constructor
    ·intro h; cases h
    ·rintro ⟨_, x', y', h, h1, _⟩; rw [hR] at h; simp only [Option.some.injEq, Prod.mk.injEq] at h; omega
 ·rw [if_pos (by simp only [decide_eq_true_eq]; omega)]
  refine congrArg some ?_
  rw [Bool.eq_iff_iff, pathB_iff]
  exact ⟨fun h => (by cases h), fun h => absurd h.1 h80⟩
end Go.Proofs.YtgggihpbhmbjaaaGreatDoor
