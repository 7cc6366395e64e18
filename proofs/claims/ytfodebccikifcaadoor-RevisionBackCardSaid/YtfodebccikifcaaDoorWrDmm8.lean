/- The plain law of WireDamage. No condition. -/
import Derived.Test.YtfodebccikifcaaDoorWrManym8
namespace Go.Proofs.YtfodebccikifcaaDoor
open Go Go.Dc

/-! ### a beginning of bytes -/
theorem uend_prefix {t f : List UInt8} (hp : t <+: f) {a : Nat} (ha : a ≤ t.length) (h : uend t a < t.length) : uend f a = uend t a := by
  obtain ⟨r, rfl⟩ := hp
  unfold uend at *
  congr 1
  rw [List.drop_append_of_le_length ha]
  have hl : ((t.drop a).takeWhile (fun b => decide (128 ≤ b.toNat))).length < (t.drop a).length := by simp; omega
  rw [List.takeWhile_append]
  rw [if_neg (by omega)]

theorem uval_congr {t f : List UInt8} {a : Nat} : ∀ (k n : Nat), (∀ j, a ≤ j → j < a + k → t.getD j 0 = f.getD j 0) → uval t a k n = uval f a k n
  | 0, n, _ => by simp [uval]
  | k + 1, n, h => by
    simp only [uval]
    rw [h (a + k) (by omega) (by omega)]
    exact uval_congr k _ (fun j h1 h2 => h j h1 (by omega))

theorem getD_prefix {t f : List UInt8} (hp : t <+: f) {j : Nat} (h : j < t.length) : t.getD j 0 = f.getD j 0 := by
  obtain ⟨r, rfl⟩ := hp
  simp [List.getD_eq_getElem?_getD, List.getElem?_append_left h]

theorem uintP_prefix {t f : List UInt8} (hp : t <+: f) {i : Int} (h : (uintP t i).2.2 = 0) : uintP f i = uintP t i := by
  have hle := hp.length_le
  simp only [uintP] at h ⊢
  by_cases h0 : i < 0 ∨ i > t.length
  · rw [if_pos h0] at h; cases h
  · rw [if_neg h0] at h
    have ha : i.toNat ≤ t.length := by omega
    obtain ⟨he1, he2⟩ := uend_le ha
    split at h
    · cases h
    · rename_i h1
      have hlt : uend t i.toNat < t.length := by omega
      have heq := uend_prefix hp ha hlt
      rw [if_neg (show ¬ (i < 0 ∨ i > (f.length : Int)) by omega), if_neg h0, heq]
      rw [if_neg (show ¬ uend t i.toNat = f.length by omega), if_neg h1]
      rw [← getD_prefix hp hlt]
      split at h
      · cases h
      · rename_i h2
        rw [if_neg h2, if_neg h2]
        rw [uval_congr (t := f) (f := t) _ _ (fun j h3 h4 => (getD_prefix hp (by omega)).symm)]

/-! ### checksums of damaged bytes -/
/-- No beginning of a frame is a frame. -/
theorem beginning {kind : Int} {p : List UInt8} (h1 : 1 ≤ kind) (h2 : kind ≤ 255) (hp : p.length ≤ 2097152) {j : Nat} (hj : j < (frameL kind p).length) : (nextR ((frameL kind p).take j) 0).2.2 ≠ 0 := by
  intro h
  have hpre : (frameL kind p).take j <+: frameL kind p := List.take_prefix _ _
  have hl : ((frameL kind p).take j).length = j := by simp; omega
  have hu : uintP (frameL kind p) 2 = ((p.length : Int), ((2 + (encU p.length).length : Nat) : Int), 0) := by
    have := uintP_enc (pre := [247, toU8 (IntKind.wrap .u8 kind)]) (post := p ++ le4 (ck ((headL kind p).drop 1))) (n := p.length) (by omega)
    have e : [247, toU8 (IntKind.wrap .u8 kind)] ++ (encU p.length ++ (p ++ le4 (ck ((headL kind p).drop 1)))) = frameL kind p := by simp [frameL, headL]
    rw [e] at this
    simpa using this
  have hfl := frameL_len kind p
  have hhl : (headL kind p).length = 2 + (encU p.length).length + p.length := by simp [headL]; omega
  unfold nextR at h
  split at h
  · cases h
  · split at h
    · cases h
    · split at h
      · cases h
      · split at h
        · cases h
        · split at h
          · cases h
          · split at h
            · rename_i g5; exact g5 h
            · rename_i g5
              have hup := uintP_prefix hpre (i := 2) (by simpa using Decidable.of_not_not g5)
              rw [hu] at hup
              split at h
              · cases h
              · split at h
                · cases h
                · rename_i g7
                  have e2 : (0 : Int) + 2 = 2 := rfl
                  rw [e2, ← hup, hl] at g7
                  simp only at g7
                  omega

end Go.Proofs.YtfodebccikifcaaDoor
