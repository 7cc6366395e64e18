/- The plain laws of frames that were written: they are read back, one after the other. No condition but those of each theorem. -/
import Derived.Test.YtfodebccikifcaaDoorWrFrr1
import Derived.Test.YtfodebccikifcaaDoorWrEncr1
namespace Go.Proofs.YtfodebccikifcaaDoor
open Go Go.Dc
theorem toU8_kind {kind : Int} (h1 : 1 ≤ kind) (h2 : kind ≤ 255) : (toU8 (IntKind.wrap .u8 kind)).toNat = kind.toNat := by
 have := toU8_wrap kind
 rw [wrap_u8'] at this
 rw [wrap_u8']
 omega
theorem by4_le4 {pre post : List UInt8} {c : Nat} (hc : c < 4294967296) : by4 (pre ++ (le4 c ++ post)) pre.length = c := by
 have h : ∀ j : Nat, (pre ++ (le4 c ++ post)).getD (pre.length + j) 0 = (le4 c ++ post).getD j 0 := fun j => by
  simp only [List.getD_eq_getElem?_getD, List.getElem?_append_right (Nat.le_add_right _ _), Nat.add_sub_cancel_left]
 have h0 := h 0
 simp only [by4, h 1, h 2, h 3]
 rw [show (pre ++ (le4 c ++ post)).getD pre.length 0 = (le4 c ++ post).getD 0 0 from h0]
 simp only [le4, List.cons_append, List.getD_cons_zero, List.getD_cons_succ, UInt8.toNat_ofNat']
 omega
theorem next_frame {pre post p : List UInt8} {kind : Int} (h1 : 1 ≤ kind) (h2 : kind ≤ 255) (hp : p.length ≤ 2097152) (hb : pre.length + post.length < 1000000000000) :
  nextR (pre ++ (frameL kind p ++ post)) (pre.length : Int) = ((kind, p), ((pre.length + (frameL kind p).length : Nat) : Int), 0) := by
 have hk := toU8_kind h1 h2
 have he := encU_len p.length
 have hc := ck_lt ((headL kind p).drop 1)
 generalize hL : pre ++ (frameL kind p ++ post) = L
 have eL : L = (pre ++ [247, toU8 (IntKind.wrap .u8 kind)]) ++ (encU p.length ++ (p ++ (le4 (ck ((headL kind p).drop 1)) ++ post))) := by
  rw [← hL]; simp [frameL, headL]
 have eL2 : L = (pre ++ headL kind p) ++ (le4 (ck ((headL kind p).drop 1)) ++ post) := by
  rw [← hL]; simp [frameL]
 have hlen : L.length = pre.length + 2 + (encU p.length).length + p.length + 4 + post.length := by
  rw [eL]; simp [le4]; omega
 have hhl : (headL kind p).length = 2 + (encU p.length).length + p.length := by simp [headL]; omega
 have hfl := frameL_len kind p
 have hu : uintP L ((pre.length : Int) + 2) = ((p.length : Int), ((pre.length + 2 + (encU p.length).length : Nat) : Int), 0) := by
  have := uintP_enc (pre := pre ++ [247, toU8 (IntKind.wrap .u8 kind)]) (post := p ++ (le4 (ck ((headL kind p).drop 1)) ++ post)) (n := p.length) (by omega)
  rw [← eL] at this
  simpa using this
 have g0 : (L.getD pre.length 0).toNat = 247 := by rw [eL]; simp [List.getD_eq_getElem?_getD]
 have g1 : (L.getD (pre.length + 1) 0).toNat = kind.toNat := by
  rw [eL, ← hk]
  simp [List.getD_eq_getElem?_getD, List.getElem?_append_right]
 unfold nextR
 simp only [hu, Int.toNat_natCast, g0, g1]
 rw [if_neg (by omega), if_neg (by omega), if_neg (by omega), if_neg (by omega), if_neg (by omega), if_neg (by omega), if_neg (by omega), if_neg (by omega)]
 have eE : (((pre.length + 2 + (encU p.length).length : Nat) : Int) + (p.length : Int)).toNat = (pre ++ headL kind p).length := by simp; omega
 rw [eE]
 have e1 : L.take (pre ++ headL kind p).length = pre ++ headL kind p := by rw [eL2, List.take_left]
 rw [e1, eL2, by4_le4 hc]
 have e2 : (pre ++ headL kind p).drop (pre.length + 1) = (headL kind p).drop 1 := by rw [← List.drop_drop, List.drop_left]
 have e3 : (pre ++ headL kind p).drop (pre.length + 2 + (encU p.length).length) = p := by
  have : pre ++ headL kind p = (pre ++ [247, toU8 (IntKind.wrap .u8 kind)] ++ encU p.length) ++ p := by simp [headL]
  rw [this, List.drop_left' (by simp; omega)]
 rw [e2, e3, if_neg (by omega)]
 congr 1
 ·congr 1; omega
 ·congr 1; omega
def fmL (its : List (Int × List UInt8)) : List UInt8 := its.flatMap fun x => frameL x.1 x.2
theorem frames_many {post : List UInt8} : ∀ (its : List (Int × List UInt8)) (pre : List UInt8) (k : Nat) (acc : List (Int × List UInt8)), (∀ x ∈ its, 1 ≤ x.1 ∧ x.1 ≤ 255 ∧ x.2.length ≤ 2097152) → pre.length + (fmL its).length + post.length < 1000000000000 →
  framesF (its.length + k) (pre ++ (fmL its ++ post)) (pre.length : Int) acc = framesF k (pre ++ (fmL its ++ post)) ((pre.length + (fmL its).length : Nat) : Int) (acc ++ its)
 | [], pre, k, acc, _, _ => by simp [fmL]
 | x :: its, pre, k, acc, h, hb => by
  obtain ⟨h1, h2, h3⟩ := h x (List.mem_cons_self ..)
  have ef : fmL (x :: its) = frameL x.1 x.2 ++ fmL its := by simp [fmL]
  have eL : pre ++ (fmL (x :: its) ++ post) = pre ++ (frameL x.1 x.2 ++ (fmL its ++ post)) := by rw [ef, List.append_assoc]
  have eL2 : pre ++ (fmL (x :: its) ++ post) = (pre ++ frameL x.1 x.2) ++ (fmL its ++ post) := by rw [ef]; simp
  rw [ef] at hb
  simp only [List.length_append] at hb
  have hn := next_frame (pre := pre) (post := fmL its ++ post) h1 h2 h3 (by simp only [List.length_append]; omega)
  rw [← eL] at hn
  have hfl := frameL_len x.1 x.2
  have hlt : (pre.length : Int) < ((pre ++ (fmL (x :: its) ++ post)).length : Int) := by rw [eL]; simp only [List.length_append]; omega
  rw [List.length_cons, show its.length + 1 + k = (its.length + k) + 1 by omega]
  simp only [framesF]
  rw [if_pos hlt, hn]
  simp only [ne_eq, not_true_eq_false, if_false]
  have ih := frames_many (post := post) its (pre ++ frameL x.1 x.2) k (acc ++ [(x.1, x.2)]) (fun y hy => h y (List.mem_cons_of_mem _ hy)) (by simp only [List.length_append]; omega)
  rw [← eL2] at ih
  rw [List.length_append] at ih
  rw [ih]
  congr 1
  ·rw [ef, List.length_append]; omega
  ·simp
theorem framesR_all {its : List (Int × List UInt8)} (h : ∀ x ∈ its, 1 ≤ x.1 ∧ x.1 ≤ 255 ∧ x.2.length ≤ 2097152) (hb : (fmL its).length < 1000000000000) : framesR (fmL its) = (its, ((fmL its).length : Int), 0) := by
 have hle : its.length ≤ (fmL its).length := by
  clear h hb
  induction its with
  | nil => simp
  | cons x its ih =>
   have := frameL_len x.1 x.2
   simp only [fmL, List.flatMap_cons, List.length_append, List.length_cons] at *; omega
 have := frames_many (post := []) its [] ((fmL its).length + 1 - its.length) [] h (by simpa using hb)
 unfold framesR
 simp only [List.append_nil, List.nil_append, List.length_nil, Nat.zero_add] at this
 rw [show its.length + ((fmL its).length + 1 - its.length) = (fmL its).length + 1 by omega] at this
 rw [show (0 : Int) = ((0 : Nat) : Int) from rfl, this]
 obtain ⟨k, hk⟩ : ∃ k, (fmL its).length + 1 - its.length = k + 1 := ⟨(fmL its).length - its.length, by omega⟩
 rw [hk]
 simp only [framesF]
 rw [if_neg (by omega)]
 rfl
end Go.Proofs.YtfodebccikifcaaDoor
