/- The plain law of WireDamage. No condition. -/
import Derived.Test.YtgkjigejejofkaaWireStq4
import Derived.Test.YtgkjigejejofkaaTapeq4
namespace Go.Proofs.Ytgkjigejejofkaa
open Go Go.Dc

/-! ### a beginning of bytes -/
theorem uend_prefix {t f : List UInt8} (hp : t <+: f) {a : Nat} (ha : a ≤ t.length) (h : uend t a < t.length) : uend f a = uend t a := by
  obtain ⟨r, rfl⟩ := hp
  unfold uend at *
  congr 1
  rw [List.drop_append_of_le_length ha]
  have hl : ((t.drop a).takeWhile (fun b => decide (128 ≤ b.toNat))).length < (t.drop a).length := by simp; omega
  rw [List.takeWhile_append]
  rw [if_neg (by omega)]

theorem uval_congr {t f : List UInt8} {a : Nat} : ∀ (k n : Nat), (∀ j, a ≤ j → j < a + k → t.getD j 0 = f.getD j 0) → uval t a k n = uval f a k n
  | 0, n, _ => by simp [uval]
  | k + 1, n, h => by
    simp only [uval]
    rw [h (a + k) (by omega) (by omega)]
    exact uval_congr k _ (fun j h1 h2 => h j h1 (by omega))

theorem getD_prefix {t f : List UInt8} (hp : t <+: f) {j : Nat} (h : j < t.length) : t.getD j 0 = f.getD j 0 := by
  obtain ⟨r, rfl⟩ := hp
  simp [List.getD_eq_getElem?_getD, List.getElem?_append_left h]

theorem uintP_prefix {t f : List UInt8} (hp : t <+: f) {i : Int} (h : (uintP t i).2.2 = 0) : uintP f i = uintP t i := by
  have hle := hp.length_le
  simp only [uintP] at h ⊢
  by_cases h0 : i < 0 ∨ i > t.length
  · rw [if_pos h0] at h; cases h
  · rw [if_neg h0] at h
    have ha : i.toNat ≤ t.length := by omega
    obtain ⟨he1, he2⟩ := uend_le ha
    split at h
    · cases h
    · rename_i h1
      have hlt : uend t i.toNat < t.length := by omega
      have heq := uend_prefix hp ha hlt
      rw [if_neg (show ¬ (i < 0 ∨ i > (f.length : Int)) by omega), if_neg h0, heq]
      rw [if_neg (show ¬ uend t i.toNat = f.length by omega), if_neg h1]
      rw [← getD_prefix hp hlt]
      split at h
      · cases h
      · rename_i h2
        rw [if_neg h2, if_neg h2]
        rw [uval_congr (t := f) (f := t) _ _ (fun j h3 h4 => (getD_prefix hp (by omega)).symm)]

/-! ### checksums of damaged bytes -/
def sumB (l : List UInt8) : Nat := (l.map (·.toNat)).sum
theorem ckS_sum (l : List UInt8) : (ckS l).1 = (1 + sumB l) % 65521 := by
  unfold ckS
  have : ∀ (l : List UInt8) (s : Nat × Nat) (m : Nat), s.1 = m % 65521 → (l.foldl ckStep s).1 = (m + sumB l) % 65521 := by
    intro l
    induction l with
    | nil => intro s m h; simpa [sumB] using h
    | cons c l ih =>
      intro s m h
      have := ih (ckStep s c) (m + c.toNat) (by simp only [ckStep, h]; omega)
      simp only [List.foldl_cons, this, sumB, List.map_cons, List.sum_cons]
      congr 1; omega
  exact this l (1, 0) 1 rfl
theorem ck_mod (l : List UInt8) : ck l % 65536 = (1 + sumB l) % 65521 := by
  have h := ckS_lt l
  rw [← ckS_sum]; unfold ck; omega
theorem sumB_set {l : List UInt8} {j : Nat} (h : j < l.length) (b : UInt8) : sumB (l.set j b) + l[j].toNat = sumB l + b.toNat := by
  induction l generalizing j with
  | nil => simp at h
  | cons x l ih =>
    cases j with
    | zero => simp [sumB]; omega
    | succ j =>
      have := ih (j := j) (by simpa using h)
      simp only [sumB, List.set_cons_succ, List.map_cons, List.sum_cons, List.getElem_cons_succ] at *
      omega
theorem ck_set {l : List UInt8} {j : Nat} (h : j < l.length) {b : UInt8} (hb : ck (l.set j b) = ck l) : b = l[j] := by
  have h1 := ck_mod (l.set j b)
  have h2 := ck_mod l
  have h3 := sumB_set h b
  have b1 := b.toNat_lt
  have b2 := l[j].toNat_lt
  rw [hb, h2] at h1
  apply UInt8.toNat_inj.1
  omega

/-- What is read as a whole frame of this length. -/
theorem nextR_whole {g : List UInt8} (h : (nextR g 0).2.2 = 0) (hl : (nextR g 0).2.1 = g.length) (h4 : 7 ≤ g.length) : (g.getD 0 0).toNat = 247 ∧ ck ((g.take (g.length - 4)).drop 1) = by4 g (g.length - 4) := by
  unfold nextR at h hl
  split at h
  · cases h
  · rename_i g0; rw [if_neg g0] at hl
    split at h
    · cases h
    · rename_i g1; rw [if_neg g1] at hl
      split at h
      · cases h
      · rename_i g2; rw [if_neg g2] at hl
        split at h
        · cases h
        · rename_i g3; rw [if_neg g3] at hl
          split at h
          · cases h
          · rename_i g4; rw [if_neg g4] at hl
            split at h
            · rename_i g5; exact absurd h g5
            · rename_i g5; rw [if_neg g5] at hl
              split at h
              · cases h
              · rename_i g6; rw [if_neg g6] at hl
                split at h
                · cases h
                · rename_i g7; rw [if_neg g7] at hl
                  split at h
                  · cases h
                  · rename_i g8; rw [if_neg g8] at hl
                    obtain ⟨n, k, hu, _, _, _⟩ := uintP_ok (Decidable.of_not_not g5)
                    rw [hu] at g8 hl
                    simp only at g8 hl
                    have e : ((k : Int) + (n : Int)).toNat = g.length - 4 := by omega
                    rw [e] at g8
                    exact ⟨Decidable.of_not_not g2, Decidable.of_not_not g8⟩

theorem xor_ne {a : UInt8} {b : Int} (hb : 0 ≤ b ∧ b ≤ 255) (h0 : b ≠ 0) : toU8 (iXor .u8 (a.toNat : Int) b) ≠ a := by
  intro h
  have hn : ((toU8 (iXor .u8 (a.toNat : Int) b)).toNat : Int) = (a.toNat : Int) := by rw [h]
  have ha := a.toNat_lt
  simp only [iXor] at hn
  rw [toU8_wrap, wrap_u8'] at hn
  have hx : (BitVec.ofInt 8 (a.toNat : Int) ^^^ BitVec.ofInt 8 b) = BitVec.ofInt 8 (a.toNat : Int) := by
    apply BitVec.eq_of_toNat_eq
    have h1 := ofInt_toNat8 (a.toNat : Int)
    have h2 := (BitVec.ofInt 8 (a.toNat : Int) ^^^ BitVec.ofInt 8 b).isLt
    have hn' : (((BitVec.ofInt 8 (a.toNat : Int) ^^^ BitVec.ofInt 8 b).toNat : Int)) % 256 = a.toNat := hn
    omega
  have hy : BitVec.ofInt 8 b = 0#8 := by
    have := congrArg (fun z => BitVec.ofInt 8 (a.toNat : Int) ^^^ z) hx
    simpa [← BitVec.xor_assoc] using this
  have h3 := ofInt_toNat8 b
  rw [hy] at h3
  simp at h3
  omega

theorem getD_set_self {l : List UInt8} {j : Nat} {b : UInt8} (h : j < l.length) : (l.set j b).getD j 0 = b := by simp [List.getD_eq_getElem?_getD, h]
theorem getD_set_ne' {l : List UInt8} {i j : Nat} {b : UInt8} (h : i ≠ j) : (l.set i b).getD j 0 = l.getD j 0 := by simp [List.getD_eq_getElem?_getD, List.getElem?_set_ne h]

/-- A frame in which a byte was changed is no frame of this length. -/
theorem damaged {kind : Int} {p : List UInt8} (h1 : 1 ≤ kind) (h2 : kind ≤ 255) (hp : p.length ≤ 2097152) {j : Nat} (hj : j < (frameL kind p).length) {b : UInt8} (hb : b ≠ (frameL kind p)[j]) :
    ¬ ((nextR ((frameL kind p).set j b) 0).2.2 = 0 ∧ (nextR ((frameL kind p).set j b) 0).2.1 = (frameL kind p).length) := by
  rintro ⟨he, hn⟩
  have hhl := headL_len (kind := kind) (p := p)
  have hfl := frameL_len kind p
  have he3 := encU_len p.length
  have hh2 : 3 ≤ (headL kind p).length := by
    obtain ⟨ini, x, hx, _⟩ := encF_spec 9 p.length (by omega)
    simp only [headL, List.length_append, encU, hx, List.length_cons, List.length_nil]; omega
  obtain ⟨w1, w2⟩ := nextR_whole (g := (frameL kind p).set j b) he (by simpa using hn) (by simp; omega)
  have hc := ck_lt ((headL kind p).drop 1)
  have hE : (frameL kind p).length - 4 = (headL kind p).length := by omega
  simp only [List.length_set] at w2
  rw [hE] at w2
  have hby : by4 (frameL kind p) (headL kind p).length = ck ((headL kind p).drop 1) := by
    have := by4_le4 (pre := headL kind p) (post := []) hc
    rw [List.append_nil] at this
    exact this
  have htake : (frameL kind p).take (headL kind p).length = headL kind p := by simp [frameL]
  rw [List.take_set] at w2
  by_cases hlt : j < (headL kind p).length
  · have hb4 : by4 ((frameL kind p).set j b) (headL kind p).length = by4 (frameL kind p) (headL kind p).length := by
      simp only [by4]
      rw [getD_set_ne' (by omega), getD_set_ne' (by omega), getD_set_ne' (by omega), getD_set_ne' (by omega)]
    rw [hb4, hby, htake] at w2
    rcases j with _ | j
    · -- the first byte
      rw [getD_set_self (by omega)] at w1
      apply hb
      apply UInt8.toNat_inj.1
      rw [w1]
      simp [frameL, headL]
    · have hd : ((headL kind p).set (j + 1) b).drop 1 = ((headL kind p).drop 1).set j b := by
        cases h : headL kind p with
        | nil => simp
        | cons x l => simp
      rw [hd] at w2
      have := ck_set (l := (headL kind p).drop 1) (j := j) (by simp; omega) w2
      apply hb
      rw [this]
      simp only [frameL, List.getElem_drop]
      rw [List.getElem_append_left (by omega)]
      congr 1; omega
  · have ht : ((frameL kind p).take (headL kind p).length).set j b = headL kind p := by rw [htake, List.set_eq_of_length_le (by omega)]
    rw [ht, ← hby] at w2
    have hg : ∀ i, i < (frameL kind p).length → ((frameL kind p).getD i 0).toNat < 256 := fun i _ => UInt8.toNat_lt _
    have e : ∀ i, (headL kind p).length ≤ i → i < (headL kind p).length + 4 → (((frameL kind p).set j b).getD i 0).toNat = ((frameL kind p).getD i 0).toNat := by
      have a0 := UInt8.toNat_lt (((frameL kind p).set j b).getD (headL kind p).length 0)
      have a1 := UInt8.toNat_lt (((frameL kind p).set j b).getD ((headL kind p).length + 1) 0)
      have a2 := UInt8.toNat_lt (((frameL kind p).set j b).getD ((headL kind p).length + 2) 0)
      have a3 := UInt8.toNat_lt (((frameL kind p).set j b).getD ((headL kind p).length + 3) 0)
      have c0 := UInt8.toNat_lt ((frameL kind p).getD (headL kind p).length 0)
      have c1 := UInt8.toNat_lt ((frameL kind p).getD ((headL kind p).length + 1) 0)
      have c2 := UInt8.toNat_lt ((frameL kind p).getD ((headL kind p).length + 2) 0)
      have c3 := UInt8.toNat_lt ((frameL kind p).getD ((headL kind p).length + 3) 0)
      simp only [by4] at w2
      intro i hi1 hi2
      obtain rfl | rfl | rfl | rfl : i = (headL kind p).length ∨ i = (headL kind p).length + 1 ∨ i = (headL kind p).length + 2 ∨ i = (headL kind p).length + 3 := by omega
      all_goals omega
    have := e j (by omega) (by omega)
    rw [getD_set_self hj, getD_at hj] at this
    exact hb (UInt8.toNat_inj.1 this)

/-- No beginning of a frame is a frame. -/
theorem beginning {kind : Int} {p : List UInt8} (h1 : 1 ≤ kind) (h2 : kind ≤ 255) (hp : p.length ≤ 2097152) {j : Nat} (hj : j < (frameL kind p).length) : (nextR ((frameL kind p).take j) 0).2.2 ≠ 0 := by
  intro h
  have hpre : (frameL kind p).take j <+: frameL kind p := List.take_prefix _ _
  have hl : ((frameL kind p).take j).length = j := by simp; omega
  have hu : uintP (frameL kind p) 2 = ((p.length : Int), ((2 + (encU p.length).length : Nat) : Int), 0) := by
    have := uintP_enc (pre := [247, toU8 (IntKind.wrap .u8 kind)]) (post := p ++ le4 (ck ((headL kind p).drop 1))) (n := p.length) (by omega)
    have e : [247, toU8 (IntKind.wrap .u8 kind)] ++ (encU p.length ++ (p ++ le4 (ck ((headL kind p).drop 1)))) = frameL kind p := by simp [frameL, headL]
    rw [e] at this
    simpa using this
  have hfl := frameL_len kind p
  have hhl : (headL kind p).length = 2 + (encU p.length).length + p.length := by simp [headL]; omega
  unfold nextR at h
  split at h
  · cases h
  · split at h
    · cases h
    · split at h
      · cases h
      · split at h
        · cases h
        · split at h
          · cases h
          · split at h
            · rename_i g5; exact g5 h
            · rename_i g5
              have hup := uintP_prefix hpre (i := 2) (by simpa using Decidable.of_not_not g5)
              rw [hu] at hup
              split at h
              · cases h
              · split at h
                · cases h
                · rename_i g7
                  have e2 : (0 : Int) + 2 = 2 := rfl
                  rw [e2, ← hup, hl] at g7
                  simp only at g7
                  omega

theorem testgatelaw03_WireDamage_true (l : List UInt8) (_gl : l.length * 1 ≤ reachBytes ∧ ∀ x ∈ l, True) (kind : Int) (gk : (Lit.int .u8 kind).wf = true) (at_ : Int) (_ga : (Lit.int .i64 at_).wf = true) (by_ : Int) (gb : (Lit.int .u8 by_).wf = true) :
    ∃ N, testgatelaw03_WireDamage N l kind at_ by_ = some true := by
  have hkd : 0 ≤ kind ∧ kind ≤ 255 := by simp [Lit.wf, IntKind.min, IntKind.max, IntKind.signed, IntKind.bits] at gk; omega
  have hby : 0 ≤ by_ ∧ by_ ≤ 255 := by simp [Lit.wf, IntKind.min, IntKind.max, IntKind.signed, IntKind.bits] at gb; omega
  refine ⟨29900 + 100, ?_⟩
  simp only [testgatelaw03_WireDamage, wire_awakeS]
  generalize hNe : 29900 + 100 = N
  obtain ⟨o1, h1, e1⟩ := cut_okS l 300 (by omega)
  have l1 : o1.length ≤ 300 := by rw [e1]; simp; omega
  simp only [Int.cast_ofNat_Int] at h1
  rw [h1]
  simp only [Option.bind_some]
  obtain ⟨kd, hkw, hk1, hk2⟩ : ∃ kd : Int, IntKind.wrap .i64 (1 + (IntKind.wrap .i64 (Int.tmod kind 255))) = kd ∧ 1 ≤ kd ∧ kd ≤ 255 := by
    have : Int.tmod kind 255 = kind % 255 := Int.tmod_eq_emod_of_nonneg hkd.1
    refine ⟨1 + kind % 255, ?_, by omega, by omega⟩
    rw [this, wi64 (x := kind % 255) (by omega) (by omega), wi64 (by omega) (by omega)]
  rw [hkw, wire_Frame_eq (by omega) (by omega)]
  have hr : frameR kd o1 = (frameL kd o1, 0) := by unfold frameR; rw [if_neg (by omega), if_neg (by omega)]
  have hhl := headL_len (kind := kd) (p := o1)
  have hh2 : 3 ≤ (headL kd o1).length := by
    obtain ⟨ini, x, hx, _⟩ := encF_spec 9 o1.length (by omega)
    simp only [headL, List.length_append, encU, hx, List.length_cons, List.length_nil]; omega
  have hfl := frameL_len kd o1
  have h7 : decide (((frameL kd o1).length : Int) < 7) = false := by simp; omega
  simp only [hr, Option.bind_some, bne_self_eq_false, Bool.false_eq_true, if_false, h7]
  obtain ⟨r, hf, hr0, hr1⟩ := fold_ok (N := N) (v := at_) (n := ((frameL kd o1).length : Int)) (by omega)
  have hr1 := hr1 (by omega)
  obtain ⟨j, rfl⟩ : ∃ j : Nat, r = j := ⟨r.toNat, by omega⟩
  have hj : j < (frameL kd o1).length := by omega
  simp only [hf, Option.bind_some]
  rw [subS_some (by omega) (by omega) (by omega)]
  simp only [Option.bind_some, Int.toNat_natCast]
  rw [wire_Next_eq (by simp; omega) (by simp; omega)]
  have hbeg := beginning hk1 hk2 (p := o1) (by omega) hj
  have hdrop : List.drop (Int.toNat 0) ((frameL kd o1).take j) = (frameL kd o1).take j := by simp
  have hbb : ((nextR (List.drop (Int.toNat 0) ((frameL kd o1).take j)) 0).2.2 == 0) = false := by rw [hdrop]; simpa using hbeg
  simp only [Option.bind_some, hbb, Bool.false_eq_true, if_false]
  rw [appendS_some (by simp; omega) (by omega)]
  simp only [List.nil_append, Option.bind_some]
  rw [appendS_some (by omega) (by omega)]
  simp only [Option.bind_some]
  rw [wire_Frames_eq (by simp; omega) (by simp; omega)]
  have hfm : frameL kd o1 ++ frameL kd o1 = fmL [(kd, o1), (kd, o1)] := by simp [fmL]
  rw [hfm, framesR_all (by
    intro x hx
    simp only [List.mem_cons, List.not_mem_nil, or_false, or_self] at hx
    subst hx
    exact ⟨hk1, hk2, by simp only; omega⟩) (by rw [← hfm]; simp; omega)]
  have hfl2 : (fmL [(kd, o1), (kd, o1)]).length = (frameL kd o1).length + (frameL kd o1).length := by rw [← hfm]; simp
  simp only [Option.bind_some, bne_self_eq_false, Bool.false_eq_true, if_false, hfl2]
  rw [wi64 (x := 2 * ((frameL kd o1).length : Int)) (by omega) (by omega)]
  have e2 : ((((frameL kd o1).length + (frameL kd o1).length : Nat) : Int) != 2 * ((frameL kd o1).length : Int)) = false := by simp; omega
  simp only [e2, Bool.false_eq_true, if_false, List.length_cons, List.length_nil]
  have hi1 : idx [(kd, o1), (kd, o1)] 1 = some (kd, o1) := rfl
  simp only [hi1, Option.bind_some, same_eq, Bool.not_true, show ((((0 + 1 + 1 : Nat) : Int)) != 2) = false from rfl, Bool.false_eq_true, if_false]
  have hap : appA 1 (frameL kd o1) = some (frameL kd o1) := by
    unfold appA; rw [if_pos]; exact ⟨fun e => by rw [e] at hj; simp at hj, by omega, by simp only [maxLen]; omega⟩
  simp only [hap, Option.bind_some, idx_nat hj]
  by_cases h0 : by_ = 0
  · simp [h0]
  · have h0' : (by_ == 0) = false := by simp [h0]
    simp only [h0', Bool.false_eq_true, if_false]
    rw [wire_Next_eq (by simp; omega) (by simp; omega)]
    have hdm := damaged hk1 hk2 (p := o1) (by omega) hj (b := toU8 (iXor .u8 ((frameL kd o1)[j].toNat : Int) by_)) (xor_ne hby h0)
    simp only [Option.bind_some]
    by_cases he : (nextR ((frameL kd o1).set j (toU8 (iXor .u8 ((frameL kd o1)[j].toNat : Int) by_))) 0).2.2 = 0
    · have hne : ¬ (nextR ((frameL kd o1).set j (toU8 (iXor .u8 ((frameL kd o1)[j].toNat : Int) by_))) 0).2.1 = ((frameL kd o1).length : Int) := fun e => hdm ⟨he, e⟩
      simp [he, hne]
    · simp [he]
end Go.Proofs.Ytgkjigejejofkaa
