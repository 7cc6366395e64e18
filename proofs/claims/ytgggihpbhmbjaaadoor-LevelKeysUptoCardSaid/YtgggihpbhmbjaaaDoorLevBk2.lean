/- Levels: what takes the place of a key that was made. No condition. -/
import Derived.Test.YtgggihpbhmbjaaaDoorLevAk2
import Derived.Test.YtgggihpbhmbjaaaDoorOkbk2
import Derived.Test.YtgggihpbhmbjaaaDoorPthNk2
import Derived.Test.YtgggihpbhmbjaaaDoorPthZk2
namespace Go.Proofs.YtgggihpbhmbjaaaDoor
open Go Go.Dc Go.Sort Go.Proofs
def e0 : ByteArray := ⟨#[]⟩
def pkgL : List ByteArray := [⟨#[112]⟩, ⟨#[113]⟩, ⟨#[115]⟩]
def fnL : List ByteArray := [⟨#[102]⟩, ⟨#[103]⟩, ⟨#[104]⟩, ⟨#[107]⟩]
def tsL : List ByteArray := [⟨#[116]⟩, ⟨#[117]⟩, ⟨#[118]⟩]
def paL : List ByteArray := [⟨#[97, 46, 100, 97, 116]⟩, ⟨#[100, 47, 98, 46, 100, 97, 116]⟩, ⟨#[99]⟩, ⟨#[97, 46, 115, 114, 99]⟩, ⟨#[120, 46, 115, 114, 99]⟩]
def vaL : List ByteArray := [⟨#[110]⟩, ⟨#[109]⟩]
def madeL : List Ky :=
 (pkgL.flatMap fun p => fnL.map fun f => (1, p, f)) ++ (pkgL.flatMap fun p => tsL.map fun f => (2, p, f)) ++ paL.map (fun p => (3, p, e0)) ++ paL.map (fun p => (4, p, e0)) ++ vaL.map (fun p => (5, p, e0)) ++ pkgL.map (fun p => (6, p, e0)) ++ pkgL.map (fun p => (7, p, e0))
def checkP (k : Ky) : Bool :=
 if k.1 = 1 ∨ k.1 = 2 then nameP k.2.1 && nameP k.2.2 else if k.1 = 3 ∨ k.1 = 4 then pathB k.2.1.data.toList && decide (k.2.2 = e0) else if k.1 = 5 ∨ k.1 = 6 ∨ k.1 = 7 then nameP k.2.1 && decide (k.2.2 = e0) else false
theorem beq_e0 (s : ByteArray) : (s.toList == (⟨#[]⟩ : ByteArray).toList) = decide (s = e0) := by
 rw [Bool.eq_iff_iff]
 simp only [beq_iff_eq, decide_eq_true_eq]
 constructor
 ·intro h
  rw [ByteArray.toList_eq, ByteArray.toList_eq] at h
  exact Go.WideShapes.bytes_inj h
 ·rintro rfl; rfl
theorem fact_Check_eq {N : Nat} {k : Ky} (h1 : k.2.1.size < 100000000) (hN : 2 * k.2.1.size + 1000 < N) : fact_Check N k = some (checkP k) := by
 obtain ⟨q, x, y⟩ := k
 simp only at h1 hN
 simp only [fact_Check, checkP, Name_eq (N := N) (s := x) (by omega), Name_eq (N := N) (s := y) (by omega), Path_eq h1 hN, Option.bind_some, beq_e0]
 by_cases g1 : q = 1
 ·subst g1; simp; cases nameP x <;> rfl
 by_cases g2 : q = 2
 ·subst g2; simp; cases nameP x <;> rfl
 by_cases g3 : q = 3
 ·subst g3; simp; cases pathB x.data.toList <;> rfl
 by_cases g4 : q = 4
 ·subst g4; simp; cases pathB x.data.toList <;> rfl
 by_cases g5 : q = 5
 ·subst g5; simp; cases nameP x <;> rfl
 by_cases g6 : q = 6
 ·subst g6; simp; cases nameP x <;> rfl
 by_cases g7 : q = 7
 ·subst g7; simp; cases nameP x <;> rfl
 simp [g1, g2, g3, g4, g5, g6, g7]
theorem made_checkP : (madeL.all fun k => checkP k && decide (k.2.1.size < 100)) = true := by kernel_rfl
theorem made_check {N : Nat} (hN : 2000 ≤ N) {k : Ky} (hk : k ∈ madeL) : fact_Check N k = some true := by
 have h := List.all_eq_true.1 made_checkP k hk
 simp only [Bool.and_eq_true, decide_eq_true_eq] at h
 rw [fact_Check_eq (by omega) (by omega), h.1]
theorem made_kind : (madeL.all fun k => decide (1 ≤ k.1 ∧ k.1 ≤ 7)) = true := by kernel_rfl
section
variable {N : Nat} {l : List Int} {a : Int}
theorem Key_ok (h0 : 0 ≤ a) (h1 : a < 1000000000000000000) : Ok (testgatemake_Key N (l, a)) fun y => ∃ a' k, y = ((l, a'), k) ∧ a ≤ a' ∧ a' ≤ a + 3 ∧ k ∈ madeL := by
 unfold testgatemake_Key testgatemake_Packages testgatemake_Functions testgatemake_Tests testgatemake_Paths testgatemake_Variables
 refine Ok.next h0 (by omega) (by decide) (by decide) fun r r0 r1 => ?_
 simp only [Option.bind_some]
 refine Ok.one (by omega) (by omega) (by decide) (by decide) fun p hp => ?_
 have hp : p ∈ pkgL := hp
 have hr : r = 0 ∨ r = 1 ∨ r = 2 ∨ r = 3 ∨ r = 4 ∨ r = 5 ∨ r = 6 := by omega
 have w : ∀ z : Int, 0 ≤ z → z ≤ 6 → IntKind.wrap .i64 (1 + z) = 1 + z := fun z h0 h1 => wi64 (by omega) (by omega)
 rw [w r r0 (by omega)]
 have mem : ∀ {k : Ky} {A B : List Ky}, k ∈ A ∨ k ∈ B → k ∈ A ++ B := fun h => List.mem_append.2 h
 rcases hr with rfl | rfl | rfl | rfl | rfl | rfl | rfl
 ·refine Ok.assoc (Ok.one (by simp only; omega) (by simp only; omega) (by decide) (by decide) fun f hf => Ok.someb (Ok.mk ⟨_, _, rfl, by simp only; omega, by simp only; omega, ?_⟩))
  have hf : f ∈ fnL := hf
  simp only [madeL, List.mem_append, List.mem_flatMap, List.mem_map]
  exact .inl (.inl (.inl (.inl (.inl (.inl ⟨p, hp, f, hf, rfl⟩)))))
 ·refine Ok.assoc (Ok.one (by simp only; omega) (by simp only; omega) (by decide) (by decide) fun f hf => Ok.someb (Ok.mk ⟨_, _, rfl, by simp only; omega, by simp only; omega, ?_⟩))
  have hf : f ∈ tsL := hf
  simp only [madeL, List.mem_append, List.mem_flatMap, List.mem_map]
  exact .inl (.inl (.inl (.inl (.inl (.inr ⟨p, hp, f, hf, rfl⟩)))))
 ·refine Ok.assoc (Ok.one (by simp only; omega) (by simp only; omega) (by decide) (by decide) fun f hf => Ok.someb (Ok.mk ⟨_, _, rfl, by simp only; omega, by simp only; omega, ?_⟩))
  have hf : f ∈ paL := hf
  simp only [madeL, List.mem_append, List.mem_flatMap, List.mem_map]
  exact .inl (.inl (.inl (.inl (.inr ⟨f, hf, rfl⟩))))
 ·refine Ok.assoc (Ok.one (by simp only; omega) (by simp only; omega) (by decide) (by decide) fun f hf => Ok.someb (Ok.mk ⟨_, _, rfl, by simp only; omega, by simp only; omega, ?_⟩))
  have hf : f ∈ paL := hf
  simp only [madeL, List.mem_append, List.mem_flatMap, List.mem_map]
  exact .inl (.inl (.inl (.inr ⟨f, hf, rfl⟩)))
 ·refine Ok.assoc (Ok.one (by simp only; omega) (by simp only; omega) (by decide) (by decide) fun f hf => Ok.someb (Ok.mk ⟨_, _, rfl, by simp only; omega, by simp only; omega, ?_⟩))
  have hf : f ∈ vaL := hf
  simp only [madeL, List.mem_append, List.mem_flatMap, List.mem_map]
  exact .inl (.inl (.inr ⟨f, hf, rfl⟩))
 ·refine Ok.someb (Ok.mk ⟨_, _, rfl, by simp only; omega, by simp only; omega, ?_⟩)
  simp only [madeL, List.mem_append, List.mem_flatMap, List.mem_map]
  exact .inl (.inr ⟨p, hp, rfl⟩)
 ·refine Ok.someb (Ok.mk ⟨_, _, rfl, by simp only; omega, by simp only; omega, ?_⟩)
  simp only [madeL, List.mem_append, List.mem_flatMap, List.mem_map]
  exact .inr ⟨p, hp, rfl⟩
end
def keyP (n : Int) (k : Ky) : Ky := if n = 2 ∧ (k.1 = 1 ∨ k.1 = 2) then (6, k.2.1, e0) else if n = 3 ∧ (k.1 = 1 ∨ k.1 = 2 ∨ k.1 = 6) then (7, k.2.1, e0) else k
theorem known_ok {N : Nat} {n : Int} (h0 : 1 ≤ n) (h3 : n ≤ 3) : level_known N n = some true := by
 simp only [level_known, ge_iff_le, h0, decide_true, if_true, h3, Option.bind_some]
theorem level_Key_law {N : Nat} (hN : 2000 ≤ N) {n : Int} (h0 : 1 ≤ n) (h3 : n ≤ 3) {k : Ky} (hk : k ∈ madeL) : level_Key N k n = some (keyP n k, 0) := by
 have h1 := made_check hN hk
 have h2 := of_decide_eq_true (List.all_eq_true.1 made_kind k hk)
 simp only [level_Key, known_ok h0 h3, Option.bind_some, Bool.not_true, Bool.false_eq_true, if_false]
 rw [show fact_Check N (k.1, k.2.1, k.2.2) = some true from h1]
 simp only [Option.bind_some, Bool.not_true, Bool.false_eq_true, if_false]
 have hn : n = 1 ∨ n = 2 ∨ n = 3 := by omega
 obtain ⟨q, x, y⟩ := k
 simp only at h2
 have hq : q = 1 ∨ q = 2 ∨ q = 3 ∨ q = 4 ∨ q = 5 ∨ q = 6 ∨ q = 7 := by omega
 rcases hq with rfl | rfl | rfl | rfl | rfl | rfl | rfl <;> rcases hn with rfl | rfl | rfl <;> rfl
theorem Keys_loop {N : Nat} (hN : 2000 ≤ N) {n : Int} (h0 : 1 ≤ n) (h3 : n ≤ 3) {L : List Ky} (hl : L.length < 1000000) (hL : ∀ k ∈ L, k ∈ madeL) : ∀ (d i M : Nat), i + d = L.length → d < M →
  loopM (level_Keys_L1 N L n) M ((L.take i).map (keyP n), (i : Int)) = some (.inl (L.map (keyP n)))
 | _, _, 0, _, h => absurd h (Nat.not_lt_zero _)
 | d, i, M + 1, h1, h2 => by
  simp only [loopM, level_Keys_L1]
  cases d with
  | zero =>
   have hc : ¬ ((i : Int) < (L.length : Int)) := by omega
   simp only [hc, decide_false, Bool.false_eq_true, if_false, Option.bind_some]
   rw [List.take_of_length_le (by omega)]
  | succ d =>
   have hi : i < L.length := by omega
   have hc : ((i : Int) < (L.length : Int)) := by omega
   have w2 : IntKind.wrap .i64 ((i : Int) + 1) = ((i + 1 : Nat) : Int) := by rw [wi64 (by omega) (by omega)]; omega
   have hkey := level_Key_law hN h0 h3 (hL L[i] (List.getElem_mem hi))
   simp only [hc, decide_true, if_true, idx_nat hi, Option.bind_some, hkey, bne_self_eq_false, Bool.false_eq_true, if_false]
   rw [appendS_some (by simp only [List.length_map, List.length_take, List.length_cons, List.length_nil]; omega) (by decide)]
   simp only [Option.bind_some, w2]
   have := Keys_loop hN h0 h3 hl hL d (i + 1) M (by omega) (by omega)
   rw [List.take_succ_eq_append_getElem hi, List.map_append] at this
   exact this
theorem Keys_ok {N : Nat} {n : Int} (h0 : 1 ≤ n) (h3 : n ≤ 3) {L : List Ky} (hl : L.length < 1000000) (hN : L.length + 2000 < N) (hL : ∀ k ∈ L, k ∈ madeL) : level_Keys N L n = some (canon (L.map (keyP n)), 0) := by
 have h1 := Keys_loop (N := N) (by omega) h0 h3 hl hL L.length 0 N (by omega) (by omega)
 have h1' : loopM (level_Keys_L1 N L n) N (([] : List (Int × ByteArray × ByteArray)), 0) = some (.inl (L.map (keyP n))) := h1
 simp only [level_Keys, known_ok h0 h3, Option.bind_some, Bool.not_true, Bool.false_eq_true, if_false, h1']
 rw [fact_Set_law (by simpa using hl) (by simp only [List.length_map]; omega)]
 rfl
theorem Same_loop {N : Nat} {L : List Ky} (hl : L.length < 1000000) : ∀ (d i M : Nat), i + d = L.length → d < M → loopM (testgateref11_Same_L1 N L L) M (i : Int) = some (.inl ())
 | _, _, 0, _, h => absurd h (Nat.not_lt_zero _)
 | d, i, M + 1, h1, h2 => by
  simp only [loopM, testgateref11_Same_L1]
  cases d with
  | zero =>
   have hc : ¬ ((i : Int) < (L.length : Int)) := by omega
   simp only [hc, decide_false, Bool.false_eq_true, if_false, Option.bind_some]
  | succ d =>
   have hi : i < L.length := by omega
   have hc : ((i : Int) < (L.length : Int)) := by omega
   have w2 : IntKind.wrap .i64 ((i : Int) + 1) = ((i + 1 : Nat) : Int) := by rw [wi64 (by omega) (by omega)]; omega
   simp only [hc, decide_true, if_true, idx_nat hi, Option.bind_some, keyEq, Bool.not_true, Bool.false_eq_true, if_false, w2]
   exact Same_loop hl d (i + 1) M (by omega) (by omega)
theorem Same_refl {N : Nat} {L : List Ky} (hl : L.length < 1000000) (hN : L.length < N) : testgateref11_Same N L L = some true := by
 have h1 : loopM (testgateref11_Same_L1 N L L) N 0 = some (.inl ()) := Same_loop hl L.length 0 N (by omega) hN
 simp only [testgateref11_Same, bne_self_eq_false, Bool.false_eq_true, if_false, h1, Option.bind_some]
theorem in_made {k : Ky} (h : (madeL.any fun k' => decide (k' = k)) = true) : k ∈ madeL := by
 obtain ⟨k', h4, h5⟩ := List.any_eq_true.1 h
 rw [← of_decide_eq_true h5]; exact h4
theorem level_awake {N : Nat} (hN : 3000 < N) : testgatelaw12_awake N = some true := by
 have p1 : ((1, (⟨#[112]⟩ : ByteArray), (⟨#[102]⟩ : ByteArray)) : Ky) ∈ madeL := in_made (by kernel_rfl)
 have p2 : ((2, (⟨#[112]⟩ : ByteArray), (⟨#[116]⟩ : ByteArray)) : Ky) ∈ madeL := in_made (by kernel_rfl)
 have hk := level_Key_law (N := N) (by omega) (n := 2) (by decide) (by decide) p1
 have hK := Keys_ok (N := N) (n := 3) (by decide) (by decide) (L := [((1, (⟨#[112]⟩ : ByteArray), (⟨#[102]⟩ : ByteArray)) : Ky), (2, (⟨#[112]⟩ : ByteArray), (⟨#[116]⟩ : ByteArray))]) (by simp) (by simp only [List.length_cons, List.length_nil]; omega) (fun k hk => by
  simp only [List.mem_cons, List.not_mem_nil, or_false] at hk
  rcases hk with rfl | rfl
  ·exact p1
  ·exact p2)
 have e1 : canon ([((1, (⟨#[112]⟩ : ByteArray), (⟨#[102]⟩ : ByteArray)) : Ky), (2, (⟨#[112]⟩ : ByteArray), (⟨#[116]⟩ : ByteArray))].map (keyP 3)) = [(7, (⟨#[112]⟩ : ByteArray), e0)] := by
  have h1 : canon [((7, (⟨#[112]⟩ : ByteArray), e0) : Ky)] = [(7, (⟨#[112]⟩ : ByteArray), e0)] := by simp [canon, dedup]
  rw [← h1]
  exact canon_ext fun z => by simp [keyP]
 rw [e1] at hK
 have hf : level_Finer N 1 2 = some true := by kernel_rfl
 simp only [testgatelaw12_awake, hk, hK, hf, Option.bind_some]
 have x : idx [((7, (⟨#[112]⟩ : ByteArray), e0) : Ky)] 0 = some (7, (⟨#[112]⟩ : ByteArray), e0) := rfl
 simp only [x, Option.bind_some]
 refine Eq.trans (b := some true) ?_ rfl
 kernel_rfl
end Go.Proofs.YtgggihpbhmbjaaaDoor
