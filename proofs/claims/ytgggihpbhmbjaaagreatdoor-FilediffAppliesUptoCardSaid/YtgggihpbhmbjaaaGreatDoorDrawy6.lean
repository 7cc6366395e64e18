/- The decompiler's rules of a region that leaves its order open. No condition. -/
import Derived.Test.YtgggihpbhmbjaaaGreatDoorOps2y6
namespace Go.Dc
section
variable {ρ : Option Nat} {P : Program} {n : Fr} {ops : Array Oper} {Q : Exit → Act → World → Prop} {L : Env} {w : World} {m : Mem} {own : List Piece}
def TS : List (Nat × (World → Prop)) → Array Bool → World → Prop
 | [], _, _ => True
 | p :: ks, l, w => (l.getD p.1 false = true ∨ p.2 w) ∧ TS ks l w
theorem TS_iff {ks : List (Nat × (World → Prop))} {l : Array Bool} {w : World} : TS ks l w ↔ ∀ p ∈ ks, l.getD p.1 false = true ∨ p.2 w := by
 induction ks with
 | nil => simp [TS]
 | cons p ks ih => simp [TS, ih]
def keysNot (ks : List (Nat × (World → Prop))) (i : Nat) : Bool := ks.all fun p => !Nat.beq p.1 i
theorem keysNot_spec {ks : List (Nat × (World → Prop))} {i : Nat} (h : keysNot ks i = true) : ∀ p ∈ ks, p.1 ≠ i := by
 intro p hp e
 have := List.all_eq_true.1 h p hp
 subst e
 simp at this
def wpAnyT (P : Program) (ops : Array Oper) (Q : Exit → Act → World → Prop) (ks : List (Nat × (World → Prop))) : Nat → Array Bool → Act → World → Prop
 | 0, listed, a, w => Region.ready .any ops listed = [] ∧ Q .normal a w
 | fuel + 1, listed, a, w =>
  (Region.ready .any ops listed = [] → Q .normal a w) ∧
  ∀ i ∈ Region.ready .any ops listed, opW P ops Q i (fun a' w' => TS ks (listed.setIfInBounds i true) w' ∧ wpAnyT P ops Q ks fuel (listed.setIfInBounds i true) a' w') a w
theorem wpAny_of_T {ρ : Option Nat} (hd : okDefer ρ ops = true) {ks : List (Nat × (World → Prop))} : ∀ (fuel : Nat) (listed : Array Bool) (a : Act) (w : World), wpAnyT P ops Q ks fuel listed a w → wpAnyIn (fen ρ) 0 P .any ops Q fuel listed a w
 | 0, _, _, _, h => h
 | fuel + 1, _, _, _, h => ⟨h.1, fun i hi => opW_in hd (fun a' w' h' => wpAny_of_T hd fuel _ a' w' h'.2) (h.2 i hi)⟩
theorem yieldsIf_opW {S : World → Prop} {i : Nat} {o : Oper} {v : Value} {a : Act} (hy : YieldsIf P ops S o v a) (hi : ops[i]? = some o)
  {K : Act → World → Prop} {w : World} (hS : S w) (h : K (a.put o.dst v) w) : opW P ops Q i K a w := by
 unfold opW
 simp only [hi]
 rcases hy with ⟨hw, hv⟩ | ⟨hw, rfl⟩
 ·simp only [hw, if_true, hv w hS, Oper.uponIn]; exact h
 ·simp only [hw, Bool.false_eq_true, if_false]; exact h
theorem opW_putIf {S : World → Prop} {j : Nat} {oi oj : Oper} {v : Value} (hj : ops[j]? = some oj) (hap : oi.apart ops oj = true)
  (hsi : ∀ cs b, oi.op ≠ .select cs b) (hsj : ∀ cs b, oj.op ≠ .select cs b)
  (hQ : ∀ c a w, Q (.panic c) (a.put oi.dst v) w → Q (.panic c) a w) {K : Act → World → Prop} {a : Act} {w : World}
  (hy : YieldsIf P ops S oi v a) (h : opW P ops Q j K (a.put oi.dst v) w) :
  opW P ops Q j (fun a' w' => YieldsIf P ops S oi v a' ∧ K (a'.put oi.dst v) w') a w := by
 obtain ⟨h1, h2, h3⟩ := Oper.apart_spec hap
 have keep : ∀ (a : Act), YieldsIf P ops S oi v a → ∀ u, YieldsIf P ops S oi v (a.put oj.dst u) := fun a hy u =>
  hy.of_same (execOp_put oi hsi a oj.dst u h3) (wanted_put oi a oj.dst u h3)
 have keepD : ∀ d, YieldsIf P ops S oi v { a with defers := d :: a.defers } := fun d => hy.of_same rfl rfl
 unfold opW at *
 simp only [hj] at *
 rw [wanted_put oj a oi.dst v h1] at h
 split
 ·rename_i hw
  simp only [hw, if_true] at h
  rw [execOp_put oj hsj a oi.dst v h1] at h
  generalize (execOp a.eval oj).run P w = r at *
  cases r with
  | ok x w' =>
   cases x <;> simp only [Oper.uponIn] at h ⊢
   case value u => exact ⟨keep a hy u, by rw [← Act.put_comm a v u h2]; exact h⟩
   case skip => exact ⟨keep a hy _, by rw [← Act.put_comm a v undef h2]; exact h⟩
   case defer d =>
    refine ⟨keep _ (keepD d) _, ?_⟩
    rw [← Act.put_comm _ v undef h2, ← Act.put_defers]
    exact h
   case enter f args =>
    refine ⟨h.1, CallsIn.mono h.2 fun e w'' he => ?_⟩
    cases e with
    | returned u => exact ⟨keep a hy u, by rw [← Act.put_comm a v u h2]; exact he⟩
    | panicked c => exact hQ _ _ _ he
    | outgrown => exact he
   case row row args => exact ⟨h.1, RowsIn.mono h.2 fun u w'' he => ⟨keep a hy u, by rw [← Act.put_comm a v u h2]; exact he⟩⟩
   case round l f tmps assign body =>
    refine ⟨h.1, RoundIn.mono h.2 fun e w'' he => ?_⟩
    cases e with
    | returned u => exact ⟨keep a hy u, by rw [← Act.put_comm a v u h2]; exact he⟩
    | panicked c => exact hQ _ _ _ he
    | outgrown => exact he
  | halt x w' =>
   cases x <;> simp only [Oper.uponIn] at h ⊢
   case panic u => exact hQ _ _ _ h
 ·rename_i hw
  simp only [hw] at h
  exact ⟨keep a hy _, by rw [← Act.put_comm a v undef h2]; exact h⟩
def waitsFor (ops : Array Oper) (k i : Nat) : Bool :=
 match ops[k]? with
 | none => true
 | some o => o.after.any fun e => Region.binds .any e && e.on == i
theorem waitsFor_spec {k i : Nat} (h : waitsFor ops k i = true) {listed : Array Bool} (hi : listed.getD i true = false) : k ∉ Region.ready .any ops listed := by
 intro hk
 obtain ⟨_, o, ho, hall⟩ := mem_ready.1 hk
 simp only [waitsFor, ho] at h
 obtain ⟨e, he, hb⟩ := Array.any_eq_true'.1 h
 simp only [Bool.and_eq_true, beq_iff_eq] at hb
 have h1 := hall e he hb.1
 rw [hb.2] at h1
 rcases Nat.lt_or_ge i listed.size with h' | h'
 ·simp [h'] at hi h1; rw [hi] at h1; cases h1
 ·simp [Array.getElem?_eq_none h'] at h1
theorem TS_set {ks : List (Nat × (World → Prop))} {l : Array Bool} {w : World} {i : Nat} (h : TS ks l w) : TS ks (l.setIfInBounds i true) w := by
 rw [TS_iff] at *
 intro p hp
 rcases h p hp with h | h
 ·left
  by_cases hi : i = p.1
  ·subst hi
   rcases Nat.lt_or_ge p.1 l.size with h' | h'
   ·simp [h']
   ·simp [Array.getElem?_eq_none h'] at h
  ·rw [getD_set_ne false hi]; exact h
 ·exact .inr h
theorem TS_unset {ks : List (Nat × (World → Prop))} {l : Array Bool} {w : World} {i j : Nat} (hk : ∀ p ∈ ks, p.1 ≠ i) (h : TS ks ((l.setIfInBounds i true).setIfInBounds j true) w) : TS ks (l.setIfInBounds j true) w := by
 by_cases hij : i = j
 ·subst hij; simpa using h
 rw [TS_iff] at *
 intro p hp
 rcases h p hp with h | h
 ·left
  by_cases hj : j = p.1
  ·subst hj
   rcases Nat.lt_or_ge p.1 l.size with h' | h'
   ·simp [h']
   ·simp [Array.getElem?_eq_none h'] at h; omega
  ·rw [getD_set_ne false hj] at h ⊢
   rw [getD_set_ne false (Ne.symm (hk p hp))] at h; exact h
 ·exact .inr h
theorem wpAnyT_first {k i : Nat} {S : World → Prop} {ks : List (Nat × (World → Prop))} (hmem : (k, S) ∈ ks) (hks : ∀ p ∈ ks, p.1 ≠ i) {oi : Oper} {v : Value} (hki : waitsFor ops k i = true) (hi : ops[i]? = some oi) (hsel : ∀ (j : Nat) (o : Oper) cs b, ops[j]? = some o → o.op ≠ .select cs b)
  (hQ : ∀ c a w, Q (.panic c) (a.put oi.dst v) w → Q (.panic c) a w) :
  ∀ (fuel : Nat) (listed : Array Bool) (a : Act) (w : World), listed.getD k false = false →
   (∀ j oj, ops[j]? = some oj → j ≠ i → listed.getD j true = false → (∀ e ∈ oj.after, Region.binds .any e = true → e.on ≠ i) → oi.apart ops oj = true) →
   i ∈ Region.ready .any ops listed → YieldsIf P ops S oi v a → TS ks listed w →
   wpAnyT P ops Q ks fuel (listed.setIfInBounds i true) (a.put oi.dst v) w → wpAnyT P ops Q ks (fuel + 1) listed a w := by
 have hne : k ≠ i := hks _ hmem
 have getS : ∀ {l : Array Bool} {w : World}, l.getD k false = false → TS ks l w → S w := fun h0 h => by
  rcases TS_iff.1 h _ hmem with h | h
  ·simp only at h; rw [h0] at h; cases h
  ·exact h
 intro fuel
 induction fuel with
 | zero =>
  intro listed a w hk0 _ hr hy hT H
  refine ⟨fun h => (by rw [h] at hr; cases hr), fun j hj => ?_⟩
  by_cases hji : j = i
  ·subst hji; exact yieldsIf_opW hy hi (getS hk0 hT) ⟨TS_set hT, H⟩
  ·have := ready_mono hj hji
   rw [H.1] at this
   cases this
 | succ fuel ih =>
  intro listed a w hk0 hfree hr hy hT H
  refine ⟨fun h => (by rw [h] at hr; cases hr), fun j hj => ?_⟩
  by_cases hji : j = i
  ·subst hji; exact yieldsIf_opW hy hi (getS hk0 hT) ⟨TS_set hT, H⟩
  ·have hjk : j ≠ k := by
    rintro rfl
    exact waitsFor_spec hki (mem_ready.1 hr).1 hj
   have h1 := H.2 j (ready_mono hj hji)
   obtain ⟨hjun, oj, hoj, hall⟩ := mem_ready.1 hj
   have hnot : ∀ e ∈ oj.after, Region.binds .any e = true → e.on ≠ i := fun e he hb heq => by
    have h1 := hall e he hb
    have h0 := (mem_ready.1 hr).1
    rw [heq] at h1
    rcases Nat.lt_or_ge i listed.size with h' | h'
    ·simp [h'] at h0 h1; rw [h0] at h1; cases h1
    ·simp [Array.getElem?_eq_none h'] at h1
   have h2 := opW_putIf hoj (hfree j oj hoj hji hjun hnot) (fun cs b => hsel i oi cs b hi) (fun cs b => hsel j oj cs b hoj) hQ hy h1
   have hfree' : ∀ q ok, ops[q]? = some ok → q ≠ i → (listed.setIfInBounds j true).getD q true = false →
     (∀ e ∈ ok.after, Region.binds .any e = true → e.on ≠ i) → oi.apart ops ok = true := fun q ok hk hki hun hno => by
    refine hfree q ok hk hki ?_ hno
    by_cases hjk : j = q
    ·subst hjk; exact hjun
    ·rw [getD_set_ne true hjk] at hun; exact hun
   have hk0' : (listed.setIfInBounds j true).getD k false = false := by rw [getD_set_ne false hjk]; exact hk0
   refine opW_mono (fun a' w' h3 => ?_) h2
   have hT' : TS ks (listed.setIfInBounds j true) w' := TS_unset hks h3.2.1
   refine ⟨hT', ih (listed.setIfInBounds j true) a' w' hk0' hfree' (ready_mono hr (Ne.symm hji)) h3.1 hT' ?_⟩
   rw [Array.setIfInBounds_comm _ _ hji]
   exact h3.2.2
def QP (Q : Exit → Act → World → Prop) : Prop := ∀ c a w d v, Q (.panic c) (Act.put a d v) w → Q (.panic c) a w
theorem qAa {K : Act → World → Prop} (h : QP Q) : QP (Exit.then K Q) := h
theorem qAc {id : Nat} (h : QP Q) : QP (Exit.inBlock id Q) := h
theorem qAe {fn : Func} {R : Ending → World → Prop} : QP (bodyPost P fn R) := by
 rintro c a w d v ⟨h1, h2⟩
 refine ⟨?_, h2⟩
 cases d <;> exact h1
def marks (l : List Nat) (n : Nat) : Array Bool := l.foldl (fun a i => a.setIfInBounds i true) (Array.replicate n false)
def WA (P : Program) (n : Fr) (ops : Array Oper) (Q : Exit → Act → World → Prop) (ks : List (Nat × (World → Prop))) (fuel : Nat) (done : List Nat) (L : Env) (w : World) : Prop :=
 TS ks (marks done ops.size) w → ∀ a, Fits n a L → wpAnyT P ops Q ks fuel (marks done ops.size) a w
theorem qLg (l : List Nat) (i n : Nat) : marks (l ++ [i]) n = (marks l n).setIfInBounds i true := by simp [marks, List.foldl_append]
theorem W_drawR {id : Nat} (hd : okDefer ρ ops = true) (ks : List (Nat × (World → Prop))) (hm : P.follows .mixedOrders = true) (st : St m own w) (h : ∀ w', w'.heap = w.heap → St m own w' → TS ks (marks [] ops.size) w' ∧ WA P n ops Q ks ops.size [] L w') : W ρ P n (.region id ops true) Q L w := by
 intro a ha
 have hh := h { w with drawn := w.drawn + 1 } rfl (st.grow ⟨⟨rfl, rfl⟩, rfl, dle⟩ fun _ _ => rfl)
 exact wpIn_region_any hm (wpAny_of_T hd (ks := ks) _ _ _ _ (hh.2 hh.1 a ha))
theorem qFi {id : Nat} (ks : List (Nat × (World → Prop))) (hm : P.follows .mixedOrders = true) (st : St m own w) (h : ∀ w', w'.heap = w.heap → St m own w' → TS ks (marks [] ops.size) w' ∧ WA P n ops Q ks ops.size [] L w') : W none P n (.region id ops true) Q L w := W_drawR rfl ks hm st h
def qLy (ops : Array Oper) (ks : List (Nat × (World → Prop))) (k i : Nat) (done : List Nat) : Bool :=
 Region.noSelect ops && Region.free .any ops (marks done ops.size) i && (Region.ready .any ops (marks done ops.size)).contains i && waitsFor ops k i && keysNot ks i && !((marks done ops.size).getD k false)
section
variable {ks : List (Nat × (World → Prop))}
theorem WA_first {k fuel : Nat} {S : World → Prop} {done : List Nat} {i : Nat} {o : Oper} {v : Value} {L' : Env} (h1 : ops[i]? = some o) (hs : qLy ops ks k i done = true) (hmem : (k, S) ∈ ks) (hq : QP Q)
  (hy : ∀ a, Fits n a L → YieldsIf P ops S o v a) (hL : ∀ a, Fits n a L → Fits n (a.put o.dst v) L') (h : WA P n ops Q ks fuel (done ++ [i]) L' w) : WA P n ops Q ks (fuel + 1) done L w := by
 simp only [qLy, Bool.and_eq_true, Bool.not_eq_true'] at hs
 obtain ⟨⟨⟨⟨⟨s1, s2⟩, s3⟩, s4⟩, s5⟩, s6⟩ := hs
 intro hT a ha
 have hT' : TS ks (marks (done ++ [i]) ops.size) w := by rw [qLg]; exact TS_set hT
 have := h hT' (a.put o.dst v) (hL a ha)
 rw [qLg] at this
 exact wpAnyT_first hmem (keysNot_spec s5) s4 h1 (Region.noSelect_spec s1) (fun c a w => hq c a w _ _) fuel _ a w s6 (Region.free_spec h1 s2) (by simpa using s3) (hy a ha) hT this
theorem WA_take {k fuel : Nat} {S : World → Prop} {done : List Nat} (i d : Nat) (op : Op) (v : Value) (ho : opAt ops L i = some (some d, op)) (hd : Nat.blt d n = true)
  (hs : qLy ops ks k i done = true) (hmem : (k, S) ∈ ks)
  (hq : QP Q) (hrun : ∀ o : Oper, o.op = op → ∀ w, S w → (execOp (evD L) o).run P w = .ok (.value v) w)
  (h : WA P n ops Q ks fuel (done ++ [i]) ((d, v) :: L) w) : WA P n ops Q ks (fuel + 1) done L w := by
 obtain ⟨o, h1, h2, h3, h4, h5⟩ := opAt_spec ho
 exact WA_first h1 hs hmem hq (v := v) (fun a ha => .inl ⟨ha.wanted h4, fun w' hw' => by rw [ha.exec h5]; exact hrun o h3 w' hw'⟩) (fun a ha => by rw [h2]; exact ha.put hd v) h
theorem qCi {k fuel : Nat} {S : World → Prop} {done : List Nat} (i d : Nat) (ho : ((ops[i]?).bind fun o => (qJw ops L o.guard).map fun b => (o.dst, b)) = some (some d, false)) (hd : Nat.blt d n = true)
  (hs : qLy ops ks k i done = true) (hmem : (k, S) ∈ ks)
  (hq : QP Q) (h : WA P n ops Q ks fuel (done ++ [i]) ((d, undef) :: L) w) : WA P n ops Q ks (fuel + 1) done L w := by
 obtain ⟨o, h1, h2⟩ := Option.bind_eq_some_iff.1 ho
 obtain ⟨b, h3, h4⟩ := Option.map_eq_some_iff.1 h2
 simp only [Prod.mk.injEq] at h4
 obtain ⟨h4, rfl⟩ := h4
 exact WA_first h1 hs hmem hq (v := undef) (fun a ha => .inr ⟨ha.wanted h3, rfl⟩) (fun a ha => by rw [h4]; exact ha.put hd undef) h
theorem qBy {fuel : Nat} {done : List Nat} (i : Nat) (hr : Region.ready .any ops (marks done ops.size) = [i])
  (h : One P n ops Q i (fun L' w' => TS ks (marks (done ++ [i]) ops.size) w' ∧ WA P n ops Q ks fuel (done ++ [i]) L' w') L w) : WA P n ops Q ks (fuel + 1) done L w := by
 intro _ a ha
 refine ⟨fun h0 => (by rw [hr] at h0; cases h0), fun j hj => ?_⟩
 rw [hr] at hj
 simp only [List.mem_singleton] at hj
 subst hj
 refine opW_mono (fun a' w' h' => ?_) (h a ha)
 obtain ⟨L', h1, h2, h3⟩ := h'
 have := h3 h2 a' h1
 rw [qLg] at h2
 rw [qLg] at this
 exact ⟨h2, this⟩
theorem qCl {fuel : Nat} {done : List Nat} (hr : Region.ready .any ops (marks done ops.size) = []) (h : X n Q .normal L w) : WA P n ops Q ks fuel done L w := by
 intro _ a ha
 cases fuel with
 | zero => exact ⟨hr, h a ha⟩
 | succ f => exact ⟨fun _ => h a ha, (by rw [hr]; simp)⟩
theorem qJu {fuel : Nat} {done : List Nat} {t : Nat} {b : Bool} (e : Bool) (h1 : look L t = some (.bool e)) (h2 : e = b) (h : WA P n ops Q ks fuel done ((t, .bool b) :: L) w) : WA P n ops Q ks fuel done L w := by
 intro hT a ha
 refine h hT a (ha.sub ?_)
 intro u v hv
 simp only [look] at hv
 cases hb : Nat.beq t u with
 | true =>
  simp only [hb, cond_true] at hv
  have := Nat.eq_of_beq_eq_true hb; subst this
  rw [h1, h2]; exact hv
 | false => simp only [hb, cond_false] at hv; exact hv
end
theorem Inv.anti {m' : Mem} (h : Inv m' w) (hle : m.le m') : Inv m w := ⟨fun b o v hv => h.1 b o v (hle.1 _ _ _ hv), fun b x hx => h.2.1 b x (hle.2.1 _ _ hx), hle.2.2 ▸ h.2.2⟩
theorem Piece.holds_anti {m' : Mem} {b : Nat} {o : Obj} (h : Piece.holds m' w (.blk b o)) (hle : m.le m') : Piece.holds m w (.blk b o) := by
 refine ⟨h.1, fun q => ?_, ?_⟩
 ·cases hc : m.cell b q with
  | none => rfl
  | some v => rw [← h.2.1 q, hle.1 _ _ _ hc]
 ·cases hc : m.obj b with
  | none => rfl
  | some v => rw [← h.2.2, hle.2.1 _ _ hc]
def pureAt (P : Program) (ops : Array Oper) (L : Env) (i : Nat) : Option (Nat × Value) :=
 match ops[i]? with
 | none => none
 | some o => match qJw ops L o.guard with
  | some true => bif opOK L o.op then (match o.dst, ev0 P (execOp (evD L) o) with
   | some d, some (.value v) => some (d, v)
   | _, _ => none) else none
  | _ => none
theorem qAo {ks : List (Nat × (World → Prop))} {k fuel : Nat} {S : World → Prop} {done : List Nat} (i d : Nat) (v : Value) (ho : pureAt P ops L i = some (d, v)) (hd : Nat.blt d n = true) (hs : qLy ops ks k i done = true) (hmem : (k, S) ∈ ks) (hq : QP Q)
  (h : WA P n ops Q ks fuel (done ++ [i]) ((d, v) :: L) w) : WA P n ops Q ks (fuel + 1) done L w := by
 unfold pureAt at ho
 cases h1 : ops[i]? with
 | none => simp [h1] at ho
 | some o =>
  simp only [h1] at ho
  cases hw : qJw ops L o.guard with
  | none => simp [hw] at ho
  | some b =>
   cases b with
   | false => simp [hw] at ho
   | true =>
    simp only [hw] at ho
    cases hk : opOK L o.op with
    | false => simp [hk] at ho
    | true =>
     simp only [hk, cond_true] at ho
     split at ho
     ·rename_i d' v' hd' he
      simp only [Option.some.injEq, Prod.mk.injEq] at ho
      obtain ⟨rfl, rfl⟩ := ho
      exact WA_first h1 hs hmem hq (v := v') (fun a ha => .inl ⟨ha.wanted hw, fun w' _ => by rw [ha.exec hk]; exact ev0_run he w'⟩) (fun a ha => by rw [hd']; exact ha.put hd v') h
     ·cases ho
theorem qBz {ks : List (Nat × (World → Prop))} {k fuel : Nat} {S : World → Prop} {done : List Nat} {t : TypeId} {x : Operand} {b o : Nat} {cs : List Value} (i d : Nat) (v : Value) (ho : opAt ops L i = some (some d, .load t x)) (hd : Nat.blt d n = true)
  (hs : qLy ops ks k i done = true) (hmem : (k, S) ∈ ks) (hq : QP Q) (hI : ∀ w, S w → Inv m w) (hx : evL L x = some (.pointer (some ⟨b, o, none⟩))) (hr : MRow m b o cs) (hv : loadV P t cs = some v)
  (h : WA P n ops Q ks fuel (done ++ [i]) ((d, v) :: L) w) : WA P n ops Q ks (fuel + 1) done L w := by
 refine WA_take i d _ v ho hd hs hmem hq (fun q hq w' hw' => ?_) h
 have hl := qKn (P := P) (w := w') (t := t) (b := b) (o := o) (cs := cs) (v := v) (fun j u hu => (hI w' hw').cell (hr j u hu)) hv
 simp [execOp, hq, Instr.loadAt, qBp hx, Instr.sureAddr, hl]
theorem qBu {ks : List (Nat × (World → Prop))} {k fuel : Nat} {S : World → Prop} {done : List Nat} {t e : TypeId} {x : Operand} {b o : Nat} {c : Array Value} {f : Nat × Nat} (i d : Nat) (v : Value) (ho : opAt ops L i = some (some d, .load t x)) (hd : Nat.blt d n = true)
  (hs : qLy ops ks k i done = true) (hmem : (k, S) ∈ ks) (hq : QP Q) (hI : ∀ w, S w → Piece.holds m w (.blk b (.cells c e f))) (hx : evL L x = some (.pointer (some ⟨b, o, none⟩))) (hv : loadV P t (c.toList.drop o) = some v)
  (h : WA P n ops Q ks fuel (done ++ [i]) ((d, v) :: L) w) : WA P n ops Q ks (fuel + 1) done L w := by
 refine WA_take i d _ v ho hd hs hmem hq (fun q hq w' hw' => ?_) h
 have hb := (hI w' hw').1
 have hl := qKn (P := P) (w := w') (t := t) (b := b) (o := o) (cs := c.toList.drop o) (v := v) (fun j u hu => by
  rw [List.getElem?_drop] at hu
  simp only [World.cell?, hb]
  simpa using hu) hv
 simp [execOp, hq, Instr.loadAt, qBp hx, Instr.sureAddr, hl]
theorem qIv {α : Type} {ks : List (Nat × (World → Prop))} {k fuel : Nat} {S : World → Prop} {done : List Nat} {t e : TypeId} {x y : Operand} (i d : Nat) (c : Codec α) {a : Option Addr} {cap : Nat} {l : List α} {kd : IntKind} {ix : Int} {z : α} (ho : opAt ops L i = some (some d, .indexAddr t x y)) (hd : Nat.blt d n = true)
  (hs : qLy ops ks k i done = true) (hmem : (k, S) ∈ ks) (hq : QP Q)
  (hx : evL L x = some (.slice a l.length cap)) (hy : evL L y = some (.int kd ix)) (hi : qHx P t = some (e, c.sz)) (hr : RepS c m a cap l) (hz : idx l ix = some z)
  (h : ∀ b o cs, c.rep m z cs → MRow m b o cs → WA P n ops Q ks fuel (done ++ [i]) ((d, .pointer (some ⟨b, o, none⟩)) :: L) w) : WA P n ops Q ks (fuel + 1) done L w := by
 obtain ⟨h1, inf, h2, h3⟩ := qHf hi
 unfold idx at hz
 split at hz
 ·rename_i h0
  have hlt : ix.toNat < l.length := (List.getElem?_eq_some_iff.1 hz).1
  cases a with
  | none => obtain ⟨rfl, _⟩ := hr.none_nil; simp at hlt
  | some p =>
   obtain ⟨cs, hc, hm⟩ := hr.2.2.2 _ _ hz
   refine WA_take i d _ _ ho hd hs hmem hq (fun q hq w' _ => ?_) (h p.block (p.off + ix.toNat * c.sz) cs hc hm)
   have hlt' : ix < (l.length : Int) := by omega
   simp [execOp, hq, Instr.indexAt, qBp hx, qBp hy, asIntOf, run_underlying h1, h0, hlt', sizeOf, typeInfo, h2, h3, qMp (hr.spot (fun e => by rw [e] at hlt; simp at hlt))]
 ·cases hz
theorem WA_slice {α : Type} {ks : List (Nat × (World → Prop))} {k fuel : Nat} {S : World → Prop} {done : List Nat} {t e : TypeId} {x : Operand} {lo hi : Option Operand} (i d : Nat) (c : Codec α) {a : Option Addr} {cap : Nat} {l r : List α} {li hix : Int}
  (ho : opAt ops L i = some (some d, .slice t x lo hi none)) (hd : Nat.blt d n = true) (hsT : qLy ops ks k i done = true) (hmem : (k, S) ∈ ks) (hq : QP Q) (hx : evL L x = some (.slice a l.length cap)) (hI : qHx P t = some (e, c.sz)) (hr : RepS c m a cap l)
  (hlo : (lo = none ∧ li = 0) ∨ ∃ y k, lo = some y ∧ evL L y = some (.int k li)) (hhi : (hi = none ∧ hix = l.length) ∨ ∃ y k, hi = some y ∧ evL L y = some (.int k hix)) (hs : subS l li hix = some r)
  (h : ∀ a' cap', RepS c m a' cap' r → WA P n ops Q ks fuel (done ++ [i]) ((d, .slice a' r.length cap') :: L) w) : WA P n ops Q ks (fuel + 1) done L w := by
 obtain ⟨v, hv, a', cap', rfl, hrep⟩ := run_slice (P := P) (L := L) c hx hI hr hlo hhi hs
 exact WA_take i d _ _ ho hd hsT hmem hq (fun q hq w' _ => hv q hq w') (h a' cap' hrep)
end
end Go.Dc
namespace Go.Dc
end Go.Dc
namespace Go.Dc
section
variable {ρ : Option Nat} {P : Program} {n : Fr} {ops : Array Oper} {Q : Exit → Act → World → Prop} {i d : Nat} {L : Env} {w : World} {m : Mem} {own : List Piece} {N : Env → World → Prop}
def u8Slice (P : Program) (t : TypeId) : Option TypeId :=
 match P.underlying t with
 | some (.slice e) => match P.underlying e with
  | some (.int .u8) => some e
  | _ => none
 | _ => none
theorem u8Slice_spec {t e : TypeId} (h : u8Slice P t = some e) : P.underlying t = some (.slice e) ∧ P.underlying e = some (.int .u8) := by
 unfold u8Slice at h
 split at h
 ·rename_i e' he
  split at h
  ·rename_i he'; simp only [Option.some.injEq] at h; subst h; exact ⟨he, he'⟩
  ·cases h
 ·cases h
theorem u8_cells {a : Option Addr} {cap : Nat} {l : List UInt8} (h : RepS cU8 m a cap l) : ∀ p, a = some p → (p.spot = none ∨ l = []) ∧ MRow m p.block p.off (l.map fun b => .int .u8 (b.toNat : Int)) := by
 rintro p rfl
 refine ⟨h.2.2.1, fun j v hv => ?_⟩
 rw [List.getElem?_map] at hv
 obtain ⟨x, hx, rfl⟩ := Option.map_eq_some_iff.1 hv
 obtain ⟨cs, hc, hm⟩ := h.2.2.2 j x hx
 have hcs : cs = [.int .u8 (x.toNat : Int)] := hc
 subst hcs
 have := hm 0 _ rfl
 have e : cU8.sz = 1 := rfl
 simp only [e, Nat.mul_one, Nat.add_zero] at this
 exact this
theorem One_bytesStr {t1 t2 e : TypeId} {x : Operand} {a : Option Addr} {cap : Nat} {l : List UInt8} (ho : opAt ops L i = some (some d, .convert t1 t2 x)) (hd : Nat.blt d n = true) (hx : evL L x = some (.slice a l.length cap))
  (h1 : u8Slice P t1 = some e) (h2 : P.underlying t2 = some .string) (st : St m own w) (hr : RepS cU8 m a cap l) (h : N ((d, .string (qNa l)) :: L) w) : One P n ops Q i N L w := by
 obtain ⟨g1, g2⟩ := u8Slice_spec h1
 refine qFb ho hd (fun q hq => ?_) h
 cases a with
 | none =>
  obtain ⟨rfl, _⟩ := hr.none_nil
  have hb : (Conv.bytesToString (.slice none 0 cap)).run P w = .ok (.string (qNa [])) w := rfl
  simp [execOp, hq, qBp hx, run_convert_bytes_string w t1 t2 e none _ _ g1 g2 h2, hb]
 | some p =>
  obtain ⟨hs, hm⟩ := u8_cells hr p rfl
  have hl := run_convert_bytes_back (P := P) w t1 t2 e p cap l g1 g2 h2 (fun j hj => by
   rw [qMp (hs.resolve_right (fun e => by rw [e] at hj; simp at hj))]
   exact st.inv.cell (hm j _ (by simp [hj])))
  simp [execOp, hq, qBp hx, hl, qNa]
def bytesOf (s : ByteArray) : Option (List UInt8) := if s.size ≤ maxLen then some s.data.toList else none
theorem One_strBytes {t1 t2 e : TypeId} {x : Operand} {s : ByteArray} {l : List UInt8} (ho : opAt ops L i = some (some d, .convert t1 t2 x)) (hd : Nat.blt d n = true) (hx : evL L x = some (.string s))
  (h1 : u8Slice P t2 = some e) (h2 : P.underlying t1 = some .string) (st : St m own w) (hs : bytesOf s = some l)
  (h : ∀ b cap m' w', m.le m' → St m' own w' → RepS cU8 m' (some ⟨b, 0, none⟩) cap l → N ((d, .slice (some ⟨b, 0, none⟩) l.length cap) :: L) w') : One P n ops Q i N L w := by
 obtain ⟨g1, g2⟩ := u8Slice_spec h1
 unfold bytesOf at hs
 split at hs
 ·rename_i hmx
  simp only [Option.some.injEq] at hs; subst hs
  generalize hgc : grownCap w s.size 0 e = gc
  have hge : s.size ≤ gc := hgc ▸ grownCap_ge _ _ _ _
  have hgm : gc ≤ maxLen := hgc ▸ grownCap_le_maxLen _ _ _ _ hmx
  generalize hcur : (s.data.map fun b => Value.int .u8 (b.toNat : Int)) ++ Array.replicate (gc - s.size) (.int .u8 0) = cur
  have hrun : (convert t1 t2 (.string s)).run P w = .ok (.slice (some ⟨w.heap.size, 0, none⟩) s.size gc) (w.drew.alloc (.cells cur e (cur.size, cur.size + 1))) := by
   have hforced : (Question.appendCap s.size 0 e).forced = false := rfl
   have hcut : (Question.appendCap s.size 0 e).cut (w.tape w.drawn (Question.appendCap s.size 0 e)) = gc := hgc
   have hal : (w.drew.alloc (.cells cur e)).heap[w.heap.size]? = some (.cells cur e) := by
    show (w.heap.push (.cells cur e))[w.heap.size]? = _
    simp
   have hsh : (w.drew.alloc (.cells cur e)).shape? w.heap.size = some (e, cur.size) := by
    unfold World.shape?
    rw [hal]
   have hfr : ∀ k : Nat, (w.drew.alloc (.cells cur e)).freeze ⟨w.heap.size, k, none⟩ 1 = w.drew.alloc (.cells cur e (k, k + 1)) := fun k => by
    unfold World.freeze World.alloc World.drew
    simp only [Nat.one_ne_zero, if_false]
    congr 1
    apply Array.ext
    ·simp
    ·intro j h1 h2
     simp only [Array.getElem_modify]
     by_cases hj : w.heap.size = j
     ·subst hj; simp
     ·have : j < w.heap.size := by simp at h1; omega
      simp [hj, Array.getElem_push_lt this]
   have hmk : (markStringish ⟨w.heap.size, 0, none⟩).run P (w.drew.alloc (.cells cur e)) = .ok () (w.drew.alloc (.cells cur e (cur.size, cur.size + 1))) := by
    simp [markStringish, hsh, hfr]
   have hnr : (newRow e cur).run P w.drew = .ok ⟨w.heap.size, 0, none⟩ (w.drew.alloc (.cells cur e)) := rfl
   have hst : (Conv.stringToBytes e s).run P w = .ok (.slice (some ⟨w.heap.size, 0, none⟩) s.size gc) (w.drew.alloc (.cells cur e (cur.size, cur.size + 1))) := by
    unfold Conv.stringToBytes
    simp only [Sem.run_bind, run_choose, hforced, Bool.false_eq_true, if_false, Result.andThen_ok, hcut, hcur]
    show ((newRow e cur).run P w.drew).andThen _ = _
    rw [hnr]
    simp only [Result.andThen_ok, hmk, Sem.run_pure]
   simp [convert, run_underlying h2, run_underlying g1, run_underlying g2, hst]
  have hal := st.alloc (w' := w.drew.alloc (.cells cur e (cur.size, cur.size + 1))) (o := .cells cur e (cur.size, cur.size + 1)) ⟨⟨rfl, rfl⟩, rfl, dle⟩ rfl
  have hfresh := st.fresh_free
  have htk : cur.toList.take (s.data.toList.map fun b => Value.int .u8 (b.toNat : Int)).length = s.data.toList.map fun b => Value.int .u8 (b.toNat : Int) := by
   rw [← hcur, Array.toList_append, Array.toList_map, List.take_left]
  obtain ⟨m', k1, k2, k3, _⟩ := St.know (b := w.heap.size) (cs := s.data.toList.map fun b => Value.int .u8 (b.toNat : Int)) hal.tail (hal.head_ne rfl) hal.head.1 htk (fun o v hv => by rw [hfresh.1 o] at hv; cases hv)
  have hrep : RepS cU8 m' (some ⟨w.heap.size, 0, none⟩) gc s.data.toList := RepS.of_cells (by simpa using hge) hgm (fun j x hx => by
   have hlt := (List.getElem?_eq_some_iff.1 hx).1
   have he := (List.getElem?_eq_some_iff.1 hx).2
   show List.take 1 (List.drop (j * 1) _) = _
   rw [Nat.mul_one, ← List.map_drop, ← List.map_take, List.drop_eq_getElem_cons hlt, he]
   rfl) k3
  have hlen : s.data.toList.length = s.size := by simp
  refine qFb ho hd (fun q hq => ?_) (h w.heap.size gc m' _ k1 k2 hrep)
  simp only [execOp, hq, qBp hx, Sem.run_bind, hrun, Result.andThen_ok, Sem.run_pure, hlen]
 ·cases hs
end
end Go.Dc
namespace Go.Dc
section
variable {ρ : Option Nat} {P : Program} {n : Fr} {ops : Array Oper} {Q : Exit → Act → World → Prop} {i d : Nat} {L : Env} {w : World} {m : Mem} {own : List Piece} {N : Env → World → Prop}
theorem Calls_cut {f : FuncId} {args : Array Value} {R : Ending → World → Prop} (I : Value → World → Prop) (hend : ∀ v w', I v w' → R (.returned v) w') (h : Calls P f args w fun e w' => ∃ v, e = .returned v ∧ I v w') : Calls P f args w R :=
 h.mono fun e w' ⟨v, he, hi⟩ => he ▸ hend v w' hi
end
end Go.Dc
