/- The logic of the decompiler: known slots of a frame, runs of operations that touch no memory, and the rules of control. No condition. -/
import Derived.WalkKit
import Derived.Deep.LoopGhost
import Derived.KernelRfl
import Derived.OrdersHeld
import Derived.OrdersIn
import Derived.LoopNIn
import Derived.Sort.LoopGhostIn
import Derived.Laws.AppendOwn
namespace Go.Dc
theorem kr {p : Prop} (h : p := by kernel_rfl) : p := h
abbrev Env := List (Nat × Value)
def look : Env → Nat → Option Value
 | [], _ => none
 | (k, v) :: L, t => bif Nat.beq k t then some v else look L t
theorem look_append (A L : Env) (t : Nat) : look (A ++ L) t = (look A t).or (look L t) := by
 induction A with
 | nil => simp [look]
 | cons p A ih => obtain ⟨k, v⟩ := p; simp only [List.cons_append, look]; cases Nat.beq k t <;> simp [ih]
def evL (L : Env) : Operand → Option Value
 | .tmp t => look L t
 | .const v => some v
 | .global g => some (.pointer (some ⟨g, 0, none⟩))
 | .func f => some (.func (.func f) #[] #[])
theorem ev {L : Env} {x : Operand} (v : Value) (h : evL L x = some v := by kernel_rfl) : evL L x = some v := h
def evD (L : Env) (x : Operand) : Value := (evL L x).getD undef
structure Fr where
 sz : Nat
 marks : List Nat
instance : Coe Fr Nat := ⟨Fr.sz⟩
def markOf (D : Nat) : Deferred := { target := .collected D, args := #[] }
def Fits (n : Fr) (a : Act) (L : Env) : Prop := a.tmps.size = n.sz ∧ a.defers = n.marks.map markOf ∧ ∀ t v, look L t = some v → a.tmps[t]? = some v
theorem Fits.ev {n : Fr} {a : Act} {L : Env} (h : Fits n a L) {x : Operand} {v : Value} (hx : evL L x = some v) : a.eval x = v := by
 cases x with
 | tmp t => simp [Act.eval, h.2.2 t v hx]
 | const u => simp [evL] at hx; simp [Act.eval, hx]
 | global g => simp [evL] at hx; simp [Act.eval, hx]
 | func f => simp [evL] at hx; simp [Act.eval, hx]
def notSelect : Op → Bool
 | .select .. => false
 | _ => true
def allSome (L : Env) : List Operand → Bool
 | [] => true
 | x :: l => (evL L x).isSome && allSome L l
def opOK (L : Env) (o : Op) : Bool := notSelect o && allSome L o.operands.toList
theorem allSome_mem {L : Env} {l : List Operand} (h : allSome L l = true) : ∀ x ∈ l, (evL L x).isSome = true := by
 induction l with
 | nil => simp
 | cons y l ih =>
  simp only [allSome, Bool.and_eq_true] at h
  intro x hx
  rcases List.mem_cons.1 hx with rfl | hx
  ·exact h.1
  ·exact ih h.2 x hx
theorem Fits.exec {n : Fr} {a : Act} {L : Env} (h : Fits n a L) {o : Oper} (ok : opOK L o.op = true) : execOp a.eval o = execOp (evD L) o := by
 simp only [opOK, Bool.and_eq_true] at ok
 refine execOp_congr o ?_ ?_
 ·intro cs b hs; rw [hs] at ok; simp [notSelect] at ok
 ·intro x hx
  have := allSome_mem ok.2 x (by simpa using hx)
  obtain ⟨v, hv⟩ := Option.isSome_iff_exists.1 this
  rw [h.ev hv]; simp [evD, hv]
theorem Fits.put {n : Fr} {a : Act} {L : Env} (h : Fits n a L) {d : Nat} (hd : Nat.blt d n = true) (v : Value) : Fits n (a.put (some d) v) ((d, v) :: L) := by
 obtain ⟨h1, h2, h3⟩ := h
 have hd' : d < n := by simpa [Nat.blt_eq] using hd
 refine ⟨by simp [Act.put, h1], by simp [Act.put, h2], ?_⟩
 intro t u hu
 simp only [look] at hu
 simp only [Act.put]
 by_cases hdt : d = t
 ·subst hdt
  simp at hu; subst hu
  simp [Array.getElem?_setIfInBounds, h1, hd']
 ·have : Nat.beq d t = false := by cases hb : Nat.beq d t <;> simp_all [Nat.beq_eq]
  rw [this] at hu
  simp [Array.getElem?_setIfInBounds, hdt, h3 t u hu]
theorem Fits.sub {n : Fr} {a : Act} {L L' : Env} (h : Fits n a L) (hs : ∀ t v, look L' t = some v → look L t = some v) : Fits n a L' :=
 ⟨h.1, h.2.1, fun t v hv => h.2.2 t v (hs t v hv)⟩
def ev0 (P : Program) {α : Type} : Sem α → Option α
 | .pure a => some a
 | .program k => ev0 P (k P)
 | .mark _ k => ev0 P k
 | _ => none
theorem ev0_run {P : Program} {α : Type} {s : Sem α} {a : α} (h : ev0 P s = some a) (w : World) : s.run P w = .ok a w := by
 induction s with
 | pure b => simp [ev0] at h; subst h; rfl
 | program k ih => exact ih P h
 | mark m k ih => exact ih h
 | _ => simp [ev0] at h
def qJw (ops : Array Oper) (L : Env) (g : Option (Nat × Bool)) : Option Bool :=
 match g with
 | none => some true
 | some (j, want) => match (ops[j]?).bind (·.dst) with
  | none => some false
  | some t => match look L t with
   | none => none
   | some (.bool b) => some (bif want then b else !b)
   | some _ => some false
theorem Fits.wanted {n : Fr} {a : Act} {L : Env} (h : Fits n a L) {ops : Array Oper} {o : Oper} {b : Bool} (hw : qJw ops L o.guard = some b) :
  Region.wanted o (yielded ops a.tmps) = b := by
 unfold qJw at hw
 unfold Region.wanted
 cases hg : o.guard with
 | none => simp [hg] at hw; simp [hw]
 | some jw =>
  obtain ⟨j, want⟩ := jw
  simp only [hg] at hw
  simp only [yielded]
  cases hd : (ops[j]?).bind (·.dst) with
  | none => simp [hd] at hw; subst hw; rfl
  | some t =>
   simp only [hd] at hw
   cases ht : look L t with
   | none => simp [ht] at hw
   | some v =>
    have := h.2.2 t v ht
    simp only [ht] at hw
    cases v <;> simp_all <;> (subst hw; cases want <;> simp)
def putL (n : Nat) (d : Option Nat) (v : Value) (L : Env) : Option Env :=
 match d with
 | none => some L
 | some d => bif Nat.blt d n then some ((d, v) :: L) else none
def asV : Option Next → Option Value
 | some (.value v) => some v
 | some .skip => some undef
 | _ => none
def seg (P : Program) (n : Nat) (ops : Array Oper) : Nat → Nat → Env → Option Env
 | 0, _, L => some L
 | k + 1, i, L => match ops[i]? with
  | none => none
  | some o => match qJw ops L o.guard with
   | none => none
   | some false => (putL n o.dst undef L).bind fun L => seg P n ops k (i + 1) L
   | some true => bif opOK L o.op then (asV (ev0 P (execOp (evD L) o))).bind fun v => (putL n o.dst v L).bind fun L => seg P n ops k (i + 1) L else none
def wrs (ops : Array Oper) : Nat → Nat → List Nat
 | 0, _ => []
 | k + 1, i => ((ops[i]?).bind (·.dst)).toList ++ wrs ops k (i + 1)
def fen (ρ : Option Nat) : Fence := { Fence.wide with round := ρ }
def opW (P : Program) (ops : Array Oper) (Q : Exit → Act → World → Prop) (i : Nat) (K : Act → World → Prop) (a : Act) (w : World) : Prop :=
 match ops[i]? with
 | none => K a w
 | some o => if Region.wanted o (yielded ops a.tmps) then o.uponIn Fence.wide 0 P a K Q ((execOp a.eval o).run P w) else K (a.put o.dst undef) w
def opsW (P : Program) (ops : Array Oper) (Q : Exit → Act → World → Prop) : List Nat → Act → World → Prop
 | [], a, w => Q .normal a w
 | i :: rest, a, w => opW P ops Q i (opsW P ops Q rest) a w
theorem uponIn_mono {ρ : Option Nat} {P : Program} {o : Oper} {a : Act} {K K' : Act → World → Prop} {Q : Exit → Act → World → Prop} {r : Result Next} (h : ∀ a w, K a w → K' a w) (hh : o.uponIn Fence.wide 0 P a K Q r) : o.uponIn (fen ρ) 0 P a K' Q r := by
 cases r with
 | ok x w' =>
  cases x <;> simp only [Oper.uponIn] at hh ⊢ <;>
   first
    | exact h _ _ hh
    | exact ⟨fun e => by simp [fen, Fence.wide] at e, CallsIn.mono (F := fen ρ) hh.2 (fun e w'' he => by cases e <;> first | exact h _ _ he | exact he)⟩
    | exact ⟨fun e => by simp [fen, Fence.wide] at e, RowsIn.mono (F := fen ρ) hh.2 (fun _ _ he => h _ _ he)⟩
    | exact ⟨fun e => by simp [fen, Fence.wide] at e, RoundIn.mono (F := fen ρ) hh.2 (fun e w'' he => by cases e <;> first | exact h _ _ he | exact he)⟩
 | halt x w' => cases x <;> simp only [Oper.uponIn] at hh ⊢ <;> exact hh
theorem opW_mono {P : Program} {ops : Array Oper} {Q : Exit → Act → World → Prop} {i : Nat} {K K' : Act → World → Prop} {a : Act} {w : World} (h : ∀ a w, K a w → K' a w) (hh : opW P ops Q i K a w) : opW P ops Q i K' a w := by
 unfold opW at *
 split
 ·rename_i ho; simp only [ho] at hh; exact h _ _ hh
 ·rename_i o ho
  simp only [ho] at hh
  split
  ·rename_i hw; simp only [hw, if_true] at hh; exact uponIn_mono (ρ := none) h hh
  ·rename_i hw; simp only [hw] at hh; exact h _ _ hh
def okDefer (ρ : Option Nat) (ops : Array Oper) : Bool :=
 match ρ with
 | none => true
 | some _ => ops.toList.all fun o => match o.op with
  | .defer _ => false
  | _ => true
theorem okDefer_sem {ρ : Option Nat} {ops : Array Oper} (h : okDefer ρ ops = true) {i : Nat} {o : Oper} (ho : ops[i]? = some o) (ev : Operand → Value) : o.semAt ρ ev = execOp ev o := by
 cases ρ with
 | none => rfl
 | some l =>
  refine Oper.semAt_eq _ _ _ fun c hc => ?_
  have := List.all_eq_true.1 h o (by simpa using Array.mem_of_getElem? ho)
  rw [hc] at this
  exact Bool.false_ne_true this
theorem opW_in {ρ : Option Nat} {P : Program} {ops : Array Oper} {Q : Exit → Act → World → Prop} (hd : okDefer ρ ops = true) {i : Nat} {K K' : Act → World → Prop} (hk : ∀ a w, K a w → K' a w) {a : Act} {w : World} (h : opW P ops Q i K a w) : wpOpIn (fen ρ) 0 P ops Q i K' a w := by
 unfold opW at h
 unfold wpOpIn
 cases ho : ops[i]? with
 | none => simp only [ho] at h ⊢; exact hk _ _ h
 | some o =>
  simp only [ho] at h ⊢
  by_cases hw : Region.wanted o (yielded ops a.tmps) = true
  ·simp only [hw, if_true] at h ⊢
   refine ⟨fun _ _ => trivial, ?_⟩
   have hs : o.semAt (fen ρ).round a.eval = execOp a.eval o := okDefer_sem hd ho a.eval
   rw [hs]
   exact uponIn_mono hk h
  ·simp only [hw] at h ⊢
   exact ⟨fun _ _ => trivial, hk _ _ h⟩
theorem opsW_in {ρ : Option Nat} {P : Program} {ops : Array Oper} {Q : Exit → Act → World → Prop} (hd : okDefer ρ ops = true) : ∀ (l : List Nat) (a : Act) (w : World), opsW P ops Q l a w → wpOpsIn (fen ρ) 0 P ops Q l a w
 | [], _, _, h => h
 | i :: rest, a, w, h => by
  rw [wpOpsIn_cons]
  exact opW_in hd (opsW_in hd rest) h
def WO (P : Program) (n : Fr) (ops : Array Oper) (Q : Exit → Act → World → Prop) (i : Nat) (L : Env) (w : World) : Prop :=
 ∀ a, Fits n a L → opsW P ops Q (List.range' i (ops.size - i)) a w
theorem range'_at {ops : Array Oper} {i : Nat} {o : Oper} (h : ops[i]? = some o) : List.range' i (ops.size - i) = i :: List.range' (i + 1) (ops.size - (i + 1)) := by
 have hi : i < ops.size := (Array.getElem?_eq_some_iff.1 h).1
 have : ops.size - i = (ops.size - (i + 1)) + 1 := by omega
 rw [this, List.range'_succ]
theorem Fits.putL {n : Fr} {a : Act} {L L' : Env} (h : Fits n a L) {d : Option Nat} {v : Value} (hp : Dc.putL n d v L = some L') : Fits n (a.put d v) L' := by
 cases d with
 | none => simp [Dc.putL] at hp; subst hp; exact h
 | some d =>
  simp only [Dc.putL] at hp
  cases hb : Nat.blt d n with
  | false => simp [hb] at hp
  | true => simp [hb] at hp; subst hp; exact h.put hb v
section
variable {P : Program} {n : Fr} {ops : Array Oper} {Q : Exit → Act → World → Prop}
theorem seg_run : ∀ (k i : Nat) (L L' : Env) (w : World), seg P n ops k i L = some L' → WO P n ops Q (i + k) L' w → WO P n ops Q i L w
 | 0, i, L, L', w, h, hk => by simp [seg] at h; subst h; exact hk
 | k + 1, i, L, L', w, h, hk => by
  intro a ha
  simp only [seg] at h
  cases ho : ops[i]? with
  | none => simp [ho] at h
  | some o =>
   simp only [ho] at h
   rw [range'_at ho]
   simp only [opsW, opW, ho]
   cases hw : qJw ops L o.guard with
   | none => simp [hw] at h
   | some b =>
    have hwant := ha.wanted hw
    cases b with
    | false =>
     simp only [hw] at h
     obtain ⟨L1, h1, h2⟩ := Option.bind_eq_some_iff.1 h
     simp only [hwant, Bool.false_eq_true, if_false]
     exact seg_run k (i + 1) L1 L' w h2 (by rw [Nat.add_assoc, Nat.add_comm 1 k]; exact hk) _ (ha.putL h1)
    | true =>
     simp only [hw] at h
     cases hok : opOK L o.op with
     | false => simp [hok] at h
     | true =>
      simp only [hok, cond_true] at h
      obtain ⟨v, hv, h⟩ := Option.bind_eq_some_iff.1 h
      obtain ⟨L1, h1, h2⟩ := Option.bind_eq_some_iff.1 h
      simp only [hwant, if_true]
      have next := seg_run k (i + 1) L1 L' w h2 (by rw [Nat.add_assoc, Nat.add_comm 1 k]; exact hk) _ (ha.putL h1)
      rw [ha.exec hok]
      cases hev : ev0 P (execOp (evD L) o) with
      | none => simp [hev, asV] at hv
      | some nx =>
       rw [ev0_run hev w]
       cases nx <;> simp [hev, asV] at hv
       case value u => subst hv; exact next
       case skip => subst hv; exact next
def segNew (P : Program) (n : Nat) (ops : Array Oper) (k i : Nat) (L : Env) (ks : List Nat) : Option (List (Option Value)) := (seg P n ops k i L).map fun L' => ks.map (look L')
def memN (d : Nat) : Env → Bool
 | [] => false
 | p :: l => Nat.beq p.1 d || memN d l
def shadowOK (L new : Env) : List Nat → Bool
 | [] => true
 | d :: l => (memN d new || (look L d).isNone) && shadowOK L new l
theorem look_memN {d : Nat} : ∀ {l : Env}, memN d l = true → ∃ v, look l d = some v
 | [], h => by simp [memN] at h
 | (k, v) :: l, h => by
  simp only [memN, Bool.or_eq_true] at h
  simp only [look]
  cases hb : Nat.beq k d with
  | true => exact ⟨v, rfl⟩
  | false => simp [hb] at h; exact look_memN h
theorem look_key {d : Nat} {v : Value} : ∀ {l : Env}, look l d = some v → (d, v) ∈ l
 | [], h => by simp [look] at h
 | (k, u) :: l, h => by
  simp only [look] at h
  cases hb : Nat.beq k d with
  | true => simp [hb] at h; subst h; have := Nat.eq_of_beq_eq_true hb; subst this; exact List.mem_cons_self ..
  | false => simp [hb] at h; exact List.mem_cons_of_mem _ (look_key h)
theorem shadowOK_mem {L new : Env} : ∀ {l : List Nat}, shadowOK L new l = true → ∀ d ∈ l, memN d new = true ∨ look L d = none
 | [], _ => by simp
 | e :: l, h => by
  simp only [shadowOK, Bool.and_eq_true, Bool.or_eq_true, Option.isNone_iff_eq_none] at h
  intro d hd
  rcases List.mem_cons.1 hd with rfl | hd
  ·exact h.1
  ·exact shadowOK_mem h.2 d hd
theorem seg_keeps : ∀ (k i : Nat) (L L' : Env), seg P n ops k i L = some L' → ∀ t, t ∉ wrs ops k i → look L' t = look L t
 | 0, i, L, L', h, t, _ => by simp [seg] at h; subst h; rfl
 | k + 1, i, L, L', h, t, ht => by
  simp only [seg] at h
  cases ho : ops[i]? with
  | none => simp [ho] at h
  | some o =>
   simp only [ho] at h
   simp only [wrs, ho, Option.bind_some, List.mem_append, not_or] at ht
   have put : ∀ v L1, putL n o.dst v L = some L1 → look L1 t = look L t := by
    intro v L1 h1
    cases hd : o.dst with
    | none => simp [putL, hd] at h1; subst h1; rfl
    | some d =>
     simp only [putL, hd] at h1
     cases hb : Nat.blt d n with
     | false => simp [hb] at h1
     | true =>
      simp [hb] at h1; subst h1
      have hne : d ≠ t := by rintro rfl; exact ht.1 (by simp [hd])
      have : Nat.beq d t = false := by cases hq : Nat.beq d t <;> simp_all [Nat.beq_eq]
      simp [look, this]
   cases hw : qJw ops L o.guard with
   | none => simp [hw] at h
   | some b =>
    cases b with
    | false =>
     simp only [hw] at h
     obtain ⟨L1, h1, h2⟩ := Option.bind_eq_some_iff.1 h
     rw [seg_keeps k (i + 1) L1 L' h2 t ht.2, put _ _ h1]
    | true =>
     simp only [hw] at h
     cases hok : opOK L o.op with
     | false => simp [hok] at h
     | true =>
      simp only [hok, cond_true] at h
      obtain ⟨v, hv, h⟩ := Option.bind_eq_some_iff.1 h
      obtain ⟨L1, h1, h2⟩ := Option.bind_eq_some_iff.1 h
      rw [seg_keeps k (i + 1) L1 L' h2 t ht.2, put _ _ h1]
theorem qAb {i : Nat} {L : Env} {w : World} (k : Nat) (new : Env) (h1 : segNew P n ops k i L (new.map (·.1)) = some (new.map fun p => some p.2))
  (h2 : shadowOK L new (wrs ops k i) = true) (h : WO P n ops Q (i + k) (new ++ L) w) : WO P n ops Q i L w := by
 simp only [segNew, Option.map_eq_some_iff] at h1
 obtain ⟨L', hs, hm⟩ := h1
 refine seg_run k i L L' w hs ?_
 intro a ha
 refine h a (ha.sub ?_)
 intro t v hv
 rw [look_append] at hv
 cases hn : look new t with
 | some u =>
  simp [hn] at hv; subst hv
  have hmem := look_key hn
  have : ∀ (l : Env), l.map (look L' ∘ (·.1)) = l.map (fun p => some p.2) → ∀ p ∈ l, look L' p.1 = some p.2 := by
   intro l hl p hp
   induction l with
   | nil => simp at hp
   | cons q l ih =>
    simp only [List.map_cons, List.cons.injEq, Function.comp] at hl
    rcases List.mem_cons.1 hp with rfl | hp
    ·exact hl.1
    ·exact ih (by simpa [Function.comp] using hl.2) hp
  exact this new (by simpa using hm) (t, u) hmem
 | none =>
  simp [hn] at hv
  by_cases hw : t ∈ wrs ops k i
  ·rcases shadowOK_mem h2 t hw with hmn | hno
   ·obtain ⟨u, hu⟩ := look_memN hmn; rw [hu] at hn; cases hn
   ·rw [hno] at hv; cases hv
  ·rw [seg_keeps k i L L' hs t hw]; exact hv
def opAt (ops : Array Oper) (L : Env) (i : Nat) : Option (Option Nat × Op) :=
 match ops[i]? with
 | none => none
 | some o => match qJw ops L o.guard with
  | some true => bif opOK L o.op then some (o.dst, o.op) else none
  | _ => none
theorem opAt_spec {L : Env} {i : Nat} {d : Option Nat} {op : Op} (h : opAt ops L i = some (d, op)) :
  ∃ o, ops[i]? = some o ∧ o.dst = d ∧ o.op = op ∧ qJw ops L o.guard = some true ∧ opOK L o.op = true := by
 unfold opAt at h
 cases ho : ops[i]? with
 | none => simp [ho] at h
 | some o =>
  simp only [ho] at h
  cases hw : qJw ops L o.guard with
  | none => simp [hw] at h
  | some b =>
   cases b with
   | false => simp [hw] at h
   | true =>
    simp only [hw] at h
    cases hk : opOK L o.op with
    | false => simp [hk] at h
    | true =>
     simp [hk] at h
     exact ⟨o, rfl, h.1, h.2, hw, hk⟩
def One (P : Program) (n : Fr) (ops : Array Oper) (Q : Exit → Act → World → Prop) (i : Nat) (N : Env → World → Prop) (L : Env) (w : World) : Prop :=
 ∀ a, Fits n a L → opW P ops Q i (fun a' w' => ∃ L', Fits n a' L' ∧ N L' w') a w
theorem qAd {i : Nat} {L : Env} {w : World} (hi : Nat.blt i ops.size = true) (h : One P n ops Q i (fun L w => WO P n ops Q (i + 1) L w) L w) : WO P n ops Q i L w := by
 have hi' : i < ops.size := by simpa [Nat.blt_eq] using hi
 intro a ha
 have ho : ops[i]? = some ops[i] := Array.getElem?_eq_getElem hi'
 rw [range'_at ho]
 have fin : ∀ a' w', (∃ L', Fits n a' L' ∧ WO P n ops Q (i + 1) L' w') → opsW P ops Q (List.range' (i + 1) (ops.size - (i + 1))) a' w' := fun a' w' ⟨L', h1, h2⟩ => h2 a' h1
 exact opW_mono fin (h a ha)
section
variable {N : Env → World → Prop}
theorem qFb {i d : Nat} {op : Op} {L : Env} {w w' : World} {v : Value} (ho : opAt ops L i = some (some d, op)) (hd : Nat.blt d n = true)
  (hrun : ∀ o : Oper, o.op = op → (execOp (evD L) o).run P w = .ok (.value v) w')
  (h : N ((d, v) :: L) w') : One P n ops Q i N L w := by
 obtain ⟨o, h1, h2, h3, h4, h5⟩ := opAt_spec ho
 intro a ha
 unfold opW
 simp only [h1, ha.wanted h4, if_true]
 rw [ha.exec h5, hrun o h3, Oper.uponIn_value, h2]
 exact ⟨_, ha.put hd v, h⟩
theorem qLc {i : Nat} {op : Op} {L : Env} {w w' : World} (ho : opAt ops L i = some (none, op))
  (hrun : ∀ o : Oper, o.op = op → (execOp (evD L) o).run P w = .ok .skip w')
  (h : N L w') : One P n ops Q i N L w := by
 obtain ⟨o, h1, h2, h3, h4, h5⟩ := opAt_spec ho
 intro a ha
 unfold opW
 simp only [h1, ha.wanted h4, if_true]
 rw [ha.exec h5, hrun o h3, Oper.uponIn_skip, h2]
 exact ⟨_, ha, h⟩
theorem qLb {i d : Nat} {op : Op} {L : Env} {w w' : World} {v : Value} (ho : opAt ops L i = some (some d, op)) (hd : Nat.blt d n = true)
  (hrun : ∀ o : Oper, o.op = op → ∃ v' w', (execOp (evD L) o).run P w = .ok (.value v') w' ∧ N ((d, v') :: L) w') : One P n ops Q i N L w := by
 obtain ⟨o, h1, h2, h3, h4, h5⟩ := opAt_spec ho
 obtain ⟨v', w'', hr, hk⟩ := hrun o h3
 intro a ha
 unfold opW
 simp only [h1, ha.wanted h4, if_true]
 rw [ha.exec h5, hr, Oper.uponIn_value, h2]
 exact ⟨_, ha.put hd v', hk⟩
def callAt (P : Program) (ops : Array Oper) (L : Env) (i : Nat) : Option (Option Nat × Nat × Array Value) :=
 match ops[i]? with
 | none => none
 | some o => match qJw ops L o.guard with
  | some true => bif opOK L o.op then (match ev0 P (execOp (evD L) o) with
   | some (.enter f args) => some (o.dst, f, args)
   | _ => none) else none
  | _ => none
theorem callAt_spec {L : Env} {i f : Nat} {d : Option Nat} {args : Array Value} (h : callAt P ops L i = some (d, f, args)) :
  ∃ o, ops[i]? = some o ∧ o.dst = d ∧ qJw ops L o.guard = some true ∧ opOK L o.op = true ∧ ev0 P (execOp (evD L) o) = some (.enter f args) := by
 unfold callAt at h
 cases h1 : ops[i]? with
 | none => simp [h1] at h
 | some o =>
  simp only [h1] at h
  cases hw : qJw ops L o.guard with
  | none => simp [hw] at h
  | some b =>
   cases b with
   | false => simp [hw] at h
   | true =>
    simp only [hw] at h
    cases hk : opOK L o.op with
    | false => simp [hk] at h
    | true =>
     simp only [hk, cond_true] at h
     split at h
     ·rename_i f' args' he
      simp only [Option.some.injEq, Prod.mk.injEq] at h
      obtain ⟨h2, rfl, rfl⟩ := h
      exact ⟨o, rfl, h2, hw, hk, he⟩
     ·cases h
theorem qAq {i : Nat} {L : Env} {w : World} (d f : Nat) (args : Array Value) (ho : callAt P ops L i = some (some d, f, args)) (hd : Nat.blt d n = true)
  (h : Calls P f args w fun e w' => ∃ v, e = .returned v ∧ N ((d, v) :: L) w') : One P n ops Q i N L w := by
 obtain ⟨o, h1, h2, hw, hk, he⟩ := callAt_spec ho
 intro a ha
 unfold opW
 simp only [h1, ha.wanted hw, if_true]
 rw [ha.exec hk, ev0_run he w, Oper.uponIn_enter]
 refine ⟨fun e => by simp [Fence.wide] at e, CallsIn.mono (callsIn_wide.2 h) ?_⟩
 rintro e w' ⟨v, rfl, hk'⟩
 rw [h2]
 exact ⟨_, ha.put hd v, hk'⟩
end
theorem qBh {L : Env} {w : World} {i : Nat} (hi : ops.size = i) (h : ∀ a, Fits n a L → Q .normal a w) : WO P n ops Q i L w := by
 intro a ha
 subst hi
 simp only [Nat.sub_self, List.range'_zero, opsW]
 exact h a ha
theorem qCd {i : Nat} {L : Env} {w : World} (L' : Env) (hs : L'.map (fun p => look L p.1) = L'.map fun p => some p.2) (h : WO P n ops Q i L' w) : WO P n ops Q i L w := by
 intro a ha
 refine h a (ha.sub ?_)
 intro t v hv
 have hm := look_key hv
 have := (List.map_inj_left.1 hs) (t, v) hm
 exact this
end
def W (ρ : Option Nat) (P : Program) (n : Fr) (c : Code) (Q : Exit → Act → World → Prop) (L : Env) (w : World) : Prop := ∀ a, Fits n a L → c.wpIn (fen ρ) 0 P Q a w
def X (n : Fr) (Q : Exit → Act → World → Prop) (e : Exit) (L : Env) (w : World) : Prop := ∀ a, Fits n a L → Q e a w
section
variable {ρ : Option Nat} {P : Program} {n : Fr} {Q : Exit → Act → World → Prop} {L : Env} {w : World}
theorem qAm {y : Code} (h : W ρ P n y Q L w) : X n (Exit.then (fun a w => y.wpIn (fen ρ) 0 P Q a w) Q) .normal L w := h
theorem qAl {K : Act → World → Prop} {id : Nat} (h : X n Q (.exit id) L w) : X n (Exit.then K Q) (.exit id) L w := h
theorem qAh {K : Act → World → Prop} (h : X n Q .ret L w) : X n (Exit.then K Q) .ret L w := h
theorem qBl {id : Nat} (h : X n Q .normal L w) : X n (Exit.inBlock id Q) .normal L w := h
theorem qAn {id : Nat} (h : X n Q .ret L w) : X n (Exit.inBlock id Q) .ret L w := h
theorem qBd {id : Nat} (h : X n Q .normal L w) : X n (Exit.inBlock id Q) (.exit id) L w := by
 intro a ha; simp only [Exit.inBlock, if_true]; exact h a ha
theorem X_block_ne {id id' : Nat} (hne : Nat.beq id' id = false) (h : X n Q (.exit id') L w) : X n (Exit.inBlock id Q) (.exit id') L w := by
 intro a ha
 have : ¬ id' = id := by rintro rfl; simp at hne
 simp only [Exit.inBlock, if_neg this]; exact h a ha
theorem qAs {x y : Code} (h : W ρ P n x (Exit.then (fun a w => y.wpIn (fen ρ) 0 P Q a w) Q) L w) : W ρ P n (.seq x y) Q L w := fun a ha => wpIn_seq (h a ha)
theorem qAu (h : X n Q .normal L w) : W ρ P n .skip Q L w := fun a ha => wpIn_skip (h a ha)
theorem qBr (h : X n Q .ret L w) : W ρ P n .ret Q L w := fun a ha => wpIn_ret (h a ha)
theorem qCh {id : Nat} (h : X n Q (.exit id) L w) : W ρ P n (.exit id) Q L w := fun a ha => wpIn_exit (h a ha)
theorem qAw {id : Nat} {c : Code} (h : W ρ P n c (Exit.inBlock id Q) L w) : W ρ P n (.block id c) Q L w := fun a ha => wpIn_block (h a ha)
theorem W_regionR {id : Nat} {ops : Array Oper} (hd : okDefer ρ ops = true) (h : WO P n ops Q 0 L w) : W ρ P n (.region id ops false) Q L w := by
 intro a ha
 refine wpIn_region (opsW_in hd _ _ _ ?_)
 have := h a ha
 simpa [List.range_eq_range'] using this
theorem qAx {id : Nat} {ops : Array Oper} (h : WO P n ops Q 0 L w) : W none P n (.region id ops false) Q L w := W_regionR rfl h
theorem qAp {c : Operand} {x y : Code} (b : Bool) (hc : evL L c = some (.bool b)) (ht : b = true → W ρ P n x Q L w) (hf : b = false → W ρ P n y Q L w) : W ρ P n (.cond c x y) Q L w :=
 fun a ha => wpIn_cond_split (ha.ev hc) (fun h => ht h a ha) (fun h => hf h a ha)
theorem qEv {c : Code} (L' : Env) (hs : L'.map (fun p => look L p.1) = L'.map fun p => some p.2) (h : W ρ P n c Q L' w) : W ρ P n c Q L w := by
 intro a ha
 refine h a (ha.sub ?_)
 intro t v hv
 exact (List.map_inj_left.1 hs) (t, v) (look_key hv)
theorem qBc {e : Exit} (L' : Env) (hs : L'.map (fun p => look L p.1) = L'.map fun p => some p.2) (h : X n Q e L' w) : X n Q e L w := by
 intro a ha
 refine h a (ha.sub ?_)
 intro t v hv
 exact (List.map_inj_left.1 hs) (t, v) (look_key hv)
theorem qCo {c : Code} (I : Nat → Env → World → Prop) (k : Nat) (h0 : I k L w)
  (round : ∀ k L w, I k L w → W ρ P n c (Exit.then (fun a' w' => ∃ k' L', k' < k ∧ Fits n a' L' ∧ I k' L' w') Q) L w) : W ρ P n (.loop c) Q L w := by
 intro a ha
 refine wpIn_loop_ghost (fun k a w => ∃ L, Fits n a L ∧ I k L w) k ⟨L, ha, h0⟩ ?_
 rintro k a w ⟨L, ha, hI⟩
 refine wpIn_mono (round k L w hI a ha) ?_
 intro e a' w' hq
 cases e with
 | normal => obtain ⟨k', L', h1, h2, h3⟩ := hq; exact ⟨k', h1, L', h2, h3⟩
 | _ => exact hq
theorem qCc {k : Nat} {I : Nat → Env → World → Prop} (k' : Nat) (hk : k' < k) (h : I k' L w) : X n (Exit.then (fun a' w' => ∃ k' L', k' < k ∧ Fits n a' L' ∧ I k' L' w') Q) .normal L w :=
 fun _ ha => ⟨k', L, hk, ha, h⟩
theorem qBt {f : FuncId} {fn : Func} {c : Code} {args : Array Value} {R : Ending → World → Prop} (hf : P.funcs[f]? = some fn) (hb : fn.body = some c) {k : Nat} (hn : fn.ntmps = k) (L : Env)
  (hL : L.map (fun p => (args[p.1]?)) = L.map fun p => some p.2) (hsz : Nat.ble args.size k = true) (h : W none P ⟨k, []⟩ c (bodyPost P fn R) L w) : Calls P f args w R := by
 refine calls_of_wp hf hb (wpIn_wide.1 (h _ ⟨?_, rfl, ?_⟩))
 ·subst hn
  have : args.size ≤ fn.ntmps := Nat.le_of_ble_eq_true hsz
  simp only [Array.size_append, Array.size_replicate]; omega
 ·intro t v hv
  have := (List.map_inj_left.1 hL) (t, v) (look_key hv)
  have ht : t < args.size := (Array.getElem?_eq_some_iff.1 this).1
  simp only [Array.getElem?_append, ht, if_true]
  exact this
end
attribute [irreducible] opsW
end Go.Dc
