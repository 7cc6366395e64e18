/- The decompiler's rules of a range over a function. No condition. -/
import Derived.Test.YtgggihpbhmbjaaaDoorDrawk3
import Derived.RangeFuncLeaves
import Derived.RangeFuncRecord
namespace Go.Dc
def bodyQ (P : Program) (fn : Func) (R : Ending → World → Prop) : Exit → Act → World → Prop
 | .normal, a, w => LeavesInM Fence.wide 0 P fn a.tmps R a.defers .returning w
 | .ret, a, w => LeavesInM Fence.wide 0 P fn a.tmps R a.defers .returning w
 | _, _, _ => False
section
variable {ρ : Option Nat} {P : Program} {n : Fr} {ops : Array Oper} {Q : Exit → Act → World → Prop} {i d : Nat} {L : Env} {w : World} {m : Mem} {own : List Piece} {N : Env → World → Prop}
theorem QP_bodyQ {fn : Func} {R : Ending → World → Prop} : QP (bodyQ P fn R) := fun _ _ _ _ _ h => h
theorem W_callsM {f : FuncId} {fn : Func} {c : Code} {args : Array Value} {R : Ending → World → Prop} (hf : P.funcs[f]? = some fn) (hb : fn.body = some c) {k : Nat} (hn : fn.ntmps = k) (L : Env)
  (hL : L.map (fun p => (args[p.1]?)) = L.map fun p => some p.2) (hsz : Nat.ble args.size k = true) (h : W none P ⟨k, []⟩ c (bodyQ P fn R) L w) : Calls P f args w R := by
 refine callsIn_wide.1 (callsIn_of_wp_marks (F := Fence.wide) (n := 0) hf hb trivial (wpIn_mono (h _ ⟨?_, rfl, ?_⟩) ?_) rfl)
 ·subst hn
  have : args.size ≤ fn.ntmps := Nat.le_of_ble_eq_true hsz
  simp only [Array.size_append, Array.size_replicate]; omega
 ·intro t v hv
  have := (List.map_inj_left.1 hL) (t, v) (look_key hv)
  have ht : t < args.size := (Array.getElem?_eq_some_iff.1 this).1
  simp only [Array.getElem?_append, ht, if_true]
  exact this
 ·intro e a w h
  cases e <;> first | exact h | exact h.elim
theorem X_take {k D : Nat} {M : List Nat} {fn : Func} {R : Ending → World → Prop} (st : St m (.blk D (.deferred (some [])) :: own) w) (h : ∀ w', St m own w' → X ⟨k, M⟩ (bodyQ P fn R) .ret L w') : X ⟨k, D :: M⟩ (bodyQ P fn R) .ret L w := by
 intro a ha
 obtain ⟨h1, h2, h3⟩ := ha
 have hD : w.heap[D]? = some (.deferred (some [])) := st.head.1
 have hlt := heap_lt hD
 have st' : St m (.blk D (.deferred none) :: own) (w.putObj D (.deferred none)) :=
  St.set (o := .deferred (some [])) (o' := .deferred none) st ⟨⟨rfl, rfl⟩, rfl, dle⟩ (by simp [World.putObj, hlt]) (fun k _ hk => by simp [World.putObj, Array.getElem?_setIfInBounds, Ne.symm hk])
 have st' := st'.tail
 have := h _ st' { a with defers := M.map markOf } ⟨h1, rfl, h3⟩
 show LeavesInM Fence.wide 0 P fn a.tmps R a.defers .returning w
 rw [h2]
 exact ⟨by simp, .inl ⟨D, _, rfl, run_takeDeferred hD, this⟩⟩
theorem X_retM {k : Nat} {fn : Func} {R : Ending → World → Prop} (rvs : List ResultVar) (vs : List Value) (hf : fn.results = rvs.toArray) (hr : ResAll P w L rvs vs) (h : R (.returned (tupleOf vs)) w) : X ⟨k, []⟩ (bodyQ P fn R) .ret L w := by
 intro a ha
 obtain ⟨h1, h2⟩ := X_ret (P := P) (fn := fn) (R := R) rvs vs hf hr h a ha
 show LeavesInM Fence.wide 0 P fn a.tmps R a.defers .returning w
 rw [h1]
 exact h2
structure LoopQ where
 fn : Nat
 tmps : Array Value
 ps : Array Tmp
 assign : Code
 body : Code
 D : Nat
def ljump : List Code → Nat → Option Code
 | _, 0 => none
 | js, k + 1 => js[k]?
def lrec (q : LoopQ) (s : LoopState) (pe : Option Code) : Loop := { state := s, pending := pe, fn := q.fn, tmps := q.tmps, params := q.ps, assign := q.assign, body := q.body, defers := q.D }
def lpiece (l : Nat) (q : LoopQ) (js : List Code) (j : Nat) : Piece := .blk l (.loop (lrec q (if j = 0 then .ready else .done) (ljump js j)))
def bpiece (l : Nat) (q : LoopQ) : Piece := .blk l (.loop (lrec q .busy none))
def dpiece (D : Nat) : Piece := .blk D (.deferred (some []))
def FitsT (sz : Nat) (T : Array Value) (L : Env) : Prop := T.size = sz ∧ ∀ t v, look L t = some v → T[t]? = some v
theorem St.setLoop {l : Nat} {r : Loop} (r' : Loop) (st : St m (.blk l (.loop r) :: own) w) : St m (.blk l (.loop r') :: own) (w.putObj l (.loop r')) := by
 have hlt := heap_lt st.head.1
 exact St.set (o := .loop r) (o' := .loop r') st ⟨⟨rfl, rfl⟩, rfl, dle⟩ (by simp [World.putObj, hlt]) (fun k _ hk => by simp [World.putObj, Array.getElem?_setIfInBounds, Ne.symm hk])
theorem enters_at {f : FuncId} {fn : Func} (hf : P.funcs[f]? = some fn) (h : (fn.name == "runtime.NumGoroutine", fn.body.isNone) = (false, false)) (args : Array Value) (w : World) : (callFunc f args).run P w = .ok (.enter f args) w := by
 simp only [Prod.mk.injEq] at h
 have h1 : ¬ fn.name = "runtime.NumGoroutine" := by simpa using h.1
 have h2 : ¬ fn.body = none := fun e => by rw [e] at h; simp at h
 simp [callFunc, hf, h1, h2]
def After (l : Nat) (P : Program) (n : Fr) (Q : Exit → Act → World → Prop) (L : Env) (w : World) : Prop :=
 ∃ j w', (Instr.endLoop l).run P w = .ok j w' ∧ match j with
  | none => X n Q .normal L w'
  | some c => W none P n c Q L w'
theorem After_none {l : Nat} {q : LoopQ} {js : List Code} (j : Nat) (st : St m (lpiece l q js j :: own) w) (hj : ljump js j = none) (h : ∀ w', St m own w' → X n Q .normal L w') : After l P n Q L w := by
 have hl := st.head.1
 have hb : (lrec q (if j = 0 then LoopState.ready else LoopState.done) (ljump js j)).state ≠ LoopState.busy := by simp only [lrec]; split <;> simp
 exact ⟨ljump js j, _, run_endLoop (P := P) hl hb, by rw [hj]; exact h _ (St.setLoop _ st).tail⟩
theorem W_rangeFunc {g : Operand} {ps : Array Tmp} {assign body : Code} {f : Nat} {cap : Array Value} (js : List Code) (hg : evL L g = some (.func (.func f) #[] cap)) (eg : ∀ args w, (callFunc f args).run P w = .ok (.enter f args) w) (st : St m own w)
  (h : ∀ (q : LoopQ) (l : Nat) (w' : World), q.ps = ps → q.assign = assign → q.body = body → FitsT n.sz q.tmps L → St m (lpiece l q js 0 :: dpiece q.D :: own) w' →
   Calls P f (#[.func (.yield l) #[] #[]] ++ cap) w' fun e w'' => ∃ v, e = .returned v ∧ After l P ⟨n.sz, q.D :: n.marks⟩ Q L w'') :
  W none P n (.rangeFunc g ps assign body) Q L w := by
 intro a ha
 have hev := ha.ev hg
 refine wpIn_rangeFunc fun fn _ => ?_
 obtain ⟨q, hq⟩ : ∃ q : LoopQ, q = { fn, tmps := a.tmps, ps, assign, body, D := w.heap.size } := ⟨_, rfl⟩
 have s1 := st.alloc (w' := w.alloc (.deferred (some []))) (o := .deferred (some [])) ⟨⟨rfl, rfl⟩, rfl, dle⟩ rfl
 have s2 := s1.alloc (w' := (w.alloc (.deferred (some []))).alloc (.loop (lrec q .ready none))) (o := .loop (lrec q .ready none)) ⟨⟨rfl, rfl⟩, rfl, dle⟩ rfl
 have hsz : (w.alloc (.deferred (some []))).heap.size = w.heap.size + 1 := World.size_alloc _ _
 rw [hsz] at s2
 have hD : q.D = w.heap.size := by rw [hq]
 have hc := h q (w.heap.size + 1) _ (by rw [hq]) (by rw [hq]) (by rw [hq]) (by rw [hq]; exact ⟨ha.1, ha.2.2⟩) (by rw [dpiece, hD]; exact s2)
 obtain ⟨W1, hW1⟩ : ∃ W1, (w.alloc (.deferred (some []))).alloc (.loop (lrec q .ready none)) = W1 := ⟨_, rfl⟩
 rw [hW1] at hc
 refine ⟨w.heap.size + 1, [markOf w.heap.size], W1, { target := .fn (.func f) cap, args := #[.func (.yield (w.heap.size + 1)) #[] #[]] }, W1, f, #[.func (.yield (w.heap.size + 1)) #[] #[]] ++ cap, W1, ?_, ?_, fun _ _ => trivial, ?_, fun e => by simp [fen, Fence.wide] at e, ?_⟩
 ·rw [← hW1, hq]; exact run_enterLoop_outer _ _ _ _ _
 ·simp only [resolve, hev]
  simp [go_sem]
 ·simp [invoke, go_sem, eg]
 ·have hc' : CallsIn (fen none) 0 P f (#[.func (.yield (w.heap.size + 1)) #[] #[]] ++ cap) W1 _ := callsIn_wide.2 hc
  refine CallsIn.mono hc' ?_
  rintro e w'' ⟨v, rfl, j, w4, h1, h2⟩
  refine ⟨j, w4, h1, ?_⟩
  have fits : Fits ⟨n.sz, q.D :: n.marks⟩ { a with defers := [markOf w.heap.size] ++ a.defers } L := ⟨ha.1, by simp [ha.2.1, hD], ha.2.2⟩
  cases j with
  | none => exact h2 _ fits
  | some c => exact h2 _ fits
def roundA (P : Program) (l : Nat) (body : Code) (R : Ending → World → Prop) : Exit → Act → World → Prop :=
 Exit.then (fun a₁ w₁ => ∃ w₂, (Instr.beginRound l).run P w₁ = .ok () w₂ ∧ body.wpIn (fen (some l)) 0 P (roundPost P l R) a₁ w₂) (fun _ _ _ => False)
theorem X_begin {l : Nat} {q : LoopQ} {js : List Code} {body : Code} {R : Ending → World → Prop} (st : St m (lpiece l q js 0 :: own) w) (h : ∀ w', St m (bpiece l q :: own) w' → W (some l) P n body (roundPost P l R) L w') : X n (roundA P l body R) .normal L w := by
 intro a ha
 exact ⟨_, run_beginRound (P := P) st.head.1 rfl, h _ (St.setLoop _ st) a ha⟩
theorem run_endRound0 {l : Nat} {q : LoopQ} (js : List Code) (st : St m (bpiece l q :: own) w) : ∃ w', (Instr.endRound l none).run P w = .ok (.bool true) w' ∧ St m (lpiece l q js 0 :: own) w' :=
 ⟨_, run_endRound (P := P) none st.head.1, St.setLoop (lrec q .ready none) st⟩
theorem X_roundN {l : Nat} {q : LoopQ} (js : List Code) {R : Ending → World → Prop} (st : St m (bpiece l q :: own) w) (h : ∀ w', St m (lpiece l q js 0 :: own) w' → R (.returned (.bool true)) w') : X n (roundPost P l R) .normal L w := by
 obtain ⟨w', h1, h2⟩ := run_endRound0 (P := P) js st
 exact fun _ _ => ⟨_, w', h1, h w' h2⟩
def zipL : List Nat → List Value → Env → Env
 | p :: ps, v :: vs, L => zipL ps vs ((p, v) :: L)
 | _, _, L => L
theorem FitsT.set {sz : Nat} {T : Array Value} {L : Env} (h : FitsT sz T L) {p : Nat} (hp : p < sz) (v : Value) : FitsT sz (T.setIfInBounds p v) ((p, v) :: L) := by
 obtain ⟨h1, h2⟩ := h
 refine ⟨by simp [h1], fun t u hu => ?_⟩
 simp only [look] at hu
 by_cases hpt : p = t
 ·subst hpt
  simp at hu; subst hu
  simp [Array.getElem?_setIfInBounds, h1, hp]
 ·have : Nat.beq p t = false := by cases hb : Nat.beq p t <;> simp_all [Nat.beq_eq]
  rw [this] at hu
  simp [Array.getElem?_setIfInBounds, hpt, h2 t u hu]
theorem FitsT.zip {sz : Nat} : ∀ (ps : List Nat) (vs : List Value) {T : Array Value} {L : Env}, FitsT sz T L → (ps.all fun p => Nat.blt p sz) = true →
  FitsT sz ((ps.zip vs).foldl (fun t (p, v) => t.setIfInBounds p v) T) (zipL ps vs L)
 | [], _, _, _, h, _ => by simpa [zipL] using h
 | _ :: _, [], _, _, h, _ => by simpa [zipL] using h
 | p :: ps, v :: vs, T, L, h, hp => by
  simp only [List.all_cons, Bool.and_eq_true] at hp
  simp only [List.zip_cons_cons, List.foldl_cons, zipL]
  exact FitsT.zip ps vs (h.set (by simpa [Nat.blt_eq] using hp.1) v) hp.2
theorem One_yield {l sz : Nat} {x : Operand} {xs : Array Operand} {ts : Array TypeId} {q : LoopQ} {js : List Code} {L0 : Env} {ps : Array Nat} {assign body : Code} (vs : List Value) (ho : opAt ops L i = some (some d, .call { callee := .value x, args := xs, argTypes := ts })) (hd : Nat.blt d n = true)
  (hx : evL L x = some (.func (.yield l) #[] #[])) (hv : xs.map (evD L) = vs.toArray) (hT : FitsT sz q.tmps L0) (hp : q.ps = ps) (hA : q.assign = assign) (hB : q.body = body) (hz : vs.length = ps.size) (hps : (ps.toList.all fun p => Nat.blt p sz) = true) (st : St m (lpiece l q js 0 :: own) w)
  (h : ∀ R : Ending → World → Prop, (∀ b w', N ((d, .bool b) :: L) w' → R (.returned (.bool b)) w') → W (some l) P ⟨sz, []⟩ assign (roundA P l body R) (zipL ps.toList vs L0) w) : One P n ops Q i N L w := by
 subst hp hA hB
 obtain ⟨o, h1, h2, h3, h4, h5⟩ := opAt_spec ho
 intro a ha
 unfold opW
 simp only [h1, ha.wanted h4, if_true]
 have hy := run_yield (P := P) (args := vs.toArray) st.head.1 (by simp only [lrec]; simp [hz])
 have hrun : (execOp (evD L) o).run P w = (Instr.yield l vs.toArray).run P w := by
  simp [execOp, h3, resolve, evD_of hx, hv, invoke, go_sem]
 rw [ha.exec h5, hrun, hy, Oper.uponIn_round]
 refine ⟨fun e => by simp [Fence.wide] at e, roundIn_of_wpIn trivial ?_⟩
 have hz := FitsT.zip q.ps.toList vs hT hps
 have hfold : (q.ps.zip vs.toArray).foldl (fun tmps (t, a) => tmps.setIfInBounds t a) q.tmps = (q.ps.toList.zip vs).foldl (fun t (p, v) => t.setIfInBounds p v) q.tmps := by
  rw [← Array.foldl_toList, Array.toList_zip]
 refine h _ ?_ { tmps := _, defers := [] } ⟨?_, rfl, ?_⟩
 ·intro b w' hN
  rw [h2]
  exact ⟨_, ha.put hd _, hN⟩
 ·show ((q.ps.zip vs.toArray).foldl (fun tmps (t, a) => tmps.setIfInBounds t a) q.tmps).size = _
  rw [hfold]; exact hz.1
 ·intro t v hv
  show ((q.ps.zip vs.toArray).foldl (fun tmps (t, a) => tmps.setIfInBounds t a) q.tmps)[t]? = _
  rw [hfold]; exact hz.2 t v hv
end
end Go.Dc
