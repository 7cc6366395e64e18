/- The decompiler's rules of maps: delete, maps of slices with the rooms behind them, ranges over a map whose order shows till the function ends. No condition. -/
import Derived.Test.YtgggihpbhmbjaaaGreatDoorMapRy6
import Derived.Test.YtgggihpbhmbjaaaGreatDoorInsy6
namespace Go.Dc
def mdel {κ ν : Type} [DecidableEq κ] (l : List (κ × ν)) (k : κ) : List (κ × ν) := l.filter fun p => !decide (p.1 = k)
def mdelQ {κ ν : Type} [DecidableEq κ] (o : Option (List (κ × ν))) (k : κ) : Option (List (κ × ν)) := o.map fun l => mdel l k
theorem mdel_erase {κ ν : Type} [DecidableEq κ] : ∀ {l : List (κ × ν)} {j : Nat} {k : κ} {v : ν}, (l.map (·.1)).Nodup → l[j]? = some (k, v) → l.eraseIdx j = mdel l k
 | [], j, k, v, _, h => by simp at h
 | p :: l, 0, k, v, hn, h => by
  simp only [List.length_cons, Nat.zero_lt_succ, getElem?_pos, List.getElem_cons_zero, Option.some.injEq] at h
  subst h
  simp only [List.map_cons, List.nodup_cons] at hn
  simp only [List.eraseIdx_cons_zero, mdel, List.filter_cons, decide_true, Bool.not_true, Bool.false_eq_true, if_false]
  refine (List.filter_eq_self.2 fun q hq => ?_).symm
  have : ¬ q.1 = k := fun e => hn.1 (by rw [← e]; exact List.mem_map_of_mem hq)
  simp [this]
 | p :: l, j + 1, k, v, hn, h => by
  simp only [List.map_cons, List.nodup_cons] at hn
  have h' : l[j]? = some (k, v) := by simpa using h
  have hm : (k, v) ∈ l := List.mem_of_getElem? h'
  have hne : ¬ p.1 = k := fun e => hn.1 (by rw [e]; exact List.mem_map_of_mem (f := (·.1)) hm)
  simp only [List.eraseIdx_cons_succ, mdel, List.filter_cons, hne, decide_false, Bool.not_false, if_true]
  rw [mdel_erase hn.2 h']; rfl
theorem mdel_none {κ ν : Type} [DecidableEq κ] {l : List (κ × ν)} {k : κ} (h : mget l k = none) : mdel l k = l := by
 rw [qKp] at h
 refine List.filter_eq_self.2 fun q hq => ?_
 have : ¬ q.1 = k := fun e => h (by rw [← e]; exact List.mem_map_of_mem hq)
 simp [this]
theorem KeyOK.inj {κ : Type} [DecidableEq κ] {P : Program} {kt : TypeId} {ek : κ → Value} (hk : KeyOK P kt ek) {a b : κ} (h : ek a = ek b) : a = b := by
 obtain ⟨d, _, h1, _⟩ := hk.kind
 have e1 := h1 a b
 rw [h, h1 b b] at e1
 simpa using e1.symm
section
variable {P : Program} {n : Fr} {ops : Array Oper} {Q : Exit → Act → World → Prop} {i d : Nat} {L : Env} {w : World} {m : Mem} {own : List Piece} {N : Env → World → Prop}
variable {κ ν : Type} [DecidableEq κ] {ek : κ → Value} {c : Codec ν} {agg : Bool}
theorem One_delete {t t2 kt et : TypeId} {z : Value} {x y : Operand} {q : Option Nat} {es : Array MapEntry} {ck : Nat} {o : Option (List (κ × ν))} {k : κ} (ho : opAt ops L i = some (none, .call { callee := .builtin .delete, args := #[x, y], argTypes := #[t, t2] }))
  (hx : evL L x = some (.map q)) (hy : evL L y = some (ek k)) (hI : qLq P t = some (kt, et, z)) (hk : KeyOK P kt ek) (st : St m (qBo q es ck :: own) w) (hr : MapQ ek c agg m q es ck o)
  (h : ∀ es' w', St m (qBo q es' ck :: own) w' → MapQ ek c agg m q es' ck (mdelQ o k) → N L w') : One P n ops Q i N L w := by
 obtain ⟨h1, h2⟩ := qJd hI
 obtain ⟨dd, hdd, hsame, hchk⟩ := hk.kind
 cases q with
 | none =>
  simp only [MapQ] at hr; subst hr
  have hc := hchk 9999 true (ek k) w
  refine One_val0 (v := .tuple #[]) ho (fun q h3 => ?_) (h es w st rfl)
  simp only [execOp, h3, resolve, Sem.run_bind, Sem.run_pure, Result.andThen_ok, invoke, builtin]
  simp [qBp hx, qBp hy, Builtin.delete_, run_underlying h1, hc]
 | some b =>
  obtain ⟨l, l', rfl, hperm, hnd, hl, hb1, hb2⟩ := hr
  have hb : w.heap[b]? = some (.map es ck) := st.head.1
  have hlt := qKt hb
  have hget : (getObj b).run P w = .ok (.map es ck) w := by simp [getObj, Sem.run, hb]
  have hset : ∀ o', (setObj b o').run P w = .ok () { w with heap := w.heap.setIfInBounds b o' } := fun o' => run_setObj hb (by simp)
  have hnew : ∀ o', St m (.blk b o' :: own) { w with heap := w.heap.setIfInBounds b o' } := fun o' =>
   St.set (o := .map es ck) st ⟨⟨rfl, rfl⟩, rfl, dle⟩ (by simp [hlt]) (fun k _ hk => by simp [Array.getElem?_setIfInBounds, Ne.symm hk])
  have hc := hchk 9999 es.isEmpty (ek k) w
  obtain ⟨r, hr, hrest⟩ := qJb (c := c) (agg := agg) hsame k es.toList l' 0 hl
  have hfind : (Instr.findKey kt (ek k) es.toList).run P w = .ok r w := by simp [Instr.findKey, run_underlying hdd, hr]
  have hpd : (mdel l' k).Perm (mdel l k) := hperm.filter _
  have hnd' : ((mdel l' k).map (·.1)).Nodup := List.Nodup.sublist (List.filter_sublist.map _) hnd
  cases r with
  | none =>
   obtain ⟨g1, g2⟩ := hrest
   refine One_val0 (v := .tuple #[]) ho (fun q h3 => ?_) (h es _ (hnew _) ⟨_, mdel l' k, rfl, hpd, hnd', ?_, hb1, hb2⟩)
   ·simp only [execOp, h3, resolve, Sem.run_bind, Sem.run_pure, Result.andThen_ok, invoke, builtin]
    simp [qBp hx, qBp hy, Builtin.delete_, run_underlying h1, hget, hc, hfind, hset]
   ·rw [mdel_none g1]; exact hl
  | some qv =>
   obtain ⟨q, v0⟩ := qv
   obtain ⟨x0, cs0, g1, g2, g3, g4, g5, ⟨e0, g6, g7⟩, g8⟩ := hrest
   have he : es.toList[q]? = some e0 := by simpa using g6
   obtain ⟨k1, v1, cs1, m1, m2, m3, m4, m5⟩ := mapL_at hl he
   have hkk : k1 = k := hk.inj (by rw [← m2, g7])
   subst hkk
   have hts : (es.eraseIdxIfInBounds q).toList = es.toList.eraseIdx q := by
    have hq : q < es.size := by simpa using g5
    simp [Array.eraseIdxIfInBounds, hq]
   refine One_val0 (v := .tuple #[]) ho (fun q h3 => ?_) (h (es.eraseIdxIfInBounds q) _ (hnew _) ⟨_, mdel l' k1, rfl, hpd, hnd', ?_, ?_, ?_⟩)
   ·simp only [execOp, h3, resolve, Sem.run_bind, Sem.run_pure, Result.andThen_ok, invoke, builtin]
    simp [qBp hx, qBp hy, Builtin.delete_, run_underlying h1, hget, hc, hfind, hset]
   ·rw [hts, ← mdel_erase hnd m1]; exact m5
   ·intro e he
    rw [hts] at he
    exact hb1 e (List.mem_of_mem_eraseIdx he)
   ·rw [hts]
    exact List.Nodup.sublist ((List.eraseIdx_sublist _ _).map _) hb2
end
def qMz {α σ β ρ : Type} [DecidableEq ρ] (f : Option α → σ → Option (σ ⊕ β)) (l : List α) (s : σ) (K : β → Option ρ) : Option ρ :=
 match (qIf f l s).bind K with
 | none => none
 | some b => if ((perms l).all fun k => decide ((qIf f k s).bind K = some b)) = true then some b else none
theorem mrangeK_all {α σ β ρ : Type} [DecidableEq ρ] {f : Option α → σ → Option (σ ⊕ β)} {l : List α} {s : σ} {K : β → Option ρ} {b : ρ} (h : qMz f l s K = some b) : ∀ k, k.Perm l → (qIf f k s).bind K = some b := by
 unfold qMz at h
 split at h
 ·cases h
 ·rename_i b' hb
  split at h
  ·rename_i hall
   simp only [Option.some.injEq] at h; subst h
   intro k hk
   have := List.all_eq_true.1 hall k (mem_perms hk)
   simpa using this
  ·cases h
theorem mrangeK_of {α σ β ρ : Type} [DecidableEq ρ] {f : Option α → σ → Option (σ ⊕ β)} {l : List α} {s : σ} {K : β → Option ρ} {b : ρ} (h : ∀ k, k.Perm l → (qIf f k s).bind K = some b) : qMz f l s K = some b := by
 unfold qMz
 rw [h l (.refl _)]
 simp only
 rw [if_pos]
 exact List.all_eq_true.2 fun k hk => by simpa using h k (perms_perm hk)
def LoopP {α σ β : Type} (f : Option α → σ → Option (σ ⊕ β)) (rem : List α) (s : σ) (Pk : β → Prop) (k : Nat) : Prop := (∀ l, l.Perm rem → ∃ b, qIf f l s = some b ∧ Pk b) ∧ rem.length < k
theorem LoopP.start {α σ β ρ : Type} [DecidableEq ρ] {f : Option α → σ → Option (σ ⊕ β)} {l : List α} {s : σ} {K : β → Option ρ} {b : ρ} (h : qMz f l s K = some b) : ∃ Pk : β → Prop, (∀ o, Pk o → K o = some b) ∧ LoopP f l s Pk (l.length + 1) :=
 ⟨fun o => K o = some b, fun _ h => h, fun k hk => by obtain ⟨o, h1, h2⟩ := Option.bind_eq_some_iff.1 (mrangeK_all h k hk); exact ⟨o, h1, h2⟩, Nat.lt_succ_self _⟩
theorem LoopP.zero {α σ β : Type} {f : Option α → σ → Option (σ ⊕ β)} {rem : List α} {s : σ} {b : β → Prop} {p : Prop} (h : LoopP f rem s b 0) : p := absurd h.2 (Nat.not_lt_zero _)
theorem LoopP.nil {α σ β : Type} {f : Option α → σ → Option (σ ⊕ β)} {rem : List α} {s : σ} {b : β → Prop} {k : Nat} (h : LoopP f rem s b (k + 1)) (hr : rem = []) :
  ∃ c, f none s = some c ∧ (∀ s', c = .inl s' → LoopP f rem s' b k) ∧ (∀ b', c = .inr b' → b b') := by
 subst hr
 obtain ⟨o, this, hp⟩ := h.1 [] (.refl _)
 simp only [qIf] at this
 obtain ⟨c, h1, h2⟩ := Option.bind_eq_some_iff.1 this
 refine ⟨c, h1, ?_, ?_⟩
 ·rintro s' rfl; simp at h2
 ·rintro b' rfl
  simp only [Option.some.injEq] at h2
  subst h2; exact hp
theorem LoopP.cons {α σ β : Type} {f : Option α → σ → Option (σ ⊕ β)} {rem rest : List α} {e : α} {s : σ} {b : β → Prop} {k : Nat} (h : LoopP f rem s b (k + 1)) (hr : rem.Perm (e :: rest)) :
  ∃ c, f (some e) s = some c ∧ (∀ s', c = .inl s' → LoopP f rest s' b k) ∧ (∀ b', c = .inr b' → b b') := by
 have hlen : rem.length = rest.length + 1 := by simpa using hr.length_eq
 have key : ∀ l, l.Perm rest → ∃ o, qIf f (e :: l) s = some o ∧ b o := fun l hl => h.1 _ ((hl.cons e).trans hr.symm)
 obtain ⟨o, h0, hp⟩ := key rest (.refl _)
 simp only [qIf] at h0
 obtain ⟨c, h1, h2⟩ := Option.bind_eq_some_iff.1 h0
 refine ⟨c, h1, ?_, ?_⟩
 ·rintro s' rfl
  refine ⟨fun l hl => ?_, by have := h.2; omega⟩
  obtain ⟨o2, h3, h4⟩ := key l hl
  simp only [qIf, h1, Option.bind_some] at h3
  exact ⟨o2, h3, h4⟩
 ·rintro b' rfl
  simp only [Option.some.injEq] at h2
  subst h2; exact hp
def roomV (e sz : Nat) : Value → Piece
 | .slice a n cap => .room a n cap e sz
 | _ => .room none 0 0 0 0
def qLa (e sz : Nat) (es : Array MapEntry) : List Piece := es.toList.map fun x => roomV e sz x.val
noncomputable def restE (es : List MapEntry) (kv : Value) : List MapEntry := es.filter fun x => !(@decide (x.key = kv) (Classical.propDecidable _))
noncomputable def qKy (e sz : Nat) (es : Array MapEntry) (kv : Value) : List Piece := (restE es.toList kv).map fun x => roomV e sz x.val
theorem St.dropR {m : Mem} {l R own : List Piece} {w : World} (st : St m (l ++ (R ++ own)) w) : St m (l ++ own) w := by
 have h1 : (l ++ own).Sublist (l ++ (R ++ own)) := (List.sublist_append_right R own).append_left l
 refine ⟨st.1, fun p hp => st.2.1 p (h1.subset hp), List.Nodup.sublist (h1.filterMap _) st.2.2⟩
theorem mapL_key {κ ν : Type} {ek : κ → Value} {c : Codec ν} {agg : Bool} {m : Mem} : ∀ {es : List MapEntry} {l : List (κ × ν)}, MapL ek c agg m es l → ∀ x ∈ es, ∃ p ∈ l, x.key = ek p.1
 | [], _, _, x, hx => by simp at hx
 | e :: es, _, ⟨k, v, l', rfl, h1, h2, h3⟩, x, hx => by
  rcases List.mem_cons.1 hx with rfl | hx
  ·exact ⟨(k, v), List.mem_cons_self .., h1⟩
  ·obtain ⟨p, hp, h⟩ := mapL_key h3 x hx
   exact ⟨p, List.mem_cons_of_mem _ hp, h⟩
theorem restE_none {es : List MapEntry} {kv : Value} (h : ∀ x ∈ es, x.key ≠ kv) : restE es kv = es := by
 unfold restE
 refine List.filter_eq_self.2 fun x hx => ?_
 simp [h x hx]
theorem restE_erase : ∀ {es : List MapEntry} {q : Nat} {e : MapEntry} {kv : Value}, es[q]? = some e → e.key = kv → (∀ j x, j ≠ q → es[j]? = some x → x.key ≠ kv) → restE es kv = es.eraseIdx q
 | [], q, e, kv, h, _, _ => by simp at h
 | x :: es, 0, e, kv, h, hk, hn => by
  simp only [List.length_cons, Nat.zero_lt_succ, getElem?_pos, List.getElem_cons_zero, Option.some.injEq] at h
  subst h
  have : restE es kv = es := restE_none fun y hy => by
   obtain ⟨j, hj⟩ := List.mem_iff_getElem?.1 hy
   exact hn (j + 1) y (by omega) (by simpa using hj)
  simp only [List.eraseIdx_cons_zero]
  unfold restE at *
  rw [List.filter_cons]
  simp only [hk, decide_true, Bool.not_true, Bool.false_eq_true, if_false]
  exact this
 | x :: es, q + 1, e, kv, h, hk, hn => by
  have h0 : x.key ≠ kv := hn 0 x (by omega) rfl
  have := restE_erase (es := es) (q := q) (e := e) (kv := kv) (by simpa using h) hk (fun j y hj hy => hn (j + 1) y (by omega) (by simpa using hy))
  unfold restE at *
  rw [List.filter_cons]
  simp only [h0, decide_false, Bool.not_false, if_true, List.eraseIdx_cons_succ]
  rw [this]
theorem perm_erase {α : Type} {l : List α} {q : Nat} {x : α} (h : l[q]? = some x) : l.Perm (x :: l.eraseIdx q) := by
 have hl := (List.getElem?_eq_some_iff.1 h).1
 have e1 : l[q] = x := (List.getElem?_eq_some_iff.1 h).2
 have e2 : l = l.take q ++ x :: l.drop (q + 1) := by rw [← e1, List.getElem_cons_drop, List.take_append_drop]
 rw [List.eraseIdx_eq_take_drop_succ]
 exact (List.Perm.of_eq e2).trans List.perm_middle
section
variable {P : Program} {n : Fr} {ops : Array Oper} {Q : Exit → Act → World → Prop} {i d : Nat} {L : Env} {w : World} {m : Mem} {own : List Piece} {N : Env → World → Prop}
variable {κ α : Type} [DecidableEq κ] {ek : κ → Value} {c : Codec α}
theorem only_key {kt : TypeId} (hk : KeyOK P kt ek) {ν : Type} {cv : Codec ν} {agg : Bool} {es : List MapEntry} {l : List (κ × ν)} (hl : MapL ek cv agg m es l) (hnd : (l.map (·.1)).Nodup) {q : Nat} {e : MapEntry} {k : κ} (he : es[q]? = some e) (hek : e.key = ek k) :
  ∀ j x, j ≠ q → es[j]? = some x → x.key ≠ ek k := by
 intro j x hj hx hxk
 obtain ⟨k1, v1, _, a1, a2, _⟩ := mapL_at hl he
 obtain ⟨k2, v2, _, b1, b2, _⟩ := mapL_at hl hx
 have e1 : k1 = k := hk.inj (by rw [← a2, hek])
 have e2 : k2 = k := hk.inj (by rw [← b2, hxk])
 subst e1; subst e2
 have h1 : (l.map (·.1))[q]? = some k2 := by simp [a1]
 have h2 : (l.map (·.1))[j]? = some k2 := by simp [b1]
 obtain ⟨p1, p2⟩ := List.getElem?_eq_some_iff.1 h1
 obtain ⟨r1, r2⟩ := List.getElem?_eq_some_iff.1 h2
 have hp := List.pairwise_iff_getElem.1 hnd
 rcases Nat.lt_or_ge j q with h | h
 ·exact hp j q r1 p1 h (r2.trans p2.symm)
 ·exact hp q j p1 r1 (by omega) (p2.trans r2.symm)
theorem findNow_val {dd : TypeDesc} {kv : Value} : ∀ {es : List MapEntry} {j q : Nat} {v : Value}, Instr.findNow dd kv es j = some (some (q, v)) → ∃ e, es[q - j]? = some e ∧ e.val = v ∧ j ≤ q
 | [], j, q, v, h => by simp [Instr.findNow] at h
 | e :: es, j, q, v, h => by
  simp only [Instr.findNow] at h
  split at h
  ·simp only [Option.some.injEq, Prod.mk.injEq] at h
   obtain ⟨rfl, rfl⟩ := h
   exact ⟨e, by simp, rfl, Nat.le_refl _⟩
  ·obtain ⟨e1, h1, h2, h3⟩ := findNow_val h
   have hq : q - j = (q - (j + 1)) + 1 := by omega
   exact ⟨e1, by rw [hq]; simpa using h1, h2, by omega⟩
  ·cases h
theorem One_lookupR {t kt et e sz : Nat} {z : Value} {x y : Operand} {b : Nat} {es : Array MapEntry} {ck : Nat} {o : Option (List (κ × List α))} {k : κ} (ho : opAt ops L i = some (some d, .lookup t x y false)) (hd : Nat.blt d n = true)
  (hx : evL L x = some (.map (some b))) (hy : evL L y = some (ek k)) (hI : qLq P t = some (kt, et, z)) (hk : KeyOK P kt ek) (st : St m (qBo (some b) es ck :: (qLa e sz es ++ own)) w) (hr : MapQ ek (cSl c) false m (some b) es ck o) (hz : z = .slice none 0 0)
  (h : ∀ a cap, RepS c m a cap ((qDj o k).getD []) → St m (.room a (List.length ((qDj o k).getD [])) cap e sz :: qBo (some b) es ck :: (qKy e sz es (ek k) ++ own)) w → N ((d, .slice a (List.length ((qDj o k).getD [])) cap) :: L) w) : One P n ops Q i N L w := by
 obtain ⟨h1, h2⟩ := qJd hI
 obtain ⟨dd, hdd, hsame, hchk⟩ := hk.kind
 obtain ⟨l0, l, rfl, hperm, hnd, hl, hb1, hb2⟩ := hr
 have hb : w.heap[b]? = some (.map es ck) := st.head.1
 have hget : (getObj b).run P w = .ok (.map es ck) w := by simp [getObj, Sem.run, hb]
 have hc := hchk 9999 es.isEmpty (ek k) w
 obtain ⟨r, hr, hrest⟩ := qJb (c := cSl c) (agg := false) hsame k es.toList l 0 hl
 have hfind : (Instr.findKey kt (ek k) es.toList).run P w = .ok r w := by simp [Instr.findKey, run_underlying hdd, hr]
 have hgp := mget_perm hperm hnd k
 cases r with
 | none =>
  obtain ⟨g1, g2⟩ := hrest
  have hm0 : (qDj (some l0) k).getD [] = [] := by simp [qDj, ← hgp, g1]
  have hX : qKy e sz es (ek k) = qLa e sz es := by
   unfold qKy qLa
   rw [restE_none]
   intro y hy hyk
   obtain ⟨p, hp, hpk⟩ := mapL_key hl y hy
   have : p.1 = k := hk.inj (by rw [← hpk, hyk])
   exact qKp.1 g1 (by rw [← this]; exact List.mem_map_of_mem hp)
  have hN := h none 0 (by rw [hm0]; exact RepS.nil _ _) (by rw [hm0, hX]; exact st.nilroom _ _)
  refine qFb ho hd (fun p hp => ?_) hN
  rw [hm0]
  simp [execOp, hp, qBp hx, qBp hy, Instr.lookup, run_underlying h1, hget, hc, hfind, h2, hz]
 | some qv =>
  obtain ⟨q, v⟩ := qv
  obtain ⟨x0, cs0, g1, ⟨a, cap, rfl, grep⟩, g3, g4, g5, ⟨e0, g6, g7⟩, g8⟩ := hrest
  obtain ⟨e1, f1, f2, _⟩ := findNow_val hr
  have he : es.toList[q]? = some e0 := by simpa using g6
  have hee : e1 = e0 := by rw [g6] at f1; exact (Option.some.inj f1).symm
  subst hee
  have hv : e1.val = .slice a x0.length cap := by rw [f2, g3]; rfl
  have hm0 : (qDj (some l0) k).getD [] = x0 := by simp [qDj, ← hgp, g1]
  have hX : (qLa e sz es).Perm (.room a x0.length cap e sz :: qKy e sz es (ek k)) := by
   unfold qKy qLa
   rw [restE_erase he g7 (only_key hk hl hnd he g7)]
   have := (perm_erase he).map fun x => roomV e sz x.val
   simp only [List.map_cons, hv, roomV] at this
   exact this
  have hN := h a cap (by rw [hm0]; exact grep) (by
   rw [hm0]
   refine st.perm ?_
   have p1 : (qLa e sz es ++ own).Perm (.room a x0.length cap e sz :: (qKy e sz es (ek k) ++ own)) := hX.append_right own
   exact (List.Perm.cons _ p1).trans (.swap _ _ _))
  refine qFb ho hd (fun p hp => ?_) hN
  rw [hm0]
  simp [execOp, hp, qBp hx, qBp hy, Instr.lookup, run_underlying h1, hget, hc, hfind, g3, mkV]
theorem One_mapUpdateR [KOrd κ] {t kt et e sz : Nat} {z : Value} {x y u : Operand} {b : Nat} {es : Array MapEntry} {ck : Nat} {o o' : Option (List (κ × List α))} {k : κ} {yv : List α} {a : Option Addr} {cap : Nat} (ho : opAt ops L i = some (none, .mapUpdate t x y u))
  (hx : evL L x = some (.map (some b))) (hy : evL L y = some (ek k)) (hu : evL L u = some (.slice a yv.length cap)) (hI : qLq P t = some (kt, et, z)) (hk : KeyOK P kt ek) (st : St m (.room a yv.length cap e sz :: qBo (some b) es ck :: (qKy e sz es (ek k) ++ own)) w) (hr : MapQ ek (cSl c) false m (some b) es ck o)
  (hyv : RepS c m a cap yv) (hs : qIo o k yv = some o')
  (h : ∀ es' ck' w', St m (qBo (some b) es' ck' :: (qLa e sz es' ++ own)) w' → MapQ ek (cSl c) false m (some b) es' ck' o' → N L w') : One P n ops Q i N L w := by
 have hyv' : (cSl c).rep m yv [.slice a yv.length cap] := cSl_mk hyv
 obtain ⟨h1, h2⟩ := qJd hI
 obtain ⟨dd, hdd, hsame, hchk⟩ := hk.kind
 obtain ⟨l0, l, rfl, hperm, hnd, hl, hb1, hb2⟩ := hr
 simp only [qIo, Option.map_some, Option.some.injEq] at hs
 subst hs
 have st0 := st.front1
 have hb : w.heap[b]? = some (.map es ck) := st0.head.1
 have hlt := qKt hb
 have hget : (getObj b).run P w = .ok (.map es ck) w := by simp [getObj, Sem.run, hb]
 have hset : ∀ o', (setObj b o').run P w = .ok () { w with heap := w.heap.setIfInBounds b o' } := fun o' => run_setObj hb (by simp)
 have hnew : ∀ o', St m (.blk b o' :: .room a yv.length cap e sz :: (qKy e sz es (ek k) ++ own)) { w with heap := w.heap.setIfInBounds b o' } := fun o' =>
  St.set (o := .map es ck) st0 ⟨⟨rfl, rfl⟩, rfl, dle⟩ (by simp [hlt]) (fun k _ hk => by simp [Array.getElem?_setIfInBounds, Ne.symm hk])
 have hc := hchk 9999 false (ek k) w
 obtain ⟨r, hr, hrest⟩ := qJb (c := cSl c) (agg := false) hsame k es.toList l 0 hl
 have hfind : (Instr.findKey kt (ek k) es.toList).run P w = .ok r w := by simp [Instr.findKey, run_underlying hdd, hr]
 have fin : ∀ es' : Array MapEntry, (es'.toList.map fun x => roomV e sz x.val).Perm (.room a yv.length cap e sz :: qKy e sz es (ek k)) → ∀ {b0 : Piece} {w0 : World}, St m (b0 :: .room a yv.length cap e sz :: (qKy e sz es (ek k) ++ own)) w0 → St m (b0 :: (qLa e sz es' ++ own)) w0 := fun es' hp b0 w0 hst =>
  hst.perm (List.Perm.cons _ (hp.symm.append_right own))
 cases r with
 | none =>
  obtain ⟨g1, g2⟩ := hrest
  have hX : restE es.toList (ek k) = es.toList := restE_none fun y hy hyk => by
   obtain ⟨p, hp, hpk⟩ := mapL_key hl y hy
   have : p.1 = k := hk.inj (by rw [← hpk, hyk])
   exact qKp.1 g1 (by rw [← this]; exact List.mem_map_of_mem hp)
  refine qLc ho (fun q hq => ?_) (h (es.push { key := ek k, val := .slice a yv.length cap, born := ck }) (ck + 1) _ (fin _ ?_ (hnew _)) ⟨_, qMb l k yv, rfl, qKo hperm hnd k yv, qIi hnd k yv, ?_, ?_, ?_⟩)
  ·simp [execOp, hq, qBp hx, qBp hy, qBp hu, Instr.mapUpdate, run_underlying h1, hget, hc, hfind, hset]
  ·unfold qKy
   rw [hX, Array.toList_push, List.map_append]
   exact List.perm_append_comm
  ·rw [g2, Array.toList_push]
   exact hl.snoc rfl hyv' rfl
  ·intro e he
   rw [Array.toList_push, List.mem_append] at he
   rcases he with he | he
   ·have := hb1 e he; omega
   ·simp at he; subst he; simp
  ·rw [Array.toList_push, List.map_append, List.nodup_append]
   refine ⟨hb2, by simp, ?_⟩
   intro a ha b hb e
   simp at hb; subst hb e
   obtain ⟨e0, he0, he1⟩ := List.mem_map.1 ha
   have := hb1 e0 he0
   omega
 | some qv =>
  obtain ⟨q, v0⟩ := qv
  obtain ⟨x0, cs0, g1, g2, g3, g4, g5, ⟨e0, g6, g7⟩, g8⟩ := hrest
  have he : es[q]? = some e0 := by simpa using g6
  have he' : es.toList[q]? = some e0 := by simpa using g6
  have hstay : (Instr.keyThatStays (ek k) (ek k)).run P w = .ok (ek k) w := by simp [Instr.keyThatStays, hk.bits]
  refine qLc ho (fun p hp => ?_) (h (es.modify q fun e => { e with key := ek k, val := .slice a yv.length cap }) ck _ (fin _ ?_ (hnew _)) ⟨_, qMb l k yv, rfl, qKo hperm hnd k yv, qIi hnd k yv, ?_, ?_, ?_⟩)
  ·simp [execOp, hp, qBp hx, qBp hy, qBp hu, Instr.mapUpdate, run_underlying h1, hget, hc, hfind, he, g7, hstay, hset]
  ·unfold qKy
   rw [restE_erase he' g7 (only_key hk hl hnd he' g7), Array.toList_modify]
   have hq : (es.toList.modify q fun e => { e with key := ek k, val := .slice a yv.length cap })[q]? = some { e0 with key := ek k, val := .slice a yv.length cap } := by simp [he']
   have hx : (es.toList.modify q fun e => { e with key := ek k, val := .slice a yv.length cap }).eraseIdx q = es.toList.eraseIdx q := by
    apply List.ext_getElem?
    intro j
    simp only [List.getElem?_eraseIdx, List.getElem?_modify]
    split
    ·rename_i hj; simp [show ¬ q = j by omega]
    ·rename_i hj; simp [show ¬ q = j + 1 by omega]
   have := (perm_erase hq).map fun x => roomV e sz x.val
   rw [hx] at this
   exact this
  ·rw [Array.toList_modify]
   have := g8 yv [.slice a yv.length cap] (fun e => { e with key := ek k, val := .slice a yv.length cap }) hyv' (fun e => ⟨rfl, rfl⟩)
   simpa using this
  ·intro e he
   rw [Array.toList_modify] at he
   obtain ⟨j, hj, rfl⟩ := List.mem_iff_getElem.1 he
   rw [List.getElem_modify]
   have hj' : j < es.toList.length := by simpa using hj
   have := hb1 es.toList[j] (List.getElem_mem hj')
   split
   ·exact this
   ·exact this
  ·rw [Array.toList_modify]
   have : (es.toList.modify q fun e => { e with key := ek k, val := .slice a yv.length cap }).map (·.born) = es.toList.map (·.born) := by
    apply List.ext_getElem
    ·simp
    ·intro j h1 h2
     simp only [List.getElem_map, List.getElem_modify]
     split <;> rfl
   rw [this]; exact hb2
end
end Go.Dc
namespace Go.Dc
theorem perm_swapR {α : Type} (l R own : List α) : (l ++ (R ++ own)).Perm (R ++ (l ++ own)) := by
 rw [← List.append_assoc, ← List.append_assoc]; exact List.perm_append_comm.append_right own
section
variable {P : Program} {n : Fr} {ops : Array Oper} {Q : Exit → Act → World → Prop} {i d : Nat} {L : Env} {w : World} {m : Mem} {own : List Piece} {N : Env → World → Prop}
variable {κ α : Type} [DecidableEq κ] {ek : κ → Value} {c : Codec α}
theorem One_lookupRL (l : List Piece) {t kt et e sz : Nat} {z : Value} {x y : Operand} {b : Nat} {es : Array MapEntry} {ck : Nat} {o : Option (List (κ × List α))} {k : κ} (ho : opAt ops L i = some (some d, .lookup t x y false)) (hd : Nat.blt d n = true)
  (hx : evL L x = some (.map (some b))) (hy : evL L y = some (ek k)) (hI : qLq P t = some (kt, et, z)) (hk : KeyOK P kt ek) (st : St m (qBo (some b) es ck :: (l ++ (qLa e sz es ++ own))) w) (hr : MapQ ek (cSl c) false m (some b) es ck o) (hz : z = .slice none 0 0)
  (h : ∀ a cap, RepS c m a cap ((qDj o k).getD []) → St m (.room a (List.length ((qDj o k).getD [])) cap e sz :: qBo (some b) es ck :: (l ++ (qKy e sz es (ek k) ++ own))) w → N ((d, .slice a (List.length ((qDj o k).getD [])) cap) :: L) w) : One P n ops Q i N L w :=
 One_lookupR (own := l ++ own) ho hd hx hy hI hk (st.perm (List.Perm.cons _ (perm_swapR _ _ _))) hr hz fun a cap h1 h2 =>
  h a cap h1 (h2.perm (List.Perm.cons _ (List.Perm.cons _ (perm_swapR _ _ _).symm)))
theorem One_mapUpdateRL [KOrd κ] (l : List Piece) {t kt et e sz : Nat} {z : Value} {x y u : Operand} {b : Nat} {es : Array MapEntry} {ck : Nat} {o o' : Option (List (κ × List α))} {k : κ} {yv : List α} {a : Option Addr} {cap : Nat} (ho : opAt ops L i = some (none, .mapUpdate t x y u))
  (hx : evL L x = some (.map (some b))) (hy : evL L y = some (ek k)) (hu : evL L u = some (.slice a yv.length cap)) (hI : qLq P t = some (kt, et, z)) (hk : KeyOK P kt ek) (st : St m (.room a yv.length cap e sz :: qBo (some b) es ck :: (l ++ (qKy e sz es (ek k) ++ own))) w) (hr : MapQ ek (cSl c) false m (some b) es ck o)
  (hyv : RepS c m a cap yv) (hs : qIo o k yv = some o')
  (h : ∀ es' ck' w', St m (qBo (some b) es' ck' :: (l ++ (qLa e sz es' ++ own))) w' → MapQ ek (cSl c) false m (some b) es' ck' o' → N L w') : One P n ops Q i N L w :=
 One_mapUpdateR (own := l ++ own) ho hx hy hu hI hk (st.perm (List.Perm.cons _ (List.Perm.cons _ (perm_swapR _ _ _)))) hr hyv hs fun es' ck' w' h1 h2 =>
  h es' ck' w' (h1.perm (List.Perm.cons _ (perm_swapR _ _ _).symm)) h2
end
end Go.Dc
