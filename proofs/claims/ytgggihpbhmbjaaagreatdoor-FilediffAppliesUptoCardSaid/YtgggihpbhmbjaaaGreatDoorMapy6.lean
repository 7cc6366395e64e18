/- The decompiler's rules of maps with integers or strings as keys, and of arrays that are written. No condition. -/
import Derived.Test.YtgggihpbhmbjaaaGreatDoorRangey6
import Derived.MapKept
namespace Go.Dc
def mget {κ ν : Type} [DecidableEq κ] : List (κ × ν) → κ → Option ν
 | [], _ => none
 | p :: l, k => if k = p.1 then some p.2 else mget l k
def qMb {κ ν : Type} [DecidableEq κ] : List (κ × ν) → κ → ν → List (κ × ν)
 | [], k, v => [(k, v)]
 | p :: l, k, v => if k = p.1 then (k, v) :: l else p :: qMb l k v
class KOrd (κ : Type) where
 lt : κ → κ → Bool
instance : KOrd Int := ⟨fun a b => decide (a < b)⟩
instance : KOrd ByteArray := ⟨fun a b => decide (a.data.toList < b.data.toList)⟩
instance {α β : Type} [DecidableEq α] [KOrd α] [KOrd β] : KOrd (α × β) := ⟨fun a b => KOrd.lt a.1 b.1 || (decide (a.1 = b.1) && KOrd.lt a.2 b.2)⟩
def mins {κ ν : Type} [KOrd κ] : List (κ × ν) → κ → ν → List (κ × ν)
 | [], k, v => [(k, v)]
 | p :: l, k, v => if KOrd.lt k p.1 = true then (k, v) :: p :: l else p :: mins l k v
def mset {κ ν : Type} [DecidableEq κ] [KOrd κ] (l : List (κ × ν)) (k : κ) (v : ν) : List (κ × ν) :=
 if (mget l k).isSome = true then l.map fun p => if k = p.1 then (k, v) else p else mins l k v
theorem qKp {κ ν : Type} [DecidableEq κ] {l : List (κ × ν)} {k : κ} : mget l k = none ↔ k ∉ l.map (·.1) := by
 induction l with
 | nil => simp [mget]
 | cons p l ih =>
  simp only [mget, List.map_cons, List.mem_cons, not_or]
  split
  ·rename_i h; simp [h]
  ·rename_i h; rw [ih]; exact ⟨fun g => ⟨h, g⟩, fun g => g.2⟩
theorem qJo {κ ν : Type} [DecidableEq κ] {l : List (κ × ν)} {k : κ} {v : ν} (hn : (l.map (·.1)).Nodup) : mget l k = some v ↔ (k, v) ∈ l := by
 induction l with
 | nil => simp [mget]
 | cons p l ih =>
  simp only [List.map_cons, List.nodup_cons] at hn
  simp only [mget, List.mem_cons]
  split
  ·rename_i h
   subst h
   constructor
   ·intro e; left; simp at e; rw [← e]
   ·rintro (e | e)
    ·rw [← e]
    ·exact absurd (List.mem_map_of_mem (f := (·.1)) e) hn.1
  ·rename_i h
   rw [ih hn.2]
   constructor
   ·intro e; exact .inr e
   ·rintro (e | e)
    ·exact absurd (congrArg Prod.fst e) h
    ·exact e
theorem mget_perm {κ ν : Type} [DecidableEq κ] {l l' : List (κ × ν)} (hp : l'.Perm l) (hn : (l'.map (·.1)).Nodup) (k : κ) : mget l' k = mget l k := by
 have hn' : (l.map (·.1)).Nodup := (hp.map _).nodup_iff.1 hn
 cases h : mget l k with
 | none => rw [qKp] at h ⊢; exact fun g => h ((hp.map _).mem_iff.1 g)
 | some v => rw [qJo hn'] at h; rw [qJo hn]; exact hp.mem_iff.2 h
theorem mset0_new {κ ν : Type} [DecidableEq κ] {l : List (κ × ν)} {k : κ} {v : ν} (h : mget l k = none) : qMb l k v = l ++ [(k, v)] := by
 induction l with
 | nil => rfl
 | cons p l ih =>
  simp only [mget] at h
  split at h
  ·cases h
  ·rename_i hk; simp [qMb, hk, ih h]
theorem mset0_upd {κ ν : Type} [DecidableEq κ] {l : List (κ × ν)} {k : κ} {v : ν} (hn : (l.map (·.1)).Nodup) (h : mget l k ≠ none) : qMb l k v = l.map fun p => if k = p.1 then (k, v) else p := by
 induction l with
 | nil => exact absurd rfl h
 | cons p l ih =>
  simp only [List.map_cons, List.nodup_cons] at hn
  simp only [qMb, List.map_cons]
  by_cases hk : k = p.1
  ·simp only [hk, if_true]
   congr 1
   rw [← hk]
   refine (List.map_congr_left fun q hq => ?_).trans (List.map_id _) |>.symm
   have : k ≠ q.1 := fun e => hn.1 (by rw [← hk, e]; exact List.mem_map_of_mem (f := (·.1)) hq)
   simp [this]
  ·simp only [hk, if_false]
   rw [ih hn.2 (by simpa [mget, hk] using h)]
theorem mins_perm {κ ν : Type} [KOrd κ] (l : List (κ × ν)) (k : κ) (v : ν) : (mins l k v).Perm ((k, v) :: l) := by
 induction l with
 | nil => exact .refl _
 | cons p l ih =>
  simp only [mins]
  split
  ·exact .refl _
  ·exact (List.Perm.cons p ih).trans (.swap _ _ _)
theorem qKo {κ ν : Type} [DecidableEq κ] [KOrd κ] {l l' : List (κ × ν)} (hp : l'.Perm l) (hn : (l'.map (·.1)).Nodup) (k : κ) (v : ν) : (qMb l' k v).Perm (mset l k v) := by
 have hg := mget_perm hp hn k
 unfold mset
 cases h : mget l k with
 | none =>
  rw [mset0_new (by rw [hg, h])]
  simp only [Option.isSome_none, Bool.false_eq_true, if_false]
  exact (List.perm_append_comm.trans (List.Perm.cons _ hp)).trans (mins_perm l k v).symm
 | some u =>
  rw [mset0_upd hn (by rw [hg, h]; simp)]
  simp only [Option.isSome_some, if_true]
  exact hp.map _
theorem qIi {κ ν : Type} [DecidableEq κ] {l : List (κ × ν)} (hn : (l.map (·.1)).Nodup) (k : κ) (v : ν) : ((qMb l k v).map (·.1)).Nodup := by
 cases h : mget l k with
 | none =>
  rw [mset0_new h, List.map_append, List.nodup_append]
  refine ⟨hn, by simp, ?_⟩
  intro a ha b hb e
  simp at hb; subst hb e
  exact qKp.1 h ha
 | some u =>
  rw [mset0_upd hn (by rw [h]; simp)]
  have : (l.map fun p => if k = p.1 then (k, v) else p).map (·.1) = l.map (·.1) := by
   rw [List.map_map]
   refine List.map_congr_left fun q _ => ?_
   simp only [Function.comp]
   split
   ·rename_i e; exact e
   ·rfl
  rw [this]; exact hn
def mkV (agg : Bool) (cs : List Value) : Value := bif agg then .agg cs.toArray else cs.headD undef
def MapL {κ ν : Type} (ek : κ → Value) (c : Codec ν) (agg : Bool) (m : Mem) : List MapEntry → List (κ × ν) → Prop
 | [], l => l = []
 | e :: es, l => ∃ k v l', l = (k, v) :: l' ∧ e.key = ek k ∧ (∃ cs, c.rep m v cs ∧ e.val = mkV agg cs) ∧ MapL ek c agg m es l'
def Born (es : List MapEntry) (ck : Nat) : Prop := (∀ e ∈ es, e.born < ck) ∧ (es.map (·.born)).Nodup
def MapQ {κ ν : Type} (ek : κ → Value) (c : Codec ν) (agg : Bool) (m : Mem) (q : Option Nat) (es : Array MapEntry) (ck : Nat) (o : Option (List (κ × ν))) : Prop :=
 match q with
 | none => o = none
 | some _ => ∃ l l', o = some l ∧ l'.Perm l ∧ (l'.map (·.1)).Nodup ∧ MapL ek c agg m es.toList l' ∧ Born es.toList ck
theorem MapL.mono {κ ν : Type} {ek : κ → Value} {c : Codec ν} {agg : Bool} {m m' : Mem} (hle : m.le m') : ∀ {es : List MapEntry} {l : List (κ × ν)}, MapL ek c agg m es l → MapL ek c agg m' es l
 | [], _, h => h
 | _ :: _, _, ⟨k, v, l', h1, h2, ⟨cs, h3, h4⟩, h5⟩ => ⟨k, v, l', h1, h2, ⟨cs, c.mono _ _ _ _ hle h3, h4⟩, h5.mono hle⟩
theorem MapQ.mono {κ ν : Type} {ek : κ → Value} {c : Codec ν} {agg : Bool} {m m' : Mem} {q : Option Nat} {es : Array MapEntry} {ck : Nat} {o : Option (List (κ × ν))} (h : MapQ ek c agg m q es ck o) (hle : m.le m') : MapQ ek c agg m' q es ck o := by
 cases q with
 | none => exact h
 | some b => obtain ⟨l, l', h1, h2, h3, h4, h5⟩ := h; exact ⟨l, l', h1, h2, h3, h4.mono hle, h5⟩
structure KeyOK {κ : Type} [DecidableEq κ] (P : Program) (kt : TypeId) (ek : κ → Value) : Prop where
 kind : ∃ d, P.underlying kt = some d ∧ (∀ a b, Instr.sameNow d (ek a) (ek b) = some (decide (a = b))) ∧ ∀ n e (v : Value) (w : World), (Instr.checkKey e (n + 1) kt v).run P w = .ok () w
 bits : ∀ n a, Instr.sameBits n (ek a) (ek a) = true
theorem int_beq (a b : Int) : (a == b) = decide (a = b) := by rw [Bool.eq_iff_iff]; simp
theorem bytes_beq' (a b : ByteArray) : (a == b) = decide (a = b) := by
 rw [Bool.eq_iff_iff]
 have := Go.MapKept.bytes_beq a b
 simpa using this
theorem keyInt {P : Program} {kt : TypeId} {q : IntKind} (h : P.underlying kt = some (.int q)) : KeyOK P kt (fun n : Int => Value.int q n) where
 kind := ⟨_, h, fun a b => by simp [Instr.sameNow]; exact int_beq a b, fun n e v w => by simp [Instr.checkKey, run_underlying h]⟩
 bits := fun n a => by cases n <;> simp [Instr.sameBits]
theorem qJk {P : Program} {kt : TypeId} (h : P.underlying kt = some .string) : KeyOK P kt (fun s : ByteArray => Value.string s) where
 kind := ⟨_, h, fun a b => by simp [Instr.sameNow]; exact bytes_beq' a b, fun n e v w => by simp [Instr.checkKey, run_underlying h]⟩
 bits := fun n a => by cases n <;> simp [Instr.sameBits, bytes_beq']
section
variable {m : Mem} {κ ν : Type} {ek : κ → Value} {c : Codec ν} {agg : Bool}
theorem MapL.snoc : ∀ {es : List MapEntry} {l : List (κ × ν)} {e : MapEntry} {k : κ} {y : ν} {cs : List Value}, MapL ek c agg m es l → e.key = ek k → c.rep m y cs → e.val = mkV agg cs → MapL ek c agg m (es ++ [e]) (l ++ [(k, y)])
 | [], l, e, k, y, cs, h, h1, h2, h3 => by
  simp only [MapL] at h; subst h
  exact ⟨k, y, [], rfl, h1, ⟨cs, h2, h3⟩, rfl⟩
 | e' :: es, l, e, k, y, cs, ⟨k', v', l', g1, g2, g3, g4⟩, h1, h2, h3 => by
  subst g1
  exact ⟨k', v', l' ++ [(k, y)], rfl, g2, g3, g4.snoc h1 h2 h3⟩
theorem MapQ.new (ek : κ → Value) (c : Codec ν) (agg : Bool) (m : Mem) (b : Nat) : MapQ ek c agg m (some b) #[] 0 (some []) := ⟨[], [], rfl, .refl _, by simp, rfl, by simp [Born]⟩
theorem MapQ.nil (ek : κ → Value) (c : Codec ν) (agg : Bool) (m : Mem) (es : Array MapEntry) (ck : Nat) : MapQ ek c agg m none es ck (none : Option (List (κ × ν))) := rfl
end
section
variable {P : Program} {n : Fr} {ops : Array Oper} {Q : Exit → Act → World → Prop} {i d : Nat} {L : Env} {w : World} {m : Mem} {own : List Piece} {N : Env → World → Prop}
variable {κ ν : Type} [DecidableEq κ] {ek : κ → Value} {c : Codec ν} {agg : Bool}
theorem qJb {dd : TypeDesc} (hk : ∀ a b, Instr.sameNow dd (ek a) (ek b) = some (decide (a = b))) (k : κ) : ∀ (es : List MapEntry) (l : List (κ × ν)) (j : Nat), MapL ek c agg m es l →
  ∃ r, Instr.findNow dd (ek k) es j = some r ∧ match r with
   | none => mget l k = none ∧ qMb l k = fun v => l ++ [(k, v)]
   | some (q, v) => ∃ x cs, mget l k = some x ∧ c.rep m x cs ∧ v = mkV agg cs ∧ j ≤ q ∧ q < j + es.length ∧ (∃ e, es[q - j]? = some e ∧ e.key = ek k) ∧
     ∀ (y : ν) (cs' : List Value) (f : MapEntry → MapEntry), c.rep m y cs' → (∀ e, (f e).key = ek k ∧ (f e).val = mkV agg cs') → MapL ek c agg m (es.modify (q - j) f) (qMb l k y)
 | [], l, j, h => by
  simp only [MapL] at h; subst h
  exact ⟨none, rfl, rfl, by funext v; rfl⟩
 | e :: es, l, j, h => by
  obtain ⟨k', v', l', rfl, h1, ⟨cs, h2, h3⟩, h4⟩ := h
  simp only [Instr.findNow, h1, hk]
  by_cases hkk : k = k'
  ·subst hkk
   simp only [decide_true]
   refine ⟨_, rfl, v', cs, by simp [mget], h2, h3, Nat.le_refl _, by simp, ⟨e, by simp, h1⟩, ?_⟩
   intro y cs' f hy hf
   simp only [Nat.sub_self, List.modify_zero_cons, qMb, if_true]
   exact ⟨k, y, l', rfl, (hf e).1, ⟨cs', hy, (hf e).2⟩, h4⟩
  ·simp only [hkk, decide_false]
   obtain ⟨r, hr, hrest⟩ := qJb hk k es l' (j + 1) h4
   refine ⟨r, hr, ?_⟩
   cases r with
   | none =>
    obtain ⟨g1, g2⟩ := hrest
    exact ⟨by simp [mget, hkk, g1], by funext v; simp [qMb, hkk, g2]⟩
   | some qv =>
    obtain ⟨q, v⟩ := qv
    obtain ⟨x, cs1, g1, g2, g3, g4, g5, ⟨e1, g6, g7⟩, g8⟩ := hrest
    have hq : q - j = (q - (j + 1)) + 1 := by omega
    refine ⟨x, cs1, by simp [mget, hkk, g1], g2, g3, by omega, by simp; omega, ⟨e1, by rw [hq]; simpa using g6, g7⟩, ?_⟩
    intro y cs' f hy hf
    rw [hq]
    simp only [List.modify_succ_cons, qMb, if_neg hkk]
    exact ⟨k', v', _, rfl, h1, ⟨cs, h2, h3⟩, g8 y cs' f hy hf⟩
def qLq (P : Program) (t : TypeId) : Option (TypeId × TypeId × Value) :=
 match P.underlying t with
 | some (.map k e) => match P.info? e with
  | some i => i.zero.map fun z => (k, e, z)
  | none => none
 | _ => none
theorem qJd {t kt et : TypeId} {z : Value} (h : qLq P t = some (kt, et, z)) : P.underlying t = some (.map kt et) ∧ ∀ w : World, (zeroValue et).run P w = .ok z w := by
 unfold qLq at h
 split at h
 ·rename_i k e he
  split at h
  ·rename_i inf hi
   obtain ⟨z', hz, hp⟩ := Option.map_eq_some_iff.1 h
   simp only [Prod.mk.injEq] at hp
   obtain ⟨rfl, rfl, rfl⟩ := hp
   exact ⟨he, fun w => by simp [zeroValue, typeInfo, hi, hz]⟩
  ·cases h
 ·cases h
def qBo (q : Option Nat) (es : Array MapEntry) (ck : Nat) : Piece :=
 match q with
 | none => .room none 0 0 0 0
 | some b => .blk b (.map es ck)
def qDj (o : Option (List (κ × ν))) (k : κ) : Option ν := o.bind fun l => mget l k
def qIo [KOrd κ] (o : Option (List (κ × ν))) (k : κ) (v : ν) : Option (Option (List (κ × ν))) := o.map fun l => some (mset l k v)
theorem qJa {t : TypeId} (ho : opAt ops L i = some (some d, .makeMap t none)) (hd : Nat.blt d n = true) (st : St m own w)
  (h : ∀ b w', St m (qBo (some b) #[] 0 :: own) w' → N ((d, .map (some b)) :: L) w') : One P n ops Q i N L w := by
 refine qFb (w' := w.alloc (.map #[] 0)) ho hd (fun q hq => ?_) (h w.heap.size _ (st.alloc ⟨⟨rfl, rfl⟩, rfl, dle⟩ rfl))
 simp [execOp, hq, Instr.makeMap]
theorem run_lookup {t kt et : TypeId} {z : Value} (hI : qLq P t = some (kt, et, z)) (hk : KeyOK P kt ek) {q : Option Nat} {es : Array MapEntry} {ck : Nat} {o : Option (List (κ × ν))} (hp : Piece.holds m w (qBo q es ck)) (hr : MapQ ek c agg m q es ck o)
  {zx : ν} {zcs : List Value} (hz : c.rep m zx zcs) (hzv : z = mkV agg zcs) (k : κ) (ok : Bool) :
  ∃ cs, c.rep m ((qDj o k).getD zx) cs ∧ (Instr.lookup t (.map q) (ek k) ok).run P w = .ok (bif ok then .tuple #[mkV agg cs, .bool (qDj o k).isSome] else mkV agg cs) w := by
 obtain ⟨h1, h2⟩ := qJd hI
 obtain ⟨dd, hdd, hsame, hchk⟩ := hk.kind
 have main : ∀ (es : List MapEntry) (l : List (κ × ν)), MapL ek c agg m es l → ∃ cs r, c.rep m ((mget l k).getD zx) cs ∧ (Instr.findKey kt (ek k) es).run P w = .ok r w ∧
   (match r with | some (_, v) => v = mkV agg cs ∧ (mget l k).isSome = true | none => mkV agg cs = z ∧ (mget l k).isSome = false) := by
  intro es l hl
  obtain ⟨r, hr, hrest⟩ := qJb (c := c) (agg := agg) hsame k es l 0 hl
  cases r with
  | none => exact ⟨zcs, none, by simp [hrest.1, hz], by simp [Instr.findKey, run_underlying hdd, hr], hzv.symm, by simp [hrest.1]⟩
  | some qv =>
   obtain ⟨q, v⟩ := qv
   obtain ⟨x, cs, g1, g2, g3, _⟩ := hrest
   exact ⟨cs, some (q, v), by simp [g1, g2], by simp [Instr.findKey, run_underlying hdd, hr], g3, by simp [g1]⟩
 cases q with
 | none =>
  simp only [MapQ] at hr
  subst hr
  obtain ⟨cs, r, g1, g2, g3⟩ := main [] [] rfl
  refine ⟨cs, by simpa [qDj, mget] using g1, ?_⟩
  have hc := hchk 9999 true (ek k) w
  cases r with
  | none => cases ok <;> simp [Instr.lookup, run_underlying h1, hc, g2, h2, g3.1, qDj]
  | some r => simp [mget] at g3
 | some b =>
  obtain ⟨l0, l, rfl, hperm, hnd, hl, _⟩ := hr
  obtain ⟨cs, r, g1, g2, g3⟩ := main es.toList l hl
  rw [mget_perm hperm hnd] at g1 g3
  refine ⟨cs, by simpa [qDj] using g1, ?_⟩
  have hb : w.heap[b]? = some (.map es ck) := hp.1
  have hget : (getObj b).run P w = .ok (.map es ck) w := by simp [getObj, Sem.run, hb]
  have hc := hchk 9999 es.isEmpty (ek k) w
  cases r with
  | none => cases ok <;> simp [Instr.lookup, run_underlying h1, hget, hc, g2, h2, g3.1, g3.2, qDj]
  | some r =>
   obtain ⟨_, v⟩ := r
   cases ok <;> simp [Instr.lookup, run_underlying h1, hget, hc, g2, g3.1, g3.2, qDj]
theorem qJi {t kt et : TypeId} {z : Value} {x y : Operand} {q : Option Nat} {es : Array MapEntry} {ck : Nat} {o : Option (List (κ × ν))} {k : κ} {ok : Bool} (ho : opAt ops L i = some (some d, .lookup t x y ok)) (hd : Nat.blt d n = true)
  (hx : evL L x = some (.map q)) (hy : evL L y = some (ek k)) (hI : qLq P t = some (kt, et, z)) (hk : KeyOK P kt ek) (hp : Piece.holds m w (qBo q es ck)) (hr : MapQ ek c agg m q es ck o)
  {zx : ν} {zcs : List Value} (hz : c.rep m zx zcs) (hzv : z = mkV agg zcs)
  (h : ∀ cs, c.rep m ((qDj o k).getD zx) cs → N ((d, bif ok then .tuple #[mkV agg cs, .bool (qDj o k).isSome] else mkV agg cs) :: L) w) : One P n ops Q i N L w := by
 obtain ⟨cs, h1, h2⟩ := run_lookup hI hk hp hr hz hzv k ok
 refine qFb ho hd (fun q hq => ?_) (h cs h1)
 simp [execOp, hq, qBp hx, qBp hy, h2]
theorem run_setObj {b : Nat} {o o' : Obj} (hb : w.heap[b]? = some o) (hm : ∀ cs e f, o ≠ .cells cs e f) : (setObj b o').run P w = .ok () { w with heap := w.heap.setIfInBounds b o' } := by
 cases o <;> first | (exact absurd rfl (hm _ _ _)) | simp [setObj, Sem.run, hb]
theorem qHd [KOrd κ] {t kt et : TypeId} {z v : Value} {x y u : Operand} {q : Option Nat} {es : Array MapEntry} {ck : Nat} {o o' : Option (List (κ × ν))} {k : κ} {yv : ν} {cs : List Value} (ho : opAt ops L i = some (none, .mapUpdate t x y u))
  (hx : evL L x = some (.map q)) (hy : evL L y = some (ek k)) (hu : evL L u = some v) (hI : qLq P t = some (kt, et, z)) (hk : KeyOK P kt ek) (st : St m (qBo q es ck :: own) w) (hr : MapQ ek c agg m q es ck o)
  (hyv : c.rep m yv cs) (hv : v = mkV agg cs) (hs : qIo o k yv = some o')
  (h : ∀ es' ck' w', St m (qBo q es' ck' :: own) w' → MapQ ek c agg m q es' ck' o' → N L w') : One P n ops Q i N L w := by
 obtain ⟨h1, h2⟩ := qJd hI
 obtain ⟨dd, hdd, hsame, hchk⟩ := hk.kind
 cases q with
 | none => simp only [MapQ] at hr; subst hr; simp [qIo] at hs
 | some b =>
  obtain ⟨l0, l, rfl, hperm, hnd, hl, hb1, hb2⟩ := hr
  simp only [qIo, Option.map_some, Option.some.injEq] at hs
  subst hs
  have hb : w.heap[b]? = some (.map es ck) := st.head.1
  have hlt := qKt hb
  have hget : (getObj b).run P w = .ok (.map es ck) w := by simp [getObj, Sem.run, hb]
  have hset : ∀ o', (setObj b o').run P w = .ok () { w with heap := w.heap.setIfInBounds b o' } := fun o' => run_setObj hb (by simp)
  have hnew : ∀ o', St m (.blk b o' :: own) { w with heap := w.heap.setIfInBounds b o' } := fun o' =>
   St.set (o := .map es ck) st ⟨⟨rfl, rfl⟩, rfl, dle⟩ (by simp [hlt]) (fun k _ hk => by simp [Array.getElem?_setIfInBounds, Ne.symm hk])
  have hc := hchk 9999 false (ek k) w
  obtain ⟨r, hr, hrest⟩ := qJb (c := c) (agg := agg) hsame k es.toList l 0 hl
  have hfind : (Instr.findKey kt (ek k) es.toList).run P w = .ok r w := by simp [Instr.findKey, run_underlying hdd, hr]
  cases r with
  | none =>
   obtain ⟨g1, g2⟩ := hrest
   refine qLc ho (fun q hq => ?_) (h (es.push { key := ek k, val := v, born := ck }) (ck + 1) _ (hnew _) ⟨_, qMb l k yv, rfl, qKo hperm hnd k yv, qIi hnd k yv, ?_, ?_, ?_⟩)
   ·simp [execOp, hq, qBp hx, qBp hy, qBp hu, Instr.mapUpdate, run_underlying h1, hget, hc, hfind, hset]
   ·rw [g2, Array.toList_push]
    exact hl.snoc rfl hyv hv
   ·intro e he
    rw [Array.toList_push, List.mem_append] at he
    rcases he with he | he
    ·have := hb1 e he; omega
    ·simp at he; subst he; simp
   ·rw [Array.toList_push, List.map_append, List.nodup_append]
    refine ⟨hb2, by simp, ?_⟩
    intro a ha b hb e
    simp at hb; subst hb e
    obtain ⟨e0, he0, he1⟩ := List.mem_map.1 ha
    have := hb1 e0 he0
    omega
  | some qv =>
   obtain ⟨q, v0⟩ := qv
   obtain ⟨x0, cs0, g1, g2, g3, g4, g5, ⟨e0, g6, g7⟩, g8⟩ := hrest
   have he : es[q]? = some e0 := by simpa using g6
   have hstay : (Instr.keyThatStays (ek k) (ek k)).run P w = .ok (ek k) w := by simp [Instr.keyThatStays, hk.bits]
   refine qLc ho (fun p hp => ?_) (h (es.modify q fun e => { e with key := ek k, val := v }) ck _ (hnew _) ⟨_, qMb l k yv, rfl, qKo hperm hnd k yv, qIi hnd k yv, ?_, ?_, ?_⟩)
   ·simp [execOp, hp, qBp hx, qBp hy, qBp hu, Instr.mapUpdate, run_underlying h1, hget, hc, hfind, he, g7, hstay, hset]
   ·rw [Array.toList_modify]
    have := g8 yv cs (fun e => { e with key := ek k, val := v }) hyv (fun e => ⟨rfl, hv⟩)
    simpa using this
   ·intro e he
    rw [Array.toList_modify] at he
    obtain ⟨j, hj, rfl⟩ := List.mem_iff_getElem.1 he
    rw [List.getElem_modify]
    have hj' : j < es.toList.length := by simpa using hj
    have := hb1 es.toList[j] (List.getElem_mem hj')
    split
    ·exact this
    ·exact this
   ·rw [Array.toList_modify]
    have : (es.toList.modify q fun e => { e with key := ek k, val := v }).map (·.born) = es.toList.map (·.born) := by
     apply List.ext_getElem
     ·simp
     ·intro j h1 h2
      simp only [List.getElem_map, List.getElem_modify]
      split <;> rfl
    rw [this]; exact hb2
theorem qJj [KOrd κ] {t kt et : TypeId} {z v : Value} {x y u : Operand} {q : Option Nat} {es : Array MapEntry} {ck : Nat} {o o' : Option (List (κ × ν))} {k : κ} {yv : ν} {cs : List Value} (ho : opAt ops L i = some (none, .insert t x y u))
  (hx : evL L x = some (.map q)) (hy : evL L y = some (ek k)) (hu : evL L u = some v) (hI : qLq P t = some (kt, et, z)) (hk : KeyOK P kt ek) (st : St m (qBo q es ck :: own) w) (hr : MapQ ek c agg m q es ck o)
  (hyv : c.rep m yv cs) (hv : v = mkV agg cs) (hs : qIo o k yv = some o')
  (h : ∀ es' ck' w', St m (qBo q es' ck' :: own) w' → MapQ ek c agg m q es' ck' o' → N L w') : One P n ops Q i N L w := by
 obtain ⟨h1, h2⟩ := qJd hI
 obtain ⟨dd, hdd, hsame, hchk⟩ := hk.kind
 cases q with
 | none => simp only [MapQ] at hr; subst hr; simp [qIo] at hs
 | some b =>
  obtain ⟨l0, l, rfl, hperm, hnd, hl, hb1, hb2⟩ := hr
  simp only [qIo, Option.map_some, Option.some.injEq] at hs
  subst hs
  have hb : w.heap[b]? = some (.map es ck) := st.head.1
  have hlt := qKt hb
  have hget : (getObj b).run P w = .ok (.map es ck) w := by simp [getObj, Sem.run, hb]
  have hset : ∀ o', (setObj b o').run P w = .ok () { w with heap := w.heap.setIfInBounds b o' } := fun o' => run_setObj hb (by simp)
  have hnew : ∀ o', St m (.blk b o' :: own) { w with heap := w.heap.setIfInBounds b o' } := fun o' =>
   St.set (o := .map es ck) st ⟨⟨rfl, rfl⟩, rfl, dle⟩ (by simp [hlt]) (fun k _ hk => by simp [Array.getElem?_setIfInBounds, Ne.symm hk])
  have hc := hchk 9999 false (ek k) w
  obtain ⟨r, hr, hrest⟩ := qJb (c := c) (agg := agg) hsame k es.toList l 0 hl
  have hfind : (Instr.findKey kt (ek k) es.toList).run P w = .ok r w := by simp [Instr.findKey, run_underlying hdd, hr]
  cases r with
  | none =>
   obtain ⟨g1, g2⟩ := hrest
   refine qLc ho (fun q hq => ?_) (h (es.push { key := ek k, val := v, born := ck }) (ck + 1) _ (hnew _) ⟨_, qMb l k yv, rfl, qKo hperm hnd k yv, qIi hnd k yv, ?_, ?_, ?_⟩)
   ·simp [execOp, hq, qBp hx, qBp hy, qBp hu, Instr.mapUpdate, run_underlying h1, hget, hc, hfind, hset]
   ·rw [g2, Array.toList_push]
    exact hl.snoc rfl hyv hv
   ·intro e he
    rw [Array.toList_push, List.mem_append] at he
    rcases he with he | he
    ·have := hb1 e he; omega
    ·simp at he; subst he; simp
   ·rw [Array.toList_push, List.map_append, List.nodup_append]
    refine ⟨hb2, by simp, ?_⟩
    intro a ha b hb e
    simp at hb; subst hb e
    obtain ⟨e0, he0, he1⟩ := List.mem_map.1 ha
    have := hb1 e0 he0
    omega
  | some qv =>
   obtain ⟨q, v0⟩ := qv
   obtain ⟨x0, cs0, g1, g2, g3, g4, g5, ⟨e0, g6, g7⟩, g8⟩ := hrest
   have he : es[q]? = some e0 := by simpa using g6
   have hstay : (Instr.keyThatStays (ek k) (ek k)).run P w = .ok (ek k) w := by simp [Instr.keyThatStays, hk.bits]
   refine qLc ho (fun p hp => ?_) (h (es.modify q fun e => { e with key := ek k, val := v }) ck _ (hnew _) ⟨_, qMb l k yv, rfl, qKo hperm hnd k yv, qIi hnd k yv, ?_, ?_, ?_⟩)
   ·simp [execOp, hp, qBp hx, qBp hy, qBp hu, Instr.mapUpdate, run_underlying h1, hget, hc, hfind, he, g7, hstay, hset]
   ·rw [Array.toList_modify]
    have := g8 yv cs (fun e => { e with key := ek k, val := v }) hyv (fun e => ⟨rfl, hv⟩)
    simpa using this
   ·intro e he
    rw [Array.toList_modify] at he
    obtain ⟨j, hj, rfl⟩ := List.mem_iff_getElem.1 he
    rw [List.getElem_modify]
    have hj' : j < es.toList.length := by simpa using hj
    have := hb1 es.toList[j] (List.getElem_mem hj')
    split
    ·exact this
    ·exact this
   ·rw [Array.toList_modify]
    have : (es.toList.modify q fun e => { e with key := ek k, val := v }).map (·.born) = es.toList.map (·.born) := by
     apply List.ext_getElem
     ·simp
     ·intro j h1 h2
      simp only [List.getElem_map, List.getElem_modify]
      split <;> rfl
    rw [this]; exact hb2
end
end Go.Dc
namespace Go.Dc
section
variable {P : Program} {n : Fr} {ops : Array Oper} {Q : Exit → Act → World → Prop} {i d : Nat} {L : Env} {w : World} {m : Mem} {own : List Piece} {N : Env → World → Prop}
variable {α : Type} {f : α → Value}
def makeA (by_ : Nat) (z : α) (k : Int) : Option (List α) := if 0 ≤ k ∧ k * by_ ≤ 140737488355328 ∧ k ≤ maxLen then some (List.replicate k.toNat z) else none
def qFs (f : α → Value) (l : List α) (T : List Value) : Array Value := (l.map f ++ T).toArray
theorem One_makeArr {t e by_ : Nat} {x y : Operand} {z : α} {k : Int} {kd kd2 : IntKind} {l : List α} (f : α → Value) (ho : opAt ops L i = some (some d, .makeSlice t x y)) (hd : Nat.blt d n = true) (hx : evL L x = some (.int kd k)) (hy : evL L y = some (.int kd2 k))
  (hi : qLk P t = some (e, 1, by_, 1)) (hz : (P.info? e).bind (·.zero) = some (f z)) (hone : (f z).oneCell' = true) (st : St m own w) (hs : makeA by_ z k = some l)
  (h : ∀ b w', List.length l = Int.toNat k → St m (.blk b (.cells (qFs f l []) e (0, 0)) :: own) w' → N ((d, .slice (some ⟨b, 0, none⟩) (Int.toNat k) (Int.toNat k)) :: L) w') : One P n ops Q i N L w := by
 obtain ⟨ht, inf, zv, hinf, hzv, hsz, hby, hzs⟩ := qKj hi
 rw [hinf] at hz
 simp only [Option.bind_some, hzv, Option.some.injEq] at hz
 subst hz
 unfold makeA at hs
 split at hs
 ·rename_i hk
  obtain ⟨k1, k2, k3⟩ := hk
  simp only [Option.some.injEq] at hs; subst hs
  have hmx : (maxLen : Int) = 9223372036854775807 := rfl
  have hw : IntKind.i64.wrap k = k := by simp [IntKind.wrap, IntKind.signed, IntKind.bits]; omega
  have k2' : ¬ (281474976710656 < (by_ : Int) * k) := by rw [Int.mul_comm]; omega
  have hcells : (f z).cells = #[f z] := by cases hv : f z <;> simp_all [Value.cells, Value.oneCell']
  have hac : qFs f (List.replicate k.toNat z) [] = ((List.replicate k.toNat z).map f).toArray := by simp [qFs]
  refine qFb (w' := w.alloc (.cells ((List.replicate k.toNat z).map f).toArray e)) ho hd (fun q hq => ?_) (h w.heap.size _ (by simp) (by rw [hac]; exact st.alloc ⟨⟨rfl, rfl⟩, rfl, dle⟩ rfl))
  simp only [execOp, hq, qBp hx, qBp hy, Instr.makeSlice, Sem.run_bind, run_underlying ht, Result.andThen_ok, asInt, asIntOf, typeInfo, run_program, hinf, Sem.run_pure, hw, hby]
  have h1 : ¬ (k < 0) := by omega
  have hcond : (decide (k < 0) || decide ((by_ : Int) * k > 2 ^ 48) || decide (k < 0) || decide (k > k)) = false := by simp [h1]; omega
  simp only [hcond, Bool.false_eq_true, if_false, run_askRoom, Result.andThen_ok, sizeOf, typeInfo, Sem.run_bind, run_program, hinf, Sem.run_pure, hsz, Nat.mul_one]
  by_cases h0 : k.toNat = 0
  ·simp [h0, newRow]
   congr 2
   first | rfl | simp
  ·simp [h0, zeroValue, typeInfo, hinf, hzv, hcells, newRow, Nat.mod_one]
   congr 2
   apply Array.ext
   ·simp
   ·intro j h1 h2; simp
 ·cases hs
theorem qKl {t e : TypeId} {x y : Operand} {b nn cc : Nat} {l : List α} {k : IntKind} {ix : Int} {z : α} (ho : opAt ops L i = some (some d, .indexAddr t x y)) (hd : Nat.blt d n = true)
  (hx : evL L x = some (.slice (some ⟨b, 0, none⟩) nn cc)) (hy : evL L y = some (.int k ix)) (hi : qHx P t = some (e, 1)) (hn : List.length l = nn) (hz : idx l ix = some z)
  (h : N ((d, .pointer (some ⟨b, ix.toNat, none⟩)) :: L) w) : One P n ops Q i N L w := by
 obtain ⟨h1, inf, h2, h3⟩ := qHf hi
 unfold idx at hz
 split at hz
 ·rename_i h0
  have hlt : ix.toNat < l.length := (List.getElem?_eq_some_iff.1 hz).1
  refine qFb ho hd (fun q hq => ?_) h
  have hlt' : ix < (nn : Int) := by omega
  simp [execOp, hq, Instr.indexAt, qBp hx, qBp hy, asIntOf, run_underlying h1, h0, hlt', sizeOf, typeInfo, h2, h3, qLu]
 ·cases hz
theorem acells_get {l : List α} {T : List Value} {j : Nat} {z : α} (h : l[j]? = some z) : (qFs f l T)[j]? = some (f z) := by
 have hlt := (List.getElem?_eq_some_iff.1 h).1
 simp only [qFs, List.getElem?_toArray]
 rw [List.getElem?_append_left (by simpa using hlt)]
 simp [h]
theorem One_arrLoad {t e : TypeId} {x : Operand} {b : Nat} {l : List α} {T : List Value} {ix : Int} {z : α} {fr : Nat × Nat} (ho : opAt ops L i = some (some d, .load t x)) (hd : Nat.blt d n = true)
  (hx : evL L x = some (.pointer (some ⟨b, ix.toNat, none⟩))) (hp : Piece.holds m w (.blk b (.cells (qFs f l T) e fr))) (hz : idx l ix = some z) (hv : loadV P t [f z] = some (f z))
  (h : N ((d, f z) :: L) w) : One P n ops Q i N L w := by
 unfold idx at hz
 split at hz
 ·refine qFb ho hd (fun q hq => ?_) h
  have hb := hp.1
  have hl := qKn (P := P) (w := w) (t := t) (b := b) (o := ix.toNat) (cs := [f z]) (v := f z) (fun j u hu => by
   match j, hu with
   | 0, hu =>
    simp at hu; subst hu
    simp [World.cell?, hb, acells_get hz]) hv
  simp [execOp, hq, Instr.loadAt, qBp hx, Instr.sureAddr, hl]
 ·cases hz
theorem One_arrStore {t e : TypeId} {x y : Operand} {b : Nat} {l : List α} {T : List Value} {ix : Int} {z u : α} (ho : opAt ops L i = some (none, .store t x y))
  (hx : evL L x = some (.pointer (some ⟨b, ix.toNat, none⟩))) (hy : evL L y = some (f u)) (st : St m (.blk b (.cells (qFs f l T) e (0, 0)) :: own) w) (hz : idx l ix = some z) (hone : (f u).oneCell' = true) (hsz : (P.info? t).map (·.size) = some 1)
  (h : ∀ w', St m (.blk b (.cells (qFs f (l.set ix.toNat u) T) e (0, 0)) :: own) w' → N L w') : One P n ops Q i N L w := by
 unfold idx at hz
 split at hz
 ·have hlt : ix.toNat < l.length := (List.getElem?_eq_some_iff.1 hz).1
  have hcells : (f u).cells = #[f u] := by cases hv : f u <;> simp_all [Value.cells, Value.oneCell']
  have hb := st.head.1
  have hrun := run_storeCells_at P b ix.toNat e [f u] 0 (qFs f l T) w hb (by simp [qFs]; omega) (by simp [hone])
  simp only [Nat.add_zero] at hrun
  have harr : ((qFs f l T).toList.take ix.toNat ++ [f u] ++ (qFs f l T).toList.drop (ix.toNat + [f u].length)).toArray = qFs f (l.set ix.toNat u) T := by
   apply congrArg List.toArray
   simp only [qFs, List.toList_toArray]
   rw [List.map_set, List.set_eq_take_append_cons_drop, if_pos (by simpa using hlt)]
   rw [List.take_append_of_le_length (by simp; omega), List.drop_append_of_le_length (by simp; omega)]
   simp
  rw [harr] at hrun
  cases hi : P.info? t with
  | none => simp [hi] at hsz
  | some inf =>
   simp only [hi, Option.map_some, Option.some.injEq] at hsz
   refine qLc ho (fun q hq => ?_) (h (w.setRow b (qFs f (l.set ix.toNat u) T)) (st.set ⟨⟨rfl, rfl⟩, rfl, dle⟩ (setRow_heap w b (qFs f l T) _ e _ hb) (fun k _ hk => setRow_other w b k _ hk)))
   simp [execOp, hq, Instr.storeAt, qBp hx, qBp hy, Instr.sureAddr, storeVar, sizeOf, typeInfo, hi, hcells, hsz, hrun]
 ·cases hz
theorem St.freeze {c : Codec α} {b e nn cc : Nat} {l : List α} {T : List Value} (st : St m (.blk b (.cells (qFs f l T) e (0, 0)) :: own) w) (hn : List.length l = nn) (hcc : nn ≤ cc) (hmx : cc ≤ maxLen) (hT : (qFs f l T).size = cc) (hsz : c.sz = 1) (hc : ∀ m x, c.rep m x [f x]) :
  ∃ m', m.le m' ∧ St m' (.room (some ⟨b, 0, none⟩) (List.length l) cc e 1 :: own) w ∧ RepS c m' (some ⟨b, 0, none⟩) cc l := by
 have htk : (qFs f l T).toList.take (l.map f).length = l.map f := by simp [qFs]
 obtain ⟨m', h1, h2, h3, h4, h5, h6⟩ := St.know (b := b) (cs := l.map f) st.tail (st.head_ne rfl) st.head.1 htk (fun o v hv => by rw [st.head.2.1 o] at hv; cases hv)
 refine ⟨m', h1, h2.cons ⟨rfl, rfl, by omega, hmx, ⟨_, st.head.1, by rw [hT, Nat.mul_one]⟩, fun o ho => h4 o (by simpa using ho), by rw [h5]; exact st.head.2.2⟩ ?_, ?_⟩
 ·intro k hk; simp [Piece.block] at hk; subst hk; exact st.head_ne rfl
 ·exact RepS.of_cells (cs := l.map f) (by omega) hmx (fun j x hx => by
   have hlt := (List.getElem?_eq_some_iff.1 hx).1
   have he := (List.getElem?_eq_some_iff.1 hx).2
   rw [hsz, Nat.mul_one, ← List.map_drop, ← List.map_take, List.drop_eq_getElem_cons hlt, he]
   exact hc m' x) h3
theorem makeA_le {by_ : Nat} {z : α} {k : Int} {l : List α} (h : makeA by_ z k = some l) : k.toNat ≤ maxLen := by
 unfold makeA at h
 split at h
 ·rename_i hk; have := hk.2.2; have hmx : (maxLen : Int) = 9223372036854775807 := rfl; omega
 ·cases h
theorem acells_size {l : List α} {T : List Value} {nn cc : Nat} (h : List.length l = nn) (hT : nn + T.length = cc) : (qFs f l T).size = cc := by simp [qFs]; omega
end
end Go.Dc
namespace Go.Dc
theorem set_len {α : Type} {l : List α} {n : Nat} (h : List.length l = n) (i : Nat) (a : α) : List.length (List.set l i a) = n := by rw [List.length_set]; exact h
end Go.Dc
