/- The decompiler's rules of maps: delete, maps of slices with the rooms behind them, ranges over a map whose order shows till the function ends. No condition. -/
import Derived.Test.YtgggihpbhmbjaaaDoorMapRk3
import Derived.Test.YtgggihpbhmbjaaaDoorInsk3
namespace Go.Dc
theorem KeyOK.inj {κ : Type} [DecidableEq κ] {P : Program} {kt : TypeId} {ek : κ → Value} (hk : KeyOK P kt ek) {a b : κ} (h : ek a = ek b) : a = b := by
 obtain ⟨d, _, h1, _⟩ := hk.kind
 have e1 := h1 a b
 rw [h, h1 b b] at e1
 simpa using e1.symm
section
variable {P : Program} {n : Fr} {ops : Array Oper} {Q : Exit → Act → World → Prop} {i d : Nat} {L : Env} {w : World} {m : Mem} {own : List Piece} {N : Env → World → Prop}
variable {κ ν : Type} [DecidableEq κ] {ek : κ → Value} {c : Codec ν} {agg : Bool}
end
def mrangeK {α σ β ρ : Type} [DecidableEq ρ] (f : Option α → σ → Option (σ ⊕ β)) (l : List α) (s : σ) (K : β → Option ρ) : Option ρ :=
 match (loopE f l s).bind K with
 | none => none
 | some b => if ((perms l).all fun k => decide ((loopE f k s).bind K = some b)) = true then some b else none
theorem mrangeK_all {α σ β ρ : Type} [DecidableEq ρ] {f : Option α → σ → Option (σ ⊕ β)} {l : List α} {s : σ} {K : β → Option ρ} {b : ρ} (h : mrangeK f l s K = some b) : ∀ k, k.Perm l → (loopE f k s).bind K = some b := by
 unfold mrangeK at h
 split at h
 ·cases h
 ·rename_i b' hb
  split at h
  ·rename_i hall
   simp only [Option.some.injEq] at h; subst h
   intro k hk
   have := List.all_eq_true.1 hall k (mem_perms hk)
   simpa using this
  ·cases h
def LoopP {α σ β : Type} (f : Option α → σ → Option (σ ⊕ β)) (rem : List α) (s : σ) (Pk : β → Prop) (k : Nat) : Prop := (∀ l, l.Perm rem → ∃ b, loopE f l s = some b ∧ Pk b) ∧ rem.length < k
theorem LoopP.start {α σ β ρ : Type} [DecidableEq ρ] {f : Option α → σ → Option (σ ⊕ β)} {l : List α} {s : σ} {K : β → Option ρ} {b : ρ} (h : mrangeK f l s K = some b) : ∃ Pk : β → Prop, (∀ o, Pk o → K o = some b) ∧ LoopP f l s Pk (l.length + 1) :=
 ⟨fun o => K o = some b, fun _ h => h, fun k hk => by obtain ⟨o, h1, h2⟩ := Option.bind_eq_some_iff.1 (mrangeK_all h k hk); exact ⟨o, h1, h2⟩, Nat.lt_succ_self _⟩
theorem LoopP.zero {α σ β : Type} {f : Option α → σ → Option (σ ⊕ β)} {rem : List α} {s : σ} {b : β → Prop} {p : Prop} (h : LoopP f rem s b 0) : p := absurd h.2 (Nat.not_lt_zero _)
theorem LoopP.nil {α σ β : Type} {f : Option α → σ → Option (σ ⊕ β)} {rem : List α} {s : σ} {b : β → Prop} {k : Nat} (h : LoopP f rem s b (k + 1)) (hr : rem = []) :
  ∃ c, f none s = some c ∧ (∀ s', c = .inl s' → LoopP f rem s' b k) ∧ (∀ b', c = .inr b' → b b') := by
 subst hr
 obtain ⟨o, this, hp⟩ := h.1 [] (.refl _)
 simp only [loopE] at this
 obtain ⟨c, h1, h2⟩ := Option.bind_eq_some_iff.1 this
 refine ⟨c, h1, ?_, ?_⟩
 ·rintro s' rfl; simp at h2
 ·rintro b' rfl
  simp only [Option.some.injEq] at h2
  subst h2; exact hp
theorem LoopP.cons {α σ β : Type} {f : Option α → σ → Option (σ ⊕ β)} {rem rest : List α} {e : α} {s : σ} {b : β → Prop} {k : Nat} (h : LoopP f rem s b (k + 1)) (hr : rem.Perm (e :: rest)) :
  ∃ c, f (some e) s = some c ∧ (∀ s', c = .inl s' → LoopP f rest s' b k) ∧ (∀ b', c = .inr b' → b b') := by
 have hlen : rem.length = rest.length + 1 := by simpa using hr.length_eq
 have key : ∀ l, l.Perm rest → ∃ o, loopE f (e :: l) s = some o ∧ b o := fun l hl => h.1 _ ((hl.cons e).trans hr.symm)
 obtain ⟨o, h0, hp⟩ := key rest (.refl _)
 simp only [loopE] at h0
 obtain ⟨c, h1, h2⟩ := Option.bind_eq_some_iff.1 h0
 refine ⟨c, h1, ?_, ?_⟩
 ·rintro s' rfl
  refine ⟨fun l hl => ?_, by have := h.2; omega⟩
  obtain ⟨o2, h3, h4⟩ := key l hl
  simp only [loopE, h1, Option.bind_some] at h3
  exact ⟨o2, h3, h4⟩
 ·rintro b' rfl
  simp only [Option.some.injEq] at h2
  subst h2; exact hp
section
variable {P : Program} {n : Fr} {ops : Array Oper} {Q : Exit → Act → World → Prop} {i d : Nat} {L : Env} {w : World} {m : Mem} {own : List Piece} {N : Env → World → Prop}
variable {κ α : Type} [DecidableEq κ] {ek : κ → Value} {c : Codec α}
end
end Go.Dc
namespace Go.Dc
section
variable {P : Program} {n : Fr} {ops : Array Oper} {Q : Exit → Act → World → Prop} {i d : Nat} {L : Env} {w : World} {m : Mem} {own : List Piece} {N : Env → World → Prop}
variable {κ α : Type} [DecidableEq κ] {ek : κ → Value} {c : Codec α}
end
end Go.Dc
