/- a scope with several labels, one of which is a loop's head; a frame, slot by slot. Of whatever program. -/
import Derived.WalkKit
import Derived.ScopeJumps
namespace Go.Proofs.YthogialdoikanaaDoor

/-- what is asked at an exit: a jump to the head is a round's end; a jump to another label goes on there, at most n times -/
def Hops (P : Program) (c : Code) (h : Nat) (lim : Act → World → Prop) (Q : Exit → Act → World → Prop) : Nat → Exit → Act → World → Prop
  | n, .goto l, a, w => (l = h ∧ lim a w) ∨ (l ≠ h ∧ match n with
      | 0 => False
      | n + 1 => ∃ r, findLabel c l = some r ∧ r.wp P (Hops P c h lim Q n) a w)
  | _, e, a, w => Q e a w

theorem Hops_head {P : Program} {c : Code} {h : Nat} {lim : Act → World → Prop} {Q : Exit → Act → World → Prop} {n : Nat} {a : Act} {w : World} (hl : lim a w) : Hops P c h lim Q n (.goto h) a w := by
  cases n <;> exact .inl ⟨rfl, hl⟩
theorem Hops_on {P : Program} {c : Code} {h : Nat} {lim : Act → World → Prop} {Q : Exit → Act → World → Prop} {n l : Nat} {r : Code} {a : Act} {w : World} (hne : l ≠ h) (hf : findLabel c l = some r) (hr : r.wp P (Hops P c h lim Q n) a w) :
    Hops P c h lim Q (n + 1) (.goto l) a w := .inr ⟨hne, r, hf, hr⟩
theorem Hops_ret {P : Program} {c : Code} {h : Nat} {lim : Act → World → Prop} {Q : Exit → Act → World → Prop} {n : Nat} {a : Act} {w : World} (hq : Q .ret a w) : Hops P c h lim Q n .ret a w := by
  cases n <;> exact hq

theorem hops_run {P : Program} {c : Code} {h : Nat} {rest : Code} {lim : Act → World → Prop} {Q : Exit → Act → World → Prop} (hf : findLabel c h = some rest) :
    ∀ (n : Nat) (x : Code) (a : Act) (w : World), x.wp P (Hops P c h lim Q n) a w → ∀ (b : Frame) (k : List Item) (cs : List Frame),
      (∃ e a' w', Q e a' w' ∧ Arrives P (lone (b.at a (.code x :: .inScope c :: k)) cs w) b k cs e a' w') ∨
      (∃ a' w', lim a' w' ∧ Steps P (lone (b.at a (.code x :: .inScope c :: k)) cs w) (lone (b.at a' (.code rest :: .inScope c :: k)) cs w')) := by
  intro n
  induction n with
  | zero =>
    intro x a w hx b k cs
    obtain ⟨e, a₁, w₁, hq, harr⟩ := hx b (.inScope c :: k) cs
    cases e with
    | normal => exact .inl ⟨.normal, a₁, w₁, hq, Steps.trans harr (.one step_inScope)⟩
    | exit id => exact .inl ⟨.exit id, a₁, w₁, hq, fun k' hk => harr k' (by simp [exitTo, hk])⟩
    | goto l =>
      rcases hq with ⟨rfl, hl⟩ | ⟨_, hF⟩
      · exact .inr ⟨a₁, w₁, hl, harr _ (by simp [gotoIn, hf])⟩
      · exact hF.elim
    | ret => exact .inl ⟨_, a₁, w₁, hq, harr⟩
    | panic ch => exact .inl ⟨_, a₁, w₁, hq, harr⟩
    | outgrown => exact .inl ⟨_, a₁, w₁, hq, harr⟩
  | succ n ih =>
    intro x a w hx b k cs
    obtain ⟨e, a₁, w₁, hq, harr⟩ := hx b (.inScope c :: k) cs
    cases e with
    | normal => exact .inl ⟨.normal, a₁, w₁, hq, Steps.trans harr (.one step_inScope)⟩
    | exit id => exact .inl ⟨.exit id, a₁, w₁, hq, fun k' hk => harr k' (by simp [exitTo, hk])⟩
    | goto l =>
      rcases hq with ⟨rfl, hl⟩ | ⟨_, r, hr, hw⟩
      · exact .inr ⟨a₁, w₁, hl, harr _ (by simp [gotoIn, hf])⟩
      · have hst := harr _ (show gotoIn l (.inScope c :: k) = some (.code r :: .inScope c :: k) by simp [gotoIn, hr])
        rcases ih r a₁ w₁ hw b k cs with ⟨e, a₂, w₂, hq₂, h₂⟩ | ⟨a₂, w₂, hl, h₂⟩
        · exact .inl ⟨e, a₂, w₂, hq₂, .of_steps hst h₂⟩
        · exact .inr ⟨a₂, w₂, hl, Steps.trans hst h₂⟩
    | ret => exact .inl ⟨_, a₁, w₁, hq, harr⟩
    | panic ch => exact .inl ⟨_, a₁, w₁, hq, harr⟩
    | outgrown => exact .inl ⟨_, a₁, w₁, hq, harr⟩

/-- A SCOPE WHOSE LABEL h IS A LOOP's HEAD: J holds whenever it is come to; each pass lowers the measure. -/
theorem wp_scope_head {P : Program} {c rest : Code} {Q : Exit → Act → World → Prop} {a : Act} {w : World} (h N : Nat) (J : Act → World → Prop) (μ : Act → World → Nat) (hf : findLabel c h = some rest)
    (first : c.wp P (Hops P c h J Q N) a w) (pass : ∀ a w, J a w → rest.wp P (Hops P c h (fun a' w' => J a' w' ∧ μ a' w' < μ a w) Q N) a w) : (Code.scope c).wp P Q a w := by
  intro b k cs
  have key : ∀ n a w, μ a w = n → J a w → ∃ e a' w', Q e a' w' ∧ Arrives P (lone (b.at a (.code rest :: .inScope c :: k)) cs w) b k cs e a' w' := by
    intro n
    induction n using Nat.strongRecOn with
    | _ n ih =>
      intro a w hn hJ
      rcases hops_run hf N rest a w (pass a w hJ) b k cs with h1 | ⟨a₂, w₂, ⟨hl, hlt⟩, h₂⟩
      · exact h1
      · obtain ⟨e, a₃, w₃, hq, h₃⟩ := ih (μ a₂ w₂) (hn ▸ hlt) a₂ w₂ rfl hl
        exact ⟨e, a₃, w₃, hq, .of_steps h₂ h₃⟩
  rcases hops_run hf N c a w first b k cs with ⟨e, a₁, w₁, hq, h1⟩ | ⟨a₂, w₂, hl, h₂⟩
  · exact ⟨e, a₁, w₁, hq, .of_steps (.one step_scope) h1⟩
  · obtain ⟨e, a₃, w₃, hq, h₃⟩ := key _ a₂ w₂ rfl hl
    exact ⟨e, a₃, w₃, hq, .of_steps (.head step_scope h₂) h₃⟩

theorem Hops_mono {P : Program} {c : Code} {h : Nat} {lim lim' : Act → World → Prop} {Q : Exit → Act → World → Prop} (hl : ∀ a w, lim a w → lim' a w) :
    ∀ (n : Nat) (e : Exit) (a : Act) (w : World), Hops P c h lim Q n e a w → Hops P c h lim' Q n e a w := by
  intro n
  induction n with
  | zero =>
    intro e a w hh
    cases e with
    | goto l => exact hh.imp (fun ⟨x, y⟩ => ⟨x, hl _ _ y⟩) id
    | _ => exact hh
  | succ n ih =>
    intro e a w hh
    cases e with
    | goto l => exact hh.imp (fun ⟨x, y⟩ => ⟨x, hl _ _ y⟩) (fun ⟨x, r, hr, hw⟩ => ⟨x, r, hr, wp_mono hw ih⟩)
    | _ => exact hh

/-- The same, the first way in coming to the head by itself. -/
theorem wp_scope_into {P : Program} {c rest : Code} {Q : Exit → Act → World → Prop} {a : Act} {w : World} (h N : Nat) (J : Act → World → Prop) (μ : Act → World → Nat) (hf : findLabel c h = some (.seq .skip rest))
    (first : (∀ a w, J a w → rest.wp P (Hops P c h J Q N) a w) → c.wp P (Hops P c h J Q N) a w) (pass : ∀ a w, J a w → rest.wp P (Hops P c h (fun a' w' => J a' w' ∧ μ a' w' < μ a w) Q N) a w) : (Code.scope c).wp P Q a w :=
  wp_scope_head h N J μ hf (first fun a w hJ => wp_mono (pass a w hJ) (Hops_mono (fun _ _ hh => hh.1) N)) fun a w hJ => wp_seq (wp_skip (pass a w hJ))

/-- a frame of so many slots, each under a name -/
theorem frame_open (n : Nat) (F : Array Value) (h : F.size = n) : ∃ u : Nat → Value, (∀ i, i < n → u i = F.getD i undef) ∧ F = ((List.range n).map u).toArray := by
  refine ⟨fun i => F.getD i undef, fun _ _ => rfl, ?_⟩
  apply Array.ext
  · simp [h]
  · intro i h1 h2
    simp [Array.getD, h1]
end Go.Proofs.YthogialdoikanaaDoor
