/- A quoted text part by part is its piece's own text. No program in sight. -/
import Derived.Test.YthogialdoikanaaDoorZ6
namespace Go.Proofs.YthogialdoikanaaDoor

/-- the text up to its closing quote -/
def cutQ (l : List UInt8) : List UInt8 := l.take (quotS false l)
theorem quot_end {b : UInt8} {t : List UInt8} (h : b.toNat = 34) : quotS false (b :: t) = 1 := by simp [quotS, h]
theorem quot_other {b : UInt8} {t : List UInt8} (h1 : b.toNat ≠ 34) (h2 : b.toNat ≠ 92) : quotS false (b :: t) = quotS false t + 1 := by simp [quotS, h1, h2]
theorem quot_back {b : UInt8} {t : List UInt8} (h : b.toNat = 92) : quotS false (b :: t) = quotS true t + 1 := by simp [quotS, h]
theorem quot_any (b : UInt8) (t : List UInt8) : quotS true (b :: t) = quotS false t + 1 := by simp [quotS]
theorem quot_plain : ∀ (a z : List UInt8), (∀ b ∈ a, b.toNat ≠ 34 ∧ b.toNat ≠ 92) → quotS false (a ++ z) = a.length + quotS false z
  | [], z, _ => by simp
  | b :: a, z, h => by
    have hb := h b (by simp)
    rw [List.cons_append, quot_other hb.1 hb.2, quot_plain a z (fun c hc => h c (by simp [hc]))]
    simp only [List.length_cons]; omega
theorem cut_drop {r : List UInt8} {n : Nat} (h : quotS false r = n + quotS false (r.drop n)) : (cutQ r).drop n = cutQ (r.drop n) := by
  unfold cutQ
  rw [List.drop_take]
  congr 1
  omega
theorem cut_split {r : List UInt8} {n : Nat} (h : quotS false r = n + quotS false (r.drop n)) : cutQ r = r.take n ++ cutQ (r.drop n) := by
  have e := List.take_add (l := r) (i := n) (j := quotS false (r.drop n))
  unfold cutQ
  rw [h, e]
theorem cut_take {r : List UInt8} {n : Nat} (hn : n ≤ r.length) (h : quotS false r = n + quotS false (r.drop n)) : (cutQ r).take n = r.take n := by
  rw [cut_split h, List.take_append_of_le_length (by rw [List.length_take]; omega), List.take_take]
  congr 1; omega
theorem cut_other {b : UInt8} {t : List UInt8} (h1 : b.toNat ≠ 34) (h2 : b.toNat ≠ 92) : cutQ (b :: t) = b :: cutQ t := by
  unfold cutQ
  rw [quot_other h1 h2, List.take_succ_cons]

theorem hex_plain {b : UInt8} {d : Nat} (h : hexV b.toNat = some d) : b.toNat ≠ 34 ∧ b.toNat ≠ 92 := by
  unfold hexV at h
  repeat' split at h
  all_goals first | (exact ⟨by omega, by omega⟩) | cases h
theorem four_cut : ∀ (k n : Nat) (l : List UInt8), fourF k n (cutQ l) = fourF k n l
  | 0, n, _ => by simp only [fourF]
  | k + 1, n, [] => rfl
  | k + 1, n, b :: r => by
    by_cases hb : hexV b.toNat = none
    · have h1 : fourF (k + 1) n (b :: r) = none := by simp only [fourF]; rw [hb]
      rw [h1]
      unfold cutQ
      cases hq : quotS false (b :: r) with
      | zero => have := quotS_pos (b := b) (t := r) (q := false); omega
      | succ q => rw [List.take_succ_cons]; simp only [fourF]; rw [hb]
    · cases hd : hexV b.toNat with
      | none => exact absurd hd hb
      | some d =>
        have hp := hex_plain hd
        rw [cut_other hp.1 hp.2]
        simp only [fourF]
        rw [hd]
        exact four_cut k _ r
theorem four_plain : ∀ (k n : Nat) (l : List UInt8) (x : Nat), fourF k n l = some x → k ≤ l.length ∧ ∀ b ∈ l.take k, b.toNat ≠ 34 ∧ b.toNat ≠ 92
  | 0, n, l, x, _ => ⟨Nat.zero_le _, by simp⟩
  | k + 1, n, [], x, h => by cases h
  | k + 1, n, b :: r, x, h => by
    simp only [fourF] at h
    split at h
    · cases h
    · rename_i d hd
      obtain ⟨h1, h2⟩ := four_plain k _ r x h
      refine ⟨by simp; omega, fun c hc => ?_⟩
      rw [List.take_succ_cons] at hc
      rcases List.mem_cons.1 hc with rfl | hc
      · exact hex_plain hd
      · exact h2 c hc
theorem plain_cut {r : List UInt8} {n : Nat} (hn : n ≤ r.length) (h : ∀ b ∈ r.take n, b.toNat ≠ 34 ∧ b.toNat ≠ 92) : quotS false r = n + quotS false (r.drop n) := by
  have e := quot_plain (r.take n) (r.drop n) h
  rw [List.take_append_drop, List.length_take] at e
  rw [e]; congr 1; omega
theorem four_quot {v : List UInt8} {x : Nat} (h : fourS v = some x) : 4 ≤ v.length ∧ quotS false v = 4 + quotS false (v.drop 4) := by
  obtain ⟨h1, h2⟩ := four_plain 4 0 v x h
  exact ⟨h1, plain_cut h1 h2⟩
theorem pre_cut (u : List UInt8) : Lib.hasPrefix (cutQ u) [92, 117] = Lib.hasPrefix u [92, 117] := by
  cases u with
  | nil => rfl
  | cons b t =>
    by_cases h92 : b.toNat = 92
    · unfold cutQ
      rw [quot_back h92, List.take_succ_cons]
      cases t with
      | nil => rfl
      | cons c v => rw [quot_any, List.take_succ_cons]; simp [Lib.hasPrefix, List.isPrefixOf]
    · have hb : b ≠ 92 := fun h => h92 (by rw [h]; rfl)
      have hf : ∀ z, Lib.hasPrefix (b :: z) [92, 117] = false := fun z => by
        simp [Lib.hasPrefix, List.isPrefixOf]; intro h; exact absurd h.symm hb
      unfold cutQ
      cases hq : quotS false (b :: t) with
      | zero => have := quotS_pos (b := b) (t := t) (q := false); omega
      | succ q => rw [List.take_succ_cons, hf, hf]
theorem pre_two {u : List UInt8} (h : Lib.hasPrefix u [92, 117] = true) : ∃ z, u = 92 :: 117 :: z := by
  cases u with
  | nil => cases h
  | cons b t => cases t with
    | nil => simp [Lib.hasPrefix, List.isPrefixOf] at h
    | cons c z =>
      simp [Lib.hasPrefix, List.isPrefixOf] at h
      exact ⟨z, by rw [← h.1, ← h.2]⟩
theorem pre_quot {u : List UInt8} (h : Lib.hasPrefix u [92, 117] = true) : quotS false u = 2 + quotS false (u.drop 2) := by
  obtain ⟨z, rfl⟩ := pre_two h
  rw [quot_back (by decide), quot_any]
  show _ = 2 + quotS false z
  omega

/-- one step of the answer's against one step of the piece's -/
def StepOK (r acc : List UInt8) (p : Int × List UInt8 × Nat) : Prop :=
  (p.1 = -1 → p.2.2 = 1 ∧ quotS false r = 1 ∧ unqStep (cutQ r, acc) = .inl (0, acc)) ∧
  (p.1 ≠ 0 → p.1 ≠ -1 → unqStep (cutQ r, acc) = .inl (p.1, [])) ∧
  (p.1 = 0 → 1 ≤ p.2.2 ∧ p.2.2 ≤ r.length ∧ quotS false r = p.2.2 + quotS false (r.drop p.2.2) ∧ unqStep (cutQ r, acc) = .inr (cutQ (r.drop p.2.2), acc ++ p.2.1))
theorem step_err {r acc : List UInt8} {c : Int} (h0 : c ≠ 0) (h1 : c ≠ -1) (h : unqStep (cutQ r, acc) = .inl (c, [])) : StepOK r acc (c, [], 0) :=
  ⟨fun e => absurd e h1, fun _ _ => h, fun e => absurd e h0⟩
theorem step_on {r acc bs : List UInt8} {n : Nat} (h1 : 1 ≤ n) (h2 : n ≤ r.length) (h3 : quotS false r = n + quotS false (r.drop n)) (h : unqStep (cutQ r, acc) = .inr (cutQ (r.drop n), acc ++ bs)) : StepOK r acc (0, bs, n) :=
  ⟨fun e => absurd e (by decide : (0 : Int) ≠ -1), fun e _ => absurd rfl e, fun _ => ⟨h1, h2, h3, h⟩⟩

theorem partU_ok (v acc : List UInt8) (b c : UInt8) (hb : b.toNat = 92) (hs : ∀ w, unqStep (b :: c :: w, acc) = unqU w acc) : StepOK (b :: c :: v) acc (partU v) := by
  have hq : quotS false (b :: c :: v) = 2 + quotS false v := by rw [quot_back hb, quot_any]; omega
  have hcut : cutQ (b :: c :: v) = b :: c :: cutQ v := by
    rw [cut_split (n := 2) hq]; rfl
  have hstep : unqStep (cutQ (b :: c :: v), acc) = unqU (cutQ v) acc := by rw [hcut, hs]
  cases hx : fourS v with
  | none =>
    have hp : partU v = (4, [], 0) := by unfold partU; rw [hx]
    rw [hp]
    refine step_err (by decide) (by decide) ?_
    rw [hstep]
    unfold unqU
    rw [show fourS (cutQ v) = none from (four_cut 4 0 v).trans hx]
  | some x =>
    obtain ⟨h4, hq4⟩ := four_quot hx
    have hd4 := cut_drop hq4
    have hxc : fourS (cutQ v) = some x := (four_cut 4 0 v).trans hx
    have q6 : quotS false (b :: c :: v) = 6 + quotS false ((b :: c :: v).drop 6) := by
      show _ = 6 + quotS false (v.drop 4)
      omega
    have one : ¬ (55296 ≤ x ∧ x < 57344) → StepOK (b :: c :: v) acc (0, Lib.encodeRune x, 6) := by
      intro hn
      refine step_on (by omega) (by simp; omega) q6 ?_
      rw [hstep]
      unfold unqU
      rw [hxc]
      simp only
      rw [if_neg hn, hd4]
      rfl
    by_cases hsur : 55296 ≤ x ∧ x < 57344
    · by_cases hpre : Lib.hasPrefix (v.drop 4) [92, 117] = true
      · have hpc : Lib.hasPrefix ((cutQ v).drop 4) [92, 117] = true := by rw [hd4, pre_cut, hpre]
        have hq6 : quotS false v = 6 + quotS false (v.drop 6) := by
          have := pre_quot hpre
          rw [List.drop_drop] at this
          rw [hq4, this]
          show 4 + (2 + quotS false (v.drop 6)) = _
          omega
        have hd6 := cut_drop hq6
        have hyc : fourS ((cutQ v).drop 6) = fourS (v.drop 6) := by rw [hd6]; exact four_cut 4 0 _
        by_cases hlow : 56320 ≤ x
        · have hp : partU v = (11, [], 0) := by
            unfold partU; rw [hx]
            simp only
            split
            · rw [if_pos ⟨hsur.1, by omega⟩]
            · rw [if_neg (by omega), if_pos ⟨hsur.1, by omega⟩]
          rw [hp]
          refine step_err (by decide) (by decide) ?_
          rw [hstep]
          unfold unqU
          rw [hxc]
          simp only
          rw [if_pos hsur, if_pos (.inl hlow)]
        · cases hy : fourS (v.drop 6) with
          | none =>
            have hp : partU v = (11, [], 0) := by
              unfold partU; rw [hx]
              simp only
              rw [hy]
              simp only
              rw [if_pos ⟨hsur.1, by omega⟩]
            rw [hp]
            refine step_err (by decide) (by decide) ?_
            rw [hstep]
            unfold unqU
            rw [hxc]
            simp only
            rw [if_pos hsur, if_neg (by rw [hpc]; simp; omega), hyc, hy]
          | some y =>
            obtain ⟨h4y, hq4y⟩ := four_quot hy
            by_cases hyr : 56320 ≤ y ∧ y ≤ 57343
            · have hp : partU v = (0, Lib.encodeRune (65536 + ((x : Int) - 55296) * 1024 + y - 56320), 12) := by
                unfold partU; rw [hx]
                simp only
                rw [hy]
                simp only
                rw [if_pos ⟨⟨hsur.1, by omega⟩, hpre, hyr⟩]
              rw [hp]
              have hq10 : quotS false v = 10 + quotS false (v.drop 10) := by
                rw [List.drop_drop] at hq4y
                rw [hq6, hq4y]
                show 6 + (4 + quotS false (v.drop 10)) = _
                omega
              refine step_on (by omega) (by simp only [List.length_drop, List.length_cons] at h4y ⊢; omega) (by show _ = 12 + quotS false (v.drop 10); omega) ?_
              rw [hstep]
              unfold unqU
              rw [hxc]
              simp only
              rw [if_pos hsur, if_neg (by rw [hpc]; simp; omega), hyc, hy]
              simp only
              rw [if_neg (by omega), cut_drop hq10]
              have e : (65536 + ((x : Int) - 55296) * 1024 + ((y : Int) - 56320)) = 65536 + ((x : Int) - 55296) * 1024 + y - 56320 := by omega
              rw [e]
              rfl
            · have hp : partU v = (11, [], 0) := by
                unfold partU; rw [hx]
                simp only
                rw [hy]
                simp only
                rw [if_neg (by intro h; exact hyr h.2.2), if_pos ⟨hsur.1, by omega⟩]
              rw [hp]
              refine step_err (by decide) (by decide) ?_
              rw [hstep]
              unfold unqU
              rw [hxc]
              simp only
              rw [if_pos hsur, if_neg (by rw [hpc]; simp; omega), hyc, hy]
              simp only
              rw [if_pos (by omega)]
      · have hpf : Lib.hasPrefix ((cutQ v).drop 4) [92, 117] = false := by rw [hd4, pre_cut]; simpa using hpre
        have hp : partU v = (11, [], 0) := by
          unfold partU; rw [hx]
          simp only
          split
          · rw [if_pos ⟨hsur.1, by omega⟩]
          · rw [if_neg (by intro h; exact hpre h.2.1), if_pos ⟨hsur.1, by omega⟩]
        rw [hp]
        refine step_err (by decide) (by decide) ?_
        rw [hstep]
        unfold unqU
        rw [hxc]
        simp only
        rw [if_pos hsur, if_pos (.inr hpf)]
    · have hp : partU v = (0, Lib.encodeRune x, 6) := by
        unfold partU; rw [hx]
        simp only
        split
        · rw [if_neg (by omega)]
        · rw [if_neg (by omega), if_neg (by omega)]
      rw [hp]
      exact one hsur

theorem cont_cut : ∀ (k v : Nat) (t : List UInt8), contR k v (cutQ t) = contR k v t
  | 0, v, _ => by simp only [contR]
  | k + 1, v, [] => rfl
  | k + 1, v, d :: r => by
    by_cases hd : d.toNat < 128 ∨ 192 ≤ d.toNat
    · have h1 : ∀ z, contR (k + 1) v (d :: z) = none := fun z => by simp only [contR]; rw [if_pos hd]
      unfold cutQ
      cases hq : quotS false (d :: r) with
      | zero => have := quotS_pos (b := d) (t := r) (q := false); omega
      | succ q => rw [List.take_succ_cons, h1, h1]
    · rw [cut_other (by omega) (by omega)]
      simp only [contR]
      rw [if_neg hd, if_neg hd]
      exact cont_cut k _ r
theorem next_cut (b : UInt8) (t : List UInt8) : nextR (b :: cutQ t) = nextR (b :: t) := by
  simp only [nextR, tailR, cont_cut]

theorem part_step (r acc : List UInt8) : StepOK r acc (partR r) := by
  cases r with
  | nil => exact step_err (by decide) (by decide) rfl
  | cons b t =>
    by_cases h34 : b.toNat = 34
    · have hp : partR (b :: t) = (-1, [], 1) := by simp only [partR]; rw [if_pos h34]
      rw [hp]
      refine ⟨fun _ => ⟨rfl, quot_end h34, ?_⟩, fun _ h => absurd rfl h, fun h => by cases h⟩
      unfold cutQ
      rw [quot_end h34]
      show unqStep ([b], acc) = _
      rw [unqStep_quote h34, if_pos rfl]
    · by_cases h92 : b.toNat = 92
      · cases t with
        | nil =>
          have hp : partR [b] = (4, [], 0) := by simp only [partR]; rw [if_neg h34, if_pos h92]
          rw [hp]
          refine step_err (by decide) (by decide) ?_
          have : cutQ [b] = [b] := by unfold cutQ; rw [quot_back h92]; rfl
          rw [this, unqStep_back h92]
          rfl
        | cons c v =>
          have hp : partR (b :: c :: v) = match longS c.toNat with
              | some d => (0, [d.toUInt8], 2)
              | none => if c.toNat = 117 then partU v else (4, [], 0) := by
            simp only [partR]; rw [if_neg h34, if_pos h92]; rfl
          have hq : quotS false (b :: c :: v) = 2 + quotS false v := by rw [quot_back h92, quot_any]; omega
          have hcut : cutQ (b :: c :: v) = b :: c :: cutQ v := by
            rw [cut_split (n := 2) hq]; rfl
          by_cases h117 : c.toNat = 117
          · have hl : longS c.toNat = none := by rw [h117]; rfl
            rw [hl] at hp
            simp only at hp
            rw [if_pos h117] at hp
            rw [hp]
            refine partU_ok v acc b c h92 (fun w => ?_)
            rw [unqStep_back h92]
            simp only [unqB]
            rw [if_pos h117]
          · cases hl : longS c.toNat with
            | some d =>
              rw [hl] at hp
              simp only at hp
              rw [hp]
              refine step_on (by omega) (by simp) hq ?_
              rw [hcut, unqStep_back h92]
              simp only [unqB]
              rw [if_neg h117, hl]
              rfl
            | none =>
              rw [hl] at hp
              simp only at hp
              rw [if_neg h117] at hp
              rw [hp]
              refine step_err (by decide) (by decide) ?_
              rw [hcut, unqStep_back h92]
              simp only [unqB]
              rw [if_neg h117, hl]
      · have hcut := cut_other (t := t) h34 h92
        by_cases h32 : b.toNat < 32
        · have hp : partR (b :: t) = (4, [], 0) := by simp only [partR]; rw [if_neg h34, if_neg h92, if_pos h32]
          rw [hp]
          refine step_err (by decide) (by decide) ?_
          rw [hcut, unqStep_small h34 h92 h32]
        · have hp : partR (b :: t) = match nextR (b :: t) with
              | none => (11, [], 0)
              | some (_, n) => (0, (b :: t).take n, n) := by simp only [partR]; rw [if_neg h34, if_neg h92, if_neg h32]; rfl
          cases hn : nextR (b :: t) with
          | none =>
            rw [hn] at hp
            simp only at hp
            rw [hp]
            refine step_err (by decide) (by decide) ?_
            rw [hcut, unqStep_other h34 h92 h32, decL_none (by rw [next_cut]; exact hn), if_pos ⟨rfl, rfl⟩]
          | some y =>
            obtain ⟨x, n⟩ := y
            rw [hn] at hp
            simp only at hp
            rw [hp]
            obtain ⟨h1, h2, _, h3, _, h5⟩ := nextR_some hn
            have hpl : ∀ c ∈ (b :: t).take n, c.toNat ≠ 34 ∧ c.toNat ≠ 92 := by
              intro c hc
              rcases Nat.lt_or_ge b.toNat 128 with hb | hb
              · obtain ⟨_, rfl⟩ := h5 hb
                obtain rfl : c = b := by simpa using hc
                exact ⟨h34, h92⟩
              · have := h3 hb c hc
                omega
            have hq := plain_cut h2 hpl
            refine step_on h1 h2 hq ?_
            obtain ⟨e1, e2⟩ := decL_some (t := cutQ t) (by rw [next_cut]; exact hn)
            rw [hcut, unqStep_other h34 h92 h32, e1, if_neg e2]
            simp only
            rw [Nat.max_eq_right h1, ← hcut, cut_drop hq, cut_take h2 hq]

/-- the piece of a quoted text: its own text -/
theorem take_piece {b : UInt8} {t : List UInt8} (hb : b.toNat = 34) : unquoteS ((b :: t).take (quotS true (b :: t))) = unq (cutQ t) [] ∧ quotS true (b :: t) = quotS false t + 1 := by
  rw [quot_any, List.take_succ_cons]
  exact ⟨by simp only [unquoteS]; rw [if_pos hb]; rfl, rfl⟩
end Go.Proofs.YthogialdoikanaaDoor
