/- walks: the answer's own Part and Take. -/
import Derived.Test.YthogialdoikanaaDoorX1
import Derived.Test.YthogialdoikanaaDoorZ8
namespace Go.Proofs.YthogialdoikanaaDoor
open Go.RowKit

theorem part_any (s : ByteArray) (k : Nat) (w : World) (hk : k ≤ s.size) (hs : s.size ≤ 1000000000000000000) : Calls Tryd.prog 45 #[.string s, .int .i64 k] w (PartPost (partR (s.data.toList.drop k)) k w) := by
  rcases Nat.lt_or_ge k s.size with h | h
  · by_cases h34 : (s[k]'h).toNat = 34
    · exact part_quote s k w h hs h34
    · by_cases h92 : (s[k]'h).toNat = 92
      · rcases Nat.lt_or_ge (k + 1) s.size with h1 | h1
        · by_cases h7 : (s[k + 1]'h1).toNat = 117
          · exact part_u s k w h hs h92 h1 h7
          · cases hl : longS (s[k + 1]'h1).toNat with
            | none => exact part_wrong s k w h hs h92 h1 hl h7
            | some d => exact part_long s k w h hs h92 h1 d hl
        · exact part_last s k w h hs h92 h1
      · by_cases h32 : (s[k]'h).toNat < 32
        · exact part_small s k w h hs h32
        · exact part_other s k w h hs h32 h34 h92
  · exact part_out s k w h (by omega)
theorem part_is_end {r : Int × List UInt8 × Nat} {k : Nat} {w w' : World} {e : Ending} (hp : PartPost r k w e w') (hr : r.1 = -1) : Below w.heap.size w w' ∧ e = .returned (.tuple #[.slice none 0 0, .int .i64 ((k : Int) + 1), .int .i64 (-1)]) := by
  obtain ⟨h1, h2, _⟩ := hp
  refine ⟨h1, ?_⟩
  rw [h2 (by rw [hr]; decide), hr]
  rfl
theorem part_is_bad {r : Int × List UInt8 × Nat} {k : Nat} {w w' : World} {e : Ending} {c : Int} (hp : PartPost r k w e w') (hr : r.1 = c) (h0 : c ≠ 0) (h1 : c ≠ -1) : Below w.heap.size w w' ∧ e = .returned (.tuple #[.slice none 0 0, .int .i64 0, .int .i64 c]) := by
  obtain ⟨hb, h2, _⟩ := hp
  subst hr
  refine ⟨hb, ?_⟩
  rw [h2 h0, if_neg h1]
theorem part_is_ok {r : Int × List UInt8 × Nat} {k n : Nat} {bs : List UInt8} {w w' : World} {e : Ending} (hp : PartPost r k w e w') (hr : r = (0, bs, n)) : Below w.heap.size w w' ∧ ∃ x, e = .returned (.tuple #[x, .int .i64 ((k + n : Nat) : Int), .int .i64 0]) ∧ ShowsBytes w' x bs := by
  obtain ⟨hb, _, h3⟩ := hp
  subst hr
  exact ⟨hb, h3 rfl⟩
theorem enc_len (v : Int) : (Lib.encodeRune v).length ≤ 4 := by
  unfold Lib.encodeRune
  rw [List.length_map]
  unfold Lib.encodeRuneZ
  repeat' split
  all_goals simp
theorem partR_len (l : List UInt8) : (partR l).2.1.length ≤ 4 * (partR l).2.2 := by
  cases l with
  | nil => simp [partR]
  | cons b t =>
    unfold partR
    simp only
    split
    · simp
    · split
      · split
        · simp
        · split
          · simp
          · split
            · unfold partU
              have e1 := fun v => enc_len v
              repeat' split
              all_goals first | (simp; done) | (refine Nat.le_trans (e1 _) ?_; simp)
            · simp
      · split
        · simp
        · split
          · simp
          · simp only [List.length_take]; omega

set_option maxRecDepth 100000 in
theorem wpList_append_shown {ops : Array Oper} {rest : List Oper} {o : Oper} {a : Act} {Q : Exit → Act → World → Prop} (w00 w0 : World) (hgd : o.guard = none) (s x : Operand)
    (ho : o.op = .call { callee := .builtin .append, args := #[s, x], argTypes := #[39, 39] })
    (v y : Value) (acc bs : List UInt8) (hs : a.eval s = v) (hown : OwnBytes w0 w00.heap.size v acc) (hb : Below w00.heap.size w00 w0)
    (hx : a.eval x = y) (hsh : ShowsBytes w0 y bs) (hl : acc.length + bs.length ≤ 140737488355328)
    (h : ∀ v' w', OwnBytes w' w00.heap.size v' (acc ++ bs) → Below w00.heap.size w00 w' → wpList Tryd.prog ops Q rest (a.put o.dst v') w') : wpList Tryd.prog ops Q (o :: rest) a w0 := by
  obtain ⟨ti, hti, htz, hts, hty⟩ := info_parts byte_info
  obtain ⟨ad, c, rfl, hn⟩ := hsh
  refine wpList_append_own _ hgd s x 39 ho w00.heap.size 5 ti _ 1 1 Tryd.underlying39 hti htz hts hty rfl (by omega) v acc.length (Lib.byteCells acc) hs hown ad bs.length c (Lib.byteCells bs) hx (by rw [Lib.byteCells_length]; omega) hn (byteCells_one' bs) (by simp only [maxLen]; omega) (by omega) hb.size ?_
  intro v2 w2 hown2 hg2 _
  refine h v2 w2 ?_ (below_own hb hown hg2 (Nat.le_refl _) hb.size)
  unfold OwnBytes
  rw [Lib.byteCells_append, List.length_append]
  exact hown2

def TakePost (U : Int × List UInt8) (p : Nat) (w : World) (e : Ending) (w' : World) : Prop :=
  e = .returned (.tuple #[.string ⟨(if U.1 = 0 then U.2 else []).toArray⟩, .int .i64 (if U.1 = 0 then (p : Int) else 0), .int .i64 U.1]) ∧ Below w.heap.size w w'
theorem take_ok {U : Int × List UInt8} {p : Nat} {w w' : World} {bs : List UInt8} {q : Int} (hU : U = (0, bs)) (hq : q = p) (hb : Below w.heap.size w w') : TakePost U p w (.returned (.tuple #[.string ⟨bs.toArray⟩, .int .i64 q, .int .i64 0])) w' := by
  subst hU; subst hq
  exact ⟨rfl, hb⟩
theorem take_bad {U : Int × List UInt8} {p : Nat} {w w' : World} {c : Int} (hU : U = (c, [])) (hc : c ≠ 0) (hb : Below w.heap.size w w') : TakePost U p w (.returned (.tuple #[.string ⟨#[]⟩, .int .i64 0, .int .i64 c])) w' := by
  subst hU
  refine ⟨?_, hb⟩
  simp only
  rw [if_neg hc, if_neg hc]

set_option maxHeartbeats 4000000 in
set_option maxRecDepth 100000 in
theorem take_any (s : ByteArray) (k : Nat) (w : World) (hk : k < s.size) (hs : s.size ≤ 1000000000000) (h : (s[k]'hk).toNat = 34) :
    Calls Tryd.prog 28 #[.string s, .int .i64 k] w (TakePost (unq (cutQ (s.data.toList.drop (k + 1))) []) (k + 1 + quotS false (s.data.toList.drop (k + 1))) w) := by
  obtain ⟨U, hU⟩ : ∃ U, unq (cutQ (s.data.toList.drop (k + 1))) [] = U := ⟨_, rfl⟩
  obtain ⟨p, hp⟩ : ∃ p, k + 1 + quotS false (s.data.toList.drop (k + 1)) = p := ⟨_, rfl⟩
  rw [hU, hp]
  have t34 : ((s[k].toNat : Int) == 34) = true := by rw [beq_iff_eq]; omega
  have m34 : ((s[k].toNat : Int) != 34) = false := by rw [bne, t34]; rfl
  have HU := Lib.hid hU
  have HPP := Lib.hid hp
  clear hU hp
  go_enter Tryd.func28, Tryd.ntmps28
  go_wp2
  go_loopw [1, 7] (fun i v wr => ∃ (q : Nat) (acc : List UInt8), i = .int .i64 q ∧ q ≤ s.size ∧ acc.length ≤ 4 * q ∧ OwnBytes wr w.heap.size v acc ∧ Below w.heap.size w wr ∧ unq (cutQ (s.data.toList.drop q)) acc = U ∧ q + quotS false (s.data.toList.drop q) = p) (fun i _ _ => s.size - (intOf i).toNat)
  case atStart => exact ⟨k + 1, [], by go_num, by omega, by simp, ⟨by rfl, .inl ⟨rfl, rfl⟩⟩, Below.refl _ _, HU.out, HPP.out⟩
  case round =>
    obtain ⟨q, acc, rfl, hq, hal, hown, hb, hu, hpq⟩ := hrel
    have hpart := part_any s q wr hq (by omega)
    have hstep := part_step (s.data.toList.drop q) acc
    have hlen := partR_len (s.data.toList.drop q)
    have hdl : (s.data.toList.drop q).length = s.size - q := by rw [List.length_drop, ← Lib.size_eq]
    generalize hr : partR (s.data.toList.drop q) = r at hpart hstep hlen
    obtain ⟨c, bs, n⟩ := r
    obtain ⟨h1, h2, h3⟩ := hstep
    simp only at h1 h2 h3 hlen
    by_cases cE : c = -1
    · subst cE
      obtain ⟨_, e1, e2⟩ := h1 rfl
      have hU2 := unq_inl e2
      rw [hu] at hU2
      have HP := Lib.hid hpart
      have HU2 := Lib.hid hU2
      have hpq2 : p = q + 1 := by omega
      clear h1 h2 h3 e2 hU2 hpart hu hdl hr
      go_wp2_with (go_at_call 45; refine HP.out.mono ?_; intro e w1 hpp; obtain ⟨hb1, rfl⟩ := part_is_end hpp rfl; have hown1 := own_below hown hb1; have hcv := own_string hown1)
      go_ret3
      exact take_ok HU2.out (by omega) (hb.trans (hb1.mono hb.size))
    · by_cases c0 : c = 0
      · subst c0
        obtain ⟨e1, e2, e3, e4⟩ := h3 rfl
        have hU2 := unq_inr e4
        rw [hu] at hU2
        rw [List.drop_drop] at hU2 e3
        have HP := Lib.hid hpart
        have HU2 := Lib.hid hU2.symm
        have hpq2 : (q + n) + quotS false (s.data.toList.drop (q + n)) = p := by omega
        have HPQ := Lib.hid hpq2
        have hqn : q + n ≤ s.size := by omega
        clear h1 h2 h3 e4 hU2 hpart hu hr hpq2 e3 hpq hdl e2 cE
        go_wp2_with (first | (go_at_call 45; refine HP.out.mono ?_; intro e w1 hpp; obtain ⟨hb1, x1, rfl, hsh⟩ := part_is_ok hpp rfl; have hown1 := own_below hown hb1; have hbb := hb.trans (hb1.mono hb.size)) | (at_builtin; refine wpList_append_shown w _ rfl (.tmp 38) (.tmp 39) rfl _ _ acc bs rfl hown1 hbb rfl hsh (by omega) ?_; intro v2 w2 hown2 hb2))
        go_roundw
        case rel => exact ⟨q + n, acc ++ bs, by go_num, by omega, by rw [List.length_append]; omega, hown2, hb2, HU2.out, HPQ.out⟩
        case measure => simp [intOf]; omega
      · have hU2 := unq_inl (h2 c0 cE)
        rw [hu] at hU2
        have HP := Lib.hid hpart
        have HU2 := Lib.hid hU2
        have nE : (c == -1) = false := by rw [beq_eq_false_iff_ne]; exact cE
        have n0 : (c == 0) = false := by rw [beq_eq_false_iff_ne]; exact c0
        have m0 : (c != 0) = true := by rw [bne, n0]; rfl
        have HC0 := Lib.hid c0
        have HCE := Lib.hid cE
        clear h1 h2 h3 hU2 hpart hu hr c0 cE hdl
        go_wp2_with (go_at_call 45; refine HP.out.mono ?_; intro e w1 hpp; obtain ⟨hb1, rfl⟩ := part_is_bad hpp rfl HC0.out HCE.out)
        go_ret3
        exact take_bad HU2.out HC0.out (hb.trans (hb1.mono hb.size))
end Go.Proofs.YthogialdoikanaaDoor
