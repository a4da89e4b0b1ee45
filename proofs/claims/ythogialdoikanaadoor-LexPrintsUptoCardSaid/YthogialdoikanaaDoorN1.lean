/- walk: LexParts. -/
import Derived.Test.YthogialdoikanaaDoorG5
import Derived.Test.YthogialdoikanaaDoorL1
namespace Go.Proofs.YthogialdoikanaaDoor
open Go.RowKit

/-- Lex, where the text is in order -/
theorem lex_fine (HL : LexOK) {s : ByteArray} {l : List Tok} (h : lexS s.data.toList = (l, 0, 0)) (W : World) (hT : Tabs W) :
    Calls Tryd.prog 9 #[.string s] W fun e w' => ∃ v, e = .returned (.tuple #[v, .int .i64 0, .int .i64 0]) ∧ OwnToks w' W.heap.size v l ∧ Below W.heap.size W w' :=
  (HL s W hT).mono (fun e w' hh => by
    obtain ⟨v, h1, h2, h3⟩ := hh
    rw [h] at h1 h2
    exact ⟨v, h1, h2, h3⟩)
/-- and where it is not -/
theorem lex_bad (HL : LexOK) {s : ByteArray} {p : Nat} {c : Int} (h : lexS s.data.toList = ([], p, c)) (W : World) (hT : Tabs W) :
    Calls Tryd.prog 9 #[.string s] W fun e w' => ∃ v, e = .returned (.tuple #[v, .int .i64 p, .int .i64 c]) ∧ OwnToks w' W.heap.size v [] ∧ Below W.heap.size W w' :=
  (HL s W hT).mono (fun e w' hh => by
    obtain ⟨v, h1, h2, h3⟩ := hh
    rw [h] at h1 h2
    exact ⟨v, h1, h2, h3⟩)

theorem addr_add (a : Addr) (m n : Nat) : (a.add m).add n = a.add (m + n) := by
  unfold Addr.add
  by_cases h1 : m = 0
  · subst h1; simp
  · by_cases h2 : n = 0
    · subst h2; simp [h1]
    · rw [if_neg h1, if_neg h2, if_neg (by omega)]
      simp [Nat.add_assoc]
/-- the tokens from one on -/
theorem toksC_drop : ∀ (k : Nat) (l : List Tok), toksC (l.drop k) = (toksC l).drop (k * 4)
  | 0, l => by simp
  | k + 1, [] => by simp [toksC]
  | k + 1, a :: r => by
    have e : toksC (a :: r) = tokC a ++ toksC r := rfl
    rw [List.drop_succ_cons, toksC_drop k r, e]
    have e2 : (k + 1) * 4 = (tokC a).length + k * 4 := by simp [tokC]; omega
    rw [e2, ← List.drop_drop, List.drop_left]
theorem HasToks.drop {w : World} {B : Nat} {ad : Addr} {l : List Tok} (h : HasToks w B (some ad) l) (k : Nat) : HasToks w B (some (ad.add (k * 4))) (l.drop k) := fun hne => by
  have hl : l ≠ [] := by rintro rfl; simp at hne
  obtain ⟨a, e, hB, hc⟩ := h hl
  injection e with e
  subst e
  refine ⟨_, rfl, by rw [addr_block]; exact hB, fun j u hu => ?_⟩
  rw [toksC_drop, List.getElem?_drop] at hu
  rw [addr_add]
  exact hc _ u hu

set_option maxHeartbeats 4000000 in
set_option maxRecDepth 100000 in
theorem parts_any (HL : LexOK) (s : ByteArray) (w : World) (hT : Tabs w) : Calls Tryd.prog 8 #[.string s] w fun e w' => e = .returned (.bool true) ∧ Below w.heap.size w w' := by
  have AW := Lib.hid (fun W (hW : Tabs W) => awake_any HL W hW)
  by_cases hE : (lexS s.data.toList).2.2 = 0
  · obtain ⟨l, hl, hn1, hk, hup, hend⟩ := lex_parts hE
    have HLX := Lib.hid (lex_fine HL hl)
    have HLL := Lib.hid HL
    have hlen := lexS_len s.data.toList
    rw [hl] at hlen
    simp only at hlen
    obtain ⟨n, hn⟩ : ∃ n, l.length = n := ⟨_, rfl⟩
    rw [hn] at hn1 hlen
    have HK := Lib.hid hk
    have HUP := Lib.hid hup
    have HEND := Lib.hid hend
    have HN := Lib.hid hn
    clear hk hup hend hl hE HL hn
    go_enter Tryd.func8, Tryd.ntmps8
    go_wp2_with fail
    refine (AW.out _ hT).mono ?_
    rintro e w1 ⟨rfl, hb1⟩
    go_wp2_with fail
    refine (HLX.out _ (hT.here hb1)).mono ?_
    rintro e w2 ⟨v, rfl, hown, hb2'⟩
    obtain ⟨A, ca, rfl, hca, hA⟩ := hown.has
    rw [HN.out] at hca ⊢
    have hb2 := hb1.trans (hb2'.mono hb1.size)
    have HA := Lib.hid hA
    have HT2 := hT.here hb2
    clear hown hA
    by_cases h300 : 300 < n
    · go_wp2
      go_ret
      exact ⟨rfl, hb2⟩
    · go_wp2
      go_loopw [6] (fun vi wr => ∃ k : Nat, vi = .int .i64 k ∧ k ≤ n ∧ Below w2.heap.size w2 wr) (fun vi _ => n - (intOf vi).toNat)
      case atStart => exact ⟨0, rfl, by omega, Below.refl _ _⟩
      case round =>
        obtain ⟨k, rfl, hkn, hbr⟩ := hrel
        by_cases hlt : k < n
        · have hka : k < l.length := by have := HN.out; omega
          obtain ⟨q, hq, hqs, m, hm, hml, ⟨h0, hm0⟩, hsame⟩ := HK.out k hka
          rw [← Lib.size_eq] at hqs
          rw [HN.out] at hml
          have hbw := hb2.trans (hbr.mono hb2.size)
          have HTr := hT.here hbw
          have HLM := Lib.hid (lex_fine HLL.out (s := s.extract q s.size) (by rw [Lib.extract_to_end]; exact hm))
          have hAr := HA.out.below hbr
          obtain ⟨ad, rfl, c0, c1, c2, c3⟩ := hAr.at_ hka
          have hdr := (hAr.more hbr.size).drop k
          rw [hq] at c3
          have HQ := Lib.hid hq
          have HDR := Lib.hid hdr
          have HSAME := Lib.hid hsame
          have f2 : decide (s.size < q) = false := by rw [decide_eq_false_iff_not]; omega
          have f1 : decide ((q : Int) < 0) = false := by rw [decide_eq_false_iff_not]; omega
          have f2' : decide ((s.size : Int) < (q : Int)) = false := by rw [decide_eq_false_iff_not]; omega
          clear hm hq hsame hdr hAr
          generalize l[k] = t at c0 c1 c2
          obtain ⟨tk, ts, tn, tp⟩ := t
          simp only at c0 c1 c2
          obtain ⟨d, hd⟩ : ∃ d, n - k = d := ⟨_, rfl⟩
          have hd0 : 0 < d := by omega
          have hdn : d ≤ 8193 := by omega
          rw [hd] at hml
          have HML := Lib.hid hml
          have HM0 := Lib.hid hm0
          have HD := Lib.hid hd
          have dn1 : ((d : Int) == (n : Int) - (k : Int)) = true := by rw [beq_iff_eq]; omega
          have dn2 : ((d : Int) != (n : Int) - (k : Int)) = false := by rw [bne, dn1]; rfl
          have same := fun (W : World) (A3 : Option Addr) (c1 c2 : Nat) (h1 : HasToks W W.heap.size A3 m) (h2 : HasToks W W.heap.size (some (ad.add (k * 4))) (l.drop k)) => same_any W A3 (some (ad.add (k * 4))) c1 c2 m (l.drop k) false h1 h2 (by rw [HML.out]; omega) (by rw [List.length_drop]; have := HN.out; omega)
          rw [HML.out, List.length_drop, HN.out, HSAME.out] at same
          have SAME := Lib.hid same
          clear hml hm0 hd same
          by_cases hk0 : k = 0
          · have g0 : decide (0 < k) = false := by rw [decide_eq_false_iff_not]; omega
            have g0' : decide ((0 : Int) < (k : Int)) = false := by rw [decide_eq_false_iff_not]; omega
            clear hk0
            go_wp2
            go_quiet (fail)
            go_wp2_with fail
            refine (HLM.out _ (hT.here (below_dr hbw _))).mono ?_
            rintro e w3 ⟨v3, rfl, hown3, hb3⟩
            obtain ⟨A3, ca3, rfl, hc3, hA3⟩ := hown3.has
            have hz3 : wr.heap.size ≤ w3.heap.size := by have := hb3.size; simpa using this
            have hbr3 := (below_dr hbr nq).trans (hb3.mono (by have := hbr.size; simpa using this))
            have hdr3 := ((HDR.out.below (below_dr (Below.refl wr.heap.size wr) nq)).below hb3).more hz3
            obtain ⟨ad3, rfl, m0, m1, m2, m3⟩ := hA3.at_ h0
            rw [HM0.out] at m3
            have m3' : w3.cell? ⟨ad3.block, ad3.off + 3, none⟩ = some (.int .i64 0) := m3
            rw [HML.out] at hc3 ⊢
            have HA3 := Lib.hid hA3
            have HDR3 := Lib.hid hdr3
            clear m0 m1 m2 m3 hA3 hdr3 hown3
            go_wp2_with fail
            refine (SAME.out _ _ _ _ HA3.out HDR3.out).mono ?_
            rintro e w4 ⟨rfl, hb4⟩
            have hbr4 := hbr3.trans (hb4.mono (Nat.le_trans hbr.size hz3))
            go_wp2
            go_roundw
            case rel => exact ⟨k + 1, by go_num, by omega, hbr4⟩
            case measure => simp [intOf]; omega
          · have g0 : decide (0 < k) = true := by rw [decide_eq_true_eq]; omega
            have g0' : decide ((0 : Int) < (k : Int)) = true := by rw [decide_eq_true_eq]; omega
            have hk1 : 1 ≤ k := by omega
            have hkb : k - 1 < l.length := by omega
            obtain ⟨q', hq', _⟩ := HK.out (k - 1) hkb
            have hAr := HA.out.below hbr
            obtain ⟨ad', e, d0, d1, d2, d3⟩ := hAr.at_ hkb
            obtain rfl : ad = ad' := by injection e
            have hqq : q' < q := by
              obtain ⟨q2, hq2, _⟩ := HK.out k hka
              obtain ⟨j, rfl⟩ : ∃ j, k = j + 1 := ⟨k - 1, by omega⟩
              have h1 := HUP.out j hka
              have h2 := HQ.out
              simp only [Nat.add_sub_cancel] at hq'
              omega
            rw [hq'] at d3
            have f3 : decide (q ≤ q') = false := by rw [decide_eq_false_iff_not]; omega
            have f3' : decide ((q : Int) ≤ (q' : Int)) = false := by rw [decide_eq_false_iff_not]; omega
            clear hk0 hAr e d0 d1 d2 hq' hqq hkb
            go_wp2
            go_quiet (fail)
            go_wp2_with fail
            refine (HLM.out _ (hT.here (below_dr hbw _))).mono ?_
            rintro e w3 ⟨v3, rfl, hown3, hb3⟩
            obtain ⟨A3, ca3, rfl, hc3, hA3⟩ := hown3.has
            have hz3 : wr.heap.size ≤ w3.heap.size := by have := hb3.size; simpa using this
            have hbr3 := (below_dr hbr nq).trans (hb3.mono (by have := hbr.size; simpa using this))
            have hdr3 := ((HDR.out.below (below_dr (Below.refl wr.heap.size wr) nq)).below hb3).more hz3
            obtain ⟨ad3, rfl, m0, m1, m2, m3⟩ := hA3.at_ h0
            rw [HM0.out] at m3
            have m3' : w3.cell? ⟨ad3.block, ad3.off + 3, none⟩ = some (.int .i64 0) := m3
            rw [HML.out] at hc3 ⊢
            have HA3 := Lib.hid hA3
            have HDR3 := Lib.hid hdr3
            clear m0 m1 m2 m3 hA3 hdr3 hown3
            go_wp2_with fail
            refine (SAME.out _ _ _ _ HA3.out HDR3.out).mono ?_
            rintro e w4 ⟨rfl, hb4⟩
            have hbr4 := hbr3.trans (hb4.mono (Nat.le_trans hbr.size hz3))
            go_wp2
            go_roundw
            case rel => exact ⟨k + 1, by go_num, by omega, hbr4⟩
            case measure => simp [intOf]; omega
        · obtain rfl : k = n := by omega
          obtain ⟨h0, hend⟩ := HEND.out
          have hbw := hb2.trans (hbr.mono hb2.size)
          have hAr := HA.out.below hbr
          obtain ⟨ad, rfl, c0, c1, c2, c3⟩ := hAr.at_ h0
          have e1 : l.length - 1 = k - 1 := by rw [HN.out]
          rw [hend, e1, ← Lib.size_eq] at c3
          clear c0 c1 c2 hAr hend e1 h0 hlt hkn
          go_wp2
          go_ret
          exact ⟨rfl, hbw⟩
  · have hl : lexS s.data.toList = ([], (lexS s.data.toList).2.1, (lexS s.data.toList).2.2) := by rw [← lexS_none hE]
    generalize (lexS s.data.toList).2.1 = P at hl
    generalize (lexS s.data.toList).2.2 = E at hl hE
    have nE : (E == 0) = false := by rw [beq_eq_false_iff_ne]; exact hE
    have mE : (E != 0) = true := by rw [bne, nE]; rfl
    have HLX := Lib.hid (lex_bad HL hl)
    clear hl HL hE
    go_enter Tryd.func8, Tryd.ntmps8
    go_wp2_with fail
    refine (AW.out _ hT).mono ?_
    rintro e w1 ⟨rfl, hb1⟩
    go_wp2_with fail
    refine (HLX.out _ (hT.here hb1)).mono ?_
    rintro e w2 ⟨v, rfl, hown, hb2'⟩
    obtain ⟨A, ca, rfl, hca, hA⟩ := hown.has
    have hb2 := hb1.trans (hb2'.mono hb1.size)
    clear hown hA
    go_wp2
    go_ret
    exact ⟨rfl, hb2⟩
end Go.Proofs.YthogialdoikanaaDoor
