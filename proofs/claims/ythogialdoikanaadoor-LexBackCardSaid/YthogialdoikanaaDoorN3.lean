/- walk: LexBack. -/
import Derived.Test.YthogialdoikanaaDoorN1
import Derived.Test.YthogialdoikanaaDoorG6
namespace Go.Proofs.YthogialdoikanaaDoor
open Go.RowKit

/-- Print, of tokens of a text -/
theorem print_toks {l : List Tok} {t : List UInt8} (hp : printS l = (0, t)) (hz : ∀ x ∈ l, x.s.length ≤ 8192 ∧ In64 x.n) (hl : l.length ≤ 8193) (W : World) (hT : Tabs W) (A : Option Addr) (ca : Nat) (hA : HasToks W W.heap.size A l) :
    Calls Tryd.prog 14 #[.slice A l.length ca] W fun e w' => e = .returned (.tuple #[.string ⟨t.toArray⟩, .int .i64 0]) ∧ Below W.heap.size W w' := by
  have h := print_any W hT A ca l hA (by omega) (fun x hx => by have h1 := hz x hx; have := textS_len x h1.2; omega) (fun x hx => by have h1 := hz x hx; exact text_any x h1.2 (by omega))
  rw [hp] at h
  exact h

set_option maxHeartbeats 4000000 in
set_option maxRecDepth 100000 in
theorem back_any (HL : LexOK) (s : ByteArray) (w : World) (hT : Tabs w) : Calls Tryd.prog 6 #[.string s] w fun e w' => e = .returned (.bool true) ∧ Below w.heap.size w w' := by
  have AW := Lib.hid (fun W (hW : Tabs W) => awake_any HL W hW)
  by_cases hE : (lexS s.data.toList).2.2 = 0
  · obtain ⟨t, hp, hk0, hbig, hsml⟩ := lex_back hE
    have hz := lexS_sizes s.data.toList
    have hlen := lexS_len s.data.toList
    have hl1 := (lexS_ok hE).2.len.1
    have hl : lexS s.data.toList = ((lexS s.data.toList).1, 0, 0) := by
      obtain ⟨h1, h2⟩ := lexS_ok hE
      exact lexS_lexes h1 h2
    generalize (lexS s.data.toList).1 = l at hp hk0 hsml hz hlen hl1 hl
    have HLX := Lib.hid (lex_fine HL hl)
    have HLL := Lib.hid HL
    have HPR := Lib.hid (print_toks hp hz hlen)
    obtain ⟨n, hn⟩ : ∃ n, l.length = n := ⟨_, rfl⟩
    have hkl : ∃ h : n - 1 < l.length, l[n - 1].k = 0 := by
      refine ⟨by omega, ?_⟩
      rw [List.getLast?_eq_getElem?, List.getElem?_eq_getElem (by omega)] at hk0
      simp only [Option.map_some, Option.some.injEq] at hk0
      simp only [hn] at hk0
      exact hk0
    have HKL := Lib.hid hkl
    rw [hn] at hlen hl1
    have HN := Lib.hid hn
    have hts : (⟨t.toArray⟩ : ByteArray).data.toList = t := rfl
    have htz : (⟨t.toArray⟩ : ByteArray).size = t.length := Lib.size_eq _
    have HTZ := Lib.hid htz
    clear hkl hk0 hl hp hE HL hn hz htz
    go_enter Tryd.func6, Tryd.ntmps6
    go_wp2_with fail
    refine (AW.out _ hT).mono ?_
    rintro e w1 ⟨rfl, hb1⟩
    go_wp2_with fail
    refine (HLX.out _ (hT.here hb1)).mono ?_
    rintro e w2 ⟨v, rfl, hown, hb2'⟩
    obtain ⟨A, ca, rfl, hca, hA⟩ := hown.has
    have hpr := HPR.out w2 (hT.here (hb1.trans (hb2'.mono hb1.size))) A ca hA
    rw [HN.out] at hca hpr ⊢
    have hb2 := hb1.trans (hb2'.mono hb1.size)
    have HA := Lib.hid hA
    have HPR2 := Lib.hid hpr
    clear hown hA hpr
    go_wp2_with fail
    refine HPR2.out.mono ?_
    rintro e w3 ⟨rfl, hb3'⟩
    have hb3 := hb2.trans (hb3'.mono hb2.size)
    have HA3 := Lib.hid ((HA.out.below hb3').more hb3'.size)
    by_cases hbg : 8192 < t.length
    · have hlt : lexS (⟨t.toArray⟩ : ByteArray).data.toList = ([], 0, 2) := hbig hbg
      have HLZ := Lib.hid (lex_bad HLL.out (p := 0) hlt)
      clear hlt hbig hsml hts
      go_wp2_with fail
      refine (HLZ.out _ (hT.here hb3)).mono ?_
      rintro e w4 ⟨v4, rfl, hown4, hb4⟩
      obtain ⟨A4, c4, rfl, hc4, hA4⟩ := hown4.has
      have hbw := hb3.trans (hb4.mono hb3.size)
      clear hA4 hown4
      go_wp2
      go_ret
      exact ⟨rfl, hbw⟩
    · obtain ⟨m, hm, hst, hpm⟩ := hsml (by omega)
      have hmz := lexS_sizes t
      have hml := lexS_len t
      rw [hm] at hmz hml
      have HPM := Lib.hid (print_toks hpm hmz hml)
      have HLZ := Lib.hid (lex_fine HLL.out (s := ⟨t.toArray⟩) hm)
      have HSM := Lib.hid (sameF_strip hst)
      have hsz : t.length ≤ 8192 := by omega
      clear hm hst hpm hmz hbig hsml hts hbg
      go_wp2_with fail
      refine (HLZ.out _ (hT.here hb3)).mono ?_
      rintro e w4 ⟨v4, rfl, hown4, hb4'⟩
      obtain ⟨A4, c4, rfl, hc4, hA4⟩ := hown4.has
      have hb4 := hb3.trans (hb4'.mono hb3.size)
      have HP4 := Lib.hid (HPM.out w4 (hT.here hb4) A4 c4 hA4)
      have HL4 := Lib.hid ((HA3.out.below hb4').more hb4'.size)
      have HM4 := Lib.hid hA4
      clear hA4 hown4
      go_wp2_with fail
      refine HP4.out.mono ?_
      rintro e w5 ⟨rfl, hb5'⟩
      have hb5 := hb4.trans (hb5'.mono hb4.size)
      have HL5 := Lib.hid ((HL4.out.below hb5').more hb5'.size)
      have HM5 := Lib.hid ((HM4.out.below hb5').more hb5'.size)
      go_wp2_with fail
      have hsame := same_any w5 A A4 ca c4 l m false HL5.out HM5.out (by have := HN.out; omega) (by omega)
      rw [HN.out, HSM.out] at hsame
      have HSAME := Lib.hid hsame
      clear hsame
      refine HSAME.out.mono ?_
      rintro e w6 ⟨rfl, hb6'⟩
      have hb6 := hb5.trans (hb6'.mono hb5.size)
      obtain ⟨hkn, hk⟩ := HKL.out
      obtain ⟨ad, rfl, c0, c1, c2, c3⟩ := (HL5.out.below hb6').at_ hkn
      rw [hk] at c0
      clear c1 c2 c3 hk hkn
      go_wp2
      go_ret
      exact ⟨rfl, hb6⟩
  · have hl : lexS s.data.toList = ([], (lexS s.data.toList).2.1, (lexS s.data.toList).2.2) := by rw [← lexS_none hE]
    generalize (lexS s.data.toList).2.1 = P at hl
    generalize (lexS s.data.toList).2.2 = E at hl hE
    have nE : (E == 0) = false := by rw [beq_eq_false_iff_ne]; exact hE
    have mE : (E != 0) = true := by rw [bne, nE]; rfl
    have HLX := Lib.hid (lex_bad HL hl)
    clear hl HL hE
    go_enter Tryd.func6, Tryd.ntmps6
    go_wp2_with fail
    refine (AW.out _ hT).mono ?_
    rintro e w1 ⟨rfl, hb1⟩
    go_wp2_with fail
    refine (HLX.out _ (hT.here hb1)).mono ?_
    rintro e w2 ⟨v, rfl, hown, hb2'⟩
    obtain ⟨A, ca, rfl, hca, hA⟩ := hown.has
    have hb2 := hb1.trans (hb2'.mono hb1.size)
    clear hown hA
    go_wp2
    go_ret
    exact ⟨rfl, hb2⟩
end Go.Proofs.YthogialdoikanaaDoor
