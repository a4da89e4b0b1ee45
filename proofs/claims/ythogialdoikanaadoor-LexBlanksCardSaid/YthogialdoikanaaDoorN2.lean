/- walk: LexBlanks. -/
import Derived.Test.YthogialdoikanaaDoorN1
import Derived.ArgAppend
import Derived.Laws.BitsLemmas

namespace Go.Proofs.YthogialdoikanaaDoor
open Go.RowKit

/-- a slice of bytes that came in -/
def PadOK (w : World) (B : Nat) (A : Option Addr) (len : Nat) : Prop := ∀ i, i < len → ∃ ad z, A = some ad ∧ ad.block < B ∧ w.cell? (ad.add i) = some (.int .u8 z) ∧ 0 ≤ z ∧ z < 256
theorem PadOK.below {w w' : World} {B : Nat} {A : Option Addr} {len : Nat} (h : PadOK w B A len) (hb : Below B w w') : PadOK w' B A len := fun i hi => by
  obtain ⟨ad, z, e, hB, hc, hz⟩ := h i hi
  exact ⟨ad, z, e, hB, (hb.cell (by rw [addr_block]; exact hB)).trans hc, hz⟩

theorem cat_list (a b : ByteArray) : (a ++ b).data.toList = a.data.toList ++ b.data.toList := by
  simp
theorem cat_blank {bl : ByteArray} {c : UInt8} (h : Blanks bl.data.toList) (hc : isBlank c.toNat = true) : Blanks (bl ++ ⟨#[c]⟩ : ByteArray).data.toList := by
  rw [cat_list]
  intro x hx
  rcases List.mem_append.1 hx with hx | hx
  · exact h x hx
  · obtain rfl : x = c := by simpa using hx
    exact hc
/-- an operation whose guard says yes: as without a guard -/
theorem wpList_unguard {P : Program} {ops : Array Oper} {Q : Exit → Act → World → Prop} {a : Act} {w : World} {rest : List Oper} {d : Option Tmp} {op : Op} {t : TypeId} {ps : String} {af : Array Edge} {g : Option (Nat × Bool)}
    (hw : Region.wanted ⟨d, op, t, ps, af, g⟩ (yielded ops a.tmps) = true) (h : wpList P ops Q (⟨d, op, t, ps, af, none⟩ :: rest) a w) : wpList P ops Q (⟨d, op, t, ps, af, g⟩ :: rest) a w := by
  unfold wpList at h ⊢
  rw [if_pos hw]
  rw [if_pos (show Region.wanted ⟨d, op, t, ps, af, none⟩ (yielded ops a.tmps) = true from rfl)] at h
  exact h
theorem toksC_one' : ∀ (l : List Tok), ∀ u ∈ toksC l, u.oneCell' = true := by
  intro l u hu
  simp only [toksC, List.mem_flatMap] at hu
  obtain ⟨t, _, hu⟩ := hu
  simp only [tokC, List.mem_cons, List.not_mem_nil, or_false] at hu
  rcases hu with rfl | rfl | rfl | rfl <;> rfl
/-- the cells of tokens, and of all but the last -/
theorem HasToks.cells_ {w : World} {B : Nat} {ad : Addr} {l : List Tok} (h : HasToks w B (some ad) l) : ∀ j u, (toksC l)[j]? = some u → w.cell? (ad.add j) = some u := fun j u hu => by
  have hl : l ≠ [] := by rintro rfl; simp [toksC] at hu
  obtain ⟨a, e, _, hc⟩ := h hl
  injection e with e
  subst e
  exact hc j u hu
theorem toksC_init (l : List Tok) : toksC l.dropLast = (toksC l).take ((l.length - 1) * 4) := by
  have h : ∀ (k : Nat) (l : List Tok), toksC (l.take k) = (toksC l).take (k * 4) := by
    intro k
    induction k with
    | zero => intro l; simp [toksC]
    | succ k ih =>
      intro l
      cases l with
      | nil => simp [toksC]
      | cons a r =>
        have e : toksC (a :: r) = tokC a ++ toksC r := rfl
        have e1 : toksC ((a :: r).take (k + 1)) = tokC a ++ toksC (r.take k) := rfl
        have e2 : (k + 1) * 4 = (tokC a).length + k * 4 := by simp [tokC]; omega
        rw [e1, ih r, e, e2, List.take_length_add_append]
  rw [List.dropLast_eq_take, h]
theorem HasToks.init_ {w : World} {B : Nat} {ad : Addr} {l : List Tok} (h : HasToks w B (some ad) l) : ∀ j u, (toksC l.dropLast)[j]? = some u → w.cell? (ad.add j) = some u := fun j u hu => by
  rw [toksC_init] at hu
  have hj : j < ((toksC l).take ((l.length - 1) * 4)).length := by
    rcases Nat.lt_or_ge j ((toksC l).take ((l.length - 1) * 4)).length with h1 | h1
    · exact h1
    · rw [List.getElem?_eq_none h1] at hu; cases hu
  rw [List.length_take] at hj
  rw [List.getElem?_take_of_lt (by omega)] at hu
  exact h.cells_ j u hu

set_option maxRecDepth 100000 in
/-- the tokens but the last, and others behind them: a new row -/
theorem wpList_append_cut {ops : Array Oper} {rest : List Oper} {o : Oper} {a : Act} {Q : Exit → Act → World → Prop} (w00 w0 : World) (hgd : o.guard = none) (s x : Operand)
    (ho : o.op = .call { callee := .builtin .append, args := #[s, x], argTypes := #[22, 22] })
    (B1 B2 : Nat) (A1 A2 : Option Addr) (c2 : Nat) (l m : List Tok) (h1 : HasToks w0 B1 A1 l) (h2 : HasToks w0 B2 A2 m) (hl1 : 1 ≤ l.length) (hm1 : 1 ≤ m.length) (hl : l.length ≤ 9000) (hm : m.length ≤ 9000)
    (hs : a.eval s = .slice A1 (l.length - 1) (l.length - 1)) (hx : a.eval x = .slice A2 m.length c2) (hb : Below w00.heap.size w00 w0)
    (h : ∀ v' w', OwnToks w' w0.heap.size v' (l.dropLast ++ m) → Below w00.heap.size w00 w' → Below w0.heap.size w0 w' → wpList Tryd.prog ops Q rest (a.put o.dst v') w') : wpList Tryd.prog ops Q (o :: rest) a w0 := by
  obtain ⟨ti, hti, htz, hts, hty⟩ := info_parts tok_info
  obtain ⟨a1, rfl, _, _⟩ := h1 (by intro h; rw [h] at hl1; simp at hl1)
  obtain ⟨a2, rfl, _, _⟩ := h2 (by intro h; rw [h] at hm1; simp at hm1)
  refine wpList_append_grows w0 hgd s x 22 ho 29 ti _ 4 40 Tryd.underlying22 hti htz hts hty rfl (by omega) (some a1) (l.length - 1) (l.length - 1) (toksC l.dropLast) hs (by intro h; cases h) (by rw [toksC_length, List.length_dropLast])
    (fun b hb j u hu => by injection hb with hb; subst hb; exact h1.init_ j u hu) a2 m.length c2 (toksC m) hx (toksC_length _) h2.cells_ (toksC_one' m) (by omega) (by simp only [maxLen]; omega) (by omega) ?_
  intro v' w' hown hg
  refine h v' w' ?_ (hb.grown hg hb.size (by intro k hk; cases hk)) ((Below.refl _ _).grown hg (Nat.le_refl _) (by intro k hk; cases hk))
  unfold OwnToks
  rw [toksC_append, List.length_append, List.length_dropLast]
  exact hown
theorem cut_0 (w : World) : (Instr.slice 9 (.string ⟨#[32, 9, 10, 13]⟩) (some (.int .u8 0)) (some (.int .u8 1)) none).run Tryd.prog w = .ok (.string ⟨#[32]⟩) w := by kernel_rfl
theorem cut_1 (w : World) : (Instr.slice 9 (.string ⟨#[32, 9, 10, 13]⟩) (some (.int .u8 1)) (some (.int .u8 2)) none).run Tryd.prog w = .ok (.string ⟨#[9]⟩) w := by kernel_rfl
theorem cut_2 (w : World) : (Instr.slice 9 (.string ⟨#[32, 9, 10, 13]⟩) (some (.int .u8 2)) (some (.int .u8 3)) none).run Tryd.prog w = .ok (.string ⟨#[10]⟩) w := by kernel_rfl
theorem cut_3 (w : World) : (Instr.slice 9 (.string ⟨#[32, 9, 10, 13]⟩) (some (.int .u8 3)) (some (.int .u8 4)) none).run Tryd.prog w = .ok (.string ⟨#[13]⟩) w := by kernel_rfl
theorem u8_and3 {x : Int} (h₀ : 0 ≤ x) (h₁ : x < 256) : bits .and .u8 x 3 = x % 4 := bits_mask .u8 8 (by decide) wraps_u8 2 (by decide) x h₀ h₁

set_option maxHeartbeats 4000000 in
set_option maxRecDepth 100000 in
theorem blanks_any (HL : LexOK) (a b : ByteArray) (A : Option Addr) (len cap : Nat) (w : World) (hT : Tabs w) (ha : a.size ≤ 140737488351232) (hb : b.size ≤ 140737488351232) (hlen : len ≤ 140737488351232) (hP : PadOK w w.heap.size A len) :
    Calls Tryd.prog 7 #[.string a, .string b, .slice A len cap] w fun e w' => e = .returned (.bool true) ∧ Below w.heap.size w w' := by
  have AW := Lib.hid (fun W (hW : Tabs W) => awake_any HL W hW)
  have HLL := Lib.hid HL
  have HP := Lib.hid hP
  have hxl := lexS_len a.data.toList
  have hyl := lexS_len b.data.toList
  have HLa := HL a
  have HLb := HL b
  unfold LexPost at HLa HLb
  have HKEY : ∀ bl : ByteArray, bl.size ≠ 0 → Blanks bl.data.toList → a.size + b.size + bl.size ≤ 8192 →
      ((lexS a.data.toList).2.2 = 0 ∧ (lexS b.data.toList).2.2 = 0 ∧ ∃ z, lexS ((a ++ bl) ++ b).data.toList = (z, 0, 0) ∧ sameF false z ((lexS a.data.toList).1.dropLast ++ (lexS b.data.toList).1) = true) ∨
      ((lexS a.data.toList).2.2 = 0 ∧ (lexS b.data.toList).2.2 ≠ 0 ∧ ∃ q : Nat, a.size ≤ q ∧ lexS ((a ++ bl) ++ b).data.toList = ([], q, (lexS b.data.toList).2.2)) ∨
      ((lexS a.data.toList).2.2 = 12 ∧ ∃ q : Nat, q < a.size ∧ lexS ((a ++ bl) ++ b).data.toList = ([], q, 12)) ∨ ((lexS a.data.toList).2.2 ≠ 0 ∧ (lexS a.data.toList).2.2 ≠ 12) := by
    intro bl h1 h2 h3
    rw [cat_list, cat_list]
    have hn : bl.data.toList ≠ [] := by
      intro h0
      apply h1
      rw [Lib.size_eq, h0]; rfl
    have h3' : a.data.toList.length + b.data.toList.length + bl.data.toList.length ≤ 8192 := by rw [← Lib.size_eq, ← Lib.size_eq, ← Lib.size_eq]; exact h3
    by_cases e1 : (lexS a.data.toList).2.2 = 0
    · by_cases e2 : (lexS b.data.toList).2.2 = 0
      · exact .inl ⟨e1, e2, lex_blanks_same hn h2 h3' e1 e2⟩
      · obtain ⟨q, hq, h⟩ := lex_blanks_bad hn h2 h3' e1 e2
        exact .inr (.inl ⟨e1, e2, q, by rw [Lib.size_eq]; exact hq, h⟩)
    · by_cases e2 : (lexS a.data.toList).2.2 = 12
      · obtain ⟨q, hq, h⟩ := lex_blanks_12 hn h2 h3' e2
        exact .inr (.inr (.inl ⟨e2, q, by rw [Lib.size_eq]; exact hq, h⟩))
      · exact .inr (.inr (.inr ⟨e1, e2⟩))
  have hxne : (lexS a.data.toList).2.2 = 0 → 1 ≤ (lexS a.data.toList).1.length := fun h => (lexS_ok h).2.len.1
  have hyne : (lexS b.data.toList).2.2 = 0 → 1 ≤ (lexS b.data.toList).1.length := fun h => (lexS_ok h).2.len.1
  generalize lexS a.data.toList = RA at HLa HKEY hxl hxne
  generalize lexS b.data.toList = RB at HLb HKEY hyl hyne
  obtain ⟨x, pa, ea⟩ := RA
  obtain ⟨y, pb, eb⟩ := RB
  simp only at HLa HLb HKEY hxl hyl hxne hyne
  have HLA := Lib.hid HLa
  have HLB := Lib.hid HLb
  have HKY := Lib.hid HKEY
  have HXN := Lib.hid hxne
  have HYN := Lib.hid hyne
  clear HLa HLb HKEY HL hP hxne hyne
  go_enter Tryd.func7, Tryd.ntmps7
  go_wp2_with fail
  refine (AW.out _ hT).mono ?_
  rintro e w1 ⟨rfl, hb1⟩
  go_wp2_with fail
  refine (HLA.out _ (hT.here hb1)).mono ?_
  rintro e w2 ⟨vx, rfl, hownx, hb2'⟩
  have hb2 := hb1.trans (hb2'.mono hb1.size)
  obtain ⟨Ax, cx, rfl, hcx, hX⟩ := hownx.has
  clear hownx
  go_wp2_with fail
  refine (HLB.out _ (hT.here hb2)).mono ?_
  rintro e w3 ⟨vy, rfl, howny, hb3'⟩
  have hb3 := hb2.trans (hb3'.mono hb2.size)
  obtain ⟨Ay, cy, rfl, hcy, hY⟩ := howny.has
  have hX3 := (hX.below hb3').more hb3'.size
  have HX := Lib.hid hX3
  have HY := Lib.hid hY
  clear howny hX hY hX3
  obtain ⟨nx, hnx⟩ : ∃ n, x.length = n := ⟨_, rfl⟩
  obtain ⟨ny, hny⟩ : ∃ n, y.length = n := ⟨_, rfl⟩
  rw [hnx] at hxl hcx ⊢
  rw [hny] at hyl hcy ⊢
  have HNX := Lib.hid hnx
  have HNY := Lib.hid hny
  clear hnx hny
  go_wp2
  go_loopw [13, 14] (fun v i wr => ∃ (k m : Nat) (bl : ByteArray), v = .string bl ∧ i = .int .i64 k ∧ k ≤ len ∧ k ≤ 9 ∧ bl.size = k + 1 ∧ Blanks bl.data.toList ∧ wr = w3.drewN m) (fun _ i _ => len - (intOf i).toNat)
  case atStart => exact ⟨0, 0, ⟨#[32]⟩, rfl, rfl, by omega, by omega, rfl, by unfold Blanks; decide, rfl⟩
  case round =>
    obtain ⟨k, m, bl, rfl, rfl, hkl, hk9, hbl, hblk, hwr⟩ := hrel
    have HBL := Lib.hid hblk
    have HW := Lib.hid hwr
    clear hblk
    by_cases hlt : k < len ∧ k < 9
    · obtain ⟨hlt, hlt9⟩ := hlt
      have hbr : Below w.heap.size w wr := by rw [HW.out]; exact below_dr hb3 _
      obtain ⟨ad, z, rfl, -, hcz, hz0, hz1⟩ := (HP.out.below hbr) k hlt
      have hz4 : z % 4 = 0 ∨ z % 4 = 1 ∨ z % 4 = 2 ∨ z % 4 = 3 := by omega
      rcases hz4 with h4 | h4 | h4 | h4
      · have HBZ := Lib.hid hbl
        have hblz : bl.size ≤ 10 := by omega
        clear hwr hbr hbl
        have hand : bits .and .u8 z 3 = 0 := by rw [u8_and3 hz0 hz1, h4]
        clear h4
        have hcut := cut_0
        have hsum : IntKind.u8.wrap (0 + 1) = 1 := by decide
        go_wp2
        go_quiet (fail)
        clear hcut hsum hand
        go_wp2
        go_roundw
        case rel => exact ⟨k + 1, m + nq, bl ++ ⟨#[32]⟩, rfl, by go_num, by omega, by omega, by rw [ByteArray.size_append, HBZ.out]; rfl, cat_blank HBL.out (by decide), by rw [HW.out, World.drewN_drewN]⟩
        case measure => simp [intOf]; omega
      · have HBZ := Lib.hid hbl
        have hblz : bl.size ≤ 10 := by omega
        clear hwr hbr hbl
        have hand : bits .and .u8 z 3 = 1 := by rw [u8_and3 hz0 hz1, h4]
        clear h4
        have hcut := cut_1
        have hsum : IntKind.u8.wrap (1 + 1) = 2 := by decide
        go_wp2
        go_quiet (fail)
        clear hcut hsum hand
        go_wp2
        go_roundw
        case rel => exact ⟨k + 1, m + nq, bl ++ ⟨#[9]⟩, rfl, by go_num, by omega, by omega, by rw [ByteArray.size_append, HBZ.out]; rfl, cat_blank HBL.out (by decide), by rw [HW.out, World.drewN_drewN]⟩
        case measure => simp [intOf]; omega
      · have HBZ := Lib.hid hbl
        have hblz : bl.size ≤ 10 := by omega
        clear hwr hbr hbl
        have hand : bits .and .u8 z 3 = 2 := by rw [u8_and3 hz0 hz1, h4]
        clear h4
        have hcut := cut_2
        have hsum : IntKind.u8.wrap (2 + 1) = 3 := by decide
        go_wp2
        go_quiet (fail)
        clear hcut hsum hand
        go_wp2
        go_roundw
        case rel => exact ⟨k + 1, m + nq, bl ++ ⟨#[10]⟩, rfl, by go_num, by omega, by omega, by rw [ByteArray.size_append, HBZ.out]; rfl, cat_blank HBL.out (by decide), by rw [HW.out, World.drewN_drewN]⟩
        case measure => simp [intOf]; omega
      · have HBZ := Lib.hid hbl
        have hblz : bl.size ≤ 10 := by omega
        clear hwr hbr hbl
        have hand : bits .and .u8 z 3 = 3 := by rw [u8_and3 hz0 hz1, h4]
        clear h4
        have hcut := cut_3
        have hsum : IntKind.u8.wrap (3 + 1) = 4 := by decide
        go_wp2
        go_quiet (fail)
        clear hcut hsum hand
        go_wp2
        go_roundw
        case rel => exact ⟨k + 1, m + nq, bl ++ ⟨#[13]⟩, rfl, by go_num, by omega, by omega, by rw [ByteArray.size_append, HBZ.out]; rfl, cat_blank HBL.out (by decide), by rw [HW.out, World.drewN_drewN]⟩
        case measure => simp [intOf]; omega
    · by_cases hkl2 : k < len
      · have hk9' : ¬ k < 9 := fun h => hlt ⟨hkl2, h⟩
        clear hlt
        have hbw : Below w.heap.size w wr := by rw [HW.out]; exact below_dr hb3 _
        have hbl2 : bl.size ≤ 10 := by omega
        have HBZ := Lib.hid hbl
        have HTw := hT.here hbw
        have hXw := HX.out.below (w' := wr) (by rw [HW.out]; exact below_dr (Below.refl _ _) _)
        have hYw := HY.out.below (w' := wr) (by rw [HW.out]; exact below_dr (Below.refl _ _) _)
        have hz3 : w3.heap.size ≤ wr.heap.size := by rw [HW.out]; simp
        have HXw := Lib.hid (hXw.more hz3)
        have HYw := Lib.hid (hYw.more hz3)
        clear hwr hbl hXw hYw
        by_cases hbig : 8192 < a.size + b.size + bl.size
        · go_wp2
          go_ret
          exact ⟨rfl, hbw⟩
        · have hbg : a.size + b.size + bl.size ≤ 8192 := by omega
          rcases HKY.out bl (by have := HBZ.out; omega) HBL.out hbg with ⟨rfl, rfl, z, hz, hsame⟩ | ⟨rfl, hE, q, hq, hz⟩ | ⟨rfl, q, hq, hz⟩ | ⟨hE, hE2⟩
          · have HLZ := Lib.hid (lex_fine HLL.out hz)
            have hx1 := HXN.out rfl
            have hy1 := HYN.out rfl
            rw [HNX.out] at hx1
            rw [HNY.out] at hy1
            have HSAME := Lib.hid hsame
            clear hz hsame hbig
            go_wp2_with fail
            refine (HLZ.out _ HTw).mono ?_
            rintro e w5 ⟨vz, rfl, hownz, hb5⟩
            obtain ⟨Az, cz, rfl, hcz, hZ⟩ := hownz.has
            have hbw5 := hbw.trans (hb5.mono hbw.size)
            have hX5 := (HXw.out.below hb5).more hb5.size
            have hY5 := (HYw.out.below hb5).more hb5.size
            have HX5 := Lib.hid hX5
            have HY5 := Lib.hid hY5
            have HZ := Lib.hid hZ
            clear hX5 hY5 hZ hownz
            go_wp2_with (at_builtin; refine wpList_unguard rfl ?_; refine wpList_append_cut w _ rfl (.tmp 92) (.tmp 93) rfl _ _ Ax Ay cy x y HX5.out HY5.out (by rw [HNX.out]; exact hx1) (by rw [HNY.out]; exact hy1) (by rw [HNX.out]; omega) (by rw [HNY.out]; omega) (by rw [HNX.out]; rfl) (by rw [HNY.out]; rfl) hbw5 ?_; intro v6 w6 hown6 hb6 hb6')
            obtain ⟨A6, c6, rfl, hc6, hA6⟩ := hown6.has
            have hZ6 := (HZ.out.below hb6').more hb6'.size
            have hls : (x.dropLast ++ y).length ≤ 20000 := by rw [List.length_append, List.length_dropLast, HNX.out, HNY.out]; omega
            have hzl : z.length ≤ 20000 := by have := sameF_len false z (x.dropLast ++ y); rcases Nat.decEq z.length (x.dropLast ++ y).length with h | h; exact absurd (this h) (by rw [HSAME.out]; decide); omega
            refine (same_any w6 Az A6 cz c6 z (x.dropLast ++ y) false hZ6 hA6 (by omega) (by omega)).mono ?_
            rw [HSAME.out]
            rintro e w7 ⟨rfl, hb7⟩
            have hbw7 := hb6.trans (hb7.mono hb6.size)
            clear hZ6 hA6 hown6 hls hzl hc6
            go_wp2
            go_ret
            exact ⟨rfl, hbw7⟩
          · have HLZ := Lib.hid (lex_bad HLL.out hz)
            have nE : (eb == 0) = false := by rw [beq_eq_false_iff_ne]; exact hE
            have mE : (eb != 0) = true := by rw [bne, nE]; rfl
            have hql : decide (a.size ≤ q) = true := by rw [decide_eq_true_eq]; exact hq
            clear hz hbig hE
            go_wp2_with fail
            refine (HLZ.out _ HTw).mono ?_
            rintro e w5 ⟨vz, rfl, hownz, hb5⟩
            obtain ⟨Az, cz, rfl, hcz, hZ⟩ := hownz.has
            have hbw5 := hbw.trans (hb5.mono hbw.size)
            clear hZ hownz
            go_wp2
            go_ret
            exact ⟨rfl, hbw5⟩
          · have HLZ := Lib.hid (lex_bad HLL.out hz)
            have hql : decide (q < a.size) = true := by rw [decide_eq_true_eq]; exact hq
            clear hz hbig
            go_wp2_with fail
            refine (HLZ.out _ HTw).mono ?_
            rintro e w5 ⟨vz, rfl, hownz, hb5⟩
            obtain ⟨Az, cz, rfl, hcz, hZ⟩ := hownz.has
            have hbw5 := hbw.trans (hb5.mono hbw.size)
            clear hZ hownz
            go_wp2
            go_ret
            exact ⟨rfl, hbw5⟩
          · have nE : (ea == 0) = false := by rw [beq_eq_false_iff_ne]; exact hE
            have mE : (ea != 0) = true := by rw [bne, nE]; rfl
            have nE2 : (ea == 12) = false := by rw [beq_eq_false_iff_ne]; exact hE2
            have mE2 : (ea != 12) = true := by rw [bne, nE2]; rfl
            have HLZ := Lib.hid (HLL.out (a ++ bl ++ b))
            clear hE hE2 hbig
            go_wp2_with fail
            refine (HLZ.out _ HTw).mono ?_
            rintro e w5 ⟨vz, rfl, hownz, hb5⟩
            generalize lexS (a ++ bl ++ b).data.toList = RZ at hownz ⊢
            obtain ⟨z, pz, ez⟩ := RZ
            simp only at hownz ⊢
            obtain ⟨Az, cz, rfl, hcz, hZ⟩ := hownz.has
            have hbw5 := hbw.trans (hb5.mono hbw.size)
            clear hZ hownz
            go_wp2
            go_ret
            exact ⟨rfl, hbw5⟩
      · clear hlt
        have hbw : Below w.heap.size w wr := by rw [HW.out]; exact below_dr hb3 _
        have hbl2 : bl.size ≤ 10 := by omega
        have HBZ := Lib.hid hbl
        have HTw := hT.here hbw
        have hXw := HX.out.below (w' := wr) (by rw [HW.out]; exact below_dr (Below.refl _ _) _)
        have hYw := HY.out.below (w' := wr) (by rw [HW.out]; exact below_dr (Below.refl _ _) _)
        have hz3 : w3.heap.size ≤ wr.heap.size := by rw [HW.out]; simp
        have HXw := Lib.hid (hXw.more hz3)
        have HYw := Lib.hid (hYw.more hz3)
        clear hwr hbl hXw hYw
        by_cases hbig : 8192 < a.size + b.size + bl.size
        · go_wp2
          go_ret
          exact ⟨rfl, hbw⟩
        · have hbg : a.size + b.size + bl.size ≤ 8192 := by omega
          rcases HKY.out bl (by have := HBZ.out; omega) HBL.out hbg with ⟨rfl, rfl, z, hz, hsame⟩ | ⟨rfl, hE, q, hq, hz⟩ | ⟨rfl, q, hq, hz⟩ | ⟨hE, hE2⟩
          · have HLZ := Lib.hid (lex_fine HLL.out hz)
            have hx1 := HXN.out rfl
            have hy1 := HYN.out rfl
            rw [HNX.out] at hx1
            rw [HNY.out] at hy1
            have HSAME := Lib.hid hsame
            clear hz hsame hbig
            go_wp2_with fail
            refine (HLZ.out _ HTw).mono ?_
            rintro e w5 ⟨vz, rfl, hownz, hb5⟩
            obtain ⟨Az, cz, rfl, hcz, hZ⟩ := hownz.has
            have hbw5 := hbw.trans (hb5.mono hbw.size)
            have hX5 := (HXw.out.below hb5).more hb5.size
            have hY5 := (HYw.out.below hb5).more hb5.size
            have HX5 := Lib.hid hX5
            have HY5 := Lib.hid hY5
            have HZ := Lib.hid hZ
            clear hX5 hY5 hZ hownz
            go_wp2_with (at_builtin; refine wpList_unguard rfl ?_; refine wpList_append_cut w _ rfl (.tmp 92) (.tmp 93) rfl _ _ Ax Ay cy x y HX5.out HY5.out (by rw [HNX.out]; exact hx1) (by rw [HNY.out]; exact hy1) (by rw [HNX.out]; omega) (by rw [HNY.out]; omega) (by rw [HNX.out]; rfl) (by rw [HNY.out]; rfl) hbw5 ?_; intro v6 w6 hown6 hb6 hb6')
            obtain ⟨A6, c6, rfl, hc6, hA6⟩ := hown6.has
            have hZ6 := (HZ.out.below hb6').more hb6'.size
            have hls : (x.dropLast ++ y).length ≤ 20000 := by rw [List.length_append, List.length_dropLast, HNX.out, HNY.out]; omega
            have hzl : z.length ≤ 20000 := by have := sameF_len false z (x.dropLast ++ y); rcases Nat.decEq z.length (x.dropLast ++ y).length with h | h; exact absurd (this h) (by rw [HSAME.out]; decide); omega
            refine (same_any w6 Az A6 cz c6 z (x.dropLast ++ y) false hZ6 hA6 (by omega) (by omega)).mono ?_
            rw [HSAME.out]
            rintro e w7 ⟨rfl, hb7⟩
            have hbw7 := hb6.trans (hb7.mono hb6.size)
            clear hZ6 hA6 hown6 hls hzl hc6
            go_wp2
            go_ret
            exact ⟨rfl, hbw7⟩
          · have HLZ := Lib.hid (lex_bad HLL.out hz)
            have nE : (eb == 0) = false := by rw [beq_eq_false_iff_ne]; exact hE
            have mE : (eb != 0) = true := by rw [bne, nE]; rfl
            have hql : decide (a.size ≤ q) = true := by rw [decide_eq_true_eq]; exact hq
            clear hz hbig hE
            go_wp2_with fail
            refine (HLZ.out _ HTw).mono ?_
            rintro e w5 ⟨vz, rfl, hownz, hb5⟩
            obtain ⟨Az, cz, rfl, hcz, hZ⟩ := hownz.has
            have hbw5 := hbw.trans (hb5.mono hbw.size)
            clear hZ hownz
            go_wp2
            go_ret
            exact ⟨rfl, hbw5⟩
          · have HLZ := Lib.hid (lex_bad HLL.out hz)
            have hql : decide (q < a.size) = true := by rw [decide_eq_true_eq]; exact hq
            clear hz hbig
            go_wp2_with fail
            refine (HLZ.out _ HTw).mono ?_
            rintro e w5 ⟨vz, rfl, hownz, hb5⟩
            obtain ⟨Az, cz, rfl, hcz, hZ⟩ := hownz.has
            have hbw5 := hbw.trans (hb5.mono hbw.size)
            clear hZ hownz
            go_wp2
            go_ret
            exact ⟨rfl, hbw5⟩
          · have nE : (ea == 0) = false := by rw [beq_eq_false_iff_ne]; exact hE
            have mE : (ea != 0) = true := by rw [bne, nE]; rfl
            have nE2 : (ea == 12) = false := by rw [beq_eq_false_iff_ne]; exact hE2
            have mE2 : (ea != 12) = true := by rw [bne, nE2]; rfl
            have HLZ := Lib.hid (HLL.out (a ++ bl ++ b))
            clear hE hE2 hbig
            go_wp2_with fail
            refine (HLZ.out _ HTw).mono ?_
            rintro e w5 ⟨vz, rfl, hownz, hb5⟩
            generalize lexS (a ++ bl ++ b).data.toList = RZ at hownz ⊢
            obtain ⟨z, pz, ez⟩ := RZ
            simp only at hownz ⊢
            obtain ⟨Az, cz, rfl, hcz, hZ⟩ := hownz.has
            have hbw5 := hbw.trans (hb5.mono hbw.size)
            clear hZ hownz
            go_wp2
            go_ret
            exact ⟨rfl, hbw5⟩
end Go.Proofs.YthogialdoikanaaDoor
