/- walk: Print. -/
import Derived.Test.YthogialdoikanaaDoorR1
import Derived.Test.YthogialdoikanaaDoorShelf
namespace Go.Proofs.YthogialdoikanaaDoor
open Go.RowKit

theorem str_info : (Tryd.prog.info? 9).map (fun i => (i.zero, i.size, i.bytes)) = some (some (.string ⟨#[]⟩), 1, 16) := by kernel_rfl
/-- a row of strings of the call's own -/
def strC (l : List (List UInt8)) : List Value := l.map fun x => .string ⟨x.toArray⟩
def OwnStrs (w : World) (B : Nat) (v : Value) (l : List (List UInt8)) : Prop := w.ownsRow B 9 1 v l.length (strC l)

def TextOK (t : Tok) : Prop := ∀ W, Tabs W → Calls Tryd.prog 30 #[tokV t] W (TextPost (textS t) W)

theorem join_len (M : Nat) : ∀ (ws : List (List UInt8)), (∀ x ∈ ws, x.length ≤ M) → (Lib.join ws [32]).length ≤ ws.length * (M + 1)
  | [], _ => by simp [Lib.join]
  | [x], h => by
    have := h x (by simp)
    simp [Lib.join]; omega
  | x :: y :: r, h => by
    have ih := join_len M (y :: r) (fun z hz => h z (by simp [List.mem_cons] at hz ⊢; right; exact hz))
    have hx := h x (by simp)
    have e : Lib.join (x :: y :: r) [32] = x ++ [32] ++ Lib.join (y :: r) [32] := by simp [Lib.join, List.intercalate]
    rw [e]
    simp only [List.length_append, List.length_cons, List.length_nil, Nat.add_mul] at ih ⊢
    omega

theorem join_any (w : World) (B : Nat) (v : Value) (ws : List (List UInt8)) (M : Nat) (hown : OwnStrs w B v ws) (hM : ∀ x ∈ ws, x.length ≤ M) (hm : M ≤ 6291500) (hl : ws.length ≤ 1048576) :
    Calls Tryd.prog 31 #[v, .string ⟨#[32]⟩] w fun e w' => e = .returned (.string ⟨(Lib.join ws [32]).toArray⟩) ∧ Below w.heap.size w w' := by
  have hlen := join_len M ws hM
  have hlen2 : (Lib.join ws [32]).length ≤ 140737488355328 := by
    have h1 : ws.length * (M + 1) ≤ 1048576 * 6291501 := Nat.mul_le_mul hl (by omega)
    omega
  obtain ⟨hxl, ⟨rfl, hn⟩ | ⟨g, cap, cur, rfl, hbg, hgg, hcap, hcm, hcz, htk⟩⟩ := id hown
  · obtain rfl : ws = [] := List.eq_nil_of_length_eq_zero hn
    exact (Tryd.strings_Join_none none 0 ⟨#[32]⟩ w).mono (fun e w' h => ⟨h.1, by rw [h.2]; exact Below.refl _ _⟩)
  · have hmap : (ws.map fun x => (⟨x.toArray⟩ : ByteArray)).map (·.data.toList) = ws := by rw [List.map_map]; exact List.map_id ws
    have hlt : g < w.heap.size := by
      rcases Nat.lt_or_ge g w.heap.size with h1 | h1
      · exact h1
      · rw [Array.getElem?_eq_none h1] at hgg; cases hgg
    have h := Tryd.strings_Join g 0 cap (ws.map fun x => (⟨x.toArray⟩ : ByteArray)) ⟨#[32]⟩ w (fun j x hx => by
      rw [List.getElem?_map] at hx
      have hc := World.ownsRow.cells hown (g := g) rfl j (.string x) (by
        simp only [strC, List.getElem?_map]
        cases hj : ws[j]? with
        | none => rw [hj] at hx; cases hx
        | some y => rw [hj] at hx; simp only [Option.map_some, Option.some.injEq] at hx; subst hx; rfl)
      have e : ((⟨g, 0, none⟩ : Addr).add j) = ⟨g, 0 + j, none⟩ := by
        unfold Addr.add
        split
        · rename_i h; rw [h]
        · rfl
      rw [← e]; exact hc) hlt (by simp; omega) (by simpa using hcap) (by rw [hmap]; exact hlen2)
    rw [hmap] at h
    rw [List.length_map] at h
    exact h

theorem wpList_append_str {ops : Array Oper} {rest : List Oper} {o : Oper} {a : Act} {Q : Exit → Act → World → Prop} (w00 w0 : World) (C : Array Value) (T : TypeId) (hgd : o.guard = none) (s x : Operand)
    (ho : o.op = .call { callee := .builtin .append, args := #[s, x], argTypes := #[55, 55] })
    (v : Value) (acc : List (List UInt8)) (t : List UInt8) (hs : a.eval s = v) (hown : OwnStrs w0 w00.heap.size v acc) (hb : Below w00.heap.size w00 w0)
    (hx : a.eval x = .slice (some ⟨w0.heap.size, 0, none⟩) 1 1) (hC : C = #[.string ⟨t.toArray⟩]) (hl : acc.length ≤ 2000000)
    (h : ∀ v' w', OwnStrs w' w00.heap.size v' (acc ++ [t]) → Below w00.heap.size w00 w' → wpList Tryd.prog ops Q rest (a.put o.dst v') w') : wpList Tryd.prog ops Q (o :: rest) a (w0.alloc (.cells C T)) := by
  obtain ⟨ti, hti, htz, hts, hty⟩ := info_parts str_info
  subst hC
  refine wpList_append_own _ hgd s x 55 ho w00.heap.size 9 ti _ 1 16 Tryd.underlying55 hti htz hts hty rfl (by omega) v acc.length (strC acc) hs (World.ownsRow.alloc hown _) ⟨_, 0, none⟩ 1 1 [.string ⟨t.toArray⟩] hx rfl (news_new _ [.string ⟨t.toArray⟩] _) ?_ (by simp only [maxLen]; omega) (by omega) (by have := hb.size; simp; omega) ?_
  · intro u hu
    simp only [List.mem_cons, List.not_mem_nil, or_false] at hu
    subst hu; rfl
  · intro v2 w2 hown2 hg2 _
    refine h v2 w2 ?_ (below_own (hb.alloc hb.size _) (World.ownsRow.alloc hown _) hg2 (Nat.le_refl _) (by have := hb.size; simp; omega))
    unfold OwnStrs
    rw [List.length_append, show strC (acc ++ [t]) = strC acc ++ [.string ⟨t.toArray⟩] by simp [strC]]
    exact hown2

theorem textPost_ret {e : Int} {x : List UInt8} {w w' : World} {y : Int × List UInt8} (h : y = (e, x)) (hb : Below w.heap.size w w') : TextPost y w (.returned (.tuple #[.string ⟨x.toArray⟩, .int .i64 e])) w' := by
  subst h; exact ⟨rfl, hb⟩

theorem wordsS_drop {l : List Tok} {k : Nat} (h : k < l.length) : wordsS (l.drop k) = (if l[k].k = 0 then (0, []) else if (textS l[k]).1 ≠ 0 then ((textS l[k]).1, []) else if (wordsS (l.drop (k + 1))).1 ≠ 0 then ((wordsS (l.drop (k + 1))).1, []) else (0, (textS l[k]).2 :: (wordsS (l.drop (k + 1))).2)) := by
  rw [List.drop_eq_getElem_cons h]; rfl

set_option maxHeartbeats 4000000 in
set_option maxRecDepth 100000 in
theorem print_any (w : World) (hT : Tabs w) (A : Option Addr) (ca : Nat) (l : List Tok) (hA : HasToks w w.heap.size A l) (hl : l.length ≤ 1048576) (hs : ∀ t ∈ l, (textS t).2.length ≤ 6291500) (hok : ∀ t ∈ l, TextOK t) :
    Calls Tryd.prog 14 #[.slice A l.length ca] w (TextPost (printS l) w) := by
  obtain ⟨n, hn⟩ : ∃ n, l.length = n := ⟨_, rfl⟩
  rw [hn] at hl ⊢
  have HN := Lib.hid hn
  have HA := Lib.hid hA
  have HOK := Lib.hid hok
  have HS := Lib.hid hs
  clear hn hA hok hs
  go_enter Tryd.func14, Tryd.ntmps14
  go_wp2
  go_loopw [4, 11] (fun out i wr => ∃ (k : Nat) (ws : List (List UInt8)), i = .int .i64 k ∧ k ≤ n ∧ ws.length ≤ k ∧ OwnStrs wr w.heap.size out ws ∧ Below w.heap.size w wr ∧ (∀ x ∈ ws, x.length ≤ 6291500) ∧
      (wordsS l).1 = (wordsS (l.drop k)).1 ∧ ((wordsS l).1 = 0 → (wordsS l).2 = ws ++ (wordsS (l.drop k)).2)) (fun _ i _ => n - (intOf i).toNat)
  case atStart => exact ⟨0, [], rfl, by omega, by simp, ⟨rfl, .inl ⟨rfl, rfl⟩⟩, Below.refl _ _, by simp, rfl, fun _ => rfl⟩
  case round =>
    obtain ⟨k, ws, rfl, hk, hwk, hown, hb, hws, h1, h2⟩ := hrel
    have H1 := Lib.hid h1
    have H2 := Lib.hid h2
    have HOWN := Lib.hid hown
    have HWS := Lib.hid hws
    clear h1 h2 hown hws
    by_cases hlt : k < n
    · have hka : k < l.length := by have := HN.out; omega
      obtain ⟨ad, rfl, c0, c1, c2, c3⟩ := (HA.out.below hb).at_ hka
      have hwd := wordsS_drop hka
      have hmem : l[k] ∈ l := List.getElem_mem hka
      have hxs := HS.out _ hmem
      have hxo := HOK.out _ hmem
      generalize l[k] = x at *
      generalize hE : textS x = EX at hwd hxs hxo
      obtain ⟨E, X⟩ := EX
      have hxo2 : ∀ W, Tabs W → Calls Tryd.prog 30 #[tokV x] W (TextPost (E, X) W) := fun W h => hE ▸ hxo W h
      obtain ⟨x0, x1, x2, x3⟩ := x
      simp only at c0 c1 c2 c3 hwd hxs
      have HXO := Lib.hid hxo2
      have HWD := Lib.hid hwd
      clear hxo hxo2 hwd hE hmem
      by_cases e0 : x0 = 0
      · have t0 : (x0 == 0) = true := by rw [beq_iff_eq]; exact e0
        have hres : printS l = (0, Lib.join ws [32]) := by
          have h := HWD.out
          rw [if_pos e0] at h
          have h1 := H1.out
          have h2 := H2.out
          rw [h] at h1 h2
          unfold printS
          rw [if_neg (by rw [h1]; simp), h2 h1, List.append_nil]
        have HRES := Lib.hid hres
        clear hres
        go_wp2_with fail
        refine (join_any _ w.heap.size _ ws 6291500 (World.ownsRow.alloc HOWN.out _) HWS.out (by omega) (by omega)).mono ?_
        rintro e w1 ⟨rfl, hb1⟩
        have hbb := (hb.alloc hb.size (.cells #[.int .i64 0, .string ⟨x1.toArray⟩, .int .i64 x2, .int .i64 x3] 29)).trans (hb1.mono (by have := hb.size; simp; omega))
        go_wp2
        go_ret2
        exact textPost_ret HRES.out hbb
      · have t0 : (x0 == 0) = false := by rw [beq_eq_false_iff_ne]; exact e0
        have hbal := hb.alloc hb.size (.cells #[.int .i64 x0, .string ⟨x1.toArray⟩, .int .i64 x2, .int .i64 x3] 29)
        have HT := hT.here hbal
        have hown1 := World.ownsRow.alloc HOWN.out (.cells #[.int .i64 x0, .string ⟨x1.toArray⟩, .int .i64 x2, .int .i64 x3] 29)
        have HOWN1 := Lib.hid hown1
        have hwd := HWD.out
        rw [if_neg e0] at hwd
        have HWD2 := Lib.hid hwd
        clear hwd hown1 e0
        by_cases hE : E = 0
        · have tE : (E == 0) = true := by rw [beq_iff_eq]; exact hE
          have mE : (E != 0) = false := by rw [bne, tE]; rfl
          have hwd := HWD2.out
          rw [if_neg (by simp [hE])] at hwd
          have nxt1 : (wordsS l).1 = (wordsS (l.drop (k + 1))).1 := by
            rw [H1.out, hwd]
            split
            · rfl
            · rename_i h; simp only [ne_eq, Classical.not_not] at h; exact h.symm
          have nxt2 : (wordsS l).1 = 0 → (wordsS l).2 = (ws ++ [X]) ++ (wordsS (l.drop (k + 1))).2 := fun h0 => by
            have h3 := H2.out h0
            rw [hwd, if_neg (by rw [← nxt1, h0]; simp)] at h3
            rw [h3, List.append_assoc]; rfl
          have N1 := Lib.hid nxt1
          have N2 := Lib.hid nxt2
          clear hwd nxt1 nxt2 hE
          go_wp2_with fail
          refine (HXO.out _ HT).mono ?_
          rintro e w1 ⟨rfl, hb1⟩
          have hbb := hbal.trans (hb1.mono (by have := hb.size; simp; omega))
          have hown2 := own_below HOWN1.out hb1
          go_wp2_with (at_builtin; refine wpList_append_str w _ _ _ rfl (.tmp 26) (.tmp 28) rfl _ ws X rfl hown2 hbb rfl rfl (by omega) ?_; intro v2 w2 hown3 hb2)
          go_roundw
          case rel =>
            refine ⟨k + 1, ws ++ [X], by go_num, by omega, by simp; omega, hown3, hb2, ?_, N1.out, N2.out⟩
            intro x hx
            rcases List.mem_append.1 hx with h | h
            · exact HWS.out x h
            · simp only [List.mem_cons, List.not_mem_nil, or_false] at h
              subst h; exact hxs
          case measure => simp [intOf]; omega
        · have tE : (E == 0) = false := by rw [beq_eq_false_iff_ne]; exact hE
          have mE : (E != 0) = true := by rw [bne, tE]; rfl
          have hres : printS l = (E, []) := by
            have h := HWD2.out
            rw [if_pos (by simpa using hE)] at h
            have h1 := H1.out
            rw [h] at h1
            unfold printS
            rw [if_pos (by rw [h1]; exact hE), h1]
          have HRES := Lib.hid hres
          clear hres hE
          go_wp2_with fail
          refine (HXO.out _ HT).mono ?_
          rintro e w1 ⟨rfl, hb1⟩
          have hbb := hbal.trans (hb1.mono (by have := hb.size; simp; omega))
          go_wp2
          go_ret2
          exact textPost_ret HRES.out hbb
    · obtain rfl : k = n := by omega
      have hres : printS l = (0, Lib.join ws [32]) := by
        have h1 := H1.out
        have h2 := H2.out
        rw [List.drop_eq_nil_of_le (by rw [HN.out]; omega)] at h1 h2
        unfold printS
        rw [if_neg (by rw [h1]; simp [wordsS]), h2 h1]
        simp [wordsS]
      have HRES := Lib.hid hres
      clear hres hlt
      go_wp2_with fail
      refine (join_any _ w.heap.size _ ws 6291500 HOWN.out HWS.out (by omega) (by omega)).mono ?_
      rintro e w1 ⟨rfl, hb1⟩
      have hbb := hb.trans (hb1.mono hb.size)
      go_wp2
      go_ret2
      exact textPost_ret HRES.out hbb
end Go.Proofs.YthogialdoikanaaDoor
