/- walk: the answer's own Print. -/
import Derived.Test.YthogialdoikanaaDoorZ3
import Derived.Test.YthogialdoikanaaDoorG6
namespace Go.Proofs.YthogialdoikanaaDoor
open Go.RowKit

theorem fmt_any (N : Int) (hN : In64 N) (W : World) (hT : Tabs W) : Calls Tryd.prog 33 #[.int .i64 N, .int .i64 10] W fun e w' => e = .returned (.string ⟨(Lib.itoa N).toArray⟩) ∧ Below W.heap.size W w' :=
  (Tryd.strconv_FormatInt_10 N hN.1 hN.2 W hT.p10).mono (by rintro e w1 ⟨rfl, k, os, rfl⟩; exact ⟨rfl, Lib.below_grow W.heap.size _ (Nat.le_refl _) k os⟩)
theorem bytes_of (b : ByteArray) (l : List UInt8) (h : b.data.toList = l) : b = ⟨l.toArray⟩ := by subst h; cases b; simp
theorem join_snoc (ws : List (List UInt8)) (x : List UInt8) : Lib.join (ws ++ [x]) [32] = if ws = [] then x else Lib.join ws [32] ++ [32] ++ x := by
  cases ws with
  | nil => rw [if_pos rfl, List.nil_append, Lib.join_one]
  | cons a r =>
    rw [if_neg (by simp), List.cons_append, Lib.join_cons, Lib.join_cons]
    unfold Lib.joinTail
    simp
theorem catL (a b : ByteArray) : (a ++ b).data.toList = a.data.toList ++ b.data.toList := by simp
theorem lit32 : (⟨#[32]⟩ : ByteArray).size = 1 := rfl
theorem of_size (l : List UInt8) : (⟨l.toArray⟩ : ByteArray).size = l.length := Lib.size_eq _
theorem cell_new (w : World) (o : Nat) (x0 x1 x2 x3 : Value) (T : TypeId) {w' : World} (hb : Below (w.alloc (.cells #[x0, x1, x2, x3] T)).heap.size (w.alloc (.cells #[x0, x1, x2, x3] T)) w') : w'.cell? ⟨w.heap.size, o, none⟩ = (#[x0, x1, x2, x3] : Array Value)[o]? :=
  (hb.cell (by simp)).trans (World.cell?_alloc_new _ _ _ _)
/-- what holds of the words so far -/
def PrI (l : List Tok) (k : Nat) (ws : List (List UInt8)) : Prop := ws.length = k ∧ (wordsS l).1 = (wordsS (l.drop k)).1 ∧ ((wordsS l).1 = 0 → (wordsS l).2 = ws ++ (wordsS (l.drop k)).2)
theorem PrI.zero (l : List Tok) : PrI l 0 [] := ⟨rfl, rfl, fun _ => rfl⟩
theorem PrI.next {l : List Tok} {k : Nat} {ws : List (List UInt8)} (h : PrI l k ws) (hk : k < l.length) (h0 : l[k].k ≠ 0) {X : List UInt8} (hx : textS l[k] = (0, X)) : PrI l (k + 1) (ws ++ [X]) := by
  obtain ⟨h1, h2, h3⟩ := h
  have hw := wordsS_drop hk
  rw [if_neg h0, hx, if_neg (by simp)] at hw
  have h4 : (wordsS l).1 = (wordsS (l.drop (k + 1))).1 := by
    rw [h2, hw]
    split
    · rfl
    · rename_i h; simp only [ne_eq, Classical.not_not] at h; exact h.symm
  refine ⟨by simp [h1], h4, fun hz => ?_⟩
  have h5 := h3 hz
  rw [hw, if_neg (by rw [← h4, hz]; simp)] at h5
  rw [h5, List.append_assoc]; rfl
theorem PrI.stop {l : List Tok} {k : Nat} {ws : List (List UInt8)} (h : PrI l k ws) (hk : k < l.length) (h0 : l[k].k = 0) : printS l = (0, Lib.join ws [32]) := by
  obtain ⟨h1, h2, h3⟩ := h
  have hw := wordsS_drop hk
  rw [if_pos h0] at hw
  rw [hw] at h2 h3
  unfold printS
  rw [if_neg (by rw [h2]; simp), h3 h2, List.append_nil]
theorem PrI.fault {l : List Tok} {k : Nat} {ws : List (List UInt8)} (h : PrI l k ws) (hk : k < l.length) (h0 : l[k].k ≠ 0) {E : Int} {X : List UInt8} (hE : E ≠ 0) (hx : textS l[k] = (E, X)) : printS l = (E, []) := by
  obtain ⟨h1, h2, h3⟩ := h
  have hw := wordsS_drop hk
  rw [if_neg h0, hx, if_pos (by simpa using hE)] at hw
  rw [hw] at h2
  unfold printS
  rw [if_pos (by rw [h2]; exact hE), h2]
theorem PrI.done {l : List Tok} {ws : List (List UInt8)} (h : PrI l l.length ws) : printS l = (0, Lib.join ws [32]) := by
  obtain ⟨h1, h2, h3⟩ := h
  rw [List.drop_length] at h2 h3
  unfold printS
  rw [if_neg (by rw [h2]; simp [wordsS]), h3 h2]
  simp [wordsS]

set_option maxHeartbeats 16000000 in
set_option maxRecDepth 100000 in
theorem rprint_any (w : World) (hT : Tabs w) (A : Option Addr) (ca : Nat) (l : List Tok) (hA : HasToks w w.heap.size A l) (hl : l.length ≤ 1048576) (hs : ∀ t ∈ l, t.s.length ≤ 1048576 ∧ In64 t.n) :
    Calls Tryd.prog 15 #[.slice A l.length ca] w (TextPost (printS l) w) := by
  obtain ⟨n, hn⟩ : ∃ n, l.length = n := ⟨_, rfl⟩
  rw [hn] at hl ⊢
  have HN := Lib.hid hn
  have HA := Lib.hid hA
  have HS := Lib.hid hs
  have SZ2 : Hid (∀ v : Int, In64 v → (Lib.itoa v).length ≤ 22) := Lib.hid (fun v hv => by have h := textS_len ⟨2, [], v, 0⟩ hv; simpa [textS] using h)
  clear hn hA hs
  go_enter Tryd.func15, Tryd.ntmps15
  go_wp2
  go_loopw [4, 5] (fun v i wr => ∃ (k : Nat) (ws : List (List UInt8)) (sb : ByteArray), v = .string sb ∧ i = .int .i64 k ∧ k ≤ n ∧ sb.data.toList = Lib.join ws [32] ∧ sb.size ≤ k * 6291501 ∧ Below w.heap.size w wr ∧ PrI l k ws) (fun _ i _ => n - (intOf i).toNat)
  case atStart => exact ⟨0, [], ⟨#[]⟩, rfl, rfl, by omega, rfl, by decide, Below.refl _ _, PrI.zero l⟩
  case round =>
    obtain ⟨k, ws, sb, rfl, rfl, hk, hsb, hsz, hb, hpr⟩ := hrel
    have HSB := Lib.hid hsb
    clear hsb
    have hs2 : sb.size ≤ 7000000000000 := by omega
    by_cases hlt : k < n
    · have hka : k < l.length := by have := HN.out; omega
      obtain ⟨ad, rfl, c0, c1, c2, c3⟩ := (HA.out.below hb).at_ hka
      obtain ⟨hxs, hxn⟩ := HS.out _ (List.getElem_mem hka)
      have STOP := Lib.hid (hpr.stop hka)
      have FAULT : ∀ (E : Int) (X : List UInt8), E ≠ 0 → l[k].k ≠ 0 → textS l[k] = (E, X) → printS l = (E, []) := fun E X h1 h2 h3 => hpr.fault hka h2 h1 h3
      have NEXT : ∀ (X : List UInt8), l[k].k ≠ 0 → textS l[k] = (0, X) → PrI l (k + 1) (ws ++ [X]) := fun X h1 h2 => hpr.next hka h1 h2
      have HLEN := Lib.hid hpr.1
      have SZ := textS_len l[k] hxn
      generalize l[k] = x at *
      obtain ⟨x0, x1, x2, x3⟩ := x
      simp only at c0 c1 c2 c3 hxs hxn FAULT NEXT SZ
      have HFAULT := Lib.hid FAULT
      have HNEXT := Lib.hid NEXT
      clear FAULT NEXT
      have HXN := Lib.hid hxn
      have hbal := hb.alloc hb.size (.cells #[.int .i64 x0, .string ⟨x1.toArray⟩, .int .i64 x2, .int .i64 x3] 29)
      have HBAL := Lib.hid hbal
      clear hpr hbal hxn SZ
      by_cases e0 : x0 = 0
      · have hres := STOP.out e0
        have HRES := Lib.hid hres
        have e := bytes_of sb _ HSB.out
        have EE := Lib.hid e
        subst e0
        clear hres e
        go_wp2
        go_ret2
        rw [HRES.out]
        have e := EE.out
        exact ⟨congrArg (fun z => Ending.returned (.tuple #[.string z, .int .i64 0])) e, HBAL.out⟩
      · have n0 : (x0 == 0) = false := by rw [beq_eq_false_iff_ne]; exact e0
        by_cases e1 : x0 = 1
        · subst e1
          cases hw : isWordS x1 with
          | true =>
            by_cases z2 : x2 = 0
            · subst z2
              have HWD : ∀ W, Calls Tryd.prog 32 #[.string ⟨x1.toArray⟩] W fun e w' => e = .returned (.bool true) ∧ W = w' := fun W => by
                have h := risWord_any ⟨x1.toArray⟩ W (by rw [of_size]; omega)
                have e0 : (⟨x1.toArray⟩ : ByteArray).data.toList = x1 := rfl
                rw [e0, hw] at h
                exact h
              have HWD := Lib.hid HWD
              have hnx := HNEXT.out (x1) (by decide) (by simp [textS, hw])
              have HNX := Lib.hid hnx
              clear hw e0
              have hXl : (x1).length ≤ 6291500 := by omega
              have HXL := Lib.hid hXl
              clear hnx
              by_cases hk0 : k = 0
              · have g0 : decide (0 < k) = false := by rw [decide_eq_false_iff_not]; omega
                have g0' : decide ((0 : Int) < (k : Int)) = false := by rw [decide_eq_false_iff_not]; omega
                have hws : ws = [] := List.eq_nil_of_length_eq_zero (by have := HLEN.out; omega)
                have HWS := Lib.hid hws
                have hxz : (⟨(x1).toArray⟩ : ByteArray).size ≤ 6291500 := by rw [of_size]; exact HXL.out
                clear hws hk0
                go_wp2_with fail
                refine (HWD.out _).mono ?_
                rintro e w4 ⟨rfl, rfl⟩
                go_wp2
                go_roundw
                case rel => exact ⟨k + 1, ws ++ [x1], sb ++ ⟨(x1).toArray⟩, rfl, by go_num, by omega, by rw [join_snoc, if_pos HWS.out, catL, HSB.out, HWS.out]; rfl, by rw [ByteArray.size_append]; omega, HBAL.out, HNX.out⟩
                case measure => simp [intOf]; omega
              · have g0 : decide (0 < k) = true := by rw [decide_eq_true_eq]; omega
                have g0' : decide ((0 : Int) < (k : Int)) = true := by rw [decide_eq_true_eq]; omega
                have hws : ws ≠ [] := by intro h; have h2 := HLEN.out; rw [h] at h2; simp at h2; omega
                have HWS := Lib.hid hws
                have hxz : (⟨(x1).toArray⟩ : ByteArray).size ≤ 6291500 := by rw [of_size]; exact HXL.out
                clear hws hk0
                go_wp2_with fail
                refine (HWD.out _).mono ?_
                rintro e w4 ⟨rfl, rfl⟩
                go_wp2
                go_roundw
                case rel => exact ⟨k + 1, ws ++ [x1], sb ++ ⟨#[32]⟩ ++ ⟨(x1).toArray⟩, rfl, by go_num, by omega, by rw [join_snoc, if_neg HWS.out, catL, catL, HSB.out], by rw [ByteArray.size_append, ByteArray.size_append, lit32]; omega, HBAL.out, HNX.out⟩
                case measure => simp [intOf]; omega
            · have m2 : (x2 == 0) = false := by rw [beq_eq_false_iff_ne]; exact z2
              have HWD : ∀ W, Calls Tryd.prog 32 #[.string ⟨x1.toArray⟩] W fun e w' => e = .returned (.bool true) ∧ W = w' := fun W => by
                have h := risWord_any ⟨x1.toArray⟩ W (by rw [of_size]; omega)
                have e0 : (⟨x1.toArray⟩ : ByteArray).data.toList = x1 := rfl
                rw [e0, hw] at h
                exact h
              have HWD := Lib.hid HWD
              have hres := HFAULT.out 1 [] (by decide) (by decide) (by simp [textS, z2])
              have HRES := Lib.hid hres
              clear hres hw z2 e0
              go_wp2_with fail
              refine (HWD.out _).mono ?_
              rintro e w4 ⟨rfl, rfl⟩
              go_wp2
              go_ret2
              rw [HRES.out]
              exact ⟨rfl, HBAL.out⟩
          | false =>
            have HWD : ∀ W, Calls Tryd.prog 32 #[.string ⟨x1.toArray⟩] W fun e w' => e = .returned (.bool false) ∧ W = w' := fun W => by
              have h := risWord_any ⟨x1.toArray⟩ W (by rw [of_size]; omega)
              have e0 : (⟨x1.toArray⟩ : ByteArray).data.toList = x1 := rfl
              rw [e0, hw] at h
              exact h
            have HWD := Lib.hid HWD
            have hres := HFAULT.out 1 [] (by decide) (by decide) (by simp [textS, hw])
            have HRES := Lib.hid hres
            clear hres hw e0
            go_wp2_with fail
            refine (HWD.out _).mono ?_
            rintro e w4 ⟨rfl, rfl⟩
            go_wp2
            go_ret2
            rw [HRES.out]
            exact ⟨rfl, HBAL.out⟩
        · have n1 : (x0 == 1) = false := by rw [beq_eq_false_iff_ne]; exact e1
          by_cases e2 : x0 = 2
          · subst e2
            by_cases z1 : x1 = []
            · subst z1
              have hnx := HNEXT.out (Lib.itoa x2) (by decide) (by simp [textS])
              have HNX := Lib.hid hnx
              have hXl : (Lib.itoa x2).length ≤ 6291500 := by have := SZ2.out x2 HXN.out; omega
              have HXL := Lib.hid hXl
              clear hnx e0 e1
              by_cases hk0 : k = 0
              · have g0 : decide (0 < k) = false := by rw [decide_eq_false_iff_not]; omega
                have g0' : decide ((0 : Int) < (k : Int)) = false := by rw [decide_eq_false_iff_not]; omega
                have hws : ws = [] := List.eq_nil_of_length_eq_zero (by have := HLEN.out; omega)
                have HWS := Lib.hid hws
                have hxz : (⟨(Lib.itoa x2).toArray⟩ : ByteArray).size ≤ 6291500 := by rw [of_size]; exact HXL.out
                clear hws hk0
                go_wp2_with fail
                refine (fmt_any x2 HXN.out _ (hT.here HBAL.out)).mono ?_
                rintro e w5 ⟨rfl, hb5⟩
                go_wp2
                go_roundw
                case rel => exact ⟨k + 1, ws ++ [Lib.itoa x2], sb ++ ⟨(Lib.itoa x2).toArray⟩, rfl, by go_num, by omega, by rw [join_snoc, if_pos HWS.out, catL, HSB.out, HWS.out]; rfl, by rw [ByteArray.size_append]; omega, (HBAL.out.trans (hb5.mono HBAL.out.size)), HNX.out⟩
                case measure => simp [intOf]; omega
              · have g0 : decide (0 < k) = true := by rw [decide_eq_true_eq]; omega
                have g0' : decide ((0 : Int) < (k : Int)) = true := by rw [decide_eq_true_eq]; omega
                have hws : ws ≠ [] := by intro h; have h2 := HLEN.out; rw [h] at h2; simp at h2; omega
                have HWS := Lib.hid hws
                have hxz : (⟨(Lib.itoa x2).toArray⟩ : ByteArray).size ≤ 6291500 := by rw [of_size]; exact HXL.out
                clear hws hk0
                go_wp2_with fail
                refine (fmt_any x2 HXN.out _ (hT.here HBAL.out)).mono ?_
                rintro e w5 ⟨rfl, hb5⟩
                go_wp2
                go_roundw
                case rel => exact ⟨k + 1, ws ++ [Lib.itoa x2], sb ++ ⟨#[32]⟩ ++ ⟨(Lib.itoa x2).toArray⟩, rfl, by go_num, by omega, by rw [join_snoc, if_neg HWS.out, catL, catL, HSB.out], by rw [ByteArray.size_append, ByteArray.size_append, lit32]; omega, (HBAL.out.trans (hb5.mono HBAL.out.size)), HNX.out⟩
                case measure => simp [intOf]; omega
            · have m1 : x1.isEmpty = false := by simpa using z1
              have hres := HFAULT.out 1 [] (by decide) (by decide) (by simp [textS, z1])
              have HRES := Lib.hid hres
              clear hres z1 e0 e1
              go_wp2
              go_ret2
              rw [HRES.out]
              exact ⟨rfl, HBAL.out⟩
          · have n2 : (x0 == 2) = false := by rw [beq_eq_false_iff_ne]; exact e2
            by_cases e3 : x0 = 3
            · subst e3
              by_cases z2 : x2 = 0
              · subst z2
                cases hv : Lib.validD x1 with
                | true =>
                  have HVD : ∀ W, Calls Tryd.prog 34 #[.string ⟨x1.toArray⟩] W fun e w' => e = .returned (.bool true) ∧ Below W.heap.size W w' := fun W => by
                    have h := rvalid_any ⟨x1.toArray⟩ W (by rw [of_size]; omega)
                    have e0 : (⟨x1.toArray⟩ : ByteArray).data.toList = x1 := rfl
                    rw [e0, hv] at h
                    exact h
                  have HVD := Lib.hid HVD
                  have hnx := HNEXT.out (34 :: (escS x1 ++ [34])) (by decide) (by simp [textS, quoteS, hv])
                  have HNX := Lib.hid hnx
                  have hXl : (34 :: (escS x1 ++ [34])).length ≤ 6291500 := by have := escS_len x1; simp only [List.length_cons, List.length_append, List.length_nil]; omega
                  have HXL := Lib.hid hXl
                  have hq2 : (escS x1).length ≤ 6291456 := by have := escS_len x1; omega
                  clear hnx hv e0 e1 e2
                  by_cases hk0 : k = 0
                  · have g0 : decide (0 < k) = false := by rw [decide_eq_false_iff_not]; omega
                    have g0' : decide ((0 : Int) < (k : Int)) = false := by rw [decide_eq_false_iff_not]; omega
                    have hws : ws = [] := List.eq_nil_of_length_eq_zero (by have := HLEN.out; omega)
                    have HWS := Lib.hid hws
                    have hxz : (⟨(34 :: (escS x1 ++ [34])).toArray⟩ : ByteArray).size ≤ 6291500 := by rw [of_size]; exact HXL.out
                    clear hws hk0
                    go_wp2_with fail
                    refine (HVD.out _).mono ?_
                    rintro e w5 ⟨rfl, hb5⟩
                    have d1 := cell_new _ 1 _ _ _ _ _ hb5
                    have hb5t := HBAL.out.trans (hb5.mono HBAL.out.size)
                    go_wp2_with fail
                    refine (rquote_any ⟨x1.toArray⟩ _ (by rw [of_size]; omega)).mono ?_
                    rintro e w6 ⟨rfl, hb6⟩
                    go_wp2
                    go_roundw
                    case rel => exact ⟨k + 1, ws ++ [34 :: (escS x1 ++ [34])], sb ++ ⟨(34 :: (escS x1 ++ [34])).toArray⟩, rfl, by go_num, by omega, by rw [join_snoc, if_pos HWS.out, catL, HSB.out, HWS.out]; rfl, by rw [ByteArray.size_append]; omega, (hb5t.trans (hb6.mono hb5t.size)), HNX.out⟩
                    case measure => simp [intOf]; omega
                  · have g0 : decide (0 < k) = true := by rw [decide_eq_true_eq]; omega
                    have g0' : decide ((0 : Int) < (k : Int)) = true := by rw [decide_eq_true_eq]; omega
                    have hws : ws ≠ [] := by intro h; have h2 := HLEN.out; rw [h] at h2; simp at h2; omega
                    have HWS := Lib.hid hws
                    have hxz : (⟨(34 :: (escS x1 ++ [34])).toArray⟩ : ByteArray).size ≤ 6291500 := by rw [of_size]; exact HXL.out
                    clear hws hk0
                    go_wp2_with fail
                    refine (HVD.out _).mono ?_
                    rintro e w5 ⟨rfl, hb5⟩
                    have d1 := cell_new _ 1 _ _ _ _ _ hb5
                    have hb5t := HBAL.out.trans (hb5.mono HBAL.out.size)
                    go_wp2_with fail
                    refine (rquote_any ⟨x1.toArray⟩ _ (by rw [of_size]; omega)).mono ?_
                    rintro e w6 ⟨rfl, hb6⟩
                    go_wp2
                    go_roundw
                    case rel => exact ⟨k + 1, ws ++ [34 :: (escS x1 ++ [34])], sb ++ ⟨#[32]⟩ ++ ⟨(34 :: (escS x1 ++ [34])).toArray⟩, rfl, by go_num, by omega, by rw [join_snoc, if_neg HWS.out, catL, catL, HSB.out], by rw [ByteArray.size_append, ByteArray.size_append, lit32]; omega, (hb5t.trans (hb6.mono hb5t.size)), HNX.out⟩
                    case measure => simp [intOf]; omega
                | false =>
                  have HVD : ∀ W, Calls Tryd.prog 34 #[.string ⟨x1.toArray⟩] W fun e w' => e = .returned (.bool false) ∧ Below W.heap.size W w' := fun W => by
                    have h := rvalid_any ⟨x1.toArray⟩ W (by rw [of_size]; omega)
                    have e0 : (⟨x1.toArray⟩ : ByteArray).data.toList = x1 := rfl
                    rw [e0, hv] at h
                    exact h
                  have HVD := Lib.hid HVD
                  have hres := HFAULT.out 11 [] (by decide) (by decide) (by simp [textS, quoteS, hv])
                  have HRES := Lib.hid hres
                  clear hres hv e0 e1 e2
                  go_wp2_with fail
                  refine (HVD.out _).mono ?_
                  rintro e w5 ⟨rfl, hb5⟩
                  have d1 := cell_new _ 1 _ _ _ _ _ hb5
                  have hb5t := HBAL.out.trans (hb5.mono HBAL.out.size)
                  go_wp2
                  go_ret2
                  rw [HRES.out]
                  exact ⟨rfl, hb5t⟩
              · have m2 : (x2 == 0) = false := by rw [beq_eq_false_iff_ne]; exact z2
                have hres := HFAULT.out 1 [] (by decide) (by decide) (by simp [textS, z2])
                have HRES := Lib.hid hres
                clear hres z2 e0 e1 e2
                go_wp2
                go_ret2
                rw [HRES.out]
                exact ⟨rfl, HBAL.out⟩
            · have n3 : (x0 == 3) = false := by rw [beq_eq_false_iff_ne]; exact e3
              by_cases e4 : x0 = 4
              · subst e4
                by_cases hg : x1 ≠ [] ∧ signS x1 = x1
                · by_cases z2 : x2 = 0
                  · subst z2
                    have HSI : ∀ W, Calls Tryd.prog 36 #[.string ⟨x1.toArray⟩] W fun e w' => e = .returned (.bool true) ∧ Below W.heap.size W w' := fun W => by
                      have h := risSign_any x1 W (by omega)
                      rw [decide_eq_true hg] at h
                      exact h
                    have HSI := Lib.hid HSI
                    have hnx := HNEXT.out (x1) (by decide) (by simp [textS, hg.1, hg.2])
                    have HNX := Lib.hid hnx
                    have hXl : (x1).length ≤ 6291500 := by omega
                    have HXL := Lib.hid hXl
                    clear hnx hg e0 e1 e2 e3
                    by_cases hk0 : k = 0
                    · have g0 : decide (0 < k) = false := by rw [decide_eq_false_iff_not]; omega
                      have g0' : decide ((0 : Int) < (k : Int)) = false := by rw [decide_eq_false_iff_not]; omega
                      have hws : ws = [] := List.eq_nil_of_length_eq_zero (by have := HLEN.out; omega)
                      have HWS := Lib.hid hws
                      have hxz : (⟨(x1).toArray⟩ : ByteArray).size ≤ 6291500 := by rw [of_size]; exact HXL.out
                      clear hws hk0
                      go_wp2_with fail
                      refine (HSI.out _).mono ?_
                      rintro e w5 ⟨rfl, hb5⟩
                      have d1 := cell_new _ 1 _ _ _ _ _ hb5
                      have d2 := cell_new _ 2 _ _ _ _ _ hb5
                      have hb5t := HBAL.out.trans (hb5.mono HBAL.out.size)
                      go_wp2
                      go_roundw
                      case rel => exact ⟨k + 1, ws ++ [x1], sb ++ ⟨(x1).toArray⟩, rfl, by go_num, by omega, by rw [join_snoc, if_pos HWS.out, catL, HSB.out, HWS.out]; rfl, by rw [ByteArray.size_append]; omega, hb5t, HNX.out⟩
                      case measure => simp [intOf]; omega
                    · have g0 : decide (0 < k) = true := by rw [decide_eq_true_eq]; omega
                      have g0' : decide ((0 : Int) < (k : Int)) = true := by rw [decide_eq_true_eq]; omega
                      have hws : ws ≠ [] := by intro h; have h2 := HLEN.out; rw [h] at h2; simp at h2; omega
                      have HWS := Lib.hid hws
                      have hxz : (⟨(x1).toArray⟩ : ByteArray).size ≤ 6291500 := by rw [of_size]; exact HXL.out
                      clear hws hk0
                      go_wp2_with fail
                      refine (HSI.out _).mono ?_
                      rintro e w5 ⟨rfl, hb5⟩
                      have d1 := cell_new _ 1 _ _ _ _ _ hb5
                      have d2 := cell_new _ 2 _ _ _ _ _ hb5
                      have hb5t := HBAL.out.trans (hb5.mono HBAL.out.size)
                      go_wp2
                      go_roundw
                      case rel => exact ⟨k + 1, ws ++ [x1], sb ++ ⟨#[32]⟩ ++ ⟨(x1).toArray⟩, rfl, by go_num, by omega, by rw [join_snoc, if_neg HWS.out, catL, catL, HSB.out], by rw [ByteArray.size_append, ByteArray.size_append, lit32]; omega, hb5t, HNX.out⟩
                      case measure => simp [intOf]; omega
                  · have m2 : (x2 == 0) = false := by rw [beq_eq_false_iff_ne]; exact z2
                    have HSI : ∀ W, Calls Tryd.prog 36 #[.string ⟨x1.toArray⟩] W fun e w' => e = .returned (.bool true) ∧ Below W.heap.size W w' := fun W => by
                      have h := risSign_any x1 W (by omega)
                      rw [decide_eq_true hg] at h
                      exact h
                    have HSI := Lib.hid HSI
                    have hres := HFAULT.out 1 [] (by decide) (by decide) (by simp [textS, z2])
                    have HRES := Lib.hid hres
                    clear hres hg z2 e0 e1 e2 e3
                    go_wp2_with fail
                    refine (HSI.out _).mono ?_
                    rintro e w5 ⟨rfl, hb5⟩
                    have d1 := cell_new _ 1 _ _ _ _ _ hb5
                    have d2 := cell_new _ 2 _ _ _ _ _ hb5
                    have hb5t := HBAL.out.trans (hb5.mono HBAL.out.size)
                    go_wp2
                    go_ret2
                    rw [HRES.out]
                    exact ⟨rfl, hb5t⟩
                · have hno : ¬ (x2 = 0 ∧ x1 ≠ [] ∧ signS x1 = x1) := fun h => hg h.2
                  have HSI : ∀ W, Calls Tryd.prog 36 #[.string ⟨x1.toArray⟩] W fun e w' => e = .returned (.bool false) ∧ Below W.heap.size W w' := fun W => by
                    have h := risSign_any x1 W (by omega)
                    rw [decide_eq_false hg] at h
                    exact h
                  have HSI := Lib.hid HSI
                  have hres := HFAULT.out 1 [] (by decide) (by decide) (by unfold textS; rw [if_neg (by simp), if_neg (by simp only; exact fun h => hno h.2), if_neg (by simp), if_neg (by simp)])
                  have HRES := Lib.hid hres
                  clear hres hg hno e0 e1 e2 e3
                  go_wp2_with fail
                  refine (HSI.out _).mono ?_
                  rintro e w5 ⟨rfl, hb5⟩
                  have d1 := cell_new _ 1 _ _ _ _ _ hb5
                  have d2 := cell_new _ 2 _ _ _ _ _ hb5
                  have hb5t := HBAL.out.trans (hb5.mono HBAL.out.size)
                  go_wp2
                  go_ret2
                  rw [HRES.out]
                  exact ⟨rfl, hb5t⟩
              · have n4 : (x0 == 4) = false := by rw [beq_eq_false_iff_ne]; exact e4
                have hres := HFAULT.out 1 [] (by decide) e0 (by simp [textS, e1, e2, e3, e4])
                have HRES := Lib.hid hres
                clear hres e0 e1 e2 e3 e4
                go_wp2
                go_ret2
                rw [HRES.out]
                exact ⟨rfl, HBAL.out⟩
    · obtain rfl : k = n := by omega
      have hkl : k = l.length := HN.out.symm
      have hres : printS l = (0, Lib.join ws [32]) := by rw [hkl] at hpr; exact hpr.done
      have HRES := Lib.hid hres
      have EE := Lib.hid (bytes_of sb _ HSB.out)
      clear hres hkl hpr hlt hk
      go_wp2
      go_ret2
      rw [HRES.out]
      have e := EE.out
      exact ⟨congrArg (fun z => Ending.returned (.tuple #[.string z, .int .i64 0])) e, hb⟩
end Go.Proofs.YthogialdoikanaaDoor
