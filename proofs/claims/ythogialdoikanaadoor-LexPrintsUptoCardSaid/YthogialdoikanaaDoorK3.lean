/- a law's post: what came in reads as it did, where the call has written into new blocks alone. -/
import Derived.Test.YthogialdoikanaaDoorK0
import Derived.Carry
import Derived.SizedLaws
namespace Go.Proofs.YthogialdoikanaaDoor
open Go.ChangeShapes Go.WideShapes Go.ChangeAt Go.RowKit

theorem laidOut : laidOutB Tryd.prog = true := by kernel_rfl
noncomputable def readT (t : TypeId) : Bool := Tryd.prog.readableRec t && decide (t < Tryd.prog.types.size)
section
variable {H : Type} {enc : TypeId × Value → H}
theorem trodAll_stays {W W' : World} {sp : Nat → Bool} : ∀ {ts : List TypeId} {vs : List Value} {ds : List (DataW H)} {ps : List MemPlace}, (∀ t ∈ ts, readT t = true) →
    DataW.TrodAll enc Tryd.prog W 0 (fun _ => true) true ts vs ds ps → (∀ p ∈ ps, W.sameAt W' p) → (∀ p ∈ ps, sp p.block = true) → DataW.TrodAll enc Tryd.prog W' 0 sp true ts vs ds ps
  | [], [], [], _, _, h, _, _ => h
  | t :: _, _ :: _, _ :: _, _, hT, ⟨p, q, h1, h2, e⟩, hm, hs => by
    have ht := hT t (List.mem_cons.2 (Or.inl rfl))
    unfold readT at ht
    simp only [Bool.and_eq_true, decide_eq_true_eq] at ht
    exact ⟨p, q, WideElems.Trod_stays laidOut ht.1 ht.2 h1 (fun x hx => hm x (by rw [e]; exact List.mem_append_left _ hx)) (fun x hx => hs x (by rw [e]; exact List.mem_append_left _ hx)),
      trodAll_stays (fun u hu => hT u (List.mem_cons.2 (Or.inr hu))) h2 (fun x hx => hm x (by rw [e]; exact List.mem_append_right _ hx)) (fun x hx => hs x (by rw [e]; exact List.mem_append_right _ hx)), e⟩

set_option maxRecDepth 100000 in
theorem law_post {f : Func} {s : ChangeSpec} {W W' : World} {args : Array Value} {ds gs : List (DataW H)} {before : List MemPlace} (hr : f.resultTypes = #[4]) (hvars : s.vars = [])
    (hts : f.params.toList.all readT = true) (hW : DataW.Whole enc Tryd.prog f.params.toList s.vars false W args.toList ds gs before)
    (hfn : gs = [] → s.fn H (ds ++ gs) = { results := [.lit (.bool true)], args := ds }) (hb : Below W.heap.size W W') : s.post enc Tryd.prog f false true false false W args (.bool true) W' := by
  have hW' := hW
  obtain ⟨p, q, hA, hV, rfl, hfz, hnd⟩ := hW
  rw [hvars] at hV
  obtain ⟨rfl, rfl⟩ := trodVars_none hV
  have hf := hfn rfl
  simp only [List.append_nil] at hW' hf
  have hlt : ∀ x ∈ p, x.block < W.heap.size := fun x hx => by have := hW'.lt x hx; simpa using this
  have key : ∀ sp : Nat → Bool, (∀ x ∈ p, sp x.block = true) → DataW.TrodAll enc Tryd.prog W' 0 sp true f.params.toList args.toList ds p := fun sp hs =>
    trodAll_stays (fun t ht => List.all_eq_true.1 hts t ht) hA (fun x hx => hb.same (hlt x hx)) hs
  refine post_of_below (pa := p) (pv := []) hW' (fun b sp hd => ?_) (fun sp hs => ?_) (fun sp hs => ?_) (by simp) hb (ok_one hr rfl (okWide_bool_mk Tryd.underlying4 _))
  · simp only [List.append_nil]
    rw [hf, hr]
    exact trodAll_cons_mk (shut_bool Tryd.underlying4 _) trodAll_mk0
  · simp only [List.append_nil]
    rw [hf]
    exact key sp hs
  · rw [hvars]
    simp only [List.append_nil]
    rw [hf]
    rfl
end
end Go.Proofs.YthogialdoikanaaDoor
