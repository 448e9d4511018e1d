/- Regions drawn are sound. -/
import Derived.Test.YthdcicadcbogmaaDkDraw2
set_option linter.all false
namespace Dk
open Go Go.RowKit
variable {P : Program} {num : Nat → FuncId} {ext : Ext}
variable {ntmps : Nat} {ops : Array Oper} {sps : List SP} {free : List (Nat × Nat)} {Ts : Nat → Slots} {Hs : Nat → Heap} {tl : List (Option (List Nat × List Nat))}

theorem getD_set {listed : Array Bool} {i j : Nat} (hi : i < listed.size) : (listed.setIfInBounds i true).getD j false = true ↔ listed.getD j false = true ∨ j = i := by
  simp only [Array.getD_eq_getD_getElem?, Array.getElem?_setIfInBounds]
  by_cases h : i = j
  · subst h; simp [hi]
  · simp [h, Ne.symm h]

theorem draw_all (hext : ExtOK P num ext) {Q : Exit → Act → World → Prop} (hd : ∀ o ∈ ops.toList, ∀ d, o.dst = some d → d < ntmps) (hok : okOpers P num ntmps ops ops.toList sps = true) (hlow : okLow 0 ops.toList = true)
    (hst : ∀ i sp, sps[i]? = some sp → step1 ext sp (Ts i) (Hs i) = some (Ts (i + 1), Hs (i + 1)) ∧ tl.getD i none = if wants (Ts i) sp.g then touch ext (Ts i) sp.op else some ([], []))
    (hT : Trace sps.length Ts Hs (dstOf sps) (fun i => tl.getD i none) (namesAt sps) (quietAt sps) (befOf ops)) {β0 : Bet} {w0 : World} :
    ∀ (fuel : Nat) (listed : Array Bool) (β : Bet) (hf : Nat → Option Blk) (a : Act) (w : World), listed.size = ops.size → listed.toList.count false ≤ fuel →
      (∀ j o, ops.toList[j]? = some o → listed.getD j false = true → ∀ i ∈ aftOf o, listed.getD i false = true) →
      DInv num sps.length Ts Hs (dstOf sps) (fun i => tl.getD i none) ntmps (fun i => listed.getD i false) β0 w0 β hf a w →
      (∀ (D : Nat → Bool) β hf a w, (∀ i, i < sps.length → D i = true) → DInv num sps.length Ts Hs (dstOf sps) (fun i => tl.getD i none) ntmps D β0 w0 β hf a w → Q .normal a w) →
      wpAny P .any ops Q fuel listed a w := by
  obtain ⟨hlen, hop⟩ := okOpers_spec hok
  have hlen' : ops.size = sps.length := by simpa using hlen
  intro fuel
  induction fuel with
  | zero =>
    intro listed β hf a w hsz hc hcl hI hQ
    have hall : ∀ i, i < ops.size → listed.getD i false = true := fun i hi => by
      refine Classical.byContradiction fun hn => ?_
      have : false ∈ listed.toList := by
        have h1 := Array.getElem?_eq_getElem (show i < listed.size by omega)
        simp only [Array.getD_eq_getD_getElem?, h1, Option.getD_some] at hn
        have h2 : listed[i] = false := by simpa using hn
        rw [← h2]
        exact Array.mem_toList_iff.2 (Array.getElem_mem _)
      have := List.count_pos_iff.2 this
      omega
    refine ⟨?_, hQ _ β hf a w (fun i hi => hall i (by omega)) hI⟩
    cases hr : Region.ready .any ops listed with
    | nil => rfl
    | cons i l =>
      obtain ⟨h1, h2, _⟩ := ready_mem (ops := ops) (listed := listed) (i := i) (by rw [hr]; simp)
      have := hall i h1
      simp only [Array.getD_eq_getD_getElem?, Array.getElem?_eq_getElem (show i < listed.size by omega), Option.getD_some] at h2 this
      rw [this] at h2; cases h2
  | succ fuel ih =>
    intro listed β hf a w hsz hc hcl hI hQ
    refine ⟨fun h0 => hQ _ β hf a w (fun i hi => all_listed hlow hsz h0 i (by omega)) hI, fun i hi => ?_⟩
    obtain ⟨h1, h2, o, ho, h3⟩ := ready_mem hi
    have hiL : i < listed.size := by omega
    have hin : i < sps.length := by omega
    have hD : listed.getD i false = false := by
      simp only [Array.getD_eq_getD_getElem?, Array.getElem?_eq_getElem hiL, Option.getD_some] at h2 ⊢
      exact h2
    have hoL : ops.toList[i]? = some o := by simpa using ho
    have hsp := List.getElem?_eq_getElem hin
    generalize sps[i] = sp at hsp
    obtain ⟨hdst, hdlt, hg, hopp⟩ := okOper_some (hop i o sp hoL hsp)
    obtain ⟨hs1, hs2⟩ := hst i sp hsp
    obtain ⟨v, eff, hone⟩ := oneF hs1
    rw [← hs2] at hone
    have hB1 : ∀ j, i < j → j < sps.length → befOf ops i j → listed.getD j false = true → listed.getD i false = true := fun j hij hj hb hDj => by
      have hoj := List.getElem?_eq_getElem (show j < ops.toList.length by omega)
      exact preds_closed (D := fun i => listed.getD i false = true) hcl hb hoj (hcl j _ hoj hDj)
    have hB2 : ∀ j, j < i → befOf ops j i → listed.getD j false = true := fun j hij hb =>
      preds_closed (D := fun i => listed.getD i false = true) hcl hb hoL h3
    have hslot : ∀ t ∈ namesOf sp, VR num β hf w ((Ts i).get t) (a.tmps.getD t undef) := fun t ht =>
      hI.slot hT hin hD hB1 hB2 (by simp only [namesAt, hsp]; exact ht)
    have hdd : dstOf sps i = sp.dst := by simp [dstOf, hsp]
    have hD' : ∀ j, j < sps.length → ((listed.setIfInBounds i true).getD j false = true ↔ listed.getD j false = true ∨ j = i) := fun j _ => getD_set hiL
    have hcl' : ∀ j o, ops.toList[j]? = some o → (listed.setIfInBounds i true).getD j false = true → ∀ k ∈ aftOf o, (listed.setIfInBounds i true).getD k false = true := fun j o' ho' hj k hk => by
      refine (getD_set hiL).2 (.inl ?_)
      rcases (getD_set hiL).1 hj with h | h
      · exact hcl j o' ho' h k hk
      · subst h; rw [hoL] at ho'; cases ho'; exact h3 k hk
    have hc' : (listed.setIfInBounds i true).toList.count false ≤ fuel := by
      have hlt : i < listed.toList.length := by simpa using hiL
      have hget : listed.toList[i] = false := by
        simp only [Array.getD_eq_getD_getElem?, Array.getElem?_eq_getElem hiL, Option.getD_some] at h2
        simpa using h2
      rw [Array.toList_setIfInBounds, List.count_set hlt]
      have hpos : 0 < listed.toList.count false := List.count_pos_iff.2 (by rw [← hget]; exact List.getElem_mem _)
      rw [hget]
      show listed.toList.count false - 1 + 0 ≤ fuel
      omega
    have hsz' : (listed.setIfInBounds i true).size = ops.size := by simpa using hsz
    have htouch : ∀ R W k, tl.getD i none = some (R, W) → k ∈ R ∨ k ∈ W → β k ≠ none := by
      intro R W k ht hk
      rcases hone.or with ⟨hw, hs3, htt⟩ | ⟨hw, _, _⟩
      · rw [htt] at ht
        exact touch_dom (f := fun t => a.tmps.getD t undef) (fun t ht1 => hslot t (List.mem_append.2 (.inl ht1))) ht hk
      · rw [hs2, hw] at ht
        simp at ht
        obtain ⟨rfl, rfl⟩ := ht
        rcases hk with hk | hk <;> cases hk
    have hww := wants_ok (β := β) (hf := hf) (w := w) (T := Ts i) (a := a) (o := o) hg (fun t b e => ⟨hslot t (List.mem_append.2 (.inr (by rw [e]; simp))), by rw [hI.size]; exact okG_lt hd hg t b e⟩) hone.known
    show wpOp P ops Q i _ a w
    unfold wpOp
    simp only [ho]
    rw [hww]
    rcases hone.or with ⟨hw, hs3, htt⟩ | ⟨hw, hv, he⟩
    · rw [if_pos hw]
      refine .inl ?_
      have hag : AgreeT β hf (Hs i) (touch ext (Ts i) sp.op) := by
        have hseen : ∀ k, β k ≠ none → (∀ R W, tl.getD i none = some (R, W) → k ∈ R ∨ k ∈ W) → hf k = (Hs i)[k]? := fun k hk h => hI.seen hT hin hD hB1 hB2 hk h
        rw [htt] at hseen
        cases ht : touch ext (Ts i) sp.op with
        | none => exact fun k b hb => hseen k (by rw [hb]; simp) fun R W e => by rw [ht] at e; cases e
        | some p =>
          obtain ⟨R, W⟩ := p
          exact fun k hk b hb => hseen k (by rw [hb]; simp) fun R' W' e => by rw [ht] at e; cases e; exact List.mem_append.1 hk
      refine step_sound hext rfl hopp (fun t ht => hslot t (List.mem_append.2 (.inl ht))) hI.hr hag rfl ?_ hs3 _ Q ?_
      · rintro ⟨b, hb⟩
        refine Classical.byContradiction fun h => ?_
        have := hI.from_done hT hin h (Nat.le_refl _) (by rw [hone.heap, hb]; simp [Eff.on])
        rw [hD] at this; cases this
      · intro r β1 w1 hg1 hr1 hv1 hn1
        rw [hdst, ← hdd]
        exact ih _ β1 _ _ w1 hsz' hc' hcl' (hI.next hT hin hD hB1 hB2 hD' (by rw [hdd]; exact hone.slots) hone.heap hone.put hone.all hone.frz htouch (by rw [hdd]; exact hdlt) hg1 hr1 hv1 hn1) hQ
    · rw [if_neg (by rw [hw]; simp)]
      rw [hdst, ← hdd]
      exact ih _ β _ _ w hsz' hc' hcl' (hI.next (eff := .none) hT hin hD hB1 hB2 hD' (by rw [hdd, ← hv]; exact hone.slots) (by rw [← he]; exact hone.heap) (by rw [← he]; exact hone.put) (by rw [← he]; exact hone.all) (by rw [← he]; exact hone.frz) htouch (by rw [hdd]; exact hdlt)
        (Goes.refl _ _ _) hI.hr undef_vr (fun k hk => .inl hk)) hQ

theorem draw_sound {id : Nat} (hext : ExtOK P num ext) (hm : P.follows .mixedOrders = true) {Q : Exit → Act → World → Prop} (hd : ∀ o ∈ ops.toList, ∀ d, o.dst = some d → d < ntmps) (hok : okOpers P num ntmps ops ops.toList sps = true)
    (hdr : okDraw ops.toList sps free = true) {T T' : Slots} {H H' : Heap} {β : Bet} {a : Act} {w : World} (hs : steps ext sps T H = some (T', H')) (hfr : freeOk (touches ext sps T H) free = true) (hst : St num β T H ntmps a w)
    (hq : ∀ β' a' w', Goes β (fun k => H[k]?) w β' (fun k => H'[k]?) w' → St num β' T' H' ntmps a' w' → (∀ k, β' k ≠ none → β k ≠ none ∨ (H.length ≤ k ∧ k < H'.length)) → H.length ≤ H'.length → Q .normal a' w') :
    (Code.region id ops true).wp P Q a w := by
  refine wp_region_any hm ?_
  obtain ⟨Ts, Hs, e1, e2, e3, e4, e5⟩ := steps_trace sps T H T' H' hs
  have hT := trace_of hdr e5 hfr
  have hg0 : Goes β (fun k => H[k]?) w β (fun k => (Hs 0)[k]?) { w with drawn := w.drawn + 1 } := Goes.here rfl rfl rfl rfl fun k b hb => by rw [e2]
  have hdr1 := hdr
  simp only [okDraw, Bool.and_eq_true] at hdr1
  have hno : ∀ i, (Array.replicate ops.size false).getD i false = false := fun i => by
    simp [Array.getD_eq_getD_getElem?, Array.getElem?_replicate]
    split <;> rfl
  refine draw_all hext hd hok hdr1.1 e5 hT (β0 := β) (w0 := { w with drawn := w.drawn + 1 }) ops.size _ β (fun k => (Hs 0)[k]?) a _ (by simp) (by simp) (fun j o _ h => by rw [hno] at h; cases h) ?_ ?_
  · refine ⟨Goes.refl _ _ _, fun k hk => .inl hk, hst.hr.here hg0 rfl fun k b hb => by rw [e2], fun k hk m hm c1 c2 => ?_, fun k hk => ?_, fun j hj hDj => ?_, fun t m hm c1 c2 => ?_, hst.size, hst.defers⟩
    · refine (Trace.stay (k := k) (Nat.zero_le m) fun j h1 h2 => ?_).symm
      refine Classical.byContradiction fun h => ?_
      have := c1 j h2 h
      simp only [hno] at this; cases this
    · refine .inl (Nat.lt_of_not_le fun h => hk ?_)
      exact hst.fresh (by rw [← e2]; exact h)
    · simp only [hno] at hDj; cases hDj
    · rw [hT.slot (t := t) (Nat.zero_le m) hm fun j h1 h2 hd => ?_, e1]
      · exact hg0.vr (hst.sl t)
      · have := c1 j h2 hd
        simp only [hno] at this; cases this
  · intro D β1 hf1 a1 w1 hD hI
    have hh : ∀ k b, β1 k = some b → H'[k]? = hf1 k := fun k b hb => by
      rw [hI.heap k (by rw [hb]; simp) sps.length (Nat.le_refl _) (fun j hj _ => hD j hj) (fun j h1 h2 => by omega), e4]
    have hgg : Goes β1 hf1 w1 β1 (fun k => H'[k]?) w1 := Goes.here rfl rfl rfl rfl hh
    refine hq β1 a1 w1 ((hg0.trans hI.goes).trans hgg) ⟨hI.hr.here hgg rfl hh, fun t => ?_, hI.size, hI.defers⟩ (fun k hk => ?_) ?_
    · have := hI.sl t sps.length (Nat.le_refl _) (fun j hj _ => hD j hj) (fun j h1 h2 => by omega)
      rw [e3] at this
      exact hgg.vr this
    · rcases hI.dom0 k hk with h | h
      · exact .inl h
      · refine .inr ⟨by rw [← e2]; exact h, ?_⟩
        rw [← e4]
        rcases hI.dom k hk with h2 | ⟨j, hj, _, _, h4⟩
        · omega
        · exact Nat.lt_of_lt_of_le h4 (hT.mono (by omega) (Nat.le_refl _))
    · rw [← e2, ← e4]; exact hT.mono (Nat.zero_le _) (Nat.le_refl _)
end Dk
