/- One operation of loaded code does what the abstract machine's does: slices cut, texts and bytes, literals. -/
import Derived.Test.YthdcicadcbogmaaDkOps6
set_option linter.all false
namespace Dk
open Go
variable {P : Program} {num : Nat → FuncId} {β : Bet} {hf : Nat → Option Blk} {w : World} {T : Slots} {a : Act} {H : Heap} {o : Oper} {k0 : Nat} {ext : Ext} {v : AV} {eff : Eff}

theorem PR.cut {X : Nat → Prop} {sz : Nat} {l : List PV} {A : Option Addr} {n c : Nat} {lo hi : Nat} (h : PR num w X (.lst sz l) (.slice A n c)) (h1 : lo ≤ hi) (h2 : hi ≤ l.length) :
    PR num w X (.lst sz ((l.take hi).drop lo)) (.slice (if c = lo then A else A.map (·.add (lo * sz))) (hi - lo) (c - lo)) := by
  cases h with
  | lst A b o vals hn hA hX hc hpos hsz hcell hrel =>
    have hget : ∀ i (e : PV), ((l.take hi).drop lo)[i]? = some e → l[lo + i]? = some e ∧ lo + i < hi := fun i e h => by
      rw [List.getElem?_drop, List.getElem?_take] at h
      split at h
      · rename_i hlt; exact ⟨h, hlt⟩
      · cases h
    refine .lst _ b (o + lo * sz) (fun i j => vals (lo + i) j) (by simp; omega) (fun hne => ?_) (fun hne => hX (fun e => by subst e; simp at hne)) (by omega) (fun hne => hpos (fun e => by subst e; simp at hne))
      (fun i e hi => hsz _ e (hget i e hi).1) (fun i e j p hi hj => ?_) (fun i e j p hi hj => hrel _ e j p (hget i e hi).1 hj)
    · have hl : l ≠ [] := fun e => by subst e; simp at hne
      have hne2 : lo < hi := by
        rcases Nat.lt_or_ge lo hi with h | h
        · exact h
        · exfalso; apply hne; apply List.eq_nil_of_length_eq_zero; simp; omega
      rw [if_neg (by omega), hA hl]
      simp [addr_add]
    · have := hcell _ e j p (hget i e hi).1 hj
      refine ⟨this.1, ?_⟩
      rw [← this.2, Nat.add_mul]
      congr 2
      omega

theorem sound_slice {t : TypeId} {x : Operand} {lo hi : Option Operand} {x' : SX} {lo' hi' : Option SX} {esz : Nat} (ho : o.op = .slice t x lo hi none) (hM : elemIs P t (szIs P · esz) = true)
    (hx : VR num β hf w (x'.ev T) (a.eval x)) (hlo : okXo num lo lo' = true) (hhi : okXo num hi hi' = true) (hT1 : ∀ z, lo' = some z → TR num β hf w T a z.slots) (hT2 : ∀ z, hi' = some z → TR num β hf w T a z.slots) (hH : HR num β hf w) (hA : Agree β hf H (refs (x'.ev T)))
    (hs : step ext T H (.slice esz x' lo' hi') = some (v, eff)) : Cont P num o a β hf w k0 v eff := by
  obtain ⟨e, hu, he⟩ := elemIs_some hM
  obtain ⟨ie, hie, hesz⟩ := szIs_some he
  simp only [step] at hs
  split at hs
  · cases hs
  · rename_i n hn
    split at hs
    · rename_i l h hl hh
      split at hs
      · rename_i hb
        obtain ⟨A, c, hv, hnc⟩ := lenOf_vr hH hA hx hn
        have b1 := boundOf_run hlo hT1 hl
        have b2 := boundOf_run hhi hT2 hh
        have hr := run_sliceBounds (P := P) (w := w) (isS := true) (len := n) (cap := c) (l := l) (h := h) (lo := lo.map a.eval) (hi := hi.map a.eval)
          (by rcases b1 with ⟨rfl, rfl⟩ | ⟨x', k, rfl, e⟩; exact .inl ⟨rfl, rfl⟩; exact .inr ⟨k, by simp [e]⟩)
          (by rcases b2 with ⟨rfl, rfl⟩ | ⟨x', k, rfl, e⟩; exact .inl ⟨rfl, rfl⟩; exact .inr ⟨k, by simp [e]⟩) hb.1 hb.2 hnc
        have hrun : (execOp a.eval o).run P w = .ok (.value (.slice (if c = l then A else A.map (·.add (l * ie.size))) (h - l) (c - l))) w := by
          simp [execOp, ho, hv, Instr.sliceAt, run_underlying hu, Instr.slice, hr, Go.sizeOf, typeInfo, hie]
        split at hs
        · rename_i sz es hp
          split at hs
          · rename_i hsz
            simp at hs; obtain ⟨rfl, rfl⟩ := hs
            rw [hp] at hx hn
            simp [lenOf] at hn
            cases hx with | pv hx =>
            rw [hv] at hx
            refine cont_value hrun (.pv ?_) hH
            have hcut := hx.cut (lo := l) (hi := h) hb.1 (by omega)
            rw [hesz, ← hsz]
            exact hcut
          · cases hs
        · rename_i hp
          simp at hs; obtain ⟨rfl, rfl⟩ := hs
          rw [hp] at hx hn
          simp [lenOf] at hn; subst hn
          cases hx with | pv hx =>
          rw [hv] at hx
          cases hx
          have hl0 : l = 0 := by omega
          have hh0 : h = 0 := by omega
          subst hl0; subst hh0
          exact cont_value hrun (.pv (by simpa using PR.nils)) hH
        · rename_i hp
          simp at hs; obtain ⟨rfl, rfl⟩ := hs
          rw [hp] at hx hn
          simp [lenOf] at hn; subst hn
          cases hx with | pv hx =>
          rw [hv] at hx
          cases hx
          have hl0 : l = 0 := by omega
          have hh0 : h = 0 := by omega
          subst hl0; subst hh0
          exact cont_value hrun (.pv (by simpa using PR.e0 A)) hH
        · cases hs
      · cases hs
    · cases hs

theorem sound_sliceArr {t : TypeId} {x : Operand} {x' : SX} {cnt esz : Nat} (ho : o.op = .slice t x none none none)
    (hM : (match P.underlying t with | some (.array n e) => (n == cnt) && szIs P e esz && decide (0 < n) | _ => false) = true)
    (hx : VR num β hf w (x'.ev T) (a.eval x)) (hH : HR num β hf w) (hA : Agree β hf H (refs (x'.ev T)))
    (hs : step ext T H (.sliceA cnt esz x') = some (v, eff)) : Cont P num o a β hf w k0 v eff := by
  split at hM
  · rename_i n e hu
    simp only [Bool.and_eq_true, beq_iff_eq, decide_eq_true_eq] at hM
    obtain ⟨⟨rfl, h2⟩, h3⟩ := hM
    obtain ⟨ie, hie, hsz⟩ := szIs_some h2
    simp only [step] at hs
    split at hs
    · rename_i k len i off hp
      simp only [Option.map_eq_some_iff, Prod.mk.injEq] at hs
      obtain ⟨bk, hg, rfl, rfl⟩ := hs
      rw [hp] at hx hA
      obtain ⟨b, hb, hk, hv, hB⟩ := ptr_at hH hA hx hg
      have hl := (good_some hg).2
      refine cont_value (r := .slice (some ⟨b, i * bk.sz + off, none⟩) n n) ?_ (.asl b bk hb hk (by omega) rfl (fun _ => rfl)) hH
      have hr := run_sliceBounds (P := P) (w := w) (isS := false) (len := n) (cap := n) (l := 0) (h := n) (lo := none) (hi := none) (.inl ⟨rfl, rfl⟩) (.inl ⟨rfl, rfl⟩) (Nat.zero_le _) (Nat.le_refl _) (Nat.le_refl _)
      have hn0 : n ≠ 0 := by omega
      simp [execOp, ho, hv, Instr.sliceAt, run_underlying hu, Instr.sureAddr, hr, Go.sizeOf, typeInfo, hie, hn0, addr_add]
    · cases hs
  · cases hM

theorem cont_grow {r : Value} {v : AV} {w' : World} (hr : (execOp a.eval o).run P w = .ok (.value r) w') (hos : w'.os = w.os) (htape : w'.tape = w.tape) (hout : w'.output = w.output) (hsize : w.heap.size ≤ w'.heap.size)
    (hold : ∀ c, c < w.heap.size → w'.heap[c]? = w.heap[c]?) (hH : HR num β hf w) (hv : Goes β hf w β hf w' → VR num β hf w' v r) : Cont P num o a β hf w k0 v .none := by
  have hlt : ∀ k b, β k = some b → b < w.heap.size := fun k b h => by
    obtain ⟨bk', _, hB⟩ := hH.blk k b h
    obtain ⟨cs', T', h1, _⟩ := hB.cells
    exact blk_lt h1
  have hgo : Goes β hf w β hf w' := ⟨hos, htape, hout, hsize, fun b hb _ => hold b hb, fun k b h => ⟨b, h⟩, fun k b h _ => h, fun k b bk _ h => ⟨bk, h, rfl, Nat.le_refl _, id⟩, fun k b _ _ h _ _ _ => h,
    fun k b cs T hk _ hc => ⟨cs, T, by rw [hold b (hlt k b hk)]; exact hc, Nat.le_refl _⟩, rfl⟩
  intro K Q hK
  unfold Oper.wp
  rw [hr]
  refine hK r β w' hgo ⟨fun k b hk => ?_, hH.inj, fun b hb => hH.base b (by omega), hH.own⟩ (hv hgo) (fun k hk => .inl hk)
  obtain ⟨bk, h1, hB⟩ := hH.blk k b hk
  obtain ⟨cs, TT, h2, h3, h4⟩ := hB.cells
  refine ⟨bk, h1, ⟨cs, TT, by rw [hold b (hlt k b hk)]; exact h2, h3, fun i e he => ?_⟩⟩
  obtain ⟨f1, f2, f3⟩ := h4 i e he
  exact ⟨f1, f2, fun j c hj => let ⟨d1, z, d2, d3, d4⟩ := f3 j c hj; ⟨d1, z, d2, d3, hgo.vr d4⟩⟩

theorem sound_convBS {s t : TypeId} {x : Operand} {x' : SX} (ho : o.op = .convert s t x) (h1 : isStringT P s = true) (h2 : elemIs P t (isIntT P · .u8) = true) (hx : VR num β hf w (x'.ev T) (a.eval x)) (hH : HR num β hf w)
    (hs : step ext T H (.convBS x') = some (v, eff)) : Cont P num o a β hf w k0 v eff := by
  have hu : P.underlying s = some .string := by
    unfold isStringT at h1; split at h1
    · rename_i h; exact h
    · cases h1
  obtain ⟨e, ht, he⟩ := elemIs_some h2
  have hue : P.underlying e = some (.int .u8) := by
    unfold isIntT at he; split at he
    · rename_i k' h; simp at he; subst he; exact h
    · cases he
  simp only [step] at hs
  split at hs
  · rename_i str hp
    simp at hs; obtain ⟨rfl, rfl⟩ := hs
    have h3 := VR.pv_str hx hp
    have hrun := Lib.run_convert_string_bytes w s t e str hu ht hue
    refine cont_grow (w' := Lib.bytesWorld w e str) (r := .slice (some ⟨w.heap.size, 0, none⟩) str.size (grownCap w str.size 0 e)) ?_ rfl rfl rfl (by rw [Lib.bytesWorld_size]; omega) (fun c hc => Lib.bytesWorld_at_old w e str c hc) hH (fun hgo => ?_)
    · simp [execOp, ho, h3, hrun]
    · have hb : ∀ k, β k ≠ some w.heap.size := fun k h => by
        obtain ⟨bk', _, hB⟩ := hH.blk k _ h
        obtain ⟨cs', T', h1, _⟩ := hB.cells
        have := blk_lt h1; omega
      have hlen : str.data.toList.length = str.size := by rw [Array.length_toList]; rfl
      refine .pv (.lst _ w.heap.size 0 (fun i _ => .int .u8 (str.data.toList.getD i 0).toNat) (by simp [hlen]) (fun _ => rfl) (fun _ => ⟨hH.base _ (Nat.le_refl _), fun k hk => absurd hk (hb k)⟩) ?_ (fun _ => by omega) ?_ ?_ ?_)
      · simp only [grownCap, Question.cut]; omega
      · intro i p hi
        simp only [List.getElem?_map, Option.map_eq_some_iff] at hi
        obtain ⟨b, _, rfl⟩ := hi
        exact ⟨rfl, rfl⟩
      · intro i p j q hi hj
        simp only [List.getElem?_map, Option.map_eq_some_iff] at hi
        obtain ⟨b, hb2, rfl⟩ := hi
        have hlt : i < str.size := by rw [← hlen]; exact (List.getElem?_eq_some_iff.1 hb2).1
        cases j with
        | zero =>
          simp [PV.cells] at hj; subst hj
          exact ⟨rfl, by simpa using Lib.bytesWorld_cell w e str i hlt⟩
        | succ j => simp [PV.cells] at hj
      · intro i p j q hi hj
        simp only [List.getElem?_map, Option.map_eq_some_iff] at hi
        obtain ⟨b, hb2, rfl⟩ := hi
        cases j with
        | zero =>
          simp [PV.cells] at hj; subst hj
          have : str.data.toList.getD i 0 = b := by simp [List.getD, hb2]
          rw [this]; exact .int _ _
        | succ j => simp [PV.cells] at hj
  · cases hs

/-- The elements of a slice's value, where they lie. -/
theorem elems_at {sz : Nat} {av : AV} {u : Value} {es : List AV} (hpos : 0 < sz) (hH : HR num β hf w) (hA : Agree β hf H (refs av)) (hx : VR num β hf w av u) (h : elems H sz av = some es) :
    ∃ A c, u = .slice A es.length c ∧ es.length ≤ c ∧ (es ≠ [] → ∃ b o, A = some ⟨b, o, none⟩ ∧ b < w.heap.size ∧ (∀ k len, av = .sl k len → β k = some b ∧ o = 0) ∧ ((∀ k len, av ≠ .sl k len) → Xof β hf b) ∧
      ∀ (i : Nat) (e : AV), es[i]? = some e → e.okc = true ∧ e.cells.length = sz ∧ At num β hf w b (o + i * sz) e.cells) := by
  cases av with
  | pv p =>
    cases hx with | pv hx =>
    cases p <;> simp [elems] at h
    · subst h; cases hx; exact ⟨none, 0, rfl, by simp, fun h => absurd rfl h⟩
    · subst h; cases hx with | e0 A => exact ⟨A, 0, rfl, by simp, fun h => absurd rfl h⟩
    · rename_i s l
      obtain ⟨rfl, rfl⟩ := h
      cases hx with
      | @lst sz' l' n cap A b c vals hn hAA hX hc hp hsz hcell hrel =>
        refine ⟨A, cap, by simp [hn], by simp; omega, fun hne => ?_⟩
        have hl : l ≠ [] := by simpa using hne
        have hb : b < w.heap.size := by
          match l, hl with
          | e :: l, _ =>
            have h0 := (hsz 0 e rfl).2
            have hc0 : e.cells[0]? = some (e.cells[0]'(by omega)) := List.getElem?_eq_getElem _
            exact cell_lt (hcell 0 e 0 _ rfl hc0).2
        refine ⟨b, c, hAA hl, hb, fun k len h => (by cases h), fun _ => hX hl, fun i e he => ?_⟩
        simp only [List.getElem?_map, Option.map_eq_some_iff] at he
        obtain ⟨q, hq, rfl⟩ := he
        obtain ⟨h1, h2⟩ := hsz i q hq
        refine ⟨by simpa [AV.okc] using h1, by simpa [AV.cells] using h2, fun j cc hj => ?_⟩
        simp only [AV.cells, List.getElem?_map, Option.map_eq_some_iff] at hj
        obtain ⟨z, hz, rfl⟩ := hj
        obtain ⟨h3, h4⟩ := hcell i q j z hq hz
        exact ⟨h3, vals i j, h4, (hrel i q j z hq hz).one_cell h3, .pv (hrel i q j z hq hz)⟩
  | sl k len =>
    simp only [elems] at h
    split at h
    · rename_i bk hg
      split at h
      · rename_i hsz
        injection h with h; subst h
        obtain ⟨b, cap, cs, TT, hb, hk, hv, hcap, hcs, hcc, hB⟩ := sl_at hH hA hx hg
        have hl := (good_some hg).2
        refine ⟨some ⟨b, 0, none⟩, cap, by rw [hl]; exact hv, by omega, fun _ => ⟨b, 0, rfl, blk_lt hcs, fun k' len' h => (by cases h; exact ⟨hb, rfl⟩), fun h => absurd rfl (h k len), fun i e he => ?_⟩⟩
        obtain ⟨h1, h2, h3⟩ := hB.at he
        rw [hsz] at h2 h3
        exact ⟨h1, h2, by rw [Nat.zero_add]; exact h3⟩
      · cases h
    · cases h
  | _ => simp [elems] at h
end Dk
