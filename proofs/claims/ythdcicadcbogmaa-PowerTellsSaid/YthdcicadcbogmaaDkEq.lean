/- '==' of structs and arrays of numbers, texts and bools, cell by cell. -/
import Derived.Test.YthdcicadcbogmaaDkOps5
import Derived.DeepKeys
set_option linter.all false
namespace Dk
open Go
variable {P : Program} {w : World}

/-- a number's, text's or bool's value -/
def scv : PV → Option Value
  | .int k n => some (.int k n)
  | .str s => some (.string s)
  | .bool b => some (.bool b)
  | _ => none
def Flat (vs : List Value) (l : List PV) : Prop := vs.length = l.length ∧ ∀ (i : Nat) (p : PV) (v : Value), l[i]? = some p → vs[i]? = some v → ∀ u, scv p = some u → v = u

theorem Flat.drop {vs : List Value} {l : List PV} (h : Flat vs l) (n : Nat) : Flat (vs.drop n) (l.drop n) :=
  ⟨by simp [h.1], fun i p v hp hv => h.2 (n + i) p v (by simpa using hp) (by simpa using hv)⟩
theorem Flat.take {vs : List Value} {l : List PV} (h : Flat vs l) (n : Nat) : Flat (vs.take n) (l.take n) :=
  ⟨by simp [h.1], fun i p v hp hv => by
    rw [List.getElem?_take] at hp hv
    split at hp
    · rename_i hi; rw [if_pos hi] at hv; exact h.2 i p v hp hv
    · cases hp⟩

theorem eqCs_split : ∀ (n : Nat) (l m : List PV) (b : Bool), eqCs l m = some b → n ≤ l.length → l.length = m.length → ∃ b1, eqCs (l.take n) (m.take n) = some b1 ∧ (b1 = true → eqCs (l.drop n) (m.drop n) = some b) ∧ (b1 = false → b = false)
  | 0, l, m, b, h, _, _ => ⟨true, by simp [eqCs], fun _ => by simpa using h, fun h => by cases h⟩
  | n + 1, [], _, _, _, h, _ => by simp at h
  | n + 1, a :: l, [], _, _, _, h => by simp at h
  | n + 1, a :: l, c :: m, b, h, hn, hl => by
    simp only [eqCs] at h
    cases he : eqC a c with
    | none => rw [he] at h; cases h
    | some t =>
      rw [he] at h
      cases t with
      | true =>
        obtain ⟨b1, h1, h2, h3⟩ := eqCs_split n l m b h (by simpa using hn) (by simpa using hl)
        exact ⟨b1, by simp [eqCs, he, h1], fun e => by simpa using h2 e, h3⟩
      | false =>
        injection h with h; subst h
        exact ⟨false, by simp [eqCs, he], fun e => by (cases e), fun _ => rfl⟩

/-- A value of a type: an aggregate of a row's, one cell of another one's. -/
def Shape (P : Program) (t : TypeId) (v : Value) (cs : List Value) : Prop :=
  (aggT P t = true ∧ v = .agg cs.toArray) ∨ (aggT P t = false ∧ cs = [v])

theorem flat_info {m : Nat} {t : TypeId} {ks : List Nat} (h : kindsT P m t = some ks) : ∃ d i, P.underlying t = some d ∧ P.info? t = some i ∧ (aggT P t = false → i.size = 1) := by
  cases m with
  | zero => simp [kindsT] at h
  | succ m =>
    unfold kindsT at h
    split at h
    · rename_i hu; split at h
      · rename_i hz; obtain ⟨i, hi, hs⟩ := szIs_some hz; exact ⟨_, i, hu, hi, fun _ => hs⟩
      · cases h
    · rename_i k hu; split at h
      · rename_i hz; obtain ⟨i, hi, hs⟩ := szIs_some hz; exact ⟨_, i, hu, hi, fun _ => hs⟩
      · cases h
    · rename_i hu; split at h
      · rename_i hz; obtain ⟨i, hi, hs⟩ := szIs_some hz; exact ⟨_, i, hu, hi, fun _ => hs⟩
      · cases h
    · rename_i fs hu
      split at h
      · cases h
      · split at h
        · rename_i i hi; exact ⟨_, i, hu, hi, fun e => by simp [aggT, hu] at e⟩
        · cases h
    · rename_i n e hu
      split at h
      · split at h
        · rename_i hz; obtain ⟨j, hj, _⟩ := szIs_some hz; exact ⟨_, j, hu, hj, fun e => by simp [aggT, hu] at e⟩
        · cases h
      · cases h
    · cases h

theorem kindsF_len {f : TypeId → Option (List Nat)} (hf : ∀ t ks i, f t = some ks → P.info? t = some i → ks.length = i.size) : ∀ (fs : List Field) (off n : Nat) (ks : List Nat), kindsF P f off fs n = some ks → off + ks.length = n
  | [], off, n, ks, h => by
    simp only [kindsF] at h
    split at h
    · rename_i h0; injection h with h; subst h; simpa using h0
    · cases h
  | g :: fs, off, n, ks, h => by
    simp only [kindsF] at h
    split at h
    · split at h
      · rename_i i k1 hi hk
        simp only [Option.map_eq_some_iff] at h
        obtain ⟨k2, h2, rfl⟩ := h
        have h3 := kindsF_len hf fs _ n k2 h2
        have h4 := hf _ _ _ hk hi
        simp; omega
      · cases h
    · cases h
theorem kindsT_len : ∀ (m : Nat) (t : TypeId) (ks : List Nat) (i : TypeInfo), kindsT P m t = some ks → P.info? t = some i → ks.length = i.size
  | 0, t, ks, i, h, _ => by simp [kindsT] at h
  | m + 1, t, ks, i, h, hi => by
    unfold kindsT at h
    split at h
    · split at h
      · rename_i hz; obtain ⟨j, hj, hs⟩ := szIs_some hz; rw [hi] at hj; injection hj with hj; subst hj; injection h with h; subst h; simp [hs]
      · cases h
    · split at h
      · rename_i hz; obtain ⟨j, hj, hs⟩ := szIs_some hz; rw [hi] at hj; injection hj with hj; subst hj; injection h with h; subst h; simp [hs]
      · cases h
    · split at h
      · rename_i hz; obtain ⟨j, hj, hs⟩ := szIs_some hz; rw [hi] at hj; injection hj with hj; subst hj; injection h with h; subst h; simp [hs]
      · cases h
    · split at h
      · cases h
      · rw [hi] at h
        have := kindsF_len (fun t ks i => kindsT_len m t ks i) _ _ _ _ h
        omega
    · split at h
      · rename_i k1 i1 hk hi1
        split at h
        · rename_i hz
          obtain ⟨j, hj, hs⟩ := szIs_some hz
          rw [hi] at hj; injection hj with hj; subst hj
          injection h with h; subst h
          simp [hs, kindsT_len m _ _ _ hk hi1]
        · cases h
      · cases h
    · cases h

theorem run_part_shape {m : Nat} {t : TypeId} {ks : List Nat} (h : kindsT P m t = some ks) {i : TypeInfo} (hi : P.info? t = some i) {xs : Array Value} {off : Nat} (hle : off + i.size ≤ xs.size) :
    ∃ u, (part t xs off).run P w = .ok u w ∧ Shape P t u ((xs.toList.drop off).take i.size) := by
  obtain ⟨d, i', hu, hi', hs⟩ := flat_info h
  rw [hi] at hi'; injection hi' with hi'; subst hi'
  by_cases hr : aggT P t = true
  · have hag : (isAgg t).run P w = .ok true w := by
      unfold isAgg
      rw [Sem.run_bind, run_underlying hu w]
      simp only [aggT, hu] at hr
      cases d <;> simp_all
    refine ⟨.agg (xs.extract off (off + i.size)), by simp [part, hag, Go.sizeOf, typeInfo, hi], .inl ⟨hr, ?_⟩⟩
    congr 1
    apply Array.toList_inj.1
    simp [Array.toList_extract, List.extract]
  · have hr : aggT P t = false := by simpa using hr
    have h1 := hs hr
    have hag : (isAgg t).run P w = .ok false w := by
      unfold isAgg
      rw [Sem.run_bind, run_underlying hu w]
      simp only [aggT, hu] at hr
      cases d <;> simp_all
    have hlt : off < xs.size := by omega
    refine ⟨xs[off], by simp [part, hag, hlt], .inr ⟨hr, ?_⟩⟩
    rw [h1, List.take_one, List.head?_drop]
    simp [hlt]

def EqF (P : Program) (m : Nat) (t : TypeId) (ks : List Nat) : Prop :=
  ∀ (d : Nat) (w : World) (i : TypeInfo) (x y : Value) (xs ys : List Value) (l l' : List PV) (b : Bool), P.info? t = some i → Shape P t x xs → Shape P t y ys → Flat xs l → Flat ys l' → l.map PV.code = ks → l'.map PV.code = ks → eqCs l l' = some b → (Op.equalIn (d + m) t x y).run P w = .ok b w

theorem eqFields_flat {m d : Nat} (xs ys : Array Value) (IH : ∀ t ks, kindsT P m t = some ks → EqF P m t ks) : ∀ (fs : List Field) (off n : Nat) (ks : List Nat) (l l' : List PV) (b : Bool) (w : World), kindsF P (kindsT P m) off fs n = some ks → xs.size = n → ys.size = n →
    Flat (xs.toList.drop off) l → Flat (ys.toList.drop off) l' → l.map PV.code = ks → l'.map PV.code = ks → eqCs l l' = some b → (Op.eqFields (d + m) xs ys fs).run P w = .ok b w
  | [], off, n, ks, l, l', b, w, h, hx, hy, hl, hl', hk, hk', he => by
    simp only [kindsF] at h
    split at h
    · injection h with h; subst h
      have h1 : l = [] := by simpa using hk
      have h2 : l' = [] := by simpa using hk'
      subst h1; subst h2
      simp [eqCs] at he; subst he
      simp [Op.eqFields]
    · cases h
  | f :: fs, off, n, ks, l, l', b, w, h, hx, hy, hl, hl', hk, hk', he => by
    simp only [kindsF] at h
    split at h
    · rename_i hc
      obtain ⟨h1, h2⟩ := hc
      have h2 : f.name ≠ "_" := by simpa using h2
      split at h
      · rename_i i k1 hi hk1
        simp only [Option.map_eq_some_iff] at h
        obtain ⟨k2, h4, rfl⟩ := h
        have hlen := kindsF_len (fun t ks i => kindsT_len (P := P) m t ks i) _ _ _ _ h4
        have hki := kindsT_len m _ _ _ hk1 hi
        have hll : l.length = k1.length + k2.length := by have := congrArg List.length hk; simpa using this
        have hll' : l'.length = k1.length + k2.length := by have := congrArg List.length hk'; simpa using this
        obtain ⟨u, hu, su⟩ := run_part_shape (w := w) hk1 hi (xs := xs) (off := off) (by omega)
        obtain ⟨z, hz, sz⟩ := run_part_shape (w := w) hk1 hi (xs := ys) (off := off) (by omega)
        obtain ⟨b1, e1, e2, e3⟩ := eqCs_split i.size l l' b he (by omega) (by omega)
        have t1 : ∀ l : List PV, l.map PV.code = k1 ++ k2 → (l.take i.size).map PV.code = k1 ∧ (l.drop i.size).map PV.code = k2 := fun l h => by
          rw [List.map_take, List.map_drop, h, ← hki]; simp
        have hr := IH f.type k1 hk1 d w i u z _ _ (l.take i.size) (l'.take i.size) b1 hi su sz (hl.take _) (hl'.take _) (t1 l hk).1 (t1 l' hk').1 e1
        simp only [Op.eqFields, if_pos h2, Sem.run_bind, h1, hu, hz, hr, Result.andThen_ok]
        cases b1 with
        | false => rw [e3 rfl]; simp
        | true =>
          have hd : Flat (xs.toList.drop (off + i.size)) (l.drop i.size) := by have := hl.drop i.size; rwa [List.drop_drop] at this
          have hd' : Flat (ys.toList.drop (off + i.size)) (l'.drop i.size) := by have := hl'.drop i.size; rwa [List.drop_drop] at this
          simpa using eqFields_flat xs ys IH fs (off + i.size) n k2 _ _ b w h4 hx hy hd hd' (t1 l hk).2 (t1 l' hk').2 (e2 rfl)
      · cases h
    · cases h

theorem eqItems_flat {m d : Nat} {e : TypeId} {i : TypeInfo} {ks : List Nat} (xs ys : Array Value) (IH : EqF P m e ks) (hf : kindsT P m e = some ks) (hi : P.info? e = some i) (hc : P.cellsOf e = i.size) : ∀ (k j n : Nat) (l l' : List PV) (b : Bool) (w : World), j + k = n → xs.size = n * i.size → ys.size = n * i.size →
    Flat (xs.toList.drop (j * i.size)) l → Flat (ys.toList.drop (j * i.size)) l' → l.map PV.code = (List.replicate k ks).flatten → l'.map PV.code = (List.replicate k ks).flatten → eqCs l l' = some b → (Op.eqItems (d + m) e (P.cellsOf e) xs ys (List.range' j k)).run P w = .ok b w
  | 0, j, n, l, l', b, w, hj, hx, hy, hl, hl', hk, hk', he => by
    have h1 : l = [] := by simpa using hk
    have h2 : l' = [] := by simpa using hk'
    subst h1; subst h2
    simp [eqCs] at he; subst he
    simp [Op.eqItems]
  | k + 1, j, n, l, l', b, w, hj, hx, hy, hl, hl', hk, hk', he => by
    have hki := kindsT_len m _ _ _ hf hi
    have hmul : (j + 1) * i.size ≤ n * i.size := Nat.mul_le_mul_right _ (by omega)
    rw [Nat.succ_mul] at hmul
    rw [List.replicate_succ, List.flatten_cons] at hk hk'
    obtain ⟨u, hu, su⟩ := run_part_shape (w := w) hf hi (xs := xs) (off := j * i.size) (by omega)
    obtain ⟨z, hz, sz⟩ := run_part_shape (w := w) hf hi (xs := ys) (off := j * i.size) (by omega)
    have hll : l.length = ks.length + (List.replicate k ks).flatten.length := by have := congrArg List.length hk; simpa using this
    have hll' : l'.length = ks.length + (List.replicate k ks).flatten.length := by have := congrArg List.length hk'; simpa using this
    obtain ⟨b1, e1, e2, e3⟩ := eqCs_split i.size l l' b he (by omega) (by omega)
    have t1 : ∀ l : List PV, l.map PV.code = ks ++ (List.replicate k ks).flatten → (l.take i.size).map PV.code = ks ∧ (l.drop i.size).map PV.code = (List.replicate k ks).flatten := fun l h => by
      rw [List.map_take, List.map_drop, h, ← hki]; simp
    have hr := IH d w i u z _ _ (l.take i.size) (l'.take i.size) b1 hi su sz (hl.take _) (hl'.take _) (t1 l hk).1 (t1 l' hk').1 e1
    rw [List.range'_succ]
    simp only [Op.eqItems, hc, Sem.run_bind, hu, hz, hr, Result.andThen_ok]
    cases b1 with
    | false => rw [e3 rfl]; simp
    | true =>
      have hd : Flat (xs.toList.drop ((j + 1) * i.size)) (l.drop i.size) := by have := hl.drop i.size; rwa [List.drop_drop, ← Nat.succ_mul] at this
      have hd' : Flat (ys.toList.drop ((j + 1) * i.size)) (l'.drop i.size) := by have := hl'.drop i.size; rwa [List.drop_drop, ← Nat.succ_mul] at this
      have := eqItems_flat (d := d) xs ys IH hf hi hc k (j + 1) n _ _ b w (by omega) hx hy hd hd' (t1 l hk).2 (t1 l' hk').2 (e2 rfl)
      rw [hc] at this
      simpa using this

theorem equalIn_flat : ∀ (m : Nat) (t : TypeId) (ks : List Nat), kindsT P m t = some ks → EqF P m t ks
  | 0, t, ks, h => by simp [kindsT] at h
  | m + 1, t, ks, h => by
    intro d w i x y xs ys l l' b hi sx sy hl hl' hk hk' he
    have hlenk := kindsT_len (m + 1) t ks i h hi
    have hlen : l.length = i.size := by rw [← hlenk, ← hk]; simp
    have hlen' : l'.length = i.size := by rw [← hlenk, ← hk']; simp
    have scal : aggT P t = false → i.size = 1 → ∃ p q, l = [p] ∧ l' = [q] ∧ xs = [x] ∧ ys = [y] ∧ eqC p q = some b ∧ (∀ u, scv p = some u → x = u) ∧ (∀ u, scv q = some u → y = u) := by
      intro ha h1
      rcases sx with ⟨s1, _⟩ | ⟨_, s2⟩
      · rw [ha] at s1; cases s1
      rcases sy with ⟨s3, _⟩ | ⟨_, s4⟩
      · rw [ha] at s3; cases s3
      rw [h1] at hlen hlen'
      match l, l', hlen, hlen' with
      | [p], [q], _, _ =>
        refine ⟨p, q, rfl, rfl, s2, s4, ?_, fun u hu => hl.2 0 p x rfl (by simp [s2]) u hu, fun u hu => hl'.2 0 q y rfl (by simp [s4]) u hu⟩
        simp only [eqCs] at he
        cases hc : eqC p q with
        | none => rw [hc] at he; cases he
        | some t => rw [hc] at he; cases t <;> simpa using he
    unfold kindsT at h
    split at h
    · rename_i hu
      split at h
      · rename_i hz
        injection h with h; subst h
        obtain ⟨j, hj, hs⟩ := szIs_some hz
        rw [hi] at hj; injection hj with hj; subst hj
        obtain ⟨p, q, rfl, rfl, rfl, rfl, hc, hp, hq⟩ := scal (by simp [aggT, hu]) hs
        cases p <;> cases q <;> simp [eqC] at hc <;> simp [PV.code] at hk
        rw [hp _ rfl, hq _ rfl, ← hc]; exact run_equalIn_bool (d + m) hu _ _
      · cases h
    · rename_i k hu
      split at h
      · rename_i hz
        injection h with h; subst h
        obtain ⟨j, hj, hs⟩ := szIs_some hz
        rw [hi] at hj; injection hj with hj; subst hj
        obtain ⟨p, q, rfl, rfl, rfl, rfl, hc, hp, hq⟩ := scal (by simp [aggT, hu]) hs
        cases p <;> cases q <;> simp [eqC] at hc <;> simp [PV.code] at hk
        obtain ⟨rfl, rfl⟩ := hc
        rw [hp _ rfl, hq _ rfl]; exact run_equalIn_int w (d + m) t _ k _ _ hu
      · cases h
    · rename_i hu
      split at h
      · rename_i hz
        injection h with h; subst h
        obtain ⟨j, hj, hs⟩ := szIs_some hz
        rw [hi] at hj; injection hj with hj; subst hj
        obtain ⟨p, q, rfl, rfl, rfl, rfl, hc, hp, hq⟩ := scal (by simp [aggT, hu]) hs
        cases p <;> cases q <;> simp [eqC] at hc <;> simp [PV.code] at hk
        rw [hp _ rfl, hq _ rfl, ← hc, beq_toListBytes]; exact run_equalIn_string w (d + m) t _ _ hu
      · cases h
    · rename_i fs hu
      split at h
      · cases h
      · rename_i h1
        have h1 : P.stoodInHeld t = false := by simpa using h1
        rw [hi] at h
        rcases sx with ⟨_, rfl⟩ | ⟨s1, _⟩
        · rcases sy with ⟨_, rfl⟩ | ⟨s3, _⟩
          · have hfs : P.fieldsOf t = fs := by simp [Program.fieldsOf, hu]
            rw [show d + (m + 1) = (d + m) + 1 from rfl, run_equalIn_struct w (d + m) t _ _ (by rw [hfs]; exact hu) h1, hfs]
            exact eqFields_flat _ _ (fun t ks ht => equalIn_flat m t ks ht) fs.toList 0 i.size ks l l' b w h (by simp [hl.1, hlen]) (by simp [hl'.1, hlen']) (by simpa using hl) (by simpa using hl') hk hk' he
          · simp [aggT, hu] at s3
        · simp [aggT, hu] at s1
    · rename_i n e hu
      split at h
      · rename_i k1 ie hk1 hie
        split at h
        · rename_i hz
          injection h with h; subst h
          obtain ⟨j, hj, hs⟩ := szIs_some hz
          rw [hi] at hj; injection hj with hj; subst hj
          rcases sx with ⟨_, rfl⟩ | ⟨s1, _⟩
          · rcases sy with ⟨_, rfl⟩ | ⟨s3, _⟩
            · rw [show d + (m + 1) = (d + m) + 1 from rfl, run_equalIn_array w (d + m) _ _ hu hie]
              have := eqItems_flat (d := d) (xs.toArray) (ys.toArray) (equalIn_flat m e k1 hk1) hk1 hie (by simp [Program.cellsOf, hie]) n 0 n l l' b w (by omega) (by simp [hl.1, hlen, hs]) (by simp [hl'.1, hlen', hs]) (by simpa using hl) (by simpa using hl') hk hk' he
              rwa [← List.range_eq_range'] at this
            · simp [aggT, hu] at s3
          · simp [aggT, hu] at s1
        · cases h
      · cases h
    · cases h
end Dk
