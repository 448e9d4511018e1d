/- What data comes to as values of the abstract machine. -/
import Derived.Test.YthdcicadcbogmaaDkFunc
import Derived.Test.YthdcicadcbogmaaDkList
import Derived.ProofKit
set_option linter.all false
namespace Dk
open Go Go.ChangeShapes Go.WideShapes Go.RowKit
variable {H : Type} {enc : TypeId × Value → H} {P : Program} {num : Nat → FuncId} {w : World} {sp : Nat → Bool} {held : Bool}

def offsL (P : Program) : Nat → List (TypeId × Nat) → Nat → Bool
  | k, [], n => k == n
  | k, x :: l, n => (x.2 == k) && offsL P (k + P.cellsOf x.1) l n
def okT (P : Program) : Nat → TypeId → Bool
  | 0, _ => false
  | m + 1, t => match P.underlying t with
    | some .bool => P.cellsOf t == 1
    | some (.int _) => P.cellsOf t == 1
    | some .string => P.cellsOf t == 1
    | some (.slice e) => (P.cellsOf t == 1) && decide (0 < P.cellsOf e) && okT P m e
    | some (.struct fs) => offsL P 0 (fs.toList.map fun f => (f.type, f.offset)) (P.cellsOf t) && fs.toList.all fun f => okT P m f.type
    | some (.array n e) => offsL P 0 ((List.range n).map fun i => (e, i * P.cellsOf e)) (P.cellsOf t) && okT P m e
    | _ => false
def elP (c : List PV) : PV := match c with | [p] => p | c => .agg c
def FitL (F : TypeId → List PV → Prop) : List TypeId → List PV → Prop
  | [], qs => qs = []
  | t :: ts, qs => ∃ a b, qs = a ++ b ∧ F t a ∧ FitL F ts b
/-- Which parts a datum of a type has. -/
def Fit (P : Program) : Nat → TypeId → List PV → Prop
  | 0, _, _ => False
  | m + 1, t, qs => match P.underlying t with
    | some .bool => ∃ b, qs = [.bool b]
    | some (.int k) => ∃ n, qs = [.int k n] ∧ (Lit.int k n).wf = true
    | some .string => ∃ s : ByteArray, qs = [.str s] ∧ s.size ≤ maxLen
    | some (.slice e) => ∃ (L : PV) (l : List (List PV)), qs = [L] ∧ IsL (P.cellsOf e) L (l.map elP) ∧ l.length ≤ maxLen ∧ ∀ c ∈ l, Fit P m e c
    | some (.struct fs) => FitL (Fit P m) (fs.toList.map (·.type)) qs
    | some (.array n e) => FitL (Fit P m) (List.replicate n e) qs
    | _ => False

/-- Parts that stand for cells. -/
structure Stands (num : Nat → FuncId) (w : World) (qs : List PV) (cs : List Value) : Prop where
  len : qs.length = cs.length
  one : ∀ q ∈ qs, q.one = true
  rel : ∀ (i : Nat) (q : PV) (v : Value), qs[i]? = some q → cs[i]? = some v → PR num w (fun _ => True) q v

theorem stands_one {q : PV} {v : Value} (h1 : q.one = true) (h : PR num w (fun _ => True) q v) : Stands num w [q] [v] := by
  refine ⟨rfl, by simpa using h1, fun i q' v' hq hv => ?_⟩
  cases i with
  | zero => simp at hq hv; subst hq; subst hv; exact h
  | succ i => simp at hq
theorem mapM_each {α β : Type} {f : α → Option β} : ∀ {l : List α} {ys : List β}, l.mapM f = some ys → ∀ x ∈ l, ∃ y, f x = some y
  | [], _, _, x, hx => by cases hx
  | a :: l, ys, h, x, hx => by
    rw [List.mapM_cons] at h
    cases ha : f a with
    | none => simp [ha] at h
    | some y =>
      cases hl : l.mapM f with
      | none => simp [ha, hl] at h
      | some ys' =>
        rcases List.mem_cons.1 hx with rfl | hx
        · exact ⟨y, ha⟩
        · exact mapM_each hl x hx

theorem parts_read {m : Nat} {cs : List Value} {g : TypeId → List Value → Option (DataW H × List MemPlace)}
    (ih : ∀ (t : TypeId) (cs : List Value) y, okT P m t = true → g t cs = some y → cs.length = P.cellsOf t ∧ ∃ qs, Fit P m t qs ∧ Stands num w qs cs) :
    ∀ (L : List (TypeId × Nat)) (k : Nat), offsL P k L cs.length = true → (∀ x ∈ L, okT P m x.1 = true) → (∀ x ∈ L, ∃ y, g x.1 ((cs.drop x.2).take (P.cellsOf x.1)) = some y) →
      ∃ qs, FitL (Fit P m) (L.map (·.1)) qs ∧ Stands num w qs (cs.drop k)
  | [], k, h, _, _ => by
    simp only [offsL, beq_iff_eq] at h
    subst h
    exact ⟨[], rfl, by simp, by simp, by simp⟩
  | x :: L, k, h, hok, hr => by
    simp only [offsL, Bool.and_eq_true, beq_iff_eq] at h
    obtain ⟨hk, h⟩ := h
    obtain ⟨y, hy⟩ := hr x (by simp)
    obtain ⟨hlen, q1, f1, s1⟩ := ih x.1 _ y (hok x (by simp)) hy
    obtain ⟨q2, f2, s2⟩ := parts_read ih L (k + P.cellsOf x.1) h (fun z hz => hok z (by simp [hz])) (fun z hz => hr z (by simp [hz]))
    rw [hk] at hlen s1
    have e : cs.drop k = (cs.drop k).take (P.cellsOf x.1) ++ cs.drop (k + P.cellsOf x.1) := by
      rw [← List.drop_drop, List.take_append_drop]
    refine ⟨q1 ++ q2, ⟨q1, q2, rfl, f1, f2⟩, ?_, ?_, ?_⟩
    · rw [e, List.length_append, List.length_append, s1.len, s2.len]
    · intro q hq
      rcases List.mem_append.1 hq with hq | hq
      · exact s1.one q hq
      · exact s2.one q hq
    · intro i q v hq hv
      rw [e] at hv
      by_cases hi : i < q1.length
      · rw [List.getElem?_append_left hi] at hq
        rw [List.getElem?_append_left (by rw [← s1.len]; exact hi)] at hv
        exact s1.rel i q v hq hv
      · rw [List.getElem?_append_right (by omega)] at hq
        rw [List.getElem?_append_right (by rw [← s1.len]; omega), ← s1.len] at hv
        exact s2.rel _ q v hq hv

theorem elP_facts {c : List PV} {n : Nat} (hl : c.length = n) (h0 : 0 < n) (hone : ∀ q ∈ c, q.one = true) : (elP c).okc = true ∧ (elP c).cells = c := by
  unfold elP
  split
  · rename_i p
    have := hone p (by simp)
    cases p <;> simp_all [PV.one, PV.okc, PV.cells]
  · exact ⟨rfl, rfl⟩

theorem read {m : Nat} : ∀ (fuel : Nat) (t : TypeId) (cs : List Value) (y : DataW H × List MemPlace), okT P m t = true → DataW.trod enc P w 0 sp held fuel t cs = some y →
    cs.length = P.cellsOf t ∧ ∃ qs, Fit P m t qs ∧ Stands num w qs cs := by
  induction m with
  | zero => intro fuel t cs y h; simp [okT] at h
  | succ m ih =>
    intro fuel t cs y hok h
    cases hu : P.underlying t with
    | none => simp [okT, hu] at hok
    | some td =>
      simp only [okT, hu] at hok
      cases td with
      | bool =>
        simp only [beq_iff_eq] at hok
        cases fuel with
        | zero => simp [DataW.trod] at h
        | succ fuel =>
          unfold DataW.trod at h
          rw [hu] at h
          split at h <;> simp_all
          rename_i b
          exact ⟨[.bool b], by simp [Fit, hu], stands_one rfl (.bool b)⟩
      | int k =>
        simp only [beq_iff_eq] at hok
        obtain ⟨n, rfl, rfl, hw⟩ := DataW.trod_int hu h
        exact ⟨hok.symm, [.int k n], by simp [Fit, hu, hw], stands_one rfl (.int k n)⟩
      | string =>
        simp only [beq_iff_eq] at hok
        cases fuel with
        | zero => simp [DataW.trod] at h
        | succ fuel =>
          unfold DataW.trod at h
          rw [hu] at h
          split at h <;> simp_all
          rename_i s
          exact ⟨[.str s], by simp [Fit, hu, h.1], stands_one rfl (.str s)⟩
      | slice e =>
        simp only [Bool.and_eq_true, beq_iff_eq, decide_eq_true_eq] at hok
        obtain ⟨⟨hc, hpos⟩, hoke⟩ := hok
        rcases DataW.trod_slice hu h with ⟨rfl, _⟩ | ⟨a, len, cap, elems, rest, n, _, rfl, _, _, hlc, hcm, hlen, hel, _, _⟩
        · refine ⟨hc.symm, [.nils], ?_, stands_one rfl .nils⟩
          simp only [Fit, hu]
          exact ⟨.nils, [], rfl, isL_nils _, by simp, by simp⟩
        · have each : ∀ i, i < len → ∃ c q, w.cells? 0 (a.add (i * P.cellsOf e)) (P.cellsOf e) = some c ∧ Fit P m e q ∧ Stands num w q c ∧ c.length = P.cellsOf e := by
            intro i hi
            have hb := hel i hi
            rw [List.getElem?_eq_getElem (by omega), Option.bind_eq_some_iff] at hb
            obtain ⟨c, hcs, hy⟩ := hb
            obtain ⟨h1, q, h2, h3⟩ := ih n e c _ hoke hy
            exact ⟨c, q, hcs, h2, h3, h1⟩
          let C : Nat → List Value := fun i => if hi : i < len then (each i hi).choose else []
          let Q : Nat → List PV := fun i => if hi : i < len then (each i hi).choose_spec.choose else []
          have hCQ : ∀ i, i < len → w.cells? 0 (a.add (i * P.cellsOf e)) (P.cellsOf e) = some (C i) ∧ Fit P m e (Q i) ∧ Stands num w (Q i) (C i) ∧ (C i).length = P.cellsOf e := by
            intro i hi
            simp only [C, Q, dif_pos hi]
            exact (each i hi).choose_spec.choose_spec
          have hl : ((List.range len).map Q).length = len := by simp
          have hget : ∀ i (e : PV), (((List.range len).map Q).map elP)[i]? = some e → i < len ∧ e = elP (Q i) := by
            intro i e he
            simp only [List.map_map, List.getElem?_map, Option.map_eq_some_iff] at he
            obtain ⟨j, hj, rfl⟩ := he
            have hlt := (List.getElem?_eq_some_iff.1 hj).1
            rw [List.length_range] at hlt
            rw [List.getElem?_range hlt] at hj
            cases hj
            exact ⟨hlt, rfl⟩
          refine ⟨hc.symm, [.lst (P.cellsOf e) (((List.range len).map Q).map elP)], ?_, stands_one rfl ?_⟩
          · simp only [Fit, hu]
            refine ⟨_, (List.range len).map Q, rfl, isL_lst _ _, by simp; omega, fun c hcc => ?_⟩
            obtain ⟨i, hi, rfl⟩ := List.mem_map.1 hcc
            exact (hCQ i (by simpa using hi)).2.1
          · skip
            have hcell : ∀ i j, i < len → j < P.cellsOf e → w.cell? ((a.add (i * P.cellsOf e)).add j) = (C i)[j]? := fun i j hi hj => (World.cells?_some (hCQ i hi).1).2.2 j hj
            have hspot : 0 < len → a.spot = none := by
              intro h0
              have h1 := hcell 0 0 h0 hpos
              have h2 : (C 0)[0]? = some ((C 0)[0]'(by rw [(hCQ 0 h0).2.2.2]; exact hpos)) := List.getElem?_eq_getElem _
              rw [h2] at h1
              simp only [Nat.zero_mul, Addr.add, if_true] at h1
              unfold World.cell? at h1
              split at h1
              · split at h1
                · cases h1
                · rename_i hs; simpa using hs
              · cases h1
            have haddr : ∀ i j, 0 < len → ((a.add (i * P.cellsOf e)).add j) = ⟨a.block, a.off + i * P.cellsOf e + j, none⟩ := by
              intro i j h0
              have hs := hspot h0
              obtain ⟨b, o, s⟩ := a
              simp only at hs
              subst hs
              unfold Addr.add
              split <;> split <;> simp_all
            refine .lst (some a) a.block a.off (fun i j => ((C i)[j]?).getD undef) (by simp) ?_ (fun _ => trivial) hlc (fun _ => hpos) ?_ ?_ ?_
            · intro hne
              have h0 : 0 < len := by
                rcases Nat.eq_zero_or_pos len with h | h
                · subst h; simp at hne
                · exact h
              have := hspot h0
              obtain ⟨b, o, s⟩ := a
              simp only at this
              subst this
              rfl
            · intro i el hi
              obtain ⟨hlt, rfl⟩ := hget i el hi
              obtain ⟨_, _, hs, hcl⟩ := hCQ i hlt
              have hf := elP_facts (hs.len.trans hcl) hpos hs.one
              exact ⟨hf.1, by rw [hf.2, hs.len, hcl]⟩
            · intro i el j p hi hj
              obtain ⟨hlt, rfl⟩ := hget i el hi
              obtain ⟨_, _, hs, hcl⟩ := hCQ i hlt
              have hf := elP_facts (hs.len.trans hcl) hpos hs.one
              rw [hf.2] at hj
              have hjl := (List.getElem?_eq_some_iff.1 hj).1
              refine ⟨hs.one p (List.mem_of_getElem? hj), ?_⟩
              have h1 := hcell i j hlt (by rw [← hcl, ← hs.len]; exact hjl)
              rw [haddr i j (by omega)] at h1
              rw [h1, List.getElem?_eq_getElem (by rw [← hs.len]; exact hjl)]
              rfl
            · intro i el j p hi hj
              obtain ⟨hlt, rfl⟩ := hget i el hi
              obtain ⟨_, _, hs, hcl⟩ := hCQ i hlt
              have hf := elP_facts (hs.len.trans hcl) hpos hs.one
              rw [hf.2] at hj
              have hjl := (List.getElem?_eq_some_iff.1 hj).1
              have hjc : j < (C i).length := by rw [← hs.len]; exact hjl
              show PR num w _ p (((C i)[j]?).getD undef)
              rw [List.getElem?_eq_getElem hjc]
              exact hs.rel j p _ hj (List.getElem?_eq_getElem hjc)
      | struct fs =>
        simp only [Bool.and_eq_true, List.all_eq_true] at hok
        cases fuel with
        | zero => simp [DataW.trod] at h
        | succ fuel =>
          unfold DataW.trod at h
          rw [hu] at h
          simp only at h
          split at h
          · rename_i hlen
            simp only [Option.map_eq_some_iff] at h
            obtain ⟨xs, hx, _⟩ := h
            have he := mapM_each hx
            obtain ⟨qs, f1, s1⟩ := parts_read (P := P) (num := num) (w := w) (m := m) (cs := cs) (g := DataW.trod enc P w 0 sp held fuel) (fun t cs y => ih fuel t cs y) (fs.toList.map fun f => (f.type, f.offset)) 0 (by rw [hlen]; exact hok.1)
              (fun x hx => by obtain ⟨f, hf, rfl⟩ := List.mem_map.1 hx; exact hok.2 f hf) (fun x hx => by obtain ⟨f, hf, rfl⟩ := List.mem_map.1 hx; exact he f hf)
            refine ⟨hlen, qs, ?_, by simpa using s1⟩
            simp only [Fit, hu]
            rw [List.map_map] at f1
            exact f1
          · cases h
      | array n e =>
        simp only [Bool.and_eq_true] at hok
        cases fuel with
        | zero => simp [DataW.trod] at h
        | succ fuel =>
          unfold DataW.trod at h
          rw [hu] at h
          simp only at h
          split at h
          · rename_i hlen
            simp only [Option.map_eq_some_iff] at h
            obtain ⟨xs, hx, _⟩ := h
            have he := mapM_each hx
            obtain ⟨qs, f1, s1⟩ := parts_read (P := P) (num := num) (w := w) (m := m) (cs := cs) (g := DataW.trod enc P w 0 sp held fuel) (fun t cs y => ih fuel t cs y) ((List.range n).map fun i => (e, i * P.cellsOf e)) 0 (by rw [hlen]; exact hok.1)
              (fun x hx => by obtain ⟨f, hf, rfl⟩ := List.mem_map.1 hx; exact hok.2) (fun x hx => by obtain ⟨f, hf, rfl⟩ := List.mem_map.1 hx; exact he f hf)
            refine ⟨hlen, qs, ?_, by simpa using s1⟩
            simp only [Fit, hu]
            have e1 : ((List.range n).map fun i => (e, i * P.cellsOf e)).map (·.1) = List.replicate n e := by
              apply List.ext_getElem <;> simp
            rw [e1] at f1
            exact f1
          · cases h
      | _ => simp at hok
end Dk
