/- One operation of loaded code does what the abstract machine's does: parts of values, maps, texts and bytes, slicing. -/
import Derived.Test.YthdcicadcbogmaaDkOps4
import Derived.Laws.BytesArg
import Derived.Lib.ConvBytes
set_option linter.all false
namespace Dk
open Go
variable {P : Program} {num : Nat → FuncId} {β : Bet} {hf : Nat → Option Blk} {w : World} {T : Slots} {a : Act} {H : Heap} {o : Oper} {k0 : Nat} {ext : Ext} {v : AV} {eff : Eff}

theorem agg_vr {av : AV} {u : Value} (h : VR num β hf w av u) (hag : av.isAgg = true) : ∃ vs : Array Value, u = .agg vs ∧ av.cells.length = vs.size ∧ ∀ (j : Nat) (c : AV), av.cells[j]? = some c → c.one = true ∧ ∃ z, vs[j]? = some z ∧ VR num β hf w c z := by
  have h0 := h.cells (agg_okc hag)
  obtain ⟨h1, h2⟩ := h0
  cases h with
  | pv h =>
    cases h with
    | agg vs hl hone h => exact ⟨vs, rfl, h1, fun j c hj => let ⟨d1, z, d2, _, d4⟩ := h2 j c hj; ⟨d1, z, d2, d4⟩⟩
    | _ => simp [AV.isAgg] at hag
  | agg vs hl hone h => exact ⟨vs, rfl, h1, fun j c hj => let ⟨d1, z, d2, _, d4⟩ := h2 j c hj; ⟨d1, z, d2, d4⟩⟩
  | _ => simp [AV.isAgg] at hag

theorem run_part {t : TypeId} {m : Option Nat} {av r : AV} {vs : Array Value} {off : Nat} (hM : okM P t m = true) (hlen : av.cells.length = vs.size)
    (hc : ∀ (j : Nat) (c : AV), av.cells[j]? = some c → c.one = true ∧ ∃ z, vs[j]? = some z ∧ VR num β hf w c z) (hr : av.read m off = some r) :
    ∃ u, (part t vs off).run P w = .ok u w ∧ VR num β hf w r u := by
  cases m with
  | none =>
    simp only [okM, Bool.and_eq_true, plainT] at hM
    obtain ⟨hp, _⟩ := hM
    obtain ⟨_, z, hz, hv⟩ := hc off r (read_none hr)
    refine ⟨z, ?_, hv⟩
    cases hd : P.underlying t with
    | none => rw [hd] at hp; simp at hp
    | some d =>
      have hag : (isAgg t).run P w = .ok false w := by
        unfold isAgg
        rw [Sem.run_bind, run_underlying hd w]
        rw [hd] at hp
        cases d <;> simp_all
      simp [part, hag, hz]
  | some n =>
    simp only [okM, Bool.and_eq_true, aggT] at hM
    obtain ⟨hp, hs⟩ := hM
    obtain ⟨i, hi, hsz⟩ := szIs_some hs
    obtain ⟨hle, rfl⟩ := read_some hr
    refine ⟨.agg (vs.extract off (off + n)), ?_, mkAgg_vr (by simp; omega) (fun c hc' => ?_) (fun j c z hj hz => ?_)⟩
    · cases hd : P.underlying t with
      | none => rw [hd] at hp; simp at hp
      | some d =>
        have hag : (isAgg t).run P w = .ok true w := by
          unfold isAgg
          rw [Sem.run_bind, run_underlying hd w]
          rw [hd] at hp
          cases d <;> simp_all
        simp [part, hag, Go.sizeOf, typeInfo, hi, hsz]
    · obtain ⟨j, hj⟩ := List.getElem?_of_mem hc'
      rw [List.getElem?_take] at hj
      split at hj
      · rw [List.getElem?_drop] at hj; exact (hc _ c hj).1
      · cases hj
    · rw [List.getElem?_take] at hj
      split at hj
      · rename_i hjn
        rw [List.getElem?_drop] at hj
        obtain ⟨_, z', hz', hv⟩ := hc _ c hj
        have hlt : off + j < vs.size := (Array.getElem?_eq_some_iff.1 hz').1
        rw [Array.getElem?_extract, if_pos (by omega), hz'] at hz
        injection hz with hz; subst hz; exact hv
      · cases hj

theorem sound_field {t : TypeId} {f off : Nat} {m : Option Nat} {x : Operand} {x' : SX} (ho : o.op = .field t x f)
    (hM : (match P.underlying t with | some (.struct fs) => (match fs[f]? with | some g => (g.offset == off) && okM P g.type m | none => false) | _ => false) = true)
    (hx : VR num β hf w (x'.ev T) (a.eval x)) (hH : HR num β hf w)
    (hs : step ext T H (.field off m x') = some (v, eff)) : Cont P num o a β hf w k0 v eff := by
  split at hM
  · rename_i fs hu
    split at hM
    · rename_i g hg
      simp only [Bool.and_eq_true, beq_iff_eq] at hM
      obtain ⟨rfl, hM⟩ := hM
      simp only [step] at hs
      split at hs
      · rename_i hag
        simp only [Option.map_eq_some_iff, Prod.mk.injEq] at hs
        obtain ⟨r, hr, rfl, rfl⟩ := hs
        obtain ⟨vs, hv, h1, h2⟩ := agg_vr hx hag
        obtain ⟨u, hu', hvr⟩ := run_part hM h1 h2 hr
        refine cont_value (r := u) ?_ hvr hH
        simp [execOp, ho, hv, Instr.field, run_underlying hu, hg, asAgg, hu']
      · cases hs
    · cases hM
  · cases hM

theorem sound_index {t : TypeId} {cnt esz : Nat} {m : Option Nat} {x i : Operand} {x' i' : SX} (ho : o.op = .index t x i)
    (hM : (match P.underlying t with | some (.array n e) => (n == cnt) && szIs P e esz && okM P e m | _ => false) = true)
    (hx : VR num β hf w (x'.ev T) (a.eval x)) (hi : VR num β hf w (i'.ev T) (a.eval i)) (hH : HR num β hf w)
    (hs : step ext T H (.index cnt esz m x' i') = some (v, eff)) : Cont P num o a β hf w k0 v eff := by
  split at hM
  · rename_i n e hu
    simp only [Bool.and_eq_true, beq_iff_eq] at hM
    obtain ⟨⟨rfl, h2⟩, hM⟩ := hM
    obtain ⟨ie, hie, hsz⟩ := szIs_some h2
    simp only [step] at hs
    split at hs
    · rename_i k i0 hn
      split at hs
      · rename_i hb
        obtain ⟨hb0, hb1, hag⟩ := hb
        simp only [Option.map_eq_some_iff, Prod.mk.injEq] at hs
        obtain ⟨r, hr, rfl, rfl⟩ := hs
        have h3 := VR.pv_int hi hn
        obtain ⟨vs, hv, h1, h2⟩ := agg_vr hx hag
        obtain ⟨u, hu', hvr⟩ := run_part hM h1 h2 hr
        refine cont_value (r := u) ?_ hvr hH
        simp [execOp, ho, hv, h3, Instr.index, asIntOf, run_underlying hu, hb0, hb1, Go.sizeOf, typeInfo, hie, hsz, hu']
      · cases hs
    · cases hs
  · cases hM

theorem findKey_now {str : Bool} {kind : TypeDesc} {k : PV} {X : Nat → Prop} {kv : Value} (hkind : if str then kind = .string else ∃ k', kind = .int k') (hk : k.isKey str = true) (hkv : PR num w X k kv) :
    ∀ {ks vs : List PV} {es : List MapEntry} {r : Option PV} (i : Nat), findKey k ks vs = some r → ks.length = es.length → vs.length = es.length →
    (∀ (i : Nat) (k : PV) (e : MapEntry), ks[i]? = some k → es[i]? = some e → PR num w X k e.key) → (∀ (i : Nat) (v : PV) (e : MapEntry), vs[i]? = some v → es[i]? = some e → PR num w X v e.val) →
    ∃ q : Option (Nat × Value), Instr.findNow kind kv es i = some q ∧ (match r, q with | none, none => True | some p, some (_, u) => PR num w X p u | _, _ => False)
  | [], [], [], r, i, h, _, _, _, _ => by simp [findKey] at h; subst h; exact ⟨none, rfl, trivial⟩
  | [], [], _ :: _, _, _, _, h, _, _, _ => by simp at h
  | [], _ :: _, [], _, _, _, _, h, _, _ => by simp at h
  | [], _ :: _, _ :: _, _, _, _, h, _, _, _ => by simp at h
  | _ :: _, [], [], _, _, _, h, _, _, _ => by simp at h
  | _ :: _, [], _ :: _, _, _, _, _, h, _, _ => by simp at h
  | _ :: _, _ :: _, [], _, _, _, h, _, _, _ => by simp at h
  | a :: ks, b :: vs, e :: es, r, i, h, hl1, hl2, h1, h2 => by
    have ha : PR num w X a e.key := h1 0 a e rfl rfl
    have hb : PR num w X b e.val := h2 0 b e rfl rfl
    have hsame : ∀ t, eqC k a = some t → Instr.sameNow kind kv e.key = some t := fun t ht => by
      generalize e.key = ek at ha
      cases k with
      | int kk n =>
        simp [PV.isKey] at hk; subst hk
        simp at hkind; obtain ⟨k', rfl⟩ := hkind
        cases hkv
        cases a <;> simp [eqC] at ht
        cases ha
        obtain ⟨rfl, rfl⟩ := ht
        simp [Instr.sameNow]
      | str s =>
        simp [PV.isKey] at hk; subst hk
        simp at hkind; subst hkind
        cases hkv
        cases a <;> simp [eqC] at ht
        cases ha
        subst ht
        simp [Instr.sameNow]
      | _ => simp [PV.isKey] at hk
    simp only [findKey] at h
    split at h
    · rename_i ht
      simp at h; subst h
      exact ⟨some (i, e.val), by simp [Instr.findNow, hsame _ ht], hb⟩
    · rename_i ht
      obtain ⟨q, hq, hrel⟩ := findKey_now hkind hk hkv (i + 1) h (by simpa using hl1) (by simpa using hl2) (fun j k e hk he => h1 (j + 1) k e (by simpa using hk) (by simpa using he)) (fun j k e hk he => h2 (j + 1) k e (by simpa using hk) (by simpa using he))
      exact ⟨q, by simp [Instr.findNow, hsame _ ht, hq], hrel⟩
    · cases h

theorem sound_lookup {t : TypeId} {z : PV} {ok str : Bool} {x k : Operand} {x' k' : SX} (ho : o.op = .lookup t x k ok)
    (hM : (match P.underlying t with | some (.map kt e) => zeroIs P e z 1 && z.one && (if str then isStringT P kt else isAnyIntT P kt) | _ => false) = true)
    (hx : VR num β hf w (x'.ev T) (a.eval x)) (hk : VR num β hf w (k'.ev T) (a.eval k)) (hH : HR num β hf w)
    (hs : step ext T H (.lookup z ok str x' k') = some (v, eff)) : Cont P num o a β hf w k0 v eff := by
  split at hM
  · rename_i kt e hu
    simp only [Bool.and_eq_true] at hM
    obtain ⟨⟨hz, hz1⟩, hkt⟩ := hM
    obtain ⟨ie, zv, hie, hzv, hC, _⟩ := zeroIs_some hz
    have hzr : PR num w (Xof β hf) z zv := okC_pr hC
    obtain ⟨kind, hkind, hkk⟩ : ∃ kind, P.underlying kt = some kind ∧ (if str then kind = .string else ∃ k', kind = .int k') := by
      cases str
      · simp [isAnyIntT] at hkt; split at hkt
        · rename_i k' h; exact ⟨_, h, by simp⟩
        · cases hkt
      · simp [isStringT] at hkt; split at hkt
        · rename_i h; exact ⟨_, h, by simp⟩
        · cases hkt
    simp only [step] at hs
    split at hs
    · rename_i ks vs kp hp hq
      split at hs
      · rename_i hkey
        split at hs
        · rename_i r hr
          simp at hs; obtain ⟨rfl, rfl⟩ := hs
          rw [hp] at hx; rw [hq] at hk
          cases hx with | pv hx =>
          cases hk with | pv hk =>
          generalize hX : a.eval x = X at *
          generalize hKv : a.eval k = Kv at *
          cases hx with
          | mp rr es clock hXr hrr hlk hlv h1 h2 =>
            obtain ⟨q, hq1, hq2⟩ := findKey_now (es := es.toList) hkk hkey hk 0 hr (by simpa using hlk) (by simpa using hlv) (fun i k e hk he => h1 i k e hk (by simpa using he)) (fun i k e hk he => h2 i k e hk (by simpa using he))
            have hck : (Instr.checkKey es.isEmpty 10000 kt Kv).run P w = .ok () w := by
              show (Instr.checkKey es.isEmpty (9999 + 1) kt Kv).run P w = .ok () w
              rw [Instr.checkKey, Sem.run_bind, run_underlying hkind]
              cases str
              · simp at hkk; obtain ⟨k', rfl⟩ := hkk; cases hk <;> first | rfl | simp [PV.isKey] at hkey
              · simp at hkk; subst hkk; cases hk <;> first | rfl | simp [PV.isKey] at hkey
            have hfk : (Instr.findKey kt Kv es.toList).run P w = .ok q w := by
              rw [Instr.findKey, Sem.run_bind, run_underlying hkind]
              simp [hq1]
            have hzero : (zeroValue e).run P w = .ok zv w := by simp [zeroValue, typeInfo, hie, hzv]
            have hget : (getObj rr).run P w = .ok (.map es clock) w := by simp [getObj, Sem.run, hrr]
            refine cont_value (r := if ok then .tuple #[match q with | some (_, u) => u | none => zv, .bool q.isSome] else match q with | some (_, u) => u | none => zv) ?_ ?_ hH
            · cases q with
              | none => cases ok <;> simp [execOp, ho, hX, hKv, Instr.lookup, run_underlying hu, hget, hck, hfk, hzero]
              | some q => cases ok <;> simp [execOp, ho, hX, hKv, Instr.lookup, run_underlying hu, hget, hck, hfk]
            · have hrr2 : PR num w (Xof β hf) (r.getD z) (match q with | some (_, u) => u | none => zv) := by
                cases r with
                | none => cases q with
                  | none => exact hzr
                  | some q => exact hq2.elim
                | some p => cases q with
                  | none => exact hq2.elim
                  | some q => exact hq2
              have hsome : q.isSome = r.isSome := by
                cases r with
                | none => cases q with
                  | none => rfl
                  | some q => exact hq2.elim
                | some p => cases q with
                  | none => exact hq2.elim
                  | some q => rfl
              cases ok
              · exact .pv hrr2
              · refine .pv (.tup _ rfl (fun i p u hp hu => ?_))
                match i with
                | 0 => simp at hp hu; subst hp; subst hu; exact hrr2
                | 1 => simp at hp hu; subst hp; subst hu; rw [hsome]; exact .bool _
                | i + 2 => simp at hp
        · cases hs
      · cases hs
    · cases hs
  · cases hM
end Dk
