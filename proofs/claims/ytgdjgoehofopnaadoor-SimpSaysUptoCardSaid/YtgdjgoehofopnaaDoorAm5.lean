/- Comparisons of wholes; then operations that make, read and write memory. -/
import Derived.Test.YtgdjgoehofopnaaDoorAm4
set_option linter.unusedSimpArgs false
set_option linter.unusedVariables false
namespace Go.Am
open Go
section
variable {P : Program} {N : Nat} {V : Nat → Bool} {c0 c : Cx} {σ σ' : St} {a : Act} {w : World} {o : Oper}

theorem run_part_cell {k : EqK} {t : TypeId} {vs : Array Value} {n : Nat} {v : Value} (ht : eqType P k t = true) (hv : vs[n]? = some v) : (part t vs n).run P w = .ok v w := by
  have : (isAgg t).run P w = .ok false w := by
    unfold eqType at ht
    split at ht <;> first | (cases ht; done) | (rename_i hu; simp [isAgg, run_underlying hu])
  simp [part, this, hv]

theorem run_eqItems {k : EqK} {e : TypeId} {F : Nat → Nat} {j : List Nat} (m : Nat) (ht : eqType P k e = true) {xs ys : Array Value} : ∀ (as bs : List D) (s : Nat) (r : Bool), deqs k as bs = some r →
    (∀ (i : Nat) (d : D), as[i]? = some d → ∃ v, xs[s + i]? = some v ∧ Rep w F j d v) → (∀ (i : Nat) (d : D), bs[i]? = some d → ∃ v, ys[s + i]? = some v ∧ Rep w F j d v) →
    (Op.eqItems (m + 1) e 1 xs ys (List.range' s as.length)).run P w = .ok r w
  | [], [], s, r, h, _, _ => by
    simp only [deqs, Option.some.injEq] at h
    subst h
    simp [Op.eqItems]
  | x :: as, y :: bs, s, r, h, h1, h2 => by
    simp only [deqs] at h
    split at h
    · rename_i p q hp hq
      injection h with h
      subst h
      obtain ⟨v, hv, hrv⟩ := h1 0 x rfl
      obtain ⟨u, hu, hru⟩ := h2 0 y rfl
      have e1 := run_part_cell (P := P) (w := w) ht (by simpa using hv)
      have e2 := run_part_cell (P := P) (w := w) ht (by simpa using hu)
      have e3 := run_eqK (P := P) (w := w) m ht hp hrv hru
      have ih := run_eqItems m ht as bs (s + 1) q hq (fun i d hd => by
        obtain ⟨v, hv, hr⟩ := h1 (i + 1) d hd
        exact ⟨v, by rw [← hv]; congr 1; omega, hr⟩) (fun i d hd => by
        obtain ⟨v, hv, hr⟩ := h2 (i + 1) d hd
        exact ⟨v, by rw [← hv]; congr 1; omega, hr⟩)
      try simp only [Nat.add_zero] at e1 e2
      simp only [List.length_cons, List.range'_succ, Op.eqItems, Nat.mul_one, Sem.run_bind, e1, e2, e3, Result.andThen_ok]
      cases p
      · simp
      · simpa using ih
    · cases h
  | [], _ :: _, _, _, h, _, _ => by simp [deqs] at h
  | _ :: _, [], _, _, h, _, _ => by simp [deqs] at h

theorem run_eqFields {k : EqK} {F : Nat → Nat} {j : List Nat} (m : Nat) {xs ys : Array Value} : ∀ (fs : List Field) (as bs : List D) (s : Nat) (r : Bool), deqs k as bs = some r → fs.length = as.length →
    (∀ (i : Nat) (f : Field), fs[i]? = some f → f.offset = s + i ∧ f.name ≠ "_" ∧ eqType P k f.type = true) →
    (∀ (i : Nat) (d : D), as[i]? = some d → ∃ v, xs[s + i]? = some v ∧ Rep w F j d v) → (∀ (i : Nat) (d : D), bs[i]? = some d → ∃ v, ys[s + i]? = some v ∧ Rep w F j d v) →
    (Op.eqFields (m + 1) xs ys fs).run P w = .ok r w
  | [], [], [], s, r, h, _, _, _, _ => by
    simp only [deqs, Option.some.injEq] at h
    subst h
    simp [Op.eqFields]
  | f :: fs, x :: as, y :: bs, s, r, h, hl, hf, h1, h2 => by
    simp only [deqs] at h
    split at h
    · rename_i p q hp hq
      injection h with h
      subst h
      obtain ⟨v, hv, hrv⟩ := h1 0 x rfl
      obtain ⟨u, hu, hru⟩ := h2 0 y rfl
      obtain ⟨ho, hn, ht⟩ := hf 0 f rfl
      have e1 := run_part_cell (P := P) (w := w) ht (by simpa using hv)
      have e2 := run_part_cell (P := P) (w := w) ht (by simpa using hu)
      have e3 := run_eqK (P := P) (w := w) m ht hp hrv hru
      have ih := run_eqFields m fs as bs (s + 1) q hq (by simpa using hl) (fun i f hf' => by
        obtain ⟨p1, p2⟩ := hf (i + 1) f hf'
        exact ⟨by omega, p2⟩) (fun i d hd => by
        obtain ⟨v, hv, hr⟩ := h1 (i + 1) d hd
        exact ⟨v, by rw [← hv]; congr 1; omega, hr⟩) (fun i d hd => by
        obtain ⟨v, hv, hr⟩ := h2 (i + 1) d hd
        exact ⟨v, by rw [← hv]; congr 1; omega, hr⟩)
      try simp only [Nat.add_zero] at ho
      simp only [Op.eqFields, hn, ne_eq, not_false_eq_true, if_true, Sem.run_bind, ho, e1, e2, e3, Result.andThen_ok]
      cases p
      · simp
      · simpa using ih
    · cases h
  | [], _ :: _, _, _, _, _, hl, _, _, _ => by simp at hl
  | _ :: _, [], _, _, _, _, hl, _, _, _ => by simp at hl
  | _, [], _ :: _, _, _, h, _, _, _, _ => by simp [deqs] at h
  | _, _ :: _, [], _, _, h, _, _, _, _ => by simp [deqs] at h

/-- A type whose values are compared: one cell (n = 0), or n cells. -/
def eqOK (P : Program) (k : EqK) (n : Nat) (t : TypeId) : Bool :=
  match n with
  | 0 => eqType P k t
  | n + 1 => !P.eqGuardType P.depth t && match P.underlying t with
    | some (.array m e) => m == n + 1 && eqType P k e && P.cellsOf e == 1
    | some (.struct fs) => fs.size == n + 1 && !P.stoodInHeld t && (List.range (n + 1)).all fun i => match fs[i]? with
      | some f => f.offset == i && f.name != "_" && eqType P k f.type
      | none => false
    | _ => false

theorem deqs_length {k : EqK} : ∀ {as bs : List D} {r : Bool}, deqs k as bs = some r → as.length = bs.length
  | [], [], _, _ => rfl
  | x :: as, y :: bs, r, h => by
    simp only [deqs] at h
    split at h
    · rename_i hq
      simp [deqs_length hq]
    · cases h
  | [], _ :: _, _, h => by simp [deqs] at h
  | _ :: _, [], _, h => by simp [deqs] at h

/-- Neither a number nor a text. -/
def notNum : Value → Bool
  | .int _ _ | .string _ | .float _ _ | .complex _ _ _ => false
  | _ => true
theorem binOp_eql {t : TypeId} {x y : Value} (hx : notNum x = true) : binOp .eql t x y = (do pure (.bool (← Op.equal t x y))) := by
  cases x <;> first | (cases hx; done) | rfl | (cases y <;> rfl)
theorem binOp_neq {t : TypeId} {x y : Value} (hx : notNum x = true) : binOp .neq t x y = (do pure (.bool (!(← Op.equal t x y)))) := by
  cases x <;> first | (cases hx; done) | rfl | (cases y <;> rfl)

theorem goes_eqv (h : Sim P N V c0 c σ a w) {neq : Bool} {k : EqK} {n : Nat} {aa ab : AO} {xa xb : Operand} {t t' : TypeId} (ho : opr aa xa = true ∧ opr ab xb = true)
    (hop : o.op = .binOp (if neq then .neq else .eql) t xa xb t') (hk : n = 0 → k ≠ .int ∧ k ≠ .str ∧ (k = .ifc → (∃ v, xa = .const v) ∨ ∃ v, xb = .const v)) (ht : eqOK P k n t = true) (hd : dstOK N V o.dst = true)
    (hs : stepF (.eqv neq k n aa ab) o.dst σ = some σ') : Goes P N V c0 σ' a w o := by
  simp only [stepF] at hs
  split at hs
  · rename_i x y h1 h2
    split at hs
    · rename_i r h3
      injection hs with hs
      subst hs
      have hx := h.val ho.1 h1
      have hy := h.val ho.2 h2
      have hw := h.hw
      rw [hw] at hx hy
      have key : (Op.equal t (a.eval xa) (a.eval xb)).run P w = .ok r w ∧ (eqGuard (if neq then .neq else .eql) t xa xb (a.eval xa) (a.eval xb)).run P w = .ok () w ∧
          notNum (a.eval xa) = true := by
        cases n with
        | zero =>
          obtain ⟨hk1, hk2, hk3⟩ := hk rfl
          simp only [deq] at h3
          refine ⟨run_eqK (P := P) (w := w) 9999 ht h3 hx hy, ?_, ?_⟩
          · by_cases hn : a.eval xa = .nilIface
            · have hk : k = .ifc := by
                rw [hn] at hx
                cases hx
                cases k <;> simp [eqK] at h3 ⊢
              rcases hk3 hk with ⟨v, rfl⟩ | ⟨v, rfl⟩
              · cases hv : a.eval xb <;> cases neq <;> simp [eqGuard, hn, hv]
              · cases hv : a.eval (.const v) <;> cases neq <;> simp [eqGuard, hn, hv]
            · refine run_eqGuard_plain ?_ hn
              intro vs e
              rw [e] at hx
              cases hx
              cases k <;> simp [eqK] at h3
          · cases hva : a.eval xa <;> first | rfl | (rw [hva] at hx; cases hx <;> cases k <;> simp_all [eqK])
        | succ n =>
          simp only [deq] at h3
          split at h3
          · rename_i as bs
            split at h3
            · rename_i hl
              cases hva : a.eval xa <;> rw [hva] at hx <;> try (cases hx; done)
              cases hvb : a.eval xb <;> rw [hvb] at hy <;> try (cases hy; done)
              rename_i xs ys
              simp only [eqOK, Bool.and_eq_true, Bool.not_eq_true'] at ht
              obtain ⟨hg, ht⟩ := ht
              have hlb := deqs_length h3
              have rx : ∀ (i : Nat) (d : D), as[i]? = some d → ∃ v, xs[0 + i]? = some v ∧ Rep w c.F c.j d v := by
                intro i d hi
                cases hx with
                | agg _ _ hl' _ hrep =>
                have hlt := (List.getElem?_eq_some_iff.1 hi).1
                have hv : xs[i]? = some (xs[i]'(by omega)) := Array.getElem?_eq_getElem (by omega)
                exact ⟨_, by rw [Nat.zero_add]; exact hv, hrep i d _ hi hv⟩
              have ry : ∀ (i : Nat) (d : D), bs[i]? = some d → ∃ v, ys[0 + i]? = some v ∧ Rep w c.F c.j d v := by
                intro i d hi
                cases hy with
                | agg _ _ hl' _ hrep =>
                have hlt := (List.getElem?_eq_some_iff.1 hi).1
                have hv : ys[i]? = some (ys[i]'(by omega)) := Array.getElem?_eq_getElem (by omega)
                exact ⟨_, by rw [Nat.zero_add]; exact hv, hrep i d _ hi hv⟩
              refine ⟨?_, run_eqGuard_agg w _ _ _ _ _ _ hg, rfl⟩
              split at ht
              · rename_i m e hu
                simp only [Bool.and_eq_true, beq_iff_eq] at ht
                obtain ⟨⟨hm, hte⟩, hc⟩ := ht
                have hi : ∃ i, P.info? e = some i := by
                  cases hi : P.info? e with
                  | none => simp [Program.cellsOf, hi] at hc
                  | some i => exact ⟨i, rfl⟩
                obtain ⟨i, hi⟩ := hi
                rw [Op.equal, show Op.maxDepth = 9998 + 1 + 1 from rfl, run_equalIn_array w (9998 + 1) xs ys hu hi, hc, hm, ← hl, List.range_eq_range']
                exact run_eqItems (P := P) (w := w) 9998 hte as bs 0 r h3 rx ry
              · rename_i fs hu
                simp only [Bool.and_eq_true, beq_iff_eq, Bool.not_eq_true', List.all_eq_true, List.mem_range] at ht
                obtain ⟨⟨hm, hst⟩, hf⟩ := ht
                have hfo : P.fieldsOf t = fs := by simp [Program.fieldsOf, hu]
                rw [Op.equal, show Op.maxDepth = 9998 + 1 + 1 from rfl, run_equalIn_struct w (9998 + 1) t xs ys (by rw [hfo]; exact hu) hst, hfo]
                refine run_eqFields (P := P) (w := w) 9998 fs.toList as bs 0 r h3 (by simpa [hl] using hm) ?_ rx ry
                intro i f hi
                have hi' : fs[i]? = some f := by simpa using hi
                have hlt := (Array.getElem?_eq_some_iff.1 hi').1
                have := hf i (by omega)
                rw [hi'] at this
                simp only [Bool.and_eq_true, beq_iff_eq, bne_iff_ne] at this
                exact ⟨by omega, this.1.2, this.2⟩
              · cases ht
            · cases h3
          · cases h3
      obtain ⟨k1, k2, k3⟩ := key
      have hb : (binOp (if neq then .neq else .eql) t (a.eval xa) (a.eval xb)).run P w = .ok (.bool (if neq then !r else r)) w := by
        cases neq
        · simp only [Bool.false_eq_true, if_false]
          rw [binOp_eql k3]
          simp [k1]
        · simp only [if_true]
          rw [binOp_neq k3]
          simp [k1]
      exact h.goes hd (run_bin hop rfl rfl k2 hb) (.bool _)
    · cases hs
  · cases hs

end
end Go.Am
