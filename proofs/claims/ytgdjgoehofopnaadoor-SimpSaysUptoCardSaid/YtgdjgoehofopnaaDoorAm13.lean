/- make; the right to append taken out of a variable; objects that are written no more. -/
import Derived.Test.YtgdjgoehofopnaaDoorAm12
set_option linter.unusedSimpArgs false
set_option linter.unusedVariables false
set_option linter.unnecessarySimpa false
namespace Go.Am
open Go Go.Lib
section
variable {P : Program} {N : Nat} {V : Nat → Bool} {c0 c : Cx} {σ σ' : St} {a : Act} {w : World} {o : Oper}

theorem run_make {t e : TypeId} {i : TypeInfo} {z : Value} {n : Int} (hu : P.underlying t = some (.slice e)) (hi : P.info? e = some i) (hz : i.zero = some z) (hzs : z.cells.size = i.size) (h0 : 0 ≤ n) (hb : n * i.bytes ≤ 140737488351232) (hb2 : n ≤ 140737488351232) :
    ∃ C, (Instr.makeSlice t (.int .i64 n) (.int .i64 n)).run P w = .ok (.slice (some ⟨w.heap.size, 0, none⟩) n.toNat n.toNat) (w.alloc (.cells C e)) ∧ C.size = n.toNat * i.size ∧ ∀ k, k < n.toNat * i.size → C[k]? = some (z.cells[k % i.size]!) := by
  have hw : IntKind.i64.wrap n = n := by
    have h2 : (2 : Int) ^ 64 = 18446744073709551616 := by decide
    have h3 : (2 : Int) ^ 63 = 9223372036854775808 := by decide
    simp only [IntKind.wrap, IntKind.bits, IntKind.signed, h2, Bool.true_and]
    rw [show ((2 : Int) ^ (64 - 1)) = 9223372036854775808 from h3]
    have : n % 18446744073709551616 = n := Int.emod_eq_of_lt h0 (by omega)
    rw [this]
    split
    · rename_i hx
      simp at hx
      omega
    · rfl
  have hbig : ¬ ((i.bytes : Int) * n > 2 ^ 48) := by
    have : (2 : Int) ^ 48 = 281474976710656 := by decide
    rw [this, Int.mul_comm]
    omega
  have hn0 : ¬ n < 0 := by omega
  have hbig' : ¬ (281474976710656 < (i.bytes : Int) * n) := by
    rw [Int.mul_comm]
    omega
  have hroom : ¬ (n.toNat * i.bytes > roomBytes) := by
    unfold roomBytes
    have : ((n.toNat * i.bytes : Nat) : Int) ≤ 140737488351232 := by
      rw [Int.natCast_mul, Int.toNat_of_nonneg h0]
      exact hb
    omega
  refine ⟨(Array.range (n.toNat * i.size)).map (fun k => (if n.toNat * i.size = 0 then (#[] : Array Value) else z.cells)[k % (if n.toNat * i.size = 0 then (#[] : Array Value) else z.cells).size]!), ?_, by simp, fun k hk => ?_⟩
  · by_cases hl0 : n.toNat * i.size = 0
    · simp only [Instr.makeSlice, Sem.run_bind, run_underlying hu, Result.andThen_ok, asInt, asIntOf, typeInfo, run_program, hi, Sem.run_pure, hw]
      simp [hn0, hbig', askRoom, hroom, run_sizeOf' hi, hl0, newRow]
    · simp only [Instr.makeSlice, Sem.run_bind, run_underlying hu, Result.andThen_ok, asInt, asIntOf, typeInfo, run_program, hi, Sem.run_pure, hw]
      simp [hn0, hbig', askRoom, hroom, run_sizeOf' hi, hl0, newRow, zeroValue, typeInfo, hi, hz]
  · have hne : n.toNat * i.size ≠ 0 := by omega
    simp [hk, hne, hzs]

theorem mod_at {sz q r : Nat} (hr : r < sz) : (q * sz + r) % sz = r := by
  rw [Nat.add_comm, Nat.add_mul_mod_self_right, Nat.mod_eq_of_lt hr]

theorem flat_replicate {z : D} {sz n k : Nat} (hz : z.cells.length = sz) (hk : k < n * sz) : ((List.replicate n z).flatMap D.cells)[k]? = z.cells[k % sz]? := by
  have h0 : 0 < sz := by
    rcases Nat.eq_zero_or_pos sz with h | h
    · subst h; simp at hk
    · exact h
  induction n generalizing k with
  | zero => simp at hk
  | succ n ih =>
    rw [List.replicate_succ, List.flatMap_cons]
    by_cases h : k < sz
    · rw [List.getElem?_append_left (by omega), Nat.mod_eq_of_lt h]
    · rw [List.getElem?_append_right (by omega), hz, ih (by rw [Nat.succ_mul] at hk; omega)]
      congr 1
      conv => rhs; rw [show k = (k - sz) + 1 * sz by omega]
      rw [Nat.add_mul_mod_self_right]

theorem goes_mks (h : Sim P N V c0 c σ a w) {e bytes : Nat} {zd : D} {ao : AO} {x x2 : Operand} {t : TypeId} {i : TypeInfo} {z : Value} (ho : opr ao x = true) (ho2 : opr ao x2 = true) (hop : o.op = .makeSlice t x x2) (hu : P.underlying t = some (.slice e)) (hi : P.info? e = some i) (hby : i.bytes = bytes) (hz : i.zero = some z) (hzs : z.cells.size = i.size)
    (h0 : 0 < i.size) (hzc : constsOK zd.cells z.cells.toList = true) (hcl : zd.elem i.size = true) (hd : dstOK N V o.dst = true)
    (hs : stepF (.mks e zd bytes ao) o.dst σ = some σ') : Goes P N V c0 σ' a w o := by
  simp only [stepF] at hs
  split at hs
  · rename_i n hn
    split at hs
    · rename_i hb
      obtain ⟨hb0, hb1, hb2⟩ := hb
      injection hs with hs
      subst hs
      have hx := rep_int (h.val ho hn)
      have hx2 := rep_int (h.val ho2 hn)
      have hw := h.hw
      subst hw
      subst hby
      obtain ⟨C, k1, k2, k3⟩ := run_make (P := P) (w := c.w) hu hi hz hzs hb0 hb1 hb2
      obtain ⟨q1, q2, q3⟩ := constsOK_rep (w := c.w) (F := c.F) (j := c.j) hzc
      have hlen : (List.replicate n.toNat zd).length = n.toNat := List.length_replicate
      have hel : ∀ x ∈ List.replicate n.toNat zd, x.elem i.size = true := by
        intro x hx
        rw [List.eq_of_mem_replicate hx]
        exact hcl
      refine h.goesNew hd (k := (List.replicate n.toNat zd).length * i.size) (ow := some (.slot (o.dst.getD 0))) (Ext.alloc _ _) (by simp only [execOp, hop, Sem.run_bind, hx, hx2, k1, Result.andThen_ok]; rfl) (fun m hm => ?_)
      rw [hm, Option.getD_some]
      have hfin := own_new (P := P) (c := c) (o' := .slot m) (us := C.toList) (C := C) (xs := List.replicate n.toNat zd) (cap := n.toNat) (k := (List.replicate n.toNat zd).length * i.size) h.wf (Ext.alloc _ (.cells C e)) (e := e) (sz := i.size) (by rw [hi]; rfl) h0 (by rw [hlen]; simp only [bnd]; omega) hel (heap_alloc_new _ _) (by rw [hlen]; exact Nat.le_refl _) (by simp only [maxLen]; omega) k2
        (by rw [hlen, ← k2, ← Array.length_toList, List.take_length]) rfl (fun j d hd' => by
          have hj := (List.getElem?_eq_some_iff.1 hd').1
          rw [flat_length hel, hlen] at hj
          rw [flat_replicate (elem_iff.1 hcl).1 hj] at hd'
          have hm' : j % i.size < i.size := Nat.mod_lt _ h0
          refine ⟨z.cells[j % i.size]!, by rw [Array.getElem?_toList]; exact k3 j hj, q3 (j % i.size) d _ hd' ?_⟩
          rw [Array.getElem?_toList, Array.getElem?_eq_getElem (by omega), getElem!_pos _ _ (by omega)])
      rw [hlen] at hfin ⊢
      exact hfin
    · cases hs
  · cases hs

theorem goes_mksH (h : Sim P N V c0 c σ a w) {e bytes : Nat} {zd : D} {ao : AO} {x x2 : Operand} {t : TypeId} {i : TypeInfo} {z : Value} (ho : opr ao x = true) (ho2 : opr ao x2 = true) (hop : o.op = .makeSlice t x x2) (hu : P.underlying t = some (.slice e)) (hi : P.info? e = some i) (hby : i.bytes = bytes) (hz : i.zero = some z) (hzs : z.cells.size = i.size)
    (h0 : 0 < i.size) (hzc : constsOK zd.cells z.cells.toList = true) (hcl : zd.elem i.size = true) (hd : dstOK N V o.dst = true)
    (hs : stepF (.mksH zd bytes ao) o.dst σ = some σ') : Goes P N V c0 σ' a w o := by
  simp only [stepF] at hs
  split at hs
  · rename_i n hn
    split at hs
    · rename_i hb
      obtain ⟨hb0, hb1, hb2⟩ := hb
      injection hs with hs
      subst hs
      have hx := rep_int (h.val ho hn)
      have hx2 := rep_int (h.val ho2 hn)
      subst hby
      obtain ⟨C, k1, k2, k3⟩ := run_make (P := P) (w := w) hu hi hz hzs hb0 hb1 hb2
      obtain ⟨q1, q2, q3⟩ := constsOK_rep (w := c.w) (F := c.F) (j := c.j) hzc
      have hzl := (elem_iff.1 hcl).1
      have hel : ∀ x ∈ List.replicate n.toNat zd, x.elem i.size = true := by
        intro x hx
        rw [List.eq_of_mem_replicate hx]
        exact hcl
      have hfl : (List.replicate n.toNat zd.cells).flatten = (List.replicate n.toNat zd).flatMap D.cells := by
        rw [List.flatMap_def, List.map_replicate]
      have hfll : ((List.replicate n.toNat zd).flatMap D.cells).length = n.toNat * i.size := by rw [flat_length hel, List.length_replicate]
      refine h.newObj hd (Ext.alloc _ _) (heap_alloc_new _ _) (by rw [hfl, hfll, k2]; exact Nat.le_refl _) (fun x hx => ?_) (fun j d hd' => ?_) (by simp only [execOp, hop, Sem.run_bind, hx, hx2, k1, Result.andThen_ok]; rfl) (fun c' hw' hj' => ?_)
      · rw [hfl] at hx
        obtain ⟨y, hy, hxy⟩ := List.mem_flatMap.1 hx
        exact (elem_iff.1 (hel y hy)).2.2 x hxy
      · rw [hfl] at hd'
        have hj := (List.getElem?_eq_some_iff.1 hd').1
        rw [hfll] at hj
        rw [flat_replicate hzl hj] at hd'
        have hm' : j % i.size < i.size := Nat.mod_lt _ h0
        refine ⟨z.cells[j % i.size]!, k3 j hj, q3 (j % i.size) d _ hd' ?_⟩
        rw [Array.getElem?_toList, Array.getElem?_eq_getElem (by omega), getElem!_pos _ _ (by omega)]
      · refine .ref _ 0 n.toNat _ _ n.toNat hj' (Nat.le_refl _) (by simp only [bnd]; omega) ⟨C, e, (0, 0), ?_, ?_⟩
        · rw [hw']
          exact heap_alloc_new _ _
        · rw [hzl, k2]
          omega
    · cases hs
  · cases hs

/-- The right to append is taken out of a place. -/
theorem Sim.takeCell (h : Sim P N V c0 c σ a w) {l : Lv} {v : Value} {e : Nat} {xs : List D} {σ1 : St} (hv : LvRel c (tmOf a) l v) (hr : σ.rd l 1 = some [.own e xs]) (hwr : σ.wr l [.list xs] = some σ1) (o' : Owner) (ho' : ∀ n, o' ≠ .var n ∧ ∀ i, o' ≠ .vc n i) (hob : ∀ b, o' ≠ .ob b ∧ ∀ i, o' ≠ .oc b i) :
    ∃ B off u c', v = .pointer (some ⟨B, off, none⟩) ∧ w.cell? ⟨B, off, none⟩ = some u ∧ Sim P N V c0 c' σ1 a w ∧ OwnRel P c' o' e xs u := by
  have hw := h.hw
  subst hw
  -- a block's cell hands its right on
  have blk : ∀ (B : Nat) (ow : Owner) (oc : Nat → Owner) (cs0 cs1 : List D) (off : Nat), BlockRel P c B ow oc cs0 → cut cs0 off 1 = some [.own e xs] → splice cs0 off [.list xs] = some cs1 → (∀ i j, oc i = oc j → i = j) → (∀ i, oc i ≠ ow) →
      ∃ u, c.w.cell? ⟨B, off, none⟩ = some u ∧ OwnRel P c (oc off) e xs u ∧ Fr c (c.give u o') ∧ Wf (c.give u o') ∧ Keeps c (c.give u o') (fun x => x = oc off) ∧ OwnRel P (c.give u o') o' e xs u ∧ BlockRel P (c.give u o') B ow oc cs1 := by
    intro B ow oc cs0 cs1 off hb hc hsp hinj hne
    obtain ⟨C, e', h1, h2, h3, h4, h5⟩ := hb
    obtain ⟨hlc, hcut⟩ := cut_spec hc
    obtain ⟨s1, s2, s3⟩ := splice_spec hsp
    have h0 : cs0[off]? = some (.own e xs) := by
      have := congrArg (·[0]?) hcut
      simp only [List.getElem?_take, List.getElem?_drop, Nat.add_zero, List.getElem?_cons_zero, Nat.zero_lt_one, if_true] at this
      exact this.symm
    obtain ⟨_, u, hu, hcr⟩ := h5 off _ h0
    have hown : OwnRel P c (oc off) e xs u := hcr
    obtain ⟨k1, k2, k3, k4⟩ := h.hand (o' := o') hown
    have hle := c.give_le u o'
    have hBO : (c.give u o').O B = some ow := by
      show (if u.ownBlock = some B then some o' else c.O B) = some ow
      rw [if_neg]
      · exact h3
      · intro e''
        have := (hown.block B e'').1
        rw [h3] at this
        injection this with this
        exact hne off this.symm
    refine ⟨u, by rw [cell_of_row c.w B off C e' (0, 0) h1]; exact hu, hown, k1, k2, k3, k4, C, e', h1, by omega, hBO, h4, fun i d hd => ?_⟩
    rw [s3] at hd
    simp only [List.length_cons, List.length_nil, Nat.zero_add] at hd
    split at hd
    · rename_i hi
      have : i = off := by omega
      subst this
      simp at hd
      subst hd
      exact ⟨rfl, u, hu, CellRel.of_rep (hown.rep.le hle)⟩
    · rename_i hi
      obtain ⟨p1, u', p2, p3⟩ := h5 i d hd
      exact ⟨p1, u', p2, p3.keeps (X := fun x => x = oc off) hle k3 (fun e => hi (by have := hinj _ _ e; omega))⟩
  cases l with
  | var t off =>
    simp only [St.rd] at hr
    split at hr
    · rename_i cs0 he
      have hs := h.slots t
      rw [he] at hs
      obtain ⟨B, q1, hb⟩ := hs
      obtain ⟨B', q2, q3⟩ := hv
      rw [q1] at q2
      cases q2
      simp only [St.wr, he] at hwr
      split at hwr
      · rename_i cs1 hsp
        injection hwr with hwr
        subst hwr
        obtain ⟨u, p1, p2, p3, p4, p5, p6, p7⟩ := blk B (.var t) (.vc t) cs0 cs1 off hb hr hsp (by intro i j e; injection e) (by simp)
        refine ⟨B, off, u, c.give u o', q3, p1, ⟨rfl, p4, h.fr.trans p3, h.size, fun m hm => ?_, fun m cs'' hm => ?_, fun m t' off' hm => ?_, fun m => ?_, h.H.keeps p3.le p5 rfl (by simp) (by simp), h.dfr⟩, p6⟩
        · show upd σ.env t _ m = .und
          rw [upd]
          split
          · rename_i e; subst e; have := h.out m hm; rw [he] at this; cases this
          · exact h.out m hm
        · have hm' : upd σ.env t (.var cs1) m = .var cs'' := hm
          rw [upd] at hm'
          split at hm'
          · rename_i e; rw [e]; exact h.vars t cs0 he
          · exact h.vars m cs'' hm'
        · have hm' : upd σ.env t (.var cs1) m = .loc t' off' := hm
          rw [upd] at hm'
          split at hm'
          · cases hm'
          · exact h.locs m t' off' hm'
        · show SlotRel P _ _ m (upd σ.env t (.var cs1) m) _
          rw [upd]
          split
          · rename_i e; subst e
            exact ⟨B, q1, p7⟩
          · rename_i e
            exact (h.slots m).keeps p3.le p5 (by simp) (by simp) (by intro i hx; injection hx with h1 h2; exact e h1)
      · cases hwr
    · cases hr
  | obj b off =>
    simp only [St.rd] at hr
    split at hr
    · rename_i cs0 he
      obtain ⟨B, q1, hb⟩ := h.obj he
      have hv' : Rep c.w c.F c.j (.ptr b off) v := hv
      simp only [St.wr, he] at hwr
      split at hwr
      · rename_i cs1 hsp
        injection hwr with hwr
        subst hwr
        obtain ⟨u, p1, p2, p3, p4, p5, p6, p7⟩ := blk B (.ob b) (.oc b) cs0 cs1 off hb hr hsp (by intro i j e; injection e) (by simp)
        cases hv' with
        | ptr _ _ B' hB' =>
        rw [q1] at hB'
        cases hB'
        refine ⟨B, off, u, c.give u o', rfl, p1, ⟨rfl, p4, h.fr.trans p3, h.size, h.out, h.vars, h.locs, fun m => (h.slots m).keeps p3.le p5 (by simp) (by simp) (by simp), ⟨?_, fun b' cs hb' => ?_⟩, h.dfr⟩, p6⟩
        · show c.j.length = _
          rw [List.length_set]; exact h.H.1
        · by_cases e : b' = b
          · subst e
            have hb'' : (σ.H.set b' (some cs1))[b']? = some (some cs) := hb'
            rw [List.getElem?_set_self'] at hb''
            cases hσ : σ.H[b']? with
            | none => rw [hσ] at hb''; cases hb''
            | some x =>
              rw [hσ] at hb''
              simp at hb''
              subst hb''
              exact ⟨B, q1, p7⟩
          · have hb'' : (σ.H.set b (some cs1))[b']? = some (some cs) := hb'
            rw [List.getElem?_set_ne (by omega)] at hb''
            obtain ⟨B', r1, r2⟩ := h.H.2 b' cs hb''
            exact ⟨B', r1, r2.keeps p3.le p5 (by simp) (by intro i hx; injection hx with h1 h2; exact e h1)⟩
      · cases hwr
    · cases hr
  | imm cs => simp [St.wr] at hwr

theorem goes_ldx (h : Sim P N V c0 c σ a w) {n : Nat} {x : Operand} {t : TypeId} (ho : opr (.t n) x = true) (hop : o.op = .load t x) (hsz : szOf P t = some none) (hd : dstOK N V o.dst = true)
    (hs : stepF (.ldx n) o.dst σ = some σ') : Goes P N V c0 σ' a w o := by
  have hagg : (isAgg t).run P w = .ok false w := by
    obtain ⟨_, i, _, hi, hcase⟩ := szOf_spec (w := w) hsz
    rcases hcase with ⟨n, h1, _⟩ | ⟨_, h1⟩
    · cases h1
    · exact h1
  have hrun : ∀ B off u, tmOf a n = .pointer (some ⟨B, off, none⟩) → w.cell? ⟨B, off, none⟩ = some u → (execOp a.eval o).run P w = .ok (.value u) w := by
    intro B off u hv hu
    simp only [execOp, hop, opr_tmp (.inl ho) a, hv, Instr.loadAt, Instr.sureAddr, Sem.run_bind, Sem.run_pure, Result.andThen_ok, loadVar, hagg, Bool.false_eq_true, if_false, load, Sem.run]
    simp [hu]
  simp only [stepF] at hs
  split at hs
  · rename_i l hl
    split at hs
    · rename_i e xs hr
      split at hs
      · rename_i σ1 hwr
        injection hs with hs
        subst hs
        obtain ⟨B, off, u, c', q1, q2, q3, q4⟩ := h.takeCell (h.lv hl).1 hr hwr (.slot (o.dst.getD 0)) (by simp) (by simp)
        exact ⟨c', w, .inl ⟨u, hrun B off u q1 q2, q3.put (dstOK_spec hd) (fun m hm => by rw [hm] at q4; exact q4) (by simp) (by simp)⟩⟩
      · cases hs
    · rename_i d hne hr
      injection hs with hs
      subst hs
      obtain ⟨B, off, hv, _, hcells⟩ := h.rd (h.lv hl).1 hr
      obtain ⟨_, u, hu, hru⟩ := hcells 0 d rfl
      rw [Nat.add_zero] at hu
      refine h.goes hd (hrun B off u hv hu) ?_
      cases d <;> first | exact hru | exact absurd rfl (hne _ _)
    · cases hs
  · cases hs

end
end Go.Am
