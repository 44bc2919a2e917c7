/- Conversions, literals, what is appended, objects. -/
import Derived.Test.YtgdjgoehofopnaaDoorAm9
import Derived.Lib.ConvBytes
set_option linter.unusedSimpArgs false
set_option linter.unusedVariables false
set_option linter.unnecessarySimpa false
namespace Go.Am
open Go Go.Lib
section
variable {P : Program} {N : Nat} {V : Nat → Bool} {c0 c : Cx} {σ σ' : St} {a : Act} {w : World} {o : Oper}

/-- A world with one block more. -/
structure Ext (w w' : World) : Prop where
  os : w'.os = w.os
  tape : w'.tape = w.tape
  output : w'.output = w.output
  size : w'.heap.size = w.heap.size + 1
  old : ∀ B, B < w.heap.size → w'.heap[B]? = w.heap[B]?

def Cx.ext (c : Cx) (w' : World) (k : Nat) (o : Option Owner) (j : List Nat) : Cx :=
  { w := w', F := fun B => if B = c.w.heap.size then k else c.F B, j := c.j ++ j, O := fun B => if B = c.w.heap.size then o else c.O B }

theorem Cx.ext_spec {w' : World} (hw : Wf c) (he : Ext c.w w') (k : Nat) (o : Option Owner) (j : List Nat) : Fr c (c.ext w' k o j) ∧ Wf (c.ext w' k o j) ∧ Keeps c (c.ext w' k o j) (fun _ => False) := by
  refine ⟨⟨he.os, he.tape, he.output, ⟨by simp [Cx.ext, he.size], fun B => ?_, fun B i v hi hv => ?_, fun B C' e' fr hB => ?_, fun b B hb => ?_⟩, fun B hB hO => ⟨he.old B hB, if_neg (by omega), ?_⟩⟩, fun B hB => ?_, fun B o' hB _ => ?_⟩
  · show c.F B ≤ if B = c.w.heap.size then k else c.F B
    split
    · rename_i e; rw [(hw B (by omega)).2]; omega
    · omega
  · have hlt : B < c.w.heap.size := by
      rcases Nat.lt_or_ge B c.w.heap.size with h | h
      · exact h
      · rw [(hw B h).2] at hi; omega
    exact (World.cell?_of_block (w := c.w) (a := ⟨B, i, none⟩) (he.old B hlt)).trans hv
  · have hlt : B < c.w.heap.size := (Array.getElem?_eq_some_iff.1 hB).1
    exact ⟨C', e', fr, (he.old B hlt).trans hB, Nat.le_refl _⟩
  · show (c.j ++ j)[b]? = some B
    rw [List.getElem?_append_left (List.getElem?_eq_some_iff.1 hb).1]
    exact hb
  · show (if B = c.w.heap.size then o else c.O B) = none
    rw [if_neg (by omega)]; exact hO
  · have hB' : c.w.heap.size + 1 ≤ B := by rw [← he.size]; exact hB
    refine ⟨?_, ?_⟩
    · show (if B = c.w.heap.size then o else c.O B) = none
      rw [if_neg (by omega)]; exact (hw B (by omega)).1
    · show (if B = c.w.heap.size then k else c.F B) = 0
      rw [if_neg (by omega)]; exact (hw B (by omega)).2
  · have hlt : B < c.w.heap.size := by
      rcases Nat.lt_or_ge B c.w.heap.size with h | h
      · exact h
      · rw [(hw B h).1] at hB; cases hB
    exact ⟨he.old B hlt, if_neg (by omega), if_neg (by omega)⟩

/-- A value that lies in a new block. -/
theorem Sim.goesNew (h : Sim P N V c0 c σ a w) (hd : dstOK N V o.dst = true) {w' : World} {v : Value} {d : D} {k : Nat} {ow : Option Owner} (he : Ext w w') (hrun : (execOp a.eval o).run P w = .ok (.value v) w')
    (hr : ∀ n, o.dst = some n → CellRel P (c.ext w' k ow []) (.slot n) d v) : Goes P N V c0 (σ.put o.dst (.d d)) a w o := by
  have hw := h.hw
  subst hw
  obtain ⟨k1, k2, k3⟩ := Cx.ext_spec h.wf he k ow []
  have h' := h.world k1 k2 k3 (by simp [Cx.ext])
  exact ⟨_, w', .inl ⟨v, hrun, h'.put (dstOK_spec hd) (fun n hn => hr n hn) (by simp) (by simp)⟩⟩

theorem Ext.alloc (w : World) (o : Obj) : Ext w (w.alloc o) := ⟨rfl, rfl, rfl, by simp, fun B hB => RowKit.Below.heap_alloc _ _ B hB⟩
theorem Ext.drew {w' : World} (h : Ext w w') : Ext w w'.drew := ⟨h.os, h.tape, h.output, h.size, h.old⟩
theorem Ext.ofDrew {w' : World} (h : Ext w.drew w') : Ext w w' := ⟨h.os, h.tape, h.output, h.size, h.old⟩

theorem ofBytes_elem (s : List UInt8) : ∀ x ∈ ofBytes s, x.elem 1 = true := by
  intro x hx
  simp only [ofBytes, List.mem_map] at hx
  obtain ⟨b, _, rfl⟩ := hx
  rfl
theorem ofBytes_flat (s : List UInt8) : (ofBytes s).flatMap D.cells = ofBytes s := by
  induction s with
  | nil => rfl
  | cons b s ih => simp only [ofBytes, List.map_cons, List.flatMap_cons] at ih ⊢; rw [ih]; rfl

theorem goes_conv_bytes (h : Sim P N V c0 c σ a w) {aa : AO} {xa : Operand} {s t e : TypeId} {ds : TypeDesc} (ho : opr aa xa = true) (hop : o.op = .convert s t xa) (hu : P.underlying s = some ds) (hu' : P.underlying t = some (.slice e)) (he : P.underlying e = some (.int .u8)) (hd : dstOK N V o.dst = true)
    (hs : stepF (.conv .bytes aa) o.dst σ = some σ') : Goes P N V c0 σ' a w o := by
  simp only [stepF] at hs
  split at hs
  · rename_i e1 _; cases e1
  · rename_i bs e1 h1
    injection hs with hs
    subst hs
    obtain ⟨hx, hl⟩ := rep_str (h.val ho h1)
    have hext : Ext w (bytesWorld w e ⟨bs.toArray⟩) := ⟨rfl, rfl, rfl, bytesWorld_size _ _ _, fun B hB => bytesWorld_at_old _ _ _ B hB⟩
    refine h.goesNew hd (k := bs.length) (ow := none) (v := .slice (some ⟨w.heap.size, 0, none⟩) (⟨bs.toArray⟩ : ByteArray).size (grownCap w (⟨bs.toArray⟩ : ByteArray).size 0 e)) hext (by simp only [execOp, hop, hx, Sem.run_bind, Go.Lib.run_convert_string_bytes w s t e _ hu hu' he, Result.andThen_ok]; rfl) (fun n _ => CellRel.of_rep ?_)
    have hw := h.hw
    subst hw
    rw [size_ofList]
    have hF : (if c.w.heap.size = c.w.heap.size then bs.length else c.F c.w.heap.size) = bs.length := if_pos rfl
    have := Rep.list (w := bytesWorld c.w e ⟨bs.toArray⟩) (F := (c.ext (bytesWorld c.w e ⟨bs.toArray⟩) bs.length none []).F) (j := (c.ext (bytesWorld c.w e ⟨bs.toArray⟩) bs.length none []).j) (ofBytes bs) c.w.heap.size 0 (grownCap c.w bs.length 0 e) 1
      (fun i => .int .u8 ((bs.getD i 0).toNat : Int)) (by simp only [ofBytes, List.length_map]; exact grownCap_ge _ _ _ _) (by simpa [ofBytes] using hl) (ofBytes_elem bs) (fun i hi => by
        show 0 + i < (if c.w.heap.size = c.w.heap.size then bs.length else c.F c.w.heap.size)
        rw [hF]; simp [ofBytes] at hi; omega) (fun i hi => by
        have hi' : i < bs.length := by simpa [ofBytes] using hi
        have := bytesWorld_cell c.w e ⟨bs.toArray⟩ i (by rw [size_ofList]; exact hi')
        rw [Nat.zero_add, this]) (fun i d hd => by
        rw [ofBytes_flat] at hd
        simp only [ofBytes, List.getElem?_map, Option.map_eq_some_iff] at hd
        obtain ⟨b, hb, rfl⟩ := hd
        rw [List.getD_eq_getElem?_getD, hb]
        exact .int _ _)
    have hlen : (ofBytes bs).length = bs.length := by simp [ofBytes]
    rw [hlen] at this
    exact this
  · rename_i e1 _; cases e1
  · rename_i e1 _; cases e1
  · cases hs

theorem toBytes_spec : ∀ {xs : List D} {s : List UInt8}, toBytes xs = some s → xs.length = s.length ∧ (∀ x ∈ xs, x.elem 1 = true) ∧ ∃ ns : List Int, xs = ns.map (D.int .u8) ∧ s = ns.map (fun n => UInt8.ofNat n.toNat)
  | [], s, h => by simp [toBytes] at h; subst h; exact ⟨rfl, by simp, [], rfl, rfl⟩
  | x :: xs, s, h => by
    simp only [toBytes] at h
    split at h
    · rename_i b bs h1 h2
      injection h with h
      subst h
      obtain ⟨k1, k2, ns, rfl, rfl⟩ := toBytes_spec h2
      unfold toByte at h1
      split at h1
      · rename_i n
        injection h1 with h1
        subst h1
        refine ⟨by simp, ?_, n :: ns, rfl, rfl⟩
        intro y hy
        rcases List.mem_cons.1 hy with rfl | hy
        · rfl
        · exact k2 y hy
      · cases h1
    · cases h

theorem goes_conv_str (h : Sim P N V c0 c σ a w) {aa : AO} {xa : Operand} {s t e : TypeId} (ho : opr aa xa = true) (hop : o.op = .convert s t xa) (hu : P.underlying s = some (.slice e)) (he : P.underlying e = some (.int .u8)) (hu' : P.underlying t = some .string) (hd : dstOK N V o.dst = true)
    (hs : stepF (.conv .str aa) o.dst σ = some σ') : Goes P N V c0 σ' a w o := by
  simp only [stepF] at hs
  split at hs
  · rename_i e1 _; cases e1
  · rename_i e1 _; cases e1
  · rename_i d e1 h1
    split at hs
    · rename_i xs hx
      split at hs
      · rename_i bs hb
        injection hs with hs
        subst hs
        have hr := h.val ho h1
        obtain ⟨k1, k2, ns, hns, hbs⟩ := toBytes_spec hb
        obtain ⟨us, hE⟩ := h.elems hr hx k2
        obtain ⟨A, cap, hv⟩ := hE.form
        have hflat : xs.flatMap D.cells = xs := by
          rw [hns]
          clear hns hE hb hbs hx k1 k2 hv
          induction ns with
          | nil => rfl
          | cons n ns ih => simp only [List.map_cons, List.flatMap_cons, ih]; rfl
        have hus : us = ns.map (Value.int .u8) := by
          apply List.ext_getElem?
          intro i
          have hlen := hE.len
          rw [Nat.mul_one] at hlen
          rcases Nat.lt_or_ge i xs.length with hi | hi
          · have hxi : xs[i]? = some (xs[i]) := List.getElem?_eq_getElem hi
            obtain ⟨u, hu, hru⟩ := hE.rep i xs[i] (by rw [hflat]; exact hxi)
            rw [hu]
            have hni : i < ns.length := by rw [hns] at hi; simpa using hi
            have : xs[i] = D.int .u8 ns[i] := by
              have := congrArg (·[i]?) hns
              simp only [List.getElem?_map, hxi, List.getElem?_eq_getElem hni, Option.map_some] at this
              exact Option.some.inj this
            rw [this] at hru
            rw [List.getElem?_map, List.getElem?_eq_getElem hni, rep_int hru]
            rfl
          · rw [List.getElem?_eq_none (by omega), List.getElem?_eq_none (by rw [hns] at hi; simpa using hi)]
        have hl : bs.length ≤ bnd := by rw [← k1]; exact hE.bnd
        refine h.goes hd (v := .string ⟨bs.toArray⟩) ?_ (.str _ hl)
        have hconv : (convert s t (a.eval xa)).run P w = .ok (.string ⟨bs.toArray⟩) w := by
          rw [hv, run_convert_bytes_string w s t e A _ cap hu he hu']
          cases A with
          | none =>
            have hf := hE.first w rfl
            rw [hv] at hf
            simp only [Builtin.firstCells, Sem.run_pure] at hf
            have h0 : us = [] := by
              injection hf with hf
              have := congrArg Array.toList hf
              simpa using this.symm
            rw [hus, List.map_eq_nil_iff] at h0
            subst h0
            subst hbs
            simp [Conv.bytesToString]
            rfl
          | some A =>
            have hf := hE.first w rfl
            rw [hv] at hf
            simp only [Builtin.firstCells, Nat.mul_one] at hf
            rw [hus] at hf
            rw [run_bytesToString w A _ cap ns hf, foldl_push_bytes, hbs]
            simp [ByteArray.empty, ByteArray.emptyWithCapacity]
            rfl
        simp only [execOp, hop, Sem.run_bind, hconv, Result.andThen_ok]
        rfl
      · cases hs
    · cases hs
  · rename_i e1 _; cases e1
  · cases hs

/-- Parts are put into a whole. -/
theorem fill_cells (cells : Array Value) (off : Nat) : ∀ (l : List Value) (k : Nat) (C : Array Value), off + k + l.length ≤ C.size →
    ((l.zipIdx k).foldl (fun cs (p : Value × Nat) => cs.setIfInBounds (off + p.2) p.1) C).size = C.size ∧
    ∀ i, ((l.zipIdx k).foldl (fun cs (p : Value × Nat) => cs.setIfInBounds (off + p.2) p.1) C)[i]? = if off + k ≤ i ∧ i < off + k + l.length then l[i - off - k]? else C[i]?
  | [], k, C, _ => ⟨rfl, fun i => by simp; intro h1 h2; omega⟩
  | u :: l, k, C, h => by
    simp only [List.length_cons] at h
    obtain ⟨k1, k2⟩ := fill_cells cells off l (k + 1) (C.setIfInBounds (off + k) u) (by simp; omega)
    simp only [List.zipIdx_cons, List.foldl_cons]
    refine ⟨by rw [k1]; simp, fun i => ?_⟩
    rw [k2]
    by_cases h1 : i < off + k
    · rw [if_neg (by omega), if_neg (by simp; omega), Array.getElem?_setIfInBounds_ne (by omega)]
    · by_cases h2 : i = off + k
      · subst h2
        rw [if_neg (by omega), if_pos (by simp), Array.getElem?_setIfInBounds_self_of_lt (by omega)]
        simp [show off + k - off - k = 0 by omega]
      · by_cases h3 : i < off + k + (l.length + 1)
        · rw [if_pos (by omega), if_pos (by simp; omega)]
          rw [show i - off - k = (i - off - (k + 1)) + 1 by omega]
          simp
        · rw [if_neg (by omega), if_neg (by simp; omega), Array.getElem?_setIfInBounds_ne (by omega)]

theorem zip_arr (vs : Array Value) (off : Nat) (C : Array Value) : (vs.zipIdx.foldl (fun cs (p : Value × Nat) => cs.setIfInBounds (off + p.2) p.1) C) = ((vs.toList.zipIdx 0).foldl (fun cs (p : Value × Nat) => cs.setIfInBounds (off + p.2) p.1) C) := by
  rw [← Array.foldl_toList]
  simp [Array.toList_zipIdx]

def CellsRep (w : World) (F : Nat → Nat) (j : List Nat) (cs : List D) (C : Array Value) : Prop :=
  cs.length = C.size ∧ (∀ d ∈ cs, d.one = true) ∧ ∀ (i : Nat) (d : D) (v : Value), cs[i]? = some d → C[i]? = some v → Rep w F j d v

def partsOK (place : Nat → Option (Nat × Nat)) : List (Nat × Nat × AO) → List (Nat × Operand) → Bool
  | [], [] => true
  | (off, sz, ao) :: ps, (i, x) :: qs => (match place i with | some (off', sz') => off' == off && sz' == sz | none => false) && opr ao x && partsOK place ps qs
  | _, _ => false

theorem run_fill (h : Sim P N V c0 c σ a w) {place : Nat → Option (Nat × Nat)} : ∀ {ps : List (Nat × Nat × AO)} {qs : List (Nat × Operand)} {z cs : List D} {C : Array Value}, partsOK place ps qs = true → σ.fillParts z ps = some cs → CellsRep c.w c.F c.j z C →
    ∃ C', Instr.fill place C (qs.map fun (i, x) => (i, a.eval x)) = some C' ∧ CellsRep c.w c.F c.j cs C'
  | [], [], z, cs, C, _, hf, hz => by
    simp only [St.fillParts, Option.some.injEq] at hf
    subst hf
    exact ⟨C, rfl, hz⟩
  | (off, sz, ao) :: ps, (i, x) :: qs, z, cs, C, hp, hf, hz => by
    simp only [partsOK, Bool.and_eq_true] at hp
    obtain ⟨⟨hp1, hp2⟩, hp3⟩ := hp
    simp only [St.fillParts] at hf
    split at hf
    · rename_i d hd
      split at hf
      · rename_i hc
        obtain ⟨hc1, hc2⟩ := hc
        split at hf
        · rename_i z' hsp
          obtain ⟨s1, s2, s3⟩ := splice_spec hsp
          rw [List.length_map] at s1
          have hr := h.val hp2 hd
          obtain ⟨r1, r2⟩ := rep_cells_of hr hc2
          split at hp1
          · rename_i off' sz' hpl
            rw [Bool.and_eq_true, beq_iff_eq, beq_iff_eq] at hp1
            obtain ⟨rfl, rfl⟩ := hp1
            obtain ⟨z1, z2, z3⟩ := hz
            obtain ⟨f1, f2⟩ := fill_cells #[] off' (a.eval x).cells.toList 0 C (by simp; omega)
            have hz' : CellsRep c.w c.F c.j z' ((a.eval x).cells.zipIdx.foldl (fun cs (p : Value × Nat) => cs.setIfInBounds (off' + p.2) p.1) C) := by
              rw [zip_arr]
              refine ⟨by rw [f1]; omega, fun y hy => ?_, fun k y u hy hu => ?_⟩
              · obtain ⟨k, hk⟩ := List.mem_iff_getElem?.1 hy
                rw [s3] at hk
                split at hk
                · rw [List.getElem?_map, Option.map_eq_some_iff] at hk
                  obtain ⟨y', hy', rfl⟩ := hk
                  rw [copy_one]
                  exact List.all_eq_true.1 hc2 _ (List.mem_of_getElem? hy')
                · exact z2 y (List.mem_of_getElem? hk)
              · rw [s3] at hy
                rw [f2] at hu
                simp only [Nat.add_zero, Nat.sub_zero, Array.length_toList, List.length_map] at hy hu
                split at hy
                · rename_i hk
                  rw [if_pos (by omega)] at hu
                  rw [List.getElem?_map, Option.map_eq_some_iff] at hy
                  obtain ⟨y', hy', rfl⟩ := hy
                  obtain ⟨u', hu', hru⟩ := r2 _ y' hy'
                  simp only [Array.getElem?_toList] at hu
                  rw [hu'] at hu
                  cases hu
                  exact hru.copy
                · rename_i hk
                  rw [if_neg (by omega)] at hu
                  exact z3 k y u hy hu
            obtain ⟨C', g1, g2⟩ := run_fill h hp3 hf hz'
            refine ⟨C', ?_, g2⟩
            simp only [List.map_cons, Instr.fill, hpl]
            rw [if_neg (by simp; omega)]
            exact g1
          · cases hp1
        · cases hf
      · cases hf
    · cases hf
  | [], _ :: _, _, _, _, hp, _, _ => by simp [partsOK] at hp
  | _ :: _, [], _, _, _, hp, _, _ => by simp [partsOK] at hp

/-- Wholes are built alike. -/
def buildOK (P : Program) (t : TypeId) (z : List D) (ps : List (Nat × Nat × AO)) (qs : List (Nat × Operand)) : Bool :=
  match P.info? t, P.underlying t with
  | some it, some (.array _ e) => match it.zero, P.info? e with
    | some zv, some ie => constsOK z zv.cells.toList && partsOK (fun i => some (i * ie.size, ie.size)) ps qs
    | _, _ => false
  | some it, some (.struct fields) => match it.zero, fields.toList.mapM (fun f => (P.info? f.type).map fun i => (f.offset, i.size)) with
    | some zv, some places => constsOK z zv.cells.toList && partsOK (places.toArray[·]?) ps qs
    | _, _ => false
  | _, _ => false

theorem cellsRep_consts {F : Nat → Nat} {j : List Nat} {z : List D} {C : Array Value} (h : constsOK z C.toList = true) : CellsRep w F j z C := by
  obtain ⟨k1, k2, k3⟩ := constsOK_rep (w := w) (F := F) (j := j) h
  exact ⟨by simpa using k1, k2, fun i d v hd hv => k3 i d v hd (by simpa using hv)⟩

theorem goes_build (h : Sim P N V c0 c σ a w) {t : TypeId} {z : List D} {ps : List (Nat × Nat × AO)} {parts : Array (Nat × Operand)} (hop : o.op = .build t parts) (hb : buildOK P t z ps parts.toList = true) (hd : dstOK N V o.dst = true)
    (hs : stepF (.build z ps) o.dst σ = some σ') : Goes P N V c0 σ' a w o := by
  simp only [stepF] at hs
  split at hs
  · rename_i cs hf
    injection hs with hs
    subst hs
    have key : ∃ C', P.built t (parts.map fun (i, x) => (i, a.eval x)).toList = some C' ∧ CellsRep c.w c.F c.j cs C' := by
      have hl : (parts.map fun (i, x) => (i, a.eval x)).toList = parts.toList.map fun (i, x) => (i, a.eval x) := by simp
      rw [hl]
      unfold buildOK at hb
      unfold Program.built
      split at hb
      · rename_i it n e h1 h2
        split at hb
        · rename_i zv ie h3 h4
          rw [Bool.and_eq_true] at hb
          simp only [h1, h2, h3, h4]
          exact run_fill h hb.2 hf (cellsRep_consts hb.1)
        · cases hb
      · rename_i it fs h1 h2
        split at hb
        · rename_i zv pl h3 h4
          rw [Bool.and_eq_true] at hb
          simp only [h1, h2, h3, h4]
          exact run_fill h hb.2 hf (cellsRep_consts hb.1)
        · cases hb
      · cases hb
    obtain ⟨C', k1, k2, k3, k4⟩ := key
    exact h.goes hd (v := .agg C') (by simp only [execOp, hop, Sem.run_bind, run_build w t _ C' k1, Result.andThen_ok]; rfl) (.agg _ _ k2 k3 k4)
  · cases hs

end
end Go.Am
