/- append. -/
import Derived.Test.YtgdjgoehofopnaaDoorAm11
set_option linter.unusedSimpArgs false
set_option linter.unusedVariables false
set_option linter.unnecessarySimpa false
namespace Go.Am
open Go Go.Lib
section
variable {P : Program} {N : Nat} {V : Nat → Bool} {c0 c : Cx} {σ σ' : St} {a : Act} {w : World} {o : Oper}

theorem run_app_room {t t' ty e e0 : TypeId} {i : TypeInfo} {x : Value} {us : List Value} {g n cap m : Nat} {cur : Array Value} (hu : P.underlying t = some (.slice e)) (hu' : P.underlying t' = some .string ∨ ∃ e', P.underlying t' = some (.slice e'))
    (hi : P.info? e = some i) (hlen : Builtin.lenOf x = pure m) (hf : (Builtin.firstCells i.size m x).run P w = .ok us.toArray w) (hg : w.heap[g]? = some (.cells cur e0 (0, 0))) (hroom : n + m ≤ cap) (hfit : n * i.size + us.length ≤ cur.size) (h1 : ∀ u ∈ us, u.oneCell' = true) :
    (Builtin.append_ #[t, t'] ty #[.slice (some ⟨g, 0, none⟩) n cap, x]).run P w = .ok (.slice (some ⟨g, 0, none⟩) (n + m) cap) (w.setRow g (cur.toList.take (n * i.size) ++ us ++ cur.toList.drop (n * i.size + us.length)).toArray) := by
  have hst := run_storeCells_at P g (n * i.size) e0 us 0 cur w hg (by simpa using hfit) h1
  simp only [Nat.add_zero] at hst
  rcases hu' with hu' | ⟨e', hu'⟩ <;> simp [Builtin.append_, run_underlying hu, run_underlying hu', sizeOf, typeInfo, hi, hlen, hroom, hf, Addr.add_lit, hst]

theorem run_app_none {t t' ty e : TypeId} {i : TypeInfo} {x : Value} {n cap : Nat} {A : Option Addr} (hu : P.underlying t = some (.slice e)) (hu' : P.underlying t' = some .string ∨ ∃ e', P.underlying t' = some (.slice e'))
    (hi : P.info? e = some i) (hlen : Builtin.lenOf x = pure 0) (hf : (Builtin.firstCells i.size 0 x).run P w = .ok #[] w) (hroom : n ≤ cap) :
    (Builtin.append_ #[t, t'] ty #[.slice A n cap, x]).run P w = .ok (.slice A n cap) w := by
  rcases hu' with hu' | ⟨e', hu'⟩ <;> cases A <;> simp [Builtin.append_, run_underlying hu, run_underlying hu', sizeOf, typeInfo, hi, hlen, hroom, hf, storeCells]

theorem run_app_grow {t t' ty e : TypeId} {i : TypeInfo} {x z : Value} {us olds : List Value} {A : Option Addr} {n cap m : Nat} (hu : P.underlying t = some (.slice e)) (hu' : P.underlying t' = some .string ∨ ∃ e', P.underlying t' = some (.slice e'))
    (hi : P.info? e = some i) (hz : i.zero = some z) (hlen : Builtin.lenOf x = pure m) (hold : (Builtin.firstCells i.size n (.slice A n cap)).run P w.drew = .ok olds.toArray w.drew) (hf : (Builtin.firstCells i.size m x).run P w.drew = .ok us.toArray w.drew)
    (hg : cap < n + m) (h63 : ((n + m : Nat) : Int) ≤ 9223372036854775807) (hfit : Builtin.nextslicecap (n + m) cap * i.bytes ≤ 281474976710656) :
    (Builtin.append_ #[t, t'] ty #[.slice A n cap, x]).run P w = .ok (.slice (some ⟨w.heap.size, 0, none⟩) (n + m) (grownCap w (n + m) cap e))
      (w.drew.alloc (.cells (olds.toArray ++ us.toArray ++ Builtin.zeroCells z.cells (grownCap w (n + m) cap e - (n + m))) e)) := by
  have hn : ¬ (n + m ≤ cap) := by omega
  have h63' : ¬ (9223372036854775807 < ((n : Int) + (m : Int))) := by omega
  have h48' : ¬ (281474976710656 < Builtin.nextslicecap (n + m) cap * i.bytes) := by omega
  rcases hu' with hu' | ⟨e', hu'⟩ <;> simp [Builtin.append_, run_underlying hu, run_underlying hu', sizeOf, typeInfo, zeroValue, hi, hz, hlen, hn, h63', h48', Question.forced, hold, hf, newRow, grownCap] <;> (rw [← Array.append_assoc]; simp)

/-- The slot's own list grows. -/
theorem Sim.grow (h : Sim P N V c0 c σ a w) {s : Nat} {e : Nat} {xs ys : List D} (hs : σ.env s = .d (.own e xs)) (hd : dstOK N V o.dst = true) {c' : Cx} {v' : Value} (hf : Fr c c') (hw' : Wf c') (hk : Keeps c c' (fun x => x = .slot s)) (hj : c'.j = c.j)
    (hrun : (execOp a.eval o).run P w = .ok (.value v') c'.w) (hnew : ∀ n, o.dst = some n → OwnRel P c' (.slot n) e (xs ++ ys) v') :
    Goes P N V c0 ({ σ with env := upd σ.env s (.d (.list xs)) }.put o.dst (.d (.own e (xs ++ ys)))) a w o := by
  have hsl := h.slots s
  rw [hs] at hsl
  have hr : OwnRel P c (.slot s) e xs (tmOf a s) := hsl
  have hsim : Sim P N V c0 c' { σ with env := upd σ.env s (.d (.list xs)) } a c'.w := by
    refine ⟨rfl, hw', h.fr.trans hf, h.size, fun m hm => ?_, fun m cs hm => ?_, fun m t off hm => ?_, fun m => ?_, h.H.keeps hf.le hk hj (by simp) (by simp), h.dfr⟩
    · show upd σ.env s _ m = .und
      rw [upd]
      split
      · rename_i e; subst e; have := h.out m hm; rw [hs] at this; cases this
      · exact h.out m hm
    · have hm' : upd σ.env s (.d (.list xs)) m = .var cs := hm
      rw [upd] at hm'
      split at hm'
      · cases hm'
      · exact h.vars m cs hm'
    · have hm' : upd σ.env s (.d (.list xs)) m = .loc t off := hm
      rw [upd] at hm'
      split at hm'
      · cases hm'
      · exact h.locs m t off hm'
    · show SlotRel P _ _ m (upd σ.env s (.d (.list xs)) m) _
      rw [upd]
      split
      · rename_i e; subst e
        exact CellRel.of_rep (P := P) (o := .slot m) (hr.rep.le hf.le)
      · rename_i e
        exact (h.slots m).keeps hf.le hk (by simp [e]) (by simp) (by simp)
  exact ⟨c', c'.w, .inl ⟨v', hrun, hsim.put (dstOK_spec hd) (fun n hn => hnew n hn) (by simp) (by simp)⟩⟩

theorem zeroCells_size (z : Array Value) (n : Nat) : (Builtin.zeroCells z n).size = n * z.size := by simp [Builtin.zeroCells]

theorem goes_app (h : Sim P N V c0 c σ a w) {e sz bytes s : Nat} {ao : AO} {xs' x : Operand} {t t' : TypeId} {i : TypeInfo} {z : Value} (hso : opr (.x s) xs' = true) (ho : opr ao x = true) (hop : o.op = .call { callee := .builtin .append, args := #[xs', x], argTypes := #[t, t'] })
    (hu : P.underlying t = some (.slice e)) (hu' : ∃ e', P.underlying t' = some (.slice e')) (hi : P.info? e = some i) (hsz : i.size = sz) (hby : i.bytes = bytes) (hz : i.zero = some z) (hzs : z.cells.size = sz) (h0 : 0 < sz) (hd : dstOK N V o.dst = true)
    (hs : stepF (.app e sz bytes s ao) o.dst σ = some σ') : Goes P N V c0 σ' a w o := by
  simp only [stepF] at hs
  split at hs
  · rename_i e' xs hes
    split at hs
    · rename_i he
      subst he
      split at hs
      · rename_i y hy
        split at hs
        · rename_i ys hys
          split at hs
          · rename_i hb
            obtain ⟨hb1, hb2, hb3⟩ := hb
            injection hs with hs
            subst hs
            have hel : ∀ x ∈ ys, x.elem sz = true := fun x hx => List.all_eq_true.1 hb3 x hx
            obtain ⟨us, hE⟩ := h.elems (h.val ho hy) hys hel
            have hw := h.hw
            subst hw
            have hsl := h.slots s
            rw [hes] at hsl
            have hown : OwnRel P c (.slot s) e' xs (tmOf a s) := hsl
            have hex : ∀ v' w', (Builtin.append_ #[t, t'] o.type #[tmOf a s, a.eval x]).run P c.w = .ok v' w' → (execOp a.eval o).run P c.w = .ok (.value v') w' := by
              intro v' w' hr
              simp only [execOp, hop, resolve, invoke, builtin, Sem.run_bind, Sem.run_pure, Result.andThen_ok, List.map_toArray, List.map_cons, List.map_nil, opr_tmp (.inr hso) a, hr]
            have hmi : (P.info? e').map (·.size) = some sz := by rw [hi, ← hsz]; rfl
            have hlenapp : (xs ++ ys).length = xs.length + ys.length := List.length_append
            have huss : us.length = ys.length * sz := hE.len
            -- what was there, whether nil or not
            have base : ∃ A cap olds, tmOf a s = .slice A xs.length cap ∧ xs.length ≤ cap ∧ (∀ x ∈ xs, x.elem sz = true) ∧ olds.length = xs.length * sz ∧ (∀ w1 : World, w1.heap = c.w.heap → (Builtin.firstCells sz xs.length (.slice A xs.length cap)).run P w1 = .ok olds.toArray w1) ∧
                (∀ (i : Nat) (d : D), (xs.flatMap D.cells)[i]? = some d → ∃ u, olds[i]? = some u ∧ Rep c.w c.F c.j d u) ∧ xs.length ≤ bnd ∧
                ((A = none ∧ cap = 0 ∧ xs = []) ∨ ∃ g cur, A = some ⟨g, 0, none⟩ ∧ c.w.heap[g]? = some (.cells cur e' (0, 0)) ∧ cap ≤ maxLen ∧ cur.size = cap * sz ∧ cur.toList.take (xs.length * sz) = olds ∧ c.F g = xs.length * sz ∧ c.O g = some (.slot s)) := by
              have hcases : (tmOf a s = .slice none 0 0 ∧ xs = []) ∨ ∃ olds, c.w.ownsRow 0 e' sz (tmOf a s) xs.length olds ∧ xs.length ≤ bnd ∧ (∀ x ∈ xs, x.elem sz = true) ∧
                  (∀ (i : Nat) (d : D), (xs.flatMap D.cells)[i]? = some d → ∃ u, olds[i]? = some u ∧ Rep c.w c.F c.j d u) ∧ (∀ g, (tmOf a s).ownBlock = some g → c.F g = xs.length * sz ∧ c.O g = some (.slot s)) ∧
                  ∃ g cap cur, tmOf a s = .slice (some ⟨g, 0, none⟩) xs.length cap ∧ c.w.heap[g]? = some (.cells cur e' (0, 0)) ∧ xs.length ≤ cap ∧ cap ≤ maxLen ∧ cur.size = cap * sz ∧ cur.toList.take (xs.length * sz) = olds := by
                rcases hown with ⟨hx, hv⟩ | ⟨sz', olds, p1, p2, p3, p4, p5, p6, p7⟩
                · exact .inl ⟨hv, hx⟩
                · rw [hmi] at p1
                  cases p1
                  rcases p3.2 with ⟨hv, hn⟩ | ⟨g, cap, cur, hv, _, hg, hnc, hcm, hcs, htake⟩
                  · exact .inl ⟨hv, List.eq_nil_of_length_eq_zero hn⟩
                  · exact .inr ⟨olds, p3, p4, p5, p6, p7, g, cap, cur, hv, hg, hnc, hcm, hcs, htake⟩
              rcases hcases with ⟨hv, hx⟩ | ⟨olds, p3, p4, p5, p6, p7, g, cap, cur, hv, hg, hnc, hcm, hcs, htake⟩
              · subst hx
                exact ⟨none, 0, [], hv, Nat.le_refl _, by simp, by simp, fun w1 _ => by simp [Builtin.firstCells], by simp, by simp [bnd], .inl ⟨rfl, rfl, rfl⟩⟩
              · obtain ⟨q1, q2⟩ := p7 g (by rw [hv]; rfl)
                refine ⟨_, cap, olds, hv, hnc, p5, p3.1, fun w1 hw1 => ?_, p6, p4, .inr ⟨g, cur, rfl, hg, hcm, hcs, htake, q1, q2⟩⟩
                refine run_firstCells_some w1 sz _ ⟨g, 0, none⟩ _ cap olds p3.1 (fun j u hu => ?_)
                rw [cell?_heap hw1]
                exact p3.cells (g := g) (by rw [hv]; rfl) j u hu
            obtain ⟨A, cap, olds, hv, hnc, hxel, hol, hold, horep, hxb, hcase⟩ := base
            have hel2 : ∀ x ∈ xs ++ ys, x.elem sz = true := by
              intro x hx
              rcases List.mem_append.1 hx with hx | hx
              · exact hxel x hx
              · exact hel x hx
            have hrep2 : ∀ (i : Nat) (d : D), ((xs ++ ys).flatMap D.cells)[i]? = some d → ∃ u, (olds ++ us)[i]? = some u ∧ Rep c.w c.F c.j d u := by
              intro i d hd
              rw [List.flatMap_append] at hd
              have hfl := flat_length hxel
              by_cases hi' : i < (xs.flatMap D.cells).length
              · rw [List.getElem?_append_left hi'] at hd
                obtain ⟨u, hu, hr⟩ := horep i d hd
                exact ⟨u, by rw [List.getElem?_append_left (by omega)]; exact hu, hr⟩
              · rw [List.getElem?_append_right (by omega)] at hd
                obtain ⟨u, hu, hr⟩ := hE.rep _ d hd
                refine ⟨u, ?_, hr⟩
                rw [List.getElem?_append_right (by omega), hol, ← hfl]
                exact hu
            by_cases hroom : xs.length + ys.length ≤ cap
            · rcases hcase with ⟨rfl, rfl, rfl⟩ | ⟨g, cur, rfl, hg, hcm, hcs, htake, hFg, hOg⟩
              · -- nil and nothing more
                have hy0 : ys = [] := List.eq_nil_of_length_eq_zero (by simpa using hroom)
                subst hy0
                have hu0 : us = [] := List.eq_nil_of_length_eq_zero (by simpa using huss)
                subst hu0
                have hr := run_app_none (P := P) (w := c.w) (ty := o.type) (A := none) (n := 0) (cap := 0) hu (.inr hu') hi hE.lenOf (by rw [hsz]; exact hE.first _ rfl) (Nat.le_refl _)
                refine h.grow (c' := c) (v' := .slice none 0 0) hes hd (.refl c) h.wf (fun _ _ _ _ => ⟨rfl, rfl, rfl⟩) rfl (hex _ _ (by rw [hv]; exact hr)) (fun n _ => .inl ⟨rfl, rfl⟩)
              · -- in its place
                have hfit : xs.length * i.size + us.length ≤ cur.size := by
                  rw [hsz, huss, hcs, ← Nat.add_mul]
                  exact Nat.mul_le_mul_right _ hroom
                have hr := run_app_room (P := P) (w := c.w) (ty := o.type) (n := xs.length) hu (.inr hu') hi hE.lenOf (by rw [hsz]; exact hE.first _ rfl) hg hroom hfit hE.one
                rw [hsz] at hr hfit
                obtain ⟨s1, s2⟩ := arr_splice cur (xs.length * sz) us hfit
                generalize hC' : (cur.toList.take (xs.length * sz) ++ us ++ cur.toList.drop (xs.length * sz + us.length)).toArray = C' at hr s1 s2
                have hother : ∀ k, k ≠ g → (c.w.setRow g C').heap[k]? = c.w.heap[k]? := fun k hk => setRow_other _ _ _ _ hk
                have hgnew : (c.w.setRow g C').heap[g]? = some (.cells C' e' (0, 0)) := setRow_heap _ _ _ _ _ _ hg
                have hglt : g < c.w.heap.size := h.own_lt hOg
                let c' : Cx := { w := c.w.setRow g C', F := fun B => if B = g then (xs.length + ys.length) * sz else c.F B, j := c.j, O := fun B => if B = g then some (.slot (o.dst.getD 0)) else c.O B }
                have hle : Le c c' := ⟨by simp [c'], fun B => by
                    show c.F B ≤ if B = g then (xs.length + ys.length) * sz else c.F B
                    split
                    · rename_i e; subst e; rw [hFg]; exact Nat.mul_le_mul_right _ (by omega)
                    · omega, fun B j v hj hvj => by
                    by_cases e : B = g
                    · subst e
                      rw [cell_of_row c.w B j cur e' (0, 0) hg] at hvj
                      rw [hFg] at hj
                      show (c.w.setRow B C').cell? ⟨B, j, none⟩ = _
                      rw [cell_of_row _ B j C' e' (0, 0) hgnew, s2, if_neg (by omega)]
                      exact hvj
                    · exact (World.cell?_of_block (w := c.w) (a := ⟨B, j, none⟩) (hother B e)).trans hvj, fun B D' e'' fr hB => by
                    by_cases e : B = g
                    · subst e
                      rw [hg] at hB
                      cases hB
                      exact ⟨C', e', (0, 0), hgnew, by omega⟩
                    · exact ⟨D', e'', fr, (hother B e).trans hB, Nat.le_refl _⟩, fun _ _ hb => hb⟩
                have hfr : Fr c c' := ⟨rfl, rfl, rfl, hle, fun B hB hO => by
                  have e : B ≠ g := by rintro rfl; rw [hOg] at hO; cases hO
                  exact ⟨hother B e, if_neg e, (if_neg e).trans hO⟩⟩
                refine h.grow (c' := c') (v' := .slice (some ⟨g, 0, none⟩) (xs.length + ys.length) cap) hes hd hfr (fun B hB => ?_) (fun B ow hB hx => ?_) rfl (hex _ _ (by rw [hv]; exact hr)) (fun n hn => ?_)
                · have hB' : c.w.heap.size ≤ B := by simpa [c'] using hB
                  have e : B ≠ g := by omega
                  exact ⟨(if_neg e).trans (h.wf B hB').1, (if_neg e).trans (h.wf B hB').2⟩
                · have e : B ≠ g := by rintro rfl; rw [hOg] at hB; injection hB with hB; exact hx hB.symm
                  exact ⟨hother B e, if_neg e, if_neg e⟩
                · refine .inr ⟨sz, olds ++ us, hmi, h0, ⟨by rw [List.length_append, hol, huss, hlenapp, Nat.add_mul], .inr ⟨g, cap, C', by rw [hlenapp], Nat.zero_le _, hgnew, by omega, hcm, by omega, ?_⟩⟩, by rw [hlenapp]; exact hb2, hel2, fun i d hd => ?_, fun g' hg' => ?_⟩
                  · rw [hlenapp, ← hC', ← htake]
                    simp only [List.append_assoc]
                    rw [← List.append_assoc, List.take_left']
                    rw [List.length_append, List.length_take, huss, Nat.add_mul]
                    have hq : cur.toList.length = cur.size := by simp
                    omega
                  · obtain ⟨u, hu1, hr1⟩ := hrep2 i d hd
                    exact ⟨u, hu1, hr1.le hle⟩
                  · simp only [Value.ownBlock, Option.some.injEq] at hg'
                    subst hg'
                    refine ⟨?_, ?_⟩
                    · rw [hlenapp]; exact if_pos rfl
                    · show (if g = g then some (Owner.slot (o.dst.getD 0)) else c.O g) = some (.slot n)
                      rw [if_pos rfl, hn]
                      rfl
            · -- in a new place
              have hfit : Builtin.nextslicecap (xs.length + ys.length) cap * i.bytes ≤ 281474976710656 := growslice_fits (by omega) (by rw [hby]; omega)
              have hr := run_app_grow (P := P) (w := c.w) (ty := o.type) hu (.inr hu') hi hz hE.lenOf (by rw [hsz]; exact hold _ rfl) (by rw [hsz]; exact hE.first _ rfl) (by omega) (by omega) hfit
              have hge := grownCap_ge c.w (xs.length + ys.length) cap e'
              have hext : Ext c.w (c.w.drew.alloc (.cells (olds.toArray ++ us.toArray ++ Builtin.zeroCells z.cells (grownCap c.w (xs.length + ys.length) cap e' - (xs.length + ys.length))) e')) := (Ext.alloc c.w.drew _).ofDrew
              obtain ⟨k1, k2, k3⟩ := Cx.ext_spec h.wf hext ((xs ++ ys).length * sz) (some (.slot (o.dst.getD 0))) []
              refine h.grow (c' := c.ext _ ((xs ++ ys).length * sz) (some (.slot (o.dst.getD 0))) []) (v' := .slice (some ⟨c.w.heap.size, 0, none⟩) (xs.length + ys.length) (grownCap c.w (xs.length + ys.length) cap e')) hes hd k1 k2
                (fun B ow hB hx => k3 B ow hB (by simp)) (by simp [Cx.ext]) (hex _ _ (by rw [hv]; exact hr)) (fun n hn => ?_)
              rw [hn, Option.getD_some, ← hlenapp]
              refine own_new (us := olds ++ us) (C := olds.toArray ++ us.toArray ++ Builtin.zeroCells z.cells (grownCap c.w (xs.length + ys.length) cap e' - (xs.length + ys.length))) h.wf (by rw [hlenapp]; exact hext) hmi h0 (by rw [hlenapp]; exact hb2) hel2 (by rw [hlenapp]; exact heap_alloc_new c.w.drew _) (by rw [hlenapp]; exact hge) ?_ ?_ ?_ rfl hrep2
              · rw [hlenapp]
                exact grownCap_le_maxLen c.w _ cap e' (bnd_maxLen hb2)
              · rw [hlenapp]
                simp only [Array.size_append, List.size_toArray, zeroCells_size, hzs, hol, huss, ← Nat.add_mul]
                congr 1
                omega
              · rw [hlenapp]
                simp only [Array.toList_append]
                rw [List.take_left']
                simp [hol, huss, Nat.add_mul]
          · cases hs
        · cases hs
      · cases hs
    · cases hs
  · cases hs

end
end Go.Am
