/- Steps that a program prints: one lemma an operation. -/
import Derived.Test.YtgdjgoehofopnaaDoorAm25
set_option linter.unusedSimpArgs false
set_option linter.unusedVariables false
namespace Go.Am
open Go Go.Lib

section
variable {C : Con} {is : List AI} {Q : St → Prop} {e : Nat → Slot} {H : List (Option (List D))} {m n : Nat}

theorem o_nil {σ : St} (h : Q σ) : wpo C [] Q σ := h
theorem o_plain {d : Option Nat} {op : AOp} {σ σ' : St} (h : stepF op d σ = some σ') (ho : opP C op d (wpo C is Q) σ = (match stepF op d σ with | some σ' => wpo C is Q σ' | none => False)) (k : wpo C is Q σ') : wpo C ({ dst := d, op := op } :: is) Q σ := by
  show opP C op d (wpo C is Q) σ
  rw [ho, h]; exact k
theorem o_nl {d : Option Nat} {g : Option (Nat × Bool)} {fz : List (Nat × Nat)} {op : AOp} {l : List (Nat × Nat)} {σ : St} (hn : (l.all fun x => notLoc x.2 (σ.env x.1)) = true) (k : wpo C ({ dst := d, g := g, frz := fz, op := op } :: is) Q σ) : wpo C ({ dst := d, g := g, frz := fz, nl := l, op := op } :: is) Q σ := by
  unfold wpo at k ⊢
  rw [away_iff] at k ⊢
  exact ⟨hn, k.2⟩
theorem o_frz {d : Option Nat} {op : AOp} {x : Nat × Nat} {l : List (Nat × Nat)} {σ σ' : St} (hf : σ.freeze (x :: l) = some σ') (k : wpo C ({ dst := d, op := op } :: is) Q σ') : wpo C ({ dst := d, frz := x :: l, op := op } :: is) Q σ := by
  rw [wpo_frz, hf]; exact k
theorem o_g_t {d : Option Nat} {t : Nat} {b b' : Bool} {op : AOp} (ht : e t = .d (.bool b')) (hb : b' = b) (k : wpo C ({ dst := d, op := op } :: is) Q ⟨e, H⟩) : wpo C ({ dst := d, g := some (t, b), op := op } :: is) Q ⟨e, H⟩ := by
  rw [wpo_guard]
  simp only [ht]
  rw [if_pos hb]; exact k
theorem o_g_f {t : Nat} {b b' : Bool} {op : AOp} (ht : e t = .d (.bool b')) (hb : b' ≠ b) (k : wpo C is Q ⟨upd e m .no, H⟩) : wpo C ({ dst := some m, g := some (t, b), op := op } :: is) Q ⟨e, H⟩ := by
  rw [wpo_guard]
  simp only [ht]
  rw [if_neg hb]; exact k
theorem o_g_f' {t : Nat} {b b' : Bool} {op : AOp} (ht : e t = .d (.bool b')) (hb : b' ≠ b) (k : wpo C is Q ⟨e, H⟩) : wpo C ({ dst := none, g := some (t, b), op := op } :: is) Q ⟨e, H⟩ := by
  rw [wpo_guard]
  simp only [ht]
  rw [if_neg hb]; exact k

theorem o_g_n {t : Nat} {b : Bool} {op : AOp} (ht : e t = .no) (k : wpo C is Q ⟨upd e m .no, H⟩) : wpo C ({ dst := some m, g := some (t, b), op := op } :: is) Q ⟨e, H⟩ := by
  rw [wpo_guard]
  simp only [ht]
  exact k
theorem o_g_n' {t : Nat} {b : Bool} {op : AOp} (ht : e t = .no) (k : wpo C is Q ⟨e, H⟩) : wpo C ({ dst := none, g := some (t, b), op := op } :: is) Q ⟨e, H⟩ := by
  rw [wpo_guard]
  simp only [ht]
  exact k
theorem o_mvt {d d' : D} (ha : e n = .d d) (hd : d.copy = d') (k : wpo C is Q ⟨upd e m (.d d'), H⟩) : wpo C ({ dst := some m, op := .mv (.t n) } :: is) Q ⟨e, H⟩ :=
  o_plain (by simp only [stepF, St.give, St.spend, ha, hd]; rfl) rfl k
theorem o_mvk {d : D} (k : wpo C is Q ⟨upd e m (.d d), H⟩) : wpo C ({ dst := some m, op := .mv (.k d) } :: is) Q ⟨e, H⟩ := o_plain rfl rfl k
theorem o_mvx {el : Nat} {xs : List D} (ha : e n = .d (.own el xs)) (k : wpo C is Q ⟨upd (upd e n (.d (.list xs))) m (.d (.own el xs)), H⟩) : wpo C ({ dst := some m, op := .mv (.x n) } :: is) Q ⟨e, H⟩ :=
  o_plain (by simp only [stepF, St.give, St.spend, ha]; rfl) rfl k
theorem o_mvxl {xs : List D} (ha : e n = .d (.list xs)) (k : wpo C is Q ⟨upd e m (.d (.list xs)), H⟩) : wpo C ({ dst := some m, op := .mv (.x n) } :: is) Q ⟨e, H⟩ :=
  o_plain (by simp only [stepF, St.give, St.spend, ha]; rfl) rfl k
theorem o_pick {c a b : AO} {cb : Bool} {x y z : D} (hc : St.val ⟨e, H⟩ c = some (.bool cb)) (ha : St.val ⟨e, H⟩ a = some x) (hb : St.val ⟨e, H⟩ b = some y) (hz : (if cb then x else y) = z) (k : wpo C is Q ⟨upd e m (.d z), H⟩) : wpo C ({ dst := some m, op := .pick c a b } :: is) Q ⟨e, H⟩ :=
  o_plain (by simp only [stepF, hc, ha, hb, hz]; rfl) rfl k
theorem o_pick_t {c a b : AO} {cb : Bool} {x : D} (hc : St.val ⟨e, H⟩ c = some (.bool cb)) (hb : cb = true) (ha : St.val ⟨e, H⟩ a = some x) (k : wpo C is Q ⟨upd e m (.d x), H⟩) : wpo C ({ dst := some m, op := .pick c a b } :: is) Q ⟨e, H⟩ := by
  subst hb
  refine o_plain ?_ rfl k
  simp only [stepF, hc, ha]
  cases St.val ⟨e, H⟩ b <;> rfl
theorem o_pick_f {c a b : AO} {cb : Bool} {x : D} (hc : St.val ⟨e, H⟩ c = some (.bool cb)) (hb : cb = false) (ha : St.val ⟨e, H⟩ b = some x) (k : wpo C is Q ⟨upd e m (.d x), H⟩) : wpo C ({ dst := some m, op := .pick c a b } :: is) Q ⟨e, H⟩ := by
  subst hb
  refine o_plain ?_ rfl k
  simp only [stepF, hc, ha]
  cases St.val ⟨e, H⟩ a <;> rfl
theorem o_box {a : AO} {d : D} {cs : List D} (ha : St.val ⟨e, H⟩ a = some d) (h1 : d.cells.all D.one = true) (hc : d.cells.map D.copy = cs) (k : wpo C is Q ⟨updv e m cs, H⟩) : wpo C ({ dst := some m, op := .box a } :: is) Q ⟨e, H⟩ :=
  o_plain (by simp only [stepF, ha, h1, hc, if_true]) rfl k
theorem o_alloc {z cs : List D} (hz : z = cs) (k : wpo C is Q ⟨updv e m cs, H⟩) : wpo C ({ dst := some m, op := .alloc z } :: is) Q ⟨e, H⟩ := by
  subst hz; exact o_plain rfl rfl k
theorem o_build {z cs : List D} {parts : List (Nat × Nat × AO)} (hz : St.fillParts ⟨e, H⟩ z parts = some cs) (k : wpo C is Q ⟨upd e m (.d (.agg cs)), H⟩) : wpo C ({ dst := some m, op := .build z parts } :: is) Q ⟨e, H⟩ :=
  o_plain (by simp only [stepF, hz]; rfl) rfl k
theorem fill_nil {σ : St} {z : List D} : σ.fillParts z [] = some z := rfl
theorem fill_cons {σ : St} {z z' cs ds : List D} {off sz : Nat} {a : AO} {d : D} {ps : List (Nat × Nat × AO)} (ha : σ.val a = some d) (hl : d.cells.length = sz) (h1 : d.cells.all D.one = true) (hc : d.cells.map D.copy = ds) (hs : splice z off ds = some z') (k : σ.fillParts z' ps = some cs) : σ.fillParts z ((off, sz, a) :: ps) = some cs := by
  simp only [St.fillParts, ha, hl, h1, hc, hs, k, and_self, if_true]
theorem fill_z {σ : St} {z z' cs : List D} {ps : List (Nat × Nat × AO)} (hz : z = z') (k : σ.fillParts z' ps = some cs) : σ.fillParts z ps = some cs := hz ▸ k
theorem o_bsl {α : Type} {f : α → D} {xs : List α} {el sz : Nat} {parts : List AO} {ds : List D} (hv : St.vals ⟨e, H⟩ parts = some ds) (hd : ds = xs.map f) (he : ∀ x, D.elem sz (f x) = true) (k : wpo C is Q ⟨upd e m (.d (.own el (xs.map f))), H⟩) : wpo C ({ dst := some m, op := .bsl el sz parts } :: is) Q ⟨e, H⟩ := by
  subst hd
  refine o_plain ?_ rfl k
  have : (xs.map f).all (D.elem sz) = true := by simp [he]
  simp only [stepF, hv, this, if_true]; rfl
theorem l_nil {α : Type} {f : α → D} : ([] : List D) = ([] : List α).map f := rfl
theorem l_cons {α : Type} {f : α → D} {d : D} {x : α} {ds : List D} {xs : List α} (h : d = f x) (k : ds = xs.map f) : d :: ds = (x :: xs).map f := by rw [h, k]; rfl
theorem v_nil {σ : St} : σ.vals [] = some [] := rfl
theorem v_cons {σ : St} {a : AO} {as : List AO} {d : D} {ds : List D} (h : σ.val a = some d) (k : σ.vals as = some ds) : σ.vals (a :: as) = some (d :: ds) := by simp only [St.vals, h, k]
theorem g_nil {σ : St} : σ.gives [] = some [] := rfl
theorem g_cons {σ : St} {a : AO} {as : List AO} {d : D} {ds : List D} (h : σ.give a = some d) (k : σ.gives as = some ds) : σ.gives (a :: as) = some (d :: ds) := by simp only [St.gives, h, k]

theorem o_ld {cs ds es : List D} {s off sz : Nat} (hp : St.lv ⟨e, H⟩ n = some (.var s off)) (hs : e s = .var cs) (hc : cut cs off sz = some ds) (hd : ds.map D.copy = es) (k : wpo C is Q ⟨upd e m (.d (.agg es)), H⟩) : wpo C ({ dst := some m, op := .ld (some sz) n } :: is) Q ⟨e, H⟩ :=
  o_plain (by simp only [stepF, hp, St.rd, hs, Option.getD_some, hc, ofCells, hd]; rfl) rfl k
theorem o_ld1 {cs : List D} {d d' : D} {s off : Nat} (hp : St.lv ⟨e, H⟩ n = some (.var s off)) (hs : e s = .var cs) (hc : cut cs off 1 = some [d]) (hd : d.copy = d') (k : wpo C is Q ⟨upd e m (.d d'), H⟩) : wpo C ({ dst := some m, op := .ld none n } :: is) Q ⟨e, H⟩ :=
  o_plain (by simp only [stepF, hp, St.rd, hs, Option.getD_none, hc, ofCells, hd]; rfl) rfl k
theorem o_ldi {cs ds es : List D} {sz : Nat} (hp : e n = .d (.imm cs)) (hc : cut cs 0 sz = some ds) (hd : ds.map D.copy = es) (k : wpo C is Q ⟨upd e m (.d (.agg es)), H⟩) : wpo C ({ dst := some m, op := .ld (some sz) n } :: is) Q ⟨e, H⟩ :=
  o_plain (by simp only [stepF, St.lv, hp, St.rd, Option.getD_some, hc, ofCells, hd]; rfl) rfl k
theorem o_ldi1 {cs : List D} {d d' : D} (hp : e n = .d (.imm cs)) (hc : cut cs 0 1 = some [d]) (hd : d.copy = d') (k : wpo C is Q ⟨upd e m (.d d'), H⟩) : wpo C ({ dst := some m, op := .ld none n } :: is) Q ⟨e, H⟩ :=
  o_plain (by simp only [stepF, St.lv, hp, St.rd, Option.getD_none, hc, ofCells, hd]; rfl) rfl k
theorem o_ldI {cs ds es : List D} {sz : Nat} (hp : e n = .d (.imm cs)) (hc : cut cs 0 sz = some ds) (hd : ds.map D.copy = es) (k : wpo C is Q ⟨upd e m (.d (.agg es)), H⟩) : wpo C ({ dst := some m, op := .ldi (some sz) n } :: is) Q ⟨e, H⟩ :=
  o_plain (by simp only [stepF, St.lv, hp, St.rd, Option.getD_some, hc, ofCells, hd]; rfl) rfl k
theorem o_ldI1 {cs : List D} {d d' : D} (hp : e n = .d (.imm cs)) (hc : cut cs 0 1 = some [d]) (hd : d.copy = d') (k : wpo C is Q ⟨upd e m (.d d'), H⟩) : wpo C ({ dst := some m, op := .ldi none n } :: is) Q ⟨e, H⟩ :=
  o_plain (by simp only [stepF, St.lv, hp, St.rd, Option.getD_none, hc, ofCells, hd]; rfl) rfl k
theorem o_ldo {cs ds es : List D} {b off sz : Nat} (hp : e n = .d (.ptr b off)) (ho : St.obj ⟨e, H⟩ b = some cs) (hc : cut cs off sz = some ds) (hd : ds.map D.copy = es) (k : wpo C is Q ⟨upd e m (.d (.agg es)), H⟩) : wpo C ({ dst := some m, op := .ld (some sz) n } :: is) Q ⟨e, H⟩ :=
  o_plain (by simp only [stepF, St.lv, hp, St.rd, ho, Option.getD_some, hc, ofCells, hd]; rfl) rfl k
theorem o_ldo1 {cs : List D} {b off : Nat} {d d' : D} (hp : e n = .d (.ptr b off)) (ho : St.obj ⟨e, H⟩ b = some cs) (hc : cut cs off 1 = some [d]) (hd : d.copy = d') (k : wpo C is Q ⟨upd e m (.d d'), H⟩) : wpo C ({ dst := some m, op := .ld none n } :: is) Q ⟨e, H⟩ :=
  o_plain (by simp only [stepF, St.lv, hp, St.rd, ho, Option.getD_none, hc, ofCells, hd]; rfl) rfl k
theorem o_ldO {cs ds es : List D} {b off sz : Nat} (hp : e n = .d (.ptr b off)) (ho : St.obj ⟨e, H⟩ b = some cs) (hc : cut cs off sz = some ds) (hd : ds.map D.copy = es) (k : wpo C is Q ⟨upd e m (.d (.agg es)), H⟩) : wpo C ({ dst := some m, op := .ldi (some sz) n } :: is) Q ⟨e, H⟩ :=
  o_plain (by simp only [stepF, St.lv, hp, St.rd, ho, Option.getD_some, hc, ofCells, hd]; rfl) rfl k
theorem o_ldO1 {cs : List D} {b off : Nat} {d d' : D} (hp : e n = .d (.ptr b off)) (ho : St.obj ⟨e, H⟩ b = some cs) (hc : cut cs off 1 = some [d]) (hd : d.copy = d') (k : wpo C is Q ⟨upd e m (.d d'), H⟩) : wpo C ({ dst := some m, op := .ldi none n } :: is) Q ⟨e, H⟩ :=
  o_plain (by simp only [stepF, St.lv, hp, St.rd, ho, Option.getD_none, hc, ofCells, hd]; rfl) rfl k
theorem o_ldv {cs ds es : List D} {r off sz : Nat} (hp : St.lv ⟨e, H⟩ n = some (.var r off)) (hs : e r = .var cs) (hc : cut cs off sz = some ds) (hd : ds.map D.copy = es) (k : wpo C is Q ⟨upd e m (.d (.agg es)), H⟩) : wpo C ({ dst := some m, op := .ldv (some sz) n r off } :: is) Q ⟨e, H⟩ :=
  o_plain (by simp only [stepF, hp, and_self, if_true, hs, Option.getD_some, hc, ofCells, hd]; rfl) rfl k
theorem o_ldv1 {cs : List D} {d d' : D} {r off : Nat} (hp : St.lv ⟨e, H⟩ n = some (.var r off)) (hs : e r = .var cs) (hc : cut cs off 1 = some [d]) (hd : d.copy = d') (k : wpo C is Q ⟨upd e m (.d d'), H⟩) : wpo C ({ dst := some m, op := .ldv none n r off } :: is) Q ⟨e, H⟩ :=
  o_plain (by simp only [stepF, hp, and_self, if_true, hs, Option.getD_none, hc, ofCells, hd]; rfl) rfl k
/-- Taking the right along. -/
theorem o_ldx {cs cs' : List D} {el : Nat} {xs : List D} {s off : Nat} (hp : St.lv ⟨e, H⟩ n = some (.var s off)) (hs : e s = .var cs) (hc : cut cs off 1 = some [.own el xs]) (hd : splice cs off [.list xs] = some cs') (k : wpo C is Q ⟨upd (upd e s (.var cs')) m (.d (.own el xs)), H⟩) : wpo C ({ dst := some m, op := .ldx n } :: is) Q ⟨e, H⟩ :=
  o_plain (by simp only [stepF, hp, St.rd, hs, hc, St.wr, hd]; rfl) rfl k
theorem o_ldr {cs cs' : List D} {el : Nat} {xs : List D} {r off : Nat} (hp : St.lv ⟨e, H⟩ n = some (.var r off)) (hs : e r = .var cs) (hc : cut cs off 1 = some [.own el xs]) (hd : splice cs off [.list xs] = some cs') (k : wpo C is Q ⟨upd (upd e r (.var cs')) m (.d (.own el xs)), H⟩) : wpo C ({ dst := some m, op := .ldr n r off } :: is) Q ⟨e, H⟩ :=
  o_plain (by simp only [stepF, hp, and_self, if_true, hs, hc, dullV, hd]; rfl) rfl k

theorem o_st {a : AO} {d : D} {cs ds cs' : List D} {s off sz : Nat} (hx : a.notX = true) (hp : St.lv ⟨e, H⟩ n = some (.var s off)) (hg : St.give ⟨e, H⟩ a = some d) (hd : d.cells = ds) (hl : ds.length = sz) (h1 : ds.all D.one = true) (hs : e s = .var cs) (hc : splice cs off ds = some cs') (k : wpo C is Q ⟨upd e s (.var cs'), H⟩) : wpo C ({ dst := none, op := .st sz n a } :: is) Q ⟨e, H⟩ := by
  have hsp : St.spend ⟨e, H⟩ a = ⟨e, H⟩ := by cases a <;> first | rfl | cases hx
  exact o_plain (by simp only [stepF, hp, hg, hd, hl, h1, beq_self_eq_true, Bool.and_self, if_true, hsp, St.wr, hs, hc, decide_true]) rfl k
/-- The right is handed on to a cell. -/
theorem o_stx {x el : Nat} {xs : List D} {cs cs' : List D} {s off : Nat} (hp : St.lv ⟨e, H⟩ n = some (.var s off)) (hg : e x = .d (.own el xs)) (hs : upd e x (.d (.list xs)) s = .var cs) (hc : splice cs off [.own el xs] = some cs') (k : wpo C is Q ⟨upd (upd e x (.d (.list xs))) s (.var cs'), H⟩) : wpo C ({ dst := none, op := .st 1 n (.x x) } :: is) Q ⟨e, H⟩ :=
  o_plain (by simp only [stepF, hp, St.give, hg, D.cells, List.length_singleton, List.all_cons, List.all_nil, D.one, Bool.and_self, beq_self_eq_true, decide_true, if_true, St.spend, St.wr, hs, hc]) rfl k
theorem o_stv {a : AO} {d : D} {cs ds cs' : List D} {r off sz : Nat} (hp : St.lv ⟨e, H⟩ n = some (.var r off)) (hg : St.give ⟨e, H⟩ a = some d) (hd : d.cells = ds) (hl : ds.length = sz) (h1 : ds.all D.one = true) (hs : e r = .var cs) (hc : splice cs off ds = some cs') (k : wpo C is Q ⟨upd e r (.var cs'), H⟩) : wpo C ({ dst := none, op := .stv sz n r off a } :: is) Q ⟨e, H⟩ :=
  o_plain (by simp only [stepF, hp, hg, hd, hl, h1, and_self, if_true, hs, hc]) rfl k
theorem o_sto {a : AO} {d : D} {cs ds cs' : List D} {b off sz : Nat} (hx : a.notX = true) (hp : e n = .d (.ptr b off)) (hg : St.give ⟨e, H⟩ a = some d) (hd : d.cells = ds) (hl : ds.length = sz) (h1 : ds.all D.one = true) (hs : St.obj ⟨e, H⟩ b = some cs) (hc : splice cs off ds = some cs') (k : wpo C is Q ⟨e, H.set b (some cs')⟩) : wpo C ({ dst := none, op := .st sz n a } :: is) Q ⟨e, H⟩ := by
  have hsp : St.spend ⟨e, H⟩ a = ⟨e, H⟩ := by cases a <;> first | rfl | cases hx
  exact o_plain (by simp only [stepF, St.lv, hp, hg, hd, hl, h1, beq_self_eq_true, Bool.and_self, if_true, hsp, St.wr, hs, hc, decide_true]) rfl k

theorem o_bin {o : BinOp} {a b : AO} {x y d : D} (ha : St.val ⟨e, H⟩ a = some x) (hb : St.val ⟨e, H⟩ b = some y) (hd : bin o x y = some d) (k : wpo C is Q ⟨upd e m (.d d), H⟩) : wpo C ({ dst := some m, op := .bin o a b } :: is) Q ⟨e, H⟩ :=
  o_plain (by simp only [stepF, ha, hb, hd]; rfl) rfl k
theorem o_un {o : UnOp} {a : AO} {x d : D} (ha : St.val ⟨e, H⟩ a = some x) (hd : un o x = some d) (k : wpo C is Q ⟨upd e m (.d d), H⟩) : wpo C ({ dst := some m, op := .un o a } :: is) Q ⟨e, H⟩ :=
  o_plain (by simp only [stepF, ha, hd]; rfl) rfl k
theorem o_eqv {q : EqK} {sz : Nat} {a b : AO} {x y : D} {r : Bool} (ha : St.val ⟨e, H⟩ a = some x) (hb : St.val ⟨e, H⟩ b = some y) (hd : deq q sz x y = some r) (k : wpo C is Q ⟨upd e m (.d (.bool r)), H⟩) : wpo C ({ dst := some m, op := .eqv false q sz a b } :: is) Q ⟨e, H⟩ :=
  o_plain (by simp only [stepF, ha, hb, hd]; rfl) rfl k
theorem o_nev {q : EqK} {sz : Nat} {a b : AO} {x y : D} {r : Bool} (ha : St.val ⟨e, H⟩ a = some x) (hb : St.val ⟨e, H⟩ b = some y) (hd : deq q sz x y = some r) (k : wpo C is Q ⟨upd e m (.d (.bool (!r))), H⟩) : wpo C ({ dst := some m, op := .eqv true q sz a b } :: is) Q ⟨e, H⟩ :=
  o_plain (by simp only [stepF, ha, hb, hd]; rfl) rfl k
theorem o_cvi {q q' : IntKind} {a : AO} {x : Int} (ha : St.val ⟨e, H⟩ a = some (.int q' x)) (k : wpo C is Q ⟨upd e m (.d (.int q (q.wrap x))), H⟩) : wpo C ({ dst := some m, op := .conv (.int q) a } :: is) Q ⟨e, H⟩ :=
  o_plain (by simp only [stepF, ha]; rfl) rfl k
theorem o_cvb {a : AO} {s : List UInt8} (ha : St.val ⟨e, H⟩ a = some (.str s)) (k : wpo C is Q ⟨upd e m (.d (.list (ofBytes s))), H⟩) : wpo C ({ dst := some m, op := .conv .bytes a } :: is) Q ⟨e, H⟩ :=
  o_plain (by simp only [stepF, ha]; rfl) rfl k
theorem o_cvs {a : AO} {xs : List D} {s : List UInt8} (ha : St.val ⟨e, H⟩ a = some (.list xs)) (hs : toBytes xs = some s) (k : wpo C is Q ⟨upd e m (.d (.str s)), H⟩) : wpo C ({ dst := some m, op := .conv .str a } :: is) Q ⟨e, H⟩ :=
  o_plain (by simp only [stepF, ha, St.elems, hs]; rfl) rfl k
theorem o_cvsame {a : AO} {s : List UInt8} (ha : St.val ⟨e, H⟩ a = some (.str s)) (k : wpo C is Q ⟨upd e m (.d (.str s)), H⟩) : wpo C ({ dst := some m, op := .conv .same a } :: is) Q ⟨e, H⟩ :=
  o_plain (by simp only [stepF, ha]; rfl) rfl k
theorem o_mkf {g : Nat} {cs : List AO} {ds : List D} (hv : St.vals ⟨e, H⟩ cs = some ds) (k : wpo C is Q ⟨upd e m (.d (.fn g ds)), H⟩) : wpo C ({ dst := some m, op := .mkf g cs } :: is) Q ⟨e, H⟩ :=
  o_plain (by simp only [stepF, hv]; rfl) rfl k
theorem o_mks {α : Type} {f : α → D} {x : α} {z : D} {el bytes : Nat} {a : AO} {j : Int} (ha : St.val ⟨e, H⟩ a = some (.int .i64 j)) (hz : z = f x) (hj : 0 ≤ j ∧ j * bytes ≤ 140737488351232 ∧ j ≤ 140737488351232) (k : wpo C is Q ⟨upd e m (.d (.own el ((List.replicate j.toNat x).map f))), H⟩) : wpo C ({ dst := some m, op := .mks el z bytes a } :: is) Q ⟨e, H⟩ := by
  subst hz
  rw [List.map_replicate] at k
  exact o_plain (by simp only [stepF, ha]; rw [if_pos hj]; rfl) rfl k
theorem o_sls {a : AO} {lo hi : Option AO} {s : List UInt8} {l h : Nat} (ha : St.val ⟨e, H⟩ a = some (.str s)) (hl : bound? ⟨e, H⟩ 0 lo = some l) (hh : bound? ⟨e, H⟩ s.length hi = some h) (hc : l ≤ h ∧ h ≤ s.length) (k : wpo C is Q ⟨upd e m (.d (.str ((s.drop l).take (h - l)))), H⟩) : wpo C ({ dst := some m, op := .sls a lo hi } :: is) Q ⟨e, H⟩ :=
  o_plain (by simp only [stepF, ha, hl, hh]; rw [if_pos hc]; rfl) rfl k
theorem o_sll {α : Type} {f : α → D} {xs : List α} {sz : Nat} {a : AO} {lo hi : Option AO} {l h : Nat} (he : ∀ x, D.elem sz (f x) = true) (ha : St.val ⟨e, H⟩ a = some (.list (xs.map f))) (hl : bound? ⟨e, H⟩ 0 lo = some l) (hh : bound? ⟨e, H⟩ xs.length hi = some h) (hc : l ≤ h ∧ h ≤ xs.length) (k : wpo C is Q ⟨upd e m (.d (.list (((xs.drop l).take (h - l)).map f))), H⟩) : wpo C ({ dst := some m, op := .sll sz a lo hi } :: is) Q ⟨e, H⟩ := by
  have h1 : (xs.map f).all (D.elem sz) = true := by simp [he]
  refine o_plain ?_ rfl k
  simp only [stepF, ha, hl, List.length_map, hh]
  rw [if_pos ⟨hc.1, hc.2, h1⟩, List.map_take, List.map_drop]; rfl
theorem b_none {σ : St} {n : Nat} : bound? σ n none = some n := rfl
theorem b_some {σ : St} {n : Nat} {a : AO} {q : IntKind} {x : Int} (ha : σ.val a = some (.int q x)) (h : 0 ≤ x) : bound? σ n (some a) = some x.toNat := by simp only [bound?, ha, if_pos h]
theorem o_fa {s off k0 : Nat} (hp : St.lv ⟨e, H⟩ n = some (.var s off)) (k : wpo C is Q ⟨upd e m (.loc s (off + k0)), H⟩) : wpo C ({ dst := some m, op := .fa n k0 } :: is) Q ⟨e, H⟩ :=
  o_plain (by simp only [stepF, hp]; rfl) rfl k
theorem o_fai {cs : List D} {k0 : Nat} (hp : e n = .d (.imm cs)) (k : wpo C is Q ⟨upd e m (.d (.imm (cs.drop k0))), H⟩) : wpo C ({ dst := some m, op := .fa n k0 } :: is) Q ⟨e, H⟩ :=
  o_plain (by simp only [stepF, St.lv, hp]; rfl) rfl k
theorem o_fao {b off k0 : Nat} (hp : e n = .d (.ptr b off)) (k : wpo C is Q ⟨upd e m (.d (.ptr b (off + k0))), H⟩) : wpo C ({ dst := some m, op := .fa n k0 } :: is) Q ⟨e, H⟩ :=
  o_plain (by simp only [stepF, St.lv, hp]; rfl) rfl k
theorem o_fld {off sz : Nat} {a : AO} {cs ds es : List D} (ha : St.val ⟨e, H⟩ a = some (.agg cs)) (hc : cut cs off sz = some ds) (hd : ds.map D.copy = es) (k : wpo C is Q ⟨upd e m (.d (.agg es)), H⟩) : wpo C ({ dst := some m, op := .fld off (some sz) a } :: is) Q ⟨e, H⟩ :=
  o_plain (by simp only [stepF, ha, Option.getD_some, hc, ofCells, hd]; rfl) rfl k
theorem o_fld1 {off : Nat} {a : AO} {cs : List D} {d d' : D} (ha : St.val ⟨e, H⟩ a = some (.agg cs)) (hc : cut cs off 1 = some [d]) (hd : d.copy = d') (k : wpo C is Q ⟨upd e m (.d d'), H⟩) : wpo C ({ dst := some m, op := .fld off none a } :: is) Q ⟨e, H⟩ :=
  o_plain (by simp only [stepF, ha, Option.getD_none, hc, ofCells, hd]; rfl) rfl k
theorem o_iaa {len sz s off : Nat} {i : AO} {q : IntKind} {x : Int} (hp : St.lv ⟨e, H⟩ n = some (.var s off)) (hi : St.val ⟨e, H⟩ i = some (.int q x)) (h0 : 0 ≤ x ∧ x < len) (k : wpo C is Q ⟨upd e m (.loc s (off + x.toNat * sz)), H⟩) : wpo C ({ dst := some m, op := .iaa len sz n i } :: is) Q ⟨e, H⟩ :=
  o_plain (by simp only [stepF, hp, hi, if_pos h0]; rfl) rfl k
theorem o_iaai {len sz : Nat} {cs : List D} {i : AO} {q : IntKind} {x : Int} (hp : e n = .d (.imm cs)) (hi : St.val ⟨e, H⟩ i = some (.int q x)) (h0 : 0 ≤ x ∧ x < len) (k : wpo C is Q ⟨upd e m (.d (.imm (cs.drop (x.toNat * sz)))), H⟩) : wpo C ({ dst := some m, op := .iaa len sz n i } :: is) Q ⟨e, H⟩ :=
  o_plain (by simp only [stepF, St.lv, hp, hi, if_pos h0]; rfl) rfl k
theorem o_iaao {len sz b off : Nat} {i : AO} {q : IntKind} {x : Int} (hp : e n = .d (.ptr b off)) (hi : St.val ⟨e, H⟩ i = some (.int q x)) (h0 : 0 ≤ x ∧ x < len) (k : wpo C is Q ⟨upd e m (.d (.ptr b (off + x.toNat * sz))), H⟩) : wpo C ({ dst := some m, op := .iaa len sz n i } :: is) Q ⟨e, H⟩ :=
  o_plain (by simp only [stepF, St.lv, hp, hi, if_pos h0]; rfl) rfl k
theorem o_ias {α : Type} {f : α → D} {xs : List α} {x : α} {cs : List D} {sz : Nat} {a i : AO} {q : IntKind} {j : Int} (ha : St.val ⟨e, H⟩ a = some (.list (xs.map f))) (hi : St.val ⟨e, H⟩ i = some (.int q j)) (hx : at_ xs j = some x) (hc : (f x).cells = cs) (hl : cs.length = sz) (k : wpo C is Q ⟨upd e m (.d (.imm cs)), H⟩) : wpo C ({ dst := some m, op := .ias sz a i } :: is) Q ⟨e, H⟩ := by
  obtain ⟨h0, hx⟩ := at_some hx
  refine o_plain ?_ rfl k
  simp only [stepF, ha, hi, if_pos h0, List.getElem?_map, hx, Option.map_some, hc, hl, if_true]; rfl
theorem o_ixa {len sz : Nat} {a i : AO} {cs ds es : List D} {q : IntKind} {x : Int} (ha : St.val ⟨e, H⟩ a = some (.agg cs)) (hi : St.val ⟨e, H⟩ i = some (.int q x)) (h0 : 0 ≤ x ∧ x < len) (hc : cut cs (x.toNat * sz) sz = some ds) (hd : ds.map D.copy = es) (k : wpo C is Q ⟨upd e m (.d (.agg es)), H⟩) : wpo C ({ dst := some m, op := .ixa len (some sz) a i } :: is) Q ⟨e, H⟩ :=
  o_plain (by simp only [stepF, ha, hi, if_pos h0, Option.getD_some, hc, ofCells, hd]; rfl) rfl k
theorem o_ixa1 {len : Nat} {a i : AO} {cs : List D} {d d' : D} {q : IntKind} {x : Int} (ha : St.val ⟨e, H⟩ a = some (.agg cs)) (hi : St.val ⟨e, H⟩ i = some (.int q x)) (h0 : 0 ≤ x ∧ x < len) (hc : cut cs (x.toNat * 1) 1 = some [d]) (hd : d.copy = d') (k : wpo C is Q ⟨upd e m (.d d'), H⟩) : wpo C ({ dst := some m, op := .ixa len none a i } :: is) Q ⟨e, H⟩ :=
  o_plain (by simp only [stepF, ha, hi, if_pos h0, Option.getD_none, hc, ofCells, hd]; rfl) rfl k
theorem o_ixs {a i : AO} {s : List UInt8} {q : IntKind} {x : Int} {b : UInt8} (ha : St.val ⟨e, H⟩ a = some (.str s)) (hi : St.val ⟨e, H⟩ i = some (.int q x)) (hb : at_ s x = some b) (k : wpo C is Q ⟨upd e m (.d (.int .u8 (b.toNat : Int))), H⟩) : wpo C ({ dst := some m, op := .ixs a i } :: is) Q ⟨e, H⟩ := by
  obtain ⟨h0, hx⟩ := at_some hb
  exact o_plain (by simp only [stepF, ha, hi, if_pos h0, hx]; rfl) rfl k
theorem o_ext {a : AO} {ds : List D} {i : Nat} {d : D} (ha : St.val ⟨e, H⟩ a = some (.tup ds)) (hd : ds[i]? = some d) (k : wpo C is Q ⟨upd e m (.d d), H⟩) : wpo C ({ dst := some m, op := .ext a i } :: is) Q ⟨e, H⟩ :=
  o_plain (by simp only [stepF, ha, hd]; rfl) rfl k
theorem o_len {a : AO} {d : D} {s : Bool} {n : Nat} (ha : St.val ⟨e, H⟩ a = some d) (hn : d.len? s = some n) (k : n ≤ 140737488351232 → wpo C is Q ⟨upd e m (.d (.int .i64 (n : Int))), H⟩) : wpo C ({ dst := some m, op := .len s a } :: is) Q ⟨e, H⟩ := by
  show opP C (.len s a) (some m) (wpo C is Q) ⟨e, H⟩
  simp only [opP, ha, hn]; exact k
theorem o_len_l {α : Type} {f : α → D} {xs : List α} {a : AO} (ha : St.val ⟨e, H⟩ a = some (.list (xs.map f))) (k : xs.length ≤ 140737488351232 → wpo C is Q ⟨upd e m (.d (.int .i64 (xs.length : Int))), H⟩) : wpo C ({ dst := some m, op := .len false a } :: is) Q ⟨e, H⟩ :=
  o_len ha (by simp [D.len?]) k
theorem o_lenb {a : AO} {d : D} {s : Bool} {n : Nat} (ha : St.val ⟨e, H⟩ a = some d) (hn : d.len? s = some n) (hb : n ≤ 140737488351232) (k : wpo C is Q ⟨upd e m (.d (.int .i64 (n : Int))), H⟩) : wpo C ({ dst := some m, op := .lenB s a } :: is) Q ⟨e, H⟩ :=
  o_plain (by simp only [stepF, ha, hn, if_pos hb]; rfl) rfl k
theorem o_lenb_l {α : Type} {f : α → D} {xs : List α} {a : AO} (ha : St.val ⟨e, H⟩ a = some (.list (xs.map f))) (hb : xs.length ≤ 140737488351232) (k : wpo C is Q ⟨upd e m (.d (.int .i64 (xs.length : Int))), H⟩) : wpo C ({ dst := some m, op := .lenB false a } :: is) Q ⟨e, H⟩ :=
  o_lenb ha (by simp [D.len?]) hb k
theorem o_app {α : Type} {f : α → D} {xs ys : List α} {el sz bytes s : Nat} {a : AO} (he : ∀ x, D.elem sz (f x) = true) (hs : e s = .d (.own el (xs.map f))) (ha : St.val ⟨e, H⟩ a = some (.list (ys.map f))) (hn : (xs.length + ys.length) * bytes ≤ 140737488351232 ∧ xs.length + ys.length ≤ 140737488351232) (k : wpo C is Q ⟨upd (upd e s (.d (.list (xs.map f)))) m (.d (.own el ((xs ++ ys).map f))), H⟩) : wpo C ({ dst := some m, op := .app el sz bytes s a } :: is) Q ⟨e, H⟩ := by
  have h1 : (ys.map f).all (D.elem sz) = true := by simp [he]
  rw [List.map_append] at k
  refine o_plain ?_ rfl k
  simp only [stepF, hs, if_true, ha, St.elems, List.length_map]
  rw [if_pos ⟨hn.1, hn.2, h1⟩]; rfl
theorem o_minmax {mx : Bool} {as : List AO} {ds : List D} {d : D} (hv : St.vals ⟨e, H⟩ as = some ds) (hd : minmaxOf mx ds = some d) (k : wpo C is Q ⟨upd e m (.d d), H⟩) : wpo C ({ dst := some m, op := .minmax mx as } :: is) Q ⟨e, H⟩ :=
  o_plain (by simp only [stepF, hv, hd]; rfl) rfl k
theorem o_call {f : Nat} {as : List AO} {ds : List D} {r : D} {H' : List (Option (List D))} (hx : as.all AO.notX = true) (hg : St.gives ⟨e, H⟩ as = some ds) (hc : C f ds H r H') (k : wpo C is Q ⟨upd e m (.d r), H'⟩) : wpo C ({ dst := some m, op := .call f as } :: is) Q ⟨e, H⟩ := by
  have hsp : ∀ (as : List AO) (σ : St), as.all AO.notX = true → σ.spends as = σ := by
    intro as
    induction as with
    | nil => intro σ _; rfl
    | cons a as ih =>
      intro σ h
      simp only [List.all_cons, Bool.and_eq_true] at h
      have : σ.spend a = σ := by cases a <;> first | rfl | cases h.1
      show (σ.spend a).spends as = σ
      rw [this]; exact ih σ h.2
  show opP C (.call f as) (some m) (wpo C is Q) ⟨e, H⟩
  simp only [opP, hg]
  refine ⟨r, H', hc, ?_⟩
  rw [hsp as _ hx]; exact k
theorem o_callv {g : AO} {f : Nat} {as : List AO} {ds cs : List D} {r : D} {H' : List (Option (List D))} (hx : as.all AO.notX = true) (hv : St.val ⟨e, H⟩ g = some (.fn f cs)) (hg : St.gives ⟨e, H⟩ as = some ds) (hc : C f (ds ++ cs) H r H') (k : wpo C is Q ⟨upd e m (.d r), H'⟩) : wpo C ({ dst := some m, op := .callv g as } :: is) Q ⟨e, H⟩ := by
  have hsp : ∀ (as : List AO) (σ : St), as.all AO.notX = true → σ.spends as = σ := by
    intro as
    induction as with
    | nil => intro σ _; rfl
    | cons a as ih =>
      intro σ h
      simp only [List.all_cons, Bool.and_eq_true] at h
      have : σ.spend a = σ := by cases a <;> first | rfl | cases h.1
      show (σ.spend a).spends as = σ
      rw [this]; exact ih σ h.2
  show opP C (.callv g as) (some m) (wpo C is Q) ⟨e, H⟩
  simp only [opP, hv, hg]
  refine ⟨r, H', hc, ?_⟩
  rw [hsp as _ hx]; exact k
theorem o_callq {f : Nat} {as : List AO} {ds : List D} {r : D} (hg : St.gives ⟨e, H⟩ as = some ds) (hc : C f ds H r H) (k : wpo C is Q ⟨upd e m (.d r), H⟩) : wpo C ({ dst := some m, op := .callQ f as } :: is) Q ⟨e, H⟩ := by
  show opP C (.callQ f as) (some m) (wpo C is Q) ⟨e, H⟩
  simp only [opP, hg]
  exact ⟨r, hc, k⟩
theorem o_callvq {g : AO} {f : Nat} {as : List AO} {ds cs : List D} {r : D} (hv : St.val ⟨e, H⟩ g = some (.fn f cs)) (hg : St.gives ⟨e, H⟩ as = some ds) (hc : C f (ds ++ cs) H r H) (k : wpo C is Q ⟨upd e m (.d r), H⟩) : wpo C ({ dst := some m, op := .callvQ g as } :: is) Q ⟨e, H⟩ := by
  show opP C (.callvQ g as) (some m) (wpo C is Q) ⟨e, H⟩
  simp only [opP, hv, hg]
  exact ⟨r, hc, k⟩
theorem o_nilc {d : D} (ha : e n = .d d) (hn : (match d with | .nilp | .nili | .nilf => false | _ => true) = true) (k : wpo C is Q ⟨upd e m (.d d.copy), H⟩) : wpo C ({ dst := some m, op := .nilc n } :: is) Q ⟨e, H⟩ :=
  o_plain (by simp only [stepF, ha]; cases d <;> first | rfl | cases hn) rfl k
theorem o_nilcv {cs : List D} (ha : e n = .var cs) (k : wpo C is Q ⟨upd e m (.loc n 0), H⟩) : wpo C ({ dst := some m, op := .nilc n } :: is) Q ⟨e, H⟩ :=
  o_plain (by simp only [stepF, ha]; rfl) rfl k
theorem o_nilcl {s o : Nat} (ha : e n = .loc s o) (k : wpo C is Q ⟨upd e m (.loc s o), H⟩) : wpo C ({ dst := some m, op := .nilc n } :: is) Q ⟨e, H⟩ :=
  o_plain (by simp only [stepF, ha]; rfl) rfl k
/-- Objects. -/
theorem o_boxh {a : AO} {d : D} {cs : List D} (ha : St.val ⟨e, H⟩ a = some d) (h1 : d.cells.all D.one = true) (hc : d.cells.map D.copy = cs) (k : wpo C is Q ⟨upd e m (.d (.ptr H.length 0)), H ++ [some cs]⟩) : wpo C ({ dst := some m, op := .boxH a } :: is) Q ⟨e, H⟩ :=
  o_plain (by simp only [stepF, ha, h1, hc, if_true]; rfl) rfl k
theorem o_alloch {z cs : List D} (hz : z = cs) (k : wpo C is Q ⟨upd e m (.d (.ptr H.length 0)), H ++ [some cs]⟩) : wpo C ({ dst := some m, op := .allocH z } :: is) Q ⟨e, H⟩ := by
  subst hz; exact o_plain rfl rfl k

theorem obj_last {cs : List D} : St.obj ⟨e, H ++ [some cs]⟩ H.length = some cs := by simp [St.obj]
theorem obj_app {b : Nat} {cs : List D} {x : Option (List D)} (h : St.obj ⟨e, H⟩ b = some cs) : St.obj ⟨e, H ++ [x]⟩ b = some cs := by
  unfold St.obj at h ⊢
  split at h
  · rename_i cs' hb
    have hlt : b < H.length := (List.getElem?_eq_some_iff.1 hb).1
    show (match (H ++ [x])[b]? with | some (some cs) => some cs | _ => none) = _
    rw [List.getElem?_append_left hlt, hb]; exact h
  · cases h
theorem obj_set {b : Nat} {cs cs' : List D} (h : St.obj ⟨e, H⟩ b = some cs) : St.obj ⟨e, H.set b (some cs')⟩ b = some cs' := by
  unfold St.obj at h ⊢
  split at h
  · rename_i hb
    have hlt : b < H.length := (List.getElem?_eq_some_iff.1 hb).1
    show (match (H.set b (some cs'))[b]? with | some (some cs) => some cs | _ => none) = _
    rw [List.getElem?_set_self hlt]
  · cases h
theorem obj_set' {b c : Nat} {cs : List D} {x : Option (List D)} (hc : c ≠ b) (h : St.obj ⟨e, H⟩ b = some cs) : St.obj ⟨e, H.set c x⟩ b = some cs := by
  unfold St.obj at h ⊢
  show (match (H.set c x)[b]? with | some (some cs) => some cs | _ => none) = _
  rw [List.getElem?_set_ne hc]; exact h
theorem obj_env {e' : Nat → Slot} {b : Nat} : St.obj ⟨e', H⟩ b = St.obj ⟨e, H⟩ b := rfl

theorem bin_str {a b : List UInt8} (h : a.length + b.length ≤ 140737488351232) : bin .add (.str a) (.str b) = some (.str (a ++ b)) := by
  show binStr .add a b = _
  simp only [binStr, if_pos h]
theorem bin_quo {q : IntKind} {a b : Int} (h : b ≠ 0) : bin .quo (.int q a) (.int q b) = some (.int q (q.wrap (a.tdiv b))) := by
  show (if q = q then binInt .quo q a b else none) = _
  simp only [if_true, binInt, if_neg h]
theorem bin_rem {q : IntKind} {a b : Int} (h : b ≠ 0) : bin .rem (.int q a) (.int q b) = some (.int q (a.tmod b)) := by
  show (if q = q then binInt .rem q a b else none) = _
  simp only [if_true, binInt, if_neg h]
theorem bin_shl {q q' : IntKind} {a b : Int} (h : 0 ≤ b) : bin .shl (.int q a) (.int q' b) = some (.int q (q.wrap (a * 2 ^ (min b.toNat q.bits)))) := by
  show shift .shl q a b = _
  unfold shift; rw [if_neg (by omega)]
theorem bin_shr {q q' : IntKind} {a b : Int} (h : 0 ≤ b) : bin .shr (.int q a) (.int q' b) = some (.int q (a.fdiv (2 ^ (min b.toNat q.bits)))) := by
  show shift .shr q a b = _
  unfold shift; rw [if_neg (by omega)]
theorem toBytes_map (s : List Int) (h : ∀ x ∈ s, True) : toBytes (s.map (D.int .u8)) = some (s.map fun n => UInt8.ofNat n.toNat) := by
  induction s with
  | nil => rfl
  | cons x s ih => simp only [List.map_cons, toBytes, toByte, ih (fun _ _ => trivial)]
theorem ofBytes_map (s : List UInt8) : ofBytes s = (s.map fun b => (b.toNat : Int)).map (D.int .u8) := by
  simp [ofBytes]
theorem deqs_int {q : IntKind} : ∀ {n : Nat} {a b : List Int}, a.length = n → b.length = n → deqs .int (a.map (D.int q)) (b.map (D.int q)) = some (a == b)
  | 0, [], [], _, _ => rfl
  | n + 1, x :: a, y :: b, h1, h2 => by
    simp only [List.map_cons, deqs, eqK, if_true, deqs_int (n := n) (by simpa using h1) (by simpa using h2)]
    rfl
theorem deqs_bool : ∀ {n : Nat} {a b : List Bool}, a.length = n → b.length = n → deqs .bool (a.map D.bool) (b.map D.bool) = some (a == b)
  | 0, [], [], _, _ => rfl
  | n + 1, x :: a, y :: b, h1, h2 => by
    simp only [List.map_cons, deqs, eqK, deqs_bool (n := n) (by simpa using h1) (by simpa using h2)]
    rfl
theorem deq_agg {q : EqK} {n : Nat} {as bs : List D} {r : Bool} (h1 : as.length = n + 1) (h : deqs q as bs = some r) : deq q (n + 1) (.agg as) (.agg bs) = some r := by
  simp only [deq, h1, if_true, h]
end

theorem upd_same {e : Nat → Slot} {n : Nat} {s : Slot} (h : e n = s) : upd e n s = e := by
  funext m
  unfold upd
  split
  · rename_i hm; rw [hm, h]
  · rfl
/-- Own or not. -/
def lw : Nat → List D → D := fun _ => .list
def ow (off e : Nat) : Nat → List D → D := fun n xs => if n = off then .own e xs else .list xs
structure Wr (w : Nat → List D → D) : Prop where
  copy : ∀ n xs, (w n xs).copy = .list xs
  one : ∀ n xs, (w n xs).one = true
theorem wr_l : Wr lw := ⟨fun _ _ => rfl, fun _ _ => rfl⟩
theorem wr_o (off e : Nat) : Wr (ow off e) := ⟨fun n xs => by unfold ow; split <;> rfl, fun n xs => by unfold ow; split <;> rfl⟩
theorem cm_int {q : IntKind} {xs : List Int} : (xs.map (D.int q)).map D.copy = xs.map (D.int q) := by simp [D.copy]
theorem cm_bool {xs : List Bool} : (xs.map D.bool).map D.copy = xs.map D.bool := by simp [D.copy]
theorem om_int {q : IntKind} {xs : List Int} : (xs.map (D.int q)).all D.one = true := by simp [D.one]
theorem om_bool {xs : List Bool} : (xs.map D.bool).all D.one = true := by simp [D.one]
/-- Objects, known by what they hold. -/
def objH (H : List (Option (List D))) (b : Nat) : Option (List D) := St.obj ⟨fun _ => .und, H⟩ b
section
variable {C : Con} {is : List AI} {Q : St → Prop} {e : Nat → Slot} {H : List (Option (List D))} {m n : Nat}
theorem o_boxh' {a : AO} {d : D} {cs : List D} (ha : St.val ⟨e, H⟩ a = some d) (h1 : d.cells.all D.one = true) (hc : d.cells.map D.copy = cs) (k : ∀ b H', objH H' b = some cs → (∀ b' cs', objH H b' = some cs' → objH H' b' = some cs' ∧ b' ≠ b) → wpo C is Q ⟨upd e m (.d (.ptr b 0)), H'⟩) : wpo C ({ dst := some m, op := .boxH a } :: is) Q ⟨e, H⟩ :=
  o_boxh ha h1 hc (k _ _ obj_last fun b' cs' h => ⟨obj_app h, fun hb => by subst hb; simp [objH, St.obj] at h⟩)
theorem o_alloch' {z cs : List D} (hz : z = cs) (k : ∀ b H', objH H' b = some cs → (∀ b' cs', objH H b' = some cs' → objH H' b' = some cs' ∧ b' ≠ b) → wpo C is Q ⟨upd e m (.d (.ptr b 0)), H'⟩) : wpo C ({ dst := some m, op := .allocH z } :: is) Q ⟨e, H⟩ :=
  o_alloch hz (k _ _ obj_last fun b' cs' h => ⟨obj_app h, fun hb => by subst hb; simp [objH, St.obj] at h⟩)
theorem o_sto' {a : AO} {d : D} {cs ds cs' : List D} {b off sz : Nat} (hx : a.notX = true) (hp : e n = .d (.ptr b off)) (hg : St.give ⟨e, H⟩ a = some d) (hd : d.cells = ds) (hl : ds.length = sz) (h1 : ds.all D.one = true) (hs : objH H b = some cs) (hc : splice cs off ds = some cs') (k : ∀ H', objH H' b = some cs' → (∀ b' c, b' ≠ b → objH H b' = some c → objH H' b' = some c) → wpo C is Q ⟨e, H'⟩) : wpo C ({ dst := none, op := .st sz n a } :: is) Q ⟨e, H⟩ :=
  o_sto hx hp hg hd hl h1 hs hc (k _ (obj_set hs) fun b' c hb h => obj_set' (fun h => hb h.symm) h)
end
/-- A head of temporaries. -/
def upds (e : Nat → Slot) : List (Nat × Slot) → Nat → Slot
  | [] => e
  | (n, s) :: l => upd (upds e l) n s
def heads (e : Nat → Slot) : List (Nat × Slot) → Prop
  | [] => True
  | (n, s) :: l => e n = s ∧ heads e l
theorem upds_heads {e : Nat → Slot} : ∀ {L : List (Nat × Slot)}, heads e L → upds e L = e
  | [], _ => rfl
  | (n, s) :: l, h => by
    show upd (upds e l) n s = e
    rw [upds_heads h.2]; exact upd_same h.1
theorem wpc_head {C : Con} {A : AC} {Q : Ex → St → Prop} {e : Nat → Slot} {H : List (Option (List D))} {L : List (Nat × Slot)} (k : wpc C A Q ⟨upds e L, H⟩) (h : heads e L) : wpc C A Q ⟨e, H⟩ := by rw [upds_heads h] at k; exact k
theorem wpo_head {C : Con} {is : List AI} {Q : St → Prop} {e : Nat → Slot} {H : List (Option (List D))} {L : List (Nat × Slot)} (k : wpo C is Q ⟨upds e L, H⟩) (h : heads e L) : wpo C is Q ⟨e, H⟩ := by rw [upds_heads h] at k; exact k
theorem q_head {Q : Ex → St → Prop} {x : Ex} {e : Nat → Slot} {H : List (Option (List D))} {L : List (Nat × Slot)} (k : Q x ⟨upds e L, H⟩) (h : heads e L) : Q x ⟨e, H⟩ := by rw [upds_heads h] at k; exact k
theorem cl_nil : ∀ d ∈ ([] : List D), d.closed = true := by simp
theorem cl_cons {d : D} {ds : List D} (h : d.closed = true) (k : ∀ d ∈ ds, d.closed = true) : ∀ d' ∈ d :: ds, d'.closed = true := by
  intro d' h'
  rcases List.mem_cons.1 h' with rfl | h'
  · exact h
  · exact k _ h'
theorem closedL_app {a b : List D} : D.closedL (a ++ b) = (D.closedL a && D.closedL b) := by
  induction a with
  | nil => simp [D.closedL]
  | cons x a ih => simp [D.closedL, ih, Bool.and_assoc]
theorem closedL_mi {q : IntKind} {xs : List Int} : D.closedL (xs.map (D.int q)) = true := by
  induction xs with
  | nil => rfl
  | cons x xs ih => simp [D.closedL, D.closed, ih]
theorem closedL_mb {xs : List Bool} : D.closedL (xs.map D.bool) = true := by
  induction xs with
  | nil => rfl
  | cons x xs ih => simp [D.closedL, D.closed, ih]
def encL {α : Type} (f : α → D) (xs : List α) : D := .list (xs.map f)
theorem encL_cells {α : Type} {f : α → D} {xs : List α} : (encL f xs).cells = [.list (xs.map f)] := rfl
def encA {α : Type} {n : Nat} (f : α → D) (a : Arr α n) : D := .agg (a.l.map f)
theorem encA_cells {α : Type} {n : Nat} {f : α → D} {a : Arr α n} : (encA f a).cells = a.l.map f := rfl
theorem elem_int {q : IntKind} (x : Int) : D.elem 1 (D.int q x) = true := rfl
theorem elem_bool (x : Bool) : D.elem 1 (D.bool x) = true := rfl
theorem elem_str (x : List UInt8) : D.elem 1 (D.str x) = true := rfl
theorem elem_list {α : Type} {f : α → D} (x : List α) : D.elem 1 (encL f x) = true := rfl
theorem elem_arr_int {q : IntKind} {n : Nat} (a : Arr Int n) : D.elem n (encA (D.int q) a) = true := by
  unfold D.elem encA
  simp only [D.cells, List.length_map, a.h, beq_self_eq_true, D.closed, closedL_mi, om_int, Bool.and_self]
theorem elem_arr_bool {n : Nat} (a : Arr Bool n) : D.elem n (encA D.bool a) = true := by
  unfold D.elem encA
  simp only [D.cells, List.length_map, a.h, beq_self_eq_true, D.closed, closedL_mb, om_bool, Bool.and_self]
theorem elem_of {d : D} {n : Nat} {cs : List D} (h : d.cells = cs) (hl : cs.length = n) (hc : d.closed = true) (h1 : cs.all D.one = true) : d.elem n = true := by
  unfold D.elem; rw [h, hl, hc, h1]; simp
end Go.Am
