/- SimpSays, plain law: the reference's words, and how great what they make is. -/
import Derived.Test.YtgdjgoehofopnaaDoorSsA
set_option linter.unusedSimpArgs false
set_option linter.unusedVariables false
set_option maxRecDepth 20000
namespace Go.Am
open Go
abbrev R17 := T_ref17_Coded
abbrev C17 := T_coded_Coded

theorem R17.ind {M : R17 → Prop} (h : ∀ x, (∀ y ∈ x.L, M y) → M x) : ∀ x, M x
  | ⟨k, b, s, l⟩ => h _ fun y hy => R17.ind h y
termination_by x => SizeOf.sizeOf x
decreasing_by
  have := List.sizeOf_lt_of_mem hy
  simp at this ⊢
  omega
theorem C17.ind {M : C17 → Prop} (h : ∀ x, (∀ y ∈ x.L, M y) → M x) : ∀ x, M x
  | ⟨k, b, s, l⟩ => h _ fun y hy => C17.ind h y
termination_by x => SizeOf.sizeOf x
decreasing_by
  have := List.sizeOf_lt_of_mem hy
  simp at this ⊢
  omega

def zs : Arr Bool 256 := Arr.rep 256 false
def zeroR : R17 := ⟨0, [], zs, []⟩
def fuseR (b : List UInt8) (x : R17) : R17 := if x.Kind = 0 then x else ⟨x.Kind, b ++ x.Bits, x.Set, x.L⟩
def rowR (x : R17) : List R17 := if x.Kind = 0 then [] else if x.Kind = 4 then x.L.map (fuseR x.Bits) else [x]
def flatR (l : List R17) : List R17 := l.flatMap rowR
mutual
def sameR : R17 → R17 → Bool
  | ⟨k, _, s, l⟩, ⟨k', _, s', l'⟩ => (k == k') && ((s.l == s'.l) && samesR l l')
termination_by structural x => x
def samesR : List R17 → List R17 → Bool
  | [], [] => true
  | x :: xs, y :: ys => sameR x y && samesR xs ys
  | [], _ :: _ => false
  | _ :: _, [] => false
termination_by structural x => x
end
theorem sameR_eq (x y : R17) : sameR x y = ((x.Kind == y.Kind) && ((x.Set.l == y.Set.l) && samesR x.L y.L)) := by cases x; cases y; rw [sameR]
theorem sameR_comm (x : R17) : ∀ y, sameR x y = sameR y x := by
  induction x using R17.ind with
  | h x ih =>
    intro y
    have hl : ∀ (a b : List R17), (∀ z ∈ a, ∀ y, sameR z y = sameR y z) → samesR a b = samesR b a := by
      intro a
      induction a with
      | nil => intro b _; cases b <;> rfl
      | cons z a iha =>
        intro b h
        cases b with
        | nil => rfl
        | cons w b => rw [samesR, samesR, h z (by simp) w, iha b fun z' hz => h z' (by simp [hz])]
    rw [sameR_eq, sameR_eq, hl _ _ ih, show (x.Kind == y.Kind) = (y.Kind == x.Kind) from BEq.comm, show (x.Set.l == y.Set.l) = (y.Set.l == x.Set.l) from BEq.comm]
/-- Those that are like none ahead. -/
def onceR (acc : List R17) : List R17 → List R17
  | [] => acc
  | x :: xs => if acc.any (fun y => sameR y x) then onceR acc xs else onceR (acc ++ [x]) xs
def finR (x : R17) (ls : List R17) : R17 :=
  if x.Kind = 3 then (match ls with
    | [a, b] => if a.Kind = 0 ∨ b.Kind = 0 then zeroR else if a.Kind = 1 then fuseR (x.Bits ++ a.Bits) b else ⟨3, x.Bits, zs, [a, b]⟩
    | _ => x)
  else if x.Kind = 4 then (match onceR [] (flatR ls) with
    | [] => zeroR
    | [a] => fuseR x.Bits a
    | l => ⟨4, x.Bits, zs, l⟩)
  else x
mutual
def simpR : R17 → R17
  | ⟨k, b, s, l⟩ => finR ⟨k, b, s, l⟩ (simpsR l)
termination_by structural x => x
def simpsR : List R17 → List R17
  | [] => []
  | x :: xs => simpR x :: simpsR xs
termination_by structural x => x
end
theorem simpsR_eq : ∀ l, simpsR l = l.map simpR
  | [] => rfl
  | x :: xs => by rw [simpsR, simpsR_eq xs]; rfl
theorem simpR_eq (x : R17) : simpR x = finR x (x.L.map simpR) := by cases x; rw [simpR, simpsR_eq]

/-! How great. -/
mutual
def szR : R17 → Nat
  | ⟨_, _, _, l⟩ => 1 + szsR l
termination_by structural x => x
def szsR : List R17 → Nat
  | [] => 0
  | x :: xs => szR x + szsR xs
termination_by structural x => x
end
theorem szR_eq (x : R17) : szR x = 1 + szsR x.L := by cases x; rw [szR]
theorem szsR_app : ∀ a b, szsR (a ++ b) = szsR a + szsR b
  | [], b => by simp [szsR]
  | x :: a, b => by simp only [List.cons_append, szsR, szsR_app a b]; omega
theorem szsR_len : ∀ l, l.length ≤ szsR l
  | [] => Nat.le_refl _
  | x :: l => by have := szsR_len l; simp only [List.length_cons, szsR, szR_eq]; omega
theorem szsR_mem : ∀ {l : List R17} {x}, x ∈ l → szR x ≤ szsR l
  | y :: l, x, h => by
    rcases List.mem_cons.1 h with rfl | h
    · simp [szsR]
    · have := szsR_mem h; simp only [szsR]; omega
theorem szR_fuse (b : List UInt8) (x : R17) : szR (fuseR b x) = szR x := by
  unfold fuseR; split
  · rfl
  · rw [szR_eq, szR_eq]
theorem szsR_fuse (b : List UInt8) : ∀ l : List R17, szsR (l.map (fuseR b)) = szsR l
  | [] => rfl
  | x :: l => by simp only [List.map_cons, szsR, szR_fuse, szsR_fuse b l]
theorem szsR_row (x : R17) : szsR (rowR x) ≤ szR x := by
  unfold rowR; split
  · simp [szsR]
  · split
    · rw [szsR_fuse, szR_eq]; omega
    · simp [szsR]
theorem szsR_flat : ∀ l, szsR (flatR l) ≤ szsR l
  | [] => Nat.le_refl _
  | x :: l => by
    have h1 := szsR_row x
    have h2 := szsR_flat l
    show szsR (rowR x ++ flatR l) ≤ _
    rw [szsR_app, szsR]; omega
theorem szsR_once : ∀ (l acc : List R17), szsR (onceR acc l) ≤ szsR acc + szsR l
  | [], acc => by simp [onceR]
  | x :: l, acc => by
    rw [onceR]
    split
    · have := szsR_once l acc; simp only [szsR]; omega
    · have := szsR_once l (acc ++ [x]); rw [szsR_app] at this; simp only [szsR] at this ⊢; omega
theorem szR_fin (x : R17) (ls : List R17) (h : szsR ls ≤ szsR x.L) : szR (finR x ls) ≤ szR x := by
  unfold finR
  have h0 : szR zeroR = 1 := rfl
  have hx := szR_eq x
  split
  · split
    · simp only [szsR] at h
      split
      · omega
      · split
        · rw [szR_fuse]; omega
        · rw [szR_eq]; simp only [szsR]; omega
    · exact Nat.le_refl _
  · split
    · have h1 := szsR_once (flatR ls) []
      have h2 := szsR_flat ls
      simp only [szsR] at h1
      split
      · omega
      · rename_i a ho; rw [ho] at h1; simp only [szsR] at h1; rw [szR_fuse]; omega
      · rename_i l _ _; rw [szR_eq]; show 1 + szsR (onceR [] (flatR ls)) ≤ _; omega
    · exact Nat.le_refl _
theorem szR_simp (x : R17) : szR (simpR x) ≤ szR x := by
  induction x using R17.ind with
  | h x ih =>
    rw [simpR_eq]
    refine szR_fin _ _ ?_
    have : ∀ l : List R17, (∀ y ∈ l, szR (simpR y) ≤ szR y) → szsR (l.map simpR) ≤ szsR l := by
      intro l
      induction l with
      | nil => intro _; exact Nat.le_refl _
      | cons y l ihl =>
        intro h
        have h1 := h y (by simp)
        have h2 := ihl fun z hz => h z (by simp [hz])
        simp only [List.map_cons, szsR]; omega
    exact this _ ih
theorem szsR_simp : ∀ l : List R17, szsR (l.map simpR) ≤ szsR l
  | [] => Nat.le_refl _
  | y :: l => by
    have h1 := szR_simp y
    have h2 := szsR_simp l
    simp only [List.map_cons, szsR]; omega

/-! Letters along any path; of both parts of a both. -/
mutual
def pbR : R17 → Nat
  | ⟨k, b, _, l⟩ => b.length + (if k = 3 then pbtR l else pbsR l)
termination_by structural x => x
def pbsR : List R17 → Nat
  | [] => 0
  | x :: xs => max (pbR x) (pbsR xs)
termination_by structural x => x
def pbtR : List R17 → Nat
  | [] => 0
  | x :: xs => pbR x + pbtR xs
termination_by structural x => x
end
theorem pbR_eq (x : R17) : pbR x = x.Bits.length + (if x.Kind = 3 then pbtR x.L else pbsR x.L) := by cases x; rw [pbR]
theorem pbsR_mem : ∀ {l : List R17} {x}, x ∈ l → pbR x ≤ pbsR l
  | y :: l, x, h => by
    rcases List.mem_cons.1 h with rfl | h
    · simp only [pbsR]; omega
    · have := pbsR_mem h; simp only [pbsR]; omega
theorem pbtR_mem : ∀ {l : List R17} {x}, x ∈ l → pbR x ≤ pbtR l
  | y :: l, x, h => by
    rcases List.mem_cons.1 h with rfl | h
    · simp only [pbtR]; omega
    · have := pbtR_mem h; simp only [pbtR]; omega
theorem pbR_mem {x y : R17} (h : y ∈ x.L) : pbR y ≤ pbR x := by
  rw [pbR_eq x]
  have h1 := pbsR_mem h
  have h2 := pbtR_mem h
  split <;> omega
theorem pbsR_le : ∀ {l : List R17} {n}, (∀ x ∈ l, pbR x ≤ n) → pbsR l ≤ n
  | [], n, _ => Nat.zero_le _
  | x :: l, n, h => by
    have h1 := h x (by simp)
    have h2 := pbsR_le (l := l) (n := n) fun z hz => h z (by simp [hz])
    simp only [pbsR]; omega
theorem pbR_fuse (b : List UInt8) (x : R17) : pbR (fuseR b x) ≤ b.length + pbR x := by
  unfold fuseR; split
  · omega
  · rw [pbR_eq, pbR_eq]; simp only [List.length_append]; omega
theorem mem_row {x y : R17} (h : y ∈ rowR x) : pbR y ≤ pbR x := by
  unfold rowR at h
  split at h
  · cases h
  · split at h
    · rename_i h4
      obtain ⟨z, hz, rfl⟩ := List.mem_map.1 h
      have h1 := pbR_fuse x.Bits z
      have h2 := pbsR_mem hz
      rw [pbR_eq x, if_neg (by omega)]; omega
    · simp at h; subst h; exact Nat.le_refl _
theorem mem_flat {l : List R17} {y : R17} (h : y ∈ flatR l) : pbR y ≤ pbsR l := by
  obtain ⟨x, hx, hy⟩ := List.mem_flatMap.1 h
  exact Nat.le_trans (mem_row hy) (pbsR_mem hx)
theorem mem_once : ∀ {l acc : List R17} {y : R17}, y ∈ onceR acc l → y ∈ acc ∨ y ∈ l
  | [], acc, y, h => .inl h
  | x :: l, acc, y, h => by
    rw [onceR] at h
    split at h
    · rcases mem_once h with h | h
      · exact .inl h
      · exact .inr (by simp [h])
    · rcases mem_once h with h | h
      · rcases List.mem_append.1 h with h | h
        · exact .inl h
        · simp at h; exact .inr (by simp [h])
      · exact .inr (by simp [h])
theorem pbR_fin (x : R17) (ls : List R17) (h : pbsR ls ≤ pbsR x.L) (h' : pbtR ls ≤ pbtR x.L) : pbR (finR x ls) ≤ pbR x := by
  unfold finR
  have h0 : pbR zeroR = 0 := rfl
  have hx := pbR_eq x
  split
  · rename_i h3
    rw [if_pos h3] at hx
    split
    · rename_i a b
      simp only [pbtR] at h'
      split
      · omega
      · split
        · have h1 := pbR_fuse (x.Bits ++ a.Bits) b
          have ha := pbR_eq a
          rw [List.length_append] at h1
          omega
        · rw [pbR_eq]; simp only [pbtR, if_true]; omega
    · exact Nat.le_refl _
  · rename_i h3
    rw [if_neg h3] at hx
    split
    · split
      · omega
      · rename_i a ho
        have ha : a ∈ onceR [] (flatR ls) := by rw [ho]; simp
        have h1 := pbR_fuse x.Bits a
        rcases mem_once ha with h2 | h2
        · cases h2
        · have := mem_flat h2; omega
      · rename_i l _ _
        rw [pbR_eq]
        show x.Bits.length + (if (4 : Int) = 3 then _ else pbsR (onceR [] (flatR ls))) ≤ _
        rw [if_neg (by decide)]
        have : pbsR (onceR [] (flatR ls)) ≤ pbsR ls := pbsR_le fun y hy => by
          rcases mem_once hy with h2 | h2
          · cases h2
          · exact mem_flat h2
        omega
    · exact Nat.le_refl _
theorem pbR_simp (x : R17) : pbR (simpR x) ≤ pbR x := by
  induction x using R17.ind with
  | h x ih =>
    rw [simpR_eq]
    have h1 : ∀ l : List R17, (∀ y ∈ l, pbR (simpR y) ≤ pbR y) → pbsR (l.map simpR) ≤ pbsR l ∧ pbtR (l.map simpR) ≤ pbtR l := by
      intro l
      induction l with
      | nil => intro _; exact ⟨Nat.le_refl _, Nat.le_refl _⟩
      | cons y l ihl =>
        intro h
        have h1 := h y (by simp)
        have h2 := ihl fun z hz => h z (by simp [hz])
        simp only [List.map_cons, pbsR, pbtR]; omega
    exact pbR_fin _ _ (h1 _ ih).1 (h1 _ ih).2
end Go.Am
