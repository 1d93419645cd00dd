import Derived.Test.YthgdibdapjaljaaLa10
/- The law LayoutDisjoint: plain facts. -/
namespace Go.Proofs.Ythgdibdapjaljaa
open Go.RowKit

/-- spans that follow one another -/
def Ctg : Int → List (Int × Int) → Int → Prop
 | a, [], b => a = b
 | a, x :: r, b => x.1 = a ∧ 1 ≤ x.2 ∧ Ctg (a + x.2) r b
theorem Ctg.snoc : ∀ {l : List (Int × Int)} {a b n : Int}, Ctg a l b → 1 ≤ n → Ctg a (l ++ [(b, n)]) (b + n)
 | [], a, b, n, h, hn => by
  have h' : a = b := h
  subst h'
  exact ⟨rfl, hn, rfl⟩
 | x :: r, a, b, n, h, hn => ⟨h.1, h.2.1, Ctg.snoc h.2.2 hn⟩
theorem Ctg.le : ∀ {l : List (Int × Int)} {a b : Int}, Ctg a l b → a + l.length ≤ b
 | [], a, b, h => by
  have h' : a = b := h
  simp [h']
 | x :: r, a, b, h => by
  have h1 := Ctg.le h.2.2
  have h2 := h.2.1
  simp only [zlc]; omega
theorem Ctg.all : ∀ {l : List (Int × Int)} {a b : Int}, Ctg a l b → ∀ x ∈ l, a ≤ x.1 ∧ x.1 + x.2 ≤ b ∧ 1 ≤ x.2
 | [], _, _, _, x, hx => by cases hx
 | y :: r, a, b, h, x, hx => by
  obtain ⟨h1, h2, h3⟩ := h
  rcases List.mem_cons.1 hx with rfl | hx
  ·have := Ctg.le h3; exact ⟨by omega, by omega, h2⟩
  ·have := Ctg.all h3 x hx; exact ⟨by omega, this.2.1, this.2.2⟩
/-- they are sorted -/
theorem Ctg.sorted : ∀ {l : List (Int × Int)} {a b : Int}, Ctg a l b → l.Pairwise fun x y => x.1 < y.1
 | [], _, _, _ => .nil
 | x :: r, a, b, h => by
  refine .cons (fun y hy => ?_) (Ctg.sorted h.2.2)
  have := Ctg.all h.2.2 y hy
  have := h.1
  have := h.2.1
  omega
def cSp : List Slt → List (Int × Int)
 | [] => []
 | x :: r => if x.kind = 1 then (x.off, 1) :: cSp r else if x.kind = 2 then (x.off, x.len) :: cSp r else cSp r
def sSp : List Slt → List (Int × Int)
 | [] => []
 | x :: r => if x.kind = 3 then (x.off, 1) :: sSp r else sSp r
def cSum : List Slt → Int
 | [] => 0
 | x :: r => (if x.kind = 1 then 1 else if x.kind = 2 then x.len else 0) + cSum r
def sSum : List Slt → Int
 | [] => 0
 | x :: r => (if x.kind = 3 then 1 else 0) + sSum r
theorem cSp_snoc : ∀ (l : List Slt) (x : Slt), cSp (l ++ [x]) = cSp l ++ (if x.kind = 1 then [(x.off, 1)] else if x.kind = 2 then [(x.off, x.len)] else [])
 | [], x => by rw [zna]; rfl
 | y :: r, x => by
  simp only [zca, cSp, cSp_snoc r x]
  by_cases h1 : y.kind = 1
  ·simp only [if_pos h1, zca]
  ·by_cases h2 : y.kind = 2
   ·simp only [if_neg h1, if_pos h2, zca]
   ·simp only [if_neg h1, if_neg h2]
theorem sSp_snoc : ∀ (l : List Slt) (x : Slt), sSp (l ++ [x]) = sSp l ++ (if x.kind = 3 then [(x.off, 1)] else [])
 | [], x => by rw [zna]; rfl
 | y :: r, x => by
  simp only [zca, sSp, sSp_snoc r x]
  by_cases h1 : y.kind = 3
  ·simp only [if_pos h1, zca]
  ·simp only [if_neg h1]
theorem cSum_snoc : ∀ (l : List Slt) (x : Slt), cSum (l ++ [x]) = cSum l + (if x.kind = 1 then 1 else if x.kind = 2 then x.len else 0)
 | [], x => by simp only [zna, cSum]; try omega
 | y :: r, x => by simp only [zca, cSum, cSum_snoc r x]; omega
theorem sSum_snoc : ∀ (l : List Slt) (x : Slt), sSum (l ++ [x]) = sSum l + (if x.kind = 3 then 1 else 0)
 | [], x => by simp only [zna, sSum]; try omega
 | y :: r, x => by simp only [zca, sSum, sSum_snoc r x]; omega
/-- a frame without gaps -/
structure Jf (f : Fm) : Prop where
 k : ∀ x ∈ f.slots, x.kind = 1 ∨ (x.kind = 2 ∧ 1 ≤ x.len ∧ x.len ≤ 16) ∨ x.kind = 3
 c : Ctg 0 (cSp f.slots) f.cells
 s : Ctg 1 (sSp f.slots) (1 + f.stacks)
 cs : cSum f.slots = f.cells
 ss : sSum f.slots = f.stacks
theorem Jf.zero : Jf zF := ⟨fun _ h => by simp [zF] at h, rfl, rfl, rfl, rfl⟩
theorem Jf.add {f : Fm} {v : Vd} (h : Jf f) (hv : v.kind = 1 ∨ v.kind = 3 ∨ (v.kind = 2 ∧ 1 ≤ v.len ∧ v.len ≤ 16)) : Jf (addF f v) := by
 obtain ⟨h1, h2, h3, h4, h5⟩ := h
 rcases hv with hv | hv | ⟨hv, hl, hl2⟩
 ·have hc := h2.snoc (n := 1) (by omega)
  refine ⟨fun x hx => ?_, ?_, ?_, ?_, ?_⟩
  ·rcases List.mem_append.1 hx with hx | hx
   ·exact h1 x hx
   ·rw [List.mem_singleton] at hx; subst hx; exact .inl hv
  ·simp only [addF, cSp_snoc, hv, atF]; simpa using hc
  ·simp only [addF, sSp_snoc, hv]; simpa using h3
  ·simp only [addF, cSum_snoc, hv, h4]; simp
  ·simp only [addF, sSum_snoc, hv, h5]; simp
 ·have hc := h3.snoc (n := 1) (by omega)
  refine ⟨fun x hx => ?_, ?_, ?_, ?_, ?_⟩
  ·rcases List.mem_append.1 hx with hx | hx
   ·exact h1 x hx
   ·rw [List.mem_singleton] at hx; subst hx; exact .inr (.inr hv)
  ·simp only [addF, cSp_snoc, hv]; simpa using h2
  ·simp only [addF, sSp_snoc, hv, atF, if_true]
   rw [show (1 : Int) + (f.stacks + 1) = 1 + f.stacks + 1 from by omega, show f.stacks + 1 = 1 + f.stacks from by omega]
   simpa using hc
  ·simp only [addF, cSum_snoc, hv, h4]; simp
  ·simp only [addF, sSum_snoc, hv, h5]; simp
 ·have hc := h2.snoc (n := v.len) hl
  refine ⟨fun x hx => ?_, ?_, ?_, ?_, ?_⟩
  ·rcases List.mem_append.1 hx with hx | hx
   ·exact h1 x hx
   ·rw [List.mem_singleton] at hx; subst hx; exact .inr (.inl ⟨hv, hl, hl2⟩)
  ·simp only [addF, cSp_snoc, hv, atF]; simpa using hc
  ·simp only [addF, sSp_snoc, hv]; simpa using h3
  ·simp only [addF, cSum_snoc, hv, h4]; simp
  ·simp only [addF, sSum_snoc, hv, h5]; simp
theorem dcl_k {v : Vd} (h : dclB v = true) : v.kind = 1 ∨ v.kind = 3 ∨ (v.kind = 2 ∧ 1 ≤ v.len ∧ v.len ≤ 16) := by
 unfold dclB at h
 split at h
 ·rename_i q; rcases q with q | q
  ·exact .inl q
  ·exact .inr (.inl q)
 ·split at h
  ·rename_i q
   simp only [zat, decide_eq_true_eq] at h
   exact .inr (.inr ⟨q, h.1, h.2⟩)
  ·cases h
theorem jf_fold : ∀ (l : List Vd) (f : Fm), (∀ v ∈ l, dclB v = true) → Jf f → Jf (l.foldl addF f)
 | [], _, _, h => h
 | v :: l, f, hl, h => jf_fold l (addF f v) (fun u hu => hl u (List.mem_cons_of_mem _ hu)) (h.add (dcl_k (hl v List.mem_cons_self)))
theorem jf_loc {l : List Vd} : ∀ {W : List Tr} {f g : Fm}, locF l W f = some g → Jf f → Jf g
 | [], f, g, h, hf => by simp only [locF, Option.some.injEq] at h; subst h; exact hf
 | m :: W, f, g, h, hf => by
  simp only [locF, Option.bind_eq_some_iff] at h
  obtain ⟨f1, h1, h2⟩ := h
  refine jf_loc h2 ?_
  unfold locS at h1
  split at h1
  ·cases h1; exact hf
  ·rename_i v hv
   split at h1
   ·cases h1
   ·split at h1
    ·cases h1; exact hf
    ·cases h1
     exact hf.add (dcl_k (locV_dcl hv))
theorem cSum_bd : ∀ {l : List Slt}, (∀ x ∈ l, x.kind = 1 ∨ (x.kind = 2 ∧ 1 ≤ x.len ∧ x.len ≤ 16) ∨ x.kind = 3) → 0 ≤ cSum l ∧ cSum l ≤ 16 * (l.length : Int)
 | [], _ => ⟨Int.le_refl _, Int.le_refl _⟩
 | x :: r, h => by
  have ih := cSum_bd (l := r) fun y hy => h y (List.mem_cons_of_mem _ hy)
  have hx := h x List.mem_cons_self
  simp only [cSum, zlc, Int.natCast_add, Int.natCast_one]
  split
  ·omega
  ·split <;> omega
theorem sSum_bd : ∀ l : List Slt, 0 ≤ sSum l ∧ sSum l ≤ (l.length : Int)
 | [] => ⟨Int.le_refl _, Int.le_refl _⟩
 | x :: r => by
  have ih := sSum_bd r
  simp only [sSum, zlc, Int.natCast_add, Int.natCast_one]
  split <;> omega
theorem Jf.bd {f : Fm} (h : Jf f) : 0 ≤ f.cells ∧ f.cells ≤ 16 * (f.slots.length : Int) ∧ 0 ≤ f.stacks ∧ f.stacks ≤ (f.slots.length : Int) := by
 have h1 := cSum_bd h.k
 have h2 := sSum_bd f.slots
 rw [h.cs] at h1
 rw [h.ss] at h2
 exact ⟨h1.1, h1.2, h2.1, h2.2⟩
theorem jf_of (l : List Vd) (t : Tr) : Jf (ofF l t).1 := by
 rcases ofF_cases l t with ⟨_, h1, _, _, h3⟩ | ⟨_, h⟩
 ·refine jf_loc h3 (jf_fold l zF (fun v hv => ?_) Jf.zero)
  unfold dclsB at h1
  rw [zat, List.all_eq_true] at h1
  exact h1.2 v hv
 ·rw [h]; exact Jf.zero
end Go.Proofs.Ythgdibdapjaljaa
