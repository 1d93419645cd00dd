/- Frames, in plain Lean. -/
import Derived.Test.YthgdibdapjaljaaLa9
namespace Go.Proofs.Ythgdibdapjaljaa
open Go.RowKit

theorem dclF_foldl (l : List Vd) : ∀ {s : List Vd} {f g : Fm}, dclF s l f = some g → g = l.foldl addF f := by
  induction l with
  | nil => intro s f g h; simp only [dclF, Option.some.injEq] at h; exact h.symm
  | cons v l ih =>
    intro s f g h
    simp only [dclF] at h
    split at h
    · cases h
    · exact ih h
def tr3 (s : Slt) : ByteArray × Int × Int := (s.name, s.kind, s.len)
theorem foldl_slots (l : List Vd) : ∀ f : Fm, (l.foldl addF f).slots.map tr3 = f.slots.map tr3 ++ l.map (fun v => (v.name, v.kind, v.len)) := by
  induction l with
  | nil => intro f; simp
  | cons v l ih => intro f; rw [List.foldl_cons, ih]; simp [addF, tr3]
theorem foldF_len (l : List Vd) : (foldF l).slots.length = l.length := by
  have h := congrArg List.length (foldl_slots l zF)
  simp only [List.length_map, List.length_append] at h
  show (l.foldl addF zF).slots.length = _
  rw [h]; exact Nat.zero_add _
theorem locS_ext {l : List Vd} {f g : Fm} {m : Tr} (h : locS l f m = some g) : ∃ E, g.slots = f.slots ++ E ∧ E.length ≤ 1 ∧ f.cells ≤ g.cells ∧ f.stacks ≤ g.stacks := by
  unfold locS at h
  split at h
  · cases h; exact ⟨[], by simp, by simp, Int.le_refl _, Int.le_refl _⟩
  · rename_i v hv
    split at h
    · cases h
    · split at h
      · cases h; exact ⟨[], by simp, by simp, Int.le_refl _, Int.le_refl _⟩
      · cases h
        have h0 := (dcl_len (locV_dcl hv)).1
        refine ⟨_, rfl, by simp, ?_, ?_⟩
        · simp only [addF]; split
          · exact Int.le_refl _
          · split <;> omega
        · simp only [addF]; split <;> omega
theorem locF_ext {l : List Vd} : ∀ {W : List Tr} {f g : Fm}, locF l W f = some g → ∃ E, g.slots = f.slots ++ E ∧ E.length ≤ W.length ∧ f.cells ≤ g.cells ∧ f.stacks ≤ g.stacks
  | [], f, g, h => by simp only [locF, Option.some.injEq] at h; subst h; exact ⟨[], by simp, by simp, Int.le_refl _, Int.le_refl _⟩
  | m :: W, f, g, h => by
    simp only [locF, Option.bind_eq_some_iff] at h
    obtain ⟨f1, h1, h2⟩ := h
    obtain ⟨E1, a1, b1, c1, d1⟩ := locS_ext h1
    obtain ⟨E2, a2, b2, c2, d2⟩ := locF_ext h2
    exact ⟨E1 ++ E2, by rw [a2, a1, List.append_assoc], by simp only [List.length_append, List.length_cons]; omega, by omega, by omega⟩
theorem ofF_cases (l : List Vd) (t : Tr) : ((ofF l t).2 = 0 ∧ dclsB l = true ∧ blockB t = true ∧ dclF [] l zF = some (foldF l) ∧ locF l ((walkL [] t).map (·.2)) (foldF l) = some (ofF l t).1) ∨ ((ofF l t).2 ≠ 0 ∧ (ofF l t).1 = zF) := by
  cases hb : (dclsB l && blockB t) with
  | false => right; rw [ofF_bad hb]; exact ⟨by decide, rfl⟩
  | true =>
    rw [Bool.and_eq_true] at hb
    cases hq : (dclF [] l zF).bind (locF l ((walkL [] t).map (·.2))) with
    | none => right; rw [ofF_none hb.1 hb.2 hq]; exact ⟨by decide, rfl⟩
    | some f =>
      left
      rw [ofF_some hb.1 hb.2 hq]
      rw [Option.bind_eq_some_iff] at hq
      obtain ⟨g, h1, h2⟩ := hq
      have := dclF_foldl l h1
      subst this
      exact ⟨rfl, hb.1, hb.2, h1, h2⟩
theorem ofF_len (l : List Vd) (t : Tr) : (ofF l t).1.slots.length ≤ 32 + t.size := by
  rcases ofF_cases l t with ⟨_, h1, _, _, h⟩ | ⟨_, h⟩
  · obtain ⟨E, a, b, _⟩ := locF_ext h
    rw [a, List.length_append, foldF_len]
    rw [List.length_map, walkL_len] at b
    have : l.length ≤ 32 := by
      unfold dclsB at h1
      rw [Bool.and_eq_true, decide_eq_true_eq] at h1
      exact h1.1
    omega
  · rw [h]; simp [zF]
/-- the empty block -/
def e0 : Tr := .mk 57 0 ⟨#[]⟩ []
theorem e0_block : blockB e0 = true := by decide +kernel
theorem ofF_e0 {l : List Vd} {g : Fm} (hd : dclsB l = true) (h : dclF [] l zF = some g) : ofF l e0 = (g, 0) := ofF_some hd e0_block (by rw [h]; rfl)
theorem pre_ok {l : List Vd} {t : Tr} (h0 : (ofF l t).2 = 0) : (ofF l e0).2 = 0 ∧ (ofF l e0).1.slots.length = l.length ∧ l.length ≤ (ofF l t).1.slots.length ∧ (ofF l e0).1.cells ≤ (ofF l t).1.cells ∧ (ofF l e0).1.stacks ≤ (ofF l t).1.stacks ∧
    ∀ i (h1 : i < (ofF l e0).1.slots.length) (h2 : i < (ofF l t).1.slots.length) (h3 : i < l.length), (ofF l t).1.slots[i] = (ofF l e0).1.slots[i] ∧ (ofF l e0).1.slots[i].name = l[i].name ∧ (ofF l e0).1.slots[i].kind = l[i].kind ∧ (ofF l e0).1.slots[i].len = l[i].len := by
  rcases ofF_cases l t with ⟨_, hd, _, hg, h⟩ | ⟨q, _⟩
  · obtain ⟨E, a, _, c, d⟩ := locF_ext h
    rw [ofF_e0 hd hg]
    refine ⟨rfl, foldF_len l, by rw [a, List.length_append, foldF_len]; omega, c, d, fun i h1 h2 h3 => ?_⟩
    have e1 : (ofF l t).1.slots[i]? = (foldF l).slots[i]? := by rw [a, List.getElem?_append_left h1]
    rw [List.getElem?_eq_getElem h2, List.getElem?_eq_getElem h1, Option.some.injEq] at e1
    have e2 : ((foldF l).slots.map tr3)[i]? = (l.map fun v => (v.name, v.kind, v.len))[i]? := by
      have := foldl_slots l zF
      unfold foldF
      rw [this]; rfl
    rw [List.getElem?_map, List.getElem?_map, List.getElem?_eq_getElem h1, List.getElem?_eq_getElem h3] at e2
    simp only [Option.map_some, Option.some.injEq, tr3, Prod.mk.injEq] at e2
    exact ⟨e1, e2⟩
  · exact absurd h0 q
mutual
theorem walkL_nodes : ∀ (t : Tr) (p q : List Int), (walkL p t).map (·.2) = (walkL q t).map (·.2)
  | .mk k n s c, p, q => by
    simp only [walkL, List.map_cons]
    rw [walksL_nodes c p q 0 0]
theorem walksL_nodes : ∀ (c : List Tr) (p q : List Int) (i j : Nat), (walksL p i c).map (·.2) = (walksL q j c).map (·.2)
  | [], _, _, _, _ => rfl
  | t :: r, p, q, i, j => by
    simp only [walksL, List.map_append]
    rw [walkL_nodes t _ (q ++ [(j : Int)]), walksL_nodes r p q (i + 1) (j + 1)]
end
theorem fdS_app (L E : List Slt) (s : ByteArray) (k : Int) (h : (fdS L s k).2 = true) : (fdS (L ++ E) s k).2 = true := by
  unfold fdS at h ⊢
  rw [List.find?_append]
  cases hq : L.find? (hitS s k) with
  | none => rw [hq] at h; cases h
  | some x => rfl
theorem fdS_new (L : List Slt) (v : Slt) : (fdS (L ++ [v]) v.name v.kind).2 = true := by
  unfold fdS
  rw [List.find?_append]
  cases hq : L.find? (hitS v.name v.kind) with
  | some x => rfl
  | none => simp [hitS]
/-- every local has its slot -/
theorem locF_has {l : List Vd} : ∀ {W : List Tr} {f g : Fm}, locF l W f = some g → ∀ m ∈ W, ∀ v, locV m = some v → inL v.name l = false ∧ (fdS g.slots v.name v.kind).2 = true
  | [], _, _, _ => fun m hm => by cases hm
  | x :: W, f, g, h => by
    intro m hm v hv
    simp only [locF, Option.bind_eq_some_iff] at h
    obtain ⟨f1, h1, h2⟩ := h
    rcases List.mem_cons.1 hm with rfl | hm
    · obtain ⟨E, a, _⟩ := locF_ext h2
      unfold locS at h1
      rw [hv] at h1
      simp only at h1
      split at h1
      · cases h1
      · rename_i hi
        refine ⟨by simpa using hi, ?_⟩
        rw [a]
        refine fdS_app _ _ _ _ ?_
        split at h1
        · cases h1; assumption
        · cases h1
          exact fdS_new f.slots ⟨v.name, v.kind, v.len, atF f v⟩
    · exact locF_has h2 m hm v hv
theorem locF_keep {l : List Vd} {g : Fm} : ∀ {W : List Tr}, (∀ m ∈ W, ∀ v, locV m = some v → inL v.name l = false ∧ (fdS g.slots v.name v.kind).2 = true) → locF l W g = some g
  | [], _ => rfl
  | m :: W, h => by
    cases hv : locV m with
    | none => rw [locF_no hv]; exact locF_keep fun x hx => h x (List.mem_cons_of_mem _ hx)
    | some v =>
      obtain ⟨a, b⟩ := h m List.mem_cons_self v hv
      rw [locF_old hv a b]; exact locF_keep fun x hx => h x (List.mem_cons_of_mem _ hx)
theorem locF_twice {l : List Vd} {W : List Tr} {f : Fm} : locF l (W ++ W) f = locF l W f := by
  rw [locF_app]
  cases h : locF l W f with
  | none => rfl
  | some g => exact locF_keep (locF_has h)
def twiceT (t : Tr) : Tr := .mk t.kind t.num t.name (t.kids ++ t.kids)
theorem block_twice {t : Tr} (h : blockB t = true) : blockB (twiceT t) = true := by
  obtain ⟨k, n, s, c⟩ := t
  simp only [blockB, twiceT, Tr.kind, Tr.num, Tr.name, Tr.kids, Bool.and_eq_true] at h ⊢
  refine ⟨h.1, ?_⟩
  rw [stmtsB_all] at h ⊢
  rw [List.all_append, h.2]; rfl
theorem block_loc {t : Tr} (h : blockB t = true) : locV t = none := by
  obtain ⟨k, n, s, c⟩ := t
  simp only [blockB, Bool.and_eq_true, beq_iff_eq] at h
  obtain ⟨⟨rfl, _⟩, _⟩ := h
  rfl
theorem ofF_twice {l : List Vd} {t : Tr} (h : blockB t = true) : ofF l (twiceT t) = ofF l t := by
  have e : (dclF [] l zF).bind (locF l ((walkL [] (twiceT t)).map (·.2))) = (dclF [] l zF).bind (locF l ((walkL [] t).map (·.2))) := by
    congr 1
    funext f
    have h2 := block_loc h
    have h3 := block_loc (block_twice h)
    obtain ⟨k, n, s, c⟩ := t
    simp only [twiceT, Tr.kind, Tr.num, Tr.name, Tr.kids] at h3 ⊢
    simp only [walkL, List.map_cons]
    rw [locF_no h2, locF_no h3, walksL_append, List.map_append, walksL_nodes c [] [] (0 + c.length) 0, locF_twice]
  cases hd : dclsB l with
  | false => rw [ofF_bad (by rw [hd]; rfl), ofF_bad (by rw [hd]; rfl)]
  | true =>
    cases hq : (dclF [] l zF).bind (locF l ((walkL [] t).map (·.2))) with
    | none => rw [ofF_none hd h hq, ofF_none hd (block_twice h) (e.trans hq)]
    | some f => rw [ofF_some hd h hq, ofF_some hd (block_twice h) (e.trans hq)]
theorem twice_size (t : Tr) : (twiceT t).size ≤ 2 * t.size := by
  obtain ⟨k, n, s, c⟩ := t
  have h : ∀ a b : List Tr, Tr.sizes (a ++ b) = Tr.sizes a + Tr.sizes b := fun a b => by
    induction a with
    | nil => simp [Tr.sizes]
    | cons x a ih => simp only [List.cons_append, Tr.sizes, ih]; omega
  simp only [twiceT, Tr.kind, Tr.num, Tr.name, Tr.kids, Tr.size, h]; omega
/-- a block with one local -/
def lcT (s : ByteArray) : Tr := .mk 54 0 s [.mk 1 0 ⟨#[]⟩ [], e0, .mk 1 0 ⟨#[]⟩ []]
def lcB (s : ByteArray) : Tr := .mk 57 0 ⟨#[]⟩ [lcT s]
theorem inL_snoc (s : ByteArray) (l : List Vd) (v : Vd) (h : s = v.name) : inL s (l ++ [v]) = true := by
  unfold inL; rw [List.any_append]; simp [h]
theorem inL_mem {l : List Vd} {v : Vd} (h : v ∈ l) : inL v.name l = true := by
  unfold inL; rw [List.any_eq_true]; exact ⟨v, h, by simp⟩
theorem err_dup {l : List Vd} {v : Vd} (h0 : (ofF l e0).2 = 0) (hl : l.length ≤ 20) (hv : v ∈ l) (k : Int) (hk : dclB ⟨v.name, k, 0⟩ = true) : (ofF (l ++ [⟨v.name, k, 0⟩]) e0).2 = 22 := by
  rcases ofF_cases l e0 with ⟨_, hd, _, hg, _⟩ | ⟨q, _⟩
  · have hd2 : dclsB (l ++ [⟨v.name, k, 0⟩]) = true := by
      unfold dclsB at hd ⊢
      rw [Bool.and_eq_true] at hd
      rw [List.all_append, hd.2, decide_eq_true (by simp; omega)]
      simp [hk]
    rw [ofF_none hd2 e0_block]
    rw [dclF_app, hg, Option.bind_some, dclF, if_pos (by simpa using inL_mem hv)]; rfl
  · exact absurd h0 q
theorem err_form (l : List Vd) (v : Vd) (t : Tr) (hv : dclB v = false) : (ofF (l ++ [v]) t).2 = 3 := by
  rw [ofF_bad]
  unfold dclsB
  rw [List.all_append]; simp [hv]
theorem err_loc {l : List Vd} {v : Vd} (h0 : (ofF l e0).2 = 0) (hv : v ∈ l) (hb : blockB (lcB v.name) = true) : (ofF l (lcB v.name)).2 = 22 := by
  rcases ofF_cases l e0 with ⟨_, hd, _, hg, _⟩ | ⟨q, _⟩
  · rw [ofF_none hd hb]
    rw [hg, Option.bind_some]
    simp only [lcB, walkL, walksL, List.map_cons]
    rw [locF_no rfl]
    exact locF_bad (v := ⟨v.name, 1, 0⟩) rfl (show inL v.name l = true from inL_mem hv)
  · exact absurd h0 q

end Go.Proofs.Ythgdibdapjaljaa
