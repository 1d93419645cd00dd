import Derived.Test.YthgdibdapjaljaaLa10
import Derived.Test.YthgdibdapjaljaaVs
import Derived.Test.YthgdibdapjaljaaDrs
/- The law LayoutCovers: plain facts. -/
namespace Go.Proofs.Ythgdibdapjaljaa
open Go.RowKit

theorem ba_same {x y : ByteArray} : (x.toList == y.toList) = decide (x = y) := by
 rw [Bool.eq_iff_iff, beq_iff_eq, decide_eq_true_eq, ByteArray.toList_eq, ByteArray.toList_eq]
 constructor
 ·intro h
  cases x; cases y
  simp only [ByteArray.mk.injEq]
  exact Array.toList_inj.1 h
 ·intro h; rw [h]
theorem inL_has (s : ByteArray) (l : List Vd) : inL s l = hasV l s := by
 unfold inL hasV
 congr 1; funext v
 rw [ba_same, Bool.eq_iff_iff, decide_eq_true_eq, decide_eq_true_eq]
 exact ⟨fun h => h.symm, fun h => h.symm⟩
theorem rep_0 {pr : Int} {path : List Int} {e : Int} {s : ByteArray} (h : rep pr path e s = []) : e = 0 := by
 unfold rep at h
 split at h
 ·assumption
 ·cases h
theorem fresh_0 {l : List Vd} {s : ByteArray} (h : freshE l s = 0) : hasV l s = false := by
 unfold freshE at h
 rw [hasV_eq] at h
 split at h
 ·cases h
 ·rename_i q; simpa using q
theorem vr_0 {pr : Int} {one : Bool} {l : List Vd} : ∀ (c : List Vd) (i : Nat), vrF pr one l c i = [] → ∀ (j : Nat) (h : j < c.length), hasV (l.take (i + j)) c[j].name = false
 | [], _, _, j, h => absurd h (Nat.not_lt_zero _)
 | v :: r, i, h, j, hj => by
  rw [vrF, List.append_eq_nil_iff] at h
  cases j with
  | zero => exact fresh_0 (rep_0 h.1)
  | succ j =>
   have := vr_0 r (i + 1) h.2 j (by simpa using hj)
   rw [show i + 1 + j = i + (j + 1) from by omega] at this
   exact this
/-- names that differ -/
def Dst (l : List Vd) : Prop := ∀ (j : Nat) (h : j < l.length), hasV (l.take j) l[j].name = false
theorem dst_of {pr : Int} {one : Bool} {l : List Vd} (h : vrF pr one l l 0 = []) : Dst l := fun j hj => by
 have := vr_0 l 0 h j hj
 rwa [Nat.zero_add] at this
theorem dcl_some : ∀ (r seen : List Vd) (f : Fm), (∀ (j : Nat) (h : j < r.length), hasV (seen ++ r.take j) r[j].name = false) → (dclF seen r f).isSome = true
 | [], _, _, _ => rfl
 | v :: r, seen, f, h => by
  have h0 := h 0 (by simp)
  simp only [zt0, List.append_nil, List.getElem_cons_zero] at h0
  unfold dclF
  rw [if_neg (by rw [inL_has, h0]; simp)]
  refine dcl_some r (seen ++ [v]) (addF f v) fun j hj => ?_
  have := h (j + 1) (by simpa using hj)
  simpa [zaa] using this
theorem loc_some {l : List Vd} : ∀ (W : List Tr) (f : Fm), (∀ m ∈ W, ∀ v, locV m = some v → inL v.name l = false) → (locF l W f).isSome = true
 | [], _, _ => rfl
 | m :: W, f, h => by
  unfold locF
  have h1 : (locS l f m).isSome = true := by
   unfold locS
   split
   ·rfl
   ·rename_i v hv
    rw [h m List.mem_cons_self v hv]
    simp only [zft, if_false]
    split <;> rfl
  obtain ⟨g, hg⟩ := Option.isSome_iff_exists.1 h1
  rw [hg]
  exact loc_some W g fun x hx => h x (List.mem_cons_of_mem _ hx)
/-- the nodes of a tree -/
def ndL (t : Tr) : List Tr := (walkL [] t).map (·.2)
theorem nd_any (t : Tr) (p : List Int) : (walkL p t).map (·.2) = ndL t := walkL_nodes t p []
theorem nds_kid : ∀ (c : List Tr) (p : List Int) (i j : Nat) (h : j < c.length), ∀ m ∈ ndL c[j], m ∈ (walksL p i c).map (·.2)
 | [], _, _, j, h => absurd h (Nat.not_lt_zero _)
 | t :: r, p, i, j, h => by
  intro m hm
  rw [walksL, List.map_append, List.mem_append]
  cases j with
  | zero => exact .inl (by rw [nd_any]; exact hm)
  | succ j => exact .inr (nds_kid r p (i + 1) j (by simpa using h) m (by simpa using hm))
theorem nd_self (t : Tr) : t ∈ ndL t := by
 cases t; simp [ndL, walkL]
theorem nd_kid (t : Tr) {j : Nat} (h : j < t.kids.length) {m : Tr} (hm : m ∈ ndL t.kids[j]) : m ∈ ndL t := by
 obtain ⟨k, n, s, c⟩ := t
 simp only [ndL, walkL, zmc, List.mem_cons]
 exact .inr (nds_kid c [] 0 j h m hm)
theorem nd_in : ∀ (c : List Tr) (p : List Int) (i : Nat) (m : Tr), m ∈ (walksL p i c).map (·.2) → ∃ x ∈ c, m ∈ ndL x
 | [], _, _, m, h => by simp [walksL] at h
 | t :: r, p, i, m, h => by
  rw [walksL, List.map_append, List.mem_append, nd_any] at h
  rcases h with h | h
  ·exact ⟨t, List.mem_cons_self, h⟩
  ·obtain ⟨x, hx, hm⟩ := nd_in r p (i + 1) m h
   exact ⟨x, List.mem_cons_of_mem _ hx, hm⟩
theorem has_mono {t : Tr} {i : Int} {vs : List Vd} {s : ByteArray} (h : hasV (innerV t i vs) s = false) : hasV vs s = false := by
 cases hq : hasV vs s with
 | false => rfl
 | true => rw [inner_has hq] at h; cases h
theorem leaf_loc {x m : Tr} (h1 : x.kind = 2) (h2 : x.kids = []) (hm : m ∈ ndL x) : locV m = none := by
 obtain ⟨k, n, s, c⟩ := x
 simp only [Tr.kind, Tr.kids] at h1 h2
 subst h1 h2
 simp only [ndL, walkL, walksL, zmc, zmn, List.mem_cons, List.not_mem_nil, or_false] at hm
 subst hm
 rfl
theorem locV_is {t : Tr} {v : Vd} (h : locV t = some v) : (t.kind = 54 ∨ t.kind = 55) ∧ v.name = t.name := by
 unfold locV at h
 split at h
 ·rename_i q; cases h; exact ⟨.inl q, rfl⟩
 ·split at h
  ·rename_i q; cases h; exact ⟨.inr q, rfl⟩
  ·cases h
theorem fault_loc {p : Pg} {t : Tr} {vs : List Vd} (h : t.kind = 54 ∨ t.kind = 55) : faultE p t vs = freshE vs t.name := by
 unfold faultE
 rw [if_neg (by omega), if_neg (by omega), if_neg (by omega), if_pos h]
mutual
theorem vis_loc {p : Pg} {pr : Int} {s : ByteArray} : ∀ (t : Tr) (path : List Int) (vs : List Vd), visF p pr t path vs = [] → wB s t = true → ∀ m ∈ ndL t, ∀ v, locV m = some v → hasV vs v.name = false
 | .mk k n nm c, path, vs, hv, hw, m, hm, v, hl => by
  rw [visF_eq, List.append_eq_nil_iff] at hv
  obtain ⟨hv1, hv2⟩ := hv
  rw [wB_eq, zat] at hw
  obtain ⟨_, hw2⟩ := hw
  have hm' : m = .mk k n nm c ∨ m ∈ (walksL [] 0 c).map (·.2) := by
   simpa [ndL, walkL] using hm
  rcases hm' with rfl | hm
  ·have he := rep_0 hv1
   obtain ⟨hk, hn⟩ := locV_is hl
   rw [hn]
   refine fresh_0 ?_
   rw [← fault_loc hk, he]
  ·obtain ⟨x, hx, hmx⟩ := nd_in c [] 0 m hm
   by_cases q : (Tr.mk k n nm c).kind = 50 ∨ (Tr.mk k n nm c).kind = 51
   ·rw [if_pos q] at hw2
    have := List.all_eq_true.1 hw2 x hx
    simp only [zat, beq_iff_eq, List.isEmpty_iff] at this
    rw [leaf_loc this.1 this.2 hmx] at hl
    cases hl
   ·rw [if_neg q] at hv2 hw2
    exact visL_loc (.mk k n nm c) path vs c 0 hv2 (fun y hy => List.all_eq_true.1 hw2 y hy) x hx m hmx v hl
theorem visL_loc {p : Pg} {pr : Int} {s : ByteArray} (t : Tr) (path : List Int) (vs : List Vd) : ∀ (c : List Tr) (i : Nat), visL p pr t path vs c i = [] → (∀ y ∈ c, wB s y = true) → ∀ x ∈ c, ∀ m ∈ ndL x, ∀ v, locV m = some v → hasV vs v.name = false
 | [], _, _, _, x, hx => by cases hx
 | c :: r, i, h, hw, x, hx => by
  rw [visL, List.append_eq_nil_iff] at h
  intro m hm v hl
  rcases List.mem_cons.1 hx with e | hx
  ·rw [e] at hm
   exact has_mono (vis_loc c _ _ h.1 (hw c List.mem_cons_self) m hm v hl)
  ·exact visL_loc t path vs r (i + 1) h.2 (fun y hy => hw y (List.mem_cons_of_mem _ hy)) x hx m hm v hl
end
theorem inner_mem {t : Tr} {i : Int} {vs : List Vd} {v : Vd} (h : v ∈ innerV t i vs) : v ∈ vs ∨ locV t = some v := by
 unfold innerV at h
 split at h
 ·rename_i q
  rcases List.mem_append.1 h with h | h
  ·exact .inl h
  ·rw [List.mem_singleton] at h
   exact .inr (by rw [h]; unfold locV; rw [if_pos q.1])
 ·split at h
  ·rename_i q
   rcases List.mem_append.1 h with h | h
   ·exact .inl h
   ·rw [List.mem_singleton] at h
    exact .inr (by rw [h]; unfold locV; rw [if_neg (by omega), if_pos q.1])
  ·exact .inl h
theorem vis_mem : ∀ (path : List Int) (t : Tr) (vs w : List Vd), visW path t vs = some w → ∀ v ∈ w, v ∈ vs ∨ ∃ m ∈ ndL t, locV m = some v
 | [], _, vs, w, h, v, hv => by cases h; exact .inl hv
 | i :: r, t, vs, w, h, v, hv => by
  unfold visW at h
  split at h
  ·split at h
   ·rename_i x hx
    obtain ⟨hj, rfl⟩ := List.getElem?_eq_some_iff.1 hx
    rcases vis_mem r _ _ w h v hv with h1 | ⟨m, hm, hl⟩
    ·rcases inner_mem h1 with h1 | h1
     ·exact .inl h1
     ·exact .inr ⟨t, nd_self t, h1⟩
    ·exact .inr ⟨m, nd_kid t hj hm, hl⟩
   ·cases h
  ·cases h
mutual
theorem visW_walk : ∀ (t : Tr) (q : List Int) (vs : List Vd) (x : List Int × Tr), x ∈ walkL q t → ∃ r, x.1 = q ++ r ∧ r.length ≤ t.size ∧ (visW r t vs).isSome = true
 | .mk k n s c, q, vs, x, hx => by
  simp only [walkL, List.mem_cons] at hx
  rcases hx with rfl | hx
  ·exact ⟨[], by simp, by simp, rfl⟩
  ·obtain ⟨j, r, h1, h3, h2⟩ := visW_walks c (.mk k n s c) q vs 0 (fun j => by simp [Tr.kids]) x hx
   exact ⟨(j : Int) :: r, h1, by simp only [zlc, Tr.size]; omega, h2⟩
theorem visW_walks : ∀ (c : List Tr) (t : Tr) (q : List Int) (vs : List Vd) (i : Nat), (∀ j, c[j]? = t.kids[i + j]?) → ∀ x ∈ walksL q i c, ∃ (j : Nat) (r : List Int), x.1 = q ++ (j : Int) :: r ∧ r.length ≤ Tr.sizes c ∧ (visW ((j : Int) :: r) t vs).isSome = true
 | [], _, _, _, _, _, x, hx => by simp [walksL] at hx
 | a :: b, t, q, vs, i, hc, x, hx => by
  rw [walksL, List.mem_append] at hx
  rcases hx with hx | hx
  ·obtain ⟨r, h1, h3, h2⟩ := visW_walk a (q ++ [(i : Int)]) (innerV t (i : Int) vs) x hx
   refine ⟨i, r, by rw [h1]; simp, by simp only [Tr.sizes]; omega, ?_⟩
   have h0 := hc 0
   simp only [zg0, Nat.add_zero] at h0
   obtain ⟨hj, e⟩ := List.getElem?_eq_some_iff.1 h0.symm
   rw [visW_in rfl hj, e]
   exact h2
  ·obtain ⟨j, r, h1, h3, h2⟩ := visW_walks b t q vs (i + 1) (fun j => by have := hc (j + 1); simp only [zg1] at this; rw [this]; congr 1; omega) x hx
   exact ⟨j, r, h1, by simp only [Tr.sizes]; omega, h2⟩
end
/-- the slots of the locals have no length -/
theorem loc_len0 {l : List Vd} : ∀ {W : List Tr} {f g : Fm}, locF l W f = some g → ∃ E, g.slots = f.slots ++ E ∧ ∀ x ∈ E, x.len = 0
 | [], f, g, h => by simp only [locF, Option.some.injEq] at h; subst h; exact ⟨[], by simp, fun x hx => by cases hx⟩
 | m :: W, f, g, h => by
  simp only [locF, Option.bind_eq_some_iff] at h
  obtain ⟨f1, h1, h2⟩ := h
  obtain ⟨E2, a2, b2⟩ := loc_len0 h2
  have h3 : ∃ E, f1.slots = f.slots ++ E ∧ ∀ x ∈ E, x.len = 0 := by
   unfold locS at h1
   split at h1
   ·cases h1; exact ⟨[], by simp, fun x hx => by cases hx⟩
   ·rename_i v hv
    split at h1
    ·cases h1
    ·split at h1
     ·cases h1; exact ⟨[], by simp, fun x hx => by cases hx⟩
     ·cases h1
      refine ⟨_, rfl, fun x hx => ?_⟩
      rw [List.mem_singleton] at hx
      subst hx
      unfold locV at hv
      split at hv
      ·cases hv; rfl
      ·split at hv
       ·cases hv; rfl
       ·cases hv
  obtain ⟨E1, a1, b1⟩ := h3
  exact ⟨E1 ++ E2, by rw [a2, a1, zaa], fun x hx => (List.mem_append.1 hx).elim (b1 x) (b2 x)⟩
theorem dst_eq {l : List Vd} (h : Dst l) {u v : Vd} (hu : u ∈ l) (hv : v ∈ l) (hn : u.name = v.name) : u = v := by
 obtain ⟨i, hi, rfl⟩ := List.getElem_of_mem hu
 obtain ⟨j, hj, rfl⟩ := List.getElem_of_mem hv
 have key : ∀ {a b : Nat} (ha : a < l.length) (hb : b < l.length), a < b → l[a].name = l[b].name → False := fun {a b} ha hb hab he => by
  have := h b hb
  unfold hasV at this
  rw [List.any_eq_false] at this
  exact this l[a] (List.mem_of_getElem? (i := a) (by rw [List.getElem?_take, if_pos hab]; simp [ha])) (by rw [he]; simp)
 rcases Nat.lt_trichotomy i j with q | q | q
 ·exact (key hi hj q hn).elim
 ·subst q; rfl
 ·exact (key hj hi q hn.symm).elim
/-- every variable that is visible has its slot -/
theorem covers {p : Pg} {pr : Int} {s : ByteArray} {l : List Vd} {t : Tr} (hd : dclsB l = true) (hb : blockB t = true) (hD : Dst l) (hv : visF p pr t [] l = []) (hw : wB s t = true) :
  (ofF l t).2 = 0 ∧ ∀ path w, visW path t l = some w → ∀ v ∈ w, (fdS (ofF l t).1.slots v.name v.kind).2 = true ∧ (fdS (ofF l t).1.slots v.name v.kind).1.len = v.len := by
 have hloc := vis_loc t [] l hv hw
 have h1 := dcl_some l [] zF (fun j hj => by simpa using hD j hj)
 obtain ⟨f, hf⟩ := Option.isSome_iff_exists.1 h1
 have h2 := loc_some (l := l) (ndL t) f (fun m hm v hlv => by rw [inL_has]; exact hloc m hm v hlv)
 obtain ⟨g, hg⟩ := Option.isSome_iff_exists.1 h2
 have h3 : ofF l t = (g, 0) := ofF_some hd hb (by rw [hf]; exact hg)
 have hff : f = foldF l := dclF_foldl l hf
 rw [h3]
 refine ⟨rfl, fun path w hW v hvw => ?_⟩
 obtain ⟨E, hE, hE0⟩ := loc_len0 hg
 have hsl : f.slots.map tr3 = l.map (fun v => (v.name, v.kind, v.len)) := by
  rw [hff]
  have := foldl_slots l zF
  simpa [foldF, zF] using this
 have hslot : ∀ x ∈ f.slots, ∃ u ∈ l, x.name = u.name ∧ x.kind = u.kind ∧ x.len = u.len := fun x hx => by
  have : tr3 x ∈ f.slots.map tr3 := List.mem_map_of_mem hx
  rw [hsl] at this
  obtain ⟨u, hu, e⟩ := List.mem_map.1 this
  simp only [tr3, Prod.mk.injEq] at e
  exact ⟨u, hu, e.1.symm, e.2.1.symm, e.2.2.symm⟩
 have hhas : (fdS g.slots v.name v.kind).2 = true := by
  rcases vis_mem path t l w hW v hvw with hm | ⟨m, hm, hlv⟩
  ·have : (v.name, v.kind, v.len) ∈ f.slots.map tr3 := by rw [hsl]; exact List.mem_map_of_mem (f := fun v : Vd => (v.name, v.kind, v.len)) hm
   obtain ⟨x, hx, e⟩ := List.mem_map.1 this
   simp only [tr3, Prod.mk.injEq] at e
   rw [hE]
   refine fdS_app _ _ _ _ ?_
   unfold fdS
   cases hq : f.slots.find? (hitS v.name v.kind) with
   | some y => rfl
   | none =>
    exfalso
    have := List.find?_eq_none.1 hq x hx
    simp [hitS, e.1, e.2.1] at this
  ·exact (locF_has hg m hm v hlv).2
 refine ⟨hhas, ?_⟩
 unfold fdS at hhas ⊢
 cases hq : g.slots.find? (hitS v.name v.kind) with
 | none => rw [hq] at hhas; cases hhas
 | some x =>
  simp only
  have hx := List.mem_of_find?_eq_some hq
  have hh := List.find?_some hq
  have hxn : x.name = v.name ∧ x.kind = v.kind := by
   simp only [hitS, zat, beq_iff_eq] at hh
   have e := hh.1
   refine ⟨?_, hh.2⟩
   have h9 := ba_same (x := x.name) (y := v.name)
   first
    | exact e
    | (rw [beq_iff_eq.2 e] at h9; exact of_decide_eq_true h9.symm)
  rcases vis_mem path t l w hW v hvw with hm | ⟨m, hm, hlv⟩
  ·have hex : ∃ y, f.slots.find? (hitS v.name v.kind) = some y := by
    have : (v.name, v.kind, v.len) ∈ f.slots.map tr3 := by rw [hsl]; exact List.mem_map_of_mem (f := fun v : Vd => (v.name, v.kind, v.len)) hm
    obtain ⟨y, hy, e⟩ := List.mem_map.1 this
    simp only [tr3, Prod.mk.injEq] at e
    cases hz : f.slots.find? (hitS v.name v.kind) with
    | some z => exact ⟨z, rfl⟩
    | none =>
     have := List.find?_eq_none.1 hz y hy
     simp [hitS, e.1, e.2.1] at this
   obtain ⟨y, hy⟩ := hex
   have hq2 := hq
   rw [hE, List.find?_append, hy] at hq2
   have hyx : y = x := by simpa using hq2
   obtain ⟨u, hu, e1, _, e3⟩ := hslot x (hyx ▸ List.mem_of_find?_eq_some hy)
   have : u = v := dst_eq hD hu hm (by rw [← e1, hxn.1])
   rw [e3, this]
  ·have hl0 : v.len = 0 := by
    unfold locV at hlv
    split at hlv
    ·cases hlv; rfl
    ·split at hlv
     ·cases hlv; rfl
     ·cases hlv
   rw [hE] at hx
   rcases List.mem_append.1 hx with hx | hx
   ·obtain ⟨u, hu, e1, _, _⟩ := hslot x hx
    exfalso
    have := hloc m hm v hlv
    unfold hasV at this
    rw [List.any_eq_false] at this
    exact this u hu (by rw [← e1, hxn.1]; simp)
   ·rw [hE0 x hx, hl0]
theorem vrp_0 {p : Pg} : ∀ (c : List Pr) (i : Nat), procsF p c i = [] → ∀ (j : Nat) (hj : j < c.length), vrF ((i + j : Nat) : Int) false c[j].params c[j].params 0 = [] ∧ visF p ((i + j : Nat) : Int) c[j].body [] c[j].params = []
 | [], _, _, j, hj => absurd hj (Nat.not_lt_zero _)
 | q :: r, i, h, j, hj => by
  rw [procsF, List.append_eq_nil_iff] at h
  cases j with
  | zero =>
   have := h.1
   unfold procF at this
   rw [List.append_eq_nil_iff, List.append_eq_nil_iff] at this
   exact ⟨this.2.1, this.2.2⟩
  | succ j =>
   have := vrp_0 r (i + 1) h.2 j (by simpa using hj)
   rw [show i + 1 + j = i + (j + 1) from by omega] at this
   exact this
theorem dcls_of {l : List Vd} (h1 : l.length ≤ 32) (h2 : l.all declB = true) : dclsB l = true := by
 unfold dclsB
 rw [decide_eq_true h1, Bool.true_and, List.all_eq_true]
 intro v hv
 have := List.all_eq_true.1 h2 v hv
 unfold declB at this
 unfold dclB
 rw [zat] at this
 have h3 := this.2
 split
 ·rename_i q
  rw [if_pos (by simpa using q)] at h3
  exact h3
 ·rename_i q
  rw [if_neg (by simpa using q)] at h3
  split
  ·rename_i q2
   rw [if_pos (by simpa using q2)] at h3
   simp only [zat, znt, decide_eq_false_iff_not, Int.not_lt, gt_iff_lt] at h3
   simp only [zat, decide_eq_true_eq]
   omega
  ·rename_i q2
   rw [if_neg (by simpa using q2)] at h3
   exact h3
theorem sa_ne : (⟨#[97]⟩ : ByteArray).toList ≠ [] := by decide +kernel
/-- what the law asks of a body -/
theorem cov_body {p : Pg} (hv : validB p = true) (hc : checkF p = []) {k : Nat} (hk : k ≤ p.procs.length) : (ofF (bdV p k) (bdT p k)).2 = 0 ∧ (∀ path w, visW path (bdT p k) (bdV p k) = some w → ∀ v ∈ w, (fdS (ofF (bdV p k) (bdT p k)).1.slots v.name v.kind).2 = true ∧ (fdS (ofF (bdV p k) (bdT p k)).1.slots v.name v.kind).1.len = v.len) ∧ (bdT p k).size ≤ 2000 := by
 have hv0 := hv
 simp only [validB, zat, znt, decide_eq_false_iff_not, List.all_eq_true] at hv
 obtain ⟨⟨⟨⟨h1, h2⟩, h3⟩, h4⟩, h5⟩ := hv
 unfold checkF at hc
 rw [List.append_eq_nil_iff, List.append_eq_nil_iff] at hc
 obtain ⟨c1, c2, c3⟩ := hc
 by_cases hq : k < p.procs.length
 ·have e1 : bdT p (k : Int) = p.procs[k].body := by unfold bdT; rw [dif_pos (by omega)]; rfl
  have e2 : bdV p (k : Int) = p.procs[k].params := by unfold bdV; rw [dif_pos (by omega)]; rfl
  rw [e1, e2]
  have hpq := h4 _ (List.getElem_mem hq)
  simp only [procB, bodyB, zat, znt, decide_eq_false_iff_not, decide_eq_true_eq] at hpq
  obtain ⟨⟨⟨g1, g2⟩, g3⟩, g4, g5⟩ := hpq
  obtain ⟨d1, d2⟩ := vrp_0 p.procs 0 c2 k hq
  obtain ⟨r1, r2⟩ := covers (dcls_of (by omega) g3) g5 (dst_of d1) d2 (block_w sa_ne _ g5)
  exact ⟨r1, r2, g4.2⟩
 ·have e0 : (k : Int) = (p.procs.length : Int) := by omega
  have e1 : bdT p (k : Int) = p.main := by unfold bdT; rw [dif_neg (by omega)]
  have e2 : bdV p (k : Int) = p.vars := by unfold bdV; rw [dif_neg (by omega)]
  rw [e1, e2]
  simp only [bodyB, zat, decide_eq_true_eq] at h5
  obtain ⟨r1, r2⟩ := covers (dcls_of (by omega) (List.all_eq_true.2 h3)) h5.2 (dst_of c1) c3 (block_w sa_ne _ h5.2)
  exact ⟨r1, r2, h5.1.2⟩
end Go.Proofs.Ythgdibdapjaljaa
