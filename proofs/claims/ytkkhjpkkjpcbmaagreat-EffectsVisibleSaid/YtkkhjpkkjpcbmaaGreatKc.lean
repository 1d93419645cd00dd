/- slices.Sorted(maps.Keys(m)) of a set of numbers that a box holds, as calls of the machine. -/
import Derived.Test.YtkkhjpkkjpcbmaaGreatLz
import Derived.Test.YtkkhjpkkjpcbmaaGreatE7
import Derived.Test.YtkkhjpkkjpcbmaaGreatAmZ
namespace Go.Proofs.YtkkhjpkkjpcbmaaGreat
open Go.RowKit Go.Maps Go.Shelf Go.Sort

/-- a set of numbers as a map's box holds it -/
def iD (A : List Int) : List D := A.flatMap fun x => [.int .i64 x, .bool true]
theorem iD_cons (x : Int) (A : List Int) : iD (x :: A) = .int .i64 x :: .bool true :: iD A := rfl
theorem iD_len (A : List Int) : (iD A).length = 2 * A.length := by
 induction A with
 | nil => rfl
 | cons v l ih => rw [iD_cons]; simp only [zlc, ih]; omega
theorem iD_under (m : Nat) (A : List Int) : D.unders m (iD A) = true := by
 induction A with
 | nil => rfl
 | cons v l ih => rw [iD_cons]; simp only [D.unders, D.under, ih, Bool.and_true]
/-- numbers in ascending order -/
def sortI (A : List Int) : List Int := A.mergeSort fun x y => decide (x ≤ y)
theorem sortI_perm (A : List Int) : (sortI A).Perm A := List.mergeSort_perm _ _
theorem sortI_len (A : List Int) : (sortI A).length = A.length := (sortI_perm A).length_eq
theorem mem_sortI {A : List Int} {x : Int} : x ∈ sortI A ↔ x ∈ A := (sortI_perm A).mem_iff

theorem entI {w : World} {g : Gh} : ∀ {A : List Int} {l : List MapEntry}, EntL w g (iD A) l → l.map (·.key) = A.map encZ ∧ (∀ e ∈ l, e.val = .bool true) ∧ ∀ x ∈ A, inr .i64 x
 | [], [], _ => ⟨rfl, fun _ h => (List.not_mem_nil h).elim, fun _ h => (List.not_mem_nil h).elim⟩
 | [], _ :: _, h => h.elim
 | _ :: _, [], h => h.elim
 | x :: A, e :: l, h => by
  rw [iD_cons] at h
  obtain ⟨h1, h2, h3⟩ := h
  obtain ⟨q1, q2, q3⟩ := entI h3
  have e1 : e.key = .int .i64 x ∧ inr .i64 x := by
   generalize hk : [e.key] = kk at h1
   cases h1 with
   | int _ _ h => simp only [List.cons.injEq, and_true] at hk; exact ⟨hk, h⟩
  have e2 : e.val = .bool true := by
   generalize hk : [e.val] = kk at h2
   cases h2 with
   | bool _ => simpa using hk
  refine ⟨by rw [zmc, zmc, e1.1, q1], fun y hy => ?_, fun y hy => ?_⟩
  ·rcases List.mem_cons.1 hy with rfl | hy
   ·exact e2
   ·exact q2 y hy
  ·rcases List.mem_cons.1 hy with rfl | hy
   ·exact e1.2
   ·exact q3 y hy
theorem wf_inr {x : Int} (h : inr .i64 x) : (Lit.int .i64 x).wf = true := by
 obtain ⟨h1, h2⟩ := h
 simp only [Lit.wf, zat, decide_eq_true_eq]
 exact ⟨h1, h2⟩

/-- the block of a box that holds a set of numbers is a map with these keys -/
theorem map_of_box {w : World} {g : Gh} {b : Nat} {A : List Int} (h : BoxIn w g b true (iD A)) (hl : A.length ≤ 1000000) :
  ∃ D : DataW Unit, w.ownsMap Tryz.prog 3 (plainElem Tryz.prog 4) b A.length D ∧ (intKeys D).Perm A := by
 obtain ⟨es, clock, h1, h2, _, h4, h5⟩ := h
 have hE := entL_of h2 h4
 obtain ⟨k1, k2, k3⟩ := entI hE
 rw [iD_len] at h2
 have hsz : es.size = A.length := by omega
 have hrd : ∀ e ∈ es.toList, ∃ x, e.key = encZ x ∧ WideElems.rd Tryz.prog 3 (plainElem (H := Unit) Tryz.prog 4) e = some (.int .i64 x, .lit (.bool true)) := fun e he => by
  have hk : e.key ∈ es.toList.map (·.key) := List.mem_map.2 ⟨e, he, rfl⟩
  rw [k1] at hk
  obtain ⟨x, hx, ex⟩ := List.mem_map.1 hk
  refine ⟨x, ex.symm, ?_⟩
  obtain ⟨key, val, born⟩ := e
  simp only at ex
  have e2 : val = .bool true := k2 _ he
  subst e2
  rw [← ex]
  exact WideElems.rd_mk (keyOf_int_mk Tryz.underlying3 (wf_inr (k3 x hx))) (plainElem_bool Tryz.underlying4 true)
 have F : WideElems.Fit Tryz.prog 3 (plainElem (H := Unit) Tryz.prog 4) es clock := ⟨by unfold maxLen; omega, h5, fun e he => let ⟨x, _, h⟩ := hrd e he; ⟨_, h⟩⟩
 refine ⟨_, ⟨es, clock, h1, F, by omega, rfl⟩, ?_⟩
 have inj : ∀ l m : List Int, l.map encZ = m.map encZ → l = m := fun l => by
  induction l with
  | nil => intro m h; cases m with
   | nil => rfl
   | cons a r => simp at h
  | cons x l ih => intro m h; cases m with
   | nil => simp at h
   | cons a r =>
    simp only [zmc, List.cons.injEq, Value.int.injEq, true_and] at h
    rw [h.1, ih r h.2]
 have hp := (WideShapes.sorted_perm (es.toList.map (WideElems.rg Tryz.prog 3 (plainElem (H := Unit) Tryz.prog 4)))).map fun p => Go.intOf p.1
 refine hp.trans (.of_eq ?_)
 rw [List.map_map]
 refine inj _ _ ?_
 rw [List.map_map]
 have : es.toList.map (fun e => encZ (Go.intOf (WideElems.rg Tryz.prog 3 (plainElem (H := Unit) Tryz.prog 4) e).1)) = es.toList.map (·.key) := List.map_congr_left fun e he => by
  obtain ⟨x, hx, hr⟩ := hrd e he
  rw [WideElems.rg_of hr, hx]; rfl
 rw [k1] at this
 refine Eq.trans ?_ this
 refine List.map_congr_left fun e _ => ?_
 simp only [Function.comp_apply]

/-- a slice of numbers in memory reads as its datum -/
theorem val_of_intsR {w : World} {B : Nat} {g : Gh} {l : List Int} {v : Value} (hg : ∀ b o, B ≤ b → b < w.heap.size → g.ok b o) (h : w.ownsRow B 3 1 v l.length (l.map encZ)) (hl : ∀ x ∈ l, inr .i64 x) : val w g (sl 1 (l.map dI)) v := by
 rcases h.2 with ⟨rfl, h0⟩ | ⟨b, cap, cur, rfl, hb, hh, hnc, hcm, hcs, htake⟩
 ·have : l = [] := List.eq_nil_of_length_eq_zero h0
  subst this
  have key := R.slice (w := w) (g := g) .imm 0 [] none 0 (fun _ => []) (Nat.le_refl _) (by omega) (fun _ _ q => by cases q) trivial trivial (fun j hj => absurd hj (Nat.not_lt_zero _)) (fun j hj => absurd hj (Nat.not_lt_zero _)) (fun j hj => absurd hj (Nat.not_lt_zero _))
  exact val_of_R key rfl
 ·have hlt := (Array.getElem?_eq_some_iff.1 hh).1
  have key := R.slice (w := w) (g := g) .imm (if (l.map dI).isEmpty then 0 else 1) (l.map dI) (some ⟨b, 0, none⟩) cap (fun j => [encZ ((l[j]?).getD 0)]) (by simpa using hnc) (by unfold maxLen at hcm; omega) (fun _ _ q => by cases q) trivial trivial
   (fun j hj => by
    have hj' : j < l.length := by simpa using hj
    simp only [List.getElem_map, dI, List.getElem?_eq_getElem hj', zgd]
    exact .int _ _ (hl _ (List.getElem_mem hj')))
   (fun j hj => by rw [sl_n (j := j) hj]; rfl)
   (fun j hj => by
    have hj' : j < l.length := by simpa using hj
    rw [sl_n (j := j) hj]
    refine ⟨b, 0, rfl, fun m u hu => ?_⟩
    match m with
    | 0 =>
     simp only [zg0, Option.some.injEq, List.getElem?_eq_getElem hj', zgd] at hu
     subst hu
     rw [Nat.mul_one, Nat.add_zero, Nat.zero_add]
     refine ⟨hg b _ hb hlt, ?_⟩
     rw [cell_of_row _ _ _ _ _ _ hh]
     have h1 : cur.toList[j]? = (l.map encZ)[j]? := by
      rw [← htake, List.getElem?_take_of_lt (by omega)]
     rw [List.getElem?_map, List.getElem?_eq_getElem hj'] at h1
     simpa using h1
    | m + 1 => simp at hu)
  refine val_of_R ?_ rfl
  simpa [sl] using key

theorem sortsI (m : Nat) : AnyZI.SortsIn Tryz.prog L_sortedI_ren Fence.wide m :=
 ⟨fun blk off cap ss W hH hblk hsz => callsIn_wide.2 (AnyM.slices_Sort_int L_sortI blk off cap ss W hH hblk hsz),
 fun p cap W => callsIn_wide.2 (AnyM.slices_Sort_int_none L_sortI p cap W)⟩
theorem keysI_in (mb : Option Nat) (W : World) : CallsIn Fence.wide 5 Tryz.prog 31 #[.map mb] W fun e w' => e = .returned (.func (.func 52) #[] #[.pointer (some ⟨W.heap.size, 0, none⟩)]) ∧ w' = W.alloc (.cells #[.map mb] 65) :=
 AnyZI.keys_in L_keysI Fence.wide 5 trivial rfl mb W
set_option maxHeartbeats 1000000 in
theorem sortedI_in {H : Type} (Bm b nn : Nat) (D0 : DataW H) (R : Value → Option (DataW H × List MemPlace)) (w : World) (hBm : Bm < w.heap.size) (hm : w.cell? ⟨Bm, 0, none⟩ = some (.map (some b))) (hown : w.ownsMap Tryz.prog 3 R b nn D0) (hmax : Maps.size D0 ≤ maxLen) (hbytes : Maps.size D0 * 8 ≤ 140737488355328) :
  CallsIn Fence.wide 5 Tryz.prog 30 #[.func (.func 52) #[] #[.pointer (some ⟨Bm, 0, none⟩)]] w fun e w' => ∃ (v : Value) (ss : List Int), e = .returned v ∧ ss.Perm (intKeys D0) ∧
   w'.ownsRow w.heap.size 3 1 v ss.length ((ss.mergeSort (fun x y => decide (x ≤ y))).map encZ) ∧ (v = .slice none 0 0 ↔ ss = []) ∧ Below w.heap.size w w' := by
 have hseq : SeqGives Fence.wide 2 Tryz.prog 52 #[.pointer (some ⟨Bm, 0, none⟩)] encZ (fun ss => ss.Perm (intKeys D0)) (Maps.size D0) w :=
  AnyZI.keys_gives (ρ := L_keysI_ren) { L_keysI with } Fence.wide _ trivial rfl (by omega) Bm b nn D0 _ hBm hm hown
 exact AnyZI.sorted_in L_sortedI Fence.wide 5 trivial trivial trivial trivial rfl (by omega) (sortsI _) (enters_of Tryz.func51 (by kernel_rfl) rfl) 52 #[.pointer (some ⟨Bm, 0, none⟩)] trivial (enters_of Tryz.func52 (by kernel_rfl) rfl) _ _ hmax hbytes _ hseq

/-- the call of maps.Keys: a function over a new box, which holds the map -/
noncomputable def keysCa : Nat → List D → St → Option (D × St) := fun k args σ => open Classical in if h : k = 31 ∧ ∃ i, args = [.mref i] then some (.fn 52 [.ptr σ.bx.length 0], { σ with bx := σ.bx ++ [[.mref h.2.choose]] }) else none
theorem keysCa_eq (i : Nat) (σ : St) : keysCa 31 [.mref i] σ = some (.fn 52 [.ptr σ.bx.length 0], { σ with bx := σ.bx ++ [[.mref i]] }) := by
 unfold keysCa
 have h : ∃ j, [D.mref i] = [.mref j] := ⟨i, rfl⟩
 rw [dif_pos ⟨rfl, h⟩]
 have : h.choose = i := (D.mref.inj (List.cons.inj h.choose_spec).1).symm
 rw [this]
theorem CaOk.keys : CaOk Tryz.prog keysCa := by
 intro base w0 ok0 k args σ d σ' q
 by_cases hh : k = 31 ∧ ∃ i, args = [.mref i]
 ·obtain ⟨rfl, i, rfl⟩ := hh
  rw [keysCa_eq] at q
  cases q
  refine ⟨rfl, fun g vs w hr hv => ?_⟩
  obtain ⟨v, rfl, hv1⟩ := vals_one hv
  obtain ⟨us, q1, q2⟩ := hv1
  cases q1 with
  | mref _ b hb hm =>
  have hv : v = .map (some b) := q2
  subst hv
  refine (callsIn_wide.1 (keysI_in (some b) w)).mono ?_
  rintro e w' ⟨rfl, rfl⟩
  obtain ⟨g', r1, r2, r3⟩ := RS.box hr (cs := [.mref i]) (vs := [.map (some b)]) 65 (.agg _ _ rfl (fun j h1 h2 => by
   match j with
   | 0 => exact .mref i b hb hm))
  refine ⟨_, g', rfl, r1, r2, ?_⟩
  obtain ⟨us, p1, p2⟩ := r3
  refine val_of_R (.fn _ _ [.pointer (some ⟨w.heap.size, 0, none⟩)] rfl (fun d hd => by simp only [List.mem_singleton] at hd; subst hd; rfl) (fun j h1 h2 => ?_)) rfl
  match j with
  | 0 =>
   cases p1 with
   | ptr _ _ c hc hm' =>
    have hcw : c = w.heap.size := by
     have q : Value.pointer (some ⟨w.heap.size, 0, none⟩) = .pointer (some ⟨c, 0, none⟩) := p2
     simpa using q.symm
    subst hcw
    exact .ptr _ _ _ hc hm'
 ·unfold keysCa at q
  rw [dif_neg hh] at q
  cases q

/-- the call of slices.Sorted on the keys of a map that a box holds -/
noncomputable def sortedCa (A : List Int) (j i : Nat) : Nat → List D → St → Option (D × St) := fun k args σ => open Classical in if k = 30 ∧ args = [.fn 52 [.ptr j 0]] ∧ σ.bx[j]? = some [.mref i] ∧ σ.bx[i]? = some (iD A) then some (sl 1 ((sortI A).map dI), σ) else none
theorem sortedCa_eq {A : List Int} {j i : Nat} {σ : St} (h1 : σ.bx[j]? = some [.mref i]) (h2 : σ.bx[i]? = some (iD A)) : sortedCa A j i 30 [.fn 52 [.ptr j 0]] σ = some (sl 1 ((sortI A).map dI), σ) := by
 unfold sortedCa
 rw [if_pos ⟨rfl, rfl, h1, h2⟩]
theorem CaOk.sorted {A : List Int} (j i : Nat) (hA : A.length ≤ 1000000) : CaOk Tryz.prog (sortedCa A j i) := by
 intro base w0 ok0 k args σ d σ' q
 unfold sortedCa at q
 split at q
 ·rename_i hh
  obtain ⟨rfl, rfl, h1, h2⟩ := hh
  cases q
  refine ⟨rfl, fun g vs w hr hv => ?_⟩
  obtain ⟨v, rfl, hv1⟩ := vals_one hv
  obtain ⟨us, q1, q2⟩ := hv1
  cases q1 with
  | fn _ _ vs hl ha hp =>
  obtain ⟨u, rfl⟩ := List.length_eq_one_iff.1 hl.symm
  have hp0 := hp 0 (by simp) (by simp)
  simp only [List.getElem_cons_zero] at hp0
  generalize hu : [u] = uu at hp0
  cases hp0 with
  | ptr _ _ c hc hm =>
  simp only [List.cons.injEq, and_true] at hu
  subst hu
  have hv : v = .func (.func 52) #[] #[.pointer (some ⟨c, 0, none⟩)] := q2
  subst hv
  obtain ⟨vs, sp, ty, b1, b2⟩ := (RW.boxesAt hr).cells h1 ⟨hc, hm⟩
  have hlen := R_agg_len b2
  obtain ⟨u, rfl⟩ := List.length_eq_one_iff.1 hlen.symm
  obtain ⟨_, b3⟩ := R_agg_at b2 0 (by simp)
  simp only [List.getElem_cons_zero] at b3
  generalize hu : [u] = uu at b3
  cases b3 with
  | mref _ b hb hmb =>
  simp only [List.cons.injEq, and_true] at hu
  subst hu
  have hbox := RW.box hr i _ b h2 hb
  rw [hmb] at hbox
  obtain ⟨D0, ho, hperm⟩ := map_of_box hbox hA
  have hin : ∀ x ∈ A, inr .i64 x := by
   obtain ⟨es, clock, e1, e2, _, e4, e5⟩ := hbox
   exact (entI (entL_of e2 e4)).2.2
  have hsz : Maps.size D0 ≤ 1000000 := Nat.le_trans ho.size_le hA
  have hcl : c < w.heap.size := (Array.getElem?_eq_some_iff.1 b1).1
  refine (callsIn_wide.1 (sortedI_in c b _ D0 _ w hcl (by rw [cell_of_row _ _ _ _ _ _ b1]; simp) ho (by unfold maxLen; omega) (by omega))).mono ?_
  rintro e w' ⟨v, ss, rfl, hS, hrow, _, hbel⟩
  have e1 : ss.mergeSort (fun x y => decide (x ≤ y)) = sortI A := mergeSort_of_perm_i (hS.trans hperm)
  have e2 : ss.length = (sortI A).length := by rw [← e1, List.length_mergeSort]
  rw [e1, e2] at hrow
  obtain ⟨r1, r2⟩ := RW.grow hr hbel (ok' := fun c o => g.ok c o ∨ (w.heap.size ≤ c ∧ c < w'.heap.size)) (fun _ _ q => .inl q) (fun _ _ q => q)
  exact ⟨v, _, rfl, r1, r2, val_of_intsR (fun b o h1 h2 => .inr ⟨h1, h2⟩) hrow (fun x hx => hin x (mem_sortI.1 hx))⟩
 ·cases q
section
variable {P : Program} {ops : Array Oper} {o : Oper} {l r : List Oper} {σ σ1 σ' : St}
end
end Go.Proofs.YtkkhjpkkjpcbmaaGreat
