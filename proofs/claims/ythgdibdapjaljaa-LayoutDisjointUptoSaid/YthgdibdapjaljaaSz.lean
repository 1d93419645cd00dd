/- slices.SortFunc on a row of one's own that is in order already, as a call of the machine. -/
import Derived.Test.YthgdibdapjaljaaSlz
import Derived.Test.YthgdibdapjaljaaSx
namespace Go.Proofs.Ythgdibdapjaljaa
open Go.RowKit Go.Shelf Go.Lib Go.Sort

def dSp (x : Int × Int) : D := .agg [.int .i64 x.1, .int .i64 x.2]
def encSp (x : Int × Int) : List Value := [.int .i64 x.1, .int .i64 x.2]

theorem ltSp (x y : Int × Int) : ltOf (fun x y : Int × Int => Lib.compareInt x.1 y.1) x y = decide (x.1 < y.1) := by
 unfold ltOf Lib.compareInt
 by_cases h1 : x.1 < y.1
 ·simp [h1]
 ·by_cases h2 : y.1 < x.1 <;> simp [h1, h2]
theorem swoSp : SWO (ltOf fun x y : Int × Int => Lib.compareInt x.1 y.1) where
 irrefl x := by rw [ltSp]; simp
 trans x y z h1 h2 := by rw [ltSp] at *; simp at *; omega
 ntrans x y z h1 h2 := by rw [ltSp] at *; simp at *; omega

set_option maxHeartbeats 1000000 in
theorem closureSp (x y : Int × Int) (W : World) : Calls Try.prog 72 #[.agg #[.int .i64 x.1, .int .i64 x.2], .agg #[.int .i64 y.1, .int .i64 y.2]] W fun e w' => e = .returned (.int .i64 (Lib.compareInt x.1 y.1)) ∧ ∃ q os', w' = grow (W.drewN q) os' := by
 have hcon := fun W' => AnyG.cmp_Compare_int L_cmp x.1 y.1 W'
 change ∀ W', Calls Try.prog 73 _ _ _ at hcon
 generalize Lib.compareInt x.1 y.1 = r at hcon ⊢
 go_enter Try.func72, Try.ntmps72
 go_wp2_with (go_at_call 73; refine (hcon _).mono ?_; rintro e w' ⟨rfl, rfl⟩)
 go_ret
 exact ⟨rfl, 0, _, by rw [alloc_eq_grow, alloc_eq_grow, grow_grow]; rfl⟩

theorem vals_pr {w : World} {g : Gh} {d e : D} {vs : List Value} (h : vals w g [d, e] vs) : ∃ v u, vs = [v, u] ∧ val w g d v ∧ val w g e u := by
 obtain ⟨hl, hv⟩ := h
 match vs, hl with
 | [v, u], _ => exact ⟨v, u, rfl, hv 0 (by simp) (by simp), hv 1 (by simp) (by simp)⟩
theorem R_sp {w : World} {g : Gh} {x : Int × Int} {cs : List Value} (h : R w g (dSp x) cs) : cs = encSp x := by
 unfold dSp at h
 cases h with
 | agg _ _ hl hh =>
  match cs, hl with
  | [a, b], _ =>
   have h0 := hh 0 (by simp) (by simp)
   have h1 := hh 1 (by simp) (by simp)
   simp only [List.getElem_cons_zero, List.getElem_cons_succ] at h0 h1
   have e0 : a = .int .i64 x.1 := by
    generalize hk : [a] = kk at h0
    cases h0 with
    | int _ _ h => simpa using hk
   have e1 : b = .int .i64 x.2 := by
    generalize hk : [b] = kk at h1
    cases h1 with
    | int _ _ h => simpa using hk
   rw [e0, e1]; rfl

/-- a permutation of a row in strict order that is in order is the row -/
theorem perm_same {d d' : Array (Int × Int)} (hs : d.toList.Pairwise fun x y => x.1 < y.1) (hp : PermIn 0 d.size d d') (ho : SortedIn (ltOf fun x y : Int × Int => Lib.compareInt x.1 y.1) 0 d.size d') : d' = d := by
 obtain ⟨h1, _, h3⟩ := hp
 rw [show d'.extract 0 d.size = d' from by rw [← h1]; simp, show d.extract 0 d.size = d from by simp] at h3
 apply Array.toList_inj.1
 have hle : d.toList.Pairwise fun x y => x.1 ≤ y.1 := hs.imp fun h => by omega
 have hle' : d'.toList.Pairwise fun x y => x.1 ≤ y.1 := by
  rw [List.pairwise_iff_getElem]
  intro i j hi hj hij
  have hj' : j < d'.size := by simpa using hj
  have q := ho i j (Nat.zero_le _) hij (by omega)
  rw [ltSp, getElem!_pos d' j hj', getElem!_pos d' i (by omega)] at q
  simp only [decide_eq_false_iff_not, Int.not_lt] at q
  simpa using q
 have inj : ∀ a b, a ∈ d.toList → b ∈ d.toList → a.1 = b.1 → a = b := by
  intro a b ha hb he
  obtain ⟨i, hi, rfl⟩ := List.getElem_of_mem ha
  obtain ⟨j, hj, rfl⟩ := List.getElem_of_mem hb
  rcases Nat.lt_trichotomy i j with h | h | h
  ·have := List.pairwise_iff_getElem.1 hs i j hi hj h; omega
  ·subst h; rfl
  ·have := List.pairwise_iff_getElem.1 hs j i hj hi h; omega
 exact List.Perm.eq_of_pairwise (le := fun x y => x.1 ≤ y.1) (fun a b ha hb q1 q2 => inj a b (h3.mem_iff.1 ha) hb (by omega)) hle' hle h3

/-- the call of slices.SortFunc on a row of one's own that is in order -/
noncomputable def sortCa : Nat → List D → St → Option (D × St) := fun k args σ => open Classical in if k = 71 ∧ ∃ (L : List (Int × Int)) (o : Own) (n : Nat), args = [.slice o n (L.map dSp), .fn 72 []] ∧ L.Pairwise (fun x y => x.1 < y.1) ∧ L.length ≤ 1000000 ∧ (L = [] ∨ ∃ s e, o = .own s e ∧ n = 2 ∧ s ∈ σ.lv) then some (.tup [], σ) else none
theorem sortCa_eq {L : List (Int × Int)} {o : Own} {n : Nat} {σ : St} (h1 : L.Pairwise fun x y => x.1 < y.1) (h2 : L.length ≤ 1000000) (h3 : L = [] ∨ ∃ s e, o = .own s e ∧ n = 2 ∧ s ∈ σ.lv) : sortCa 71 [.slice o n (L.map dSp), .fn 72 []] σ = some (.tup [], σ) := by
 unfold sortCa
 rw [if_pos ⟨rfl, L, o, n, rfl, h1, h2, h3⟩]
theorem val_tup0 (w : World) (g : Gh) : val w g (.tup []) (.tuple #[]) := ⟨[], rfl, rfl, fun _j h => absurd h (Nat.not_lt_zero _)⟩
theorem below_grow (w : World) (n : Nat) (os : Array Obj) : Below w.heap.size w (grow (Sort.ahead w n) os) :=
 ⟨rfl, rfl, rfl, by simp [grow, Sort.ahead], fun i hi => by simp [grow, Sort.ahead, Array.getElem?_append, hi]⟩
theorem CaOk.sortSp : CaOk Try.prog sortCa := by
 intro base w0 ok0 k args σ d σ' q
 unfold sortCa at q
 split at q
 ·rename_i hh
  obtain ⟨rfl, L, o, n, rfl, h1, h2, h3⟩ := hh
  cases q
  refine ⟨rfl, fun g vs w hr hv => ?_⟩
  obtain ⟨v1, v2, rfl, hv1, hv2⟩ := vals_pr hv
  have e2 : v2 = .func (.func 72) #[] #[] := by
   obtain ⟨us, q1, q2⟩ := hv2
   cases q1 with
   | fn _ _ vs hl ha hp =>
    have : vs = [] := List.length_eq_zero_iff.1 hl.symm
    subst this
    exact q2
  subst e2
  obtain ⟨A, cap, cs, rfl, hl, hm, ho, hnil, _, hR, hn, hc⟩ := val_slice hv1
  have empty : L = [] → Calls Try.prog 71 #[.slice A (L.map dSp).length cap, .func (.func 72) #[] #[]] w fun e w' => ∃ v g', e = .returned v ∧ RW Try.prog base w0 ok0 g' (fun i => σ.bx[i]?) (fun s => s < σ.nx) (fun s => s ∈ σ.lv) w' ∧ Ext g w g' w' ∧ val w' g' (.tup []) v := by
   rintro rfl
   refine (AnyF.slices_SortFunc_none L_sort A cap _ w).mono ?_
   rintro e w' ⟨rfl, rfl⟩
   exact ⟨_, g, rfl, hr, Ext.refl _ _, val_tup0 _ _⟩
  rcases h3 with h3 | ⟨s, e, rfl, rfl, hs⟩
  ·exact empty h3
  ·obtain ⟨u, e', len, xs, r1, r2, _⟩ := RW.row hr s hs
   rw [ho s e rfl] at r1
   cases r1
   rcases r2.2 with ⟨hnil', _⟩ | ⟨b, cap', cur, hb1, hb2, hb3, _⟩
   ·have h0 : (L.map dSp).length = 0 := by injection hnil'
    exact empty (by simpa using h0)
   ·obtain ⟨rfl, -, rfl⟩ : A = some ⟨b, 0, .none⟩ ∧ (L.map dSp).length = (L.map dSp).length ∧ cap = cap' := by
     injection hb1 with x1 x2 x3
     exact ⟨x1, rfl, x3⟩
    have hlt : b < w.heap.size := (Array.getElem?_eq_some_iff.1 hb3).1
    have hH : HoldsK encSp 2 w b 0 L.toArray := by
     intro t ht
     rw [size_flatK] at ht
     have hsz : L.toArray.size = L.length := List.size_toArray ..
     rw [hsz] at ht
     have hj : t / 2 < L.length := by omega
     have hj' : t / 2 < (L.map dSp).length := by simpa using hj
     refine ⟨?_, by simp [World.frozen?, hb3]⟩
     obtain ⟨b', off, hA, hcell⟩ := hc (t / 2) hj'
     cases hA
     have hcs := hR (t / 2) hj'
     rw [List.getElem_map] at hcs
     have hcs' := R_sp hcs
     rw [get_flatK _ _ _ t (by rw [hsz]; exact ht), getElem!_pos L.toArray (t / 2) (by rw [hsz]; exact hj)]
     simp only [List.getElem_toArray, id]
     have hmod : t % 2 < 2 := Nat.mod_lt _ (by omega)
     have := (hcell (t % 2) ((encSp L[t / 2])[t % 2]!) (by
      rw [hcs']
      rw [List.getElem?_eq_getElem (by simp [encSp]; omega), getElem!_pos (encSp L[t / 2]) (t % 2) (by simp [encSp]; omega)])).2
     rw [show 0 + t / 2 * 2 + t % 2 = 0 + t from by omega] at this
     exact this
    have hcall := AnyQ.slices_SortFunc L_sort 2 Try.isAgg100 Try.sizeOf100 encSp (fun _ => rfl) (fun x v hv => by simp [encSp] at hv; rcases hv with rfl | rfl <;> rfl) (fun x y => Lib.compareInt x.1 y.1) swoSp 72 #[] b 0 cap L.toArray w (enters_of Try.func72 (by kernel_rfl) rfl) (fun _ _ _ _ x y => closureSp x y _) hH hlt (by simp; omega)
    have hcall' : Calls Try.prog 71 #[.slice (some ⟨b, 0, none⟩) (L.map dSp).length cap, .func (.func 72) #[] #[]] w fun e w' => e = .returned (.tuple #[]) ∧ ∃ d' n os, PermIn 0 L.toArray.size L.toArray d' ∧ SortedIn (ltOf fun x y : Int × Int => Lib.compareInt x.1 y.1) 0 L.toArray.size d' ∧ w' = sortWorldK encSp 2 w b 0 n d' os := by
     rw [zlm]
     exact hcall
    refine hcall'.mono ?_
    rintro e w' ⟨rfl, d', n, os, p1, p2, rfl⟩
    have hd : d' = L.toArray := perm_same (by simpa using h1) p1 p2
    subst hd
    have hw : sortWorldK encSp 2 w b 0 n L.toArray os = grow (Sort.ahead w n) os := by
     unfold sortWorldK putRowK
     rw [putRow_self]
     exact hH
    rw [hw]
    obtain ⟨t1, t2⟩ := RW.grow hr (below_grow w n os) (ok' := g.ok) (fun _ _ q => q) (fun _ _ q => .inl q)
    exact ⟨_, _, rfl, t1, t2, val_tup0 _ _⟩
 ·cases q
end Go.Proofs.Ythgdibdapjaljaa
