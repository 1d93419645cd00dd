/- Reads, Writes and Independent as functions of data. -/
import Derived.Test.YtkkhjpkkjpcbmaaGreatE6
import Derived.Test.YtkkhjpkkjpcbmaaGreatAmZ
import Derived.KernelRfl
namespace Go.Proofs.YtkkhjpkkjpcbmaaGreat
open Go.RowKit Go.Shelf

/-- a slice of names in memory reads as its datum -/
theorem val_of_names {w : World} {B : Nat} {g : Gh} {l : List Nm} {v : Value} (hg : ∀ b o, B ≤ b → b < w.heap.size → g.ok b o) (h : w.ownsRow B 9 1 v l.length (l.map encStr)) (hl : ∀ s ∈ l, s.length ≤ maxLen) : val w g (sl 1 ((l.map bN).map dS)) v := by
 have hsz : ∀ s ∈ l, (bN s).size ≤ 9223372036854775807 := fun s hs => by
  have := hl s hs
  unfold maxLen at this
  simpa [bN, ByteArray.size] using this
 rcases h.2 with ⟨rfl, h0⟩ | ⟨b, cap, cur, rfl, hb, hh, hnc, hcm, hcs, htake⟩
 ·have : l = [] := List.eq_nil_of_length_eq_zero h0
  subst this
  have key := R.slice (w := w) (g := g) .imm 0 [] none 0 (fun _ => []) (Nat.le_refl _) (by omega) (fun _ _ q => by cases q) trivial trivial (fun j hj => absurd hj (Nat.not_lt_zero _)) (fun j hj => absurd hj (Nat.not_lt_zero _)) (fun j hj => absurd hj (Nat.not_lt_zero _))
  exact val_of_R key rfl
 ·have hlt := (Array.getElem?_eq_some_iff.1 hh).1
  have key := R.slice (w := w) (g := g) .imm (if ((l.map bN).map dS).isEmpty then 0 else 1) ((l.map bN).map dS) (some ⟨b, 0, none⟩) cap (fun j => [.string (bN ((l[j]?).getD []))]) (by simpa using hnc) (by unfold maxLen at hcm; omega) (fun _ _ q => by cases q) trivial trivial
   (fun j hj => by
    have hj' : j < l.length := by simpa using hj
    simp only [List.getElem_map, dS, List.getElem?_eq_getElem hj', zgd]
    exact .str _ (hsz _ (List.getElem_mem hj')))
   (fun j hj => by rw [sl_n (j := j) hj]; rfl)
   (fun j hj => by
    have hj' : j < l.length := by simpa using hj
    rw [sl_n (j := j) hj]
    refine ⟨b, 0, rfl, fun m u hu => ?_⟩
    match m with
    | 0 =>
     simp only [zg0, Option.some.injEq, List.getElem?_eq_getElem hj', zgd] at hu
     subst hu
     rw [Nat.mul_one, Nat.add_zero, Nat.zero_add]
     refine ⟨hg b _ hb hlt, ?_⟩
     rw [cell_of_row _ _ _ _ _ _ hh]
     have h1 : cur.toList[j]? = (l.map encStr)[j]? := by
      rw [← htake, List.getElem?_take_of_lt (by omega)]
     rw [List.getElem?_map, List.getElem?_eq_getElem hj'] at h1
     simpa [bN, encStr] using h1
    | m + 1 => simp at hu)
  refine val_of_R ?_ rfl
  simpa [sl] using key

/-- a test that the machine answers is one in memory -/
theorem tests_of {k : Nat} {p : Tr → Bool} {t : Tr} (h : fn EV k [dN t] = some (.bool (p t))) : Tests k p t := by
 intro v w hr
 have hv : val w (gW w) (dN t) v := val_of_rep (ok := fun b => b < w.heap.size) (fun b o q => q) (RepP.of t hr)
 have hp := fn_sound EV EV_ok h (gW w) [v] w ⟨fun b o q => q, fun b q => q, fun _ _ q => q.elim⟩ ⟨rfl, fun j h1 h2 => by
  match j with
  | 0 => exact hv
  | j + 1 => simp at h1⟩
 refine Calls.mono hp ?_
 rintro e w' ⟨u, g', rfl, hb, _, hd⟩
 rw [val_bool hd]
 exact ⟨rfl, hb⟩
theorem tapes_tests (t : Tr) : t.size ≤ 1000000 → Tests 36 tapesB t := fun h => tests_of (tapes_fn t h)
/-- the effects' functions -/
def orcE8 : List (Nat × (List D → Option D)) :=
 [(8, orcN fun t => if t.size ≤ 1000000 then some (sl 1 ((rrT t).map dS)) else none),
 (14, orcN fun t => if t.size ≤ 1000000 then some (sl 1 ((wrT t).map dS)) else none),
 (15, orcNN fun t u => if t.size ≤ 1000000 ∧ u.size ≤ 1000000 then some (.bool (!commonB (wrT t) (rrT u) && !commonB (wrT u) (rrT t) && !(tapesB t && tapesB u))) else none)]
theorem ind_eq (t u : Tr) : indB tapesB t u = (!commonB (wrT t) (rrT u) && !commonB (wrT u) (rrT t) && !(tapesB t && tapesB u)) := by unfold indB; rw [common_disj, common_disj]
theorem fit_list {k : Nat} {L : Tr → List Nm} {M : Tr → List ByteArray} (hM : ∀ t, (sortN (L t)).map bN = M t) (h : ∀ (t : Tr) (v : Value) (w : World), Rep w w.heap.size t v → t.size ≤ 1000000 → Calls Tryz.prog k #[v] w (ListPost (L t) w)) : Fit Tryz.prog k (orcN fun t => if t.size ≤ 1000000 then some (sl 1 ((M t).map dS)) else none) := by
 intro args d ho
 unfold orcN at ho
 split at ho
 ·rename_i x
  rw [Option.bind_eq_some_iff] at ho
  obtain ⟨t, ht, e⟩ := ho
  split at e
  ·rename_i hle
   cases e
   have hx := toTr_eq ht
   subst hx
   refine ⟨sl_under (map_under (dS_under 0) _), sl_strip (map_strip dS_strip _), PContract.of_cells fun g vs w hlt hv => ?_⟩
   obtain ⟨v, rfl, hv1⟩ := vals_one hv
   refine (h t v w (rep_of_val hlt hv1) hle).mono ?_
   rintro e w' ⟨v', rfl, hrow, hlen, hb⟩
   rw [← hM]
   exact ⟨v', rfl, hb, val_of_names (fun b o h1 h2 => .inr ⟨h1, h2⟩) hrow (fun s hs => hlen s (mem_sortN.1 hs))⟩
  ·cases e
 ·cases ho
theorem orcE8_fit : ∀ x ∈ orcE8, Fit Tryz.prog x.1 x.2 := by
 intro x hx
 simp only [orcE8, List.mem_cons, List.not_mem_nil, or_false] at hx
 rcases hx with rfl | rfl | rfl
 ·exact fit_list sort_reads Reads_any
 ·exact fit_list sort_writes Writes_any
 ·intro args d ho
  dsimp only [orcNN] at ho
  split at ho
  ·split at ho
   ·rename_i x y t u ht hu
    split at ho
    ·rename_i hle
     cases ho
     have hx := toTr_eq ht
     have hy := toTr_eq hu
     subst hx hy
     refine ⟨rfl, rfl, PContract.of_cells fun g vs w hlt hv => ?_⟩
     obtain ⟨v, q, rfl, hv1, hv2⟩ := vals_two hv
     refine (independent_any tapes_tests t u v q w (rep_of_val hlt hv1) (rep_of_val hlt hv2) hle.1 hle.2).mono ?_
     rintro e w' ⟨rfl, hb⟩
     rw [ind_eq]
     exact ⟨_, rfl, hb, val_b _ _ _⟩
    ·cases ho
   ·cases ho
  ·cases ho
/-- the environment with the effects' functions -/
noncomputable def EVe : Env := EV.more (lookT orcE8)
theorem EVe_ok : EVe.Ok := more_ok EV_ok (look_fit (P := Tryz.prog) orcE8_fit)
theorem dN_inj {t u : Tr} (h : dN t = dN u) : t = u := by
 have := toTr_of t
 rw [h, toTr_of u] at this
 exact (Option.some.inj this).symm
theorem reads_e (t : Tr) (h : t.size ≤ 1000000) : fn EVe 8 [dN t] = some (sl 1 ((rrT t).map dS)) :=
 more_orc (by simp only [plain, List.all_cons, List.all_nil, dN_under, dN_good, Bool.and_true]) (by simp only [zmc, zmn, dN_strip]) rfl rfl (by
  show orcN _ [dN t] = _
  simp only [orcN, toTr_of, zbs, if_pos h])
set_option maxRecDepth 100000 in
theorem awake_e : fn EVe 4 [] = some (.bool true) := fn_of (n := 60) (by kernel_rfl)
end Go.Proofs.YtkkhjpkkjpcbmaaGreat
