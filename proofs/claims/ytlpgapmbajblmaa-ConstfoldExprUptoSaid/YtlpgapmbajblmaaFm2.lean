/- constfold.fold and Expr, walked in memory. -/
import Derived.Test.YtlpgapmbajblmaaFm
namespace Go.Proofs.Ytlpgapmbajblmaa
open Go.RowKit Go.Shelf

theorem vals_one_of {w : World} {g : Gh} {d : D} {v : Value} (h : val w g d v) : vals w g [d] [v] := ⟨rfl, fun j h1 h2 => by
  match j, h1, h2 with
  | 0, _, _ => exact h
  | j + 1, h1, _ => simp at h1⟩
theorem vals_two_of {w : World} {g : Gh} {d d' : D} {v v' : Value} (h : val w g d v) (h' : val w g d' v') : vals w g [d, d'] [v, v'] := ⟨rfl, fun j h1 h2 => by
  match j, h1, h2 with
  | 0, _, _ => exact h
  | 1, _, _ => exact h'
  | j + 2, h1, _ => simp at h1; omega⟩
theorem val_ib {w : World} {g : Gh} {a : Int} {b : Bool} {v : Value} (h : val w g (.tup [.int .i64 a, .bool b]) v) : v = .tuple #[.int .i64 a, .bool b] ∧ inr .i64 a := by
  obtain ⟨vs, rfl, hl, hv⟩ := h
  match vs, hl with
  | [x, y], _ =>
    have h0 := hv 0 (by simp) (by simp)
    have h1 := hv 1 (by simp) (by simp)
    obtain ⟨e0, i0⟩ := val_int (show val w g (.int .i64 a) x from val.of1 h0)
    have e1 := val_bool (show val w g (.bool b) y from val.of1 h1)
    subst e0 e1
    exact ⟨rfl, i0⟩
theorem repP_of_val {w : World} {g : Gh} {ok : Nat → Prop} (hB : ∀ b o, g.ok b o → ok b) {t : Tr} {v : Value} (h : val w g (dN t) v) : RepP w ok t v := by
  obtain ⟨cs, hR, rfl⟩ := h.to1 (dN_good t)
  have := repP_of_R hB t hR
  rw [dN_eq]
  exact this

theorem value_mem (t : Tr) (hs : t.size ≤ 1000000) (hx : exprB t = true) {v row : Value} {w : World} (hv : Rep w w.heap.size t v) (hrow : SliceS shFold w (fun b => b < w.heap.size) row (t.kids.map foldT)) :
    Calls Try.prog 66 #[v, row] w fun e w' => e = .returned (.tuple #[.int .i64 (valueD t.kind t.num (t.kids.map foldT)).1, .bool (valueD t.kind t.num (t.kids.map foldT)).2]) ∧ inr .i64 (valueD t.kind t.num (t.kids.map foldT)).1 ∧ Below w.heap.size w w' := by
  have hkl := t.kids_len
  have hc := expr_cases hx
  have hV := value_fn t (t.kids.map foldT) (by simp; omega) (fun hk => by rcases hc with ⟨_, _, _⟩ | ⟨_, h1⟩ | ⟨_, a, h1, h2⟩ | ⟨_, a, h1, h2⟩ | ⟨_, a, b, h1, h2, h3⟩ <;> first | omega | (rw [h1]; exact ⟨_, _, rfl⟩)) (fun k1 k2 k3 k4 k5 k6 k7 => by rcases hc with ⟨_, _, _⟩ | ⟨_, h1⟩ | ⟨_, a, h1, h2⟩ | ⟨_, a, h1, h2⟩ | ⟨_, a, b, h1, h2, h3⟩ <;> first | omega | (rw [h1]; exact ⟨_, _, _, rfl⟩))
  refine (calls_of_fn hV (ok := fun b => b < w.heap.size) (fun _ q => q) (vals_two_of (val_of_rep (ok := fun b => b < w.heap.size) (fun _ _ q => q) (RepP.of t hv)) (val_of_folds (fun _ _ q => q) hrow))).mono ?_
  rintro e w' ⟨u, g', rfl, hb, hd, _⟩
  obtain ⟨rfl, hi⟩ := val_ib hd
  exact ⟨rfl, hi, hb⟩
theorem lit_mem (n : Int) (hn : inr .i64 n) (w : World) : Calls Try.prog 67 #[.int .i64 n] w (Makes (litT n) w) := by
  have h1 : -9223372036854775808 ≤ n := by have := hn.1; simp [IntKind.min, IntKind.bits, IntKind.signed] at this; omega
  refine (calls_of_fn (lit_fn n h1) (ok := fun _ => False) (fun _ q => q.elim) (vals_one_of (val.of1 ⟨_, .int _ _ hn, rfl⟩))).mono ?_
  rintro e w' ⟨u, g', rfl, hb, hd, hok⟩
  exact ⟨u, rfl, repP_of_val (fun b o q => (hok b o q).elim (fun q => q.elim) id) hd, hb⟩
theorem nodes_mem (f : List Fo) (hl : f.length ≤ 1000000) {row : Value} {w : World} {ok : Nat → Prop} (hok : ∀ b, ok b → b < w.heap.size) (hrow : SliceS shFold w ok row f) :
    Calls Try.prog 68 #[row, .func (.func 69) #[] #[]] w fun e w' => ∃ (A : Option Addr) (cap : Nat), e = .returned (.slice A (f.map (fun x => x.1)).length cap) ∧ (f.map (fun x => x.1)).length ≤ cap ∧ cap ≤ 9223372036854775807 ∧ RowP w' (fun b => ok b ∨ (w.heap.size ≤ b ∧ b < w'.heap.size)) (f.map (fun x => x.1)) A 0 ∧ Below w.heap.size w w' := by
  have hC := eachFN any69 f (fun x => dN x.1) hl (fun x _ => fold1_fn x) (fun x => dN_good _) (fun x => by rw [dN_cells]; rfl) (fun x => dN_strip _) (fun x => dN_under 0 _)
  rw [show f.map (fun x => dN x.1) = (f.map (fun x => x.1)).map dN from by rw [List.map_map]; rfl] at hC
  refine (calls_of_fn hC (ok := ok) hok (vals_two_of (val_of_folds (fun _ _ q => q) hrow) (val.of1 ⟨_, .fn _ [] [] rfl (fun d hd => by cases hd) (fun j h => absurd h (Nat.not_lt_zero _)), rfl⟩))).mono ?_
  rintro e w' ⟨u, g', rfl, hb, hd, hok'⟩
  obtain ⟨A, cap, rfl, h1, h2, h3⟩ := rowP_of_val (ok := fun b => ok b ∨ (w.heap.size ≤ b ∧ b < w'.heap.size)) hok' hd
  exact ⟨A, cap, rfl, h1, h2, h3, hb⟩
theorem ret_fold {fn : Func} {p : Tmp} (hres : fn.results = #[.cell p 59]) {R : Ending → World → Prop} {a : Act} {W : World} {g : Nat} {x0 x1 x2 x3 x4 x5 : Value}
    (hp : a.tmps.getD p undef = .pointer (some ⟨g, 0, none⟩)) (hg : W.heap[g]? = some (.cells #[x0, x1, x2, x3, x4, x5] 59 (0, 0))) (hd : a.defers = []) (hR : R (.returned (.agg #[x0, x1, x2, x3, x4, x5])) W) : bodyPost Try.prog fn R .ret a W :=
  bodyPost_ret (results_cell_row hres _ _ g _ _ _ _ hp hg Try.underlying59 rfl (by kernel_rfl)) hd hR
theorem set6 {W : World} {g t : Nat} {x0 x1 x2 x3 x4 x5 : Value} (a0 a1 a2 a3 a4 a5 : Value) (h : W.heap[g]? = some (.cells #[x0, x1, x2, x3, x4, x5] t (0, 0))) :
    ((((((W.setCell ⟨g, 0, none⟩ a0).setCell ⟨g, 1, none⟩ a1).setCell ⟨g, 2, none⟩ a2).setCell ⟨g, 3, none⟩ a3).setCell ⟨g, 4, none⟩ a4).setCell ⟨g, 5, none⟩ a5).heap[g]? = some (.cells #[a0, a1, a2, a3, a4, a5] t (0, 0)) :=
  heap_setCell_same _ _ 5 _ _ a5 (heap_setCell_same _ _ 4 _ _ a4 (heap_setCell_same _ _ 3 _ _ a3 (heap_setCell_same _ _ 2 _ _ a2 (heap_setCell_same _ _ 1 _ _ a1 (heap_setCell_same _ _ 0 _ _ a0 h)))))

theorem six_at {w : World} {g t : Nat} {x0 x1 x2 x3 x4 x5 : Value} (h : w.heap[g]? = some (.cells #[x0, x1, x2, x3, x4, x5] t (0, 0))) :
    w.cell? ⟨g, 0, none⟩ = some x0 ∧ w.cell? ⟨g, 1, none⟩ = some x1 ∧ w.cell? ⟨g, 2, none⟩ = some x2 ∧ w.cell? ⟨g, 3, none⟩ = some x3 ∧ w.cell? ⟨g, 4, none⟩ = some x4 ∧ w.cell? ⟨g, 5, none⟩ = some x5 :=
  ⟨cell_of_row _ _ 0 _ _ _ h, cell_of_row _ _ 1 _ _ _ h, cell_of_row _ _ 2 _ _ _ h, cell_of_row _ _ 3 _ _ _ h, cell_of_row _ _ 4 _ _ _ h, cell_of_row _ _ 5 _ _ _ h⟩

set_option maxRecDepth 100000 in
set_option maxHeartbeats 2000000 in
theorem fold_mem (t : Tr) : t.size ≤ 1000000 → exprB t = true → ∀ (v : Value) (w : World), Rep w w.heap.size t v → Calls Try.prog 38 #[v] w (MakesF t w) := by
  induction t using Tr.ind with
  | h k n s c ih =>
    intro hsz hx v w hr
    have hr0 := hr
    simp only [Rep] at hr
    obtain ⟨A, cap, rfl, hf, hrow⟩ := hr
    have HF := Lib.hid hf
    have HR := Lib.hid hrow
    have HV := Lib.hid hr0
    have hkids := expr_kids hx
    simp only [Tr.kids] at hkids
    have hcl : c.length ≤ 1000000 := by have := Tr.length_le_sizes c; simp only [Tr.size] at hsz; omega
    have IH := Lib.hid (show ∀ t, t ∈ c → ∀ v w, Rep w w.heap.size t v → Calls Try.prog 38 #[v] w (MakesF t w) from fun t ht => ih t ht (by have := Tr.size_le_of_mem ht; simp only [Tr.size] at hsz; omega) (hkids t ht))
    obtain ⟨va, vb, hvd⟩ : ∃ va vb, valueD k n (c.map foldT) = (va, vb) := ⟨_, _, rfl⟩
    have VM : Hid (∀ (v row : Value) (w : World), Rep w w.heap.size (.mk k n s c) v → SliceS shFold w (fun b => b < w.heap.size) row (c.map foldT) → Calls Try.prog 66 #[v, row] w fun e w' => e = .returned (.tuple #[.int .i64 va, .bool vb]) ∧ inr .i64 va ∧ Below w.heap.size w w') := Lib.hid (fun v row w q1 q2 => by
      have := value_mem (.mk k n s c) hsz hx q1 q2
      simp only [Tr.kind, Tr.num, Tr.kids, hvd] at this
      exact this)
    have hE := foldT_eq (.mk k n s c)
    simp only [Tr.kind, Tr.num, Tr.name, Tr.kids, hvd] at hE
    have HE := Lib.hid hE
    clear ih hrow hr0 hE hvd
    unfold nodeV at *
    go_enter Try.func38, Try.ntmps38
    go_wp2_with fail
    have hb0 : Below w.heap.size w ((w.alloc (.cells #[.int .u8 k, .int .i64 n, .string s, .slice A c.length cap] 24)).alloc (.cells #[.int .u8 0, .int .i64 0, .string ⟨#[]⟩, .slice none 0 0, .int .i64 0, .bool false] 59)) := ((Below.refl _ w).alloc (Nat.le_refl _) _).alloc (by simp) _
    refine (each_mem c IH.out A cap _ HF.out.l1 HF.out.c1 hcl ((HR.out.below hb0).more (by simp; omega))).mono ?_
    rintro e w1 ⟨v1, rfl, hO, hb1⟩
    have hb1' : Below (w.heap.size + 2) ((w.alloc (.cells #[.int .u8 k, .int .i64 n, .string s, .slice A c.length cap] 24)).alloc (.cells #[.int .u8 0, .int .i64 0, .string ⟨#[]⟩, .slice none 0 0, .int .i64 0, .bool false] 59)) w1 := by simpa using hb1
    obtain ⟨q1, q2⟩ := two_boxes hb1'
    have hsz1 := hb1'.size
    simp only [World.size_alloc] at hsz1
    have hbw1 : Below w.heap.size w w1 := hb0.trans (hb1'.mono (by omega))
    have HO := Lib.hid hO
    have HB1 := Lib.hid hbw1
    have HQ1 := Lib.hid q1
    have HQ2 := Lib.hid q2
    obtain ⟨p0, p1, p2, p3⟩ := four_at q1
    clear hO hb1 hb1' q1 q2 hbw1 hb0
    go_wp2_with fail
    refine (VM.out _ _ _ (HV.out.at_ (Nat.le_refl _) HB1.out) (HO.out.slice.weak (fun b q => q.2))).mono ?_
    rintro e w2 ⟨rfl, hin, hb2⟩
    have hsz2 := hb2.size
    have HB2 := Lib.hid hb2
    have HIN := Lib.hid hin
    clear p0 p1 p2 p3 hb2 hin
    have q1' := (HB2.out.block _ (by omega)).trans HQ1.out
    have q2' := (HB2.out.block _ (by omega)).trans HQ2.out
    obtain ⟨p0, p1, p2, p3⟩ := four_at q1'
    cases vb with
    | true =>
      go_wp2_with fail
      refine (lit_mem va HIN.out _).mono ?_
      rintro e w3 ⟨v3, rfl, hr3, hb3⟩
      obtain ⟨A3, cap3, rfl, hf3, _⟩ := nodeOf hr3
      unfold nodeV at *
      have hsz3 := hb3.size
      have q2'' := (hb3.block _ (by omega)).trans q2'
      have rf := fun j => frozen_of_row w3 _ j _ _ q2''
      obtain ⟨r0, r1, r2, r3, r4, r5⟩ := six_at q2''
      have HR3 := Lib.hid hr3
      have HB3 := Lib.hid hb3
      have Q2 := Lib.hid q2''
      clear hr3 hb3 q2''
      go_wp2_with fail
      refine ret_fold rfl rfl (set6 _ _ _ _ _ _ Q2.out) rfl ?_
      have HE' : foldT (.mk k n s c) = (litT va, va, true) := by have := HE.out; simpa using this
      refine ⟨_, _, _, _, by rw [HE'], by rw [HE']; exact HIN.out, ?_, ?_⟩
      · rw [HE']
        refine RepP.keep (fun b q => ⟨by omega, by simp [World.setCell]; omega⟩) (fun b o q => ?_) _ HR3.out
        exact World.cell?_of_block ((heap_setCell_other _ _ _ _ (by simp; omega)).trans ((heap_setCell_other _ _ _ _ (by simp; omega)).trans ((heap_setCell_other _ _ _ _ (by simp; omega)).trans ((heap_setCell_other _ _ _ _ (by simp; omega)).trans ((heap_setCell_other _ _ _ _ (by simp; omega)).trans (heap_setCell_other _ _ _ _ (by simp; omega)))))))
      · exact ((((((HB1.out.trans ((HB2.out.mono (by omega)).trans (HB3.out.mono (by omega)))).setCell (by simp) _).setCell (by simp) _).setCell (by simp) _).setCell (by simp) _).setCell (by simp) _).setCell (by simp) _
    | false =>
      go_wp2_with fail
      refine (nodes_mem (c.map foldT) (by simpa using hcl) (ok := fun b => w.heap.size + 2 ≤ b ∧ b < w1.heap.size) (fun b q => by omega) (HO.out.slice.keep (fun b q => ⟨by have := q.1; simp at this; omega, q.2⟩) (fun b o q => HB2.out.cell (p := ⟨b, o, none⟩) q.2))).mono ?_
      rintro e w3 ⟨A3, cap3, rfl, hl3, hc3, hr3, hb3⟩
      have hsz3 := hb3.size
      have q1'' := (hb3.block _ (by omega)).trans q1'
      have q2'' := (hb3.block _ (by omega)).trans q2'
      have pf := fun j => frozen_of_row w3 _ j _ _ q1''
      have rf := fun j => frozen_of_row w3 _ j _ _ q2''
      clear p0 p1 p2 p3
      obtain ⟨p0, p1, p2, p3⟩ := four_at q1''
      obtain ⟨r0, r1, r2, r3, r4, r5⟩ := six_at q2''
      have HR3 := Lib.hid hr3
      have HB3 := Lib.hid hb3
      have Q2 := Lib.hid q2''
      clear hr3 hb3 q1'' q2''
      go_wp2_with fail
      refine ret_fold rfl rfl (set6 _ _ _ _ _ _ ((heap_setCell_other _ _ _ _ (by simp)).trans Q2.out)) rfl ?_
      have HE' : foldT (.mk k n s c) = (.mk k n s ((c.map foldT).map (fun x => x.1)), 0, false) := by have := HE.out; simpa using this
      refine ⟨_, _, _, _, by rw [HE'], by rw [HE']; show inr .i64 0; exact ⟨by decide, by decide⟩, ?_, ?_⟩
      · rw [HE']
        simp only [RepP]
        refine ⟨A3, cap3, by simp [nodeV], ⟨HF.out.k0, HF.out.k1, HF.out.n0, HF.out.n1, HF.out.s1, hl3, hc3⟩, RowP.keep (fun b q => ⟨by omega, by simp [World.setCell]; omega⟩) (fun b o q => ?_) _ HR3.out⟩
        exact World.cell?_of_block ((heap_setCell_other _ _ _ _ (by simp; omega)).trans ((heap_setCell_other _ _ _ _ (by simp; omega)).trans ((heap_setCell_other _ _ _ _ (by simp; omega)).trans ((heap_setCell_other _ _ _ _ (by simp; omega)).trans ((heap_setCell_other _ _ _ _ (by simp; omega)).trans ((heap_setCell_other _ _ _ _ (by simp; omega)).trans (heap_setCell_other _ _ _ _ (by simp; omega))))))))
      · exact (((((((HB1.out.trans ((HB2.out.mono (by omega)).trans (HB3.out.mono (by omega)))).setCell (by simp) _).setCell (by simp) _).setCell (by simp) _).setCell (by simp) _).setCell (by simp) _).setCell (by simp) _).setCell (by simp) _

theorem field0 (d0 d1 d2 d3 d4 d5 : Value) (w : World) : (Instr.field 59 (.agg #[d0, d1, d2, d3, d4, d5]) 0).run Try.prog w = .ok (.agg #[d0, d1, d2, d3]) w := by
  obtain ⟨i0, hi0, hz0, hz1, hz2⟩ := info_parts infoNode
  unfold Instr.field
  rw [Sem.run_bind, run_underlying st_constfold_folded, Result.andThen_ok]
  dsimp only
  rw [show fs_constfold_folded[0]? = some fd0 from by have := fd0_e; simpa using this]
  dsimp only
  simp only [asAgg, pure_bind]
  unfold part
  rw [fd0_t, fd0_o, Sem.run_bind, run_isAgg Try.underlying24, Result.andThen_ok, if_pos (show descAgg _ = true from rfl), Sem.run_bind, run_size hi0, Result.andThen_ok, hz1]
  rfl

set_option maxRecDepth 100000 in
set_option maxHeartbeats 2000000 in
/-- Expr hands back a tree in new memory -/
theorem expr_mem (t : Tr) (hsz : t.size ≤ 1000000) (v : Value) (w : World) (hr : Rep w w.heap.size t v) : Calls Try.prog 16 #[v] w (Makes (exprT t) w) := by
  obtain ⟨k, n, s, c⟩ := t
  have hr' := hr
  simp only [Rep] at hr'
  obtain ⟨A, cap, rfl, _, _⟩ := hr'
  have HV := Lib.hid hr
  clear hr
  unfold nodeV at *
  go_enter Try.func16, Try.ntmps16
  go_wp2_with fail
  have hb0 : Below w.heap.size w ((w.alloc (.cells #[.int .u8 k, .int .i64 n, .string s, .slice A c.length cap] 24)).alloc (.cells #[.int .u8 0, .int .i64 0, .string ⟨#[]⟩, .slice none 0 0] 24)) := ((Below.refl _ w).alloc (Nat.le_refl _) _).alloc (by simp) _
  refine (isExpr_any (.mk k n s c) _ _ (HV.out.at_ (Nat.le_refl _) hb0)).mono ?_
  rintro e w1 ⟨rfl, hb1⟩
  have hb1' : Below (w.heap.size + 2) ((w.alloc (.cells #[.int .u8 k, .int .i64 n, .string s, .slice A c.length cap] 24)).alloc (.cells #[.int .u8 0, .int .i64 0, .string ⟨#[]⟩, .slice none 0 0] 24)) w1 := by simpa using hb1
  obtain ⟨q1, q2⟩ := two_boxes hb1'
  have hsz1 := hb1'.size
  simp only [World.size_alloc] at hsz1
  have HB1 := Lib.hid (hb0.trans (hb1'.mono (by omega)))
  have HQ1 := Lib.hid q1
  have HQ2 := Lib.hid q2
  obtain ⟨p0, p1, p2, p3⟩ := four_at q1
  clear hb1 hb1' q1 q2 hb0
  cases hx : exprB (.mk k n s c) with
  | false =>
    have hT : exprT (.mk k n s c) = .mk k n s c := by unfold exprT; rw [if_neg (by rw [hx]; simp)]
    have HT := Lib.hid hT
    clear hT hx
    go_wp2_with fail
    refine (clone_any (.mk k n s c) _ _ (HV.out.at_ (Nat.le_refl _) HB1.out) hsz).mono ?_
    rintro e w2 ⟨v2, rfl, hr2, hb2⟩
    obtain ⟨A2, cap2, rfl, _, _⟩ := nodeOf hr2
    unfold nodeV at *
    have hsz2 := hb2.size
    have q2 := (hb2.block _ (by omega)).trans HQ2.out
    obtain ⟨r0, r1, r2, r3⟩ := four_at q2
    have rf := fun j => frozen_of_row w2 _ j _ _ q2
    have HR2 := Lib.hid hr2
    have HB2 := Lib.hid hb2
    have Q2 := Lib.hid q2
    clear hr2 hb2 q2 p0 p1 p2 p3
    go_wp2_with fail
    refine ret_node rfl rfl (set4 _ _ _ _ Q2.out) rfl ⟨_, rfl, ?_, ?_⟩
    · rw [HT.out]
      refine RepP.keep (fun b q => ⟨by omega, by simp [World.setCell]; omega⟩) (fun b o q => ?_) _ HR2.out
      exact World.cell?_of_block ((heap_setCell_other _ _ _ _ (by simp; omega)).trans ((heap_setCell_other _ _ _ _ (by simp; omega)).trans ((heap_setCell_other _ _ _ _ (by simp; omega)).trans (heap_setCell_other _ _ _ _ (by simp; omega)))))
    · exact ((((HB1.out.trans (HB2.out.mono (by omega))).setCell (by simp) _).setCell (by simp) _).setCell (by simp) _).setCell (by simp) _
  | true =>
    have hT : exprT (.mk k n s c) = (foldT (.mk k n s c)).1 := by unfold exprT; rw [if_pos hx]
    have HT := Lib.hid hT
    have HX := Lib.hid hx
    clear hT hx
    go_wp2_with fail
    refine (fold_mem (.mk k n s c) hsz HX.out _ _ (HV.out.at_ (Nat.le_refl _) HB1.out)).mono ?_
    rintro e w2 ⟨d0, d1, d2, d3, rfl, _, hr2, hb2⟩
    obtain ⟨A2, cap2, hv2, _, _⟩ := nodeOf hr2
    simp only [nodeV, Value.agg.injEq, Array.mk.injEq, List.cons.injEq, and_true] at hv2
    obtain ⟨rfl, rfl, rfl, rfl⟩ := hv2
    have hsz2 := hb2.size
    have q2 := (hb2.block _ (by omega)).trans HQ2.out
    obtain ⟨r0, r1, r2, r3⟩ := four_at q2
    have rf := fun j => frozen_of_row w2 _ j _ _ q2
    have HR2 := Lib.hid hr2
    have HB2 := Lib.hid hb2
    have Q2 := Lib.hid q2
    clear hr2 hb2 q2 p0 p1 p2 p3
    go_wp2_with fail
    rw [field0, Result.andThen_ok]
    go_wp2_with fail
    refine ret_node rfl rfl (set4 _ _ _ _ Q2.out) rfl ⟨_, rfl, ?_, ?_⟩
    · rw [HT.out]
      refine RepP.keep (fun b q => ⟨by omega, by simp [World.setCell]; omega⟩) (fun b o q => ?_) _ HR2.out
      exact World.cell?_of_block ((heap_setCell_other _ _ _ _ (by simp; omega)).trans ((heap_setCell_other _ _ _ _ (by simp; omega)).trans ((heap_setCell_other _ _ _ _ (by simp; omega)).trans (heap_setCell_other _ _ _ _ (by simp; omega)))))
    · exact ((((HB1.out.trans (HB2.out.mono (by omega))).setCell (by simp) _).setCell (by simp) _).setCell (by simp) _).setCell (by simp) _

end Go.Proofs.Ytlpgapmbajblmaa
