/- The reference's Copy: a copy in new memory, in blocks of cells that no string shares. -/
import Derived.Test.YtlpgapmbajblmaaNodeSh
import Derived.Test.YtlpgapmbajblmaaSrl
namespace Go.Proofs.Ytlpgapmbajblmaa
open Go.RowKit Go.Shelf

/-- a block of cells that no string shares -/
def Cells (w : World) (b : Nat) : Prop := ∃ arr ty, w.heap[b]? = some (.cells arr ty (0, 0))
theorem Cells.of {w w' : World} {b : Nat} (h : Cells w b) (e : w'.heap[b]? = w.heap[b]?) : Cells w' b := by
  obtain ⟨arr, ty, q⟩ := h
  exact ⟨arr, ty, e.trans q⟩
theorem Cells.set {w : World} {b : Nat} (h : Cells w b) (p : Addr) (v : Value) : Cells (w.setCell p v) b := by
  obtain ⟨arr, ty, q⟩ := h
  obtain ⟨c, o, sp⟩ := p
  by_cases e : b = c
  · subst e
    exact ⟨_, ty, by simp only [World.setCell, Array.getElem?_modify, if_true, q, Option.map_some]; rfl⟩
  · exact ⟨arr, ty, (heap_setCell_other _ _ _ _ e).trans q⟩
theorem World.heap_alloc_old' (w : World) (o : Obj) {b : Nat} (h : b < w.heap.size) : (w.alloc o).heap[b]? = w.heap[b]? := Below.heap_alloc _ _ _ h

/-- the slice value v is a row of the call's own that reads as the trees; all blocks are cells that no string shares -/
def OwnT (w : World) (base : Nat) (v : Value) (ts : List Tr) : Prop :=
  ∃ xs, w.ownsRow base 24 4 v ts.length xs ∧ CellsP w (fun b => base ≤ b ∧ b < w.heap.size ∧ Cells w b ∧ v.ownBlock ≠ some b) ts xs
theorem OwnT.nil (w : World) (base : Nat) : OwnT w base (.slice none 0 0) [] := ⟨[], World.ownsRow_nil _ _ _ _, by simp [CellsP]⟩
theorem OwnT.lt {w : World} {base : Nat} {v : Value} {ts : List Tr} (h : OwnT w base v ts) : ∀ g, v.ownBlock = some g → base ≤ g ∧ g < w.heap.size := by
  obtain ⟨xs, ho, _⟩ := h
  exact ho.lt
theorem OwnT.below {w w' : World} {base : Nat} {v : Value} {ts : List Tr} (h : OwnT w base v ts) (hb : Below w.heap.size w w') : OwnT w' base v ts := by
  obtain ⟨xs, ho, hc⟩ := h
  have hs := hb.size
  exact ⟨xs, ho.kept (grownBy_of_below hb none) (by cases hv : v.ownBlock <;> simp), hc.keep (fun b hb' => ⟨hb'.1, by omega, hb'.2.2.1.of (hb.block b hb'.2.1), hb'.2.2.2⟩) (fun b o hb' => hb.cell (p := ⟨b, o, none⟩) hb'.2.1)⟩
theorem OwnT.drew {w : World} {base : Nat} {v : Value} {ts : List Tr} (h : OwnT w base v ts) : OwnT w.drew base v ts := h.below (Below.refl _ w).drew
theorem OwnT.setCell {w : World} {base : Nat} {v : Value} {ts : List Tr} (h : OwnT w base v ts) {p : Addr} (hp : p.block < base) (u : Value) : OwnT (w.setCell p u) base v ts := by
  obtain ⟨cs, ho, hc⟩ := h
  refine ⟨cs, ⟨ho.1, ?_⟩, hc.keep (fun b hb' => ⟨hb'.1, by simpa [World.setCell] using hb'.2.1, hb'.2.2.1.set _ _, hb'.2.2.2⟩) (fun b o hb' => World.cell?_of_block (Below.heap_setCell _ _ _ _ (show b ≠ p.block by omega)))⟩
  rcases ho.2 with h0 | ⟨g, cap, cur, hv, hb, hg, r⟩
  · exact .inl h0
  · exact .inr ⟨g, cap, cur, hv, hb, (Below.heap_setCell _ _ _ _ (by omega)).trans hg, r⟩
theorem OwnT.row {w : World} {base : Nat} {v : Value} {ts : List Tr} (h : OwnT w base v ts) :
    ∃ (A : Option Addr) (cap : Nat), v = .slice A ts.length cap ∧ ts.length ≤ cap ∧ cap ≤ 9223372036854775807 ∧ RowP w (fun b => base ≤ b ∧ b < w.heap.size ∧ Cells w b) ts A 0 := by
  obtain ⟨xs, ho, hc⟩ := h
  rcases ho.2 with ⟨rfl, h0⟩ | ⟨g, cap, cur, rfl, hb, hg, hnc, hcm, hcs, htake⟩
  · have : ts = [] := List.eq_nil_of_length_eq_zero h0
    subst this
    exact ⟨none, 0, rfl, Nat.le_refl _, by omega, by simp [RowP]⟩
  · have hlt := (Array.getElem?_eq_some_iff.1 hg).1
    refine ⟨some ⟨g, 0, none⟩, cap, rfl, hnc, by simpa [maxLen] using hcm, rowP_of fun j hj => ?_⟩
    obtain ⟨c0, c1, c2, c3, e0, e1, e2, e3, hr⟩ := hc.at_ j hj
    have hcell : ∀ m u, xs[m]? = some u → w.cell? ⟨g, m, none⟩ = some u := by
      intro m u hu
      have := ho.cells (g := g) rfl m u hu
      rwa [addr_add, Nat.zero_add] at this
    refine ⟨g, 0, c0, c1, c2, c3, rfl, ⟨hb, hlt, _, _, hg⟩, ?_, ?_, ?_, ?_, hr.weak fun b hb' => ⟨hb'.1, hb'.2.1, hb'.2.2.1⟩⟩
    · simpa using hcell _ _ e0
    · simpa using hcell _ _ e1
    · simpa using hcell _ _ e2
    · simpa using hcell _ _ e3
theorem nodeV4 {w : World} {ok : Nat → Prop} {t : Tr} {c0 c1 c2 c3 : Value} (h : RepP w ok t (.agg #[c0, c1, c2, c3])) : ∀ u ∈ [c0, c1, c2, c3], u.oneCell' = true := by
  intro u hu
  exact shNode.one (w := w) (ok := ok) (x := t) h u hu
/-- append(v, x) of one node that lies in a block of its own -/
theorem append_nodeT {ty : TypeId} {W : World} {base : Nat} {v : Value} {ts : List Tr} {t : Tr} {g : Nat} {c0 c1 c2 c3 : Value} (hO : OwnT W base v ts)
    (hg : W.heap[g]? = some (.cells #[c0, c1, c2, c3] 24 (0, 0))) (hr : RepP W (fun b => base ≤ b ∧ b < W.heap.size ∧ Cells W b ∧ v.ownBlock ≠ some b) t (.agg #[c0, c1, c2, c3])) (hl : ts.length + 1 ≤ 1000000) (hbase : base ≤ W.heap.size) :
    ∃ v' w', (Builtin.append_ #[22, 22] ty #[v, .slice (some ⟨g, 0, none⟩) 1 1]).run Try.prog W = .ok v' w' ∧ OwnT w' base v' (ts ++ [t]) ∧ W.grownBy w' v.ownBlock ∧ (v'.ownBlock = v.ownBlock ∨ v'.ownBlock = some W.heap.size) := by
  obtain ⟨i0, hi0, hz0, hz1, hz2⟩ := info_parts infoNode
  obtain ⟨cs, hown, hc⟩ := hO
  obtain ⟨v', w', hrun, hown', hg', _, hat⟩ := run_append_own_at (P := Try.prog) W base 22 ty 24 i0 _ 4 56 undNodes hi0 hz0 hz1 hz2 rfl (by decide) v ts.length cs hown ⟨g, 0, none⟩ 1 1 [c0, c1, c2, c3] rfl (news_block hg) (nodeV4 hr) (by simp only [maxLen]; omega) (by omega) hbase
  refine ⟨v', w', hrun, ⟨cs ++ [c0, c1, c2, c3], by simpa using hown', ?_⟩, hg', hat⟩
  have hsz' := hg'.size
  refine (hc.snoc hr).keep (fun b hb => ⟨hb.1, by omega, hb.2.2.1.of (hg'.block b hb.2.1 (fun e => hb.2.2.2 e.symm)), fun e => ?_⟩) (fun b o hb => World.cell?_of_block (hg'.block b hb.2.1 (fun e => hb.2.2.2 e.symm)))
  rcases hat with e' | e'
  · rw [e'] at e; exact hb.2.2.2 e
  · rw [e'] at e
    simp only [Option.some.injEq] at e
    omega

/-- a call that makes a new node: it reads as t, in new blocks of cells that no string shares -/
def MakesT (t : Tr) (w : World) (e : Ending) (w' : World) : Prop :=
  ∃ v', e = .returned v' ∧ RepP w' (fun b => w.heap.size ≤ b ∧ b < w'.heap.size ∧ Cells w' b) t v' ∧ Below w.heap.size w w'

set_option maxRecDepth 100000 in
set_option maxHeartbeats 3000000 in
theorem copy_typed (t : Tr) : ∀ (v : Value) (w : World), Rep w w.heap.size t v → t.size ≤ 1000000 → Calls Try.prog 15 #[v] w (MakesT t w) := by
  have hmo : Try.prog.follows .mixedOrders = true := by kernel_rfl
  have hfn : ∀ f, Fence.wide.fn f := fun _ => trivial
  have hdp : Fence.wide.depth.isSome = false := rfl
  induction t using Tr.ind with
  | h k n s c ih =>
    intro v w hr hsz
    simp only [Rep] at hr
    obtain ⟨A, cap, rfl, hf, hrow⟩ := hr
    have hl := hf.l1
    have hc := hf.c1
    have HF := Lib.hid hf
    have HR := Lib.hid hrow
    have IH := Lib.hid ih
    clear hrow ih hf
    unfold nodeV
    simp only [Tr.size] at hsz
    have hcl := Tr.length_le_sizes c
    go_enter Try.func15, Try.ntmps15
    go_wp2_with fail
    go_loopw [4] (fun s4 wr => ∃ (i : Nat) (v : Value), i ≤ c.length ∧ s4 = .int .i64 i ∧ OwnT wr (w.heap.size + 3) v (c.take i) ∧ wr.heap[w.heap.size + 2]? = some (.cells #[.int .u8 k, .int .i64 n, .string s, v] 24 (0, 0)) ∧
        Below (w.heap.size + 2) ((w.alloc (.cells #[.int .u8 k, .int .i64 n, .string s, .slice A c.length cap] 24)).alloc (.cells #[.int .u8 0, .int .i64 0, .string ⟨#[]⟩, .slice none 0 0] 24)) wr)
      (fun s4 _ => c.length - (intOf s4).toNat)
    case atStart =>
      refine ⟨0, _, Nat.zero_le _, rfl, OwnT.nil _ _, ?_, ?_⟩
      · have := heap_alloc_new ((w.alloc (.cells #[.int .u8 k, .int .i64 n, .string s, .slice A c.length cap] 24)).alloc (.cells #[.int .u8 0, .int .i64 0, .string ⟨#[]⟩, .slice none 0 0] 24)) (.cells #[.int .u8 k, .int .i64 n, .string s, .slice none 0 0] 24)
        simpa using this
      · exact (Below.refl _ _).alloc (by simp) _
    case round =>
      obtain ⟨i, v, hi, rfl, hown, hout, hb⟩ := hrel
      have hbb : Below w.heap.size w wr := (((Below.refl _ w).alloc (Nat.le_refl _) _).alloc (by simp) _).trans (hb.mono (by omega))
      have hsz3 : w.heap.size + 3 ≤ wr.heap.size := by have := (Array.getElem?_eq_some_iff.1 hout).1; omega
      obtain ⟨q1, q2⟩ := two_boxes hb
      have fk : wr.cell? ⟨w.heap.size, 3, none⟩ = some (.slice A c.length cap) := cell_of_row _ _ 3 _ _ _ q1
      have fo : wr.cell? ⟨w.heap.size + 2, 3, none⟩ = some v := cell_of_row _ _ 3 _ _ _ hout
      by_cases hlt : i < c.length
      · obtain ⟨b, off, A', cap', rfl, hbB, h0, h1, h2, h3, hk⟩ := (HR.out.below hbb).kid i hlt
        have hmem : c[i] ∈ c := List.getElem_mem hlt
        have hsz1 := Tr.size_le_of_mem hmem
        have HO := Lib.hid hown
        have HLT := Lib.hid hown.lt
        have HQ2 := Lib.hid q2
        have HOUT := Lib.hid hout
        have hlen1 : (c.take i).length + 1 ≤ 1000000 := by simp; omega
        clear hown q1 q2 hout
        go_wp2_with fail
        refine (wpIn_wide (n := 0)).1 (serial [9, 11] hmo ?_)
        simp only [List.size_toArray, List.length_cons, List.length_nil, Nat.reduceAdd]
        refine takeF (v := ?_) hfn (by kernel_rfl) (i := 0) rfl (by kernel_rfl) (wanted_none rfl) (fun w' => ?_) ?_
        rotate_left
        · simp [execOp, go_sem]; exact rfl
        simp only [Act.put, List.setIfInBounds_toArray, List.set_cons_succ, List.set_cons_zero]
        refine takeL (via := []) (v := ?_) hfn (by kernel_rfl) (i := 1) rfl (by kernel_rfl) (wanted_none rfl) (fun w' hbk => ?_) ?_
        rotate_left
        · simp [execOp, go_sem, keepc hbk fo]; exact rfl
        simp only [Act.put, List.setIfInBounds_toArray, List.set_cons_succ, List.set_cons_zero]
        refine takeF (v := ?_) hfn (by kernel_rfl) (i := 2) rfl (by kernel_rfl) (wanted_none rfl) (fun w' => ?_) ?_
        rotate_left
        · simp [execOp, go_sem]; exact rfl
        simp only [Act.put, List.setIfInBounds_toArray, List.set_cons_succ, List.set_cons_zero]
        refine takeL (via := [[9, 7, 6, 5]]) (v := ?_) hfn (by kernel_rfl) (i := 3) rfl (by kernel_rfl) (wanted_none rfl) (fun w' hbk => ?_) ?_
        rotate_left
        · simp [execOp, go_sem, keepc hbk fk]; exact rfl
        simp only [Act.put, List.setIfInBounds_toArray, List.set_cons_succ, List.set_cons_zero]
        refine takeF (v := ?_) hfn (by kernel_rfl) (i := 4) rfl (by kernel_rfl) (wanted_none rfl) (fun w' => ?_) ?_
        rotate_left
        · simp [execOp, go_sem]; exact rfl
        simp only [Act.put, List.setIfInBounds_toArray, List.set_cons_succ, List.set_cons_zero]
        refine takeF (v := ?_) hfn (by kernel_rfl) (i := 5) rfl (by kernel_rfl) (wanted_none rfl) (fun w' => ?_) ?_
        rotate_left
        · simp [execOp, go_sem, hlt]; exact rfl
        simp only [Act.put, List.setIfInBounds_toArray, List.set_cons_succ, List.set_cons_zero]
        refine takeL (via := [[9, 7]]) (v := ?_) hfn (by kernel_rfl) (i := 6) rfl (by kernel_rfl) (wanted_none rfl) (fun w' hbk => ?_) ?_
        rotate_left
        · simp [execOp, go_sem, keepc hbk h0, keepc hbk h1, keepc hbk h2, keepc hbk h3]; exact rfl
        simp only [Act.put, List.setIfInBounds_toArray, List.set_cons_succ, List.set_cons_zero]
        refine runC (f := ?_) (args := ?_) hfn hdp (by kernel_rfl) (j := 7) rfl (by kernel_rfl) (wanted_none rfl) ?_ ?_
        rotate_left; rotate_left
        · simp [go_sem]; (refine And.intro ?_ ?_ <;> exact rfl)
        refine (callsIn_wide.2 (IH.out _ hmem _ _ (hk.at_ hbb.size (Below.refl _ wr).drew) (by omega))).mono ?_
        rintro e w1 ⟨v1, rfl, hr1, hb1⟩
        obtain ⟨A1, cap1, rfl, hf1, _⟩ := nodeOf hr1
        unfold nodeV at *
        refine ⟨_, rfl, fun _ => hb1, ?_⟩
        simp only [Act.put, List.setIfInBounds_toArray, List.set_cons_succ, List.set_cons_zero]
        refine runV (v := ?_) (w1 := ?_) hfn (by kernel_rfl) (j := 8) rfl (by kernel_rfl) (wanted_none rfl) ?_ (fun _ => ?_) ?_
        rotate_left; rotate_left
        · simp [execOp, go_sem]; (refine And.intro ?_ ?_ <;> exact rfl)
        · exact (Below.refl _ _).alloc (Nat.le_refl _) _
        intro hb8
        simp only [Act.put, List.setIfInBounds_toArray, List.set_cons_succ, List.set_cons_zero]
        have hs1 := hb1.size
        replace hs1 : wr.heap.size ≤ w1.heap.size := hs1
        obtain ⟨v2, w2, hrun, hO2, hg2, hat2⟩ := append_nodeT (ty := 22) (g := w1.heap.size) ((HO.out.drew.below hb1).below (hb8 rfl)) (heap_alloc_new w1 _) (t := c[i]) (RepP.keep (fun b hb' => ⟨Nat.le_trans hsz3 hb'.1, by have := hb'.2.1; simp; omega, hb'.2.2.of (World.heap_alloc_old' w1 _ hb'.2.1), fun e => by have := (HLT.out b e).2; have : wr.heap.size ≤ b := hb'.1; omega⟩) (fun b o hb' => World.cell?_alloc_lt w1 _ ⟨b, o, none⟩ hb'.2.1) _ hr1) hlen1 (by simp; omega)
        refine runV hfn (by kernel_rfl) (j := 9) rfl (by kernel_rfl) (wanted_none rfl) (exec_append rfl hrun) (fun e => by cases e) (fun _ => ?_)
        simp only [Act.put, List.setIfInBounds_toArray, List.set_cons_succ, List.set_cons_zero]
        obtain ⟨A2, n2, cap2, hv2⟩ : ∃ (A : Option Addr) (n cap : Nat), v2 = .slice A n cap := by obtain ⟨A2, cap2, hv2, _⟩ := hO2.row; exact ⟨_, _, _, hv2⟩
        subst hv2
        have hcells : w2.heap[w.heap.size + 2]? = some (.cells #[.int .u8 k, .int .i64 n, .string s, v] 24 (0, 0)) := (hg2.block _ (by simp; omega) (fun e => by have := (HLT.out _ e.symm).1; omega)).trans (((hb8 rfl).block _ (by omega)).trans ((hb1.block _ (show w.heap.size + 2 < wr.heap.size by omega)).trans HOUT.out))
        have fo2 : w2.cell? ⟨w.heap.size + 2, 3, none⟩ = some v := cell_of_row _ _ 3 _ _ _ hcells
        have ff2 := frozen_of_row _ _ 3 _ _ hcells
        refine takeF (v := ?_) hfn (by kernel_rfl) (i := 10) rfl (by kernel_rfl) (wanted_none rfl) (fun w' => ?_) ?_
        rotate_left
        · simp [execOp, go_sem]; exact rfl
        simp only [Act.put, List.setIfInBounds_toArray, List.set_cons_succ, List.set_cons_zero]
        refine runS hfn (by kernel_rfl) (j := 11) rfl (by kernel_rfl) (wanted_none rfl) (by simp [execOp, go_sem, fo2, ff2]; exact rfl) (fun e => by cases e) ?_
        simp only [Act.put]
        refine doneK (by kernel_rfl) ?_
        go_wp2_with fail
        have HT := Lib.hid (Tr.take_snoc c i hlt)
        rw [← HT.out] at hO2
        have hbx : Below (w.heap.size + 2) wr w2 := ((((Below.refl _ wr).drew).trans (hb1.mono (show w.heap.size + 2 ≤ wr.heap.size by omega))).trans ((hb8 rfl).mono (by omega))).grown hg2 (by simp; omega) (fun g e => by have := (HLT.out g e).1; omega)
        have hby := hb.trans hbx
        go_roundw
        case rel => exact ⟨i + 1, _, by omega, by go_num, hO2.setCell (by simp) _, heap_setCell_same _ _ 3 _ _ _ hcells, hby.setCell (by simp) _⟩
        case measure => simp [intOf]; omega
      · obtain rfl : i = c.length := by omega
        rw [List.take_length] at hown
        obtain ⟨A2, cap2, rfl, hcap2, hcm2, hrow2⟩ := hown.row
        obtain ⟨p0, p1, p2, p3⟩ := four_at hout
        obtain ⟨r0, r1, r2, r3⟩ := four_at q2
        have rf := fun j => frozen_of_row wr _ j _ _ q2
        have HROW2 := Lib.hid hrow2
        have Q2 := Lib.hid q2
        clear hown hrow2 q1 q2 hout
        go_wp2_with fail
        refine ret_node rfl rfl (set4 _ _ _ _ Q2.out) rfl ⟨_, rfl, ?_, ?_⟩
        · simp only [RepP]
          refine ⟨A2, cap2, rfl, ⟨HF.out.k0, HF.out.k1, HF.out.n0, HF.out.n1, HF.out.s1, hcap2, hcm2⟩, RowP.keep (fun b hb' => ⟨by omega, by simp [World.setCell]; omega, (((hb'.2.2.set _ _).set _ _).set _ _).set _ _⟩) (fun b o hb' => ?_) c HROW2.out⟩
          exact World.cell?_of_block ((heap_setCell_other _ _ _ _ (by simp; omega)).trans ((heap_setCell_other _ _ _ _ (by simp; omega)).trans ((heap_setCell_other _ _ _ _ (by simp; omega)).trans (heap_setCell_other _ _ _ _ (by simp; omega)))))
        · exact (((hbb.setCell (by simp) _).setCell (by simp) _).setCell (by simp) _).setCell (by simp) _

end Go.Proofs.Ytlpgapmbajblmaa
