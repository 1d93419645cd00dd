/- Reports in memory: the row of faults is the run's own and apart from its elements. -/
import Derived.Test.YtjikokmhknnnoaaSc2
import Derived.Test.YtjikokmhknnnoaaSrl
import Derived.Test.YtjikokmhknnnoaaShape
namespace Go.Proofs.Ytjikokmhknnnoaa
open Go.RowKit Go.Shelf

theorem Ext.okGh {w w' : World} {ok ok' : Nat → Nat → Prop} (hB : ∀ b o, ok b o → ok' b o) (hk : ∀ b o, ok b o → w'.cell? ⟨b, o, none⟩ = w.cell? ⟨b, o, none⟩) (hs : w.heap.size ≤ w'.heap.size) : Ext (okGh ok) w (okGh ok') w' :=
  ⟨hB, fun _ _ q => (by cases q), fun _ _ q => (by cases q), hk, fun _ (q : False) => q.elim, fun _ _ (q : False) => q.elim, fun _ _ _ => rfl, fun _ (q : False) => q.elim, hs⟩
theorem val.move {w w' : World} {ok ok' : Nat → Nat → Prop} {d : D} {v : Value} (hB : ∀ b o, ok b o → ok' b o) (hk : ∀ b o, ok b o → w'.cell? ⟨b, o, none⟩ = w.cell? ⟨b, o, none⟩) (hs : w.heap.size ≤ w'.heap.size) (h : val w (okGh ok) d v) : val w' (okGh ok') d v := h.ext (.okGh hB hk hs)
/-- a contract over data, where the data lie in known cells: the answer lies there or in new blocks -/
theorem calls_of_fn {k : Nat} {args : List D} {d : D} (h : fn EV k args = some d) {ok : Nat → Nat → Prop} {w : World} (hok : ∀ b o, ok b o → b < w.heap.size) {vs : List Value} (hv : vals w (okGh ok) args vs) :
    Calls Try.prog k vs.toArray w fun e w' => ∃ v g', e = .returned v ∧ Below w.heap.size w w' ∧ val w' g' d v ∧ ∀ b o, g'.ok b o → ok b o ∨ (w.heap.size ≤ b ∧ b < w'.heap.size) := by
  refine (fn_sound EV EV_ok h (okGh ok) vs w ⟨hok, fun b (q : False) => q.elim, fun _ _ (q : False) => q.elim⟩ hv).mono ?_
  rintro e w' ⟨v, g', rfl, hb, hg, hd⟩
  exact ⟨v, g', rfl, hb, hd, hg.ok2⟩
section
variable {ops : Array Oper}
theorem wanted_none {o : Oper} {t : Array Value} (hg : o.guard = none) : Region.wanted o (yielded ops t) = true := by simp [Region.wanted, hg]
end
theorem infoIntM : (Try.prog.info? 3).map (fun i => (i.zero, i.size, i.bytes)) = some (some (.int .i64 0), 1, 8) := by kernel_rfl
theorem undIntsM : Try.prog.underlying 48 = some (.slice 3) := by kernel_rfl
theorem infoFt : (Try.prog.info? 51).map (fun i => (i.zero, i.size, i.bytes)) = some (some (.agg #[.int .i64 0, .slice none 0 0, .int .i64 0, .string ⟨#[]⟩]), 4, 56) := by kernel_rfl
theorem undFts : Try.prog.underlying 40 = some (.slice 51) := by kernel_rfl
theorem IntsAt.of_own' {w : World} {base : Nat} {e : TypeId} {v : Value} {p : List Int} (h : w.ownsRow base e 1 v p.length (p.map (Value.int .i64))) : IntsAt w (fun b => base ≤ b ∧ b < w.heap.size) v p := by
  rcases h.2 with ⟨rfl, h0⟩ | ⟨g, cap, cur, rfl, hb, hg, hnc, hcm, hcs, htake⟩
  · have : p = [] := List.eq_nil_of_length_eq_zero h0
    subst this
    exact IntsAt.nil _ _
  · have hlt := (Array.getElem?_eq_some_iff.1 hg).1
    refine ⟨some ⟨g, 0, none⟩, cap, rfl, hnc, by simpa [maxLen] using hcm, (fun e => by cases e), fun j hj => ⟨g, 0, rfl, ⟨hb, hlt⟩, ?_⟩⟩
    have := h.cells (g := g) rfl j (.int .i64 p[j]) (by simp [hj])
    rwa [addr_add] at this
def MakesI (p : List Int) (w : World) (e : Ending) (w' : World) : Prop :=
  ∃ v', e = .returned v' ∧ IntsAt w' (fun b => w.heap.size ≤ b ∧ b < w'.heap.size) v' p ∧ Below w.heap.size w w'
set_option maxHeartbeats 400000 in
theorem sclone_mem (v : Value) (p : List Int) (w : World) (h : ∃ (A : Option Addr) (cap : Nat), v = .slice A p.length cap ∧ ∀ (j : Nat) (h : j < p.length), ∃ b off, A = some ⟨b, off, none⟩ ∧ b < w.heap.size ∧ w.cell? ⟨b, off + j, none⟩ = some (.int .i64 p[j])) (hp : p.length ≤ 1000000) : Calls Try.prog 45 #[v] w (MakesI p w) := by
  obtain ⟨A, cap, rfl, hc⟩ := h
  have HC := Lib.hid hc
  clear hc
  have hnil := fun (W : World) (a : Option Addr) (n c : Nat) => Lib.run_eql_slice_nil (P := Try.prog) W _ _ a n c 0 0 undIntsM
  cases A with
  | none =>
    have hp0 : p = [] := by
      cases p with
      | nil => rfl
      | cons x r => obtain ⟨b, off, e, _⟩ := HC.out 0 (by simp); cases e
    subst hp0
    go_enter Try.func45, Try.ntmps45
    go_wp2_with fail
    go_ret
    exact ⟨_, rfl, IntsAt.nil _ _, Below.refl _ _⟩
  | some ad =>
    obtain ⟨i0, hi0, hz0, hz1, hz2⟩ := info_parts infoIntM
    have hown : (w.alloc (.cells #[] 3)).ownsRow w.heap.size 3 1 (.slice (some ⟨w.heap.size, 0, none⟩) 0 0) 0 [] := World.ownsRow_made w #[] 0 (Nat.le_refl _) (by simp [maxLen]) rfl
    have hnews : ∀ j u, (p.map (Value.int .i64))[j]? = some u → (w.alloc (.cells #[] 3)).cell? (ad.add j) = some u := by
      intro j u hu
      rw [List.getElem?_map] at hu
      have hj : j < p.length := by
        rcases Nat.lt_or_ge j p.length with hlt | hge
        · exact hlt
        · rw [List.getElem?_eq_none hge] at hu; cases hu
      obtain ⟨b, off, e, hb, hcell⟩ := HC.out j hj
      cases e
      rw [List.getElem?_eq_getElem hj] at hu
      cases hu
      have hadd : (⟨b, off, none⟩ : Addr).add j = ⟨b, off + j, none⟩ := by unfold Addr.add; split <;> simp_all
      rw [hadd]
      exact (World.cell?_alloc_lt w _ ⟨b, off + j, none⟩ hb).trans hcell
    have HN := Lib.hid hnews
    have HO := Lib.hid hown
    clear hnews hown
    go_enter Try.func45, Try.ntmps45
    go_wp2_with (at_builtin; (refine wpList_append_own_at _ rfl (.tmp 5) (.tmp 6) _ rfl w.heap.size 3 i0 _ 1 8 undIntsM hi0 hz0 hz1 hz2 rfl (by omega) _ 0 [] rfl HO.out ad p.length cap (p.map (Value.int .i64)) rfl (by simp) HN.out (by intro u hu; obtain ⟨x, _, rfl⟩ := List.mem_map.1 hu; rfl) (by simp only [maxLen]; omega) (by omega) (by simp) ?_); intro v2 w2 hO2 hg2 _ _)
    go_ret
    have hb2 : Below w.heap.size w w2 := ((Below.refl _ w).alloc (Nat.le_refl _) _).grown hg2 (by simp) (fun k e => by cases e; exact Nat.le_refl _)
    simp only [Nat.zero_add, List.nil_append] at hO2
    exact ⟨_, rfl, IntsAt.of_own' hO2, hb2⟩


theorem sclone_val (path : List Int) (hpl : path.length ≤ 1000000) {ok : Nat → Nat → Prop} {w : World} (hok : ∀ b o, ok b o → b < w.heap.size) {vp : Value} (h : val w (okGh ok) (sl 1 (path.map dI)) vp) : Calls Try.prog 45 #[vp] w (MakesI path w) := by
  obtain ⟨A, cap, cs, hv, _, _, _, _, _, hr, hn, hc⟩ := val_slice (show val w (okGh ok) (.slice .imm (if (path.map dI).isEmpty then 0 else 1) (path.map dI)) vp from h)
  simp only [List.length_map] at hv hr hn hc
  refine sclone_mem vp path w ⟨A, cap, hv, fun j hj => ?_⟩ hpl
  have hne : (if (path.map dI).isEmpty = true then 0 else 1) = 1 := sl_n (j := j) (by simpa using hj)
  obtain ⟨b, off, hA, hcl⟩ := hc j hj
  have hR := hr j hj
  rw [List.getElem_map] at hR
  rw [hne] at hcl
  have he : ∀ cs', R w (okGh ok) (.int .i64 path[j]) cs' → cs' = [.int .i64 path[j]] := fun cs' h => by cases h; rfl
  have e := he _ hR
  have q := hcl 0 (.int .i64 path[j]) (by rw [e]; rfl)
  exact ⟨b, off, hA, hok _ _ q.1, by simpa using q.2⟩
theorem path_inr {w : World} {g : Gh} {path : List Int} {vp : Value} (h : val w g (sl 1 (path.map dI)) vp) : ∀ i ∈ path, inr .i64 i := by
  intro i hi
  obtain ⟨A, cap, cs, hv, _, _, _, _, _, hr, hn, hc⟩ := val_slice (show val w g (.slice .imm (if (path.map dI).isEmpty then 0 else 1) (path.map dI)) vp from h)
  obtain ⟨j, hj, rfl⟩ := List.getElem_of_mem hi
  have hR := hr j (by simpa using hj)
  rw [List.getElem_map] at hR
  have key : ∀ cs', R w g (.int .i64 path[j]) cs' → inr .i64 path[j] := fun cs' h => by
    cases h with
    | int _ _ h => exact h
  exact key _ hR

def shFt : Sh Ft where
  n := 4
  R := fun w ok x cs => inr .i64 x.proc ∧ inr .i64 x.err ∧ x.name.size ≤ 9223372036854775807 ∧ ∃ vp, cs = [.int .i64 x.proc, vp, .int .i64 x.err, .string x.name] ∧ IntsAt w ok vp x.path ∧ ∀ i ∈ x.path, inr .i64 i
  len := fun h => by obtain ⟨_, _, _, vp, rfl, _⟩ := h; rfl
  one := fun h u hu => by
    obtain ⟨_, _, _, vp, rfl, ⟨A, cap, rfl, _⟩, _⟩ := h
    simp only [List.mem_cons, List.not_mem_nil, or_false] at hu
    rcases hu with rfl | rfl | rfl | rfl <;> rfl
  keep := fun hB hk h => by
    obtain ⟨h1, h2, h3, vp, rfl, h4, h5⟩ := h
    exact ⟨h1, h2, h3, vp, rfl, h4.keep hB hk, h5⟩
theorem append_ft {ty : TypeId} {W : World} {base : Nat} {v : Value} {xs : List Ft} {x : Ft} {g : Nat} {c0 c1 c2 c3 : Value} (hO : OwnS shFt 51 W base v xs)
    (hg : W.heap[g]? = some (.cells #[c0, c1, c2, c3] 51 (0, 0))) (hr : shFt.R W (fun b => base ≤ b ∧ b < W.heap.size ∧ v.ownBlock ≠ some b) x [c0, c1, c2, c3]) (hl : xs.length + 1 ≤ 1000001) (hbase : base ≤ W.heap.size) :
    ∃ v' w', (Builtin.append_ #[40, 40] ty #[v, .slice (some ⟨g, 0, none⟩) 1 1]).run Try.prog W = .ok v' w' ∧ OwnS shFt 51 w' base v' (xs ++ [x]) ∧ W.grownBy w' v.ownBlock ∧ (v'.ownBlock = v.ownBlock ∨ v'.ownBlock = some W.heap.size) := by
  obtain ⟨i0, hi0, hz0, hz1, hz2⟩ := info_parts infoFt
  exact OwnS.append undFts hi0 hz0 hz1 hz2 rfl (by decide) hO (ys := [x]) (news := [c0, c1, c2, c3]) rfl (news_block hg) (CellsS.one hr) (by simp only [maxLen]; omega) (by omega) hbase

/-- what of the data's cells stays whatever is reported: old cells, and new blocks but the variable of the faults and their row -/
def Okv (ok0 : Nat → Nat → Prop) (B0 F : Nat) (w : World) (v : Value) (b o : Nat) : Prop := ok0 b o ∨ (B0 ≤ b ∧ b < w.heap.size ∧ b ≠ F ∧ v.ownBlock ≠ some b)
/-- nothing but the variable of the faults and their row has turned -/
structure Mv (F : Nat) (w : World) (v : Value) (w' : World) (v' : Value) : Prop where
  os : w'.os = w.os
  tape : w'.tape = w.tape
  output : w'.output = w.output
  size : w.heap.size ≤ w'.heap.size
  block : ∀ b : Nat, b < w.heap.size → b ≠ F → v.ownBlock ≠ some b → w'.heap[b]? = w.heap[b]?
  own : ∀ b, v'.ownBlock = some b → v.ownBlock = some b ∨ w.heap.size ≤ b
theorem Mv.trans {F : Nat} {w w1 w2 : World} {v v1 v2 : Value} (h : Mv F w v w1 v1) (k : Mv F w1 v1 w2 v2) : Mv F w v w2 v2 := by
  have hs := h.size
  refine ⟨k.os.trans h.os, k.tape.trans h.tape, k.output.trans h.output, Nat.le_trans hs k.size, fun b hb hF ho => (k.block b (by omega) hF (fun e => (h.own b e).elim ho (fun q => by omega))).trans (h.block b hb hF ho), fun b hb => ?_⟩
  rcases k.own b hb with q | q
  · exact h.own b q
  · exact .inr (by omega)
theorem Mv.of_below {F : Nat} {w w' : World} {v : Value} (h : Below w.heap.size w w') : Mv F w v w' v := ⟨h.os, h.tape, h.output, h.size, fun b hb _ _ => h.block b hb, fun _b q => .inl q⟩
theorem Mv.refl (F : Nat) (w : World) (v : Value) : Mv F w v w v := .of_below (Below.refl _ _)
/-- the reports so far: the variable F holds the row v, which reads as the faults L -/
structure Rs (ok0 : Nat → Nat → Prop) (B0 F : Nat) (w : World) (v : Value) (L : List Ft) : Prop where
  cell : w.heap[F]? = some (.cells #[v] 40 (0, 0))
  row : OwnS shFt 51 w (F + 1) v L
  old : ∀ b o, ok0 b o → b < B0
  le : B0 ≤ F
section
variable {ok0 : Nat → Nat → Prop} {B0 F : Nat} {w w' : World} {v v' : Value} {L L' : List Ft}
theorem Rs.lt (h : Rs ok0 B0 F w v L) : F < w.heap.size := (Array.getElem?_eq_some_iff.1 h.cell).1
theorem Rs.okB (h : Rs ok0 B0 F w v L) : ∀ b o, Okv ok0 B0 F w v b o → b < w.heap.size := fun b o q => by
  have := h.lt; have := h.le
  rcases q with q | q
  · have := h.old b o q; omega
  · exact q.2.1
theorem Rs.below (h : Rs ok0 B0 F w v L) (hb : Below w.heap.size w w') : Rs ok0 B0 F w' v L := ⟨(hb.block _ h.lt).trans h.cell, h.row.below hb, h.old, h.le⟩
theorem Rs.val (h : Rs ok0 B0 F w v L) (hm : Mv F w v w' v') {d : D} {x : Value} (hd : val w (okGh (Okv ok0 B0 F w v)) d x) : val w' (okGh (Okv ok0 B0 F w' v')) d x := by
  have hs := hm.size
  refine val.move (fun b o q => ?_) (fun b o q => ?_) hs hd
  · rcases q with q | q
    · exact .inl q
    · exact .inr ⟨q.1, by omega, q.2.2.1, fun e => (hm.own b e).elim q.2.2.2 (fun q' => by omega)⟩
  · refine World.cell?_of_block (hm.block b (h.okB b o q) (fun e => ?_) (fun e => ?_))
    · rcases q with q | q
      · have := h.old b o q; have := h.le; omega
      · exact q.2.2.1 e
    · rcases q with q | q
      · have := h.old b o q; have := h.le; have := (h.row.lt b e).1; omega
      · exact q.2.2.2 e
end

set_option maxRecDepth 100000 in
set_option maxHeartbeats 3000000 in
theorem report_mem {ok0 : Nat → Nat → Prop} {B0 F : Nat} {w : World} {v : Value} {L : List Ft} {pr err : Int} {path : List Int} {name : ByteArray} {vp : Value} (h : Rs ok0 B0 F w v L) (hpr : inr .i64 pr) (herr : inr .i64 err) (hname : name.size ≤ 9223372036854775807) (hp : val w (okGh (Okv ok0 B0 F w v)) (sl 1 (path.map dI)) vp) (hpl : path.length ≤ 1000000) (hL : L.length + 1 ≤ 1000001) :
    Calls Try.prog 44 #[.int .i64 pr, vp, .string name, .int .i64 err, .pointer (some ⟨F, 0, none⟩)] w fun e w' => ∃ v', (∃ u, e = .returned u) ∧ (w'.heap[F]? = some (.cells #[v'] 40 (0, 0)) ∧ OwnS shFt 51 w' (F + 1) v' (L ++ rep pr path err name)) ∧ Mv F w v w' v' := by
  have hmo : Try.prog.follows .mixedOrders = true := by kernel_rfl
  have hfn : ∀ f, Fence.wide.fn f := fun _ => trivial
  have hdp : Fence.wide.depth.isSome = false := rfl
  have hvs : ∃ A n cap, vp = .slice A n cap := by obtain ⟨A, cap, cs, hv, _⟩ := val_slice (show val w _ (.slice .imm (if (path.map dI).isEmpty then 0 else 1) (path.map dI)) vp from hp); exact ⟨_, _, _, hv⟩
  have hvv : ∃ A n cap, v = .slice A n cap := by obtain ⟨A, cap, hv, _⟩ := h.row.slice; exact ⟨_, _, _, hv⟩
  have fo : w.cell? ⟨F, 0, none⟩ = some v := cell_of_row _ _ 0 _ _ _ h.cell
  have HO := Lib.hid h.row
  have HLT := Lib.hid h.row.lt
  have HF := Lib.hid h.lt
  have HC := Lib.hid h.cell
  have HP := Lib.hid hp
  have HPI := Lib.hid (path_inr hp)
  clear hp
  obtain ⟨A0, n0, cap0, rfl⟩ := hvs
  obtain ⟨A9, n9, cap9, rfl⟩ := hvv
  go_enter Try.func44, Try.ntmps44
  by_cases h0 : err = 0
  · subst h0
    go_wp2_with fail
    refine bodyPost_end (results_none rfl _ _ _) rfl ⟨_, ⟨_, rfl⟩, ⟨HC.out, ?_⟩, Mv.refl _ _ _⟩
    rw [show rep pr path 0 name = [] from rfl, List.append_nil]; exact HO.out
  · go_wp2_with fail
    refine (wpIn_wide (n := 0)).1 (serial [8, 9] hmo ?_)
    simp only [List.size_toArray, List.length_cons, List.length_nil, Nat.reduceAdd]
    refine takeL (via := []) (v := ?_) hfn (by kernel_rfl) (i := 0) rfl (by kernel_rfl) (wanted_none rfl) (fun w' hbk => ?_) ?_
    rotate_left
    · simp [execOp, go_sem, keepc hbk fo]; exact rfl
    simp only [Act.put, List.setIfInBounds_toArray, List.set_cons_succ, List.set_cons_zero]
    refine takeF (v := ?_) hfn (by kernel_rfl) (i := 1) rfl (by kernel_rfl) (wanted_none rfl) (fun w' => ?_) ?_
    rotate_left
    · simp [execOp, go_sem]; exact rfl
    simp only [Act.put, List.setIfInBounds_toArray, List.set_cons_succ, List.set_cons_zero]
    refine takeF (v := ?_) hfn (by kernel_rfl) (i := 2) rfl (by kernel_rfl) (wanted_none rfl) (fun w' => ?_) ?_
    rotate_left
    · simp [execOp, go_sem]; exact rfl
    simp only [Act.put, List.setIfInBounds_toArray, List.set_cons_succ, List.set_cons_zero]
    refine takeF (v := ?_) hfn (by kernel_rfl) (i := 4) rfl (by kernel_rfl) (wanted_none rfl) (fun w' => ?_) ?_
    rotate_left
    · simp [execOp, go_sem]; exact rfl
    simp only [Act.put, List.setIfInBounds_toArray, List.set_cons_succ, List.set_cons_zero]
    refine takeF (v := ?_) hfn (by kernel_rfl) (i := 5) rfl (by kernel_rfl) (wanted_none rfl) (fun w' => ?_) ?_
    rotate_left
    · simp [execOp, go_sem]; exact rfl
    simp only [Act.put, List.setIfInBounds_toArray, List.set_cons_succ, List.set_cons_zero]
    refine runC (f := ?_) (args := ?_) hfn hdp (by kernel_rfl) (j := 3) rfl (by kernel_rfl) (wanted_none rfl) ?_ ?_
    rotate_left; rotate_left
    · simp [go_sem]; (refine And.intro ?_ ?_ <;> exact rfl)
    refine (callsIn_wide.2 (sclone_val (w := w.drew) path hpl (h.okB) (vp := .slice A0 n0 cap0) (val.move (w := w) (fun _ _ q => q) (fun _ _ _ => rfl) (Nat.le_refl _) HP.out))).mono ?_
    rintro e w1 ⟨vq, rfl, hq, hb1d⟩
    have hdz : w.drew.heap.size = w.heap.size := rfl
    have hb1 : Below w.heap.size w w1 := (Below.refl _ w).drew.trans hb1d
    have hz1 := hb1.size
    obtain ⟨A1, cap1, rfl, hl1, hc1, hn1, hi1⟩ := hq
    refine ⟨_, rfl, fun _ => hb1d, ?_⟩
    simp only [Act.put, List.setIfInBounds_toArray, List.set_cons_succ, List.set_cons_zero]
    refine takeF (v := ?_) hfn (by kernel_rfl) (i := 6) rfl (by kernel_rfl) (wanted_none rfl) (fun w' => ?_) ?_
    rotate_left
    · simp [execOp, go_sem]; exact rfl
    simp only [Act.put, List.setIfInBounds_toArray, List.set_cons_succ, List.set_cons_zero]
    refine runV (v := ?_) (w1 := ?_) hfn (by kernel_rfl) (j := 7) rfl (by kernel_rfl) (wanted_none rfl) ?_ (fun _ => ?_) ?_
    rotate_left; rotate_left
    · simp [execOp, go_sem]; (refine And.intro ?_ ?_ <;> exact rfl)
    · exact (Below.refl _ _).alloc (Nat.le_refl _) _
    intro hb7
    simp only [Act.put, List.setIfInBounds_toArray, List.set_cons_succ, List.set_cons_zero]
    obtain ⟨v2, w2, hrun, hO2, hg2, hat2⟩ := append_ft (ty := 40) (g := w1.heap.size) ((HO.out.below hb1).below (hb7 rfl)) (heap_alloc_new w1 _) (x := ⟨pr, path, err, name⟩) ⟨hpr, herr, hname, _, rfl, IntsAt.keep (ok := fun b => w.heap.size ≤ b ∧ b < w1.heap.size) ⟨A1, cap1, rfl, hl1, hc1, hn1, hi1⟩ (fun b hb' => ⟨by have := HF.out; have := hb'.1; omega, by have := hb'.2; simp; omega, fun e => by have := (HLT.out b e).2; have := hb'.1; omega⟩) (fun b o hb' => World.cell?_alloc_lt w1 _ ⟨b, o, none⟩ hb'.2), HPI.out⟩ hL (by have := HF.out; have := hb1.size; simp; omega)
    refine runV hfn (by kernel_rfl) (j := 8) rfl (by kernel_rfl) (wanted_none rfl) (exec_append rfl hrun) (fun e => by cases e) (fun _ => ?_)
    simp only [Act.put, List.setIfInBounds_toArray, List.set_cons_succ, List.set_cons_zero]
    obtain ⟨A2, n2, cap2, hv2⟩ : ∃ (A : Option Addr) (n cap : Nat), v2 = .slice A n cap := by obtain ⟨A2, cap2, hv2, _⟩ := hO2.slice; exact ⟨_, _, _, hv2⟩
    subst hv2
    have hcF := hb1.size
    have hcells : w2.heap[F]? = some (.cells #[.slice A9 n9 cap9] 40 (0, 0)) := (hg2.block _ (by have := HF.out; simp; omega) (fun e => by have := (HLT.out _ e.symm).1; omega)).trans (((hb7 rfl).block _ (by have := HF.out; omega)).trans ((hb1.block _ (show F < w.heap.size from HF.out)).trans HC.out))
    have fo2 : w2.cell? ⟨F, 0, none⟩ = some (.slice A9 n9 cap9) := cell_of_row _ _ 0 _ _ _ hcells
    have ff2 := frozen_of_row w2 _ 0 _ _ hcells
    refine runS hfn (by kernel_rfl) (j := 9) rfl (by kernel_rfl) (wanted_none rfl) (by simp [execOp, go_sem, fo2, ff2]; exact rfl) (fun e => by cases e) ?_
    simp only [Act.put]
    refine doneK (by kernel_rfl) ?_
    go_wp2_with fail
    refine bodyPost_end (results_none rfl _ _ _) rfl ⟨⟨_, rfl⟩, .slice A2 n2 cap2, ⟨heap_setCell_same w2 F 0 _ _ (.slice A2 n2 cap2) hcells, ?_⟩, ?_⟩
    · rw [show rep pr path err name = [⟨pr, path, err, name⟩] from by unfold rep; rw [if_neg h0]]
      exact hO2.setCell (by simp) _
    · have hs2 := hg2.size
      simp only [World.size_alloc] at hs2
      refine ⟨hg2.os.trans hb1.os, hg2.tape.trans hb1.tape, hg2.output.trans hb1.output, by simp [World.setCell]; omega, fun b hb hbF hbo => ?_, fun b hb => ?_⟩
      · refine (heap_setCell_other _ _ _ _ hbF).trans ((hg2.block _ (by simp; omega) (fun e => hbo e.symm)).trans (((hb7 rfl).block _ (by omega)).trans (hb1.block _ hb)))
      · rcases hat2 with e | e
        · rw [e] at hb; exact .inl hb
        · rw [e] at hb; simp only [World.size_alloc, Option.some.injEq] at hb; exact .inr (by omega)

end Go.Proofs.Ytjikokmhknnnoaa
