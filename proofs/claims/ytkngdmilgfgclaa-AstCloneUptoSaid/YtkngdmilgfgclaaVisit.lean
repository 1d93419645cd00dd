/- Walk: the visit of one node, by induction on the tree. -/
import Derived.Test.YtkngdmilgfgclaaWalkPush
import Derived.Maps.OwnIn
import Derived.OwnWalkIn
import Derived.TacticsInMore
import Derived.LoopNIn
import Derived.LoopIn
import Derived.Shelf.RegionOpen
import Derived.Outline
namespace Go.Proofs.Ytkngdmilgfgclaa
open Go.RowKit Go.Shelf
attribute [local go_sem] Oper.semAt_some

/-- what holds when the node's box has been laid -/
theorem visit_pre {by_ bp bv l base : Nat} {R O : Nat → Prop} {J : List (List Int × Tr) → (Nat → Prop) → World → Prop} (hJ : Abides J) {p : List Int} {pre : List (List Int × Tr)} {W : World} {k n0 : Int} {s : ByteArray} {c : List Tr} {A : Option Addr} {cap : Nat}
    (hrow : RowP W R c A 0) (hf : Fits k n0 s c.length cap) (hRO : ∀ b, R b → O b) (hit : It by_ bp bv l base O p W) (hj : J pre O W) :
    ∃ (O1 : Nat → Prop) (vp : Value), (∀ b, O b → O1 b) ∧ O1 W.heap.size ∧ It by_ bp bv l base O1 p (W.alloc (.cells #[.int .u8 k, .int .i64 n0, .string s, .slice A c.length cap] 24)) ∧ J pre O1 (W.alloc (.cells #[.int .u8 k, .int .i64 n0, .string s, .slice A c.length cap] 24)) ∧ (W.alloc (.cells #[.int .u8 k, .int .i64 n0, .string s, .slice A c.length cap] 24)).heap[bp]? = some (.cells #[vp] 33 (0, 0)) ∧
      IntsAt (W.alloc (.cells #[.int .u8 k, .int .i64 n0, .string s, .slice A c.length cap] 24)) (fun b => b < (W.alloc (.cells #[.int .u8 k, .int .i64 n0, .string s, .slice A c.length cap] 24)).heap.size) vp p ∧ Rep (W.alloc (.cells #[.int .u8 k, .int .i64 n0, .string s, .slice A c.length cap] 24)) (W.alloc (.cells #[.int .u8 k, .int .i64 n0, .string s, .slice A c.length cap] 24)).heap.size (.mk k n0 s c) (nodeV k n0 s A c.length cap) ∧ RowP (W.alloc (.cells #[.int .u8 k, .int .i64 n0, .string s, .slice A c.length cap] 24)) R c A 0 ∧ pathOwn (W.alloc (.cells #[.int .u8 k, .int .i64 n0, .string s, .slice A c.length cap] 24)) bp = pathOwn W bp := by
  obtain ⟨vp, hbx, hown, hog⟩ := hit.hp
  have hlt := hit.lt
  have hb1 : Below W.heap.size W (W.alloc (.cells #[.int .u8 k, .int .i64 n0, .string s, .slice A c.length cap] 24)) := (Below.refl _ W).alloc (Nat.le_refl _) _
  have hk1 := KeepsO.of_below hb1 hlt
  have hbx1 : (W.alloc (.cells #[.int .u8 k, .int .i64 n0, .string s, .slice A c.length cap] 24)).heap[bp]? = some (.cells #[vp] 33 (0, 0)) := (hk1.block _ hit.op).trans hbx
  have hmv := Moves.keep (X := fun b => b = W.heap.size) hb1 hlt (fun b hb => by subst hb; simp)
  have h0 : RepP W R (.mk k n0 s c) (nodeV k n0 s A c.length cap) := by simp only [RepP]; exact ⟨A, cap, rfl, hf, hrow⟩
  refine ⟨fun b => O b ∨ b = W.heap.size, vp, fun b hb => .inl hb, .inr rfl, (hit.keeps hk1).more (fun b hb => .inl hb) hmv.lt, hJ _ _ _ _ _ hj hmv, hbx1,
    ((IntsAt.of_own hown).weak (fun b hb => hb.2.2)).below hb1, (h0.lt (fun b hb => hlt b (hRO b hb))).alloc (Nat.le_refl _) _, RowP.keep (fun _ h => h) (fun b o hb => hb1.cell (p := ⟨b, o, none⟩) (hlt b (hRO b hb))) c hrow, ?_⟩
  rw [pathOwn_of hbx1, pathOwn_of hbx]

theorem visit_prefix {L pre : List (List Int × Tr)} {p : List Int} {k n0 : Int} {s : ByteArray} {c : List Tr} (h : (pre ++ walkL p (.mk k n0 s c)) <+: L) : (pre ++ [(p, .mk k n0 s c)]) <+: L := by
  refine List.IsPrefix.trans ⟨walksL p 0 c, ?_⟩ h
  simp [walkL]
theorem Below.undrew {B : Nat} {a w : World} (h : Below B a.drew w) : Below B a w := ⟨h.os, h.tape, h.output, h.size, h.block⟩
theorem hdw (m : Nat) : Fence.wide.depth.isSome = true → 1 ≤ m := fun h => by simp [Fence.wide] at h

/-- the round at this node -/
theorem visit_yield {l : Nat} {L pre : List (List Int × Tr)} {J Jx : List (List Int × Tr) → (Nat → Prop) → World → Prop} (hJ : Abides J)
    (hY : ∀ m pre x O args W1, (pre ++ [x]) <+: L → J pre O W1 → walkArgs x O W1 args → YieldAt .wide m Try.prog l args W1 fun e W' =>
      (e = .returned (.bool true) ∧ J (pre ++ [x]) O W' ∧ KeepsO O W1 W') ∨ (e = .returned (.bool false) ∧ Jx (pre ++ [x]) O W'))
    {p : List Int} {k n0 : Int} {s : ByteArray} {c : List Tr} (hpre : (pre ++ walkL p (.mk k n0 s c)) <+: L) {O1 : Nat → Prop} {B w2 w3 : World} {vpc vnc : Value} (hlt : ∀ b, O1 b → b < B.heap.size) (hj : J pre O1 B)
    (hb3 : Below B.heap.size B w3) (hic : IntsAt w2 (fun b => B.drew.heap.size ≤ b ∧ b < w2.heap.size) vpc p) (hb23 : Below w2.heap.size w2 w3) (_hb2 : Below B.heap.size B w2)
    (hrc : RepP w3 (fun b => w2.heap.size ≤ b ∧ b < w3.heap.size) (.mk k n0 s c) vnc) (m : Nat) :
    YieldAt .wide m Try.prog l #[vpc, vnc] w3 fun e W' => ∃ bb : Bool, e = .returned (.bool bb) ∧ ((bb = true ∧ J (pre ++ [(p, .mk k n0 s c)]) O1 W' ∧ KeepsO O1 B W') ∨ (bb = false ∧ Jx (pre ++ [(p, .mk k n0 s c)]) O1 W')) := by
  have hj3 := hJ _ _ _ _ _ hj (Moves.of_below hb3 hlt)
  have hargs : walkArgs (p, .mk k n0 s c) O1 w3 #[vpc, vnc] := by
    refine ⟨vpc, vnc, rfl, ?_, hrc.lt (fun b hb => hb.2)⟩
    exact hic.keep (fun b hb => ⟨fun e => by have h1 := hlt b e; have h2 : B.heap.size ≤ b := hb.1; omega, Nat.lt_of_lt_of_le hb.2 hb23.size⟩) (fun b o hb => hb23.cell (p := ⟨b, o, none⟩) hb.2)
  refine YieldAt.mono (hY m _ _ _ _ _ (visit_prefix hpre) hj3 hargs) fun e W' h => ?_
  rcases h with ⟨he, hj', hk⟩ | ⟨he, hx⟩
  · exact ⟨true, he, .inl ⟨rfl, hj', (KeepsO.of_below hb3 hlt).trans hk⟩⟩
  · exact ⟨false, he, .inr ⟨rfl, hx⟩⟩

theorem step_row {by_ bp bv l base : Nat} {R O1 O' : Nat → Prop} {p : List Int} {A B : World} (hst : Step bp O1 O' A B) (hit : It by_ bp bv l base O1 p A) (hR : ∀ b, R b → b < base) (hRO : ∀ b, R b → O1 b) : ∀ b, R b → B.heap[b]? = A.heap[b]? := fun b hb => by
  obtain ⟨vp, hbx, hown, _⟩ := hit.hp
  have h1 := hR b hb
  have h2 := hit.bp0
  exact hst.same b (hRO b hb) (by omega) (fun e => by rw [pathOwn_of hbx] at e; have := (hown.lt b e).1; omega)

/-- a kid of the row, cell by cell -/
theorem RowP.kid {w : World} {ok : Nat → Prop} {c : List Tr} {A : Option Addr} (h : RowP w ok c A 0) (j : Nat) (hj : j < c.length) :
    ∃ (b off : Nat) (A' : Option Addr) (cap' : Nat), A = some ⟨b, off, none⟩ ∧ ok b ∧ w.cell? ⟨b, off + j * 4, none⟩ = some (.int .u8 c[j].kind) ∧ w.cell? ⟨b, off + j * 4 + 1, none⟩ = some (.int .i64 c[j].num) ∧
      w.cell? ⟨b, off + j * 4 + 2, none⟩ = some (.string c[j].name) ∧ w.cell? ⟨b, off + j * 4 + 3, none⟩ = some (.slice A' c[j].kids.length cap') ∧
      RepP w ok c[j] (nodeV c[j].kind c[j].num c[j].name A' c[j].kids.length cap') := by
  obtain ⟨b, off, c0, c1, c2, c3, hA, hb, h0, h1, h2, h3, hr⟩ := rowP_at h j hj
  simp only [Nat.zero_add] at h0 h1 h2 h3
  obtain ⟨A', cap', hv, _, _⟩ := nodeOf hr
  have hv' := hv
  simp only [nodeV, Value.agg.injEq, Array.mk.injEq, List.cons.injEq, and_true] at hv'
  obtain ⟨rfl, rfl, rfl, rfl⟩ := hv'
  exact ⟨b, off, A', cap', hA, hb, h0, h1, h2, h3, hr⟩

theorem visit_prefix2 {L pre : List (List Int × Tr)} {p : List Int} {k n0 : Int} {s : ByteArray} {c : List Tr} {i : Nat} (h : (pre ++ walkL p (.mk k n0 s c)) <+: L) (hi : i < c.length) :
    (pre ++ [(p, .mk k n0 s c)] ++ walksL p 0 (c.take i) ++ walkL (p ++ [(i : Int)]) c[i]) <+: L := by
  obtain ⟨r, hr⟩ := walksL_take_prefix p c (i + 1)
  rw [walksL_take p c i hi] at hr
  refine List.IsPrefix.trans ⟨r, ?_⟩ h
  simp only [walkL, ← hr, List.append_assoc, List.cons_append, List.nil_append]

theorem visit_kid {by_ bp bv l base : Nat} {R O : Nat → Prop} {p : List Int} {W W' : World} {t : Tr} {v vq : Value} {n : Nat} {xs : List Value} (hk : RepP W R t v) (hit : It by_ bp bv l base O p W) (_hbx : W.heap[bp]? = some (.cells #[vq] 33 (0, 0)))
    (hown : W.ownsRow base 3 1 vq n xs) (hfin : ∀ b, b < W.heap.size → b ≠ bp → vq.ownBlock ≠ some b → W'.heap[b]? = W.heap[b]?) (hR : ∀ b, R b → b < base) (hRO : ∀ b, R b → O b) : RepP W' R t v :=
  RepP.keep (fun _ h => h) (fun b o hb => World.cell?_of_block (hfin b (hit.lt b (hRO b hb)) (by have := hR b hb; have := hit.bp0; omega) (fun e => by have := (hown.lt b e).1; have := hR b hb; omega))) t hk

def VisitPost (by_ bp bv l base : Nat) (L : List (List Int × Tr)) (J Jx : List (List Int × Tr) → (Nat → Prop) → World → Prop) (p : List Int) (t : Tr) (pre : List (List Int × Tr)) (O : Nat → Prop) (W : World) (e : Ending) (W' : World) : Prop :=
  (e = .returned (.bool true) ∧ ∃ O', Step bp O O' W W' ∧ It by_ bp bv l base O' p W' ∧ J (pre ++ walkL p t) O' W') ∨
  (e = .returned (.bool false) ∧ ∃ q O', (pre ++ q) <+: L ∧ Jx (pre ++ q) O' W')

set_option maxRecDepth 100000 in
set_option maxHeartbeats 2000000 in
theorem visit_in (by_ bp bv l base : Nat) (R : Nat → Prop) (L : List (List Int × Tr)) (J Jx : List (List Int × Tr) → (Nat → Prop) → World → Prop) (hJ : Abides J)
    (hY : ∀ m pre x O args W1, (pre ++ [x]) <+: L → J pre O W1 → walkArgs x O W1 args → YieldAt .wide m Try.prog l args W1 fun e W' =>
      (e = .returned (.bool true) ∧ J (pre ++ [x]) O W' ∧ KeepsO O W1 W') ∨ (e = .returned (.bool false) ∧ Jx (pre ++ [x]) O W'))
    (hR : ∀ b, R b → b < base) (t : Tr) :
    ∀ (p : List Int) (v : Value) (pre : List (List Int × Tr)) (O : Nat → Prop) (W : World) (n : Nat), RepP W R t v → (∀ b, R b → O b) → It by_ bp bv l base O p W → J pre O W → (pre ++ walkL p t) <+: L → t.size ≤ 1000000 → p.length + t.depth ≤ 1000000 →
      CallsIn .wide n Try.prog 54 #[v, .pointer (some ⟨by_, 0, none⟩), .pointer (some ⟨bp, 0, none⟩), .pointer (some ⟨bv, 0, none⟩)] W (VisitPost by_ bp bv l base L J Jx p t pre O W) := by
  induction t using Tr.ind with
  | h k n0 s c ih =>
    intro p v pre O W n hr hRO hit hj hpre hsz hdp
    simp only [RepP] at hr
    obtain ⟨A, cap, rfl, hf, hrow⟩ := hr
    obtain ⟨O1, vp, hsub, hOB, hit1, hj1, hbx1, hints, hrep, hrow1, hpo⟩ := visit_pre hJ hrow hf hRO hit hj
    unfold nodeV
    refine callsIn_of_wp Try.func54 rfl trivial ?_ rfl
    simp only [Try.ntmps54, List.size_toArray, List.length_cons, List.length_nil, Nat.reduceAdd, Nat.reduceSub, Array.replicate_succ, Array.replicate_zero, List.push_toArray, List.append_toArray, List.nil_append, List.cons_append]
    have hpl : p.length ≤ 1000000 := by omega
    have cy : (W.alloc (.cells #[.int .u8 k, .int .i64 n0, .string s, .slice A c.length cap] 24)).cell? ⟨by_, 0, none⟩ = some (.func (.yield l) #[] #[]) := cell_of_row _ _ _ _ _ _ hit1.hy
    have cp : (W.alloc (.cells #[.int .u8 k, .int .i64 n0, .string s, .slice A c.length cap] 24)).cell? ⟨bp, 0, none⟩ = some vp := cell_of_row _ _ _ _ _ _ hbx1
    have HJ := Lib.hid hJ
    have HY := Lib.hid hY
    have HR := Lib.hid hR
    have IH := Lib.hid ih
    have HROW := Lib.hid hrow1
    have HRO := Lib.hid hRO
    have HIT := Lib.hid hit
    have HIT1 := Lib.hid hit1
    have HJ1 := Lib.hid hj1
    have HINTS := Lib.hid hints
    have HREP := Lib.hid hrep
    have HBX := Lib.hid hbx1
    have HPO := Lib.hid hpo
    have HSUB := Lib.hid hsub
    have HPRE := Lib.hid hpre
    have HF := Lib.hid hf
    clear hJ hY hR ih hrow hRO hit hpre hf hit1 hj1 hbx1 hints hrep hrow1 hpo hsub hj
    gi_wp2_with fail
    rename_i K1 ha1 K ha
    have hKt : ∀ (vpc vnc : Value) (W4 : World), J (pre ++ [(p, .mk k n0 s c)]) O1 W4 → KeepsO O1 (W.alloc (.cells #[.int .u8 k, .int .i64 n0, .string s, .slice A c.length cap] 24)) W4 → K { tmps := #[Value.agg #[Value.int IntKind.u8 k, Value.int IntKind.i64 n0, Value.string s, Value.slice A c.length cap], Value.pointer (some ⟨by_, 0, none⟩), Value.pointer (some ⟨bp, 0, none⟩), Value.pointer (some ⟨bv, 0, none⟩), Value.pointer (some ⟨W.heap.size, 0, none⟩), Value.bool false, undef, undef, Value.func (.yield l) #[] #[], vp, vpc, Value.agg #[Value.int IntKind.u8 k, Value.int IntKind.i64 n0, Value.string s, Value.slice A c.length cap], vnc, Value.bool true, Value.bool false, undef, undef, undef, undef, undef, undef, undef, undef, undef, undef, undef, undef, undef, undef, undef, undef, undef, undef, undef, undef, undef, undef], defers := [] } W4 := by
      intro vpc vnc W4 hJ4 hk4
      have hit4 := HIT1.out.keeps hk4
      have hbox4 := (hk4.block _ hOB).trans (heap_alloc_new W _)
      have hrow4 : RowP W4 R c A 0 := RowP.keep (fun _ h => h) (fun b o hb => World.cell?_of_block (hk4.block b (HSUB.out b (HRO.out b hb)))) c HROW.out
      have hst4 : Step bp O1 O1 (W.alloc (.cells #[.int .u8 k, .int .i64 n0, .string s, .slice A c.length cap] 24)) W4 := Step.of_keeps hk4 HIT1.out.op
      have z0 := cell_of_row W4 _ 0 _ _ _ hbox4
      have z3 := cell_of_row W4 _ 3 _ _ _ hbox4
      simp only [List.getElem?_toArray, List.getElem?_cons_succ, List.getElem?_cons_zero] at z0 z3
      have HJ4 := Lib.hid hJ4
      have HIT4 := Lib.hid hit4
      have HBOX4 := Lib.hid hbox4
      have HROW4 := Lib.hid hrow4
      have HST4 := Lib.hid hst4
      have HK4 := Lib.hid hk4
      have hl1 := HF.out.l1
      have hl2 := HF.out.c1
      have hw1 : ∀ f, Fence.wide.fn f := fun _ => trivial
      have hw2 : Fence.wide.depth.isSome = false := rfl
      clear hJ4 hit4 hbox4 hrow4 hst4 hk4
      refine ha _ _ ?_
      gi_wp2_with fail
      gi_loopw [18] (fun s18 wr => ∃ (i : Nat) (O' : Nat → Prop), i ≤ c.length ∧ s18 = .int .i64 i ∧ Step bp O1 O' W4 wr ∧ It by_ bp bv l base O' p wr ∧ J (pre ++ [(p, .mk k n0 s c)] ++ walksL p 0 (c.take i)) O' wr) (fun s18 _ => c.length - (intOf s18).toNat)
      case atStart => exact ⟨0, O1, Nat.zero_le _, rfl, Step.refl _ _ _, HIT4.out, by simpa [walksL] using HJ4.out⟩
      case round =>
        obtain ⟨i, O', hi, rfl, hst, hit, hj⟩ := hrel
        by_cases hlt : i < c.length
        · have hrowr : RowP wr R c A 0 := RowP.keep (fun _ h => h) (fun b o hb => World.cell?_of_block (step_row hst HIT4.out HR.out (fun b hb => HSUB.out b (HRO.out b hb)) b hb)) c HROW4.out
          obtain ⟨b, off, A', cap', rfl, hbR, g0, g1, g2, g3, hk⟩ := hrowr.kid i hlt
          have hmem : c[i] ∈ c := List.getElem_mem hlt
          have hszk : c[i].size ≤ 1000000 := by have := Tr.size_le_of_mem hmem; simp only [Tr.size] at hsz; omega
          have hdpk : (p ++ [(i : Int)]).length + c[i].depth ≤ 1000000 := by have := Tr.depth_le_of_mem hmem; simp only [Tr.depth] at hdp; simp; omega
          obtain ⟨vq, hbx, hown, hog⟩ := hit.hp
          have cq : wr.cell? ⟨bp, 0, none⟩ = some vq := cell_of_row _ _ _ _ _ _ hbx
          have cqlt := hit.lt _ hit.op
          obtain ⟨i0, hi0, hz0, hz1, hz2⟩ := info_parts infoInt
          have hnews := cell_one_new (wr.alloc (.cells #[.int .u8 c[i].kind, .int .i64 c[i].num, .string c[i].name, .slice A' c[i].kids.length cap'] 24)) (.int .i64 i) 3
          rw [World.size_alloc] at hnews
          have HST := Lib.hid hst
          have HITR := Lib.hid hit
          have HJR := Lib.hid hj
          have HBQ := Lib.hid hbx
          have HOQ := Lib.hid hown
          have HOG := Lib.hid hog
          have HKR := Lib.hid hk
          have HNW := Lib.hid hnews
          have HOWN2 := Lib.hid ((hown.alloc (.cells #[.int .u8 c[i].kind, .int .i64 c[i].num, .string c[i].name, .slice A' c[i].kids.length cap'] 24)).alloc (.cells #[.int .i64 i] 3))
          have hbs0 : base ≤ wr.heap.size := by have := hit.bp0; omega
          clear hst hit hj hbx hown hog hk hnews hrowr
          gi_wp2_with (gi_at_builtin; (refine wpListIn_append_own_at _ rfl (.tmp 23) (.tmp 25) _ rfl base 3 i0 _ 1 8 undInts hi0 hz0 hz1 hz2 rfl (by omega) vq p.length (p.map (Value.int .i64)) rfl HOWN2.out ⟨wr.heap.size + 1, 0, none⟩ 1 1 [.int .i64 i] rfl rfl HNW.out (by intro u hu; simp at hu; subst hu; rfl) (by simp only [maxLen]; omega) (by omega) (by simp; omega) ?_); intro v2 w2 hO2 hg2 _ hat2; obtain ⟨g2, cap2, rfl⟩ := ownsRow_succ hO2; (obtain ⟨hitb, hmvb, hstb, hfinb, hbxb, hkb⟩ := push_it HITR.out HBQ.out HOQ.out HOG.out hO2 hg2 (by simpa using hat2) (by have := hg2.size; simpa using this)); have f1 := cell_of_row _ _ 0 _ _ _ hbxb; have f2 := frozen_of_row _ _ 0 _ _ hbxb; have f3 := cell_of_row _ _ 0 _ _ _ hitb.hv; have f4 := cell_of_row _ _ 0 _ _ _ hkb; have f5 := cell_of_row _ _ 1 _ _ _ hkb; have f6 := cell_of_row _ _ 2 _ _ _ hkb; have f7 := cell_of_row _ _ 3 _ _ _ hkb; simp only [List.getElem?_toArray, List.getElem?_cons_succ, List.getElem?_cons_zero] at f1 f3 f4 f5 f6 f7; have HITB := Lib.hid hitb; have HMVB := Lib.hid hmvb; have HSTB := Lib.hid hstb; have HFINB := Lib.hid hfinb; clear hitb hmvb hstb hfinb hbxb hkb hO2 hg2 hat2)
          have hrepb := visit_kid HKR.out HITR.out HBQ.out HOQ.out HFINB.out HR.out (fun b hb => HST.out.sub b (HSUB.out b (HRO.out b hb)))
          have hjb := HJ.out _ _ _ _ _ HJR.out HMVB.out
          have hpreb := visit_prefix2 HPRE.out hlt
          unfold nodeV at hrepb
          refine (IH.out _ hmem (p ++ [(i : Int)]) _ (pre ++ [(p, .mk k n0 s c)] ++ walksL p 0 (c.take i)) _ _ (n - 1) hrepb (fun b hb => .inl (HST.out.sub b (HSUB.out b (HRO.out b hb)))) HITB.out hjb hpreb hszk hdpk).mono ?_
          clear hrepb hjb hpreb
          rintro e W5 (⟨rfl, O3, hst5, hit5, hj5⟩ | ⟨rfl, q, O3, hq, hx5⟩)
          · obtain ⟨v5, hbx5, hown5, hog5⟩ := hit5.hp
            have hown5' : W5.ownsRow base 3 1 v5 (p.length + 1) (p.map (Value.int .i64) ++ [.int .i64 i]) := by simpa using hown5
            obtain ⟨g5, cap5, rfl⟩ := ownsRow_succ hown5'
            have hcap5 : p.length + 1 ≤ cap5 := by
              rcases hown5'.2 with ⟨h, _⟩ | ⟨_, _, _, he, _, _, hle, _⟩
              · cases h
              · cases he; exact hle
            obtain ⟨hit6, hmv6, hst6⟩ := pop_it hit5 hbx5 hown5' (hog5 g5 rfl)
            have hj6 := HJ.out _ _ _ _ _ hj5 hmv6
            have t1 := cell_of_row _ _ 0 _ _ _ hbx5
            have t2 := frozen_of_row _ _ 0 _ _ hbx5
            simp only [List.getElem?_toArray, List.getElem?_cons_zero] at t1
            have HST7 := Lib.hid (((HST.out.trans HSTB.out HIT4.out.lt).trans hst5 HIT4.out.lt).trans hst6 HIT4.out.lt)
            have HIT6 := Lib.hid hit6
            have HJ6 := Lib.hid hj6
            have HWT := Lib.hid (walksL_take p c i hlt)
            clear hit6 hmv6 hst6 hj6 hj5 hit5 hst5 hbx5 hown5 hown5' hog5 f1 f2 f3 f4 f5 f6 f7
            gi_wp2_with fail
            go_roundw
            case rel => exact ⟨i + 1, O3, by omega, by go_num, HST7.out, HIT6.out, by rw [HWT.out, ← List.append_assoc]; exact HJ6.out⟩
            case measure => simp [intOf]; omega
          · gi_wp2_with fail
            go_ret
            exact .inr ⟨rfl, [(p, .mk k n0 s c)] ++ walksL p 0 (c.take i) ++ q, O3, by simpa [List.append_assoc] using hq, by simpa [List.append_assoc] using hx5⟩
        · obtain rfl : i = c.length := by omega
          gi_wp2_with fail
          go_ret
          have hs0 : Step bp O O1 W (W.alloc (.cells #[.int .u8 k, .int .i64 n0, .string s, .slice A c.length cap] 24)) := ⟨by simp, HSUB.out, fun b hb _ _ => Below.heap_alloc _ _ _ (HIT.out.lt b hb), fun g hg => .inl (HPO.out ▸ hg)⟩
          refine .inl ⟨rfl, O', (hs0.trans HST4.out HIT.out.lt).trans hst HIT.out.lt, hit, ?_⟩
          rw [List.take_length] at hj
          simpa [walkL] using hj
    have hKf : ∀ (vpc vnc : Value) (W4 : World), Jx (pre ++ [(p, .mk k n0 s c)]) O1 W4 → K { tmps := #[Value.agg #[Value.int IntKind.u8 k, Value.int IntKind.i64 n0, Value.string s, Value.slice A c.length cap], Value.pointer (some ⟨by_, 0, none⟩), Value.pointer (some ⟨bp, 0, none⟩), Value.pointer (some ⟨bv, 0, none⟩), Value.pointer (some ⟨W.heap.size, 0, none⟩), Value.bool false, undef, undef, Value.func (.yield l) #[] #[], vp, vpc, Value.agg #[Value.int IntKind.u8 k, Value.int IntKind.i64 n0, Value.string s, Value.slice A c.length cap], vnc, Value.bool false, Value.bool true, undef, undef, undef, undef, undef, undef, undef, undef, undef, undef, undef, undef, undef, undef, undef, undef, undef, undef, undef, undef, undef, undef], defers := [] } W4 := by
      intro vpc vnc W4 hx4
      refine ha _ _ ?_
      gi_wp2_with fail
      go_ret
      exact .inr ⟨rfl, [(p, .mk k n0 s c)], O1, visit_prefix HPRE.out, hx4⟩
    have HKT := Lib.hid hKt
    have HKF := Lib.hid hKf
    clear hKt hKf
    have hw1 : ∀ f, Fence.wide.fn f := fun _ => trivial
    have hw2 : Fence.wide.depth.isSome = false := rfl
    have hmx : Try.prog.follows .mixedOrders = true := by kernel_rfl
    gi_region_with_o (first
      | (gi_at_call 55; (refine (callsIn_wide.2 (sclone_any vp p (W.alloc (.cells #[.int .u8 k, .int .i64 n0, .string s, .slice A c.length cap] 24)).drew HINTS.out hpl)).mono ?_); rintro e w2 ⟨vpc, rfl, hic2, hb2⟩; have hb2' : Below (W.alloc (.cells #[.int .u8 k, .int .i64 n0, .string s, .slice A c.length cap] 24)).heap.size (W.alloc (.cells #[.int .u8 k, .int .i64 n0, .string s, .slice A c.length cap] 24)) w2 := Below.undrew hb2; have y2 := (hb2'.cell (p := ⟨by_, 0, none⟩) (HIT1.out.lt _ HIT1.out.oy)).trans cy; obtain ⟨x0, x1, x2, x3⟩ := box_at hb2'; have HIC2 := Lib.hid hic2; have HB2 := Lib.hid hb2'; clear hic2 hb2 hb2')
      | (gi_at_call 30; refine (callsIn_wide.2 (clone_any (.mk k n0 s c) _ _ (HREP.out.at_ (Nat.le_refl _) HB2.out) hsz)).mono ?_; rintro e w3 ⟨vnc, rfl, hrc3, hb3⟩; have hbb3 := HB2.out.trans (hb3.mono HB2.out.size); have y3 := (hbb3.cell (p := ⟨by_, 0, none⟩) (HIT1.out.lt _ HIT1.out.oy)).trans cy; obtain ⟨fn, tmps, assign, body, hy, hRd⟩ := visit_yield HJ.out HY.out HPRE.out HIT1.out.lt HJ1.out hbb3 HIC2.out hb3 HB2.out hrc3 (n - 1); have HB3 := Lib.hid hbb3; clear hrc3 hb3 hbb3)
      | (refine hRd.mono ?_; clear hRd; rintro e W4 ⟨bb, rfl, hpost⟩))
    all_goals
      rcases hpost with ⟨rfl, hJ4, hk4⟩ | ⟨rfl, hx4⟩
      · exact HKT.out _ _ _ hJ4 hk4
      · exact HKF.out _ _ _ hx4

end Go.Proofs.Ytkngdmilgfgclaa
