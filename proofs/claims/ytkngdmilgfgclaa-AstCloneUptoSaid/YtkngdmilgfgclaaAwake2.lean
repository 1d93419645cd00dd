/- The example that every law of the package checks first: its loop. -/
import Derived.Test.YtkngdmilgfgclaaAwake
import Derived.Test.YtkngdmilgfgclaaRegion
namespace Go.Proofs.Ytkngdmilgfgclaa
open Go.RowKit Go.Shelf
attribute [local go_sem] Oper.semAt_some

/-- a block that is the caller's own, not the iterator's -/
def Mine (O : Nat → Prop) (W : World) (b : Nat) (o : Obj) : Prop := W.heap[b]? = some o ∧ ¬ O b
theorem Mine.lt {O : Nat → Prop} {W : World} {b : Nat} {o : Obj} (h : Mine O W b o) : b < W.heap.size := (Array.getElem?_eq_some_iff.1 h.1).1
theorem Mine.moves {O O' : Nat → Prop} {W W' : World} {b : Nat} {o : Obj} (h : Mine O W b o) (hm : Moves O O' W W') : Mine O' W' b o := by
  have hn : ¬ O' b := fun e => (hm.new b e).elim h.2 (fun e => by have := h.lt; omega)
  exact ⟨(hm.block b h.lt hn).trans h.1, hn⟩
/-- what every caller keeps: the iterator's blocks are new, and nothing old has turned -/
structure Keep (w : World) (O : Nat → Prop) (W : World) : Prop where
  lo : ∀ b, O b → w.heap.size ≤ b
  lt : ∀ b, O b → b < W.heap.size
  below : Below w.heap.size w W
theorem Keep.moves {w : World} {O O' : Nat → Prop} {W W' : World} (h : Keep w O W) (hm : Moves O O' W W') : Keep w O' W' :=
  ⟨fun b hb => (hm.new b hb).elim (h.lo b) (fun e => by have := h.below.size; omega), hm.lt, h.below.trans (hm.below h.below.size h.lo)⟩
theorem IntsAt.moves {O O' : Nat → Prop} {W W' : World} {v : Value} {p : List Int} (h : IntsAt W (fun b => ¬ O b ∧ b < W.heap.size) v p) (hm : Moves O O' W W') : IntsAt W' (fun b => ¬ O' b ∧ b < W'.heap.size) v p :=
  h.keep (fun b hb => ⟨fun e => (hm.new b e).elim hb.1 (fun e => by omega), Nat.lt_of_lt_of_le hb.2 hm.size⟩) (fun b o hb => World.cell?_of_block (hm.block b hb.2 (fun e => (hm.new b e).elim hb.1 (fun e => by omega))))

theorem walk_ps (x : List Int × Tr) (O : Nat → Prop) (W : World) (args : Array Value) (h : walkArgs x O W args) : args.size = 2 := by
  obtain ⟨vp, vn, rfl, _⟩ := h; rfl
theorem walk_ext (x : List Int × Tr) (O : Nat → Prop) (W : World) (args : Array Value) (D : Nat) (o o' : Obj) (h : walkArgs x O W args) (h1 : W.heap[D]? = some o) (h2 : o.isCells = false) (h3 : W.heap[D + 1]? = some o') (h4 : o'.isCells = false) : walkArgs x (ext O D) W args := by
  obtain ⟨vp, vn, rfl, hi, hr⟩ := h
  refine ⟨vp, vn, rfl, ?_, hr⟩
  obtain ⟨A, cap, hv, l1, l2, hn, hc⟩ := hi
  refine ⟨A, cap, hv, l1, l2, hn, fun j hj => ?_⟩
  obtain ⟨b, off, hA, hb, hcell⟩ := hc j hj
  have nc : ∀ (d : Nat) (q : Obj), W.heap[d]? = some q → q.isCells = false → b ≠ d := by
    rintro d q hd hq rfl
    simp only [World.cell?, hd] at hcell
    cases q <;> simp_all [Obj.isCells]
  exact ⟨b, off, hA, ⟨fun e => by rcases e with e | e | e; exact hb.1 e; exact nc _ _ h1 h2 e; exact nc _ _ h3 h4 e, hb.2⟩, hcell⟩

def AwI (w : World) (pre : List (List Int × Tr)) (O : Nat → Prop) (W : World) : Prop :=
  Mine O W w.heap.size (.cells #[.bool false] 4 (0, 0)) ∧ Mine O W (w.heap.size + 1) (.cells #[.int .i64 pre.length] 3 (0, 0)) ∧ Keep w O W
theorem AwI_abides (w : World) : Abides (AwI w) := fun _ _ _ _ _ h hm => ⟨h.1.moves hm, h.2.1.moves hm, h.2.2.moves hm⟩

def AwA (w : World) (g Br : Nat) (pre : List (List Int × Tr)) (x : List Int × Tr) (_args : Array Value) (O : Nat → Prop) (a' : Act) (W : World) : Prop :=
  ∃ (vp : Value) (Bx : Nat) (A : Option Addr) (cap : Nat), a' = { tmps := #[.pointer (some ⟨w.heap.size, 0, none⟩), .pointer (some ⟨w.heap.size + 1, 0, none⟩), .func (.func 53) #[] #[.pointer (some ⟨Br, 0, none⟩)], vp, .pointer (some ⟨Bx, 0, none⟩), .agg #[.int .u8 40, .int .i64 0, .string ⟨#[]⟩, .slice (some ⟨g, 0, none⟩) 2 2], .func (.func 53) #[] #[.pointer (some ⟨Br, 0, none⟩)], .func (.func 53) #[] #[.pointer (some ⟨Br, 0, none⟩)], .bool false, .func (.func 53) #[] #[.pointer (some ⟨Br, 0, none⟩)], vp, .agg #[.int .u8 x.2.kind, .int .i64 x.2.num, .string x.2.name, .slice A x.2.kids.length cap], undef, undef, undef, undef, undef, undef, undef, undef, undef, undef, undef, undef, undef, undef, undef, undef, undef, undef, undef, undef, undef, undef, undef, undef, undef, undef, undef, undef, undef, undef, undef, undef, undef, undef, undef, undef, undef, undef, undef, undef, undef, undef, undef, undef, undef, undef, undef, undef, undef, undef, undef, undef, undef, undef, undef, undef, undef, undef, undef, undef, undef, undef, undef, undef, undef, undef, undef, undef], defers := [] } ∧
    Mine O W Bx (.cells #[.int .u8 x.2.kind, .int .i64 x.2.num, .string x.2.name, .slice A x.2.kids.length cap] 24 (0, 0)) ∧ IntsAt W (fun b => ¬ O b ∧ b < W.heap.size) vp x.1 ∧ AwI w pre O W
theorem AwA_abides (w : World) (g Br : Nat) (pre : List (List Int × Tr)) (x : List Int × Tr) (args : Array Value) (a' : Act) : Abides (fun (_ : Unit) O W => AwA w g Br pre x args O a' W) := fun _ _ _ _ _ h hm => by
  obtain ⟨vp, Bx, A, cap, ha, hm1, hi, hI⟩ := h
  exact ⟨vp, Bx, A, cap, ha, hm1.moves hm, hi.moves hm, AwI_abides w _ _ _ _ _ hI hm⟩

theorem prefix3 {α : Type} {a b c x : α} {pre : List α} (h : (pre ++ [x]) <+: [a, b, c]) : (pre = [] ∧ x = a) ∨ (pre = [a] ∧ x = b) ∨ (pre = [a, b] ∧ x = c) := by
  obtain ⟨r, hr⟩ := h
  rcases pre with _ | ⟨p0, _ | ⟨p1, _ | ⟨p2, ps⟩⟩⟩
  · simp at hr; exact .inl ⟨rfl, hr.1⟩
  · simp at hr; exact .inr (.inl ⟨by rw [hr.1], hr.2.1⟩)
  · simp at hr; exact .inr (.inr ⟨by rw [hr.1, hr.2.1], hr.2.2.1⟩)
  · simp at hr

theorem ret_bool_cell {fn : Func} {p : Tmp} (hres : fn.results = #[.cell p 4]) {tmps : Array Value} {W : World} {g : Nat} {b : Bool}
    (hp : tmps.getD p undef = .pointer (some ⟨g, 0, none⟩)) (hg : W.heap[g]? = some (.cells #[.bool b] 4 (0, 0))) : (results fn tmps).run Try.prog W = .ok (.bool b) W := by
  have hp' : tmps[p]?.getD undef = .pointer (some ⟨g, 0, none⟩) := by simpa using hp
  have hc := cell_of_row W g 0 _ _ _ hg
  simp only [List.getElem?_toArray, List.getElem?_cons_zero] at hc
  simp [results, hres, hp', asAddr, go_sem, hc]

theorem aw_end {w W V : World} {O : Nat → Prop} {k k' : Int} {o1 : Obj} {pre : List (List Int × Tr)} (hI : Keep w O W) (hz : Mine O W w.heap.size (.cells #[.bool false] 4 (0, 0))) (hk : Mine O W (w.heap.size + 1) o1) (hV : Below W.heap.size W V)
    (hkv : V.heap[w.heap.size + 1]? = some (.cells #[.int .i64 k] 3 (0, 0))) (hl : k' = (pre.length : Int)) : KeepsO O W (V.setCell ⟨w.heap.size + 1, 0, none⟩ (.int .i64 k')) ∧ AwI w pre O (V.setCell ⟨w.heap.size + 1, 0, none⟩ (.int .i64 k')) := by
  have hs := hV.size
  have hw := hI.below.size
  refine ⟨(KeepsO.of_below hV hI.lt).trans (KeepsO.setCell hk.2 _), ⟨?_, hz.2⟩, ⟨?_, hk.2⟩, hI.lo, fun b hb => ?_, (hI.below.trans (hV.mono hw)).setCell (by simp) _⟩
  · exact (heap_setCell_other _ _ _ _ (by simp)).trans ((hV.block _ hz.lt).trans hz.1)
  · rw [hl]
    exact heap_setCell_same _ _ 0 _ _ _ hkv
  · have := hI.lt b hb
    simp [World.setCell]
    omega

def awSpec0 (A1 : Option Addr) (cap1 : Nat) : List RSpec := [.is (.int .i64 0), .is (.bool false), .is (.bool false), .is (.int .i64 0), .is (.bool true), .is (.bool true), .is (.slice A1 0 cap1), .is (.int .i64 0), .is (.bool false), .is (.bool false), .is (.bool false), .is (.bool false), .is (.int .i64 0), .is (.bool false), .is (.bool false), .is undef, .is undef, .is undef, .is undef, .is undef, .is undef, .is undef, .is undef, .is undef, .is undef, .is undef, .is undef, .is undef, .is undef, .is undef, .is undef, .is undef, .is undef, .is undef, .is undef, .is undef, .is undef, .is undef, .is (.bool false), .is (.bool false)]
def awSpec1 (pb po cap1 Bx : Nat) : List RSpec := [.is (.int .i64 1), .is (.bool false), .is (.bool false), .is (.int .i64 1), .is (.bool false), .is (.bool false), .is undef, .is undef, .is undef, .is (.bool false), .is (.bool false), .is (.bool false), .is (.int .i64 1), .is (.bool true), .is (.bool true), .is (.slice (some ⟨pb, po, none⟩) 1 cap1), .is (.int .i64 1), .is (.bool false), .is (.bool false), .is (.slice (some ⟨pb, po, none⟩) 1 cap1), .is (.pointer (some ⟨pb, po, none⟩)), .is (.int .i64 0), .is (.int .i64 1), .is (.int .i64 0), .is (.bool false), .is (.bool false), .is (.bool false), .is (.pointer (some ⟨Bx, 0, none⟩)), .is (.int .u8 2), .new (fun g1 => .agg #[.int .u8 40, .int .i64 0, .string ⟨#[]⟩, .slice (some ⟨g1, 0, none⟩) 2 2]) (.cells #[.int .u8 2, .int .i64 0, .string ⟨#[120]⟩, .slice none 0 0, .int .u8 1, .int .i64 1, .string ⟨#[]⟩, .slice none 0 0] 24 (0, 0)), .new (fun g1 => .slice (some ⟨g1, 0, none⟩) 2 2) (.cells #[.int .u8 2, .int .i64 0, .string ⟨#[120]⟩, .slice none 0 0, .int .u8 1, .int .i64 1, .string ⟨#[]⟩, .slice none 0 0] 24 (0, 0)), .is (.int .i64 1), .is (.int .i64 0), .new (fun g1 => .pointer (some ⟨g1, 0, none⟩)) (.cells #[.int .u8 2, .int .i64 0, .string ⟨#[120]⟩, .slice none 0 0, .int .u8 1, .int .i64 1, .string ⟨#[]⟩, .slice none 0 0] 24 (0, 0)), .new (fun g1 => .pointer (some ⟨g1, 0, none⟩)) (.cells #[.int .u8 2, .int .i64 0, .string ⟨#[120]⟩, .slice none 0 0, .int .u8 1, .int .i64 1, .string ⟨#[]⟩, .slice none 0 0] 24 (0, 0)), .is (.int .u8 2), .is (.bool false), .is (.bool false), .is (.bool false), .is (.bool false)]
def awSpec2 (pb po cap1 Bx : Nat) : List RSpec := [.is (.int .i64 2), .is (.bool false), .is (.bool false), .is (.int .i64 2), .is (.bool false), .is (.bool false), .is undef, .is undef, .is undef, .is (.bool false), .is (.bool false), .is (.bool false), .is (.int .i64 2), .is (.bool true), .is (.bool true), .is (.slice (some ⟨pb, po, none⟩) 1 cap1), .is (.int .i64 1), .is (.bool false), .is (.bool false), .is (.slice (some ⟨pb, po, none⟩) 1 cap1), .is (.pointer (some ⟨pb, po, none⟩)), .is (.int .i64 1), .is (.int .i64 2), .is (.int .i64 1), .is (.bool false), .is (.bool false), .is (.bool false), .is (.pointer (some ⟨Bx, 0, none⟩)), .is (.int .u8 1), .new (fun g1 => .agg #[.int .u8 40, .int .i64 0, .string ⟨#[]⟩, .slice (some ⟨g1, 0, none⟩) 2 2]) (.cells #[.int .u8 2, .int .i64 0, .string ⟨#[120]⟩, .slice none 0 0, .int .u8 1, .int .i64 1, .string ⟨#[]⟩, .slice none 0 0] 24 (0, 0)), .new (fun g1 => .slice (some ⟨g1, 0, none⟩) 2 2) (.cells #[.int .u8 2, .int .i64 0, .string ⟨#[120]⟩, .slice none 0 0, .int .u8 1, .int .i64 1, .string ⟨#[]⟩, .slice none 0 0] 24 (0, 0)), .is (.int .i64 2), .is (.int .i64 1), .new (fun g1 => .pointer (some ⟨g1, 4, none⟩)) (.cells #[.int .u8 2, .int .i64 0, .string ⟨#[120]⟩, .slice none 0 0, .int .u8 1, .int .i64 1, .string ⟨#[]⟩, .slice none 0 0] 24 (0, 0)), .new (fun g1 => .pointer (some ⟨g1, 4, none⟩)) (.cells #[.int .u8 2, .int .i64 0, .string ⟨#[120]⟩, .slice none 0 0, .int .u8 1, .int .i64 1, .string ⟨#[]⟩, .slice none 0 0] 24 (0, 0)), .is (.int .u8 1), .is (.bool false), .is (.bool false), .is (.bool false), .is (.bool false)]

set_option maxRecDepth 100000 in
set_option maxHeartbeats 2000000 in
theorem awake_any (w : World) : Calls Try.prog 13 #[] w fun e w' => e = .returned (.bool true) ∧ Below w.heap.size w w' := by
  refine (callsIn_wide (n := 0)).1 ?_
  refine callsIn_of_wp_marks Try.func13 rfl trivial ?_ rfl
  simp only [Try.ntmps13, List.size_toArray, List.length_cons, List.length_nil, Nat.reduceAdd, Nat.reduceSub, Array.replicate_succ, Array.replicate_zero, List.push_toArray, List.append_toArray, List.nil_append, List.cons_append]
  have hw1 : ∀ f, Fence.wide.fn f := fun _ => trivial
  have hw2 : Fence.wide.depth.isSome = false := rfl
  gi_wp2_with fail
  refine (callsIn_wide.2 (sample_any _)).mono ?_
  rintro e w1 ⟨g, rfl, hg, hcg, hb1⟩
  have HREP := Lib.hid ((sample_rep hg hcg).lt (B := w1.heap.size) (fun b hb => hb.2))
  have HB1 := Lib.hid hb1
  clear hb1 hcg
  gi_wp2_with fail
  refine (callsIn_wide.2 (walk_any sampleT _ _ HREP.out (by rw [sample_facts.1]; omega))).mono ?_
  rintro e w2 ⟨Br, c0, c1, c2, c3, rfl, hBr, hcB, hrB, hb2⟩
  have hnf : ∀ W : World, (binOp .eql 31 (.func (.func 53) #[] #[.pointer (some ⟨Br, 0, none⟩)]) .nilFunc).run Try.prog W = .ok (.bool false) W := fun W => by kernel_rfl
  have HCB := Lib.hid hcB
  have HRB := Lib.hid hrB
  have HB2 := Lib.hid hb2
  clear hcB hrB hb2
  gi_wp2_with fail
  have hs1 := HB1.out.size
  have hs2 := HB2.out.size
  simp only [World.size_alloc] at hs1
  have hBw := (Array.getElem?_eq_some_iff.1 HCB.out).1
  have hd1 : w2.heap[w.heap.size]? = some (.cells #[.bool false] 4 (0, 0)) := (HB2.out.block _ (by omega)).trans ((HB1.out.block _ (by simp only [World.size_alloc]; omega)).trans (heap_alloc2_old w _ _))
  have hd2 : w2.heap[w.heap.size + 1]? = some (.cells #[.int .i64 0] 3 (0, 0)) := (HB2.out.block _ (by omega)).trans ((HB1.out.block _ (by simp only [World.size_alloc]; omega)).trans (heap_alloc2_new w _ _))
  have hbw : Below w.heap.size w w2 := (((Below.refl _ w).alloc (Nat.le_refl _) _).alloc (by simp) _).trans ((HB1.out.mono (by simp only [World.size_alloc]; omega)).trans (HB2.out.mono (by omega)))
  refine wpIn_rangeFunc_O (gf := 53) (lb := #[.pointer (some ⟨Br, 0, none⟩)]) rfl (enters_of Try.func53 (by kernel_rfl) rfl)
    (O₀ := fun b => (w1.heap.size ≤ b ∧ b < w2.heap.size) ∨ b = Br) (fun b hb => by omega) (walk_iter w2 Br _ sampleT c0 c1 c2 c3 HCB.out HRB.out (fun b hb => hb.2) (by rw [sample_facts.1]; omega) (by rw [sample_facts.2.1]; omega))
    walk_ps walk_ext (AwI w) (fun _ _ _ _ => False) (AwI_abides w) (fun _ _ _ _ _ _ h _ => h) (fun _ _ _ h => h.2.2.lt) (fun _ _ _ _ h => h.elim)
    ⟨⟨hd1, fun e => by omega⟩, ⟨hd2, fun e => by omega⟩, ⟨fun b hb => by omega, fun b hb => by omega, hbw⟩⟩
    (AwA w g Br) (AwA_abides w g Br) (fun _ _ _ _ _ _ h => by obtain ⟨_, _, _, _, _, _, _, hI⟩ := h; exact hI.2.2.lt) ?assign ?body ?done ?stop
  case assign =>
    rintro l pre x args O W K hpre hI ⟨vp, vn, rfl, hints, hrep⟩ hK
    obtain ⟨A, cap, rfl, hf, _⟩ := nodeOf (RepP.of _ hrep)
    unfold nodeV
    have HK := Lib.hid hK
    have HI := Lib.hid hI
    have HINTS := Lib.hid hints
    clear hK hI hints hrep
    gi_wp2_with fail
    refine HK.out _ _ (KeepsO.alloc HI.out.2.2.lt _) ⟨vp, W.heap.size, A, cap, rfl, ⟨heap_alloc_new W _, fun e => by have := HI.out.2.2.lt _ e; omega⟩, ?_, ?_⟩
    · exact HINTS.out.moves (Moves.of_below ((Below.refl _ W).alloc (Nat.le_refl _) _) HI.out.2.2.lt)
    · exact AwI_abides w _ _ _ _ _ HI.out (Moves.of_below ((Below.refl _ W).alloc (Nat.le_refl _) _) HI.out.2.2.lt)
  case body =>
    rintro l pre x args O a' W hpre ⟨vp, Bx, A, cap, rfl, hmx, hints, hz, hk, hkeep⟩
    have hund : undef = Value.tuple #[] := rfl
    rw [sample_walk] at hpre
    rcases prefix3 hpre with ⟨rfl, rfl⟩ | ⟨rfl, rfl⟩ | ⟨rfl, rfl⟩
    · obtain ⟨A1, cap1, rfl, _, _, _, _⟩ := hints
      have hk' : Mine O W (w.heap.size + 1) (.cells #[.int .i64 0] 3 (0, 0)) := hk
      have k0 : W.cell? ⟨w.heap.size + 1, 0, none⟩ = some (.int .i64 0) := cell_of_row _ _ 0 _ _ _ hk'.1
      have k1 := frozen_of_row _ _ 0 _ _ hk'.1
      have HZ := Lib.hid hz
      have HKP := Lib.hid hkeep
      have HK := Lib.hid hk'
      have hmo : Try.prog.follows .mixedOrders = true := by kernel_rfl
      have hfn : ∀ f, (Fence.wide.inRound l).fn f := fun _ => trivial
      clear hz hk hkeep hk'
      gi_wp2_with fail
      refine region_all (N := 40) (s := fun i => 12 + i) hmo rfl (by kernel_rfl) (fun V => Below W.heap.size W V) (Specs (awSpec0 A1 cap1)) (by intro j hj; simp; omega) (by intro i j _ _ e; simp at e; omega) (Below.refl _ W).drew ?steps ?fin
      case steps =>
        show AllFrom _ 0 (_ :: _)
        refine AllFrom.cons (fun listed a2 V h hi hd => ?_) ?_
        · have f1 : a2.tmps[1]? = some (.pointer (some ⟨w.heap.size + 1, 0, none⟩)) := h.fixed 1 (by intro j hj; show 12 + j ≠ 1; omega)
          have kc := (h.cw.cell (p := ⟨w.heap.size + 1, 0, none⟩) HK.out.lt).trans k0
          exact RInv.pure (v := .int .i64 0) h hi rfl (wanted_none rfl) hfn (by intro c; simp) (by simp [execOp, f1, kc, go_sem, asAddr]) rfl
        refine AllFrom.cons (fun listed a2 V h hi hd => ?_) ?_
        · obtain ⟨u0, h0, e0⟩ := hd ⟨0, .data⟩ (by simp) rfl
          replace e0 : u0 = .int .i64 0 := e0
          subst e0
          replace h0 : a2.tmps[12]? = some _ := h0
          exact RInv.pure (v := .bool false) h hi rfl (wanted_none rfl) hfn (by intro c; simp) (by simp [execOp, h0, go_sem]) rfl
        refine AllFrom.cons (fun listed a2 V h hi hd => ?_) ?_
        · obtain ⟨u1, h1, e1⟩ := hd ⟨1, .data⟩ (by simp) rfl
          replace e1 : u1 = .bool false := e1
          subst e1
          replace h1 : a2.tmps[13]? = some _ := h1
          exact RInv.pure (v := .bool false) h hi rfl (wanted_none rfl) hfn (by intro c; simp) (by simp [execOp, h1, go_sem]) rfl
        refine AllFrom.cons (fun listed a2 V h hi hd => ?_) ?_
        · obtain ⟨u2, h2, e2⟩ := hd ⟨2, .guard⟩ (by simp) rfl
          replace e2 : u2 = .bool false := e2
          subst e2
          replace h2 : a2.tmps[14]? = some _ := h2
          have f1 : a2.tmps[1]? = some (.pointer (some ⟨w.heap.size + 1, 0, none⟩)) := h.fixed 1 (by intro j hj; show 12 + j ≠ 1; omega)
          have kc := (h.cw.cell (p := ⟨w.heap.size + 1, 0, none⟩) HK.out.lt).trans k0
          exact RInv.pure (v := .int .i64 0) h hi rfl (wanted_at rfl rfl h2 rfl) hfn (by intro c; simp) (by simp [execOp, f1, kc, go_sem, asAddr]) rfl
        refine AllFrom.cons (fun listed a2 V h hi hd => ?_) ?_
        · obtain ⟨u3, h3, e3⟩ := hd ⟨3, .data⟩ (by simp) rfl
          replace e3 : u3 = .int .i64 0 := e3
          subst e3
          replace h3 : a2.tmps[15]? = some _ := h3
          obtain ⟨u2, h2, e2⟩ := hd ⟨2, .guard⟩ (by simp) rfl
          replace e2 : u2 = .bool false := e2
          subst e2
          replace h2 : a2.tmps[14]? = some _ := h2
          exact RInv.pure (v := .bool true) h hi rfl (wanted_at rfl rfl h2 rfl) hfn (by intro c; simp) (by simp [execOp, h3, go_sem]) rfl
        refine AllFrom.cons (fun listed a2 V h hi hd => ?_) ?_
        · obtain ⟨u4, h4, e4⟩ := hd ⟨4, .data⟩ (by simp) rfl
          replace e4 : u4 = .bool true := e4
          subst e4
          replace h4 : a2.tmps[16]? = some _ := h4
          obtain ⟨u2, h2, e2⟩ := hd ⟨2, .chain⟩ (by simp) rfl
          replace e2 : u2 = .bool false := e2
          subst e2
          replace h2 : a2.tmps[14]? = some _ := h2
          exact RInv.pure (v := .bool true) h hi rfl (wanted_at rfl rfl h2 rfl) hfn (by intro c; simp) (by simp [execOp, h4, go_sem]) rfl
        refine AllFrom.cons (fun listed a2 V h hi hd => ?_) ?_
        · obtain ⟨u5, h5, e5⟩ := hd ⟨5, .guard⟩ (by simp) rfl
          replace e5 : u5 = .bool true := e5
          subst e5
          replace h5 : a2.tmps[17]? = some _ := h5
          have f3 : a2.tmps[3]? = some (.slice A1 0 cap1) := h.fixed 3 (by intro j hj; show 12 + j ≠ 3; omega)
          exact RInv.pure (v := .slice A1 0 cap1) h hi rfl (wanted_at rfl rfl h5 rfl) hfn (by intro c; simp) (by simp [execOp, f3, go_sem]) rfl
        refine AllFrom.cons (fun listed a2 V h hi hd => ?_) ?_
        · obtain ⟨u6, h6, e6⟩ := hd ⟨6, .data⟩ (by simp) rfl
          replace e6 : u6 = .slice A1 0 cap1 := e6
          subst e6
          replace h6 : a2.tmps[18]? = some _ := h6
          obtain ⟨u5, h5, e5⟩ := hd ⟨5, .guard⟩ (by simp) rfl
          replace e5 : u5 = .bool true := e5
          subst e5
          replace h5 : a2.tmps[17]? = some _ := h5
          exact RInv.pure (v := .int .i64 0) h hi rfl (wanted_at rfl rfl h5 rfl) hfn (by intro c; simp) (by simp [execOp, h6, go_sem]) rfl
        refine AllFrom.cons (fun listed a2 V h hi hd => ?_) ?_
        · obtain ⟨u7, h7, e7⟩ := hd ⟨7, .data⟩ (by simp) rfl
          replace e7 : u7 = .int .i64 0 := e7
          subst e7
          replace h7 : a2.tmps[19]? = some _ := h7
          obtain ⟨u5, h5, e5⟩ := hd ⟨5, .guard⟩ (by simp) rfl
          replace e5 : u5 = .bool true := e5
          subst e5
          replace h5 : a2.tmps[17]? = some _ := h5
          exact RInv.pure (v := .bool false) h hi rfl (wanted_at rfl rfl h5 rfl) hfn (by intro c; simp) (by simp [execOp, h7, go_sem]) rfl
        refine AllFrom.cons (fun listed a2 V h hi hd => ?_) ?_
        · obtain ⟨u5, h5, e5⟩ := hd ⟨5, .data⟩ (by simp) rfl
          replace e5 : u5 = .bool true := e5
          subst e5
          replace h5 : a2.tmps[17]? = some _ := h5
          obtain ⟨u8, h8, e8⟩ := hd ⟨8, .data⟩ (by simp) rfl
          replace e8 : u8 = .bool false := e8
          subst e8
          replace h8 : a2.tmps[20]? = some _ := h8
          obtain ⟨u2, h2, e2⟩ := hd ⟨2, .guard⟩ (by simp) rfl
          replace e2 : u2 = .bool false := e2
          subst e2
          replace h2 : a2.tmps[14]? = some _ := h2
          exact RInv.pure (v := .bool false) h hi rfl (wanted_at rfl rfl h2 rfl) hfn (by intro c; simp) (by simp [execOp, h5, h8, go_sem]) rfl
        refine AllFrom.cons (fun listed a2 V h hi hd => ?_) ?_
        · obtain ⟨u2, h2, e2⟩ := hd ⟨2, .data⟩ (by simp) rfl
          replace e2 : u2 = .bool false := e2
          subst e2
          replace h2 : a2.tmps[14]? = some _ := h2
          obtain ⟨u9, h9, e9⟩ := hd ⟨9, .data⟩ (by simp) rfl
          replace e9 : u9 = .bool false := e9
          subst e9
          replace h9 : a2.tmps[21]? = some _ := h9
          exact RInv.pure (v := .bool false) h hi rfl (wanted_none rfl) hfn (by intro c; simp) (by simp [execOp, h2, h9, go_sem]) rfl
        refine AllFrom.cons (fun listed a2 V h hi hd => ?_) ?_
        · obtain ⟨u10, h10, e10⟩ := hd ⟨10, .data⟩ (by simp) rfl
          replace e10 : u10 = .bool false := e10
          subst e10
          replace h10 : a2.tmps[22]? = some _ := h10
          obtain ⟨u5, h5, e5⟩ := hd ⟨5, .chain⟩ (by simp) rfl
          replace e5 : u5 = .bool true := e5
          subst e5
          replace h5 : a2.tmps[17]? = some _ := h5
          exact RInv.pure (v := .bool false) h hi rfl (wanted_none rfl) hfn (by intro c; simp) (by simp [execOp, h10, go_sem]) rfl
        refine AllFrom.cons (fun listed a2 V h hi hd => ?_) ?_
        · obtain ⟨u11, h11, e11⟩ := hd ⟨11, .guard⟩ (by simp) rfl
          replace e11 : u11 = .bool false := e11
          subst e11
          replace h11 : a2.tmps[23]? = some _ := h11
          have f1 : a2.tmps[1]? = some (.pointer (some ⟨w.heap.size + 1, 0, none⟩)) := h.fixed 1 (by intro j hj; show 12 + j ≠ 1; omega)
          have kc := (h.cw.cell (p := ⟨w.heap.size + 1, 0, none⟩) HK.out.lt).trans k0
          exact RInv.pure (v := .int .i64 0) h hi rfl (wanted_at rfl rfl h11 rfl) hfn (by intro c; simp) (by simp [execOp, f1, kc, go_sem, asAddr]) rfl
        refine AllFrom.cons (fun listed a2 V h hi hd => ?_) ?_
        · obtain ⟨u12, h12, e12⟩ := hd ⟨12, .data⟩ (by simp) rfl
          replace e12 : u12 = .int .i64 0 := e12
          subst e12
          replace h12 : a2.tmps[24]? = some _ := h12
          obtain ⟨u11, h11, e11⟩ := hd ⟨11, .guard⟩ (by simp) rfl
          replace e11 : u11 = .bool false := e11
          subst e11
          replace h11 : a2.tmps[23]? = some _ := h11
          exact RInv.pure (v := .bool false) h hi rfl (wanted_at rfl rfl h11 rfl) hfn (by intro c; simp) (by simp [execOp, h12, go_sem]) rfl
        refine AllFrom.cons (fun listed a2 V h hi hd => ?_) ?_
        · obtain ⟨u13, h13, e13⟩ := hd ⟨13, .data⟩ (by simp) rfl
          replace e13 : u13 = .bool false := e13
          subst e13
          replace h13 : a2.tmps[25]? = some _ := h13
          obtain ⟨u11, h11, e11⟩ := hd ⟨11, .chain⟩ (by simp) rfl
          replace e11 : u11 = .bool false := e11
          subst e11
          replace h11 : a2.tmps[23]? = some _ := h11
          exact RInv.pure (v := .bool false) h hi rfl (wanted_at rfl rfl h11 rfl) hfn (by intro c; simp) (by simp [execOp, h13, go_sem]) rfl
        refine AllFrom.cons (fun listed a2 V h hi hd => ?_) ?_
        · obtain ⟨u14, h14, e14⟩ := hd ⟨14, .guard⟩ (by simp) rfl
          replace e14 : u14 = .bool false := e14
          subst e14
          replace h14 : a2.tmps[26]? = some _ := h14
          exact RInv.skip h hi rfl (wanted_at rfl rfl h14 rfl) hfn rfl
        refine AllFrom.cons (fun listed a2 V h hi hd => ?_) ?_
        · obtain ⟨u15, h15, e15⟩ := hd ⟨15, .data⟩ (by simp) rfl
          replace e15 : u15 = undef := e15
          subst e15
          replace h15 : a2.tmps[27]? = some _ := h15
          obtain ⟨u14, h14, e14⟩ := hd ⟨14, .guard⟩ (by simp) rfl
          replace e14 : u14 = .bool false := e14
          subst e14
          replace h14 : a2.tmps[26]? = some _ := h14
          exact RInv.skip h hi rfl (wanted_at rfl rfl h14 rfl) hfn rfl
        refine AllFrom.cons (fun listed a2 V h hi hd => ?_) ?_
        · obtain ⟨u16, h16, e16⟩ := hd ⟨16, .data⟩ (by simp) rfl
          replace e16 : u16 = undef := e16
          subst e16
          replace h16 : a2.tmps[28]? = some _ := h16
          obtain ⟨u14, h14, e14⟩ := hd ⟨14, .guard⟩ (by simp) rfl
          replace e14 : u14 = .bool false := e14
          subst e14
          replace h14 : a2.tmps[26]? = some _ := h14
          exact RInv.skip h hi rfl (wanted_at rfl rfl h14 rfl) hfn rfl
        refine AllFrom.cons (fun listed a2 V h hi hd => ?_) ?_
        · obtain ⟨u17, h17, e17⟩ := hd ⟨17, .data⟩ (by simp) rfl
          replace e17 : u17 = undef := e17
          subst e17
          replace h17 : a2.tmps[29]? = some _ := h17
          obtain ⟨u14, h14, e14⟩ := hd ⟨14, .chain⟩ (by simp) rfl
          replace e14 : u14 = .bool false := e14
          subst e14
          replace h14 : a2.tmps[26]? = some _ := h14
          exact RInv.skip h hi rfl (wanted_at rfl rfl h14 rfl) hfn rfl
        refine AllFrom.cons (fun listed a2 V h hi hd => ?_) ?_
        · obtain ⟨u18, h18, e18⟩ := hd ⟨18, .guard⟩ (by simp) rfl
          replace e18 : u18 = undef := e18
          subst e18
          replace h18 : a2.tmps[30]? = some _ := h18
          exact RInv.skip h hi rfl (wanted_undef rfl rfl h18) hfn rfl
        refine AllFrom.cons (fun listed a2 V h hi hd => ?_) ?_
        · obtain ⟨u19, h19, e19⟩ := hd ⟨19, .data⟩ (by simp) rfl
          replace e19 : u19 = undef := e19
          subst e19
          replace h19 : a2.tmps[31]? = some _ := h19
          obtain ⟨u18, h18, e18⟩ := hd ⟨18, .guard⟩ (by simp) rfl
          replace e18 : u18 = undef := e18
          subst e18
          replace h18 : a2.tmps[30]? = some _ := h18
          exact RInv.skip h hi rfl (wanted_undef rfl rfl h18) hfn rfl
        refine AllFrom.cons (fun listed a2 V h hi hd => ?_) ?_
        · obtain ⟨u20, h20, e20⟩ := hd ⟨20, .data⟩ (by simp) rfl
          replace e20 : u20 = undef := e20
          subst e20
          replace h20 : a2.tmps[32]? = some _ := h20
          obtain ⟨u18, h18, e18⟩ := hd ⟨18, .guard⟩ (by simp) rfl
          replace e18 : u18 = undef := e18
          subst e18
          replace h18 : a2.tmps[30]? = some _ := h18
          exact RInv.skip h hi rfl (wanted_undef rfl rfl h18) hfn rfl
        refine AllFrom.cons (fun listed a2 V h hi hd => ?_) ?_
        · obtain ⟨u18, h18, e18⟩ := hd ⟨18, .guard⟩ (by simp) rfl
          replace e18 : u18 = undef := e18
          subst e18
          replace h18 : a2.tmps[30]? = some _ := h18
          exact RInv.skip h hi rfl (wanted_undef rfl rfl h18) hfn rfl
        refine AllFrom.cons (fun listed a2 V h hi hd => ?_) ?_
        · obtain ⟨u22, h22, e22⟩ := hd ⟨22, .data⟩ (by simp) rfl
          replace e22 : u22 = undef := e22
          subst e22
          replace h22 : a2.tmps[34]? = some _ := h22
          obtain ⟨u18, h18, e18⟩ := hd ⟨18, .guard⟩ (by simp) rfl
          replace e18 : u18 = undef := e18
          subst e18
          replace h18 : a2.tmps[30]? = some _ := h18
          exact RInv.skip h hi rfl (wanted_undef rfl rfl h18) hfn rfl
        refine AllFrom.cons (fun listed a2 V h hi hd => ?_) ?_
        · obtain ⟨u21, h21, e21⟩ := hd ⟨21, .data⟩ (by simp) rfl
          replace e21 : u21 = undef := e21
          subst e21
          replace h21 : a2.tmps[33]? = some _ := h21
          obtain ⟨u23, h23, e23⟩ := hd ⟨23, .data⟩ (by simp) rfl
          replace e23 : u23 = undef := e23
          subst e23
          replace h23 : a2.tmps[35]? = some _ := h23
          obtain ⟨u18, h18, e18⟩ := hd ⟨18, .guard⟩ (by simp) rfl
          replace e18 : u18 = undef := e18
          subst e18
          replace h18 : a2.tmps[30]? = some _ := h18
          exact RInv.skip h hi rfl (wanted_undef rfl rfl h18) hfn rfl
        refine AllFrom.cons (fun listed a2 V h hi hd => ?_) ?_
        · obtain ⟨u18, h18, e18⟩ := hd ⟨18, .data⟩ (by simp) rfl
          replace e18 : u18 = undef := e18
          subst e18
          replace h18 : a2.tmps[30]? = some _ := h18
          obtain ⟨u24, h24, e24⟩ := hd ⟨24, .data⟩ (by simp) rfl
          replace e24 : u24 = undef := e24
          subst e24
          replace h24 : a2.tmps[36]? = some _ := h24
          obtain ⟨u14, h14, e14⟩ := hd ⟨14, .guard⟩ (by simp) rfl
          replace e14 : u14 = .bool false := e14
          subst e14
          replace h14 : a2.tmps[26]? = some _ := h14
          exact RInv.skip h hi rfl (wanted_at rfl rfl h14 rfl) hfn rfl
        refine AllFrom.cons (fun listed a2 V h hi hd => ?_) ?_
        · obtain ⟨u25, h25, e25⟩ := hd ⟨25, .data⟩ (by simp) rfl
          replace e25 : u25 = undef := e25
          subst e25
          replace h25 : a2.tmps[37]? = some _ := h25
          obtain ⟨u18, h18, e18⟩ := hd ⟨18, .chain⟩ (by simp) rfl
          replace e18 : u18 = undef := e18
          subst e18
          replace h18 : a2.tmps[30]? = some _ := h18
          obtain ⟨u14, h14, e14⟩ := hd ⟨14, .guard⟩ (by simp) rfl
          replace e14 : u14 = .bool false := e14
          subst e14
          replace h14 : a2.tmps[26]? = some _ := h14
          exact RInv.skip h hi rfl (wanted_at rfl rfl h14 rfl) hfn rfl
        refine AllFrom.cons (fun listed a2 V h hi hd => ?_) ?_
        · obtain ⟨u26, h26, e26⟩ := hd ⟨26, .guard⟩ (by simp) rfl
          replace e26 : u26 = undef := e26
          subst e26
          replace h26 : a2.tmps[38]? = some _ := h26
          exact RInv.skip h hi rfl (wanted_undef rfl rfl h26) hfn rfl
        refine AllFrom.cons (fun listed a2 V h hi hd => ?_) ?_
        · obtain ⟨u27, h27, e27⟩ := hd ⟨27, .data⟩ (by simp) rfl
          replace e27 : u27 = undef := e27
          subst e27
          replace h27 : a2.tmps[39]? = some _ := h27
          obtain ⟨u26, h26, e26⟩ := hd ⟨26, .guard⟩ (by simp) rfl
          replace e26 : u26 = undef := e26
          subst e26
          replace h26 : a2.tmps[38]? = some _ := h26
          exact RInv.skip h hi rfl (wanted_undef rfl rfl h26) hfn rfl
        refine AllFrom.cons (fun listed a2 V h hi hd => ?_) ?_
        · obtain ⟨u26, h26, e26⟩ := hd ⟨26, .chain⟩ (by simp) rfl
          replace e26 : u26 = undef := e26
          subst e26
          replace h26 : a2.tmps[38]? = some _ := h26
          exact RInv.skip h hi rfl (wanted_undef rfl rfl h26) hfn rfl
        refine AllFrom.cons (fun listed a2 V h hi hd => ?_) ?_
        · obtain ⟨u29, h29, e29⟩ := hd ⟨29, .data⟩ (by simp) rfl
          replace e29 : u29 = undef := e29
          subst e29
          replace h29 : a2.tmps[41]? = some _ := h29
          obtain ⟨u26, h26, e26⟩ := hd ⟨26, .guard⟩ (by simp) rfl
          replace e26 : u26 = undef := e26
          subst e26
          replace h26 : a2.tmps[38]? = some _ := h26
          exact RInv.skip h hi rfl (wanted_undef rfl rfl h26) hfn rfl
        refine AllFrom.cons (fun listed a2 V h hi hd => ?_) ?_
        · obtain ⟨u26, h26, e26⟩ := hd ⟨26, .guard⟩ (by simp) rfl
          replace e26 : u26 = undef := e26
          subst e26
          replace h26 : a2.tmps[38]? = some _ := h26
          exact RInv.skip h hi rfl (wanted_undef rfl rfl h26) hfn rfl
        refine AllFrom.cons (fun listed a2 V h hi hd => ?_) ?_
        · obtain ⟨u31, h31, e31⟩ := hd ⟨31, .data⟩ (by simp) rfl
          replace e31 : u31 = undef := e31
          subst e31
          replace h31 : a2.tmps[43]? = some _ := h31
          obtain ⟨u26, h26, e26⟩ := hd ⟨26, .guard⟩ (by simp) rfl
          replace e26 : u26 = undef := e26
          subst e26
          replace h26 : a2.tmps[38]? = some _ := h26
          exact RInv.skip h hi rfl (wanted_undef rfl rfl h26) hfn rfl
        refine AllFrom.cons (fun listed a2 V h hi hd => ?_) ?_
        · obtain ⟨u30, h30, e30⟩ := hd ⟨30, .data⟩ (by simp) rfl
          replace e30 : u30 = undef := e30
          subst e30
          replace h30 : a2.tmps[42]? = some _ := h30
          obtain ⟨u32, h32, e32⟩ := hd ⟨32, .data⟩ (by simp) rfl
          replace e32 : u32 = undef := e32
          subst e32
          replace h32 : a2.tmps[44]? = some _ := h32
          obtain ⟨u26, h26, e26⟩ := hd ⟨26, .guard⟩ (by simp) rfl
          replace e26 : u26 = undef := e26
          subst e26
          replace h26 : a2.tmps[38]? = some _ := h26
          exact RInv.skip h hi rfl (wanted_undef rfl rfl h26) hfn rfl
        refine AllFrom.cons (fun listed a2 V h hi hd => ?_) ?_
        · obtain ⟨u33, h33, e33⟩ := hd ⟨33, .data⟩ (by simp) rfl
          replace e33 : u33 = undef := e33
          subst e33
          replace h33 : a2.tmps[45]? = some _ := h33
          obtain ⟨u26, h26, e26⟩ := hd ⟨26, .guard⟩ (by simp) rfl
          replace e26 : u26 = undef := e26
          subst e26
          replace h26 : a2.tmps[38]? = some _ := h26
          exact RInv.skip h hi rfl (wanted_undef rfl rfl h26) hfn rfl
        refine AllFrom.cons (fun listed a2 V h hi hd => ?_) ?_
        · obtain ⟨u34, h34, e34⟩ := hd ⟨34, .data⟩ (by simp) rfl
          replace e34 : u34 = undef := e34
          subst e34
          replace h34 : a2.tmps[46]? = some _ := h34
          obtain ⟨u26, h26, e26⟩ := hd ⟨26, .guard⟩ (by simp) rfl
          replace e26 : u26 = undef := e26
          subst e26
          replace h26 : a2.tmps[38]? = some _ := h26
          exact RInv.skip h hi rfl (wanted_undef rfl rfl h26) hfn rfl
        refine AllFrom.cons (fun listed a2 V h hi hd => ?_) ?_
        · obtain ⟨u28, h28, e28⟩ := hd ⟨28, .data⟩ (by simp) rfl
          replace e28 : u28 = undef := e28
          subst e28
          replace h28 : a2.tmps[40]? = some _ := h28
          obtain ⟨u35, h35, e35⟩ := hd ⟨35, .data⟩ (by simp) rfl
          replace e35 : u35 = undef := e35
          subst e35
          replace h35 : a2.tmps[47]? = some _ := h35
          obtain ⟨u26, h26, e26⟩ := hd ⟨26, .guard⟩ (by simp) rfl
          replace e26 : u26 = undef := e26
          subst e26
          replace h26 : a2.tmps[38]? = some _ := h26
          exact RInv.skip h hi rfl (wanted_undef rfl rfl h26) hfn rfl
        refine AllFrom.cons (fun listed a2 V h hi hd => ?_) ?_
        · obtain ⟨u26, h26, e26⟩ := hd ⟨26, .data⟩ (by simp) rfl
          replace e26 : u26 = undef := e26
          subst e26
          replace h26 : a2.tmps[38]? = some _ := h26
          obtain ⟨u36, h36, e36⟩ := hd ⟨36, .data⟩ (by simp) rfl
          replace e36 : u36 = undef := e36
          subst e36
          replace h36 : a2.tmps[48]? = some _ := h36
          obtain ⟨u14, h14, e14⟩ := hd ⟨14, .guard⟩ (by simp) rfl
          replace e14 : u14 = .bool false := e14
          subst e14
          replace h14 : a2.tmps[26]? = some _ := h14
          exact RInv.skip h hi rfl (wanted_at rfl rfl h14 rfl) hfn rfl
        refine AllFrom.cons (fun listed a2 V h hi hd => ?_) ?_
        · obtain ⟨u14, h14, e14⟩ := hd ⟨14, .data⟩ (by simp) rfl
          replace e14 : u14 = .bool false := e14
          subst e14
          replace h14 : a2.tmps[26]? = some _ := h14
          obtain ⟨u37, h37, e37⟩ := hd ⟨37, .data⟩ (by simp) rfl
          replace e37 : u37 = undef := e37
          subst e37
          replace h37 : a2.tmps[49]? = some _ := h37
          obtain ⟨u11, h11, e11⟩ := hd ⟨11, .guard⟩ (by simp) rfl
          replace e11 : u11 = .bool false := e11
          subst e11
          replace h11 : a2.tmps[23]? = some _ := h11
          exact RInv.pure (v := .bool false) h hi rfl (wanted_at rfl rfl h11 rfl) hfn (by intro c; simp) (by simp [execOp, h14, go_sem]) rfl
        refine AllFrom.cons (fun listed a2 V h hi hd => ?_) ?_
        · obtain ⟨u11, h11, e11⟩ := hd ⟨11, .data⟩ (by simp) rfl
          replace e11 : u11 = .bool false := e11
          subst e11
          replace h11 : a2.tmps[23]? = some _ := h11
          obtain ⟨u38, h38, e38⟩ := hd ⟨38, .data⟩ (by simp) rfl
          replace e38 : u38 = .bool false := e38
          subst e38
          replace h38 : a2.tmps[50]? = some _ := h38
          exact RInv.pure (v := .bool false) h hi rfl (wanted_none rfl) hfn (by intro c; simp) (by simp [execOp, h11, h38, go_sem]) rfl
        exact trivial
      case fin =>
        rintro a2 V hV hs hdf hfx hph
        · obtain ⟨u0, h0, e0⟩ := hph 0 (by omega)
          replace e0 : u0 = .int .i64 0 := e0
          subst e0
          replace h0 : a2.tmps[12]? = some _ := h0
          obtain ⟨u1, h1, e1⟩ := hph 1 (by omega)
          replace e1 : u1 = .bool false := e1
          subst e1
          replace h1 : a2.tmps[13]? = some _ := h1
          obtain ⟨u2, h2, e2⟩ := hph 2 (by omega)
          replace e2 : u2 = .bool false := e2
          subst e2
          replace h2 : a2.tmps[14]? = some _ := h2
          obtain ⟨u3, h3, e3⟩ := hph 3 (by omega)
          replace e3 : u3 = .int .i64 0 := e3
          subst e3
          replace h3 : a2.tmps[15]? = some _ := h3
          obtain ⟨u4, h4, e4⟩ := hph 4 (by omega)
          replace e4 : u4 = .bool true := e4
          subst e4
          replace h4 : a2.tmps[16]? = some _ := h4
          obtain ⟨u5, h5, e5⟩ := hph 5 (by omega)
          replace e5 : u5 = .bool true := e5
          subst e5
          replace h5 : a2.tmps[17]? = some _ := h5
          obtain ⟨u6, h6, e6⟩ := hph 6 (by omega)
          replace e6 : u6 = .slice A1 0 cap1 := e6
          subst e6
          replace h6 : a2.tmps[18]? = some _ := h6
          obtain ⟨u7, h7, e7⟩ := hph 7 (by omega)
          replace e7 : u7 = .int .i64 0 := e7
          subst e7
          replace h7 : a2.tmps[19]? = some _ := h7
          obtain ⟨u8, h8, e8⟩ := hph 8 (by omega)
          replace e8 : u8 = .bool false := e8
          subst e8
          replace h8 : a2.tmps[20]? = some _ := h8
          obtain ⟨u9, h9, e9⟩ := hph 9 (by omega)
          replace e9 : u9 = .bool false := e9
          subst e9
          replace h9 : a2.tmps[21]? = some _ := h9
          obtain ⟨u10, h10, e10⟩ := hph 10 (by omega)
          replace e10 : u10 = .bool false := e10
          subst e10
          replace h10 : a2.tmps[22]? = some _ := h10
          obtain ⟨u11, h11, e11⟩ := hph 11 (by omega)
          replace e11 : u11 = .bool false := e11
          subst e11
          replace h11 : a2.tmps[23]? = some _ := h11
          obtain ⟨u12, h12, e12⟩ := hph 12 (by omega)
          replace e12 : u12 = .int .i64 0 := e12
          subst e12
          replace h12 : a2.tmps[24]? = some _ := h12
          obtain ⟨u13, h13, e13⟩ := hph 13 (by omega)
          replace e13 : u13 = .bool false := e13
          subst e13
          replace h13 : a2.tmps[25]? = some _ := h13
          obtain ⟨u14, h14, e14⟩ := hph 14 (by omega)
          replace e14 : u14 = .bool false := e14
          subst e14
          replace h14 : a2.tmps[26]? = some _ := h14
          obtain ⟨u15, h15, e15⟩ := hph 15 (by omega)
          replace e15 : u15 = undef := e15
          subst e15
          replace h15 : a2.tmps[27]? = some _ := h15
          obtain ⟨u16, h16, e16⟩ := hph 16 (by omega)
          replace e16 : u16 = undef := e16
          subst e16
          replace h16 : a2.tmps[28]? = some _ := h16
          obtain ⟨u17, h17, e17⟩ := hph 17 (by omega)
          replace e17 : u17 = undef := e17
          subst e17
          replace h17 : a2.tmps[29]? = some _ := h17
          obtain ⟨u18, h18, e18⟩ := hph 18 (by omega)
          replace e18 : u18 = undef := e18
          subst e18
          replace h18 : a2.tmps[30]? = some _ := h18
          obtain ⟨u19, h19, e19⟩ := hph 19 (by omega)
          replace e19 : u19 = undef := e19
          subst e19
          replace h19 : a2.tmps[31]? = some _ := h19
          obtain ⟨u20, h20, e20⟩ := hph 20 (by omega)
          replace e20 : u20 = undef := e20
          subst e20
          replace h20 : a2.tmps[32]? = some _ := h20
          obtain ⟨u21, h21, e21⟩ := hph 21 (by omega)
          replace e21 : u21 = undef := e21
          subst e21
          replace h21 : a2.tmps[33]? = some _ := h21
          obtain ⟨u22, h22, e22⟩ := hph 22 (by omega)
          replace e22 : u22 = undef := e22
          subst e22
          replace h22 : a2.tmps[34]? = some _ := h22
          obtain ⟨u23, h23, e23⟩ := hph 23 (by omega)
          replace e23 : u23 = undef := e23
          subst e23
          replace h23 : a2.tmps[35]? = some _ := h23
          obtain ⟨u24, h24, e24⟩ := hph 24 (by omega)
          replace e24 : u24 = undef := e24
          subst e24
          replace h24 : a2.tmps[36]? = some _ := h24
          obtain ⟨u25, h25, e25⟩ := hph 25 (by omega)
          replace e25 : u25 = undef := e25
          subst e25
          replace h25 : a2.tmps[37]? = some _ := h25
          obtain ⟨u26, h26, e26⟩ := hph 26 (by omega)
          replace e26 : u26 = undef := e26
          subst e26
          replace h26 : a2.tmps[38]? = some _ := h26
          obtain ⟨u27, h27, e27⟩ := hph 27 (by omega)
          replace e27 : u27 = undef := e27
          subst e27
          replace h27 : a2.tmps[39]? = some _ := h27
          obtain ⟨u28, h28, e28⟩ := hph 28 (by omega)
          replace e28 : u28 = undef := e28
          subst e28
          replace h28 : a2.tmps[40]? = some _ := h28
          obtain ⟨u29, h29, e29⟩ := hph 29 (by omega)
          replace e29 : u29 = undef := e29
          subst e29
          replace h29 : a2.tmps[41]? = some _ := h29
          obtain ⟨u30, h30, e30⟩ := hph 30 (by omega)
          replace e30 : u30 = undef := e30
          subst e30
          replace h30 : a2.tmps[42]? = some _ := h30
          obtain ⟨u31, h31, e31⟩ := hph 31 (by omega)
          replace e31 : u31 = undef := e31
          subst e31
          replace h31 : a2.tmps[43]? = some _ := h31
          obtain ⟨u32, h32, e32⟩ := hph 32 (by omega)
          replace e32 : u32 = undef := e32
          subst e32
          replace h32 : a2.tmps[44]? = some _ := h32
          obtain ⟨u33, h33, e33⟩ := hph 33 (by omega)
          replace e33 : u33 = undef := e33
          subst e33
          replace h33 : a2.tmps[45]? = some _ := h33
          obtain ⟨u34, h34, e34⟩ := hph 34 (by omega)
          replace e34 : u34 = undef := e34
          subst e34
          replace h34 : a2.tmps[46]? = some _ := h34
          obtain ⟨u35, h35, e35⟩ := hph 35 (by omega)
          replace e35 : u35 = undef := e35
          subst e35
          replace h35 : a2.tmps[47]? = some _ := h35
          obtain ⟨u36, h36, e36⟩ := hph 36 (by omega)
          replace e36 : u36 = undef := e36
          subst e36
          replace h36 : a2.tmps[48]? = some _ := h36
          obtain ⟨u37, h37, e37⟩ := hph 37 (by omega)
          replace e37 : u37 = undef := e37
          subst e37
          replace h37 : a2.tmps[49]? = some _ := h37
          obtain ⟨u38, h38, e38⟩ := hph 38 (by omega)
          replace e38 : u38 = .bool false := e38
          subst e38
          replace h38 : a2.tmps[50]? = some _ := h38
          obtain ⟨u39, h39, e39⟩ := hph 39 (by omega)
          replace e39 : u39 = .bool false := e39
          subst e39
          replace h39 : a2.tmps[51]? = some _ := h39
          have q0 : a2.tmps[0]? = some (.pointer (some ⟨w.heap.size, 0, none⟩)) := hfx 0 (by intro j hj; show 12 + j ≠ 0; omega)
          have q1 : a2.tmps[1]? = some (.pointer (some ⟨w.heap.size + 1, 0, none⟩)) := hfx 1 (by intro j hj; show 12 + j ≠ 1; omega)
          have q2 : a2.tmps[2]? = some (.func (.func 53) #[] #[.pointer (some ⟨Br, 0, none⟩)]) := hfx 2 (by intro j hj; show 12 + j ≠ 2; omega)
          have q3 : a2.tmps[3]? = some (.slice A1 0 cap1) := hfx 3 (by intro j hj; show 12 + j ≠ 3; omega)
          have q4 : a2.tmps[4]? = some (.pointer (some ⟨Bx, 0, none⟩)) := hfx 4 (by intro j hj; show 12 + j ≠ 4; omega)
          have q5 : a2.tmps[5]? = some (.agg #[.int .u8 40, .int .i64 0, .string ⟨#[]⟩, .slice (some ⟨g, 0, none⟩) 2 2]) := hfx 5 (by intro j hj; show 12 + j ≠ 5; omega)
          have q6 : a2.tmps[6]? = some (.func (.func 53) #[] #[.pointer (some ⟨Br, 0, none⟩)]) := hfx 6 (by intro j hj; show 12 + j ≠ 6; omega)
          have q7 : a2.tmps[7]? = some (.func (.func 53) #[] #[.pointer (some ⟨Br, 0, none⟩)]) := hfx 7 (by intro j hj; show 12 + j ≠ 7; omega)
          have q8 : a2.tmps[8]? = some (.bool false) := hfx 8 (by intro j hj; show 12 + j ≠ 8; omega)
          have q9 : a2.tmps[9]? = some (.func (.func 53) #[] #[.pointer (some ⟨Br, 0, none⟩)]) := hfx 9 (by intro j hj; show 12 + j ≠ 9; omega)
          have q10 : a2.tmps[10]? = some (.slice A1 0 cap1) := hfx 10 (by intro j hj; show 12 + j ≠ 10; omega)
          have q11 : a2.tmps[11]? = some (.agg #[.int .u8 40, .int .i64 0, .string ⟨#[]⟩, .slice A 2 cap]) := hfx 11 (by intro j hj; show 12 + j ≠ 11; omega)
          have q52 : a2.tmps[52]? = some (undef) := hfx 52 (by intro j hj; show 12 + j ≠ 52; omega)
          have q53 : a2.tmps[53]? = some (undef) := hfx 53 (by intro j hj; show 12 + j ≠ 53; omega)
          have q54 : a2.tmps[54]? = some (undef) := hfx 54 (by intro j hj; show 12 + j ≠ 54; omega)
          have q55 : a2.tmps[55]? = some (undef) := hfx 55 (by intro j hj; show 12 + j ≠ 55; omega)
          have q56 : a2.tmps[56]? = some (undef) := hfx 56 (by intro j hj; show 12 + j ≠ 56; omega)
          have q57 : a2.tmps[57]? = some (undef) := hfx 57 (by intro j hj; show 12 + j ≠ 57; omega)
          have q58 : a2.tmps[58]? = some (undef) := hfx 58 (by intro j hj; show 12 + j ≠ 58; omega)
          have q59 : a2.tmps[59]? = some (undef) := hfx 59 (by intro j hj; show 12 + j ≠ 59; omega)
          have q60 : a2.tmps[60]? = some (undef) := hfx 60 (by intro j hj; show 12 + j ≠ 60; omega)
          have q61 : a2.tmps[61]? = some (undef) := hfx 61 (by intro j hj; show 12 + j ≠ 61; omega)
          have q62 : a2.tmps[62]? = some (undef) := hfx 62 (by intro j hj; show 12 + j ≠ 62; omega)
          have q63 : a2.tmps[63]? = some (undef) := hfx 63 (by intro j hj; show 12 + j ≠ 63; omega)
          have q64 : a2.tmps[64]? = some (undef) := hfx 64 (by intro j hj; show 12 + j ≠ 64; omega)
          have q65 : a2.tmps[65]? = some (undef) := hfx 65 (by intro j hj; show 12 + j ≠ 65; omega)
          have q66 : a2.tmps[66]? = some (undef) := hfx 66 (by intro j hj; show 12 + j ≠ 66; omega)
          have q67 : a2.tmps[67]? = some (undef) := hfx 67 (by intro j hj; show 12 + j ≠ 67; omega)
          have q68 : a2.tmps[68]? = some (undef) := hfx 68 (by intro j hj; show 12 + j ≠ 68; omega)
          have q69 : a2.tmps[69]? = some (undef) := hfx 69 (by intro j hj; show 12 + j ≠ 69; omega)
          have q70 : a2.tmps[70]? = some (undef) := hfx 70 (by intro j hj; show 12 + j ≠ 70; omega)
          have q71 : a2.tmps[71]? = some (undef) := hfx 71 (by intro j hj; show 12 + j ≠ 71; omega)
          have q72 : a2.tmps[72]? = some (undef) := hfx 72 (by intro j hj; show 12 + j ≠ 72; omega)
          have q73 : a2.tmps[73]? = some (undef) := hfx 73 (by intro j hj; show 12 + j ≠ 73; omega)
          have q74 : a2.tmps[74]? = some (undef) := hfx 74 (by intro j hj; show 12 + j ≠ 74; omega)
          have q75 : a2.tmps[75]? = some (undef) := hfx 75 (by intro j hj; show 12 + j ≠ 75; omega)
          have q76 : a2.tmps[76]? = some (undef) := hfx 76 (by intro j hj; show 12 + j ≠ 76; omega)
          have q77 : a2.tmps[77]? = some (undef) := hfx 77 (by intro j hj; show 12 + j ≠ 77; omega)
          have q78 : a2.tmps[78]? = some (undef) := hfx 78 (by intro j hj; show 12 + j ≠ 78; omega)
          have q79 : a2.tmps[79]? = some (undef) := hfx 79 (by intro j hj; show 12 + j ≠ 79; omega)
          have ha : a2 = { tmps := #[.pointer (some ⟨w.heap.size, 0, none⟩), .pointer (some ⟨w.heap.size + 1, 0, none⟩), .func (.func 53) #[] #[.pointer (some ⟨Br, 0, none⟩)], .slice A1 0 cap1, .pointer (some ⟨Bx, 0, none⟩), .agg #[.int .u8 40, .int .i64 0, .string ⟨#[]⟩, .slice (some ⟨g, 0, none⟩) 2 2], .func (.func 53) #[] #[.pointer (some ⟨Br, 0, none⟩)], .func (.func 53) #[] #[.pointer (some ⟨Br, 0, none⟩)], .bool false, .func (.func 53) #[] #[.pointer (some ⟨Br, 0, none⟩)], .slice A1 0 cap1, .agg #[.int .u8 40, .int .i64 0, .string ⟨#[]⟩, .slice A 2 cap], .int .i64 0, .bool false, .bool false, .int .i64 0, .bool true, .bool true, .slice A1 0 cap1, .int .i64 0, .bool false, .bool false, .bool false, .bool false, .int .i64 0, .bool false, .bool false, undef, undef, undef, undef, undef, undef, undef, undef, undef, undef, undef, undef, undef, undef, undef, undef, undef, undef, undef, undef, undef, undef, undef, .bool false, .bool false, undef, undef, undef, undef, undef, undef, undef, undef, undef, undef, undef, undef, undef, undef, undef, undef, undef, undef, undef, undef, undef, undef, undef, undef, undef, undef, undef, undef], defers := [] } := by
            obtain ⟨tm, df⟩ := a2
            have hdf' : df = [] := hdf
            subst hdf'
            congr 1
            refine (arr_lit tm 80 hs).trans ?_
            show #[tm.getD 0 undef, tm.getD 1 undef, tm.getD 2 undef, tm.getD 3 undef, tm.getD 4 undef, tm.getD 5 undef, tm.getD 6 undef, tm.getD 7 undef, tm.getD 8 undef, tm.getD 9 undef, tm.getD 10 undef, tm.getD 11 undef, tm.getD 12 undef, tm.getD 13 undef, tm.getD 14 undef, tm.getD 15 undef, tm.getD 16 undef, tm.getD 17 undef, tm.getD 18 undef, tm.getD 19 undef, tm.getD 20 undef, tm.getD 21 undef, tm.getD 22 undef, tm.getD 23 undef, tm.getD 24 undef, tm.getD 25 undef, tm.getD 26 undef, tm.getD 27 undef, tm.getD 28 undef, tm.getD 29 undef, tm.getD 30 undef, tm.getD 31 undef, tm.getD 32 undef, tm.getD 33 undef, tm.getD 34 undef, tm.getD 35 undef, tm.getD 36 undef, tm.getD 37 undef, tm.getD 38 undef, tm.getD 39 undef, tm.getD 40 undef, tm.getD 41 undef, tm.getD 42 undef, tm.getD 43 undef, tm.getD 44 undef, tm.getD 45 undef, tm.getD 46 undef, tm.getD 47 undef, tm.getD 48 undef, tm.getD 49 undef, tm.getD 50 undef, tm.getD 51 undef, tm.getD 52 undef, tm.getD 53 undef, tm.getD 54 undef, tm.getD 55 undef, tm.getD 56 undef, tm.getD 57 undef, tm.getD 58 undef, tm.getD 59 undef, tm.getD 60 undef, tm.getD 61 undef, tm.getD 62 undef, tm.getD 63 undef, tm.getD 64 undef, tm.getD 65 undef, tm.getD 66 undef, tm.getD 67 undef, tm.getD 68 undef, tm.getD 69 undef, tm.getD 70 undef, tm.getD 71 undef, tm.getD 72 undef, tm.getD 73 undef, tm.getD 74 undef, tm.getD 75 undef, tm.getD 76 undef, tm.getD 77 undef, tm.getD 78 undef, tm.getD 79 undef] = _
            simp only [Array.getD_eq_getD_getElem?] 
            simp only [q0, q1, q2, q3, q4, q5, q6, q7, q8, q9, q10, q11, h0, h1, h2, h3, h4, h5, h6, h7, h8, h9, h10, h11, h12, h13, h14, h15, h16, h17, h18, h19, h20, h21, h22, h23, h24, h25, h26, h27, h28, h29, h30, h31, h32, h33, h34, h35, h36, h37, h38, h39, q52, q53, q54, q55, q56, q57, q58, q59, q60, q61, q62, q63, q64, q65, q66, q67, q68, q69, q70, q71, q72, q73, q74, q75, q76, q77, q78, q79, Option.getD_some]
          subst ha
          clear hs hdf hfx hph q0 q1 q2 q3 q4 q5 q6 q7 q8 q9 q10 q11 q52 q53 q54 q55 q56 q57 q58 q59 q60 q61 q62 q63 q64 q65 q66 q67 q68 q69 q70 q71 q72 q73 q74 q75 q76 q77 q78 q79 h0 h1 h2 h3 h4 h5 h6 h7 h8 h9 h10 h11 h12 h13 h14 h15 h16 h17 h18 h19 h20 h21 h22 h23 h24 h25 h26 h27 h28 h29 h30 h31 h32 h33 h34 h35 h36 h37 h38 h39
          have hkv := (hV.block _ HK.out.lt).trans HK.out.1
          have kc := cell_of_row _ _ 0 _ _ _ hkv
          have kf := frozen_of_row _ _ 0 _ _ hkv
          simp only [List.getElem?_toArray, List.getElem?_cons_zero] at kc
          have HV := Lib.hid hV
          have HKV := Lib.hid hkv
          clear hV hkv
          gi_wp2_with fail
          exact aw_end HKP.out HZ.out HK.out HV.out HKV.out rfl
    · obtain ⟨A1, cap1, rfl, _, _, _, hpc⟩ := hints
      obtain ⟨pb, po, rfl, hpo, hpc0⟩ := hpc 0 (by simp)
      have hk' : Mine O W (w.heap.size + 1) (.cells #[.int .i64 1] 3 (0, 0)) := hk
      have k0 : W.cell? ⟨w.heap.size + 1, 0, none⟩ = some (.int .i64 1) := cell_of_row _ _ 0 _ _ _ hk'.1
      have k1 := frozen_of_row _ _ 0 _ _ hk'.1
      have n0 : W.cell? ⟨Bx, 0, none⟩ = some (.int .u8 2) := cell_of_row _ _ 0 _ _ _ hmx.1
      have p0 : W.cell? ⟨pb, po, none⟩ = some (.int .i64 0) := hpc0
      have HZ := Lib.hid hz
      have HKP := Lib.hid hkeep
      have HK := Lib.hid hk'
      have HP0 := Lib.hid hpo
      have HMX := Lib.hid hmx
      have hmo : Try.prog.follows .mixedOrders = true := by kernel_rfl
      have hfn : ∀ f, (Fence.wide.inRound l).fn f := fun _ => trivial
      clear hz hk hkeep hk' hpc hpc0 hpo hmx
      gi_wp2_with fail
      refine region_all (N := 40) (s := fun i => 12 + i) hmo rfl (by kernel_rfl) (fun V => Below W.heap.size W V) (Specs (awSpec1 pb po cap1 Bx)) (by intro j hj; simp; omega) (by intro i j _ _ e; simp at e; omega) (Below.refl _ W).drew ?steps ?fin
      case steps =>
        show AllFrom _ 0 (_ :: _)
        refine AllFrom.cons (fun listed a2 V h hi hd => ?_) ?_
        · have f1 : a2.tmps[1]? = some (.pointer (some ⟨w.heap.size + 1, 0, none⟩)) := h.fixed 1 (by intro j hj; show 12 + j ≠ 1; omega)
          have kc := (h.cw.cell (p := ⟨w.heap.size + 1, 0, none⟩) HK.out.lt).trans k0
          exact RInv.pure (v := .int .i64 1) h hi rfl (wanted_none rfl) hfn (by intro c; simp) (by simp [execOp, f1, kc, go_sem, asAddr]) rfl
        refine AllFrom.cons (fun listed a2 V h hi hd => ?_) ?_
        · obtain ⟨u0, h0, e0⟩ := hd ⟨0, .data⟩ (by simp) rfl
          replace e0 : u0 = .int .i64 1 := e0
          subst e0
          replace h0 : a2.tmps[12]? = some _ := h0
          exact RInv.pure (v := .bool false) h hi rfl (wanted_none rfl) hfn (by intro c; simp) (by simp [execOp, h0, go_sem]) rfl
        refine AllFrom.cons (fun listed a2 V h hi hd => ?_) ?_
        · obtain ⟨u1, h1, e1⟩ := hd ⟨1, .data⟩ (by simp) rfl
          replace e1 : u1 = .bool false := e1
          subst e1
          replace h1 : a2.tmps[13]? = some _ := h1
          exact RInv.pure (v := .bool false) h hi rfl (wanted_none rfl) hfn (by intro c; simp) (by simp [execOp, h1, go_sem]) rfl
        refine AllFrom.cons (fun listed a2 V h hi hd => ?_) ?_
        · obtain ⟨u2, h2, e2⟩ := hd ⟨2, .guard⟩ (by simp) rfl
          replace e2 : u2 = .bool false := e2
          subst e2
          replace h2 : a2.tmps[14]? = some _ := h2
          have f1 : a2.tmps[1]? = some (.pointer (some ⟨w.heap.size + 1, 0, none⟩)) := h.fixed 1 (by intro j hj; show 12 + j ≠ 1; omega)
          have kc := (h.cw.cell (p := ⟨w.heap.size + 1, 0, none⟩) HK.out.lt).trans k0
          exact RInv.pure (v := .int .i64 1) h hi rfl (wanted_at rfl rfl h2 rfl) hfn (by intro c; simp) (by simp [execOp, f1, kc, go_sem, asAddr]) rfl
        refine AllFrom.cons (fun listed a2 V h hi hd => ?_) ?_
        · obtain ⟨u3, h3, e3⟩ := hd ⟨3, .data⟩ (by simp) rfl
          replace e3 : u3 = .int .i64 1 := e3
          subst e3
          replace h3 : a2.tmps[15]? = some _ := h3
          obtain ⟨u2, h2, e2⟩ := hd ⟨2, .guard⟩ (by simp) rfl
          replace e2 : u2 = .bool false := e2
          subst e2
          replace h2 : a2.tmps[14]? = some _ := h2
          exact RInv.pure (v := .bool false) h hi rfl (wanted_at rfl rfl h2 rfl) hfn (by intro c; simp) (by simp [execOp, h3, go_sem]) rfl
        refine AllFrom.cons (fun listed a2 V h hi hd => ?_) ?_
        · obtain ⟨u4, h4, e4⟩ := hd ⟨4, .data⟩ (by simp) rfl
          replace e4 : u4 = .bool false := e4
          subst e4
          replace h4 : a2.tmps[16]? = some _ := h4
          obtain ⟨u2, h2, e2⟩ := hd ⟨2, .chain⟩ (by simp) rfl
          replace e2 : u2 = .bool false := e2
          subst e2
          replace h2 : a2.tmps[14]? = some _ := h2
          exact RInv.pure (v := .bool false) h hi rfl (wanted_at rfl rfl h2 rfl) hfn (by intro c; simp) (by simp [execOp, h4, go_sem]) rfl
        refine AllFrom.cons (fun listed a2 V h hi hd => ?_) ?_
        · obtain ⟨u5, h5, e5⟩ := hd ⟨5, .guard⟩ (by simp) rfl
          replace e5 : u5 = .bool false := e5
          subst e5
          replace h5 : a2.tmps[17]? = some _ := h5
          exact RInv.skip h hi rfl (wanted_at rfl rfl h5 rfl) hfn rfl
        refine AllFrom.cons (fun listed a2 V h hi hd => ?_) ?_
        · obtain ⟨u6, h6, e6⟩ := hd ⟨6, .data⟩ (by simp) rfl
          replace e6 : u6 = undef := e6
          subst e6
          replace h6 : a2.tmps[18]? = some _ := h6
          obtain ⟨u5, h5, e5⟩ := hd ⟨5, .guard⟩ (by simp) rfl
          replace e5 : u5 = .bool false := e5
          subst e5
          replace h5 : a2.tmps[17]? = some _ := h5
          exact RInv.skip h hi rfl (wanted_at rfl rfl h5 rfl) hfn rfl
        refine AllFrom.cons (fun listed a2 V h hi hd => ?_) ?_
        · obtain ⟨u7, h7, e7⟩ := hd ⟨7, .data⟩ (by simp) rfl
          replace e7 : u7 = undef := e7
          subst e7
          replace h7 : a2.tmps[19]? = some _ := h7
          obtain ⟨u5, h5, e5⟩ := hd ⟨5, .guard⟩ (by simp) rfl
          replace e5 : u5 = .bool false := e5
          subst e5
          replace h5 : a2.tmps[17]? = some _ := h5
          exact RInv.skip h hi rfl (wanted_at rfl rfl h5 rfl) hfn rfl
        refine AllFrom.cons (fun listed a2 V h hi hd => ?_) ?_
        · obtain ⟨u5, h5, e5⟩ := hd ⟨5, .data⟩ (by simp) rfl
          replace e5 : u5 = .bool false := e5
          subst e5
          replace h5 : a2.tmps[17]? = some _ := h5
          obtain ⟨u8, h8, e8⟩ := hd ⟨8, .data⟩ (by simp) rfl
          replace e8 : u8 = undef := e8
          subst e8
          replace h8 : a2.tmps[20]? = some _ := h8
          obtain ⟨u2, h2, e2⟩ := hd ⟨2, .guard⟩ (by simp) rfl
          replace e2 : u2 = .bool false := e2
          subst e2
          replace h2 : a2.tmps[14]? = some _ := h2
          exact RInv.pure (v := .bool false) h hi rfl (wanted_at rfl rfl h2 rfl) hfn (by intro c; simp) (by simp [execOp, h5, go_sem]) rfl
        refine AllFrom.cons (fun listed a2 V h hi hd => ?_) ?_
        · obtain ⟨u2, h2, e2⟩ := hd ⟨2, .data⟩ (by simp) rfl
          replace e2 : u2 = .bool false := e2
          subst e2
          replace h2 : a2.tmps[14]? = some _ := h2
          obtain ⟨u9, h9, e9⟩ := hd ⟨9, .data⟩ (by simp) rfl
          replace e9 : u9 = .bool false := e9
          subst e9
          replace h9 : a2.tmps[21]? = some _ := h9
          exact RInv.pure (v := .bool false) h hi rfl (wanted_none rfl) hfn (by intro c; simp) (by simp [execOp, h2, h9, go_sem]) rfl
        refine AllFrom.cons (fun listed a2 V h hi hd => ?_) ?_
        · obtain ⟨u10, h10, e10⟩ := hd ⟨10, .data⟩ (by simp) rfl
          replace e10 : u10 = .bool false := e10
          subst e10
          replace h10 : a2.tmps[22]? = some _ := h10
          obtain ⟨u5, h5, e5⟩ := hd ⟨5, .chain⟩ (by simp) rfl
          replace e5 : u5 = .bool false := e5
          subst e5
          replace h5 : a2.tmps[17]? = some _ := h5
          exact RInv.pure (v := .bool false) h hi rfl (wanted_none rfl) hfn (by intro c; simp) (by simp [execOp, h10, go_sem]) rfl
        refine AllFrom.cons (fun listed a2 V h hi hd => ?_) ?_
        · obtain ⟨u11, h11, e11⟩ := hd ⟨11, .guard⟩ (by simp) rfl
          replace e11 : u11 = .bool false := e11
          subst e11
          replace h11 : a2.tmps[23]? = some _ := h11
          have f1 : a2.tmps[1]? = some (.pointer (some ⟨w.heap.size + 1, 0, none⟩)) := h.fixed 1 (by intro j hj; show 12 + j ≠ 1; omega)
          have kc := (h.cw.cell (p := ⟨w.heap.size + 1, 0, none⟩) HK.out.lt).trans k0
          exact RInv.pure (v := .int .i64 1) h hi rfl (wanted_at rfl rfl h11 rfl) hfn (by intro c; simp) (by simp [execOp, f1, kc, go_sem, asAddr]) rfl
        refine AllFrom.cons (fun listed a2 V h hi hd => ?_) ?_
        · obtain ⟨u12, h12, e12⟩ := hd ⟨12, .data⟩ (by simp) rfl
          replace e12 : u12 = .int .i64 1 := e12
          subst e12
          replace h12 : a2.tmps[24]? = some _ := h12
          obtain ⟨u11, h11, e11⟩ := hd ⟨11, .guard⟩ (by simp) rfl
          replace e11 : u11 = .bool false := e11
          subst e11
          replace h11 : a2.tmps[23]? = some _ := h11
          exact RInv.pure (v := .bool true) h hi rfl (wanted_at rfl rfl h11 rfl) hfn (by intro c; simp) (by simp [execOp, h12, go_sem]) rfl
        refine AllFrom.cons (fun listed a2 V h hi hd => ?_) ?_
        · obtain ⟨u13, h13, e13⟩ := hd ⟨13, .data⟩ (by simp) rfl
          replace e13 : u13 = .bool true := e13
          subst e13
          replace h13 : a2.tmps[25]? = some _ := h13
          obtain ⟨u11, h11, e11⟩ := hd ⟨11, .chain⟩ (by simp) rfl
          replace e11 : u11 = .bool false := e11
          subst e11
          replace h11 : a2.tmps[23]? = some _ := h11
          exact RInv.pure (v := .bool true) h hi rfl (wanted_at rfl rfl h11 rfl) hfn (by intro c; simp) (by simp [execOp, h13, go_sem]) rfl
        refine AllFrom.cons (fun listed a2 V h hi hd => ?_) ?_
        · obtain ⟨u14, h14, e14⟩ := hd ⟨14, .guard⟩ (by simp) rfl
          replace e14 : u14 = .bool true := e14
          subst e14
          replace h14 : a2.tmps[26]? = some _ := h14
          have f3 : a2.tmps[3]? = some (.slice (some ⟨pb, po, none⟩) 1 cap1) := h.fixed 3 (by intro j hj; show 12 + j ≠ 3; omega)
          exact RInv.pure (v := .slice (some ⟨pb, po, none⟩) 1 cap1) h hi rfl (wanted_at rfl rfl h14 rfl) hfn (by intro c; simp) (by simp [execOp, f3, go_sem]) rfl
        refine AllFrom.cons (fun listed a2 V h hi hd => ?_) ?_
        · obtain ⟨u15, h15, e15⟩ := hd ⟨15, .data⟩ (by simp) rfl
          replace e15 : u15 = .slice (some ⟨pb, po, none⟩) 1 cap1 := e15
          subst e15
          replace h15 : a2.tmps[27]? = some _ := h15
          obtain ⟨u14, h14, e14⟩ := hd ⟨14, .guard⟩ (by simp) rfl
          replace e14 : u14 = .bool true := e14
          subst e14
          replace h14 : a2.tmps[26]? = some _ := h14
          exact RInv.pure (v := .int .i64 1) h hi rfl (wanted_at rfl rfl h14 rfl) hfn (by intro c; simp) (by simp [execOp, h15, go_sem]) rfl
        refine AllFrom.cons (fun listed a2 V h hi hd => ?_) ?_
        · obtain ⟨u16, h16, e16⟩ := hd ⟨16, .data⟩ (by simp) rfl
          replace e16 : u16 = .int .i64 1 := e16
          subst e16
          replace h16 : a2.tmps[28]? = some _ := h16
          obtain ⟨u14, h14, e14⟩ := hd ⟨14, .guard⟩ (by simp) rfl
          replace e14 : u14 = .bool true := e14
          subst e14
          replace h14 : a2.tmps[26]? = some _ := h14
          exact RInv.pure (v := .bool false) h hi rfl (wanted_at rfl rfl h14 rfl) hfn (by intro c; simp) (by simp [execOp, h16, go_sem]) rfl
        refine AllFrom.cons (fun listed a2 V h hi hd => ?_) ?_
        · obtain ⟨u17, h17, e17⟩ := hd ⟨17, .data⟩ (by simp) rfl
          replace e17 : u17 = .bool false := e17
          subst e17
          replace h17 : a2.tmps[29]? = some _ := h17
          obtain ⟨u14, h14, e14⟩ := hd ⟨14, .chain⟩ (by simp) rfl
          replace e14 : u14 = .bool true := e14
          subst e14
          replace h14 : a2.tmps[26]? = some _ := h14
          exact RInv.pure (v := .bool false) h hi rfl (wanted_at rfl rfl h14 rfl) hfn (by intro c; simp) (by simp [execOp, h17, go_sem]) rfl
        refine AllFrom.cons (fun listed a2 V h hi hd => ?_) ?_
        · obtain ⟨u18, h18, e18⟩ := hd ⟨18, .guard⟩ (by simp) rfl
          replace e18 : u18 = .bool false := e18
          subst e18
          replace h18 : a2.tmps[30]? = some _ := h18
          have f3 : a2.tmps[3]? = some (.slice (some ⟨pb, po, none⟩) 1 cap1) := h.fixed 3 (by intro j hj; show 12 + j ≠ 3; omega)
          exact RInv.pure (v := .slice (some ⟨pb, po, none⟩) 1 cap1) h hi rfl (wanted_at rfl rfl h18 rfl) hfn (by intro c; simp) (by simp [execOp, f3, go_sem]) rfl
        refine AllFrom.cons (fun listed a2 V h hi hd => ?_) ?_
        · obtain ⟨u19, h19, e19⟩ := hd ⟨19, .data⟩ (by simp) rfl
          replace e19 : u19 = .slice (some ⟨pb, po, none⟩) 1 cap1 := e19
          subst e19
          replace h19 : a2.tmps[31]? = some _ := h19
          obtain ⟨u18, h18, e18⟩ := hd ⟨18, .guard⟩ (by simp) rfl
          replace e18 : u18 = .bool false := e18
          subst e18
          replace h18 : a2.tmps[30]? = some _ := h18
          exact RInv.pure (v := .pointer (some ⟨pb, po, none⟩)) h hi rfl (wanted_at rfl rfl h18 rfl) hfn (by intro c; simp) (by simp [execOp, h19, go_sem]) rfl
        refine AllFrom.cons (fun listed a2 V h hi hd => ?_) ?_
        · obtain ⟨u20, h20, e20⟩ := hd ⟨20, .data⟩ (by simp) rfl
          replace e20 : u20 = .pointer (some ⟨pb, po, none⟩) := e20
          subst e20
          replace h20 : a2.tmps[32]? = some _ := h20
          obtain ⟨u18, h18, e18⟩ := hd ⟨18, .guard⟩ (by simp) rfl
          replace e18 : u18 = .bool false := e18
          subst e18
          replace h18 : a2.tmps[30]? = some _ := h18
          have kc := (h.cw.cell (p := ⟨pb, po, none⟩) HP0.out.2).trans p0
          exact RInv.pure (v := .int .i64 0) h hi rfl (wanted_at rfl rfl h18 rfl) hfn (by intro c; simp) (by simp [execOp, h20, kc, go_sem, asAddr]) rfl
        refine AllFrom.cons (fun listed a2 V h hi hd => ?_) ?_
        · obtain ⟨u18, h18, e18⟩ := hd ⟨18, .guard⟩ (by simp) rfl
          replace e18 : u18 = .bool false := e18
          subst e18
          replace h18 : a2.tmps[30]? = some _ := h18
          have f1 : a2.tmps[1]? = some (.pointer (some ⟨w.heap.size + 1, 0, none⟩)) := h.fixed 1 (by intro j hj; show 12 + j ≠ 1; omega)
          have kc := (h.cw.cell (p := ⟨w.heap.size + 1, 0, none⟩) HK.out.lt).trans k0
          exact RInv.pure (v := .int .i64 1) h hi rfl (wanted_at rfl rfl h18 rfl) hfn (by intro c; simp) (by simp [execOp, f1, kc, go_sem, asAddr]) rfl
        refine AllFrom.cons (fun listed a2 V h hi hd => ?_) ?_
        · obtain ⟨u22, h22, e22⟩ := hd ⟨22, .data⟩ (by simp) rfl
          replace e22 : u22 = .int .i64 1 := e22
          subst e22
          replace h22 : a2.tmps[34]? = some _ := h22
          obtain ⟨u18, h18, e18⟩ := hd ⟨18, .guard⟩ (by simp) rfl
          replace e18 : u18 = .bool false := e18
          subst e18
          replace h18 : a2.tmps[30]? = some _ := h18
          exact RInv.pure (v := .int .i64 0) h hi rfl (wanted_at rfl rfl h18 rfl) hfn (by intro c; simp) (by simp [execOp, h22, go_sem]; rfl) rfl
        refine AllFrom.cons (fun listed a2 V h hi hd => ?_) ?_
        · obtain ⟨u21, h21, e21⟩ := hd ⟨21, .data⟩ (by simp) rfl
          replace e21 : u21 = .int .i64 0 := e21
          subst e21
          replace h21 : a2.tmps[33]? = some _ := h21
          obtain ⟨u23, h23, e23⟩ := hd ⟨23, .data⟩ (by simp) rfl
          replace e23 : u23 = .int .i64 0 := e23
          subst e23
          replace h23 : a2.tmps[35]? = some _ := h23
          obtain ⟨u18, h18, e18⟩ := hd ⟨18, .guard⟩ (by simp) rfl
          replace e18 : u18 = .bool false := e18
          subst e18
          replace h18 : a2.tmps[30]? = some _ := h18
          exact RInv.pure (v := .bool false) h hi rfl (wanted_at rfl rfl h18 rfl) hfn (by intro c; simp) (by simp [execOp, h21, h23, go_sem]) rfl
        refine AllFrom.cons (fun listed a2 V h hi hd => ?_) ?_
        · obtain ⟨u18, h18, e18⟩ := hd ⟨18, .data⟩ (by simp) rfl
          replace e18 : u18 = .bool false := e18
          subst e18
          replace h18 : a2.tmps[30]? = some _ := h18
          obtain ⟨u24, h24, e24⟩ := hd ⟨24, .data⟩ (by simp) rfl
          replace e24 : u24 = .bool false := e24
          subst e24
          replace h24 : a2.tmps[36]? = some _ := h24
          obtain ⟨u14, h14, e14⟩ := hd ⟨14, .guard⟩ (by simp) rfl
          replace e14 : u14 = .bool true := e14
          subst e14
          replace h14 : a2.tmps[26]? = some _ := h14
          exact RInv.pure (v := .bool false) h hi rfl (wanted_at rfl rfl h14 rfl) hfn (by intro c; simp) (by simp [execOp, h18, h24, go_sem]) rfl
        refine AllFrom.cons (fun listed a2 V h hi hd => ?_) ?_
        · obtain ⟨u25, h25, e25⟩ := hd ⟨25, .data⟩ (by simp) rfl
          replace e25 : u25 = .bool false := e25
          subst e25
          replace h25 : a2.tmps[37]? = some _ := h25
          obtain ⟨u18, h18, e18⟩ := hd ⟨18, .chain⟩ (by simp) rfl
          replace e18 : u18 = .bool false := e18
          subst e18
          replace h18 : a2.tmps[30]? = some _ := h18
          obtain ⟨u14, h14, e14⟩ := hd ⟨14, .guard⟩ (by simp) rfl
          replace e14 : u14 = .bool true := e14
          subst e14
          replace h14 : a2.tmps[26]? = some _ := h14
          exact RInv.pure (v := .bool false) h hi rfl (wanted_at rfl rfl h14 rfl) hfn (by intro c; simp) (by simp [execOp, h25, go_sem]) rfl
        refine AllFrom.cons (fun listed a2 V h hi hd => ?_) ?_
        · obtain ⟨u26, h26, e26⟩ := hd ⟨26, .guard⟩ (by simp) rfl
          replace e26 : u26 = .bool false := e26
          subst e26
          replace h26 : a2.tmps[38]? = some _ := h26
          have f4 : a2.tmps[4]? = some (.pointer (some ⟨Bx, 0, none⟩)) := h.fixed 4 (by intro j hj; show 12 + j ≠ 4; omega)
          exact RInv.pure (v := .pointer (some ⟨Bx, 0, none⟩)) h hi rfl (wanted_at rfl rfl h26 rfl) hfn (by intro c; simp) (by simp [execOp, f4, go_sem]) rfl
        refine AllFrom.cons (fun listed a2 V h hi hd => ?_) ?_
        · obtain ⟨u27, h27, e27⟩ := hd ⟨27, .data⟩ (by simp) rfl
          replace e27 : u27 = .pointer (some ⟨Bx, 0, none⟩) := e27
          subst e27
          replace h27 : a2.tmps[39]? = some _ := h27
          obtain ⟨u26, h26, e26⟩ := hd ⟨26, .guard⟩ (by simp) rfl
          replace e26 : u26 = .bool false := e26
          subst e26
          replace h26 : a2.tmps[38]? = some _ := h26
          have kc := (h.cw.cell (p := ⟨Bx, 0, none⟩) HMX.out.lt).trans n0
          exact RInv.pure (v := .int .u8 2) h hi rfl (wanted_at rfl rfl h26 rfl) hfn (by intro c; simp) (by simp [execOp, h27, kc, go_sem, asAddr]) rfl
        refine AllFrom.cons (fun listed a2 V h hi hd => ?_) ?_
        · obtain ⟨u26, h26, e26⟩ := hd ⟨26, .chain⟩ (by simp) rfl
          replace e26 : u26 = .bool false := e26
          subst e26
          replace h26 : a2.tmps[38]? = some _ := h26
          refine RInv.enter (f := 44) (args := #[]) h hi rfl (wanted_at rfl rfl h26 rfl) hfn (by intro c; simp) rfl (by simp [execOp, go_sem]) ?_
          refine (CallsIn.inRound l (callsIn_wide.2 (sample_any _))).mono ?_
          rintro e V2 ⟨g1, rfl, hg1, hcg1, hq1⟩
          exact ⟨_, rfl, h.cw.trans (hq1.mono h.cw.size), Specs.mono hq1, ⟨g1, rfl, hcg1⟩⟩
        refine AllFrom.cons (fun listed a2 V h hi hd => ?_) ?_
        · obtain ⟨u29, h29, e29⟩ := hd ⟨29, .data⟩ (by simp) rfl
          obtain ⟨g29, e29, G29⟩ : ∃ g29, u29 = .agg #[.int .u8 40, .int .i64 0, .string ⟨#[]⟩, .slice (some ⟨g29, 0, none⟩) 2 2] ∧ V.heap[g29]? = some (.cells #[.int .u8 2, .int .i64 0, .string ⟨#[120]⟩, .slice none 0 0, .int .u8 1, .int .i64 1, .string ⟨#[]⟩, .slice none 0 0] 24 (0, 0)) := e29
          subst e29
          replace h29 : a2.tmps[41]? = some _ := h29
          obtain ⟨u26, h26, e26⟩ := hd ⟨26, .guard⟩ (by simp) rfl
          replace e26 : u26 = .bool false := e26
          subst e26
          replace h26 : a2.tmps[38]? = some _ := h26
          exact RInv.pure (v := .slice (some ⟨g29, 0, none⟩) 2 2) h hi rfl (wanted_at rfl rfl h26 rfl) hfn (by intro c; simp) (by simp [execOp, h29, go_sem]; kernel_rfl) ⟨g29, rfl, G29⟩
        refine AllFrom.cons (fun listed a2 V h hi hd => ?_) ?_
        · obtain ⟨u26, h26, e26⟩ := hd ⟨26, .guard⟩ (by simp) rfl
          replace e26 : u26 = .bool false := e26
          subst e26
          replace h26 : a2.tmps[38]? = some _ := h26
          have f1 : a2.tmps[1]? = some (.pointer (some ⟨w.heap.size + 1, 0, none⟩)) := h.fixed 1 (by intro j hj; show 12 + j ≠ 1; omega)
          have kc := (h.cw.cell (p := ⟨w.heap.size + 1, 0, none⟩) HK.out.lt).trans k0
          exact RInv.pure (v := .int .i64 1) h hi rfl (wanted_at rfl rfl h26 rfl) hfn (by intro c; simp) (by simp [execOp, f1, kc, go_sem, asAddr]) rfl
        refine AllFrom.cons (fun listed a2 V h hi hd => ?_) ?_
        · obtain ⟨u31, h31, e31⟩ := hd ⟨31, .data⟩ (by simp) rfl
          replace e31 : u31 = .int .i64 1 := e31
          subst e31
          replace h31 : a2.tmps[43]? = some _ := h31
          obtain ⟨u26, h26, e26⟩ := hd ⟨26, .guard⟩ (by simp) rfl
          replace e26 : u26 = .bool false := e26
          subst e26
          replace h26 : a2.tmps[38]? = some _ := h26
          exact RInv.pure (v := .int .i64 0) h hi rfl (wanted_at rfl rfl h26 rfl) hfn (by intro c; simp) (by simp [execOp, h31, go_sem]; rfl) rfl
        refine AllFrom.cons (fun listed a2 V h hi hd => ?_) ?_
        · obtain ⟨u30, h30, e30⟩ := hd ⟨30, .data⟩ (by simp) rfl
          obtain ⟨g30, e30, G30⟩ : ∃ g30, u30 = .slice (some ⟨g30, 0, none⟩) 2 2 ∧ V.heap[g30]? = some (.cells #[.int .u8 2, .int .i64 0, .string ⟨#[120]⟩, .slice none 0 0, .int .u8 1, .int .i64 1, .string ⟨#[]⟩, .slice none 0 0] 24 (0, 0)) := e30
          subst e30
          replace h30 : a2.tmps[42]? = some _ := h30
          obtain ⟨u32, h32, e32⟩ := hd ⟨32, .data⟩ (by simp) rfl
          replace e32 : u32 = .int .i64 0 := e32
          subst e32
          replace h32 : a2.tmps[44]? = some _ := h32
          obtain ⟨u26, h26, e26⟩ := hd ⟨26, .guard⟩ (by simp) rfl
          replace e26 : u26 = .bool false := e26
          subst e26
          replace h26 : a2.tmps[38]? = some _ := h26
          exact RInv.pure (v := .pointer (some ⟨g30, 0, none⟩)) h hi rfl (wanted_at rfl rfl h26 rfl) hfn (by intro c; simp) (by simp [execOp, h30, h32, go_sem]) ⟨g30, rfl, G30⟩
        refine AllFrom.cons (fun listed a2 V h hi hd => ?_) ?_
        · obtain ⟨u33, h33, e33⟩ := hd ⟨33, .data⟩ (by simp) rfl
          obtain ⟨g33, e33, G33⟩ : ∃ g33, u33 = .pointer (some ⟨g33, 0, none⟩) ∧ V.heap[g33]? = some (.cells #[.int .u8 2, .int .i64 0, .string ⟨#[120]⟩, .slice none 0 0, .int .u8 1, .int .i64 1, .string ⟨#[]⟩, .slice none 0 0] 24 (0, 0)) := e33
          subst e33
          replace h33 : a2.tmps[45]? = some _ := h33
          obtain ⟨u26, h26, e26⟩ := hd ⟨26, .guard⟩ (by simp) rfl
          replace e26 : u26 = .bool false := e26
          subst e26
          replace h26 : a2.tmps[38]? = some _ := h26
          exact RInv.pure (v := .pointer (some ⟨g33, 0, none⟩)) h hi rfl (wanted_at rfl rfl h26 rfl) hfn (by intro c; simp) (by simp [execOp, h33, go_sem]) ⟨g33, rfl, G33⟩
        refine AllFrom.cons (fun listed a2 V h hi hd => ?_) ?_
        · obtain ⟨u34, h34, e34⟩ := hd ⟨34, .data⟩ (by simp) rfl
          obtain ⟨g34, e34, G34⟩ : ∃ g34, u34 = .pointer (some ⟨g34, 0, none⟩) ∧ V.heap[g34]? = some (.cells #[.int .u8 2, .int .i64 0, .string ⟨#[120]⟩, .slice none 0 0, .int .u8 1, .int .i64 1, .string ⟨#[]⟩, .slice none 0 0] 24 (0, 0)) := e34
          subst e34
          replace h34 : a2.tmps[46]? = some _ := h34
          obtain ⟨u26, h26, e26⟩ := hd ⟨26, .guard⟩ (by simp) rfl
          replace e26 : u26 = .bool false := e26
          subst e26
          replace h26 : a2.tmps[38]? = some _ := h26
          have kc := cell_of_row _ _ 0 _ _ _ G34
          simp only [List.getElem?_toArray, List.getElem?_cons_zero] at kc
          exact RInv.pure (v := .int .u8 2) h hi rfl (wanted_at rfl rfl h26 rfl) hfn (by intro c; simp) (by simp [execOp, h34, kc, go_sem, asAddr]) rfl
        refine AllFrom.cons (fun listed a2 V h hi hd => ?_) ?_
        · obtain ⟨u28, h28, e28⟩ := hd ⟨28, .data⟩ (by simp) rfl
          replace e28 : u28 = .int .u8 2 := e28
          subst e28
          replace h28 : a2.tmps[40]? = some _ := h28
          obtain ⟨u35, h35, e35⟩ := hd ⟨35, .data⟩ (by simp) rfl
          replace e35 : u35 = .int .u8 2 := e35
          subst e35
          replace h35 : a2.tmps[47]? = some _ := h35
          obtain ⟨u26, h26, e26⟩ := hd ⟨26, .guard⟩ (by simp) rfl
          replace e26 : u26 = .bool false := e26
          subst e26
          replace h26 : a2.tmps[38]? = some _ := h26
          exact RInv.pure (v := .bool false) h hi rfl (wanted_at rfl rfl h26 rfl) hfn (by intro c; simp) (by simp [execOp, h28, h35, go_sem]) rfl
        refine AllFrom.cons (fun listed a2 V h hi hd => ?_) ?_
        · obtain ⟨u26, h26, e26⟩ := hd ⟨26, .data⟩ (by simp) rfl
          replace e26 : u26 = .bool false := e26
          subst e26
          replace h26 : a2.tmps[38]? = some _ := h26
          obtain ⟨u36, h36, e36⟩ := hd ⟨36, .data⟩ (by simp) rfl
          replace e36 : u36 = .bool false := e36
          subst e36
          replace h36 : a2.tmps[48]? = some _ := h36
          obtain ⟨u14, h14, e14⟩ := hd ⟨14, .guard⟩ (by simp) rfl
          replace e14 : u14 = .bool true := e14
          subst e14
          replace h14 : a2.tmps[26]? = some _ := h14
          exact RInv.pure (v := .bool false) h hi rfl (wanted_at rfl rfl h14 rfl) hfn (by intro c; simp) (by simp [execOp, h26, h36, go_sem]) rfl
        refine AllFrom.cons (fun listed a2 V h hi hd => ?_) ?_
        · obtain ⟨u14, h14, e14⟩ := hd ⟨14, .data⟩ (by simp) rfl
          replace e14 : u14 = .bool true := e14
          subst e14
          replace h14 : a2.tmps[26]? = some _ := h14
          obtain ⟨u37, h37, e37⟩ := hd ⟨37, .data⟩ (by simp) rfl
          replace e37 : u37 = .bool false := e37
          subst e37
          replace h37 : a2.tmps[49]? = some _ := h37
          obtain ⟨u11, h11, e11⟩ := hd ⟨11, .guard⟩ (by simp) rfl
          replace e11 : u11 = .bool false := e11
          subst e11
          replace h11 : a2.tmps[23]? = some _ := h11
          exact RInv.pure (v := .bool false) h hi rfl (wanted_at rfl rfl h11 rfl) hfn (by intro c; simp) (by simp [execOp, h14, h37, go_sem]) rfl
        refine AllFrom.cons (fun listed a2 V h hi hd => ?_) ?_
        · obtain ⟨u11, h11, e11⟩ := hd ⟨11, .data⟩ (by simp) rfl
          replace e11 : u11 = .bool false := e11
          subst e11
          replace h11 : a2.tmps[23]? = some _ := h11
          obtain ⟨u38, h38, e38⟩ := hd ⟨38, .data⟩ (by simp) rfl
          replace e38 : u38 = .bool false := e38
          subst e38
          replace h38 : a2.tmps[50]? = some _ := h38
          exact RInv.pure (v := .bool false) h hi rfl (wanted_none rfl) hfn (by intro c; simp) (by simp [execOp, h11, h38, go_sem]) rfl
        exact trivial
      case fin =>
        rintro a2 V hV hs hdf hfx hph
        · obtain ⟨u0, h0, e0⟩ := hph 0 (by omega)
          replace e0 : u0 = .int .i64 1 := e0
          subst e0
          replace h0 : a2.tmps[12]? = some _ := h0
          obtain ⟨u1, h1, e1⟩ := hph 1 (by omega)
          replace e1 : u1 = .bool false := e1
          subst e1
          replace h1 : a2.tmps[13]? = some _ := h1
          obtain ⟨u2, h2, e2⟩ := hph 2 (by omega)
          replace e2 : u2 = .bool false := e2
          subst e2
          replace h2 : a2.tmps[14]? = some _ := h2
          obtain ⟨u3, h3, e3⟩ := hph 3 (by omega)
          replace e3 : u3 = .int .i64 1 := e3
          subst e3
          replace h3 : a2.tmps[15]? = some _ := h3
          obtain ⟨u4, h4, e4⟩ := hph 4 (by omega)
          replace e4 : u4 = .bool false := e4
          subst e4
          replace h4 : a2.tmps[16]? = some _ := h4
          obtain ⟨u5, h5, e5⟩ := hph 5 (by omega)
          replace e5 : u5 = .bool false := e5
          subst e5
          replace h5 : a2.tmps[17]? = some _ := h5
          obtain ⟨u6, h6, e6⟩ := hph 6 (by omega)
          replace e6 : u6 = undef := e6
          subst e6
          replace h6 : a2.tmps[18]? = some _ := h6
          obtain ⟨u7, h7, e7⟩ := hph 7 (by omega)
          replace e7 : u7 = undef := e7
          subst e7
          replace h7 : a2.tmps[19]? = some _ := h7
          obtain ⟨u8, h8, e8⟩ := hph 8 (by omega)
          replace e8 : u8 = undef := e8
          subst e8
          replace h8 : a2.tmps[20]? = some _ := h8
          obtain ⟨u9, h9, e9⟩ := hph 9 (by omega)
          replace e9 : u9 = .bool false := e9
          subst e9
          replace h9 : a2.tmps[21]? = some _ := h9
          obtain ⟨u10, h10, e10⟩ := hph 10 (by omega)
          replace e10 : u10 = .bool false := e10
          subst e10
          replace h10 : a2.tmps[22]? = some _ := h10
          obtain ⟨u11, h11, e11⟩ := hph 11 (by omega)
          replace e11 : u11 = .bool false := e11
          subst e11
          replace h11 : a2.tmps[23]? = some _ := h11
          obtain ⟨u12, h12, e12⟩ := hph 12 (by omega)
          replace e12 : u12 = .int .i64 1 := e12
          subst e12
          replace h12 : a2.tmps[24]? = some _ := h12
          obtain ⟨u13, h13, e13⟩ := hph 13 (by omega)
          replace e13 : u13 = .bool true := e13
          subst e13
          replace h13 : a2.tmps[25]? = some _ := h13
          obtain ⟨u14, h14, e14⟩ := hph 14 (by omega)
          replace e14 : u14 = .bool true := e14
          subst e14
          replace h14 : a2.tmps[26]? = some _ := h14
          obtain ⟨u15, h15, e15⟩ := hph 15 (by omega)
          replace e15 : u15 = .slice (some ⟨pb, po, none⟩) 1 cap1 := e15
          subst e15
          replace h15 : a2.tmps[27]? = some _ := h15
          obtain ⟨u16, h16, e16⟩ := hph 16 (by omega)
          replace e16 : u16 = .int .i64 1 := e16
          subst e16
          replace h16 : a2.tmps[28]? = some _ := h16
          obtain ⟨u17, h17, e17⟩ := hph 17 (by omega)
          replace e17 : u17 = .bool false := e17
          subst e17
          replace h17 : a2.tmps[29]? = some _ := h17
          obtain ⟨u18, h18, e18⟩ := hph 18 (by omega)
          replace e18 : u18 = .bool false := e18
          subst e18
          replace h18 : a2.tmps[30]? = some _ := h18
          obtain ⟨u19, h19, e19⟩ := hph 19 (by omega)
          replace e19 : u19 = .slice (some ⟨pb, po, none⟩) 1 cap1 := e19
          subst e19
          replace h19 : a2.tmps[31]? = some _ := h19
          obtain ⟨u20, h20, e20⟩ := hph 20 (by omega)
          replace e20 : u20 = .pointer (some ⟨pb, po, none⟩) := e20
          subst e20
          replace h20 : a2.tmps[32]? = some _ := h20
          obtain ⟨u21, h21, e21⟩ := hph 21 (by omega)
          replace e21 : u21 = .int .i64 0 := e21
          subst e21
          replace h21 : a2.tmps[33]? = some _ := h21
          obtain ⟨u22, h22, e22⟩ := hph 22 (by omega)
          replace e22 : u22 = .int .i64 1 := e22
          subst e22
          replace h22 : a2.tmps[34]? = some _ := h22
          obtain ⟨u23, h23, e23⟩ := hph 23 (by omega)
          replace e23 : u23 = .int .i64 0 := e23
          subst e23
          replace h23 : a2.tmps[35]? = some _ := h23
          obtain ⟨u24, h24, e24⟩ := hph 24 (by omega)
          replace e24 : u24 = .bool false := e24
          subst e24
          replace h24 : a2.tmps[36]? = some _ := h24
          obtain ⟨u25, h25, e25⟩ := hph 25 (by omega)
          replace e25 : u25 = .bool false := e25
          subst e25
          replace h25 : a2.tmps[37]? = some _ := h25
          obtain ⟨u26, h26, e26⟩ := hph 26 (by omega)
          replace e26 : u26 = .bool false := e26
          subst e26
          replace h26 : a2.tmps[38]? = some _ := h26
          obtain ⟨u27, h27, e27⟩ := hph 27 (by omega)
          replace e27 : u27 = .pointer (some ⟨Bx, 0, none⟩) := e27
          subst e27
          replace h27 : a2.tmps[39]? = some _ := h27
          obtain ⟨u28, h28, e28⟩ := hph 28 (by omega)
          replace e28 : u28 = .int .u8 2 := e28
          subst e28
          replace h28 : a2.tmps[40]? = some _ := h28
          obtain ⟨u29, h29, e29⟩ := hph 29 (by omega)
          obtain ⟨g29, e29, G29⟩ : ∃ g29, u29 = .agg #[.int .u8 40, .int .i64 0, .string ⟨#[]⟩, .slice (some ⟨g29, 0, none⟩) 2 2] ∧ V.heap[g29]? = some (.cells #[.int .u8 2, .int .i64 0, .string ⟨#[120]⟩, .slice none 0 0, .int .u8 1, .int .i64 1, .string ⟨#[]⟩, .slice none 0 0] 24 (0, 0)) := e29
          subst e29
          replace h29 : a2.tmps[41]? = some _ := h29
          obtain ⟨u30, h30, e30⟩ := hph 30 (by omega)
          obtain ⟨g30, e30, G30⟩ : ∃ g30, u30 = .slice (some ⟨g30, 0, none⟩) 2 2 ∧ V.heap[g30]? = some (.cells #[.int .u8 2, .int .i64 0, .string ⟨#[120]⟩, .slice none 0 0, .int .u8 1, .int .i64 1, .string ⟨#[]⟩, .slice none 0 0] 24 (0, 0)) := e30
          subst e30
          replace h30 : a2.tmps[42]? = some _ := h30
          obtain ⟨u31, h31, e31⟩ := hph 31 (by omega)
          replace e31 : u31 = .int .i64 1 := e31
          subst e31
          replace h31 : a2.tmps[43]? = some _ := h31
          obtain ⟨u32, h32, e32⟩ := hph 32 (by omega)
          replace e32 : u32 = .int .i64 0 := e32
          subst e32
          replace h32 : a2.tmps[44]? = some _ := h32
          obtain ⟨u33, h33, e33⟩ := hph 33 (by omega)
          obtain ⟨g33, e33, G33⟩ : ∃ g33, u33 = .pointer (some ⟨g33, 0, none⟩) ∧ V.heap[g33]? = some (.cells #[.int .u8 2, .int .i64 0, .string ⟨#[120]⟩, .slice none 0 0, .int .u8 1, .int .i64 1, .string ⟨#[]⟩, .slice none 0 0] 24 (0, 0)) := e33
          subst e33
          replace h33 : a2.tmps[45]? = some _ := h33
          obtain ⟨u34, h34, e34⟩ := hph 34 (by omega)
          obtain ⟨g34, e34, G34⟩ : ∃ g34, u34 = .pointer (some ⟨g34, 0, none⟩) ∧ V.heap[g34]? = some (.cells #[.int .u8 2, .int .i64 0, .string ⟨#[120]⟩, .slice none 0 0, .int .u8 1, .int .i64 1, .string ⟨#[]⟩, .slice none 0 0] 24 (0, 0)) := e34
          subst e34
          replace h34 : a2.tmps[46]? = some _ := h34
          obtain ⟨u35, h35, e35⟩ := hph 35 (by omega)
          replace e35 : u35 = .int .u8 2 := e35
          subst e35
          replace h35 : a2.tmps[47]? = some _ := h35
          obtain ⟨u36, h36, e36⟩ := hph 36 (by omega)
          replace e36 : u36 = .bool false := e36
          subst e36
          replace h36 : a2.tmps[48]? = some _ := h36
          obtain ⟨u37, h37, e37⟩ := hph 37 (by omega)
          replace e37 : u37 = .bool false := e37
          subst e37
          replace h37 : a2.tmps[49]? = some _ := h37
          obtain ⟨u38, h38, e38⟩ := hph 38 (by omega)
          replace e38 : u38 = .bool false := e38
          subst e38
          replace h38 : a2.tmps[50]? = some _ := h38
          obtain ⟨u39, h39, e39⟩ := hph 39 (by omega)
          replace e39 : u39 = .bool false := e39
          subst e39
          replace h39 : a2.tmps[51]? = some _ := h39
          have q0 : a2.tmps[0]? = some (.pointer (some ⟨w.heap.size, 0, none⟩)) := hfx 0 (by intro j hj; show 12 + j ≠ 0; omega)
          have q1 : a2.tmps[1]? = some (.pointer (some ⟨w.heap.size + 1, 0, none⟩)) := hfx 1 (by intro j hj; show 12 + j ≠ 1; omega)
          have q2 : a2.tmps[2]? = some (.func (.func 53) #[] #[.pointer (some ⟨Br, 0, none⟩)]) := hfx 2 (by intro j hj; show 12 + j ≠ 2; omega)
          have q3 : a2.tmps[3]? = some (.slice (some ⟨pb, po, none⟩) 1 cap1) := hfx 3 (by intro j hj; show 12 + j ≠ 3; omega)
          have q4 : a2.tmps[4]? = some (.pointer (some ⟨Bx, 0, none⟩)) := hfx 4 (by intro j hj; show 12 + j ≠ 4; omega)
          have q5 : a2.tmps[5]? = some (.agg #[.int .u8 40, .int .i64 0, .string ⟨#[]⟩, .slice (some ⟨g, 0, none⟩) 2 2]) := hfx 5 (by intro j hj; show 12 + j ≠ 5; omega)
          have q6 : a2.tmps[6]? = some (.func (.func 53) #[] #[.pointer (some ⟨Br, 0, none⟩)]) := hfx 6 (by intro j hj; show 12 + j ≠ 6; omega)
          have q7 : a2.tmps[7]? = some (.func (.func 53) #[] #[.pointer (some ⟨Br, 0, none⟩)]) := hfx 7 (by intro j hj; show 12 + j ≠ 7; omega)
          have q8 : a2.tmps[8]? = some (.bool false) := hfx 8 (by intro j hj; show 12 + j ≠ 8; omega)
          have q9 : a2.tmps[9]? = some (.func (.func 53) #[] #[.pointer (some ⟨Br, 0, none⟩)]) := hfx 9 (by intro j hj; show 12 + j ≠ 9; omega)
          have q10 : a2.tmps[10]? = some (.slice (some ⟨pb, po, none⟩) 1 cap1) := hfx 10 (by intro j hj; show 12 + j ≠ 10; omega)
          have q11 : a2.tmps[11]? = some (.agg #[.int .u8 2, .int .i64 0, .string ⟨#[120]⟩, .slice A 0 cap]) := hfx 11 (by intro j hj; show 12 + j ≠ 11; omega)
          have q52 : a2.tmps[52]? = some (undef) := hfx 52 (by intro j hj; show 12 + j ≠ 52; omega)
          have q53 : a2.tmps[53]? = some (undef) := hfx 53 (by intro j hj; show 12 + j ≠ 53; omega)
          have q54 : a2.tmps[54]? = some (undef) := hfx 54 (by intro j hj; show 12 + j ≠ 54; omega)
          have q55 : a2.tmps[55]? = some (undef) := hfx 55 (by intro j hj; show 12 + j ≠ 55; omega)
          have q56 : a2.tmps[56]? = some (undef) := hfx 56 (by intro j hj; show 12 + j ≠ 56; omega)
          have q57 : a2.tmps[57]? = some (undef) := hfx 57 (by intro j hj; show 12 + j ≠ 57; omega)
          have q58 : a2.tmps[58]? = some (undef) := hfx 58 (by intro j hj; show 12 + j ≠ 58; omega)
          have q59 : a2.tmps[59]? = some (undef) := hfx 59 (by intro j hj; show 12 + j ≠ 59; omega)
          have q60 : a2.tmps[60]? = some (undef) := hfx 60 (by intro j hj; show 12 + j ≠ 60; omega)
          have q61 : a2.tmps[61]? = some (undef) := hfx 61 (by intro j hj; show 12 + j ≠ 61; omega)
          have q62 : a2.tmps[62]? = some (undef) := hfx 62 (by intro j hj; show 12 + j ≠ 62; omega)
          have q63 : a2.tmps[63]? = some (undef) := hfx 63 (by intro j hj; show 12 + j ≠ 63; omega)
          have q64 : a2.tmps[64]? = some (undef) := hfx 64 (by intro j hj; show 12 + j ≠ 64; omega)
          have q65 : a2.tmps[65]? = some (undef) := hfx 65 (by intro j hj; show 12 + j ≠ 65; omega)
          have q66 : a2.tmps[66]? = some (undef) := hfx 66 (by intro j hj; show 12 + j ≠ 66; omega)
          have q67 : a2.tmps[67]? = some (undef) := hfx 67 (by intro j hj; show 12 + j ≠ 67; omega)
          have q68 : a2.tmps[68]? = some (undef) := hfx 68 (by intro j hj; show 12 + j ≠ 68; omega)
          have q69 : a2.tmps[69]? = some (undef) := hfx 69 (by intro j hj; show 12 + j ≠ 69; omega)
          have q70 : a2.tmps[70]? = some (undef) := hfx 70 (by intro j hj; show 12 + j ≠ 70; omega)
          have q71 : a2.tmps[71]? = some (undef) := hfx 71 (by intro j hj; show 12 + j ≠ 71; omega)
          have q72 : a2.tmps[72]? = some (undef) := hfx 72 (by intro j hj; show 12 + j ≠ 72; omega)
          have q73 : a2.tmps[73]? = some (undef) := hfx 73 (by intro j hj; show 12 + j ≠ 73; omega)
          have q74 : a2.tmps[74]? = some (undef) := hfx 74 (by intro j hj; show 12 + j ≠ 74; omega)
          have q75 : a2.tmps[75]? = some (undef) := hfx 75 (by intro j hj; show 12 + j ≠ 75; omega)
          have q76 : a2.tmps[76]? = some (undef) := hfx 76 (by intro j hj; show 12 + j ≠ 76; omega)
          have q77 : a2.tmps[77]? = some (undef) := hfx 77 (by intro j hj; show 12 + j ≠ 77; omega)
          have q78 : a2.tmps[78]? = some (undef) := hfx 78 (by intro j hj; show 12 + j ≠ 78; omega)
          have q79 : a2.tmps[79]? = some (undef) := hfx 79 (by intro j hj; show 12 + j ≠ 79; omega)
          have ha : a2 = { tmps := #[.pointer (some ⟨w.heap.size, 0, none⟩), .pointer (some ⟨w.heap.size + 1, 0, none⟩), .func (.func 53) #[] #[.pointer (some ⟨Br, 0, none⟩)], .slice (some ⟨pb, po, none⟩) 1 cap1, .pointer (some ⟨Bx, 0, none⟩), .agg #[.int .u8 40, .int .i64 0, .string ⟨#[]⟩, .slice (some ⟨g, 0, none⟩) 2 2], .func (.func 53) #[] #[.pointer (some ⟨Br, 0, none⟩)], .func (.func 53) #[] #[.pointer (some ⟨Br, 0, none⟩)], .bool false, .func (.func 53) #[] #[.pointer (some ⟨Br, 0, none⟩)], .slice (some ⟨pb, po, none⟩) 1 cap1, .agg #[.int .u8 2, .int .i64 0, .string ⟨#[120]⟩, .slice A 0 cap], .int .i64 1, .bool false, .bool false, .int .i64 1, .bool false, .bool false, undef, undef, undef, .bool false, .bool false, .bool false, .int .i64 1, .bool true, .bool true, .slice (some ⟨pb, po, none⟩) 1 cap1, .int .i64 1, .bool false, .bool false, .slice (some ⟨pb, po, none⟩) 1 cap1, .pointer (some ⟨pb, po, none⟩), .int .i64 0, .int .i64 1, .int .i64 0, .bool false, .bool false, .bool false, .pointer (some ⟨Bx, 0, none⟩), .int .u8 2, .agg #[.int .u8 40, .int .i64 0, .string ⟨#[]⟩, .slice (some ⟨g29, 0, none⟩) 2 2], .slice (some ⟨g30, 0, none⟩) 2 2, .int .i64 1, .int .i64 0, .pointer (some ⟨g33, 0, none⟩), .pointer (some ⟨g34, 0, none⟩), .int .u8 2, .bool false, .bool false, .bool false, .bool false, undef, undef, undef, undef, undef, undef, undef, undef, undef, undef, undef, undef, undef, undef, undef, undef, undef, undef, undef, undef, undef, undef, undef, undef, undef, undef, undef, undef], defers := [] } := by
            obtain ⟨tm, df⟩ := a2
            have hdf' : df = [] := hdf
            subst hdf'
            congr 1
            refine (arr_lit tm 80 hs).trans ?_
            show #[tm.getD 0 undef, tm.getD 1 undef, tm.getD 2 undef, tm.getD 3 undef, tm.getD 4 undef, tm.getD 5 undef, tm.getD 6 undef, tm.getD 7 undef, tm.getD 8 undef, tm.getD 9 undef, tm.getD 10 undef, tm.getD 11 undef, tm.getD 12 undef, tm.getD 13 undef, tm.getD 14 undef, tm.getD 15 undef, tm.getD 16 undef, tm.getD 17 undef, tm.getD 18 undef, tm.getD 19 undef, tm.getD 20 undef, tm.getD 21 undef, tm.getD 22 undef, tm.getD 23 undef, tm.getD 24 undef, tm.getD 25 undef, tm.getD 26 undef, tm.getD 27 undef, tm.getD 28 undef, tm.getD 29 undef, tm.getD 30 undef, tm.getD 31 undef, tm.getD 32 undef, tm.getD 33 undef, tm.getD 34 undef, tm.getD 35 undef, tm.getD 36 undef, tm.getD 37 undef, tm.getD 38 undef, tm.getD 39 undef, tm.getD 40 undef, tm.getD 41 undef, tm.getD 42 undef, tm.getD 43 undef, tm.getD 44 undef, tm.getD 45 undef, tm.getD 46 undef, tm.getD 47 undef, tm.getD 48 undef, tm.getD 49 undef, tm.getD 50 undef, tm.getD 51 undef, tm.getD 52 undef, tm.getD 53 undef, tm.getD 54 undef, tm.getD 55 undef, tm.getD 56 undef, tm.getD 57 undef, tm.getD 58 undef, tm.getD 59 undef, tm.getD 60 undef, tm.getD 61 undef, tm.getD 62 undef, tm.getD 63 undef, tm.getD 64 undef, tm.getD 65 undef, tm.getD 66 undef, tm.getD 67 undef, tm.getD 68 undef, tm.getD 69 undef, tm.getD 70 undef, tm.getD 71 undef, tm.getD 72 undef, tm.getD 73 undef, tm.getD 74 undef, tm.getD 75 undef, tm.getD 76 undef, tm.getD 77 undef, tm.getD 78 undef, tm.getD 79 undef] = _
            simp only [Array.getD_eq_getD_getElem?] 
            simp only [q0, q1, q2, q3, q4, q5, q6, q7, q8, q9, q10, q11, h0, h1, h2, h3, h4, h5, h6, h7, h8, h9, h10, h11, h12, h13, h14, h15, h16, h17, h18, h19, h20, h21, h22, h23, h24, h25, h26, h27, h28, h29, h30, h31, h32, h33, h34, h35, h36, h37, h38, h39, q52, q53, q54, q55, q56, q57, q58, q59, q60, q61, q62, q63, q64, q65, q66, q67, q68, q69, q70, q71, q72, q73, q74, q75, q76, q77, q78, q79, Option.getD_some]
          subst ha
          clear hs hdf hfx hph q0 q1 q2 q3 q4 q5 q6 q7 q8 q9 q10 q11 q52 q53 q54 q55 q56 q57 q58 q59 q60 q61 q62 q63 q64 q65 q66 q67 q68 q69 q70 q71 q72 q73 q74 q75 q76 q77 q78 q79 h0 h1 h2 h3 h4 h5 h6 h7 h8 h9 h10 h11 h12 h13 h14 h15 h16 h17 h18 h19 h20 h21 h22 h23 h24 h25 h26 h27 h28 h29 h30 h31 h32 h33 h34 h35 h36 h37 h38 h39
          have hkv := (hV.block _ HK.out.lt).trans HK.out.1
          have kc := cell_of_row _ _ 0 _ _ _ hkv
          have kf := frozen_of_row _ _ 0 _ _ hkv
          simp only [List.getElem?_toArray, List.getElem?_cons_zero] at kc
          have HV := Lib.hid hV
          have HKV := Lib.hid hkv
          clear hV hkv
          gi_wp2_with fail
          exact aw_end HKP.out HZ.out HK.out HV.out HKV.out rfl
    · obtain ⟨A1, cap1, rfl, _, _, _, hpc⟩ := hints
      obtain ⟨pb, po, rfl, hpo, hpc0⟩ := hpc 0 (by simp)
      have hk' : Mine O W (w.heap.size + 1) (.cells #[.int .i64 2] 3 (0, 0)) := hk
      have k0 : W.cell? ⟨w.heap.size + 1, 0, none⟩ = some (.int .i64 2) := cell_of_row _ _ 0 _ _ _ hk'.1
      have k1 := frozen_of_row _ _ 0 _ _ hk'.1
      have n0 : W.cell? ⟨Bx, 0, none⟩ = some (.int .u8 1) := cell_of_row _ _ 0 _ _ _ hmx.1
      have p0 : W.cell? ⟨pb, po, none⟩ = some (.int .i64 1) := hpc0
      have HZ := Lib.hid hz
      have HKP := Lib.hid hkeep
      have HK := Lib.hid hk'
      have HP0 := Lib.hid hpo
      have HMX := Lib.hid hmx
      have hmo : Try.prog.follows .mixedOrders = true := by kernel_rfl
      have hfn : ∀ f, (Fence.wide.inRound l).fn f := fun _ => trivial
      clear hz hk hkeep hk' hpc hpc0 hpo hmx
      gi_wp2_with fail
      refine region_all (N := 40) (s := fun i => 12 + i) hmo rfl (by kernel_rfl) (fun V => Below W.heap.size W V) (Specs (awSpec2 pb po cap1 Bx)) (by intro j hj; simp; omega) (by intro i j _ _ e; simp at e; omega) (Below.refl _ W).drew ?steps ?fin
      case steps =>
        show AllFrom _ 0 (_ :: _)
        refine AllFrom.cons (fun listed a2 V h hi hd => ?_) ?_
        · have f1 : a2.tmps[1]? = some (.pointer (some ⟨w.heap.size + 1, 0, none⟩)) := h.fixed 1 (by intro j hj; show 12 + j ≠ 1; omega)
          have kc := (h.cw.cell (p := ⟨w.heap.size + 1, 0, none⟩) HK.out.lt).trans k0
          exact RInv.pure (v := .int .i64 2) h hi rfl (wanted_none rfl) hfn (by intro c; simp) (by simp [execOp, f1, kc, go_sem, asAddr]) rfl
        refine AllFrom.cons (fun listed a2 V h hi hd => ?_) ?_
        · obtain ⟨u0, h0, e0⟩ := hd ⟨0, .data⟩ (by simp) rfl
          replace e0 : u0 = .int .i64 2 := e0
          subst e0
          replace h0 : a2.tmps[12]? = some _ := h0
          exact RInv.pure (v := .bool false) h hi rfl (wanted_none rfl) hfn (by intro c; simp) (by simp [execOp, h0, go_sem]) rfl
        refine AllFrom.cons (fun listed a2 V h hi hd => ?_) ?_
        · obtain ⟨u1, h1, e1⟩ := hd ⟨1, .data⟩ (by simp) rfl
          replace e1 : u1 = .bool false := e1
          subst e1
          replace h1 : a2.tmps[13]? = some _ := h1
          exact RInv.pure (v := .bool false) h hi rfl (wanted_none rfl) hfn (by intro c; simp) (by simp [execOp, h1, go_sem]) rfl
        refine AllFrom.cons (fun listed a2 V h hi hd => ?_) ?_
        · obtain ⟨u2, h2, e2⟩ := hd ⟨2, .guard⟩ (by simp) rfl
          replace e2 : u2 = .bool false := e2
          subst e2
          replace h2 : a2.tmps[14]? = some _ := h2
          have f1 : a2.tmps[1]? = some (.pointer (some ⟨w.heap.size + 1, 0, none⟩)) := h.fixed 1 (by intro j hj; show 12 + j ≠ 1; omega)
          have kc := (h.cw.cell (p := ⟨w.heap.size + 1, 0, none⟩) HK.out.lt).trans k0
          exact RInv.pure (v := .int .i64 2) h hi rfl (wanted_at rfl rfl h2 rfl) hfn (by intro c; simp) (by simp [execOp, f1, kc, go_sem, asAddr]) rfl
        refine AllFrom.cons (fun listed a2 V h hi hd => ?_) ?_
        · obtain ⟨u3, h3, e3⟩ := hd ⟨3, .data⟩ (by simp) rfl
          replace e3 : u3 = .int .i64 2 := e3
          subst e3
          replace h3 : a2.tmps[15]? = some _ := h3
          obtain ⟨u2, h2, e2⟩ := hd ⟨2, .guard⟩ (by simp) rfl
          replace e2 : u2 = .bool false := e2
          subst e2
          replace h2 : a2.tmps[14]? = some _ := h2
          exact RInv.pure (v := .bool false) h hi rfl (wanted_at rfl rfl h2 rfl) hfn (by intro c; simp) (by simp [execOp, h3, go_sem]) rfl
        refine AllFrom.cons (fun listed a2 V h hi hd => ?_) ?_
        · obtain ⟨u4, h4, e4⟩ := hd ⟨4, .data⟩ (by simp) rfl
          replace e4 : u4 = .bool false := e4
          subst e4
          replace h4 : a2.tmps[16]? = some _ := h4
          obtain ⟨u2, h2, e2⟩ := hd ⟨2, .chain⟩ (by simp) rfl
          replace e2 : u2 = .bool false := e2
          subst e2
          replace h2 : a2.tmps[14]? = some _ := h2
          exact RInv.pure (v := .bool false) h hi rfl (wanted_at rfl rfl h2 rfl) hfn (by intro c; simp) (by simp [execOp, h4, go_sem]) rfl
        refine AllFrom.cons (fun listed a2 V h hi hd => ?_) ?_
        · obtain ⟨u5, h5, e5⟩ := hd ⟨5, .guard⟩ (by simp) rfl
          replace e5 : u5 = .bool false := e5
          subst e5
          replace h5 : a2.tmps[17]? = some _ := h5
          exact RInv.skip h hi rfl (wanted_at rfl rfl h5 rfl) hfn rfl
        refine AllFrom.cons (fun listed a2 V h hi hd => ?_) ?_
        · obtain ⟨u6, h6, e6⟩ := hd ⟨6, .data⟩ (by simp) rfl
          replace e6 : u6 = undef := e6
          subst e6
          replace h6 : a2.tmps[18]? = some _ := h6
          obtain ⟨u5, h5, e5⟩ := hd ⟨5, .guard⟩ (by simp) rfl
          replace e5 : u5 = .bool false := e5
          subst e5
          replace h5 : a2.tmps[17]? = some _ := h5
          exact RInv.skip h hi rfl (wanted_at rfl rfl h5 rfl) hfn rfl
        refine AllFrom.cons (fun listed a2 V h hi hd => ?_) ?_
        · obtain ⟨u7, h7, e7⟩ := hd ⟨7, .data⟩ (by simp) rfl
          replace e7 : u7 = undef := e7
          subst e7
          replace h7 : a2.tmps[19]? = some _ := h7
          obtain ⟨u5, h5, e5⟩ := hd ⟨5, .guard⟩ (by simp) rfl
          replace e5 : u5 = .bool false := e5
          subst e5
          replace h5 : a2.tmps[17]? = some _ := h5
          exact RInv.skip h hi rfl (wanted_at rfl rfl h5 rfl) hfn rfl
        refine AllFrom.cons (fun listed a2 V h hi hd => ?_) ?_
        · obtain ⟨u5, h5, e5⟩ := hd ⟨5, .data⟩ (by simp) rfl
          replace e5 : u5 = .bool false := e5
          subst e5
          replace h5 : a2.tmps[17]? = some _ := h5
          obtain ⟨u8, h8, e8⟩ := hd ⟨8, .data⟩ (by simp) rfl
          replace e8 : u8 = undef := e8
          subst e8
          replace h8 : a2.tmps[20]? = some _ := h8
          obtain ⟨u2, h2, e2⟩ := hd ⟨2, .guard⟩ (by simp) rfl
          replace e2 : u2 = .bool false := e2
          subst e2
          replace h2 : a2.tmps[14]? = some _ := h2
          exact RInv.pure (v := .bool false) h hi rfl (wanted_at rfl rfl h2 rfl) hfn (by intro c; simp) (by simp [execOp, h5, go_sem]) rfl
        refine AllFrom.cons (fun listed a2 V h hi hd => ?_) ?_
        · obtain ⟨u2, h2, e2⟩ := hd ⟨2, .data⟩ (by simp) rfl
          replace e2 : u2 = .bool false := e2
          subst e2
          replace h2 : a2.tmps[14]? = some _ := h2
          obtain ⟨u9, h9, e9⟩ := hd ⟨9, .data⟩ (by simp) rfl
          replace e9 : u9 = .bool false := e9
          subst e9
          replace h9 : a2.tmps[21]? = some _ := h9
          exact RInv.pure (v := .bool false) h hi rfl (wanted_none rfl) hfn (by intro c; simp) (by simp [execOp, h2, h9, go_sem]) rfl
        refine AllFrom.cons (fun listed a2 V h hi hd => ?_) ?_
        · obtain ⟨u10, h10, e10⟩ := hd ⟨10, .data⟩ (by simp) rfl
          replace e10 : u10 = .bool false := e10
          subst e10
          replace h10 : a2.tmps[22]? = some _ := h10
          obtain ⟨u5, h5, e5⟩ := hd ⟨5, .chain⟩ (by simp) rfl
          replace e5 : u5 = .bool false := e5
          subst e5
          replace h5 : a2.tmps[17]? = some _ := h5
          exact RInv.pure (v := .bool false) h hi rfl (wanted_none rfl) hfn (by intro c; simp) (by simp [execOp, h10, go_sem]) rfl
        refine AllFrom.cons (fun listed a2 V h hi hd => ?_) ?_
        · obtain ⟨u11, h11, e11⟩ := hd ⟨11, .guard⟩ (by simp) rfl
          replace e11 : u11 = .bool false := e11
          subst e11
          replace h11 : a2.tmps[23]? = some _ := h11
          have f1 : a2.tmps[1]? = some (.pointer (some ⟨w.heap.size + 1, 0, none⟩)) := h.fixed 1 (by intro j hj; show 12 + j ≠ 1; omega)
          have kc := (h.cw.cell (p := ⟨w.heap.size + 1, 0, none⟩) HK.out.lt).trans k0
          exact RInv.pure (v := .int .i64 2) h hi rfl (wanted_at rfl rfl h11 rfl) hfn (by intro c; simp) (by simp [execOp, f1, kc, go_sem, asAddr]) rfl
        refine AllFrom.cons (fun listed a2 V h hi hd => ?_) ?_
        · obtain ⟨u12, h12, e12⟩ := hd ⟨12, .data⟩ (by simp) rfl
          replace e12 : u12 = .int .i64 2 := e12
          subst e12
          replace h12 : a2.tmps[24]? = some _ := h12
          obtain ⟨u11, h11, e11⟩ := hd ⟨11, .guard⟩ (by simp) rfl
          replace e11 : u11 = .bool false := e11
          subst e11
          replace h11 : a2.tmps[23]? = some _ := h11
          exact RInv.pure (v := .bool true) h hi rfl (wanted_at rfl rfl h11 rfl) hfn (by intro c; simp) (by simp [execOp, h12, go_sem]) rfl
        refine AllFrom.cons (fun listed a2 V h hi hd => ?_) ?_
        · obtain ⟨u13, h13, e13⟩ := hd ⟨13, .data⟩ (by simp) rfl
          replace e13 : u13 = .bool true := e13
          subst e13
          replace h13 : a2.tmps[25]? = some _ := h13
          obtain ⟨u11, h11, e11⟩ := hd ⟨11, .chain⟩ (by simp) rfl
          replace e11 : u11 = .bool false := e11
          subst e11
          replace h11 : a2.tmps[23]? = some _ := h11
          exact RInv.pure (v := .bool true) h hi rfl (wanted_at rfl rfl h11 rfl) hfn (by intro c; simp) (by simp [execOp, h13, go_sem]) rfl
        refine AllFrom.cons (fun listed a2 V h hi hd => ?_) ?_
        · obtain ⟨u14, h14, e14⟩ := hd ⟨14, .guard⟩ (by simp) rfl
          replace e14 : u14 = .bool true := e14
          subst e14
          replace h14 : a2.tmps[26]? = some _ := h14
          have f3 : a2.tmps[3]? = some (.slice (some ⟨pb, po, none⟩) 1 cap1) := h.fixed 3 (by intro j hj; show 12 + j ≠ 3; omega)
          exact RInv.pure (v := .slice (some ⟨pb, po, none⟩) 1 cap1) h hi rfl (wanted_at rfl rfl h14 rfl) hfn (by intro c; simp) (by simp [execOp, f3, go_sem]) rfl
        refine AllFrom.cons (fun listed a2 V h hi hd => ?_) ?_
        · obtain ⟨u15, h15, e15⟩ := hd ⟨15, .data⟩ (by simp) rfl
          replace e15 : u15 = .slice (some ⟨pb, po, none⟩) 1 cap1 := e15
          subst e15
          replace h15 : a2.tmps[27]? = some _ := h15
          obtain ⟨u14, h14, e14⟩ := hd ⟨14, .guard⟩ (by simp) rfl
          replace e14 : u14 = .bool true := e14
          subst e14
          replace h14 : a2.tmps[26]? = some _ := h14
          exact RInv.pure (v := .int .i64 1) h hi rfl (wanted_at rfl rfl h14 rfl) hfn (by intro c; simp) (by simp [execOp, h15, go_sem]) rfl
        refine AllFrom.cons (fun listed a2 V h hi hd => ?_) ?_
        · obtain ⟨u16, h16, e16⟩ := hd ⟨16, .data⟩ (by simp) rfl
          replace e16 : u16 = .int .i64 1 := e16
          subst e16
          replace h16 : a2.tmps[28]? = some _ := h16
          obtain ⟨u14, h14, e14⟩ := hd ⟨14, .guard⟩ (by simp) rfl
          replace e14 : u14 = .bool true := e14
          subst e14
          replace h14 : a2.tmps[26]? = some _ := h14
          exact RInv.pure (v := .bool false) h hi rfl (wanted_at rfl rfl h14 rfl) hfn (by intro c; simp) (by simp [execOp, h16, go_sem]) rfl
        refine AllFrom.cons (fun listed a2 V h hi hd => ?_) ?_
        · obtain ⟨u17, h17, e17⟩ := hd ⟨17, .data⟩ (by simp) rfl
          replace e17 : u17 = .bool false := e17
          subst e17
          replace h17 : a2.tmps[29]? = some _ := h17
          obtain ⟨u14, h14, e14⟩ := hd ⟨14, .chain⟩ (by simp) rfl
          replace e14 : u14 = .bool true := e14
          subst e14
          replace h14 : a2.tmps[26]? = some _ := h14
          exact RInv.pure (v := .bool false) h hi rfl (wanted_at rfl rfl h14 rfl) hfn (by intro c; simp) (by simp [execOp, h17, go_sem]) rfl
        refine AllFrom.cons (fun listed a2 V h hi hd => ?_) ?_
        · obtain ⟨u18, h18, e18⟩ := hd ⟨18, .guard⟩ (by simp) rfl
          replace e18 : u18 = .bool false := e18
          subst e18
          replace h18 : a2.tmps[30]? = some _ := h18
          have f3 : a2.tmps[3]? = some (.slice (some ⟨pb, po, none⟩) 1 cap1) := h.fixed 3 (by intro j hj; show 12 + j ≠ 3; omega)
          exact RInv.pure (v := .slice (some ⟨pb, po, none⟩) 1 cap1) h hi rfl (wanted_at rfl rfl h18 rfl) hfn (by intro c; simp) (by simp [execOp, f3, go_sem]) rfl
        refine AllFrom.cons (fun listed a2 V h hi hd => ?_) ?_
        · obtain ⟨u19, h19, e19⟩ := hd ⟨19, .data⟩ (by simp) rfl
          replace e19 : u19 = .slice (some ⟨pb, po, none⟩) 1 cap1 := e19
          subst e19
          replace h19 : a2.tmps[31]? = some _ := h19
          obtain ⟨u18, h18, e18⟩ := hd ⟨18, .guard⟩ (by simp) rfl
          replace e18 : u18 = .bool false := e18
          subst e18
          replace h18 : a2.tmps[30]? = some _ := h18
          exact RInv.pure (v := .pointer (some ⟨pb, po, none⟩)) h hi rfl (wanted_at rfl rfl h18 rfl) hfn (by intro c; simp) (by simp [execOp, h19, go_sem]) rfl
        refine AllFrom.cons (fun listed a2 V h hi hd => ?_) ?_
        · obtain ⟨u20, h20, e20⟩ := hd ⟨20, .data⟩ (by simp) rfl
          replace e20 : u20 = .pointer (some ⟨pb, po, none⟩) := e20
          subst e20
          replace h20 : a2.tmps[32]? = some _ := h20
          obtain ⟨u18, h18, e18⟩ := hd ⟨18, .guard⟩ (by simp) rfl
          replace e18 : u18 = .bool false := e18
          subst e18
          replace h18 : a2.tmps[30]? = some _ := h18
          have kc := (h.cw.cell (p := ⟨pb, po, none⟩) HP0.out.2).trans p0
          exact RInv.pure (v := .int .i64 1) h hi rfl (wanted_at rfl rfl h18 rfl) hfn (by intro c; simp) (by simp [execOp, h20, kc, go_sem, asAddr]) rfl
        refine AllFrom.cons (fun listed a2 V h hi hd => ?_) ?_
        · obtain ⟨u18, h18, e18⟩ := hd ⟨18, .guard⟩ (by simp) rfl
          replace e18 : u18 = .bool false := e18
          subst e18
          replace h18 : a2.tmps[30]? = some _ := h18
          have f1 : a2.tmps[1]? = some (.pointer (some ⟨w.heap.size + 1, 0, none⟩)) := h.fixed 1 (by intro j hj; show 12 + j ≠ 1; omega)
          have kc := (h.cw.cell (p := ⟨w.heap.size + 1, 0, none⟩) HK.out.lt).trans k0
          exact RInv.pure (v := .int .i64 2) h hi rfl (wanted_at rfl rfl h18 rfl) hfn (by intro c; simp) (by simp [execOp, f1, kc, go_sem, asAddr]) rfl
        refine AllFrom.cons (fun listed a2 V h hi hd => ?_) ?_
        · obtain ⟨u22, h22, e22⟩ := hd ⟨22, .data⟩ (by simp) rfl
          replace e22 : u22 = .int .i64 2 := e22
          subst e22
          replace h22 : a2.tmps[34]? = some _ := h22
          obtain ⟨u18, h18, e18⟩ := hd ⟨18, .guard⟩ (by simp) rfl
          replace e18 : u18 = .bool false := e18
          subst e18
          replace h18 : a2.tmps[30]? = some _ := h18
          exact RInv.pure (v := .int .i64 1) h hi rfl (wanted_at rfl rfl h18 rfl) hfn (by intro c; simp) (by simp [execOp, h22, go_sem]; rfl) rfl
        refine AllFrom.cons (fun listed a2 V h hi hd => ?_) ?_
        · obtain ⟨u21, h21, e21⟩ := hd ⟨21, .data⟩ (by simp) rfl
          replace e21 : u21 = .int .i64 1 := e21
          subst e21
          replace h21 : a2.tmps[33]? = some _ := h21
          obtain ⟨u23, h23, e23⟩ := hd ⟨23, .data⟩ (by simp) rfl
          replace e23 : u23 = .int .i64 1 := e23
          subst e23
          replace h23 : a2.tmps[35]? = some _ := h23
          obtain ⟨u18, h18, e18⟩ := hd ⟨18, .guard⟩ (by simp) rfl
          replace e18 : u18 = .bool false := e18
          subst e18
          replace h18 : a2.tmps[30]? = some _ := h18
          exact RInv.pure (v := .bool false) h hi rfl (wanted_at rfl rfl h18 rfl) hfn (by intro c; simp) (by simp [execOp, h21, h23, go_sem]) rfl
        refine AllFrom.cons (fun listed a2 V h hi hd => ?_) ?_
        · obtain ⟨u18, h18, e18⟩ := hd ⟨18, .data⟩ (by simp) rfl
          replace e18 : u18 = .bool false := e18
          subst e18
          replace h18 : a2.tmps[30]? = some _ := h18
          obtain ⟨u24, h24, e24⟩ := hd ⟨24, .data⟩ (by simp) rfl
          replace e24 : u24 = .bool false := e24
          subst e24
          replace h24 : a2.tmps[36]? = some _ := h24
          obtain ⟨u14, h14, e14⟩ := hd ⟨14, .guard⟩ (by simp) rfl
          replace e14 : u14 = .bool true := e14
          subst e14
          replace h14 : a2.tmps[26]? = some _ := h14
          exact RInv.pure (v := .bool false) h hi rfl (wanted_at rfl rfl h14 rfl) hfn (by intro c; simp) (by simp [execOp, h18, h24, go_sem]) rfl
        refine AllFrom.cons (fun listed a2 V h hi hd => ?_) ?_
        · obtain ⟨u25, h25, e25⟩ := hd ⟨25, .data⟩ (by simp) rfl
          replace e25 : u25 = .bool false := e25
          subst e25
          replace h25 : a2.tmps[37]? = some _ := h25
          obtain ⟨u18, h18, e18⟩ := hd ⟨18, .chain⟩ (by simp) rfl
          replace e18 : u18 = .bool false := e18
          subst e18
          replace h18 : a2.tmps[30]? = some _ := h18
          obtain ⟨u14, h14, e14⟩ := hd ⟨14, .guard⟩ (by simp) rfl
          replace e14 : u14 = .bool true := e14
          subst e14
          replace h14 : a2.tmps[26]? = some _ := h14
          exact RInv.pure (v := .bool false) h hi rfl (wanted_at rfl rfl h14 rfl) hfn (by intro c; simp) (by simp [execOp, h25, go_sem]) rfl
        refine AllFrom.cons (fun listed a2 V h hi hd => ?_) ?_
        · obtain ⟨u26, h26, e26⟩ := hd ⟨26, .guard⟩ (by simp) rfl
          replace e26 : u26 = .bool false := e26
          subst e26
          replace h26 : a2.tmps[38]? = some _ := h26
          have f4 : a2.tmps[4]? = some (.pointer (some ⟨Bx, 0, none⟩)) := h.fixed 4 (by intro j hj; show 12 + j ≠ 4; omega)
          exact RInv.pure (v := .pointer (some ⟨Bx, 0, none⟩)) h hi rfl (wanted_at rfl rfl h26 rfl) hfn (by intro c; simp) (by simp [execOp, f4, go_sem]) rfl
        refine AllFrom.cons (fun listed a2 V h hi hd => ?_) ?_
        · obtain ⟨u27, h27, e27⟩ := hd ⟨27, .data⟩ (by simp) rfl
          replace e27 : u27 = .pointer (some ⟨Bx, 0, none⟩) := e27
          subst e27
          replace h27 : a2.tmps[39]? = some _ := h27
          obtain ⟨u26, h26, e26⟩ := hd ⟨26, .guard⟩ (by simp) rfl
          replace e26 : u26 = .bool false := e26
          subst e26
          replace h26 : a2.tmps[38]? = some _ := h26
          have kc := (h.cw.cell (p := ⟨Bx, 0, none⟩) HMX.out.lt).trans n0
          exact RInv.pure (v := .int .u8 1) h hi rfl (wanted_at rfl rfl h26 rfl) hfn (by intro c; simp) (by simp [execOp, h27, kc, go_sem, asAddr]) rfl
        refine AllFrom.cons (fun listed a2 V h hi hd => ?_) ?_
        · obtain ⟨u26, h26, e26⟩ := hd ⟨26, .chain⟩ (by simp) rfl
          replace e26 : u26 = .bool false := e26
          subst e26
          replace h26 : a2.tmps[38]? = some _ := h26
          refine RInv.enter (f := 44) (args := #[]) h hi rfl (wanted_at rfl rfl h26 rfl) hfn (by intro c; simp) rfl (by simp [execOp, go_sem]) ?_
          refine (CallsIn.inRound l (callsIn_wide.2 (sample_any _))).mono ?_
          rintro e V2 ⟨g1, rfl, hg1, hcg1, hq1⟩
          exact ⟨_, rfl, h.cw.trans (hq1.mono h.cw.size), Specs.mono hq1, ⟨g1, rfl, hcg1⟩⟩
        refine AllFrom.cons (fun listed a2 V h hi hd => ?_) ?_
        · obtain ⟨u29, h29, e29⟩ := hd ⟨29, .data⟩ (by simp) rfl
          obtain ⟨g29, e29, G29⟩ : ∃ g29, u29 = .agg #[.int .u8 40, .int .i64 0, .string ⟨#[]⟩, .slice (some ⟨g29, 0, none⟩) 2 2] ∧ V.heap[g29]? = some (.cells #[.int .u8 2, .int .i64 0, .string ⟨#[120]⟩, .slice none 0 0, .int .u8 1, .int .i64 1, .string ⟨#[]⟩, .slice none 0 0] 24 (0, 0)) := e29
          subst e29
          replace h29 : a2.tmps[41]? = some _ := h29
          obtain ⟨u26, h26, e26⟩ := hd ⟨26, .guard⟩ (by simp) rfl
          replace e26 : u26 = .bool false := e26
          subst e26
          replace h26 : a2.tmps[38]? = some _ := h26
          exact RInv.pure (v := .slice (some ⟨g29, 0, none⟩) 2 2) h hi rfl (wanted_at rfl rfl h26 rfl) hfn (by intro c; simp) (by simp [execOp, h29, go_sem]; kernel_rfl) ⟨g29, rfl, G29⟩
        refine AllFrom.cons (fun listed a2 V h hi hd => ?_) ?_
        · obtain ⟨u26, h26, e26⟩ := hd ⟨26, .guard⟩ (by simp) rfl
          replace e26 : u26 = .bool false := e26
          subst e26
          replace h26 : a2.tmps[38]? = some _ := h26
          have f1 : a2.tmps[1]? = some (.pointer (some ⟨w.heap.size + 1, 0, none⟩)) := h.fixed 1 (by intro j hj; show 12 + j ≠ 1; omega)
          have kc := (h.cw.cell (p := ⟨w.heap.size + 1, 0, none⟩) HK.out.lt).trans k0
          exact RInv.pure (v := .int .i64 2) h hi rfl (wanted_at rfl rfl h26 rfl) hfn (by intro c; simp) (by simp [execOp, f1, kc, go_sem, asAddr]) rfl
        refine AllFrom.cons (fun listed a2 V h hi hd => ?_) ?_
        · obtain ⟨u31, h31, e31⟩ := hd ⟨31, .data⟩ (by simp) rfl
          replace e31 : u31 = .int .i64 2 := e31
          subst e31
          replace h31 : a2.tmps[43]? = some _ := h31
          obtain ⟨u26, h26, e26⟩ := hd ⟨26, .guard⟩ (by simp) rfl
          replace e26 : u26 = .bool false := e26
          subst e26
          replace h26 : a2.tmps[38]? = some _ := h26
          exact RInv.pure (v := .int .i64 1) h hi rfl (wanted_at rfl rfl h26 rfl) hfn (by intro c; simp) (by simp [execOp, h31, go_sem]; rfl) rfl
        refine AllFrom.cons (fun listed a2 V h hi hd => ?_) ?_
        · obtain ⟨u30, h30, e30⟩ := hd ⟨30, .data⟩ (by simp) rfl
          obtain ⟨g30, e30, G30⟩ : ∃ g30, u30 = .slice (some ⟨g30, 0, none⟩) 2 2 ∧ V.heap[g30]? = some (.cells #[.int .u8 2, .int .i64 0, .string ⟨#[120]⟩, .slice none 0 0, .int .u8 1, .int .i64 1, .string ⟨#[]⟩, .slice none 0 0] 24 (0, 0)) := e30
          subst e30
          replace h30 : a2.tmps[42]? = some _ := h30
          obtain ⟨u32, h32, e32⟩ := hd ⟨32, .data⟩ (by simp) rfl
          replace e32 : u32 = .int .i64 1 := e32
          subst e32
          replace h32 : a2.tmps[44]? = some _ := h32
          obtain ⟨u26, h26, e26⟩ := hd ⟨26, .guard⟩ (by simp) rfl
          replace e26 : u26 = .bool false := e26
          subst e26
          replace h26 : a2.tmps[38]? = some _ := h26
          exact RInv.pure (v := .pointer (some ⟨g30, 4, none⟩)) h hi rfl (wanted_at rfl rfl h26 rfl) hfn (by intro c; simp) (by simp [execOp, h30, h32, go_sem]) ⟨g30, rfl, G30⟩
        refine AllFrom.cons (fun listed a2 V h hi hd => ?_) ?_
        · obtain ⟨u33, h33, e33⟩ := hd ⟨33, .data⟩ (by simp) rfl
          obtain ⟨g33, e33, G33⟩ : ∃ g33, u33 = .pointer (some ⟨g33, 4, none⟩) ∧ V.heap[g33]? = some (.cells #[.int .u8 2, .int .i64 0, .string ⟨#[120]⟩, .slice none 0 0, .int .u8 1, .int .i64 1, .string ⟨#[]⟩, .slice none 0 0] 24 (0, 0)) := e33
          subst e33
          replace h33 : a2.tmps[45]? = some _ := h33
          obtain ⟨u26, h26, e26⟩ := hd ⟨26, .guard⟩ (by simp) rfl
          replace e26 : u26 = .bool false := e26
          subst e26
          replace h26 : a2.tmps[38]? = some _ := h26
          exact RInv.pure (v := .pointer (some ⟨g33, 4, none⟩)) h hi rfl (wanted_at rfl rfl h26 rfl) hfn (by intro c; simp) (by simp [execOp, h33, go_sem]) ⟨g33, rfl, G33⟩
        refine AllFrom.cons (fun listed a2 V h hi hd => ?_) ?_
        · obtain ⟨u34, h34, e34⟩ := hd ⟨34, .data⟩ (by simp) rfl
          obtain ⟨g34, e34, G34⟩ : ∃ g34, u34 = .pointer (some ⟨g34, 4, none⟩) ∧ V.heap[g34]? = some (.cells #[.int .u8 2, .int .i64 0, .string ⟨#[120]⟩, .slice none 0 0, .int .u8 1, .int .i64 1, .string ⟨#[]⟩, .slice none 0 0] 24 (0, 0)) := e34
          subst e34
          replace h34 : a2.tmps[46]? = some _ := h34
          obtain ⟨u26, h26, e26⟩ := hd ⟨26, .guard⟩ (by simp) rfl
          replace e26 : u26 = .bool false := e26
          subst e26
          replace h26 : a2.tmps[38]? = some _ := h26
          have kc := cell_of_row _ _ 4 _ _ _ G34
          simp only [List.getElem?_toArray, List.getElem?_cons_zero, List.getElem?_cons_succ] at kc
          exact RInv.pure (v := .int .u8 1) h hi rfl (wanted_at rfl rfl h26 rfl) hfn (by intro c; simp) (by simp [execOp, h34, kc, go_sem, asAddr]) rfl
        refine AllFrom.cons (fun listed a2 V h hi hd => ?_) ?_
        · obtain ⟨u28, h28, e28⟩ := hd ⟨28, .data⟩ (by simp) rfl
          replace e28 : u28 = .int .u8 1 := e28
          subst e28
          replace h28 : a2.tmps[40]? = some _ := h28
          obtain ⟨u35, h35, e35⟩ := hd ⟨35, .data⟩ (by simp) rfl
          replace e35 : u35 = .int .u8 1 := e35
          subst e35
          replace h35 : a2.tmps[47]? = some _ := h35
          obtain ⟨u26, h26, e26⟩ := hd ⟨26, .guard⟩ (by simp) rfl
          replace e26 : u26 = .bool false := e26
          subst e26
          replace h26 : a2.tmps[38]? = some _ := h26
          exact RInv.pure (v := .bool false) h hi rfl (wanted_at rfl rfl h26 rfl) hfn (by intro c; simp) (by simp [execOp, h28, h35, go_sem]) rfl
        refine AllFrom.cons (fun listed a2 V h hi hd => ?_) ?_
        · obtain ⟨u26, h26, e26⟩ := hd ⟨26, .data⟩ (by simp) rfl
          replace e26 : u26 = .bool false := e26
          subst e26
          replace h26 : a2.tmps[38]? = some _ := h26
          obtain ⟨u36, h36, e36⟩ := hd ⟨36, .data⟩ (by simp) rfl
          replace e36 : u36 = .bool false := e36
          subst e36
          replace h36 : a2.tmps[48]? = some _ := h36
          obtain ⟨u14, h14, e14⟩ := hd ⟨14, .guard⟩ (by simp) rfl
          replace e14 : u14 = .bool true := e14
          subst e14
          replace h14 : a2.tmps[26]? = some _ := h14
          exact RInv.pure (v := .bool false) h hi rfl (wanted_at rfl rfl h14 rfl) hfn (by intro c; simp) (by simp [execOp, h26, h36, go_sem]) rfl
        refine AllFrom.cons (fun listed a2 V h hi hd => ?_) ?_
        · obtain ⟨u14, h14, e14⟩ := hd ⟨14, .data⟩ (by simp) rfl
          replace e14 : u14 = .bool true := e14
          subst e14
          replace h14 : a2.tmps[26]? = some _ := h14
          obtain ⟨u37, h37, e37⟩ := hd ⟨37, .data⟩ (by simp) rfl
          replace e37 : u37 = .bool false := e37
          subst e37
          replace h37 : a2.tmps[49]? = some _ := h37
          obtain ⟨u11, h11, e11⟩ := hd ⟨11, .guard⟩ (by simp) rfl
          replace e11 : u11 = .bool false := e11
          subst e11
          replace h11 : a2.tmps[23]? = some _ := h11
          exact RInv.pure (v := .bool false) h hi rfl (wanted_at rfl rfl h11 rfl) hfn (by intro c; simp) (by simp [execOp, h14, h37, go_sem]) rfl
        refine AllFrom.cons (fun listed a2 V h hi hd => ?_) ?_
        · obtain ⟨u11, h11, e11⟩ := hd ⟨11, .data⟩ (by simp) rfl
          replace e11 : u11 = .bool false := e11
          subst e11
          replace h11 : a2.tmps[23]? = some _ := h11
          obtain ⟨u38, h38, e38⟩ := hd ⟨38, .data⟩ (by simp) rfl
          replace e38 : u38 = .bool false := e38
          subst e38
          replace h38 : a2.tmps[50]? = some _ := h38
          exact RInv.pure (v := .bool false) h hi rfl (wanted_none rfl) hfn (by intro c; simp) (by simp [execOp, h11, h38, go_sem]) rfl
        exact trivial
      case fin =>
        rintro a2 V hV hs hdf hfx hph
        · obtain ⟨u0, h0, e0⟩ := hph 0 (by omega)
          replace e0 : u0 = .int .i64 2 := e0
          subst e0
          replace h0 : a2.tmps[12]? = some _ := h0
          obtain ⟨u1, h1, e1⟩ := hph 1 (by omega)
          replace e1 : u1 = .bool false := e1
          subst e1
          replace h1 : a2.tmps[13]? = some _ := h1
          obtain ⟨u2, h2, e2⟩ := hph 2 (by omega)
          replace e2 : u2 = .bool false := e2
          subst e2
          replace h2 : a2.tmps[14]? = some _ := h2
          obtain ⟨u3, h3, e3⟩ := hph 3 (by omega)
          replace e3 : u3 = .int .i64 2 := e3
          subst e3
          replace h3 : a2.tmps[15]? = some _ := h3
          obtain ⟨u4, h4, e4⟩ := hph 4 (by omega)
          replace e4 : u4 = .bool false := e4
          subst e4
          replace h4 : a2.tmps[16]? = some _ := h4
          obtain ⟨u5, h5, e5⟩ := hph 5 (by omega)
          replace e5 : u5 = .bool false := e5
          subst e5
          replace h5 : a2.tmps[17]? = some _ := h5
          obtain ⟨u6, h6, e6⟩ := hph 6 (by omega)
          replace e6 : u6 = undef := e6
          subst e6
          replace h6 : a2.tmps[18]? = some _ := h6
          obtain ⟨u7, h7, e7⟩ := hph 7 (by omega)
          replace e7 : u7 = undef := e7
          subst e7
          replace h7 : a2.tmps[19]? = some _ := h7
          obtain ⟨u8, h8, e8⟩ := hph 8 (by omega)
          replace e8 : u8 = undef := e8
          subst e8
          replace h8 : a2.tmps[20]? = some _ := h8
          obtain ⟨u9, h9, e9⟩ := hph 9 (by omega)
          replace e9 : u9 = .bool false := e9
          subst e9
          replace h9 : a2.tmps[21]? = some _ := h9
          obtain ⟨u10, h10, e10⟩ := hph 10 (by omega)
          replace e10 : u10 = .bool false := e10
          subst e10
          replace h10 : a2.tmps[22]? = some _ := h10
          obtain ⟨u11, h11, e11⟩ := hph 11 (by omega)
          replace e11 : u11 = .bool false := e11
          subst e11
          replace h11 : a2.tmps[23]? = some _ := h11
          obtain ⟨u12, h12, e12⟩ := hph 12 (by omega)
          replace e12 : u12 = .int .i64 2 := e12
          subst e12
          replace h12 : a2.tmps[24]? = some _ := h12
          obtain ⟨u13, h13, e13⟩ := hph 13 (by omega)
          replace e13 : u13 = .bool true := e13
          subst e13
          replace h13 : a2.tmps[25]? = some _ := h13
          obtain ⟨u14, h14, e14⟩ := hph 14 (by omega)
          replace e14 : u14 = .bool true := e14
          subst e14
          replace h14 : a2.tmps[26]? = some _ := h14
          obtain ⟨u15, h15, e15⟩ := hph 15 (by omega)
          replace e15 : u15 = .slice (some ⟨pb, po, none⟩) 1 cap1 := e15
          subst e15
          replace h15 : a2.tmps[27]? = some _ := h15
          obtain ⟨u16, h16, e16⟩ := hph 16 (by omega)
          replace e16 : u16 = .int .i64 1 := e16
          subst e16
          replace h16 : a2.tmps[28]? = some _ := h16
          obtain ⟨u17, h17, e17⟩ := hph 17 (by omega)
          replace e17 : u17 = .bool false := e17
          subst e17
          replace h17 : a2.tmps[29]? = some _ := h17
          obtain ⟨u18, h18, e18⟩ := hph 18 (by omega)
          replace e18 : u18 = .bool false := e18
          subst e18
          replace h18 : a2.tmps[30]? = some _ := h18
          obtain ⟨u19, h19, e19⟩ := hph 19 (by omega)
          replace e19 : u19 = .slice (some ⟨pb, po, none⟩) 1 cap1 := e19
          subst e19
          replace h19 : a2.tmps[31]? = some _ := h19
          obtain ⟨u20, h20, e20⟩ := hph 20 (by omega)
          replace e20 : u20 = .pointer (some ⟨pb, po, none⟩) := e20
          subst e20
          replace h20 : a2.tmps[32]? = some _ := h20
          obtain ⟨u21, h21, e21⟩ := hph 21 (by omega)
          replace e21 : u21 = .int .i64 1 := e21
          subst e21
          replace h21 : a2.tmps[33]? = some _ := h21
          obtain ⟨u22, h22, e22⟩ := hph 22 (by omega)
          replace e22 : u22 = .int .i64 2 := e22
          subst e22
          replace h22 : a2.tmps[34]? = some _ := h22
          obtain ⟨u23, h23, e23⟩ := hph 23 (by omega)
          replace e23 : u23 = .int .i64 1 := e23
          subst e23
          replace h23 : a2.tmps[35]? = some _ := h23
          obtain ⟨u24, h24, e24⟩ := hph 24 (by omega)
          replace e24 : u24 = .bool false := e24
          subst e24
          replace h24 : a2.tmps[36]? = some _ := h24
          obtain ⟨u25, h25, e25⟩ := hph 25 (by omega)
          replace e25 : u25 = .bool false := e25
          subst e25
          replace h25 : a2.tmps[37]? = some _ := h25
          obtain ⟨u26, h26, e26⟩ := hph 26 (by omega)
          replace e26 : u26 = .bool false := e26
          subst e26
          replace h26 : a2.tmps[38]? = some _ := h26
          obtain ⟨u27, h27, e27⟩ := hph 27 (by omega)
          replace e27 : u27 = .pointer (some ⟨Bx, 0, none⟩) := e27
          subst e27
          replace h27 : a2.tmps[39]? = some _ := h27
          obtain ⟨u28, h28, e28⟩ := hph 28 (by omega)
          replace e28 : u28 = .int .u8 1 := e28
          subst e28
          replace h28 : a2.tmps[40]? = some _ := h28
          obtain ⟨u29, h29, e29⟩ := hph 29 (by omega)
          obtain ⟨g29, e29, G29⟩ : ∃ g29, u29 = .agg #[.int .u8 40, .int .i64 0, .string ⟨#[]⟩, .slice (some ⟨g29, 0, none⟩) 2 2] ∧ V.heap[g29]? = some (.cells #[.int .u8 2, .int .i64 0, .string ⟨#[120]⟩, .slice none 0 0, .int .u8 1, .int .i64 1, .string ⟨#[]⟩, .slice none 0 0] 24 (0, 0)) := e29
          subst e29
          replace h29 : a2.tmps[41]? = some _ := h29
          obtain ⟨u30, h30, e30⟩ := hph 30 (by omega)
          obtain ⟨g30, e30, G30⟩ : ∃ g30, u30 = .slice (some ⟨g30, 0, none⟩) 2 2 ∧ V.heap[g30]? = some (.cells #[.int .u8 2, .int .i64 0, .string ⟨#[120]⟩, .slice none 0 0, .int .u8 1, .int .i64 1, .string ⟨#[]⟩, .slice none 0 0] 24 (0, 0)) := e30
          subst e30
          replace h30 : a2.tmps[42]? = some _ := h30
          obtain ⟨u31, h31, e31⟩ := hph 31 (by omega)
          replace e31 : u31 = .int .i64 2 := e31
          subst e31
          replace h31 : a2.tmps[43]? = some _ := h31
          obtain ⟨u32, h32, e32⟩ := hph 32 (by omega)
          replace e32 : u32 = .int .i64 1 := e32
          subst e32
          replace h32 : a2.tmps[44]? = some _ := h32
          obtain ⟨u33, h33, e33⟩ := hph 33 (by omega)
          obtain ⟨g33, e33, G33⟩ : ∃ g33, u33 = .pointer (some ⟨g33, 4, none⟩) ∧ V.heap[g33]? = some (.cells #[.int .u8 2, .int .i64 0, .string ⟨#[120]⟩, .slice none 0 0, .int .u8 1, .int .i64 1, .string ⟨#[]⟩, .slice none 0 0] 24 (0, 0)) := e33
          subst e33
          replace h33 : a2.tmps[45]? = some _ := h33
          obtain ⟨u34, h34, e34⟩ := hph 34 (by omega)
          obtain ⟨g34, e34, G34⟩ : ∃ g34, u34 = .pointer (some ⟨g34, 4, none⟩) ∧ V.heap[g34]? = some (.cells #[.int .u8 2, .int .i64 0, .string ⟨#[120]⟩, .slice none 0 0, .int .u8 1, .int .i64 1, .string ⟨#[]⟩, .slice none 0 0] 24 (0, 0)) := e34
          subst e34
          replace h34 : a2.tmps[46]? = some _ := h34
          obtain ⟨u35, h35, e35⟩ := hph 35 (by omega)
          replace e35 : u35 = .int .u8 1 := e35
          subst e35
          replace h35 : a2.tmps[47]? = some _ := h35
          obtain ⟨u36, h36, e36⟩ := hph 36 (by omega)
          replace e36 : u36 = .bool false := e36
          subst e36
          replace h36 : a2.tmps[48]? = some _ := h36
          obtain ⟨u37, h37, e37⟩ := hph 37 (by omega)
          replace e37 : u37 = .bool false := e37
          subst e37
          replace h37 : a2.tmps[49]? = some _ := h37
          obtain ⟨u38, h38, e38⟩ := hph 38 (by omega)
          replace e38 : u38 = .bool false := e38
          subst e38
          replace h38 : a2.tmps[50]? = some _ := h38
          obtain ⟨u39, h39, e39⟩ := hph 39 (by omega)
          replace e39 : u39 = .bool false := e39
          subst e39
          replace h39 : a2.tmps[51]? = some _ := h39
          have q0 : a2.tmps[0]? = some (.pointer (some ⟨w.heap.size, 0, none⟩)) := hfx 0 (by intro j hj; show 12 + j ≠ 0; omega)
          have q1 : a2.tmps[1]? = some (.pointer (some ⟨w.heap.size + 1, 0, none⟩)) := hfx 1 (by intro j hj; show 12 + j ≠ 1; omega)
          have q2 : a2.tmps[2]? = some (.func (.func 53) #[] #[.pointer (some ⟨Br, 0, none⟩)]) := hfx 2 (by intro j hj; show 12 + j ≠ 2; omega)
          have q3 : a2.tmps[3]? = some (.slice (some ⟨pb, po, none⟩) 1 cap1) := hfx 3 (by intro j hj; show 12 + j ≠ 3; omega)
          have q4 : a2.tmps[4]? = some (.pointer (some ⟨Bx, 0, none⟩)) := hfx 4 (by intro j hj; show 12 + j ≠ 4; omega)
          have q5 : a2.tmps[5]? = some (.agg #[.int .u8 40, .int .i64 0, .string ⟨#[]⟩, .slice (some ⟨g, 0, none⟩) 2 2]) := hfx 5 (by intro j hj; show 12 + j ≠ 5; omega)
          have q6 : a2.tmps[6]? = some (.func (.func 53) #[] #[.pointer (some ⟨Br, 0, none⟩)]) := hfx 6 (by intro j hj; show 12 + j ≠ 6; omega)
          have q7 : a2.tmps[7]? = some (.func (.func 53) #[] #[.pointer (some ⟨Br, 0, none⟩)]) := hfx 7 (by intro j hj; show 12 + j ≠ 7; omega)
          have q8 : a2.tmps[8]? = some (.bool false) := hfx 8 (by intro j hj; show 12 + j ≠ 8; omega)
          have q9 : a2.tmps[9]? = some (.func (.func 53) #[] #[.pointer (some ⟨Br, 0, none⟩)]) := hfx 9 (by intro j hj; show 12 + j ≠ 9; omega)
          have q10 : a2.tmps[10]? = some (.slice (some ⟨pb, po, none⟩) 1 cap1) := hfx 10 (by intro j hj; show 12 + j ≠ 10; omega)
          have q11 : a2.tmps[11]? = some (.agg #[.int .u8 1, .int .i64 1, .string ⟨#[]⟩, .slice A 0 cap]) := hfx 11 (by intro j hj; show 12 + j ≠ 11; omega)
          have q52 : a2.tmps[52]? = some (undef) := hfx 52 (by intro j hj; show 12 + j ≠ 52; omega)
          have q53 : a2.tmps[53]? = some (undef) := hfx 53 (by intro j hj; show 12 + j ≠ 53; omega)
          have q54 : a2.tmps[54]? = some (undef) := hfx 54 (by intro j hj; show 12 + j ≠ 54; omega)
          have q55 : a2.tmps[55]? = some (undef) := hfx 55 (by intro j hj; show 12 + j ≠ 55; omega)
          have q56 : a2.tmps[56]? = some (undef) := hfx 56 (by intro j hj; show 12 + j ≠ 56; omega)
          have q57 : a2.tmps[57]? = some (undef) := hfx 57 (by intro j hj; show 12 + j ≠ 57; omega)
          have q58 : a2.tmps[58]? = some (undef) := hfx 58 (by intro j hj; show 12 + j ≠ 58; omega)
          have q59 : a2.tmps[59]? = some (undef) := hfx 59 (by intro j hj; show 12 + j ≠ 59; omega)
          have q60 : a2.tmps[60]? = some (undef) := hfx 60 (by intro j hj; show 12 + j ≠ 60; omega)
          have q61 : a2.tmps[61]? = some (undef) := hfx 61 (by intro j hj; show 12 + j ≠ 61; omega)
          have q62 : a2.tmps[62]? = some (undef) := hfx 62 (by intro j hj; show 12 + j ≠ 62; omega)
          have q63 : a2.tmps[63]? = some (undef) := hfx 63 (by intro j hj; show 12 + j ≠ 63; omega)
          have q64 : a2.tmps[64]? = some (undef) := hfx 64 (by intro j hj; show 12 + j ≠ 64; omega)
          have q65 : a2.tmps[65]? = some (undef) := hfx 65 (by intro j hj; show 12 + j ≠ 65; omega)
          have q66 : a2.tmps[66]? = some (undef) := hfx 66 (by intro j hj; show 12 + j ≠ 66; omega)
          have q67 : a2.tmps[67]? = some (undef) := hfx 67 (by intro j hj; show 12 + j ≠ 67; omega)
          have q68 : a2.tmps[68]? = some (undef) := hfx 68 (by intro j hj; show 12 + j ≠ 68; omega)
          have q69 : a2.tmps[69]? = some (undef) := hfx 69 (by intro j hj; show 12 + j ≠ 69; omega)
          have q70 : a2.tmps[70]? = some (undef) := hfx 70 (by intro j hj; show 12 + j ≠ 70; omega)
          have q71 : a2.tmps[71]? = some (undef) := hfx 71 (by intro j hj; show 12 + j ≠ 71; omega)
          have q72 : a2.tmps[72]? = some (undef) := hfx 72 (by intro j hj; show 12 + j ≠ 72; omega)
          have q73 : a2.tmps[73]? = some (undef) := hfx 73 (by intro j hj; show 12 + j ≠ 73; omega)
          have q74 : a2.tmps[74]? = some (undef) := hfx 74 (by intro j hj; show 12 + j ≠ 74; omega)
          have q75 : a2.tmps[75]? = some (undef) := hfx 75 (by intro j hj; show 12 + j ≠ 75; omega)
          have q76 : a2.tmps[76]? = some (undef) := hfx 76 (by intro j hj; show 12 + j ≠ 76; omega)
          have q77 : a2.tmps[77]? = some (undef) := hfx 77 (by intro j hj; show 12 + j ≠ 77; omega)
          have q78 : a2.tmps[78]? = some (undef) := hfx 78 (by intro j hj; show 12 + j ≠ 78; omega)
          have q79 : a2.tmps[79]? = some (undef) := hfx 79 (by intro j hj; show 12 + j ≠ 79; omega)
          have ha : a2 = { tmps := #[.pointer (some ⟨w.heap.size, 0, none⟩), .pointer (some ⟨w.heap.size + 1, 0, none⟩), .func (.func 53) #[] #[.pointer (some ⟨Br, 0, none⟩)], .slice (some ⟨pb, po, none⟩) 1 cap1, .pointer (some ⟨Bx, 0, none⟩), .agg #[.int .u8 40, .int .i64 0, .string ⟨#[]⟩, .slice (some ⟨g, 0, none⟩) 2 2], .func (.func 53) #[] #[.pointer (some ⟨Br, 0, none⟩)], .func (.func 53) #[] #[.pointer (some ⟨Br, 0, none⟩)], .bool false, .func (.func 53) #[] #[.pointer (some ⟨Br, 0, none⟩)], .slice (some ⟨pb, po, none⟩) 1 cap1, .agg #[.int .u8 1, .int .i64 1, .string ⟨#[]⟩, .slice A 0 cap], .int .i64 2, .bool false, .bool false, .int .i64 2, .bool false, .bool false, undef, undef, undef, .bool false, .bool false, .bool false, .int .i64 2, .bool true, .bool true, .slice (some ⟨pb, po, none⟩) 1 cap1, .int .i64 1, .bool false, .bool false, .slice (some ⟨pb, po, none⟩) 1 cap1, .pointer (some ⟨pb, po, none⟩), .int .i64 1, .int .i64 2, .int .i64 1, .bool false, .bool false, .bool false, .pointer (some ⟨Bx, 0, none⟩), .int .u8 1, .agg #[.int .u8 40, .int .i64 0, .string ⟨#[]⟩, .slice (some ⟨g29, 0, none⟩) 2 2], .slice (some ⟨g30, 0, none⟩) 2 2, .int .i64 2, .int .i64 1, .pointer (some ⟨g33, 4, none⟩), .pointer (some ⟨g34, 4, none⟩), .int .u8 1, .bool false, .bool false, .bool false, .bool false, undef, undef, undef, undef, undef, undef, undef, undef, undef, undef, undef, undef, undef, undef, undef, undef, undef, undef, undef, undef, undef, undef, undef, undef, undef, undef, undef, undef], defers := [] } := by
            obtain ⟨tm, df⟩ := a2
            have hdf' : df = [] := hdf
            subst hdf'
            congr 1
            refine (arr_lit tm 80 hs).trans ?_
            show #[tm.getD 0 undef, tm.getD 1 undef, tm.getD 2 undef, tm.getD 3 undef, tm.getD 4 undef, tm.getD 5 undef, tm.getD 6 undef, tm.getD 7 undef, tm.getD 8 undef, tm.getD 9 undef, tm.getD 10 undef, tm.getD 11 undef, tm.getD 12 undef, tm.getD 13 undef, tm.getD 14 undef, tm.getD 15 undef, tm.getD 16 undef, tm.getD 17 undef, tm.getD 18 undef, tm.getD 19 undef, tm.getD 20 undef, tm.getD 21 undef, tm.getD 22 undef, tm.getD 23 undef, tm.getD 24 undef, tm.getD 25 undef, tm.getD 26 undef, tm.getD 27 undef, tm.getD 28 undef, tm.getD 29 undef, tm.getD 30 undef, tm.getD 31 undef, tm.getD 32 undef, tm.getD 33 undef, tm.getD 34 undef, tm.getD 35 undef, tm.getD 36 undef, tm.getD 37 undef, tm.getD 38 undef, tm.getD 39 undef, tm.getD 40 undef, tm.getD 41 undef, tm.getD 42 undef, tm.getD 43 undef, tm.getD 44 undef, tm.getD 45 undef, tm.getD 46 undef, tm.getD 47 undef, tm.getD 48 undef, tm.getD 49 undef, tm.getD 50 undef, tm.getD 51 undef, tm.getD 52 undef, tm.getD 53 undef, tm.getD 54 undef, tm.getD 55 undef, tm.getD 56 undef, tm.getD 57 undef, tm.getD 58 undef, tm.getD 59 undef, tm.getD 60 undef, tm.getD 61 undef, tm.getD 62 undef, tm.getD 63 undef, tm.getD 64 undef, tm.getD 65 undef, tm.getD 66 undef, tm.getD 67 undef, tm.getD 68 undef, tm.getD 69 undef, tm.getD 70 undef, tm.getD 71 undef, tm.getD 72 undef, tm.getD 73 undef, tm.getD 74 undef, tm.getD 75 undef, tm.getD 76 undef, tm.getD 77 undef, tm.getD 78 undef, tm.getD 79 undef] = _
            simp only [Array.getD_eq_getD_getElem?] 
            simp only [q0, q1, q2, q3, q4, q5, q6, q7, q8, q9, q10, q11, h0, h1, h2, h3, h4, h5, h6, h7, h8, h9, h10, h11, h12, h13, h14, h15, h16, h17, h18, h19, h20, h21, h22, h23, h24, h25, h26, h27, h28, h29, h30, h31, h32, h33, h34, h35, h36, h37, h38, h39, q52, q53, q54, q55, q56, q57, q58, q59, q60, q61, q62, q63, q64, q65, q66, q67, q68, q69, q70, q71, q72, q73, q74, q75, q76, q77, q78, q79, Option.getD_some]
          subst ha
          clear hs hdf hfx hph q0 q1 q2 q3 q4 q5 q6 q7 q8 q9 q10 q11 q52 q53 q54 q55 q56 q57 q58 q59 q60 q61 q62 q63 q64 q65 q66 q67 q68 q69 q70 q71 q72 q73 q74 q75 q76 q77 q78 q79 h0 h1 h2 h3 h4 h5 h6 h7 h8 h9 h10 h11 h12 h13 h14 h15 h16 h17 h18 h19 h20 h21 h22 h23 h24 h25 h26 h27 h28 h29 h30 h31 h32 h33 h34 h35 h36 h37 h38 h39
          have hkv := (hV.block _ HK.out.lt).trans HK.out.1
          have kc := cell_of_row _ _ 0 _ _ _ hkv
          have kf := frozen_of_row _ _ 0 _ _ hkv
          simp only [List.getElem?_toArray, List.getElem?_cons_zero] at kc
          have HV := Lib.hid hV
          have HKV := Lib.hid hkv
          clear hV hkv
          gi_wp2_with fail
          exact aw_end HKP.out HZ.out HK.out HV.out HKV.out rfl
  case done =>
    rintro D O W hOD hD ⟨hz, hk, hkeep⟩ hK
    have hlen : ((walkL [] sampleT).length : Int) = 3 := by rw [sample_walk]; rfl
    rw [hlen] at hk
    have k0 : W.cell? ⟨w.heap.size + 1, 0, none⟩ = some (.int .i64 3) := cell_of_row _ _ 0 _ _ _ hk.1
    have HZ := Lib.hid hz
    have HKP := Lib.hid hkeep
    have HKD := Lib.hid hK
    clear hz hk hkeep hK hlen
    gi_wp2_with fail
    refine (callsIn_wide.2 (sample_any _)).mono ?_
    rintro e v1 ⟨g1, rfl, hg1, hcg1, hq1⟩
    have HR1 := Lib.hid ((sample_rep hg1 hcg1).lt (B := v1.heap.size) (fun b hb => hb.2))
    have HQ1 := Lib.hid hq1
    clear hcg1 hq1
    gi_wp2_with fail
    refine (callsIn_wide.2 (size_any sampleT _ _ HR1.out (by rw [sample_facts.1]; omega))).mono ?_
    rw [sample_facts.1]
    rintro e v2 ⟨rfl, hq2⟩
    have HQ2 := Lib.hid (HQ1.out.trans (hq2.mono HQ1.out.size))
    clear hq2
    gi_wp2_with fail
    refine (callsIn_wide.2 (sample_any _)).mono ?_
    rintro e v3 ⟨g3, rfl, hg3, hcg3, hq3⟩
    have HR3 := Lib.hid ((sample_rep hg3 hcg3).lt (B := v3.heap.size) (fun b hb => hb.2))
    have HQ3 := Lib.hid (HQ2.out.trans (hq3.mono HQ2.out.size))
    clear hcg3 hq3
    gi_wp2_with fail
    refine (callsIn_wide.2 (depth_any sampleT _ _ HR3.out (by rw [sample_facts.2.1]; omega))).mono ?_
    rw [sample_facts.2.1]
    rintro e v4 ⟨rfl, hq4⟩
    have HQ4 := Lib.hid (HQ3.out.trans (hq4.mono HQ3.out.size))
    clear hq4
    gi_wp2_with fail
    refine (callsIn_wide.2 (sample_any _)).mono ?_
    rintro e v5 ⟨g5, rfl, hg5, hcg5, hq5⟩
    have HR5 := Lib.hid ((sample_rep hg5 hcg5).lt (B := v5.heap.size) (fun b hb => hb.2))
    have HQ5 := Lib.hid (HQ4.out.trans (hq5.mono HQ4.out.size))
    clear hcg5 hq5
    gi_wp2_with fail
    refine (callsIn_wide.2 (isStmt_any sampleT _ _ HR5.out)).mono ?_
    rw [sample_facts.2.2.1]
    rintro e v6 ⟨rfl, hq6⟩
    have HQ6 := Lib.hid (HQ5.out.trans (hq6.mono HQ5.out.size))
    clear hq6
    gi_wp2_with fail
    refine (callsIn_wide.2 (sample_any _)).mono ?_
    rintro e v7 ⟨g7, rfl, hg7, hcg7, hq7⟩
    have HR7 := Lib.hid ((sample_rep hg7 hcg7).lt (B := v7.heap.size) (fun b hb => hb.2))
    have HQ7 := Lib.hid (HQ6.out.trans (hq7.mono HQ6.out.size))
    clear hcg7 hq7
    gi_wp2_with fail
    refine (callsIn_wide.2 (isBlock_any sampleT _ _ HR7.out)).mono ?_
    rw [sample_facts.2.2.2.1]
    rintro e v8 ⟨rfl, hq8⟩
    have HQ8 := Lib.hid (HQ7.out.trans (hq8.mono HQ7.out.size))
    clear hq8
    gi_wp2_with fail
    refine (callsIn_wide.2 (sample_any _)).mono ?_
    rintro e v9 ⟨g9, rfl, hg9, hcg9, hq9⟩
    have HR9 := Lib.hid ((sample_rep hg9 hcg9).lt (B := v9.heap.size) (fun b hb => hb.2))
    have HQ9 := Lib.hid (HQ8.out.trans (hq9.mono HQ8.out.size))
    clear hcg9 hq9
    gi_wp2_with fail
    refine (callsIn_wide.2 (isExpr_any sampleT _ _ HR9.out)).mono ?_
    rw [sample_facts.2.2.2.2]
    rintro e va ⟨rfl, hqa⟩
    have HQA := Lib.hid (HQ9.out.trans (hqa.mono HQ9.out.size))
    have hza := (HQA.out.block _ HZ.out.lt).trans HZ.out.1
    have z1 := cell_of_row _ _ 0 _ _ _ hza
    have z2 := frozen_of_row _ _ 0 _ _ hza
    simp only [List.getElem?_toArray, List.getElem?_cons_zero] at z1
    have HZA := Lib.hid hza
    clear hqa hza
    gi_wp2_with fail
    have hDw : D < W.heap.size := (Array.getElem?_eq_some_iff.1 HKD.out).1
    have hDz : D ≠ w.heap.size := fun e => HZ.out.2 (e ▸ hOD)
    have hda : (va.setCell ⟨w.heap.size, 0, none⟩ (.bool true)).heap[D]? = some (.deferred (some [])) := (heap_setCell_other _ _ _ _ hDz).trans ((HQA.out.block _ hDw).trans HKD.out)
    refine ⟨by simp, .inl ⟨_, _, rfl, run_takeDeferred hda, ?_⟩⟩
    refine ⟨.bool true, ?_, rfl, ?_⟩
    · exact ret_bool_cell rfl rfl ((World.putObj_heap_other (Ne.symm hDz)).trans (heap_setCell_same _ _ 0 _ _ _ HZA.out))
    · exact (HKP.out.below.trans ((HQA.out.mono HKP.out.below.size).setCell (by simp) _)).trans (belowK_b (w := w) (Nat.le_refl _) _ D _ _ (by omega) hda rfl rfl)
  case stop =>
    rintro D c pre O W _ _ _ h _
    exact h.elim

end Go.Proofs.Ytkngdmilgfgclaa
