/- A region that draws its order, by a state for every set of operations that have come up. Over any program. -/
import Derived.Test.YtjikokmhknnnoaaLs
import Derived.Test.YtjikokmhknnnoaaW6
namespace Go.Proofs.Ytjikokmhknnnoaa
open Go.RowKit

theorem S_any {P : Program} (hm : P.follows .mixedOrders = true) {B id : Nat} {ops : Array Oper} {σ : St} {Q : Ex → St → Prop} (st : (Nat → Bool) → St) (h0 : st (fun _ => false) = σ)
    (hb : ∀ j o, ops[j]? = some o → ∀ e ∈ o.after, Region.binds .any e = true → e.on < j)
    (hs : ∀ (L : Nat → Bool) (i : Nat) (o : Oper), ops[i]? = some o → L i = false → (∀ j o, ops[j]? = some o → L j = true → ∀ e ∈ o.after, Region.binds .any e = true → L e.on = true) → (∀ e ∈ o.after, Region.binds .any e = true → L e.on = true) → SWp P ops o (st L) (st (fun j => if j = i then true else L j)))
    (hq : ∀ L : Nat → Bool, (∀ j, j < ops.size → L j = true) → Q .normal (st L)) : S P B (.region id ops true) σ Q := by
  intro base w0 ok0 gs ws ds T g a w hβ hsz hrel hext hmk hT
  obtain ⟨hrel1, hext1⟩ := hrel.drew
  refine wpIn_region_any hm (wpAnyIn_inv (fun listed a' w' => listed.size = ops.size ∧ Closed ops listed ∧ ∃ g', Rel P base w0 ok0 g' (st (fun j => listed.getD j false)) a' w' ∧ Ext g w.drew g' w' ∧ a'.defers = a.defers) ?_ ?_ _ _ _ _ ?_ (by simp))
  · rintro listed a1 w1 i o ⟨hls, hcl, g1, hr1, he1, hd1⟩ hun ho hall
    have hi : i < ops.size := (Array.getElem?_eq_some_iff.1 ho).1
    have hil : i < listed.size := by omega
    have hun' : listed.getD i false = false := by
      simp only [Array.getD_eq_getD_getElem?, Array.getElem?_eq_getElem hil, Option.getD_some] at hun ⊢
      exact hun
    have hready : i ∈ Region.ready .any ops listed := mem_ready.2 ⟨hun, o, ho, hall⟩
    have hcl' : Closed ops (listed.setIfInBounds i true) := hcl.set hready
    have hls' : (listed.setIfInBounds i true).size = ops.size := by simpa using hls
    have hfun : (fun j => (listed.setIfInBounds i true).getD j false) = fun j => if j = i then true else listed.getD j false := by
      funext j
      by_cases hj : j = i
      · subst hj
        rw [if_pos rfl]; exact (set_listed (by omega)).2 (.inr rfl)
      · rw [if_neg hj, getD_set_ne false (fun e => hj e.symm)]
    refine hs (fun j => listed.getD j false) i o ho hun' hcl hall base w0 ok0 g1 a1 w1 none 0 _ _ hr1 (fun a' w' g' q1 q2 q3 => ⟨hls', hcl', g', ?_, he1.trans q2, q3.trans hd1⟩)
    rw [hfun]; exact q1
  · rintro listed a1 w1 ⟨hls, hcl, g1, hr1, he1, hd1⟩ hnr
    exact hT .normal _ a1 w1 g1 (hq _ (all_listed' hls hb hnr)) hr1 (hext.trans (hext1.trans he1)) (hmk.trans (hext1.trans he1) hsz (.of_eq hd1))
  · have hnone : ∀ i, (Array.replicate ops.size false).getD i false = false := fun i => by
      rw [Array.getD_eq_getD_getElem?, Array.getElem?_replicate]; split <;> rfl
    refine ⟨by simp, fun j o _ hl => (by rw [hnone j] at hl; cases hl), g, ?_, Ext.refl _ _, rfl⟩
    rw [show (fun j => (Array.replicate ops.size false).getD j false) = fun _ => false from funext hnone, h0]
    exact hrel1
/-- an operation, with calls that hand back boxes -/
theorem SWp_ca {P : Program} {ca : Nat → List D → St → Option (D × St)} (hca : CaOk P ca) {ops : Array Oper} {o : Oper} {σ σ' : St} (hok : opOk o = true) (h : astep P ca ops.toList σ o = some σ') : SWp P ops o σ σ' := fun _ _ _ _ _ _ _ _ _ _ hr hK => step_wp (hca _ _ _) hr hok h hK

end Go.Proofs.Ytjikokmhknnnoaa

/- The law ScopeUnused: three calls of Check. -/
namespace Go.Proofs.Ytjikokmhknnnoaa
open Go.RowKit

def ops11 : Array Oper := #[{ dst := some 57, op := Go.Op.load 30 (Go.Operand.tmp 1), type := 30, pos := "law.go:208", after := #[], guard := none }, { dst := some 58, op := Go.Op.call { callee := Go.Callee.value (Go.Operand.func 18), args := #[Go.Operand.tmp 57], argTypes := #[30] }, type := 40, pos := "law.go:208", after := #[{ on := 0, ground := Go.Ground.data }], guard := none }, { dst := some 59, op := Go.Op.load 30 (Go.Operand.tmp 5), type := 30, pos := "law.go:208", after := #[], guard := none }, { dst := some 60, op := Go.Op.call { callee := Go.Callee.value (Go.Operand.func 18), args := #[Go.Operand.tmp 59], argTypes := #[30] }, type := 40, pos := "law.go:208", after := #[{ on := 2, ground := Go.Ground.data }, { on := 1, ground := Go.Ground.chain }], guard := none }, { dst := some 61, op := Go.Op.load 30 (Go.Operand.tmp 6), type := 30, pos := "law.go:208", after := #[], guard := none }, { dst := some 62, op := Go.Op.call { callee := Go.Callee.value (Go.Operand.func 18), args := #[Go.Operand.tmp 61], argTypes := #[30] }, type := 40, pos := "law.go:208", after := #[{ on := 4, ground := Go.Ground.data }, { on := 3, ground := Go.Ground.chain }], guard := none }, { dst := some 7, op := Go.Op.assign (Go.Operand.tmp 58), type := 40, pos := "law.go:208", after := #[{ on := 1, ground := Go.Ground.data }, { on := 5, ground := Go.Ground.chain }, { on := 0, ground := Go.Ground.phase }, { on := 1, ground := Go.Ground.phase }, { on := 2, ground := Go.Ground.textOnly Go.Departure.lateStores }, { on := 3, ground := Go.Ground.textOnly Go.Departure.lateStoresUnsure }, { on := 4, ground := Go.Ground.textOnly Go.Departure.lateStores }, { on := 5, ground := Go.Ground.textOnly Go.Departure.lateStoresUnsure }], guard := none }, { dst := some 8, op := Go.Op.assign (Go.Operand.tmp 60), type := 40, pos := "law.go:208", after := #[{ on := 3, ground := Go.Ground.data }, { on := 6, ground := Go.Ground.chain }, { on := 0, ground := Go.Ground.phase }, { on := 1, ground := Go.Ground.phase }, { on := 2, ground := Go.Ground.phase }, { on := 3, ground := Go.Ground.phase }, { on := 4, ground := Go.Ground.textOnly Go.Departure.lateStores }, { on := 5, ground := Go.Ground.textOnly Go.Departure.lateStoresUnsure }, { on := 6, ground := Go.Ground.phase }], guard := none }, { dst := some 9, op := Go.Op.assign (Go.Operand.tmp 62), type := 40, pos := "law.go:208", after := #[{ on := 5, ground := Go.Ground.data }, { on := 7, ground := Go.Ground.chain }, { on := 0, ground := Go.Ground.phase }, { on := 1, ground := Go.Ground.phase }, { on := 2, ground := Go.Ground.phase }, { on := 3, ground := Go.Ground.phase }, { on := 4, ground := Go.Ground.phase }, { on := 5, ground := Go.Ground.phase }, { on := 6, ground := Go.Ground.phase }, { on := 7, ground := Go.Ground.phase }], guard := none }]
theorem any_check : (Try.prog.funcs[18]?).any (fun fn => fn.body.isSome && fn.name != "runtime.NumGoroutine") = true := by kernel_rfl
set_option maxRecDepth 100000 in
set_option maxHeartbeats 4000000 in
theorem r11 {ca : Nat → List D → St → Option (D × St)} (hca : CaOk Try.prog ca) {Bd : Nat} {x0 x2 x3 x4 x7 x8 x9 x10 x11 x12 x13 x14 x15 x16 x17 x18 x19 x20 x21 x22 x23 x24 x25 x26 x27 x28 x29 x30 x31 x32 x33 x34 x35 x36 x37 x38 x39 x40 x41 x42 x43 x44 x45 x46 x47 x48 x49 x50 x51 x52 x53 x54 x55 x56 x57 x58 x59 x60 x61 x62 x63 x64 x65 x66 x67 x68 x69 x70 x71 x72 x73 x74 x75 x76 x77 x78 x79 x80 x81 x82 x83 x84 x85 x86 x87 x88 x89 x90 x91 x92 x93 x94 x95 : D} {a0 a1 a2 a3 a4 a5 b0 b1 b2 b3 b4 b5 c0 c1 c2 c3 c4 c5 l n : D} {B1 cs : List D} {len nx : Nat} {lv : List Nat} {Q : Ex → St → Prop}
    (h1 : ∀ σ, ca 18 [.agg [a0, a1, a2, a3, a4, a5]] σ = some (l, σ)) (h2 : ∀ σ : St, ca 18 [.agg [b0, b1, b2, b3, b4, b5]] σ = some (.bsl σ.bx.length 0 4 len, { σ with bx := σ.bx ++ [cs] })) (h3 : ∀ σ, ca 18 [.agg [c0, c1, c2, c3, c4, c5]] σ = some (n, σ))
    (hq : Q .normal ⟨[x0, .ptr 0 0, x2, x3, x4, .ptr 2 0, .ptr 3 0, l, .bsl 4 0 4 len, n, x10, x11, x12, x13, x14, x15, x16, x17, x18, x19, x20, x21, x22, x23, x24, x25, x26, x27, x28, x29, x30, x31, x32, x33, x34, x35, x36, x37, x38, x39, x40, x41, x42, x43, x44, x45, x46, x47, x48, x49, x50, x51, x52, x53, x54, x55, x56, .agg [a0, a1, a2, a3, a4, a5], l, .agg [b0, b1, b2, b3, b4, b5], .bsl 4 0 4 len, .agg [c0, c1, c2, c3, c4, c5], n, x63, x64, x65, x66, x67, x68, x69, x70, x71, x72, x73, x74, x75, x76, x77, x78, x79, x80, x81, x82, x83, x84, x85, x86, x87, x88, x89, x90, x91, x92, x93, x94, x95], [[a0, a1, a2, a3, a4, a5], B1, [b0, b1, b2, b3, b4, b5], [c0, c1, c2, c3, c4, c5], cs], nx, lv⟩) :
    S Try.prog Bd (.region 11 ops11 true) ⟨[x0, .ptr 0 0, x2, x3, x4, .ptr 2 0, .ptr 3 0, x7, x8, x9, x10, x11, x12, x13, x14, x15, x16, x17, x18, x19, x20, x21, x22, x23, x24, x25, x26, x27, x28, x29, x30, x31, x32, x33, x34, x35, x36, x37, x38, x39, x40, x41, x42, x43, x44, x45, x46, x47, x48, x49, x50, x51, x52, x53, x54, x55, x56, x57, x58, x59, x60, x61, x62, x63, x64, x65, x66, x67, x68, x69, x70, x71, x72, x73, x74, x75, x76, x77, x78, x79, x80, x81, x82, x83, x84, x85, x86, x87, x88, x89, x90, x91, x92, x93, x94, x95], [[a0, a1, a2, a3, a4, a5], B1, [b0, b1, b2, b3, b4, b5], [c0, c1, c2, c3, c4, c5]], nx, lv⟩ Q := by
  refine S_any rfl (fun L => ⟨[x0, .ptr 0 0, x2, x3, x4, .ptr 2 0, .ptr 3 0, (if L 6 = true then l else x7), (if L 7 = true then .bsl 4 0 4 len else x8), (if L 8 = true then n else x9), x10, x11, x12, x13, x14, x15, x16, x17, x18, x19, x20, x21, x22, x23, x24, x25, x26, x27, x28, x29, x30, x31, x32, x33, x34, x35, x36, x37, x38, x39, x40, x41, x42, x43, x44, x45, x46, x47, x48, x49, x50, x51, x52, x53, x54, x55, x56, (if L 0 = true then .agg [a0, a1, a2, a3, a4, a5] else x57), (if L 1 = true then l else x58), (if L 2 = true then .agg [b0, b1, b2, b3, b4, b5] else x59), (if L 3 = true then .bsl 4 0 4 len else x60), (if L 4 = true then .agg [c0, c1, c2, c3, c4, c5] else x61), (if L 5 = true then n else x62), x63, x64, x65, x66, x67, x68, x69, x70, x71, x72, x73, x74, x75, x76, x77, x78, x79, x80, x81, x82, x83, x84, x85, x86, x87, x88, x89, x90, x91, x92, x93, x94, x95], [[a0, a1, a2, a3, a4, a5], B1, [b0, b1, b2, b3, b4, b5], [c0, c1, c2, c3, c4, c5]] ++ (if L 3 = true then [cs] else []), nx, lv⟩) ?_ ?_ ?_ ?_
  · simp only [Bool.false_eq_true, if_false, List.append_nil]
  · intro j o ho
    have hj : j < 9 := (Array.getElem?_eq_some_iff.1 ho).1
    match j, hj, ho with
    | 0, _, ho =>
      simp only [ops11, List.getElem?_toArray, List.getElem?_cons_zero, Option.some.injEq] at ho
      subst ho; decide
    | 1, _, ho =>
      simp only [ops11, List.getElem?_toArray, List.getElem?_cons_zero, List.getElem?_cons_succ, Option.some.injEq] at ho
      subst ho; decide
    | 2, _, ho =>
      simp only [ops11, List.getElem?_toArray, List.getElem?_cons_zero, List.getElem?_cons_succ, Option.some.injEq] at ho
      subst ho; decide
    | 3, _, ho =>
      simp only [ops11, List.getElem?_toArray, List.getElem?_cons_zero, List.getElem?_cons_succ, Option.some.injEq] at ho
      subst ho; decide
    | 4, _, ho =>
      simp only [ops11, List.getElem?_toArray, List.getElem?_cons_zero, List.getElem?_cons_succ, Option.some.injEq] at ho
      subst ho; decide
    | 5, _, ho =>
      simp only [ops11, List.getElem?_toArray, List.getElem?_cons_zero, List.getElem?_cons_succ, Option.some.injEq] at ho
      subst ho; decide
    | 6, _, ho =>
      simp only [ops11, List.getElem?_toArray, List.getElem?_cons_zero, List.getElem?_cons_succ, Option.some.injEq] at ho
      subst ho; decide
    | 7, _, ho =>
      simp only [ops11, List.getElem?_toArray, List.getElem?_cons_zero, List.getElem?_cons_succ, Option.some.injEq] at ho
      subst ho; decide
    | 8, _, ho =>
      simp only [ops11, List.getElem?_toArray, List.getElem?_cons_zero, List.getElem?_cons_succ, Option.some.injEq] at ho
      subst ho; decide
  · intro L i o ho hun hcl hall
    have hi : i < 9 := (Array.getElem?_eq_some_iff.1 ho).1
    match i, hi, ho, hun, hall with
    | 0, _, ho, hun, hall =>
      simp only [ops11, List.getElem?_toArray, List.getElem?_cons_zero, Option.some.injEq] at ho
      subst ho
      refine SWp_ca hca (by kernel_rfl) ?_
      simp only [astep, awant, aeff, astep, awant, aeff, aop, mkD, ev, St.put, List.getElem?_cons_succ, List.getElem?_cons_zero, Option.getD_some, Option.map_some, if_true, List.set_cons_succ, List.set_cons_zero, List.length_cons, List.length_nil, List.drop_zero, List.take_succ_cons, List.take_zero, List.cons_append, List.nil_append, Nat.reduceAdd, Nat.reduceLeDiff, Nat.zero_add, Bool.false_eq_true, if_false, reduceCtorEq, ty_api_Program, hun, if_true, if_false, Bool.false_eq_true, List.cons_append, List.nil_append, reduceCtorEq]
      try rfl
    | 1, _, ho, hun, hall =>
      simp only [ops11, List.getElem?_toArray, List.getElem?_cons_zero, List.getElem?_cons_succ, Option.some.injEq] at ho
      subst ho
      have e0 : L 0 = true := hall ⟨0, .data⟩ (by simp) rfl
      refine SWp_ca hca (by kernel_rfl) ?_
      simp only [astep, awant, aeff, astep, awant, aeff, ev, St.put, List.map_cons, List.map_nil, List.getElem?_cons_succ, List.getElem?_cons_zero, Option.getD_some, Option.map_some, if_true, List.set_cons_succ, List.set_cons_zero, List.cons_append, List.nil_append, Bool.false_eq_true, if_false, reduceCtorEq, any18, h1, hun, e0, if_true, if_false, Bool.false_eq_true, List.append_nil, List.cons_append, List.nil_append, Nat.reduceEqDiff, reduceCtorEq]
      try rfl
    | 2, _, ho, hun, hall =>
      simp only [ops11, List.getElem?_toArray, List.getElem?_cons_zero, List.getElem?_cons_succ, Option.some.injEq] at ho
      subst ho
      refine SWp_ca hca (by kernel_rfl) ?_
      simp only [astep, awant, aeff, astep, awant, aeff, aop, mkD, ev, St.put, List.getElem?_cons_succ, List.getElem?_cons_zero, Option.getD_some, Option.map_some, if_true, List.set_cons_succ, List.set_cons_zero, List.length_cons, List.length_nil, List.drop_zero, List.take_succ_cons, List.take_zero, List.cons_append, List.nil_append, Nat.reduceAdd, Nat.reduceLeDiff, Nat.zero_add, Bool.false_eq_true, if_false, reduceCtorEq, ty_api_Program, hun, if_true, if_false, Bool.false_eq_true, List.cons_append, List.nil_append, Nat.reduceEqDiff, reduceCtorEq]
      try rfl
    | 3, _, ho, hun, hall =>
      simp only [ops11, List.getElem?_toArray, List.getElem?_cons_zero, List.getElem?_cons_succ, Option.some.injEq] at ho
      subst ho
      have e2 : L 2 = true := hall ⟨2, .data⟩ (by simp) rfl
      have e1 : L 1 = true := hall ⟨1, .chain⟩ (by simp) rfl
      refine SWp_ca hca (by kernel_rfl) ?_
      simp only [astep, awant, aeff, astep, awant, aeff, ev, St.put, List.map_cons, List.map_nil, List.getElem?_cons_succ, List.getElem?_cons_zero, Option.getD_some, Option.map_some, if_true, List.set_cons_succ, List.set_cons_zero, List.length_cons, List.length_nil, List.cons_append, List.nil_append, Nat.reduceAdd, Nat.zero_add, Bool.false_eq_true, if_false, reduceCtorEq, any18, h2, hun, e2, e1, if_true, if_false, Bool.false_eq_true, List.append_nil, List.cons_append, List.nil_append, Nat.reduceEqDiff, reduceCtorEq]
      try rfl
    | 4, _, ho, hun, hall =>
      simp only [ops11, List.getElem?_toArray, List.getElem?_cons_zero, List.getElem?_cons_succ, Option.some.injEq] at ho
      subst ho
      refine SWp_ca hca (by kernel_rfl) ?_
      simp only [astep, awant, aeff, astep, awant, aeff, aop, mkD, ev, St.put, List.getElem?_cons_succ, List.getElem?_cons_zero, Option.getD_some, Option.map_some, if_true, List.set_cons_succ, List.set_cons_zero, List.length_cons, List.length_nil, List.drop_zero, List.take_succ_cons, List.take_zero, List.cons_append, List.nil_append, Nat.reduceAdd, Nat.reduceLeDiff, Nat.zero_add, Bool.false_eq_true, if_false, reduceCtorEq, ty_api_Program, hun, if_true, if_false, Bool.false_eq_true, List.cons_append, List.nil_append, Nat.reduceEqDiff, reduceCtorEq]
      try rfl
    | 5, _, ho, hun, hall =>
      simp only [ops11, List.getElem?_toArray, List.getElem?_cons_zero, List.getElem?_cons_succ, Option.some.injEq] at ho
      subst ho
      have e4 : L 4 = true := hall ⟨4, .data⟩ (by simp) rfl
      have e3 : L 3 = true := hall ⟨3, .chain⟩ (by simp) rfl
      refine SWp_ca hca (by kernel_rfl) ?_
      simp only [astep, awant, aeff, astep, awant, aeff, ev, St.put, List.map_cons, List.map_nil, List.getElem?_cons_succ, List.getElem?_cons_zero, Option.getD_some, Option.map_some, if_true, List.set_cons_succ, List.set_cons_zero, List.cons_append, List.nil_append, Bool.false_eq_true, if_false, reduceCtorEq, any18, h3, hun, e4, e3, if_true, if_false, Bool.false_eq_true, List.append_nil, List.cons_append, List.nil_append, Nat.reduceEqDiff, reduceCtorEq]
      try rfl
    | 6, _, ho, hun, hall =>
      simp only [ops11, List.getElem?_toArray, List.getElem?_cons_zero, List.getElem?_cons_succ, Option.some.injEq] at ho
      subst ho
      have e1 : L 1 = true := hall ⟨1, .data⟩ (by simp) rfl
      have e5 : L 5 = true := hall ⟨5, .chain⟩ (by simp) rfl
      refine SWp_ca hca (by kernel_rfl) ?_
      simp only [astep, awant, aeff, astep, awant, aeff, aop, ev, St.put, List.getElem?_cons_succ, List.getElem?_cons_zero, Option.getD_some, Option.map_some, if_true, List.set_cons_succ, List.set_cons_zero, List.cons_append, List.nil_append, Bool.false_eq_true, if_false, reduceCtorEq, hun, e1, e5, if_true, if_false, Bool.false_eq_true, List.cons_append, List.nil_append, Nat.reduceEqDiff, reduceCtorEq]
      try rfl
    | 7, _, ho, hun, hall =>
      simp only [ops11, List.getElem?_toArray, List.getElem?_cons_zero, List.getElem?_cons_succ, Option.some.injEq] at ho
      subst ho
      have e3 : L 3 = true := hall ⟨3, .data⟩ (by simp) rfl
      have e6 : L 6 = true := hall ⟨6, .chain⟩ (by simp) rfl
      refine SWp_ca hca (by kernel_rfl) ?_
      simp only [astep, awant, aeff, astep, awant, aeff, aop, ev, St.put, List.getElem?_cons_succ, List.getElem?_cons_zero, Option.getD_some, Option.map_some, if_true, List.set_cons_succ, List.set_cons_zero, List.cons_append, List.nil_append, Bool.false_eq_true, if_false, reduceCtorEq, hun, e3, e6, if_true, if_false, Bool.false_eq_true, List.cons_append, List.nil_append, Nat.reduceEqDiff, reduceCtorEq]
      try rfl
    | 8, _, ho, hun, hall =>
      simp only [ops11, List.getElem?_toArray, List.getElem?_cons_zero, List.getElem?_cons_succ, Option.some.injEq] at ho
      subst ho
      have e5 : L 5 = true := hall ⟨5, .data⟩ (by simp) rfl
      have e7 : L 7 = true := hall ⟨7, .chain⟩ (by simp) rfl
      refine SWp_ca hca (by kernel_rfl) ?_
      simp only [astep, awant, aeff, astep, awant, aeff, aop, ev, St.put, List.getElem?_cons_succ, List.getElem?_cons_zero, Option.getD_some, Option.map_some, if_true, List.set_cons_succ, List.set_cons_zero, List.cons_append, List.nil_append, Bool.false_eq_true, if_false, reduceCtorEq, hun, e5, e7, if_true, if_false, Bool.false_eq_true, List.cons_append, List.nil_append, Nat.reduceEqDiff, reduceCtorEq]
      try rfl
  · intro L hL
    have e : ∀ j, j < 9 → L j = true := hL
    simp only [e 0 (by decide), e 1 (by decide), e 2 (by decide), e 3 (by decide), e 4 (by decide), e 5 (by decide), e 6 (by decide), e 7 (by decide), e 8 (by decide), if_true]
    exact hq

end Go.Proofs.Ytjikokmhknnnoaa
