/- Walk: the iterator, and the function that hands it out. -/
import Derived.Test.YtkngdmilgfgclaaVisit
import Derived.Laws.EntriesVeiled
namespace Go.Proofs.Ytkngdmilgfgclaa
open Go.RowKit Go.Shelf
attribute [local go_sem] Oper.semAt_some

theorem heap3 (w : World) (A B C : Obj) : (((w.alloc A).alloc B).alloc C).heap[w.heap.size]? = some A ∧ (((w.alloc A).alloc B).alloc C).heap[w.heap.size + 1]? = some B ∧ (((w.alloc A).alloc B).alloc C).heap[w.heap.size + 2]? = some C := by
  refine ⟨?_, ?_, ?_⟩
  · rw [Below.heap_alloc _ _ _ (by simp only [World.size_alloc]; omega)]; exact heap_alloc2_old w A B
  · rw [Below.heap_alloc _ _ _ (by simp only [World.size_alloc]; omega)]; exact heap_alloc2_new w A B
  · have := heap_alloc_new ((w.alloc A).alloc B) C; simpa using this

theorem walk_pre {l : Nat} {O₀ : Nat → Prop} {J : List (List Int × Tr) → (Nat → Prop) → World → Prop} (hJ : Abides J) {W : World} (hlt : ∀ b, O₀ b → b < W.heap.size) (hj : J [] O₀ W) :
    ∃ O3 : Nat → Prop, (∀ b, O₀ b → O3 b) ∧ It W.heap.size (W.heap.size + 1) (W.heap.size + 1 + 1) l W.heap.size O3 [] (((W.alloc (.cells #[.func (.yield l) #[] #[]] 63)).alloc (.cells #[.slice none 0 0] 33)).alloc (.cells #[.func (.func 54) #[] #[.pointer (some ⟨W.heap.size, 0, none⟩), .pointer (some ⟨W.heap.size + 1, 0, none⟩), .pointer (some ⟨W.heap.size + 1 + 1, 0, none⟩)]] 26)) ∧ J [] O3 (((W.alloc (.cells #[.func (.yield l) #[] #[]] 63)).alloc (.cells #[.slice none 0 0] 33)).alloc (.cells #[.func (.func 54) #[] #[.pointer (some ⟨W.heap.size, 0, none⟩), .pointer (some ⟨W.heap.size + 1, 0, none⟩), .pointer (some ⟨W.heap.size + 1 + 1, 0, none⟩)]] 26)) := by
  have hb : Below W.heap.size W (((W.alloc (.cells #[.func (.yield l) #[] #[]] 63)).alloc (.cells #[.slice none 0 0] 33)).alloc (.cells #[.func (.func 54) #[] #[.pointer (some ⟨W.heap.size, 0, none⟩), .pointer (some ⟨W.heap.size + 1, 0, none⟩), .pointer (some ⟨W.heap.size + 1 + 1, 0, none⟩)]] 26)) := (((Below.refl _ W).alloc (Nat.le_refl _) _).alloc (by simp) _).alloc (by simp only [World.size_alloc]; omega) _
  have hmv := Moves.keep (X := fun b => b = W.heap.size ∨ b = W.heap.size + 1 ∨ b = W.heap.size + 1 + 1) hb hlt (fun b hb => by simp only [World.size_alloc]; omega)
  obtain ⟨h1, h2, h3⟩ := heap3 W (.cells #[.func (.yield l) #[] #[]] 63) (.cells #[.slice none 0 0] 33) (.cells #[.func (.func 54) #[] #[.pointer (some ⟨W.heap.size, 0, none⟩), .pointer (some ⟨W.heap.size + 1, 0, none⟩), .pointer (some ⟨W.heap.size + 1 + 1, 0, none⟩)]] 26)
  exact ⟨_, fun b hb => .inl hb, ⟨h1, h3, ⟨_, h2, World.ownsRow_nil _ _ _ _, fun g e => by cases e⟩, .inr (.inl rfl), .inr (.inr (.inl rfl)), .inr (.inr (.inr rfl)), hmv.lt, Nat.le_refl _, by omega, by omega⟩, hJ _ _ _ _ _ hj hmv⟩

set_option maxRecDepth 100000 in
set_option maxHeartbeats 1000000 in
/-- the iterator of Walk gives the nodes in pre-order with their paths -/
theorem walk_iter (w₀ : World) (Br : Nat) (R : Nat → Prop) (t : Tr) (c0 c1 c2 c3 : Value) (hroot : w₀.heap[Br]? = some (.cells #[c0, c1, c2, c3] 24 (0, 0))) (hrep : RepP w₀ R t (.agg #[c0, c1, c2, c3])) (hR : ∀ b, R b → b < w₀.heap.size) (hsz : t.size ≤ 1000000) (hdp : t.depth ≤ 1000000) :
    Iter Try.prog 53 #[.pointer (some ⟨Br, 0, none⟩)] walkArgs (walkL [] t) (fun b => R b ∨ b = Br) w₀ := by
  intro n l J Jx W hbelow hJ hY hj0
  have hBr := (Array.getElem?_eq_some_iff.1 hroot).1
  have hws := hbelow.size
  have hrootW : W.heap[Br]? = some (.cells #[c0, c1, c2, c3] 24 (0, 0)) := (hbelow.block Br hBr).trans hroot
  have hrepW : RepP W R t (.agg #[c0, c1, c2, c3]) := RepP.keep (fun _ h => h) (fun b o hb => hbelow.cell (p := ⟨b, o, none⟩) (hR b hb)) t hrep
  obtain ⟨O3, hsub, hit, hj3⟩ := walk_pre (l := l) hJ (O₀ := fun b => R b ∨ b = Br) (W := W) (fun b hb => hb.elim (fun e => by have := hR b e; omega) (fun e => by omega)) hj0
  have hb3 : Below W.heap.size W (((W.alloc (.cells #[.func (.yield l) #[] #[]] 63)).alloc (.cells #[.slice none 0 0] 33)).alloc (.cells #[.func (.func 54) #[] #[.pointer (some ⟨W.heap.size, 0, none⟩), .pointer (some ⟨W.heap.size + 1, 0, none⟩), .pointer (some ⟨W.heap.size + 1 + 1, 0, none⟩)]] 26)) := (((Below.refl _ W).alloc (Nat.le_refl _) _).alloc (by simp) _).alloc (by simp only [World.size_alloc]; omega) _
  have hrep3 : RepP (((W.alloc (.cells #[.func (.yield l) #[] #[]] 63)).alloc (.cells #[.slice none 0 0] 33)).alloc (.cells #[.func (.func 54) #[] #[.pointer (some ⟨W.heap.size, 0, none⟩), .pointer (some ⟨W.heap.size + 1, 0, none⟩), .pointer (some ⟨W.heap.size + 1 + 1, 0, none⟩)]] 26)) R t (.agg #[c0, c1, c2, c3]) := RepP.keep (fun _ h => h) (fun b o hb => hb3.cell (p := ⟨b, o, none⟩) (by have := hR b hb; show b < _; omega)) t hrepW
  have hroot3 : (((W.alloc (.cells #[.func (.yield l) #[] #[]] 63)).alloc (.cells #[.slice none 0 0] 33)).alloc (.cells #[.func (.func 54) #[] #[.pointer (some ⟨W.heap.size, 0, none⟩), .pointer (some ⟨W.heap.size + 1, 0, none⟩), .pointer (some ⟨W.heap.size + 1 + 1, 0, none⟩)]] 26)).heap[Br]? = some (.cells #[c0, c1, c2, c3] 24 (0, 0)) := (hb3.block Br (by omega)).trans hrootW
  have hv := visit_in W.heap.size (W.heap.size + 1) (W.heap.size + 1 + 1) l W.heap.size R (walkL [] t) J Jx hJ hY (fun b hb => by have := hR b hb; omega) t [] _ [] O3 _ (n - 1) hrep3 (fun b hb => hsub b (.inl hb)) hit hj3 (by simp) hsz (by simpa using hdp)
  have q0 := cell_of_row _ _ 0 _ _ _ hroot3
  have q1 := cell_of_row _ _ 1 _ _ _ hroot3
  have q2 := cell_of_row _ _ 2 _ _ _ hroot3
  have q3 := cell_of_row _ _ 3 _ _ _ hroot3
  simp only [List.getElem?_toArray, List.getElem?_cons_succ, List.getElem?_cons_zero] at q0 q1 q2 q3
  have HV := Lib.hid hv
  have hw1 : ∀ f, Fence.wide.fn f := fun _ => trivial
  have hw2 : Fence.wide.depth.isSome = false := rfl
  have hBrW : Br < W.heap.size := by omega
  clear hv hrep3 hroot3 hit hj3 hrepW hrootW hroot hrep hJ hY
  obtain ⟨x0, hx0⟩ : ∃ x, x = c0 := ⟨_, rfl⟩
  refine callsIn_of_wp Try.func53 rfl trivial ?_ rfl
  simp only [Try.ntmps53, List.size_toArray, List.length_cons, List.length_nil, Nat.reduceAdd, Nat.reduceSub, Array.replicate_succ, Array.replicate_zero, List.push_toArray, List.append_toArray, List.nil_append, List.cons_append]
  gi_wp2_with fail
  refine HV.out.mono ?_
  rintro e W5 (⟨rfl, O4, hst5, hit5, hj5⟩ | ⟨rfl, q, O4, hq, hx5⟩)
  · gi_wp2_with fail
    go_end0
    exact ⟨⟨_, rfl⟩, .inl ⟨O4, by simpa using hj5⟩⟩
  · gi_wp2_with fail
    go_end0
    exact ⟨⟨_, rfl⟩, .inr ⟨q, O4, by simpa using hq, by simpa using hx5⟩⟩

/-- Walk hands out the iterator, over a copy of the tree in new memory -/
def WalkPost (t : Tr) (w : World) (e : Ending) (w' : World) : Prop :=
  ∃ (Br : Nat) (c0 c1 c2 c3 : Value), e = .returned (.func (.func 53) #[] #[.pointer (some ⟨Br, 0, none⟩)]) ∧ w.heap.size ≤ Br ∧ w'.heap[Br]? = some (.cells #[c0, c1, c2, c3] 24 (0, 0)) ∧
    RepP w' (fun b => w.heap.size ≤ b ∧ b < w'.heap.size) t (.agg #[c0, c1, c2, c3]) ∧ Below w.heap.size w w'

set_option maxHeartbeats 400000 in
theorem walk_any (t : Tr) (v : Value) (w : World) (hr : Rep w w.heap.size t v) (hsz : t.size ≤ 1000000) : Calls Try.prog 24 #[v] w (WalkPost t w) := by
  cases t with
  | mk k n s c =>
  have hr' := hr
  simp only [Rep] at hr'
  obtain ⟨A, cap, rfl, hf, _⟩ := hr'
  have HC := Lib.hid (clone_any _ _ _ (hr.alloc (Nat.le_refl _) (.cells #[.int .u8 k, .int .i64 n, .string s, .slice A c.length cap] 24)) hsz)
  clear hr
  unfold nodeV at *
  go_enter Try.func24, Try.ntmps24
  go_wp2_with fail
  refine HC.out.mono ?_
  rintro e w1 ⟨v1, rfl, hr1, hb1⟩
  obtain ⟨A1, cap1, rfl, hf1, _⟩ := nodeOf hr1
  unfold nodeV at *
  have HR1 := Lib.hid hr1
  have HB1 := Lib.hid hb1
  have hs1 : w.heap.size ≤ w1.heap.size := by have := hb1.size; simp at this; omega
  clear hr1 hb1 hf1
  go_wp2_with fail
  go_ret
  have hb2 : Below w.heap.size w w1 := ((Below.refl _ w).alloc (Nat.le_refl _) _).trans (HB1.out.mono (by simp))
  refine ⟨w1.heap.size, _, _, _, _, rfl, hs1, heap_alloc_new w1 _, ?_, hb2.alloc hs1 _⟩
  refine RepP.keep (fun b hb => ⟨by have := hb.1; simp at this; omega, by have := hb.2; simp; omega⟩) (fun b o hb => World.cell?_alloc_lt w1 _ ⟨b, o, none⟩ hb.2) _ HR1.out

end Go.Proofs.Ytkngdmilgfgclaa
