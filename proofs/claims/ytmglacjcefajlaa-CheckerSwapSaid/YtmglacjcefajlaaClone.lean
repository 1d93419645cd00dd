import Derived.Test.YtmglacjcefajlaaBA
import Derived.Test.YtmglacjcefajlaaKinds
/- Clone: a copy in new memory. -/
namespace Go.Proofs.Ytmglacjcefajlaa
open Go.RowKit Go.Shelf

/-- a call that makes a new node: it reads as t, in blocks that are new; nothing that lay there turns -/
def Makes (t : Tr) (w : World) (e : Ending) (w' : World) : Prop :=
  ∃ v', e = .returned v' ∧ RepP w' (fun b => w.heap.size ≤ b ∧ b < w'.heap.size) t v' ∧ Below w.heap.size w w'

theorem nodeOf {w : World} {ok : Nat → Prop} {t : Tr} {v : Value} (h : RepP w ok t v) : ∃ (A : Option Addr) (cap : Nat), v = nodeV t.kind t.num t.name A t.kids.length cap ∧ Fits t.kind t.num t.name t.kids.length cap ∧ RowP w ok t.kids A 0 := by
  cases t with
  | mk k n s c =>
    simp only [RepP] at h
    exact h

/-- two boxes of four cells that were laid first -/
theorem two_boxes {w wr : World} {a b : Array Value} {t t' : Nat} (hb : Below (w.heap.size + 2) ((w.alloc (.cells a t)).alloc (.cells b t')) wr) :
    wr.heap[w.heap.size]? = some (.cells a t (0, 0)) ∧ wr.heap[w.heap.size + 1]? = some (.cells b t' (0, 0)) :=
  ⟨(hb.block _ (by omega)).trans (heap_alloc2_old w _ _), (hb.block _ (by omega)).trans (heap_alloc2_new w _ _)⟩

theorem set4 {W : World} {g t : Nat} {x0 x1 x2 x3 : Value} (a0 a1 a2 a3 : Value) (h : W.heap[g]? = some (.cells #[x0, x1, x2, x3] t (0, 0))) :
    ((((W.setCell ⟨g, 0, none⟩ a0).setCell ⟨g, 1, none⟩ a1).setCell ⟨g, 2, none⟩ a2).setCell ⟨g, 3, none⟩ a3).heap[g]? = some (.cells #[a0, a1, a2, a3] t (0, 0)) :=
  heap_setCell_same _ _ 3 _ _ a3 (heap_setCell_same _ _ 2 _ _ a2 (heap_setCell_same _ _ 1 _ _ a1 (heap_setCell_same _ _ 0 _ _ a0 h)))

theorem ret_node {fn : Func} {p : Tmp} (hres : fn.results = #[.cell p 26]) {R : Ending → World → Prop} {a : Act} {W : World} {g : Nat} {x0 x1 x2 x3 : Value}
    (hp : a.tmps.getD p undef = .pointer (some ⟨g, 0, none⟩)) (hg : W.heap[g]? = some (.cells #[x0, x1, x2, x3] 26 (0, 0))) (hd : a.defers = []) (hR : R (.returned (.agg #[x0, x1, x2, x3])) W) : bodyPost Try.prog fn R .ret a W :=
  bodyPost_ret (results_cell_row hres _ _ g _ _ _ _ hp hg Try.underlying26 rfl (by kernel_rfl)) hd hR

set_option maxHeartbeats 1000000 in
theorem clone_any (t : Tr) : ∀ (v : Value) (w : World), Rep w w.heap.size t v → t.size ≤ 1000000 → Calls Try.prog 62 #[v] w (Makes t w) := by
  induction t using Tr.ind with
  | h k n s c ih =>
    intro v w hr hsz
    simp only [Rep] at hr
    obtain ⟨A, cap, rfl, hf, hrow⟩ := hr
    have hl := hf.l1
    have hc := hf.c1
    have HF := Lib.hid hf
    have HR := Lib.hid hrow
    have IH := Lib.hid ih
    clear hrow ih hf
    unfold nodeV
    simp only [Tr.size] at hsz
    have hcl := Tr.length_le_sizes c
    go_enter Try.func62, Try.ntmps62
    go_wp2_with fail
    go_loopw [3, 9] (fun s3 s9 wr => ∃ i : Nat, i ≤ c.length ∧ s9 = .int .i64 i ∧ OwnNodes wr (w.heap.size + 2) s3 (c.take i) ∧ Below (w.heap.size + 2) ((w.alloc (.cells #[.int .u8 k, .int .i64 n, .string s, .slice A c.length cap] 26)).alloc (.cells #[.int .u8 0, .int .i64 0, .string ⟨#[]⟩, .slice none 0 0] 26)) wr)
      (fun _ s9 _ => c.length - (intOf s9).toNat)
    case atStart => exact ⟨0, Nat.zero_le _, rfl, OwnNodes.nil _ _, Below.refl _ _⟩
    case round =>
      obtain ⟨i, hi, rfl, hown, hb⟩ := hrel
      have hbb : Below w.heap.size w wr := (((Below.refl _ w).alloc (Nat.le_refl _) _).alloc (by simp) _).trans (hb.mono (by omega))
      have hsz2 : w.heap.size + 2 ≤ wr.heap.size := by have := hb.size; simp at this; omega
      by_cases hlt : i < c.length
      · obtain ⟨b, off, A', cap', rfl, hbB, h0, h1, h2, h3, hk⟩ := (HR.out.below hbb).kid i hlt
        have hmem : c[i] ∈ c := List.getElem_mem hlt
        have hsz1 := Tr.size_le_of_mem hmem
        have hws := hbb.size
        have HO := Lib.hid hown
        clear hown
        go_wp2_with fail
        refine (IH.out _ hmem _ _ (hk.alloc hws _) (by omega)).mono ?_
        rintro e w1 ⟨v1, rfl, hr1, hb1⟩
        obtain ⟨A1, cap1, rfl, hf1, _⟩ := nodeOf hr1
        unfold nodeV at *
        have hbw1 : Below wr.heap.size wr w1 := ((Below.refl _ wr).alloc (Nat.le_refl _) _).trans (hb1.mono (by simp))
        have HO1 := Lib.hid (HO.out.below hbw1)
        obtain ⟨xs0, hx0, _⟩ := HO.out
        have hlt0 := hx0.lt
        have HLT2 := Lib.hid hx0.lt
        have HR1 := Lib.hid (hr1.weak (ok' := fun b => w.heap.size + 2 ≤ b ∧ b < w1.heap.size ∧ Value.ownBlock u3 ≠ some b) (fun b hb' => by
          have h1 := hb'.1
          simp only [World.size_alloc] at h1
          exact ⟨by omega, hb'.2, fun e => by have := (hlt0 _ e).2; omega⟩))
        have hbs1 := hb1.size
        simp only [World.size_alloc] at hbs1
        have HB1 := Lib.hid hbw1
        have htl : (c.take i).length = i := by simp; omega
        have hlen1 : (c.take i).length + 1 ≤ 1000000 := by omega
        clear hr1 hf1 hlt0 hx0 hbw1 hb1 htl
        go_wp2_with (at_builtin; (refine wpList_append_node rfl (.tmp 13) (.tmp 16) rfl w1 (w.heap.size + 2) u3 (c.take i) c[i] _ _ _ _ rfl rfl HO1.out HR1.out hlen1 (by omega) ?_); intro v2 w2 hO2 hg2 hge2)
        have hb2 : Below (w.heap.size + 2) wr w2 := by
          have h1 : Below (w.heap.size + 2) wr (w1.alloc (.cells #[.int .u8 c[i].kind, .int .i64 c[i].num, .string c[i].name, .slice A1 c[i].kids.length cap1] 26)) := (HB1.out.mono hsz2).alloc (by omega) _
          exact h1.grown hg2 (by simp; omega) (fun g e => (HLT2.out g e).1)
        have hb3 := hb.trans hb2
        have HT := Lib.hid (Tr.take_snoc c i hlt)
        rw [← HT.out] at hO2
        clear hg2 hge2
        go_roundw
        case rel => exact ⟨i + 1, by omega, by go_num, hO2, hb3⟩
        case measure => simp [intOf]; omega
      · obtain rfl : i = c.length := by omega
        rw [List.take_length] at hown
        obtain ⟨A2, cap2, rfl, hcap2, hcm2, hrow2⟩ := hown.row
        obtain ⟨q1, q2⟩ := two_boxes hb
        have p0 := cell_of_row wr _ 0 _ _ _ q1
        have p1 := cell_of_row wr _ 1 _ _ _ q1
        have p2 := cell_of_row wr _ 2 _ _ _ q1
        have p3 := cell_of_row wr _ 3 _ _ _ q1
        have pf := fun j => frozen_of_row wr _ j _ _ q1
        have r0 := cell_of_row wr _ 0 _ _ _ q2
        have r1 := cell_of_row wr _ 1 _ _ _ q2
        have r2 := cell_of_row wr _ 2 _ _ _ q2
        have r3 := cell_of_row wr _ 3 _ _ _ q2
        have rf := fun j => frozen_of_row wr _ j _ _ q2
        simp only [List.getElem?_toArray, List.getElem?_cons_succ, List.getElem?_cons_zero] at p0 p1 p2 p3 r0 r1 r2 r3
        have HROW2 := Lib.hid hrow2
        have Q2 := Lib.hid q2
        clear hown hrow2 q1 q2
        go_wp2_with fail
        refine ret_node rfl rfl (set4 _ _ _ _ ((heap_setCell_other _ _ _ _ (by simp)).trans Q2.out)) rfl ⟨_, rfl, ?_, ?_⟩
        · simp only [RepP]
          refine ⟨A2, cap2, rfl, ⟨HF.out.k0, HF.out.k1, HF.out.n0, HF.out.n1, HF.out.s1, hcap2, hcm2⟩, RowP.keep (fun b hb' => ⟨by omega, by simp [World.setCell]; omega⟩) (fun b o hb' => ?_) c HROW2.out⟩
          exact World.cell?_of_block ((heap_setCell_other _ _ _ _ (by simp; omega)).trans ((heap_setCell_other _ _ _ _ (by simp; omega)).trans ((heap_setCell_other _ _ _ _ (by simp; omega)).trans ((heap_setCell_other _ _ _ _ (by simp; omega)).trans (heap_setCell_other _ _ _ _ (by simp; omega))))))
        · exact ((((hbb.setCell (by simp) _).setCell (by simp) _).setCell (by simp) _).setCell (by simp) _).setCell (by simp) _

end Go.Proofs.Ytmglacjcefajlaa
