/- For all programs the law CheckerSwap answers true, and they read behind the call as they did before. Conditions: none. -/
import Derived.Test.YtmglacjcefajlaaRead
import Derived.Test.YtmglacjcefajlaaLm
import Derived.Test.YtmglacjcefajlaaAgs
namespace Go.Proofs.Ytmglacjcefajlaa
open Go.ChangeShapes Go.WideShapes Go.ChangeAt Go.RowKit

theorem dV_plain (v : Vd) : (dV v).pl = true := rfl
theorem sl_plain {n : Nat} {l : List D} (h : ∀ d ∈ l, D.pl d = true) : (sl n l).pl = true := by
 show (decide (Own.imm = Own.imm) && D.pls l) = true
 rw [D.pls_of h]; rfl
theorem kids_plain (t : Tr) : (sl 4 (t.kids.map dN)).pl = true := sl_plain fun d hd => by obtain ⟨t, _, rfl⟩ := List.mem_map.1 hd; exact dN_plain t
theorem dP_plain (q : Pr) : (dP q).pl = true := by
 unfold dP
 simp only [D.pl, D.pls, kids_plain, sl_plain (l := q.params.map dV) (n := 3) (fun d hd => by obtain ⟨t, _, rfl⟩ := List.mem_map.1 hd; exact dV_plain t), Bool.and_true]
theorem dG_plain (p : Pg) : (dG p).pl = true := by
 unfold dG
 simp only [D.pl, D.pls, kids_plain, sl_plain (l := p.vars.map dV) (n := 3) (fun d hd => by obtain ⟨t, _, rfl⟩ := List.mem_map.1 hd; exact dV_plain t), sl_plain (l := p.procs.map dP) (n := 6) (fun d hd => by obtain ⟨t, _, rfl⟩ := List.mem_map.1 hd; exact dP_plain t), Bool.and_true]
theorem law_callsM (p : Pg) {W : World} {v : Value} (h : val W (gW W) (dG p) v) : Calls Try.prog 8 #[v] W fun e w' => e = .returned (.bool true) ∧ Below W.heap.size W w' := by
 obtain ⟨us, hR, e⟩ := h.to1 rfl
 exact law6_mem p (ok0 := (gW W).ok) (fun b o q => q) (val.of1 ⟨us, hR.pl (dG_plain p), e⟩)
set_option maxRecDepth 100000 in
theorem checkerSwap_lifted (os : Os) (started : os.Started) (H : Type) (enc : TypeId × Value → H) :
  ReturnsInHanded {} Try.checked os 8 .any (Rows.checkerSwapSpec.pre6 enc Try.prog Try.f8 Rows.checkerSwapRow.domain false) (Rows.checkerSwapSpec.post enc Try.prog Try.f8 false true false false) := by
 refine returnsInHanded_of_change (C := Try.checked) prog_own started (by kernel_rfl) Try.func8
  (ChangeSpec.witness6 (enc := enc) (C := Try.checked) false ⟨#[], #[.agg #[.slice none 0 0, .slice none 0 0, .int .u8 0, .int .i64 0, .string ⟨#[]⟩, .slice none 0 0]], []⟩ 8 (by kernel_rfl) (by kernel_rfl) (by kernel_rfl) (by kernel_rfl)) ?_
 intro W base args ds gs before hval0 hW _ _
 have hval : ∀ (j : Nat) t v, Try.f8.params[j]? = some t → args[j]? = some v → Value.okWide Try.prog W .any base t v := hval0
 have hW' : DataW.Whole enc Try.prog Try.f8.params.toList Rows.checkerSwapSpec.vars false W args.toList ds gs before := hW
 obtain ⟨p, q, hA0, hV, rfl, _, _⟩ := hW
 have hA : DataW.TrodAll enc Try.prog W 0 (fun _ => true) true Try.f8.params.toList args.toList ds p := hA0
 rw [Try.params8] at hA hval
 obtain ⟨v0, d0, rfl, rfl, h0⟩ := trodAll_one hA
 obtain ⟨g0, hg0⟩ := arg_agg Try.underlying28 (hval 0 28 v0 rfl rfl) h0 (fun x => rfl) (fun fuel => arg_prog fuel)
 refine (law_callsM g0 hg0).mono fun e W' ⟨he, hb⟩ => ?_
 subst he
 exact ⟨_, rfl, law_post hW' rfl rfl (by rw [Try.params8]; intro t ht; simp at ht; subst ht; exact ⟨by kernel_rfl, of_decide_eq_true (by kernel_rfl)⟩) rfl hb⟩

theorem checkerSwap_holds : Rows.CheckerSwapSaid :=
 OpenClaim.holds_of_wide 8 Try.f8 rfl rfl rfl rfl rfl rfl rfl ⟨rfl, rfl, rfl, rfl, rfl⟩ rfl rfl rfl rfl rfl (by kernel_rfl) Try.func8 (by kernel_rfl)
  (of_decide_eq_true (by kernel_rfl)) (by unfold Func.isWrapper; first | (rw [if_pos (by decide +kernel)]; kernel_rfl) | (rw [if_neg (by decide +kernel)]; exact ⟨rfl, rfl⟩))
  (fun os started H enc _ => checkerSwap_lifted os started H enc)

end Go.Proofs.Ytmglacjcefajlaa
