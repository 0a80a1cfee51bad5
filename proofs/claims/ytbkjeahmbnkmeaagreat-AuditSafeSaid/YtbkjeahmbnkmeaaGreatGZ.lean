/- For every input the law AuditSafe returns true, and its argument reads behind the call as it read before. No condition. -/
import Derived.Test.YtbkjeahmbnkmeaaGreatGW
set_option linter.unusedVariables false
namespace Go.Proofs.YtbkjeahmbnkmeaaGreat.auditSafe
open Go Ev Go.ChangeShapes Go.WideShapes Go.ChangeAt Go.RowKit Go.Joins

theorem own : ownKnob Tryz.prog.godebug = none := by kernel_rfl
theorem c24 : Tryz.prog.cellsOf 24 = 2 := by kernel_rfl
theorem laid : laidOutB Tryz.prog = true := by kernel_rfl
theorem readable : Tryz.prog.readableRec 24 = true := by kernel_rfl
theorem rowed : 24 < Tryz.prog.types.size := of_decide_eq_true (by kernel_rfl)
set_option maxRecDepth 100000 in
theorem lifted (os : Os) (started : os.Started) (H : Type) (enc : TypeId × Value → H) :
    ReturnsInHanded {} Tryz.checked os 3 .any (Rows.auditSafeSpec.pre6 enc Tryz.prog Tryz.f3 Rows.auditSafeRow.domain false) (Rows.auditSafeSpec.post enc Tryz.prog Tryz.f3 false true false false) := by
  refine returnsInHanded_of_change (C := Tryz.checked) own started (by kernel_rfl) Tryz.func3
    (ChangeSpec.witness6 (enc := enc) (C := Tryz.checked) false ⟨#[], #[.agg #[.string ByteArray.empty, .slice none 0 0]], []⟩ 8 (by kernel_rfl) (by kernel_rfl) (by kernel_rfl) (by kernel_rfl)) ?_
  intro W base args ds gs before hval0 hW hcnd _
  have hval : ∀ (j : Nat) t v, Tryz.f3.params[j]? = some t → args[j]? = some v → Value.okWide Tryz.prog W .any base t v := hval0
  have hW' := hW
  have hlt := hW.lt
  obtain ⟨p, q, hA0, hV, rfl, hfz, hnd⟩ := hW
  have hA : DataW.TrodAll enc Tryz.prog W 0 (fun _ => true) true Tryz.f3.params.toList args.toList ds p := hA0
  rw [Tryz.params3] at hA hval
  obtain ⟨v0, vs0, d0, ds0, p0, q0, hargs, rfl, rfl, h0, r0⟩ := trodAll_cons hA
  obtain ⟨rfl, rfl, rfl⟩ := trodAll_nil r0
  obtain rfl : args = #[v0] := by cases args; simp_all
  obtain ⟨rfl, rfl⟩ := trodVars_none hV
  have h00 := h0
  obtain ⟨c0, c1, y0, y1, n, rfl, rfl, rfl, hy0, hy1⟩ := open_agg2 Tryz.underlying24 (by kernel_rfl) c24 (hval 0 24 v0 rfl rfl) h0
  obtain ⟨s, e0, _⟩ := DataW.trod_string Tryz.underlying9 hy0
  obtain ⟨sA, acts, e1, hn, hr⟩ := acts_read hy1
  simp only [List.cons.injEq, and_true] at e0 e1
  subst e0 e1
  refine (run_AuditSafe s sA acts W hn hr).mono fun e W' ⟨he, hk, ho⟩ => ?_
  subst he
  have hpl : ∀ x ∈ y0.2 ++ y1.2, x.block < W.heap.size := fun x hx => hlt x (by simpa using hx)
  have hR : DataW.TrodAll enc Tryz.prog W' W.heap.size (fun _ => false) false [4] [.bool true] [.lit (.bool true)] [] := trodAll_cons_mk (shut_bool Tryz.underlying4 _) trodAll_mk0
  have hG : DataW.TrodAll enc Tryz.prog W' 0 (fun b => decide (b < W.heap.size)) true [24] [.agg #[.string s, .slice sA.p sA.n sA.c]] [.agg [y0.1, y1.1]] (y0.2 ++ y1.2 ++ []) :=
    trodAll_cons_mk (WideElems.Trod_stays laid readable rowed h00 (fun x hx => same_of ho (hpl x hx)) (fun x hx => by simpa using hpl x hx)) trodAll_mk0
  exact ⟨_, rfl, [.agg [y0.1, y1.1]], [], y0.2 ++ y1.2 ++ [] ++ [], [], y0.2 ++ y1.2 ++ [], [], hW', hR, hG, rfl, kept_of hk ho, fun h => by cases h⟩

theorem over : Rows.auditSafeRow.holds Tryz.pinned (OpenSpec.ofChange Rows.auditSafeSpec) :=
  OpenClaim.holds_of_wide 3 Tryz.f3 rfl rfl rfl rfl rfl rfl rfl ⟨rfl, rfl, rfl, rfl, rfl⟩ rfl rfl rfl rfl rfl (by kernel_rfl) Tryz.func3 (by kernel_rfl)
    (of_decide_eq_true (by kernel_rfl)) (by unfold Func.isWrapper; first | (rw [if_pos (by decide +kernel)]; kernel_rfl) | (rw [if_neg (by decide +kernel)]; exact ⟨rfl, rfl⟩))
    (fun os started H enc _ => lifted os started H enc)

/-- the statement -/
theorem proved : Rows.AuditSafeSaid :=
  over
#print axioms proved
end Go.Proofs.YtbkjeahmbnkmeaaGreat.auditSafe
