/- The law AuditSafe, over the contracts of what it calls. -/
import Derived.Test.YtbkjeahmbnkmeaaGreatGA
import Derived.Test.YtbkjeahmbnkmeaaGreatGR
import Derived.Test.YtbkjeahmbnkmeaaGreatRows
import Derived.WalkKit
import Derived.ProofKit
import Derived.OpenShut
import Derived.Deep.Slices
import Derived.Lib.SmallJoins
set_option autoImplicit false
set_option linter.unusedVariables false
namespace Go.Proofs.YtbkjeahmbnkmeaaGreat
open Go Ev

section
variable {S : ST} {g : GS}
theorem hol' (I : MIg S noX noP g) (l : Int) : oh g.ev l = HO g.ls l := by have := I.hol l; simpa [noP] using this
theorem wai' (I : MIg S noX noP g) (l : Int) : ow g.ev l = WO g.ls l := by
  have := I.wai l
  rwa [List.filter_eq_self.2 (by simp [noX])] at this
theorem hold_in (I : MIg S noX noP g) {s : SY} (hs : s ∈ holds g.ev) (he : s.en = 0) : ∃ k, tkAt g.ls s.lock = some k ∧ k.ho.any (fun x => x.1 == s.task) = true := by
  have h1 : (s.task, s.read) ∈ HO g.ls s.lock := by
    rw [← hol' I, ← holds_oh]
    exact List.mem_map.2 ⟨s, List.mem_filter.2 ⟨hs, by simp [opL, he]⟩, rfl⟩
  unfold HO at h1
  cases hk : tkAt g.ls s.lock with
  | none => rw [hk] at h1; cases h1
  | some k =>
    rw [hk] at h1
    obtain ⟨y, hy, e⟩ := List.mem_map.1 h1
    exact ⟨k, rfl, List.any_eq_true.2 ⟨y, hy, by have := congrArg Prod.fst e; simpa [rd] using this⟩⟩
theorem wait_in (I : MIg S noX noP g) {s : SY} (hs : s ∈ waits g.ev) (he : s.en = 0) : ∃ k, tkAt g.ls s.lock = some k ∧ k.wa.any (fun x => x.1 == s.task) = true := by
  have h1 : s.task ∈ WO g.ls s.lock := by
    rw [← wai' I, ← waits_ow]
    exact List.mem_map.2 ⟨s, List.mem_filter.2 ⟨hs, by simp [opL, he]⟩, rfl⟩
  unfold WO at h1
  cases hk : tkAt g.ls s.lock with
  | none => rw [hk] at h1; cases h1
  | some k =>
    rw [hk] at h1
    obtain ⟨y, hy, e⟩ := List.mem_map.1 h1
    exact ⟨k, rfl, List.any_eq_true.2 ⟨y, hy, by simpa using e⟩⟩
def hoN (ls : List LK) (i : Nat) : Nat := match ls[i]? with
  | some k => k.ho.length
  | none => 0
def waN (ls : List LK) (i : Nat) : Nat := match ls[i]? with
  | some k => k.wa.length
  | none => 0
theorem sumN_congr {f f' : Nat → Nat} : ∀ n, (∀ i, i < n → f i = f' i) → sumN f n = sumN f' n
  | 0, _ => rfl
  | n + 1, h => by simp only [sumN]; rw [sumN_congr n (fun i hi => h i (by omega)), h n (by omega)]
theorem sumN_mono (f : Nat → Nat) {a b : Nat} (h : a ≤ b) : sumN f a ≤ sumN f b := by
  induction h with
  | refl => exact Nat.le_refl _
  | step _ ih => exact Nat.le_trans ih (by simp [sumN])
theorem hold_sum (I : MIg S noX noP g) : ((holds g.ev).filter isOp).length = sumN (hoN g.ls) g.ls.length := by
  rw [count_locks g.ls.length (holds g.ev) (fun s hs he => by
    obtain ⟨k, hk, _⟩ := hold_in I hs he
    obtain ⟨h0, h1⟩ := tkAt_some.1 hk
    have := (List.getElem?_eq_some_iff.1 h1).1
    omega)]
  refine sumN_congr _ (fun i hi => ?_)
  have h1 := congrArg List.length (holds_oh g.ev (i : Int))
  rw [List.length_map, hol' I] at h1
  rw [h1]
  unfold HO tkAt hoN
  rw [if_pos (by omega), Int.toNat_natCast, List.getElem?_eq_getElem hi]
  simp
theorem wait_sum (I : MIg S noX noP g) : ((waits g.ev).filter isOp).length = sumN (waN g.ls) g.ls.length := by
  rw [count_locks g.ls.length (waits g.ev) (fun s hs he => by
    obtain ⟨k, hk, _⟩ := wait_in I hs he
    obtain ⟨h0, h1⟩ := tkAt_some.1 hk
    have := (List.getElem?_eq_some_iff.1 h1).1
    omega)]
  refine sumN_congr _ (fun i hi => ?_)
  have h1 := congrArg List.length (waits_ow g.ev (i : Int))
  rw [List.length_map, wai' I] at h1
  rw [h1]
  unfold WO tkAt waN
  rw [if_pos (by omega), Int.toNat_natCast, List.getElem?_eq_getElem hi]
  simp
theorem stays_len (f : SY → EV → Int) (kind : Int) (ev : List EV) : (stays f kind ev).length ≤ ev.length := by
  induction ev using ind_snoc with
  | h0 => simp [stays]
  | h1 ev e ih =>
    rw [stays_snoc]
    have : (addS kind e).length ≤ 1 := by unfold addS; split <;> simp
    simp only [List.length_append, List.length_map, List.length_cons, List.length_nil]; omega
theorem filter_take_le (p : SY → Bool) (xs : List SY) (i : Nat) : ((xs.take i).filter p).length ≤ xs.length :=
  Nat.le_trans (List.length_filter_le _ _) (by simp; omega)
end
section
variable {l : List SP} {h : Heap}
theorem k_AuditSafe {hp0 : Heap} {s : ByteArray} {sA : Sl} {acts : List AC} {R : Bool → Heap → Prop} (H : HS (arow hp0 sA acts :: l) h)
    (k : ∀ h', HS (arow hp0 sA acts :: l) h' → R true h') : C_law28_AuditSafe s sA h R := by
  apply of_law28_AuditSafe; unfold S_law28_AuditSafe
  have hAn := arow_len H
  refine alc_in H (fun b1 h H => k_awake28 H (fun h H => ?_))
  rw [if_neg (by decide)]
  refine ldStr_f H rfl (ldS_f H rfl ?_)
  refine k_Of H.swap (by decide) (by decide) (fun nc gr sG sLo sP h H => ?_) (fun nc gr sG sLo sP gs lds ps h H G hac => ?_)
  · refine alc_in H (fun b3 h H => ?_)
    refine stF_in _ 0 0 _ h H (by simp) (by simp [Value.oneCell']) (fun h H => ?_)
    rw [if_pos (by decide)]
    exact k h (H.to 3 [1] rfl (by kernel_rfl))
  · refine alc_in H (fun b3 h H => ?_)
    refine stF_in _ 0 0 _ h H (by simp) (by simp [Value.oneCell']) (fun h H => ?_)
    rw [if_neg (by decide)]
    have H : HS (bk b3 (s5 nc gr sG sLo sP) :: row 1 sG (gs.map cI) :: row 5 sLo (lds.map cLd) :: progs sP ps :: arow hp0 sA acts :: bk b1 #[.string s, .slice sA.p sA.n sA.c] :: l) h := H
    refine ldI_f H rfl (ldI_f H rfl (ldS_f H rfl (ldS_f H rfl (ldS_f H rfl ?_))))
    refine k_mNew H.tail G (fun m S g h H I hnow hev => ?_)
    have H : HS (mach m S g :: bk b1 #[.string s, .slice sA.p sA.n sA.c] :: arow hp0 sA acts :: l) h := H.to 5 [0, 4, 3] rfl (by kernel_rfl)
    refine ldS_f H.swap rfl ?_
    refine Lp.inv (I := fun s' h' => ∃ g, HS (mach m S g :: bk b1 #[.string s, .slice sA.p sA.n sA.c] :: arow hp0 sA acts :: l) h' ∧ MIg S noX noP g ∧ (0 ≤ g.now ∧ g.now ≤ 1050000) ∧ g.ev.length ≤ 100000000000 ∧ 0 ≤ s'.1 ∧ s'.1 ≤ (acts.length : Int)) (μ := fun s' _ => ((acts.length : Int) - s'.1).toNat) ?_
      ⟨g, H, I, by omega, by rw [hev]; simp, by simp, by simp⟩
    clear H I hnow hev
    rintro ⟨i, _⟩ h ⟨g, H, I, hnow, hev, i0, i1⟩ _
    simp only at i0 i1 ⊢
    by_cases hi : i < ((sA.n : Nat) : Int)
    · rw [if_pos (by simpa using hi)]
      obtain ⟨a, ha⟩ := get_ex i0 (by omega) rfl (l := acts) (i := i)
      have hw : IntKind.wrap .i64 (i + 1) = i + 1 := wrap64_in (by omega) (by omega)
      rw [hw]
      refine ael_in (H.pull 2 _ rfl) i0 ha (fun c hc hcell => ldI_in (hcell 0 _ rfl) (ldI_in (hcell 1 _ rfl) (ldI_in (hcell 2 _ rfl) (ldI_in (hcell 3 _ rfl) (ldI_in (hcell 4 _ rfl) ?_)))))
      refine alc_in H (fun b8 h H => ?_)
      refine stF_in _ 0 0 _ h H (by simp) (by simp [Value.oneCell']) (fun h H => ?_)
      have H : HS (bk b8 #[.int .i64 a.kind, .int .i64 a.a, .int .i64 a.b, .int .i64 a.c, .int .i64 a.d] :: mach m S g :: bk b1 #[.string s, .slice sA.p sA.n sA.c] :: arow hp0 sA acts :: l) h := H
      refine ldI_f H rfl (ldI_f H rfl (ldI_f H rfl (ldI_f H rfl (ldI_f H rfl ?_))))
      refine k_mDo H.tail I hnow hev (fun e g' h H I' hnow' hev' _ => ?_)
      exact ⟨⟨g', H, I', hnow', hev', by omega, by omega⟩, by omega⟩
    · rw [if_neg (by simpa using hi)]
      obtain ⟨x, hp, H⟩ := mach_open H
      refine ldS_f H rfl (ldS_f H rfl ?_)
      have HE : HS (row 5 x.sE (g.ev.map cE) :: bk m (mB S g.now x) :: row 1 S.sK ((g.ls.map (·.b)).map cPt) :: big PL g.ls :: arow hp0 sA acts :: l) h := H.to 13 [7, 0, 3, 4, 12] rfl (by kernel_rfl)
      clear H
      refine k_AHolds HE (by omega) (fun sh h H => ⟨cf (H.pull 2 _ rfl) rfl, ?_⟩)
      refine k_AWaits H.swap (by omega) (fun sw h H => ⟨cf (H.pull 3 _ rfl) rfl, ?_⟩)
      have H : HS (row 6 sh ((holds g.ev).map cS) :: row 6 sw ((waits g.ev).map cS) :: bk m (mB S g.now x) :: row 1 S.sK ((g.ls.map (·.b)).map cPt) :: big PL g.ls :: arow hp0 sA acts :: l) h := H.to 7 [2, 0, 3, 4, 5, 6] rfl (by kernel_rfl)
      have hlh : (holds g.ev).length ≤ 100000000000 := Nat.le_trans (stays_len _ _ _) hev
      have hlw : (waits g.ev).length ≤ 100000000000 := Nat.le_trans (stays_len _ _ _) hev
      refine k_Beside H (by omega) (holds_apart I.good) (fun h H => ?_)
      rw [if_neg (by decide)]
      have nsh := row_len H
      have nsw := row_len H.swap
      have nsK := row_len (H.pull 3 _ rfl)
      simp only [List.length_map] at nsh nsw nsK
      -- the holds
      refine Lp.inv (I := fun s' h' => HS (row 6 sh ((holds g.ev).map cS) :: row 6 sw ((waits g.ev).map cS) :: bk m (mB S g.now x) :: row 1 S.sK ((g.ls.map (·.b)).map cPt) :: big PL g.ls :: arow hp0 sA acts :: l) h' ∧ 0 ≤ s'.2.1 ∧ s'.2.1 ≤ ((holds g.ev).length : Int) ∧ s'.1 = ((((holds g.ev).take s'.2.1.toNat).filter isOp).length : Int)) (μ := fun s' _ => (((holds g.ev).length : Int) - s'.2.1).toNat) ?_
        ⟨H, by simp, by simp, by simp⟩
      clear H HE
      rintro ⟨n1, i, _⟩ h ⟨H, i0, i1, hn1⟩ _
      simp only at i0 i1 hn1 ⊢
      by_cases hi : i < ((sh.n : Nat) : Int)
      · rw [if_pos (by simpa using hi)]
        obtain ⟨y, hy⟩ := get_ex i0 (by omega) rfl (l := holds g.ev) (i := i)
        have hym := List.mem_of_getElem? hy
        have hw : IntKind.wrap .i64 (i + 1) = i + 1 := wrap64_in (by omega) (by omega)
        have e1 : (i + 1).toNat = i.toNat + 1 := by omega
        have hle := filter_take_le isOp (holds g.ev) i.toNat
        rw [hw]
        refine el_in H i0 hy (fun c hc hcell => ldI_in (hcell 0 _ rfl) (ldI_in (hcell 1 _ rfl) (ldI_in (hcell 2 _ rfl) (ldI_in (hcell 3 _ rfl) (ldI_in (hcell 4 _ rfl) (ldB_in (hcell 5 _ rfl) ?_))))))
        refine alc_in H (fun b17 h H => ?_)
        refine stF_in _ 0 0 _ h H (by simp) (by simp [Value.oneCell']) (fun h H => ?_)
        have H : HS (bk b17 (YtbkjeahmbnkmeaaGreat.sA y) :: row 6 sh ((holds g.ev).map cS) :: row 6 sw ((waits g.ev).map cS) :: bk m (mB S g.now x) :: row 1 S.sK ((g.ls.map (·.b)).map cPt) :: big PL g.ls :: arow hp0 sA acts :: l) h := H
        refine ldI_f H rfl ?_
        by_cases hen : y.en = 0
        · rw [if_pos (by simpa using hen)]
          obtain ⟨kk, hkk, hany⟩ := hold_in I hym hen
          obtain ⟨k0, hk1⟩ := tkAt_some.1 hkk
          have hklt := (List.getElem?_eq_some_iff.1 hk1).1
          refine ldI_f H rfl ?_
          rw [if_neg (by simp; omega)]
          refine ldI_f H rfl (ldS_f (H.pull 3 _ rfl) rfl ?_)
          rw [if_neg (by simp; omega)]
          refine ldS_f (H.pull 3 _ rfl) rfl (ldI_f H rfl ?_)
          refine el1_in (enc := cPt) (a := kk.b) (H.pull 4 _ rfl) k0 (by rw [List.getElem?_map, hk1]; rfl) rfl (fun c hc hcell => ldP_in hcell (ldI_f H rfl ?_))
          obtain ⟨np, tp, LI, HL⟩ := lk_open (big_at (Q := PL) (H.pull 5 _ rfl) hk1)
          refine k_Holds HL (by have := LI.len; omega) ?_
          refine ⟨cf H rfl, cf (H.pull 3 _ rfl) rfl, cf (H.pull 3 _ rfl) rfl, cf H rfl, cf H rfl, ?_⟩
          rw [hany, if_neg (by decide)]
          refine ⟨⟨H.tail, by omega, by omega, ?_⟩, by omega⟩
          rw [wrap64_in (by omega) (by omega), e1, List.take_add_one, hy, List.filter_append, List.length_append, hn1]
          simp [isOp, hen]
        · rw [if_neg (by simpa using hen)]
          refine ldI_f H rfl (ldI_f H rfl ?_)
          have ht := (stays_time I.good g.now I.tim y hym).2 hen
          rw [if_neg (by simp; omega)]
          refine ⟨⟨H.tail, by omega, by omega, ?_⟩, by omega⟩
          rw [e1, List.take_add_one, hy, List.filter_append, List.length_append, hn1]
          simp [isOp, hen]
      · rw [if_neg (by simpa using hi)]
        have e1 : i.toNat = (holds g.ev).length := by omega
        rw [e1, List.take_length, hold_sum I] at hn1
        -- the waits
        refine Lp.inv (I := fun s' h' => HS (row 6 sh ((holds g.ev).map cS) :: row 6 sw ((waits g.ev).map cS) :: bk m (mB S g.now x) :: row 1 S.sK ((g.ls.map (·.b)).map cPt) :: big PL g.ls :: arow hp0 sA acts :: l) h' ∧ 0 ≤ s'.2.1 ∧ s'.2.1 ≤ ((waits g.ev).length : Int) ∧ s'.1 = ((((waits g.ev).take s'.2.1.toNat).filter isOp).length : Int)) (μ := fun s' _ => (((waits g.ev).length : Int) - s'.2.1).toNat) ?_
          ⟨H, by simp, by simp, by simp⟩
        clear H i0 i1 hi e1
        rintro ⟨n2, i, _⟩ h ⟨H, i0, i1, hn2⟩ _
        simp only at i0 i1 hn2 ⊢
        by_cases hi : i < ((sw.n : Nat) : Int)
        · rw [if_pos (by simpa using hi)]
          obtain ⟨y, hy⟩ := get_ex i0 (by omega) rfl (l := waits g.ev) (i := i)
          have hym := List.mem_of_getElem? hy
          have hw : IntKind.wrap .i64 (i + 1) = i + 1 := wrap64_in (by omega) (by omega)
          have e1 : (i + 1).toNat = i.toNat + 1 := by omega
          have hle := filter_take_le isOp (waits g.ev) i.toNat
          rw [hw]
          refine el_in H.swap i0 hy (fun c hc hcell => ldI_in (hcell 0 _ rfl) (ldI_in (hcell 1 _ rfl) (ldI_in (hcell 2 _ rfl) (ldI_in (hcell 3 _ rfl) (ldI_in (hcell 4 _ rfl) (ldB_in (hcell 5 _ rfl) ?_))))))
          refine alc_in H (fun b17 h H => ?_)
          refine stF_in _ 0 0 _ h H (by simp) (by simp [Value.oneCell']) (fun h H => ?_)
          have H : HS (bk b17 (YtbkjeahmbnkmeaaGreat.sA y) :: row 6 sh ((holds g.ev).map cS) :: row 6 sw ((waits g.ev).map cS) :: bk m (mB S g.now x) :: row 1 S.sK ((g.ls.map (·.b)).map cPt) :: big PL g.ls :: arow hp0 sA acts :: l) h := H
          refine ldI_f H rfl ?_
          by_cases hen : y.en = 0
          · rw [if_pos (by simpa using hen)]
            obtain ⟨kk, hkk, hany⟩ := wait_in I hym hen
            obtain ⟨k0, hk1⟩ := tkAt_some.1 hkk
            have hklt := (List.getElem?_eq_some_iff.1 hk1).1
            refine ldI_f H rfl ?_
            rw [if_neg (by simp; omega)]
            refine ldI_f H rfl (ldS_f (H.pull 3 _ rfl) rfl ?_)
            rw [if_neg (by simp; omega)]
            refine ldS_f (H.pull 3 _ rfl) rfl (ldI_f H rfl ?_)
            refine el1_in (enc := cPt) (a := kk.b) (H.pull 4 _ rfl) k0 (by rw [List.getElem?_map, hk1]; rfl) rfl (fun c hc hcell => ldP_in hcell (ldI_f H rfl ?_))
            obtain ⟨np, tp, LI, HL⟩ := lk_open (big_at (Q := PL) (H.pull 5 _ rfl) hk1)
            refine k_Waits HL (by have := LI.len; omega) ?_
            refine ⟨cf H rfl, cf (H.pull 3 _ rfl) rfl, cf (H.pull 3 _ rfl) rfl, cf H rfl, cf H rfl, ?_⟩
            rw [hany, if_neg (by decide)]
            refine ⟨⟨H.tail, by omega, by omega, ?_⟩, by omega⟩
            rw [wrap64_in (by omega) (by omega), e1, List.take_add_one, hy, List.filter_append, List.length_append, hn2]
            simp [isOp, hen]
          · rw [if_neg (by simpa using hen)]
            refine ldI_f H rfl (ldI_f H rfl ?_)
            have ht := (stays_time I.good g.now I.tim y hym).2 hen
            rw [if_neg (by simp; omega)]
            refine ⟨⟨H.tail, by omega, by omega, ?_⟩, by omega⟩
            rw [e1, List.take_add_one, hy, List.filter_append, List.length_append, hn2]
            simp [isOp, hen]
        · rw [if_neg (by simpa using hi)]
          have e1 : i.toNat = (waits g.ev).length := by omega
          rw [e1, List.take_length, wait_sum I] at hn2
          have b1' : sumN (hoN g.ls) g.ls.length ≤ 100000000000 := by rw [← hold_sum I]; exact Nat.le_trans (List.length_filter_le _ _) hlh
          have b2' : sumN (waN g.ls) g.ls.length ≤ 100000000000 := by rw [← wait_sum I]; exact Nat.le_trans (List.length_filter_le _ _) hlw
          refine ldS_f (H.pull 2 _ rfl) rfl ?_
          refine Lp.inv (I := fun s' h' => HS (row 6 sh ((holds g.ev).map cS) :: row 6 sw ((waits g.ev).map cS) :: bk m (mB S g.now x) :: row 1 S.sK ((g.ls.map (·.b)).map cPt) :: big PL g.ls :: arow hp0 sA acts :: l) h' ∧ 0 ≤ s'.2.2.1 ∧ s'.2.2.1 ≤ (g.ls.length : Int) ∧ s'.1 + (sumN (hoN g.ls) s'.2.2.1.toNat : Int) = n1 ∧ s'.2.1 + (sumN (waN g.ls) s'.2.2.1.toNat : Int) = n2 ∧ -10000 ≤ s'.1 ∧ -10000 ≤ s'.2.1) (μ := fun s' _ => ((g.ls.length : Int) - s'.2.2.1).toNat) ?_
            ⟨H, by simp, by simp, by simp [sumN], by simp [sumN], by simp only; omega, by simp only; omega⟩
          clear H i0 i1 hi e1
          rintro ⟨q1, q2, i, _⟩ h ⟨H, i0, i1, hq1, hq2, hb1, hb2⟩ _
          simp only at i0 i1 hq1 hq2 hb1 hb2 ⊢
          by_cases hi : i < ((S.sK.n : Nat) : Int)
          · rw [if_pos (by simpa using hi)]
            obtain ⟨kk, hkk⟩ := get_ex i0 (by omega) rfl (l := g.ls) (i := i)
            have e1 : (i + 1).toNat = i.toNat + 1 := by omega
            refine el1_in (enc := cPt) (a := kk.b) (H.pull 3 _ rfl) i0 (by rw [List.getElem?_map, hkk]; rfl) rfl (fun c hc hcell => ldP_in hcell ?_)
            obtain ⟨np, tp, LI, HL⟩ := lk_open (big_at (Q := PL) (H.pull 4 _ rfl) hkk)
            obtain ⟨_, sH, sW, _, _, _, HB⟩ := lkr_open HL
            have nH := row_len HB.swap
            have nW := row_len (HB.pull 2 _ rfl)
            rw [List.length_map] at nH nW
            have hlen := LI.len
            have hnl := I.nl
            have f1 : hoN g.ls i.toNat = kk.ho.length := by unfold hoN; rw [hkk]
            have f2 : waN g.ls i.toNat = kk.wa.length := by unfold waN; rw [hkk]
            refine ldS_f HB rfl (ldS_f HB rfl ?_)
            have m1 : sumN (hoN g.ls) (i.toNat + 1) ≤ sumN (hoN g.ls) g.ls.length := sumN_mono _ (by omega)
            have m2 : sumN (waN g.ls) (i.toNat + 1) ≤ sumN (waN g.ls) g.ls.length := sumN_mono _ (by omega)
            simp only [sumN] at m1 m2
            rw [wrap64_in (n := i + 1) (by omega) (by omega), wrap64_in (n := q1 - ((sH.n : Nat) : Int)) (by omega) (by omega), wrap64_in (n := q2 - ((sW.n : Nat) : Int)) (by omega) (by omega)]
            refine ⟨⟨H, by omega, by omega, ?_, ?_, by omega, by omega⟩, by omega⟩
            · rw [e1]; simp only [sumN]; omega
            · rw [e1]; simp only [sumN]; omega
          · rw [if_neg (by simpa using hi)]
            have e1 : i.toNat = g.ls.length := by omega
            rw [e1] at hq1 hq2
            have z1 : q1 = 0 := by omega
            have z2 : q2 = 0 := by omega
            rw [if_pos (by simp [z1]), z2]
            exact k h (H.to 6 [5] rfl (by kernel_rfl))
end
end Go.Proofs.YtbkjeahmbnkmeaaGreat
set_option autoImplicit false
set_option linter.unusedVariables false
namespace Go.Proofs.YtbkjeahmbnkmeaaGreat
open Go Ev

theorem run_AuditSafe (s : ByteArray) (sA : Sl) (acts : List AC) (W : World) (hn : sA.n = acts.length) (hr : RowAt W.heap sA.p (sA.n * 5) (acts.map cAc).flatten) :
    Calls P 3 #[.agg #[.string s, .slice sA.p sA.n sA.c]] W fun e W' => e = .returned (.bool true) ∧ Kp W W' ∧ ∀ (b : Nat) (o : Obj), W.heap[b]? = some o → W'.heap[b]? = some o := by
  have h := k_AuditSafe (s := s) (R := fun b h' => b = true ∧ ∀ (k : Nat) (o : Obj), W.heap[k]? = some o → h'[k]? = some o) (arow_in hn hr) (fun h' H => ⟨rfl, arow_old H⟩)
  refine (h W rfl).mono fun e W' ⟨v, he, hv, hk⟩ => ?_
  obtain ⟨t, rfl, ht⟩ := Sh.dec_mk hv
  have ht1 : t = true := ht.1
  refine ⟨?_, hk, ht.2⟩
  rw [he, ht1]; rfl
instance : Inhabited AC := ⟨⟨0, 0, 0, 0, 0⟩⟩
section
variable {H : Type} {enc : TypeId × Value → H} {W : World} {spare : Nat → Bool} {held : Bool}
theorem c37 : P.cellsOf 37 = 5 := by kernel_rfl
theorem c3 : P.cellsOf 3 = 1 := by kernel_rfl
theorem list5 {α : Type} {l : List α} (h : l.length = 5) : ∃ a b c d e, l = [a, b, c, d, e] := by
  match l, h with
  | [a, b, c, d, e], _ => exact ⟨a, b, c, d, e, rfl⟩
theorem act_read {n : Nat} {cs : List Value} {x : DataW H × List MemPlace} (h : DataW.trod enc P W 0 spare held n 37 cs = some x) : ∃ a : AC, cs = cAc a := by
  obtain ⟨xs, m, _, _, hl, hlen, hf⟩ := DataW.trod_struct Tryz.underlying37 h
  obtain ⟨v0, v1, v2, v3, v4, rfl⟩ := list5 (hl.trans c37)
  obtain ⟨y0, y1, y2, y3, y4, rfl⟩ := list5 hlen
  have f0 : DataW.trod enc P W 0 spare held m 3 (([v0, v1, v2, v3, v4].drop 0).take (P.cellsOf 3)) = some y0 := hf 0 _ rfl
  have f1 : DataW.trod enc P W 0 spare held m 3 (([v0, v1, v2, v3, v4].drop 1).take (P.cellsOf 3)) = some y1 := hf 1 _ rfl
  have f2 : DataW.trod enc P W 0 spare held m 3 (([v0, v1, v2, v3, v4].drop 2).take (P.cellsOf 3)) = some y2 := hf 2 _ rfl
  have f3 : DataW.trod enc P W 0 spare held m 3 (([v0, v1, v2, v3, v4].drop 3).take (P.cellsOf 3)) = some y3 := hf 3 _ rfl
  have f4 : DataW.trod enc P W 0 spare held m 3 (([v0, v1, v2, v3, v4].drop 4).take (P.cellsOf 3)) = some y4 := hf 4 _ rfl
  rw [c3] at f0 f1 f2 f3 f4
  obtain ⟨a0, e0, _⟩ := DataW.trod_int Tryz.underlying3 f0
  obtain ⟨a1, e1, _⟩ := DataW.trod_int Tryz.underlying3 f1
  obtain ⟨a2, e2, _⟩ := DataW.trod_int Tryz.underlying3 f2
  obtain ⟨a3, e3, _⟩ := DataW.trod_int Tryz.underlying3 f3
  obtain ⟨a4, e4, _⟩ := DataW.trod_int Tryz.underlying3 f4
  have g0 : v0 = .int .i64 a0 := (List.cons.inj e0).1
  have g1 : v1 = .int .i64 a1 := (List.cons.inj e1).1
  have g2 : v2 = .int .i64 a2 := (List.cons.inj e2).1
  have g3 : v3 = .int .i64 a3 := (List.cons.inj e3).1
  have g4 : v4 = .int .i64 a4 := (List.cons.inj e4).1
  subst g0 g1 g2 g3 g4
  exact ⟨⟨a0, a1, a2, a3, a4⟩, rfl⟩
theorem acts_read {n : Nat} {cs : List Value} {x : DataW H × List MemPlace} (h : DataW.trod enc P W 0 spare held n 22 cs = some x) :
    ∃ (sA : Sl) (acts : List AC), cs = [.slice sA.p sA.n sA.c] ∧ sA.n = acts.length ∧ RowAt W.heap sA.p (sA.n * 5) (acts.map cAc).flatten := by
  rcases Deep.open_slice Tryz.underlying22 h with ⟨rfl, _⟩ | ⟨a, len, cap, m, n', D, Pl, rfl, _, hl, hm, hmm, _, hx⟩
  · exact ⟨⟨none, 0, 0⟩, [], rfl, rfl, rfl, fun j v hv => by simp at hv⟩
  · have hle : len ≤ m := by rw [hmm]; split <;> omega
    obtain ⟨f, hf⟩ := Deep.choose_lt (α := AC) (n := len) (p := fun i ac => W.cells? 0 (a.add (i * 5)) 5 = some (cAc ac)) (fun i hi => by
      obtain ⟨cs', h1, h2⟩ := hx i (by omega)
      rw [c37] at h1
      obtain ⟨ac, rfl⟩ := act_read h2
      exact ⟨ac, h1⟩)
    have hl5 : ∀ y ∈ ((List.range len).map f).map cAc, y.length = 5 := fun y hy => by obtain ⟨z, _, rfl⟩ := List.mem_map.1 hy; rfl
    refine ⟨⟨some a, len, cap⟩, (List.range len).map f, rfl, by simp, ?_, fun j v hv => ?_⟩
    · rw [flat_len hl5]; simp
    · have hj := (List.getElem?_eq_some_iff.1 hv).1
      rw [flat_len hl5] at hj
      simp only [List.length_map, List.length_range] at hj
      have hi : j / 5 < len := by omega
      have hr : j % 5 < 5 := Nat.mod_lt _ (by decide)
      have e : j / 5 * 5 + j % 5 = j := by omega
      have hg := flat_get hl5 (i := j / 5) (j := j % 5) (x := cAc (f (j / 5))) (by simp [hi]) hr
      rw [e, hv] at hg
      obtain ⟨_, _, hc⟩ := World.cells?_some (hf _ hi)
      have hc2 := hc (j % 5) hr
      rw [← hg, add_add', e] at hc2
      exact ⟨a, rfl, hc2⟩
end
theorem kept_of {W W' : World} {may : MemPlace → Prop} (hk : Kp W W') (ho : ∀ (b : Nat) (o : Obj), W.heap[b]? = some o → W'.heap[b]? = some o) : W.keptBut W' may := by
  refine ⟨hk.1, hk.2, fun i hi => ?_⟩
  obtain ⟨o, hb⟩ : ∃ o, W.heap[i]? = some o := ⟨_, Array.getElem?_eq_getElem hi⟩
  rw [ho i o hb, hb]
  cases o <;> simp
theorem same_of {W W' : World} (ho : ∀ (b : Nat) (o : Obj), W.heap[b]? = some o → W'.heap[b]? = some o) {p : MemPlace} (hp : p.block < W.heap.size) : W.sameAt W' p := by
  have hb : W'.heap[p.block]? = W.heap[p.block]? := by
    rw [Array.getElem?_eq_getElem hp]; exact ho _ _ (Array.getElem?_eq_getElem hp)
  cases p with
  | cell b o => exact World.cell?_of_block (w := W) hb
  | map b => exact hb
end Go.Proofs.YtbkjeahmbnkmeaaGreat
