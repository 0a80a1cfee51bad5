/- Contracts: which programs may be (exact). -/
import Derived.Test.YtbkjeahmbnkmeaaGreatGM
import Derived.Test.YtbkjeahmbnkmeaaGreatGL
set_option autoImplicit false
set_option linter.unusedVariables false
namespace Go.Proofs.YtbkjeahmbnkmeaaGreat
open Go Ev

section
variable {l : List SP} {h : Heap}
theorem k_within {n m : Int} {R : Bool → Heap → Prop} (k : R (decide (1 ≤ n ∧ n ≤ m)) h) : C_ref12_within n m h R := by
  apply of_ref12_within; unfold S_ref12_within
  by_cases h1 : n ≥ 1
  · rw [if_pos (by simpa using h1)]
    have : decide (1 ≤ n ∧ n ≤ m) = decide (n ≤ m) := by simp; omega
    rwa [this] at k
  · rw [if_neg (by simpa using h1)]
    have : decide (1 ≤ n ∧ n ≤ m) = false := by simp; omega
    rwa [this] at k
def tkB (o : OP) : Bool := decide (2 ≤ o.kind ∧ o.kind ≤ 5)
theorem k_takes {o : OP} {R : Bool → Heap → Prop} (H : HS l h) (k : ∀ h', HS l h' → R (tkB o) h') : C_ref11_takes o.kind o.a o.b h R := by
  apply of_ref11_takes; unfold S_ref11_takes
  refine alc_in H (fun b1 h H => ldI_f H rfl ?_)
  by_cases h1 : o.kind ≥ 2
  · rw [if_pos (by simpa using h1)]
    refine ldI_f H rfl ?_
    have := k h H.tail
    have e : tkB o = decide (o.kind ≤ 5) := by simp [tkB]; omega
    rwa [e] at this
  · rw [if_neg (by simpa using h1)]
    have := k h H.tail
    have e : tkB o = false := by simp [tkB]; omega
    rwa [e] at this
def limL (k : Int) : Int := if k = 1 ∨ k = 7 ∨ k = 10 then 1 else if 2 ≤ k ∧ k ≤ 6 ∨ k = 9 then 0 else -1
def limH (k : Int) : Int := if k = 1 ∨ k = 10 then 16 else if k = 7 then 64 else if 2 ≤ k ∧ k ≤ 6 ∨ k = 9 then 7 else -1
theorem k_Limits {n : Int} {R : Int → Int → Heap → Prop} (k : R (limL n) (limH n) h) : C_ref10_Limits n h R := by
  apply of_ref10_Limits; unfold S_ref10_Limits
  have go : ∀ a b : Int, limL n = a → limH n = b → R a b h := by intro a b e1 e2; rw [← e1, ← e2]; exact k
  by_cases h1 : n = 1
  · rw [if_pos (by simpa using h1)]; exact go _ _ (by simp [limL, h1]) (by simp [limH, h1])
  · rw [if_neg (by simpa using h1)]
    refine jn_cut (I := fun _ h' => h' = h ∧ ¬ (2 ≤ n ∧ n ≤ 6) ∧ n ≠ 9) ?_ ?_
    · rintro _ h' ⟨rfl, q1, q2⟩
      by_cases h7 : n = 7
      · rw [if_pos (by simpa using h7)]; exact go _ _ (by simp [limL, h7]) (by simp [limH, h7])
      · rw [if_neg (by simpa using h7)]
        by_cases h10 : n = 10
        · rw [if_pos (by simpa using h10)]; exact go _ _ (by simp [limL, h10]) (by simp [limH, h10])
        · rw [if_neg (by simpa using h10)]
          exact go _ _ (by unfold limL; rw [if_neg (by omega), if_neg (by omega)]) (by unfold limH; rw [if_neg (by omega), if_neg (by omega), if_neg (by omega)])
    · intro K' hK
      by_cases h2 : n ≥ 2
      · rw [if_pos (by simpa using h2)]
        by_cases h6 : n ≤ 6
        · rw [if_pos (by simpa using h6)]
          exact go _ _ (by unfold limL; rw [if_neg (by omega), if_pos (by omega)]) (by unfold limH; rw [if_neg (by omega), if_neg (by omega), if_pos (by omega)])
        · rw [if_neg (by simpa using h6)]
          by_cases h9 : n = 9
          · rw [if_pos (by simpa using h9)]; exact go _ _ (by simp [limL, h9]) (by simp [limH, h9])
          · rw [if_neg (by simpa using h9)]; exact hK _ _ ⟨rfl, by omega, h9⟩
      · rw [if_neg (by simpa using h2)]
        by_cases h9 : n = 9
        · omega
        · rw [if_neg (by simpa using h9)]; exact hK _ _ ⟨rfl, by omega, h9⟩
def nmL : List ByteArray := [⟨#[]⟩, ⟨#[99, 111, 109, 112, 117, 116, 101]⟩, ⟨#[108, 111, 99, 107]⟩, ⟨#[114, 101, 97, 100]⟩, ⟨#[116, 114, 121]⟩, ⟨#[116, 105, 109, 101, 100]⟩, ⟨#[117, 110, 108, 111, 99, 107]⟩, ⟨#[115, 108, 101, 101, 112]⟩, ⟨#[121, 105, 101, 108, 100]⟩, ⟨#[115, 112, 97, 119, 110]⟩, ⟨#[119, 101, 105, 103, 104, 116]⟩, ⟨#[101, 120, 105, 116]⟩]
def nm (k : Int) : ByteArray := if 0 ≤ k then nmL.getD k.toNat ⟨#[]⟩ else ⟨#[]⟩
theorem k_Name {n : Int} {R : ByteArray → Heap → Prop} (H : HS l h) (k : ∀ h', HS l h' → R (nm n) h') : C_ref10_Name n h R := by
  apply of_ref10_Name; unfold S_ref10_Name
  refine alc_in H (fun b4 h H => ?_)
  have kk := k h H.tail
  by_cases h0 : n < 0
  · rw [if_pos (by simpa using h0)]
    have : nm n = ⟨#[]⟩ := by unfold nm; rw [if_neg (by omega)]
    rwa [this] at kk
  · rw [if_neg (by simpa using h0)]
    by_cases h1 : n > 11
    · rw [if_pos (by simpa using h1)]
      have : nm n = ⟨#[]⟩ := by
        unfold nm; rw [if_pos (by omega), List.getD_eq_getElem?_getD, List.getElem?_eq_none (by simp [nmL]; omega)]; rfl
      rwa [this] at kk
    · rw [if_neg (by simpa using h1)]
      refine ⟨by omega, by omega, ?_⟩
      have hc : n = 0 ∨ n = 1 ∨ n = 2 ∨ n = 3 ∨ n = 4 ∨ n = 5 ∨ n = 6 ∨ n = 7 ∨ n = 8 ∨ n = 9 ∨ n = 10 ∨ n = 11 := by omega
      rcases hc with rfl | rfl | rfl | rfl | rfl | rfl | rfl | rfl | rfl | rfl | rfl | rfl <;> exact ldStr_f H rfl kk
end
end Go.Proofs.YtbkjeahmbnkmeaaGreat
set_option autoImplicit false
set_option linter.unusedVariables false
namespace Go.Proofs.YtbkjeahmbnkmeaaGreat
open Go Ev

def oneA (o : OP) : Bool := if limL o.kind ≥ 0 then decide (limL o.kind ≤ o.a ∧ o.a ≤ limH o.kind) else o.a == 0
def oneB (o : OP) : Bool := decide (1 ≤ o.kind ∧ o.kind ≤ 11) && (oneA o && (if o.kind = 5 then decide (1 ≤ o.b ∧ o.b ≤ 64) else o.b == 0))
theorem n1 : ((nm 1).toList == (⟨#[]⟩ : ByteArray).toList) = false := by kernel_rfl
theorem n2 : ((nm 2).toList == (⟨#[]⟩ : ByteArray).toList) = false := by kernel_rfl
theorem n3 : ((nm 3).toList == (⟨#[]⟩ : ByteArray).toList) = false := by kernel_rfl
theorem n4 : ((nm 4).toList == (⟨#[]⟩ : ByteArray).toList) = false := by kernel_rfl
theorem n5 : ((nm 5).toList == (⟨#[]⟩ : ByteArray).toList) = false := by kernel_rfl
theorem n6 : ((nm 6).toList == (⟨#[]⟩ : ByteArray).toList) = false := by kernel_rfl
theorem n7 : ((nm 7).toList == (⟨#[]⟩ : ByteArray).toList) = false := by kernel_rfl
theorem n8 : ((nm 8).toList == (⟨#[]⟩ : ByteArray).toList) = false := by kernel_rfl
theorem n9 : ((nm 9).toList == (⟨#[]⟩ : ByteArray).toList) = false := by kernel_rfl
theorem n10 : ((nm 10).toList == (⟨#[]⟩ : ByteArray).toList) = false := by kernel_rfl
theorem n11 : ((nm 11).toList == (⟨#[]⟩ : ByteArray).toList) = false := by kernel_rfl
theorem nm_empty (n : Int) : ((nm n).toList == (⟨#[]⟩ : ByteArray).toList) = !decide (1 ≤ n ∧ n ≤ 11) := by
  by_cases h : 1 ≤ n ∧ n ≤ 11
  · have hd : (!decide (1 ≤ n ∧ n ≤ 11)) = false := by simp [h]
    rw [hd]
    have hc : n = 1 ∨ n = 2 ∨ n = 3 ∨ n = 4 ∨ n = 5 ∨ n = 6 ∨ n = 7 ∨ n = 8 ∨ n = 9 ∨ n = 10 ∨ n = 11 := by omega
    rcases hc with rfl | rfl | rfl | rfl | rfl | rfl | rfl | rfl | rfl | rfl | rfl
    · exact n1
    · exact n2
    · exact n3
    · exact n4
    · exact n5
    · exact n6
    · exact n7
    · exact n8
    · exact n9
    · exact n10
    · exact n11
  · have : nm n = ⟨#[]⟩ := by
      unfold nm
      split
      · by_cases h0 : n = 0
        · rw [h0]; rfl
        · rw [List.getD_eq_getElem?_getD, List.getElem?_eq_none (by simp [nmL]; omega)]; rfl
      · rfl
    rw [this]
    simp only [h, decide_false, Bool.not_false]
    exact beq_self_eq_true _
section
variable {l : List SP} {h : Heap}
theorem k_One {o : OP} {R : Bool → Heap → Prop} (H : HS l h) (k : ∀ h', HS l h' → R (oneB o) h') : C_ref10_One o.kind o.a o.b h R := by
  apply of_ref10_One; unfold S_ref10_One
  refine alc_in H (fun b1 h H => ldI_f H rfl (k_Name H (fun h H => ?_)))
  rw [nm_empty]
  have kk := fun (b : Bool) h (H : HS (bk b1 #[.int .i64 o.kind, .int .i64 o.a, .int .i64 o.b] :: l) h) (e : oneB o = b) => (e ▸ k h H.tail : R b h)
  by_cases h1 : 1 ≤ o.kind ∧ o.kind ≤ 11
  · rw [if_neg (by simpa using h1)]
    refine ldI_f H rfl (k_Limits (ldI_f H rfl ?_))
    refine jn_cut (I := fun j h' => h' = h ∧ j.1 = oneA o) ?_ ?_
    · rintro ⟨j, _⟩ h' ⟨rfl, hj⟩
      simp only at hj ⊢
      subst hj
      refine ldI_f H rfl (ldI_f H rfl ?_)
      have ob : oneB o = (oneA o && (if o.kind = 5 then decide (1 ≤ o.b ∧ o.b ≤ 64) else o.b == 0)) := by simp [oneB, h1]
      by_cases h5 : o.kind = 5
      · rw [if_pos (by simpa using h5)]
        rw [if_pos h5] at ob
        refine ldI_f H rfl ?_
        by_cases hb : o.b ≥ 1
        · rw [if_pos (by simpa using hb)]
          refine ldI_f H rfl ?_
          cases ha : oneA o with
          | true => rw [if_pos rfl]; exact kk _ _ H (by rw [ob, ha]; simp; omega)
          | false => rw [if_neg (by decide)]; exact kk _ _ H (by rw [ob, ha]; rfl)
        · rw [if_neg (by simpa using hb)]
          have e : oneB o = false := by rw [ob]; simp; intros; omega
          split <;> exact kk _ _ H e
      · rw [if_neg (by simpa using h5)]
        rw [if_neg h5] at ob
        cases ha : oneA o with
        | true => rw [if_pos rfl]; exact kk _ _ H (by rw [ob, ha]; simp)
        | false => rw [if_neg (by decide)]; exact kk _ _ H (by rw [ob, ha]; rfl)
    · intro K' hK
      by_cases hl : limL o.kind ≥ 0
      · rw [if_pos (by simpa using hl)]
        refine ldI_f H rfl ?_
        by_cases ha : o.a ≥ limL o.kind
        · rw [if_pos (by simpa using ha)]
          refine ldI_f H rfl (hK _ _ ⟨rfl, ?_⟩)
          unfold oneA; rw [if_pos hl]; simp; omega
        · rw [if_neg (by simpa using ha)]
          refine hK _ _ ⟨rfl, ?_⟩
          unfold oneA; rw [if_pos hl]; simp; omega
      · rw [if_neg (by simpa using hl)]
        refine hK _ _ ⟨rfl, ?_⟩
        unfold oneA; rw [if_neg hl]
  · rw [if_pos (by simp; omega)]
    exact kk _ _ H (by simp [oneB]; intros; omega)
def mayP (ops : List OP) : Bool := decide (1 ≤ ops.length ∧ ops.length ≤ 12) && ops.all oneB
theorem k_May10 {fo : Bool} {s : Sl} {ops : List OP} {R : Bool → Heap → Prop} (H : HS (row 3 s (ops.map cO) :: l) h) (k : ∀ h', HS (row 3 s (ops.map cO) :: l) h' → R (mayP ops) h') : C_ref10_May fo s h R := by
  apply of_ref10_May; unfold S_ref10_May
  have hsn := row_len H
  rw [List.length_map] at hsn
  refine alc_in H (fun b1 h H => ?_)
  refine Lp.inv (I := fun s' h' => HS (bk b1 #[.bool fo, .slice s.p s.n s.c] :: row 3 s (ops.map cO) :: l) h' ∧ 0 ≤ s'.1 ∧ s'.1 ≤ 12 ∧ s'.1 ≤ (ops.length : Int) ∧ ∀ o ∈ ops.take s'.1.toNat, oneB o = true) (μ := fun s' _ => (12 - s'.1).toNat) ?_ ⟨H, by simp, by simp, by simp, by simp⟩
  clear H
  rintro ⟨i, _⟩ h ⟨H, i0, i12, i1, hall⟩ _
  simp only at i0 i12 i1 hall ⊢
  refine ldS_f H rfl ?_
  by_cases hi : i < ((s.n : Nat) : Int)
  · rw [if_pos (by simpa using hi)]
    by_cases h11 : i > 11
    · rw [if_pos (by simpa using h11)]
      have e : mayP ops = false := by
        have : ¬ (1 ≤ ops.length ∧ ops.length ≤ 12) := by omega
        simp only [mayP, this, decide_false, Bool.false_and]
      exact e ▸ k h H.tail
    · rw [if_neg (by simpa using h11)]
      obtain ⟨o, ho⟩ := get_ex i0 (by omega) rfl (l := ops) (i := i)
      refine ldS_f H rfl (el_in H.swap i0 ho (fun c hc hcell => ldI_in (hcell 0 _ rfl) (ldI_in (hcell 1 _ rfl) (ldI_in (hcell 2 _ rfl) ?_))))
      refine k_One H (fun h H => ?_)
      cases hb : oneB o with
      | true =>
        rw [if_neg (by decide), wrap64_in (by omega) (by omega)]
        refine ⟨⟨H, by omega, by omega, by omega, ?_⟩, by omega⟩
        have e1 : (i + 1).toNat = i.toNat + 1 := by omega
        rw [e1, List.take_add_one, ho]
        intro x hx
        rcases List.mem_append.1 hx with hx | hx
        · exact hall x hx
        · simp at hx; subst hx; exact hb
      | false =>
        rw [if_pos (by decide)]
        have e : mayP ops = false := by
          have : ops.all oneB = false := List.all_eq_false.2 ⟨o, List.mem_of_getElem? ho, by rw [hb]; decide⟩
          simp only [mayP, this, Bool.and_false]
        exact e ▸ k h H.tail
  · rw [if_neg (by simpa using hi)]
    refine ldS_f H rfl ?_
    have e1 : i.toNat = ops.length := by omega
    rw [e1, List.take_length] at hall
    have e : mayP ops = decide (((s.n : Nat) : Int) > 0) := by
      have : ops.all oneB = true := List.all_eq_true.2 hall
      simp only [mayP, this, Bool.and_true]
      have e2 : (1 ≤ ops.length ∧ ops.length ≤ 12) ↔ ((s.n : Nat) : Int) > 0 := by omega
      simp only [e2]
    exact e ▸ k h H.tail
/-- the section that begins with a lock's op: its end, its ticks -/
def secR (lk : Int) : List OP → Int → Int → Int × Int
  | [], to, t => (to, t)
  | o :: os, to, t => if o.kind = 11 ∨ (o.kind = 6 ∧ o.a = lk) then (to, t) else secR lk os (to + 1) (if o.kind = 1 then IntKind.wrap .i64 (t + o.a) else t)
theorem k_Section {fo : Bool} {s : Sl} {ops : List OP} {i : Int} {o : OP} {R : Int → Int → Int → Int → Heap → Prop} (H : HS (row 3 s (ops.map cO) :: l) h) (hl : ops.length ≤ 12) (h0 : 0 ≤ i) (ho : ops[i.toNat]? = some o)
    (k : ∀ x y h', HS (row 3 s (ops.map cO) :: l) h' → R x (secR o.a (ops.drop (i.toNat + 1)) (i + 1) 0).1 y (secR o.a (ops.drop (i.toNat + 1)) (i + 1) 0).2 h') : C_ref11_Section fo s i h R := by
  apply of_ref11_Section; unfold S_ref11_Section
  have hsn := row_len H
  rw [List.length_map] at hsn
  have hlt := (List.getElem?_eq_some_iff.1 ho).1
  refine alc_in H (fun b2 h H => alc_in H (fun b4 h H => ?_))
  refine ldS_f H.swap rfl (el_in (H.pull 2 _ rfl) h0 ho (fun c hc hcell => ldI_in (hcell 1 _ rfl) (alc_in H (fun b5 h H => ?_))))
  rw [wrap64_in (by omega) (by omega)]
  refine stF_in _ 0 0 _ h H (by simp) (by simp [Value.oneCell']) (fun h H => ?_)
  clear hcell
  have e0 : ((i.toNat + 1 : Nat) : Int) = i + 1 := by omega
  refine Lp.rel (I := fun n s' h' => ∃ (j : Nat) (t : Int), n = ops.length - j ∧ i.toNat + 1 ≤ j ∧ j ≤ ops.length ∧ HS (bk b5 #[.int .i64 i, .int .i64 (j : Int), .int .i64 o.a, .int .i64 t] :: bk b4 #[.int .i64 0, .int .i64 0, .int .i64 0, .int .i64 0] :: bk b2 #[.bool fo, .slice s.p s.n s.c] :: row 3 s (ops.map cO) :: l) h' ∧
      secR o.a (ops.drop j) j t = secR o.a (ops.drop (i.toNat + 1)) (i + 1) 0) (n := ops.length - (i.toNat + 1)) ?_
      ⟨i.toNat + 1, 0, rfl, by omega, by omega, e0 ▸ H, by rw [e0]⟩
  clear H
  rintro n _ h ⟨j, t, hn, j0, j1, H, hsec⟩ _
  have fin : ∀ h, HS (bk b5 #[.int .i64 i, .int .i64 (j : Int), .int .i64 o.a, .int .i64 t] :: bk b4 #[.int .i64 0, .int .i64 0, .int .i64 0, .int .i64 0] :: bk b2 #[.bool fo, .slice s.p s.n s.c] :: row 3 s (ops.map cO) :: l) h → ((j : Int), t) = secR o.a (ops.drop (i.toNat + 1)) (i + 1) 0 →
      stF [.int .i64 i, .int .i64 (j : Int), .int .i64 o.a, .int .i64 t] h (Addr.mk b4 0 none) 0 fun h =>
        ldI .i64 ((Addr.mk b4 0 none).add 0) h fun x9000_0 => ldI .i64 ((Addr.mk b4 0 none).add 1) h fun x9000_1 => ldI .i64 ((Addr.mk b4 0 none).add 2) h fun x9000_2 => ldI .i64 ((Addr.mk b4 0 none).add 3) h fun x9000_3 => R x9000_0 x9000_1 x9000_2 x9000_3 h := by
    intro h H e
    refine stF_in _ 0 0 _ h H.swap (by simp) (by simp [Value.oneCell']) (fun h H => ?_)
    have kk := k i o.a h (H.tail.tail.tail)
    rw [← e] at kk
    exact ldI_f H rfl (ldI_f H rfl (ldI_f H rfl (ldI_f H rfl kk)))
  refine ldI_f H rfl (ldS_f (H.pull 2 _ rfl) rfl ?_)
  by_cases hj : (j : Int) < ((s.n : Nat) : Int)
  · rw [if_pos (by simpa using hj)]
    obtain ⟨q, hq⟩ := get_ex (i := (j : Int)) (by omega) (by omega) rfl (l := ops)
    have hq' : ops[j]? = some q := by simpa using hq
    obtain ⟨hjl, hqe⟩ := List.getElem?_eq_some_iff.1 hq'
    have hdr : ops.drop j = q :: ops.drop (j + 1) := by rw [← hqe, List.getElem_cons_drop]
    rw [hdr, secR] at hsec
    refine ldS_f (H.pull 2 _ rfl) rfl (ldI_f H rfl (el_in (H.pull 3 _ rfl) (by omega) hq (fun c hc hcell => ldI_in (hcell 0 _ rfl) (ldI_in (hcell 1 _ rfl) (ldI_in (hcell 2 _ rfl) ?_)))))
    refine alc_in H (fun b6 h H => ?_)
    refine stF_in _ 0 0 _ h H (by simp) (by simp [Value.oneCell']) (fun h H => ?_)
    have H : HS (bk b6 #[.int .i64 q.kind, .int .i64 q.a, .int .i64 q.b] :: bk b5 #[.int .i64 i, .int .i64 (j : Int), .int .i64 o.a, .int .i64 t] :: bk b4 #[.int .i64 0, .int .i64 0, .int .i64 0, .int .i64 0] :: bk b2 #[.bool fo, .slice s.p s.n s.c] :: row 3 s (ops.map cO) :: l) h := H
    clear hcell
    refine jn_cut (I := fun _ h' => h' = h ∧ ¬ (q.kind = 11 ∨ (q.kind = 6 ∧ q.a = o.a))) ?_ ?_
    · rintro _ h' ⟨rfl, hno⟩
      rw [if_neg hno] at hsec
      refine ldI_f H rfl ?_
      have nxt : ∀ t' h, HS (bk b5 #[.int .i64 i, .int .i64 (j : Int), .int .i64 o.a, .int .i64 t'] :: bk b4 #[.int .i64 0, .int .i64 0, .int .i64 0, .int .i64 0] :: bk b2 #[.bool fo, .slice s.p s.n s.c] :: row 3 s (ops.map cO) :: l) h → secR o.a (ops.drop (j + 1)) ((j : Int) + 1) t' = secR o.a (ops.drop (i.toNat + 1)) (i + 1) 0 →
          ldI .i64 ((Addr.mk b5 0 none).add 1) h fun x55 => st ((Addr.mk b5 0 none).add 1) (.int .i64 (IntKind.wrap .i64 (x55 + 1))) h fun h =>
            ∃ mm, mm < n ∧ ∃ (j' : Nat) (t : Int), mm = ops.length - j' ∧ i.toNat + 1 ≤ j' ∧ j' ≤ ops.length ∧ HS (bk b5 #[.int .i64 i, .int .i64 (j' : Int), .int .i64 o.a, .int .i64 t] :: bk b4 #[.int .i64 0, .int .i64 0, .int .i64 0, .int .i64 0] :: bk b2 #[.bool fo, .slice s.p s.n s.c] :: row 3 s (ops.map cO) :: l) h ∧
              secR o.a (ops.drop j') j' t = secR o.a (ops.drop (i.toNat + 1)) (i + 1) 0 := by
        intro t' h H e
        refine ldI_f H rfl (st_f H (by simp) rfl (fun h H => ?_))
        rw [wrap64_in (by omega) (by omega)] at H
        refine ⟨ops.length - (j + 1), by omega, j + 1, t', rfl, by omega, by omega, ?_, ?_⟩
        · have e2 : ((j + 1 : Nat) : Int) = (j : Int) + 1 := by omega
          rw [e2]; simpa using H
        · have e2 : ((j + 1 : Nat) : Int) = (j : Int) + 1 := by omega
          rw [e2]; exact e
      by_cases h1 : q.kind = 1
      · rw [if_pos (by simpa using h1)]
        rw [if_pos h1] at hsec
        refine ldI_f H.swap rfl (ldI_f H rfl (st_f H.swap (by simp) rfl (fun h H => ?_)))
        refine nxt (IntKind.wrap .i64 (t + q.a)) h ?_ hsec
        have := H.del 1
        simpa using this
      · rw [if_neg (by simpa using h1)]
        rw [if_neg h1] at hsec
        exact nxt t _ H.tail hsec
    · intro K' hK
      have don : (q.kind = 11 ∨ (q.kind = 6 ∧ q.a = o.a)) → ldI .i64 ((Addr.mk b5 0 none).add 0) h fun x44_0 => ldI .i64 ((Addr.mk b5 0 none).add 1) h fun x44_1 => ldI .i64 ((Addr.mk b5 0 none).add 2) h fun x44_2 => ldI .i64 ((Addr.mk b5 0 none).add 3) h fun x44_3 =>
          stF [.int .i64 x44_0, .int .i64 x44_1, .int .i64 x44_2, .int .i64 x44_3] h (Addr.mk b4 0 none) 0 fun h =>
          ldI .i64 ((Addr.mk b4 0 none).add 0) h fun x9000_0 => ldI .i64 ((Addr.mk b4 0 none).add 1) h fun x9000_1 => ldI .i64 ((Addr.mk b4 0 none).add 2) h fun x9000_2 => ldI .i64 ((Addr.mk b4 0 none).add 3) h fun x9000_3 => R x9000_0 x9000_1 x9000_2 x9000_3 h := by
        intro hy
        rw [if_pos hy] at hsec
        exact ldI_f H.tail rfl (ldI_f H.tail rfl (ldI_f H.tail rfl (ldI_f H.tail rfl (fin h H.tail hsec))))
      refine ldI_f H rfl ?_
      by_cases h11 : q.kind = 11
      · rw [if_pos (by simpa using h11)]; exact don (.inl h11)
      · rw [if_neg (by simpa using h11)]
        refine ldI_f H rfl ?_
        by_cases h6 : q.kind = 6
        · rw [if_pos (by simpa using h6)]
          refine ldI_f H rfl (ldI_f H.tail rfl ?_)
          by_cases ha : q.a = o.a
          · rw [if_pos (by simpa using ha)]; exact don (.inr ⟨h6, ha⟩)
          · rw [if_neg (by simpa using ha)]; exact hK _ _ ⟨rfl, by omega⟩
        · rw [if_neg (by simpa using h6)]; exact hK _ _ ⟨rfl, by omega⟩
  · rw [if_neg (by simpa using hj)]
    have e1 : ops.drop j = [] := List.drop_eq_nil_of_le (by omega)
    rw [e1, secR] at hsec
    exact ldI_f H rfl (ldI_f H rfl (ldI_f H rfl (ldI_f H rfl (fin h H hsec))))
end
end Go.Proofs.YtbkjeahmbnkmeaaGreat
set_option autoImplicit false
set_option linter.unusedVariables false
namespace Go.Proofs.YtbkjeahmbnkmeaaGreat
open Go Ev

structure LD where
  sh : Bool
  (slice crit rd wr : Int)
def cLd (d : LD) : List Value := [.bool d.sh, .int .i64 d.slice, .int .i64 d.crit, .int .i64 d.rd, .int .i64 d.wr]
/-- the op at a place, as Check has it -/
def okOp (fo : Bool) (ops : List OP) (lds : List LD) (n : Int) (i : Nat) (o : OP) : Prop :=
  ((tkB o = true ∨ o.kind = 6) → o.a < (lds.length : Int)) ∧ (o.kind = 9 → o.a < n) ∧ (o.kind = 3 → ∃ d, lds[o.a.toNat]? = some d ∧ d.sh = true) ∧
  (tkB o = true → ∃ d, lds[o.a.toNat]? = some d ∧ 1 ≤ (secR o.a (ops.drop (i + 1)) ((i : Int) + 1) 0).2 ∧ (secR o.a (ops.drop (i + 1)) ((i : Int) + 1) 0).2 ≤ d.crit ∧
    ¬ (fo = true ∧ (secR o.a (ops.drop (i + 1)) ((i : Int) + 1) 0).1 = (ops.length : Int)))
def CK (fo : Bool) (ops : List OP) (lds : List LD) (n : Int) : Prop :=
  mayP ops = true ∧ (∀ i o, ops[i]? = some o → okOp fo ops lds n i o) ∧ (fo = true → ∃ o ∈ ops, isTm o = true)
theorem mayP_at {ops : List OP} (h : mayP ops = true) : (1 ≤ ops.length ∧ ops.length ≤ 12) ∧ ∀ o ∈ ops, oneB o = true := by
  simp only [mayP, Bool.and_eq_true, decide_eq_true_eq, List.all_eq_true] at h; exact h
theorem oneB_a {o : OP} (h : oneB o = true) (hk : 2 ≤ o.kind ∧ o.kind ≤ 6 ∨ o.kind = 9) : 0 ≤ o.a ∧ o.a ≤ 7 := by
  have : oneA o = true := by simp only [oneB, Bool.and_eq_true] at h; exact h.2.1
  have e1 : limL o.kind = 0 := by unfold limL; rw [if_neg (by omega), if_pos (by omega)]
  have e2 : limH o.kind = 7 := by unfold limH; rw [if_neg (by omega), if_neg (by omega), if_pos (by omega)]
  unfold oneA at this
  rw [e1, e2, if_pos (by omega)] at this
  simpa using this
section
variable {l : List SP} {h : Heap}
theorem k_Check {fo : Bool} {s sL : Sl} {ops : List OP} {lds : List LD} {n : Int} {R : Int → Int → Heap → Prop} (H : HS (row 3 s (ops.map cO) :: row 5 sL (lds.map cLd) :: l) h)
    (k : ∀ x e h', HS (row 3 s (ops.map cO) :: row 5 sL (lds.map cLd) :: l) h' → (e = 0 ↔ CK fo ops lds n) → 0 ≤ x → R x e h') : C_ref11_Check fo s sL n h R := by
  apply of_ref11_Check; unfold S_ref11_Check
  have hsn := row_len H
  rw [List.length_map] at hsn
  have hln := row_len H.swap
  rw [List.length_map] at hln
  refine alc_in H (fun b3 h H => ?_)
  refine ldB_f H rfl (ldS_f H rfl (k_May10 (H.sink 2) (fun h H => ?_)))
  have H : HS (bk b3 #[.bool fo, .slice s.p s.n s.c] :: row 3 s (ops.map cO) :: row 5 sL (lds.map cLd) :: l) h := H.rot3
  cases hm : mayP ops with
  | false =>
    rw [if_pos (by decide)]
    exact k _ _ h H.tail ⟨fun h => absurd h (by decide), fun h => by rw [h.1] at hm; cases hm⟩ (by decide)
  | true =>
    rw [if_neg (by decide)]
    obtain ⟨hlen, hone⟩ := mayP_at hm
    refine Lp.inv (I := fun s' h' => HS (bk b3 #[.bool fo, .slice s.p s.n s.c] :: row 3 s (ops.map cO) :: row 5 sL (lds.map cLd) :: l) h' ∧ 0 ≤ s'.2.1 ∧ s'.2.1 ≤ (ops.length : Int) ∧ s'.1 = (ops.take s'.2.1.toNat).any isTm ∧ ∀ i o, i < s'.2.1.toNat → ops[i]? = some o → okOp fo ops lds n i o)
      (μ := fun s' _ => ((ops.length : Int) - s'.2.1).toNat) ?_ ⟨H, by simp, by simp, by simp, by simp⟩
    clear H
    rintro ⟨tm, i, _⟩ h ⟨H, i0, i1, htm, hok⟩ _
    simp only at i0 i1 htm hok ⊢
    refine ldS_f H rfl ?_
    by_cases hi : i < ((s.n : Nat) : Int)
    · rw [if_pos (by simpa using hi)]
      obtain ⟨o, ho⟩ := get_ex i0 (by omega) rfl (l := ops) (i := i)
      have hom := List.mem_of_getElem? ho
      have ho1 := hone o hom
      have bad : ∀ x e h', HS (row 3 s (ops.map cO) :: row 5 sL (lds.map cLd) :: l) h' → 0 ≤ x → e ≠ 0 → ¬ okOp fo ops lds n i.toNat o → R x e h' := fun x e h' H' hx he hno =>
        k x e h' H' ⟨fun h => absurd h he, fun h => absurd (h.2.1 _ _ ho) hno⟩ hx
      refine ldS_f H rfl (el_in H.swap i0 ho (fun c hc hcell => ldI_in (hcell 0 _ rfl) (ldI_in (hcell 1 _ rfl) (ldI_in (hcell 2 _ rfl) ?_))))
      refine alc_in H (fun b10 h H => ?_)
      refine stF_in _ 0 0 _ h H (by simp) (by simp [Value.oneCell']) (fun h H => ?_)
      have H : HS (bk b10 #[.int .i64 o.kind, .int .i64 o.a, .int .i64 o.b] :: bk b3 #[.bool fo, .slice s.p s.n s.c] :: row 3 s (ops.map cO) :: row 5 sL (lds.map cLd) :: l) h := H
      clear hcell
      refine jn_cut (I := fun j h' => h' = h ∧ j.1 = (tm || isTm o)) ?_ ?_
      · rintro ⟨tm', _⟩ h' ⟨rfl, htm'⟩
        simp only at htm' ⊢
        have hx : 0 ≤ i := i0
        refine jn_cut (I := fun _ h' => HS (bk b10 #[.int .i64 o.kind, .int .i64 o.a, .int .i64 o.b] :: bk b3 #[.bool fo, .slice s.p s.n s.c] :: row 3 s (ops.map cO) :: row 5 sL (lds.map cLd) :: l) h' ∧ ((tkB o = true ∨ o.kind = 6) → o.a < (lds.length : Int)) ∧ (o.kind = 9 → o.a < n)) ?_ ?_
        · clear H
          rintro _ h ⟨H, c1, c2⟩
          refine jn_cut (I := fun _ h' => h' = h ∧ (o.kind = 3 → ∃ d, lds[o.a.toNat]? = some d ∧ d.sh = true)) ?_ ?_
          · rintro _ h' ⟨rfl, c3⟩
            refine ldI_f H rfl (ldI_f H rfl (ldI_f H rfl (k_takes H (fun h H => ?_))))
            have next : ∀ h, HS (bk b3 #[.bool fo, .slice s.p s.n s.c] :: row 3 s (ops.map cO) :: row 5 sL (lds.map cLd) :: l) h → okOp fo ops lds n i.toNat o →
                (HS (bk b3 #[.bool fo, .slice s.p s.n s.c] :: row 3 s (ops.map cO) :: row 5 sL (lds.map cLd) :: l) h ∧ 0 ≤ i + 1 ∧ i + 1 ≤ (ops.length : Int) ∧ tm' = (ops.take (i + 1).toNat).any isTm ∧ ∀ j q, j < (i + 1).toNat → ops[j]? = some q → okOp fo ops lds n j q) ∧ ((ops.length : Int) - (i + 1)).toNat < ((ops.length : Int) - i).toNat := by
              intro h H hk
              have e1 : (i + 1).toNat = i.toNat + 1 := by omega
              refine ⟨⟨H, by omega, by omega, ?_, ?_⟩, by omega⟩
              · rw [e1, List.take_add_one, ho, List.any_append, ← htm, htm']; simp
              · intro j q hj hq
                by_cases e : j = i.toNat
                · rw [e, ho] at hq; simp at hq; subst hq; rw [e]; exact hk
                · exact hok j q (by omega) hq
            cases htk : tkB o with
            | false =>
              rw [if_neg (by decide), wrap64_in (by omega) (by omega)]
              exact next _ H.tail ⟨c1, c2, c3, fun h => by rw [htk] at h; cases h⟩
            | true =>
              rw [if_pos rfl]
              have hkr : 2 ≤ o.kind ∧ o.kind ≤ 5 := by simpa [tkB] using htk
              have har := oneB_a ho1 (by omega)
              obtain ⟨d, hd⟩ := get_ex har.1 (c1 (.inl htk)) rfl (l := lds)
              refine ldB_f H.tail rfl (ldS_f H.tail rfl (k_Section (H.pull 2 _ rfl) hlen.2 i0 ho (fun x y h H => ?_)))
              have H : HS (bk b10 #[.int .i64 o.kind, .int .i64 o.a, .int .i64 o.b] :: bk b3 #[.bool fo, .slice s.p s.n s.c] :: row 3 s (ops.map cO) :: row 5 sL (lds.map cLd) :: l) h := H.sink 2
              have ei : ((i.toNat : Nat) : Int) = i := by omega
              generalize hsec : secR o.a (ops.drop (i.toNat + 1)) (i + 1) 0 = sc
              refine alc_in H (fun b11 h H => ?_)
              refine stF_in _ 0 0 _ h H (by simp) (by simp [Value.oneCell']) (fun h H => ?_)
              have H : HS (bk b11 #[.int .i64 x, .int .i64 sc.1, .int .i64 y, .int .i64 sc.2] :: bk b10 #[.int .i64 o.kind, .int .i64 o.a, .int .i64 o.b] :: bk b3 #[.bool fo, .slice s.p s.n s.c] :: row 3 s (ops.map cO) :: row 5 sL (lds.map cLd) :: l) h := H
              have c4 : okOp fo ops lds n i.toNat o → ∃ d', lds[o.a.toNat]? = some d' ∧ 1 ≤ sc.2 ∧ sc.2 ≤ d'.crit ∧ ¬ (fo = true ∧ sc.1 = (ops.length : Int)) := by
                intro hk
                have := hk.2.2.2 htk
                rw [ei, hsec] at this; exact this
              refine ldI_f H rfl ?_
              by_cases q1 : sc.2 < 1
              · rw [if_pos (by simpa using q1)]
                exact bad _ _ h H.tail.tail.tail hx (by decide) (fun hk => by obtain ⟨d', _, z, _⟩ := c4 hk; omega)
              · rw [if_neg (by simpa using q1)]
                refine ldI_f H rfl (ldI_f H.tail rfl (el_in (H.pull 4 _ rfl) har.1 hd (fun c hc hcell => ldI_in (hcell 2 _ rfl) ?_)))
                by_cases q2 : sc.2 > d.crit
                · rw [if_pos (by simpa using q2)]
                  exact bad _ _ h H.tail.tail.tail hx (by decide) (fun hk => by obtain ⟨d', hd', _, z, _⟩ := c4 hk; rw [hd] at hd'; simp at hd'; subst hd'; omega)
                · rw [if_neg (by simpa using q2)]
                  have fin : ¬ (fo = true ∧ sc.1 = (ops.length : Int)) → okOp fo ops lds n i.toNat o := fun hz => ⟨c1, c2, c3, fun _ => ⟨d, hd, by rw [ei, hsec]; omega, by rw [ei, hsec]; omega, by rw [ei, hsec]; exact hz⟩⟩
                  refine ldB_f H.tail.tail rfl ?_
                  rw [wrap64_in (by omega) (by omega)]
                  by_cases q3 : fo = true
                  · rw [if_pos q3]
                    refine ldI_f H rfl (ldS_f H.tail.tail rfl ?_)
                    by_cases q4 : sc.1 = ((s.n : Nat) : Int)
                    · rw [if_pos (by simpa using q4)]
                      exact bad _ _ h H.tail.tail.tail hx (by decide) (fun hk => by obtain ⟨d', _, _, _, z⟩ := c4 hk; exact z ⟨q3, by omega⟩)
                    · rw [if_neg (by simpa using q4)]
                      exact next _ H.tail.tail (fin (fun z => q4 (by omega)))
                  · rw [if_neg q3]
                    exact next _ H.tail.tail (fin (fun z => q3 z.1))
          · intro K' hK
            refine ldI_f H rfl ?_
            by_cases q3 : o.kind = 3
            · rw [if_pos (by simpa using q3)]
              have htk : tkB o = true := by simp [tkB]; omega
              have har := oneB_a ho1 (by omega)
              obtain ⟨d, hd⟩ := get_ex har.1 (c1 (.inl htk)) rfl (l := lds)
              refine ldI_f H rfl (el_in (H.pull 3 _ rfl) har.1 hd (fun c hc hcell => ldB_in (hcell 0 _ rfl) ?_))
              cases hs : d.sh with
              | false =>
                rw [if_pos (by decide)]
                exact bad _ _ h H.tail.tail hx (by decide) (fun hk => by obtain ⟨d', hd', z⟩ := hk.2.2.1 q3; rw [hd] at hd'; simp at hd'; subst hd'; rw [hs] at z; cases z)
              | true =>
                rw [if_neg (by decide)]
                exact hK _ _ ⟨rfl, fun _ => ⟨d, hd, hs⟩⟩
            · rw [if_neg (by simpa using q3)]
              exact hK _ _ ⟨rfl, fun h => absurd h q3⟩
        · intro K' hK
          refine ldI_f H rfl (ldI_f H rfl (ldI_f H rfl (k_takes H (fun h H => ?_))))
          have p9 : ((tkB o = true ∨ o.kind = 6) → o.a < (lds.length : Int)) → ldI .i64 ((Addr.mk b10 0 none).add 0) h fun x64 =>
              if (x64 == 9) = true then (ldI .i64 ((Addr.mk b10 0 none).add 1) h fun x68 => if (decide (x68 ≥ n)) = true then R i 4 h else K' () h) else K' () h := by
            intro c1
            refine ldI_f H rfl ?_
            by_cases q9 : o.kind = 9
            · rw [if_pos (by simpa using q9)]
              refine ldI_f H rfl ?_
              by_cases qa : o.a ≥ n
              · rw [if_pos (by simpa using qa)]
                exact bad _ _ h H.tail.tail hx (by decide) (fun hk => by have := hk.2.1 q9; omega)
              · rw [if_neg (by simpa using qa)]
                exact hK _ _ ⟨H, c1, fun _ => by omega⟩
            · rw [if_neg (by simpa using q9)]
              exact hK _ _ ⟨H, c1, fun h => absurd h q9⟩
          have plk : (tkB o = true ∨ o.kind = 6) → ldI .i64 ((Addr.mk b10 0 none).add 1) h fun x57 => if (decide (x57 ≥ ((sL.n : Nat) : Int))) = true then R i 4 h else
              ldI .i64 ((Addr.mk b10 0 none).add 0) h fun x64 => if (x64 == 9) = true then (ldI .i64 ((Addr.mk b10 0 none).add 1) h fun x68 => if (decide (x68 ≥ n)) = true then R i 4 h else K' () h) else K' () h := by
            intro ht
            refine ldI_f H rfl ?_
            by_cases qa : o.a ≥ ((sL.n : Nat) : Int)
            · rw [if_pos (by simpa using qa)]
              exact bad _ _ h H.tail.tail hx (by decide) (fun hk => by have := hk.1 ht; omega)
            · rw [if_neg (by simpa using qa)]
              exact p9 (fun _ => by omega)
          cases htk : tkB o with
          | true => rw [if_pos rfl]; exact plk (.inl htk)
          | false =>
            rw [if_neg (by decide)]
            refine ldI_f H rfl ?_
            by_cases q6 : o.kind = 6
            · rw [if_pos (by simpa using q6)]; exact plk (.inr q6)
            · rw [if_neg (by simpa using q6)]
              exact p9 (fun h => by rcases h with h | h
                                    · rw [htk] at h; cases h
                                    · exact absurd h q6)
      · intro K' hK
        cases htt : tm with
        | true => rw [if_pos rfl]; exact hK _ _ ⟨rfl, by simp [htt]⟩
        | false =>
          rw [if_neg (by decide)]
          refine ldI_f H rfl ?_
          by_cases q1 : o.kind = 1
          · rw [if_pos (by simpa using q1)]; exact hK _ _ ⟨rfl, by simp [isTm, q1]⟩
          · rw [if_neg (by simpa using q1)]
            refine ldI_f H rfl ?_
            by_cases q7 : o.kind = 7
            · rw [if_pos (by simpa using q7)]; exact hK _ _ ⟨rfl, by simp [isTm, q7]⟩
            · rw [if_neg (by simpa using q7)]
              refine ldI_f H rfl ?_
              by_cases q8 : o.kind = 8
              · rw [if_pos (by simpa using q8)]; exact hK _ _ ⟨rfl, by simp [isTm, q8]⟩
              · rw [if_neg (by simpa using q8)]
                exact ldI_f H rfl (hK _ _ ⟨rfl, by simp [isTm, q1, q7, q8, htt]⟩)
    · rw [if_neg (by simpa using hi)]
      have e1 : i.toNat = ops.length := by omega
      rw [e1, List.take_length] at htm
      rw [e1] at hok
      have all : ∀ i o, ops[i]? = some o → okOp fo ops lds n i o := fun i o ho => hok i o (List.getElem?_eq_some_iff.1 ho).1 ho
      refine ldB_f H rfl ?_
      cases hf : fo with
      | false =>
        subst hf
        rw [if_neg (by decide)]
        exact k _ _ h H.tail ⟨fun _ => ⟨hm, all, by simp⟩, fun _ => rfl⟩ (by decide)
      | true =>
        subst hf
        rw [if_pos rfl]
        cases htt : tm with
        | true =>
          rw [if_neg (by decide)]
          rw [htt] at htm
          refine k _ _ h H.tail ⟨fun _ => ⟨hm, all, fun _ => ?_⟩, fun _ => rfl⟩ (by decide)
          obtain ⟨o, h1, h2⟩ := List.any_eq_true.1 htm.symm
          exact ⟨o, h1, h2⟩
        | false =>
          rw [if_pos (by decide)]
          rw [htt] at htm
          refine k _ _ h H.tail ⟨fun h => absurd h (by decide), fun hc => ?_⟩ (by decide)
          obtain ⟨o, h1, h2⟩ := hc.2.2 rfl
          have := List.any_eq_false.1 htm.symm o h1
          exact absurd h2 this
end
end Go.Proofs.YtbkjeahmbnkmeaaGreat
set_option autoImplicit false
set_option linter.unusedVariables false
namespace Go.Proofs.YtbkjeahmbnkmeaaGreat
open Go Ev

structure MayG (nc gr : Int) (gs : List Int) (lds : List LD) (ps : List PR) : Prop where
  nc : 1 ≤ nc ∧ nc ≤ 4
  gr : 1 ≤ gr ∧ gr ≤ 8
  gl : 1 ≤ gs.length ∧ gs.length ≤ 4
  gs : ∀ x ∈ gs, 1 ≤ x ∧ x ≤ 16
  ll : lds.length ≤ 8
  ld : ∀ d ∈ lds, (1 ≤ d.slice ∧ d.slice ≤ 16) ∧ (1 ≤ d.crit ∧ d.crit ≤ 32) ∧ (d.sh = true → (1 ≤ d.rd ∧ d.rd ≤ 16) ∧ (1 ≤ d.wr ∧ d.wr ≤ 16)) ∧ (d.sh = false → d.rd = 0 ∧ d.wr = 0)
  pl : 1 ≤ ps.length ∧ ps.length ≤ 8
  ck : ∀ p ∈ ps, CK p.fo p.ops lds (ps.length : Int)
section
variable {l : List SP} {h : Heap}
theorem k_May12 {nc gr : Int} {sG sLo sP : Sl} {gs : List Int} {lds : List LD} {ps : List PR} {R : Bool → Heap → Prop} (H : HS (row 1 sG (gs.map cI) :: row 5 sLo (lds.map cLd) :: progs sP ps :: l) h) (G : MayG nc gr gs lds ps)
    (k : ∀ h', HS (row 1 sG (gs.map cI) :: row 5 sLo (lds.map cLd) :: progs sP ps :: l) h' → R true h') : C_ref12_May nc gr sG sLo sP h R := by
  apply of_ref12_May; unfold S_ref12_May
  have n1 := row_len H
  have n2 := row_len H.swap
  have n3 := row_len (HS.star.1 H.rot3)
  rw [List.length_map] at n1 n2 n3
  have wt : ∀ {n m : Int}, 1 ≤ n ∧ n ≤ m → ¬ (!decide (1 ≤ n ∧ n ≤ m)) = true := fun hh => by simp [hh]
  refine alc_in H (fun b1 h H => ?_)
  refine ldI_f H rfl (k_within ?_)
  rw [if_neg (wt G.nc)]
  refine ldI_f H rfl (k_within ?_)
  rw [if_neg (wt G.gr)]
  refine ldS_f H rfl (k_within ?_)
  have e1 := G.gl
  have e2 := G.ll
  have e3 := G.pl
  rw [if_neg (wt (by omega))]
  refine ldS_f H rfl ?_
  rw [if_neg (by simp; omega)]
  refine ldS_f H rfl (k_within ?_)
  rw [if_neg (wt (by omega))]
  refine Lp.inv (I := fun s' h' => HS (bk b1 #[.int .i64 nc, .int .i64 gr, .slice sG.p sG.n sG.c, .slice sLo.p sLo.n sLo.c, .slice sP.p sP.n sP.c] :: row 1 sG (gs.map cI) :: row 5 sLo (lds.map cLd) :: progs sP ps :: l) h' ∧ 0 ≤ s'.1 ∧ s'.1 ≤ (gs.length : Int)) (μ := fun s' _ => ((gs.length : Int) - s'.1).toNat) ?_ ⟨H, by simp, by simp⟩
  clear H
  rintro ⟨i, _⟩ h ⟨H, i0, i1⟩ _
  simp only at i0 i1 ⊢
  refine ldS_f H rfl ?_
  by_cases hi : i < ((sG.n : Nat) : Int)
  · rw [if_pos (by simpa using hi)]
    obtain ⟨x, hx⟩ := get_ex i0 (by omega) rfl (l := gs) (i := i)
    refine ldS_f H rfl (el1_in H.swap i0 hx rfl (fun c hc hcell => ldI_in hcell (k_within ?_)))
    rw [if_neg (wt (G.gs x (List.mem_of_getElem? hx))), wrap64_in (by omega) (by omega)]
    exact ⟨⟨H, by omega, by omega⟩, by omega⟩
  · rw [if_neg (by simpa using hi)]
    refine Lp.inv (I := fun s' h' => HS (bk b1 #[.int .i64 nc, .int .i64 gr, .slice sG.p sG.n sG.c, .slice sLo.p sLo.n sLo.c, .slice sP.p sP.n sP.c] :: row 1 sG (gs.map cI) :: row 5 sLo (lds.map cLd) :: progs sP ps :: l) h' ∧ 0 ≤ s'.1 ∧ s'.1 ≤ (lds.length : Int)) (μ := fun s' _ => ((lds.length : Int) - s'.1).toNat) ?_ ⟨H, by simp, by simp⟩
    clear H
    rintro ⟨j, _⟩ h ⟨H, j0, j1⟩ _
    simp only at j0 j1 ⊢
    refine ldS_f H rfl ?_
    by_cases hj : j < ((sLo.n : Nat) : Int)
    · rw [if_pos (by simpa using hj)]
      obtain ⟨d, hd⟩ := get_ex j0 (by omega) rfl (l := lds) (i := j)
      obtain ⟨g1, g2, g3, g4⟩ := G.ld d (List.mem_of_getElem? hd)
      refine ldS_f H rfl (el_in H.rot3 j0 hd (fun c hc hcell => ldB_in (hcell 0 _ rfl) (ldI_in (hcell 1 _ rfl) (ldI_in (hcell 2 _ rfl) (ldI_in (hcell 3 _ rfl) (ldI_in (hcell 4 _ rfl) ?_))))))
      refine alc_in H (fun b5 h H => ?_)
      refine stF_in _ 0 0 _ h H (by simp) (by simp [Value.oneCell']) (fun h H => ?_)
      have H : HS (bk b5 #[.bool d.sh, .int .i64 d.slice, .int .i64 d.crit, .int .i64 d.rd, .int .i64 d.wr] :: bk b1 #[.int .i64 nc, .int .i64 gr, .slice sG.p sG.n sG.c, .slice sLo.p sLo.n sLo.c, .slice sP.p sP.n sP.c] :: row 1 sG (gs.map cI) :: row 5 sLo (lds.map cLd) :: progs sP ps :: l) h := H
      rw [wrap64_in (by omega) (by omega)]
      refine ldI_f H rfl (k_within ?_)
      rw [if_neg (wt g1)]
      refine ldI_f H rfl (k_within ?_)
      rw [if_neg (wt g2)]
      refine ldB_f H rfl ?_
      cases hs : d.sh with
      | true =>
        obtain ⟨g5, g6⟩ := g3 hs
        rw [if_pos rfl]
        refine ldI_f H rfl (k_within ?_)
        rw [if_neg (wt g5)]
        refine ldI_f H rfl (k_within ?_)
        rw [if_neg (wt g6)]
        refine ldB_f (x := true) H (by rw [← hs]; rfl) ?_
        rw [if_neg (by decide)]
        exact ⟨⟨H.tail, by omega, by omega⟩, by omega⟩
      | false =>
        obtain ⟨g5, g6⟩ := g4 hs
        rw [if_neg (by decide)]
        refine ldB_f (x := false) H (by rw [← hs]; rfl) ?_
        rw [if_pos (by decide)]
        refine ldI_f H rfl ?_
        rw [if_neg (by simp [g5])]
        refine ldI_f H rfl ?_
        rw [if_neg (by simp [g6])]
        exact ⟨⟨H.tail, by omega, by omega⟩, by omega⟩
    · rw [if_neg (by simpa using hj)]
      refine Lp.inv (I := fun s' h' => HS (bk b1 #[.int .i64 nc, .int .i64 gr, .slice sG.p sG.n sG.c, .slice sLo.p sLo.n sLo.c, .slice sP.p sP.n sP.c] :: row 1 sG (gs.map cI) :: row 5 sLo (lds.map cLd) :: progs sP ps :: l) h' ∧ 0 ≤ s'.1 ∧ s'.1 ≤ (ps.length : Int)) (μ := fun s' _ => ((ps.length : Int) - s'.1).toNat) ?_ ⟨H, by simp, by simp⟩
      clear H
      rintro ⟨q, _⟩ h ⟨H, q0, q1⟩ _
      simp only at q0 q1 ⊢
      refine ldS_f H rfl ?_
      by_cases hq : q < ((sP.n : Nat) : Int)
      · rw [if_pos (by simpa using hq)]
        obtain ⟨p, hp⟩ := get_ex q0 (by omega) rfl (l := ps) (i := q)
        have HP := HS.star.1 (H.pull 3 _ rfl)
        have HP : HS (row 2 sP (ps.map cPr) :: big PPr ps :: bk b1 #[.int .i64 nc, .int .i64 gr, .slice sG.p sG.n sG.c, .slice sLo.p sLo.n sLo.c, .slice sP.p sP.n sP.c] :: row 1 sG (gs.map cI) :: row 5 sLo (lds.map cLd) :: l) h := HP
        refine ldS_f H rfl (el_in HP q0 hp (fun c hc hcell => ldB_in (hcell 0 _ rfl) (ldS_in (hcell 1 _ rfl) (ldS_f H rfl (ldS_f H rfl ?_)))))
        have HB := big_at (Q := PPr) HP.swap hp
        have HB : HS (row 3 p.s (p.ops.map cO) :: hole PPr ps q.toNat :: row 2 sP (ps.map cPr) :: bk b1 #[.int .i64 nc, .int .i64 gr, .slice sG.p sG.n sG.c, .slice sLo.p sLo.n sLo.c, .slice sP.p sP.n sP.c] :: row 1 sG (gs.map cI) :: row 5 sLo (lds.map cLd) :: l) h := HB
        refine k_Check ((HB.pull 5 _ rfl).swap) (fun x e h H he hx => ?_)
        have H2 : HS (row 3 p.s (p.ops.map cO) :: hole PPr ps q.toNat :: row 5 sLo (lds.map cLd) :: row 2 sP (ps.map cPr) :: bk b1 #[.int .i64 nc, .int .i64 gr, .slice sG.p sG.n sG.c, .slice sLo.p sLo.n sLo.c, .slice sP.p sP.n sP.c] :: row 1 sG (gs.map cI) :: l) h := (H.pull 2 _ rfl).swap
        have H3 := big_same (Q := PPr) hp H2
        have H4 : HS (progs sP ps :: row 5 sLo (lds.map cLd) :: bk b1 #[.int .i64 nc, .int .i64 gr, .slice sG.p sG.n sG.c, .slice sLo.p sLo.n sLo.c, .slice sP.p sP.n sP.c] :: row 1 sG (gs.map cI) :: l) h := HS.star.2 (H3.pull 2 _ rfl)
        have H5 : HS (bk b1 #[.int .i64 nc, .int .i64 gr, .slice sG.p sG.n sG.c, .slice sLo.p sLo.n sLo.c, .slice sP.p sP.n sP.c] :: row 1 sG (gs.map cI) :: row 5 sLo (lds.map cLd) :: progs sP ps :: l) h := (((H4.pull 1 _ rfl).pull 2 _ rfl).pull 3 _ rfl).swap.perm (List.Perm.cons _ (List.Perm.refl _))
        have e0 : e = 0 := he.2 (by rw [n3]; exact G.ck p (List.mem_of_getElem? hp))
        refine ⟨cf H5 rfl, cf H5 rfl, ?_⟩
        rw [if_neg (by simp [e0]), wrap64_in (by omega) (by omega)]
        exact ⟨⟨H5, by omega, by omega⟩, by omega⟩
      · rw [if_neg (by simpa using hq)]
        exact k h H.tail
end
end Go.Proofs.YtbkjeahmbnkmeaaGreat
set_option autoImplicit false
set_option linter.unusedVariables false
namespace Go.Proofs.YtbkjeahmbnkmeaaGreat
open Go Ev

theorem PI_of {S : ST} {lds : List LD} (h : ∀ p ∈ S.ps, CK p.fo p.ops lds (S.ps.length : Int)) : PI S lds.length where
  len := fun p hp => (mayP_at (h p hp).1).1
  lk := fun p hp o ho h1 h2 => by
    obtain ⟨hm, hok, _⟩ := h p hp
    obtain ⟨i, hi⟩ := List.mem_iff_getElem?.1 ho
    have ha := oneB_a ((mayP_at hm).2 o ho) (.inl ⟨h1, h2⟩)
    refine ⟨ha.1, (hok i o hi).1 ?_⟩
    by_cases h6 : o.kind = 6
    · exact .inr h6
    · left; simp [tkB]; omega
  sp := fun p hp o ho h9 => by
    obtain ⟨hm, hok, _⟩ := h p hp
    obtain ⟨i, hi⟩ := List.mem_iff_getElem?.1 ho
    exact ⟨(oneB_a ((mayP_at hm).2 o ho) (.inr h9)).1, (hok i o hi).2.1 h9⟩
  fo := fun p hp hf => (h p hp).2.2 hf
end Go.Proofs.YtbkjeahmbnkmeaaGreat
set_option autoImplicit false
set_option linter.unusedVariables false
namespace Go.Proofs.YtbkjeahmbnkmeaaGreat
open Go Ev

def idle0 (n : Int) : List Int := List.replicate n.toNat 0
theorem fill_idle (n : Int) : fillL n.toNat 1 [.int .i64 0] = ((idle0 n).map cI).flatten := by
  unfold fillL idle0
  rw [flat_cI]
  apply List.ext_getElem
  · simp
  · intro i h1 h2
    simp only [List.getElem_map, List.getElem_replicate, List.length_cons, List.length_nil, Nat.zero_add, Nat.mod_one]
    rfl
def noA : Int → Prop := fun _ => False
def newST (nc gr : Int) (sG sLo sP sK : Sl) (bI : Nat) (bs : List Nat) (cb gb : Nat) (ps : List PR) : ST := ⟨nc, gr, sG, sLo, sP, ⟨some ⟨bI, 0, none⟩, nc.toNat, nc.toNat⟩, sK, ps, bs, cb, gb⟩
def newMX (nc : Int) (gs : List Int) (sGr : Sl) : MX := ⟨sGr, ⟨none, 0, 0⟩, ⟨none, 0, 0⟩, ⟨none, 0, 0⟩, [], idle0 nc, gs⟩
theorem MI_new {S : ST} {n : Nat} {ls : List LK} (hll : ls.length = n) (hp : PI S n) (h8 : n ≤ 8) (hno : ∀ k ∈ ls, k.ho = [] ∧ k.wa = []) : MIg S noX noP ⟨0, ls, [], [], noA⟩ where
  pin := by rw [hll]; exact hp
  len := by simp
  nl := by rw [hll]; exact h8
  good := .nil
  tim := fun e he => by cases he
  hol := fun l => by
    simp only [oh, noP, List.foldl_nil, List.append_nil, HO]
    cases hk : tkAt ls l with
    | none => rfl
    | some k =>
      simp only
      obtain ⟨_, h1⟩ := tkAt_some.1 hk
      rw [(hno k (List.mem_of_getElem? h1)).1]; rfl
  wai := fun l => by
    simp only [ow, List.foldl_nil, List.filter_nil, WO]
    cases hk : tkAt ls l with
    | none => rfl
    | some k =>
      simp only
      obtain ⟨_, h1⟩ := tkAt_some.1 hk
      rw [(hno k (List.mem_of_getElem? h1)).2]; rfl
  tsk := fun t a ht => by
    obtain ⟨_, h1⟩ := tkAt_some.1 ht
    simp at h1
  win := fun l k hk y hy => by
    obtain ⟨_, h1⟩ := tkAt_some.1 hk
    rw [(hno k (List.mem_of_getElem? h1)).2] at hy; cases hy
  qin := fun t ht => ht.elim
theorem k_mNew {nc gr : Int} {sG sLo sP : Sl} {gs : List Int} {lds : List LD} {ps : List PR} {l : List SP} {h : Heap} {R : Option Addr → Bool → Heap → Prop} (H : HS (row 1 sG (gs.map cI) :: row 5 sLo (lds.map cLd) :: progs sP ps :: l) h) (G : MayG nc gr gs lds ps)
    (k : ∀ m S g h', HS (mach m S g :: row 1 sG (gs.map cI) :: row 5 sLo (lds.map cLd) :: l) h' → MIg S noX noP g → g.now = 0 → g.ev = [] → R (some ⟨m, 0, none⟩) true h') : C_ref26_New nc gr sG sLo sP h R := by
  apply of_ref26_New; unfold S_ref26_New
  have n1 := row_len H
  have n2 := row_len H.swap
  rw [List.length_map] at n1 n2
  have e1 := G.gl
  have e2 := G.ll
  have hnc := G.nc
  have hbr : bring nc 1 4 = nc := by unfold bring; rw [if_neg (by omega), if_neg (by omega)]
  refine alc_in H (fun b1 h H => ?_)
  refine ldI_f H rfl (ldI_f H rfl (ldS_f H rfl (ldS_f H rfl (ldS_f H rfl ?_))))
  refine k_May12 ((H.sink 3)) G (fun h H => ?_)
  have H : HS (bk b1 #[.int .i64 nc, .int .i64 gr, .slice sG.p sG.n sG.c, .slice sLo.p sLo.n sLo.c, .slice sP.p sP.n sP.c] :: row 1 sG (gs.map cI) :: row 5 sLo (lds.map cLd) :: progs sP ps :: l) h := H.pull 3 _ rfl
  rw [if_neg (by decide)]
  refine jn_cut (I := fun j h => ∃ m bs cb gb bI, j.1 = ⟨m, 0, none⟩ ∧ (bs.length : Int) = nc ∧ HS (bk m #[.int .i64 nc, .int .i64 gr, .slice sG.p sG.n sG.c, .slice sLo.p sLo.n sLo.c, .slice sP.p sP.n sP.c, .int .u64 0, .pointer (some ⟨cb, 0, none⟩), .slice (some ⟨bI, 0, none⟩) nc.toNat nc.toNat, .slice none 0 0, .slice none 0 0, .pointer (some ⟨gb, 0, none⟩), .slice none 0 0, .slice none 0 0, .slice none 0 0] ::
      coresA cb bs noA :: graph gb :: row 1 ⟨some ⟨bI, 0, none⟩, nc.toNat, nc.toNat⟩ ((idle0 nc).map cI) :: bk b1 #[.int .i64 nc, .int .i64 gr, .slice sG.p sG.n sG.c, .slice sLo.p sLo.n sLo.c, .slice sP.p sP.n sP.c] :: row 1 sG (gs.map cI) :: row 5 sLo (lds.map cLd) :: progs sP ps :: l) h) ?_ ?_
  · clear H
    rintro ⟨_, _⟩ h ⟨m, bs, cb, gb, bI, rfl, hbs, H⟩
    refine ldS_f (x := ⟨none, 0, 0⟩) H rfl (ldS_f (H.pull 4 _ rfl) rfl ?_)
    have HG := H.pull 5 _ rfl
    refine app_in (xs := []) (ys := gs.map cI) (row_nil (sz := 1) H) (rowAt_row HG) (by simpa using n1) (cI_len _) (cI_one _) rfl (by simp; omega) (by simp; omega) (fun sGr h H => ?_)
    have H : HS (row 1 sGr (gs.map cI) :: bk m #[.int .i64 nc, .int .i64 gr, .slice sG.p sG.n sG.c, .slice sLo.p sLo.n sLo.c, .slice sP.p sP.n sP.c, .int .u64 0, .pointer (some ⟨cb, 0, none⟩), .slice (some ⟨bI, 0, none⟩) nc.toNat nc.toNat, .slice none 0 0, .slice none 0 0, .pointer (some ⟨gb, 0, none⟩), .slice none 0 0, .slice none 0 0, .slice none 0 0] ::
      coresA cb bs noA :: graph gb :: row 1 ⟨some ⟨bI, 0, none⟩, nc.toNat, nc.toNat⟩ ((idle0 nc).map cI) :: bk b1 #[.int .i64 nc, .int .i64 gr, .slice sG.p sG.n sG.c, .slice sLo.p sLo.n sLo.c, .slice sP.p sP.n sP.c] :: row 1 sG (gs.map cI) :: row 5 sLo (lds.map cLd) :: progs sP ps :: l) h := by simpa using H
    refine st_f H.swap (by simp) rfl (fun h H => ?_)
    refine Lp.inv (I := fun s' h' => ∃ (sK : Sl) (ls : List LK), HS (bk m (mB (newST nc gr sG sLo sP sK bI bs cb gb ps) 0 (newMX nc gs sGr)) :: row 1 sK ((ls.map (·.b)).map cPt) :: big PL ls :: row 1 sGr (gs.map cI) ::
      coresA cb bs noA :: graph gb :: row 1 ⟨some ⟨bI, 0, none⟩, nc.toNat, nc.toNat⟩ ((idle0 nc).map cI) :: bk b1 #[.int .i64 nc, .int .i64 gr, .slice sG.p sG.n sG.c, .slice sLo.p sLo.n sLo.c, .slice sP.p sP.n sP.c] :: row 1 sG (gs.map cI) :: row 5 sLo (lds.map cLd) :: progs sP ps :: l) h' ∧
      (ls.length : Int) = s'.1 ∧ s'.1 ≤ (lds.length : Int) ∧ ∀ k ∈ ls, k.ho = [] ∧ k.wa = []) (μ := fun s' _ => ((lds.length : Int) - s'.1).toNat) ?_ ⟨⟨none, 0, 0⟩, [], ?_, by simp, by simp, by simp⟩
    · clear H HG
      rintro ⟨i, _⟩ h ⟨sK, ls, H, hl, hi, hno⟩ _
      simp only at hl hi ⊢
      refine ldS_f (H.pull 7 _ rfl) rfl ?_
      by_cases hc : i < ((sLo.n : Nat) : Int)
      · rw [if_pos (by simpa using hc)]
        obtain ⟨d, hd⟩ := get_ex (i := i) (by omega) (by omega) rfl (l := lds)
        refine ldS_f (x := sK) H rfl (ldS_f (H.pull 7 _ rfl) rfl (el_in (H.pull 9 _ rfl) (by omega) hd (fun c hcp hcell => ?_)))
        refine ldB_in (hcell 0 _ rfl) (ldI_in (hcell 1 _ rfl) (ldI_in (hcell 2 _ rfl) (ldI_in (hcell 3 _ rfl) (ldI_in (hcell 4 _ rfl) (ldS_f (H.pull 7 _ rfl) rfl ?_)))))
        refine k_KNew (H.pull 8 _ rfl) (fun b h H => ?_)
        have cs : ∀ {l' : List SP} {h' : Heap}, HS (row 5 sLo (lds.map cLd) :: l') h' → ∀ j v, (cLd d)[j]? = some v → cell h' (((Addr.mk c 0 none).add (i.toNat * 5)).add j) = some v := fun H' j v hv => el_cell H' hcp hd hv
        refine ⟨cf (H.pull 9 _ rfl) rfl, cf (H.pull 2 _ rfl) rfl, alc_in H (fun b51 h H => ?_)⟩
        have cs1 := cs (H.pull 11 _ rfl)
        refine ⟨cf (H.pull 10 _ rfl) rfl, cs1 0 _ rfl, cs1 1 _ rfl, cs1 2 _ rfl, cs1 3 _ rfl, cs1 4 _ rfl, cf (H.pull 10 _ rfl) rfl, cf (H.pull 3 _ rfl) rfl, ?_⟩
        have HK := (H.pull 4 _ rfl).pull 1 _ rfl
        refine app_lit (ys := [cPt b]) HK rfl rfl (by simp [cPt]) (by simp [cPt, Value.oneCell']) rfl (by simp; omega) (by simp; omega) (fun sK2 h H => ?_)
        have cs2 := cs (H.pull 10 _ rfl)
        refine ⟨cf (H.pull 9 _ rfl) rfl, cs2 0 _ rfl, cs2 1 _ rfl, cs2 2 _ rfl, cs2 3 _ rfl, cs2 4 _ rfl, cf (H.pull 9 _ rfl) rfl, ?_⟩
        refine st_f (H.pull 3 _ rfl) (by simp [mB]) rfl (fun h H => ?_)
        rw [wrap64_in (by omega) (by omega)]
        refine ⟨⟨sK2, ls ++ [⟨b, d.sh, [], []⟩], ?_, by simp; omega, by omega, ?_⟩, by omega⟩
        · have H1 := big_snoc (Q := PL) (x := ⟨b, d.sh, [], []⟩) ((H.pull 2 _ rfl).pull 4 _ rfl).swap
          simp only [List.map_append]
          exact H1.to 9 [1, 2, 0, 4, 5, 6, 7, 8, 3] rfl (by kernel_rfl)
        · intro k hk
          rcases List.mem_append.1 hk with h | h
          · exact hno k h
          · simp at h; subst h; exact ⟨rfl, rfl⟩
      · rw [if_neg (by simpa using hc)]
        have hll : ls.length = lds.length := by omega
        refine k m (newST nc gr sG sLo sP sK bI bs cb gb ps) ⟨0, ls, [], [], noA⟩ h ?_ ?_ rfl rfl
        · have H1 := (row_nil (sz := 5) (row_nil (sz := 1) (row_nil (sz := 12) H)))
          refine mach_close (x := newMX nc gs sGr) ⟨rfl, by simp [newMX, idle0, newST]; omega, by simpa [newST] using hbs, hnc⟩ ?_
          exact H1.to 14 [3, 7, 8, 4, 5, 2, 1, 0, 9, 6, 13, 11, 12] rfl (by kernel_rfl)
        · exact MI_new hll (PI_of G.ck) G.ll hno
    · have H1 := big_nil (Q := PL) (row_nil (sz := 1) H)
      exact H1.to 4 [2, 1, 0, 3] rfl (by kernel_rfl)
  · intro K' hK
    refine ldI_f H rfl (ldI_f H rfl (ldS_f H rfl (ldS_f H rfl (ldS_f H rfl (ldI_f H rfl (ldI_f H rfl (ldI_f H rfl ⟨?_, ?_⟩)))))))
    · refine k_CNew H (fun cb bs h hbs H => ⟨cf H.swap rfl, cf H.swap rfl, cf H.swap rfl, cf H.swap rfl, cf H.swap rfl, cf H.swap rfl, ⟨?_, ?_⟩⟩)
      · refine ⟨by omega, by omega, by omega, by decide, alc_in H (fun b17 h H => ⟨cf (H.pull 2 _ rfl) rfl, cf (H.pull 2 _ rfl) rfl, cf (H.pull 2 _ rfl) rfl, cf (H.pull 2 _ rfl) rfl, cf (H.pull 2 _ rfl) rfl, cf (H.pull 2 _ rfl) rfl, cf (H.pull 2 _ rfl) rfl, ?_⟩)⟩
        refine k_GNew H (fun gb h H => ⟨cf (H.pull 3 _ rfl) rfl, cf (H.pull 3 _ rfl) rfl, cf (H.pull 3 _ rfl) rfl, cf (H.pull 3 _ rfl) rfl, cf (H.pull 3 _ rfl) rfl, cf (H.pull 3 _ rfl) rfl, cf (H.pull 3 _ rfl) rfl, cf (H.pull 3 _ rfl) rfl, ?_⟩)
        refine alc_in H (fun b20 h H => ⟨cf (H.pull 4 _ rfl) rfl, cf (H.pull 4 _ rfl) rfl, cf (H.pull 4 _ rfl) rfl, cf (H.pull 4 _ rfl) rfl, cf (H.pull 4 _ rfl) rfl, cf (H.pull 4 _ rfl) rfl, cf (H.pull 4 _ rfl) rfl, cf (H.pull 4 _ rfl) rfl, ?_⟩)
        refine hK _ _ ⟨b20, bs, cb, gb, b17, rfl, by rw [hbs, hbr]; omega, ?_⟩
        have H1 := row_lit (sz := 1) (n := nc.toNat) (H.pull 2 _ rfl) ((idle0 nc).map cI) (cI_len _) (by rw [fill_idle]) (by simp [idle0])
        exact ((H1.pull 2 _ rfl).pull 3 _ rfl).pull 3 _ rfl
      · refine k_GNew H (fun gb h H => ⟨cf (H.pull 2 _ rfl) rfl, cf (H.pull 2 _ rfl) rfl, cf (H.pull 2 _ rfl) rfl, cf (H.pull 2 _ rfl) rfl, cf (H.pull 2 _ rfl) rfl, cf (H.pull 2 _ rfl) rfl, cf (H.pull 2 _ rfl) rfl, cf (H.pull 2 _ rfl) rfl, ?_⟩)
        refine ⟨by omega, by omega, by omega, by decide, alc_in H (fun b17 h H => ⟨cf (H.pull 3 _ rfl) rfl, cf (H.pull 3 _ rfl) rfl, cf (H.pull 3 _ rfl) rfl, cf (H.pull 3 _ rfl) rfl, cf (H.pull 3 _ rfl) rfl, cf (H.pull 3 _ rfl) rfl, cf (H.pull 3 _ rfl) rfl, ?_⟩)⟩
        refine alc_in H (fun b20 h H => ⟨cf (H.pull 4 _ rfl) rfl, cf (H.pull 4 _ rfl) rfl, cf (H.pull 4 _ rfl) rfl, cf (H.pull 4 _ rfl) rfl, cf (H.pull 4 _ rfl) rfl, cf (H.pull 4 _ rfl) rfl, cf (H.pull 4 _ rfl) rfl, cf (H.pull 4 _ rfl) rfl, ?_⟩)
        refine hK _ _ ⟨b20, bs, cb, gb, b17, rfl, by rw [hbs, hbr]; omega, ?_⟩
        have H1 := row_lit (sz := 1) (n := nc.toNat) (H.pull 1 _ rfl) ((idle0 nc).map cI) (cI_len _) (by rw [fill_idle]) (by simp [idle0])
        exact ((H1.pull 2 _ rfl).pull 3 _ rfl).pull 3 _ rfl
    · refine ⟨by omega, by omega, by omega, by decide, alc_in H (fun b17 h H => ⟨cf H.swap rfl, cf H.swap rfl, cf H.swap rfl, cf H.swap rfl, cf H.swap rfl, cf H.swap rfl, cf H.swap rfl, ?_⟩)⟩
      refine k_CNew H (fun cb bs h hbs H => ⟨cf (H.pull 2 _ rfl) rfl, cf (H.pull 2 _ rfl) rfl, cf (H.pull 2 _ rfl) rfl, cf (H.pull 2 _ rfl) rfl, cf (H.pull 2 _ rfl) rfl, cf (H.pull 2 _ rfl) rfl, ?_⟩)
      refine k_GNew H (fun gb h H => ⟨cf (H.pull 3 _ rfl) rfl, cf (H.pull 3 _ rfl) rfl, cf (H.pull 3 _ rfl) rfl, cf (H.pull 3 _ rfl) rfl, cf (H.pull 3 _ rfl) rfl, cf (H.pull 3 _ rfl) rfl, cf (H.pull 3 _ rfl) rfl, cf (H.pull 3 _ rfl) rfl, ?_⟩)
      refine alc_in H (fun b20 h H => ⟨cf (H.pull 4 _ rfl) rfl, cf (H.pull 4 _ rfl) rfl, cf (H.pull 4 _ rfl) rfl, cf (H.pull 4 _ rfl) rfl, cf (H.pull 4 _ rfl) rfl, cf (H.pull 4 _ rfl) rfl, cf (H.pull 4 _ rfl) rfl, cf (H.pull 4 _ rfl) rfl, ?_⟩)
      refine hK _ _ ⟨b20, bs, cb, gb, b17, rfl, by rw [hbs, hbr]; omega, ?_⟩
      have H1 := row_lit (sz := 1) (n := nc.toNat) (H.pull 3 _ rfl) ((idle0 nc).map cI) (cI_len _) (by rw [fill_idle]) (by simp [idle0])
      exact ((H1.pull 2 _ rfl).pull 3 _ rfl).pull 3 _ rfl
end Go.Proofs.YtbkjeahmbnkmeaaGreat
