/- Contracts: words of a text. -/
import Derived.Test.YtbkjeahmbnkmeaaGreatGP
set_option autoImplicit false
set_option linter.unusedVariables false
namespace Go.Proofs.YtbkjeahmbnkmeaaGreat
open Go Ev

structure WD where
  kind : Int
  text : ByteArray
  n : Int
  pl : Int
def cWd (w : WD) : List Value := [.int .i64 w.kind, .string w.text, .int .i64 w.n, .int .i64 w.pl]
section
variable {l : List SP} {h : Heap}
def ltrB (c : Int) : Bool := decide (97 ≤ c ∧ c ≤ 122)
def digB (c : Int) : Bool := decide (48 ≤ c ∧ c ≤ 57)
theorem k_letter {c : Int} {R : Bool → Heap → Prop} (k : R (ltrB c) h) : C_ref09_letter c h R := by
  apply of_ref09_letter; unfold S_ref09_letter
  by_cases h1 : c ≥ 97
  · rw [if_pos (by simpa using h1)]
    have e : ltrB c = decide (c ≤ 122) := by simp [ltrB]; omega
    rwa [e] at k
  · rw [if_neg (by simpa using h1)]
    have e : ltrB c = false := by simp [ltrB]; omega
    rwa [e] at k
theorem k_digit {c : Int} {R : Bool → Heap → Prop} (k : R (digB c) h) : C_ref09_digit c h R := by
  apply of_ref09_digit; unfold S_ref09_digit
  by_cases h1 : c ≥ 48
  · rw [if_pos (by simpa using h1)]
    have e : digB c = decide (c ≤ 57) := by simp [digB]; omega
    rwa [e] at k
  · rw [if_neg (by simpa using h1)]
    have e : digB c = false := by simp [digB]; omega
    rwa [e] at k
theorem k_mark {c : Int} {R : Bool → Heap → Prop} (k : ∀ b, R b h) : C_ref09_mark c h R := by
  apply of_ref09_mark; unfold S_ref09_mark
  split
  · exact k _
  · split
    · exact k _
    · split
      · exact k _
      · split <;> exact k _
theorem k_one {s : ByteArray} {p : Int} {R : Int → ByteArray → Int → Int → Int → Bool → Heap → Prop} (H : HS l h) (h0 : 0 ≤ p) (h1 : p < (s.size : Int)) (hs : s.size ≤ 8000)
    (k : ∀ a b c d e ok h', HS l h' → p < e → e ≤ (s.size : Int) → R a b c d e ok h') : C_ref09_one s p h R := by
  apply of_ref09_one; unfold S_ref09_one
  refine alc_in H (fun b4 h H => ⟨h0, h1, k_letter ?_⟩)
  have fin : ∀ (a : Int) (b : ByteArray) (c e : Int) (ok : Bool) (h : Heap), HS (bk b4 #[.int .i64 0, .string ⟨#[]⟩, .int .i64 0, .int .i64 0] :: l) h → p < e → e ≤ (s.size : Int) →
      stF [.int .i64 a, .string b, .int .i64 c, .int .i64 p] h (Addr.mk b4 0 none) 0 fun h =>
        ldI .i64 ((Addr.mk b4 0 none).add 0) h fun x9000_0 => ldStr ((Addr.mk b4 0 none).add 1) h fun x9000_1 => ldI .i64 ((Addr.mk b4 0 none).add 2) h fun x9000_2 => ldI .i64 ((Addr.mk b4 0 none).add 3) h fun x9000_3 =>
        R x9000_0 x9000_1 x9000_2 x9000_3 e ok h := by
    intro a b c e ok h H he1 he2
    refine stF_in _ 0 0 _ h H (by simp) (by simp [Value.oneCell']) (fun h H => ?_)
    exact ldI_f H rfl (ldStr_f H rfl (ldI_f H rfl (ldI_f H rfl (k _ _ _ _ _ _ h H.tail he1 he2))))
  cases hl : ltrB (byteAt s p) with
  | true =>
    rw [if_pos rfl]
    refine jn_cut (I := fun j h => HS (bk b4 #[.int .i64 0, .string ⟨#[]⟩, .int .i64 0, .int .i64 0] :: l) h ∧ p < j.1 ∧ j.1 ≤ (s.size : Int)) ?_ ?_
    · rintro ⟨j, _⟩ h ⟨H, j0, j1⟩
      simp only at j0 j1 ⊢
      exact ⟨h0, by omega, j1, fin _ _ _ _ _ h H j0 j1⟩
    · intro K' hK
      refine Lp.inv (I := fun s' h' => h' = h ∧ p ≤ s'.1 ∧ s'.1 ≤ (s.size : Int)) (μ := fun s' _ => ((s.size : Int) - s'.1).toNat) ?_ ⟨rfl, by simp, by simp; omega⟩
      rintro ⟨i, _⟩ h' ⟨rfl, i0, i1⟩ _
      simp only at i0 i1 ⊢
      by_cases hi : i < (s.size : Int)
      · rw [if_pos (by simpa using hi)]
        refine ⟨by omega, hi, k_letter ?_⟩
        cases hl2 : ltrB (byteAt s i) with
        | true => rw [if_pos rfl, wrap64_in (by omega) (by omega)]; exact ⟨⟨rfl, by omega, by omega⟩, by omega⟩
        | false =>
          rw [if_neg (by decide)]
          refine hK _ _ ⟨H, ?_, i1⟩
          simp only
          by_cases e : i = p
          · rw [e, hl] at hl2; cases hl2
          · omega
      · rw [if_neg (by simpa using hi)]
        exact hK _ _ ⟨H, by simp only; omega, i1⟩
  | false =>
    rw [if_neg (by decide)]
    refine ⟨h0, h1, k_digit ?_⟩
    cases hd : digB (byteAt s p) with
    | true =>
      rw [if_pos rfl]
      refine jn_cut (I := fun j h => HS (bk b4 #[.int .i64 0, .string ⟨#[]⟩, .int .i64 0, .int .i64 0] :: l) h ∧ p < j.1 ∧ j.1 ≤ (s.size : Int)) ?_ ?_
      · rintro ⟨j, n, _⟩ h ⟨H, j0, j1⟩
        simp only at j0 j1 ⊢
        split
        · refine ⟨h0, h1, ?_⟩
          split <;> exact fin _ _ _ _ _ h H j0 j1
        · exact fin _ _ _ _ _ h H j0 j1
      · intro K' hK
        refine Lp.inv (I := fun s' h' => h' = h ∧ p ≤ s'.1 ∧ s'.1 ≤ (s.size : Int)) (μ := fun s' _ => ((s.size : Int) - s'.1).toNat) ?_ ⟨rfl, by simp, by simp; omega⟩
        rintro ⟨i, n, _⟩ h' ⟨rfl, i0, i1⟩ _
        simp only at i0 i1 ⊢
        by_cases hi : i < (s.size : Int)
        · rw [if_pos (by simpa using hi)]
          refine ⟨by omega, hi, k_digit ?_⟩
          have hw : IntKind.wrap .i64 (i + 1) = i + 1 := wrap64_in (by omega) (by omega)
          rw [hw]
          cases hl2 : digB (byteAt s i) with
          | true =>
            rw [if_pos rfl]
            split
            · exact ⟨by omega, hi, ⟨rfl, by omega, by omega⟩, by omega⟩
            · exact ⟨⟨rfl, by omega, by omega⟩, by omega⟩
          | false =>
            rw [if_neg (by decide)]
            refine hK _ _ ⟨H, ?_, i1⟩
            simp only
            by_cases e : i = p
            · rw [e, hd] at hl2; cases hl2
            · omega
        · rw [if_neg (by simpa using hi)]
          exact hK _ _ ⟨H, by simp only; omega, i1⟩
    | false =>
      rw [if_neg (by decide)]
      rw [wrap64_in (by omega) (by omega)]
      exact ⟨h0, by omega, by omega, h0, h1, k_mark (fun b => fin _ _ _ _ _ h H (by omega) (by omega))⟩
theorem k_Scan {s : ByteArray} {R : Sl → Int → Int → Heap → Prop} (H : HS l h)
    (k : ∀ sl ws a e h', HS (row 4 sl (List.map cWd ws) :: l) h' → ws.length ≤ 8000 → R sl a e h') : C_ref09_Scan s h R := by
  apply of_ref09_Scan; unfold S_ref09_Scan
  have err : ∀ a e h, HS l h → R (Sl.mk none 0 0) a e h := fun a e h H => k _ [] a e h (row_nil H) (by simp)
  by_cases h8 : (s.size : Int) > 8000
  · rw [if_pos (by simpa using h8)]; exact err _ _ h H
  · rw [if_neg (by simpa using h8)]
    refine Lp.inv (I := fun s' h' => ∃ ws : List WD, HS (row 4 s'.1 (ws.map cWd) :: l) h' ∧ 0 ≤ s'.2.2.1 ∧ s'.2.2.1 ≤ (s.size : Int) ∧ (ws.length : Int) ≤ s'.2.2.1 ∧ (0 ≤ s'.2.1 → 1 ≤ ws.length)) (μ := fun s' _ => ((s.size : Int) - s'.2.2.1).toNat) ?_
      ⟨[], row_nil H, by simp, by simp, by simp, by simp⟩
    clear H
    rintro ⟨sw, last, p, _⟩ h ⟨ws, H, p0, p1, hlen, hla⟩ _
    simp only at p0 p1 hlen hla ⊢
    by_cases hp : p < (s.size : Int)
    · rw [if_pos (by simpa using hp)]
      have hw : IntKind.wrap .i64 (p + 1) = p + 1 := wrap64_in (by omega) (by omega)
      rw [hw]
      refine ⟨p0, hp, ?_⟩
      split
      · exact ⟨⟨ws, H, by omega, by omega, by omega, hla⟩, by omega⟩
      · refine ⟨p0, hp, ?_⟩
        split
        · exact ⟨⟨ws, H, by omega, by omega, by omega, hla⟩, by omega⟩
        · refine ⟨p0, hp, ?_⟩
          split
          · exact ⟨⟨ws, H, by omega, by omega, by omega, hla⟩, by omega⟩
          · rename_i hq10
            refine ⟨p0, hp, ?_⟩
            split
            · rename_i hq35
              have hq : byteAt s p = 35 := by simpa using hq35
              refine Lp.inv (I := fun s' h' => h' = h ∧ p ≤ s'.1 ∧ s'.1 ≤ (s.size : Int)) (μ := fun s' _ => ((s.size : Int) - s'.1).toNat) ?_ ⟨rfl, by simp, by simp; omega⟩
              rintro ⟨i, _⟩ h' ⟨rfl, i0, i1⟩ _
              simp only at i0 i1 ⊢
              by_cases hi : i < (s.size : Int)
              · rw [if_pos (by simpa using hi)]
                refine ⟨by omega, hi, ?_⟩
                by_cases h10 : byteAt s i = 10
                · rw [if_neg (by simpa using h10)]
                  have hne : i ≠ p := by rintro rfl; rw [hq] at h10; cases h10
                  exact ⟨⟨ws, H, by omega, by omega, by omega, hla⟩, by omega⟩
                · rw [if_pos (by simpa using h10), wrap64_in (by omega) (by omega)]
                  exact ⟨⟨by trivial, by omega, by omega⟩, by omega⟩
              · rw [if_neg (by simpa using hi)]
                exact ⟨⟨ws, H, by omega, by omega, by omega, hla⟩, by omega⟩
            · refine k_one H p0 hp (by omega) (fun a b c d e ok h H he1 he2 => ?_)
              refine alc_in H (fun b8 h H => ?_)
              refine stF_in _ 0 0 _ h H (by simp) (by simp [Value.oneCell']) (fun h H => ?_)
              have H : HS (bk b8 #[.int .i64 a, .string b, .int .i64 c, .int .i64 d] :: row 4 sw (ws.map cWd) :: l) h := H
              refine jn_cut (I := fun _ h' => h' = h) ?_ ?_
              · rintro _ h' rfl
                refine ldI_f H rfl (ldStr_f H rfl (ldI_f H rfl (ldI_f H rfl (alc_in H (fun b84 h H => ?_)))))
                have H84 : HS (bk b84 #[.int .i64 a, .string b, .int .i64 c, .int .i64 d] :: row 4 sw (ws.map cWd) :: l) h := H.to 3 [0, 2] rfl (by kernel_rfl)
                refine app_lit (ys := [cWd ⟨a, b, c, d⟩]) H84 rfl rfl (by simp [cWd]) (by simp [cWd, Value.oneCell']) rfl (by simp; omega) (by simp; omega) (fun s2 h H => ?_)
                exact ⟨⟨ws ++ [⟨a, b, c, d⟩], by simpa using H, by omega, by omega, by simp; omega, by simp⟩, by omega⟩
              · intro K' hK
                split
                · exact err _ _ h H.tail.tail
                · split
                  · rename_i hlast
                    refine ldI_f H rfl ?_
                    split
                    · have hl1 : 1 ≤ ws.length := hla (by simp at hlast; omega)
                      have hn := row_len H.swap
                      rw [List.length_map] at hn
                      have hwn : IntKind.wrap .i64 (((sw.n : Nat) : Int) - 1) = (ws.length : Int) - 1 := by rw [hn, wrap64_in (by omega) (by omega)]
                      rw [hwn]
                      obtain ⟨w, hw'⟩ := get_ex (i := (ws.length : Int) - 1) (by omega) (by omega) rfl (l := ws)
                      refine el_in H.swap (by omega) hw' (fun cc hc hcell => ldI_in (hcell 0 _ rfl) ?_)
                      split
                      · exact err _ _ h H.tail.tail
                      · exact hK _ _ rfl
                    · exact hK _ _ rfl
                  · exact hK _ _ rfl
    · rw [if_neg (by simpa using hp)]
      exact k _ ws _ _ h H (by omega)
end
end Go.Proofs.YtbkjeahmbnkmeaaGreat
set_option autoImplicit false
set_option linter.unusedVariables false
namespace Go.Proofs.YtbkjeahmbnkmeaaGreat
open Go Ev

def rdB (L : Sl) (p bad : Int) : Array Value := #[.slice L.p L.n L.c, .int .i64 p, .int .i64 bad]
/-- is that word there? -/
def isW (ws : List WD) (p kind : Int) (t : ByteArray) : Bool := match ws[p.toNat]? with
  | some w => w.kind == kind && (w.text.toList == t.toList)
  | none => false
def isB (ws : List WD) (p bad kind : Int) (t : ByteArray) : Bool := bad == 0 && isW ws p kind t
theorem isW_lt {ws : List WD} {p kind : Int} {t : ByteArray} (h : isW ws p kind t = true) (h0 : 0 ≤ p) : p < (ws.length : Int) := by
  unfold isW at h
  cases hw : ws[p.toNat]? with
  | none => rw [hw] at h; cases h
  | some w => have := (List.getElem?_eq_some_iff.1 hw).1; omega
theorem isB_lt {ws : List WD} {p bad kind : Int} {t : ByteArray} (h : isB ws p bad kind t = true) (h0 : 0 ≤ p) : bad = 0 ∧ p < (ws.length : Int) := by
  simp only [isB, Bool.and_eq_true, beq_iff_eq] at h
  exact ⟨h.1, isW_lt h.2 h0⟩
section
variable {l : List SP} {h : Heap} {r : Nat} {L : Sl} {ws : List WD} {p bad : Int}
theorem k_ris {kind : Int} {t : ByteArray} {R : Bool → Heap → Prop} (H : HS (bk r (rdB L p bad) :: row 4 L (ws.map cWd) :: l) h) (h0 : 0 ≤ p) (k : R (isB ws p bad kind t) h) : C_ref12_Read_is (some ⟨r, 0, none⟩) kind t h R := by
  apply of_ref12_Read_is; unfold S_ref12_Read_is
  have hn := row_len H.swap
  rw [List.length_map] at hn
  refine ldI_f H rfl ?_
  by_cases hb : bad = 0
  · rw [if_pos (by simpa using hb)]
    have eb : (bad == 0) = true := by simpa using hb
    rw [isB, eb, Bool.true_and] at k
    refine ldI_f H rfl (ldS_f H rfl ?_)
    by_cases hp : p < ((L.n : Nat) : Int)
    · rw [if_pos (by simpa using hp)]
      obtain ⟨w, hw⟩ := get_ex h0 (by omega) rfl (l := ws) (i := p)
      rw [isW, hw] at k
      refine ldS_f H rfl (ldI_f H rfl (el_in H.swap h0 hw (fun c hc hcell => ldI_in (hcell 0 _ rfl) ?_)))
      by_cases hk : w.kind = kind
      · rw [if_pos (by simpa using hk)]
        have ek : (w.kind == kind) = true := by simpa using hk
        simp only [ek, Bool.true_and] at k
        exact ldS_f H rfl (ldI_f H rfl (el_in H.swap h0 hw (fun c hc hcell => ldStr_in (hcell 1 _ rfl) k)))
      · rw [if_neg (by simpa using hk)]
        have ek : (w.kind == kind) = false := by simpa using hk
        simp only [ek, Bool.false_and] at k
        exact k
    · rw [if_neg (by simpa using hp)]
      have : ws[p.toNat]? = none := List.getElem?_eq_none (by omega)
      rw [isW, this] at k; exact k
  · rw [if_neg (by simpa using hb)]
    have eb : (bad == 0) = false := by simpa using hb
    rw [isB, eb, Bool.false_and] at k; exact k
theorem k_rneed {kind : Int} {t : ByteArray} {R : Heap → Prop} (H : HS (bk r (rdB L p bad) :: row 4 L (ws.map cWd) :: l) h) (h0 : 0 ≤ p) (h1 : p ≤ (ws.length : Int)) (hl : ws.length ≤ 8000)
    (k : ∀ p' bad' h', HS (bk r (rdB L p' bad') :: row 4 L (ws.map cWd) :: l) h' → 0 ≤ p' → p' ≤ (ws.length : Int) → (bad' = 0 → bad = 0) → R h') : C_ref12_Read_need (some ⟨r, 0, none⟩) kind t h R := by
  apply of_ref12_Read_need; unfold S_ref12_Read_need
  refine k_ris H h0 ?_
  cases hb : isB ws p bad kind t with
  | true =>
    obtain ⟨b0, hlt⟩ := isB_lt hb h0
    rw [if_pos rfl]
    refine ldI_f H rfl (st_f H (by simp [rdB]) rfl (fun h H => ?_))
    rw [wrap64_in (by omega) (by omega)] at H
    exact k (p + 1) bad h H (by omega) (by omega) (fun h => h)
  | false =>
    rw [if_neg (by decide)]
    refine ldI_f H rfl ?_
    split
    · refine st_f H (by simp [rdB]) rfl (fun h H => ?_)
      exact k p 5 h H h0 h1 (fun h => absurd h (by decide))
    · exact k p bad h H h0 h1 (fun h => h)
theorem k_rfield {t : ByteArray} {most : Int} {R : Int → Heap → Prop} (H : HS (bk r (rdB L p bad) :: row 4 L (ws.map cWd) :: l) h) (h0 : 0 ≤ p) (h1 : p ≤ (ws.length : Int)) (hl : ws.length ≤ 8000)
    (k : ∀ n p' bad' h', HS (bk r (rdB L p' bad') :: row 4 L (ws.map cWd) :: l) h' → 0 ≤ p' → p' ≤ (ws.length : Int) → (bad' = 0 → bad = 0 ∧ 1 ≤ n ∧ n ≤ most) → R n h') : C_ref12_Read_field (some ⟨r, 0, none⟩) t most h R := by
  apply of_ref12_Read_field; unfold S_ref12_Read_field
  refine k_rneed H h0 h1 hl (fun p bad' h H h0 h1 hbad => ?_)
  have hn := row_len H.swap
  rw [List.length_map] at hn
  refine ldI_f H rfl ?_
  by_cases hb : bad' = 0
  · rw [if_neg (by simpa using hb)]
    have err : ∀ e : Int, e ≠ 0 → st ((Addr.mk r 0 none).add 2) (.int .i64 e) h fun h => R 0 h := fun e he =>
      st_f H (by simp [rdB]) rfl (fun h H => k 0 p e h H h0 h1 (fun h => absurd h he))
    refine ldI_f H rfl (ldS_f H rfl ?_)
    by_cases hp : p ≥ ((L.n : Nat) : Int)
    · rw [if_pos (by simpa using hp)]; exact err 5 (by decide)
    · rw [if_neg (by simpa using hp)]
      obtain ⟨w, hw⟩ := get_ex h0 (by omega) rfl (l := ws) (i := p)
      refine ldS_f H rfl (ldI_f H rfl (el_in H.swap h0 hw (fun c hc hcell => ldI_in (hcell 0 _ rfl) ?_)))
      split
      · exact err 5 (by decide)
      · refine ldS_f H rfl (ldI_f H rfl (el_in H.swap h0 hw (fun c hc hcell => ldI_in (hcell 2 _ rfl) ?_)))
        by_cases q1 : w.n < 1
        · rw [if_pos (by simpa using q1)]; exact err 1 (by decide)
        · rw [if_neg (by simpa using q1)]
          by_cases q2 : w.n > most
          · rw [if_pos (by simpa using q2)]; exact err 1 (by decide)
          · rw [if_neg (by simpa using q2)]
            refine ldI_f H rfl (st_f H (by simp [rdB]) rfl (fun h H => ?_))
            rw [wrap64_in (by omega) (by omega)] at H
            exact k w.n (p + 1) bad' h H (by omega) (by omega) (fun h => ⟨hbad h, by omega, by omega⟩)
  · rw [if_pos (by simpa using hb)]
    exact k 0 p bad' h H h0 h1 (fun h => absurd h hb)
theorem k_rlong {n most : Int} {R : Bool → Heap → Prop} (H : HS (bk r (rdB L p bad) :: row 4 L (ws.map cWd) :: l) h)
    (k1 : ∀ bad' h', HS (bk r (rdB L p bad') :: row 4 L (ws.map cWd) :: l) h' → bad' ≠ 0 → R true h') (k0 : bad = 0 → n < most → R false h) : C_ref12_Read_long (some ⟨r, 0, none⟩) n most h R := by
  apply of_ref12_Read_long; unfold S_ref12_Read_long
  refine ldI_f H rfl ?_
  by_cases hb : bad = 0
  · rw [if_pos (by simpa using hb)]
    by_cases hn : n ≥ most
    · rw [if_pos (by simpa using hn)]
      exact st_f H (by simp [rdB]) rfl (fun h H => ldI_f (x := 6) H rfl (k1 6 h H (by decide)))
    · rw [if_neg (by simpa using hn)]
      subst hb
      exact ldI_f (x := 0) H rfl (k0 rfl (by omega))
  · rw [if_neg (by simpa using hb)]
    refine ldI_f H rfl ?_
    have e : (bad != 0) = true := by simpa using hb
    rw [e]
    exact k1 bad h H hb
def ldOk (d : LD) : Prop := (1 ≤ d.slice ∧ d.slice ≤ 16) ∧ (1 ≤ d.crit ∧ d.crit ≤ 32) ∧ (d.sh = true → (1 ≤ d.rd ∧ d.rd ≤ 16) ∧ (1 ≤ d.wr ∧ d.wr ≤ 16)) ∧ (d.sh = false → d.rd = 0 ∧ d.wr = 0)
theorem k_rlock {sh : Bool} {R : Bool → Int → Int → Int → Int → Heap → Prop} (H : HS (bk r (rdB L p bad) :: row 4 L (ws.map cWd) :: l) h) (h0 : 0 ≤ p) (h1 : p ≤ (ws.length : Int)) (hl : ws.length ≤ 8000)
    (k : ∀ (d : LD) p' bad' h', HS (bk r (rdB L p' bad') :: row 4 L (ws.map cWd) :: l) h' → 0 ≤ p' → p' ≤ (ws.length : Int) → (bad' = 0 → bad = 0 ∧ ldOk d) → R d.sh d.slice d.crit d.rd d.wr h') : C_ref12_Read_lock (some ⟨r, 0, none⟩) sh h R := by
  apply of_ref12_Read_lock; unfold S_ref12_Read_lock
  refine alc_in H (fun b4 h H => alc_in H (fun b5 h H => ?_))
  refine stF_in _ 0 0 _ h H (by simp) (by simp [Value.oneCell']) (fun h H => ?_)
  have H : HS (bk r (rdB L p bad) :: row 4 L (ws.map cWd) :: bk b5 #[.bool sh, .int .i64 0, .int .i64 0, .int .i64 0, .int .i64 0] :: bk b4 #[.bool false, .int .i64 0, .int .i64 0, .int .i64 0, .int .i64 0] :: l) h := H.to 4 [2, 3, 0, 1] rfl (by kernel_rfl)
  have fin : ∀ (a b c d p bad' : Int) h, HS (bk r (rdB L p bad') :: row 4 L (ws.map cWd) :: bk b5 #[.bool sh, .int .i64 a, .int .i64 b, .int .i64 c, .int .i64 d] :: bk b4 #[.bool false, .int .i64 0, .int .i64 0, .int .i64 0, .int .i64 0] :: l) h → 0 ≤ p → p ≤ (ws.length : Int) → (bad' = 0 → bad = 0 ∧ ldOk ⟨sh, a, b, c, d⟩) →
      C_ref12_Read_need (some (Addr.mk r 0 none)) 3 ⟨#[59]⟩ h fun h =>
      ldB ((Addr.mk b5 0 none).add 0) h fun x23_0 => ldI .i64 ((Addr.mk b5 0 none).add 1) h fun x23_1 => ldI .i64 ((Addr.mk b5 0 none).add 2) h fun x23_2 => ldI .i64 ((Addr.mk b5 0 none).add 3) h fun x23_3 => ldI .i64 ((Addr.mk b5 0 none).add 4) h fun x23_4 =>
      stF [.bool x23_0, .int .i64 x23_1, .int .i64 x23_2, .int .i64 x23_3, .int .i64 x23_4] h (Addr.mk b4 0 none) 0 fun h =>
      ldB ((Addr.mk b4 0 none).add 0) h fun x9000_0 => ldI .i64 ((Addr.mk b4 0 none).add 1) h fun x9000_1 => ldI .i64 ((Addr.mk b4 0 none).add 2) h fun x9000_2 => ldI .i64 ((Addr.mk b4 0 none).add 3) h fun x9000_3 => ldI .i64 ((Addr.mk b4 0 none).add 4) h fun x9000_4 =>
      R x9000_0 x9000_1 x9000_2 x9000_3 x9000_4 h := by
    intro a b c d p bad' h H h0 h1 hb
    refine k_rneed H h0 h1 hl (fun p bad2 h H h0 h1 hb2 => ?_)
    have H5 := H.pull 2 _ rfl
    refine ldB_f H5 rfl (ldI_f H5 rfl (ldI_f H5 rfl (ldI_f H5 rfl (ldI_f H5 rfl ?_))))
    refine stF_in _ 0 0 _ h (H.pull 3 _ rfl) (by simp) (by simp [Value.oneCell']) (fun h H => ?_)
    have H : HS (bk b4 #[.bool sh, .int .i64 a, .int .i64 b, .int .i64 c, .int .i64 d] :: bk r (rdB L p bad2) :: row 4 L (ws.map cWd) :: bk b5 #[.bool sh, .int .i64 a, .int .i64 b, .int .i64 c, .int .i64 d] :: l) h := H
    refine ldB_f H rfl (ldI_f H rfl (ldI_f H rfl (ldI_f H rfl (ldI_f H rfl ?_))))
    exact k ⟨sh, a, b, c, d⟩ p bad2 h (H.to 4 [1, 2] rfl (by kernel_rfl)) h0 h1 (fun q => hb (hb2 q))
  refine k_rfield H h0 h1 hl (fun a p b1 h H h0 h1 q1 => ?_)
  refine st_f (H.pull 2 _ rfl) (by simp) rfl (fun h H => ?_)
  have H : HS (bk r (rdB L p b1) :: row 4 L (ws.map cWd) :: bk b5 #[.bool sh, .int .i64 a, .int .i64 0, .int .i64 0, .int .i64 0] :: bk b4 #[.bool false, .int .i64 0, .int .i64 0, .int .i64 0, .int .i64 0] :: l) h := H.to 3 [1, 2, 0] rfl (by kernel_rfl)
  refine k_rfield H h0 h1 hl (fun b p b2 h H h0 h1 q2 => ?_)
  refine st_f (H.pull 2 _ rfl) (by simp) rfl (fun h H => ?_)
  have H : HS (bk r (rdB L p b2) :: row 4 L (ws.map cWd) :: bk b5 #[.bool sh, .int .i64 a, .int .i64 b, .int .i64 0, .int .i64 0] :: bk b4 #[.bool false, .int .i64 0, .int .i64 0, .int .i64 0, .int .i64 0] :: l) h := H.to 3 [1, 2, 0] rfl (by kernel_rfl)
  cases sh with
  | true =>
    rw [if_pos rfl]
    refine k_rfield H h0 h1 hl (fun c p b3 h H h0 h1 q3 => ?_)
    refine st_f (H.pull 2 _ rfl) (by simp) rfl (fun h H => ?_)
    have H : HS (bk r (rdB L p b3) :: row 4 L (ws.map cWd) :: bk b5 #[.bool true, .int .i64 a, .int .i64 b, .int .i64 c, .int .i64 0] :: bk b4 #[.bool false, .int .i64 0, .int .i64 0, .int .i64 0, .int .i64 0] :: l) h := H.to 3 [1, 2, 0] rfl (by kernel_rfl)
    refine k_rfield H h0 h1 hl (fun d p b4' h H h0 h1 q4 => ?_)
    refine st_f (H.pull 2 _ rfl) (by simp) rfl (fun h H => ?_)
    refine fin a b c d p b4' h (H.to 3 [1, 2, 0] rfl (by kernel_rfl)) h0 h1 (fun q => ?_)
    have z4 := q4 q
    have z3 := q3 z4.1
    have z2 := q2 z3.1
    have z1 := q1 z2.1
    exact ⟨z1.1, z1.2, z2.2, fun _ => ⟨z3.2, z4.2⟩, fun h => by cases h⟩
  | false =>
    rw [if_neg (by decide)]
    refine fin a b 0 0 p b2 h H h0 h1 (fun q => ?_)
    have z2 := q2 q
    have z1 := q1 z2.1
    exact ⟨z1.1, z1.2, z2.2, (fun h => by cases h), fun _ => ⟨rfl, rfl⟩⟩
theorem k_is10 {kind : Int} {t : ByteArray} {R : Bool → Heap → Prop} (H : HS (row 4 L (ws.map cWd) :: l) h) (h0 : 0 ≤ p) (k : R (isW ws p kind t) h) : C_ref10_is L p kind t h R := by
  apply of_ref10_is; unfold S_ref10_is
  have hn := row_len H
  rw [List.length_map] at hn
  by_cases hp : p < ((L.n : Nat) : Int)
  · rw [if_pos (by simpa using hp)]
    obtain ⟨w, hw⟩ := get_ex h0 (by omega) rfl (l := ws) (i := p)
    rw [isW, hw] at k
    refine el_in H h0 hw (fun c hc hcell => ldI_in (hcell 0 _ rfl) ?_)
    by_cases hk : w.kind = kind
    · rw [if_pos (by simpa using hk)]
      have ek : (w.kind == kind) = true := by simpa using hk
      simp only [ek, Bool.true_and] at k
      exact el_in H h0 hw (fun c hc hcell => ldStr_in (hcell 1 _ rfl) k)
    · rw [if_neg (by simpa using hk)]
      have ek : (w.kind == kind) = false := by simpa using hk
      simp only [ek, Bool.false_and] at k
      exact k
  · rw [if_neg (by simpa using hp)]
    have : ws[p.toNat]? = none := List.getElem?_eq_none (by omega)
    rw [isW, this] at k; exact k
end
end Go.Proofs.YtbkjeahmbnkmeaaGreat
set_option autoImplicit false
set_option linter.unusedVariables false
namespace Go.Proofs.YtbkjeahmbnkmeaaGreat
open Go Ev

section
variable {l : List SP} {h : Heap} {L : Sl} {ws : List WD} {p : Int}
theorem k_Parse10 {R : Bool → Sl → Int → Int → Heap → Prop} (H : HS (row 4 L (ws.map cWd) :: l) h) (h0 : 0 ≤ p) (h1 : p ≤ (ws.length : Int)) (hl : ws.length ≤ 8000)
    (k : ∀ fo s (ops : List OP) p' e h', HS (row 3 s (ops.map cO) :: row 4 L (ws.map cWd) :: l) h' → 0 ≤ p' → p' ≤ (ws.length : Int) → R fo s p' e h') : C_ref10_Parse L p h R := by
  apply of_ref10_Parse; unfold S_ref10_Parse
  have hn := row_len H
  rw [List.length_map] at hn
  refine alc_in H (fun b4 h H => alc_in H (fun b7 h H => ?_))
  refine stF_in _ 0 0 _ h H (by simp) (by simp [Value.oneCell']) (fun h H => ?_)
  have H : HS (row 4 L (ws.map cWd) :: bk b7 #[.bool false, .slice none 0 0] :: bk b4 #[.bool false, .slice none 0 0] :: l) h := H.to 3 [2, 0, 1] rfl (by kernel_rfl)
  -- an error's end
  have err : ∀ (p e : Int) h, HS (row 4 L (ws.map cWd) :: bk b4 #[.bool false, .slice none 0 0] :: l) h → 0 ≤ p → p ≤ (ws.length : Int) →
      stF [.bool false, .slice none 0 0] h (Addr.mk b4 0 none) 0 fun h =>
      ldB ((Addr.mk b4 0 none).add 0) h fun x9000_0 => ldS ((Addr.mk b4 0 none).add 1) h fun x9000_1 => R x9000_0 x9000_1 p e h := by
    intro p e h H h0 h1
    refine stF_in _ 0 0 _ h H.swap (by simp) (by simp [Value.oneCell']) (fun h H => ?_)
    have H : HS (bk b4 #[.bool false, .slice none 0 0] :: row 4 L (ws.map cWd) :: l) h := H
    refine ldB_f H rfl (ldS_f (x := ⟨none, 0, 0⟩) H rfl ?_)
    exact k _ _ [] _ _ h (row_nil H.tail) h0 h1
  rw [if_neg (by simpa using h0), if_neg (by simp; omega)]
  refine k_is10 H h0 ?_
  cases hw0 : isW ws p 1 ⟨#[112, 114, 111, 103]⟩ with
  | false =>
    rw [if_pos (by decide)]
    refine ldB_f H.swap rfl (ldS_f (x := ⟨none, 0, 0⟩) H.swap rfl ?_)
    exact err _ _ h (H.to 3 [0, 2] rfl (by kernel_rfl)) h0 h1
  | true =>
    rw [if_neg (by decide)]
    have hp1 := isW_lt hw0 h0
    refine jn_cut (I := fun j h => ∃ fo, HS (row 4 L (ws.map cWd) :: bk b7 #[.bool fo, .slice none 0 0] :: bk b4 #[.bool false, .slice none 0 0] :: l) h ∧ 0 ≤ j.1 ∧ j.1 ≤ (ws.length : Int)) ?_ ?_
    · clear H hw0
      rintro ⟨p, _⟩ h ⟨fo, H, h0, h1⟩
      simp only at h0 h1 ⊢
      refine k_is10 H h0 ?_
      cases hw0 : isW ws p 3 ⟨#[123]⟩ with
      | false =>
        rw [if_pos (by decide)]
        exact err _ _ h (H.to 3 [0, 2] rfl (by kernel_rfl)) h0 h1
      | true =>
        rw [if_neg (by decide)]
        have hp1 := isW_lt hw0 h0
        rw [wrap64_in (by omega) (by omega)]
        refine Lp.inv (I := fun s' h' => ∃ s ops, HS (row 3 s (ops.map cO) :: row 4 L (ws.map cWd) :: bk b7 #[.bool fo, .slice s.p s.n s.c] :: bk b4 #[.bool false, .slice none 0 0] :: l) h' ∧ 0 ≤ s'.1 ∧ s'.1 ≤ (ws.length : Int) ∧ ops.length ≤ 12) (μ := fun s' _ => ((ws.length : Int) - s'.1).toNat) ?_
          ⟨⟨none, 0, 0⟩, [], row_nil H, by simp only; omega, by simp only; omega, by simp⟩
        clear H hw0 h0 h1 hp1
        rintro ⟨p, _⟩ h ⟨s, ops, H, h0, h1, hol⟩ _
        simp only at h0 h1 ⊢
        refine k_is10 H.swap h0 ?_
        have hon := row_len H
        rw [List.length_map] at hon
        cases hw0 : isW ws p 3 ⟨#[125]⟩ with
        | true =>
          rw [if_neg (by decide)]
          have hp1 := isW_lt hw0 h0
          refine ldS_f (H.pull 2 _ rfl) rfl ?_
          split
          · exact err _ _ h (H.to 4 [1, 3] rfl (by kernel_rfl)) h0 h1
          · have H7 := H.pull 2 _ rfl
            refine ldB_f H7 rfl (ldS_f H7 rfl ?_)
            refine stF_in _ 0 0 _ h (H.pull 3 _ rfl) (by simp) (by simp [Value.oneCell']) (fun h H => ?_)
            have H : HS (bk b4 #[.bool fo, .slice s.p s.n s.c] :: row 3 s (ops.map cO) :: row 4 L (ws.map cWd) :: bk b7 #[.bool fo, .slice s.p s.n s.c] :: l) h := H
            refine ldB_f H rfl (ldS_f H rfl ?_)
            rw [wrap64_in (by omega) (by omega)]
            exact k fo s ops (p + 1) 0 h (H.to 4 [1, 2] rfl (by kernel_rfl)) (by omega) (by omega)
        | false =>
          rw [if_pos (by decide)]
          refine Lp.inv (I := fun s' h' => HS (row 3 s (ops.map cO) :: row 4 L (ws.map cWd) :: bk b7 #[.bool fo, .slice s.p s.n s.c] :: bk b4 #[.bool false, .slice none 0 0] :: l) h' ∧ 1 ≤ s'.2.1 ∧ s'.2.1 ≤ 12 ∧ 0 ≤ s'.1 ∧ s'.1 ≤ 11 ∧ (s'.1 ≠ 0 → p < (ws.length : Int))) (μ := fun s' _ => (12 - s'.2.1).toNat) ?_ ⟨H, by simp, by simp, by simp, by simp, by simp⟩
          clear H
          rintro ⟨kd, q, _⟩ h ⟨H, q0, q1, k0, k1, hkp⟩ _
          simp only at q0 q1 k0 k1 hkp ⊢
          by_cases hq : q ≤ 11
          · rw [if_pos (by simpa using hq)]
            have hw : IntKind.wrap .i64 (q + 1) = q + 1 := wrap64_in (by omega) (by omega)
            rw [hw]
            refine k_Name H (fun h H => k_is10 H.swap h0 ?_)
            cases hwq : isW ws p 1 (nm q) with
            | true => rw [if_pos rfl]; have := isW_lt hwq h0; exact ⟨⟨H, by omega, by omega, by omega, by omega, fun _ => this⟩, by omega⟩
            | false => rw [if_neg (by decide)]; exact ⟨⟨H, by omega, by omega, k0, k1, hkp⟩, by omega⟩
          · rw [if_neg (by simpa using hq)]
            by_cases hk0 : kd = 0
            · rw [if_pos (by simpa using hk0)]
              exact err _ _ h (H.to 4 [1, 3] rfl (by kernel_rfl)) h0 h1
            · rw [if_neg (by simpa using hk0)]
              have hp1 := hkp hk0
              refine ldS_f (H.pull 2 _ rfl) rfl ?_
              by_cases h12 : ((s.n : Nat) : Int) = 12
              · rw [if_pos (by simpa using h12)]
                exact err _ _ h (H.to 4 [1, 3] rfl (by kernel_rfl)) h0 h1
              · rw [if_neg (by simpa using h12)]
                refine alc_in H (fun b10 h H => ?_)
                refine stF_in _ 0 0 _ h H (by simp) (by simp [Value.oneCell']) (fun h H => ?_)
                have H : HS (bk b10 #[.int .i64 kd, .int .i64 0, .int .i64 0] :: row 3 s (ops.map cO) :: row 4 L (ws.map cWd) :: bk b7 #[.bool fo, .slice s.p s.n s.c] :: bk b4 #[.bool false, .slice none 0 0] :: l) h := H
                refine k_Limits ?_
                rw [wrap64_in (n := p + 1) (by omega) (by omega)]
                refine Lp.inv (I := fun s' h' => ∃ a b, HS (bk b10 #[.int .i64 kd, .int .i64 a, .int .i64 b] :: row 3 s (ops.map cO) :: row 4 L (ws.map cWd) :: bk b7 #[.bool fo, .slice s.p s.n s.c] :: bk b4 #[.bool false, .slice none 0 0] :: l) h' ∧ p < s'.1 ∧ s'.1 ≤ (ws.length : Int) ∧ 0 ≤ s'.2.2.2.1 ∧ s'.2.2.2.1 ≤ 2) (μ := fun s' _ => (2 - s'.2.2.2.1).toNat) ?_
                  ⟨0, 0, H, by simp only; omega, by simp only; omega, by simp, by simp⟩
                clear H
                rintro ⟨p2, low, high, kk, _⟩ h ⟨a, b, H, p20, p21, kk0, kk1⟩ _
                simp only at p20 p21 kk0 kk1 ⊢
                by_cases hk2 : kk < 2
                · rw [if_pos (by simpa using hk2)]
                  have hw : IntKind.wrap .i64 (kk + 1) = kk + 1 := wrap64_in (by omega) (by omega)
                  rw [hw]
                  have next : (∃ a b, HS (bk b10 #[.int .i64 kd, .int .i64 a, .int .i64 b] :: row 3 s (ops.map cO) :: row 4 L (ws.map cWd) :: bk b7 #[.bool fo, .slice s.p s.n s.c] :: bk b4 #[.bool false, .slice none 0 0] :: l) h ∧ p < p2 ∧ p2 ≤ (ws.length : Int) ∧ 0 ≤ kk + 1 ∧ kk + 1 ≤ 2) ∧ (2 - (kk + 1)).toNat < (2 - kk).toNat := ⟨⟨a, b, H, p20, p21, by omega, by omega⟩, by omega⟩
                  refine jn_cut (I := fun _ h' => h' = h) ?_ ?_
                  · rintro _ h' rfl
                    by_cases hq2 : p2 ≥ ((L.n : Nat) : Int)
                    · rw [if_pos (by simpa using hq2)]
                      exact err _ _ h' (H.to 5 [2, 4] rfl (by kernel_rfl)) (by omega) p21
                    · rw [if_neg (by simpa using hq2)]
                      obtain ⟨w, hw'⟩ := get_ex (i := p2) (by omega) (by omega) rfl (l := ws)
                      refine el_in (H.pull 2 _ rfl) (by omega) hw' (fun c hc hcell => ldI_in (hcell 0 _ rfl) ?_)
                      split
                      · exact err _ _ h' (H.to 5 [2, 4] rfl (by kernel_rfl)) (by omega) p21
                      · refine el_in (H.pull 2 _ rfl) (by omega) hw' (fun c hc hcell => ldI_in (hcell 2 _ rfl) ?_)
                        refine jn_cut (I := fun _ h => ∃ a b, HS (bk b10 #[.int .i64 kd, .int .i64 a, .int .i64 b] :: row 3 s (ops.map cO) :: row 4 L (ws.map cWd) :: bk b7 #[.bool fo, .slice s.p s.n s.c] :: bk b4 #[.bool false, .slice none 0 0] :: l) h) ?_ ?_
                        · clear hcell H
                          rintro ⟨lo, hi, _⟩ h ⟨a, b, H⟩
                          simp only
                          split
                          · exact err _ _ h (H.to 5 [2, 4] rfl (by kernel_rfl)) (by omega) p21
                          · split
                            · exact err _ _ h (H.to 5 [2, 4] rfl (by kernel_rfl)) (by omega) p21
                            · rw [wrap64_in (n := p2 + 1) (by omega) (by omega)]
                              exact ⟨⟨a, b, H, by omega, by omega, by omega, by omega⟩, by omega⟩
                        · intro K' hK
                          split
                          · exact st_f H (by simp) rfl (fun h H => hK _ _ ⟨a, w.n, H⟩)
                          · exact st_f H (by simp) rfl (fun h H => hK _ _ ⟨w.n, b, H⟩)
                  · intro K' hK
                    split
                    · split
                      · exact next
                      · split
                        · split
                          · exact next
                          · exact hK _ _ rfl
                        · exact hK _ _ rfl
                    · split
                      · split
                        · exact next
                        · exact hK _ _ rfl
                      · exact hK _ _ rfl
                · rw [if_neg (by simpa using hk2)]
                  refine k_is10 (H.pull 2 _ rfl) (by omega) ?_
                  cases hw3 : isW ws p2 3 ⟨#[59]⟩ with
                  | false =>
                    rw [if_pos (by decide)]
                    exact err _ _ h (H.to 5 [2, 4] rfl (by kernel_rfl)) (by omega) p21
                  | true =>
                    rw [if_neg (by decide)]
                    have hp2 := isW_lt hw3 (by omega)
                    refine ldS_f (H.pull 3 _ rfl) rfl (ldI_f H rfl (ldI_f H rfl (ldI_f H rfl (alc_in H (fun b146 h H => ?_)))))
                    have H146 : HS (bk b146 #[.int .i64 kd, .int .i64 a, .int .i64 b] :: row 3 s (ops.map cO) :: row 4 L (ws.map cWd) :: bk b7 #[.bool fo, .slice s.p s.n s.c] :: bk b4 #[.bool false, .slice none 0 0] :: l) h := H.to 6 [0, 2, 3, 4, 5] rfl (by kernel_rfl)
                    refine app_lit (ys := [cO ⟨kd, a, b⟩]) H146 rfl rfl (by simp [cO]) (by simp [cO, Value.oneCell']) rfl (by simp; omega) (by simp; omega) (fun s2 h H => ?_)
                    refine st_f (H.pull 2 _ rfl) (by simp) rfl (fun h H => ?_)
                    rw [wrap64_in (n := p2 + 1) (by omega) (by omega)]
                    refine ⟨⟨s2, ops ++ [⟨kd, a, b⟩], ?_, by omega, by omega, by simp; omega⟩, by omega⟩
                    rw [List.map_append]
                    exact H.to 4 [1, 2, 0, 3] rfl (by kernel_rfl)
    · intro K' hK
      rw [wrap64_in (n := p + 1) (by omega) (by omega)]
      refine k_is10 H (by omega) ?_
      cases hw1 : isW ws (p + 1) 1 ⟨#[102, 111, 114, 101, 118, 101, 114]⟩ with
      | true =>
        rw [if_pos rfl]
        have := isW_lt hw1 (by omega)
        refine st_f (H.pull 1 _ rfl) (by simp) rfl (fun h H => ?_)
        refine hK _ _ ⟨true, H.to 3 [1, 0, 2] rfl (by kernel_rfl), ?_, ?_⟩
        · simp only; rw [wrap64_in (by omega) (by omega)]; omega
        · simp only; rw [wrap64_in (by omega) (by omega)]; omega
      | false =>
        rw [if_neg (by decide)]
        exact hK _ _ ⟨false, H, by simp only; omega, by simp only; omega⟩
end
end Go.Proofs.YtbkjeahmbnkmeaaGreat
set_option autoImplicit false
set_option linter.unusedVariables false
namespace Go.Proofs.YtbkjeahmbnkmeaaGreat
open Go Ev

structure AC where
  (kind a b c d : Int)
def cAc (x : AC) : List Value := [.int .i64 x.kind, .int .i64 x.a, .int .i64 x.b, .int .i64 x.c, .int .i64 x.d]
section
variable {l : List SP} {h : Heap} {L : Sl} {ws : List WD} {p : Int}
theorem k_Name13 {n : Int} {R : ByteArray → Heap → Prop} (H : HS l h) (k : ∀ x h', HS l h' → R x h') : C_ref13_Name n h R := by
  apply of_ref13_Name; unfold S_ref13_Name
  refine alc_in H (fun b4 h H => ?_)
  by_cases h0 : n < 0
  · rw [if_pos (by simpa using h0)]; exact k _ h H.tail
  · rw [if_neg (by simpa using h0)]
    by_cases h1 : n > 8
    · rw [if_pos (by simpa using h1)]; exact k _ h H.tail
    · rw [if_neg (by simpa using h1)]
      refine ⟨by omega, by omega, ?_⟩
      have hc : n = 0 ∨ n = 1 ∨ n = 2 ∨ n = 3 ∨ n = 4 ∨ n = 5 ∨ n = 6 ∨ n = 7 ∨ n = 8 := by omega
      rcases hc with rfl | rfl | rfl | rfl | rfl | rfl | rfl | rfl | rfl <;> exact ldStr_f H rfl (k _ h H.tail)
theorem k_Many13 {n : Int} {R : Int → Heap → Prop} (H : HS l h) (h0 : 0 ≤ n) (h1 : n ≤ 8) (k : ∀ x h', HS l h' → 0 ≤ x → x ≤ 4 → R x h') : C_ref13_Many n h R := by
  apply of_ref13_Many; unfold S_ref13_Many
  refine alc_in H (fun b4 h H => ⟨h0, by omega, ?_⟩)
  have hc : n = 0 ∨ n = 1 ∨ n = 2 ∨ n = 3 ∨ n = 4 ∨ n = 5 ∨ n = 6 ∨ n = 7 ∨ n = 8 := by omega
  rcases hc with rfl | rfl | rfl | rfl | rfl | rfl | rfl | rfl | rfl <;> exact ldI_f H rfl (k _ h H.tail (by decide) (by decide))
theorem k_put13 {a b c d e i n : Int} {R : Int → Int → Int → Int → Int → Heap → Prop} (H : HS l h) (k : ∀ a b c d e h', HS l h' → R a b c d e h') : C_ref13_put a b c d e i n h R := by
  apply of_ref13_put; unfold S_ref13_put
  refine alc_in H (fun b3 h H => alc_in H (fun b6 h H => ?_))
  have fin : ∀ (a b c d e : Int) h, HS (bk b3 #[.int .i64 a, .int .i64 b, .int .i64 c, .int .i64 d, .int .i64 e] :: bk b6 #[.int .i64 0, .int .i64 0, .int .i64 0, .int .i64 0, .int .i64 0] :: l) h →
      ldI .i64 ((Addr.mk b3 0 none).add 0) h fun x21_0 => ldI .i64 ((Addr.mk b3 0 none).add 1) h fun x21_1 => ldI .i64 ((Addr.mk b3 0 none).add 2) h fun x21_2 => ldI .i64 ((Addr.mk b3 0 none).add 3) h fun x21_3 => ldI .i64 ((Addr.mk b3 0 none).add 4) h fun x21_4 =>
      stF [.int .i64 x21_0, .int .i64 x21_1, .int .i64 x21_2, .int .i64 x21_3, .int .i64 x21_4] h (Addr.mk b6 0 none) 0 fun h =>
      ldI .i64 ((Addr.mk b6 0 none).add 0) h fun x9000_0 => ldI .i64 ((Addr.mk b6 0 none).add 1) h fun x9000_1 => ldI .i64 ((Addr.mk b6 0 none).add 2) h fun x9000_2 => ldI .i64 ((Addr.mk b6 0 none).add 3) h fun x9000_3 => ldI .i64 ((Addr.mk b6 0 none).add 4) h fun x9000_4 =>
      R x9000_0 x9000_1 x9000_2 x9000_3 x9000_4 h := by
    intro a b c d e h H
    refine ldI_f H rfl (ldI_f H rfl (ldI_f H rfl (ldI_f H rfl (ldI_f H rfl ?_))))
    refine stF_in _ 0 0 _ h H.swap (by simp) (by simp [Value.oneCell']) (fun h H => ?_)
    have H : HS (bk b6 #[.int .i64 a, .int .i64 b, .int .i64 c, .int .i64 d, .int .i64 e] :: bk b3 #[.int .i64 a, .int .i64 b, .int .i64 c, .int .i64 d, .int .i64 e] :: l) h := H
    exact ldI_f H rfl (ldI_f H rfl (ldI_f H rfl (ldI_f H rfl (ldI_f H rfl (k _ _ _ _ _ h H.tail.tail)))))
  split
  · exact st_f H.swap (by simp) rfl (fun h H => fin a n c d e h H)
  · split
    · exact st_f H.swap (by simp) rfl (fun h H => fin a b n d e h H)
    · split
      · exact st_f H.swap (by simp) rfl (fun h H => fin a b c n e h H)
      · exact st_f H.swap (by simp) rfl (fun h H => fin a b c d n h H)
theorem k_place14 {s : ByteArray} {R : Int → Heap → Prop} (H : HS (row 4 L (ws.map cWd) :: l) h) (h0 : 0 ≤ p) (k : ∀ x, R x h) : C_ref14_place s L p h R := by
  apply of_ref14_place; unfold S_ref14_place
  have hn := row_len H
  rw [List.length_map] at hn
  by_cases hp : p < ((L.n : Nat) : Int)
  · rw [if_pos (by simpa using hp)]
    obtain ⟨w, hw⟩ := get_ex h0 (by omega) rfl (l := ws) (i := p)
    exact el_in H h0 hw (fun c hc hcell => ldI_in (hcell 3 _ rfl) (k _))
  · rw [if_neg (by simpa using hp)]; exact k _
theorem k_Parse13 {R : Sl → Int → Int → Heap → Prop} (H : HS (row 4 L (ws.map cWd) :: l) h) (h0 : 0 ≤ p) (h1 : p ≤ (ws.length : Int)) (hl : ws.length ≤ 8000)
    (k : ∀ s (acts : List AC) p' e h', HS (row 5 s (acts.map cAc) :: row 4 L (ws.map cWd) :: l) h' → 0 ≤ p' → R s p' e h') : C_ref13_Parse L p h R := by
  apply of_ref13_Parse; unfold S_ref13_Parse
  have hn := row_len H
  rw [List.length_map] at hn
  rw [if_neg (by simpa using h0), if_neg (by simp; omega)]
  have err : ∀ p e h, HS (row 4 L (ws.map cWd) :: l) h → 0 ≤ p → R (Sl.mk none 0 0) p e h := fun p e h H h0 => k _ [] p e h (row_nil H) h0
  refine Lp.inv (I := fun s' h' => ∃ acts : List AC, HS (row 5 s'.2.1 (acts.map cAc) :: row 4 L (ws.map cWd) :: l) h' ∧ 0 ≤ s'.1 ∧ s'.1 ≤ (ws.length : Int) ∧ acts.length ≤ 4000) (μ := fun s' _ => ((ws.length : Int) - s'.1).toNat) ?_ ⟨[], row_nil H, h0, h1, by simp⟩
  clear H h0 h1
  rintro ⟨p, s, _⟩ h ⟨acts, H, h0, h1, hal⟩ _
  simp only at h0 h1 ⊢
  have han : s.n = acts.length := by have := row_len H; rwa [List.length_map] at this
  by_cases hp : p < ((L.n : Nat) : Int)
  · rw [if_pos (by simpa using hp)]
    obtain ⟨w, hw⟩ := get_ex h0 (by omega) rfl (l := ws) (i := p)
    refine Lp.inv (I := fun s' h' => HS (row 5 s (acts.map cAc) :: row 4 L (ws.map cWd) :: l) h' ∧ 0 ≤ s'.1 ∧ s'.1 ≤ 8 ∧ 1 ≤ s'.2.1 ∧ s'.2.1 ≤ 9) (μ := fun s' _ => (9 - s'.2.1).toNat) ?_ ⟨H, by simp, by simp, by simp, by simp⟩
    clear H
    rintro ⟨kd, q, _⟩ h ⟨H, k0, k1, q0, q1⟩ _
    simp only at k0 k1 q0 q1 ⊢
    by_cases hq : q ≤ 8
    · rw [if_pos (by simpa using hq)]
      have hwq : IntKind.wrap .i64 (q + 1) = q + 1 := wrap64_in (by omega) (by omega)
      rw [hwq]
      refine el_in H.swap h0 hw (fun c hc hcell => ldI_in (hcell 0 _ rfl) ?_)
      split
      · refine el_in H.swap h0 hw (fun c2 hc2 hcell2 => ldStr_in (hcell2 1 _ rfl) ?_)
        refine k_Name13 H (fun x h H => ⟨el_cell H.swap hc2 hw rfl, el_cell H.swap hc hw rfl, ?_⟩)
        split
        · exact ⟨⟨H, by omega, by omega, by omega, by omega⟩, by omega⟩
        · exact ⟨⟨H, by omega, by omega, by omega, by omega⟩, by omega⟩
      · exact ⟨⟨H, by omega, by omega, by omega, by omega⟩, by omega⟩
    · rw [if_neg (by simpa using hq)]
      split
      · exact err _ _ h H.tail h0
      · by_cases h4 : ((s.n : Nat) : Int) = 4000
        · rw [if_pos (by simpa using h4)]; exact err _ _ h H.tail h0
        · rw [if_neg (by simpa using h4)]
          refine alc_in H (fun b10 h H => ?_)
          refine stF_in _ 0 0 _ h H (by simp) (by simp [Value.oneCell']) (fun h H => ?_)
          have H : HS (bk b10 #[.int .i64 kd, .int .i64 0, .int .i64 0, .int .i64 0, .int .i64 0] :: row 5 s (acts.map cAc) :: row 4 L (ws.map cWd) :: l) h := H
          rw [wrap64_in (n := p + 1) (by omega) (by omega)]
          refine Lp.inv (I := fun s' h' => ∃ z a b c d, HS (bk b10 #[.int .i64 z, .int .i64 a, .int .i64 b, .int .i64 c, .int .i64 d] :: row 5 s (acts.map cAc) :: row 4 L (ws.map cWd) :: l) h' ∧ p < s'.1 ∧ s'.1 ≤ (ws.length : Int) ∧ 0 ≤ s'.2.1 ∧ s'.2.1 ≤ 4) (μ := fun s' _ => (4 - s'.2.1).toNat) ?_
            ⟨kd, 0, 0, 0, 0, H, by simp only; omega, by simp only; omega, by simp, by simp⟩
          clear H
          rintro ⟨p2, i, _⟩ h ⟨z, a, b, c, d, H, p20, p21, i0, i1⟩ _
          simp only at p20 p21 i0 i1 ⊢
          refine k_Many13 H k0 k1 (fun x h H x0 x1 => ?_)
          by_cases hi : i < x
          · rw [if_pos (by simpa using hi)]
            by_cases hq2 : p2 ≥ ((L.n : Nat) : Int)
            · rw [if_pos (by simpa using hq2)]; exact err _ _ h H.tail.tail (by omega)
            · rw [if_neg (by simpa using hq2)]
              obtain ⟨w2, hw2⟩ := get_ex (i := p2) (by omega) (by omega) rfl (l := ws)
              refine el_in (H.pull 2 _ rfl) (by omega) hw2 (fun c hc hcell => ldI_in (hcell 0 _ rfl) ?_)
              split
              · exact err _ _ h H.tail.tail (by omega)
              · refine ldI_f H rfl (ldI_f H rfl (ldI_f H rfl (ldI_f H rfl (ldI_f H rfl (el_in (H.pull 2 _ rfl) (by omega) hw2 (fun c hc hcell => ldI_in (hcell 2 _ rfl) ?_))))))
                refine k_put13 H (fun z a b c d h H => ?_)
                refine stF_in _ 0 0 _ h H (by simp) (by simp [Value.oneCell']) (fun h H => ?_)
                rw [wrap64_in (n := p2 + 1) (by omega) (by omega), wrap64_in (n := i + 1) (by omega) (by omega)]
                exact ⟨⟨z, a, b, c, d, H, by omega, by omega, by omega, by omega⟩, by omega⟩
          · rw [if_neg (by simpa using hi)]
            by_cases hq2 : p2 ≥ ((L.n : Nat) : Int)
            · rw [if_pos (by simpa using hq2)]; exact err _ _ h H.tail.tail (by omega)
            · rw [if_neg (by simpa using hq2)]
              obtain ⟨w2, hw2⟩ := get_ex (i := p2) (by omega) (by omega) rfl (l := ws)
              refine el_in (H.pull 2 _ rfl) (by omega) hw2 (fun cc hc hcell => ldI_in (hcell 0 _ rfl) ?_)
              split
              · exact err _ _ h H.tail.tail (by omega)
              · refine el_in (H.pull 2 _ rfl) (by omega) hw2 (fun cc hc hcell => ldStr_in (hcell 1 _ rfl) ?_)
                split
                · exact err _ _ h H.tail.tail (by omega)
                · refine ldI_f H rfl (ldI_f H rfl (ldI_f H rfl (ldI_f H rfl (ldI_f H rfl (alc_in H (fun b110 h H => ?_))))))
                  have H110 : HS (bk b110 #[.int .i64 z, .int .i64 a, .int .i64 b, .int .i64 c, .int .i64 d] :: row 5 s (acts.map cAc) :: row 4 L (ws.map cWd) :: l) h := H.to 4 [0, 2, 3] rfl (by kernel_rfl)
                  refine app_lit (ys := [cAc ⟨z, a, b, c, d⟩]) H110 rfl rfl (by simp [cAc]) (by simp [cAc, Value.oneCell']) rfl (by simp; omega) (by simp; omega) (fun s2 h H => ?_)
                  rw [wrap64_in (n := p2 + 1) (by omega) (by omega)]
                  refine ⟨⟨acts ++ [⟨z, a, b, c, d⟩], by simpa using H, by omega, by omega, ?_⟩, ?_⟩
                  · simp; omega
                  · omega
  · rw [if_neg (by simpa using hp)]
    exact k _ acts _ _ h H h0
end
end Go.Proofs.YtbkjeahmbnkmeaaGreat
set_option autoImplicit false
set_option linter.unusedVariables false
namespace Go.Proofs.YtbkjeahmbnkmeaaGreat
open Go Ev

def s5 (nc gr : Int) (sG sLo sP : Sl) : Array Value := #[.int .i64 nc, .int .i64 gr, .slice sG.p sG.n sG.c, .slice sLo.p sLo.n sLo.c, .slice sP.p sP.n sP.c]
def z5 : Array Value := #[.int .i64 0, .int .i64 0, .slice none 0 0, .slice none 0 0, .slice none 0 0]
abbrev pst (r b8 b4 : Nat) (L : Sl) (ws : List WD) (p bad nc gr : Int) (sG sLo sP : Sl) (gs : List Int) (lds : List LD) (ps : List PR) (l : List SP) : List SP :=
  bk r (rdB L p bad) :: row 4 L (ws.map cWd) :: bk b8 (s5 nc gr sG sLo sP) :: row 1 sG (gs.map cI) :: row 5 sLo (lds.map cLd) :: row 2 sP (ps.map cPr) :: big PPr ps :: bk b4 z5 :: l
structure OkH (nc gr : Int) (gs : List Int) (lds : List LD) : Prop where
  nc : 1 ≤ nc ∧ nc ≤ 4
  gr : 1 ≤ gr ∧ gr ≤ 8
  gs : ∀ x ∈ gs, 1 ≤ x ∧ x ≤ 16
  ld : ∀ d ∈ lds, ldOk d
section
variable {l : List SP} {h : Heap} {L : Sl} {ws : List WD}
theorem row_cell1 {s : Sl} {xs : List Int} {c n : Nat} {a : Int} (H : HS (row 1 s (xs.map cI) :: l) h) (hp : s.p = some ⟨c, 0, none⟩) (hi : xs[n]? = some a) : cell h ((Addr.mk c 0 none).add (n * 1)) = some (.int .i64 a) := by
  rw [add0]; exact row_cell H hp (x := cI a) (j := 0) (by simp [hi]) rfl
theorem k_Parse12 {R : Int → Int → Sl → Sl → Sl → Int → Int → Heap → Prop} (H : HS (row 4 L (ws.map cWd) :: l) h) (hl : ws.length ≤ 8000)
    (k0 : ∀ nc gr sG sLo sP p e h', e ≠ 0 → HS (row 4 L (ws.map cWd) :: l) h' → 0 ≤ p → R nc gr sG sLo sP p e h')
    (k1 : ∀ nc gr sG sLo sP gs lds ps p h', HS (row 1 sG (gs.map cI) :: row 5 sLo (lds.map cLd) :: progs sP ps :: row 4 L (ws.map cWd) :: l) h' → MayG nc gr gs lds ps → 0 ≤ p → p ≤ (ws.length : Int) → R nc gr sG sLo sP p 0 h') : C_ref12_Parse L 0 h R := by
  apply of_ref12_Parse; unfold S_ref12_Parse
  have hLn := row_len H
  rw [List.length_map] at hLn
  refine alc_in H (fun b4 h H => ?_)
  rw [if_neg (by decide), if_neg (by simp)]
  refine alc_in H (fun r h H => alc_in H (fun b8 h H => ?_))
  refine stF_in _ 0 0 _ h H (by simp) (by simp [Value.oneCell']) (fun h H => ?_)
  have H := row_nil (sz := 1) (row_nil (sz := 5) (row_nil (sz := 2) (big_nil (Q := PPr) H)))
  have H : HS (pst r b8 b4 L ws 0 0 0 0 ⟨none, 0, 0⟩ ⟨none, 0, 0⟩ ⟨none, 0, 0⟩ [] [] [] l) h := H.to 8 [5, 7, 4, 0, 1, 2, 3, 6] rfl (by kernel_rfl)
  have pq : (0 : Int) ≤ 0 ∧ (0 : Int) ≤ (ws.length : Int) := by omega
  obtain ⟨h0, h1⟩ := pq
  -- an error's end
  have err : ∀ (p e : Int) (l2 : List SP) h, e ≠ 0 → HS (bk b4 z5 :: row 4 L (ws.map cWd) :: l) h → 0 ≤ p →
      ∀ h, HS (bk b4 z5 :: row 4 L (ws.map cWd) :: l) h → ldI .i64 ((Addr.mk b4 0 none).add 0) h fun x9000_0 => ldI .i64 ((Addr.mk b4 0 none).add 1) h fun x9000_1 => ldS ((Addr.mk b4 0 none).add 2) h fun x9000_2 => ldS ((Addr.mk b4 0 none).add 3) h fun x9000_3 => ldS ((Addr.mk b4 0 none).add 4) h fun x9000_4 => R x9000_0 x9000_1 x9000_2 x9000_3 x9000_4 p e h := by
    intro p e l2 h he _ h0 h H
    exact ldI_f H rfl (ldI_f H rfl (ldS_f (x := ⟨none, 0, 0⟩) H rfl (ldS_f (x := ⟨none, 0, 0⟩) H rfl (ldS_f (x := ⟨none, 0, 0⟩) H rfl (k0 _ _ _ _ _ _ _ h he H.tail h0)))))
  refine k_rfield H h0 h1 hl (fun nc p b1 h H h0 h1 q1 => ?_)
  refine st_f (H.pull 2 _ rfl) (by simp [s5]) rfl (fun h H => ?_)
  have H : HS (pst r b8 b4 L ws p b1 nc 0 ⟨none, 0, 0⟩ ⟨none, 0, 0⟩ ⟨none, 0, 0⟩ [] [] [] l) h := H.to 3 [1, 2, 0] rfl (by kernel_rfl)
  refine k_rneed H h0 h1 hl (fun p b2 h H h0 h1 q2 => ?_)
  refine k_rfield H h0 h1 hl (fun gr p b3 h H h0 h1 q3 => ?_)
  refine st_f (H.pull 2 _ rfl) (by simp [s5]) rfl (fun h H => ?_)
  have H : HS (pst r b8 b4 L ws p b3 nc gr ⟨none, 0, 0⟩ ⟨none, 0, 0⟩ ⟨none, 0, 0⟩ [] [] [] l) h := H.to 3 [1, 2, 0] rfl (by kernel_rfl)
  refine k_rneed H h0 h1 hl (fun p bad h H h0 h1 q4 => ?_)
  have hb : bad = 0 → OkH nc gr [] [] := fun q => by
    have z3 := q3 (q4 q)
    have z1 := q1 (q2 z3.1)
    exact ⟨z1.2, z3.2, by simp, by simp⟩
  clear q1 q2 q3 q4
  refine jn_cut (I := fun _ h => ∃ p bad sG, ∃ gs : List Int, HS (pst r b8 b4 L ws p bad nc gr sG ⟨none, 0, 0⟩ ⟨none, 0, 0⟩ gs [] [] l) h ∧ 0 ≤ p ∧ p ≤ (ws.length : Int) ∧ gs.length ≤ 4 ∧ (bad = 0 → OkH nc gr gs [] ∧ 1 ≤ gs.length)) ?_ ?_
  · clear H h0 h1 hb
    rintro _ h ⟨p, bad, sG, gs, H, h0, h1, hg, hb⟩
    refine jn_cut (I := fun _ h => ∃ p bad sLo, ∃ lds : List LD, HS (pst r b8 b4 L ws p bad nc gr sG sLo ⟨none, 0, 0⟩ gs lds [] l) h ∧ 0 ≤ p ∧ p ≤ (ws.length : Int) ∧ lds.length ≤ 8 ∧ (bad = 0 → OkH nc gr gs lds ∧ 1 ≤ gs.length)) ?_ ?_
    · clear H h0 h1 hb
      rintro _ h ⟨p, bad, sLo, lds, H, h0, h1, hld, hb⟩
      refine jn_cut (I := fun j h => ∃ p bad sP ps, ∃ pl : List Int, HS (row 1 j.1 (pl.map cI) :: pst r b8 b4 L ws p bad nc gr sG sLo sP gs lds ps l) h ∧ 0 ≤ p ∧ p ≤ (ws.length : Int) ∧ pl.length = ps.length ∧ (∀ x ∈ pl, (0 : Int) ≤ x) ∧ ps.length ≤ 8 ∧ (bad = 0 → OkH nc gr gs lds ∧ 1 ≤ gs.length ∧ 1 ≤ ps.length)) ?_ ?_
      · clear H h0 h1 hb
        rintro ⟨sl, _⟩ h ⟨p, bad, sP, ps, pl, H, h0, h1, hpl, hp0, hps, hb⟩
        simp only
        refine ldI_f (H.pull 1 _ rfl) rfl ?_
        by_cases hbad : bad = 0
        · rw [if_neg (by simpa using hbad)]
          obtain ⟨ok, hg1, hps1⟩ := hb hbad
          refine Lp.inv (I := fun s' h' => HS (row 1 sl (pl.map cI) :: pst r b8 b4 L ws p bad nc gr sG sLo sP gs lds ps l) h' ∧ 0 ≤ s'.1 ∧ s'.1 ≤ (ps.length : Int) ∧ ∀ q ∈ ps.take s'.1.toNat, CK q.fo q.ops lds (ps.length : Int)) (μ := fun s' _ => ((ps.length : Int) - s'.1).toNat) ?_ ⟨H, by simp, by simp, by simp⟩
          clear H
          rintro ⟨i, _⟩ h ⟨H, i0, i1, hck⟩ _
          simp only at i0 i1 hck ⊢
          have hn3 := row_len (H.pull 6 _ rfl)
          rw [List.length_map] at hn3
          refine ldS_f (H.pull 3 _ rfl) rfl ?_
          by_cases hi : i < ((sP.n : Nat) : Int)
          · rw [if_pos (by simpa using hi)]
            obtain ⟨q, hq⟩ := get_ex i0 (by omega) rfl (l := ps) (i := i)
            refine ldS_f (H.pull 3 _ rfl) rfl (el_in (H.pull 6 _ rfl) i0 hq (fun c hc hcell => ldB_in (hcell 0 _ rfl) (ldS_in (hcell 1 _ rfl) (ldS_f (H.pull 3 _ rfl) rfl (ldS_f (H.pull 3 _ rfl) rfl ?_)))))
            have HB := big_at (Q := PPr) (H.pull 7 _ rfl) hq
            have HC : HS (row 3 q.s (q.ops.map cO) :: row 5 sLo (lds.map cLd) :: hole PPr ps i.toNat :: row 1 sl (pl.map cI) :: bk r (rdB L p bad) :: row 4 L (ws.map cWd) :: bk b8 (s5 nc gr sG sLo sP) :: row 1 sG (gs.map cI) :: row 2 sP (ps.map cPr) :: bk b4 z5 :: l) h := HB.to 10 [0, 7, 1, 2, 3, 4, 5, 6, 8, 9] rfl (by kernel_rfl)
            refine k_Check HC (fun x e h H he hx => ?_)
            have HD : HS (row 3 q.s (q.ops.map cO) :: hole PPr ps i.toNat :: row 5 sLo (lds.map cLd) :: row 1 sl (pl.map cI) :: bk r (rdB L p bad) :: row 4 L (ws.map cWd) :: bk b8 (s5 nc gr sG sLo sP) :: row 1 sG (gs.map cI) :: row 2 sP (ps.map cPr) :: bk b4 z5 :: l) h := H.to 3 [0, 2, 1] rfl (by kernel_rfl)
            have HE := big_same (Q := PPr) hq HD
            have H : HS (row 1 sl (pl.map cI) :: pst r b8 b4 L ws p bad nc gr sG sLo sP gs lds ps l) h := HE.to 9 [2, 3, 4, 5, 6, 1, 7, 0, 8] rfl (by kernel_rfl)
            refine ⟨cf (H.pull 3 _ rfl) rfl, cf (H.pull 3 _ rfl) rfl, ?_⟩
            by_cases he0 : e = 0
            · rw [if_neg (by simpa using he0), wrap64_in (by omega) (by omega)]
              refine ⟨⟨H, by omega, by omega, ?_⟩, by omega⟩
              have e1 : (i + 1).toNat = i.toNat + 1 := by omega
              rw [e1, List.take_add_one, hq]
              intro y hy
              rcases List.mem_append.1 hy with hy | hy
              · exact hck y hy
              · simp at hy; subst hy
                have := he.1 he0
                rwa [hn3] at this
            · rw [if_pos (by simpa using he0)]
              obtain ⟨a, ha⟩ := get_ex i0 (by omega) rfl (l := pl) (i := i)
              refine el1_in H i0 ha rfl (fun c hc hcell => ldI_in hcell ?_)
              refine stF_in _ 0 0 _ h (H.pull 8 _ rfl) (by simp [z5]) (by simp [Value.oneCell']) (fun h H => ?_)
              have H : HS (bk b4 z5 :: row 1 sl (pl.map cI) :: bk r (rdB L p bad) :: row 4 L (ws.map cWd) :: bk b8 (s5 nc gr sG sLo sP) :: row 1 sG (gs.map cI) :: row 5 sLo (lds.map cLd) :: row 2 sP (ps.map cPr) :: big PPr ps :: l) h := H
              refine ⟨row_cell1 H.swap hc ha, ?_⟩
              have HZ : HS (bk b4 z5 :: row 4 L (ws.map cWd) :: l) h := H.to 9 [0, 3] rfl (by kernel_rfl)
              exact err a e [] h he0 HZ (hp0 a (List.mem_of_getElem? ha)) h HZ
          · rw [if_neg (by simpa using hi)]
            have H8 := H.pull 3 _ rfl
            have HR := H.pull 1 _ rfl
            refine ldI_f H8 rfl (ldI_f H8 rfl (ldS_f H8 rfl (ldS_f H8 rfl (ldS_f H8 rfl (ldI_f HR rfl ?_)))))
            refine stF_in _ 0 0 _ h (H.pull 8 _ rfl) (by simp [z5]) (by simp [Value.oneCell']) (fun h H => ?_)
            have H : HS (bk b4 (s5 nc gr sG sLo sP) :: row 1 sl (pl.map cI) :: bk r (rdB L p bad) :: row 4 L (ws.map cWd) :: bk b8 (s5 nc gr sG sLo sP) :: row 1 sG (gs.map cI) :: row 5 sLo (lds.map cLd) :: row 2 sP (ps.map cPr) :: big PPr ps :: l) h := H
            refine ⟨cf (H.pull 2 _ rfl) rfl, ?_⟩
            refine ldI_f H rfl (ldI_f H rfl (ldS_f H rfl (ldS_f H rfl (ldS_f H rfl ?_))))
            have HF : HS (row 2 sP (ps.map cPr) :: big PPr ps :: row 1 sG (gs.map cI) :: row 5 sLo (lds.map cLd) :: row 4 L (ws.map cWd) :: l) h := H.to 9 [7, 8, 5, 6, 3] rfl (by kernel_rfl)
            have HP : HS (progs sP ps :: row 1 sG (gs.map cI) :: row 5 sLo (lds.map cLd) :: row 4 L (ws.map cWd) :: l) h := HS.star.2 HF
            have e1 : i.toNat = ps.length := by omega
            rw [e1, List.take_length] at hck
            exact k1 nc gr sG sLo sP gs lds ps p h (HP.to 3 [1, 2, 0] rfl (by kernel_rfl)) ⟨ok.nc, ok.gr, ⟨hg1, hg⟩, ok.gs, hld, ok.ld, ⟨hps1, hps⟩, hck⟩ h0 h1
        · rw [if_pos (by simpa using hbad)]
          refine ldI_f (H.pull 1 _ rfl) rfl (ldI_f (H.pull 1 _ rfl) rfl ?_)
          refine stF_in _ 0 0 _ h (H.pull 8 _ rfl) (by simp [z5]) (by simp [Value.oneCell']) (fun h H => ?_)
          have H : HS (bk b4 z5 :: row 1 sl (pl.map cI) :: bk r (rdB L p bad) :: row 4 L (ws.map cWd) :: bk b8 (s5 nc gr sG sLo sP) :: row 1 sG (gs.map cI) :: row 5 sLo (lds.map cLd) :: row 2 sP (ps.map cPr) :: big PPr ps :: l) h := H
          refine ⟨cf (H.pull 2 _ rfl) rfl, cf (H.pull 2 _ rfl) rfl, ?_⟩
          have HZ : HS (bk b4 z5 :: row 4 L (ws.map cWd) :: l) h := H.to 9 [0, 3] rfl (by kernel_rfl)
          exact err p bad [] h hbad HZ h0 h HZ
      · -- programs
        intro K' hK
        refine Lp.rel (I := fun n s' h' => ∃ p bad sP ps, ∃ pl : List Int, n = 9 - ps.length ∧ HS (row 1 s'.1 (pl.map cI) :: pst r b8 b4 L ws p bad nc gr sG sLo sP gs lds ps l) h' ∧ 0 ≤ p ∧ p ≤ (ws.length : Int) ∧ pl.length = ps.length ∧ (∀ x ∈ pl, (0 : Int) ≤ x) ∧ ps.length ≤ 8 ∧ (bad = 0 → OkH nc gr gs lds ∧ 1 ≤ gs.length)) (n := 9) ?_
          ⟨p, bad, ⟨none, 0, 0⟩, [], [], rfl, row_nil H, h0, h1, rfl, by simp, by simp, hb⟩
        clear H h0 h1 hb
        rintro n ⟨sl, _⟩ h ⟨p, bad, sP, ps, pl, hn, H, h0, h1, hpl, hp0, hps, hb⟩ _
        simp only
        have hn3 := row_len (H.pull 6 _ rfl)
        rw [List.length_map] at hn3
        have out : (bad = 0 → 1 ≤ ps.length) → K' (sl, ()) h := fun q => hK _ _ ⟨p, bad, sP, ps, pl, H, h0, h1, hpl, hp0, hps, fun z => ⟨(hb z).1, (hb z).2, q z⟩⟩
        refine jn_cut (I := fun _ h' => h' = h) ?_ ?_
        · rintro _ h' rfl
          refine ldS_f (H.pull 3 _ rfl) rfl ?_
          have HR : HS (bk r (rdB L p bad) :: row 4 L (ws.map cWd) :: row 1 sl (pl.map cI) :: bk b8 (s5 nc gr sG sLo sP) :: row 1 sG (gs.map cI) :: row 5 sLo (lds.map cLd) :: row 2 sP (ps.map cPr) :: big PPr ps :: bk b4 z5 :: l) h' := H.to 3 [1, 2, 0] rfl (by kernel_rfl)
          refine k_rlong HR (fun bad' h H hbad' => ?_) (fun hbad h8 => ?_)
          · rw [if_pos rfl]
            refine hK _ _ ⟨p, bad', sP, ps, pl, ?_, h0, h1, hpl, hp0, hps, fun z => absurd z hbad'⟩
            exact H.to 3 [2, 0, 1] rfl (by kernel_rfl)
          · rw [if_neg (by decide)]
            subst hbad
            refine ldI_f (H.pull 1 _ rfl) rfl (alc_in H (fun b127 h H => ?_))
            refine app_lit (ys := [cI p]) H rfl rfl (cI_len [p]) (cI_one [p]) rfl (by simp; omega) (by simp; omega) (fun sl2 h H => ?_)
            refine ldI_f (H.pull 1 _ rfl) rfl ?_
            have HL : HS (row 4 L (ws.map cWd) :: row 1 sl2 (pl.map cI ++ [cI p]) :: bk r (rdB L p 0) :: bk b8 (s5 nc gr sG sLo sP) :: row 1 sG (gs.map cI) :: row 5 sLo (lds.map cLd) :: row 2 sP (ps.map cPr) :: big PPr ps :: bk b4 z5 :: l) h := H.to 3 [2, 0, 1] rfl (by kernel_rfl)
            refine k_Parse10 HL h0 h1 hl (fun fo sO ops p2 e h H h0 h1 => ?_)
            refine alc_in H (fun b11 h H => ?_)
            refine stF_in _ 0 0 _ h H (by simp) (by simp [Value.oneCell']) (fun h H => ?_)
            have H : HS (bk b11 #[.bool fo, .slice sO.p sO.n sO.c] :: row 3 sO (ops.map cO) :: row 4 L (ws.map cWd) :: row 1 sl2 (pl.map cI ++ [cI p]) :: bk r (rdB L p 0) :: bk b8 (s5 nc gr sG sLo sP) :: row 1 sG (gs.map cI) :: row 5 sLo (lds.map cLd) :: row 2 sP (ps.map cPr) :: big PPr ps :: bk b4 z5 :: l) h := H
            refine ldS_f (H.pull 5 _ rfl) rfl (ldB_f H rfl (ldS_f H rfl (alc_in H (fun b142 h H => ?_))))
            have HP : HS (bk b142 #[.bool fo, .slice sO.p sO.n sO.c] :: row 2 sP (ps.map cPr) :: row 3 sO (ops.map cO) :: big PPr ps :: row 4 L (ws.map cWd) :: row 1 sl2 (pl.map cI ++ [cI p]) :: bk r (rdB L p 0) :: bk b8 (s5 nc gr sG sLo sP) :: row 1 sG (gs.map cI) :: row 5 sLo (lds.map cLd) :: bk b4 z5 :: l) h := H.to 12 [0, 9, 2, 10, 3, 4, 5, 6, 7, 8, 11] rfl (by kernel_rfl)
            refine app_lit (ys := [cPr ⟨fo, sO, ops⟩]) HP rfl rfl (by simp [cPr]) (by simp [cPr, Value.oneCell']) rfl (by simp; omega) (by simp; omega) (fun sP2 h H => ?_)
            have HB := big_snoc (Q := PPr) (x := ⟨fo, sO, ops⟩) (H.pull 1 _ rfl |>.pull 2 _ rfl |>.swap)
            refine st_f (HB.pull 5 _ rfl) (by simp [s5]) rfl (fun h H => ?_)
            refine st_f (H.pull 5 _ rfl) (by simp [rdB]) rfl (fun h H => ?_)
            refine st_f H (by simp [rdB]) rfl (fun h H => ?_)
            refine ⟨9 - (ps.length + 1), by omega, p2, e, sP2, ps ++ [⟨fo, sO, ops⟩], pl ++ [p], by simp, ?_, h0, h1, by simp [hpl], ?_, by simp; omega, fun _ => hb rfl⟩
            · simp only [pst, List.map_append]
              exact H.to 9 [5, 0, 4, 1, 6, 7, 3, 2, 8] rfl (by kernel_rfl)
            · intro x hx
              rcases List.mem_append.1 hx with hx | hx
              · exact hp0 x hx
              · simp at hx; omega
        · intro K2 hK2
          refine k_ris (H.tail) h0 ?_
          split
          · exact hK2 _ _ rfl
          · refine ldS_f (H.pull 3 _ rfl) rfl ?_
            by_cases hz : ((sP.n : Nat) : Int) = 0
            · rw [if_pos (by simpa using hz)]
              refine ldI_f (H.pull 1 _ rfl) rfl ?_
              by_cases hbz : bad = 0
              · rw [if_pos (by simpa using hbz)]; exact hK2 _ _ rfl
              · rw [if_neg (by simpa using hbz)]; exact out (fun q => absurd q hbz)
            · rw [if_neg (by simpa using hz)]; exact out (fun _ => by omega)
    · -- locks
      intro K' hK
      refine Lp.rel (I := fun n _ h' => ∃ p bad sLo, ∃ lds : List LD, n = 9 - lds.length ∧ HS (pst r b8 b4 L ws p bad nc gr sG sLo ⟨none, 0, 0⟩ gs lds [] l) h' ∧ 0 ≤ p ∧ p ≤ (ws.length : Int) ∧ lds.length ≤ 8 ∧ (bad = 0 → OkH nc gr gs lds ∧ 1 ≤ gs.length)) (n := 9) ?_
        ⟨p, bad, ⟨none, 0, 0⟩, [], rfl, H, h0, h1, by simp, hb⟩
      clear H h0 h1 hb
      rintro n _ h ⟨p, bad, sLo, lds, hn, H, h0, h1, hld, hb⟩ _
      have hn3 := row_len (H.pull 4 _ rfl)
      rw [List.length_map] at hn3
      have out : K' () h := hK _ _ ⟨p, bad, sLo, lds, H, h0, h1, hld, hb⟩
      refine jn_cut (I := fun _ h' => h' = h ∧ p < (ws.length : Int)) ?_ ?_
      · rintro _ h' ⟨rfl, hp1⟩
        refine ldS_f (H.pull 2 _ rfl) rfl ?_
        refine k_rlong H (fun bad' h H hbad' => ?_) (fun hbad h8 => ?_)
        · rw [if_pos rfl]
          exact hK _ _ ⟨p, bad', sLo, lds, H, h0, h1, hld, fun z => absurd z hbad'⟩
        · rw [if_neg (by decide)]
          refine k_ris H h0 ?_
          refine ldI_f H rfl (st_f H (by simp [rdB]) rfl (fun h H => ?_))
          rw [wrap64_in (by omega) (by omega)] at H
          have H : HS (pst r b8 b4 L ws (p + 1) bad nc gr sG sLo ⟨none, 0, 0⟩ gs lds [] l) h := H
          refine ldS_f (H.pull 2 _ rfl) rfl ?_
          refine k_rlock H (by omega) (by omega) hl (fun d p2 bad2 h H h0 h1 hb2 => ?_)
          refine ⟨cf (H.pull 2 _ rfl) rfl, alc_in H (fun b99 h H => ⟨cf (H.pull 3 _ rfl) rfl, ?_⟩)⟩
          have HP : HS (bk b99 #[.bool d.sh, .int .i64 d.slice, .int .i64 d.crit, .int .i64 d.rd, .int .i64 d.wr] :: row 5 sLo (lds.map cLd) :: bk r (rdB L p2 bad2) :: row 4 L (ws.map cWd) :: bk b8 (s5 nc gr sG sLo ⟨none, 0, 0⟩) :: row 1 sG (gs.map cI) :: row 2 ⟨none, 0, 0⟩ (List.map cPr []) :: big PPr [] :: bk b4 z5 :: l) h := H.to 9 [0, 5, 1, 2, 3, 4, 6, 7, 8] rfl (by kernel_rfl)
          refine app_lit (ys := [cLd d]) HP rfl rfl (by simp [cLd]) (by simp [cLd, Value.oneCell']) rfl (by simp; omega) (by simp; omega) (fun s2 h H => ?_)
          refine st_f (H.pull 3 _ rfl) (by simp [s5]) rfl (fun h H => ?_)
          refine ⟨9 - (lds.length + 1), by omega, p2, bad2, s2, lds ++ [d], by simp, ?_, h0, h1, by simp; omega, fun z => ?_⟩
          · simp only [pst, List.map_append]
            exact H.to 8 [2, 3, 0, 4, 1, 5, 6, 7] rfl (by kernel_rfl)
          · obtain ⟨z1, z2⟩ := hb2 z
            obtain ⟨ok, hg1⟩ := hb z1
            refine ⟨⟨ok.nc, ok.gr, ok.gs, fun x hx => ?_⟩, hg1⟩
            rcases List.mem_append.1 hx with hx | hx
            · exact ok.ld x hx
            · simp at hx; subst hx; exact z2
      · intro K2 hK2
        refine k_ris H h0 ?_
        cases hi1 : isB ws p bad 1 ⟨#[108, 111, 99, 107]⟩ with
        | true => rw [if_pos rfl]; exact hK2 _ _ ⟨rfl, (isB_lt hi1 h0).2⟩
        | false =>
          rw [if_neg (by decide)]
          refine k_ris H h0 ?_
          cases hi2 : isB ws p bad 1 ⟨#[115, 104, 97, 114, 101, 100]⟩ with
          | true => rw [if_pos rfl]; exact hK2 _ _ ⟨rfl, (isB_lt hi2 h0).2⟩
          | false => rw [if_neg (by decide)]; exact out
  · -- groups
    intro K' hK
    refine Lp.rel (I := fun n _ h' => ∃ p bad sG, ∃ gs : List Int, n = 5 - gs.length ∧ HS (pst r b8 b4 L ws p bad nc gr sG ⟨none, 0, 0⟩ ⟨none, 0, 0⟩ gs [] [] l) h' ∧ 0 ≤ p ∧ p ≤ (ws.length : Int) ∧ gs.length ≤ 4 ∧ (bad = 0 → OkH nc gr gs [])) (n := 5) ?_
      ⟨p, bad, ⟨none, 0, 0⟩, [], rfl, H, h0, h1, by simp, hb⟩
    clear H h0 h1 hb
    rintro n _ h ⟨p, bad, sG, gs, hn, H, h0, h1, hg, hb⟩ _
    have hn3 := row_len (H.pull 3 _ rfl)
    rw [List.length_map] at hn3
    have out : (bad = 0 → 1 ≤ gs.length) → K' () h := fun q => hK _ _ ⟨p, bad, sG, gs, H, h0, h1, hg, fun z => ⟨hb z, q z⟩⟩
    refine jn_cut (I := fun _ h' => h' = h ∧ (isB ws p bad 1 ⟨#[103, 114, 111, 117, 112]⟩ = true ∨ gs.length = 0)) ?_ ?_
    · rintro _ h' ⟨rfl, hc⟩
      refine jn_cut (I := fun _ h2 => h2 = h' ∧ gs.length < 4) ?_ ?_
      · rintro _ h2 ⟨rfl, hg4⟩
        refine ldS_f (H.pull 2 _ rfl) rfl ?_
        refine k_rfield H h0 h1 hl (fun x p bad2 h H h0 h1 hb2 => ?_)
        refine ⟨cf (H.pull 2 _ rfl) rfl, alc_in H (fun b69 h H => ⟨cf (H.pull 3 _ rfl) rfl, ?_⟩)⟩
        have HP : HS (bk b69 #[.int .i64 x] :: row 1 sG (gs.map cI) :: bk r (rdB L p bad2) :: row 4 L (ws.map cWd) :: bk b8 (s5 nc gr sG ⟨none, 0, 0⟩ ⟨none, 0, 0⟩) :: row 5 ⟨none, 0, 0⟩ (List.map cLd []) :: row 2 ⟨none, 0, 0⟩ (List.map cPr []) :: big PPr [] :: bk b4 z5 :: l) h := H.to 9 [0, 4, 1, 2, 3, 5, 6, 7, 8] rfl (by kernel_rfl)
        refine app_lit (ys := [cI x]) HP rfl rfl (cI_len [x]) (cI_one [x]) rfl (by simp; omega) (by simp; omega) (fun s2 h H => ?_)
        refine st_f (H.pull 3 _ rfl) (by simp [s5]) rfl (fun h H => ?_)
        have H : HS (pst r b8 b4 L ws p bad2 nc gr s2 ⟨none, 0, 0⟩ ⟨none, 0, 0⟩ (gs ++ [x]) [] [] l) h := by
          have e : (gs ++ [x]).map cI = gs.map cI ++ [cI x] := by simp
          simp only [pst, e]
          exact H.to 8 [2, 3, 0, 1, 4, 5, 6, 7] rfl (by kernel_rfl)
        refine k_rneed H h0 h1 hl (fun p bad3 h H h0 h1 hb3 => ?_)
        refine ⟨5 - (gs.length + 1), by omega, p, bad3, s2, gs ++ [x], by simp, H, h0, h1, by simp; omega, fun z => ?_⟩
        obtain ⟨z1, z2⟩ := hb2 (hb3 z)
        have ok := hb z1
        refine ⟨ok.nc, ok.gr, fun y hy => ?_, ok.ld⟩
        rcases List.mem_append.1 hy with hy | hy
        · exact ok.gs y hy
        · simp at hy; subst hy; exact z2
      · intro K2 hK2
        refine k_ris H h0 ?_
        cases hi1 : isB ws p bad 1 ⟨#[103, 114, 111, 117, 112]⟩ with
        | true =>
          rw [if_pos rfl]
          refine ldS_f (H.pull 2 _ rfl) rfl ?_
          refine k_rlong H (fun bad' h H hbad' => ?_) (fun hbad h8 => ?_)
          · rw [if_pos rfl]
            exact hK _ _ ⟨p, bad', sG, gs, H, h0, h1, hg, fun z => absurd z hbad'⟩
          · rw [if_neg (by decide)]
            exact hK2 _ _ ⟨rfl, by omega⟩
        | false =>
          rw [if_neg (by decide)]
          refine hK2 _ _ ⟨rfl, ?_⟩
          rcases hc with hc | hc
          · rw [hi1] at hc; cases hc
          · omega
    · intro K2 hK2
      refine k_ris H h0 ?_
      cases hi1 : isB ws p bad 1 ⟨#[103, 114, 111, 117, 112]⟩ with
      | true => rw [if_pos rfl]; exact hK2 _ _ ⟨rfl, .inl hi1⟩
      | false =>
        rw [if_neg (by decide)]
        refine ldS_f (H.pull 2 _ rfl) rfl ?_
        by_cases hz : ((sG.n : Nat) : Int) = 0
        · rw [if_pos (by simpa using hz)]
          refine ldI_f H rfl ?_
          by_cases hbz : bad = 0
          · rw [if_pos (by simpa using hbz)]; exact hK2 _ _ ⟨rfl, .inr (by omega)⟩
          · rw [if_neg (by simpa using hbz)]; exact out (fun q => absurd q hbz)
        · rw [if_neg (by simpa using hz)]; exact out (fun _ => by omega)
end
end Go.Proofs.YtbkjeahmbnkmeaaGreat
set_option autoImplicit false
set_option linter.unusedVariables false
namespace Go.Proofs.YtbkjeahmbnkmeaaGreat
open Go Ev

/-- the heap as it was, and what a play's acts are in it -/
def arow (h0 : Heap) (s : Sl) (acts : List AC) : SP := fun m => (∀ (b : Nat) (o : Obj), h0[b]? = some o → m b = some o) ∧ s.n = acts.length ∧ RowAt h0 s.p (s.n * 5) (acts.map cAc).flatten
theorem arow_in {h0 : Heap} {s : Sl} {acts : List AC} (hn : s.n = acts.length) (hr : RowAt h0 s.p (s.n * 5) (acts.map cAc).flatten) : HS [arow h0 s acts] h0 :=
  ⟨hs h0, fun _ => none, Sub.refl _, (fun _ _ h => nomatch h), (fun _ => .inr rfl), ⟨fun b o ho => ho, hn, hr⟩, trivial⟩
section
variable {l : List SP} {h h0 : Heap} {s : Sl} {acts : List AC}
theorem arow_len (H : HS (arow h0 s acts :: l) h) : s.n = acts.length := by
  obtain ⟨_, _, _, _, _, hp, _⟩ := H; exact hp.2.1
theorem arow_old (H : HS (arow h0 s acts :: l) h) : ∀ (b : Nat) (o : Obj), h0[b]? = some o → h[b]? = some o := by
  obtain ⟨_, _, h1, _, _, hp, _⟩ := H; exact fun b o ho => h1 b o (hp.1 b o ho)
theorem cell_old {h0 h : Heap} (ho : ∀ (b : Nat) (o : Obj), h0[b]? = some o → h[b]? = some o) {a : Addr} {v : Value} (hc : cell h0 a = some v) : cell h a = some v := by
  unfold cell at hc ⊢
  cases hb : h0[a.block]? with
  | none => rw [hb] at hc; simp at hc
  | some o => rw [hb] at hc; rw [ho _ _ hb]; exact hc
theorem arow_at (H : HS (arow h0 s acts :: l) h) : RowAt h s.p (s.n * 5) (acts.map cAc).flatten := by
  have ho := arow_old H
  obtain ⟨_, _, _, _, _, hp, _⟩ := H
  refine ⟨hp.2.2.1, fun j v hv => ?_⟩
  obtain ⟨a, ha, hc⟩ := hp.2.2.2 j v hv
  exact ⟨a, ha, cell_old ho hc⟩
theorem add_add' (a : Addr) (m j : Nat) : (a.add m).add j = a.add (m + j) := by
  unfold Addr.add
  by_cases hm : m = 0
  · subst hm; simp
  · by_cases hj : j = 0
    · subst hj; simp
    · have : ¬ (m + j = 0) := by omega
      simp only [hm, hj, this, if_false, Nat.add_assoc]
theorem ael_in {i : Int} {x : AC} {B : Addr → Prop} (H : HS (arow h0 s acts :: l) h) (hi0 : 0 ≤ i) (hi : acts[i.toNat]? = some x)
    (hk : ∀ a, s.p = some a → (∀ (j : Nat) (v : Value), (cAc x)[j]? = some v → cell h ((a.add (i.toNat * 5)).add j) = some v) → B a) : pm s.p fun a => 0 ≤ i ∧ i < ((s.n : Nat) : Int) ∧ B a := by
  have hlt : i.toNat < acts.length := (List.getElem?_eq_some_iff.1 hi).1
  have hn := arow_len H
  obtain ⟨_, hr⟩ := arow_at H
  have hl5 : ∀ y ∈ acts.map cAc, y.length = 5 := fun y hy => by obtain ⟨z, _, rfl⟩ := List.mem_map.1 hy; rfl
  have get : ∀ (j : Nat) (v : Value), (cAc x)[j]? = some v → ∃ a, s.p = some a ∧ cell h (a.add (i.toNat * 5 + j)) = some v := by
    intro j v hv
    refine hr _ v ?_
    rw [flat_get hl5 (x := cAc x) (by simp [hi]) (by have := (List.getElem?_eq_some_iff.1 hv).1; simpa [cAc] using this)]
    exact hv
  obtain ⟨a, ha, _⟩ := get 0 _ rfl
  rw [ha]
  refine ⟨hi0, by omega, hk a ha (fun j v hv => ?_)⟩
  obtain ⟨a', ha', hc⟩ := get j v hv
  rw [ha] at ha'; simp at ha'; subst ha'
  rw [add_add']; exact hc
end
section
variable {l : List SP} {h : Heap}
theorem k_Parse14 {s : ByteArray} {R : Int → Int → Sl → Sl → Sl → Sl → Int → Int → Heap → Prop} (H : HS l h)
    (k0 : ∀ nc gr sG sLo sP sA p e h', e ≠ 0 → HS l h' → R nc gr sG sLo sP sA p e h')
    (k1 : ∀ nc gr sG sLo sP sA gs lds ps (acts : List AC) h', HS (row 1 sG (gs.map cI) :: row 5 sLo (lds.map cLd) :: progs sP ps :: row 5 sA (acts.map cAc) :: l) h' → MayG nc gr gs lds ps → R nc gr sG sLo sP sA 0 0 h') : C_ref14_Parse s h R := by
  apply of_ref14_Parse; unfold S_ref14_Parse
  refine alc_in H (fun b2 h H => ?_)
  have err : ∀ (p e : Int) (h : Heap), e ≠ 0 → HS (bk b2 #[.int .i64 0, .int .i64 0, .slice none 0 0, .slice none 0 0, .slice none 0 0, .slice none 0 0] :: l) h →
      stF [.int .i64 0, .int .i64 0, .slice none 0 0, .slice none 0 0, .slice none 0 0, .slice none 0 0] h (Addr.mk b2 0 none) 0 fun h =>
      ldI .i64 ((Addr.mk b2 0 none).add 0) h fun x9000_0 => ldI .i64 ((Addr.mk b2 0 none).add 1) h fun x9000_1 => ldS ((Addr.mk b2 0 none).add 2) h fun x9000_2 => ldS ((Addr.mk b2 0 none).add 3) h fun x9000_3 => ldS ((Addr.mk b2 0 none).add 4) h fun x9000_4 => ldS ((Addr.mk b2 0 none).add 5) h fun x9000_5 =>
      R x9000_0 x9000_1 x9000_2 x9000_3 x9000_4 x9000_5 p e h := by
    intro p e h he H
    refine stF_in _ 0 0 _ h H (by simp) (by simp [Value.oneCell']) (fun h H => ?_)
    have H : HS (bk b2 #[.int .i64 0, .int .i64 0, .slice none 0 0, .slice none 0 0, .slice none 0 0, .slice none 0 0] :: l) h := H
    exact ldI_f H rfl (ldI_f H rfl (ldS_f (x := ⟨none, 0, 0⟩) H rfl (ldS_f (x := ⟨none, 0, 0⟩) H rfl (ldS_f (x := ⟨none, 0, 0⟩) H rfl (ldS_f (x := ⟨none, 0, 0⟩) H rfl (k0 _ _ _ _ _ _ _ _ h he H.tail))))))
  refine k_Scan H (fun L ws a e h H hl => ?_)
  by_cases he : e = 0
  · rw [if_neg (by simpa using he)]
    refine k_Parse12 H hl (fun nc gr sG sLo sP p e h he H h0 => ?_) (fun nc gr sG sLo sP gs lds ps p h H G h0 h1 => ?_)
    · refine alc_in H (fun b8 h H => ?_)
      refine stF_in _ 0 0 _ h H (by simp) (by simp [Value.oneCell']) (fun h H => ?_)
      rw [if_pos (by simpa using he)]
      exact k_place14 H.tail h0 (fun x => err _ _ h he H.tail.tail)
    · refine alc_in H (fun b8 h H => ?_)
      refine stF_in _ 0 0 _ h H (by simp) (by simp [Value.oneCell']) (fun h H => ?_)
      have H : HS (bk b8 (s5 nc gr sG sLo sP) :: row 1 sG (gs.map cI) :: row 5 sLo (lds.map cLd) :: progs sP ps :: row 4 L (ws.map cWd) :: bk b2 #[.int .i64 0, .int .i64 0, .slice none 0 0, .slice none 0 0, .slice none 0 0, .slice none 0 0] :: l) h := H
      rw [if_neg (by decide)]
      have HL : HS (row 4 L (ws.map cWd) :: bk b8 (s5 nc gr sG sLo sP) :: row 1 sG (gs.map cI) :: row 5 sLo (lds.map cLd) :: progs sP ps :: bk b2 #[.int .i64 0, .int .i64 0, .slice none 0 0, .slice none 0 0, .slice none 0 0, .slice none 0 0] :: l) h := H.to 5 [4, 0, 1, 2, 3] rfl (by kernel_rfl)
      refine k_Parse13 HL h0 h1 hl (fun sA acts p e h H h0 => ?_)
      by_cases he2 : e = 0
      · rw [if_neg (by simpa using he2)]
        have H8 := H.pull 2 _ rfl
        refine ldI_f H8 rfl (ldI_f H8 rfl (ldS_f H8 rfl (ldS_f H8 rfl (ldS_f H8 rfl ?_))))
        refine stF_in _ 0 0 _ h (H.pull 6 _ rfl) (by simp) (by simp [Value.oneCell']) (fun h H => ?_)
        have H : HS (bk b2 #[.int .i64 nc, .int .i64 gr, .slice sG.p sG.n sG.c, .slice sLo.p sLo.n sLo.c, .slice sP.p sP.n sP.c, .slice sA.p sA.n sA.c] :: row 5 sA (acts.map cAc) :: row 4 L (ws.map cWd) :: bk b8 (s5 nc gr sG sLo sP) :: row 1 sG (gs.map cI) :: row 5 sLo (lds.map cLd) :: progs sP ps :: l) h := H
        exact ldI_f H rfl (ldI_f H rfl (ldS_f H rfl (ldS_f H rfl (ldS_f H rfl (ldS_f H rfl (k1 _ _ _ _ _ _ gs lds ps acts h (H.to 7 [4, 5, 6, 1] rfl (by kernel_rfl)) G))))))
      · rw [if_pos (by simpa using he2)]
        refine k_place14 (p := p) H.tail h0 (fun x => err _ _ h he2 ?_)
        exact H.to 7 [6] rfl (by kernel_rfl)
  · rw [if_pos (by simpa using he)]
    exact err _ _ h he H.tail
theorem k_Of {hp0 : Heap} {s : ByteArray} {sA : Sl} {acts : List AC} {n1 n2 : Int} {R : Int → Int → Sl → Sl → Sl → Bool → Heap → Prop} (H : HS (arow hp0 sA acts :: l) h) (hn1 : n1 ≤ 1000000) (hn2 : 0 ≤ n2 ∧ n2 ≤ 1000000)
    (k0 : ∀ nc gr sG sLo sP h', HS (arow hp0 sA acts :: l) h' → R nc gr sG sLo sP false h')
    (k1 : ∀ nc gr sG sLo sP gs lds ps h', HS (row 1 sG (gs.map cI) :: row 5 sLo (lds.map cLd) :: progs sP ps :: arow hp0 sA acts :: l) h' → MayG nc gr gs lds ps → (acts.length : Int) ≤ n1 → R nc gr sG sLo sP true h') : C_law26_Play_Of s sA n1 n2 h R := by
  apply of_law26_Play_Of; unfold S_law26_Play_Of
  have hAn := arow_len H
  refine alc_in H (fun b3 h H => alc_in H (fun b6 h H => ?_))
  have err : ∀ (h : Heap), HS (bk b6 z5 :: bk b3 #[.string s, .slice sA.p sA.n sA.c] :: arow hp0 sA acts :: l) h →
      stF [.int .i64 0, .int .i64 0, .slice none 0 0, .slice none 0 0, .slice none 0 0] h (Addr.mk b6 0 none) 0 fun h =>
      ldI .i64 ((Addr.mk b6 0 none).add 0) h fun x9000_0 => ldI .i64 ((Addr.mk b6 0 none).add 1) h fun x9000_1 => ldS ((Addr.mk b6 0 none).add 2) h fun x9000_2 => ldS ((Addr.mk b6 0 none).add 3) h fun x9000_3 => ldS ((Addr.mk b6 0 none).add 4) h fun x9000_4 =>
      R x9000_0 x9000_1 x9000_2 x9000_3 x9000_4 false h := by
    intro h H
    refine stF_in _ 0 0 _ h H (by simp [z5]) (by simp [Value.oneCell']) (fun h H => ?_)
    have H : HS (bk b6 z5 :: bk b3 #[.string s, .slice sA.p sA.n sA.c] :: arow hp0 sA acts :: l) h := H
    exact ldI_f H rfl (ldI_f H rfl (ldS_f (x := ⟨none, 0, 0⟩) H rfl (ldS_f (x := ⟨none, 0, 0⟩) H rfl (ldS_f (x := ⟨none, 0, 0⟩) H rfl (k0 _ _ _ _ _ h H.tail.tail)))))
  refine ldStr_f H.swap rfl ?_
  split
  · exact err h H
  · refine ldS_f H.swap rfl ?_
    by_cases hA1 : ((sA.n : Nat) : Int) > n1
    · rw [if_pos (by simpa using hA1)]; exact err h H
    · rw [if_neg (by simpa using hA1)]
      refine ldS_f H.swap rfl ?_
      refine Lp.inv (I := fun s' h' => HS (bk b6 z5 :: bk b3 #[.string s, .slice sA.p sA.n sA.c] :: arow hp0 sA acts :: l) h' ∧ 0 ≤ s'.1 ∧ s'.1 ≤ 1000000 ∧ 0 ≤ s'.2.1 ∧ s'.2.1 ≤ (acts.length : Int)) (μ := fun s' _ => ((acts.length : Int) - s'.2.1).toNat) ?_ ⟨H, hn2.1, hn2.2, by simp, by simp⟩
      clear H
      rintro ⟨rr, i, _⟩ h ⟨H, r0, r1, i0, i1⟩ _
      simp only at r0 r1 i0 i1 ⊢
      by_cases hi : i < ((sA.n : Nat) : Int)
      · rw [if_pos (by simpa using hi)]
        obtain ⟨a, ha⟩ := get_ex i0 (by omega) rfl (l := acts) (i := i)
        have hw : IntKind.wrap .i64 (i + 1) = i + 1 := wrap64_in (by omega) (by omega)
        rw [hw]
        refine ael_in (H.pull 2 _ rfl) i0 ha (fun c hc hcell => ldI_in (hcell 0 _ rfl) (ldI_in (hcell 1 _ rfl) (ldI_in (hcell 2 _ rfl) (ldI_in (hcell 3 _ rfl) (ldI_in (hcell 4 _ rfl) ?_)))))
        refine alc_in H (fun b9 h H => ?_)
        refine stF_in _ 0 0 _ h H (by simp) (by simp [Value.oneCell']) (fun h H => ?_)
        have H : HS (bk b9 #[.int .i64 a.kind, .int .i64 a.a, .int .i64 a.b, .int .i64 a.c, .int .i64 a.d] :: bk b6 z5 :: bk b3 #[.string s, .slice sA.p sA.n sA.c] :: arow hp0 sA acts :: l) h := H
        refine ldI_f H rfl ?_
        split
        · exact ⟨⟨H.tail, by omega, by omega, by omega, by omega⟩, by omega⟩
        · refine ldI_f H rfl ?_
          by_cases ha0 : a.a < 0
          · rw [if_pos (by simpa using ha0)]
            exact ⟨⟨H.tail, by omega, by omega, by omega, by omega⟩, by omega⟩
          · rw [if_neg (by simpa using ha0)]
            refine ldI_f H rfl ?_
            by_cases ha2 : a.a > 200
            · rw [if_pos (by simpa using ha2)]
              exact ⟨⟨H.tail, by omega, by omega, by omega, by omega⟩, by omega⟩
            · rw [if_neg (by simpa using ha2)]
              refine ldI_f H rfl ?_
              rw [wrap64_in (n := rr - a.a) (by omega) (by omega)]
              by_cases hr : rr - a.a < 0
              · rw [if_pos (by simpa using hr)]
                exact err h H.tail
              · rw [if_neg (by simpa using hr)]
                exact ⟨⟨H.tail, by omega, by omega, by omega, by omega⟩, by omega⟩
      · rw [if_neg (by simpa using hi)]
        refine ldStr_f H.swap rfl ?_
        refine k_Parse14 H (fun nc gr sG sLo sP sA2 p e h he H => ?_) (fun nc gr sG sLo sP sA2 gs lds ps acts2 h H G => ?_)
        · refine alc_in H (fun b10 h H => ?_)
          refine stF_in _ 0 0 _ h H (by simp) (by simp [Value.oneCell']) (fun h H => ?_)
          have H : HS (bk b10 #[.int .i64 nc, .int .i64 gr, .slice sG.p sG.n sG.c, .slice sLo.p sLo.n sLo.c, .slice sP.p sP.n sP.c, .slice sA2.p sA2.n sA2.c] :: bk b6 z5 :: bk b3 #[.string s, .slice sA.p sA.n sA.c] :: arow hp0 sA acts :: l) h := H
          refine ldI_in (cff H rfl) (ldI_in (cff H rfl) (ldS_in (cff H rfl) (ldS_in (cff H rfl) (ldS_in (cff H rfl) ?_))))
          rw [if_neg (by simpa using he)]
          refine stF_in _ 0 0 _ h H.swap (by simp [z5]) (by simp [Value.oneCell']) (fun h H => ?_)
          have H : HS (bk b6 (s5 nc gr sG sLo sP) :: bk b10 #[.int .i64 nc, .int .i64 gr, .slice sG.p sG.n sG.c, .slice sLo.p sLo.n sLo.c, .slice sP.p sP.n sP.c, .slice sA2.p sA2.n sA2.c] :: bk b3 #[.string s, .slice sA.p sA.n sA.c] :: arow hp0 sA acts :: l) h := H
          exact ldI_f H rfl (ldI_f H rfl (ldS_f H rfl (ldS_f H rfl (ldS_f H rfl (k0 _ _ _ _ _ h H.tail.tail.tail)))))
        · refine alc_in H (fun b10 h H => ?_)
          refine stF_in _ 0 0 _ h H (by simp) (by simp [Value.oneCell']) (fun h H => ?_)
          have H : HS (bk b10 #[.int .i64 nc, .int .i64 gr, .slice sG.p sG.n sG.c, .slice sLo.p sLo.n sLo.c, .slice sP.p sP.n sP.c, .slice sA2.p sA2.n sA2.c] :: row 1 sG (gs.map cI) :: row 5 sLo (lds.map cLd) :: progs sP ps :: row 5 sA2 (acts2.map cAc) :: bk b6 z5 :: bk b3 #[.string s, .slice sA.p sA.n sA.c] :: arow hp0 sA acts :: l) h := H
          refine ldI_in (cff H rfl) (ldI_in (cff H rfl) (ldS_in (cff H rfl) (ldS_in (cff H rfl) (ldS_in (cff H rfl) ?_))))
          rw [if_pos (by decide)]
          refine ldS_f H rfl ?_
          refine stF_in _ 0 0 _ h (H.pull 5 _ rfl) (by simp [z5]) (by simp [Value.oneCell']) (fun h H => ?_)
          have H : HS (bk b6 (s5 nc gr sG sLo sP) :: bk b10 #[.int .i64 nc, .int .i64 gr, .slice sG.p sG.n sG.c, .slice sLo.p sLo.n sLo.c, .slice sP.p sP.n sP.c, .slice sA2.p sA2.n sA2.c] :: row 1 sG (gs.map cI) :: row 5 sLo (lds.map cLd) :: progs sP ps :: row 5 sA2 (acts2.map cAc) :: bk b3 #[.string s, .slice sA.p sA.n sA.c] :: arow hp0 sA acts :: l) h := H
          refine ⟨cf H.tail rfl, ?_⟩
          refine ldI_f H rfl (ldI_f H rfl (ldS_f H rfl (ldS_f H rfl (ldS_f H rfl ?_))))
          cases hz : (((sA2.n : Nat) : Int) == 0) with
          | true => exact k1 _ _ _ _ _ gs lds ps h (H.to 8 [2, 3, 4, 7] rfl (by kernel_rfl)) G (by omega)
          | false => exact k0 _ _ _ _ _ h (H.to 8 [7] rfl (by kernel_rfl))
end
end Go.Proofs.YtbkjeahmbnkmeaaGreat
