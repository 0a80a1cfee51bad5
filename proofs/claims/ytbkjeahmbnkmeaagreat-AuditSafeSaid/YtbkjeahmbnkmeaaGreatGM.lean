/- The machine: what its heap holds; access to its parts. -/
import Derived.Test.YtbkjeahmbnkmeaaGreatGK
set_option autoImplicit false
set_option linter.unusedVariables false
namespace Go.Proofs.YtbkjeahmbnkmeaaGreat
open Go Ev

structure TK where
  (id prog group core pc left state til lock weight effect ticks : Int)
def cT (t : TK) : List Value := [.int .i64 t.id, .int .i64 t.prog, .int .i64 t.group, .int .i64 t.core, .int .i64 t.pc, .int .i64 t.left, .int .i64 t.state, .int .u64 t.til, .int .i64 t.lock, .int .i64 t.weight, .int .i64 t.effect, .int .i64 t.ticks]
structure EV where
  (time kind task lock n : Int)
def cE (e : EV) : List Value := [.int .u64 e.time, .int .i64 e.kind, .int .i64 e.task, .int .i64 e.lock, .int .i64 e.n]
structure LK where
  b : Nat
  sh : Bool
  ho : List HoT
  wa : List HoT
def PL (k : LK) : SP := lk k.b k.sh k.ho k.wa
structure OP where
  (kind a b : Int)
def cO (o : OP) : List Value := [.int .i64 o.kind, .int .i64 o.a, .int .i64 o.b]
structure PR where
  fo : Bool
  s : Sl
  ops : List OP
def cPr (p : PR) : List Value := [.bool p.fo, .slice p.s.p p.s.n p.s.c]
def PPr (p : PR) : SP := row 3 p.s (p.ops.map cO)
def progs (s : Sl) (ps : List PR) : SP := star [row 2 s (ps.map cPr), big PPr ps]
structure ST where
  (nc gr : Int)
  (sG sLo sP sI sK : Sl)
  ps : List PR
  bs : List Nat
  (cb gb : Nat)
structure GS where
  now : Int
  ls : List LK
  ts : List TK
  ev : List EV
  A : Int → Prop
structure MX where
  (sGr sT sV sE : Sl)
  (vs idle groups : List Int)
def mB (S : ST) (now : Int) (x : MX) : Array Value := #[.int .i64 S.nc, .int .i64 S.gr, .slice S.sG.p S.sG.n S.sG.c, .slice S.sLo.p S.sLo.n S.sLo.c, .slice S.sP.p S.sP.n S.sP.c, .int .u64 now, .pointer (some ⟨S.cb, 0, none⟩),
  .slice S.sI.p S.sI.n S.sI.c, .slice S.sK.p S.sK.n S.sK.c, .slice x.sGr.p x.sGr.n x.sGr.c, .pointer (some ⟨S.gb, 0, none⟩), .slice x.sT.p x.sT.n x.sT.c, .slice x.sV.p x.sV.n x.sV.c, .slice x.sE.p x.sE.n x.sE.c]
structure MP (S : ST) (n : Nat) (x : MX) : Prop where
  vs : x.vs.length = n
  idle : (x.idle.length : Int) = S.nc
  bs : (S.bs.length : Int) = S.nc
  nc : 1 ≤ S.nc ∧ S.nc ≤ 4
def mL (m : Nat) (S : ST) (g : GS) (x : MX) : List SP :=
  [pr (MP S g.ts.length x), bk m (mB S g.now x), coresA S.cb S.bs g.A, graph S.gb, row 1 S.sK ((g.ls.map (·.b)).map cPt), big PL g.ls, row 12 x.sT (g.ts.map cT), row 1 x.sV (x.vs.map cU), row 5 x.sE (g.ev.map cE), row 1 S.sI (x.idle.map cI), row 1 x.sGr (x.groups.map cI), progs S.sP S.ps]
def mach (m : Nat) (S : ST) (g : GS) : SP := exi fun x : MX => star (mL m S g x)
def mhole (i : Nat) (m : Nat) (S : ST) (g : GS) : SP := exi fun x : MX => star ((mL m S g x).eraseIdx i)

section
variable {m : Nat} {S : ST} {g : GS} {l : List SP} {h : Heap}
theorem mach_open (H : HS (mach m S g :: l) h) : ∃ x, MP S g.ts.length x ∧ HS (bk m (mB S g.now x) :: coresA S.cb S.bs g.A :: graph S.gb :: row 1 S.sK ((g.ls.map (·.b)).map cPt) :: big PL g.ls :: row 12 x.sT (g.ts.map cT) :: row 1 x.sV (x.vs.map cU) :: row 5 x.sE (g.ev.map cE) :: row 1 S.sI (x.idle.map cI) :: row 1 x.sGr (x.groups.map cI) :: progs S.sP S.ps :: l) h := by
  obtain ⟨x, H⟩ := HS.ex.1 H
  obtain ⟨hp, H⟩ := HS.pr.1 (HS.star.1 H)
  exact ⟨x, hp, H⟩
theorem mach_close {x : MX} (hp : MP S g.ts.length x) (H : HS (bk m (mB S g.now x) :: coresA S.cb S.bs g.A :: graph S.gb :: row 1 S.sK ((g.ls.map (·.b)).map cPt) :: big PL g.ls :: row 12 x.sT (g.ts.map cT) :: row 1 x.sV (x.vs.map cU) :: row 5 x.sE (g.ev.map cE) :: row 1 S.sI (x.idle.map cI) :: row 1 x.sGr (x.groups.map cI) :: progs S.sP S.ps :: l) h) : HS (mach m S g :: l) h :=
  HS.ex.2 ⟨x, HS.star.2 (HS.pr.2 ⟨hp, H⟩)⟩
theorem mach_pick (i : Nat) {p : SP} (hp : ∀ x, (mL m S g x)[i]? = some p) (H : HS (mach m S g :: l) h) : HS (p :: mhole i m S g :: l) h := by
  obtain ⟨x, H⟩ := HS.ex.1 H
  have H := (HS.star.1 H).pull i p (by
    have := hp x
    rw [List.getElem?_append_left (List.getElem?_eq_some_iff.1 this).1]; exact this)
  have e : ((mL m S g x ++ l).eraseIdx i) = (mL m S g x).eraseIdx i ++ l := List.eraseIdx_append_of_lt_length (List.getElem?_eq_some_iff.1 (hp x)).1 _
  rw [e] at H
  refine HS.swap (HS.ex.2 ⟨x, HS.star.2 ?_⟩)
  exact H.perm (List.perm_middle (a := p) (l₁ := (mL m S g x).eraseIdx i) (l₂ := l)).symm
theorem list_put {α : Type} {l : List α} {i : Nat} {a : α} (hi : i < l.length) : (l.eraseIdx i ++ [a]).Perm (l.set i a) := by
  have h1 : (l.set i a).Perm (a :: l.eraseIdx i) := by
    rw [List.set_eq_take_append_cons_drop, if_pos hi, List.eraseIdx_eq_take_drop_succ]
    exact List.perm_middle
  exact (List.perm_append_comm (l₁ := l.eraseIdx i) (l₂ := [a])).trans h1.symm
theorem mach_put {i : Nat} {p' : SP} {g' : GS} (hi : i < 12) (hp : ∀ x, mL m S g' x = (mL m S g x).set i p') (H : HS (p' :: mhole i m S g :: l) h) : HS (mach m S g' :: l) h := by
  obtain ⟨x, H⟩ := HS.ex.1 H.swap
  refine HS.ex.2 ⟨x, HS.star.2 ?_⟩
  rw [hp x]
  refine (HS.star.1 H).perm ?_
  have h1 : ((mL m S g x).eraseIdx i ++ p' :: l) = ((mL m S g x).eraseIdx i ++ [p']) ++ l := by simp
  rw [h1]
  exact (list_put (by simpa [mL] using hi)).append_right l

/-! the cores, the graph -/
theorem mco_open (H : HS (mach m S g :: l) h) : HS (coresA S.cb S.bs g.A :: mhole 2 m S g :: l) h := mach_pick 2 (fun _ => rfl) H
theorem mco_close {A : Int → Prop} (H : HS (coresA S.cb S.bs A :: mhole 2 m S g :: l) h) : HS (mach m S { g with A := A } :: l) h := mach_put (i := 2) (by decide) (fun _ => rfl) H
theorem mgr_open (H : HS (mach m S g :: l) h) : HS (graph S.gb :: mhole 3 m S g :: l) h := mach_pick 3 (fun _ => rfl) H
theorem mgr_close (H : HS (graph S.gb :: mhole 3 m S g :: l) h) : HS (mach m S g :: l) h := mach_put (i := 3) (g' := g) (by decide) (fun _ => rfl) H
/-! a lock -/
theorem mlk_open {i : Nat} {k : LK} (hi : g.ls[i]? = some k) (H : HS (mach m S g :: l) h) : HS (lk k.b k.sh k.ho k.wa :: hole PL g.ls i :: mhole 5 m S g :: l) h :=
  big_at (Q := PL) (mach_pick 5 (fun _ => rfl) H) hi
def putL (g : GS) (i : Nat) (k : LK) : GS := { g with ls := g.ls.set i k }
theorem mlk_close {i : Nat} {k : LK} (hi : g.ls[i]? = some k) {ho wa : List HoT} (H : HS (lk k.b k.sh ho wa :: hole PL g.ls i :: mhole 5 m S g :: l) h) : HS (mach m S (putL g i ⟨k.b, k.sh, ho, wa⟩) :: l) h := by
  have H1 := big_put (Q := PL) (x := ⟨k.b, k.sh, ho, wa⟩) (List.getElem?_eq_some_iff.1 hi).1 H
  refine mach_put (i := 5) (by decide) (fun x => ?_) H1
  have e : (g.ls.set i ⟨k.b, k.sh, ho, wa⟩).map (·.b) = g.ls.map (·.b) := by
    rw [List.map_set]; exact set_same (by rw [List.getElem?_map, hi]; rfl)
  simp [mL, putL, e]
theorem mlk_same {i : Nat} {k : LK} (hi : g.ls[i]? = some k) (H : HS (lk k.b k.sh k.ho k.wa :: hole PL g.ls i :: mhole 5 m S g :: l) h) : HS (mach m S g :: l) h := by
  have := mlk_close hi H
  have e : putL g i ⟨k.b, k.sh, k.ho, k.wa⟩ = g := by
    unfold putL; rw [set_same hi]
  rwa [e] at this
theorem mlk_inv {i : Nat} {k : LK} (hi : g.ls[i]? = some k) (H : HS (mach m S g :: l) h) : ∃ np, LInv k.sh k.ho k.wa np := by
  obtain ⟨np, _, I, _⟩ := lk_open (mlk_open hi H); exact ⟨np, I⟩
theorem ml_sl (H : HS (mach m S g :: l) h) : cell h ((Addr.mk m 0 none).add 8) = some (.slice S.sK.p S.sK.n S.sK.c) ∧ S.sK.n = g.ls.length ∧
    ∀ (i : Int) (k : LK) (B : Option Addr → Prop), 0 ≤ i → g.ls[i.toNat]? = some k → B (some ⟨k.b, 0, none⟩) → pm S.sK.p fun a => 0 ≤ i ∧ i < ((S.sK.n : Nat) : Int) ∧ ldP (a.add (Int.toNat i * 1)) h B := by
  obtain ⟨x, hp, H⟩ := mach_open H
  refine ⟨cf H rfl, by have := row_len (H.pull 3 _ rfl); simpa using this, ?_⟩
  intro i k B h0 hi hB
  exact el1_in (enc := cPt) (a := k.b) (H.pull 3 _ rfl) h0 (by rw [List.getElem?_map, hi]; rfl) rfl (fun c hc hcell => ldP_in hcell hB)
theorem mc_ptr (H : HS (mach m S g :: l) h) : cell h ((Addr.mk m 0 none).add 6) = some (.pointer (some ⟨S.cb, 0, none⟩)) := by
  obtain ⟨x, hp, H⟩ := mach_open H; exact cf H rfl
theorem mg_ptr (H : HS (mach m S g :: l) h) : cell h ((Addr.mk m 0 none).add 10) = some (.pointer (some ⟨S.gb, 0, none⟩)) := by
  obtain ⟨x, hp, H⟩ := mach_open H; exact cf H rfl
theorem mnow (H : HS (mach m S g :: l) h) : cell h ((Addr.mk m 0 none).add 5) = some (.int .u64 g.now) := by
  obtain ⟨x, hp, H⟩ := mach_open H; exact cf H rfl
/-! tasks -/
def putT (g : GS) (i : Nat) (a : TK) : GS := { g with ts := g.ts.set i a }
theorem mt_sl (H : HS (mach m S g :: l) h) : ∃ sT : Sl, cell h ((Addr.mk m 0 none).add 11) = some (.slice sT.p sT.n sT.c) ∧ sT.n = g.ts.length ∧
    ∀ (t : Int) (a : TK) (B : Addr → Prop), 0 ≤ t → g.ts[t.toNat]? = some a →
      (∀ c, (∀ j v, (cT a)[j]? = some v → cell h (((Addr.mk c 0 none).add (Int.toNat t * 12)).add j) = some v) →
        (∀ j v a' K, j < 12 → (cT a).set j v = cT a' → v.oneCell' = true → (∀ h', HS (mach m S (putT g t.toNat a') :: l) h' → K h') → st (((Addr.mk c 0 none).add (Int.toNat t * 12)).add j) v h K) → B ⟨c, 0, none⟩) →
      pm sT.p fun x => 0 ≤ t ∧ t < ((sT.n : Nat) : Int) ∧ B x := by
  obtain ⟨x, hp, H⟩ := mach_open H
  refine ⟨x.sT, cf H rfl, by have := row_len (H.pull 5 _ rfl); simpa using this, ?_⟩
  intro t a B h0 hi hB
  refine el_in (H.pull 5 _ rfl) h0 hi (fun c hc hcell => hB c hcell ?_)
  intro j v a' K hj he hv hk
  refine el_st (H.pull 5 _ rfl) hc hi (a' := a') hj he hv (fun h' H' => hk h' ?_)
  exact mach_close (g := putT g t.toNat a') (x := x) ⟨by simp [putT, hp.vs], hp.idle, hp.bs, hp.nc⟩ (H'.sink 5)
theorem mt_ld {t : Int} {a : TK} {B : Addr → Prop} (H : HS (mach m S g :: l) h) (h0 : 0 ≤ t) (ht : g.ts[t.toNat]? = some a)
    (hB : ∀ c, (∀ j v, (cT a)[j]? = some v → cell h (((Addr.mk c 0 none).add (Int.toNat t * 12)).add j) = some v) →
        (∀ j v a' K, j < 12 → (cT a).set j v = cT a' → v.oneCell' = true → (∀ h', HS (mach m S (putT g t.toNat a') :: l) h' → K h') → st (((Addr.mk c 0 none).add (Int.toNat t * 12)).add j) v h K) → B ⟨c, 0, none⟩) :
    ldS ((Addr.mk m 0 none).add 11) h fun x => pm x.p fun a => 0 ≤ t ∧ t < ((x.n : Nat) : Int) ∧ B a := by
  obtain ⟨sT, c11, n11, at11⟩ := mt_sl H
  exact ldS_in c11 (at11 t a B h0 ht hB)
theorem put_get {i : Nat} {a a' : TK} (hi : g.ts[i]? = some a) : (putT g i a').ts[i]? = some a' := by
  have := (List.getElem?_eq_some_iff.1 hi).1
  simp [putT, this]

/-- an event is told -/
def told (g : GS) (k t lo n : Int) : GS := { g with ev := g.ev ++ [⟨g.now, k, t, lo, n⟩] }
theorem k_tell {k t lo n : Int} {R : Heap → Prop} (H : HS (mach m S g :: l) h) (hb : g.ev.length ≤ 1000000000000) (hk : ∀ h', HS (mach m S (told g k t lo n) :: l) h' → R h') : C_ref26_Machine_tell (some ⟨m, 0, none⟩) k t lo n h R := by
  apply of_ref26_Machine_tell; unfold S_ref26_Machine_tell
  obtain ⟨x, hp, H⟩ := mach_open H
  refine ldS_f H rfl (ldI_f H rfl (alc_in H (fun b24 h H => ⟨cf H.swap rfl, cf H.swap rfl, ?_⟩)))
  have HE := H.pull 8 _ rfl
  refine app_lit (ys := [cE ⟨g.now, k, t, lo, n⟩]) (HE.swap) rfl rfl (by simp [cE]) (by simp [cE, Value.oneCell']) rfl (by simp; omega) (by simp; omega) (fun s2 h H => ?_)
  refine ⟨cf H.swap rfl, ?_⟩
  refine st_f H.swap (by simp [mB]) rfl (fun h H => ?_)
  refine hk h (mach_close (g := told g k t lo n) (x := { x with sE := s2 }) ⟨hp.vs, hp.idle, hp.bs, hp.nc⟩ ?_)
  have H := (H.swap).sink 7
  simpa [mB, told] using H
end
end Go.Proofs.YtbkjeahmbnkmeaaGreat
set_option autoImplicit false
set_option linter.unusedVariables false
namespace Go.Proofs.YtbkjeahmbnkmeaaGreat
open Go Ev

section
variable {m : Nat} {S : ST} {g : GS} {l : List SP} {h : Heap}
theorem k_room {R : Bool → Heap → Prop} (H : HS (mach m S g :: l) h) (hl : g.ts.length ≤ 1000) (k : ∀ b, (b = true → g.ts.length < 64) → R b h) : C_ref26_Machine_room (some ⟨m, 0, none⟩) h R := by
  apply of_ref26_Machine_room; unfold S_ref26_Machine_room
  obtain ⟨sT, c11, n11, at11⟩ := mt_sl H
  refine Lp.inv (I := fun s' h' => h' = h ∧ 0 ≤ s'.2.1 ∧ s'.2.1 ≤ (g.ts.length : Int)) (μ := fun s' _ => ((g.ts.length : Int) - s'.2.1).toNat) ?_ ⟨rfl, by simp, by simp⟩
  rintro ⟨n, i, _⟩ h' ⟨rfl, h0, h1⟩ _
  simp only at h0 h1 ⊢
  refine ldS_in c11 ?_
  by_cases hi : i < ((sT.n : Nat) : Int)
  · rw [if_pos (by simpa using hi)]
    obtain ⟨a, ha⟩ := get_ex h0 (by omega) rfl (l := g.ts) (i := i)
    have hw : IntKind.wrap .i64 (i + 1) = i + 1 := wrap64_in (by omega) (by omega)
    refine ldS_in c11 (at11 i a _ h0 ha (fun c hld _ => ldI_in (hld 6 _ rfl) ?_))
    rw [hw]
    split
    · exact ⟨⟨by simp, by omega, by omega⟩, by omega⟩
    · exact ⟨⟨by simp, by omega, by omega⟩, by omega⟩
  · rw [if_neg (by simpa using hi)]
    split
    · refine ldS_in c11 (k _ (fun hb => ?_))
      simp at hb; omega
    · exact k _ (by simp)
def comer (g : GS) (p gr w c : Int) : GS :=
  { g with ts := g.ts ++ [⟨(g.ts.length : Nat), p, gr, c, 0, 0, 1, 0, -1, w, w, 0⟩], A := fun y => g.A y ∨ y = (g.ts.length : Nat) }
theorem k_come {p gr w c : Int} {R : Heap → Prop} (H : HS (mach m S g :: l) h) (hl : g.ts.length ≤ 1000) (hb : g.ev.length ≤ 1000000000000)
    (k : ∀ h', HS (mach m S (told (comer g p gr w c) 1 (g.ts.length : Nat) (-1) c) :: l) h' → R h') : C_ref26_Machine_come (some ⟨m, 0, none⟩) p gr w c h R := by
  apply of_ref26_Machine_come; unfold S_ref26_Machine_come
  obtain ⟨x, hp, H⟩ := mach_open H
  have hn := row_len (H.pull 5 _ rfl)
  rw [List.length_map] at hn
  have hv := hp.vs
  refine ldS_f H rfl (ldS_f H rfl (alc_in H (fun b28 h H => ?_)))
  have HT := H.pull 6 _ rfl
  refine app_lit (ys := [cT ⟨((x.sT.n : Nat) : Int), p, gr, c, 0, 0, 1, 0, -1, w, w, 0⟩]) HT.swap rfl rfl (by simp [cT]) (by simp [cT, Value.oneCell']) rfl (by simp; omega) (by simp; omega) (fun s2 h H => ?_)
  refine st_f H.swap (by simp [mB]) rfl (fun h H => ?_)
  refine ldS_f H rfl (alc_in H (fun b37 h H => ?_))
  have HV := H.pull 7 _ rfl
  refine app_lit (ys := [cU 0]) HV.swap rfl rfl (cU_len [_]) (cU_one [_]) rfl (by simp; omega) (by simp; omega) (fun s3 h H => ?_)
  refine st_f H.swap (by simp [mB]) rfl (fun h H => ?_)
  refine ldP_f H rfl ?_
  refine k_CAdd (H.pull 3 _ rfl) (fun v e h H => ?_)
  rw [hn]
  refine k_tell (g := comer g p gr w c) ?_ hb k
  have H1 : HS (bk m _ :: row 1 s3 (x.vs.map cU ++ [cU 0]) :: row 12 s2 (g.ts.map cT ++ [cT ⟨((x.sT.n : Nat) : Int), p, gr, c, 0, 0, 1, 0, -1, w, w, 0⟩]) :: coresA S.cb S.bs _ :: _) h := H.sink 3
  have H2 := (H1.pull 1 _ rfl).sink 6
  have H3 := (H2.pull 1 _ rfl).sink 5
  refine mach_close (g := comer g p gr w c) (x := { x with sT := s2, sV := s3, vs := x.vs ++ [0] }) ⟨by simp [comer, hp.vs], hp.idle, hp.bs, hp.nc⟩ ?_
  rw [hn] at H3
  simpa [mB, comer] using H3
theorem k_out {t : Int} {R : Heap → Prop} (H : HS (mach m S g :: l) h) (h0 : 0 ≤ t) (h1 : t < (g.ts.length : Int))
    (k : ∀ h', HS (mach m S { g with A := fun y => g.A y ∧ y ≠ t } :: l) h' → R h') : C_ref26_Machine_out (some ⟨m, 0, none⟩) t h R := by
  apply of_ref26_Machine_out; unfold S_ref26_Machine_out
  refine ldP_in (mc_ptr H) (k_CRemove (mco_open H) (fun v e h H => ?_))
  have H := mco_close H
  split
  · obtain ⟨x, hp, H⟩ := mach_open H
    have hv := hp.vs
    obtain ⟨o, ho⟩ := get_ex h0 h1 hv (l := x.vs)
    refine ldS_f H rfl (el1_in (H.pull 6 _ rfl) h0 ho rfl (fun c hc hcell => ?_))
    refine el1_st (a' := v) (H.pull 6 _ rfl) hc ho rfl rfl rfl (fun h H => ?_)
    refine k h (mach_close (x := { x with vs := x.vs.set t.toNat v }) ⟨by simp; exact hp.vs, hp.idle, hp.bs, hp.nc⟩ (H.sink 6))
  · exact k h H
def waked (a : TK) : TK := { a with state := 1, til := 0, lock := -1 }
theorem k_back {t : Int} {a : TK} {R : Heap → Prop} (H : HS (mach m S g :: l) h) (h0 : 0 ≤ t) (ha : g.ts[t.toNat]? = some a) (hb : g.ev.length ≤ 1000000000000)
    (k : ∀ h', HS (mach m S (told { putT g t.toNat (waked a) with A := fun y => g.A y ∨ y = t } 7 t (-1) a.core) :: l) h' → R h') : C_ref26_Machine_back (some ⟨m, 0, none⟩) t h R := by
  apply of_ref26_Machine_back; unfold S_ref26_Machine_back
  have hlt := (List.getElem?_eq_some_iff.1 ha).1
  refine mt_ld H h0 ha (fun c hld hst => ?_)
  refine hst 6 (.int .i64 1) { a with state := 1 } _ (by decide) rfl rfl (fun h H => ?_)
  refine mt_ld H h0 (put_get ha) (fun c hld hst => ?_)
  refine hst 7 (.int .u64 0) { a with state := 1, til := 0 } _ (by decide) rfl rfl (fun h H => ?_)
  refine mt_ld H h0 (put_get (put_get ha)) (fun c hld hst => ?_)
  refine hst 8 (.int .i64 (-1)) (waked a) _ (by decide) rfl rfl (fun h H => ?_)
  have e : putT (putT (putT g t.toNat { a with state := 1 }) t.toNat { a with state := 1, til := 0 }) t.toNat (waked a) = putT g t.toNat (waked a) := by
    simp [putT]
  rw [e] at H
  obtain ⟨x, hp, H⟩ := mach_open H
  have hv := hp.vs
  have ha2 : (putT g t.toNat (waked a)).ts[t.toNat]? = some (waked a) := put_get ha
  have e2 : (putT g t.toNat (waked a)).ts.length = g.ts.length := by simp [putT]
  rw [e2] at hv
  obtain ⟨o, ho⟩ := get_ex h0 (by omega) hv (l := x.vs)
  refine ldP_f H rfl (ldS_f H rfl (el_in (H.pull 5 _ rfl) h0 ha2 (fun c1 hp1 hc1 => ldI_in (hc1 3 _ rfl) ?_)))
  refine ldS_f H rfl (el1_in (H.pull 6 _ rfl) h0 ho rfl (fun c2 hc2 hcell2 => ldI_in hcell2 ?_))
  refine ldS_f H rfl (el_in (H.pull 5 _ rfl) h0 ha2 (fun c3 hp3 hc3 => ldI_in (hc3 10 _ rfl) ?_))
  refine k_CAdd (H.pull 1 _ rfl) (fun v e h H => ?_)
  have H := H.sink 1
  refine ⟨cf H rfl, cf H rfl, cf H rfl, ?_⟩
  have H : HS (mach m S { putT g t.toNat (waked a) with A := fun y => g.A y ∨ y = t } :: l) h := mach_close (x := x) ⟨hp.vs, hp.idle, hp.bs, hp.nc⟩ H
  refine mt_ld H h0 ha2 (fun c hld hst => ldI_in (hld 3 _ rfl) ?_)
  exact k_tell H hb k
theorem k_holders {i : Int} {kk : LK} {R : Int → Heap → Prop} (H : HS (mach m S g :: l) h) (h0 : 0 ≤ i) (hi : g.ls[i.toNat]? = some kk) (k : ∀ x, U64 x → R x h) : C_ref26_Machine_holders (some ⟨m, 0, none⟩) i h R := by
  apply of_ref26_Machine_holders; unfold S_ref26_Machine_holders
  obtain ⟨c8, n8, at8⟩ := ml_sl H
  refine ldS_in c8 (at8 i kk _ h0 hi ?_)
  obtain ⟨np, tp, I, H⟩ := lk_open (mlk_open hi H)
  have hlen := I.len
  obtain ⟨sl, sH, sW, tu, led, died, H⟩ := lkr_open H
  have hn := row_len H.swap
  rw [List.length_map] at hn
  refine Lp.inv (I := fun s' h' => h' = h ∧ U64 s'.1 ∧ 0 ≤ s'.2.1 ∧ s'.2.1 ≤ (kk.ho.length : Int)) (μ := fun s' _ => ((kk.ho.length : Int) - s'.2.1).toNat) ?_ ⟨rfl, ⟨by decide, by decide⟩, by simp, by simp⟩
  rintro ⟨w, j, _⟩ h' ⟨rfl, hw, j0, j1⟩ _
  simp only at hw j0 j1 ⊢
  refine ldS_f H rfl ?_
  by_cases hj : j < ((sH.n : Nat) : Int)
  · rw [if_pos (by simpa using hj)]
    obtain ⟨y, hy⟩ := get_ex j0 (by omega) rfl (l := kk.ho) (i := j)
    refine ldS_f H rfl (el_in H.swap j0 hy (fun c hc hcell => ldI_in (hcell 0 _ rfl) (k_With ?_)))
    rw [wrap64_in (n := j + 1) (by omega) (by omega)]
    exact ⟨⟨by simp, bWith_u hw, by omega, by omega⟩, by omega⟩
  · rw [if_neg (by simpa using hj)]; exact k _ hw
/-- what an acquire tells: 2 is in it just if a reader came -/
def isR (n : Int) : Bool := n == 2 || n == 3
def rd (k : LK) (y : HoT) : Int × Bool := (y.1, k.sh && (y.2.1 == 0))
theorem k_how {i t : Int} {kk : LK} {R : Int → Heap → Prop} (H : HS (mach m S g :: l) h) (h0 : 0 ≤ i) (hi : g.ls[i.toNat]? = some kk) (ht : ∃ y ∈ kk.ho, y.1 = t)
    (k : ∀ n, (∃ y ∈ kk.ho, y.1 = t ∧ isR n = (rd kk y).2) → R n h) : C_ref26_Machine_how (some ⟨m, 0, none⟩) i t h R := by
  apply of_ref26_Machine_how; unfold S_ref26_Machine_how
  obtain ⟨c8, n8, at8⟩ := ml_sl H
  refine ldS_in c8 (at8 i kk _ h0 hi ?_)
  obtain ⟨np, tp, I, H⟩ := lk_open (mlk_open hi H)
  have hlen := I.len
  obtain ⟨sl, sH, sW, tu, led, died, H⟩ := lkr_open H
  have hn := row_len H.swap
  rw [List.length_map] at hn
  refine Lp.inv (I := fun s' h' => h' = h ∧ 0 ≤ s'.1 ∧ s'.1 ≤ (kk.ho.length : Int) ∧ ∀ y ∈ kk.ho.take s'.1.toNat, y.1 ≠ t) (μ := fun s' _ => ((kk.ho.length : Int) - s'.1).toNat) ?_ ⟨rfl, by simp, by simp, by simp⟩
  rintro ⟨j, _⟩ h' ⟨rfl, j0, j1, j2⟩ _
  simp only at j0 j1 j2 ⊢
  refine ldS_f H rfl ?_
  by_cases hj : j < ((sH.n : Nat) : Int)
  · rw [if_pos (by simpa using hj)]
    obtain ⟨y, hy⟩ := get_ex j0 (by omega) rfl (l := kk.ho) (i := j)
    have hym := List.mem_of_getElem? hy
    refine ldS_f H rfl (el_in H.swap j0 hy (fun c hc hcell => ldI_in (hcell 0 _ rfl) ?_))
    by_cases e : y.1 = t
    · rw [if_pos (by simpa using e)]
      refine jn_cut (I := fun j' h => h = h' ∧ (j'.1 = 0 ∨ j'.1 = 1)) ?_ ?_
      · rintro ⟨d, _⟩ h ⟨rfl, hd⟩
        simp only at hd ⊢
        refine ldB_f H rfl ?_
        split
        · rename_i hsh
          refine ldS_f H rfl (el_in H.swap j0 hy (fun c hc hcell => ldI_in (hcell 1 _ rfl) ?_))
          split
          · rename_i hp0
            refine k _ ⟨y, hym, e, ?_⟩
            rw [wrap64_in (by omega) (by omega)]
            have : (rd kk y).2 = true := by simp [rd, hsh]; simpa using hp0
            rw [this]
            rcases hd with rfl | rfl <;> decide
          · rename_i hp0
            refine k _ ⟨y, hym, e, ?_⟩
            have : (rd kk y).2 = false := by simp [rd, hsh]; simpa using hp0
            rw [this]
            rcases hd with rfl | rfl <;> decide
        · rename_i hsh
          refine k _ ⟨y, hym, e, ?_⟩
          have : (rd kk y).2 = false := by simp [rd, hsh]
          rw [this]
          rcases hd with rfl | rfl <;> decide
      · intro K' hK
        refine ldS_f H rfl (el_in H.swap j0 hy (fun c hc hcell => ldB_in (hcell 2 _ rfl) ?_))
        split
        · exact hK _ _ ⟨rfl, .inr rfl⟩
        · exact hK _ _ ⟨rfl, .inl rfl⟩
    · rw [if_neg (by simpa using e), wrap64_in (n := j + 1) (by omega) (by omega)]
      refine ⟨⟨by simp, by omega, by omega, ?_⟩, by omega⟩
      have e1 : (j + 1).toNat = j.toNat + 1 := by omega
      rw [e1, List.take_add_one, hy]
      intro z hz
      rcases List.mem_append.1 hz with hz | hz
      · exact j2 z hz
      · simp at hz; subst hz; exact e
  · exfalso
    obtain ⟨y, hy, e⟩ := ht
    have e1 : j.toNat = kk.ho.length := by omega
    rw [e1, List.take_length] at j2
    exact j2 y hy e
theorem k_edges {i : Int} {kk : LK} {R : Heap → Prop} (H : HS (mach m S g :: l) h) (h0 : 0 ≤ i) (hi : g.ls[i.toNat]? = some kk) (k : ∀ h', HS (mach m S g :: l) h' → R h') : C_ref26_Machine_edges (some ⟨m, 0, none⟩) i h R := by
  apply of_ref26_Machine_edges; unfold S_ref26_Machine_edges
  obtain ⟨c8, n8, at8⟩ := ml_sl H
  refine ldS_in c8 (at8 i kk _ h0 hi ?_)
  refine Lp.inv (I := fun s' h' => HS (mach m S g :: l) h' ∧ 0 ≤ s'.1 ∧ s'.1 ≤ (kk.wa.length : Int)) (μ := fun s' _ => ((kk.wa.length : Int) - s'.1).toNat) ?_ ⟨H, by simp, by simp⟩
  clear H c8 n8 at8
  rintro ⟨j, _⟩ h ⟨H, j0, j1⟩ _
  simp only at H j0 j1 ⊢
  obtain ⟨x, hp, H1⟩ := mach_open H
  obtain ⟨np, tp, I, H1⟩ := lk_open (big_at (Q := PL) (H1.pull 4 _ rfl) hi)
  have hlen := I.len
  obtain ⟨sl, sH, sW, tu, led, died, H1⟩ := lkr_open H1
  have hn := row_len H1.rot3
  rw [List.length_map] at hn
  refine ldS_f H1 rfl ?_
  by_cases hj : j < ((sW.n : Nat) : Int)
  · rw [if_pos (by simpa using hj)]
    obtain ⟨y, hy⟩ := get_ex j0 (by omega) rfl (l := kk.wa) (i := j)
    refine ldP_in (mg_ptr H) (ldS_f H1 rfl (el_in H1.rot3 j0 hy (fun c hc hcell => ldI_in (hcell 0 _ rfl) ?_)))
    refine k_holders H h0 hi (fun w hw => ⟨hcell 0 _ rfl, cf H1 rfl, mg_ptr H, ?_⟩)
    refine k_GWait (H1.pull 7 _ rfl) hw (fun e h H2 => ?_)
    have H2 := H2.sink 7
    refine ⟨cf H2 rfl, ?_⟩
    rw [wrap64_in (n := j + 1) (by omega) (by omega)]
    have H3 := big_same (Q := PL) hi (lk_close I (lkr_close H2))
    exact ⟨⟨mach_close hp (H3.sink 4), by omega, by omega⟩, by omega⟩
  · rw [if_neg (by simpa using hj)]; exact k _ H
end
end Go.Proofs.YtbkjeahmbnkmeaaGreat
set_option autoImplicit false
set_option linter.unusedVariables false
namespace Go.Proofs.YtbkjeahmbnkmeaaGreat
open Go Ev

/-! what events tell -/
def hst (l : Int) (o : List (Int × Bool)) (e : EV) : List (Int × Bool) :=
  if e.lock = l ∧ (e.kind = 5 ∨ e.kind = 12) then o.filter (fun p => p.1 != e.task) else if e.lock = l ∧ e.kind = 4 then o ++ [(e.task, isR e.n)] else o
def wst (l : Int) (o : List Int) (e : EV) : List Int :=
  if e.kind = 11 then o.filter (fun t => t != e.task) else if e.lock = l ∧ (e.kind = 4 ∨ e.kind = 8) then o.filter (fun t => t != e.task) else if e.lock = l ∧ e.kind = 6 then o ++ [e.task] else o
def oh (ev : List EV) (l : Int) : List (Int × Bool) := ev.foldl (hst l) []
def ow (ev : List EV) (l : Int) : List Int := ev.foldl (wst l) []
theorem oh_snoc (ev : List EV) (e : EV) (l : Int) : oh (ev ++ [e]) l = hst l (oh ev l) e := by simp [oh]
theorem ow_snoc (ev : List EV) (e : EV) (l : Int) : ow (ev ++ [e]) l = wst l (ow ev l) e := by simp [ow]
inductive Good : List EV → Prop
  | nil : Good []
  | snoc {ev : List EV} {e : EV} (h : Good ev) (ht : ∀ e' ∈ ev, e'.time ≤ e.time) (ha : e.kind = 4 → ∀ p ∈ oh ev e.lock, p.1 ≠ e.task → p.2 = true ∧ isR e.n = true) : Good (ev ++ [e])

/-! tasks: what counts -/
structure T5 where
  (prog pc state til lock : Int)
def v5 (a : TK) : T5 := ⟨a.prog, a.pc, a.state, a.til, a.lock⟩
def tkAt {α : Type} (ts : List α) (t : Int) : Option α := if 0 ≤ t then ts[t.toNat]? else none
theorem tkAt_some {α : Type} {ts : List α} {t : Int} {a : α} : tkAt ts t = some a ↔ 0 ≤ t ∧ ts[t.toNat]? = some a := by
  unfold tkAt; split
  · rename_i h; simp [h]
  · rename_i h; simp [h]
theorem tkAt_map {α β : Type} {f : α → β} {ts : List α} {t : Int} : tkAt (ts.map f) t = (tkAt ts t).map f := by
  unfold tkAt; split <;> simp
theorem tkAt_set {α : Type} {ts : List α} {t u : Int} {a : α} (h0 : 0 ≤ t) (h1 : t.toNat < ts.length) : tkAt (ts.set t.toNat a) u = if u = t then some a else tkAt ts u := by
  unfold tkAt
  by_cases hu : 0 ≤ u
  · rw [if_pos hu, if_pos hu]
    by_cases e : u = t
    · subst e; simp [h1]
    · rw [if_neg e]
      have : t.toNat ≠ u.toNat := by omega
      rw [List.getElem?_set_ne this]
  · rw [if_neg hu, if_neg hu, if_neg (by omega)]
def HO (ls : List LK) (l : Int) : List (Int × Bool) := match tkAt ls l with | some k => k.ho.map (rd k) | none => []
def WO (ls : List LK) (l : Int) : List Int := match tkAt ls l with | some k => k.wa.map (·.1) | none => []
theorem HO_at {ls : List LK} {l : Int} {k : LK} (h : tkAt ls l = some k) : HO ls l = k.ho.map (rd k) := by simp [HO, h]
theorem WO_at {ls : List LK} {l : Int} {k : LK} (h : tkAt ls l = some k) : WO ls l = k.wa.map (·.1) := by simp [WO, h]
theorem HO_set {ls : List LK} {i l : Int} {k : LK} (h0 : 0 ≤ i) (h1 : i.toNat < ls.length) : HO (ls.set i.toNat k) l = if l = i then k.ho.map (rd k) else HO ls l := by
  unfold HO; rw [tkAt_set h0 h1]; by_cases e : l = i <;> simp [e]
theorem WO_set {ls : List LK} {i l : Int} {k : LK} (h0 : 0 ≤ i) (h1 : i.toNat < ls.length) : WO (ls.set i.toNat k) l = if l = i then k.wa.map (·.1) else WO ls l := by
  unfold WO; rw [tkAt_set h0 h1]; by_cases e : l = i <;> simp [e]

def isTm (o : OP) : Bool := o.kind == 1 || o.kind == 7 || o.kind == 8 || o.kind == 11
structure PI (S : ST) (nl : Nat) : Prop where
  len : ∀ p ∈ S.ps, 1 ≤ p.ops.length ∧ p.ops.length ≤ 12
  lk : ∀ p ∈ S.ps, ∀ o ∈ p.ops, 2 ≤ o.kind → o.kind ≤ 6 → 0 ≤ o.a ∧ o.a < (nl : Int)
  sp : ∀ p ∈ S.ps, ∀ o ∈ p.ops, o.kind = 9 → 0 ≤ o.a ∧ o.a < (S.ps.length : Int)
  fo : ∀ p ∈ S.ps, p.fo = true → ∃ o ∈ p.ops, isTm o = true
structure TI (S : ST) (nl : Nat) (a : T5) : Prop where
  prog : 0 ≤ a.prog ∧ a.prog < (S.ps.length : Int)
  pc : 0 ≤ a.pc ∧ a.pc ≤ 12
  wt : a.state = 4 → a.pc ≤ 11 ∧ 0 ≤ a.lock ∧ a.lock < (nl : Int)
  til : a.til ≠ 0 → a.state = 3 ∨ a.state = 4
abbrev PH := Int → List (Int × Bool)
abbrev XW := Int → Int → Bool
structure MI (S : ST) (x : XW) (pH : PH) (now : Int) (ls : List LK) (ts : List T5) (ev : List EV) (A : Int → Prop) : Prop where
  pin : PI S ls.length
  len : ts.length ≤ 64
  nl : ls.length ≤ 8
  good : Good ev
  tim : ∀ e ∈ ev, e.time ≤ now
  hol : ∀ l, oh ev l ++ pH l = HO ls l
  wai : ∀ l, (ow ev l).filter (fun t => !x l t) = WO ls l
  tsk : ∀ t a, tkAt ts t = some a → TI S ls.length a
  win : ∀ l k, tkAt ls l = some k → ∀ y ∈ k.wa, ∃ a, tkAt ts y.1 = some a ∧ a.state = 4 ∧ a.lock = l
  qin : ∀ t, A t → ∃ a, tkAt ts t = some a ∧ (a.state = 1 ∨ a.state = 2)
def noX : XW := fun _ _ => false
def noP : PH := fun _ => []
def MIg (S : ST) (x : XW) (pH : PH) (g : GS) : Prop := MI S x pH g.now g.ls (g.ts.map v5) g.ev g.A

section
variable {S : ST} {x : XW} {pH : PH} {now : Int} {ls : List LK} {ts : List T5} {ev : List EV} {A : Int → Prop}
theorem MI.notW (I : MI S x pH now ls ts ev A) {t l : Int} {a : T5} (ht : tkAt ts t = some a) (hs : a.state ≠ 4 ∨ a.lock ≠ l) : t ∉ WO ls l := by
  intro hm
  unfold WO at hm
  cases hk : tkAt ls l with
  | none => rw [hk] at hm; cases hm
  | some k =>
    rw [hk] at hm
    obtain ⟨y, hy, rfl⟩ := List.mem_map.1 hm
    obtain ⟨b, hb, h1, h2⟩ := I.win l k hk y hy
    rw [ht] at hb; simp at hb; subst hb
    rcases hs with h | h
    · exact h h1
    · exact h h2
/-- an event that tells nothing of holds and waits -/
theorem MI.plain (I : MI S x pH now ls ts ev A) (e : EV) (ht : e.time = now) (hk : e.kind ≠ 4 ∧ e.kind ≠ 5 ∧ e.kind ≠ 6 ∧ e.kind ≠ 11 ∧ e.kind ≠ 12) (h8 : e.kind = 8 → e.task ∉ ow ev e.lock) : MI S x pH now ls ts (ev ++ [e]) A := by
  obtain ⟨k4, k5, k6, k11, k12⟩ := hk
  refine { I with good := ?_, tim := ?_, hol := ?_, wai := ?_ }
  · exact .snoc I.good (fun e' he' => by rw [ht]; exact I.tim e' he') (fun h => absurd h k4)
  · intro e' he'
    rcases List.mem_append.1 he' with h | h
    · exact I.tim e' h
    · simp at h; subst h; omega
  · intro l
    rw [oh_snoc, hst, if_neg (fun h => h.2.elim k5 k12), if_neg (fun h => k4 h.2)]
    exact I.hol l
  · intro l
    rw [ow_snoc, wst, if_neg k11]
    by_cases h : e.lock = l ∧ (e.kind = 4 ∨ e.kind = 8)
    · rw [if_pos h]
      have h8' : e.kind = 8 := h.2.resolve_left k4
      have : (ow ev l).filter (fun t => t != e.task) = ow ev l := by
        rw [List.filter_eq_self]
        intro t htm
        have := h8 h8'
        rw [h.1] at this
        simp only [bne_iff_ne]
        rintro rfl; exact this htm
      rw [this]; exact I.wai l
    · rw [if_neg h, if_neg (fun h => k6 h.2)]; exact I.wai l
/-- an acquire of one that waits to be told -/
theorem MI.acq {lock n : Int} {p : Int × Bool} {rest : List (Int × Bool)} {x0 : XW} {k : LK} {np : Nat}
    (I : MI S (fun l t => (l == lock && (p :: rest).any (fun q => q.1 == t)) || x0 l t) (fun l => if l = lock then p :: rest else []) now ls ts ev A)
    (hk : tkAt ls lock = some k) (hL : LInv k.sh k.ho k.wa np) (hn : isR n = p.2) :
    MI S (fun l t => (l == lock && rest.any (fun q => q.1 == t)) || x0 l t) (fun l => if l = lock then rest else []) now ls ts (ev ++ [⟨now, 4, p.1, lock, n⟩]) A := by
  have hH := I.hol lock
  rw [if_pos rfl] at hH
  refine { I with good := ?_, tim := ?_, hol := ?_, wai := ?_ }
  · refine .snoc I.good I.tim (fun _ q hq hne => ?_)
    simp only at hq hne ⊢
    rw [HO_at hk] at hH
    rcases hL.safe with h1 | ⟨hsh, h2⟩
    · have := congrArg List.length hH
      simp at this
      have hq' := List.length_pos_of_mem hq
      omega
    · have all : ∀ z ∈ oh ev lock ++ p :: rest, z.2 = true := by
        rw [hH]
        intro z hz
        obtain ⟨y, hy, rfl⟩ := List.mem_map.1 hz
        simp [rd, hsh, h2 y hy]
      rw [hn]
      exact ⟨all q (List.mem_append_left _ hq), all p (by simp)⟩
  · intro e' he'
    rcases List.mem_append.1 he' with h | h
    · exact I.tim e' h
    · simp at h; subst h; exact Int.le_refl _
  · intro l
    rw [oh_snoc, hst, if_neg (by rintro ⟨_, h | h⟩ <;> simp at h)]
    by_cases e : l = lock
    · subst e
      rw [if_pos ⟨rfl, rfl⟩, if_pos rfl]
      simp only [hn]
      have : (p.1, p.2) = p := rfl
      rw [this, List.append_assoc]
      exact hH
    · rw [if_neg (by rintro ⟨h, _⟩; exact e h.symm), if_neg e]
      have := I.hol l
      rwa [if_neg e] at this
  · intro l
    rw [ow_snoc, wst, if_neg (by simp)]
    have hw := I.wai l
    by_cases e : l = lock
    · subst e
      rw [if_pos ⟨rfl, .inl rfl⟩, List.filter_filter, ← hw]
      apply List.filter_congr
      intro t _
      simp only [beq_self_eq_true, Bool.true_and, List.any_cons]
      have : (t != p.1) = !(p.1 == t) := by
        rw [bne, Bool.beq_comm]
      rw [this]
      cases (p.1 == t) <;> simp
    · rw [if_neg (by rintro ⟨h, _⟩; exact e h.symm), if_neg (by rintro ⟨_, h⟩; simp at h), ← hw]
      have : (l == lock) = false := by simpa using e
      simp only [this, Bool.false_and, Bool.false_or]
/-- one task is otherwise -/
theorem MI.task {A' : Int → Prop} (I : MI S x pH now ls ts ev A) {t : Int} {a a' : T5} (ht : tkAt ts t = some a) (hT : TI S ls.length a') (hw : (∀ l, t ∉ WO ls l) ∨ (a'.state = a.state ∧ a'.lock = a.lock))
    (hA : ∀ u, A' u → (A u ∧ u ≠ t) ∨ (u = t ∧ (a'.state = 1 ∨ a'.state = 2))) : MI S x pH now ls (ts.set t.toNat a') ev A' := by
  obtain ⟨h0, h1⟩ := tkAt_some.1 ht
  have hlt := (List.getElem?_eq_some_iff.1 h1).1
  refine { I with len := by simpa using I.len, tsk := ?_, win := ?_, qin := ?_ }
  · intro u b hb
    rw [tkAt_set h0 hlt] at hb
    split at hb
    · simp at hb; subst hb; exact hT
    · exact I.tsk u b hb
  · intro l k hk y hy
    obtain ⟨b, hb, h2, h3⟩ := I.win l k hk y hy
    rw [tkAt_set h0 hlt]
    by_cases e : y.1 = t
    · rcases hw with hw | ⟨hs, hl⟩
      · exact absurd (by rw [WO_at hk, ← e]; exact List.mem_map_of_mem hy) (hw l)
      · rw [if_pos e]
        rw [e, ht] at hb; simp at hb; subst hb
        exact ⟨a', rfl, hs.trans h2, hl.trans h3⟩
    · rw [if_neg e]; exact ⟨b, hb, h2, h3⟩
  · intro u hu
    rw [tkAt_set h0 hlt]
    rcases hA u hu with ⟨h, hne⟩ | ⟨rfl, hs⟩
    · obtain ⟨b, hb, h2⟩ := I.qin u h
      rw [if_neg hne]; exact ⟨b, hb, h2⟩
    · rw [if_pos rfl]; exact ⟨a', rfl, hs⟩
theorem MI.lessA {A' : Int → Prop} (I : MI S x pH now ls ts ev A) (hA : ∀ u, A' u → A u) : MI S x pH now ls ts ev A' := { I with qin := fun u hu => I.qin u (hA u hu) }
/-- a lock is otherwise, and something may have been told -/
theorem MI.lock {x' : XW} {pH' : PH} {lo : Int} {k k' : LK} {ev' : List EV} (I : MI S x pH now ls ts ev A) (hk : tkAt ls lo = some k) (hg : Good ev') (ht : ∀ e ∈ ev', e.time ≤ now)
    (hH : ∀ l, oh ev' l ++ pH' l = if l = lo then k'.ho.map (rd k') else HO ls l) (hW : ∀ l, (ow ev' l).filter (fun t => !x' l t) = if l = lo then k'.wa.map (·.1) else WO ls l)
    (hwin : ∀ y ∈ k'.wa, ∃ a, tkAt ts y.1 = some a ∧ a.state = 4 ∧ a.lock = lo) : MI S x' pH' now (ls.set lo.toNat k') ts ev' A := by
  obtain ⟨h0, h1⟩ := tkAt_some.1 hk
  have hlt := (List.getElem?_eq_some_iff.1 h1).1
  have hlen : (ls.set lo.toNat k').length = ls.length := by simp
  refine ⟨by rw [hlen]; exact I.pin, I.len, by rw [hlen]; exact I.nl, hg, ht, ?_, ?_, by rw [hlen]; exact I.tsk, ?_, I.qin⟩
  · intro l; rw [HO_set h0 hlt]; exact hH l
  · intro l; rw [WO_set h0 hlt]; exact hW l
  · intro l kk hkk y hy
    rw [tkAt_set h0 hlt] at hkk
    split at hkk
    · rename_i e; simp at hkk; subst hkk; rw [e]; exact hwin y hy
    · exact I.win l kk hkk y hy
theorem MI.tell (I : MI S x pH now ls ts ev A) (e : EV) (ht : e.time = now) (hk : e.kind ≠ 4) : Good (ev ++ [e]) ∧ ∀ e' ∈ ev ++ [e], e'.time ≤ now := by
  refine ⟨.snoc I.good (fun e' he' => by rw [ht]; exact I.tim e' he') (fun h => absurd h hk), fun e' he' => ?_⟩
  rcases List.mem_append.1 he' with h | h
  · exact I.tim e' h
  · simp at h; subst h; omega
/-- who is dead waits no more -/
theorem MI.exit {t lo n : Int} (I : MI S (fun _ u => u == t) noP now ls ts ev A) : MI S noX noP now ls ts (ev ++ [⟨now, 11, t, lo, n⟩]) A := by
  obtain ⟨h1, h2⟩ := I.tell ⟨now, 11, t, lo, n⟩ rfl (by simp)
  refine { I with good := h1, tim := h2, hol := ?_, wai := ?_ }
  · intro l
    rw [oh_snoc, hst, if_neg (by simp), if_neg (by simp)]
    exact I.hol l
  · intro l
    rw [ow_snoc, wst, if_pos rfl, ← I.wai l]
    rw [List.filter_eq_self.2 (by simp [noX])]
    apply List.filter_congr
    intro u _; rfl
theorem rd_filter (k : LK) (t : Int) (ho : List HoT) : (ho.map (rd k)).filter (fun p => p.1 != t) = (rm t ho).map (rd k) := by
  rw [List.filter_map]; rfl
/-- the waits of a lock, some of whom hold it now -/
theorem wai_on {w : List Int} {X : Int → Bool} {wa wa' g : List HoT} {k : LK} (h : w.filter (fun u => !X u) = wa.map (·.1)) (hw : wa' = wa.filter (fun y => !mem1 g y.1)) :
    w.filter (fun u => !((g.map (rd k)).any (fun q => q.1 == u) || X u)) = wa'.map (·.1) := by
  have h1 : w.filter (fun u => !((g.map (rd k)).any (fun q => q.1 == u) || X u)) = (w.filter (fun u => !X u)).filter (fun u => !mem1 g u) := by
    rw [List.filter_filter]
    apply List.filter_congr
    intro u _
    have : (g.map (rd k)).any (fun q => q.1 == u) = mem1 g u := by rw [List.any_map]; rfl
    rw [this]
    cases mem1 g u <;> cases X u <;> rfl
  rw [h1, h, hw, List.filter_map]; rfl
/-- whom it is given to -/
theorem MI.given {lo : Int} {k : LK} {np : Nat} {g wa1 wa' : List HoT} (I : MI S x pH now ls ts ev A) (hk : tkAt ls lo = some k) (hL : LInv k.sh k.ho k.wa np) (hs : wa1.Sublist k.wa) (G : Gr wa1 g wa') :
    (∀ p ∈ g.map (rd k), ∃ a, tkAt ts p.1 = some a ∧ a.state = 4 ∧ a.lock = lo) ∧ ((g.map (rd k)).map (·.1)).Nodup ∧ g.length ≤ 8 ∧ (∀ y ∈ wa', y ∈ k.wa) ∧ (∀ p ∈ g, ∃ y ∈ wa1, y.1 = p.1) := by
  have hm : ∀ p ∈ g, ∃ y ∈ wa1, y.1 = p.1 := by
    intro p hp
    obtain ⟨y, hy, e⟩ := List.mem_map.1 (G.sub.subset (List.mem_map_of_mem hp))
    exact ⟨y, hy, congrArg (fun z : Int × Int => z.1) e⟩
  refine ⟨?_, ?_, ?_, ?_, hm⟩
  · intro p hp
    obtain ⟨q, hq, rfl⟩ := List.mem_map.1 hp
    obtain ⟨y, hy, e⟩ := hm q hq
    obtain ⟨a, ha, h1, h2⟩ := I.win lo k hk y (hs.subset hy)
    exact ⟨a, by rw [show (rd k q).1 = q.1 from rfl, ← e]; exact ha, h1, h2⟩
  · have h1 : ((g.map key).map (·.1)).Sublist ((wa1.map key).map (·.1)) := G.sub.map _
    rw [List.map_map, List.map_map] at h1
    have h2 : (wa1.map (·.1)).Nodup := List.Sublist.nodup (hs.map _) hL.nodW
    rw [List.map_map]
    exact List.Sublist.nodup h1 h2
  · have h1 := G.sub.length_le
    simp only [List.length_map] at h1
    exact Nat.le_trans h1 (Nat.le_trans hs.length_le hL.w8)
  · intro y hy
    rw [G.rest] at hy
    exact hs.subset (List.mem_filter.1 hy).1
end
end Go.Proofs.YtbkjeahmbnkmeaaGreat
set_option autoImplicit false
set_option linter.unusedVariables false
namespace Go.Proofs.YtbkjeahmbnkmeaaGreat
open Go Ev

structure GFr (g g' : GS) (gr : List (Int × Bool)) : Prop where
  ls : g'.ls = g.ls
  now : g'.now = g.now
  len : g'.ts.length = g.ts.length
  same : ∀ t, (∀ p ∈ gr, p.1 ≠ t) → tkAt g'.ts t = tkAt g.ts t
  A : ∀ t, g'.A t → g.A t ∨ ∃ p ∈ gr, p.1 = t
  keep : ∀ t, g.A t → g'.A t
  ev : g'.ev.length = g.ev.length + 2 * gr.length
theorem nodup_inj {l : List HoT} (h : (l.map (·.1)).Nodup) {y z : HoT} (hy : y ∈ l) (hz : z ∈ l) (e : y.1 = z.1) : y = z := by
  induction l with
  | nil => cases hy
  | cons a l ih =>
    simp only [List.map_cons, List.nodup_cons] at h
    rcases List.mem_cons.1 hy with e1 | hy <;> rcases List.mem_cons.1 hz with e2 | hz
    · rw [e1, e2]
    · exact absurd (by rw [← e1, e]; exact List.mem_map_of_mem hz) h.1
    · exact absurd (by rw [← e2, ← e]; exact List.mem_map_of_mem hy) h.1
    · exact ih h.2 hy hz
theorem v5_at {ts : List TK} {t : Int} {a : TK} (h : tkAt ts t = some a) : tkAt (ts.map v5) t = some (v5 a) := by rw [tkAt_map, h]; rfl
theorem MI.congr {S : ST} {x x' : XW} {pH pH' : PH} {now : Int} {ls : List LK} {ts : List T5} {ev : List EV} {A : Int → Prop} (I : MI S x pH now ls ts ev A) (hx : x = x') (hp : pH = pH') : MI S x' pH' now ls ts ev A := by subst hx hp; exact I
section
variable {m : Nat} {S : ST} {g : GS} {l : List SP} {h : Heap}
theorem mlk_inv' {lo : Int} {k : LK} (hk : tkAt g.ls lo = some k) (H : HS (mach m S g :: l) h) : ∃ np, LInv k.sh k.ho k.wa np := mlk_inv (tkAt_some.1 hk).2 H
theorem mt_pc {t : Int} {a : TK} {K : Heap → Prop} (H : HS (mach m S g :: l) h) (h0 : 0 ≤ t) (ha : g.ts[t.toNat]? = some a) (hw : 0 ≤ a.pc ∧ a.pc ≤ 100) (hk : ∀ h', HS (mach m S (putT g t.toNat { a with pc := a.pc + 1 }) :: l) h' → K h') :
    ldS ((Addr.mk m 0 none).add 11) h fun x => pm x.p fun a' => 0 ≤ t ∧ t < ((x.n : Nat) : Int) ∧ ldI .i64 ((a'.add (Int.toNat t * 12)).add 4) h fun x33 => pm x.p fun a'' => 0 ≤ t ∧ t < ((x.n : Nat) : Int) ∧ st ((a''.add (Int.toNat t * 12)).add 4) (.int .i64 (IntKind.wrap .i64 (x33 + 1))) h K := by
  obtain ⟨sT, c11, n11, at11⟩ := mt_sl H
  refine ldS_in c11 (at11 t a _ h0 ha (fun c hld _ => ldI_in (hld 4 _ rfl) (at11 t a _ h0 ha (fun c hld hst => hst 4 _ { a with pc := a.pc + 1 } K (by decide) ?_ rfl hk))))
  rw [wrap64_in (by omega) (by omega)]; rfl
theorem k_give {lock : Int} {k : LK} {gr : List (Int × Bool)} {s : Sl} {x0 : XW} {R : Heap → Prop} (H : HS (mach m S g :: row 1 s ((gr.map (·.1)).map cI) :: l) h) (hk : tkAt g.ls lock = some k)
    (I : MIg S (fun l t => (l == lock && gr.any (fun q => q.1 == t)) || x0 l t) (fun l => if l = lock then gr else []) g)
    (hgr : ∀ p ∈ gr, ∃ a, tkAt g.ts p.1 = some a ∧ a.state = 4 ∧ a.lock = lock) (hnd : (gr.map (·.1)).Nodup) (hb : g.ev.length + 2 * gr.length ≤ 1000000000000) (hgl : gr.length ≤ 1000)
    (kk : ∀ g' h', HS (mach m S g' :: row 1 s ((gr.map (·.1)).map cI) :: l) h' → MIg S x0 noP g' → GFr g g' gr → R h') : C_ref26_Machine_give (some ⟨m, 0, none⟩) lock s h R := by
  apply of_ref26_Machine_give; unfold S_ref26_Machine_give
  have hsn := row_len H.swap
  rw [List.length_map, List.length_map] at hsn
  refine Lp.rel (I := fun n s' h' => ∃ g1 don rest, gr = don ++ rest ∧ n = rest.length ∧ s'.1 = (don.length : Int) ∧ HS (mach m S g1 :: row 1 s ((gr.map (·.1)).map cI) :: l) h' ∧
      MIg S (fun l t => (l == lock && rest.any (fun q => q.1 == t)) || x0 l t) (fun l => if l = lock then rest else []) g1 ∧
      (∀ p ∈ rest, ∃ a, tkAt g1.ts p.1 = some a ∧ a.state = 4 ∧ a.lock = lock) ∧ GFr g g1 don) (n := gr.length) ?_
      ⟨g, [], gr, rfl, rfl, rfl, H, I, hgr, ⟨rfl, rfl, rfl, fun _ _ => rfl, fun _ h => .inl h, fun _ h => h, rfl⟩⟩
  clear H I hgr
  rintro n ⟨i, _⟩ h ⟨g1, don, rest, hgr', hn, hi, H, I, hrest, F⟩ _
  simp only at hi ⊢
  have hglen : gr.length = don.length + rest.length := by rw [hgr', List.length_append]
  have hk1 : tkAt g1.ls lock = some k := by rw [F.ls]; exact hk
  obtain ⟨hl0, hl1⟩ := tkAt_some.1 hk1
  cases rest with
  | nil =>
    simp only [List.length_nil, Nat.add_zero] at hglen
    rw [if_neg (by simp; omega)]
    refine k_edges H hl0 hl1 (fun h H => kk g1 h H (I.congr ?_ ?_) ?_)
    · funext l t; simp
    · funext l; simp [noP]
    · have : don = gr := by simpa using hgr'.symm
      rwa [this] at F
  | cons p rest =>
    simp only [List.length_cons] at hglen hn
    rw [if_pos (by simp; omega)]
    have hget : (gr.map (·.1))[i.toNat]? = some p.1 := by
      rw [hi, Int.toNat_natCast, hgr']; simp
    refine el1_in (i := i) H.swap (by omega) hget rfl (fun c hc hcell => ldI_in hcell ?_)
    obtain ⟨np, hL⟩ := mlk_inv' hk1 H
    have hH := I.hol lock
    rw [if_pos rfl, HO_at hk1] at hH
    have hpm : p ∈ k.ho.map (rd k) := by rw [← hH]; simp
    obtain ⟨y, hy, hyp⟩ := List.mem_map.1 hpm
    have hyt : y.1 = p.1 := by rw [← hyp]; rfl
    refine k_how H hl0 hl1 ⟨y, hy, hyt⟩ (fun nn hnn => ?_)
    obtain ⟨z, hz, hzt, hzr⟩ := hnn
    have hzy := nodup_inj hL.nodH hz hy (hzt.trans hyt.symm)
    subst hzy
    have hR : isR nn = p.2 := by rw [hzr, hyp]
    have hev := F.ev
    refine k_tell H (by omega) (fun h H => ?_)
    have I1 := MI.acq I hk1 hL hR
    obtain ⟨a, ha, hs4, halo⟩ := hrest p (by simp)
    obtain ⟨p0, ha'⟩ := tkAt_some.1 ha
    have hTI := I.tsk _ _ (v5_at ha)
    have hwt := hTI.wt hs4
    have hpc := hTI.pc
    simp only [v5] at hwt hpc hTI
    have hlen64 := I.len
    rw [List.length_map] at hlen64
    have hlt := (List.getElem?_eq_some_iff.1 ha').1
    refine mt_pc (g := told g1 4 p.1 lock nn) H p0 ha' (by omega) (fun h H => ?_)
    refine ldP_in (mg_ptr H) (k_Out0 (mgr_open H) p0 (by omega) (fun h H => ?_))
    have H := mgr_close H
    refine k_back H p0 (put_get ha') (by simp [putT, told]; omega) (fun h H => ?_)
    rw [hi, wrap64_in (by omega) (by omega)]
    refine ⟨rest.length, by omega, _, don ++ [p], rest, by simp [hgr'], rfl, by simp, H, ?_, ?_, ?_⟩
    · have hpno : ∀ l, p.1 ∉ WO g1.ls l := by
        intro l
        by_cases e : l = lock
        · rw [e, WO_at hk1]
          intro hm
          obtain ⟨w, hw, hwt⟩ := List.mem_map.1 hm
          have hnn := hL.nod
          rw [List.map_append, List.nodup_append] at hnn
          exact hnn.2.2 _ (List.mem_map_of_mem hz) _ (List.mem_map_of_mem hw) (hzt.trans hwt.symm)
        · exact I.notW (v5_at ha) (.inr (by simp only [v5, halo]; exact fun h => e h.symm))
      have I2 := I1.task (A' := fun y => g1.A y ∨ y = p.1) (a' := v5 (waked { a with pc := a.pc + 1 })) (v5_at ha) ⟨hTI.prog, by simp [v5, waked]; omega, by simp [v5, waked], by simp [v5, waked]⟩ (.inl hpno)
        (fun u hu => by
          by_cases e : u = p.1
          · exact .inr ⟨e, .inl rfl⟩
          · exact .inl ⟨hu.resolve_right e, e⟩)
      have I3 := I2.plain ⟨g1.now, 7, p.1, -1, a.core⟩ rfl (by simp) (by simp)
      have e : ((g1.ts.set p.1.toNat { a with pc := a.pc + 1 }).set p.1.toNat (waked { a with pc := a.pc + 1 })).map v5 = (g1.ts.map v5).set p.1.toNat (v5 (waked { a with pc := a.pc + 1 })) := by
        rw [List.set_set, List.map_set]
      simp only [MIg, told, putT, e]
      exact I3
    · intro q hq
      obtain ⟨b, hb', h4, hlo⟩ := hrest q (by simp [hq])
      have hne : q.1 ≠ p.1 := by
        rw [hgr', List.map_append, List.nodup_append] at hnd
        have := hnd.2.1
        simp only [List.map_cons, List.nodup_cons] at this
        intro e
        exact this.1 (e ▸ List.mem_map_of_mem hq)
      refine ⟨b, ?_, h4, hlo⟩
      simp only [told, putT]
      rw [List.set_set, tkAt_set p0 hlt, if_neg hne]; exact hb'
    · refine ⟨F.ls, F.now, by simp [told, putT, F.len], ?_, ?_, fun t ht => .inl (F.keep t ht), by simp [told, putT]; omega⟩
      · intro t ht
        simp only [told, putT]
        rw [List.set_set, tkAt_set p0 hlt, if_neg (fun e => ht p (by simp) e.symm)]
        exact F.same t (fun q hq => ht q (by simp [hq]))
      · intro t ht
        rcases ht with ht | rfl
        · rcases F.A t ht with h | ⟨q, hq, e⟩
          · exact .inl h
          · exact .inr ⟨q, by simp [hq], e⟩
        · exact .inr ⟨p, by simp, rfl⟩
end
end Go.Proofs.YtbkjeahmbnkmeaaGreat
set_option autoImplicit false
set_option linter.unusedVariables false
namespace Go.Proofs.YtbkjeahmbnkmeaaGreat
open Go Ev

section
variable {m : Nat} {S : ST} {g : GS} {l : List SP} {h : Heap}
theorem lkat_put {ls : List LK} {lo : Int} {k k' : LK} (hk : tkAt ls lo = some k) : tkAt (ls.set lo.toNat k') lo = some k' := by
  obtain ⟨h0, h1⟩ := tkAt_some.1 hk
  rw [tkAt_set h0 (List.getElem?_eq_some_iff.1 h1).1, if_pos rfl]
theorem WO_mono {ls : List LK} {lo : Int} {k k' : LK} (hk : tkAt ls lo = some k) (hs : ∀ y ∈ k'.wa, y ∈ k.wa) {t l : Int} (h : t ∉ WO ls l) : t ∉ WO (ls.set lo.toNat k') l := by
  obtain ⟨h0, h1⟩ := tkAt_some.1 hk
  rw [WO_set h0 (List.getElem?_eq_some_iff.1 h1).1]
  split
  · rename_i e
    subst e
    intro hm
    obtain ⟨y, hy, rfl⟩ := List.mem_map.1 hm
    exact h (by rw [WO_at hk]; exact List.mem_map_of_mem (hs y hy))
  · exact h
theorem rd_fst (k : LK) (gH : List HoT) : (gH.map (rd k)).map (·.1) = gH.map (·.1) := by rw [List.map_map]; rfl
/-- what stays, whatever is given -/
structure FrG (g g' : GS) (c : Nat) : Prop where
  now : g'.now = g.now
  nl : g'.ls.length = g.ls.length
  nt : g'.ts.length = g.ts.length
  ev : g'.ev.length ≤ g.ev.length + c
def dead (a : TK) : TK := { a with state := 5, til := 0, lock := -1, left := 0 }
theorem k_mdie {t : Int} {a : TK} {R : Heap → Prop} (H : HS (mach m S g :: l) h) (I : MIg S noX noP g) (ha : tkAt g.ts t = some a) (hb : g.ev.length + 400 ≤ 1000000000000)
    (kk : ∀ g' h', HS (mach m S g' :: l) h' → MIg S noX noP g' → FrG g g' 400 → R h') : C_ref26_Machine_die (some ⟨m, 0, none⟩) t h R := by
  apply of_ref26_Machine_die; unfold S_ref26_Machine_die
  obtain ⟨t0, ha'⟩ := tkAt_some.1 ha
  have hlen64 : g.ts.length ≤ 64 := by have := I.len; simpa using this
  have hlt := (List.getElem?_eq_some_iff.1 ha').1
  have hnl := I.nl
  refine jn_cut (I := fun _ h => ∃ g1, HS (mach m S g1 :: l) h ∧ MIg S (fun _ u => u == t) noP g1 ∧ tkAt g1.ts t = some a ∧ (∀ lo, t ∉ WO g1.ls lo) ∧ FrG g g1 20) ?_ ?_
  · clear H I ha'
    rintro _ h ⟨g1, H, I, ha1, hno, F⟩
    obtain ⟨_, ha1'⟩ := tkAt_some.1 ha1
    refine ldP_in (mg_ptr H) (k_Out0 (mgr_open H) t0 (by omega) (fun h H => ?_))
    have H := mgr_close H
    have hev1 := F.ev
    refine Lp.inv (I := fun s' h' => ∃ g2, HS (mach m S g2 :: l) h' ∧ MIg S (fun _ u => u == t) noP g2 ∧ tkAt g2.ts t = some a ∧ (∀ lo, t ∉ WO g2.ls lo) ∧ 0 ≤ s'.1 ∧ s'.1 ≤ (g2.ls.length : Int) ∧ g2.ls.length = g.ls.length ∧ g2.ts.length = g.ts.length ∧ g2.now = g.now ∧ (g2.ev.length : Int) ≤ g1.ev.length + 17 * s'.1)
      (μ := fun s' _ => ((g.ls.length : Int) - s'.1).toNat) ?_ ⟨g1, H, I, ha1, hno, by simp, by simp, F.nl, F.nt, F.now, by simp⟩
    clear H I ha1 hno ha1'
    rintro ⟨i, _⟩ h ⟨g2, H, I, ha2, hno, i0, i1, enl, ent, enow, hev⟩ _
    simp only at i0 i1 hev ⊢
    obtain ⟨c8, n8, at8⟩ := ml_sl H
    refine ldS_in c8 ?_
    by_cases hi : i < ((S.sK.n : Nat) : Int)
    · rw [if_pos (by simpa using hi)]
      obtain ⟨k, hk'⟩ := get_ex i0 (by omega) rfl (l := g2.ls) (i := i)
      have hk : tkAt g2.ls i = some k := tkAt_some.2 ⟨i0, hk'⟩
      have hw : IntKind.wrap .i64 (i + 1) = i + 1 := wrap64_in (by omega) (by omega)
      refine ldS_in c8 (at8 i k _ i0 hk' ?_)
      obtain ⟨np, tp, hL, HL⟩ := lk_open (mlk_open hk' H)
      have hlenk := hL.len
      refine k_Holds HL (by omega) ?_
      split
      · rename_i hh
        refine k_tell H (by omega) (fun h H => ?_)
        obtain ⟨c8, n8, at8⟩ := ml_sl H
        refine ldS_in c8 (at8 i k _ i0 hk' ?_)
        have hwt : ∀ y ∈ k.wa, y.1 ≠ t := fun y hy e => hno i (by rw [WO_at hk, ← e]; exact List.mem_map_of_mem hy)
        have hht : ∃ y ∈ k.ho, y.1 = t := by
          obtain ⟨y, hy, e⟩ := List.any_eq_true.1 hh
          exact ⟨y, hy, by simpa using e⟩
        refine k_Die (mlk_open (g := told g2 12 t i 0) hk' H) hwt hht (fun gH s wa' h H G => ?_)
        have H := mlk_close (g := told g2 12 t i 0) hk' (H.sink 3)
        obtain ⟨q1, q2, q3, q4, q5⟩ := I.given hk hL (List.Sublist.refl _) G
        have e1 : ((gH.map (rd k)).map (·.1)).map cI = (gH.map (·.1)).map cI := by rw [rd_fst]
        have I2 : MIg S (fun l u => (l == i && (gH.map (rd k)).any (fun q => q.1 == u)) || u == t) (fun l => if l = i then gH.map (rd k) else []) (putL (told g2 12 t i 0) i.toNat ⟨k.b, k.sh, rm t k.ho ++ gH, wa'⟩) := by
          obtain ⟨gd, tm⟩ := I.tell ⟨g2.now, 12, t, i, 0⟩ rfl (by simp)
          refine MI.lock (ev' := g2.ev ++ [⟨g2.now, 12, t, i, 0⟩]) I hk gd tm ?_ ?_ ?_
          · intro lo
            rw [oh_snoc, hst]
            have := I.hol lo
            rw [show noP lo = [] from rfl, List.append_nil] at this
            by_cases e : lo = i
            · rw [e] at this ⊢
              rw [if_pos ⟨rfl, .inr rfl⟩, if_pos rfl, if_pos rfl, this, HO_at hk, List.map_append]
              rw [rd_filter]; rfl
            · rw [if_neg (by rintro ⟨h, _⟩; exact e h.symm), if_neg (by rintro ⟨h, _⟩; exact e h.symm), if_neg e, if_neg e, List.append_nil]; exact this
          · intro lo
            rw [ow_snoc, wst, if_neg (by simp), if_neg (by rintro ⟨_, h | h⟩ <;> simp at h), if_neg (by rintro ⟨_, h⟩; simp at h)]
            have := I.wai lo
            by_cases e : lo = i
            · rw [e] at this ⊢
              rw [if_pos rfl]
              simp only [beq_self_eq_true, Bool.true_and]
              rw [WO_at hk] at this
              exact wai_on (X := fun u => u == t) this G.rest
            · rw [if_neg e]
              have hb : (lo == i) = false := by simpa using e
              simp only [hb, Bool.false_and, Bool.false_or]
              exact this
          · intro y hy
            exact I.win i k hk y (q4 y hy)
        rw [← e1] at H
        have hk3 : tkAt (putL (told g2 12 t i 0) i.toNat ⟨k.b, k.sh, rm t k.ho ++ gH, wa'⟩).ls i = some ⟨k.b, k.sh, rm t k.ho ++ gH, wa'⟩ := lkat_put hk
        refine k_give H hk3 I2 ?_ q2 (by simp [putL, told]; omega) (by simp; omega) (fun g3 h H I3 F3 => ?_)
        · intro p hp
          obtain ⟨b, hb1, hb2, hb3⟩ := q1 p hp
          rw [tkAt_map] at hb1
          obtain ⟨b', hb', rfl⟩ := Option.map_eq_some_iff.1 hb1
          exact ⟨b', hb', hb2, hb3⟩
        · rw [hw]
          have hev3 := F3.ev
          simp only [putL, told, List.length_append, List.length_cons, List.length_nil, List.length_map] at hev3
          have hls3 : g3.ls = g2.ls.set i.toNat ⟨k.b, k.sh, rm t k.ho ++ gH, wa'⟩ := F3.ls
          have hlen3 : g3.ls.length = g2.ls.length := by rw [hls3, List.length_set]
          have hts3 := F3.len
          simp only [putL, told] at hts3
          refine ⟨⟨g3, H.del 1, I3, ?_, ?_, by omega, by omega, by omega, by omega, ?_, by omega⟩, by omega⟩
          · have := F3.same t (fun p hp e => ?_)
            · rw [this]; exact ha2
            · obtain ⟨q, hq, rfl⟩ := List.mem_map.1 hp
              obtain ⟨y, hy, e2⟩ := q5 q hq
              exact hwt y hy (e2.trans e)
          · intro lo; rw [hls3]; exact WO_mono hk q4 (hno lo)
          · rw [F3.now]; exact enow
      · rw [hw]
        exact ⟨⟨g2, H, I, ha2, hno, by omega, by omega, enl, ent, enow, by omega⟩, by omega⟩
    · rw [if_neg (by simpa using hi)]
      obtain ⟨_, ha2'⟩ := tkAt_some.1 ha2
      refine k_out H t0 (by omega) (fun h H => ?_)
      refine mt_ld H t0 ha2' (fun c hld hst => ?_)
      refine hst 6 (.int .i64 5) { a with state := 5 } _ (by decide) rfl rfl (fun h H => ?_)
      refine mt_ld H t0 (put_get ha2') (fun c hld hst => ?_)
      refine hst 7 (.int .u64 0) { a with state := 5, til := 0 } _ (by decide) rfl rfl (fun h H => ?_)
      refine mt_ld H t0 (put_get (put_get ha2')) (fun c hld hst => ?_)
      refine hst 8 (.int .i64 (-1)) { a with state := 5, til := 0, lock := -1 } _ (by decide) rfl rfl (fun h H => ?_)
      refine mt_ld H t0 (put_get (put_get (put_get ha2'))) (fun c hld hst => ?_)
      refine hst 5 (.int .i64 0) (dead a) _ (by decide) rfl rfl (fun h H => ?_)
      refine k_tell H (by simp [putT]; omega) (fun h H => ?_)
      refine kk _ h H ?_ ⟨enow, enl, by simp [told, putT, ent], by simp [told, putT]; omega⟩
      have hTI := I.tsk _ _ (v5_at ha2)
      have I2 := I.task (A' := fun y => g2.A y ∧ y ≠ t) (a' := v5 (dead a)) (v5_at ha2) ⟨hTI.prog, hTI.pc, by simp [v5, dead], by simp [v5, dead]⟩ (.inl hno) (fun u hu => .inl hu)
      have I3 := I2.exit (lo := -1) (n := 0)
      have e : ((((g2.ts.set t.toNat { a with state := 5 }).set t.toNat { a with state := 5, til := 0 }).set t.toNat { a with state := 5, til := 0, lock := -1 }).set t.toNat (dead a)).map v5 = (g2.ts.map v5).set t.toNat (v5 (dead a)) := by
        rw [List.set_set, List.set_set, List.set_set, List.map_set]
      simp only [MIg, told, putT, e]
      exact I3
  · intro K' hK
    refine mt_ld H t0 ha' (fun c hld hst => ldI_in (hld 6 _ rfl) ?_)
    by_cases h4 : a.state = 4
    · rw [if_pos (by simpa using h4)]
      refine mt_ld H t0 ha' (fun c hld hst => ldI_in (hld 8 _ rfl) ?_)
      have hwt := (I.tsk _ _ (v5_at ha)).wt h4
      simp only [v5] at hwt
      obtain ⟨c8, n8, at8⟩ := ml_sl H
      obtain ⟨k, hk'⟩ := get_ex hwt.2.1 hwt.2.2 rfl (l := g.ls)
      have hk : tkAt g.ls a.lock = some k := tkAt_some.2 ⟨hwt.2.1, hk'⟩
      refine ldS_in c8 (at8 a.lock k _ hwt.2.1 hk' ?_)
      obtain ⟨np, hL⟩ := mlk_inv hk' H
      have other : ∀ lo, lo ≠ a.lock → t ∉ WO g.ls lo := fun lo hne => I.notW (v5_at ha) (.inr (by simp only [v5]; exact fun e => hne e.symm))
      refine k_Leave (mlk_open hk' H) (fun hnw => ?_) (fun gH s wa' h H G hex => ?_)
      · have hno : ∀ lo, t ∉ WO g.ls lo := by
          intro lo
          by_cases e : lo = a.lock
          · rw [e, WO_at hk]; intro hm
            obtain ⟨y, hy, e2⟩ := List.mem_map.1 hm
            exact hnw y hy e2
          · exact other lo e
        have Hr : HS (mach m S g :: row 1 ⟨none, 0, 0⟩ (([] : List (Int × Bool)).map (·.1) |>.map cI) :: l) h := (row_nil H).swap
        have I1 : MIg S (fun l u => (l == a.lock && ([] : List (Int × Bool)).any (fun q => q.1 == u)) || u == t) (fun l => if l = a.lock then [] else []) g := by
          refine { I with hol := ?_, wai := ?_ }
          · intro lo; have := I.hol lo; simpa [noP] using this
          · intro lo
            have := I.wai lo
            rw [List.filter_eq_self.2 (by simp [noX])] at this
            rw [this, List.filter_eq_self]
            intro u hu
            simp only [List.any_nil, Bool.and_false, Bool.false_or, Bool.not_eq_true', beq_eq_false_iff_ne]
            rintro rfl; exact hno lo hu
        refine k_give Hr hk I1 (by simp) (by simp) (by simp; omega) (by simp) (fun g3 h H I3 F3 => ?_)
        have hev3 := F3.ev
        refine hK _ _ ⟨g3, H.del 1, I3, ?_, ?_, F3.now, by rw [F3.ls], F3.len, by simp at hev3; omega⟩
        · rw [F3.same t (by simp)]; exact ha
        · rw [F3.ls]; exact hno
      · have H := mlk_close hk' (H.sink 3)
        obtain ⟨q1, q2, q3, q4, q5⟩ := I.given hk hL (rm_sub t k.wa) G
        have e1 : ((gH.map (rd k)).map (·.1)).map cI = (gH.map (·.1)).map cI := by rw [rd_fst]
        have I2 : MIg S (fun l u => (l == a.lock && (gH.map (rd k)).any (fun q => q.1 == u)) || u == t) (fun l => if l = a.lock then gH.map (rd k) else []) (putL g a.lock.toNat ⟨k.b, k.sh, k.ho ++ gH, wa'⟩) := by
          refine MI.lock (ev' := g.ev) I hk I.good I.tim ?_ ?_ ?_
          · intro lo
            have := I.hol lo
            rw [show noP lo = [] from rfl, List.append_nil] at this
            by_cases e : lo = a.lock
            · rw [e] at this ⊢
              rw [if_pos rfl, if_pos rfl, this, HO_at hk, List.map_append]; rfl
            · rw [if_neg e, if_neg e, List.append_nil]; exact this
          · intro lo
            have := I.wai lo
            rw [List.filter_eq_self.2 (by simp [noX])] at this
            by_cases e : lo = a.lock
            · rw [e] at this ⊢
              rw [if_pos rfl]
              simp only [beq_self_eq_true, Bool.true_and]
              rw [WO_at hk] at this
              have h2 : (ow g.ev a.lock).filter (fun u => !(u == t)) = (rm t k.wa).map (·.1) := by
                rw [this, List.filter_map]; rfl
              exact wai_on (X := fun u => u == t) h2 G.rest
            · rw [if_neg e]
              have hb : (lo == a.lock) = false := by simpa using e
              simp only [hb, Bool.false_and, Bool.false_or]
              rw [this, List.filter_eq_self]
              intro u hu
              simp only [Bool.not_eq_true', beq_eq_false_iff_ne]
              rintro rfl; exact other lo e hu
          · intro y hy
            exact I.win a.lock k hk y (q4 y hy)
        rw [← e1] at H
        have hk3 : tkAt (putL g a.lock.toNat ⟨k.b, k.sh, k.ho ++ gH, wa'⟩).ls a.lock = some ⟨k.b, k.sh, k.ho ++ gH, wa'⟩ := lkat_put hk
        have hno' : ∀ y ∈ rm t k.wa, y.1 ≠ t := fun y hy => by have := (List.mem_filter.1 hy).2; simpa using this
        refine k_give H hk3 I2 ?_ q2 (by simp [putL]; omega) (by simp; omega) (fun g3 h H I3 F3 => ?_)
        · intro p hp
          obtain ⟨b, hb1, hb2, hb3⟩ := q1 p hp
          rw [tkAt_map] at hb1
          obtain ⟨b', hb', rfl⟩ := Option.map_eq_some_iff.1 hb1
          exact ⟨b', hb', hb2, hb3⟩
        · have hev3 := F3.ev
          simp only [putL, List.length_map] at hev3
          have hls3 : g3.ls = g.ls.set a.lock.toNat ⟨k.b, k.sh, k.ho ++ gH, wa'⟩ := F3.ls
          refine hK _ _ ⟨g3, H.del 1, I3, ?_, ?_, F3.now, by rw [hls3, List.length_set], F3.len, by omega⟩
          · rw [F3.same t (fun p hp e => ?_)]
            · exact ha
            · obtain ⟨q, hq, rfl⟩ := List.mem_map.1 hp
              obtain ⟨y, hy, e2⟩ := q5 q hq
              exact hno' y hy (e2.trans e)
          · intro lo
            rw [hls3]
            obtain ⟨hl0, hl1⟩ := tkAt_some.1 hk
            rw [WO_set hl0 (List.getElem?_eq_some_iff.1 hl1).1]
            split
            · intro hm
              obtain ⟨y, hy, e2⟩ := List.mem_map.1 hm
              simp only at hy
              rw [G.rest] at hy
              exact hno' y (List.mem_filter.1 hy).1 e2
            · rename_i e; exact other lo e
    · rw [if_neg (by simpa using h4)]
      have hno : ∀ lo, t ∉ WO g.ls lo := fun lo => I.notW (v5_at ha) (.inl h4)
      refine hK _ _ ⟨g, H, ?_, ha, hno, rfl, rfl, rfl, by omega⟩
      refine { I with wai := ?_ }
      intro lo
      have := I.wai lo
      rw [List.filter_eq_self.2 (by simp [noX])] at this
      rw [this, List.filter_eq_self]
      intro u hu
      simp only [Bool.not_eq_true', beq_eq_false_iff_ne]
      rintro rfl; exact hno lo hu
end
end Go.Proofs.YtbkjeahmbnkmeaaGreat
set_option autoImplicit false
set_option linter.unusedVariables false
namespace Go.Proofs.YtbkjeahmbnkmeaaGreat
open Go Ev

section
variable {m : Nat} {S : ST} {g : GS} {l : List SP} {h : Heap}
theorem k_Reckon {R : Heap → Prop} (H : HS (mach m S g :: l) h) (hl : g.ts.length ≤ 64) (kk : ∀ ts' h', HS (mach m S { g with ts := ts' } :: l) h' → ts'.map v5 = g.ts.map v5 → R h') : C_ref26_Machine_Reckon (some ⟨m, 0, none⟩) h R := by
  apply of_ref26_Machine_Reckon; unfold S_ref26_Machine_Reckon
  refine Lp.inv (I := fun s' h' => ∃ ns : List Int, HS (mach m S g :: row 1 s'.1 (ns.map cI) :: l) h' ∧ (ns.length : Int) = s'.2.1 ∧ s'.2.1 ≤ (g.ts.length : Int)) (μ := fun s' _ => ((g.ts.length : Int) - s'.2.1).toNat) ?_ ⟨[], (row_nil H).swap, by simp, by simp⟩
  clear H
  rintro ⟨own, i, _⟩ h ⟨ns, H, hn, hi⟩ _
  simp only at H hn hi ⊢
  obtain ⟨sT, c11, n11, at11⟩ := mt_sl H
  refine ldS_in c11 ?_
  by_cases hi2 : i < ((sT.n : Nat) : Int)
  · rw [if_pos (by simpa using hi2)]
    obtain ⟨a, ha⟩ := get_ex (i := i) (by omega) (by omega) rfl (l := g.ts)
    have hw : IntKind.wrap .i64 (i + 1) = i + 1 := wrap64_in (by omega) (by omega)
    refine ldS_in c11 (at11 i a _ (by omega) ha (fun c hld _ => ldI_in (hld 9 _ rfl) (ldS_in c11 (at11 i a _ (by omega) ha (fun c hld _ => ldI_in (hld 6 _ rfl) ?_)))))
    have fin : ∀ w : Int, alc (.cells #[.int .i64 w] 3) h fun b37 h => appW 3 1 8 (.int .i64 0) own (Sl.mk (some (Addr.mk b37 0 none)) 1 1) h fun x38 h =>
        (∃ ns : List Int, HS (mach m S g :: row 1 x38 (ns.map cI) :: l) h ∧ (ns.length : Int) = i + 1 ∧ i + 1 ≤ (g.ts.length : Int)) ∧ ((g.ts.length : Int) - (i + 1)).toNat < ((g.ts.length : Int) - i).toNat := by
      intro w
      refine alc_in H (fun b37 h H => ?_)
      refine app_lit (ys := [cI w]) (H.perm (List.Perm.cons _ (List.Perm.swap _ _ _))) rfl rfl (cI_len [_]) (cI_one [_]) rfl (by simp; omega) (by simp; omega) (fun s2 h H => ?_)
      exact ⟨⟨ns ++ [w], by simpa using H.swap, by simp; omega, by omega⟩, by omega⟩
    rw [hw]
    split
    · exact fin 0
    · exact fin a.weight
  · rw [if_neg (by simpa using hi2)]
    refine ldP_in (mg_ptr H) ?_
    refine k_Eff ((mgr_open H).pull 2 _ rfl) (by omega) (fun eff ms h hm H => ?_)
    have H1 : HS (graph S.gb :: mhole 3 m S g :: row 1 eff (ms.map cI) :: row 1 own (ns.map cI) :: l) h := (H.pull 3 _ rfl).pull 3 _ rfl
    have H := (mgr_close H1).del 2
    have H : HS (mach m S g :: row 1 eff (ms.map cI) :: l) h := H
    refine Lp.inv (I := fun s' h' => ∃ ts', HS (mach m S { g with ts := ts' } :: row 1 eff (ms.map cI) :: l) h' ∧ ts'.map v5 = g.ts.map v5 ∧ 0 ≤ s'.1 ∧ s'.1 ≤ (g.ts.length : Int)) (μ := fun s' _ => ((g.ts.length : Int) - s'.1).toNat) ?_ ⟨g.ts, H, rfl, by simp, by simp⟩
    clear H H1 at11 c11
    rintro ⟨j, _⟩ h ⟨ts', H, hts, j0, j1⟩ _
    simp only at j0 j1 ⊢
    have hlen : ts'.length = g.ts.length := by have := congrArg List.length hts; simpa using this
    obtain ⟨sT2, c11, n11', at11⟩ := mt_sl H
    simp only at n11'
    refine ldS_in c11 ?_
    by_cases hj : j < ((sT2.n : Nat) : Int)
    · rw [if_pos (by simpa using hj)]
      have hw : IntKind.wrap .i64 (j + 1) = j + 1 := wrap64_in (by omega) (by omega)
      obtain ⟨a, ha⟩ := get_ex (i := j) (by omega) (by omega) rfl (l := ts')
      obtain ⟨w, hwm⟩ := get_ex (i := j) (by omega) (by omega) rfl (l := ms)
      rw [hw]
      refine ldS_in c11 (at11 j a _ (by omega) ha (fun c hld _ => ldI_in (hld 6 _ rfl) ?_))
      have skip : (∃ ts', HS (mach m S { g with ts := ts' } :: row 1 eff (ms.map cI) :: l) h ∧ ts'.map v5 = g.ts.map v5 ∧ 0 ≤ j + 1 ∧ j + 1 ≤ (g.ts.length : Int)) ∧ ((g.ts.length : Int) - (j + 1)).toNat < ((g.ts.length : Int) - j).toNat :=
        ⟨⟨ts', H, hts, by omega, by omega⟩, by omega⟩
      split
      · exact skip
      · refine ldS_in c11 (at11 j a _ (by omega) ha (fun c hld _ => ldI_in (hld 10 _ rfl) ?_))
        refine el1_in H.swap j0 hwm rfl (fun c hc hcell => ldI_in hcell ?_)
        split
        · exact skip
        · refine ldS_in c11 (el1_in H.swap j0 hwm rfl (fun c hc hcell => ldI_in hcell ?_))
          refine at11 j a _ (by omega) ha (fun c hld hst => hst 10 _ { a with effect := w } _ (by decide) rfl rfl (fun h H => ?_))
          have hts2 : (ts'.set j.toNat { a with effect := w }).map v5 = g.ts.map v5 := by
            rw [List.map_set, ← hts]
            exact set_same (by rw [List.getElem?_map, ha]; rfl)
          refine ldP_in (mc_ptr H) ?_
          obtain ⟨s, qs, e1, e2, e3, e4, HC⟩ := coresA_open (mco_open H)
          have hql : qs.length ≤ 4 := by rw [← e1, List.length_map] at e2; exact e2
          refine k_COf HC hql (fun _ => ?_) (fun q qu hq hm => ?_)
          · rw [if_neg (by decide)]
            exact ⟨⟨_, H, hts2, by omega, by omega⟩, by omega⟩
          · rw [if_pos (by simp)]
            refine ldP_in (mc_ptr H) (ldS_in (qu_sl HC) (qu_at (i := (q : Int)) HC (by omega) (by simpa using hq) (fun d hd hcell => ldP_in hcell ?_)))
            refine el1_in H.swap j0 hwm rfl (fun c hc hcell2 => ldI_in hcell2 ?_)
            refine k_QWeigh (qu_open HC hq) (fun x h HQ => ?_)
            have HC := qu_same hq HQ
            have HM := mco_close (coresA_close e1 e2 e3 e4 HC)
            exact ⟨qu_sl HC, mc_ptr HM, ⟨_, HM, hts2, by omega, by omega⟩, by omega⟩
    · rw [if_neg (by simpa using hj)]
      refine Lp.inv (I := fun s' h' => HS (mach m S { g with ts := ts' } :: row 1 eff (ms.map cI) :: l) h' ∧ 0 ≤ s'.1 ∧ s'.1 ≤ 4) (μ := fun s' _ => (4 - s'.1).toNat) ?_ ⟨H, by simp, by simp⟩
      clear H at11 c11
      rintro ⟨q, _⟩ h ⟨H, q0, q1⟩ _
      simp only at q0 q1 ⊢
      obtain ⟨s, qs, e1, e2, e3, e4, HC⟩ := coresA_open (mco_open H)
      have hql : qs.length ≤ 4 := by rw [← e1, List.length_map] at e2; exact e2
      have hqn := qu_n HC
      refine ldP_in (mc_ptr H) (ldS_in (qu_sl HC) ?_)
      by_cases hq : q < ((s.n : Nat) : Int)
      · rw [if_pos (by simpa using hq)]
        obtain ⟨qu, hqu⟩ := get_ex q0 (by omega) rfl (l := qs) (i := q)
        refine ldP_in (mc_ptr H) (ldS_in (qu_sl HC) (qu_at HC q0 hqu (fun d hd hcell => ldP_in hcell ?_)))
        refine k_QSettle (qu_open HC hqu) (fun h HQ => ?_)
        rw [wrap64_in (by omega) (by omega)]
        exact ⟨⟨mco_close (coresA_close e1 e2 e3 e4 (qu_same hqu HQ)), by omega, by omega⟩, by omega⟩
      · rw [if_neg (by simpa using hq)]
        exact kk ts' h (H.del 1) hts

/-! taking -/
theorem MI.taken {now : Int} {ls : List LK} {ts : List T5} {ev : List EV} {A : Int → Prop} {lo t p n : Int} {d : Bool} {k : LK} {np : Nat} (I : MI S noX noP now ls ts ev A) (hk : tkAt ls lo = some k)
    (hL : LInv k.sh (k.ho ++ [(t, p, d)]) k.wa np) (hn : isR n = (rd k (t, p, d)).2) : MI S noX noP now (ls.set lo.toNat ⟨k.b, k.sh, k.ho ++ [(t, p, d)], k.wa⟩) ts (ev ++ [⟨now, 4, t, lo, n⟩]) A := by
  have hol : ∀ l, oh ev l = HO ls l := fun l => by have := I.hol l; simpa [noP] using this
  have wai : ∀ l, ow ev l = WO ls l := fun l => by have := I.wai l; rwa [List.filter_eq_self.2 (by simp [noX])] at this
  have hnw : ∀ y ∈ k.wa, y.1 ≠ t := by
    have := hL.nod
    rw [List.map_append, List.nodup_append] at this
    exact fun y hy e => this.2.2 t (by simp) y.1 (List.mem_map_of_mem hy) e.symm
  refine MI.lock (k' := ⟨k.b, k.sh, k.ho ++ [(t, p, d)], k.wa⟩) (ev' := ev ++ [⟨now, 4, t, lo, n⟩]) I hk ?_ ?_ ?_ ?_ (fun y hy => I.win lo k hk y hy)
  · refine .snoc I.good I.tim (fun _ q hq hne => ?_)
    simp only at hq hne ⊢
    rw [hol, HO_at hk] at hq
    rcases hL.safe with h1 | ⟨hsh, h2⟩
    · simp only [List.length_append, List.length_cons, List.length_nil] at h1
      have := List.length_pos_of_mem hq
      simp at this; omega
    · obtain ⟨y, hy, rfl⟩ := List.mem_map.1 hq
      rw [hn]
      exact ⟨by simp [rd, hsh, h2 y (List.mem_append_left _ hy)], by have := h2 (t, p, d) (by simp); simp only at this; simp [rd, hsh, this]⟩
  · intro e' he'
    rcases List.mem_append.1 he' with h | h
    · exact I.tim e' h
    · simp at h; subst h; exact Int.le_refl _
  · intro lo'
    rw [oh_snoc, hst, if_neg (by rintro ⟨_, h | h⟩ <;> simp at h), hol, show noP lo' = [] from rfl, List.append_nil]
    by_cases e : lo' = lo
    · rw [e, if_pos ⟨rfl, rfl⟩, if_pos rfl, HO_at hk, List.map_append]
      simp only [hn]; rfl
    · rw [if_neg (by rintro ⟨h, _⟩; exact e h.symm), if_neg e]
  · intro lo'
    rw [List.filter_eq_self.2 (by simp [noX]), ow_snoc, wst, if_neg (by simp), wai]
    by_cases e : lo' = lo
    · rw [e, if_pos ⟨rfl, .inl rfl⟩, if_pos rfl, WO_at hk, List.filter_eq_self]
      intro u hu
      obtain ⟨y, hy, rfl⟩ := List.mem_map.1 hu
      simpa using hnw y hy
    · rw [if_neg (by rintro ⟨h, _⟩; exact e h.symm), if_neg (by rintro ⟨_, h⟩; simp at h), if_neg e]
theorem MI.queued {now : Int} {ls : List LK} {ts : List T5} {ev : List EV} {A : Int → Prop} {lo t p n : Int} {d : Bool} {k : LK} {a : T5} (I : MI S noX noP now ls ts ev A) (hk : tkAt ls lo = some k) (ht : tkAt ts t = some a) (hs : a.state = 4) (hlo : a.lock = lo)
     : MI S noX noP now (ls.set lo.toNat ⟨k.b, k.sh, k.ho, k.wa ++ [(t, p, d)]⟩) ts (ev ++ [⟨now, 6, t, lo, n⟩]) A := by
  have hol : ∀ l, oh ev l = HO ls l := fun l => by have := I.hol l; simpa [noP] using this
  have wai : ∀ l, ow ev l = WO ls l := fun l => by have := I.wai l; rwa [List.filter_eq_self.2 (by simp [noX])] at this
  obtain ⟨gd, tm⟩ := I.tell ⟨now, 6, t, lo, n⟩ rfl (by simp)
  refine MI.lock (k' := ⟨k.b, k.sh, k.ho, k.wa ++ [(t, p, d)]⟩) (ev' := ev ++ [⟨now, 6, t, lo, n⟩]) I hk gd tm ?_ ?_ (fun y hy => ?_)
  · intro lo'
    rw [oh_snoc, hst, if_neg (by rintro ⟨_, h | h⟩ <;> simp at h), if_neg (by rintro ⟨_, h⟩; simp at h), hol, show noP lo' = [] from rfl, List.append_nil]
    by_cases e : lo' = lo
    · rw [e, if_pos rfl, HO_at hk]; rfl
    · rw [if_neg e]
  · intro lo'
    rw [List.filter_eq_self.2 (by simp [noX]), ow_snoc, wst, if_neg (by simp), if_neg (by rintro ⟨_, h | h⟩ <;> simp at h), wai]
    by_cases e : lo' = lo
    · rw [e, if_pos ⟨rfl, rfl⟩, if_pos rfl, WO_at hk, List.map_append]; rfl
    · rw [if_neg (by rintro ⟨h, _⟩; exact e h.symm), if_neg e]
  · rcases List.mem_append.1 hy with hy | hy
    · exact I.win lo k hk y hy
    · simp at hy; subst hy; exact ⟨a, ht, hs, hlo⟩
end
end Go.Proofs.YtbkjeahmbnkmeaaGreat
set_option autoImplicit false
set_option linter.unusedVariables false
namespace Go.Proofs.YtbkjeahmbnkmeaaGreat
open Go Ev

section
variable {m : Nat} {S : ST} {g : GS} {l : List SP} {h : Heap}
theorem tk_set {ts : List TK} {t : Int} {a' : TK} (h0 : 0 ≤ t) (h1 : t.toNat < ts.length) : tkAt (ts.set t.toNat a') t = some a' := by rw [tkAt_set h0 h1, if_pos rfl]
/-- another place in its program -/
theorem MI.pc {x : XW} {pH : PH} {now : Int} {ls : List LK} {ts : List TK} {ev : List EV} {A : Int → Prop} {t : Int} {a a' : TK} (I : MI S x pH now ls (ts.map v5) ev A) (ha : tkAt ts t = some a)
    (h1 : a'.prog = a.prog) (h2 : 0 ≤ a'.pc ∧ a'.pc ≤ 12) (h3 : a'.state = a.state) (h4 : a'.til = a.til) (h5 : a'.lock = a.lock) (h6 : a.state ≠ 4) : MI S x pH now ls ((ts.set t.toNat a').map v5) ev A := by
  have hTI := I.tsk _ _ (v5_at ha)
  rw [List.map_set]
  refine I.task (v5_at ha) ⟨by simpa [v5, h1] using hTI.prog, h2, by simp [v5, h3, h6], by simpa [v5, h3, h4] using hTI.til⟩ (.inr ⟨h3, h5⟩) (fun u hu => ?_)
  by_cases e : u = t
  · right
    obtain ⟨b, hb, hs⟩ := I.qin u hu
    rw [e, v5_at ha] at hb; simp at hb; subst hb
    exact ⟨e, by simpa [v5, h3] using hs⟩
  · exact .inl ⟨hu, e⟩
theorem k_mtake {t o0 o1 o2 : Int} {a : TK} {R : Bool → Heap → Prop} (H : HS (mach m S g :: l) h) (I : MIg S noX noP g) (ha : tkAt g.ts t = some a) (hA : g.A t) (hpc : a.pc ≤ 11) (hl0 : 0 ≤ o1) (hl1 : o1 < (g.ls.length : Int)) (hb : g.ev.length + 400 ≤ 1000000000000)
    (kk : ∀ b g' h', HS (mach m S g' :: l) h' → MIg S noX noP g' → FrG g g' 1 → (b = false → g'.A t ∧ ∃ a', tkAt g'.ts t = some a' ∧ a'.pc = a.pc + 1 ∧ a'.prog = a.prog) → R b h') : C_ref26_Machine_take (some ⟨m, 0, none⟩) t o0 o1 o2 h R := by
  apply of_ref26_Machine_take; unfold S_ref26_Machine_take
  obtain ⟨t0, ha'⟩ := tkAt_some.1 ha
  have hlen64 : g.ts.length ≤ 64 := by have := I.len; simpa using this
  have hlt := (List.getElem?_eq_some_iff.1 ha').1
  have hnl := I.nl
  have hTI := I.tsk _ _ (v5_at ha)
  have hpc0 := hTI.pc
  simp only [v5] at hpc0
  have hst12 : a.state = 1 ∨ a.state = 2 := by
    obtain ⟨b, hb, hs⟩ := I.qin t hA
    rw [v5_at ha] at hb; simp at hb; subst hb; exact hs
  have hs4 : a.state ≠ 4 := by omega
  have hno : ∀ lo, t ∉ WO g.ls lo := fun lo => I.notW (v5_at ha) (.inl hs4)
  have wai : ∀ l, ow g.ev l = WO g.ls l := fun l => by have := I.wai l; rwa [List.filter_eq_self.2 (by simp [noX])] at this
  obtain ⟨k, hk'⟩ := get_ex hl0 hl1 rfl (l := g.ls)
  have hk : tkAt g.ls o1 = some k := tkAt_some.2 ⟨hl0, hk'⟩
  refine alc_in H (fun b5 h H => ?_)
  have H := H.swap
  obtain ⟨c8, n8, at8⟩ := ml_sl H
  obtain ⟨sT, c11, n11, at11⟩ := mt_sl H
  refine ldS_in c8 (ldI_f H.swap rfl (at8 o1 k _ hl0 hk' ?_))
  refine ldS_in c11 (at11 t a _ t0 ha' (fun c hld _ => ldI_in (hld 2 _ rfl) (ldI_f H.swap rfl ?_)))
  refine k_KParty (mlk_open hk' H) (fun p => ⟨cf H.swap rfl, c11, ?_⟩)
  refine k_Take (mlk_open hk' H) (by omega) (fun d h H h1 h2 => ?_) (fun e h he H => ?_)
  · rw [if_pos (by decide)]
    have H := mlk_close hk' H
    obtain ⟨np, hL⟩ := mlk_inv' (g := putL g o1.toNat ⟨k.b, k.sh, k.ho ++ [(t, p, d)], k.wa⟩) (lkat_put hk) H
    have hkk : (putL g o1.toNat ⟨k.b, k.sh, k.ho ++ [(t, p, d)], k.wa⟩).ls[o1.toNat]? = some ⟨k.b, k.sh, k.ho ++ [(t, p, d)], k.wa⟩ := (tkAt_some.1 (lkat_put hk)).2
    refine ldI_f H.swap rfl (ldI_f H.swap rfl ?_)
    refine k_how H hl0 hkk ⟨(t, p, d), by simp, rfl⟩ (fun n hn => ⟨cf H.swap rfl, ?_⟩)
    obtain ⟨z, hz, hzt, hzr⟩ := hn
    have hze := nodup_inj hL.nodH hz (show (t, p, d) ∈ k.ho ++ [(t, p, d)] by simp) hzt
    subst hze
    refine k_tell H (by simp [putL]; omega) (fun h H => ⟨cf H.swap rfl, ?_⟩)
    refine ldI_f H.swap rfl (k_edges H hl0 hkk (fun h H => ?_))
    have I2 := MI.taken I hk hL hzr
    refine mt_pc H t0 ha' (by omega) (fun h H => ?_)
    refine kk _ _ h (H.del 1) (MI.pc (a' := { a with pc := a.pc + 1 }) I2 ha rfl (by simp; omega) rfl rfl rfl hs4) ⟨rfl, by simp [putT, told, putL], by simp [putT, told, putL], by simp [putT, told, putL]⟩ (fun _ => ⟨hA, _, tk_set t0 hlt, rfl, rfl⟩)
  · rw [if_neg (by simpa using he)]
    have H := mlk_same hk' H
    refine jn_cut (I := fun j h => (j.1 ≠ 0 ∧ HS (mach m S g :: bk b5 #[.int .i64 o0, .int .i64 o1, .int .i64 o2] :: l) h) ∨
      (j.1 = 0 ∧ HS (mach m S (putL g o1.toNat ⟨k.b, k.sh, k.ho, k.wa ++ [(t, p, false)]⟩) :: bk b5 #[.int .i64 o0, .int .i64 o1, .int .i64 o2] :: l) h)) ?_ ?_
    · clear H c8 at8 c11 at11
      rintro ⟨j, _⟩ h (⟨hj, H⟩ | ⟨hj, H⟩)
      · simp only at hj ⊢
        rw [if_pos (by simpa using hj)]
        refine ldI_f H.swap rfl (k_tell H (by omega) (fun h H => ?_))
        have I2 := MI.plain I ⟨g.now, 8, t, o1, j⟩ rfl (by simp) (fun _ => by rw [wai]; exact hno o1)
        refine mt_pc H t0 ha' (by omega) (fun h H => ?_)
        refine kk _ _ h (H.del 1) (MI.pc (a' := { a with pc := a.pc + 1 }) I2 ha rfl (by simp; omega) rfl rfl rfl hs4) ⟨rfl, by simp [putT, told], by simp [putT, told], by simp [putT, told]⟩ (fun _ => ⟨hA, _, tk_set t0 hlt, rfl, rfl⟩)
      · simp only at hj ⊢
        rw [if_neg (by simpa using hj)]
        refine ldI_f H.swap rfl (k_tell H (by simp [putL]; omega) (fun h H => ?_))
        refine k_out H t0 (by simp [told, putL]; omega) (fun h H => ?_)
        refine mt_ld H t0 ha' (fun c hld hst => ?_)
        refine hst 6 (.int .i64 4) { a with state := 4 } _ (by decide) rfl rfl (fun h H => ?_)
        obtain ⟨sT, c11, n11, at11⟩ := mt_sl H
        refine ldS_in c11 (ldI_f H.swap rfl (at11 t _ _ t0 (put_get ha') (fun c hld hst => ?_)))
        refine hst 8 (.int .i64 o1) { a with state := 4, lock := o1 } _ (by decide) rfl rfl (fun h H => ?_)
        have fin : ∀ (a' : TK) (g' : GS), a'.prog = a.prog → a'.pc = a.pc → a'.state = 4 → a'.lock = o1 → g'.now = g.now → g'.ls = g.ls.set o1.toNat ⟨k.b, k.sh, k.ho, k.wa ++ [(t, p, false)]⟩ → g'.ts = g.ts.set t.toNat a' → g'.ev = g.ev ++ [⟨g.now, 6, t, o1, 0⟩] → g'.A = (fun y => g.A y ∧ y ≠ t) →
            MIg S noX noP g' ∧ FrG g g' 1 := by
          intro a' g' e1 e2 e3 e4 e5 e6 e7 e8 e9
          refine ⟨?_, e5, by rw [e6, List.length_set], by rw [e7, List.length_set], by rw [e8]; simp⟩
          have I2 := I.task (A' := fun y => g.A y ∧ y ≠ t) (a' := v5 a') (v5_at ha) ⟨by simpa [v5, e1] using hTI.prog, by simpa [v5, e2] using hTI.pc, by simp [v5, e2, e4]; omega, by simp [v5, e3]⟩ (.inl hno) (fun u hu => .inl hu)
          have hlt' : t.toNat < (g.ts.map v5).length := by simpa using hlt
          have I3 := MI.queued (p := p) (n := 0) (d := false) I2 hk (by rw [tkAt_set t0 hlt', if_pos rfl]) e3 e4
          unfold MIg
          rw [e5, e6, e7, e8, e9, List.map_set]
          exact I3
        refine jn_cut (I := fun _ h => ∃ g', HS (mach m S g' :: bk b5 #[.int .i64 o0, .int .i64 o1, .int .i64 o2] :: l) h ∧ MIg S noX noP g' ∧ FrG g g' 1 ∧ tkAt g'.ls o1 = some ⟨k.b, k.sh, k.ho, k.wa ++ [(t, p, false)]⟩) ?_ ?_
        · clear H at11 c11 hst hld
          rintro _ h ⟨g', H, I', F', hk2⟩
          refine ldP_in (mg_ptr H) (ldI_f H.swap rfl ?_)
          refine k_holders H hl0 (tkAt_some.1 hk2).2 (fun w hw => ⟨mg_ptr H, ?_⟩)
          refine k_GWait (mgr_open H) hw (fun e h H => ?_)
          have H := mgr_close H
          exact ⟨cf H.swap rfl, kk _ _ h (H.del 1) I' F' (by simp)⟩
        · intro K' hK
          refine ldI_f H.swap rfl ?_
          split
          · obtain ⟨sT, c11, n11, at11⟩ := mt_sl H
            refine ldS_in c11 (ldI_in (mnow H) (ldI_f H.swap rfl (at11 t _ _ t0 (put_get (put_get ha')) (fun c hld hst => ?_))))
            refine hst 7 (.int .u64 _) { a with state := 4, lock := o1, til := IntKind.wrap .u64 (g.now + IntKind.wrap .u64 o2) } _ (by decide) rfl rfl (fun h H => ?_)
            refine hK _ _ ⟨_, H, ?_⟩
            refine (fun ff => ⟨ff.1, ff.2, lkat_put hk⟩) (fin { a with state := 4, lock := o1, til := IntKind.wrap .u64 (g.now + IntKind.wrap .u64 o2) } _ rfl rfl rfl rfl ?_ ?_ ?_ ?_ ?_)
            · rfl
            · rfl
            · simp [putT, told, putL]
            · rfl
            · rfl
          · refine hK _ _ ⟨_, H, ?_⟩
            refine (fun ff => ⟨ff.1, ff.2, lkat_put hk⟩) (fin { a with state := 4, lock := o1 } _ rfl rfl rfl rfl ?_ ?_ ?_ ?_ ?_)
            · rfl
            · rfl
            · simp [putT, told, putL]
            · rfl
            · rfl
    · intro K' hK
      have nope : ∀ j : Int × Unit, j.1 ≠ 0 → K' j h := fun j hj => hK _ _ (.inl ⟨hj, H⟩)
      refine jn_cut (I := fun _ h' => h' = h) ?_ ?_
      · rintro j h' rfl
        split
        · refine ldP_in (mg_ptr H) (ldI_f H.swap rfl ?_)
          refine k_holders H hl0 hk' (fun w hw => ⟨mg_ptr H, ?_⟩)
          refine k_Closes (mgr_open H) hw (fun x => ⟨cf H.swap rfl, ?_⟩)
          split
          · refine k_Queue (mlk_open hk' H) (by omega) (fun h H h1 h2 => ?_) (fun e h he H => ?_)
            · exact hK _ _ (.inr ⟨rfl, mlk_close hk' H⟩)
            · exact hK _ _ (.inl ⟨he, mlk_same hk' H⟩)
          · exact nope _ (by simp)
        · exact nope _ he
      · intro K2 hK2
        split
        · exact ldI_f H.swap rfl (hK2 _ _ rfl)
        · exact hK2 _ _ rfl
theorem k_mcompute {t o0 o1 o2 : Int} {a : TK} {R : Heap → Prop} (H : HS (mach m S g :: l) h) (I : MIg S noX noP g) (ha : tkAt g.ts t = some a) (hA : g.A t) (hpc : a.pc ≤ 11)
    (kk : ∀ g' h', HS (mach m S g' :: l) h' → MIg S noX noP g' → FrG g g' 0 → R h') : C_ref26_Machine_compute (some ⟨m, 0, none⟩) t o0 o1 o2 h R := by
  apply of_ref26_Machine_compute; unfold S_ref26_Machine_compute
  obtain ⟨t0, ha'⟩ := tkAt_some.1 ha
  have hlt := (List.getElem?_eq_some_iff.1 ha').1
  have hnl := I.nl
  have hTI := I.tsk _ _ (v5_at ha)
  have hpc0 := hTI.pc
  simp only [v5] at hpc0
  have hs4 : a.state ≠ 4 := by
    obtain ⟨b, hb, hs⟩ := I.qin t hA
    rw [v5_at ha] at hb; simp at hb; subst hb
    simp only [v5] at hs; omega
  refine alc_in H (fun b5 h H => ?_)
  have H := H.swap
  refine jn_cut (I := fun _ h => ∃ w, HS (mach m S (putT g t.toNat { a with left := w }) :: l) h) ?_ ?_
  · clear H
    rintro _ h ⟨w, H⟩
    obtain ⟨sT, c11, n11, at11⟩ := mt_sl H
    refine ldS_in c11 (at11 t _ _ t0 (put_get ha') (fun c hld _ => ldI_in (hld 5 _ rfl) (at11 t _ _ t0 (put_get ha') (fun c hld hst => hst 5 _ { a with left := IntKind.wrap .i64 (w - 1) } _ (by decide) rfl rfl (fun h H => ?_)))))
    have e : putT (putT g t.toNat { a with left := w }) t.toNat { a with left := IntKind.wrap .i64 (w - 1) } = putT g t.toNat { a with left := IntKind.wrap .i64 (w - 1) } := by simp [putT]
    rw [e] at H
    generalize IntKind.wrap .i64 (w - 1) = w' at H
    clear e at11 c11 hld hst
    refine Lp.inv (I := fun s' h' => HS (mach m S (putT g t.toNat { a with left := w' }) :: l) h' ∧ 0 ≤ s'.1 ∧ s'.1 ≤ (g.ls.length : Int)) (μ := fun s' _ => ((g.ls.length : Int) - s'.1).toNat) ?_ ⟨H, by simp, by simp⟩
    clear H
    rintro ⟨i, _⟩ h ⟨H, i0, i1⟩ _
    simp only at i0 i1 ⊢
    obtain ⟨c8, n8, at8⟩ := ml_sl H
    simp only [putT] at n8
    refine ldS_in c8 ?_
    by_cases hi : i < ((S.sK.n : Nat) : Int)
    · rw [if_pos (by simpa using hi)]
      obtain ⟨k, hk'⟩ := get_ex i0 (by omega) rfl (l := g.ls) (i := i)
      rw [wrap64_in (n := i + 1) (by omega) (by omega)]
      refine ldS_in c8 (at8 i k _ i0 hk' ?_)
      obtain ⟨np, tp, hL, HL⟩ := lk_open (mlk_open (g := putT g t.toNat { a with left := w' }) hk' H)
      have hlenk := hL.len
      refine k_Holds HL (by omega) ?_
      split
      · refine ldS_in c8 (at8 i k _ i0 hk' ?_)
        refine k_Charge (mlk_open (g := putT g t.toNat { a with left := w' }) hk' H) (fun x h H => ?_)
        exact ⟨⟨mlk_same (g := putT g t.toNat { a with left := w' }) hk' H, by omega, by omega⟩, by omega⟩
      · exact ⟨⟨H, by omega, by omega⟩, by omega⟩
    · rw [if_neg (by simpa using hi)]
      obtain ⟨sT, c11, n11, at11⟩ := mt_sl H
      refine ldS_in c11 (at11 t _ _ t0 (put_get ha') (fun c hld _ => ldI_in (hld 5 _ rfl) ?_))
      split
      · refine mt_pc H t0 (put_get ha') (by simp; omega) (fun h H => ?_)
        refine kk _ h H ?_ ⟨rfl, rfl, by simp [putT], by simp [putT]⟩
        have := MI.pc (a' := { a with left := w', pc := a.pc + 1 }) I ha rfl (by simp; omega) rfl rfl rfl hs4
        simp only [MIg, putT, List.set_set]
        exact this
      · refine kk _ h H ?_ ⟨rfl, rfl, by simp [putT], by simp [putT]⟩
        exact MI.pc (a' := { a with left := w' }) I ha rfl (by simp; omega) rfl rfl rfl hs4
  · intro K' hK
    refine mt_ld H t0 ha' (fun c hld hst => ldI_in (hld 5 _ rfl) ?_)
    split
    · obtain ⟨sT, c11, n11, at11⟩ := mt_sl H
      refine ldS_in c11 (ldI_f H.swap rfl (at11 t _ _ t0 ha' (fun c hld hst => ?_)))
      exact hst 5 (.int .i64 o1) { a with left := o1 } _ (by decide) rfl rfl (fun h H => hK _ _ ⟨_, H.del 1⟩)
    · refine hK _ _ ⟨a.left, ?_⟩
      have e : putT g t.toNat { a with left := a.left } = g := by
        simp only [putT]
        rw [set_same ha']
      rw [e]; exact H.del 1
end
end Go.Proofs.YtbkjeahmbnkmeaaGreat
set_option autoImplicit false
set_option linter.unusedVariables false
namespace Go.Proofs.YtbkjeahmbnkmeaaGreat
open Go Ev

theorem cell_push {h : Heap} {a : Addr} {v : Value} {o : Obj} (hc : cell h a = some v) : cell (h.push o) a = some v := by
  unfold cell at hc ⊢
  cases hb : h[a.block]? with
  | none => rw [hb] at hc; simp at hc
  | some o' =>
    rw [hb] at hc
    rw [Array.getElem?_push_lt (Array.getElem?_eq_some_iff.1 hb).1]
    have := (Array.getElem?_eq_some_iff.1 hb).2
    rw [this]
    exact hc
theorem alc_keep {cs : Array Value} {T : TypeId} {h : Heap} {K : Nat → Heap → Prop} {l : List SP} (H : HS l h) (hk : ∀ b h', HS (bk b cs :: l) h' → (∀ a v, cell h a = some v → cell h' a = some v) → K b h') : alc (.cells cs T) h K :=
  hk _ _ (H.new _).bk (fun _ _ hc => cell_push hc)
section
variable {m : Nat} {S : ST} {g : GS} {l : List SP} {h : Heap}
theorem mp_sl (H : HS (mach m S g :: l) h) : cell h (((Addr.mk m 0 none).add 0).add 4) = some (.slice S.sP.p S.sP.n S.sP.c) := by
  obtain ⟨x, hp, H⟩ := mach_open H; exact cff H rfl
theorem mp_at {i : Int} {p : PR} {B : Addr → Prop} (H : HS (mach m S g :: l) h) (h0 : 0 ≤ i) (hi : S.ps[i.toNat]? = some p)
    (hB : ∀ c, (∀ j v, (cPr p)[j]? = some v → cell h (((Addr.mk c 0 none).add (Int.toNat i * 2)).add j) = some v) → B ⟨c, 0, none⟩) : pm S.sP.p fun x => 0 ≤ i ∧ i < ((S.sP.n : Nat) : Int) ∧ B x := by
  obtain ⟨x, hp, H⟩ := mach_open H
  have H := HS.star.1 (H.pull 10 _ rfl)
  exact el_in H h0 hi (fun c hc hcell => hB c hcell)
theorem mo_at {i : Nat} {p : PR} {j : Int} {o : OP} {B : Addr → Prop} (H : HS (mach m S g :: l) h) (hi : S.ps[i]? = some p) (h0 : 0 ≤ j) (hj : p.ops[j.toNat]? = some o)
    (hB : ∀ c, (∀ k v, (cO o)[k]? = some v → cell h (((Addr.mk c 0 none).add (Int.toNat j * 3)).add k) = some v) → B ⟨c, 0, none⟩) : pm p.s.p fun x => 0 ≤ j ∧ j < ((p.s.n : Nat) : Int) ∧ B x := by
  obtain ⟨x, hp, H⟩ := mach_open H
  have H := HS.star.1 (H.pull 10 _ rfl)
  have H := big_at (Q := PPr) (H.pull 1 _ rfl) hi
  exact el_in H h0 hj (fun c hc hcell => hB c hcell)
theorem mo_n {i : Nat} {p : PR} (H : HS (mach m S g :: l) h) (hi : S.ps[i]? = some p) : p.s.n = p.ops.length := by
  obtain ⟨x, hp, H⟩ := mach_open H
  have H := HS.star.1 (H.pull 10 _ rfl)
  have H := big_at (Q := PPr) (H.pull 1 _ rfl) hi
  have := row_len H
  simpa using this
/-! one queue -/
def mqh (m : Nat) (S : ST) (g : GS) (c : Nat) (ids : List Int) : SP := exi fun y : Sl × List Qu × Int =>
  star [pr (y.2.1.map (·.1) = S.bs ∧ S.bs.length ≤ 4 ∧ (flat y.2.1).Nodup ∧ (∀ t ∈ flat y.2.1, g.A t) ∧ ∃ b, y.2.1[c]? = some (b, ids, y.2.2)), hole PQ y.2.1 c, bk S.cb #[.slice y.1.p y.1.n y.1.c], row 1 y.1 ((y.2.1.map (·.1)).map cPt), mhole 2 m S g]
theorem mq_open {c b : Nat} (H : HS (mach m S g :: l) h) (hc : S.bs[c]? = some b) : ∃ ids cur, (∀ t ∈ ids, g.A t) ∧ HS (que b ids cur :: mqh m S g c ids :: l) h := by
  obtain ⟨s, qs, e1, e2, e3, e4, HC⟩ := coresA_open (mco_open H)
  obtain ⟨q, hq⟩ : ∃ q, qs[c]? = some q := by
    rw [← e1, List.getElem?_map] at hc
    cases hq : qs[c]? with
    | none => rw [hq] at hc; simp at hc
    | some q => exact ⟨q, rfl⟩
  have hqb : q.1 = b := by rw [← e1, List.getElem?_map, hq] at hc; simpa using hc
  subst hqb
  refine ⟨q.2.1, q.2.2, fun t ht => e4 t (mem_flat.2 ⟨q, List.mem_of_getElem? hq, ht⟩), ?_⟩
  have H1 := qu_open HC hq
  refine HS.swap (HS.ex.2 ⟨(s, qs, q.2.2), HS.star.2 (HS.pr.2 ⟨⟨e1, e2, e3, e4, q.1, hq⟩, ?_⟩)⟩)
  exact H1.sink 4
theorem mq_close {c b : Nat} {ids : List Int} {cur : Int} (hc : S.bs[c]? = some b) (H : HS (que b ids cur :: mqh m S g c ids :: l) h) : HS (mach m S g :: l) h := by
  obtain ⟨⟨s, qs, cur0⟩, H⟩ := HS.ex.1 H.swap
  obtain ⟨⟨e1, e2, e3, e4, b', hq⟩, H⟩ := HS.pr.1 (HS.star.1 H)
  have hqb : b' = b := by rw [← e1, List.getElem?_map, hq] at hc; simpa using hc
  subst hqb
  have H1 : HS (que b' ids cur :: hole PQ qs c :: bk S.cb #[.slice s.p s.n s.c] :: row 1 s ((qs.map (·.1)).map cPt) :: mhole 2 m S g :: l) h := H.pull 4 _ rfl
  have H2 := qu_close (ids := ids) (cur := cur) hq H1
  have H3 := mco_close (A := g.A) (coresA_close (by rw [blk_set hq]; exact e1) e2 (by have := flat_cur hq cur; simp only at this; rw [this]; exact e3) (by have := flat_cur hq cur; simp only at this; rw [this]; exact e4) H2)
  exact H3
theorem mq_ptr {c : Int} {b : Nat} {K : Option Addr → Prop} (H : HS (mach m S g :: l) h) (h0 : 0 ≤ c) (hc : S.bs[c.toNat]? = some b) (hk : K (some ⟨b, 0, none⟩)) :
    ldS ((Addr.mk S.cb 0 none).add 0) h fun x => pm x.p fun a => 0 ≤ c ∧ c < ((x.n : Nat) : Int) ∧ ldP (a.add (Int.toNat c * 1)) h K := by
  obtain ⟨s, qs, e1, e2, e3, e4, HC⟩ := coresA_open (mco_open H)
  obtain ⟨q, hq⟩ : ∃ q, qs[c.toNat]? = some q := by
    rw [← e1, List.getElem?_map] at hc
    cases hq : qs[c.toNat]? with
    | none => rw [hq] at hc; simp at hc
    | some q => exact ⟨q, rfl⟩
  have hqb : q.1 = b := by rw [← e1, List.getElem?_map, hq] at hc; simpa using hc
  subst hqb
  exact ldS_in (qu_sl HC) (qu_at HC h0 hq (fun d hd hcell => ldP_in hcell hk))
end

/-! plain -/
theorem MI.rel {S : ST} {x0 : XW} {now : Int} {ls : List LK} {ts : List T5} {ev : List EV} {A : Int → Prop} {lo t : Int} {k : LK} {e : EV} {gH wa' : List HoT} {np : Nat} (I : MI S x0 noP now ls ts ev A) (hk : tkAt ls lo = some k) (hL : LInv k.sh k.ho k.wa np)
    (ht : e.time = now) (hkd : e.kind = 5 ∨ e.kind = 12) (het : e.task = t) (hel : e.lock = lo) (G : Gr k.wa gH wa') :
    MI S (fun l u => (l == lo && (gH.map (rd k)).any (fun q => q.1 == u)) || x0 l u) (fun l => if l = lo then gH.map (rd k) else []) now (ls.set lo.toNat ⟨k.b, k.sh, rm t k.ho ++ gH, wa'⟩) ts (ev ++ [e]) A := by
  obtain ⟨q1, q2, q3, q4, q5⟩ := I.given hk hL (List.Sublist.refl _) G
  obtain ⟨gd, tm⟩ := I.tell e ht (by omega)
  have k4 : e.kind ≠ 4 ∧ e.kind ≠ 6 ∧ e.kind ≠ 8 ∧ e.kind ≠ 11 := by omega
  subst het hel
  refine MI.lock (k' := ⟨k.b, k.sh, rm e.task k.ho ++ gH, wa'⟩) (ev' := ev ++ [e]) I hk gd tm ?_ ?_ (fun y hy => I.win _ k hk y (q4 y hy))
  · intro lo
    rw [oh_snoc, hst]
    have := I.hol lo
    rw [show noP lo = [] from rfl, List.append_nil] at this
    by_cases e2 : lo = e.lock
    · rw [e2] at this ⊢
      rw [if_pos ⟨rfl, hkd⟩, if_pos rfl, if_pos rfl, this, HO_at hk, List.map_append]
      rw [rd_filter]; rfl
    · rw [if_neg (by rintro ⟨h, _⟩; exact e2 h.symm), if_neg (by rintro ⟨h, _⟩; exact e2 h.symm), if_neg e2, if_neg e2, List.append_nil]; exact this
  · intro lo
    rw [ow_snoc, wst, if_neg k4.2.2.2, if_neg (by rintro ⟨_, h | h⟩; exact k4.1 h; exact k4.2.2.1 h), if_neg (by rintro ⟨_, h⟩; exact k4.2.1 h)]
    have := I.wai lo
    by_cases e2 : lo = e.lock
    · rw [e2] at this ⊢
      rw [if_pos rfl]
      simp only [beq_self_eq_true, Bool.true_and]
      rw [WO_at hk] at this
      exact wai_on (X := fun u => x0 e.lock u) this G.rest
    · rw [if_neg e2]
      have hb : (lo == e.lock) = false := by simpa using e2
      simp only [hb, Bool.false_and, Bool.false_or]
      exact this
theorem MI.come {S : ST} {x : XW} {pH : PH} {now : Int} {ls : List LK} {ts : List T5} {ev : List EV} {A : Int → Prop} {a : T5} (I : MI S x pH now ls ts ev A) (hl : ts.length < 64) (hT : TI S ls.length a) (hs : a.state = 1) :
    MI S x pH now ls (ts ++ [a]) ev (fun y => A y ∨ y = ((ts.length : Nat) : Int)) := by
  have old : ∀ {u b}, tkAt ts u = some b → tkAt (ts ++ [a]) u = some b := by
    intro u b h
    obtain ⟨h0, h1⟩ := tkAt_some.1 h
    exact tkAt_some.2 ⟨h0, by rw [List.getElem?_append_left (List.getElem?_eq_some_iff.1 h1).1]; exact h1⟩
  refine { I with len := by simp; omega, tsk := ?_, win := ?_, qin := ?_ }
  · intro u b hb
    obtain ⟨h0, h1⟩ := tkAt_some.1 hb
    by_cases e : u.toNat < ts.length
    · rw [List.getElem?_append_left e] at h1
      exact I.tsk u b (tkAt_some.2 ⟨h0, h1⟩)
    · rw [List.getElem?_append_right (by omega)] at h1
      have := List.mem_of_getElem? h1
      simp at this; subst this; exact hT
  · intro lo k hk y hy
    obtain ⟨b, hb, h1, h2⟩ := I.win lo k hk y hy
    exact ⟨b, old hb, h1, h2⟩
  · intro u hu
    rcases hu with hu | rfl
    · obtain ⟨b, hb, h1⟩ := I.qin u hu
      exact ⟨b, old hb, h1⟩
    · exact ⟨a, tkAt_some.2 ⟨by omega, by simp⟩, .inl hs⟩
/-- how far it is to an op that ends a tick -/
def mu (p : PR) (pc : Nat) : Nat :=
  bif p.fo then (bif (p.ops.drop pc).any isTm then (p.ops.drop pc).findIdx isTm else (p.ops.length - pc) + p.ops.findIdx isTm + 1) else 100 - pc
theorem mu_next {p : PR} {pc : Nat} {o : OP} (h12 : pc ≤ 12) (hlen : p.ops.length ≤ 12) (hfo : p.fo = true → ∃ o ∈ p.ops, isTm o = true) (hge : p.ops.length ≤ pc → p.fo = true)
    (ho : p.ops[if p.ops.length ≤ pc then 0 else pc]? = some o) (hn : isTm o = false) : mu p ((if p.ops.length ≤ pc then 0 else pc) + 1) < mu p pc := by
  unfold mu
  cases hf : p.fo with
  | false =>
    have : ¬ p.ops.length ≤ pc := fun h => by rw [hge h] at hf; cases hf
    simp only [cond_false, if_neg this]; omega
  | true =>
    have hany : p.ops.any isTm = true := by obtain ⟨o, h1, h2⟩ := hfo hf; exact List.any_eq_true.2 ⟨o, h1, h2⟩
    simp only [cond_true]
    have stepd : ∀ q, p.ops[q]? = some o → p.ops.drop q = o :: p.ops.drop (q + 1) := by
      intro q hq
      obtain ⟨hlt, hg⟩ := List.getElem?_eq_some_iff.1 hq
      rw [← hg, List.getElem_cons_drop]
    by_cases h : p.ops.length ≤ pc
    · rw [if_pos h] at ho ⊢
      have h0 := stepd 0 ho
      rw [List.drop_zero] at h0
      have a1 : (p.ops.drop (0 + 1)).any isTm = true := by
        rw [h0] at hany; simpa [hn] using hany
      have a2 : (p.ops.drop pc).any isTm = false := by rw [List.drop_eq_nil_of_le h]; rfl
      rw [a1, a2, cond_true, cond_false]
      have : p.ops.findIdx isTm = (p.ops.drop (0 + 1)).findIdx isTm + 1 := by
        conv => lhs; rw [h0]
        rw [List.findIdx_cons, hn]; rfl
      omega
    · rw [if_neg h] at ho ⊢
      have h0 := stepd pc ho
      have a1 : (p.ops.drop pc).any isTm = (p.ops.drop (pc + 1)).any isTm := by rw [h0]; simp [hn]
      rw [a1]
      cases (p.ops.drop (pc + 1)).any isTm with
      | true =>
        rw [cond_true, cond_true, h0, List.findIdx_cons, hn]; simp
      | false =>
        rw [cond_false, cond_false]; omega
end Go.Proofs.YtbkjeahmbnkmeaaGreat
set_option autoImplicit false
set_option linter.unusedVariables false
namespace Go.Proofs.YtbkjeahmbnkmeaaGreat
open Go Ev

section
variable {m : Nat} {S : ST} {g : GS} {l : List SP} {h : Heap}
theorem tk_of {ts : List TK} {t : Int} {b : T5} (h : tkAt (ts.map v5) t = some b) : ∃ a, tkAt ts t = some a ∧ v5 a = b := by
  rw [tkAt_map] at h
  exact Option.map_eq_some_iff.1 h
theorem MI.run {x : XW} {pH : PH} {now : Int} {ls : List LK} {ts : List TK} {ev : List EV} {A : Int → Prop} {t : Int} (I : MI S x pH now ls (ts.map v5) ev A) (hA : A t) : ∃ a, tkAt ts t = some a ∧ (a.state = 1 ∨ a.state = 2) := by
  obtain ⟨b, hb, hs⟩ := I.qin t hA
  obtain ⟨a, ha, rfl⟩ := tk_of hb
  exact ⟨a, ha, hs⟩
/-- what stays over an op -/
structure FrS (g g' : GS) (c : Nat) : Prop where
  now : g'.now = g.now
  nl : g'.ls.length = g.ls.length
  ev : g'.ev.length ≤ g.ev.length + c
theorem k_mstep {t c : Int} {a : TK} {p : PR} {R : Bool → Heap → Prop} (H : HS (mach m S g :: l) h) (I : MIg S noX noP g) (hA : g.A t) (ha : tkAt g.ts t = some a) (hpr : S.ps[a.prog.toNat]? = some p) (hc0 : 0 ≤ c) (hc1 : c < (S.bs.length : Int)) (hb : g.ev.length + 1000 ≤ 1000000000000)
    (kk : ∀ b g' h', HS (mach m S g' :: l) h' → MIg S noX noP g' → FrS g g' 500 → (b = false → g'.A t ∧ ∃ a', tkAt g'.ts t = some a' ∧ a'.prog = a.prog ∧ mu p a'.pc.toNat < mu p a.pc.toNat) → R b h') : C_ref26_Machine_step (some ⟨m, 0, none⟩) t c h R := by
  apply of_ref26_Machine_step; unfold S_ref26_Machine_step
  obtain ⟨t0, ha'⟩ := tkAt_some.1 ha
  have hlen64 : g.ts.length ≤ 64 := by have := I.len; simpa using this
  have hlt := (List.getElem?_eq_some_iff.1 ha').1
  have hnl := I.nl
  have hTI := I.tsk _ _ (v5_at ha)
  have hpc := hTI.pc
  have hprog := hTI.prog
  simp only [v5] at hpc hprog
  have hst12 : a.state = 1 ∨ a.state = 2 := by
    obtain ⟨b, hb, hs⟩ := I.run hA
    rw [ha] at hb; simp at hb; subst hb; exact hs
  have hs4 : a.state ≠ 4 := by omega
  have hpm : p ∈ S.ps := List.mem_of_getElem? hpr
  have hplen := I.pin.len p hpm
  have hpn := mo_n H hpr
  obtain ⟨sT, c11, n11, at11⟩ := mt_sl H
  refine ldS_in (mp_sl H) (ldS_in c11 (at11 t a _ t0 ha' (fun ct hld hst => ldI_in (hld 1 _ rfl) ?_)))
  refine mp_at H hprog.1 hpr (fun cp hpc' => ldB_in (hpc' 0 _ rfl) (ldS_in (hpc' 1 _ rfl) ?_))
  have hsl := mp_sl H
  refine alc_keep H (fun b7 h H keep => ⟨keep _ _ (hpc' 0 _ rfl), keep _ _ (hpc' 1 _ rfl), keep _ _ (hld 1 _ rfl), keep _ _ c11, keep _ _ hsl, ?_⟩)
  refine stF_in _ 0 0 _ h H (by simp) (by simp [Value.oneCell']) (fun h H => ?_)
  have H : HS (mach m S g :: bk b7 #[.bool p.fo, .slice p.s.p p.s.n p.s.c] :: l) h := H.swap
  clear at11 c11 hld hst hpc' keep hsl
  refine jn_cut (I := fun _ h => ∃ g1 a1, HS (mach m S g1 :: bk b7 #[.bool p.fo, .slice p.s.p p.s.n p.s.c] :: l) h ∧ MIg S noX noP g1 ∧ tkAt g1.ts t = some a1 ∧ a1.prog = a.prog ∧ a1.state = a.state ∧ a1.pc.toNat = (if p.ops.length ≤ a.pc.toNat then 0 else a.pc.toNat) ∧ 0 ≤ a1.pc ∧ a1.pc < (p.ops.length : Int) ∧ g1.A t ∧ FrG g g1 0 ∧ (p.ops.length ≤ a.pc.toNat → p.fo = true)) ?_ ?_
  · clear H
    rintro _ h ⟨g1, a1, H, I1, ha1, e1, e2, e3, e4, e5, hA1, F1, hge⟩
    obtain ⟨_, ha1'⟩ := tkAt_some.1 ha1
    obtain ⟨o, ho⟩ := get_ex e4 e5 rfl (l := p.ops)
    have hom : o ∈ p.ops := List.mem_of_getElem? ho
    have hs41 : a1.state ≠ 4 := by omega
    have hev1 := F1.ev
    have hlt1 := (List.getElem?_eq_some_iff.1 ha1').1
    have hno : ∀ lo, t ∉ WO g1.ls lo := fun lo => I1.notW (v5_at ha1) (.inl hs41)
    have wai : ∀ l, ow g1.ev l = WO g1.ls l := fun l => by have := I1.wai l; rwa [List.filter_eq_self.2 (by simp [noX])] at this
    obtain ⟨sT, c11, n11, at11⟩ := mt_sl H
    refine ldS_f H.swap rfl (ldS_in c11 (at11 t a1 _ t0 ha1' (fun ct hld hst => ldI_in (hld 4 _ rfl) ?_)))
    refine mo_at H hpr e4 ho (fun co hoc => ldI_in (hoc 0 _ rfl) (ldI_in (hoc 1 _ rfl) (ldI_in (hoc 2 _ rfl) ?_)))
    have h7 := cf (k := 1) H.swap rfl
    refine alc_keep H (fun b8 h H keep => ⟨keep _ _ (hoc 0 _ rfl), keep _ _ (hoc 1 _ rfl), keep _ _ (hoc 2 _ rfl), keep _ _ (hld 4 _ rfl), keep _ _ c11, keep _ _ h7, ?_⟩)
    refine stF_in _ 0 0 _ h H (by simp) (by simp [Value.oneCell']) (fun h H => ?_)
    have H : HS (mach m S g1 :: bk b8 #[.int .i64 o.kind, .int .i64 o.a, .int .i64 o.b] :: l) h := (H.swap).del 2
    clear at11 c11 hld hst hoc keep h7
    have hmu : isTm o = false → mu p (a1.pc.toNat + 1) < mu p a.pc.toNat := by
      intro hn
      rw [e3]
      exact mu_next (by omega) hplen.2 (I.pin.fo p hpm) hge (by rw [← e3]; exact ho) hn
    refine jn_cut (I := fun _ h => ∃ g2 a2, HS (mach m S g2 :: bk b8 #[.int .i64 o.kind, .int .i64 o.a, .int .i64 o.b] :: l) h ∧ MIg S noX noP g2 ∧ tkAt g2.ts t = some a2 ∧ a2.prog = a.prog ∧ a2.state ≠ 4 ∧ a2.pc = a1.pc ∧ g2.A t ∧ FrS g g2 450 ∧ isTm o = false) ?_ ?_
    · clear H
      rintro _ h ⟨g2, a2, H, I2, ha2, q1, q2, q3, q4, F2, hn⟩
      obtain ⟨_, ha2'⟩ := tkAt_some.1 ha2
      have hlt2 := (List.getElem?_eq_some_iff.1 ha2').1
      refine mt_pc H t0 ha2' (by omega) (fun h H => ?_)
      have hev2 := F2.ev
      refine kk _ _ h (H.del 1) (MI.pc (a' := { a2 with pc := a2.pc + 1 }) I2 ha2 rfl (by simp; omega) rfl rfl rfl q2) ⟨F2.now, F2.nl, by simp [putT]; omega⟩ (fun _ => ⟨q4, _, tk_set t0 hlt2, q1, ?_⟩)
      have := hmu hn
      have e6 : (a2.pc + 1).toNat = a1.pc.toNat + 1 := by omega
      simp only [e6]; exact this
    · intro K' hK
      have k9 : ∀ (g2 : GS) (a2 : TK) (h : Heap), HS (mach m S g2 :: bk b8 #[.int .i64 o.kind, .int .i64 o.a, .int .i64 o.b] :: l) h → MIg S noX noP g2 → tkAt g2.ts t = some a2 → a2.prog = a.prog → a2.state ≠ 4 → a2.pc = a1.pc → g2.A t → g2.now = g1.now → g2.ls.length = g1.ls.length → g2.ev.length ≤ g1.ev.length + 400 → isTm o = false → K' () h := by
        intro g2 a2 h H I2 h1 h2 h3 h4 h5 h6 h7 h8 h9
        exact hK _ _ ⟨g2, a2, H, I2, h1, h2, h3, h4, h5, ⟨h6.trans F1.now, h7.trans F1.nl, by omega⟩, h9⟩
      have hlk : 2 ≤ o.kind → o.kind ≤ 6 → 0 ≤ o.a ∧ o.a < (g1.ls.length : Int) := fun h1 h2 => by rw [F1.nl]; exact I.pin.lk p hpm o hom h1 h2
      refine ldI_f H.swap rfl ?_
      by_cases k1 : o.kind = 1
      · rw [if_pos (by simpa using k1)]
        refine ldI_f H.swap rfl (ldI_f H.swap rfl (ldI_f H.swap rfl ?_))
        refine k_mcompute H I1 ha1 hA1 (by omega) (fun g' h H I' F' => kk true g' h (H.del 1) I' ⟨F'.now.trans F1.now, F'.nl.trans F1.nl, by have := F'.ev; omega⟩ (by simp))
      · rw [if_neg (by simpa using k1)]
        refine jn_cut (I := fun j h' => h' = h ∧ (j.1 = true ↔ (o.kind = 2 ∨ o.kind = 3 ∨ o.kind = 4 ∨ o.kind = 5))) ?_ ?_
        · rintro ⟨j, _⟩ h' ⟨rfl, hj⟩
          simp only at hj ⊢
          by_cases ktk : o.kind = 2 ∨ o.kind = 3 ∨ o.kind = 4 ∨ o.kind = 5
          · rw [if_pos (hj.2 ktk)]
            refine ldI_f H.swap rfl (ldI_f H.swap rfl (ldI_f H.swap rfl ?_))
            have hl := hlk (by omega) (by omega)
            refine k_mtake H I1 ha1 hA1 (by omega) hl.1 hl.2 (by omega) (fun b g' h H I' F' hbb => kk b g' h (H.del 1) I' ⟨F'.now.trans F1.now, F'.nl.trans F1.nl, by have := F'.ev; omega⟩ (fun e => ?_))
            obtain ⟨hA', a', p1, p2, p3⟩ := hbb e
            refine ⟨hA', a', p1, p3.trans e1, ?_⟩
            have e6 : a'.pc.toNat = a1.pc.toNat + 1 := by omega
            rw [e6]
            exact hmu (by simp [isTm]; omega)
          · rw [if_neg (fun h => ktk (hj.1 h))]
            by_cases k6 : o.kind = 6
            · rw [if_pos (by simpa using k6)]
              have hl := hlk (by omega) (by omega)
              have htm : isTm o = false := by simp [isTm]; omega
              obtain ⟨k, hk'⟩ := get_ex hl.1 hl.2 rfl (l := g1.ls)
              have hk : tkAt g1.ls o.a = some k := tkAt_some.2 ⟨hl.1, hk'⟩
              obtain ⟨np, hL⟩ := mlk_inv' hk H
              obtain ⟨c8, n8, at8⟩ := ml_sl H
              refine ldS_in c8 (ldI_f H.swap rfl (at8 o.a k _ hl.1 hk' ?_))
              refine k_Unlock (mlk_open hk' H) (fun hnh => ⟨cf H.swap rfl, c8, ?_⟩) (fun gH s wa' h H G hex => ?_)
              · rw [if_pos (by decide)]
                refine ldI_f H.swap rfl (k_tell H (by omega) (fun h H => ?_))
                exact k9 (told g1 8 t o.a 7) a1 h H (MI.plain I1 ⟨g1.now, 8, t, o.a, 7⟩ rfl (by simp) (fun _ => by rw [wai]; exact hno o.a)) ha1 e1 hs41 rfl hA1 rfl rfl (by simp [told]) htm
              · have H := mlk_close hk' (H.sink 3)
                have H : HS (mach m S (putL g1 o.a.toNat ⟨k.b, k.sh, rm t k.ho ++ gH, wa'⟩) :: row 1 s ((gH.map (·.1)).map cI) :: bk b8 #[.int .i64 o.kind, .int .i64 o.a, .int .i64 o.b] :: l) h := H
                refine ⟨cf (H.pull 2 _ rfl) rfl, (ml_sl H).1, ?_⟩
                rw [if_neg (by decide)]
                refine ldI_f (H.pull 2 _ rfl) rfl (k_tell H (by simp [putL]; omega) (fun h H => ?_))
                refine ldI_f (H.pull 2 _ rfl) rfl ?_
                obtain ⟨q1, q2, q3, q4, q5⟩ := MI.given I1 hk hL (List.Sublist.refl _) G
                have I2 := MI.rel (t := t) (lo := o.a) I1 hk hL (e := ⟨g1.now, 5, t, o.a, 0⟩) rfl (.inl rfl) rfl rfl G
                have hwt : ∀ y ∈ k.wa, y.1 ≠ t := fun y hy e => hno o.a (by rw [WO_at hk, ← e]; exact List.mem_map_of_mem hy)
                rw [← rd_fst k gH] at H
                refine k_give H (lkat_put hk) I2 ?_ q2 (by simp [putL, told]; omega) (by simp; omega) (fun g3 h H I3 F3 => ?_)
                · intro q hq
                  obtain ⟨b, hb1, hb2, hb3⟩ := q1 q hq
                  obtain ⟨b', hb', rfl⟩ := tk_of hb1
                  exact ⟨b', hb', hb2, hb3⟩
                · have hev3 := F3.ev
                  simp only [putL, told, List.length_append, List.length_cons, List.length_nil, List.length_map] at hev3
                  refine k9 g3 a1 h (H.del 1) I3 ?_ e1 hs41 rfl (F3.keep t hA1) F3.now (by rw [F3.ls]; simp [putL, told]) (by omega) htm
                  rw [F3.same t (fun q hq e => ?_)]
                  · exact ha1
                  · obtain ⟨r, hr, rfl⟩ := List.mem_map.1 hq
                    obtain ⟨y, hy, e7⟩ := q5 r hr
                    exact hwt y hy (e7.trans e)
            · rw [if_neg (by simpa using k6)]
              have hTI1 := I1.tsk _ _ (v5_at ha1)
              by_cases k7 : o.kind = 7
              · rw [if_pos (by simpa using k7)]
                refine ldI_f H.swap rfl (k_tell H (by omega) (fun h H => ?_))
                refine k_out H t0 (by simp [told]; omega) (fun h H => ?_)
                refine mt_ld H t0 ha1' (fun cx hld hst => ?_)
                refine hst 6 (.int .i64 3) { a1 with state := 3 } _ (by decide) rfl rfl (fun h H => ?_)
                obtain ⟨sT, c11, n11, at11⟩ := mt_sl H
                refine ldS_in c11 (ldI_in (mnow H) (ldI_f H.swap rfl (at11 t _ _ t0 (put_get ha1') (fun cx hld hst => ?_))))
                refine hst 7 (.int .u64 _) { a1 with state := 3, til := IntKind.wrap .u64 (g1.now + IntKind.wrap .u64 o.a) } _ (by decide) rfl rfl (fun h H => ?_)
                refine mt_pc H t0 (put_get (put_get ha1')) (by simp; omega) (fun h H => ?_)
                refine kk true _ h (H.del 1) ?_ ⟨F1.now, F1.nl, by simp [putT, told]; omega⟩ (by simp)
                have I2 := MI.plain I1 ⟨g1.now, 9, t, -1, o.a⟩ rfl (by simp) (by simp)
                have I3 := I2.task (A' := fun y => g1.A y ∧ y ≠ t) (a' := v5 { a1 with state := 3, til := IntKind.wrap .u64 (g1.now + IntKind.wrap .u64 o.a), pc := a1.pc + 1 }) (v5_at ha1) ⟨hTI1.prog, by simp [v5]; omega, by simp [v5], by simp [v5]⟩ (.inl hno) (fun u hu => .inl hu)
                simp only [MIg, putT, told, List.set_set, List.map_set]
                exact I3
              · rw [if_neg (by simpa using k7)]
                by_cases k8 : o.kind = 8
                · rw [if_pos (by simpa using k8)]
                  obtain ⟨bq, hbq⟩ := get_ex hc0 hc1 rfl (l := S.bs)
                  refine k_tell H (by omega) (fun h H => ?_)
                  refine ldP_in (mc_ptr H) (mq_ptr H hc0 hbq ?_)
                  obtain ⟨ids, cur, hids, HQ⟩ := mq_open H hbq
                  refine k_QBack HQ (fun h H => ?_)
                  have H := mq_close hbq H
                  refine mt_ld H t0 ha1' (fun cx hld hst => ?_)
                  refine hst 6 (.int .i64 1) { a1 with state := 1 } _ (by decide) rfl rfl (fun h H => ?_)
                  refine mt_pc H t0 (put_get ha1') (by simp; omega) (fun h H => ?_)
                  refine kk true _ h (H.del 1) ?_ ⟨F1.now, F1.nl, by simp [putT, told]; omega⟩ (by simp)
                  have I2 := MI.plain I1 ⟨g1.now, 10, t, -1, c⟩ rfl (by simp) (by simp)
                  have I3 := I2.task (A' := g1.A) (a' := v5 { a1 with state := 1, pc := a1.pc + 1 }) (v5_at ha1) ⟨hTI1.prog, by simp [v5]; omega, by simp [v5], fun h => by have := hTI1.til h; simp only [v5] at this; omega⟩ (.inl hno)
                    (fun u hu => by
                      by_cases e : u = t
                      · exact .inr ⟨e, .inl rfl⟩
                      · exact .inl ⟨hu, e⟩)
                  simp only [MIg, putT, told, List.set_set, List.map_set]
                  exact I3
                · rw [if_neg (by simpa using k8)]
                  by_cases k9' : o.kind = 9
                  · rw [if_pos (by simpa using k9')]
                    have htm : isTm o = false := by simp [isTm]; omega
                    have hts1 : g1.ts.length ≤ 64 := by have := I1.len; simpa using this
                    have hsp := I.pin.sp p hpm o hom k9'
                    refine k_room H (by omega) (fun b hbr => ?_)
                    split
                    · rename_i hbt
                      have hroom := hbr hbt
                      obtain ⟨sT, c11, n11, at11⟩ := mt_sl H
                      refine ldI_f H.swap rfl (ldS_in c11 (at11 t _ _ t0 ha1' (fun cx hld hst => ldI_in (hld 2 _ rfl) (ldS_in c11 (at11 t _ _ t0 ha1' (fun cx hld hst => ldI_in (hld 9 _ rfl) ?_))))))
                      refine k_come H (by omega) (by omega) (fun h H => ?_)
                      refine k9 _ a1 h H ?_ ?_ e1 hs41 rfl (.inl hA1) rfl rfl (by simp [told, comer]) htm
                      · have I2 := I1.come (a := v5 ⟨(g1.ts.length : Nat), o.a, a1.group, c, 0, 0, 1, 0, -1, a1.weight, a1.weight, 0⟩) (by simpa using hroom) ⟨hsp, by simp [v5], by simp [v5], by simp [v5]⟩ rfl
                        have I3 := I2.plain ⟨g1.now, 1, (g1.ts.length : Nat), -1, c⟩ rfl (by simp) (by simp)
                        simp only [MIg, told, comer, List.map_append, List.map_cons, List.map_nil]
                        rw [List.length_map] at I3
                        exact I3
                      · refine tkAt_some.2 ⟨t0, ?_⟩
                        simp only [told, comer]
                        rw [List.getElem?_append_left hlt1]; exact ha1'
                    · refine k_tell H (by omega) (fun h H => ?_)
                      exact k9 _ a1 h H (MI.plain I1 ⟨g1.now, 8, t, -1, 3⟩ rfl (by simp) (fun _ => by rw [wai]; exact hno (-1))) ha1 e1 hs41 rfl hA1 rfl rfl (by simp [told]) htm
                  · rw [if_neg (by simpa using k9')]
                    by_cases k10 : o.kind = 10
                    · rw [if_pos (by simpa using k10)]
                      have htm : isTm o = false := by simp [isTm]; omega
                      obtain ⟨sT, c11, n11, at11⟩ := mt_sl H
                      refine ldS_in c11 (ldI_f H.swap rfl (at11 t _ _ t0 ha1' (fun cx hld hst => ?_)))
                      refine hst 9 (.int .i64 _) { a1 with weight := o.a } _ (by decide) rfl rfl (fun h H => ?_)
                      refine ldI_f H.swap rfl (k_tell H (by simp [putT]; omega) (fun h H => ?_))
                      refine k9 _ { a1 with weight := o.a } h H ?_ (tk_set t0 hlt1) e1 hs41 rfl hA1 rfl rfl (by simp [told, putT]) htm
                      have I2 := MI.pc (a' := { a1 with weight := o.a }) I1 ha1 rfl (by simp; omega) rfl rfl rfl hs41
                      exact I2.plain ⟨g1.now, 14, t, -1, o.a⟩ rfl (by simp) (by simp)
                    · rw [if_neg (by simpa using k10)]
                      by_cases k11 : o.kind = 11
                      · rw [if_pos (by simpa using k11)]
                        refine k_mdie H I1 ha1 (by omega) (fun g' h H I' F' => ?_)
                        have := F'.ev
                        exact kk true g' h (H.del 1) I' ⟨F'.now.trans F1.now, F'.nl.trans F1.nl, by omega⟩ (by simp)
                      · rw [if_neg (by simpa using k11)]
                        exact k9 g1 a1 _ H I1 ha1 e1 hs41 rfl hA1 rfl rfl (by omega) (by simp [isTm]; omega)
        · intro K2 hK2
          split
          · rename_i hh; refine hK2 _ _ ⟨rfl, ?_⟩; simp at hh ⊢; omega
          · split
            · rename_i hh; refine hK2 _ _ ⟨rfl, ?_⟩; simp at hh ⊢; omega
            · split
              · rename_i hh; refine hK2 _ _ ⟨rfl, ?_⟩; simp at hh ⊢; omega
              · rename_i h2 h3 h4; refine hK2 _ _ ⟨rfl, ?_⟩; simp at h2 h3 h4 ⊢; omega
  · intro K' hK
    refine mt_ld H t0 ha' (fun cx hld hst => ldI_in (hld 4 _ rfl) (ldS_f H.swap rfl ?_))
    by_cases hge : a.pc ≥ ((p.s.n : Nat) : Int)
    · rw [if_pos (by simpa using hge)]
      refine ldB_f H.swap rfl ?_
      by_cases hfo : p.fo = true
      · rw [if_neg (by simp [hfo])]
        refine mt_ld H t0 ha' (fun cx hld hst => ?_)
        refine hst 4 (.int .i64 0) { a with pc := 0 } _ (by decide) rfl rfl (fun h H => ?_)
        refine hK _ _ ⟨_, { a with pc := 0 }, H, MI.pc (a' := { a with pc := 0 }) I ha rfl (by simp) rfl rfl rfl hs4, tk_set t0 hlt, rfl, rfl, ?_, by simp, by simp; omega, hA, ⟨rfl, rfl, by simp [putT], by simp [putT]⟩, fun _ => hfo⟩
        rw [if_pos (by omega)]; rfl
      · rw [if_pos (by simpa using hfo)]
        refine k_mdie (H.del 1) I ha (by omega) (fun g' h H I' F' => ?_)
        have := F'.ev
        exact kk true g' h H I' ⟨F'.now, F'.nl, by omega⟩ (by simp)
    · rw [if_neg (by simpa using hge)]
      exact hK _ _ ⟨g, a, H, I, ha, rfl, rfl, by rw [if_neg (by omega)], hpc.1, by omega, hA, ⟨rfl, rfl, rfl, by omega⟩, by omega⟩
end
end Go.Proofs.YtbkjeahmbnkmeaaGreat
set_option autoImplicit false
set_option linter.unusedVariables false
namespace Go.Proofs.YtbkjeahmbnkmeaaGreat
open Go Ev

theorem findIdx_le {α : Type} (p : α → Bool) : ∀ l : List α, l.findIdx p ≤ l.length := fun l => List.findIdx_le_length
theorem mu_le {p : PR} (h : p.ops.length ≤ 12) (pc : Nat) : mu p pc ≤ 100 := by
  unfold mu
  cases p.fo with
  | false => simp only [cond_false]; omega
  | true =>
    simp only [cond_true]
    have h1 := findIdx_le isTm (p.ops.drop pc)
    have h2 := findIdx_le isTm p.ops
    rw [List.length_drop] at h1
    cases (p.ops.drop pc).any isTm with
    | true => simp only [cond_true]; omega
    | false => simp only [cond_false]; omega
section
variable {m : Nat} {S : ST} {g : GS} {l : List SP} {h : Heap}
theorem mnow_st {v : Int} {K : Heap → Prop} (H : HS (mach m S g :: l) h) (k : ∀ h', HS (mach m S { g with now := v } :: l) h' → K h') : st ((Addr.mk m 0 none).add 5) (.int .u64 v) h K := by
  obtain ⟨x, hp, H⟩ := mach_open H
  refine st_f H (by simp [mB]) rfl (fun h H => k h (mach_close (x := x) ⟨hp.vs, hp.idle, hp.bs, hp.nc⟩ ?_))
  simpa [mB] using H
theorem MI.later {x : XW} {pH : PH} {now now' : Int} {ls : List LK} {ts : List T5} {ev : List EV} {A : Int → Prop} (I : MI S x pH now ls ts ev A) (h : now ≤ now') : MI S x pH now' ls ts ev A :=
  { I with tim := fun e he => by have := I.tim e he; omega }
/-- a task that may run is put into another state of those -/
theorem MI.state {x : XW} {pH : PH} {now : Int} {ls : List LK} {ts : List TK} {ev : List EV} {A : Int → Prop} {t : Int} {a a' : TK} (I : MI S x pH now ls (ts.map v5) ev A) (ha : tkAt ts t = some a) (hs : a.state = 1 ∨ a.state = 2)
    (h1 : a'.prog = a.prog) (h2 : a'.pc = a.pc) (h3 : a'.state = 1 ∨ a'.state = 2) (h4 : a'.til = a.til) : MI S x pH now ls ((ts.set t.toNat a').map v5) ev A := by
  have hTI := I.tsk _ _ (v5_at ha)
  rw [List.map_set]
  refine I.task (v5_at ha) ⟨by simpa [v5, h1] using hTI.prog, by simpa [v5, h2] using hTI.pc, fun h => by simp only [v5] at h; omega, fun h => ?_⟩ (.inl (fun lo => I.notW (v5_at ha) (.inl (by simp only [v5]; omega)))) (fun u hu => ?_)
  · simp only [v5, h4] at h
    have := hTI.til h
    simp only [v5] at this; omega
  · by_cases e : u = t
    · exact .inr ⟨e, h3⟩
    · exact .inl ⟨hu, e⟩
set_option maxRecDepth 8000 in
theorem k_mTick {c : Int} {R : Heap → Prop} (H : HS (mach m S g :: l) h) (I : MIg S noX noP g) (hc0 : 0 ≤ c) (hc1 : c < (S.bs.length : Int)) (hnow : 0 ≤ g.now ∧ g.now ≤ 4000000) (hb : g.ev.length + 100000 ≤ 1000000000000)
    (kk : ∀ g' h', HS (mach m S g' :: l) h' → MIg S noX noP g' → g'.now = g.now + 1 → g'.ls.length = g.ls.length → g'.ev.length ≤ g.ev.length + 60000 → R h') : C_ref26_Machine_Tick (some ⟨m, 0, none⟩) c h R := by
  apply of_ref26_Machine_Tick; unfold S_ref26_Machine_Tick
  obtain ⟨bq, hbq⟩ := get_ex hc0 hc1 rfl (l := S.bs)
  refine ldI_in (mnow H) ?_
  rw [wrapu_in (by omega) (by omega)]
  refine mnow_st H (fun h H => ?_)
  refine ldP_in (mc_ptr H) (mq_ptr H hc0 hbq ?_)
  have I0 : MIg S noX noP { g with now := g.now + 1 } := MI.later (now' := g.now + 1) I (by omega)
  -- what each piece keeps
  refine jn_cut (I := fun _ h => ∃ g1, HS (mach m S g1 :: l) h ∧ MIg S noX noP g1 ∧ g1.now = g.now + 1 ∧ g1.ls.length = g.ls.length ∧ g1.ev.length ≤ g.ev.length + 1) ?_ ?_
  · clear H I0
    rintro _ h ⟨g1, H, I1, n1, l1, v1⟩
    refine jn_cut (I := fun _ h => ∃ g1, HS (mach m S g1 :: l) h ∧ MIg S noX noP g1 ∧ g1.now = g.now + 1 ∧ g1.ls.length = g.ls.length ∧ g1.ev.length ≤ g.ev.length + 2) ?_ ?_
    · clear H I1 n1 l1 v1 g1
      rintro _ h ⟨g1, H, I1, n1, l1, v1⟩
      obtain ⟨ids, cur, hids, HQ⟩ := mq_open H hbq
      obtain ⟨gr, fl, s, ran, qs, QI, hqs, HB⟩ := que_open HQ
      have hlen64 : g1.ts.length ≤ 64 := by have := I1.len; simpa using this
      refine ldI_f HB rfl ?_
      by_cases hcur : cur < 0
      · rw [if_pos (by simpa using hcur)]
        obtain ⟨x, hp, HX⟩ := mach_open H
        obtain ⟨o, ho⟩ := get_ex hc0 (by have := hp.idle; have := hp.bs; omega) rfl (l := x.idle) (i := c)
        have HI := HX.pull 8 _ rfl
        refine ldS_f HX rfl (el1_in HI hc0 ho rfl (fun d hd hcell => ldI_in hcell (el1_in HI hc0 ho rfl (fun d hd hcell => ?_))))
        refine el1_st (a' := IntKind.wrap .i64 (o + 1)) HI hd ho rfl rfl rfl (fun h HI => ?_)
        have H2 : HS (mach m S g1 :: l) h := mach_close (x := { x with idle := x.idle.set c.toNat (IntKind.wrap .i64 (o + 1)) }) ⟨hp.vs, by simp; exact hp.idle, hp.bs, hp.nc⟩ (HI.sink 8)
        refine k_Reckon H2 hlen64 (fun ts' h H hts => ?_)
        exact kk _ h H (by simp only [MIg, hts]; exact I1) n1 l1 (by simp only; omega)
      · rw [if_neg (by simpa using hcur)]
        have hcm : cur ∈ ids := QI.cur.resolve_left (by omega)
        have hAc : g1.A cur := hids cur hcm
        refine ldI_f HB rfl (k_QTick HQ (fun h HQ => ?_))
        have H := mq_close hbq HQ
        obtain ⟨a, ha, hs⟩ := I1.run hAc
        obtain ⟨t0, ha'⟩ := tkAt_some.1 ha
        have hlt := (List.getElem?_eq_some_iff.1 ha').1
        obtain ⟨sT, c11, n11, at11⟩ := mt_sl H
        refine ldS_in c11 (at11 cur _ _ t0 ha' (fun cx hld _ => ldI_in (hld 11 _ rfl) (at11 cur _ _ t0 ha' (fun cx hld hst => ?_))))
        refine hst 11 (.int .i64 _) { a with ticks := IntKind.wrap .i64 (a.ticks + 1) } _ (by decide) rfl rfl (fun h H => ?_)
        have I2 : MIg S noX noP (putT g1 cur.toNat { a with ticks := IntKind.wrap .i64 (a.ticks + 1) }) := MI.state (a' := { a with ticks := IntKind.wrap .i64 (a.ticks + 1) }) I1 ha hs rfl rfl hs rfl
        have hprog := (I1.tsk _ _ (v5_at ha)).prog
        simp only [v5] at hprog
        obtain ⟨p, hp⟩ := get_ex hprog.1 hprog.2 rfl (l := S.ps)
        have hpl := I1.pin.len p (List.mem_of_getElem? hp)
        refine Lp.rel (I := fun n s' h' => ∃ g2, HS (mach m S g2 :: l) h' ∧ MIg S noX noP g2 ∧ g2.now = g.now + 1 ∧ g2.ls.length = g.ls.length ∧ g2.ev.length + 500 * n ≤ g.ev.length + 2 + 50500 ∧
          (s'.1 = true ∨ (s'.1 = false ∧ g2.A cur ∧ ∃ a2, tkAt g2.ts cur = some a2 ∧ a2.prog = a.prog ∧ n = mu p a2.pc.toNat + 1))) (n := mu p a.pc.toNat + 1) ?_
          ⟨_, H, I2, n1, l1, by have := mu_le hpl.2 a.pc.toNat; simp only [putT]; omega, .inr ⟨rfl, hAc, _, tk_set t0 hlt, rfl, rfl⟩⟩
        clear H I2 at11 c11 hld hst HQ HB
        rintro n ⟨ov, _⟩ h ⟨g2, H, I2, n2, l2, v2, hov⟩ _
        simp only at hov ⊢
        have hlen2 : g2.ts.length ≤ 64 := by have := I2.len; simpa using this
        rcases hov with rfl | ⟨rfl, hA2, a2, ha2, hpa2, hn⟩
        · rw [if_neg (by decide)]
          refine k_Reckon H hlen2 (fun ts' h H hts => ?_)
          exact kk _ h H (by simp only [MIg, hts]; exact I2) n2 l2 (by simp only; omega)
        · rw [if_pos (by decide)]
          refine k_mstep H I2 hA2 ha2 (by rw [hpa2]; exact hp) hc0 hc1 (by omega) (fun b g' h H I' F' hbb => ?_)
          have hev := F'.ev
          cases b with
          | true => exact ⟨0, by omega, g', H, I', F'.now.trans n2, F'.nl.trans l2, by omega, .inl rfl⟩
          | false =>
            obtain ⟨hA', a', ha', hpa', hmu⟩ := hbb rfl
            exact ⟨mu p a'.pc.toNat + 1, by omega, g', H, I', F'.now.trans n2, F'.nl.trans l2, by omega, .inr ⟨rfl, hA', a', ha', hpa'.trans hpa2, rfl⟩⟩
    · intro K' hK
      obtain ⟨ids, cur, hids, HQ⟩ := mq_open H hbq
      obtain ⟨gr, fl, s, ran, qs, QI, hqs, HB⟩ := que_open HQ
      have hsn := row_len HB.swap
      rw [List.length_map] at hsn
      refine jn_cut (I := fun j h' => h' = h ∧ (j.1 = true → cur < 0 ∧ ids ≠ [])) ?_ ?_
      · rintro ⟨j, _⟩ h' ⟨rfl, hj⟩
        simp only at hj ⊢
        split
        · rename_i hjt
          obtain ⟨hcur, hne⟩ := hj hjt
          refine k_QPick HQ hcur hne (fun t h ht HQ => ?_)
          have H := mq_close hbq HQ
          obtain ⟨a, ha, hs⟩ := I1.run (hids t ht)
          obtain ⟨t0, ha'⟩ := tkAt_some.1 ha
          refine mt_ld H t0 ha' (fun cx hld hst => ?_)
          refine hst 6 (.int .i64 2) { a with state := 2 } _ (by decide) rfl rfl (fun h H => ?_)
          refine k_tell H (by simp only [putT]; omega) (fun h H => ?_)
          refine hK _ _ ⟨_, H, ?_, n1, l1, by simp [told, putT]; omega⟩
          have I2 := MI.state (a' := { a with state := 2 }) I1 ha hs rfl rfl (.inr rfl) rfl
          exact I2.plain ⟨g1.now, 2, t, -1, c⟩ rfl (by simp) (by simp)
        · exact hK _ _ ⟨g1, H, I1, n1, l1, by omega⟩
      · intro K2 hK2
        refine ldI_f HB rfl ?_
        split
        · rename_i hc
          refine ldS_f HB rfl (hK2 _ _ ⟨rfl, fun hj => ⟨by simpa using hc, ?_⟩⟩)
          rintro rfl
          have : qs = [] := by simpa using hqs
          subst this
          simp at hj; simp at hsn; omega
        · exact hK2 _ _ ⟨rfl, by simp⟩
  · intro K' hK
    obtain ⟨ids, cur, hids, HQ⟩ := mq_open H hbq
    refine k_QDue HQ (fun x h HQ hx => ?_)
    split
    · rename_i hxt
      have hcm := hx hxt
      refine k_QBack HQ (fun h HQ => ?_)
      have H := mq_close hbq HQ
      obtain ⟨a, ha, hs⟩ := I0.run (hids cur hcm)
      obtain ⟨t0, ha'⟩ := tkAt_some.1 ha
      refine mt_ld H t0 ha' (fun cx hld hst => ?_)
      refine hst 6 (.int .i64 1) { a with state := 1 } _ (by decide) rfl rfl (fun h H => ?_)
      refine k_tell H (by simp only [putT]; omega) (fun h H => ?_)
      refine hK _ _ ⟨_, H, ?_, rfl, rfl, by simp [told, putT]⟩
      have I2 := MI.state (a' := { a with state := 1 }) I0 ha hs rfl rfl (.inl rfl) rfl
      exact I2.plain ⟨g.now + 1, 3, cur, -1, c⟩ rfl (by simp) (by simp)
    · exact hK _ _ ⟨_, mq_close hbq HQ, I0, rfl, rfl, by simp⟩
end
end Go.Proofs.YtbkjeahmbnkmeaaGreat
set_option autoImplicit false
set_option linter.unusedVariables false
namespace Go.Proofs.YtbkjeahmbnkmeaaGreat
open Go Ev

section
variable {b : Nat} {sh : Bool} {ho wa : List HoT} {l : List SP} {h : Heap}
theorem k_KWeigh {p w : Int} {R : Bool → Heap → Prop} (H : HS (lk b sh ho wa :: l) h) (k : ∀ x h', HS (lk b sh ho wa :: l) h' → R x h') : C_ref20_Lock_Weigh (some ⟨b, 0, none⟩) p w h R := by
  apply of_ref20_Lock_Weigh; unfold S_ref20_Lock_Weigh
  have H0 := H
  obtain ⟨np, tp, I, H⟩ := lk_open H
  have hlen := I.len
  have hnp := I.np8
  obtain ⟨sl, sH, sW, tu, led, died, H⟩ := lkr_open H
  refine ldB_f H rfl ?_
  split
  · exact k _ _ H0
  · refine ldP_f H rfl (k_LIs H.rot4 ?_)
    by_cases hp : 0 ≤ p ∧ p < (np : Int)
    · rw [if_neg (by simpa using hp)]
      refine ldP_f H rfl ?_
      obtain ⟨s, sl', cr, fl, ps, hl, HL⟩ := ledger_open H.rot4
      obtain ⟨a, ha⟩ := get_ex hp.1 hp.2 hl (l := ps)
      refine ldS_f HL rfl (el_in HL.swap hp.1 ha (fun c hc hcell => ldI_in (hcell 0 _ rfl) ?_))
      refine ldP_f H rfl (k_LWeigh H.rot4 (fun x h H => ?_))
      have H := H.un4
      clear hcell HL
      refine jn_cut (I := fun _ h' => h' = h) ?_ ?_
      · rintro j h' rfl
        split
        · refine ldI_ff H rfl (ldI_ff H rfl (ldI_f H rfl (k_TEnd H (fun tp' tu' h H => ?_))))
          show stF _ h ((Addr.mk b 0 none).add 4) 0 _
          rw [add0]
          refine stF_in _ 4 0 _ h H (by simp [lkB]) (by simp [Value.oneCell']) (fun h H => ?_)
          have H : HS (bk b (lkB sh sl sH sW tp' tu' led died) :: row 3 sH (ho.map cH) :: row 3 sW (wa.map cH) :: ledger led np :: l) h := H
          exact k_KSettle (lkr_close H) (by omega) (by omega) (by omega) (fun h H => k _ _ (lk_close I H))
        · exact k_KSettle (lkr_close H) (by omega) (by omega) (by omega) (fun h H => k _ _ (lk_close I H))
      · intro K' hK
        refine ldI_ff H rfl ?_
        split
        · obtain ⟨s, sl', cr, fl, ps, hl, HL⟩ := ledger_open H.rot4
          obtain ⟨a, ha⟩ := get_ex hp.1 hp.2 hl (l := ps)
          exact ldP_f H rfl (ldS_f HL rfl (el_in HL.swap hp.1 ha (fun c hc hcell => ldI_in (hcell 0 _ rfl) (hK _ _ rfl))))
        · exact hK _ _ rfl
    · rw [if_pos (by simp; omega)]; exact k _ _ H0
end

theorem MI.left {S : ST} {now : Int} {ls : List LK} {ts : List T5} {ev : List EV} {A : Int → Prop} {lo t n : Int} {k : LK} {gH wa' : List HoT} {np : Nat} (I : MI S noX noP now ls ts ev A) (hk : tkAt ls lo = some k) (hL : LInv k.sh k.ho k.wa np) (G : Gr (rm t k.wa) gH wa') :
    MI S (fun l u => (l == lo && (gH.map (rd k)).any (fun q => q.1 == u)) || noX l u) (fun l => if l = lo then gH.map (rd k) else []) now (ls.set lo.toNat ⟨k.b, k.sh, k.ho ++ gH, wa'⟩) ts (ev ++ [⟨now, 8, t, lo, n⟩]) A := by
  obtain ⟨q1, q2, q3, q4, q5⟩ := I.given hk hL (rm_sub t k.wa) G
  obtain ⟨gd, tm⟩ := I.tell ⟨now, 8, t, lo, n⟩ rfl (by simp)
  refine MI.lock (k' := ⟨k.b, k.sh, k.ho ++ gH, wa'⟩) (ev' := ev ++ [⟨now, 8, t, lo, n⟩]) I hk gd tm ?_ ?_ (fun y hy => I.win _ k hk y (q4 y hy))
  · intro lo'
    rw [oh_snoc, hst, if_neg (by rintro ⟨_, h | h⟩ <;> simp at h), if_neg (by rintro ⟨_, h⟩; simp at h)]
    have := I.hol lo'
    rw [show noP lo' = [] from rfl, List.append_nil] at this
    by_cases e : lo' = lo
    · rw [e] at this ⊢
      rw [if_pos rfl, if_pos rfl, this, HO_at hk, List.map_append]; rfl
    · rw [if_neg e, if_neg e, List.append_nil]; exact this
  · intro lo'
    rw [ow_snoc, wst, if_neg (by simp)]
    have := I.wai lo'
    rw [List.filter_eq_self.2 (by simp [noX])] at this
    by_cases e : lo' = lo
    · rw [e] at this ⊢
      rw [if_pos ⟨rfl, .inr rfl⟩, if_pos rfl, this, WO_at hk]
      simp only [beq_self_eq_true, Bool.true_and]
      have h1 : (k.wa.map (·.1)).filter (fun u => u != t) = (rm t k.wa).map (·.1) := by rw [List.filter_map]; rfl
      rw [h1]
      exact wai_on (X := fun u => noX lo u) (by rw [List.filter_eq_self.2 (by simp [noX])]) G.rest
    · rw [if_neg (by rintro ⟨h, _⟩; exact e h.symm), if_neg (by rintro ⟨_, h⟩; simp at h), if_neg e]
      have hb : (lo' == lo) = false := by simpa using e
      simp only [hb, Bool.false_and, Bool.false_or, noX, Bool.not_false]
      rw [List.filter_eq_self.2 (by simp)]
      exact this
theorem MI.noG {S : ST} {x0 : XW} {now : Int} {ls : List LK} {ts : List T5} {ev : List EV} {A : Int → Prop} {lo : Int} (I : MI S x0 noP now ls ts ev A) :
    MI S (fun l u => (l == lo && ([] : List (Int × Bool)).any (fun q => q.1 == u)) || x0 l u) (fun l => if l = lo then [] else []) now ls ts ev A := by
  refine I.congr ?_ ?_
  · funext l u; simp
  · funext l; simp [noP]
section
variable {m : Nat} {S : ST} {g : GS} {l : List SP} {h : Heap}
theorem k_mdue {R : Sl → Heap → Prop} (H : HS (mach m S g :: l) h) (hl : g.ts.length ≤ 64)
    (k : ∀ s (ns : List Int) h', HS (row 1 s (ns.map cI) :: mach m S g :: l) h' → ns.length ≤ g.ts.length → (∀ x ∈ ns, 0 ≤ x ∧ x < (g.ts.length : Int)) → R s h') : C_ref26_Machine_due (some ⟨m, 0, none⟩) h R := by
  apply of_ref26_Machine_due; unfold S_ref26_Machine_due
  refine Lp.inv (I := fun s' h' => ∃ ns : List Int, HS (row 1 s'.1 (ns.map cI) :: mach m S g :: l) h' ∧ 0 ≤ s'.2.1 ∧ s'.2.1 ≤ (g.ts.length : Int) ∧ (ns.length : Int) ≤ s'.2.1 ∧ ∀ x ∈ ns, 0 ≤ x ∧ x < (g.ts.length : Int)) (μ := fun s' _ => ((g.ts.length : Int) - s'.2.1).toNat) ?_ ⟨[], row_nil H, by simp, by simp, by simp, by simp⟩
  clear H
  rintro ⟨out, i, _⟩ h ⟨ns, H, i0, i1, hn, hns⟩ _
  simp only at H i0 i1 hn hns ⊢
  have hout := row_len H
  rw [List.length_map] at hout
  obtain ⟨sT, c11, n11, at11⟩ := mt_sl H.swap
  refine ldS_in c11 ?_
  by_cases hi : i < ((sT.n : Nat) : Int)
  · rw [if_pos (by simpa using hi)]
    obtain ⟨a, ha⟩ := get_ex i0 (by omega) rfl (l := g.ts) (i := i)
    have hw : IntKind.wrap .i64 (i + 1) = i + 1 := wrap64_in (by omega) (by omega)
    rw [hw]
    have skip : (∃ ns : List Int, HS (row 1 out (ns.map cI) :: mach m S g :: l) h ∧ 0 ≤ i + 1 ∧ i + 1 ≤ (g.ts.length : Int) ∧ (ns.length : Int) ≤ i + 1 ∧ ∀ x ∈ ns, 0 ≤ x ∧ x < (g.ts.length : Int)) ∧ ((g.ts.length : Int) - (i + 1)).toNat < ((g.ts.length : Int) - i).toNat :=
      ⟨⟨ns, H, by omega, by omega, by omega, hns⟩, by omega⟩
    refine ldS_in c11 (at11 i a _ i0 ha (fun cx hld _ => ldI_in (hld 7 _ rfl) ?_))
    split
    · exact skip
    · refine ldS_in c11 (at11 i a _ i0 ha (fun cx hld _ => ldI_in (hld 7 _ rfl) (ldI_in (mnow H.swap) ?_)))
      split
      · exact skip
      · refine jn_cut (I := fun j h' => h' = h ∧ 0 ≤ j.1 ∧ j.1 ≤ (ns.length : Int)) ?_ ?_
        · rintro ⟨j, _⟩ h' ⟨rfl, j0, j1⟩
          simp only at j0 j1 ⊢
          refine alc_in H (fun b68 h H => ?_)
          have H := row_lit (sz := 1) (n := 0) H [] (by simp) rfl rfl
          refine slc_in (H.pull 1 _ rfl) (by omega) (by omega) (by simp; omega) (fun x8 hx8 r8 => ?_)
          have e8 : (((ns.map cI).drop (0 : Int).toNat).take (j.toNat - (0 : Int).toNat)) = (ns.take j.toNat).map cI := by simp
          rw [e8] at r8
          refine app_in H (r8 _ _ (H.pull 1 _ rfl)) (by simp at hx8 ⊢; omega) (cI_len _) (cI_one _) rfl (by simp; omega) (by simp; omega) (fun s1 h H => ?_)
          refine alc_in H (fun b75 h H => ?_)
          refine app_lit (ys := [cI i]) H rfl rfl (cI_len [_]) (cI_one [_]) rfl (by simp; omega) (by simp; omega) (fun s2 h H => ?_)
          refine slc_in (H.pull 1 _ rfl) (by omega) (by omega) (by simp; omega) (fun x13 hx13 r13 => ?_)
          have e13 : (((ns.map cI).drop j.toNat).take (((out.n : Nat) : Int).toNat - j.toNat)) = (ns.drop j.toNat).map cI := by
            rw [← List.map_drop, List.take_of_length_le (by simp; omega)]
          rw [e13] at r13
          refine app_in H (r13 _ _ (H.pull 1 _ rfl)) (by simp at hx13 ⊢; omega) (cI_len _) (cI_one _) rfl (by simp; omega) (by simp; omega) (fun s3 h H => ?_)
          refine ⟨⟨ns.take j.toNat ++ i :: ns.drop j.toNat, ?_, by omega, by omega, by simp; omega, ?_⟩, by omega⟩
          · have := H.del 1
            simpa using this
          · intro x hx
            rcases List.mem_append.1 hx with hx | hx
            · exact hns x (List.mem_of_mem_take hx)
            · rcases List.mem_cons.1 hx with rfl | hx
              · omega
              · exact hns x (List.mem_of_mem_drop hx)
        · intro K' hK
          refine Lp.inv (I := fun s' h' => h' = h ∧ 0 ≤ s'.1 ∧ s'.1 ≤ (ns.length : Int)) (μ := fun s' _ => ((ns.length : Int) - s'.1).toNat) ?_ ⟨rfl, by simp, by simp⟩
          rintro ⟨j, _⟩ h' ⟨rfl, j0, j1⟩ _
          simp only at j0 j1 ⊢
          split
          · rename_i hj
            have hj' : j < (ns.length : Int) := by simp at hj; omega
            obtain ⟨y, hy⟩ := get_ex j0 hj' rfl (l := ns) (i := j)
            have hyr := hns y (List.mem_of_getElem? hy)
            obtain ⟨a2, ha2⟩ := get_ex hyr.1 hyr.2 rfl (l := g.ts) (i := y)
            refine ldS_in c11 (el1_in H j0 hy rfl (fun c hc hcell => ldI_in hcell (at11 y a2 _ hyr.1 ha2 (fun cx hld _ => ldI_in (hld 7 _ rfl) ?_))))
            refine ldS_in c11 (at11 i a _ i0 ha (fun cx hld _ => ldI_in (hld 7 _ rfl) ?_))
            split
            · rw [wrap64_in (by omega) (by omega)]
              exact ⟨⟨by simp, by omega, by omega⟩, by omega⟩
            · exact hK _ _ ⟨rfl, j0, j1⟩
          · exact hK _ _ ⟨rfl, j0, j1⟩
  · rw [if_neg (by simpa using hi)]
    exact k out ns h H (by omega) hns
theorem k_mmoved {t c : Int} {R : Heap → Prop} (H : HS (mach m S g :: l) h) (I : MIg S noX noP g) (hA : g.A t) (hb : g.ev.length + 10 ≤ 1000000000000)
    (kk : ∀ g' h', HS (mach m S g' :: l) h' → MIg S noX noP g' → FrS g g' 1 → R h') : C_ref26_Machine_moved (some ⟨m, 0, none⟩) t c h R := by
  apply of_ref26_Machine_moved; unfold S_ref26_Machine_moved
  obtain ⟨a, ha, hs⟩ := I.run hA
  obtain ⟨t0, ha'⟩ := tkAt_some.1 ha
  have hlen64 : g.ts.length ≤ 64 := by have := I.len; simpa using this
  refine mt_ld H t0 ha' (fun cx hld hst => ?_)
  refine hst 3 (.int .i64 c) { a with core := c } _ (by decide) rfl rfl (fun h H => ?_)
  refine k_tell H (by simp only [putT]; omega) (fun h H => ?_)
  refine k_Reckon H (by simpa [told, putT] using hlen64) (fun ts' h H hts => ?_)
  refine kk _ h H ?_ ⟨rfl, rfl, by simp [told, putT]⟩
  have I2 := MI.state (a' := { a with core := c }) I ha hs rfl rfl hs rfl
  have I3 := I2.plain ⟨g.now, 13, t, -1, c⟩ rfl (by simp) (by simp)
  simp only [MIg, hts]
  exact I3
end
end Go.Proofs.YtbkjeahmbnkmeaaGreat
set_option autoImplicit false
set_option linter.unusedVariables false
namespace Go.Proofs.YtbkjeahmbnkmeaaGreat
open Go Ev

theorem MI.woken {S : ST} {x : XW} {pH : PH} {now : Int} {ls : List LK} {ts : List TK} {ev : List EV} {A : Int → Prop} {t : Int} {a : TK} (I : MI S x pH now ls (ts.map v5) ev A) (ha : tkAt ts t = some a) (hno : ∀ lo, t ∉ WO ls lo) (q c : Int) (hq : 0 ≤ q ∧ q ≤ 12) :
    MI S x pH now ls ((ts.set t.toNat (waked { a with pc := q })).map v5) (ev ++ [⟨now, 7, t, -1, c⟩]) (fun y => A y ∨ y = t) := by
  have hTI := I.tsk _ _ (v5_at ha)
  rw [List.map_set]
  refine (I.task (a' := v5 (waked { a with pc := q })) (v5_at ha) ⟨hTI.prog, hq, by simp [v5, waked], by simp [v5, waked]⟩ (.inl hno) (fun u hu => ?_)).plain _ rfl (by simp) (by simp)
  by_cases e : u = t
  · exact .inr ⟨e, .inl rfl⟩
  · exact .inl ⟨hu.resolve_right e, e⟩
section
variable {m : Nat} {S : ST} {g : GS} {l : List SP} {h : Heap}
theorem k_mFire {R : Heap → Prop} (H : HS (mach m S g :: l) h) (I : MIg S noX noP g) (hb : g.ev.length + 10000 ≤ 1000000000000)
    (kk : ∀ g' h', HS (mach m S g' :: l) h' → MIg S noX noP g' → FrS g g' 2000 → R h') : C_ref26_Machine_Fire (some ⟨m, 0, none⟩) h R := by
  apply of_ref26_Machine_Fire; unfold S_ref26_Machine_Fire
  have hlen64 : g.ts.length ≤ 64 := by have := I.len; simpa using this
  have hnl := I.nl
  refine k_mdue H hlen64 (fun s ns h H hnsl hns => ?_)
  have hsn := row_len H
  rw [List.length_map] at hsn
  refine Lp.inv (I := fun s' h' => ∃ g1, HS (mach m S g1 :: row 1 s (ns.map cI) :: l) h' ∧ MIg S noX noP g1 ∧ g1.now = g.now ∧ g1.ls.length = g.ls.length ∧ g1.ts.length = g.ts.length ∧ 0 ≤ s'.1 ∧ s'.1 ≤ (ns.length : Int) ∧ (g1.ev.length : Int) ≤ g.ev.length + 20 * s'.1)
    (μ := fun s' _ => ((ns.length : Int) - s'.1).toNat) ?_ ⟨g, H.swap, I, rfl, rfl, rfl, by simp, by simp, by simp⟩
  clear H I
  rintro ⟨i, _⟩ h ⟨g1, H, I, n1, l1, t1, i0, i1, v1⟩ _
  simp only at i0 i1 v1 ⊢
  by_cases hi : i < ((s.n : Nat) : Int)
  · rw [if_pos (by simpa using hi)]
    have hw : IntKind.wrap .i64 (i + 1) = i + 1 := wrap64_in (by omega) (by omega)
    rw [hw]
    obtain ⟨t, ht⟩ := get_ex i0 (by omega) rfl (l := ns) (i := i)
    have htr := hns t (List.mem_of_getElem? ht)
    have t0 := htr.1
    obtain ⟨a, ha'⟩ := get_ex t0 (by omega) rfl (l := g1.ts) (i := t)
    have ha : tkAt g1.ts t = some a := tkAt_some.2 ⟨t0, ha'⟩
    have hlt := (List.getElem?_eq_some_iff.1 ha').1
    have hTI := I.tsk _ _ (v5_at ha)
    have hpc := hTI.pc
    have htil := hTI.til
    have hwt := hTI.wt
    simp only [v5] at hpc htil hwt
    refine el1_in H.swap i0 ht rfl (fun c hc hcell => ldI_in hcell ?_)
    refine mt_ld H t0 ha' (fun cx hld _ => ldI_in (hld 7 _ rfl) ?_)
    by_cases hz : a.til = 0
    · rw [if_pos (by simpa using hz)]
      exact ⟨⟨g1, H, I, n1, l1, t1, by omega, by omega, by omega⟩, by omega⟩
    · rw [if_neg (by simpa using hz)]
      refine mt_ld H t0 ha' (fun cx hld _ => ldI_in (hld 6 _ rfl) ?_)
      by_cases h3 : a.state = 3
      · rw [if_pos (by simpa using h3)]
        have hno : ∀ lo, t ∉ WO g1.ls lo := fun lo => I.notW (v5_at ha) (.inl (by simp only [v5]; omega))
        refine k_back H t0 ha' (by omega) (fun h H => ?_)
        refine ⟨⟨_, H, ?_, n1, l1, by simp [told, putT, t1], by omega, by omega, by simp [told, putT]; omega⟩, by omega⟩
        exact MI.woken I ha hno a.pc a.core hpc
      · rw [if_neg (by simpa using h3)]
        have h4 : a.state = 4 := (htil hz).resolve_left h3
        obtain ⟨hp11, lo0, lo1⟩ := hwt h4
        refine mt_ld H t0 ha' (fun cx hld _ => ldI_in (hld 8 _ rfl) ?_)
        obtain ⟨c8, n8, at8⟩ := ml_sl H
        obtain ⟨k, hk'⟩ := get_ex lo0 lo1 rfl (l := g1.ls)
        have hk : tkAt g1.ls a.lock = some k := tkAt_some.2 ⟨lo0, hk'⟩
        obtain ⟨np, hL⟩ := mlk_inv' hk H
        have other : ∀ lo, lo ≠ a.lock → t ∉ WO g1.ls lo := fun lo hne => I.notW (v5_at ha) (.inr (by simp only [v5]; exact fun e => hne e.symm))
        refine ldS_in c8 (at8 a.lock k _ lo0 hk' ?_)
        refine k_Leave (mlk_open hk' H) (fun hnw => ?_) (fun gH s2 wa' h H G hex => ?_)
        · have hno : ∀ lo, t ∉ WO g1.ls lo := by
            intro lo
            by_cases e : lo = a.lock
            · rw [e, WO_at hk]; intro hm
              obtain ⟨y, hy, e2⟩ := List.mem_map.1 hm
              exact hnw y hy e2
            · exact other lo e
          have wai : ∀ l, ow g1.ev l = WO g1.ls l := fun l => by have := I.wai l; rwa [List.filter_eq_self.2 (by simp [noX])] at this
          have I1 := MI.plain I ⟨g1.now, 8, t, a.lock, 10⟩ rfl (by simp) (fun _ => by rw [wai]; exact hno a.lock)
          refine k_tell H (by omega) (fun h H => ?_)
          refine mt_pc H t0 ha' (by omega) (fun h H => ?_)
          refine ldP_in (mg_ptr H) (k_Out0 (mgr_open H) t0 (by omega) (fun h H => ?_))
          have H := mgr_close H
          refine k_back H t0 (put_get ha') (by simp [putT, told]; omega) (fun h H => ?_)
          have I2 := MI.woken I1 ha hno (a.pc + 1) a.core (by omega)
          have Hr := (row_nil (sz := 1) H).swap
          have I3 := MI.noG (lo := a.lock) I2
          refine k_give (x0 := noX) (gr := []) (s := ⟨none, 0, 0⟩) Hr hk ?_ (by simp) (by simp) (by simp [putT, told]; omega) (by simp) (fun g3 h H I4 F3 => ?_)
          · simp only [MIg, told, putT, List.set_set]
            exact I3
          · have hev3 := F3.ev
            simp only [told, putT, List.length_append, List.length_cons, List.length_nil] at hev3
            exact ⟨⟨g3, H.del 1, I4, F3.now.trans n1, by rw [F3.ls]; exact l1, by rw [F3.len]; simp [told, putT, t1], by omega, by omega, by omega⟩, by omega⟩
        · have H := mlk_close hk' (H.sink 3)
          have H : HS (mach m S (putL g1 a.lock.toNat ⟨k.b, k.sh, k.ho ++ gH, wa'⟩) :: row 1 s2 ((gH.map (·.1)).map cI) :: row 1 s (ns.map cI) :: l) h := H
          obtain ⟨q1, q2, q3, q4, q5⟩ := MI.given I hk hL (rm_sub t k.wa) G
          have hno' : ∀ y ∈ rm t k.wa, y.1 ≠ t := fun y hy => by have := (List.mem_filter.1 hy).2; simpa using this
          have hno : ∀ lo, t ∉ WO (g1.ls.set a.lock.toNat ⟨k.b, k.sh, k.ho ++ gH, wa'⟩) lo := by
            intro lo
            obtain ⟨hl0, hl1⟩ := tkAt_some.1 hk
            rw [WO_set hl0 (List.getElem?_eq_some_iff.1 hl1).1]
            split
            · intro hm
              obtain ⟨y, hy, e2⟩ := List.mem_map.1 hm
              simp only at hy
              rw [G.rest] at hy
              exact hno' y (List.mem_filter.1 hy).1 e2
            · rename_i e; exact other lo e
          have I1 := MI.left (n := 10) I hk hL G
          refine k_tell H (by simp only [putL]; omega) (fun h H => ?_)
          refine mt_pc H t0 ha' (by omega) (fun h H => ?_)
          refine ldP_in (mg_ptr H) (k_Out0 (mgr_open H) t0 (by omega) (fun h H => ?_))
          have H := mgr_close H
          refine k_back H t0 (put_get ha') (by simp [putT, told, putL]; omega) (fun h H => ?_)
          have I2 := MI.woken I1 ha hno (a.pc + 1) a.core (by omega)
          rw [← rd_fst k gH] at H
          refine k_give (x0 := noX) H (lkat_put hk) ?_ ?_ q2 (by simp [putT, told, putL]; omega) (by simp; omega) (fun g3 h H I4 F3 => ?_)
          · simp only [MIg, told, putT, putL, List.set_set]
            exact I2
          · intro p hp
            obtain ⟨b, hb1, hb2, hb3⟩ := q1 p hp
            obtain ⟨b', hb', rfl⟩ := tk_of hb1
            refine ⟨b', ?_, hb2, hb3⟩
            simp only [told, putT, putL, List.set_set]
            rw [tkAt_set t0 hlt, if_neg]
            · exact hb'
            · obtain ⟨r, hr, rfl⟩ := List.mem_map.1 hp
              obtain ⟨y, hy, e7⟩ := q5 r hr
              exact fun e => hno' y hy (e7.trans e)
          · have hev3 := F3.ev
            simp only [told, putT, putL, List.length_append, List.length_cons, List.length_nil, List.length_map] at hev3
            exact ⟨⟨g3, H.del 1, I4, F3.now.trans n1, by rw [F3.ls]; simp [told, putT, putL, l1], by rw [F3.len]; simp [told, putT, putL, t1], by omega, by omega, by omega⟩, by omega⟩
  · rw [if_neg (by simpa using hi)]
    have hlen1 : g1.ts.length ≤ 64 := by omega
    refine k_Reckon H hlen1 (fun ts' h H hts => ?_)
    exact kk _ h (H.del 1) (by simp only [MIg, hts]; exact I) ⟨n1, l1, by simp only; omega⟩
end
end Go.Proofs.YtbkjeahmbnkmeaaGreat
set_option autoImplicit false
set_option linter.unusedVariables false
namespace Go.Proofs.YtbkjeahmbnkmeaaGreat
open Go Ev

theorem ite_b {c : Bool} {A B : Prop} (h1 : c = true → A) (h0 : ¬ c = true → B) : if c = true then A else B := by
  cases c with
  | true => exact h1 rfl
  | false => exact h0 (by decide)
section
variable {m : Nat} {S : ST} {g : GS} {l : List SP} {h : Heap}
theorem mnc (H : HS (mach m S g :: l) h) : cell h (((Addr.mk m 0 none).add 0).add 0) = some (.int .i64 S.nc) ∧ (S.bs.length : Int) = S.nc ∧ 1 ≤ S.nc ∧ S.nc ≤ 4 := by
  obtain ⟨x, hp, H⟩ := mach_open H; exact ⟨cff H rfl, hp.bs, hp.nc⟩
theorem mev (H : HS (mach m S g :: l) h) : ∃ s : Sl, cell h ((Addr.mk m 0 none).add 13) = some (.slice s.p s.n s.c) ∧ s.n = g.ev.length := by
  obtain ⟨x, hp, H⟩ := mach_open H
  refine ⟨x.sE, cf H rfl, ?_⟩
  have := row_len (H.pull 7 _ rfl)
  simpa using this
theorem mpn (H : HS (mach m S g :: l) h) : S.sP.n = S.ps.length := by
  obtain ⟨x, hp, H⟩ := mach_open H
  have H := HS.star.1 (H.pull 10 _ rfl)
  have := row_len H
  simpa using this
theorem k_mDo {k0 k1 k2 k3 k4 : Int} {R : Int → Heap → Prop} (H : HS (mach m S g :: l) h) (I : MIg S noX noP g) (hnow : 0 ≤ g.now ∧ g.now ≤ 1050000) (hev : g.ev.length ≤ 100000000000)
    (kk : ∀ e g' h', HS (mach m S g' :: l) h' → MIg S noX noP g' → 0 ≤ g'.now ∧ g'.now ≤ 1050000 → g'.ev.length ≤ 100000000000 → g'.ls.length = g.ls.length → R e h') : C_ref26_Machine_Do (some ⟨m, 0, none⟩) k0 k1 k2 k3 k4 h R := by
  apply of_ref26_Machine_Do; unfold S_ref26_Machine_Do
  have hlen64 : g.ts.length ≤ 64 := by have := I.len; simpa using this
  have hnl := I.nl
  refine alc_in H (fun b3 h H => ?_)
  have H : HS (mach m S g :: bk b3 #[.int .i64 k0, .int .i64 k1, .int .i64 k2, .int .i64 k3, .int .i64 k4] :: l) h := H.swap
  obtain ⟨sE, cE13, nE⟩ := mev H
  obtain ⟨cnc, hbs, hnc1, hnc4⟩ := mnc H
  have same : ∀ e, R e h := fun e => kk e g h (H.del 1) I hnow hev rfl
  refine ldS_in cE13 ?_
  refine ite_b (fun hq => ?_) (fun hq => ?_)
  · exact same _
  · have h5 := hq
    have h5' : g.ev.length < 50000 := by simp at h5; omega
    refine ldI_f H.swap rfl ?_
    refine ite_b (fun hq => ?_) (fun hq => ?_)
    · -- a tick
      refine ldI_f H.swap rfl ?_
      refine ite_b (fun hq => ?_) (fun hq => ?_)
      · exact same _
      · have q1 := hq
        refine ldI_f H.swap rfl (ldI_in cnc ?_)
        refine ite_b (fun hq => ?_) (fun hq => ?_)
        · exact same _
        · have q2 := hq
          refine ldI_in (mnow H) ?_
          refine ite_b (fun hq => ?_) (fun hq => ?_)
          · exact same _
          · have q3 := hq
            have q1' : 0 ≤ k1 := by simpa using q1
            have q2' : k1 < S.nc := by simpa using q2
            have q3' : g.now < 1048576 := by simpa using q3
            refine ldI_f H.swap rfl (k_mTick H I q1' (by omega) (by omega) (by omega) (fun g' h H I' n' l' v' => ?_))
            exact kk _ g' h (H.del 1) I' (by omega) (by omega) l'
    · refine ite_b (fun hq => ?_) (fun hq => ?_)
      · -- fire
        refine k_mFire H I (by omega) (fun g' h H I' F' => ?_)
        have := F'.ev
        have := F'.now
        exact kk _ g' h (H.del 1) I' (by omega) (by omega) F'.nl
      · refine ite_b (fun hq => ?_) (fun hq => ?_)
        · -- balance
          refine ldP_in (mc_ptr H) (k_CBalance (mco_open H) (by omega) (fun t f c h H ht => ?_))
          have H : HS (mach m S g :: bk b3 #[.int .i64 k0, .int .i64 k1, .int .i64 k2, .int .i64 k3, .int .i64 k4] :: l) h := mco_close H
          refine ite_b (fun hq => ?_) (fun hq => ?_)
          · exact kk _ g h (H.del 1) I hnow hev rfl
          · have htn := hq
            have hA : g.A t := ht.resolve_left (by simp at htn; omega)
            refine k_mmoved H I hA (by omega) (fun g' h H I' F' => ?_)
            have := F'.ev
            have := F'.now
            exact kk _ g' h (H.del 1) I' (by omega) (by omega) F'.nl
        · refine ite_b (fun hq => ?_) (fun hq => ?_)
          · -- spawn
            refine ldI_f H.swap rfl ?_
            refine ite_b (fun hq => ?_) (fun hq => ?_)
            · exact same _
            · have q1 := hq
              refine ldI_f H.swap rfl (ldS_in (mp_sl H) ?_)
              refine ite_b (fun hq => ?_) (fun hq => ?_)
              · exact same _
              · have q2 := hq
                refine ldI_f H.swap rfl ?_
                refine ite_b (fun hq => ?_) (fun hq => ?_)
                · exact same _
                · obtain ⟨x, hp, HX⟩ := mach_open H
                  refine ldI_f H.swap rfl (ldS_f HX rfl ?_)
                  refine ite_b (fun hq => ?_) (fun hq => ?_)
                  · exact same _
                  · refine ldI_f H.swap rfl ?_
                    refine ite_b (fun hq => ?_) (fun hq => ?_)
                    · exact same _
                    · refine ldI_f H.swap rfl ?_
                      refine ite_b (fun hq => ?_) (fun hq => ?_)
                      · exact same _
                      · refine ldI_f H.swap rfl ?_
                        refine ite_b (fun hq => ?_) (fun hq => ?_)
                        · exact same _
                        · refine ldI_f H.swap rfl (ldI_in cnc ?_)
                          refine ite_b (fun hq => ?_) (fun hq => ?_)
                          · exact same _
                          · refine k_room H (by omega) (fun br hbr => ?_)
                            refine ite_b (fun hq => ?_) (fun hq => ?_)
                            · exact same _
                            · have hbt := hq
                              have hroom := hbr (by simpa using hbt)
                              have q1' : 0 ≤ k1 := by simpa using q1
                              have q2' : k1 < (S.ps.length : Int) := by have := mpn H; simp at q2; omega
                              refine ldI_f H.swap rfl (ldI_f H.swap rfl (ldI_f H.swap rfl (ldI_f H.swap rfl ?_)))
                              refine k_come H (by omega) (by omega) (fun h H => ?_)
                              refine k_Reckon H (by simp [told, comer]; omega) (fun ts' h H hts => ?_)
                              refine kk _ _ h (H.del 1) ?_ hnow (by simp [told, comer]; omega) rfl
                              have I2 := MI.come (a := v5 ⟨(g.ts.length : Nat), k1, k2, k4, 0, 0, 1, 0, -1, k3, k3, 0⟩) I (by simpa using hroom) ⟨⟨q1', q2'⟩, by simp [v5], by simp [v5], by simp [v5]⟩ rfl
                              have I3 := I2.plain ⟨g.now, 1, (g.ts.length : Nat), -1, k4⟩ rfl (by simp) (by simp)
                              simp only [MIg, hts, told, comer, List.map_append, List.map_cons, List.map_nil]
                              rw [List.length_map] at I3
                              exact I3
          · refine ite_b (fun hq => ?_) (fun hq => ?_)
            · -- kill
              refine ldI_f H.swap rfl ?_
              refine ite_b (fun hq => ?_) (fun hq => ?_)
              · exact same _
              · have q1 := hq
                obtain ⟨sT, c11, n11, at11⟩ := mt_sl H
                refine ldI_f H.swap rfl (ldS_in c11 ?_)
                refine ite_b (fun hq => ?_) (fun hq => ?_)
                · exact same _
                · have q2 := hq
                  have q1' : 0 ≤ k1 := by simpa using q1
                  have q2' : k1 < (g.ts.length : Int) := by simp at q2; omega
                  obtain ⟨a, ha'⟩ := get_ex q1' q2' rfl (l := g.ts)
                  refine ldS_in c11 (ldI_f H.swap rfl (at11 k1 a _ q1' ha' (fun cx hld _ => ldI_in (hld 6 _ rfl) ?_)))
                  refine ite_b (fun hq => ?_) (fun hq => ?_)
                  · exact same _
                  · refine ldI_f H.swap rfl (k_mdie H I (tkAt_some.2 ⟨q1', ha'⟩) (by omega) (fun g' h H I' F' => ?_))
                    have := F'.ev
                    have := F'.now
                    refine k_Reckon H (by have := F'.nt; omega) (fun ts' h H hts => ?_)
                    exact kk _ _ h (H.del 1) (by simp only [MIg, hts]; exact I') (by simp only; omega) (by simp only; omega) F'.nl
            · refine ite_b (fun hq => ?_) (fun hq => ?_)
              · -- a group's weight
                obtain ⟨x, hp, HX⟩ := mach_open H
                have hgn := row_len (HX.pull 9 _ rfl)
                rw [List.length_map] at hgn
                refine ldI_f H.swap rfl ?_
                refine ite_b (fun hq => ?_) (fun hq => ?_)
                · exact same _
                · have q1 := hq
                  refine ldI_f H.swap rfl (ldS_f HX rfl ?_)
                  refine ite_b (fun hq => ?_) (fun hq => ?_)
                  · exact same _
                  · have q2 := hq
                    refine ldI_f H.swap rfl ?_
                    refine ite_b (fun hq => ?_) (fun hq => ?_)
                    · exact same _
                    · refine ldI_f H.swap rfl ?_
                      refine ite_b (fun hq => ?_) (fun hq => ?_)
                      · exact same _
                      · have q1' : 0 ≤ k1 := by simpa using q1
                        have q2' : k1 < (x.groups.length : Int) := by simp at q2; omega
                        obtain ⟨o, ho⟩ := get_ex q1' q2' rfl (l := x.groups)
                        refine ldS_f HX rfl (ldI_f H.swap rfl (ldI_f H.swap rfl (el1_in (HX.pull 9 _ rfl) q1' ho rfl (fun d hd hcell => ?_))))
                        refine el1_st (a' := k2) (HX.pull 9 _ rfl) hd ho rfl rfl rfl (fun h HI => ?_)
                        have H2 : HS (mach m S g :: bk b3 #[.int .i64 k0, .int .i64 k1, .int .i64 k2, .int .i64 k3, .int .i64 k4] :: l) h := mach_close (x := { x with groups := x.groups.set k1.toNat k2 }) ⟨hp.vs, hp.idle, hp.bs, hp.nc⟩ (HI.sink 9)
                        refine Lp.inv (I := fun s' h' => HS (mach m S g :: bk b3 #[.int .i64 k0, .int .i64 k1, .int .i64 k2, .int .i64 k3, .int .i64 k4] :: l) h' ∧ 0 ≤ s'.1 ∧ s'.1 ≤ (g.ls.length : Int)) (μ := fun s' _ => ((g.ls.length : Int) - s'.1).toNat) ?_ ⟨H2, by simp, by simp⟩
                        clear H HX H2 HI same hcell cE13 cnc
                        rintro ⟨i, _⟩ h ⟨H, i0, i1⟩ _
                        simp only at i0 i1 ⊢
                        obtain ⟨c8, n8, at8⟩ := ml_sl H
                        refine ldS_in c8 ?_
                        by_cases hi : i < ((S.sK.n : Nat) : Int)
                        · rw [if_pos (by simpa using hi)]
                          obtain ⟨k, hk'⟩ := get_ex i0 (by omega) rfl (l := g.ls) (i := i)
                          refine ldS_in c8 (at8 i k _ i0 hk' (ldI_f H.swap rfl (ldI_f H.swap rfl ?_)))
                          refine k_KWeigh (mlk_open hk' H) (fun xx h H => ?_)
                          have H := mlk_same hk' H
                          refine ⟨(ml_sl H).1, ?_⟩
                          rw [wrap64_in (by omega) (by omega)]
                          exact ⟨⟨H, by omega, by omega⟩, by omega⟩
                        · rw [if_neg (by simpa using hi)]
                          exact kk _ g h (H.del 1) I hnow hev rfl
              · refine ite_b (fun hq => ?_) (fun hq => ?_)
                · -- a move
                  refine ldP_in (mc_ptr H) (ldI_f H.swap rfl (ldI_f H.swap rfl (k_CMove (mco_open H) (fun e h H he => ?_))))
                  have H : HS (mach m S g :: bk b3 #[.int .i64 k0, .int .i64 k1, .int .i64 k2, .int .i64 k3, .int .i64 k4] :: l) h := mco_close H
                  refine ite_b (fun hq => ?_) (fun hq => ?_)
                  · exact kk _ g h (H.del 1) I hnow hev rfl
                  · have hez := hq
                    have hA : g.A k1 := he (by simpa using hez)
                    refine ldI_f H.swap rfl (ldI_f H.swap rfl (k_mmoved H I hA (by omega) (fun g' h H I' F' => ?_)))
                    have := F'.ev
                    have := F'.now
                    exact kk _ g' h (H.del 1) I' (by omega) (by omega) F'.nl
                · refine ite_b (fun hq => ?_) (fun hq => ?_)
                  · -- rounds
                    refine ldI_f H.swap rfl ?_
                    refine ite_b (fun hq => ?_) (fun hq => ?_)
                    · exact same _
                    · have q1 := hq
                      refine ldI_f H.swap rfl ?_
                      refine ite_b (fun hq => ?_) (fun hq => ?_)
                      · exact same _
                      · have q2 := hq
                        refine ldI_in (mnow H) (ldI_f H.swap rfl (ldI_in cnc ?_))
                        have q1' : 0 ≤ k1 := by simpa using q1
                        have q2' : k1 ≤ 200 := by simpa using q2
                        have p0 : 0 ≤ k1 * S.nc := Int.mul_nonneg q1' (by omega)
                        have p1 : k1 * S.nc ≤ 200 * 4 := Int.mul_le_mul q2' hnc4 (by omega) (by omega)
                        generalize k1 * S.nc = pp at p0 p1
                        rw [wrap64_in (by omega) (by omega), wrapu_in (n := pp) (by omega) (by omega), wrapu_in (by omega) (by omega)]
                        refine ite_b (fun hq => ?_) (fun hq => ?_)
                        · exact same _
                        · have q3 := hq
                          have q3' : g.now + pp ≤ 1048576 := by simpa using q3
                          clear same cE13 cnc
                          refine Lp.inv (I := fun s' h' => ∃ g1, HS (mach m S g1 :: bk b3 #[.int .i64 k0, .int .i64 k1, .int .i64 k2, .int .i64 k3, .int .i64 k4] :: l) h' ∧ MIg S noX noP g1 ∧ 0 ≤ s'.1 ∧ s'.1 ≤ k1 ∧ g.now ≤ g1.now ∧ g1.now ≤ g.now + 4 * s'.1 ∧ (g1.ev.length : Int) ≤ g.ev.length + 250000 * s'.1 ∧ g1.ls.length = g.ls.length)
                            (μ := fun s' _ => (k1 - s'.1).toNat) ?_ ⟨g, H, I, by simp, by simp; omega, by omega, by simp, by simp, rfl⟩
                          clear H
                          rintro ⟨i, _⟩ h ⟨g1, H, I1, i0, i1, nw0, nw1, v1, l1⟩ _
                          simp only at i0 i1 nw1 v1 ⊢
                          refine ldI_f H.swap rfl ?_
                          by_cases hi : i < k1
                          · rw [if_pos (by simpa using hi)]
                            refine Lp.inv (I := fun s' h' => ∃ g2, HS (mach m S g2 :: bk b3 #[.int .i64 k0, .int .i64 k1, .int .i64 k2, .int .i64 k3, .int .i64 k4] :: l) h' ∧ MIg S noX noP g2 ∧ 0 ≤ s'.1 ∧ s'.1 ≤ 4 ∧ g2.now = g1.now + s'.1 ∧ (g2.ev.length : Int) ≤ g1.ev.length + 60000 * s'.1 ∧ g2.ls.length = g.ls.length)
                              (μ := fun s' _ => (4 - s'.1).toNat) ?_ ⟨g1, H, I1, by simp, by simp, by simp, by simp, l1⟩
                            clear H
                            rintro ⟨c, _⟩ h ⟨g2, H, I2, c0, c1, nw2, v2, l2⟩ _
                            simp only at c0 c1 nw2 v2 ⊢
                            obtain ⟨cnc, _⟩ := mnc H
                            refine ldI_in cnc ?_
                            by_cases hc : c < S.nc
                            · rw [if_pos (by simpa using hc)]
                              refine k_mTick H I2 c0 (by omega) (by omega) (by omega) (fun g3 h H I3 n3 l3 v3 => ?_)
                              rw [wrap64_in (by omega) (by omega)]
                              exact ⟨⟨g3, H, I3, by omega, by omega, by omega, by omega, l3.trans l2⟩, by omega⟩
                            · rw [if_neg (by simpa using hc)]
                              refine k_mFire H I2 (by omega) (fun g3 h H I3 F3 => ?_)
                              have e1 := F3.ev
                              have e2 := F3.now
                              rw [wrap64_in (by omega) (by omega)]
                              exact ⟨⟨g3, H, I3, by omega, by omega, by omega, by omega, by omega, F3.nl.trans l2⟩, by omega⟩
                          · rw [if_neg (by simpa using hi)]
                            exact kk _ g1 h (H.del 1) I1 (by omega) (by omega) l1
                  · exact same _
end
end Go.Proofs.YtbkjeahmbnkmeaaGreat
set_option autoImplicit false
set_option linter.unusedVariables false
namespace Go.Proofs.YtbkjeahmbnkmeaaGreat
open Go Ev

def iv (n : Int) : Value := .int .i64 n
theorem flat_cI : ∀ l : List Int, (l.map cI).flatten = l.map iv
  | [] => rfl
  | a :: l => by simp [flat_cI l, cI, iv]
/-- whatever is so where L is: the slice s reads as ws -/
def Rds (L : List SP) (s : Sl) (ws : List Int) : Prop := s.n = ws.length ∧ ∀ h, HS L h → RowAt h s.p (s.n * 1) (ws.map iv)
theorem Rds.at {L : List SP} {s : Sl} {ws : List Int} {h : Heap} (r : Rds L s ws) (H : HS L h) {i : Int} {w : Int} (h0 : 0 ≤ i) (hi : ws[i.toNat]? = some w) :
    ∃ a, s.p = some a ∧ i < ((s.n : Nat) : Int) ∧ cell h (a.add (Int.toNat i * 1)) = some (.int .i64 w) := by
  obtain ⟨a, ha, hc⟩ := (r.2 h H).2 i.toNat (iv w) (by simp [hi])
  have := (List.getElem?_eq_some_iff.1 hi).1
  exact ⟨a, ha, by rw [r.1]; omega, by simpa [iv] using hc⟩
theorem k_LNew {L : List SP} {s : Sl} {ws : List Int} {sl cr : Int} {h : Heap} {R : Option Addr → Heap → Prop} (H : HS L h) (r : Rds L s ws) (hw : ws.length ≤ 8)
    (k : ∀ b h', HS (ledger b ws.length :: L) h' → R (some ⟨b, 0, none⟩) h') : C_ref18_New s sl cr h R := by
  apply of_ref18_New; unfold S_ref18_New
  have hn := r.1
  refine k_Bring (k_Bring (alc_in H (fun b h H => ?_)))
  refine Lp.inv (I := fun s' h' => ∃ (sp : Sl) (ps : List PtyS), HS (bk b #[.slice sp.p sp.n sp.c, .int .i64 (bring sl 1 32), .int .i64 (bring cr 1 32), .int .u64 0] :: row 4 sp (ps.map cP) :: L) h' ∧ (ps.length : Int) = s'.1 ∧ s'.1 ≤ (ws.length : Int)) (μ := fun s' _ => ((ws.length : Int) - s'.1).toNat) ?_
    ⟨⟨none, 0, 0⟩, [], (row_nil H).swap, by simp, by simp⟩
  clear H
  rintro ⟨i, _⟩ h ⟨sp, ps, H, hp, hi⟩ _
  simp only at hp hi ⊢
  by_cases hi2 : i < ((s.n : Nat) : Int)
  · rw [if_pos (by simpa using hi2), if_pos (by simp; omega)]
    obtain ⟨w, hwi⟩ := get_ex (i := i) (by omega) (by omega) rfl (l := ws)
    obtain ⟨a, ha, hlt, hc⟩ := r.at H.tail.tail (by omega) hwi
    refine ldS_f H rfl ?_
    rw [ha]
    refine ⟨by omega, hlt, ldI_in hc (k_Bring ⟨cf H rfl, alc_in H (fun b36 h H => ⟨?_, cf H.swap rfl, ?_⟩)⟩)⟩
    · obtain ⟨a', ha', _, hc'⟩ := r.at H.tail.tail.tail (by omega) hwi
      rw [ha] at ha'; simp at ha'; subst ha'; exact hc'
    · refine app_lit (ys := [cP (bring w 1 16, 0, 0, false)]) (H.perm (List.Perm.cons _ (List.Perm.swap _ _ _))) rfl rfl (by simp [cP]) (by simp [cP, Value.oneCell']) rfl (by simp; omega) (by simp; omega) (fun s2 h H => ⟨?_, ?_⟩)
      · obtain ⟨a', ha', _, hc'⟩ := r.at H.tail.tail (by omega) hwi
        rw [ha] at ha'; simp at ha'; subst ha'; exact hc'
      · refine st_f H.swap (by simp) rfl (fun h H => ?_)
        rw [wrap64_in (by omega) (by omega)]
        exact ⟨⟨s2, ps ++ [(bring w 1 16, 0, 0, false)], by simpa using H, by simp; omega, by omega⟩, by omega⟩
  · rw [if_neg (by simpa using hi2)]
    exact k b h (ledger_close (by omega) H)
theorem k_KNew {sh : Bool} {d1 d2 d3 d4 : Int} {s : Sl} {gs : List Int} {l : List SP} {h : Heap} {R : Option Addr → Heap → Prop} (H : HS (row 1 s (gs.map cI) :: l) h)
    (k : ∀ b h', HS (lk b sh [] [] :: row 1 s (gs.map cI) :: l) h' → R (some ⟨b, 0, none⟩) h') : C_ref20_New sh d1 d2 d3 d4 s h R := by
  apply of_ref20_New; unfold S_ref20_New
  have hsn := row_len H
  rw [List.length_map] at hsn
  refine alc_in H (fun b2 h H => ?_)
  refine jn_cut (I := fun j h' => h' = h ∧ ∃ ws, ws.length ≤ 4 ∧ ∀ l', Rds (row 1 s (gs.map cI) :: l') j.1 ws) ?_ ?_
  · rintro ⟨s2, _⟩ h' ⟨rfl, ws, hws, r⟩
    simp only at r ⊢
    refine jn_cut (I := fun j h => ∃ RX ws, HS (bk b2 #[.bool sh, .int .i64 d1, .int .i64 d2, .int .i64 d3, .int .i64 d4] :: RX :: row 1 s (gs.map cI) :: l) h ∧ ws.length ≤ 4 ∧ Rds (RX :: row 1 s (gs.map cI) :: l) j.1 ws) ?_ ?_
    · clear H r hws
      rintro ⟨s3, _⟩ h ⟨RX, ws, H, hws, r⟩
      simp only at r ⊢
      refine jn_cut (I := fun j h => ∃ RX ws, HS (bk b2 #[.bool sh, .int .i64 d1, .int .i64 d2, .int .i64 d3, .int .i64 d4] :: RX :: row 1 s (gs.map cI) :: l) h ∧ ws.length ≤ 4 ∧ (sh = true → ws.length = 2) ∧ Rds (RX :: row 1 s (gs.map cI) :: l) j.1 ws) ?_ ?_
      · clear H r hws
        rintro ⟨s4, _⟩ h ⟨RX, ws, H, hws, hsh, r⟩
        simp only at r ⊢
        refine ldI_f H rfl (k_Bring (ldB_f H rfl (ldI_f H rfl (k_Bring ⟨cf H rfl, ?_⟩))))
        have r' : Rds (bk b2 #[.bool sh, .int .i64 d1, .int .i64 d2, .int .i64 d3, .int .i64 d4] :: RX :: row 1 s (gs.map cI) :: l) s4 ws := ⟨r.1, fun h H => r.2 h H.tail⟩
        refine k_LNew H r' (by omega) (fun b h H => ⟨cf H.swap rfl, cf H.swap rfl, ?_⟩)
        refine alc_in H (fun b38 h H => ⟨cf (H.pull 2 _ rfl) rfl, cf (H.pull 2 _ rfl) rfl, ?_⟩)
        have H2 : HS (bk b38 (lkB sh (bring d1 1 16) ⟨none, 0, 0⟩ ⟨none, 0, 0⟩ (-1) 0 b false) :: ledger b ws.length :: bk b2 #[.bool sh, .int .i64 d1, .int .i64 d2, .int .i64 d3, .int .i64 d4] :: RX :: row 1 s (gs.map cI) :: l) h := H
        have H3 := (row_nil (sz := 3) (row_nil (sz := 3) H2)).pull 2 _ rfl
        refine k b38 h (HS.del (lk_close (ho := []) (wa := []) (tp := -1) ⟨by omega, fun h => by rw [hsh h]; omega, by simp, by simp, by simp, .inl (by simp), by simp⟩ (lkr_close H3)) 1 |> fun H => HS.del H 1)
      · intro K' hK
        refine ldB_f H rfl ?_
        split
        · rename_i hsh
          refine ldI_f H rfl (ldI_f H rfl (alc_in H (fun b23 h H => ?_)))
          have H1 := row_lit (sz := 1) (n := 2) H ([d3, d4].map cI) (cI_len _) rfl rfl
          refine hK _ _ ⟨row 1 ⟨some ⟨b23, 0, none⟩, 2, 2⟩ ([d3, d4].map cI), [d3, d4], ?_, by simp, fun _ => rfl, ⟨rfl, fun h H => ?_⟩⟩
          · exact (H1.swap).del 2
          · have := (rowAt_row H).1
            rwa [flat_cI] at this
        · rename_i hsh
          exact hK _ _ ⟨RX, ws, H, hws, fun h => absurd h hsh, r⟩
    · intro K' hK
      split
      · refine alc_in H (fun b16 h H => ?_)
        have H1 := row_lit (sz := 1) (n := 1) H ([(1 : Int)].map cI) (cI_len _) rfl rfl
        refine hK _ _ ⟨row 1 ⟨some ⟨b16, 0, none⟩, 1, 1⟩ ([(1 : Int)].map cI), [1], H1.swap, by simp, ⟨rfl, fun h H => ?_⟩⟩
        have := (rowAt_row H).1
        rwa [flat_cI] at this
      · exact hK _ _ ⟨pr True, ws, (HS.swap (HS.pr.2 ⟨trivial, H⟩)), hws, ⟨(r l).1, fun h H => (r l).2 h H.tail⟩⟩
  · intro K' hK
    split
    · rename_i h4
      refine slc_in (H.swap) (by omega) (by omega) (by simp at h4 ⊢; omega) (fun x hx rx => ?_)
      refine hK _ _ ⟨rfl, gs.take 4, by simp; omega, fun l' => ⟨by simp at hx h4 ⊢; omega, fun h H => ?_⟩⟩
      have := (rx h l' H).1
      have e : (((gs.map cI).drop (0 : Int).toNat).take ((4 : Int).toNat - (0 : Int).toNat)) = (gs.take 4).map cI := by simp
      rwa [e, flat_cI] at this
    · rename_i h4
      refine hK _ _ ⟨rfl, gs, by simp at h4; omega, fun l' => ⟨hsn, fun h H => ?_⟩⟩
      have := (rowAt_row H).1
      rwa [flat_cI] at this
end Go.Proofs.YtbkjeahmbnkmeaaGreat
