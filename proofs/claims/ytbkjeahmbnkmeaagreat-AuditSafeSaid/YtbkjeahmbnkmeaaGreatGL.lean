/- The program at hand, two closed facts on it, and the words in which the printed formulas are written. -/
import Derived.Test.YtbkjeahmbnkmeaaGreatGV
import Derived.Test.YtbkjeahmbnkmeaaGreatProg
set_option autoImplicit false
namespace Go.Proofs.YtbkjeahmbnkmeaaGreat
open Go Ev

noncomputable abbrev P : Program := Tryz.prog
theorem names_all : (P.funcs.toList.all fun fn => !(fn.name == "runtime.NumGoroutine")) = true := by kernel_rfl
theorem names (g : Nat) (fn : Func) (h : P.funcs[g]? = some fn) : fn.name ≠ "runtime.NumGoroutine" := by
  have := List.all_eq_true.1 names_all fn (by simpa using List.mem_of_getElem? (l := P.funcs.toList) (by simpa using h))
  simpa using this
theorem mixed : P.follows .mixedOrders = true := by kernel_rfl

theorem mprW {A B : Prop} (e : A = B) (b : B) : A := e ▸ b

def ldI (k : IntKind) (a : Addr) (h : Heap) (K : Int → Prop) : Prop := ∃ x : Int, cell h a = some (.int k x) ∧ K x
def ldB (a : Addr) (h : Heap) (K : Bool → Prop) : Prop := ∃ x : Bool, cell h a = some (.bool x) ∧ K x
def ldStr (a : Addr) (h : Heap) (K : ByteArray → Prop) : Prop := ∃ x : ByteArray, cell h a = some (.string x) ∧ K x
def ldP (a : Addr) (h : Heap) (K : Option Addr → Prop) : Prop := ∃ x : Option Addr, cell h a = some (.pointer x) ∧ K x
def ldS (a : Addr) (h : Heap) (K : Sl → Prop) : Prop := ∃ x : Sl, cell h a = some (.slice x.p x.n x.c) ∧ K x
def ldM (a : Addr) (h : Heap) (K : Option Nat → Prop) : Prop := ∃ x : Option Nat, cell h a = some (.map x) ∧ K x
def ldA (a : Addr) (h : Heap) (K : Value → Prop) : Prop := ∃ x : Value, cell h a = some x ∧ K x
def st (a : Addr) (v : Value) (h : Heap) (K : Heap → Prop) : Prop := stF [v] h a 0 K
def alc (o : Obj) (h : Heap) (K : Nat → Heap → Prop) : Prop := K h.size (h.push o)
def jn {α : Type} (body : (α → Heap → Prop) → Prop) (K : α → Heap → Prop) : Prop := body K
def bAnd (k : IntKind) (a b : Int) : Int := k.wrap (BitVec.ofInt k.bits a &&& BitVec.ofInt k.bits b).toNat
def bOr (k : IntKind) (a b : Int) : Int := k.wrap (BitVec.ofInt k.bits a ||| BitVec.ofInt k.bits b).toNat
def bXor (k : IntKind) (a b : Int) : Int := k.wrap (BitVec.ofInt k.bits a ^^^ BitVec.ofInt k.bits b).toNat
def bAndNot (k : IntKind) (a b : Int) : Int := k.wrap (BitVec.ofInt k.bits a &&& ~~~(BitVec.ofInt k.bits b)).toNat
end Go.Proofs.YtbkjeahmbnkmeaaGreat
set_option autoImplicit false
namespace Go.Proofs.YtbkjeahmbnkmeaaGreat
open Go Ev

abbrev Hp := Nat → Option Obj
abbrev SP := Hp → Prop
def Sub (m1 m : Hp) : Prop := ∀ b o, m1 b = some o → m b = some o
def Dis (m1 m2 : Hp) : Prop := ∀ b, m1 b = none ∨ m2 b = none
def sats : List SP → Hp → Prop
  | [], _ => True
  | p :: ps, m => ∃ m1 m2, Sub m1 m ∧ Sub m2 m ∧ Dis m1 m2 ∧ p m1 ∧ sats ps m2
def pt (b : Nat) (o : Obj) : SP := fun m => m b = some o
def pr (φ : Prop) : SP := fun _ => φ
def exi {α : Type} (p : α → SP) : SP := fun m => ∃ x, p x m
def hs (h : Heap) : Hp := fun b => h[b]?
/-- the heap h holds these, apart from one another -/
def HS (l : List SP) (h : Heap) : Prop := sats l (hs h)

theorem Sub.refl (m : Hp) : Sub m m := fun _ _ h => h
theorem Sub.trans {a b c : Hp} (h : Sub a b) (h' : Sub b c) : Sub a c := fun x o hx => h' x o (h x o hx)
theorem Dis.symm {a b : Hp} (h : Dis a b) : Dis b a := fun x => (h x).symm
theorem Dis.sub {a b c : Hp} (h : Dis a b) (hs : Sub c b) : Dis a c := fun x => by
  rcases h x with h | h
  · exact .inl h
  · refine .inr ?_
    cases hc : c x with
    | none => rfl
    | some o => rw [hs x o hc] at h; cases h
theorem Dis.subL {a b c : Hp} (h : Dis a b) (hs : Sub c a) : Dis c b := (h.symm.sub hs).symm
def union (a b : Hp) : Hp := fun x => (a x).or (b x)
theorem union_left {a b : Hp} : Sub a (union a b) := fun x o h => by simp [union, h]
theorem union_right {a b : Hp} (hd : Dis a b) : Sub b (union a b) := fun x o h => by
  rcases hd x with h' | h'
  · simp [union, h, h']
  · rw [h'] at h; cases h
theorem union_sub {a b c : Hp} (ha : Sub a c) (hb : Sub b c) : Sub (union a b) c := fun x o h => by
  unfold union at h
  cases hx : a x with
  | none => rw [hx] at h; exact hb x o h
  | some o' => rw [hx] at h; simp at h; subst h; exact ha x _ hx
theorem union_dis {a b c : Hp} (ha : Dis a c) (hb : Dis b c) : Dis (union a b) c := fun x => by
  rcases ha x with h | h
  · rcases hb x with h' | h'
    · exact .inl (by simp [union, h, h'])
    · exact .inr h'
  · exact .inr h
theorem sats_up {l : List SP} {m m' : Hp} (h : sats l m) (hs : Sub m m') : sats l m' := by
  cases l with
  | nil => trivial
  | cons p l => obtain ⟨m1, m2, h1, h2, hd, hp, hl⟩ := h; exact ⟨m1, m2, h1.trans hs, h2.trans hs, hd, hp, hl⟩
theorem sats_swap {p q : SP} {l : List SP} {m : Hp} (h : sats (p :: q :: l) m) : sats (q :: p :: l) m := by
  obtain ⟨m1, m2, h1, h2, hd, hp, m3, m4, h3, h4, hd', hq, hl⟩ := h
  refine ⟨m3, union m1 m4, h3.trans h2, union_sub h1 (h4.trans h2), (union_dis (hd.sub h3) hd'.symm).symm, hq, m1, m4, union_left, union_right (hd.sub h4), hd.sub h4, hp, hl⟩
theorem sats_perm {l l' : List SP} (hp : l.Perm l') : ∀ {m : Hp}, sats l m → sats l' m := by
  induction hp with
  | nil => exact fun h => h
  | cons p _ ih => exact fun ⟨m1, m2, h1, h2, hd, hp, hl⟩ => ⟨m1, m2, h1, h2, hd, hp, ih hl⟩
  | swap p q l => exact fun h => sats_swap h
  | trans _ _ ih1 ih2 => exact fun h => ih2 (ih1 h)
theorem sats_append {l l' : List SP} {m : Hp} : sats (l ++ l') m ↔ ∃ m1 m2, Sub m1 m ∧ Sub m2 m ∧ Dis m1 m2 ∧ sats l m1 ∧ sats l' m2 := by
  induction l generalizing m with
  | nil => exact ⟨fun h => ⟨fun _ => none, m, (fun _ _ h => nomatch h), Sub.refl _, (fun _ => .inl rfl), trivial, h⟩, fun ⟨m1, m2, _, h2, _, _, h⟩ => sats_up h h2⟩
  | cons p l ih =>
    constructor
    · rintro ⟨m1, m2, h1, h2, hd, hp, hl⟩
      obtain ⟨m3, m4, h3, h4, hd', hl1, hl2⟩ := ih.1 hl
      exact ⟨union m1 m3, m4, union_sub h1 (h3.trans h2), h4.trans h2, union_dis (hd.sub h4) hd', ⟨m1, m3, union_left, union_right (hd.sub h3), hd.sub h3, hp, hl1⟩, hl2⟩
    · rintro ⟨m1, m2, h1, h2, hd, ⟨m3, m4, h3, h4, hd', hp, hl⟩, hl'⟩
      refine ⟨m3, union m4 m2, h3.trans h1, union_sub (h4.trans h1) h2, (union_dis hd'.symm (hd.symm.sub h3)).symm, hp, ih.2 ⟨m4, m2, union_left, union_right (hd.subL h4), hd.subL h4, hl, hl'⟩⟩

def star (l : List SP) : SP := sats l
theorem HS.perm {l l' : List SP} {h : Heap} (H : HS l h) (hp : l.Perm l') : HS l' h := sats_perm hp H
theorem HS.swap {p q : SP} {l : List SP} {h : Heap} (H : HS (p :: q :: l) h) : HS (q :: p :: l) h := sats_swap H
theorem HS.rot3 {p q r : SP} {l : List SP} {h : Heap} (H : HS (p :: q :: r :: l) h) : HS (r :: p :: q :: l) h :=
  H.perm ((List.Perm.cons p (List.Perm.swap r q l)).trans (List.Perm.swap r p (q :: l)))
theorem HS.tail {p : SP} {l : List SP} {h : Heap} (H : HS (p :: l) h) : HS l h := by
  obtain ⟨m1, m2, h1, h2, hd, hp, hl⟩ := H
  exact sats_up hl h2
theorem HS.star {l l' : List SP} {h : Heap} : HS (star l :: l') h ↔ HS (l ++ l') h := by
  unfold HS
  rw [sats_append]
  rfl
theorem HS.ex {α : Type} {p : α → SP} {l : List SP} {h : Heap} : HS (exi p :: l) h ↔ ∃ x, HS (p x :: l) h :=
  ⟨fun ⟨m1, m2, h1, h2, hd, ⟨x, hp⟩, hl⟩ => ⟨x, m1, m2, h1, h2, hd, hp, hl⟩, fun ⟨x, m1, m2, h1, h2, hd, hp, hl⟩ => ⟨m1, m2, h1, h2, hd, ⟨x, hp⟩, hl⟩⟩
theorem HS.pr {φ : Prop} {l : List SP} {h : Heap} : HS (pr φ :: l) h ↔ φ ∧ HS l h :=
  ⟨fun H => ⟨by obtain ⟨_, _, _, _, _, hp, _⟩ := H; exact hp, H.tail⟩, fun ⟨hp, hl⟩ => ⟨fun _ => none, hs h, (fun _ _ h => nomatch h), Sub.refl _, (fun _ => .inl rfl), hp, hl⟩⟩
theorem HS.mono {p q : SP} {l : List SP} {h : Heap} (H : HS (p :: l) h) (hi : ∀ m, p m → q m) : HS (q :: l) h := by
  obtain ⟨m1, m2, h1, h2, hd, hp, hl⟩ := H
  exact ⟨m1, m2, h1, h2, hd, hi _ hp, hl⟩
theorem perm_erase : ∀ (l : List SP) (i : Nat) (hi : i < l.length), l.Perm (l[i] :: l.eraseIdx i)
  | p :: l, 0, _ => List.Perm.refl _
  | p :: l, i + 1, hi => (List.Perm.cons p (perm_erase l i (by simpa using hi))).trans (List.Perm.swap _ _ _)
theorem HS.pull {l : List SP} {h : Heap} (H : HS l h) (i : Nat) (p : SP) (hi : l[i]? = some p) : HS (p :: l.eraseIdx i) h := by
  refine H.perm ?_
  obtain ⟨hlt, rfl⟩ := List.getElem?_eq_some_iff.1 hi
  exact perm_erase l i hlt

theorem HS.at {b : Nat} {o : Obj} {l : List SP} {h : Heap} (H : HS (pt b o :: l) h) : h[b]? = some o := by
  obtain ⟨m1, m2, h1, h2, hd, hp, hl⟩ := H
  exact h1 b o hp
theorem HS.ne {b b' : Nat} {o o' : Obj} {l : List SP} {h : Heap} (H : HS (pt b o :: pt b' o' :: l) h) : b ≠ b' := by
  obtain ⟨m1, m2, h1, h2, hd, hp, m3, m4, h3, h4, hd', hp', hl⟩ := H
  rintro rfl
  rcases hd b with e | e
  · rw [hp] at e; cases e
  · rw [h3 b o' hp'] at e; cases e
theorem HS.lt {b : Nat} {o : Obj} {l : List SP} {h : Heap} (H : HS (pt b o :: l) h) : b < h.size := (Array.getElem?_eq_some_iff.1 H.at).1

/-- another content of one block -/
theorem HS.put {b : Nat} {o o' : Obj} {l : List SP} {h h' : Heap} (H : HS (pt b o :: l) h) (hb : h'[b]? = some o') (ho : ∀ k, k ≠ b → h'[k]? = h[k]?) : HS (pt b o' :: l) h' := by
  obtain ⟨m1, m2, h1, h2, hd, hp, hl⟩ := H
  have hm2 : m2 b = none := by
    rcases hd b with e | e
    · rw [hp] at e; cases e
    · exact e
  refine ⟨fun k => if k = b then some o' else none, m2, fun k x hk => ?_, fun k x hk => ?_, fun k => ?_, by simp [pt], hl⟩
  · by_cases e : k = b
    · subst e; show h'[k]? = _; rw [hb]; simpa using hk
    · simp [e] at hk
  · show h'[k]? = _
    rw [ho k (fun e => by rw [e, hm2] at hk; cases hk)]
    exact h2 k x hk
  · by_cases e : k = b
    · subst e; exact .inr hm2
    · exact .inl (by simp [e])
theorem setC_at {h : Heap} {b i : Nat} {cs : Array Value} {e : TypeId} {fz : Nat × Nat} {v : Value} (hb : h[b]? = some (.cells cs e fz)) : (setC h ⟨b, i, none⟩ v)[b]? = some (.cells (cs.setIfInBounds i v) e fz) := by
  unfold setC
  rw [Array.getElem?_modify]
  simp [hb]
theorem setC_other {h : Heap} {a : Addr} {v : Value} {k : Nat} (hk : k ≠ a.block) : (setC h a v)[k]? = h[k]? := by
  unfold setC
  rw [Array.getElem?_modify]
  simp [Ne.symm hk]
theorem HS.set {b i : Nat} {cs : Array Value} {e : TypeId} {fz : Nat × Nat} {l : List SP} {h : Heap} (H : HS (pt b (.cells cs e fz) :: l) h) (v : Value) :
    HS (pt b (.cells (cs.setIfInBounds i v) e fz) :: l) (setC h ⟨b, i, none⟩ v) :=
  H.put (setC_at H.at) (fun _ hk => setC_other hk)
/-- a block of these cells, of whatever type -/
def bk (b : Nat) (cs : Array Value) : SP := fun m => ∃ T, m b = some (.cells cs T (0, 0))
theorem HS.bk {b : Nat} {cs : Array Value} {T : TypeId} {l : List SP} {h : Heap} (H : HS (pt b (.cells cs T (0, 0)) :: l) h) : HS (bk b cs :: l) h := H.mono fun _ hm => ⟨T, hm⟩
theorem HS.ofBk {b : Nat} {cs : Array Value} {l : List SP} {h : Heap} (H : HS (YtbkjeahmbnkmeaaGreat.bk b cs :: l) h) : ∃ T, HS (pt b (.cells cs T (0, 0)) :: l) h := by
  obtain ⟨m1, m2, h1, h2, hd, ⟨T, hp⟩, hl⟩ := H
  exact ⟨T, m1, m2, h1, h2, hd, hp, hl⟩
theorem HS.setB {b i : Nat} {cs : Array Value} {l : List SP} {h : Heap} (H : HS (YtbkjeahmbnkmeaaGreat.bk b cs :: l) h) (v : Value) : HS (YtbkjeahmbnkmeaaGreat.bk b (cs.setIfInBounds i v) :: l) (setC h ⟨b, i, none⟩ v) := by
  obtain ⟨T, H⟩ := H.ofBk
  exact (H.set v).bk
theorem HS.new {l : List SP} {h : Heap} (H : HS l h) (o : Obj) : HS (pt h.size o :: l) (h.push o) := by
  refine ⟨fun k => if k = h.size then some o else none, hs h, fun k x hk => ?_, fun k x hk => ?_, fun k => ?_, by simp [pt], H⟩
  · by_cases e : k = h.size
    · subst e; show (h.push o)[h.size]? = _; simpa using hk
    · simp [e] at hk
  · have hk' : h[k]? = some x := hk
    show (h.push o)[k]? = some x
    have hlt := (Array.getElem?_eq_some_iff.1 hk').1
    rw [Array.getElem?_push_lt hlt]
    exact (Array.getElem?_eq_some_iff.1 hk').2 ▸ rfl
  · by_cases e : k = h.size
    · subst e; exact .inr (by show h[h.size]? = none; simp)
    · exact .inl (by simp [e])

/-! the words of the formulas -/
theorem cell_of {h : Heap} {b i : Nat} {cs : Array Value} {e : TypeId} {fz : Nat × Nat} {v : Value} (hb : h[b]? = some (.cells cs e fz)) (hv : cs[i]? = some v) : cell h ⟨b, i, none⟩ = some v := by
  simp [cell, hb, hv]
theorem frz_of {h : Heap} {b i : Nat} {cs : Array Value} {e : TypeId} (hb : h[b]? = some (.cells cs e (0, 0))) : frz h ⟨b, i, none⟩ = false := by
  simp [frz, hb]
theorem ldI_in {k : IntKind} {a : Addr} {h : Heap} {K : Int → Prop} {x : Int} (hc : cell h a = some (.int k x)) (hk : K x) : ldI k a h K := ⟨x, hc, hk⟩
theorem ldB_in {a : Addr} {h : Heap} {K : Bool → Prop} {x : Bool} (hc : cell h a = some (.bool x)) (hk : K x) : ldB a h K := ⟨x, hc, hk⟩
theorem ldP_in {a : Addr} {h : Heap} {K : Option Addr → Prop} {x : Option Addr} (hc : cell h a = some (.pointer x)) (hk : K x) : ldP a h K := ⟨x, hc, hk⟩
theorem ldStr_in {a : Addr} {h : Heap} {K : ByteArray → Prop} {x : ByteArray} (hc : cell h a = some (.string x)) (hk : K x) : ldStr a h K := ⟨x, hc, hk⟩
theorem ldS_in {a : Addr} {h : Heap} {K : Sl → Prop} {x : Sl} (hc : cell h a = some (.slice x.p x.n x.c)) (hk : K x) : ldS a h K := ⟨x, hc, hk⟩
theorem pm_in {a : Addr} {K : Addr → Prop} (hk : K a) : pm (some a) K := hk
theorem cellB {h : Heap} {b i : Nat} {cs : Array Value} {v : Value} {l : List SP} (H : HS (bk b cs :: l) h) (hv : cs[i]? = some v) : cell h ⟨b, i, none⟩ = some v := by
  obtain ⟨T, H⟩ := H.ofBk
  exact cell_of H.at hv
theorem frzB {h : Heap} {b i : Nat} {cs : Array Value} {l : List SP} (H : HS (bk b cs :: l) h) : frz h ⟨b, i, none⟩ = false := by
  obtain ⟨T, H⟩ := H.ofBk
  exact frz_of H.at
theorem add0 {b k : Nat} : (Addr.mk b 0 none).add k = ⟨b, k, none⟩ := by rw [Addr.add_lit, Nat.zero_add]
theorem add00 {b k j : Nat} : ((Addr.mk b 0 none).add k).add j = ⟨b, k + j, none⟩ := by rw [add0, Addr.add_lit]
/-- a field of a block that is known -/
theorem cf {h : Heap} {b k : Nat} {cs : Array Value} {v : Value} {l : List SP} (H : HS (bk b cs :: l) h) (hv : cs[k]? = some v) : cell h ((Addr.mk b 0 none).add k) = some v := by rw [add0]; exact cellB H hv
theorem cff {h : Heap} {b k j : Nat} {cs : Array Value} {v : Value} {l : List SP} (H : HS (bk b cs :: l) h) (hv : cs[k + j]? = some v) : cell h (((Addr.mk b 0 none).add k).add j) = some v := by rw [add00]; exact cellB H hv
theorem st_in {b i : Nat} {cs : Array Value} {v : Value} {h : Heap} {K : Heap → Prop} {l : List SP} (H : HS (bk b cs :: l) h) (hi : i < cs.size) (hv : v.oneCell' = true)
    (hk : ∀ h', HS (bk b (cs.setIfInBounds i v) :: l) h' → K h') : st ⟨b, i, none⟩ v h K := by
  obtain ⟨T, H⟩ := H.ofBk
  have hc : cell h ⟨b, i, none⟩ = some cs[i] := cell_of H.at (by simp [hi])
  have e0 : (⟨b, i, none⟩ : Addr).add 0 = ⟨b, i, none⟩ := rfl
  refine stF_of _ _ _ _ _ ?_ ?_
  · intro j u hu
    cases j with
    | zero => simp at hu; subst hu; exact ⟨⟨_, by rw [Nat.zero_add, e0]; exact hc⟩, by rw [Nat.zero_add, e0]; exact frz_of H.at, hv⟩
    | succ j => simp at hu
  · exact hk _ (H.set v).bk
/-- a store into a field of a block -/
theorem st_f {b k : Nat} {cs : Array Value} {v : Value} {h : Heap} {K : Heap → Prop} {l : List SP} (H : HS (bk b cs :: l) h) (hi : k < cs.size) (hv : v.oneCell' = true)
    (hk : ∀ h', HS (bk b (cs.setIfInBounds k v) :: l) h' → K h') : st ((Addr.mk b 0 none).add k) v h K := by rw [add0]; exact st_in H hi hv hk
theorem st_ff {b k j : Nat} {cs : Array Value} {v : Value} {h : Heap} {K : Heap → Prop} {l : List SP} (H : HS (bk b cs :: l) h) (hi : k + j < cs.size) (hv : v.oneCell' = true)
    (hk : ∀ h', HS (bk b (cs.setIfInBounds (k + j) v) :: l) h' → K h') : st (((Addr.mk b 0 none).add k).add j) v h K := by rw [add00]; exact st_in H hi hv hk
/-- a store of several cells into a block -/
theorem stF_in {b : Nat} {l : List SP} {K : Heap → Prop} : ∀ (vs : List Value) (o i : Nat) (cs : Array Value) (h : Heap), HS (bk b cs :: l) h → o + i + vs.length ≤ cs.size → (∀ v ∈ vs, v.oneCell' = true) →
    (∀ h', HS (bk b (vs.zipIdx.foldl (fun (cs : Array Value) x => cs.setIfInBounds (o + i + x.2) x.1) cs) :: l) h' → K h') → stF vs h ⟨b, o, none⟩ i K := by
  intro vs
  induction vs with
  | nil => intro o i cs h H _ _ hk; exact hk h H
  | cons v vs ih =>
    intro o i cs h H hl hv hk
    simp only [List.length_cons] at hl
    have h1 : stF vs (setC h ⟨b, o + i, none⟩ v) ⟨b, o, none⟩ (i + 1) K := by
      refine ih o (i + 1) _ _ (H.setB v) (by simp; omega) (fun u hu => hv u (List.mem_cons_of_mem _ hu)) (fun h' H' => hk h' ?_)
      have e : (v :: vs).zipIdx.foldl (fun (cs : Array Value) x => cs.setIfInBounds (o + i + x.2) x.1) cs = vs.zipIdx.foldl (fun (cs : Array Value) x => cs.setIfInBounds (o + (i + 1) + x.2) x.1) (cs.setIfInBounds (o + i) v) := by
        rw [List.zipIdx_cons, List.foldl_cons, Nat.add_zero, List.zipIdx_succ, List.foldl_map]
        congr 1
        funext cs x
        obtain ⟨x1, x2⟩ := x
        have : o + (i + 1) + x2 = o + i + (x2 + 1) := by omega
        simp only [this]
      rw [e]
      exact H'
    have hone := hv v (List.mem_cons_self ..)
    have hc : cell h ⟨b, o + i, none⟩ = some cs[o + i] := cellB H (by simp)
    unfold stF
    have e2 : (⟨b, o, none⟩ : Addr).add i = ⟨b, o + i, none⟩ := Addr.add_lit ..
    cases v <;> first | (simp [Value.oneCell'] at hone; done) | exact ⟨⟨_, by rw [e2]; exact hc⟩, by rw [e2]; exact frzB H, by rw [e2]; exact h1⟩
theorem alc_in {cs : Array Value} {T : TypeId} {h : Heap} {K : Nat → Heap → Prop} {l : List SP} (H : HS l h) (hk : ∀ b h', HS (bk b cs :: l) h' → K b h') : alc (.cells cs T) h K := hk _ _ (H.new _).bk
theorem jn_cut {α : Type} {body : (α → Heap → Prop) → Prop} {K : α → Heap → Prop} (I : α → Heap → Prop) (h2 : ∀ s h, I s h → K s h) (h1 : ∀ K' : α → Heap → Prop, (∀ s h, I s h → K' s h) → body K') : jn body K := h1 K h2
theorem wrap64_in {n : Int} (h1 : -9223372036854775808 ≤ n) (h2 : n ≤ 9223372036854775807) : IntKind.wrap .i64 n = n := by
  unfold IntKind.wrap; simp [IntKind.bits, IntKind.signed]; omega
end Go.Proofs.YtbkjeahmbnkmeaaGreat
set_option autoImplicit false
namespace Go.Proofs.YtbkjeahmbnkmeaaGreat
open Go Ev

/-- the slice s holds the elements xs, each of sz cells, in an array of its own -/
def row (sz : Nat) (s : Sl) (xs : List (List Value)) : SP := fun m =>
  s.n = xs.length ∧ (∀ x ∈ xs, x.length = sz) ∧ ((s.p = none ∧ xs = [] ∧ s.c = 0) ∨
    ∃ b rest, s.p = some ⟨b, 0, none⟩ ∧ s.n ≤ s.c ∧ rest.length = (s.c - s.n) * sz ∧ bk b (xs.flatten ++ rest).toArray m)

theorem flat_len {sz : Nat} : ∀ {xs : List (List Value)}, (∀ x ∈ xs, x.length = sz) → xs.flatten.length = xs.length * sz
  | [], _ => by simp
  | x :: xs, h => by
    rw [List.flatten_cons, List.length_append, h x (List.mem_cons_self ..), flat_len (fun y hy => h y (List.mem_cons_of_mem _ hy)), List.length_cons, Nat.succ_mul]; omega
theorem flat_get {sz : Nat} : ∀ {xs : List (List Value)} {i j : Nat} {x : List Value}, (∀ x ∈ xs, x.length = sz) → xs[i]? = some x → j < sz → xs.flatten[i * sz + j]? = x[j]?
  | [], i, j, x, _, h, _ => by simp at h
  | y :: xs, 0, j, x, hl, h, hj => by
    simp at h; subst h
    rw [List.flatten_cons, Nat.zero_mul, Nat.zero_add, List.getElem?_append_left (by rw [hl y (List.mem_cons_self ..)]; exact hj)]
  | y :: xs, i + 1, j, x, hl, h, hj => by
    have hy := hl y (List.mem_cons_self ..)
    have e : (i + 1) * sz + j = y.length + (i * sz + j) := by rw [Nat.succ_mul, hy]; omega
    rw [List.flatten_cons, e, List.getElem?_append_right (by omega), Nat.add_sub_cancel_left]
    exact flat_get (fun z hz => hl z (List.mem_cons_of_mem _ hz)) (by simpa using h) hj
theorem flat_set {sz : Nat} {v : Value} : ∀ {xs : List (List Value)} {i j : Nat} {x : List Value}, (∀ x ∈ xs, x.length = sz) → xs[i]? = some x → j < sz → xs.flatten.set (i * sz + j) v = (xs.set i (x.set j v)).flatten
  | [], i, j, x, _, h, _ => by simp at h
  | y :: xs, 0, j, x, hl, h, hj => by
    simp at h; subst h
    rw [List.flatten_cons, Nat.zero_mul, Nat.zero_add, List.set_append_left _ _ (by rw [hl y (List.mem_cons_self ..)]; exact hj)]
    rfl
  | y :: xs, i + 1, j, x, hl, h, hj => by
    have hy := hl y (List.mem_cons_self ..)
    have e : (i + 1) * sz + j = y.length + (i * sz + j) := by rw [Nat.succ_mul, hy]; omega
    rw [List.flatten_cons, e, List.set_append_right _ _ (by omega), Nat.add_sub_cancel_left, flat_set (fun z hz => hl z (List.mem_cons_of_mem _ hz)) (by simpa using h) hj]
    rfl

theorem row_len {sz : Nat} {s : Sl} {xs : List (List Value)} {l : List SP} {h : Heap} (H : HS (row sz s xs :: l) h) : s.n = xs.length := by
  obtain ⟨_, _, _, _, _, hp, _⟩ := H; exact hp.1
theorem row_sz {sz : Nat} {s : Sl} {xs : List (List Value)} {l : List SP} {h : Heap} (H : HS (row sz s xs :: l) h) : ∀ x ∈ xs, x.length = sz := by
  obtain ⟨_, _, _, _, _, hp, _⟩ := H; exact hp.2.1
theorem row_cap {sz : Nat} {s : Sl} {xs : List (List Value)} {l : List SP} {h : Heap} (H : HS (row sz s xs :: l) h) : s.n ≤ s.c := by
  obtain ⟨_, _, _, _, _, hp, _⟩ := H
  rcases hp.2.2 with ⟨_, hx, _⟩ | ⟨_, _, _, hc, _⟩
  · rw [hp.1, hx]; exact Nat.zero_le _
  · exact hc
theorem row_nil {sz : Nat} {l : List SP} {h : Heap} (H : HS l h) : HS (row sz ⟨none, 0, 0⟩ [] :: l) h :=
  ⟨fun _ => none, hs h, (fun _ _ h => nomatch h), Sub.refl _, (fun _ => .inl rfl), ⟨rfl, (fun _ h => nomatch h), .inl ⟨rfl, rfl, rfl⟩⟩, H⟩
/-- a row that has an array: its block, and what it holds -/
theorem row_open {sz : Nat} {s : Sl} {xs : List (List Value)} {l : List SP} {h : Heap} (H : HS (row sz s xs :: l) h) (hne : xs ≠ [] ∨ s.p ≠ none) :
    ∃ b rest, s.p = some ⟨b, 0, none⟩ ∧ s.n ≤ s.c ∧ rest.length = (s.c - s.n) * sz ∧ HS (bk b (xs.flatten ++ rest).toArray :: l) h := by
  obtain ⟨m1, m2, h1, h2, hd, hp, hl⟩ := H
  rcases hp.2.2 with ⟨hn, hx, _⟩ | ⟨b, rest, hs, hc, hr, hb⟩
  · rcases hne with h | h
    · exact absurd hx h
    · exact absurd hn h
  · exact ⟨b, rest, hs, hc, hr, m1, m2, h1, h2, hd, hb, hl⟩
theorem row_close {sz : Nat} {s : Sl} {xs : List (List Value)} {l : List SP} {h : Heap} {b : Nat} {rest : List Value} (hn : s.n = xs.length) (hx : ∀ x ∈ xs, x.length = sz) (hs : s.p = some ⟨b, 0, none⟩) (hc : s.n ≤ s.c) (hr : rest.length = (s.c - s.n) * sz)
    (H : HS (bk b (xs.flatten ++ rest).toArray :: l) h) : HS (row sz s xs :: l) h := by
  obtain ⟨m1, m2, h1, h2, hd, hp, hl⟩ := H
  exact ⟨m1, m2, h1, h2, hd, ⟨hn, hx, .inr ⟨b, rest, hs, hc, hr, hp⟩⟩, hl⟩
/-- a literal's array is a row -/
theorem row_lit {sz n : Nat} {b : Nat} {cs : Array Value} {l : List SP} {h : Heap} (H : HS (bk b cs :: l) h) (xs : List (List Value)) (hx : ∀ x ∈ xs, x.length = sz) (hcs : cs = xs.flatten.toArray) (hn : n = xs.length) :
    HS (row sz ⟨some ⟨b, 0, none⟩, n, n⟩ xs :: l) h := by
  subst hcs hn
  exact row_close (rest := []) rfl hx rfl (Nat.le_refl _) (by simp) (by simpa using H)

theorem row_cell {sz : Nat} {s : Sl} {xs : List (List Value)} {l : List SP} {h : Heap} (H : HS (row sz s xs :: l) h) {b : Nat} (hp : s.p = some ⟨b, 0, none⟩) {i j : Nat} {x : List Value} {v : Value} (hi : xs[i]? = some x) (hv : x[j]? = some v) :
    cell h ⟨b, i * sz + j, none⟩ = some v := by
  have hx := row_sz H
  obtain ⟨b', rest, hp', _, _, H'⟩ := row_open H (.inr (by rw [hp]; simp))
  rw [hp] at hp'
  simp only [Option.some.injEq, Addr.mk.injEq] at hp'
  obtain ⟨rfl, _, _⟩ := hp'
  have hj : j < sz := by rw [← hx x (List.mem_of_getElem? hi)]; exact (List.getElem?_eq_some_iff.1 hv).1
  refine cellB H' ?_
  have := flat_get hx hi hj
  rw [hv] at this
  simp only [List.getElem?_toArray]
  rw [List.getElem?_append_left (List.getElem?_eq_some_iff.1 this).1]
  exact this

/-- an index: the element's place -/
theorem idx_in {sz : Nat} {s : Sl} {xs : List (List Value)} {l : List SP} {h : Heap} {i : Int} {K : Addr → Prop} (H : HS (row sz s xs :: l) h) (h0 : 0 ≤ i) {x : List Value} (hi : xs[i.toNat]? = some x)
    (hk : ∀ b, s.p = some ⟨b, 0, none⟩ → (∀ j v, x[j]? = some v → cell h ⟨b, i.toNat * sz + j, none⟩ = some v) → K ⟨b, i.toNat * sz, none⟩) :
    pm s.p fun a => 0 ≤ i ∧ i < (s.n : Int) ∧ K (a.add (i.toNat * sz)) := by
  have hlt : i.toNat < xs.length := (List.getElem?_eq_some_iff.1 hi).1
  have hn := row_len H
  obtain ⟨b, rest, hp, _, _, H'⟩ := row_open H (.inl (by intro e; rw [e] at hlt; simp at hlt))
  rw [hp]
  refine ⟨h0, by omega, ?_⟩
  have e0 : (⟨b, 0, none⟩ : Addr).add (i.toNat * sz) = ⟨b, i.toNat * sz, none⟩ := by rw [Addr.add_lit]; simp
  show K _
  rw [e0]
  exact hk b hp (fun j v hv => row_cell H hp hi hv)
theorem row_put {sz : Nat} {s : Sl} {xs : List (List Value)} {l : List SP} {h : Heap} (H : HS (row sz s xs :: l) h) {b : Nat} (hp : s.p = some ⟨b, 0, none⟩) {i j : Nat} {x : List Value} (hi : xs[i]? = some x) (hj : j < sz) (v : Value) :
    HS (row sz s (xs.set i (x.set j v)) :: l) (setC h ⟨b, i * sz + j, none⟩ v) := by
  have hx := row_sz H
  have hn := row_len H
  obtain ⟨b', rest, hp', hc, hr, H'⟩ := row_open H (.inr (by rw [hp]; simp))
  rw [hp] at hp'
  simp only [Option.some.injEq, Addr.mk.injEq] at hp'
  obtain ⟨rfl, _, _⟩ := hp'
  have hlt : i * sz + j < xs.flatten.length := by
    have := flat_get hx hi hj
    rw [flat_len hx]
    have h1 : i < xs.length := (List.getElem?_eq_some_iff.1 hi).1
    calc i * sz + j < i * sz + sz := by omega
      _ = (i + 1) * sz := by rw [Nat.succ_mul]
      _ ≤ xs.length * sz := Nat.mul_le_mul_right _ h1
  have H2 := H'.setB (i := i * sz + j) v
  refine row_close (by simpa using hn) ?_ hp hc hr ?_ (rest := rest)
  · intro y hy
    rcases List.mem_or_eq_of_mem_set hy with hy | rfl
    · exact hx y hy
    · simp [hx x (List.mem_of_getElem? hi)]
  · rw [← flat_set hx hi hj, ← List.set_append_left _ _ hlt]
    simpa using H2
theorem row_st {sz : Nat} {s : Sl} {xs : List (List Value)} {l : List SP} {h : Heap} {K : Heap → Prop} (H : HS (row sz s xs :: l) h) {b : Nat} (hp : s.p = some ⟨b, 0, none⟩) {i j : Nat} {x : List Value} (hi : xs[i]? = some x) (hj : j < sz) {v : Value} (hv : v.oneCell' = true)
    (hk : ∀ h', HS (row sz s (xs.set i (x.set j v)) :: l) h' → K h') : st ⟨b, i * sz + j, none⟩ v h K := by
  have hx := row_sz H
  have hxl := hx x (List.mem_of_getElem? hi)
  have hc := row_cell H hp hi (j := j) (v := x[j]'(by omega)) (by simp [hxl, hj])
  obtain ⟨b', rest, hp', _, _, H'⟩ := row_open H (.inr (by rw [hp]; simp))
  rw [hp] at hp'
  simp only [Option.some.injEq, Addr.mk.injEq] at hp'
  obtain ⟨rfl, _, _⟩ := hp'
  have e0 : (⟨b, i * sz + j, none⟩ : Addr).add 0 = ⟨b, i * sz + j, none⟩ := rfl
  refine stF_of _ _ _ _ _ ?_ ?_
  · intro k u hu
    cases k with
    | zero => simp at hu; subst hu; exact ⟨⟨_, by rw [Nat.zero_add, e0]; exact hc⟩, by rw [Nat.zero_add, e0]; exact frzB H', hv⟩
    | succ k => simp at hu
  · exact hk _ (row_put H hp hi hj v)

/-- what a row's slice, or a cut of it, is to an append -/
theorem rowAt_row {sz : Nat} {s : Sl} {xs : List (List Value)} {l : List SP} {h : Heap} (H : HS (row sz s xs :: l) h) : RowAt h s.p (s.n * sz) xs.flatten ∧ (s.p = none → s.n * sz = 0) := by
  have hx := row_sz H
  have hn := row_len H
  refine ⟨⟨by rw [flat_len hx, hn], fun j v hv => ?_⟩, fun hp => ?_⟩
  · have hlt := (List.getElem?_eq_some_iff.1 hv).1
    obtain ⟨b, rest, hp, _, _, H'⟩ := row_open H (.inl (by intro e; rw [e] at hlt; simp at hlt))
    refine ⟨_, hp, ?_⟩
    rw [Addr.add_lit, Nat.zero_add]
    exact cellB H' (by simp only [List.getElem?_toArray]; rw [List.getElem?_append_left hlt]; exact hv)
  · by_cases hne : xs = []
    · rw [hn, hne]; simp
    · obtain ⟨b, rest, hp', _⟩ := row_open H (.inl hne)
      rw [hp] at hp'; cases hp'
theorem flat_drop {sz : Nat} : ∀ {xs : List (List Value)} {i : Nat}, (∀ x ∈ xs, x.length = sz) → xs.flatten.drop (i * sz) = (xs.drop i).flatten
  | [], i, _ => by simp
  | x :: xs, 0, _ => by simp
  | x :: xs, i + 1, h => by
    have hy := h x (List.mem_cons_self ..)
    rw [List.flatten_cons, List.drop_succ_cons, ← flat_drop (sz := sz) (fun z hz => h z (List.mem_cons_of_mem _ hz)), Nat.succ_mul, ← hy, Nat.add_comm, List.drop_length_add_append]
theorem flat_take {sz : Nat} : ∀ {xs : List (List Value)} {i : Nat}, (∀ x ∈ xs, x.length = sz) → xs.flatten.take (i * sz) = (xs.take i).flatten
  | [], i, _ => by simp
  | x :: xs, 0, _ => by simp
  | x :: xs, i + 1, h => by
    have hy := h x (List.mem_cons_self ..)
    rw [List.flatten_cons, List.take_succ_cons, List.flatten_cons, ← flat_take (sz := sz) (fun z hz => h z (List.mem_cons_of_mem _ hz)), Nat.succ_mul, ← hy, Nat.add_comm, List.take_length_add_append]
/-- a cut within the length -/
theorem slc_in {sz : Nat} {s : Sl} {xs : List (List Value)} {l : List SP} {h : Heap} {lo hi : Int} {K : Sl → Prop} (H : HS (row sz s xs :: l) h) (h0 : 0 ≤ lo) (h1 : lo ≤ hi) (h2 : hi ≤ (xs.length : Int))
    (hk : ∀ x : Sl, x.n = hi.toNat - lo.toNat → (∀ h' l', HS (row sz s xs :: l') h' → RowAt h' x.p (x.n * sz) ((xs.drop lo.toNat).take (hi.toNat - lo.toNat)).flatten ∧ (x.p = none → x.n * sz = 0)) → K x) :
    slc sz s.p s.c lo hi K := by
  have hn := row_len H
  have hcap := row_cap H
  refine ⟨h0, h1, by omega, hk _ rfl ?_⟩
  intro h' l' H'
  obtain ⟨⟨hl, hr⟩, hz⟩ := rowAt_row H'
  have hx := row_sz H'
  have hx' : ∀ x ∈ xs.drop lo.toNat, x.length = sz := fun x hm => hx x (List.mem_of_mem_drop hm)
  have hx2 : ∀ x ∈ (xs.drop lo.toNat).take (hi.toNat - lo.toNat), x.length = sz := fun x hm => hx' x (List.mem_of_mem_take hm)
  refine ⟨⟨?_, fun j v hv => ?_⟩, fun hp => ?_⟩
  · rw [flat_len hx2]; simp only [List.length_take, List.length_drop]; congr 1; omega
  · rw [← flat_take hx', ← flat_drop hx] at hv
    rw [List.getElem?_take] at hv
    split at hv
    · rename_i hj
      rw [List.getElem?_drop] at hv
      obtain ⟨a, ha, hc⟩ := hr _ v hv
      have hne : s.c ≠ lo.toNat := by
        intro e
        have : hi.toNat - lo.toNat = 0 := by omega
        rw [this] at hj; omega
      refine ⟨a.add (lo.toNat * sz), by simp only [hne, if_false, ha, Option.map_some], ?_⟩
      have : (a.add (lo.toNat * sz)).add j = a.add (lo.toNat * sz + j) := by
        have hsp : a.spot = none := by
          rcases Classical.em (xs = []) with e | e
          · exfalso
            have := (List.getElem?_eq_some_iff.1 hv).1
            rw [e] at this; simp at this
          · obtain ⟨b, rest, hp', _⟩ := row_open H' (.inl e)
            rw [hp'] at ha; simp at ha; rw [← ha]
        obtain ⟨ab, ao, asp⟩ := a
        simp only at hsp
        subst hsp
        rw [Addr.add_lit, Addr.add_lit, Addr.add_lit, Nat.add_assoc]
      rw [this]; exact hc
    · cases hv
  · simp only at hp
    split at hp
    · rename_i e
      have : hi.toNat - lo.toNat = 0 := by omega
      rw [this, Nat.zero_mul]
    · have hpn : s.p = none := by simpa using hp
      by_cases hxe : xs = []
      · have : hi.toNat - lo.toNat = 0 := by rw [hxe] at h2; simp at h2; omega
        rw [this, Nat.zero_mul]
      · obtain ⟨b, rest, hp', _⟩ := row_open H' (.inl hxe)
        rw [hpn] at hp'; cases hp'
end Go.Proofs.YtbkjeahmbnkmeaaGreat
set_option autoImplicit false
namespace Go.Proofs.YtbkjeahmbnkmeaaGreat
open Go Ev

theorem set_splice {α : Type} (l : List α) (v : α) (vs : List α) (k : Nat) (h : k < l.length) :
    (l.set k v).take (k + 1) ++ vs ++ (l.set k v).drop (k + 1 + vs.length) = l.take k ++ (v :: vs) ++ l.drop (k + (vs.length + 1)) := by
  have h1 : (l.set k v).take (k + 1) = l.take k ++ [v] := by
    rw [List.take_add_one, List.take_set_of_le (Nat.le_refl _)]
    simp [h]
  have h2 : (l.set k v).drop (k + 1 + vs.length) = l.drop (k + (vs.length + 1)) := by
    rw [List.drop_set_of_lt (by omega)]
    congr 1; omega
  rw [h1, h2]
  simp
theorem setL_bk {b : Nat} {l : List SP} (o : Nat) : ∀ (vs : List Value) (i : Nat) (cs : List Value) (h : Heap), HS (bk b cs.toArray :: l) h → o + i + vs.length ≤ cs.length →
    HS (bk b (cs.take (o + i) ++ vs ++ cs.drop (o + i + vs.length)).toArray :: l) (setL vs h ⟨b, o, none⟩ i) := by
  intro vs
  induction vs with
  | nil => intro i cs h H _; simpa [Ev.setL] using H
  | cons v vs ih =>
    intro i cs h H hl
    simp only [List.length_cons] at hl
    have H1 := H.setB (i := o + i) v
    have e1 : (cs.toArray.setIfInBounds (o + i) v) = (cs.set (o + i) v).toArray := by simp
    rw [e1] at H1
    have := ih (i + 1) (cs.set (o + i) v) _ H1 (by simp; omega)
    simp only [Ev.setL]
    have e2 : (⟨b, o, none⟩ : Addr).add i = ⟨b, o + i, none⟩ := Addr.add_lit ..
    rw [e2]
    have e3 := set_splice cs v vs (o + i) (by omega)
    rw [← Nat.add_assoc] at this
    rw [e3] at this
    simpa using this
theorem zeroCells_size (z : Array Value) (n : Nat) : (Builtin.zeroCells z n).toList.length = n * z.size := by simp [Builtin.zeroCells]

theorem app_in {e sz by' : Nat} {z : Value} {s x : Sl} {xs ys : List (List Value)} {l : List SP} {h : Heap} {K : Sl → Heap → Prop} (H : HS (row sz s xs :: l) h)
    (hsrc : RowAt h x.p (x.n * sz) ys.flatten ∧ (x.p = none → x.n * sz = 0)) (hyn : x.n = ys.length) (hys : ∀ y ∈ ys, y.length = sz) (hone : ∀ y ∈ ys, ∀ v ∈ y, v.oneCell' = true) (hz : z.cells.size = sz)
    (hb : (xs.length + ys.length) * by' ≤ 140737488355328) (hb2 : xs.length + ys.length ≤ 4611686018427387904)
    (hk : ∀ s' h', HS (row sz s' (xs ++ ys) :: l) h' → K s' h') : appW e sz by' z s x h K := by
  have hn := row_len H
  have hx := row_sz H
  have hxy : ∀ y ∈ xs ++ ys, y.length = sz := fun y hy => by
    rcases List.mem_append.1 hy with h | h
    · exact hx y h
    · exact hys y h
  refine ⟨ys.flatten, hsrc.1, hsrc.2, fun hfit => ?_, fun hgrow => ?_⟩
  · have hsp : s.p = none ∨ ∃ b rest, s.p = some ⟨b, 0, none⟩ ∧ s.n ≤ s.c ∧ rest.length = (s.c - s.n) * sz ∧ HS (bk b (xs.flatten ++ rest).toArray :: l) h := by
      cases hp : s.p with
      | none => exact .inl rfl
      | some a => exact .inr (by have := row_open H (.inr (by rw [hp]; simp)); rw [hp] at this; exact this)
    rcases hsp with hp | ⟨b, rest, hp, hc, hr, H'⟩
    · have h0 : xs = [] ∧ s.c = 0 := by
        obtain ⟨_, _, _, _, _, hp', _⟩ := H
        rcases hp'.2.2 with ⟨_, h1, h2⟩ | ⟨b, rest, h1, _⟩
        · exact ⟨h1, h2⟩
        · rw [hp] at h1; cases h1
      obtain ⟨rfl, hc0⟩ := h0
      simp only [List.length_nil] at hn
      have hy0 : ys = [] := List.eq_nil_of_length_eq_zero (by omega)
      subst hy0
      refine ⟨fun _ => by rw [hyn]; simp, (fun a ha => by rw [hp] at ha; cases ha), ?_⟩
      simp only [hp]
      refine hk _ _ ?_
      have e0 : (⟨none, s.n + x.n, s.c⟩ : Sl) = ⟨none, 0, 0⟩ := by rw [hn, hyn, hc0]; rfl
      rw [e0]
      exact row_nil H.tail
    · have hlen : ys.flatten.length = x.n * sz := by rw [flat_len hys, hyn]
      have hle : x.n * sz ≤ rest.length := by rw [hr]; exact Nat.mul_le_mul_right _ (by omega)
      have hfl : xs.flatten.length = s.n * sz := by rw [flat_len hx, hn]
      refine ⟨(fun hp' => by rw [hp] at hp'; cases hp'), fun a ha => ?_, ?_⟩
      · rw [hp] at ha
        simp only [Option.some.injEq] at ha
        subst ha
        intro j v hv
        have hj := (List.getElem?_eq_some_iff.1 hv).1
        rw [Addr.add_lit, Addr.add_lit, Nat.zero_add, Nat.zero_add]
        refine ⟨⟨(xs.flatten ++ rest)[s.n * sz + j]'(by rw [List.length_append]; omega), cellB H' (by simp)⟩, frzB H', ?_⟩
        obtain ⟨y, hy, hvy⟩ := List.mem_flatten.1 (List.mem_of_getElem? hv)
        exact hone y hy v hvy
      · simp only [hp]
        refine hk _ _ ?_
        rw [Addr.add_lit, Nat.zero_add]
        have := setL_bk (s.n * sz) ys.flatten 0 (xs.flatten ++ rest) h H' (by rw [List.length_append]; omega)
        rw [Nat.add_zero, ← hfl, List.take_left, ← List.drop_drop, List.drop_left] at this
        refine row_close (rest := rest.drop (ys.flatten.length)) (by simp [hn, hyn]) hxy rfl (by simpa using hfit) ?_ ?_
        · simp only [List.length_drop, hlen, hr]
          rw [← Nat.sub_mul]; congr 1; omega
        · rw [List.flatten_append, ← hfl]; exact this
  · obtain ⟨h1, h2⟩ := rowAt_row H
    refine ⟨xs.flatten, h1, h2, by rw [hn, hyn]; exact hb, by rw [hn, hyn]; omega, fun cap hcap => ?_⟩
    refine hk _ _ ?_
    have H2 := (H.tail).new (.cells ((xs.flatten ++ ys.flatten).toArray ++ Builtin.zeroCells z.cells (cap - (s.n + x.n))) e (0, 0))
    refine row_close (rest := (Builtin.zeroCells z.cells (cap - (s.n + x.n))).toList) (by simp [hn, hyn]) hxy rfl hcap ?_ ?_
    · rw [zeroCells_size, hz]
    · have e1 : ((xs ++ ys).flatten ++ (Builtin.zeroCells z.cells (cap - (s.n + x.n))).toList).toArray = (xs.flatten ++ ys.flatten).toArray ++ Builtin.zeroCells z.cells (cap - (s.n + x.n)) := by
        apply Array.ext'
        simp
      rw [e1]
      exact H2.bk

/-- append of a literal's row -/
theorem app_lit {e sz by' : Nat} {z : Value} {s : Sl} {xs ys : List (List Value)} {l : List SP} {h : Heap} {K : Sl → Heap → Prop} {b m : Nat} {cs : Array Value} (H : HS (bk b cs :: row sz s xs :: l) h)
    (hcs : cs = ys.flatten.toArray) (hm : m = ys.length) (hys : ∀ y ∈ ys, y.length = sz) (hone : ∀ y ∈ ys, ∀ v ∈ y, v.oneCell' = true) (hz : z.cells.size = sz)
    (hb : (xs.length + ys.length) * by' ≤ 140737488355328) (hb2 : xs.length + ys.length ≤ 4611686018427387904)
    (hk : ∀ s' h', HS (row sz s' (xs ++ ys) :: l) h' → K s' h') : appW e sz by' z s ⟨some ⟨b, 0, none⟩, m, m⟩ h K := by
  have H1 := row_lit (sz := sz) (n := m) H ys hys hcs hm
  exact app_in (l := row sz ⟨some ⟨b, 0, none⟩, m, m⟩ ys :: l) H1.swap (rowAt_row H1) hm hys hone hz hb hb2 (fun s' h' H' => hk s' h' (H'.swap.tail))
end Go.Proofs.YtbkjeahmbnkmeaaGreat
set_option autoImplicit false
namespace Go.Proofs.YtbkjeahmbnkmeaaGreat
open Go Ev

def pullL (l : List SP) (i : Nat) : List SP := match l[i]? with
  | some p => p :: l.eraseIdx i
  | none => l
theorem HS.pullL {l : List SP} {h : Heap} (H : HS l h) (i : Nat) : HS (YtbkjeahmbnkmeaaGreat.pullL l i) h := by
  unfold YtbkjeahmbnkmeaaGreat.pullL
  split
  · rename_i p hp; exact H.pull i p hp
  · exact H
def relI : List Nat → List Nat → List Nat
  | [], _ => []
  | a :: r, done => (done.length + a - (done.filter (fun d => Nat.blt d a)).length) :: relI r (a :: done)
def selL (l : List SP) (ix : List Nat) : List SP := (relI ix.reverse []).foldl pullL l
theorem HS.pulls {h : Heap} : ∀ (is : List Nat) {l : List SP}, HS l h → HS (is.foldl YtbkjeahmbnkmeaaGreat.pullL l) h
  | [], _, H => H
  | i :: is, _, H => HS.pulls is (H.pullL i)
theorem sats_sublist {l l' : List SP} (hs : l.Sublist l') : ∀ {m : Hp}, sats l' m → sats l m := by
  induction hs with
  | slnil => exact fun h => h
  | cons a _ ih => exact fun ⟨m1, m2, h1, h2, hd, hp, hl⟩ => sats_up (ih hl) h2
  | cons_cons a _ ih => exact fun ⟨m1, m2, h1, h2, hd, hp, hl⟩ => ⟨m1, m2, h1, h2, hd, hp, ih hl⟩
theorem HS.sub {l l' : List SP} {h : Heap} (H : HS l' h) (hs : l.Sublist l') : HS l h := sats_sublist hs H
/-- those of the first n that ix names, in this order; then the rest behind the first n -/
theorem HS.sel {l : List SP} {h : Heap} (H : HS l h) (n : Nat) (ix : List Nat) (hn : Nat.ble ix.length n = true) : HS ((selL l ix).take ix.length ++ (selL l ix).drop n) h := by
  have H1 : HS (selL l ix) h := HS.pulls _ H
  refine H1.sub ?_
  have hle := Nat.le_of_ble_eq_true hn
  have e : selL l ix = (selL l ix).take ix.length ++ (selL l ix).drop ix.length := (List.take_append_drop _ _).symm
  have h2 : ((selL l ix).drop n).Sublist ((selL l ix).drop ix.length) := by
    have : n = ix.length + (n - ix.length) := by omega
    rw [this, ← List.drop_drop]; exact List.drop_sublist _ _
  have h3 := List.Sublist.append (List.Sublist.refl ((selL l ix).take ix.length)) h2
  rwa [← e] at h3
theorem HS.to {l l' : List SP} {h : Heap} (H : HS l h) (n : Nat) (ix : List Nat) (hn : Nat.ble ix.length n = true) (e : (selL l ix).take ix.length ++ (selL l ix).drop n = l') : HS l' h := e ▸ H.sel n ix hn
end Go.Proofs.YtbkjeahmbnkmeaaGreat
