/- A big-step evaluator for the model's code, as a weakest precondition on heaps, and its soundness against Code.wp. Nothing here is about one program. -/
import Derived.OrdersHeld
import Derived.Laws.Tables
import Derived.Laws.Slices
import Derived.Laws.Append
import Derived.Laws.Strings
import Derived.Laws.Small
import Derived.Laws.StructEq
import Derived.KernelRfl
import Derived.MapKept
set_option autoImplicit false
namespace Go.Proofs.YtbkjeahmbnkmeaaGreat.Ev
open Go

abbrev Heap := Array Obj
abbrev Fr := Nat → Value

def upd (n : Nat) (f : Fr) (d : Nat) (v : Value) : Fr := fun i => bif Nat.beq i d then (bif Nat.blt d n then v else f i) else f i
def put (n : Nat) (f : Fr) (dst : Option Tmp) (v : Value) : Fr :=
  match dst with
  | some d => upd n f d v
  | none => f
def evo (f : Fr) : Operand → Value
  | .tmp t => f t
  | .const v => v
  | .global g => .pointer (some ⟨g, 0, none⟩)
  | .func k => .func (.func k) #[] #[]

def cell (h : Heap) (a : Addr) : Option Value :=
  match h[a.block]? with
  | some (.cells c _ _) => if a.spot.isSome then none else c[a.off]?
  | _ => none
def frz (h : Heap) (a : Addr) : Bool :=
  match h[a.block]? with
  | some (.cells _ _ (lo, hi)) => lo ≤ a.off && a.off < hi
  | _ => false
def setC (h : Heap) (a : Addr) (v : Value) : Heap :=
  h.modify a.block fun
    | .cells c elem frozen => .cells (if a.spot.isSome then c else c.setIfInBounds a.off v) elem frozen
    | o => o

/-- a slice's value -/
structure Sl where
  p : Option Addr
  n : Nat
  c : Nat

/-- kinds of cells -/
inductive CT where
  | int (k : IntKind)
  | bool | string | ptr | slice | map | any
def CT.Sem : CT → Type
  | .int _ => Int
  | .bool => Bool
  | .string => ByteArray
  | .ptr => Option Addr
  | .slice => Sl
  | .map => Option Nat
  | .any => Value
def CT.mk : (c : CT) → c.Sem → Value
  | .int k, x => .int k x
  | .bool, x => .bool x
  | .string, x => .string x
  | .ptr, x => .pointer x
  | .slice, x => .slice x.p x.n x.c
  | .map, x => .map x
  | .any, x => x
def kEq : IntKind → IntKind → Bool
  | .i64, .i64 | .u64, .u64 | .u8, .u8 | .i32, .i32 | .u32, .u32 | .i8, .i8 | .i16, .i16 | .u16, .u16 => true
  | _, _ => false
def CT.dec : (c : CT) → Value → (c.Sem → Prop) → Prop
  | .int k, v, K => match v with
    | .int k' x => bif kEq k k' then K x else False
    | _ => False
  | .bool, v, K => match v with
    | .bool x => K x
    | _ => False
  | .string, v, K => match v with
    | .string x => K x
    | _ => False
  | .ptr, v, K => match v with
    | .pointer x => K x
    | _ => False
  | .slice, v, K => match v with
    | .slice p n c => K ⟨p, n, c⟩
    | _ => False
  | .map, v, K => match v with
    | .map x => K x
    | _ => False
  | .any, v, K => K v
theorem kEq_eq {a b : IntKind} (h : kEq a b = true) : a = b := by cases a <;> cases b <;> first | rfl | cases h
theorem CT.dec_mk {c : CT} {v : Value} {K : c.Sem → Prop} (h : c.dec v K) : ∃ x, v = c.mk x ∧ K x := by
  cases c <;> simp only [CT.dec] at h
  case int k =>
    cases v <;> simp only at h
    rename_i k' x
    cases hk : kEq k k' with
    | false => simp [hk] at h
    | true => simp [hk] at h; have := kEq_eq hk; subst this; exact ⟨x, rfl, h⟩
  case any => exact ⟨v, rfl, h⟩
  all_goals (cases v <;> first | exact h.elim | exact ⟨_, rfl, h⟩)

def SemL : List CT → Type
  | [] => Unit
  | c :: cs => c.Sem × SemL cs
def mkL : (l : List CT) → SemL l → List Value
  | [], _ => []
  | c :: cs, s => c.mk s.1 :: mkL cs s.2
def decL : (l : List CT) → List Value → (SemL l → Prop) → Prop
  | [], vs, K => match vs with
    | [] => K ()
    | _ :: _ => False
  | c :: cs, vs, K => match vs with
    | [] => False
    | v :: vs => c.dec v fun x => decL cs vs fun s => K (x, s)
theorem decL_mk {l : List CT} {vs : List Value} {K : SemL l → Prop} (h : decL l vs K) : ∃ s, vs = mkL l s ∧ K s := by
  induction l generalizing vs with
  | nil => cases vs with
    | nil => exact ⟨(), rfl, h⟩
    | cons => exact h.elim
  | cons c cs ih => cases vs with
    | nil => exact h.elim
    | cons v vs =>
      obtain ⟨x, rfl, hx⟩ := CT.dec_mk h
      obtain ⟨s, rfl, hs⟩ := ih hx
      exact ⟨(x, s), rfl, hs⟩

inductive Sh1 where
  | one (c : CT)
  | agg (cs : List CT)
def Sh1.Sem : Sh1 → Type
  | .one c => c.Sem
  | .agg cs => SemL cs
def Sh1.mk : (s : Sh1) → s.Sem → Value
  | .one c, x => c.mk x
  | .agg cs, x => .agg (mkL cs x).toArray
def Sh1.dec : (s : Sh1) → Value → (s.Sem → Prop) → Prop
  | .one c, v, K => c.dec v K
  | .agg cs, v, K => match v with
    | .agg a => decL cs a.toList K
    | _ => False
theorem Sh1.dec_mk {s : Sh1} {v : Value} {K : s.Sem → Prop} (h : s.dec v K) : ∃ x, v = s.mk x ∧ K x := by
  cases s with
  | one c => exact CT.dec_mk h
  | agg cs =>
    cases v <;> first | exact h.elim | skip
    rename_i a
    obtain ⟨x, hx, hK⟩ := decL_mk h
    exact ⟨x, by simp [Sh1.mk, ← hx], hK⟩
def SemS : List Sh1 → Type
  | [] => Unit
  | c :: cs => c.Sem × SemS cs
def mkS : (l : List Sh1) → SemS l → List Value
  | [], _ => []
  | c :: cs, s => c.mk s.1 :: mkS cs s.2
def decS : (l : List Sh1) → List Value → (SemS l → Prop) → Prop
  | [], vs, K => match vs with
    | [] => K ()
    | _ :: _ => False
  | c :: cs, vs, K => match vs with
    | [] => False
    | v :: vs => c.dec v fun x => decS cs vs fun s => K (x, s)
theorem decS_mk {l : List Sh1} {vs : List Value} {K : SemS l → Prop} (h : decS l vs K) : ∃ s, vs = mkS l s ∧ K s := by
  induction l generalizing vs with
  | nil => cases vs with
    | nil => exact ⟨(), rfl, h⟩
    | cons => exact h.elim
  | cons c cs ih => cases vs with
    | nil => exact h.elim
    | cons v vs =>
      obtain ⟨x, rfl, hx⟩ := Sh1.dec_mk h
      obtain ⟨s, rfl, hs⟩ := ih hx
      exact ⟨(x, s), rfl, hs⟩
inductive Sh where
  | s (x : Sh1)
  | tup (l : List Sh1)
def Sh.Sem : Sh → Type
  | .s x => x.Sem
  | .tup l => SemS l
def Sh.mk : (s : Sh) → s.Sem → Value
  | .s c, x => c.mk x
  | .tup cs, x => .tuple (mkS cs x).toArray
def Sh.dec : (s : Sh) → Value → (s.Sem → Prop) → Prop
  | .s c, v, K => c.dec v K
  | .tup cs, v, K => match v with
    | .tuple a => decS cs a.toList K
    | _ => False
theorem Sh.dec_mk {s : Sh} {v : Value} {K : s.Sem → Prop} (h : s.dec v K) : ∃ x, v = s.mk x ∧ K x := by
  cases s with
  | s c => exact Sh1.dec_mk h
  | tup cs =>
    cases v <;> first | exact h.elim | skip
    rename_i a
    obtain ⟨x, hx, hK⟩ := decS_mk h
    exact ⟨x, by simp [Sh.mk, ← hx], hK⟩

/-! types -/
section
variable (P : Program)
def ctOf (t : TypeId) : CT :=
  match P.underlying t with
  | some (.int k) => .int k
  | some .bool => .bool
  | some .string => .string
  | some (.pointer _) => .ptr
  | some (.slice _) => .slice
  | some (.map _ _) => .map
  | _ => .any
def aggD : TypeDesc → Bool
  | .struct _ | .array _ _ => true
  | _ => false
def repL : Nat → List CT → List CT
  | 0, _ => []
  | n + 1, l => l ++ repL n l
def ctsOf : Nat → TypeId → List CT
  | 0, _ => []
  | d + 1, t => match P.underlying t with
    | some (.struct fs) => fs.toList.flatMap fun f => ctsOf d f.type
    | some (.array n e) => repL n (ctsOf d e)
    | _ => [ctOf P t]
def sh1Of (t : TypeId) : Sh1 :=
  match P.underlying t with
  | some d => bif aggD d then .agg (ctsOf P 8 t) else .one (ctOf P t)
  | none => .one .any
def shOf (t : TypeId) : Sh :=
  match P.underlying t with
  | some (.tuple ts) => .tup (ts.toList.map (sh1Of P))
  | _ => .s (sh1Of P t)
end

/-! loads: with the facts that they rest on -/
abbrev Facts := List (Addr × Value)
def HoldsF (fi : Facts) (h : Heap) : Prop := ∀ x ∈ fi, cell h x.1 = some x.2
def ldF : (l : List CT) → Heap → Addr → Nat → (List Value → Facts → Prop) → Prop
  | [], _, _, _, K => K [] []
  | c :: cs, h, a, i, K => ∃ x : c.Sem, cell h (a.add i) = some (c.mk x) ∧ ldF cs h a (i + 1) fun vs fs => K (c.mk x :: vs) ((a.add i, c.mk x) :: fs)
theorem ldF_some {l : List CT} {h : Heap} {a : Addr} {i : Nat} {K : List Value → Facts → Prop} (H : ldF l h a i K) :
    ∃ vs fs, K vs fs ∧ HoldsF fs h ∧ vs.length = l.length ∧ ∀ h', HoldsF fs h' → ∀ j v, vs[j]? = some v → cell h' (a.add (i + j)) = some v := by
  induction l generalizing i K with
  | nil => exact ⟨[], [], H, by simp [HoldsF], rfl, by simp⟩
  | cons c cs ih =>
    obtain ⟨x, hx, H⟩ := H
    obtain ⟨vs, fs, hK, hF, hl, hall⟩ := ih H
    refine ⟨_, _, hK, ?_, by simp [hl], ?_⟩
    · intro y hy
      cases hy with
      | head => exact hx
      | tail _ hy => exact hF y hy
    · intro h' hh j v hv
      cases j with
      | zero => simp at hv; subst hv; exact hh _ (List.mem_cons_self ..)
      | succ j =>
        have := hall h' (fun y hy => hh y (List.mem_cons_of_mem _ hy)) j v (by simpa using hv)
        rw [← this]; congr 2; omega

def pm (p : Option Addr) (K : Addr → Prop) : Prop :=
  match p with
  | some a => K a
  | none => False
theorem pm_iff {p : Option Addr} {K : Addr → Prop} : pm p K ↔ ∃ a, p = some a ∧ K a := by
  cases p with
  | none => simp [pm]
  | some a => simp [pm]

def slc (sz : Nat) (p : Option Addr) (m : Nat) (l h : Int) (K : Sl → Prop) : Prop :=
  0 ≤ l ∧ l ≤ h ∧ h ≤ m ∧ K ⟨if m = l.toNat then p else p.map (·.add (l.toNat * sz)), h.toNat - l.toNat, m - l.toNat⟩

def byteAt (s : ByteArray) (i : Int) : Int := ((s.data.toList[i.toNat]?.getD 0).toNat : Int)

def intOpd : Value → (Int → Prop) → Prop
  | .int _ i, K => K i
  | _, _ => False
def sl2 (f : Fr) (x : Option Operand) (d : Int) (K : Int → Prop) : Prop :=
  match x with
  | none => K d
  | some o => intOpd (evo f o) K

def cmpW (op : BinOp) (a b : Int) (K : Bool → Prop) : Prop :=
  match op with
  | .eql => K (a == b)
  | .neq => K (a != b)
  | .lss => K (a < b)
  | .leq => K (a ≤ b)
  | .gtr => K (a > b)
  | .geq => K (a ≥ b)
  | _ => False
def binW (op : BinOp) (k : IntKind) (a b : Int) (K : Value → Prop) : Prop :=
  match op with
  | .add => K (.int k (k.wrap (a + b)))
  | .sub => K (.int k (k.wrap (a - b)))
  | .mul => K (.int k (k.wrap (a * b)))
  | .quo => b ≠ 0 ∧ K (.int k (k.wrap (a.tdiv b)))
  | .rem => b ≠ 0 ∧ K (.int k (a.tmod b))
  | .and => K (.int k (k.wrap (BitVec.ofInt k.bits a &&& BitVec.ofInt k.bits b).toNat))
  | .or => K (.int k (k.wrap (BitVec.ofInt k.bits a ||| BitVec.ofInt k.bits b).toNat))
  | .xor => K (.int k (k.wrap (BitVec.ofInt k.bits a ^^^ BitVec.ofInt k.bits b).toNat))
  | .andNot => K (.int k (k.wrap (BitVec.ofInt k.bits a &&& ~~~(BitVec.ofInt k.bits b)).toNat))
  | op => cmpW op a b fun t => K (.bool t)
def eqFieldsW (P : Program) (xs ys : Array Value) : List Field → (Bool → Prop) → Prop
  | [], K => K true
  | f :: fs, K => bif f.name == "_" then False else
    match P.underlying f.type, xs[f.offset]?, ys[f.offset]? with
    | some (.int _), some (.int k a), some (.int k' b) => bif kEq k k' then eqFieldsW P xs ys fs fun r => K ((a == b) && r) else False
    | some .bool, some (.bool a), some (.bool b) => eqFieldsW P xs ys fs fun r => K ((a == b) && r)
    | some .string, some (.string a), some (.string b) => eqFieldsW P xs ys fs fun r => K ((a.toList == b.toList) && r)
    | _, _, _ => False
def eqStructW (P : Program) (t : TypeId) (xs ys : Array Value) (K : Bool → Prop) : Prop :=
  match P.underlying t with
  | some (.struct fs) => bif P.stoodInHeld t then False else bif P.eqGuardType P.depth t then False else eqFieldsW P xs ys fs.toList K
  | _ => False
def binV (op : BinOp) (P : Program) (t : TypeId) (x y : Value) (K : Value → Prop) : Prop :=
  match op, x, y with
  | .shl, .int k a, .int _ b => 0 ≤ b ∧ K (.int k (k.wrap (a * 2 ^ (min b.toNat k.bits))))
  | .shr, .int k a, .int _ b => 0 ≤ b ∧ K (.int k (a.fdiv (2 ^ (min b.toNat k.bits))))
  | op, .int k a, .int k' b => bif kEq k k' then binW op k a b K else False
  | .eql, .string a, .string b => K (.bool (a.toList == b.toList))
  | .neq, .string a, .string b => K (.bool !(a.toList == b.toList))
  | .eql, .bool a, .bool b => match P.underlying t with
    | some .bool => K (.bool (a == b))
    | _ => False
  | .neq, .bool a, .bool b => match P.underlying t with
    | some .bool => K (.bool (!(a == b)))
    | _ => False
  | .eql, .agg a, .agg b => eqStructW P t a b fun r => K (.bool r)
  | .neq, .agg a, .agg b => eqStructW P t a b fun r => K (.bool (!r))
  | _, _, _ => False

/-- operations that only compute or read -/
def valW (P : Program) (o : Oper) (f : Fr) (h : Heap) (K : Value → Facts → Prop) : Prop :=
  match o.op with
  | .move x | .assign x => K (evo f x) []
  | .pick c a b => match evo f c with
    | .bool t => if t = true then K (evo f a) [] else K (evo f b) []
    | _ => False
  | .build t parts => match P.built t (parts.toList.map fun p => (p.1, evo f p.2)) with
    | some cells => K (.agg cells) []
    | none => False
  | .load t x => match evo f x with
    | .pointer (some ad) => match P.info? t, P.underlying t with
      | some i, some d =>
        bif aggD d then (bif Nat.beq i.size (ctsOf P 8 t).length then ldF (ctsOf P 8 t) h ad 0 fun vs fs => K (.agg vs.toArray) fs else False)
        else ∃ x : (ctOf P t).Sem, cell h ad = some ((ctOf P t).mk x) ∧ K ((ctOf P t).mk x) [(ad, (ctOf P t).mk x)]
      | _, _ => False
    | _ => False
  | .nilCheck x => match evo f x with
    | .pointer p => pm p fun a => K (.pointer (some a)) []
    | _ => False
  | .binOp op t x y _ => binV op P t (evo f x) (evo f y) fun v => K v []
  | .unOp op _ x => match op, evo f x with
    | .not, .bool b => K (.bool !b) []
    | .neg, .int k n => K (.int k (k.wrap (0 - n))) []
    | _, _ => False
  | .convert src dst x => match P.underlying src, P.underlying dst, evo f x with
    | some _, some (.int k), .int _ n => K (.int k (k.wrap n)) []
    | some _, some .string, .string s => K (.string s) []
    | _, _, _ => False
  | .fieldAddr t x i => match P.underlying t, evo f x with
    | some (.struct fs), .pointer (some a) => match fs[i]? with
      | some fd => match P.info? fd.type with
        | some ti => bif Nat.beq ti.size 0 then False else K (.pointer (some (a.add fd.offset))) []
        | none => False
      | none => False
    | _, _ => False
  | .field t x i => match P.underlying t, evo f x with
    | some (.struct fs), .agg cs => match fs[i]? with
      | some fd => match P.info? fd.type, P.underlying fd.type with
        | some ti, some d => bif aggD d then K (.agg (cs.extract fd.offset (fd.offset + ti.size))) [] else
          (match cs[fd.offset]? with
          | some v => K v []
          | none => False)
        | _, _ => False
      | none => False
    | _, _ => False
  | .indexAddr t x ix => match P.underlying t, evo f x, evo f ix with
    | some (.slice e), .slice p n _, .int _ i => match P.info? e with
      | some ti => pm p fun a => 0 ≤ i ∧ i < n ∧ K (.pointer (some (a.add (i.toNat * ti.size)))) []
      | none => False
    | _, _, _ => False
  | .index t x ix => match P.underlying t, evo f x, evo f ix with
    | some .string, .string s, .int _ i => 0 ≤ i ∧ i < s.size ∧ K (.int .u8 (byteAt s i)) []
    | _, _, _ => False
  | .slice t x lo hi none => match P.underlying t, evo f x with
    | some (.slice e), .slice p n m => match P.info? e with
      | some ti => sl2 f lo 0 fun l => sl2 f hi n fun h' => slc ti.size p m l h' fun s => K (.slice s.p s.n s.c) []
      | none => False
    | some .string, .string s => sl2 f lo 0 fun l => sl2 f hi s.size fun h' => 0 ≤ l ∧ l ≤ h' ∧ h' ≤ s.size ∧ K (.string (s.extract l.toNat h'.toNat)) []
    | _, _ => False
  | .extract x i => match evo f x with
    | .tuple vs => match vs[i]? with
      | some v => K v []
      | none => False
    | _ => False
  | .makeFunc fn first captured => K (.func fn (first.toList.map (evo f)).toArray (captured.toList.map (evo f)).toArray) []
  | .call c => match c.callee with
    | .builtin .len => match c.argTypes.toList, c.args.toList with
      | [t], [x] => match P.underlying t, evo f x with
        | some .string, .string s => K (.int .i64 s.size) []
        | some (.slice _), .slice _ n _ => K (.int .i64 n) []
        | _, _ => False
      | _, _ => False
    | .builtin .max => match c.args.toList with
      | [x, y] => match evo f x, evo f y with
        | .int k a, .int _ b => K (.int k (if b > a then b else a)) []
        | _, _ => False
      | _ => False
    | .builtin .min => match c.args.toList with
      | [x, y] => match evo f x, evo f y with
        | .int k a, .int _ b => K (.int k (if b < a then b else a)) []
        | _, _ => False
      | _ => False
    | _ => False
  | _ => False

/-! soundness of the reading operations -/
section
variable {P : Program}
theorem cell_eq (w : World) (a : Addr) : cell w.heap a = w.cell? a := rfl
theorem frz_eq (w : World) (a : Addr) : frz w.heap a = w.frozen? a := rfl
theorem setC_eq (w : World) (a : Addr) (v : Value) : (w.setCell a v).heap = setC w.heap a v := rfl

theorem run_info {t : TypeId} {i : TypeInfo} (h : P.info? t = some i) (w : World) : (typeInfo t).run P w = .ok i w := by simp [typeInfo, h]
theorem run_size {t : TypeId} {i : TypeInfo} (h : P.info? t = some i) (w : World) : (sizeOf t).run P w = .ok i.size w := by simp [sizeOf, typeInfo, h]
theorem run_agg {t : TypeId} {d : TypeDesc} (h : P.underlying t = some d) (w : World) : (isAgg t).run P w = .ok (aggD d) w := by
  simp only [isAgg, Sem.run_bind, run_underlying h, Result.andThen_ok]
  cases d <;> rfl
theorem run_zero {t : TypeId} {i : TypeInfo} {z : Value} (h : P.info? t = some i) (hz : i.zero = some z) (w : World) : (zeroValue t).run P w = .ok z w := by
  simp [zeroValue, typeInfo, h, hz]

theorem intOpd_some {v : Value} {K : Int → Prop} (h : intOpd v K) : ∃ k i, v = .int k i ∧ K i := by
  cases v <;> first | exact h.elim | exact ⟨_, _, rfl, h⟩

theorem cmpW_some {op : BinOp} {a b : Int} {K : Bool → Prop} (h : cmpW op a b K) :
    ∃ t, K t ∧ Op.intCmp op a b = pure (.bool t) := by
  cases op <;> simp only [cmpW] at h <;> first | exact h.elim | exact ⟨_, h, rfl⟩

theorem binW_some {op : BinOp} {k : IntKind} {a b : Int} {K : Value → Prop} (t : TypeId) (h : binW op k a b K) :
    ∃ v, K v ∧ ∀ w, (binOp op t (.int k a) (.int k b)).run P w = .ok v w := by
  cases op <;> simp only [binW] at h
  case add => exact ⟨_, h, fun w => by simp [binOp, Op.intArith]⟩
  case sub => exact ⟨_, h, fun w => by simp [binOp, Op.intArith]⟩
  case mul => exact ⟨_, h, fun w => by simp [binOp, Op.intArith]⟩
  case quo => exact ⟨_, h.2, fun w => by simp [binOp, Op.intDiv, h.1]⟩
  case rem => exact ⟨_, h.2, fun w => by simp [binOp, Op.intDiv, h.1]⟩
  case and => exact ⟨_, h, fun w => by simp [binOp, Op.intBits]⟩
  case or => exact ⟨_, h, fun w => by simp [binOp, Op.intBits]⟩
  case xor => exact ⟨_, h, fun w => by simp [binOp, Op.intBits]⟩
  case andNot => exact ⟨_, h, fun w => by simp [binOp, Op.intBits]⟩
  all_goals
    first
      | exact h.elim
      | (obtain ⟨t', ht, he⟩ := cmpW_some h; exact ⟨_, ht, fun w => by simp [binOp, he]⟩)

theorem eqFieldsW_some {xs ys : Array Value} (d : Nat) : ∀ (fs : List Field) (K : Bool → Prop), eqFieldsW P xs ys fs K → ∃ r, K r ∧ ∀ w, (Op.eqFields (d + 1) xs ys fs).run P w = .ok r w := by
  intro fs
  induction fs with
  | nil => intro K h; exact ⟨true, h, fun w => rfl⟩
  | cons f fs ih =>
    intro K h
    unfold eqFieldsW at h
    cases hn : f.name == "_" with
    | true => rw [hn] at h; exact h.elim
    | false =>
      rw [hn, cond_false] at h
      have hne : f.name ≠ "_" := by simpa using hn
      have main : ∀ (u v : Value) (b : Bool) (td : TypeDesc), P.underlying f.type = some td → aggD td = false → xs[f.offset]? = some u → ys[f.offset]? = some v →
          (∀ w, (Op.equalIn (d + 1) f.type u v).run P w = .ok b w) → (eqFieldsW P xs ys fs fun r => K (b && r)) → ∃ r, K r ∧ ∀ w, (Op.eqFields (d + 1) xs ys (f :: fs)).run P w = .ok r w := by
        intro u v b td hu hag hx hy he hK
        obtain ⟨r, hr, hrun⟩ := ih _ hK
        refine ⟨_, hr, fun w => ?_⟩
        have p1 : (part f.type xs f.offset).run P w = .ok u w := by simp [part, run_agg hu, hag, hx]
        have p2 : (part f.type ys f.offset).run P w = .ok v w := by simp [part, run_agg hu, hag, hy]
        unfold Op.eqFields
        rw [if_pos hne]
        simp only [Sem.run_bind, p1, p2, he, Result.andThen_ok]
        cases b
        · rfl
        · simp [hrun w]
      split at h
      · rename_i k0 k a k' b hu hx hy
        cases hk : kEq k k' with
        | false => simp [hk] at h
        | true =>
          have := kEq_eq hk; subst this
          simp only [hk, cond_true] at h
          exact main _ _ _ _ hu rfl hx hy (fun w => run_equalIn_int w d f.type k k0 a b hu) h
      · rename_i a b hu hx hy
        exact main _ _ _ _ hu rfl hx hy (fun w => run_equalIn_bool' w d f.type a b hu) h
      · rename_i a b hu hx hy
        exact main _ _ _ _ hu rfl hx hy (fun w => run_equalIn_string w d f.type a b hu) h
      · exact h.elim
theorem eqStructW_some {t : TypeId} {xs ys : Array Value} {K : Bool → Prop} (h : eqStructW P t xs ys K) :
    ∃ r, K r ∧ (∀ w, (Op.equalIn 10000 t (.agg xs) (.agg ys)).run P w = .ok r w) ∧ P.eqGuardType P.depth t = false := by
  unfold eqStructW at h
  split at h
  · rename_i fs hu
    cases h1 : P.stoodInHeld t with
    | true => rw [h1] at h; exact h.elim
    | false =>
      cases h2 : P.eqGuardType P.depth t with
      | true => rw [h1, h2] at h; exact h.elim
      | false =>
        rw [h1, h2, cond_false, cond_false] at h
        obtain ⟨r, hr, hrun⟩ := eqFieldsW_some (P := P) 9998 _ _ h
        have hf : P.fieldsOf t = fs := by simp [Program.fieldsOf, hu]
        refine ⟨r, hr, fun w => ?_, rfl⟩
        rw [run_equalIn_agg w 9999 t xs ys (by rw [hf]; exact hu) h1, hf]
        exact hrun w
  · exact h.elim

theorem binV_some {op : BinOp} {t : TypeId} {x y : Value} {K : Value → Prop} (xo yo : Operand) (h : binV op P t x y K) :
    ∃ v, K v ∧ ∀ w, (do eqGuard op t xo yo x y; binOp op t x y).run P w = .ok v w := by
  unfold binV at h
  split at h
  · obtain ⟨h0, h⟩ := h
    rename_i k a yk b
    exact ⟨_, h, fun w => by simp [eqGuard, binOp, Op.shift, Int.not_lt.2 h0]⟩
  · obtain ⟨h0, h⟩ := h
    rename_i k a yk b
    exact ⟨_, h, fun w => by simp [eqGuard, binOp, Op.shift, Int.not_lt.2 h0]⟩
  · rename_i op' k a k' b n1 n2
    cases hk : kEq k k' with
    | false => simp [hk] at h
    | true =>
      have := kEq_eq hk; subst this
      simp only [hk, cond_true] at h
      obtain ⟨v, hv, hr⟩ := binW_some (P := P) t h
      exact ⟨v, hv, fun w => by rw [eqGuard_at_int]; simpa using hr w⟩
  · exact ⟨_, h, fun w => by rw [eqGuard_at_string]; simp [binOp, Op.stringOp]⟩
  · exact ⟨_, h, fun w => by rw [eqGuard_at_string]; simp [binOp, Op.stringOp]⟩
  · split at h
    · rename_i hu
      exact ⟨_, h, fun w => by rw [eqGuard_at_bool]; simpa using run_eql_bool w t _ _ hu⟩
    · exact h.elim
  · split at h
    · rename_i hu
      exact ⟨_, h, fun w => by rw [eqGuard_at_bool]; simpa using run_neq_bool w t _ _ hu⟩
    · exact h.elim
  · obtain ⟨r, hr, hrun, hm⟩ := eqStructW_some h
    exact ⟨_, hr, fun w => by
      rw [Sem.run_bind, run_eqGuard_agg w _ t xo yo _ _ hm, Result.andThen_ok, run_eql_struct, hrun]; rfl⟩
  · obtain ⟨r, hr, hrun, hm⟩ := eqStructW_some h
    exact ⟨_, hr, fun w => by
      rw [Sem.run_bind, run_eqGuard_agg w _ t xo yo _ _ hm, Result.andThen_ok, run_neq_struct, hrun]; rfl⟩
  · exact h.elim

theorem toArr {α β : Type} (a : Array α) (g : α → β) : (a.toList.map g).toArray = a.map g := by
  apply Array.ext'
  rw [Array.toList_map]

theorem ap_ok {v : Value} {s : Sem Value} {w : World} (h : s.run P w = .ok v w) : (do pure (Next.value (← s)) : Sem Next).run P w = .ok (.value v) w := by
  simp only [Sem.run_bind, h, Result.andThen_ok, Sem.run_pure]

theorem valW_some {o : Oper} {f : Fr} {h : Heap} {K : Value → Facts → Prop} {ρ : Operand → Value} (hρ : ρ = evo f) (H : valW P o f h K) :
    ∃ v fi, K v fi ∧ HoldsF fi h ∧ ∀ w : World, HoldsF fi w.heap → (execOp ρ o).run P w = .ok (.value v) w := by
  subst hρ
  have nil : HoldsF [] h := by simp [HoldsF]
  unfold valW at H
  unfold execOp
  split at H
  · exact ⟨_, [], H, nil, fun w _ => by simp [*]⟩
  · exact ⟨_, [], H, nil, fun w _ => by simp [*]⟩
  · rename_i c a b ho
    split at H
    · rename_i t ht
      split at H
      · rename_i h1; exact ⟨_, [], H, nil, fun w _ => by simp [*, asBool]⟩
      · rename_i h1; exact ⟨_, [], H, nil, fun w _ => by simp [*, asBool]⟩
    · exact H.elim
  · rename_i t parts ho
    split at H
    · rename_i cells hc
      refine ⟨_, [], H, nil, fun w _ => ?_⟩
      simp only [ho]
      exact ap_ok (run_build w t _ _ (by rw [← hc]; simp))
    · exact H.elim
  · rename_i t x ho
    split at H
    · rename_i ad hx
      split at H
      · rename_i i d hi hd
        cases hag : aggD d with
        | false =>
          simp only [hag, cond_false] at H
          obtain ⟨y, hy, hK⟩ := H
          refine ⟨_, _, hK, by simp [HoldsF, hy], fun w hw => ?_⟩
          simp only [ho]
          refine ap_ok ?_
          have hc : w.cell? ad = some ((ctOf P t).mk y) := hw (ad, _) (List.mem_cons_self ..)
          simp [Instr.loadAt, hx, Instr.sureAddr, loadVar, run_agg hd, hag, hc]
        | true =>
          simp only [hag, cond_true] at H
          cases hs : Nat.beq i.size (ctsOf P 8 t).length with
          | false => simp [hs] at H
          | true =>
            simp only [hs, cond_true] at H
            obtain ⟨vs, fs, hK, hF, hl, hall⟩ := ldF_some H
            refine ⟨_, _, hK, hF, fun w hw => ?_⟩
            simp only [ho]
            refine ap_ok ?_
            have hsz : vs.length = i.size := by rw [hl]; exact (Nat.eq_of_beq_eq_true hs).symm
            have := run_loadCells_list (P := P) w ad vs (fun j v hv => by have this := hall w.heap hw j v hv; simp only [Nat.zero_add] at this; exact this)
            rw [hsz] at this
            simp [Instr.loadAt, hx, Instr.sureAddr, loadVar, run_agg hd, hag, run_size hi, this]
      · exact H.elim
    · exact H.elim
  · rename_i x ho
    split at H
    · rename_i p hx
      obtain ⟨a, rfl, hK⟩ := pm_iff.1 H
      exact ⟨_, [], hK, nil, fun w _ => by simp [ho, hx]⟩
    · exact H.elim
  · rename_i op t x y yt ho
    obtain ⟨v, hv, hr⟩ := binV_some (P := P) x y H
    refine ⟨_, [], hv, nil, fun w _ => ?_⟩
    simp only [ho]
    exact ap_ok (hr w)
  · rename_i op t x ho
    split at H
    · rename_i b hx
      exact ⟨_, [], H, nil, fun w _ => by simp only [ho]; exact ap_ok (by rw [hx]; rfl)⟩
    · rename_i k n hx
      exact ⟨_, [], H, nil, fun w _ => by simp only [ho]; exact ap_ok (by rw [hx]; simp [Op.unary, Op.intArith])⟩
    · exact H.elim
  · rename_i src dst x ho
    split at H
    · rename_i d k n hs hd hx
      exact ⟨_, [], H, nil, fun w _ => by
        simp only [ho]
        refine ap_ok ?_
        rw [hx]
        simp only [convert, Sem.run_bind, run_underlying hs, run_underlying hd, Result.andThen_ok]
        cases d <;> rfl⟩
    · rename_i d s hs hd hx
      exact ⟨_, [], H, nil, fun w _ => by
        simp only [ho]
        refine ap_ok ?_
        rw [hx]
        simp only [convert, Sem.run_bind, run_underlying hs, run_underlying hd, Result.andThen_ok]
        cases d <;> rfl⟩
    · exact H.elim
  · rename_i t x i ho
    split at H
    · rename_i fs a hu hx
      split at H
      · rename_i fd hfd
        split at H
        · rename_i ti hti
          cases hz : Nat.beq ti.size 0 with
          | true => simp [hz] at H
          | false =>
            simp only [hz, cond_false] at H
            have hne : ti.size ≠ 0 := fun e => by rw [e] at hz; cases hz
            refine ⟨_, [], H, nil, fun w _ => ?_⟩
            simp only [ho]
            refine ap_ok ?_
            rw [hx]
            simp [Instr.fieldAt, run_underlying hu, hfd, Instr.sureAddr, fieldPlace, run_size hti, hne]
        · exact H.elim
      · exact H.elim
    · exact H.elim
  · rename_i t x i ho
    split at H
    · rename_i fs cs hu hx
      split at H
      · rename_i fd hfd
        split at H
        · rename_i ti d hti hd
          cases hag : aggD d with
          | true =>
            simp only [hag, cond_true] at H
            refine ⟨_, [], H, nil, fun w _ => ?_⟩
            simp only [ho]
            refine ap_ok ?_
            rw [hx]
            simp [Instr.field, run_underlying hu, hfd, asAgg, part, run_agg hd, hag, run_size hti]
          | false =>
            simp only [hag, cond_false] at H
            split at H
            · rename_i v hv
              refine ⟨_, [], H, nil, fun w _ => ?_⟩
              simp only [ho]
              refine ap_ok ?_
              rw [hx]
              simp [Instr.field, run_underlying hu, hfd, asAgg, part, run_agg hd, hag, hv]
            · exact H.elim
        · exact H.elim
      · exact H.elim
    · exact H.elim
  · rename_i t x ix ho
    split at H
    · rename_i e p n c k i hu hx hix
      split at H
      · rename_i ti hti
        obtain ⟨a, rfl, h0, h1, hK⟩ := pm_iff.1 H
        refine ⟨_, [], hK, nil, fun w _ => ?_⟩
        simp only [ho]
        refine ap_ok ?_
        rw [hx, hix]
        simp [Instr.indexAt, asIntOf, run_underlying hu, h0, h1, run_size hti]
      · exact H.elim
    · exact H.elim
  · rename_i t x ix ho
    split at H
    · rename_i s k i hu hx hix
      obtain ⟨h0, h1, hK⟩ := H
      refine ⟨_, [], hK, nil, fun w _ => ?_⟩
      simp only [ho]
      refine ap_ok ?_
      rw [hx, hix]
      have hlt : i.toNat < s.size := by omega
      have hb : s[i.toNat]? = some s[i.toNat] := ByteArray.getElem?_lt' s _ hlt
      have he : byteAt s i = (s[i.toNat].toNat : Int) := by
        unfold byteAt
        have hlt' : i.toNat < s.data.toList.length := by simpa using hlt
        rw [List.getElem?_eq_getElem hlt']
        simp
        rfl
      simp [Instr.index, asIntOf, run_underlying hu, h0, hb, he]
    · exact H.elim
  · rename_i t x lo hi ho
    split at H
    · rename_i e p n m hu hx
      split at H
      · rename_i ti hti
        have he : P.elem t = e := by simp [Program.elem, hu]
        have hu' : P.underlying t = some (.slice (P.elem t)) := by rw [he]; exact hu
        have hs : ∀ w : World, (sizeOf (P.elem t)).run P w = .ok ti.size w := fun w => by rw [he]; exact run_size hti w
        cases lo with
        | none =>
          cases hi with
          | none =>
            obtain ⟨h0, h1, h2, hK⟩ := H
            refine ⟨_, [], hK, nil, fun w _ => ?_⟩
            simp only [ho]
            refine ap_ok ?_
            rw [hx, run_sliceAt_slice w t _ _ _ _ hu']
            have := run_slice_all (P := P) w t p n m hu'
            simp only [Option.map_none] at *
            rw [this, hs]
            simp [sliced]
          | some hi =>
            obtain ⟨kh, ih, hhi, h0, h1, h2, hK⟩ := intOpd_some H
            refine ⟨_, [], hK, nil, fun w _ => ?_⟩
            simp only [ho]
            refine ap_ok ?_
            rw [hx, run_sliceAt_slice w t _ _ _ _ hu']
            have := run_slice_h (P := P) w t p n m hu' kh ih h1 h2
            simp only [Option.map_none, Option.map_some, hhi] at *
            rw [this, hs]
            simp [sliced]
        | some lo =>
          obtain ⟨kl, il, hlo, H⟩ := intOpd_some H
          cases hi with
          | none =>
            obtain ⟨h0, h1, h2, hK⟩ := H
            refine ⟨_, [], hK, nil, fun w _ => ?_⟩
            simp only [ho]
            refine ap_ok ?_
            rw [hx, run_sliceAt_slice w t _ _ _ _ hu']
            have := run_slice_l (P := P) w t p n m hu' kl il h0 (by omega)
            simp only [Option.map_none, Option.map_some, hlo] at *
            rw [this, hs]
            simp [sliced]
          | some hi =>
            obtain ⟨kh, ih, hhi, h0, h1, h2, hK⟩ := intOpd_some H
            refine ⟨_, [], hK, nil, fun w _ => ?_⟩
            simp only [ho]
            refine ap_ok ?_
            rw [hx, run_sliceAt_slice w t _ _ _ _ hu']
            have := run_slice_lh (P := P) w t p n m hu' kl kh il ih h0 h1 h2
            simp only [Option.map_none, Option.map_some, hlo, hhi] at *
            rw [this, hs]
            simp [sliced]
      · exact H.elim
    · rename_i s hu hx
      have gen : ∀ (l h' : Int) (lo' hi' : Option Value), 0 ≤ l → l ≤ h' → h' ≤ s.size →
          (lo' = none ∧ l = 0 ∨ ∃ k, lo' = some (.int k l)) → (hi' = none ∧ h' = s.size ∨ ∃ k, hi' = some (.int k h')) → ∀ w : World,
          (Instr.sliceAt t (.string s) lo' hi' none).run P w = .ok (.string (s.extract l.toNat h'.toNat)) w := by
        intro l h' lo' hi' h0 h1 h2 hl hh w
        rw [run_sliceAt_string w t _ _ _ _ hu]
        have el : ((h'.toNat : Nat) : Int) = h' := Int.toNat_of_nonneg (by omega)
        have bh : ∀ k, (Instr.sliceBound (.int k h') s.size .sliceAlen).run P w = .ok h'.toNat w := fun k => run_sliceBound w k h' _ _ (by omega) h2
        have bl : ∀ k, (Instr.sliceBound (.int k l) h'.toNat .sliceB).run P w = .ok l.toNat w := fun k => run_sliceBound w k l _ _ h0 (by omega)
        rcases hl with ⟨rfl, rfl⟩ | ⟨kl, rfl⟩ <;> rcases hh with ⟨rfl, rfl⟩ | ⟨kh, rfl⟩
        · simp [Instr.slice, run_underlying hu, Instr.sliceBounds]
        · simp [Instr.slice, run_underlying hu, Instr.sliceBounds, bh]
        · have bl' : ∀ k, (Instr.sliceBound (.int k l) s.size .sliceB).run P w = .ok l.toNat w := fun k => run_sliceBound w k l _ _ h0 (by omega)
          simp [Instr.slice, run_underlying hu, Instr.sliceBounds, bl']
        · simp [Instr.slice, run_underlying hu, Instr.sliceBounds, bh, bl]
      cases lo with
      | none =>
        cases hi with
        | none =>
          obtain ⟨h0, h1, h2, hK⟩ := H
          exact ⟨_, [], hK, nil, fun w _ => by simp only [ho]; exact ap_ok (by rw [hx]; exact gen _ _ _ _ h0 h1 h2 (.inl ⟨rfl, rfl⟩) (.inl ⟨rfl, rfl⟩) w)⟩
        | some hi =>
          obtain ⟨kh, ih, hhi, h0, h1, h2, hK⟩ := intOpd_some H
          exact ⟨_, [], hK, nil, fun w _ => by simp only [ho]; exact ap_ok (by rw [hx]; exact gen _ _ _ _ h0 h1 h2 (.inl ⟨rfl, rfl⟩) (.inr ⟨kh, by simp [hhi]⟩) w)⟩
      | some lo =>
        obtain ⟨kl, il, hlo, H⟩ := intOpd_some H
        cases hi with
        | none =>
          obtain ⟨h0, h1, h2, hK⟩ := H
          exact ⟨_, [], hK, nil, fun w _ => by simp only [ho]; exact ap_ok (by rw [hx]; exact gen _ _ _ _ h0 h1 h2 (.inr ⟨kl, by simp [hlo]⟩) (.inl ⟨rfl, rfl⟩) w)⟩
        | some hi =>
          obtain ⟨kh, ih, hhi, h0, h1, h2, hK⟩ := intOpd_some H
          exact ⟨_, [], hK, nil, fun w _ => by simp only [ho]; exact ap_ok (by rw [hx]; exact gen _ _ _ _ h0 h1 h2 (.inr ⟨kl, by simp [hlo]⟩) (.inr ⟨kh, by simp [hhi]⟩) w)⟩
    · exact H.elim
  · rename_i x i ho
    split at H
    · rename_i vs hx
      split at H
      · rename_i v hv
        exact ⟨_, [], H, nil, fun w _ => by simp only [ho]; exact ap_ok (by rw [hx]; simp [Instr.extract, hv])⟩
      · exact H.elim
    · exact H.elim
  · rename_i fn first captured ho
    exact ⟨_, [], H, nil, fun w _ => by simp only [ho]; exact ap_ok (by rw [toArr, toArr]; rfl)⟩
  · rename_i c ho
    obtain ⟨callee, args, argTypes⟩ := c
    have gen : ∀ (bt : Builtin) (v : Value), callee = .builtin bt → (∀ w, (builtin bt argTypes o.type (args.map fun | .const _ => true | _ => false) (args.map (evo f))).run P w = .ok (.value v) w) →
        ∀ w : World, (match o.op with
          | .call c => do let d ← resolve (evo f) c o.type; invoke d.target d.args
          | _ => pure .skip : Sem Next).run P w = .ok (.value v) w := by
      intro bt v hcal hb w
      subst hcal
      simp only [ho, resolve, Sem.run_bind, Sem.run_pure, Result.andThen_ok, invoke]
      exact hb w
    simp only [ho] at gen
    simp only [] at H
    split at H
    · split at H
      · rename_i t x ht hx
        have e1 : argTypes = #[t] := by rw [← Array.toArray_toList (xs := argTypes), ht]
        have e2 : args = #[x] := by rw [← Array.toArray_toList (xs := args), hx]
        subst e1 e2
        split at H
        · rename_i s hu hv
          refine ⟨_, [], H, nil, fun w _ => ?_⟩
          simp only [ho]
          refine gen .len _ rfl (fun w => ?_) w
          simp [builtin, Builtin.len_, run_underlying hu, hv, goInt]
        · rename_i e p n m hu hv
          refine ⟨_, [], H, nil, fun w _ => ?_⟩
          simp only [ho]
          refine gen .len _ rfl (fun w => ?_) w
          simp [builtin, Builtin.len_, run_underlying hu, hv, goInt]
        · exact H.elim
      · exact H.elim
    · split at H
      · rename_i x y hx
        have e2 : args = #[x, y] := by rw [← Array.toArray_toList (xs := args), hx]
        subst e2
        split at H
        · rename_i k a k' b hx hy
          refine ⟨_, [], H, nil, fun w _ => ?_⟩
          simp only [ho]
          refine gen .max _ rfl (fun w => ?_) w
          simp [builtin, Builtin.max_, Builtin.max2, hx, hy]
        · exact H.elim
      · exact H.elim
    · split at H
      · rename_i x y hx
        have e2 : args = #[x, y] := by rw [← Array.toArray_toList (xs := args), hx]
        subst e2
        split at H
        · rename_i k a k' b hx hy
          refine ⟨_, [], H, nil, fun w _ => ?_⟩
          simp only [ho]
          refine gen .min _ rfl (fun w => ?_) w
          simp [builtin, Builtin.min_, Builtin.min2, hx, hy]
        · exact H.elim
      · exact H.elim
    · exact H.elim
  · exact H.elim
end

/-! calls, and operations that write or make memory -/
/-- what no heap tells of: nothing is written out, nothing is asked of the system -/
def Kp (w0 w : World) : Prop := w.os = w0.os ∧ w.output = w0.output
theorem Kp.refl (w : World) : Kp w w := ⟨rfl, rfl⟩
theorem Kp.trans {a b c : World} (h : Kp a b) (h' : Kp b c) : Kp a c := ⟨h'.1.trans h.1, h'.2.trans h.2⟩
def HCalls (P : Program) (k : FuncId) (args : List Value) (h : Heap) (R : Value → Heap → Prop) : Prop :=
  ∀ w : World, w.heap = h → Calls P k args.toArray w fun e w' => ∃ v, e = .returned v ∧ R v w'.heap ∧ Kp w w'

theorem HCalls.mono {P : Program} {k : FuncId} {args : List Value} {h : Heap} {R R' : Value → Heap → Prop} (H : HCalls P k args h R) (hr : ∀ v h', R v h' → R' v h') : HCalls P k args h R' :=
  fun w hw => (H w hw).mono fun _ _ ⟨v, he, hv, hk⟩ => ⟨v, he, hr _ _ hv, hk⟩

def stF : List Value → Heap → Addr → Nat → (Heap → Prop) → Prop
  | [], h, _, _, K => K h
  | v :: vs, h, a, i, K => match v with
    | .agg _ | .tuple _ => False
    | _ => (∃ old, cell h (a.add i) = some old) ∧ frz h (a.add i) = false ∧ stF vs (setC h (a.add i) v) a (i + 1) K

/-- the first k cells of a row -/
def RowAt (h : Heap) (p : Option Addr) (k : Nat) (cs : List Value) : Prop :=
  cs.length = k ∧ ∀ j v, cs[j]? = some v → ∃ a, p = some a ∧ cell h (a.add j) = some v

/-- stores of a list -/
def setL : List Value → Heap → Addr → Nat → Heap
  | [], h, _, _ => h
  | v :: vs, h, a, i => setL vs (setC h (a.add i) v) a (i + 1)
def stOk (h : Heap) (a : Addr) (i : Nat) (vs : List Value) : Prop :=
  ∀ j v, vs[j]? = some v → (∃ old, cell h (a.add (i + j)) = some old) ∧ frz h (a.add (i + j)) = false ∧ v.oneCell' = true

/-- append(s, x...): the source's cells are cs -/
def appW (e : TypeId) (sz by' : Nat) (z : Value) (s x : Sl) (h : Heap) (K : Sl → Heap → Prop) : Prop :=
  ∃ cs, RowAt h x.p (x.n * sz) cs ∧ (x.p = none → x.n * sz = 0) ∧
    (s.n + x.n ≤ s.c → (s.p = none → x.n * sz = 0) ∧ (∀ a, s.p = some a → stOk h (a.add (s.n * sz)) 0 cs) ∧
      K ⟨s.p, s.n + x.n, s.c⟩ (match s.p with | some a => setL cs h (a.add (s.n * sz)) 0 | none => h)) ∧
    (s.c < s.n + x.n → ∃ old, RowAt h s.p (s.n * sz) old ∧ (s.p = none → s.n * sz = 0) ∧ (s.n + x.n) * by' ≤ 140737488355328 ∧ (s.n + x.n) ≤ 9223372036854775807 ∧
      ∀ cap, s.n + x.n ≤ cap → K ⟨some ⟨h.size, 0, none⟩, s.n + x.n, cap⟩ (h.push (.cells ((old ++ cs).toArray ++ Builtin.zeroCells z.cells (cap - (s.n + x.n))) e)))

def fillL (n size : Nat) (z : List Value) : List Value := (List.range (n * size)).map fun i => z.getD (i % z.length) default

/-- maps of whole numbers: what is found, and what is put -/
def lookW (k : IntKind) (m : Option Nat) (i : Int) (z : Value) (h : Heap) (K : Value → Prop) : Prop :=
  ∃ r es clk q, m = some r ∧ h[r]? = some (.map es clk) ∧ Instr.findNow (.int k) (.int k i) es.toList 0 = some q ∧ K (match q with | some x => x.2 | none => z)
def mupW (k : IntKind) (m : Option Nat) (i : Int) (v : Value) (h : Heap) (K : Heap → Prop) : Prop :=
  ∃ r es clk q, m = some r ∧ h[r]? = some (.map es clk) ∧ Instr.findNow (.int k) (.int k i) es.toList 0 = some q ∧ (∀ x, q = some x → (es[x.1]?).map (·.key) = some (.int k i)) ∧
    K (match q with | some x => h.setIfInBounds r (.map (es.modify x.1 fun e => { e with key := .int k i, val := v }) clk) | none => h.setIfInBounds r (.map (es.push { key := .int k i, val := v, born := clk }) (clk + 1)))

/-- operations that write, make memory, or call -/
def effW (P : Program) (o : Oper) (f : Fr) (h : Heap) (K : Value → Heap → Prop) : Prop :=
  match o.op with
  | .alloc e => match P.info? e with
    | some i => match i.zero with
      | some z => K (.pointer (some ⟨h.size, 0, none⟩)) (h.push (.cells z.cells e))
      | none => False
    | none => False
  | .box e x => K (.pointer (some ⟨h.size, 0, none⟩)) (h.push (.cells (evo f x).cells e))
  | .buildSlice t len parts => match P.underlying t with
    | some (.slice e) => match P.info? e with
      | some i => match i.zero with
        | some z => bif Nat.ble (len * i.size) 1000 then
            (match Instr.fill (fun k => some (k * i.size, i.size)) (fillL len i.size z.cells.toList).toArray (parts.toList.map fun p => (p.1, evo f p.2)) with
            | some cells => K (.slice (some ⟨h.size, 0, none⟩) len len) (h.push (.cells cells e))
            | none => False) else False
        | none => False
      | none => False
    | _ => False
  | .makeSlice t l c => match P.underlying t, evo f l, evo f c with
    | some (.slice e), .int .i64 l, .int .i64 c => match P.info? e with
      | some i => match i.zero with
        | some z => 0 ≤ l ∧ l ≤ c ∧ c ≤ 1000000 ∧ i.bytes ≤ 1000000 ∧ K (.slice (some ⟨h.size, 0, none⟩) l.toNat c.toNat) (h.push (.cells (fillL c.toNat i.size z.cells.toList).toArray e))
        | none => False
      | none => False
    | _, _, _ => False
  | .store t x v => match evo f x with
    | .pointer (some ad) => match P.info? t with
      | some i => bif Nat.beq (evo f v).cells.toList.length i.size then stF (evo f v).cells.toList h ad 0 fun h' => K undef h' else False
      | none => False
    | _ => False
  | .makeMap _ none => K (.map (some h.size)) (h.push (.map #[] 0))
  | .lookup t x ix false => match P.underlying t, evo f x, evo f ix with
    | some (.map kt e), .map m, .int k i => match P.underlying kt, P.info? e with
      | some (.int kk), some ie => match ie.zero with
        | some z => bif kEq kk k then lookW k m i z h fun v => (ctOf P e).dec v fun y => K ((ctOf P e).mk y) h else False
        | none => False
      | _, _ => False
    | _, _, _ => False
  | .mapUpdate t m kx vx | .insert t m kx vx => match P.underlying t, evo f m, evo f kx with
    | some (.map kt _), .map m, .int k i => match P.underlying kt with
      | some (.int kk) => bif kEq kk k then mupW k m i (evo f vx) h fun h' => K undef h' else False
      | _ => False
    | _, _, _ => False
  | .call c => match c.callee with
    | .builtin .append => match c.argTypes.toList, c.args.toList with
      | [t, t2], [s, x] => match P.underlying t, P.underlying t2, evo f s, evo f x with
        | some (.slice e), some (.slice _), .slice p n m, .slice p' n' m' => match P.info? e with
          | some i => match i.zero with
            | some z => appW e i.size i.bytes z ⟨p, n, m⟩ ⟨p', n', m'⟩ h fun s h' => K (.slice s.p s.n s.c) h'
            | none => False
          | none => False
        | _, _, _, _ => False
      | _, _ => False
    | .value fo => match evo f fo with
      | .func (.func g) first captured => match P.funcs[g]? with
        | some fn => match fn.body with
          | some _ =>
             HCalls P g (first.toList ++ c.args.toList.map (evo f) ++ captured.toList) h fun v h' => (shOf P o.type).dec v fun t => K ((shOf P o.type).mk t) h'
          | none => False
        | none => False
      | _ => False
    | _ => False
  | _ => False
/-- is it one of these? -/
def isEff (o : Oper) : Bool :=
  match o.op with
  | .alloc _ | .box _ _ | .buildSlice _ _ _ | .makeSlice _ _ _ | .store _ _ _ | .makeMap _ _ | .lookup _ _ _ _ | .mapUpdate _ _ _ _ | .insert _ _ _ _ => true
  | .call c => match c.callee with
    | .builtin .append | .value _ => true
    | _ => false
  | _ => false

section
variable {P : Program}
def ofH (h : Heap) : World := { (default : World) with heap := h }
theorem cell_setC_ne {h : Heap} {a b : Addr} {v : Value} (hb : a ≠ b) : cell (setC h a v) b = cell h b := World.cell?_setCell_other (ofH h) _ _ _ hb
theorem cell_setC_same {h : Heap} {a : Addr} {v u : Value} (hc : cell h a = some u) : cell (setC h a v) a = some v := World.cell?_setCell_same (ofH h) _ _ hc
theorem frz_setC {h : Heap} {a b : Addr} {v : Value} : frz (setC h a v) b = frz h b := World.frozen?_setCell (ofH h) _ _ _
theorem size_setC {h : Heap} {a : Addr} {v : Value} : (setC h a v).size = h.size := by simp [setC]
theorem oneCell_of {v : Value} (h1 : ∀ c, v ≠ .agg c) (h2 : ∀ c, v ≠ .tuple c) : v.oneCell' = true := by
  cases v <;> first | rfl | exact absurd rfl (h1 _) | exact absurd rfl (h2 _)

theorem run_storeCells_stF : ∀ (vs : List Value) (a : Addr) (i : Nat) (w : World) (K : Heap → Prop), stF vs w.heap a i K →
    ∃ w', (storeCells a vs i).run P w = .ok () w' ∧ K w'.heap ∧ Kp w w' := by
  intro vs
  induction vs with
  | nil => exact fun a i w K H => ⟨w, rfl, H, Kp.refl w⟩
  | cons v vs ih =>
    intro a i w K H
    unfold stF at H
    split at H
    · exact H.elim
    · exact H.elim
    · rename_i n1 n2
      obtain ⟨⟨old, ho⟩, hf, H⟩ := H
      have ho' : w.cell? (a.add i) = some old := ho
      have hf' : w.frozen? (a.add i) = false := hf
      have hs : (store (a.add i) v).run P w = .ok () (w.setCell (a.add i) v) := by
        rw [run_store P w _ v _ (oneCell_of (fun c => n1 c) (fun c => n2 c)), ho']
        simp [hf']
      obtain ⟨w', hw, hK, ht⟩ := ih a (i + 1) (w.setCell (a.add i) v) K H
      refine ⟨w', ?_, hK, ht⟩
      simp only [storeCells, Sem.run_bind, hs, Result.andThen_ok, hw]

theorem stF_of : ∀ (vs : List Value) (h : Heap) (a : Addr) (i : Nat) (K : Heap → Prop), stOk h a i vs → K (setL vs h a i) → stF vs h a i K := by
  intro vs
  induction vs with
  | nil => exact fun h a i K _ H => H
  | cons v vs ih =>
    intro h a i K ok H
    obtain ⟨h1, h2, h3⟩ := ok 0 v rfl
    have ok' : stOk (setC h (a.add i) v) a (i + 1) vs := by
      intro j u hu
      obtain ⟨⟨old, ho⟩, g2, g3⟩ := ok (j + 1) u (by simpa using hu)
      have e : i + (j + 1) = i + 1 + j := by omega
      rw [e] at ho g2
      refine ⟨?_, by rw [frz_setC]; exact g2, g3⟩
      by_cases hb : a.add i = a.add (i + 1 + j)
      · rw [← hb] at ho ⊢; exact ⟨v, cell_setC_same ho⟩
      · exact ⟨old, by rw [cell_setC_ne hb]; exact ho⟩
    unfold stF
    cases v <;> first | (simp [Value.oneCell'] at h3; done) | exact ⟨by simpa using h1, by simpa using h2, ih _ _ _ _ ok' H⟩

theorem append_some {t t2 ty e e' : TypeId} {i : TypeInfo} {z : Value} {p p' : Option Addr} {n m n' m' : Nat} {w : World} {K : Sl → Heap → Prop} {G : Prop}
    (hu : P.underlying t = some (.slice e)) (hu2 : P.underlying t2 = some (.slice e')) (hi : P.info? e = some i) (hz : i.zero = some z)
    (H : appW e i.size i.bytes z ⟨p, n, m⟩ ⟨p', n', m'⟩ w.heap K)
    (key : ∀ (sl : Sl) (w' : World), (Builtin.append_ #[t, t2] ty #[.slice p n m, .slice p' n' m']).run P w = .ok (.slice sl.p sl.n sl.c) w' → Kp w w' → K sl w'.heap → G) : G := by
  obtain ⟨cs, ⟨hcl, hcs⟩, hx0, Hin, Hout⟩ := H
  simp only [] at hcl hcs hx0 Hin Hout
  have hzeros : ((some (TypeDesc.slice e')) matches some (.int _)) = false := rfl
  have hfc : ∀ w' : World, w'.heap = w.heap → (Builtin.firstCells i.size n' (.slice p' n' m')).run P w' = .ok cs.toArray w' := by
    intro w' hw
    cases p' with
    | none =>
      have : cs = [] := List.eq_nil_of_length_eq_zero (by rw [hcl]; exact hx0 rfl)
      subst this
      simp [Builtin.firstCells]
    | some b =>
      refine run_firstCells_some w' i.size n' b n' m' cs hcl (fun j v hv => ?_)
      obtain ⟨a, ha, hc⟩ := hcs j v hv
      simp only [Option.some.injEq] at ha
      subst ha
      rw [← cell_eq, hw]; exact hc
  by_cases hfit : n + n' ≤ m
  · obtain ⟨hp0, hst, hK⟩ := Hin hfit
    cases p with
    | none =>
      have : cs = [] := List.eq_nil_of_length_eq_zero (by rw [hcl]; exact hp0 rfl)
      subst this
      refine key ⟨none, n + n', m⟩ w ?_ (Kp.refl w) hK
      simp [Builtin.append_, run_underlying hu, run_underlying hu2, run_size hi, Builtin.lenOf, hfit, hfc w rfl]
    | some a =>
      obtain ⟨w', hr, hKw, hkp⟩ := run_storeCells_stF (P := P) cs (a.add (n * i.size)) 0 w (K ⟨some a, n + n', m⟩) (stF_of _ _ _ _ _ (hst a rfl) hK)
      refine key ⟨some a, n + n', m⟩ w' ?_ hkp hKw
      simp [Builtin.append_, run_underlying hu, run_underlying hu2, run_size hi, Builtin.lenOf, hfit, hfc w rfl, hr]
  · obtain ⟨old, ⟨hol, hos⟩, ho0, hb, h63, hK⟩ := Hout (by omega)
    have hfo : ∀ w' : World, w'.heap = w.heap → (Builtin.firstCells i.size n (.slice p n m)).run P w' = .ok old.toArray w' := by
      intro w' hw
      cases p with
      | none =>
        have : old = [] := List.eq_nil_of_length_eq_zero (by rw [hol]; exact ho0 rfl)
        subst this
        simp [Builtin.firstCells]
      | some b =>
        refine run_firstCells_some w' i.size n b n m old hol (fun j v hv => ?_)
        obtain ⟨a, ha, hc⟩ := hos j v hv
        simp only [Option.some.injEq] at ha
        subst ha
        rw [← cell_eq, hw]; exact hc
    have h63' : ¬ (9223372036854775807 < ((n : Int) + (n' : Int))) := by omega
    have hns : Builtin.nextslicecap (n + n') m * i.bytes ≤ 281474976710656 := growslice_fits (by omega) hb
    have h48' : ¬ (281474976710656 < Builtin.nextslicecap (n + n') m * i.bytes) := by omega
    have hcap : n + n' ≤ (Question.appendCap (n + n') m e).cut (w.tape w.drawn (.appendCap (n + n') m e)) := Nat.le_add_right _ _
    refine key ⟨some ⟨w.heap.size, 0, none⟩, n + n', (Question.appendCap (n + n') m e).cut (w.tape w.drawn (.appendCap (n + n') m e))⟩ ((w.drew).alloc (.cells ((old ++ cs).toArray ++ Builtin.zeroCells z.cells ((Question.appendCap (n + n') m e).cut (w.tape w.drawn (.appendCap (n + n') m e)) - (n + n'))) e)) ?_ ⟨rfl, rfl⟩ (hK _ hcap)
    have f1 := hfo w.drew rfl
    have f2 := hfc w.drew rfl
    simp [Builtin.append_, run_underlying hu, run_underlying hu2, run_size hi, run_info hi, Builtin.lenOf, hfit, h63', h48', Question.forced, f1, f2, newRow, run_zero hi hz]
    congr 2
    apply Array.ext'
    simp [List.append_assoc]

theorem effW_some {o : Oper} {f : Fr} {w : World} {K : Value → Heap → Prop} {a : Act} (hρ : a.eval = evo f)
    (hname : ∀ (g : Nat) (fn : Func), P.funcs[g]? = some fn → fn.name ≠ "runtime.NumGoroutine")
    {next : Act → World → Prop} {Q : Exit → Act → World → Prop}
    (H : effW P o f w.heap K) (hn : ∀ v w', Kp w w' → K v w'.heap → next (a.put o.dst v) w') : o.wp P a w next Q := by
  unfold Oper.wp
  rw [hρ]
  unfold effW at H
  unfold execOp
  split at H
  · rename_i e ho
    split at H
    · rename_i i hi
      split at H
      · rename_i z hz
        have : (Instr.alloc e true (.tuple #[])).run P w = .ok (.pointer (some ⟨w.heap.size, 0, none⟩)) (w.alloc (.cells z.cells e)) := by
          simp [Instr.alloc, run_zero hi hz, newVar, newRow]
        simp only [ho, Sem.run_bind, this, Result.andThen_ok, Sem.run_pure, Oper.upon]
        exact hn _ _ ⟨rfl, rfl⟩ H
      · exact H.elim
    · exact H.elim
  · rename_i e x ho
    have : (Instr.box e (evo f x)).run P w = .ok (.pointer (some ⟨w.heap.size, 0, none⟩)) (w.alloc (.cells (evo f x).cells e)) := by
      simp [Instr.box, newVar, newRow]
    simp only [ho, Sem.run_bind, this, Result.andThen_ok, Sem.run_pure, Oper.upon]
    exact hn _ _ ⟨rfl, rfl⟩ H
  · rename_i t len parts ho
    split at H
    · rename_i e hu
      split at H
      · rename_i i hi
        split at H
        · rename_i z hz
          cases hb : Nat.ble (len * i.size) 1000 with
          | false => rw [hb] at H; exact H.elim
          | true =>
            simp only [hb, cond_true] at H
            have hle : len * i.size ≤ 1000 := Nat.le_of_ble_eq_true hb
            split at H
            · rename_i cells hc
              have hfl : ∀ z' : Array Value, (len * i.size = 0 ∨ z' = z.cells) → (fillL len i.size z.cells.toList).toArray = (Array.range (len * i.size)).map (fun k => z'[k % z'.size]!) := by
                intro z' hz'
                apply Array.ext'
                simp only [fillL, Array.toList_map, Array.toList_range]
                apply List.map_congr_left
                intro k hk
                rcases hz' with h0 | rfl
                · rw [h0] at hk; simp at hk
                · simp only [Array.length_toList, getElem!_def, List.getD_eq_getElem?_getD, Array.getElem?_toList]
                  cases z.cells[k % z.cells.size]? <;> rfl
              have : (Instr.buildSlice t len (parts.map fun (i, x) => (i, evo f x))).run P w = .ok (.slice (some ⟨w.heap.size, 0, none⟩) len len) (w.alloc (.cells cells e)) := by
                have hlt : ¬ (16777216 < len * i.size) := by omega
                by_cases h0 : len * i.size = 0
                · have e0 := hfl #[] (.inl h0)
                  rw [e0, h0] at hc
                  simp only [Instr.buildSlice, Sem.run_bind, run_underlying hu, Result.andThen_ok, run_size hi, gt_iff_lt, h0, if_true]
                  simp at hc
                  simp [hc, newRow]
                · have e0 := hfl z.cells (.inr rfl)
                  rw [e0] at hc
                  simp [Instr.buildSlice, run_underlying hu, run_size hi, hlt, h0, run_zero hi hz, hc, newRow]
              simp only [ho, Sem.run_bind, this, Result.andThen_ok, Sem.run_pure, Oper.upon]
              exact hn _ _ ⟨rfl, rfl⟩ H
            · exact H.elim
        · exact H.elim
      · exact H.elim
    · exact H.elim
  · rename_i t l c ho
    split at H
    · rename_i e l c hu hl hc
      split at H
      · rename_i i hi
        split at H
        · rename_i z hz
          obtain ⟨h0, h1, h2, h3, hK⟩ := H
          have hfl : ∀ z' : Array Value, (c.toNat * i.size = 0 ∨ z' = z.cells) → (fillL c.toNat i.size z.cells.toList).toArray = (Array.range (c.toNat * i.size)).map (fun k => z'[k % z'.size]!) := by
            intro z' hz'
            apply Array.ext'
            simp only [fillL, Array.toList_map, Array.toList_range]
            apply List.map_congr_left
            intro k hk
            rcases hz' with h0 | rfl
            · rw [h0] at hk; simp at hk
            · simp only [Array.length_toList, getElem!_def, List.getD_eq_getElem?_getD, Array.getElem?_toList]
              cases z.cells[k % z.cells.size]? <;> rfl
          have w1 : IntKind.i64.wrap l = l := by unfold IntKind.wrap; simp [IntKind.bits, IntKind.signed]; omega
          have w2 : IntKind.i64.wrap c = c := by unfold IntKind.wrap; simp [IntKind.bits, IntKind.signed]; omega
          have hb : (i.bytes : Int) * c ≤ 281474976710656 := by
            have : (i.bytes : Int) * c ≤ 1000000 * 1000000 := Int.mul_le_mul (by omega) h2 (by omega) (by omega)
            omega
          have : (Instr.makeSlice t (.int .i64 l) (.int .i64 c)).run P w = .ok (.slice (some ⟨w.heap.size, 0, none⟩) l.toNat c.toNat) (w.alloc (.cells (fillL c.toNat i.size z.cells.toList).toArray e)) := by
            have n1 : ¬ c < 0 := by omega
            have n2 : ¬ l < 0 := by omega
            have n3 : ¬ c < l := by omega
            have n4 : ¬ (281474976710656 < (i.bytes : Int) * c) := by omega
            by_cases hz0 : c.toNat * i.size = 0
            · rw [hfl #[] (.inl hz0)]
              simp [Instr.makeSlice, run_underlying hu, asInt, asIntOf, run_info hi, w1, w2, n1, n2, n3, n4, run_size hi, hz0, newRow]
            · rw [hfl z.cells (.inr rfl)]
              simp [Instr.makeSlice, run_underlying hu, asInt, asIntOf, run_info hi, w1, w2, n1, n2, n3, n4, run_size hi, hz0, run_zero hi hz, newRow]
          simp only [ho, hl, hc, Sem.run_bind, this, Result.andThen_ok, Sem.run_pure, Oper.upon]
          exact hn _ _ ⟨rfl, rfl⟩ hK
        · exact H.elim
      · exact H.elim
    · exact H.elim
  · rename_i t x v ho
    split at H
    · rename_i ad hx
      split at H
      · rename_i i hi
        cases hb : Nat.beq (evo f v).cells.toList.length i.size with
        | false => rw [hb] at H; exact H.elim
        | true =>
          simp only [hb, cond_true] at H
          have hsz := Nat.eq_of_beq_eq_true hb
          obtain ⟨w', hr, hK, hkp⟩ := run_storeCells_stF (P := P) _ _ _ _ _ H
          have : (Instr.storeAt t (evo f x) (evo f v)).run P w = .ok () w' := by
            have hsz' : (evo f v).cells.size = i.size := by simpa using hsz
            simp [Instr.storeAt, hx, Instr.sureAddr, storeVar, run_size hi, hsz', hr]
          simp only [ho, Sem.run_bind, this, Result.andThen_ok, Sem.run_pure, Oper.upon]
          exact hn _ _ hkp hK
      · exact H.elim
    · exact H.elim
  · rename_i t ho
    have : (Instr.makeMap t none).run P w = .ok (.map (some w.heap.size)) (w.alloc (.map #[] 0)) := by
      simp [Instr.makeMap]
    simp only [ho, Option.map_none, Sem.run_bind, this, Result.andThen_ok, Sem.run_pure, Oper.upon]
    exact hn _ _ ⟨rfl, rfl⟩ H
  · rename_i t x ix ho
    split at H
    · rename_i kt e m k i hu hx hix
      split at H
      · rename_i kk ie hk hi
        split at H
        · rename_i z hz
          cases hkk : kEq kk k with
          | false => rw [hkk] at H; exact H.elim
          | true =>
            have := kEq_eq hkk; subst this
            rw [hkk, cond_true] at H
            obtain ⟨r, es, clk, q, rfl, hb, hq, H⟩ := H
            obtain ⟨y, hy, hK⟩ := CT.dec_mk H
            have hkey : MapKept.IsKey (.int kk) (.int kk i) := rfl
            have : (Instr.lookup t (evo f x) (evo f ix) false).run P w = .ok ((ctOf P e).mk y) w := by
              rw [hx, hix, ← hy]
              cases q <;> simp [Instr.lookup, run_underlying hu, MapKept.run_getObj_map hb, MapKept.run_checkKey hk hkey, MapKept.run_findKey hk hq, run_zero hi hz, Result.andThen]
            simp only [ho, Sem.run_bind, this, Result.andThen_ok, Sem.run_pure, Oper.upon]
            exact hn _ _ ⟨rfl, rfl⟩ hK
        · exact H.elim
      · exact H.elim
    · exact H.elim
  · rename_i t m kx vx ho
    split at H
    · rename_i kt et mm k i hu hm hkx
      split at H
      · rename_i kk hk
        cases hkk : kEq kk k with
        | false => rw [hkk] at H; exact H.elim
        | true =>
          have := kEq_eq hkk; subst this
          rw [hkk, cond_true] at H
          obtain ⟨r, es, clk, q, rfl, hb, hq, hq2, H⟩ := H
          have hkey : MapKept.IsKey (.int kk) (.int kk i) := rfl
          cases q with
          | none =>
            have : (Instr.mapUpdate t (evo f m) (evo f kx) (evo f vx)).run P w = .ok () { w with heap := w.heap.setIfInBounds r (.map (es.push { key := .int kk i, val := evo f vx, born := clk }) (clk + 1)) } := by
              rw [hm, hkx]
              simp [Instr.mapUpdate, run_underlying hu, MapKept.run_getObj_map hb, MapKept.run_checkKey hk hkey, MapKept.run_findKey hk hq, MapKept.run_setObj_map _ hb, Result.andThen]
            simp only [ho, Sem.run_bind, this, Result.andThen_ok, Sem.run_pure, Oper.upon]
            exact hn _ _ ⟨rfl, rfl⟩ H
          | some x =>
            obtain ⟨j, u⟩ := x
            have hj := hq2 _ rfl
            simp only at hj
            have : (Instr.mapUpdate t (evo f m) (evo f kx) (evo f vx)).run P w = .ok () { w with heap := w.heap.setIfInBounds r (.map (es.modify j fun e => { e with key := .int kk i, val := evo f vx }) clk) } := by
              rw [hm, hkx]
              simp [Instr.mapUpdate, run_underlying hu, MapKept.run_getObj_map hb, MapKept.run_checkKey hk hkey, MapKept.run_findKey hk hq, hj, MapKept.run_keyThatStays hkey, MapKept.run_setObj_map _ hb, Result.andThen]
            simp only [ho, Sem.run_bind, this, Result.andThen_ok, Sem.run_pure, Oper.upon]
            exact hn _ _ ⟨rfl, rfl⟩ H
      · exact H.elim
    · exact H.elim
  · rename_i t m kx vx ho
    split at H
    · rename_i kt et mm k i hu hm hkx
      split at H
      · rename_i kk hk
        cases hkk : kEq kk k with
        | false => rw [hkk] at H; exact H.elim
        | true =>
          have := kEq_eq hkk; subst this
          rw [hkk, cond_true] at H
          obtain ⟨r, es, clk, q, rfl, hb, hq, hq2, H⟩ := H
          have hkey : MapKept.IsKey (.int kk) (.int kk i) := rfl
          cases q with
          | none =>
            have : (Instr.mapUpdate t (evo f m) (evo f kx) (evo f vx)).run P w = .ok () { w with heap := w.heap.setIfInBounds r (.map (es.push { key := .int kk i, val := evo f vx, born := clk }) (clk + 1)) } := by
              rw [hm, hkx]
              simp [Instr.mapUpdate, run_underlying hu, MapKept.run_getObj_map hb, MapKept.run_checkKey hk hkey, MapKept.run_findKey hk hq, MapKept.run_setObj_map _ hb, Result.andThen]
            simp only [ho, Sem.run_bind, this, Result.andThen_ok, Sem.run_pure, Oper.upon]
            exact hn _ _ ⟨rfl, rfl⟩ H
          | some x =>
            obtain ⟨j, u⟩ := x
            have hj := hq2 _ rfl
            simp only at hj
            have : (Instr.mapUpdate t (evo f m) (evo f kx) (evo f vx)).run P w = .ok () { w with heap := w.heap.setIfInBounds r (.map (es.modify j fun e => { e with key := .int kk i, val := evo f vx }) clk) } := by
              rw [hm, hkx]
              simp [Instr.mapUpdate, run_underlying hu, MapKept.run_getObj_map hb, MapKept.run_checkKey hk hkey, MapKept.run_findKey hk hq, hj, MapKept.run_keyThatStays hkey, MapKept.run_setObj_map _ hb, Result.andThen]
            simp only [ho, Sem.run_bind, this, Result.andThen_ok, Sem.run_pure, Oper.upon]
            exact hn _ _ ⟨rfl, rfl⟩ H
      · exact H.elim
    · exact H.elim
  · rename_i c ho
    obtain ⟨callee, args, argTypes⟩ := c
    simp only [] at H
    split at H
    · split at H
      · rename_i t t2 s x ht hx
        have e1 : argTypes = #[t, t2] := by rw [← Array.toArray_toList (xs := argTypes), ht]
        have e2 : args = #[s, x] := by rw [← Array.toArray_toList (xs := args), hx]
        subst e1 e2
        split at H
        · rename_i e e' p n m p' n' m' hu hu2 hs hx
          split at H
          · rename_i i hi
            split at H
            · rename_i z hz
              have key : ∀ (sl : Sl) (w' : World), (Builtin.append_ #[t, t2] o.type #[.slice p n m, .slice p' n' m']).run P w = .ok (.slice sl.p sl.n sl.c) w' → Kp w w' → K (.slice sl.p sl.n sl.c) w'.heap →
                  Oper.upon P o a next Q (Sem.run P (do
                    let d ← resolve (evo f) { callee := .builtin .append, args := #[s, x], argTypes := #[t, t2] } o.type
                    invoke d.target d.args) w) := by
                intro sl w' hr hkp hk
                simp only [resolve, Sem.run_bind, Sem.run_pure, Result.andThen_ok, invoke, builtin, List.map_toArray, List.map_cons, List.map_nil, hs, hx, hr, Oper.upon]
                exact hn _ _ hkp hk
              simp only [ho]
              exact append_some hu hu2 hi hz H key
            · exact H.elim
          · exact H.elim
        · exact H.elim
      · exact H.elim
    · rename_i fo
      split at H
      · rename_i g first captured hf
        split at H
        · rename_i fn hfn
          split at H
          · rename_i body hbody
            have hb : fn.body.isNone = false := by simp [hbody]
            have hnm : (fn.name == "runtime.NumGoroutine") = false := by simpa using hname g fn hfn
            have hrun : Sem.run P (do
                    let d ← resolve (evo f) { callee := .value fo, args, argTypes } o.type
                    invoke d.target d.args) w = .ok (.enter g (first.toList ++ args.toList.map (evo f) ++ captured.toList).toArray) w := by
              simp only [resolve, hf, Deferred.ofValue, Sem.run_bind, Sem.run_pure, Result.andThen_ok, invoke, callFunc, run_program, hfn, hnm, hb, Bool.false_eq_true, if_false]
              congr 2
              apply Array.ext'
              simp
            simp only [ho, hrun, Oper.upon]
            refine (H w rfl).mono ?_
            rintro e' w' ⟨v, rfl, hv, hkp⟩
            obtain ⟨y, rfl, hK⟩ := Sh.dec_mk hv
            exact hn _ _ hkp hK
          · exact H.elim
        · exact H.elim
      · exact H.elim
    · exact H.elim
  · exact H.elim
end

/-! frames -/
structure Rel (n : Nat) (a : Act) (f : Fr) : Prop where
  at' : ∀ i, a.tmps.getD i undef = f i
  size : a.tmps.size = n
  defers : a.defers = []

/-- the frame, and what no heap tells of -/
def RelK (w0 : World) (n : Nat) (a : Act) (w : World) (f : Fr) : Prop := Rel n a f ∧ Kp w0 w
theorem Rel.eval {n : Nat} {a : Act} {f : Fr} (h : Rel n a f) : a.eval = evo f := by
  funext x
  cases x with
  | tmp t => exact h.at' t
  | _ => rfl

theorem Rel.put {n : Nat} {a : Act} {f : Fr} (h : Rel n a f) (dst : Option Tmp) (v : Value) : Rel n (a.put dst v) (put n f dst v) := by
  cases dst with
  | none => exact h
  | some d =>
    refine ⟨fun i => ?_, by simp [Act.put, h.size], h.defers⟩
    simp only [Act.put, Ev.put, upd]
    have h0 := h.at' i
    by_cases e : i = d
    · subst e
      have hb : Nat.beq i i = true := Nat.beq_refl i
      rw [hb, cond_true]
      by_cases hlt : i < n
      · have hbl : Nat.blt i n = true := by simpa [Nat.blt_eq] using hlt
        rw [hbl, cond_true]
        have : i < a.tmps.size := by rw [h.size]; exact hlt
        simp [this]
      · have hbl : Nat.blt i n = false := by
          cases hb' : Nat.blt i n with
          | false => rfl
          | true => exact absurd (by simpa [Nat.blt_eq] using hb') hlt
        rw [hbl, cond_false, ← h0]
        have : ¬ i < a.tmps.size := by rw [h.size]; exact hlt
        simp [this]
    · have hb : Nat.beq i d = false := by
        cases hb' : Nat.beq i d with
        | false => rfl
        | true => exact absurd (Nat.eq_of_beq_eq_true hb') e
      rw [hb, cond_false, ← h0]
      simp [Array.getElem?_setIfInBounds_ne (Ne.symm e)]

theorem put_other {n : Nat} {f : Fr} {dst : Option Tmp} {v : Value} {i : Nat} (h : dst ≠ some i) : put n f dst v i = f i := by
  cases dst with
  | none => rfl
  | some d =>
    have e : i ≠ d := fun e => h (by rw [e])
    have hb : Nat.beq i d = false := by
      cases hb' : Nat.beq i d with
      | false => rfl
      | true => exact absurd (Nat.eq_of_beq_eq_true hb') e
    simp [put, upd, hb]

theorem upd_same {n : Nat} {f : Fr} {d : Nat} {v : Value} (h : f d = v) : upd n f d v = f := by
  funext i
  simp only [upd]
  cases hb : Nat.beq i d with
  | false => rfl
  | true =>
    have := Nat.eq_of_beq_eq_true hb
    subst this
    cases Nat.blt i n <;> simp [h]

theorem RelK.put {w0 w w' : World} {n : Nat} {a : Act} {f : Fr} (h : RelK w0 n a w f) (dst : Option Tmp) (v : Value) (hk : Kp w w') : RelK w0 n (a.put dst v) w' (Ev.put n f dst v) := ⟨h.1.put dst v, h.2.trans hk⟩
/-! regions -/
def holdsC : Facts → Heap → Prop → Prop
  | [], _, K => K
  | x :: fi, h, K => cell h x.1 = some x.2 ∧ holdsC fi h K
def aftHas (o : Oper) (k : Nat) : Bool := o.after.toList.any fun e => Region.binds .any e && Nat.beq e.on k
/-- does it wait for k, at once or through others (looked for so deep)? -/
def aftT (ops : List Oper) : Nat → Oper → Nat → Bool
  | 0, o, k => aftHas o k
  | n + 1, o, k => aftHas o k || o.after.toList.any fun e => Region.binds .any e && (match ops[e.on]? with | some o' => aftT ops n o' k | none => false)
/-- which reads need not be looked at again behind o: any choice among those that o waits for is sound; so that older texts stay as they are, only regions of one size look deep -/
def aftP (ops : List Oper) (o : Oper) (k : Nat) : Bool := bif Nat.beq ops.length 21 then aftT ops 4 o k else aftHas o k
def persC (p : Nat → Bool) : List (Nat × Facts) → Heap → Prop → Prop
  | [], _, K => K
  | x :: rs, h, K => bif p x.1 then persC p rs h K else holdsC x.2 h (persC p rs h K)

/-- an operation's guard: the slot is set to what it is found to be -/
def grd (n : Nat) (dstOf : Nat → Option Tmp) (o : Oper) (f : Fr) (yes no : Fr → Prop) : Prop :=
  match o.guard with
  | none => yes f
  | some (g, want) => match dstOf g with
    | some t => match f t with
      | .bool b => if b = true then (match want with | true => yes (upd n f t (.bool true)) | false => no (upd n f t (.bool true)))
          else (match want with | true => no (upd n f t (.bool false)) | false => yes (upd n f t (.bool false)))
      | .tuple _ => no f
      | _ => False
    | none => False

def seqW (P : Program) (n : Nat) (dstOf : Nat → Option Tmp) : List Oper → Fr → Heap → (Fr → Heap → Prop) → Prop
  | [], f, h, K => K f h
  | o :: os, f, h, K => grd n dstOf o f
      (fun f => bif isEff o then effW P o f h fun v h' => seqW P n dstOf os (put n f o.dst v) h' K
        else valW P o f h fun v _ => seqW P n dstOf os (put n f o.dst v) h K)
      (fun f => seqW P n dstOf os (put n f o.dst undef) h K)

def aftB (D : Nat) (o : Oper) : Bool := o.after.toList.all fun e => !Region.binds .any e || D.testBit e.on
/-- the first operation that may come up now and only computes or reads -/
def nextOf (D : Nat) : List Oper → Nat → Option Nat
  | [], _ => none
  | o :: os, j => bif !D.testBit j && (!isEff o && aftB D o) then some j else nextOf D os (j + 1)
/-- all others that may come up now -/
def effsOf (D : Nat) : List Oper → Nat → List Nat
  | [], _ => []
  | o :: os, j => bif !D.testBit j && (isEff o && aftB D o) then j :: effsOf D os (j + 1) else effsOf D os (j + 1)
def allDone (D : Nat) : Nat → Bool
  | 0 => true
  | n + 1 => D.testBit n && allDone D n
def andL : List Prop → Prop
  | [] => True
  | [p] => p
  | p :: ps => p ∧ andL ps
def drawW (P : Program) (n : Nat) (ops : List Oper) (dstOf : Nat → Option Tmp) : Nat → Nat → List (Nat × Facts) → Fr → Heap → (Fr → Heap → Prop) → Prop
  | 0, D, _, f, h, K => bif allDone D ops.length then K f h else False
  | fuel + 1, D, rs, f, h, K => match nextOf D ops 0 with
    | some i => match ops[i]? with
      | none => False
      | some o => grd n dstOf o f
        (fun f => valW P o f h fun v fi => drawW P n ops dstOf fuel (D ||| (1 <<< i)) ((i, fi) :: rs) (put n f o.dst v) h K)
        (fun f => drawW P n ops dstOf fuel (D ||| (1 <<< i)) ((i, []) :: rs) (put n f o.dst undef) h K)
    | none => match effsOf D ops 0 with
      | [] => bif allDone D ops.length then K f h else False
      | x :: l => andL ((x :: l).map fun i => match ops[i]? with
        | none => False
        | some o => grd n dstOf o f
          (fun f => effW P o f h fun v h' => persC (aftP ops o) rs h' (drawW P n ops dstOf fuel (D ||| (1 <<< i)) rs (put n f o.dst v) h' K))
          (fun f => drawW P n ops dstOf fuel (D ||| (1 <<< i)) rs (put n f o.dst undef) h K))
/-- any two operations are apart, or one waits for the other -/
def okPair (ops : Array Oper) : Bool :=
  ops.toList.zipIdx.all fun x => ops.toList.zipIdx.all fun y => Nat.beq x.2 y.2 || aftHas x.1 y.2 || aftHas y.1 x.2 || x.1.apart ops y.1
def dstIn (ops : List Oper) (g : Nat) : Option Tmp := (ops[g]?).bind (·.dst)
def regW (P : Program) (n : Nat) (ops : Array Oper) (draw : Bool) (f : Fr) (h : Heap) (K : Fr → Heap → Prop) : Prop :=
  bif draw then
    (bif okPair ops && Region.noSelect ops then drawW P n ops.toList (dstIn ops.toList) ops.toList.length 0 [] f h K else False)
  else seqW P n (dstIn ops.toList) ops.toList f h K

section
variable {P : Program}
theorem grd_some {n : Nat} {ops : Array Oper} {dstOf : Nat → Option Tmp} {o : Oper} {f : Fr} {yes no : Fr → Prop} {a : Act} (H : grd n dstOf o f yes no)
    (hd : ∀ g, dstOf g = (ops[g]?).bind (·.dst)) (hr : Rel n a f) :
    (Region.wanted o (yielded ops a.tmps) = true ∧ yes f) ∨ (Region.wanted o (yielded ops a.tmps) = false ∧ no f) := by
  unfold grd at H
  unfold Region.wanted
  cases hg : o.guard with
  | none => rw [hg] at H; exact .inl ⟨rfl, H⟩
  | some gw =>
    obtain ⟨g, want⟩ := gw
    rw [hg] at H
    simp only [] at H ⊢
    cases ht : dstOf g with
    | none => rw [ht] at H; exact H.elim
    | some t =>
      rw [ht] at H
      simp only [] at H
      have hdt : (ops[g]?).bind (·.dst) = some t := by rw [← hd g, ht]
      have hft : f t = (a.tmps[t]?).getD undef := by rw [← hr.at' t]; simp
      split at H
      · rename_i b hb
        have hy : yielded ops a.tmps g = some b := by
          unfold yielded
          rw [hdt, Option.bind_some]
          rw [hb] at hft
          cases hx : a.tmps[t]? with
          | none => rw [hx] at hft; cases hft
          | some x => rw [hx] at hft; simp at hft; rw [← hft]
        rw [hy]
        split at H
        · rename_i hbt
          have hu : upd n f t (.bool true) = f := upd_same (by rw [hb, hbt])
          rw [hu] at H
          subst hbt
          cases want
          · exact .inr ⟨rfl, H⟩
          · exact .inl ⟨rfl, H⟩
        · rename_i hbt
          have hbf : b = false := by simpa using hbt
          have hu : upd n f t (.bool false) = f := upd_same (by rw [hb, hbf])
          rw [hu] at H
          subst hbf
          cases want
          · exact .inl ⟨rfl, H⟩
          · exact .inr ⟨rfl, H⟩
      · rename_i vs hb
        have hy : yielded ops a.tmps g = none := by
          unfold yielded
          rw [hdt, Option.bind_some]
          rw [hb] at hft
          cases hx : a.tmps[t]? with
          | none => rfl
          | some x => rw [hx] at hft; simp at hft; rw [← hft]
        rw [hy]
        exact .inr ⟨rfl, H⟩
      · exact H.elim

/-- one operation of a region that goes in the text's order, or of one that draws, when its turn has come -/
theorem wpOp_eff {ops : Array Oper} {Q : Exit → Act → World → Prop} {i n : Nat} {o : Oper} {f : Fr} {a : Act} {w : World} {K : Value → Heap → Prop} {next : Act → World → Prop}
    (hi : ops[i]? = some o) (hr : Rel n a f) (hname : ∀ (g : Nat) (fn : Func), P.funcs[g]? = some fn → fn.name ≠ "runtime.NumGoroutine")
    (hw : Region.wanted o (yielded ops a.tmps) = true) (H : effW P o f w.heap K) (hn : ∀ v w', Kp w w' → K v w'.heap → next (a.put o.dst v) w') : wpOp P ops Q i next a w := by
  unfold wpOp
  simp only [hi, hw, if_true]
  exact .inl (effW_some hr.eval hname H hn)
theorem wpOp_val {ops : Array Oper} {Q : Exit → Act → World → Prop} {i n : Nat} {o : Oper} {f : Fr} {a : Act} {w : World} {K : Value → Facts → Prop} {next : Act → World → Prop}
    (hi : ops[i]? = some o) (hr : Rel n a f)
    (hw : Region.wanted o (yielded ops a.tmps) = true) (H : valW P o f w.heap K) (hn : ∀ v fi, K v fi → next (a.put o.dst v) w) : wpOp P ops Q i next a w := by
  unfold wpOp
  simp only [hi, hw, if_true]
  obtain ⟨v, fi, hK, hF, hrun⟩ := valW_some hr.eval H
  refine .inl ?_
  unfold Oper.wp
  rw [hrun w hF]
  exact hn v fi hK
theorem wpOp_not {ops : Array Oper} {Q : Exit → Act → World → Prop} {i : Nat} {o : Oper} {a : Act} {w : World} {next : Act → World → Prop}
    (hi : ops[i]? = some o) (hw : Region.wanted o (yielded ops a.tmps) = false) (hn : next (a.put o.dst undef) w) : wpOp P ops Q i next a w := by
  unfold wpOp
  simp only [hi, hw, Bool.false_eq_true, if_false]
  exact hn

theorem seqW_some {n : Nat} {ops : Array Oper} {dstOf : Nat → Option Tmp} (hd : ∀ g, dstOf g = (ops[g]?).bind (·.dst))
    (hname : ∀ (g : Nat) (fn : Func), P.funcs[g]? = some fn → fn.name ≠ "runtime.NumGoroutine") {Q : Exit → Act → World → Prop} {K : Fr → Heap → Prop} {W : List Nat} {f0 : Fr} {w0 : World}
    (hQ : ∀ f a w, RelK w0 n a w f → K f w.heap → (∀ i, i ∉ W → f i = f0 i) → Q .normal a w) :
    ∀ (os : List Oper) (k : Nat), (∀ j, os[j]? = ops[k + j]?) → (∀ o ∈ os, ∀ d, o.dst = some d → d ∈ W) → ∀ f a w, RelK w0 n a w f → (∀ i, i ∉ W → f i = f0 i) → seqW P n dstOf os f w.heap K →
      wpOps P ops Q (List.range' k os.length) a w := by
  intro os
  induction os with
  | nil => intro k _ _ f a w hr hf H; exact hQ f a w hr H hf
  | cons o os ih =>
    intro k hk hW f a w hr hf H
    have ho : ops[k]? = some o := by have := hk 0; simpa using this.symm
    have hk' : ∀ j, os[j]? = ops[k + 1 + j]? := fun j => by have := hk (j + 1); rw [show k + 1 + j = k + (j + 1) by omega, ← this]; rfl
    have hW' : ∀ o ∈ os, ∀ d, o.dst = some d → d ∈ W := fun o h => hW o (List.mem_cons_of_mem _ h)
    have hput : ∀ v i, i ∉ W → put n f o.dst v i = f0 i := fun v i hi => by
      rw [put_other (fun e => hi (hW o (List.mem_cons_self ..) i e))]; exact hf i hi
    rw [List.length_cons, List.range'_succ, wpOps_cons]
    simp only [seqW] at H
    rcases grd_some H hd hr.1 with ⟨hw, H⟩ | ⟨hw, H⟩
    · cases he : isEff o with
      | true =>
        simp only [he, cond_true] at H
        exact wpOp_eff ho hr.1 hname hw H fun v w' hkp hK => ih (k + 1) hk' hW' _ _ _ (hr.put _ _ hkp) (hput v) hK
      | false =>
        simp only [he, cond_false] at H
        exact wpOp_val ho hr.1 hw H fun v fi hK => ih (k + 1) hk' hW' _ _ _ (hr.put _ _ (Kp.refl _)) (hput v) hK
    · exact wpOp_not ho hw (ih (k + 1) hk' hW' _ _ _ (hr.put _ _ (Kp.refl _)) (hput undef) H)
end

section
variable {P : Program} {ops : Array Oper} {Q : Exit → Act → World → Prop}
def AftE (o : Oper) (j : Nat) : Prop := ∃ e ∈ o.after, Region.binds .any e = true ∧ e.on = j
theorem aftHas_iff {o : Oper} {j : Nat} : aftHas o j = true ↔ AftE o j := by
  unfold aftHas AftE
  simp only [List.any_eq_true, Bool.and_eq_true, Array.mem_toList_iff]
  constructor
  · rintro ⟨e, he, hb, hj⟩; exact ⟨e, he, hb, Nat.eq_of_beq_eq_true hj⟩
  · rintro ⟨e, he, hb, rfl⟩; exact ⟨e, he, hb, Nat.beq_refl _⟩
inductive AftT (ops : Array Oper) : Oper → Nat → Prop
  | here {o : Oper} {j : Nat} (h : AftE o j) : AftT ops o j
  | more {o o' : Oper} {d j : Nat} (h : AftE o d) (ho : ops[d]? = some o') (h' : AftT ops o' j) : AftT ops o j
theorem aftT_spec {ops : Array Oper} : ∀ (n : Nat) (o : Oper) (k : Nat), aftT ops.toList n o k = true → AftT ops o k := by
  intro n
  induction n with
  | zero => intro o k h; exact .here (aftHas_iff.1 h)
  | succ n ih =>
    intro o k h
    unfold aftT at h
    rw [Bool.or_eq_true] at h
    rcases h with h | h
    · exact .here (aftHas_iff.1 h)
    · rw [List.any_eq_true] at h
      obtain ⟨e, he, h⟩ := h
      rw [Bool.and_eq_true] at h
      obtain ⟨hb, h⟩ := h
      cases ho : ops.toList[e.on]? with
      | none => rw [ho] at h; cases h
      | some o' =>
        rw [ho] at h
        exact .more ⟨e, by simpa using he, hb, rfl⟩ (by simpa using ho) (ih o' k h)
theorem aftP_spec {ops : Array Oper} {o : Oper} {k : Nat} (h : aftP ops.toList o k = true) : AftT ops o k := by
  unfold aftP at h
  cases hn : Nat.beq ops.toList.length 21 with
  | true => rw [hn, cond_true] at h; exact aftT_spec _ _ _ h
  | false => rw [hn, cond_false] at h; exact .here (aftHas_iff.1 h)
/-- what is done has that behind which it comes ahead of it -/
def Cl (ops : Array Oper) (listed : Array Bool) : Prop := ∀ k ok, ops[k]? = some ok → listed.getD k false = true → ∀ e ∈ ok.after, Region.binds .any e = true → listed.getD e.on false = true
theorem Cl.deep {ops : Array Oper} {listed : Array Bool} (hc : Cl ops listed) {o : Oper} {i : Nat} (h : AftT ops o i) : (∀ e ∈ o.after, Region.binds .any e = true → listed.getD e.on false = true) → listed.getD i false = true := by
  induction h with
  | here h => intro ha; obtain ⟨e, he, hb, rfl⟩ := h; exact ha e he hb
  | more h ho h' ih =>
    intro ha
    obtain ⟨e, he, hb, rfl⟩ := h
    exact ih (hc _ _ ho (ha e he hb))
theorem getD_mono {listed : Array Bool} {j k : Nat} (h : listed.getD k false = true) : (listed.setIfInBounds j true).getD k false = true := by
  by_cases e : j = k
  · subst e
    by_cases hj : j < listed.size
    · simp [hj]
    · simp [hj] at h
  · rw [getD_set_ne false e]; exact h
theorem Cl.set {ops : Array Oper} {listed : Array Bool} (hc : Cl ops listed) {j : Nat} (hr : j ∈ Region.ready .any ops listed) : Cl ops (listed.setIfInBounds j true) := by
  intro k ok hk hl e he hb
  by_cases hjk : j = k
  · subst hjk
    obtain ⟨_, o, ho, hall⟩ := mem_ready.1 hr
    rw [ho] at hk; simp at hk; subst hk
    exact getD_mono (hall e he hb)
  · rw [getD_set_ne false hjk] at hl
    exact getD_mono (hc k ok hk hl e he hb)
def PersR (ops : Array Oper) (rs : List (Nat × Facts)) (o : Oper) (w : World) : Prop := ∀ x ∈ rs, ¬ AftT ops o x.1 → HoldsF x.2 w.heap
theorem holdsC_iff {fi : Facts} {h : Heap} {K : Prop} (H : holdsC fi h K) : HoldsF fi h ∧ K := by
  induction fi with
  | nil => exact ⟨by simp [HoldsF], H⟩
  | cons x fi ih =>
    obtain ⟨h1, h2⟩ := H
    obtain ⟨h3, h4⟩ := ih h2
    refine ⟨fun y hy => ?_, h4⟩
    cases hy with
    | head => exact h1
    | tail _ hy => exact h3 y hy
theorem persC_iff {ops : Array Oper} {o : Oper} {rs : List (Nat × Facts)} {w : World} {K : Prop} (H : persC (aftP ops.toList o) rs w.heap K) : PersR ops rs o w ∧ K := by
  induction rs with
  | nil => exact ⟨by simp [PersR], H⟩
  | cons x rs ih =>
    unfold persC at H
    cases hx : aftP ops.toList o x.1 with
    | true =>
      rw [hx, cond_true] at H
      obtain ⟨h1, h2⟩ := ih H
      refine ⟨fun y hy hn => ?_, h2⟩
      cases hy with
      | head => exact absurd (aftP_spec hx) hn
      | tail _ hy => exact h1 y hy hn
    | false =>
      rw [hx, cond_false] at H
      obtain ⟨h0, H⟩ := holdsC_iff H
      obtain ⟨h1, h2⟩ := ih H
      refine ⟨fun y hy hn => ?_, h2⟩
      cases hy with
      | head => exact h0
      | tail _ hy => exact h1 y hy hn

def wpAnyR (P : Program) (ops : Array Oper) (Q : Exit → Act → World → Prop) (rs : List (Nat × Facts)) : Nat → Array Bool → Act → World → Prop
  | 0, listed, a, w => Region.ready .any ops listed = [] ∧ Q .normal a w
  | fuel + 1, listed, a, w =>
    (Region.ready .any ops listed = [] → Q .normal a w) ∧
    ∀ i ∈ Region.ready .any ops listed, wpOp P ops Q i (fun a' w' => (w'.heap = w.heap ∨ ∀ o, ops[i]? = some o → PersR ops rs o w') ∧ wpAnyR P ops Q rs fuel (listed.setIfInBounds i true) a' w') a w

theorem wpAny_of_R {rs : List (Nat × Facts)} : ∀ (fuel : Nat) (listed : Array Bool) (a : Act) (w : World), wpAnyR P ops Q rs fuel listed a w → wpAny P .any ops Q fuel listed a w
  | 0, _, _, _, h => h
  | fuel + 1, _, _, _, h => ⟨h.1, fun i hi => wpOp_mono (fun a' w' h' => wpAny_of_R fuel _ a' w' h'.2) (h.2 i hi)⟩

theorem PersR.tail {ops : Array Oper} {x : Nat × Facts} {rs : List (Nat × Facts)} {o : Oper} {w : World} (h : PersR ops (x :: rs) o w) : PersR ops rs o w := fun y hy => h y (List.mem_cons_of_mem _ hy)
theorem wpAnyR_tail {x : Nat × Facts} {rs : List (Nat × Facts)} : ∀ (fuel : Nat) (listed : Array Bool) (a : Act) (w : World), wpAnyR P ops Q (x :: rs) fuel listed a w → wpAnyR P ops Q rs fuel listed a w
  | 0, _, _, _, h => h
  | fuel + 1, _, _, _, h => ⟨h.1, fun i hi => wpOp_mono (fun a' w' h' => ⟨h'.1.imp id (fun g o ho => (g o ho).tail), wpAnyR_tail fuel _ a' w' h'.2⟩) (h.2 i hi)⟩

theorem wpAnyR_first {i : Nat} {oi : Oper} {v : Value} {fi : Facts} (hi : ops[i]? = some oi) (hsel : ∀ (j : Nat) (o : Oper) cs b, ops[j]? = some o → o.op ≠ .select cs b)
    (hQ : ∀ c a w, Q (.panic c) (a.put oi.dst v) w → Q (.panic c) a w) {rs : List (Nat × Facts)} :
    ∀ (fuel : Nat) (listed : Array Bool) (a : Act) (w : World),
      (∀ j oj, ops[j]? = some oj → j ≠ i → listed.getD j true = false → ¬ AftE oj i → oi.apart ops oj = true) →
      Cl ops listed → i ∈ Region.ready .any ops listed → YieldsIf P ops (fun w => HoldsF fi w.heap) oi v a → HoldsF fi w.heap →
      wpAnyR P ops Q ((i, fi) :: rs) fuel (listed.setIfInBounds i true) (a.put oi.dst v) w → wpAnyR P ops Q rs (fuel + 1) listed a w := by
  intro fuel
  induction fuel with
  | zero =>
    intro listed a w _ _ hr hy hS H
    refine ⟨fun h => (by rw [h] at hr; cases hr), fun j hj => ?_⟩
    by_cases hji : j = i
    · subst hji; exact hy.wpOp hi hS ⟨.inl rfl, wpAnyR_tail _ _ _ _ H⟩
    · have := ready_mono hj hji
      rw [H.1] at this
      cases this
  | succ fuel ih =>
    intro listed a w hfree hcl hr hy hS H
    refine ⟨fun h => (by rw [h] at hr; cases hr), fun j hj => ?_⟩
    by_cases hji : j = i
    · subst hji; exact hy.wpOp hi hS ⟨.inl rfl, wpAnyR_tail _ _ _ _ H⟩
    · have h1 := H.2 j (ready_mono hj hji)
      obtain ⟨hjun, oj, hoj, hall⟩ := mem_ready.1 hj
      have hnotT : ¬ AftT ops oj i := by
        intro hA
        have h1 := hcl.deep hA hall
        have h0 := (mem_ready.1 hr).1
        rcases Nat.lt_or_ge i listed.size with h' | h'
        · simp [h'] at h0 h1; rw [h0] at h1; cases h1
        · simp [Array.getElem?_eq_none h'] at h1
      have hnot : ¬ AftE oj i := fun hA => hnotT (.here hA)
      have h2 := wpOp_putIf hoj (hfree j oj hoj hji hjun hnot) (fun cs b => hsel i oi cs b hi) (fun cs b => hsel j oj cs b hoj) hQ hy h1
      have hfree' : ∀ k ok, ops[k]? = some ok → k ≠ i → (listed.setIfInBounds j true).getD k true = false → ¬ AftE ok i → oi.apart ops ok = true := fun k ok hk hki hun hno => by
        refine hfree k ok hk hki ?_ hno
        by_cases hjk : j = k
        · subst hjk; exact hjun
        · rw [getD_set_ne true hjk] at hun; exact hun
      refine wpOp_mono (fun a' w' h3 => ?_) h2
      obtain ⟨hy', hp, h4⟩ := h3
      have hS' : HoldsF fi w'.heap := by
        rcases hp with hp | hp
        · rw [hp]; exact hS
        · exact hp oj hoj (i, fi) (List.mem_cons_self ..) hnotT
      refine ⟨hp.imp id (fun g o ho => (g o ho).tail), ih (listed.setIfInBounds j true) a' w' hfree' (hcl.set hj) (ready_mono hr (Ne.symm hji)) hy' hS' ?_⟩
      rw [Array.setIfInBounds_comm _ _ hji]
      exact h4

structure Dn (ops : Array Oper) (listed : Array Bool) (D : Nat) : Prop where
  size : listed.size = ops.size
  at' : ∀ j, listed.getD j false = D.testBit j
  cl : Cl ops listed
theorem bit_self (i j : Nat) : (1 <<< i).testBit j = decide (i = j) := by
  rw [Nat.one_shiftLeft, Nat.testBit_two_pow]
theorem Dn.set {listed : Array Bool} {D i : Nat} (h : Dn ops listed D) (hi : i < ops.size) (hrd : i ∈ Region.ready .any ops listed) : Dn ops (listed.setIfInBounds i true) (D ||| (1 <<< i)) := by
  refine ⟨by simp [h.size], fun j => ?_, h.cl.set hrd⟩
  have h0 := h.at' j
  rw [Nat.testBit_or, bit_self, ← h0]
  by_cases e : i = j
  · subst e
    have hlt : i < listed.size := by rw [h.size]; exact hi
    simp [hlt]
  · rw [getD_set_ne false e]
    simp [e]
theorem Dn.lt {listed : Array Bool} {D j : Nat} (h : Dn ops listed D) (hj : D.testBit j = true) : j < ops.size := by
  have h0 := h.at' j
  rcases Nat.lt_or_ge j ops.size with h' | h'
  · exact h'
  · have : ¬ j < listed.size := by rw [h.size]; omega
    simp [this] at h0
    rw [h0] at hj; cases hj
theorem Dn.getT {listed : Array Bool} {D j : Nat} (h : Dn ops listed D) (hj : j < ops.size) : listed.getD j true = D.testBit j := by
  have hlt : j < listed.size := by rw [h.size]; exact hj
  rw [← h.at' j]
  simp [hlt]
theorem ready_iff {listed : Array Bool} {D : Nat} (h : Dn ops listed D) {j : Nat} :
    j ∈ Region.ready .any ops listed ↔ D.testBit j = false ∧ ∃ o, ops[j]? = some o ∧ aftB D o = true := by
  rw [mem_ready]
  constructor
  · rintro ⟨h0, o, ho, hall⟩
    have hj : j < ops.size := (Array.getElem?_eq_some_iff.1 ho).1
    refine ⟨by rw [← h.getT hj]; exact h0, o, ho, ?_⟩
    simp only [aftB, List.all_eq_true, Bool.or_eq_true, Bool.not_eq_true', Array.mem_toList_iff]
    intro e he
    cases hb : Region.binds .any e with
    | false => exact .inl rfl
    | true => exact .inr (by rw [← h.at']; exact hall e he hb)
  · rintro ⟨h0, o, ho, hall⟩
    have hj : j < ops.size := (Array.getElem?_eq_some_iff.1 ho).1
    refine ⟨by rw [h.getT hj]; exact h0, o, ho, fun e he hb => ?_⟩
    simp only [aftB, List.all_eq_true, Bool.or_eq_true, Bool.not_eq_true', Array.mem_toList_iff] at hall
    rw [h.at']
    exact (hall e he).resolve_left (by simp [hb])

theorem nextOf_some {D i : Nat} : ∀ (os : List Oper) (k : Nat), nextOf D os k = some i → ∃ j o, i = k + j ∧ os[j]? = some o ∧ D.testBit i = false ∧ isEff o = false ∧ aftB D o = true := by
  intro os
  induction os with
  | nil => intro k h; simp [nextOf] at h
  | cons o os ih =>
    intro k h
    unfold nextOf at h
    cases hc : (!D.testBit k && (!isEff o && aftB D o)) with
    | true =>
      rw [hc, cond_true] at h
      simp only [Option.some.injEq] at h
      subst h
      simp only [Bool.and_eq_true, Bool.not_eq_true'] at hc
      exact ⟨0, o, rfl, rfl, hc.1, hc.2.1, hc.2.2⟩
    | false =>
      rw [hc, cond_false] at h
      obtain ⟨j, o', rfl, h2, h3⟩ := ih (k + 1) h
      exact ⟨j + 1, o', by omega, by simpa using h2, h3⟩
theorem nextOf_none {D : Nat} : ∀ (os : List Oper) (k : Nat), nextOf D os k = none → ∀ j o, os[j]? = some o → D.testBit (k + j) = false → aftB D o = true → isEff o = true := by
  intro os
  induction os with
  | nil => intro k _ j o ho; simp at ho
  | cons o os ih =>
    intro k h j o' ho hD ha
    unfold nextOf at h
    cases hc : (!D.testBit k && (!isEff o && aftB D o)) with
    | true => rw [hc, cond_true] at h; cases h
    | false =>
      rw [hc, cond_false] at h
      cases j with
      | zero =>
        simp only [List.getElem?_cons_zero, Option.some.injEq] at ho
        subst ho
        rw [Nat.add_zero] at hD
        rw [hD, ha] at hc
        simpa using hc
      | succ j => exact ih (k + 1) h j o' (by simpa using ho) (by rw [← hD]; congr 1; omega) ha
theorem effsOf_mem {D i : Nat} : ∀ (os : List Oper) (k : Nat), i ∈ effsOf D os k ↔ ∃ j o, i = k + j ∧ os[j]? = some o ∧ D.testBit i = false ∧ isEff o = true ∧ aftB D o = true := by
  intro os
  induction os with
  | nil => intro k; simp [effsOf]
  | cons o os ih =>
    intro k
    unfold effsOf
    constructor
    · intro h
      cases hc : (!D.testBit k && (isEff o && aftB D o)) with
      | true =>
        rw [hc, cond_true] at h
        simp only [Bool.and_eq_true, Bool.not_eq_true'] at hc
        rcases List.mem_cons.1 h with rfl | h
        · exact ⟨0, o, rfl, rfl, hc.1, hc.2.1, hc.2.2⟩
        · obtain ⟨j, o', rfl, h2, h3⟩ := (ih (k + 1)).1 h
          exact ⟨j + 1, o', by omega, by simpa using h2, h3⟩
      | false =>
        rw [hc, cond_false] at h
        obtain ⟨j, o', rfl, h2, h3⟩ := (ih (k + 1)).1 h
        exact ⟨j + 1, o', by omega, by simpa using h2, h3⟩
    · rintro ⟨j, o', rfl, h2, h3, h4, h5⟩
      cases j with
      | zero =>
        simp only [List.getElem?_cons_zero, Option.some.injEq] at h2
        subst h2
        rw [Nat.add_zero] at h3 ⊢
        rw [h3, h4, h5]
        exact List.mem_cons_self ..
      | succ j =>
        have : k + (j + 1) ∈ effsOf D os (k + 1) := (ih (k + 1)).2 ⟨j, o', by omega, by simpa using h2, h3, h4, h5⟩
        cases (!D.testBit k && (isEff o && aftB D o)) with
        | true => exact List.mem_cons_of_mem _ this
        | false => exact this
theorem allDone_spec {D : Nat} : ∀ n, allDone D n = true → ∀ j, j < n → D.testBit j = true := by
  intro n
  induction n with
  | zero => intro _ j hj; omega
  | succ n ih =>
    intro h j hj
    simp only [allDone, Bool.and_eq_true] at h
    by_cases e : j = n
    · rw [e]; exact h.1
    · exact ih h.2 j (by omega)
theorem andL_mem : ∀ {l : List Prop} {p : Prop}, andL l → p ∈ l → p := by
  intro l
  induction l with
  | nil => intro p _ h; cases h
  | cons q l ih =>
    intro p h hm
    cases l with
    | nil => simp at hm; exact hm.mpr h
    | cons q' l =>
      obtain ⟨h1, h2⟩ := h
      rcases List.mem_cons.1 hm with rfl | hm
      · exact h1
      · exact ih h2 hm

theorem okPair_spec (h : okPair ops = true) {i j : Nat} {oi oj : Oper} (hi : ops[i]? = some oi) (hj : ops[j]? = some oj) (hne : i ≠ j) (h1 : ¬ AftE oi j) (h2 : ¬ AftE oj i) : oi.apart ops oj = true := by
  have mem : ∀ {k : Nat} {o : Oper}, ops[k]? = some o → (o, k) ∈ ops.toList.zipIdx := by
    intro k o hk
    rw [List.mem_zipIdx_iff_getElem?]
    simpa using hk
  unfold okPair at h
  rw [List.all_eq_true] at h
  have := h _ (mem hi)
  rw [List.all_eq_true] at this
  have := this _ (mem hj)
  simp only [Bool.or_eq_true] at this
  rcases this with ((h' | h') | h') | h'
  · exact absurd (Nat.eq_of_beq_eq_true h') hne
  · exact absurd (aftHas_iff.1 h') h1
  · exact absurd (aftHas_iff.1 h') h2
  · exact h'

theorem drawW_some {n : Nat} {dstOf : Nat → Option Tmp} (hd : ∀ g, dstOf g = (ops[g]?).bind (·.dst))
    (hname : ∀ (g : Nat) (fn : Func), P.funcs[g]? = some fn → fn.name ≠ "runtime.NumGoroutine") {K : Fr → Heap → Prop} {W : List Nat} {f0 : Fr} {w0 : World}
    (hQ : ∀ f a w, RelK w0 n a w f → K f w.heap → (∀ i, i ∉ W → f i = f0 i) → Q .normal a w) (hP : ∀ c a w, ¬ Q (.panic c) a w)
    (hpair : okPair ops = true) (hsel : Region.noSelect ops = true) (hW : ∀ o ∈ ops.toList, ∀ d, o.dst = some d → d ∈ W) :
    ∀ (fuel D : Nat) (listed : Array Bool) (rs : List (Nat × Facts)) (f : Fr) (a : Act) (w : World), Dn ops listed D → RelK w0 n a w f → (∀ i, i ∉ W → f i = f0 i) →
      drawW P n ops.toList dstOf fuel D rs f w.heap K → wpAnyR P ops Q rs fuel listed a w := by
  have done : ∀ (D : Nat) (listed : Array Bool) (f : Fr) (a : Act) (w : World), Dn ops listed D → RelK w0 n a w f → (∀ i, i ∉ W → f i = f0 i) →
      (bif allDone D ops.toList.length then K f w.heap else False) → Region.ready .any ops listed = [] ∧ Q .normal a w := by
    intro D listed f a w hD hr hf H
    cases hc : allDone D ops.toList.length with
    | false => rw [hc] at H; exact H.elim
    | true =>
      rw [hc, cond_true] at H
      refine ⟨?_, hQ f a w hr H hf⟩
      rw [List.eq_nil_iff_forall_not_mem]
      intro j hj
      obtain ⟨h0, o, ho, _⟩ := (ready_iff hD).1 hj
      have := allDone_spec _ hc j (by simpa using (Array.getElem?_eq_some_iff.1 ho).1)
      rw [this] at h0; cases h0
  intro fuel
  induction fuel with
  | zero => intro D listed rs f a w hD hr hf H; exact done D listed f a w hD hr hf H
  | succ fuel ih =>
    intro D listed rs f a w hD hr hf H
    have hselP : ∀ (j : Nat) (o : Oper) cs b, ops[j]? = some o → o.op ≠ .select cs b := Region.noSelect_spec hsel
    unfold drawW at H
    cases hnx : nextOf D ops.toList 0 with
    | some i =>
      rw [hnx] at H
      simp only [] at H
      obtain ⟨j, o, hij, ho', hDi, hne, haft⟩ := nextOf_some _ _ hnx
      rw [Nat.zero_add] at hij
      subst hij
      rw [ho'] at H
      simp only [] at H
      have ho : ops[i]? = some o := by simpa using ho'
      have hin : i < ops.size := (Array.getElem?_eq_some_iff.1 ho).1
      have hready : i ∈ Region.ready .any ops listed := (ready_iff hD).2 ⟨hDi, o, ho, haft⟩
      have hdst : ∀ d, o.dst = some d → d ∈ W := hW o (List.mem_of_getElem? ho')
      have hput : ∀ v k, k ∉ W → put n f o.dst v k = f0 k := fun v k hk => by
        rw [put_other (fun e => hk (hdst k e))]; exact hf k hk
      have hfree : ∀ j oj, ops[j]? = some oj → j ≠ i → listed.getD j true = false → ¬ AftE oj i → o.apart ops oj = true := by
        intro j oj hj hne hun hno
        refine okPair_spec hpair ho hj (Ne.symm hne) ?_ hno
        rintro ⟨e, he, hb, rfl⟩
        simp only [aftB, List.all_eq_true, Bool.or_eq_true, Bool.not_eq_true', Array.mem_toList_iff] at haft
        have h1 := (haft e he).resolve_left (by simp [hb])
        rw [hD.getT (hD.lt h1), h1] at hun
        cases hun
      rcases grd_some H hd hr.1 with ⟨hw, H2⟩ | ⟨hw, H2⟩ <;> clear H
      · obtain ⟨v, fi, hK, hF, hrun⟩ := valW_some hr.1.eval H2
        exact wpAnyR_first ho hselP (fun c a w h => absurd h (hP c _ _)) fuel listed a w hfree hD.cl hready (.inl ⟨hw, fun w hS => hrun w hS⟩) hF
          (ih _ _ _ _ _ _ (hD.set hin hready) (hr.put _ _ (Kp.refl _)) (hput v) hK)
      · exact wpAnyR_first ho hselP (fun c a w h => absurd h (hP c _ _)) fuel listed a w hfree hD.cl hready (.inr ⟨hw, rfl⟩) (by simp [HoldsF])
          (ih _ _ _ _ _ _ (hD.set hin hready) (hr.put _ _ (Kp.refl _)) (hput undef) H2)
    | none =>
      rw [hnx] at H
      simp only [] at H
      cases hE : effsOf D ops.toList 0 with
      | nil =>
        rw [hE] at H
        simp only [] at H
        obtain ⟨h1, h2⟩ := done D listed f a w hD hr hf H
        exact ⟨fun _ => h2, by rw [h1]; simp⟩
      | cons x l =>
        rw [hE] at H
        simp only [] at H
        have hx : x ∈ Region.ready .any ops listed := by
          obtain ⟨j, o, hj, ho', hDi, _, haft⟩ := (effsOf_mem (i := x) ops.toList 0).1 (by rw [hE]; exact List.mem_cons_self ..)
          rw [Nat.zero_add] at hj
          subst hj
          exact (ready_iff hD).2 ⟨hDi, o, by simpa using ho', haft⟩
        refine ⟨fun h0 => (by rw [h0] at hx; cases hx), fun i hi => ?_⟩
        have hready := hi
        obtain ⟨hDi, o, ho, haft⟩ := (ready_iff hD).1 hi
        have ho' : ops.toList[i]? = some o := by simpa using ho
        have heff : isEff o = true := nextOf_none _ _ hnx i o ho' (by simpa using hDi) haft
        have hin : i < ops.size := (Array.getElem?_eq_some_iff.1 ho).1
        have hmem : i ∈ x :: l := by rw [← hE]; exact (effsOf_mem _ _).2 ⟨i, o, by omega, ho', hDi, heff, haft⟩
        have H1 := andL_mem H (List.mem_map.2 ⟨i, hmem, rfl⟩)
        rw [ho'] at H1
        simp only [] at H1
        have hdst : ∀ d, o.dst = some d → d ∈ W := hW o (List.mem_of_getElem? ho')
        have hput : ∀ v k, k ∉ W → put n f o.dst v k = f0 k := fun v k hk => by
          rw [put_other (fun e => hk (hdst k e))]; exact hf k hk
        rcases grd_some H1 hd hr.1 with ⟨hw, H2⟩ | ⟨hw, H2⟩
        · refine wpOp_eff ho hr.1 hname hw H2 fun v w' hkp hK => ?_
          obtain ⟨hp, hK⟩ := persC_iff hK
          exact ⟨.inr fun o' ho2 => (by rw [ho] at ho2; simp at ho2; subst ho2; exact hp), ih _ _ _ _ _ _ (hD.set hin hready) (hr.put _ _ hkp) (hput v) hK⟩
        · exact wpOp_not ho hw ⟨.inl rfl, ih _ _ _ _ _ _ (hD.set hin hready) (hr.put _ _ (Kp.refl _)) (hput undef) H2⟩
end

/-! loops, and whole bodies -/
inductive Lp {τ : Type} (F : (τ → Heap → Prop) → τ → Heap → Prop) : τ → Heap → Prop
  | mk {s : τ} {h : Heap} (Y : τ → Heap → Prop) (hY : ∀ s' h', Y s' h' → Lp F s' h') (hs : F Y s h) : Lp F s h

/-- a loop by a relation and a measure -/
theorem Lp.inv {τ : Type} {F : (τ → Heap → Prop) → τ → Heap → Prop} (I : τ → Heap → Prop) (μ : τ → Heap → Nat)
    (round : ∀ s h, I s h → F (fun s' h' => I s' h' ∧ μ s' h' < μ s h) s h) {s : τ} {h : Heap} (h0 : I s h) : Lp F s h := by
  have key : ∀ n s h, μ s h = n → I s h → Lp F s h := by
    intro n
    induction n using Nat.strongRecOn with
    | _ n ih =>
      intro s h hn hI
      exact .mk _ (fun s' h' hy => ih (μ s' h') (hn ▸ hy.2) s' h' rfl hy.1) (round s h hI)
  exact key _ s h rfl h0

abbrev Spec := List (Nat × List (Nat × CT))
def encF (n : Nat) : (S : List (Nat × CT)) → SemL (S.map (·.2)) → Fr → Fr
  | [], _, f => f
  | x :: S, s, f => upd n (encF n S s.2 f) x.1 (x.2.mk s.1)
def decF : (S : List (Nat × CT)) → Fr → (SemL (S.map (·.2)) → Prop) → Prop
  | [], _, K => K ()
  | x :: S, f, K => x.2.dec (f x.1) fun y => decF S f fun s => K (y, s)
theorem decF_some {n : Nat} {S : List (Nat × CT)} {f : Fr} {K : SemL (S.map (·.2)) → Prop} (h : decF S f K) : ∃ s, K s ∧ encF n S s f = f := by
  induction S with
  | nil => exact ⟨(), h, rfl⟩
  | cons x S ih =>
    obtain ⟨y, hy, h⟩ := CT.dec_mk h
    obtain ⟨s, hK, hs⟩ := ih h
    exact ⟨(y, s), hK, by simp only [encF, hs]; exact upd_same hy⟩
def mask (W : List Nat) (g f : Fr) : Fr := fun i => bif W.elem i then g i else f i
theorem mask_same {W : List Nat} {g f : Fr} (h : ∀ i, i ∉ W → g i = f i) : mask W g f = g := by
  funext i
  unfold mask
  cases he : W.elem i with
  | true => rfl
  | false => rw [cond_false]; exact (h i (by simpa using he)).symm
def dsts (l : List Oper) : List Nat := l.filterMap (·.dst)
def writes : Code → List Nat
  | .region _ ops _ => dsts ops.toList
  | .seq a b | .cond _ a b => writes a ++ writes b
  | .block _ c | .loop c | .scope c => writes c
  | _ => []
def rid : Code → Nat
  | .region i _ _ => i
  | .seq a _ => rid a
  | .cond _ a _ => rid a
  | .block _ c | .loop c | .scope c => rid c
  | _ => 1000000
def lookS : Spec → Nat → Option (List (Nat × CT))
  | [], _ => none
  | x :: S, k => bif Nat.beq x.1 k then some x.2 else lookS S k
def eNorm (K Q : Fr → Heap → Prop) (E : Nat → Fr → Heap → Prop) (R : Fr → Heap → Prop) : Exit → Fr → Heap → Prop
  | .normal, f, h => K f h
  | .exit i, f, h => E i f h
  | .ret, f, h => R f h
  | _, f, h => Q f h ∧ False

/-- what must hold ahead of a piece of code: N behind it, E i at the exit of block i, R at a return -/
def wpc (P : Program) (n : Nat) (sp : Spec) : Code → (Fr → Heap → Prop) → (Nat → Fr → Heap → Prop) → (Fr → Heap → Prop) → Fr → Heap → Prop
  | .skip, N, _, _, f, h => N f h
  | .region _ ops draw, N, _, _, f, h => regW P n ops draw f h N
  | .seq a b, N, E, R, f, h => wpc P n sp a (fun f h => wpc P n sp b N E R f h) E R f h
  | .cond c a b, N, E, R, f, h => match evo f c with
    | .bool t => if t = true then wpc P n sp a N E R f h else wpc P n sp b N E R f h
    | _ => False
  | .block i c, N, E, R, f, h => wpc P n sp c N (fun j f h => bif Nat.beq j i then N f h else E j f h) R f h
  | .exit i, _, E, _, f, h => E i f h
  | .scope c, N, E, R, f, h => wpc P n sp c N E R f h
  | .label _, N, _, _, f, h => N f h
  | .ret, _, _, R, f, h => R f h
  | .loop c, _, E, R, f, h => match lookS sp (rid c) with
    | some S => decF S f fun s0 => Lp (fun (X : SemL (S.map (·.2)) → Heap → Prop) s h => ∀ g : Fr, wpc P n sp c (fun f h => decF S f fun s => X s h) E R (encF n S s (mask (writes c) g f)) h) s0 h
    | none => False
  | _, _, _, _, _, _ => False

section
variable {P : Program}
/-- the end of a piece: as the base's Code.wp has it -/
def Post (w0 : World) (n : Nat) (W : List Nat) (f0 : Fr) (N : Fr → Heap → Prop) (E : Nat → Fr → Heap → Prop) (R : Fr → Heap → Prop) : Exit → Act → World → Prop
  | .normal, a, w => ∃ f, RelK w0 n a w f ∧ N f w.heap ∧ ∀ i, i ∉ W → f i = f0 i
  | .exit i, a, w => ∃ f, RelK w0 n a w f ∧ E i f w.heap ∧ ∀ i, i ∉ W → f i = f0 i
  | .ret, a, w => ∃ f, RelK w0 n a w f ∧ R f w.heap ∧ ∀ i, i ∉ W → f i = f0 i
  | _, _, _ => False

def LoopAt (P : Program) (c : Code) (Q : Exit → Act → World → Prop) (a : Act) (w : World) : Prop :=
  ∀ (b : Frame) (k : List Item) (cs : List Frame), ∃ e a' w', Q e a' w' ∧ Arrives P (lone (b.at a (.code c :: .inLoop c :: k)) cs w) b k cs e a' w'
theorem loopAt_step {c : Code} {Q : Exit → Act → World → Prop} {a : Act} {w : World} (h : c.wp P (Exit.then (LoopAt P c Q) Q) a w) : LoopAt P c Q a w := by
  intro b k cs
  obtain ⟨e, a₁, w₁, hq, harr⟩ := h b (.inLoop c :: k) cs
  cases e with
  | normal =>
    obtain ⟨e₂, a₂, w₂, hq₂, harr₂⟩ := hq b k cs
    exact ⟨e₂, a₂, w₂, hq₂, .of_steps (Steps.trans harr (.one step_inLoop)) harr₂⟩
  | exit id => exact ⟨_, a₁, w₁, hq, .pass (x := .inLoop c) rfl (fun _ _ => .inl (by simp)) harr⟩
  | goto l => exact ⟨_, a₁, w₁, hq, .pass (x := .inLoop c) rfl (fun _ _ => .inl (by simp)) harr⟩
  | ret => exact ⟨_, a₁, w₁, hq, .pass (x := .inLoop c) rfl (fun _ _ => .inl (by simp)) harr⟩
  | panic ch => exact ⟨_, a₁, w₁, hq, .pass (x := .inLoop c) rfl (fun _ _ => .inl (by simp)) harr⟩
  | outgrown => exact ⟨_, a₁, w₁, hq, .pass (x := .inLoop c) rfl (fun _ _ => .inl (by simp)) harr⟩
theorem wp_loopAt {c : Code} {Q : Exit → Act → World → Prop} {a : Act} {w : World} (h : LoopAt P c Q a w) : (Code.loop c).wp P Q a w := by
  intro b k cs
  obtain ⟨e, a', w', hq, harr⟩ := h b k cs
  exact ⟨e, a', w', hq, .of_steps (.one step_loop) harr⟩
theorem wp_scope0 {c : Code} {Q : Exit → Act → World → Prop} {a : Act} {w : World} (hg : ∀ l a w, ¬ Q (.goto l) a w) (h : c.wp P Q a w) : (Code.scope c).wp P Q a w := by
  intro b k cs
  obtain ⟨e, a₁, w₁, hq, harr⟩ := h b (.inScope c :: k) cs
  have s1 : step P (lone (b.at a (.code (.scope c) :: k)) cs w) = .next (lone (b.at a (.code c :: .inScope c :: k)) cs w) := step_lone_go (by simp [stepG, stepG.exec, Frame.at])
  have s2 : ∀ a w, step P (lone (b.at a (.inScope c :: k)) cs w) = .next (lone (b.at a k) cs w) := fun a w => step_lone_go (by simp [stepG, stepG.exec, Frame.at])
  cases e with
  | normal => exact ⟨.normal, a₁, w₁, hq, .head s1 (Steps.trans harr (.one (s2 _ _)))⟩
  | exit id => exact ⟨.exit id, a₁, w₁, hq, fun k' hk => .head s1 (harr k' (by simp [exitTo, hk]))⟩
  | goto l => exact absurd hq (hg l _ _)
  | ret => exact ⟨_, a₁, w₁, hq, .of_steps (.one s1) harr⟩
  | panic ch => exact ⟨_, a₁, w₁, hq, .of_steps (.one s1) harr⟩
  | outgrown => exact ⟨_, a₁, w₁, hq, .of_steps (b := b) (k := k) (cs := cs) (e := .outgrown) (.one s1) harr⟩

theorem Post.mono {w0 : World} {n : Nat} {W W' : List Nat} {f0 f1 : Fr} {N N' : Fr → Heap → Prop} {E E' : Nat → Fr → Heap → Prop} {R R' : Fr → Heap → Prop} {e : Exit} {a : Act} {w : World}
    (H : Post w0 n W f0 N E R e a w) (hW : ∀ i, i ∉ W' → i ∉ W ∧ f0 i = f1 i) (hN : ∀ f h, N f h → N' f h) (hE : ∀ i f h, E i f h → E' i f h) (hR : ∀ f h, R f h → R' f h) :
    Post w0 n W' f1 N' E' R' e a w := by
  cases e <;> first | exact H.elim | skip
  · obtain ⟨f, hr, hn, hf⟩ := H; exact ⟨f, hr, hN _ _ hn, fun i hi => by rw [hf i (hW i hi).1]; exact (hW i hi).2⟩
  · obtain ⟨f, hr, hn, hf⟩ := H; exact ⟨f, hr, hE _ _ _ hn, fun i hi => by rw [hf i (hW i hi).1]; exact (hW i hi).2⟩
  · obtain ⟨f, hr, hn, hf⟩ := H; exact ⟨f, hr, hR _ _ hn, fun i hi => by rw [hf i (hW i hi).1]; exact (hW i hi).2⟩

theorem wpc_some {w0 : World} {n : Nat} {sp : Spec} (hname : ∀ (g : Nat) (fn : Func), P.funcs[g]? = some fn → fn.name ≠ "runtime.NumGoroutine") (hmix : P.follows .mixedOrders = true) :
    ∀ (c : Code) (N : Fr → Heap → Prop) (E : Nat → Fr → Heap → Prop) (R : Fr → Heap → Prop) (f : Fr) (a : Act) (w : World), RelK w0 n a w f → wpc P n sp c N E R f w.heap →
      c.wp P (Post w0 n (writes c) f N E R) a w := by
  intro c
  induction c with
  | skip => intro N E R f a w hr H; exact wp_skip ⟨f, hr, H, fun _ _ => rfl⟩
  | region id ops draw =>
    intro N E R f a w hr H
    have hW : ∀ o ∈ ops.toList, ∀ d, o.dst = some d → d ∈ writes (.region id ops draw) := fun o ho d hd => by
      simp only [writes, dsts, List.mem_filterMap]; exact ⟨o, ho, hd⟩
    have hdd : ∀ g, dstIn ops.toList g = (ops[g]?).bind (·.dst) := fun g => by simp [dstIn]
    have hQ : ∀ f' a w, RelK w0 n a w f' → N f' w.heap → (∀ i, i ∉ writes (.region id ops draw) → f' i = f i) → Post w0 n (writes (.region id ops draw)) f N E R .normal a w :=
      fun f' a w hr' hN hf => ⟨f', hr', hN, hf⟩
    simp only [wpc, regW] at H
    cases draw with
    | false =>
      rw [cond_false] at H
      refine wp_region ?_
      have := seqW_some (P := P) (ops := ops) hdd hname hQ ops.toList 0 (fun j => by simp) hW f a w hr (fun _ _ => rfl) H
      rw [List.range_eq_range']
      simpa using this
    | true =>
      rw [cond_true] at H
      cases hc : (okPair ops && Region.noSelect ops) with
      | false => rw [hc] at H; exact H.elim
      | true =>
        rw [hc, cond_true] at H
        simp only [Bool.and_eq_true] at hc
        refine wp_region_any hmix (wpAny_of_R (rs := []) _ _ _ _ ?_)
        have key := drawW_some (P := P) (ops := ops) hdd hname hQ (fun c a w h => h) hc.1 hc.2 hW ops.toList.length 0 (Array.replicate ops.size false) [] f a { w with drawn := w.drawn + 1 } ⟨Array.size_replicate, fun j => by
          by_cases hj : j < ops.size
          · simp [hj]
          · simp [hj], fun k ok hk hl => by
          exfalso
          have hk' : k < ops.size := (Array.getElem?_eq_some_iff.1 hk).1
          simp [hk'] at hl⟩ hr (fun _ _ => rfl) H
        rw [Array.length_toList] at key
        exact key
  | seq x y ihx ihy =>
    intro N E R f a w hr H
    refine wp_seq (wp_mono (ihx _ _ _ f a w hr H) fun e a' w' hp => ?_)
    cases e with
    | normal =>
      obtain ⟨f', hr', hN, hf⟩ := hp
      exact wp_mono (ihy _ _ _ f' a' w' hr' hN) fun e a w hq => hq.mono (fun i hi => by
        simp only [writes, List.mem_append, not_or] at hi
        exact ⟨hi.2, hf i hi.1⟩) (fun _ _ h => h) (fun _ _ _ h => h) (fun _ _ h => h)
    | exit i => obtain ⟨f2, hr2, hE, hf2⟩ := hp; exact ⟨f2, hr2, hE, fun i hi => hf2 i (by simp only [writes, List.mem_append, not_or] at hi; exact hi.1)⟩
    | ret => obtain ⟨f2, hr2, hE, hf2⟩ := hp; exact ⟨f2, hr2, hE, fun i hi => hf2 i (by simp only [writes, List.mem_append, not_or] at hi; exact hi.1)⟩
    | goto l => exact hp.elim
    | panic c => exact hp.elim
    | outgrown => exact hp.elim
  | cond cc x y ihx ihy =>
    intro N E R f a w hr H
    simp only [wpc] at H
    split at H
    · rename_i t ht
      have ht' : a.eval cc = .bool t := by rw [hr.1.eval]; exact ht
      split at H
      · rename_i h1
        subst h1
        exact wp_cond ht' (wp_mono (ihx _ _ _ f a w hr H) fun e a w hq => hq.mono (fun i hi => by simp only [writes, List.mem_append, not_or] at hi; exact ⟨hi.1, rfl⟩) (fun _ _ h => h) (fun _ _ _ h => h) (fun _ _ h => h))
      · rename_i h1
        have : t = false := by simpa using h1
        subst this
        exact wp_cond ht' (wp_mono (ihy _ _ _ f a w hr H) fun e a w hq => hq.mono (fun i hi => by simp only [writes, List.mem_append, not_or] at hi; exact ⟨hi.2, rfl⟩) (fun _ _ h => h) (fun _ _ _ h => h) (fun _ _ h => h))
    · exact H.elim
  | block id x ih =>
    intro N E R f a w hr H
    refine wp_block (wp_mono (ih _ _ _ f a w hr H) fun e a' w' hp => ?_)
    cases e with
    | normal => exact hp
    | exit j =>
      obtain ⟨f', hr', hE, hf⟩ := hp
      simp only [Exit.inBlock]
      cases hb : Nat.beq j id with
      | true =>
        rw [hb, cond_true] at hE
        rw [if_pos (Nat.eq_of_beq_eq_true hb)]
        exact ⟨f', hr', hE, hf⟩
      | false =>
        rw [hb, cond_false] at hE
        rw [if_neg (fun h => by rw [h, Nat.beq_refl] at hb; cases hb)]
        exact ⟨f', hr', hE, hf⟩
    | ret => exact hp
    | goto l => exact hp.elim
    | panic c => exact hp.elim
    | outgrown => exact hp.elim
  | loop x ih =>
    intro N E R f a w hr H
    simp only [wpc] at H
    split at H
    · rename_i S hS
      obtain ⟨s0, hL, he⟩ := decF_some (n := n) H
      refine wp_loopAt ?_
      have key : ∀ s h, Lp (fun (X : SemL (S.map (·.2)) → Heap → Prop) s h => ∀ g : Fr, wpc P n sp x (fun f h => decF S f fun s => X s h) E R (encF n S s (mask (writes x) g f)) h) s h →
          ∀ f' a w, RelK w0 n a w f' → w.heap = h → encF n S s f' = f' → (∀ i, i ∉ writes x → f' i = f i) → LoopAt P x (Post w0 n (writes x) f N E R) a w := by
        intro s h hL
        induction hL with
        | mk Y hY hs ihY =>
          intro f' a w hr' hh he' hf'
          have h1 := hs f'
          rw [mask_same hf', he', ← hh] at h1
          refine loopAt_step (wp_mono (ih _ _ _ f' a w hr' h1) fun e a' w' hp => ?_)
          cases e with
          | normal =>
            obtain ⟨f2, hr2, hN, hf2⟩ := hp
            obtain ⟨s', hY', he2⟩ := decF_some (n := n) hN
            exact ihY s' w'.heap hY' f2 a' w' hr2 rfl he2 (fun i hi => by rw [hf2 i hi]; exact hf' i hi)
          | exit i => obtain ⟨f2, hr2, hE, hf2⟩ := hp; exact ⟨f2, hr2, hE, fun i hi => by rw [hf2 i hi]; exact hf' i hi⟩
          | ret => obtain ⟨f2, hr2, hE, hf2⟩ := hp; exact ⟨f2, hr2, hE, fun i hi => by rw [hf2 i hi]; exact hf' i hi⟩
          | goto l => exact hp.elim
          | panic c => exact hp.elim
          | outgrown => exact hp.elim
      exact key s0 w.heap hL f a w hr rfl he (fun _ _ => rfl)
    · exact H.elim
  | rangeFunc => intro N E R f a w hr H; exact H.elim
  | exit id => intro N E R f a w hr H; exact wp_exit ⟨f, hr, H, fun _ _ => rfl⟩
  | scope x ih => intro N E R f a w hr H; exact wp_scope0 (fun l a w h => h) (ih _ _ _ f a w hr H)
  | label l => intro N E R f a w hr H; exact wp_label ⟨f, hr, H, fun _ _ => rfl⟩
  | goto l => intro N E R f a w hr H; exact H.elim
  | ret => intro N E R f a w hr H; exact wp_ret ⟨f, hr, H, fun _ _ => rfl⟩
  | refuse => intro N E R f a w hr H; exact H.elim
end

/-! functions -/
def ldT (P : Program) (t : TypeId) (v : Value) (h : Heap) (K : Value → Prop) : Prop :=
  match v with
  | .pointer (some ad) => match P.info? t, P.underlying t with
    | some i, some d =>
      bif aggD d then (bif Nat.beq i.size (ctsOf P 8 t).length then ldF (ctsOf P 8 t) h ad 0 fun vs _ => K (.agg vs.toArray) else False)
      else ∃ x : (ctOf P t).Sem, cell h ad = some ((ctOf P t).mk x) ∧ K ((ctOf P t).mk x)
    | _, _ => False
  | _ => False
def resW (P : Program) : List ResultVar → Fr → Heap → (List Value → Prop) → Prop
  | [], _, _, K => K []
  | .tmp t :: rs, f, h, K => resW P rs f h fun vs => K (f t :: vs)
  | .cell a t :: rs, f, h, K => ldT P t (f a) h fun v => resW P rs f h fun vs => K (v :: vs)
def oneOr : List Value → Value
  | [v] => v
  | vs => .tuple vs.toArray
def fnW (P : Program) (k : FuncId) (sp : Spec) (args : List Value) (h : Heap) (R : Value → Heap → Prop) : Prop :=
  match P.funcs[k]? with
  | some fn => match fn.body with
    | some c => bif Nat.ble args.length fn.ntmps then
        wpc P fn.ntmps sp c (fun f h => resW P fn.results.toList f h fun vs => R (oneOr vs) h) (fun _ _ _ => False)
          (fun f h => resW P fn.results.toList f h fun vs => R (oneOr vs) h) (fun i => args.getD i undef) h
        else False
    | none => False
  | none => False

section
variable {P : Program}
theorem ldT_some {t : TypeId} {v : Value} {w : World} {K : Value → Prop} (H : ldT P t v w.heap K) :
    ∃ u, K u ∧ (do loadVar t (← asAddr v) : Sem Value).run P w = .ok u w := by
  unfold ldT at H
  split at H
  · rename_i ad
    split at H
    · rename_i i d hi hd
      cases hag : aggD d with
      | false =>
        rw [hag, cond_false] at H
        obtain ⟨y, hy, hK⟩ := H
        refine ⟨_, hK, ?_⟩
        have hc : w.cell? ad = some ((ctOf P t).mk y) := hy
        simp [asAddr, loadVar, run_agg hd, hag, hc]
      | true =>
        rw [hag, cond_true] at H
        cases hs : Nat.beq i.size (ctsOf P 8 t).length with
        | false => rw [hs] at H; exact H.elim
        | true =>
          rw [hs, cond_true] at H
          obtain ⟨vs, fs, hK, hF, hl, hall⟩ := ldF_some H
          refine ⟨_, hK, ?_⟩
          have hsz : vs.length = i.size := by rw [hl]; exact (Nat.eq_of_beq_eq_true hs).symm
          have := run_loadCells_list (P := P) w ad vs (fun j v hv => by have this := hall w.heap hF j v hv; simp only [Nat.zero_add] at this; exact this)
          rw [hsz] at this
          simp [asAddr, loadVar, run_agg hd, hag, run_size hi, this]
    · exact H.elim
  · exact H.elim

theorem resW_some {tmps : Array Value} {f : Fr} (hf : ∀ i, tmps.getD i undef = f i) {w : World} : ∀ (rs : List ResultVar) (K : List Value → Prop), resW P rs f w.heap K →
    ∃ vs, K vs ∧ (rs.mapM fun
      | .tmp t => pure (tmps.getD t undef)
      | .cell a t => do loadVar t (← asAddr (tmps.getD a undef)) : Sem (List Value)).run P w = .ok vs w := by
  intro rs
  induction rs with
  | nil => intro K H; exact ⟨[], H, by simp⟩
  | cons r rs ih =>
    intro K H
    cases r with
    | tmp t =>
      obtain ⟨vs, hK, hr⟩ := ih _ H
      refine ⟨_, hK, ?_⟩
      rw [List.mapM_cons]
      simp only [Sem.run_bind, Sem.run_pure, Result.andThen_ok, hr]
      rw [hf]
    | cell a t =>
      obtain ⟨u, H, hu⟩ := ldT_some (P := P) H
      obtain ⟨vs, hK, hr⟩ := ih _ H
      refine ⟨_, hK, ?_⟩
      rw [List.mapM_cons]
      rw [← hf] at hu
      rw [Sem.run_bind, hu, Result.andThen_ok, Sem.run_bind, hr]
      rfl

theorem hcalls_of (hname : ∀ (g : Nat) (fn : Func), P.funcs[g]? = some fn → fn.name ≠ "runtime.NumGoroutine") (hmix : P.follows .mixedOrders = true)
    {k : FuncId} {sp : Spec} {args : List Value} {h : Heap} {R : Value → Heap → Prop} (H : fnW P k sp args h R) : HCalls P k args h R := by
  intro w hw
  subst hw
  unfold fnW at H
  split at H
  · rename_i fn hfn
    split at H
    · rename_i c hc
      cases hl : Nat.ble args.length fn.ntmps with
      | false => rw [hl] at H; exact H.elim
      | true =>
        rw [hl, cond_true] at H
        have hle := Nat.le_of_ble_eq_true hl
        refine calls_of_wp hfn hc ?_
        have hr : Rel fn.ntmps { tmps := args.toArray ++ Array.replicate (fn.ntmps - args.toArray.size) undef, defers := [] } (fun i => args.getD i undef) := by
          refine ⟨fun i => ?_, by simp; omega, rfl⟩
          simp only [Array.getD_eq_getD_getElem?, List.getD_eq_getElem?_getD]
          by_cases hi : i < args.length
          · rw [Array.getElem?_append_left (by simpa using hi)]; simp
          · rw [Array.getElem?_append_right (by simpa using Nat.le_of_not_lt hi)]
            simp only [Array.getElem?_replicate]
            rw [List.getElem?_eq_none (Nat.le_of_not_lt hi)]
            split <;> rfl
        have fin : ∀ e a' w', (e = .normal ∨ e = .ret) → Post w fn.ntmps (writes c) (fun i => args.getD i undef) (fun f h => resW P fn.results.toList f h fun vs => R (oneOr vs) h) (fun _ _ _ => False)
            (fun f h => resW P fn.results.toList f h fun vs => R (oneOr vs) h) e a' w' → a'.defers = [] ∧ ∃ v, (results fn a'.tmps).run P w' = .ok v w' ∧ ∃ u, Ending.returned v = .returned u ∧ R u w'.heap ∧ Kp w w' := by
          intro e a' w' he hp
          have hp' : ∃ f, RelK w fn.ntmps a' w' f ∧ (resW P fn.results.toList f w'.heap fun vs => R (oneOr vs) w'.heap) := by
            rcases he with rfl | rfl <;> (obtain ⟨f, h1, h2, _⟩ := hp; exact ⟨f, h1, h2⟩)
          obtain ⟨f, h1, h2⟩ := hp'
          obtain ⟨vs, hK, hrun⟩ := resW_some (P := P) h1.1.at' _ _ h2
          refine ⟨h1.1.defers, oneOr vs, ?_, _, rfl, hK, h1.2⟩
          unfold results
          rw [Sem.run_bind, Array.mapM_eq_mapM_toList]
          simp only [Sem.run_map]
          erw [hrun]
          simp only [Result.andThen_ok, Sem.run_pure]
          congr 1
          match vs with
          | [] => rfl
          | [v] => rfl
          | _ :: _ :: _ => rfl
        refine wp_mono (wpc_some (w0 := w) hname hmix c _ _ _ _ _ w ⟨hr, Kp.refl w⟩ H) fun e a' w' hp => ?_
        cases e with
        | normal => exact fin .normal a' w' (.inl rfl) hp
        | ret => exact fin .ret a' w' (.inr rfl) hp
        | exit i => obtain ⟨_, _, h, _⟩ := hp; exact h.elim
        | goto l => exact hp.elim
        | panic c => exact hp.elim
        | outgrown => exact hp.elim
    · exact H.elim
  · exact H.elim
end
attribute [irreducible] fnW
end Go.Proofs.YtbkjeahmbnkmeaaGreat.Ev
