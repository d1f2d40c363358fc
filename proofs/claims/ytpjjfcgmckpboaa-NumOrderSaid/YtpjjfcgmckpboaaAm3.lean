/- What one operation does to abstract values. No condition. -/
import Derived.Test.YtpjjfcgmckpboaaAm2
namespace Go.Proofs.Ytpjjfcgmckpboaa.A
open Go
set_option linter.unusedVariables false

/-! ### Types -/
inductive D where
  | other | bool | int (k : IntKind) | float (k : FloatKind) | str | iface
  | ptr (e : TypeId) | slice (e : TypeId) | arr (n : Nat) (e : TypeId) | map (k e : TypeId)
  | strct (fs : List (Nat × TypeId × Bool))     -- offset, type, whether its name is blank
  deriving Inhabited
def dOf : TypeDesc → D
  | .bool => .bool
  | .int k => .int k
  | .float k => .float k
  | .string => .str
  | .interface _ => .iface
  | .pointer e => .ptr e
  | .slice e => .slice e
  | .array n e => .arr n e
  | .map k e => .map k e
  | .struct fs => .strct (fs.toList.map fun f => (f.offset, f.type, f.name == "_"))
  | _ => .other
structure TI where
  size : Nat
  bytes : Nat
  zero : Value
  d : D
  eqOk : Bool := false
abbrev Tab := TypeId → Option TI
structure TOkAt (P : Program) (t : TypeId) (i : TI) : Prop where
  info : ∃ ti, P.info? t = some ti ∧ ti.size = i.size ∧ ti.bytes = i.bytes ∧ ti.zero = some i.zero
  und : ∃ d, P.underlying t = some d ∧ dOf d = i.d
  eqs : i.eqOk = true → P.stoodInHeld t = false ∧ P.eqGuardType P.depth t = false
def TOk (P : Program) (T : Tab) : Prop := ∀ t i, T t = some i → TOkAt P t i
def D.agg : D → Bool
  | .strct _ => true
  | .arr _ _ => true
  | _ => false

/-! ### Small words -/
def undefA : AV := .tup []
def ofC (v : Value) : AV := bif plain v then .sc v else .junk
def ofV : Value → AV
  | .agg cs => .agg (cs.toList.map ofC)
  | .tuple vs => .tup (vs.toList.map ofC)
  | v => ofC v
abbrev Fr := Nat → AV
def upd (f : Fr) (t : Nat) (v : AV) : Fr := fun i => bif Nat.beq i t then v else f i
def updO (f : Fr) : Option Nat → AV → Fr
  | some t, v => upd f t v
  | none, _ => f
def ev (f : Fr) : Operand → AV
  | .tmp t => f t
  | .const v => ofV v
  | .global _ => .junk
  | .func g => .fn (.func g) []
def nth {α : Type} : List α → Nat → Option α
  | [], _ => none
  | x :: _, 0 => some x
  | _ :: xs, n + 1 => nth xs n
theorem nth_eq {α : Type} : ∀ (l : List α) (n : Nat), nth l n = l[n]?
  | [], _ => by simp [nth]
  | x :: _, 0 => by simp [nth]
  | _ :: xs, n + 1 => by simp [nth, nth_eq xs n]
def isC : AV → Bool
  | .junk => false
  | .agg _ => false
  | .tup _ => false
  | _ => true
def allC : List AV → Bool
  | [] => true
  | a :: as => bif isC a then allC as else false
def cellsOf : AV → Option (List AV)
  | .agg cs => some cs
  | .tup _ => none
  | .junk => none
  | a => some [a]
def optK {α : Type} (x : Option α) (K : α → Prop) : Prop :=
  match x with
  | some a => K a
  | none => False
theorem optK_intro {α : Type} {x : Option α} {K : α → Prop} {a : α} (h : x = some a) (k : K a) : optK x K := by rw [h]; exact k
theorem optK_elim {α : Type} {x : Option α} {K : α → Prop} (h : optK x K) : ∃ a, x = some a ∧ K a := by
  cases x with
  | none => exact h.elim
  | some a => exact ⟨a, rfl, h⟩
/-- Something that is owed on the way. -/
def Ob (c K : Prop) : Prop := c ∧ K
theorem Ob.intro {c K : Prop} (h : c) (k : K) : Ob c K := ⟨h, k⟩
/-- A way that hangs on a bool. -/
def If (b : Bool) (x y : Prop) : Prop := @Bool.rec (fun _ => Prop) y x b
/-- The same, for the hand that unfolds. -/
def Fork (b : Bool) (x y : Prop) : Prop := @Bool.rec (fun _ => Prop) y x b
theorem If.intro {b : Bool} {x y : Prop} (h : b = true → x) (k : b = false → y) : If b x y := by
  cases b
  · exact k rfl
  · exact h rfl
theorem fork {b : Bool} {x y : Prop} (h : b = true → x) (k : b = false → y) : Fork b x y := by
  cases b
  · exact k rfl
  · exact h rfl
theorem of_decide_eq_true {p : Prop} {inst : Decidable p} (h : @decide p inst = true) : p := @_root_.of_decide_eq_true p inst h
theorem of_decide_eq_false {p : Prop} {inst : Decidable p} (h : @decide p inst = false) : ¬ p := @_root_.of_decide_eq_false p inst h
theorem forkD {p : Prop} {inst : Decidable p} {x y : Prop} (h : p → x) (k : ¬ p → y) : Fork (@decide p inst) x y := fork (fun e => h (of_decide_eq_true e)) (fun e => k (of_decide_eq_false e))
def kEq : IntKind → IntKind → Bool
  | .i8, .i8 => true | .i16, .i16 => true | .i32, .i32 => true | .i64, .i64 => true
  | .u8, .u8 => true | .u16, .u16 => true | .u32, .u32 => true | .u64, .u64 => true
  | _, _ => false
theorem kEq_eq {a b : IntKind} (h : kEq a b = true) : a = b := by cases a <;> cases b <;> first | rfl | cases h
def setAll : List AV → Nat → List AV → List AV
  | cs, _, [] => cs
  | cs, off, a :: as => setAll (cs.set off a) (off + 1) as
def rd1 (H : Heap) (p off : Nat) : Option AV :=
  match nth H p with
  | some (.row cs) => nth cs off
  | _ => none
def rdN (H : Heap) (p off n : Nat) : Option (List AV) :=
  match nth H p with
  | some (.row cs) => bif Nat.ble (off + n) cs.length then some ((cs.drop off).take n) else none
  | _ => none
def wr (H : Heap) (p off : Nat) (l : List AV) : Option Heap :=
  match nth H p with
  | some (.row cs) => bif Nat.ble (off + l.length) cs.length then some (H.set p (.row (setAll cs off l))) else none
  | _ => none
def plainI : Value → Bool
  | .bool _ => true
  | .int _ _ => true
  | .float _ _ => true
  | .string _ => true
  | .pointer none => true
  | _ => false
theorem plainI_S {v : Value} (h : plainI v = true) : plainS v = true := by
  unfold plainI at h
  split at h <;> first | rfl | cases h
/-- A plain value, told as the model tells it. -/
def plainOf : AV → Option Value
  | .sc v => bif plainI v then some v else none
  | .agg cs => (go cs).map fun l => .agg l.toArray
  | _ => none
where go : List AV → Option (List Value)
  | [] => some []
  | .sc v :: as => bif plainI v then (go as).map (v :: ·) else none
  | _ => none

/-! ### Arithmetic and comparisons -/
def strEq (x y : ByteArray) : Bool := x.toList == y.toList
def strLt (x y : ByteArray) : Bool := Op.bytesLess x.toList y.toList
def fop : BinOp → FloatKind → Nat → Nat → Option (Option Nat)
  | .add, k, x, y => some (k.format.add x y)
  | .sub, k, x, y => some (k.format.sub x y)
  | .mul, k, x, y => some (k.format.mul x y)
  | .quo, k, x, y => some (k.format.div x y)
  | _, _, _, _ => none
noncomputable def ordr : FloatKind → Nat → Nat → Option Ordering := Classical.choose (⟨fun k x y => k.format.order x y, rfl⟩ : ∃ f : FloatKind → Nat → Nat → Option Ordering, f = fun k x y => k.format.order x y)
theorem ordr_eq (k : FloatKind) (x y : Nat) : ordr k x y = k.format.order x y := congrFun (congrFun (congrFun (Classical.choose_spec (⟨fun k x y => k.format.order x y, rfl⟩ : ∃ f : FloatKind → Nat → Nat → Option Ordering, f = fun k x y => k.format.order x y)) k) x) y
noncomputable def fcmp (k : FloatKind) (x y : Nat) : BinOp → Option Bool
  | .eql => some (ordr k x y == some .eq)
  | .neq => some (ordr k x y != some .eq)
  | .lss => some (ordr k x y == some .lt)
  | .leq => some (ordr k x y == some .lt || ordr k x y == some .eq)
  | .gtr => some (ordr k x y == some .gt)
  | .geq => some (ordr k x y == some .gt || ordr k x y == some .eq)
  | _ => none
def bitsOp (op : BinOp) (k : IntKind) (x y : Int) : Option Int :=
  match op with
  | .and => some (k.wrap (BitVec.ofInt k.bits x &&& BitVec.ofInt k.bits y).toNat)
  | .or => some (k.wrap (BitVec.ofInt k.bits x ||| BitVec.ofInt k.bits y).toNat)
  | .xor => some (k.wrap (BitVec.ofInt k.bits x ^^^ BitVec.ofInt k.bits y).toNat)
  | .andNot => some (k.wrap (BitVec.ofInt k.bits x &&& ~~~BitVec.ofInt k.bits y).toNat)
  | _ => none
def fcmpK (k : FloatKind) (x y : Nat) (op : BinOp) (K : AV → Prop) : Prop :=
  match fcmp k x y op with
  | some b => K (.sc (.bool b))
  | none => False
def nanCmp : BinOp → Option Bool
  | .eql => some false
  | .neq => some true
  | .lss => some false
  | .leq => some false
  | .gtr => some false
  | .geq => some false
  | _ => none
def eqlB (op : BinOp) (b : Bool) (K : AV → Prop) : Prop :=
  match op with
  | .eql => K (.sc (.bool b))
  | .neq => K (.sc (.bool (!b)))
  | _ => False
/-- What a kind of integers keeps of a number: a word that nothing unfolds by itself. -/
noncomputable def wrp : IntKind → Int → Int := Classical.choose (⟨IntKind.wrap, rfl⟩ : ∃ f : IntKind → Int → Int, f = IntKind.wrap)
theorem wrp_eq : wrp = IntKind.wrap := Classical.choose_spec (⟨IntKind.wrap, rfl⟩ : ∃ f : IntKind → Int → Int, f = IntKind.wrap)
noncomputable def hd : Int → Int := Classical.choose (⟨id, rfl⟩ : ∃ f : Int → Int, f = id)
theorem hd_eq (n : Int) : hd n = n := congrFun (Classical.choose_spec (⟨id, rfl⟩ : ∃ f : Int → Int, f = id)) n
/-- Which of two whole numbers is less, told so that it stands still quickly where one is not known. -/
def ltB : Int → Int → Bool
  | .ofNat a, .ofNat b => Nat.blt a b
  | .ofNat _, .negSucc _ => false
  | .negSucc _, .ofNat _ => true
  | .negSucc a, .negSucc b => Nat.blt b a
def leB : Int → Int → Bool
  | .ofNat a, .ofNat b => Nat.ble a b
  | .ofNat _, .negSucc _ => false
  | .negSucc _, .ofNat _ => true
  | .negSucc a, .negSucc b => Nat.ble b a
theorem ltB_iff : ∀ {x y : Int}, ltB x y = true ↔ x < y
  | .ofNat a, .ofNat b => by simp only [ltB, Nat.blt_eq]; exact Int.ofNat_lt.symm
  | .ofNat a, .negSucc b => ⟨fun h => (nomatch (show false = true from h)), fun h => absurd (Int.lt_trans (Int.negSucc_lt_zero b) (Int.lt_of_le_of_lt (Int.natCast_nonneg a) h)) (Int.lt_irrefl _)⟩
  | .negSucc a, .ofNat b => ⟨fun _ => Int.lt_of_lt_of_le (Int.negSucc_lt_zero a) (Int.natCast_nonneg b), fun _ => rfl⟩
  | .negSucc a, .negSucc b => by simp only [ltB, Nat.blt_eq]; constructor <;> intro h <;> omega
theorem leB_iff : ∀ {x y : Int}, leB x y = true ↔ x ≤ y
  | .ofNat a, .ofNat b => by simp only [leB, Nat.ble_eq]; exact Int.ofNat_le.symm
  | .ofNat a, .negSucc b => ⟨fun h => (nomatch (show false = true from h)), fun h => absurd (Int.lt_of_le_of_lt (Int.le_trans (Int.natCast_nonneg a) h) (Int.negSucc_lt_zero b)) (Int.lt_irrefl _)⟩
  | .negSucc a, .ofNat b => ⟨fun _ => Int.le_of_lt (Int.lt_of_lt_of_le (Int.negSucc_lt_zero a) (Int.natCast_nonneg b)), fun _ => rfl⟩
  | .negSucc a, .negSucc b => by simp only [leB, Nat.ble_eq]; constructor <;> intro h <;> omega
noncomputable def decB {p : Prop} (b : Bool) : (b = true ↔ p) → Decidable p :=
  @Bool.rec (fun b => (b = true ↔ p) → Decidable p) (fun h => isFalse fun hp => Bool.noConfusion (h.2 hp)) (fun h => isTrue (h.1 rfl)) b
noncomputable def ltD (x y : Int) : Decidable (x < y) := decB (ltB x y) ltB_iff
noncomputable def leD (x y : Int) : Decidable (x ≤ y) := decB (leB x y) leB_iff
theorem ltD_eq (x y : Int) : @decide (x < y) (ltD x y) = decide (x < y) := by congr
theorem leD_eq (x y : Int) : @decide (x ≤ y) (leD x y) = decide (x ≤ y) := by congr
theorem gtD_eq (x y : Int) : @decide (x > y) (ltD y x) = decide (x > y) := by congr
theorem geD_eq (x y : Int) : @decide (x ≥ y) (leD y x) = decide (x ≥ y) := by congr
def binI (op : BinOp) (k k' : IntKind) (x y : Int) (K : AV → Prop) : Prop :=
  match op with
  | .shl => Ob (0 ≤ y) (K (.sc (.int k (wrp k (x * 2 ^ min y.toNat k.bits)))))
  | .shr => Ob (0 ≤ y) (K (.sc (.int k (hd (x.fdiv (2 ^ min y.toNat k.bits))))))
  | op => bif kEq k k' then
      match op with
      | .add => K (.sc (.int k (wrp k (x + y))))
      | .sub => K (.sc (.int k (wrp k (x - y))))
      | .mul => K (.sc (.int k (wrp k (x * y))))
      | .quo => Ob (y ≠ 0) (K (.sc (.int k (wrp k (x.tdiv y)))))
      | .rem => Ob (y ≠ 0) (K (.sc (.int k (hd (x.tmod y)))))
      | .eql => K (.sc (.bool (x == y)))
      | .neq => K (.sc (.bool (x != y)))
      | .lss => K (.sc (.bool (@decide (x < y) (ltD x y))))
      | .leq => K (.sc (.bool (@decide (x ≤ y) (leD x y))))
      | .gtr => K (.sc (.bool (@decide (x > y) (ltD y x))))
      | .geq => K (.sc (.bool (@decide (x ≥ y) (leD y x))))
      | .and => K (.sc (.int k (wrp k (BitVec.ofInt k.bits x &&& BitVec.ofInt k.bits y).toNat)))
      | .or => K (.sc (.int k (wrp k (BitVec.ofInt k.bits x ||| BitVec.ofInt k.bits y).toNat)))
      | .xor => K (.sc (.int k (wrp k (BitVec.ofInt k.bits x ^^^ BitVec.ofInt k.bits y).toNat)))
      | .andNot => K (.sc (.int k (wrp k (BitVec.ofInt k.bits x &&& ~~~BitVec.ofInt k.bits y).toNat)))
      | _ => False
    else False
def binStr (op : BinOp) (x y : ByteArray) (K : AV → Prop) : Prop :=
  match op with
  | .add => Ob (x.size + y.size ≤ 9223372036854775807) (K (.sc (.string (x ++ y))))
  | .eql => K (.sc (.bool (strEq x y)))
  | .neq => K (.sc (.bool (!strEq x y)))
  | .lss => K (.sc (.bool (strLt x y)))
  | .leq => K (.sc (.bool (strLt x y || strEq x y)))
  | .gtr => K (.sc (.bool (!(strLt x y || strEq x y))))
  | .geq => K (.sc (.bool (!strLt x y)))
  | _ => False
/-- Equal values of a type, part by part. -/
def eqT (T : Tab) : Nat → TypeId → AV → AV → Option Bool
  | 0, _, _, _ => none
  | n + 1, t, a, b =>
    match T t with
    | none => none
    | some i =>
      match i.d, a, b with
      | .bool, .sc (.bool x), .sc (.bool y) => some (x == y)
      | .int _, .sc (.int k x), .sc (.int k' y) => bif kEq k k' then some (x == y) else none
      | .str, .sc (.string x), .sc (.string y) => some (x == y)
      | .strct fs, .agg xs, .agg ys => bif i.eqOk then fields n fs xs ys else none
      | _, _, _ => none
where fields (n : Nat) : List (Nat × TypeId × Bool) → List AV → List AV → Option Bool
  | [], _, _ => some true
  | (off, t, blank) :: fs, xs, ys =>
    match blank with
    | true => fields n fs xs ys
    | false =>
      match T t with
      | none => none
      | some i =>
        match (bif i.d.agg then some (AV.agg ((xs.drop off).take i.size)) else nth xs off), (bif i.d.agg then some (AV.agg ((ys.drop off).take i.size)) else nth ys off) with
        | some x, some y =>
          match eqT T n t x y, fields n fs xs ys with
          | some p, some q => some (p && q)
          | _, _ => none
        | _, _ => none
def isNilConst : Operand → Bool
  | .const .nilIface => true
  | _ => false
def binA (T : Tab) (op : BinOp) (t : TypeId) (ox oy : Operand) (a b : AV) (K : AV → Prop) : Prop :=
  match a, b with
  | .sc (.int k x), .sc (.int k' y) => binI op k k' x y K
  | .sc (.string x), .sc (.string y) => binStr op x y K
  | .sc (.float k x), .sc (.float k' y) =>
    match k, k' with
    | .f64, .f64 =>
      match fop op .f64 x y with
      | some (some r) => K (.sc (.float .f64 r))
      | some none => K (.nan .f64)
      | none => fcmpK .f64 x y op K
    | _, _ => False
  | .nan .f64, .sc (.float .f64 y) =>
    match nanCmp op, fop op .f64 0 0 with
    | some b, _ => K (.sc (.bool b))
    | none, some _ => K (.nan .f64)
    | _, _ => False
  | .sc (.float .f64 x), .nan .f64 =>
    match nanCmp op, fop op .f64 0 0 with
    | some b, _ => K (.sc (.bool b))
    | none, some _ => K (.nan .f64)
    | _, _ => False
  | .nan .f64, .nan .f64 =>
    match nanCmp op, fop op .f64 0 0 with
    | some b, _ => K (.sc (.bool b))
    | none, some _ => K (.nan .f64)
    | _, _ => False
  | .sc (.bool x), .sc (.bool y) =>
    match T t with
    | some { d := .bool, .. } => eqlB op (x == y) K
    | _ => False
  | .sc (.pointer none), .sc (.pointer none) =>
    match T t with
    | some { d := .ptr _, .. } => eqlB op true K
    | _ => False
  | .ptr _ _, .sc (.pointer none) =>
    match T t with
    | some { d := .ptr _, .. } => eqlB op false K
    | _ => False
  | .sc (.pointer none), .ptr _ _ =>
    match T t with
    | some { d := .ptr _, .. } => eqlB op false K
    | _ => False
  | .sc .nilIface, .sc .nilIface =>
    match T t with
    | some { d := .iface, .. } => bif isNilConst ox || isNilConst oy then eqlB op true K else False
    | _ => False
  | .sc (.iface _ _), .sc .nilIface =>
    match T t with
    | some { d := .iface, .. } => eqlB op false K
    | _ => False
  | .agg xs, .agg ys =>
    match eqT T 8 t (.agg xs) (.agg ys) with
    | some b => eqlB op b K
    | none => False
  | _, _ => False
def unA (op : UnOp) (a : AV) (K : AV → Prop) : Prop :=
  match op, a with
  | .not, .sc (.bool b) => K (.sc (.bool (!b)))
  | .neg, .sc (.int k n) => K (.sc (.int k (wrp k (0 - n))))
  | .xor, .sc (.int k n) => K (.sc (.int k (wrp k (BitVec.ofInt k.bits (if k.signed then -1 else k.max) ^^^ BitVec.ofInt k.bits n).toNat)))
  | .neg, .sc (.float k b) => K (.sc (.float k (Op.negFloat k b)))
  | .neg, .nan .f64 => K (.nan .f64)
  | _, _ => False

/-! ### Slices -/
/-- The byte cells of a text. -/
def bytesA (s : ByteArray) : List AV := s.data.toList.map fun b => .sc (.int .u8 b.toNat)
/-- The text of byte cells. -/
def textA : List AV → Option (List UInt8)
  | [] => some []
  | .sc (.int .u8 n) :: cs => (textA cs).map (UInt8.ofNat n.toNat :: ·)
  | _ => none
def zerosA (z : Value) (n : Nat) : List AV := (List.replicate n (z.cells.toList.map ofC)).flatten
/-- Is this type's zero value told whole? -/
def zeroOk (z : Value) : Bool := allC (z.cells.toList.map ofC)
/-- The first n elements' cells of what is appended, or copied. -/
def srcA (H : Heap) (sz : Nat) : AV → Option (List AV)
  | .sc (.string s) => bif Nat.beq sz 1 then some (bytesA s) else none
  | .sc (.slice none 0 0) => some []
  | .view len cells => bif Nat.beq cells.length (len * sz) then some cells else none
  | .slc p off len sz' => bif Nat.beq sz sz' then rdN H p off (len * sz) else none
  | _ => none
def isStr : AV → Bool
  | .sc (.string _) => true
  | _ => false
def fillA (place : Nat → Option (Nat × Nat)) (cs : List AV) : List (Nat × AV) → Option (List AV)
  | [] => some cs
  | (i, a) :: rest =>
    match place i, cellsOf a with
    | some (off, size), some l => bif Nat.beq l.length size then (bif Nat.ble (off + size) cs.length then (bif allC l then fillA place (setAll cs off l) rest else none) else none) else none
    | _, _ => none
def placesA (T : Tab) : List (Nat × TypeId × Bool) → Option (List (Nat × Nat))
  | [] => some []
  | (off, t, _) :: fs =>
    match T t, placesA T fs with
    | some i, some r => some ((off, i.size) :: r)
    | _, _ => none
def intOf : AV → Option Int
  | .sc (.int _ n) => some n
  | _ => none
def intO : Option AV → Int → Option Int
  | none, d => some d
  | some a, _ => intOf a

/-! ### Operations that call nothing -/
/-- The whole number that a word tells, cut off: a word that nothing unfolds by itself. -/
noncomputable def toI : Nat → Option Int := Classical.choose (⟨fun b => (FloatKind.f64.decode b).toInt .zero, rfl⟩ : ∃ f : Nat → Option Int, f = fun b => (FloatKind.f64.decode b).toInt .zero)
theorem toI_eq (b : Nat) : toI b = (FloatKind.f64.decode b).toInt .zero := congrFun (Classical.choose_spec (⟨fun b => (FloatKind.f64.decode b).toInt .zero, rfl⟩ : ∃ f : Nat → Option Int, f = fun b => (FloatKind.f64.decode b).toInt .zero)) b
def convA (T : Tab) (src dst : TypeId) (a : AV) (K : AV → Prop) : Prop :=
  match T src, T dst, a with
  | some _, some { d := .int k, .. }, .sc (.int _ n) => K (.sc (.int k (wrp k n)))
  | some _, some { d := .float .f64, .. }, .sc (.int _ n) => K (.sc (.float .f64 (FloatKind.f64.nearest n)))
  | some _, some { d := .str, .. }, .sc (.string s) => K (.sc (.string s))
  | some { d := .float .f64, .. }, some { d := .float .f64, .. }, .sc (.float .f64 b) => K (.sc (.float .f64 b))
  | some { d := .float .f64, .. }, some { d := .int k, .. }, .sc (.float .f64 b) => optK (toI b) fun n => Ob (k.min ≤ n ∧ n ≤ k.max) (K (.sc (.int k n)))
  | _, _, _ => False
def sliceA (T : Tab) (H : Heap) (t : TypeId) (a : AV) (lo hi mx : Option AV) (K : AV → Prop) : Prop :=
  match a with
  | .sc (.string s) =>
    match mx, intO lo 0, intO hi s.size, T t with
    | none, some l, some h, some { d := .str, .. } => Ob (0 ≤ l ∧ l ≤ h ∧ h ≤ s.size) (K (.sc (.string (s.extract l.toNat h.toNat))))
    | _, _, _, _ => False
  | .view len cells =>
    match T t with
    | some { d := .slice e, .. } =>
      match T e, mx, intO lo 0, intO hi len with
      | some i, none, some l, some h => Ob (0 ≤ l ∧ l ≤ h ∧ h ≤ len) (K (.view (h.toNat - l.toNat) ((cells.drop (l.toNat * i.size)).take ((h.toNat - l.toNat) * i.size))))
      | some i, some m, l, some h => match intOf m with
        | some m => bif (lo.isNone && hi.isSome && h == 0 && m == 0) then K (.sc (.slice none 0 0)) else False
        | none => False
      | _, _, _, _ => False
    | _ => False
  | .slc p off len sz =>
    match T t with
    | some { d := .slice e, .. } =>
      match T e, mx, intO lo 0, intO hi len with
      | some i, none, some l, some h => bif Nat.beq i.size sz then Ob (0 ≤ l ∧ l ≤ h ∧ h ≤ len) (K (.slc p (off + l.toNat * sz) (h.toNat - l.toNat) sz)) else False
      | some i, some m, l, some h => match intOf m with
        | some m => bif (lo.isNone && hi.isSome && h == 0 && m == 0) then K (.sc (.slice none 0 0)) else False
        | none => False
      | _, _, _, _ => False
    | _ => False
  | .sc (.slice none 0 0) =>
    match T t with
    | some { d := .slice e, .. } =>
      match T e, intO lo 0, intO hi 0 with
      | some _, some l, some h => Ob (l = 0 ∧ h = 0 ∧ mx = none) (K (.sc (.slice none 0 0)))
      | _, _, _ => False
    | _ => False
  | .ptr p off =>
    match T t with
    | some { d := .arr n e, .. } =>
      match T e, mx, intO lo 0, intO hi n with
      | some i, none, some l, some h =>
        match nth H p with
        | some (.row cs) => bif Nat.ble (off + n * i.size) cs.length && Nat.ble 1 cs.length then Ob (0 ≤ l ∧ l ≤ h ∧ h ≤ n) (K (.slc p (off + l.toNat * i.size) (h.toNat - l.toNat) i.size)) else False
        | _ => False
      | _, _, _, _ => False
    | _ => False
  | _ => False
def indexAddrA (T : Tab) (t : TypeId) (a ix : AV) (K : AV → Prop) : Prop :=
  match T t, intOf ix with
  | some ti, some i =>
    match ti.d, a with
    | .slice e, .slc p off len sz =>
      match T e with
      | some j => bif Nat.beq j.size sz then Ob (0 ≤ i ∧ i < len) (K (.ptr p (off + i.toNat * sz))) else False
      | none => False
    | .slice e, .view len cells =>
      match T e with
      | some j => Ob (0 ≤ i ∧ i < len) (K (.vp (cells.drop (i.toNat * j.size))))
      | none => False
    | .arr n e, .ptr p off =>
      match T e with
      | some j => Ob (0 ≤ i ∧ i < n) (K (.ptr p (off + i.toNat * j.size)))
      | none => False
    | _, _ => False
  | _, _ => False
def lenOf (T : Tab) (H : Heap) (t : TypeId) (a : AV) (K : AV → Prop) : Prop :=
  match T t with
  | some i =>
    match i.d, a with
    | .str, .sc (.string s) => K (.sc (.int .i64 s.size))
    | .slice _, .sc (.slice none 0 0) => K (.sc (.int .i64 0))
    | .slice _, .view len _ => K (.sc (.int .i64 len))
    | .slice _, .slc _ _ len _ => K (.sc (.int .i64 len))
    | .map _ _, .mapr p =>
      match nth H p with
      | some (.mp es) => K (.sc (.int .i64 es.length))
      | _ => False
    | _, _ => False
  | none => False
def most (f : Int → Int → Int) (g : Operand → AV) (l : List Operand) (K : AV → Prop) : Prop :=
  match l with
  | [x, y] =>
    match g x, g y with
    | .sc (.int k a), .sc (.int _ b) => K (.sc (.int k (f a b)))
    | _, _ => False
  | _ => False
def lenA (T : Tab) (H : Heap) (g : Operand → AV) (c : Call) (K : AV → Prop) : Prop :=
  match c.callee with
  | .builtin .len =>
    match c.argTypes.toList, c.args.toList with
    | [t], [x] => lenOf T H t (g x) K
    | _, _ => False
  | .builtin .max => most (fun a b => if b > a then b else a) g c.args.toList K
  | .builtin .min => most (fun a b => if b < a then b else a) g c.args.toList K
  | _ => False
def aopQ (T : Tab) (o : Oper) (f : Fr) (H : Heap) (n : Nat) (N : AObj → Heap) (K : AV → Heap → Prop) : Prop :=
  match o.op with
  | .move x => K (ev f x) H
  | .assign x => K (ev f x) H
  | .pick c a b =>
    match ev f c with
    | .sc (.bool t) => If t (K (ev f a) H) (K (ev f b) H)
    | _ => False
  | .alloc t =>
    match T t with
    | some i => bif zeroOk i.zero then K (.ptr n 0) (N (.row (i.zero.cells.toList.map ofC))) else False
    | none => False
  | .box _ x =>
    match cellsOf (ev f x) with
    | some cs => bif allC cs then K (.ptr n 0) (N (.row cs)) else False
    | none => False
  | .build t parts =>
    match T t with
    | some i =>
      match i.d with
      | .strct fs =>
        match placesA T fs with
        | some pl => optK (fillA (nth pl) (i.zero.cells.toList.map ofC) (parts.toList.map fun p => (p.1, ev f p.2))) fun cs => K (.agg cs) H
        | none => False
      | .arr _ e =>
        match T e with
        | some j => optK (fillA (fun q => some (q * j.size, j.size)) (i.zero.cells.toList.map ofC) (parts.toList.map fun p => (p.1, ev f p.2))) fun cs => K (.agg cs) H
        | none => False
      | _ => False
    | none => False
  | .buildSlice t len parts =>
    match T t with
    | some { d := .slice e, .. } =>
      match T e with
      | some j => bif Nat.ble (len * j.size) 16777216 && Nat.beq j.zero.cells.size j.size then optK (fillA (fun q => some (q * j.size, j.size)) (zerosA j.zero len) (parts.toList.map fun p => (p.1, ev f p.2))) fun cs =>
          bif allC cs then K (.slc n 0 len j.size) (N (.row cs)) else False else False
      | none => False
    | _ => False
  | .load t a =>
    match T t with
    | some i =>
      match ev f a with
      | .ptr p off => If i.d.agg (optK (rdN H p off i.size) fun cs => K (.agg cs) H) (optK (rd1 H p off) fun c => K c H)
      | .vp cells => If i.d.agg (Ob (i.size ≤ cells.length) (K (.agg (cells.take i.size)) H)) (optK (nth cells 0) fun c => K c H)
      | _ => False
    | none => False
  | .nilCheck x =>
    match ev f x with
    | .ptr p off => K (.ptr p off) H
    | .vp cells => K (.vp cells) H
    | .fn (.func g) caps => K (.fn (.func g) caps) H
    | _ => False
  | .binOp op t x y _ => binA T op t x y (ev f x) (ev f y) fun a => K a H
  | .unOp op _ x => unA op (ev f x) fun a => K a H
  | .convert src dst x =>
    match T src, T dst, ev f x with
    | some { d := .slice e, .. }, some { d := .str, .. }, a =>
      match T e with
      | some { d := .int .u8, size := 1, .. } => bif isStr a then False else optK (srcA H 1 a) fun cs => optK (textA cs) fun l => K (.sc (.string ⟨l.toArray⟩)) H
      | _ => False
    | some _, some { d := .slice e, .. }, .sc (.string s) =>
      match T e with
      | some { d := .int .u8, size := 1, .. } => K (.view s.size (bytesA s)) H
      | _ => False
    | _, _, a => convA T src dst a fun b => K b H
  | .makeInterface t x =>
    match T t with
    | some { d := .iface, .. } => False
    | some _ => optK (plainOf (ev f x)) fun v => K (.sc (.iface t v)) H
    | none => False
  | .makeFunc fn first captured =>
    match first.toList with
    | [] => K (.fn fn (captured.toList.map (ev f))) H
    | _ => False
  | .makeMap t r =>
    match r with
    | none => K (.mapr n) (N (.mp []))
    | some _ => False
  | .makeSlice t l c =>
    match T t with
    | some { d := .slice e, .. } =>
      match T e, intOf (ev f l), intOf (ev f c) with
      | some j, some l, some m => bif Nat.beq j.zero.cells.size j.size && zeroOk j.zero then Ob (0 ≤ l ∧ l ≤ m ∧ m ≤ 140737488355328 ∧ j.bytes * m ≤ 140737488355328) (K (.slc n 0 l.toNat j.size) (N (.row (zerosA j.zero l.toNat)))) else False
      | _, _, _ => False
    | _ => False
  | .slice t x lo hi mx => sliceA T H t (ev f x) (lo.map (ev f)) (hi.map (ev f)) (mx.map (ev f)) fun a => K a H
  | .fieldAddr s x m =>
    match T s with
    | some { d := .strct fs, .. } =>
      match nth fs m with
      | some (off, t, _) =>
        match T t with
        | some i => bif Nat.beq i.size 0 then False else
          match ev f x with
          | .ptr p o => K (.ptr p (o + off)) H
          | .vp cells => K (.vp (cells.drop off)) H
          | _ => False
        | none => False
      | none => False
    | _ => False
  | .field s x m =>
    match T s with
    | some { d := .strct fs, .. } =>
      match nth fs m, ev f x with
      | some (off, t, _), .agg cs =>
        match T t with
        | some i => If i.d.agg (K (.agg ((cs.drop off).take i.size)) H) (optK (nth cs off) fun c => K c H)
        | none => False
      | _, _ => False
    | _ => False
  | .indexAddr t x ix => indexAddrA T t (ev f x) (ev f ix) fun a => K a H
  | .index t x ix =>
    match T t, intOf (ev f ix) with
    | some ti, some i =>
      match ti.d, ev f x with
      | .str, .sc (.string s) => Ob (0 ≤ i ∧ i < s.size) (K (.sc (.int .u8 ((s.data.toList.getD i.toNat 0).toNat : Nat))) H)
      | .arr m e, .agg cs =>
        match T e with
        | some j => Ob (0 ≤ i ∧ i < m) (If j.d.agg (K (.agg ((cs.drop (i.toNat * j.size)).take j.size)) H) (optK (nth cs (i.toNat * j.size)) fun c => K c H))
        | none => False
      | _, _ => False
    | _, _ => False
  | .typeAssert x _ t ok =>
    match T t with
    | some { d := .iface, .. } => False
    | some i =>
      match ev f x with
      | .sc (.iface u v) => bif Nat.beq u t then K (bif ok then .tup [ofV v, .sc (.bool true)] else ofV v) H else (bif ok then K (.tup [ofV i.zero, .sc (.bool false)]) H else False)
      | .sc .nilIface => bif ok then K (.tup [ofV i.zero, .sc (.bool false)]) H else False
      | _ => False
    | none => False
  | .extract t m =>
    match ev f t with
    | .tup vs => optK (nth vs m) fun a => K a H
    | _ => False
  | .call c => lenA T H (ev f) c fun a => K a H
  | _ => False

end Go.Proofs.Ytpjjfcgmckpboaa.A
